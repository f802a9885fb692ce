/- One token of the document's (reverieref01.One) is a step of the plain function. -/
import Derived.Test.YtincigcoagcgaaaDoorRefLex2
namespace Go.Proofs.YtincigcoagcgaaaDoor.Pr
set_option linter.unusedVariables false
set_option linter.unusedSimpArgs false
open Go.RowKit Go.Proofs.YtincigcoagcgaaaDoorW.PrintWords Go.Proofs.YtincigcoagcgaaaDoorW.PrintLast Go.Proofs.YtincigcoagcgaaaDoorW.PrintMore

def OneR (xs : List Int) (at_ : Nat) (o : Option (Int × Int × ByteArray × Int × Bool)) : Step → Prop
  | .skip _ => False
  | .tok kd n => at_ + n ≤ xs.length ∧ o = some (kd, (at_ : Int), strOfNums ((xs.drop at_).take n), 0, true)
  | .num n => at_ + n ≤ xs.length ∧ (numBad (xs.drop at_) n = true → ∃ a b c d, o = some (a, b, c, d, false)) ∧ (numBad (xs.drop at_) n = false → o = some (2, (at_ : Int), strOfNums ((xs.drop at_).take n), numVal ((xs.drop at_).take n), true))
  | .bad => ∃ a b c d, o = some (a, b, c, d, false)

theorem ext_at {xs : List Int} (hl : xs.length ≤ 4096) (at_ n : Nat) (h : at_ + n ≤ xs.length) : (strOfNums xs).extract ((at_ : Int)).toNat (wrap64 ((at_ : Int) + ((n : Nat) : Int))).toNat = strOfNums ((xs.drop at_).take n) := by
  rw [w64 (by omega) (by omega)]
  exact ext_str' xs _ _ at_ n h rfl (by omega)

theorem j1_false {xs : List Int} (hx : Bytes xs) (hl : xs.length ≤ 4096) (at_ : Nat) (hlt : at_ < xs.length) (k : Nat) (hk : 4400 < k) :
    OneR xs at_ (reverieref01_One.j1 k (strOfNums xs) at_ (rd xs at_) false 0 at_ (strOfNums ((xs.drop at_).take 1)) 0)
      (if isLower (rd xs at_) = true then .tok 3 (lead isWithin (xs.drop at_)) else if isUpper (rd xs at_) = true then .tok 4 (lead isWithin (xs.drop at_)) else if isSym (rd xs at_) = true then .tok 5 1 else .bad) := by
  obtain ⟨k, rfl⟩ : ∃ m, k = m + 1 := ⟨k - 1, by omega⟩
  have hbc := hx _ (rd_mem hlt)
  have hle := lead_le isWithin (xs.drop at_)
  rw [List.length_drop] at hle
  have htk := take_f hx hl setInside (by decide) isWithin (fun c h => in_inside h) at_ k (by omega) (by omega)
  rw [show setInside = (⟨#[97, 98, 99, 100, 101, 102, 103, 104, 105, 106, 107, 108, 109, 110, 111, 112, 113, 114, 115, 116, 117, 118, 119, 120, 121, 122, 65, 66, 67, 68, 69, 70, 71, 72, 73, 74, 75, 76, 77, 78, 79, 80, 81, 82, 83, 84, 85, 86, 87, 88, 89, 90, 48, 49, 50, 51, 52, 53, 54, 55, 56, 57, 39]⟩ : ByteArray) from rfl] at htk
  have hext := ext_at hl at_ (lead isWithin (xs.drop at_)) (by omega)
  have hw : wrap64 ((at_ : Int) + ((lead isWithin (xs.drop at_) : Nat) : Int)) = ((at_ + lead isWithin (xs.drop at_) : Nat) : Int) := by rw [w64 (by omega) (by omega)]; omega
  simp only [reverieref01_One.j1]
  rw [if_neg (by decide), in_f _ (by decide) _ k (by show 26 < k; omega), Option.bind_some, show inb (⟨#[97, 98, 99, 100, 101, 102, 103, 104, 105, 106, 107, 108, 109, 110, 111, 112, 113, 114, 115, 116, 117, 118, 119, 120, 121, 122]⟩ : ByteArray) (rd xs at_) = isLower (rd xs at_) from in_small hbc]
  cases hlo : isLower (rd xs at_) with
  | true =>
    rw [if_pos rfl, if_pos rfl, htk, Option.bind_some, if_pos (by omega), if_pos (by rw [hw]; omega), if_pos (by rw [hw, size_str]; omega)]
    refine ⟨by omega, ?_⟩
    exact congrArg some (congrArg _ (congrArg _ (congrArg (fun y => (y, (0 : Int), true)) hext)))
  | false =>
    rw [if_neg (by decide), if_neg (by decide), in_f _ (by decide) _ k (by show 26 < k; omega), Option.bind_some, show inb (⟨#[65, 66, 67, 68, 69, 70, 71, 72, 73, 74, 75, 76, 77, 78, 79, 80, 81, 82, 83, 84, 85, 86, 87, 88, 89, 90]⟩ : ByteArray) (rd xs at_) = isUpper (rd xs at_) from in_great hbc]
    cases hup : isUpper (rd xs at_) with
    | true =>
      rw [if_pos rfl, if_pos rfl, htk, Option.bind_some, if_pos (by omega), if_pos (by rw [hw]; omega), if_pos (by rw [hw, size_str]; omega)]
      refine ⟨by omega, ?_⟩
      exact congrArg some (congrArg _ (congrArg _ (congrArg (fun y => (y, (0 : Int), true)) hext)))
    | false =>
      rw [if_neg (by decide), if_neg (by decide), in_f _ (by decide) _ k (by show 8 < k; omega), Option.bind_some, show inb (⟨#[95, 43, 45, 42, 47, 37, 61, 60]⟩ : ByteArray) (rd xs at_) = isSym (rd xs at_) from in_sym hbc]
      cases hsy : isSym (rd xs at_) with
      | true => rw [if_pos rfl, if_pos rfl]; exact ⟨by omega, rfl⟩
      | false => rw [if_neg (by decide), if_neg (by decide)]; exact ⟨_, _, _, _, rfl⟩

theorem numVal_neg {xs : List Int} {at_ n : Nat} (hlt : at_ < xs.length) (h : rd xs at_ = 45) : numVal ((xs.drop at_).take (1 + n)) = -digitsVal ((xs.drop (at_ + 1)).take n) := by
  rw [drop_cons' hlt, Nat.add_comm 1 n, List.take_succ_cons]
  unfold numVal
  rw [if_pos (show (rd (rd xs at_ :: _) 0 == 45) = true from by rw [show rd (rd xs at_ :: (xs.drop (at_ + 1)).take n) 0 = rd xs at_ from rfl, h]; rfl)]
  rfl

theorem numVal_pos {xs : List Int} {at_ n : Nat} (hlt : at_ < xs.length) (h : rd xs at_ ≠ 45) : numVal ((xs.drop at_).take (n + 1)) = digitsVal ((xs.drop at_).take (n + 1)) := by
  rw [drop_cons' hlt, List.take_succ_cons]
  unfold numVal
  rw [if_neg (show ¬(rd (rd xs at_ :: _) 0 == 45) = true from by rw [show rd (rd xs at_ :: (xs.drop (at_ + 1)).take n) 0 = rd xs at_ from rfl]; simpa using h)]

theorem rd_drop0 {xs : List Int} {at_ : Nat} (hlt : at_ < xs.length) : rd (xs.drop at_) 0 = rd xs at_ := by
  rw [drop_cons' hlt]; rfl

theorem j1_true {xs : List Int} (hx : Bytes xs) (hl : xs.length ≤ 4096) (at_ : Nat) (hlt : at_ < xs.length) (hc : isDigit (rd xs at_) = true ∨ rd xs at_ = 45) (a b : Int) (s : ByteArray) (v : Int) (k : Nat) (hk : 5010 < k) :
    OneR xs at_ (reverieref01_One.j1 k (strOfNums xs) at_ (rd xs at_) true a b s v) (.num (1 + lead isDigit (xs.drop (at_ + 1)))) := by
  obtain ⟨k, rfl⟩ : ∃ m, k = m + 1 := ⟨k - 1, by omega⟩
  have hle := lead_le isDigit (xs.drop (at_ + 1))
  rw [List.length_drop] at hle
  generalize hn : lead isDigit (xs.drop (at_ + 1)) = n at *
  have hx7 : ∃ x7 : Nat, (x7 = 1 ∧ rd xs at_ = 45) ∨ (x7 = 0 ∧ rd xs at_ ≠ 45) := by
    by_cases h : rd xs at_ = 45
    · exact ⟨1, .inl ⟨rfl, h⟩⟩
    · exact ⟨0, .inr ⟨rfl, h⟩⟩
  obtain ⟨x7, h7⟩ := hx7
  have hnum := number_f hx hl at_ x7 hlt h7 k (by omega)
  have hld : x7 + lead isDigit (xs.drop (at_ + x7)) = 1 + n := by
    rcases h7 with ⟨rfl, h45⟩ | ⟨rfl, h45⟩
    · rw [hn]
    · rw [Nat.add_zero, drop_cons' hlt, lead, hn, if_pos (hc.resolve_right h45)]; omega
  have hbad : (18 < lead isDigit (xs.drop (at_ + x7)) ∨ (at_ + x7 + lead isDigit (xs.drop (at_ + x7)) < xs.length ∧ isWithin (rd xs ((at_ + x7 + lead isDigit (xs.drop (at_ + x7)) : Nat) : Int)) = true)) ↔ numBad (xs.drop at_) (1 + n) = true := by
    unfold numBad
    rw [show at_ + x7 + lead isDigit (xs.drop (at_ + x7)) = at_ + (1 + n) from by omega, rd_drop0 hlt, rd_drop' _ _ _ (by omega), List.length_drop, show (at_ : Int) + ((1 + n : Nat) : Int) = ((at_ + (1 + n) : Nat) : Int) from by omega]
    have e1 : (at_ + (1 + n) < xs.length) = (1 + n < xs.length - at_) := by apply propext; omega
    rw [e1]
    generalize lead isDigit (xs.drop (at_ + x7)) = m at hld ⊢
    generalize isWithin _ = bw
    rcases h7 with ⟨rfl, h45⟩ | ⟨rfl, h45⟩
    · rw [h45]
      cases bw <;> simp <;> omega
    · have : (rd xs at_ != 45) = true := by simpa using h45
      rw [this]
      cases bw <;> simp <;> omega
  have hval : (if x7 = 1 then -digitsVal ((xs.drop (at_ + x7)).take (lead isDigit (xs.drop (at_ + x7)))) else digitsVal ((xs.drop (at_ + x7)).take (lead isDigit (xs.drop (at_ + x7))))) = numVal ((xs.drop at_).take (1 + n)) := by
    rcases h7 with ⟨rfl, h45⟩ | ⟨rfl, h45⟩
    · rw [if_pos rfl, hn, numVal_neg hlt h45]
    · rw [if_neg (by decide), show lead isDigit (xs.drop (at_ + 0)) = n + 1 from by omega, Nat.add_comm 1 n, numVal_pos hlt h45]; rfl
  rw [hval, hld] at hnum
  clear hval
  have hext := ext_at hl at_ (1 + n) (by omega)
  have hw : wrap64 ((at_ : Int) + ((1 + n : Nat) : Int)) = ((at_ + (1 + n) : Nat) : Int) := by rw [w64 (by omega) (by omega)]; omega
  simp only [reverieref01_One.j1]
  rw [if_pos trivial, hnum, Option.bind_some]
  refine ⟨by omega, fun hb => ?_, fun hb => ?_⟩
  · rw [if_pos (hbad.2 hb)]
    simp only
    rw [if_pos (by omega), if_pos (by rw [w64 (by omega) (by omega)]; omega), if_pos (by rw [w64 (by omega) (by omega), size_str]; omega)]
    exact ⟨_, _, _, _, rfl⟩
  · rw [if_neg (mt hbad.1 (by rw [hb]; decide))]
    simp only
    rw [if_pos (by omega), if_pos (by rw [hw]; omega), if_pos (by rw [hw, size_str]; omega), hext]

theorem one_f {xs : List Int} (hx : Bytes xs) (hl : xs.length ≤ 4096) (at_ : Nat) (hlt : at_ < xs.length) (hb : isBlank (rd xs at_) = false) (h59 : (rd xs at_ == 59) = false) (k : Nat) (hk : 5100 < k) :
    OneR xs at_ (reverieref01_One.f k (strOfNums xs) at_) (lexStep (xs.drop at_)) := by
  have hbc := hx _ (rd_mem hlt)
  have hlen : (xs.drop (at_ + 1)).length = xs.length - (at_ + 1) := List.length_drop
  have hr0 : rd (xs.drop (at_ + 1)) 0 = rd xs ((at_ + 1 : Nat) : Int) := by
    rw [rd_drop' _ _ _ (by omega)]; congr 1
  have ext1 := ext_at hl at_ 1 (by omega)
  have hw : wrap64 ((at_ : Int) + 1) = ((at_ + 1 : Nat) : Int) := by rw [w64 (by omega) (by omega)]; omega
  rw [show (at_ : Int) + ((1 : Nat) : Int) = (at_ : Int) + 1 from rfl, hw] at ext1
  unfold reverieref01_One.f
  rw [if_pos (by omega), if_pos (by rw [size_str]; omega), if_pos (by rw [hw]; omega), if_pos (by rw [hw, size_str]; omega), bt_str hx hlt, hw, ext1]
  have hstep : lexStep (xs.drop at_) = (if (rd xs at_ == 40) = true then .tok 0 1
    else if (rd xs at_ == 41) = true then .tok 1 1
    else if (rd xs at_ == 45) = true ∧ 1 ≤ (xs.drop (at_ + 1)).length ∧ (rd (xs.drop (at_ + 1)) 0 == 62) = true then .tok 5 2
    else if isDigit (rd xs at_) = true ∨ ((rd xs at_ == 45) = true ∧ 1 ≤ (xs.drop (at_ + 1)).length ∧ isDigit (rd (xs.drop (at_ + 1)) 0) = true) then .num (1 + lead isDigit (xs.drop (at_ + 1)))
    else if isLower (rd xs at_) = true then .tok 3 (lead isWithin (xs.drop at_))
    else if isUpper (rd xs at_) = true then .tok 4 (lead isWithin (xs.drop at_))
    else if isSym (rd xs at_) = true then .tok 5 1
    else .bad) := by
    conv => lhs; rw [drop_cons' hlt]
    simp only [lexStep, hb, h59, Bool.false_eq_true, if_false]
    rw [← drop_cons' hlt]
  rw [hstep, hr0, hlen]
  clear hstep
  have jf := fun k hk => j1_false hx hl at_ hlt k hk
  have jt := fun hc a b s v k hk => j1_true hx hl at_ hlt hc a b s v k hk
  by_cases h40 : rd xs at_ = 40
  · rw [if_pos h40, if_pos (by rw [h40]; rfl)]; exact ⟨by omega, rfl⟩
  rw [if_neg h40, if_neg (show ¬(rd xs at_ == 40) = true by simpa using h40)]
  by_cases h41 : rd xs at_ = 41
  · rw [if_pos h41, if_pos (by rw [h41]; rfl)]; exact ⟨by omega, rfl⟩
  rw [if_neg h41, if_neg (show ¬(rd xs at_ == 41) = true by simpa using h41)]
  have hdg : ∀ k, 200 < k → reverieref01_In.f k (rd xs at_) (⟨#[48, 49, 50, 51, 52, 53, 54, 55, 56, 57]⟩ : ByteArray) = some (isDigit (rd xs at_)) := by
    intro k hk
    rw [in_f _ (by decide) _ k (by show 10 < k; omega), show inb (⟨#[48, 49, 50, 51, 52, 53, 54, 55, 56, 57]⟩ : ByteArray) (rd xs at_) = isDigit (rd xs at_) from in_digits hbc]
  obtain ⟨k, rfl⟩ : ∃ m, k = m + 1 := ⟨k - 1, by omega⟩
  by_cases h45 : rd xs at_ = 45
  · have e45 : (rd xs at_ == 45) = true := by rw [h45]; rfl
    rw [if_pos h45, size_str]
    by_cases hin : at_ + 1 < xs.length
    · rw [if_pos (by omega), if_pos (by omega), bt_str hx hin]
      by_cases h62 : rd xs ((at_ + 1 : Nat) : Int) = 62
      · have e62 : (rd xs ((at_ + 1 : Nat) : Int) == 62) = true := by rw [h62]; rfl
        rw [e62, if_pos ⟨e45, by omega, rfl⟩]
        simp only [reverieref01_One.j0]
        rw [if_pos trivial]
        refine ⟨by omega, ?_⟩
        have : strOfNums ((xs.drop at_).take 2) = (⟨#[45, 62]⟩ : ByteArray) := by
          rw [drop_cons' hlt, drop_cons' hin, h45, h62]; rfl
        rw [this]
      · have e62 : (rd xs ((at_ + 1 : Nat) : Int) == 62) = false := by simpa using h62
        rw [e62, if_neg (by simp)]
        simp only [reverieref01_One.j0]
        rw [if_neg (by decide), hdg k (by omega), Option.bind_some, if_neg (by rw [h45]; decide), if_pos h45, hw, if_pos (by rw [size_str]; omega), if_pos (by omega), bt_str hx hin, in_f _ (by decide) _ k (by show 10 < k; omega), Option.bind_some,
          show inb (⟨#[48, 49, 50, 51, 52, 53, 54, 55, 56, 57]⟩ : ByteArray) (rd xs ((at_ + 1 : Nat) : Int)) = isDigit (rd xs ((at_ + 1 : Nat) : Int)) from in_digits (hx _ (rd_mem hin))]
        cases hd1 : isDigit (rd xs ((at_ + 1 : Nat) : Int)) with
        | true => rw [if_pos (.inr ⟨e45, by omega, rfl⟩)]; exact jt (.inr h45) _ _ _ _ k (by omega)
        | false =>
          rw [if_neg (by rw [h45]; exact fun h => h.elim (fun h => absurd h (by decide)) (fun h => absurd h.2.2 (by decide)))]
          exact jf k (by omega)
    · rw [if_neg (by omega), if_neg (by omega)]
      simp only [reverieref01_One.j0]
      rw [if_neg (by decide), hdg k (by omega), Option.bind_some, if_neg (by rw [h45]; decide), if_pos h45, hw, if_neg (by rw [size_str]; omega), if_neg (by rw [h45]; exact fun h => h.elim (fun h => absurd h (by decide)) (fun h => absurd h.2.1 (by omega)))]
      exact jf k (by omega)
  · have e45 : (rd xs at_ == 45) = false := by simpa using h45
    rw [if_neg h45, e45, if_neg (by simp)]
    simp only [reverieref01_One.j0]
    rw [if_neg (by decide), hdg k (by omega), Option.bind_some]
    cases hdc : isDigit (rd xs at_) with
    | true => rw [if_pos rfl, if_pos (.inl rfl)]; exact jt (.inl hdc) _ _ _ _ k (by omega)
    | false =>
      rw [if_neg (by decide), if_neg h45, if_neg (by simp)]
      exact jf k (by omega)
end Go.Proofs.YtincigcoagcgaaaDoor.Pr
