/- One token of the document's (reverieref01.One) is a step of the plain function. -/
import Derived.Test.YtincigcoagcgaaaDoorRefLex
namespace Go.Proofs.YtincigcoagcgaaaDoor.Pr
set_option linter.unusedVariables false
set_option linter.unusedSimpArgs false
open Go.RowKit Go.Proofs.YtincigcoagcgaaaDoorW.PrintWords Go.Proofs.YtincigcoagcgaaaDoorW.PrintLast Go.Proofs.YtincigcoagcgaaaDoorW.PrintMore

theorem ext_str (xs : List Int) (a n : Nat) (h : a + n ≤ xs.length) : (strOfNums xs).extract a (a + n) = strOfNums ((xs.drop a).take n) := by
  apply ByteArray.ext
  rw [ByteArray.data_extract]
  apply Array.ext'
  unfold strOfNums
  simp only [Array.toList_extract, List.extract_eq_take_drop, List.map_take, List.map_drop]
  rw [show a + n - a = n from by omega]

theorem ext_str' (xs : List Int) (a b : Int) (at_ n : Nat) (h : at_ + n ≤ xs.length) (ha : a = at_) (hb : b = ((at_ + n : Nat) : Int)) : (strOfNums xs).extract a.toNat b.toNat = strOfNums ((xs.drop at_).take n) := by
  subst ha hb
  rw [Int.toNat_natCast, Int.toNat_natCast]
  exact ext_str xs at_ n h

theorem lead_all' (p : Int → Bool) (xs : List Int) : ∀ i : Nat, i < lead p xs → p (rd xs i) = true := by
  induction xs with
  | nil => intro i h; simp [lead] at h
  | cons x xs ih =>
    intro i h
    unfold lead at h
    by_cases hx : p x = true
    · rw [if_pos hx] at h
      cases i with
      | zero => exact hx
      | succ i =>
        have := ih i (by omega)
        have e : rd (x :: xs) ((i + 1 : Nat) : Int) = rd xs (i : Int) := by unfold rd; simp
        rw [e]; exact this
    · rw [if_neg hx] at h; omega

theorem foldl_bound (ds : List Int) : ∀ (a : Int) (j : Nat), 0 ≤ a → a < 10 ^ j → (∀ d ∈ ds, 48 ≤ d ∧ d ≤ 57) → 0 ≤ ds.foldl (fun a d => 10 * a + (d - 48)) a ∧ ds.foldl (fun a d => 10 * a + (d - 48)) a < 10 ^ (j + ds.length) := by
  induction ds with
  | nil => intro a j h0 h1 _; exact ⟨h0, by simpa using h1⟩
  | cons d ds ih =>
    intro a j h0 h1 hd
    have h2 := hd d (by simp)
    have e : (10 : Int) ^ (j + 1) = 10 * 10 ^ j := by rw [Int.pow_succ, Int.mul_comm]
    have := ih (10 * a + (d - 48)) (j + 1) (by omega) (by rw [e]; omega) (fun x hx => hd x (by simp [hx]))
    rw [List.foldl_cons, List.length_cons, show j + (ds.length + 1) = j + 1 + ds.length from by omega]
    exact this

theorem pow_le18 {n : Nat} (h : n ≤ 18) : (10 : Int) ^ n ≤ 1000000000000000000 := by
  have h1 : (10 : Nat) ^ n ≤ 10 ^ 18 := Nat.pow_le_pow_right (by decide) h
  have h2 : ((10 ^ n : Nat) : Int) = (10 : Int) ^ n := by push_cast; rfl
  rw [← h2]
  have h3 : (10 : Nat) ^ 18 = 1000000000000000000 := by decide
  omega

theorem take_succ_rd {xs : List Int} {i : Nat} (h : i < xs.length) : xs.take (i + 1) = xs.take i ++ [rd xs i] := by
  rw [List.take_succ_eq_append_getElem h, rd_get h]

theorem digit_le {c : Int} (h : isDigit c = true) : 48 ≤ c ∧ c ≤ 57 := by
  unfold isDigit at h; simpa using h

/-- The loop that reckons the number of digits. -/
theorem number_l0 {xs : List Int} (hx : Bytes xs) (hl : xs.length ≤ 4096) (at_ x7 n : Nat) (hn : n ≤ 18) (h7 : x7 ≤ 1) (hin : at_ + x7 + n ≤ xs.length) (hd : ∀ i : Nat, i < n → isDigit (rd (xs.drop (at_ + x7)) i) = true) (d : Nat) :
    ∀ (k i : Nat), i ≤ n → n - i = d → d < k →
    reverieref01_number.l0 k (strOfNums xs) at_ x7 n (digitsVal ((xs.drop (at_ + x7)).take i)) i = some (if x7 = 1 then (-digitsVal ((xs.drop (at_ + x7)).take n), ((x7 + n : Nat) : Int), true) else (digitsVal ((xs.drop (at_ + x7)).take n), ((x7 + n : Nat) : Int), true)) := by
  have hbd : ∀ i : Nat, i ≤ n → 0 ≤ digitsVal ((xs.drop (at_ + x7)).take i) ∧ digitsVal ((xs.drop (at_ + x7)).take i) < 10 ^ i := by
    intro i hi
    have hlen : ((xs.drop (at_ + x7)).take i).length = i := by rw [List.length_take, List.length_drop]; omega
    have := foldl_bound ((xs.drop (at_ + x7)).take i) 0 0 (by decide) (by decide) (by
      intro y hy
      obtain ⟨j, hj, rfl⟩ := List.mem_iff_getElem.1 hy
      rw [hlen] at hj
      have h1 := hd j (by omega)
      have h2 : rd (xs.drop (at_ + x7)) (j : Int) = ((xs.drop (at_ + x7)).take i)[j] := by
        rw [rd_get (by rw [List.length_drop]; omega), List.getElem_take]
      rw [h2] at h1
      exact digit_le h1)
    rw [hlen, Nat.zero_add] at this
    exact this
  induction d with
  | zero =>
    intro k i hi hdn hk
    obtain ⟨k, rfl⟩ : ∃ m, k = m + 1 := ⟨k - 1, by omega⟩
    obtain rfl : i = n := by omega
    have hb := hbd i (Nat.le_refl _)
    have hp := pow_le18 hn
    generalize digitsVal ((xs.drop (at_ + x7)).take i) = v at *
    simp only [reverieref01_number.l0]
    rw [if_neg (by omega)]
    by_cases h1 : x7 = 1
    · subst h1
      rw [if_pos rfl, if_pos (by rfl)]
      rw [show wrap64 (-v) = -v from by unfold wrap64; omega, w64 (by omega) (by omega)]; congr 3
    · rw [if_neg (by omega), if_neg h1, w64 (by omega) (by omega)]; congr 3
  | succ d ih =>
    intro k i hi hdn hk
    obtain ⟨k, rfl⟩ : ∃ m, k = m + 1 := ⟨k - 1, by omega⟩
    have hlt : i < n := by omega
    have hat : at_ + x7 + i < xs.length := by omega
    have hb := hbd i (by omega)
    have hp := pow_le18 (show i ≤ 18 by omega)
    have h1 := hd i hlt
    have h2 : rd (xs.drop (at_ + x7)) (i : Int) = rd xs ((at_ + x7 + i : Nat) : Int) := by
      rw [rd_drop' _ _ _ (by omega)]; congr 1
    have h3 : digitsVal ((xs.drop (at_ + x7)).take (i + 1)) = 10 * digitsVal ((xs.drop (at_ + x7)).take i) + (rd xs ((at_ + x7 + i : Nat) : Int) - 48) := by
      rw [take_succ_rd (by rw [List.length_drop]; omega)]
      unfold digitsVal
      rw [List.foldl_append, h2]; rfl
    rw [h2] at h1
    replace h1 := digit_le h1
    have h4 := ih k (i + 1) (by omega) (by omega) (by omega)
    rw [h3] at h4
    have hb2 := hbd (i + 1) (by omega)
    have hp2 := pow_le18 (show i + 1 ≤ 18 by omega)
    rw [h3] at hb2
    generalize digitsVal ((xs.drop (at_ + x7)).take i) = v at *
    simp only [reverieref01_number.l0]
    rw [if_pos (by omega), w64 (x := (at_ : Int) + x7) (by omega) (by omega), w64 (x := (at_ : Int) + x7 + i) (by omega) (by omega), if_pos (by omega), if_pos (by rw [size_str]; omega),
      show ((at_ : Int) + x7 + i) = ((at_ + x7 + i : Nat) : Int) from by omega, bt_str hx hat]
    generalize rd xs ((at_ + x7 + i : Nat) : Int) = c at *
    rw [show (c - 48) % 256 = c - 48 from by omega, show wrap64 (10 * v) = 10 * v from by unfold wrap64; omega, show wrap64 (10 * v + (c - 48)) = 10 * v + (c - 48) from by unfold wrap64; omega, w64 (by omega) (by omega),
      show ((i : Int) + 1) = ((i + 1 : Nat) : Int) from by omega]
    exact h4

/-- The number at a place: what it comes to. -/
theorem number_f {xs : List Int} (hx : Bytes xs) (hl : xs.length ≤ 4096) (at_ x7 : Nat) (hlt : at_ < xs.length) (h7 : (x7 = 1 ∧ rd xs at_ = 45) ∨ (x7 = 0 ∧ rd xs at_ ≠ 45)) (k : Nat) (hk : 5000 < k) :
    reverieref01_number.f k (strOfNums xs) at_ = some (if 18 < lead isDigit (xs.drop (at_ + x7)) ∨ (at_ + x7 + lead isDigit (xs.drop (at_ + x7)) < xs.length ∧ isWithin (rd xs ((at_ + x7 + lead isDigit (xs.drop (at_ + x7)) : Nat) : Int)) = true) then (0, 0, false)
      else ((if x7 = 1 then -digitsVal ((xs.drop (at_ + x7)).take (lead isDigit (xs.drop (at_ + x7)))) else digitsVal ((xs.drop (at_ + x7)).take (lead isDigit (xs.drop (at_ + x7))))), ((x7 + lead isDigit (xs.drop (at_ + x7)) : Nat) : Int), true)) := by
  have h71 : x7 ≤ 1 := by omega
  have hdig := lead_all' isDigit (xs.drop (at_ + x7))
  have hle := lead_le isDigit (xs.drop (at_ + x7))
  rw [List.length_drop] at hle
  have htk := fun k hk => take_f hx hl setDigits (by decide) isDigit (fun c h => in_digits h) (at_ + x7) k (by omega) hk
  have hj : ∀ k, 4990 < k → reverieref01_number.j0 k (strOfNums xs) at_ x7 = some (if 18 < lead isDigit (xs.drop (at_ + x7)) ∨ (at_ + x7 + lead isDigit (xs.drop (at_ + x7)) < xs.length ∧ isWithin (rd xs ((at_ + x7 + lead isDigit (xs.drop (at_ + x7)) : Nat) : Int)) = true) then (0, 0, false)
      else ((if x7 = 1 then -digitsVal ((xs.drop (at_ + x7)).take (lead isDigit (xs.drop (at_ + x7)))) else digitsVal ((xs.drop (at_ + x7)).take (lead isDigit (xs.drop (at_ + x7))))), ((x7 + lead isDigit (xs.drop (at_ + x7)) : Nat) : Int), true)) := by
    intro k hk
    obtain ⟨k, rfl⟩ : ∃ m, k = m + 1 := ⟨k - 1, by omega⟩
    generalize hg : lead isDigit (xs.drop (at_ + x7)) = n at *
    have bad : ∀ k, 1 < k → reverieref01_number.j1 k (strOfNums xs) at_ x7 n true = some (0, 0, false) := by
      intro k hk
      obtain ⟨k, rfl⟩ : ∃ m, k = m + 1 := ⟨k - 1, by omega⟩
      simp only [reverieref01_number.j1, if_true]
    have good : n ≤ 18 → ∀ k, 100 < k → reverieref01_number.j1 k (strOfNums xs) at_ x7 n false = some ((if x7 = 1 then -digitsVal ((xs.drop (at_ + x7)).take n) else digitsVal ((xs.drop (at_ + x7)).take n)), ((x7 + n : Nat) : Int), true) := by
      intro hn k hk
      obtain ⟨k, rfl⟩ : ∃ m, k = m + 1 := ⟨k - 1, by omega⟩
      simp only [reverieref01_number.j1, Bool.false_eq_true, if_false]
      have := number_l0 hx hl at_ x7 n hn h71 (by omega) hdig n k 0 (by omega) (by omega) (by omega)
      rw [show digitsVal ((xs.drop (at_ + x7)).take 0) = 0 from rfl] at this
      rw [show ((0 : Nat) : Int) = 0 from rfl] at this
      rw [this]
      by_cases h1 : x7 = 1 <;> simp [h1]
    simp only [reverieref01_number.j0]
    rw [w64 (x := (at_ : Int) + x7) (by omega) (by omega), show ((at_ : Int) + x7) = ((at_ + x7 : Nat) : Int) from by omega]
    have ht := htk k (by omega)
    rw [show setDigits = (⟨#[48, 49, 50, 51, 52, 53, 54, 55, 56, 57]⟩ : ByteArray) from rfl] at ht
    rw [ht, Option.bind_some]
    by_cases h18 : 18 < n
    · rw [if_pos (by omega), bad k (by omega), if_pos (.inl h18)]
    · rw [if_neg (by omega)]
      rw [w64 (x := ((at_ + x7 : Nat) : Int) + (n : Int)) (by omega) (by omega)]
      by_cases hin : at_ + x7 + n < xs.length
      · rw [if_pos (by rw [size_str]; omega), if_pos (by omega), show ((at_ + x7 : Nat) : Int) + (n : Int) = ((at_ + x7 + n : Nat) : Int) from by omega, bt_str hx hin, in_f _ (by decide) _ k (by show 63 < k; omega), Option.bind_some]
        have hwi := in_inside (hx _ (rd_mem hin))
        rw [show (⟨#[97, 98, 99, 100, 101, 102, 103, 104, 105, 106, 107, 108, 109, 110, 111, 112, 113, 114, 115, 116, 117, 118, 119, 120, 121, 122, 65, 66, 67, 68, 69, 70, 71, 72, 73, 74, 75, 76, 77, 78, 79, 80, 81, 82, 83, 84, 85, 86, 87, 88, 89, 90, 48, 49, 50, 51, 52, 53, 54, 55, 56, 57, 39]⟩ : ByteArray) = setInside from rfl, hwi]
        cases hw : isWithin (rd xs ((at_ + x7 + n : Nat) : Int)) with
        | true => rw [bad k (by omega), if_pos (.inr ⟨hin, rfl⟩)]
        | false => rw [good (by omega) k (by omega), if_neg (show ¬(18 < n ∨ _) from fun h => h.elim (fun h => h18 h) fun h => nomatch h.2)]
      · rw [if_neg (by rw [size_str]; omega), good (by omega) k (by omega), if_neg (show ¬(18 < n ∨ _) from fun h => h.elim (fun h => h18 h) fun h => hin h.1)]
  unfold reverieref01_number.f
  rw [if_pos (by omega), if_pos (by rw [size_str]; omega), bt_str hx hlt]
  rcases h7 with ⟨rfl, h45⟩ | ⟨rfl, h45⟩
  · rw [if_pos h45]; exact hj k (by omega)
  · rw [if_neg h45]; exact hj k (by omega)
end Go.Proofs.YtincigcoagcgaaaDoor.Pr
