/- The document's tokens (reverieref01) are the tokens of the plain function: on lists of bytes, without Go and memory. -/
import Derived.Test.YtincigcoagcgaaaDoorPr3
import Derived.Test.YtincigcoagcgaaaDoorLexSpec
namespace Go.Proofs.YtincigcoagcgaaaDoor.Pr
set_option linter.unusedVariables false
set_option linter.unusedSimpArgs false
open Go.RowKit Go.Proofs.YtincigcoagcgaaaDoorW.PrintWords Go.Proofs.YtincigcoagcgaaaDoorW.PrintLast Go.Proofs.YtincigcoagcgaaaDoorW.PrintMore

theorem w64 {x : Int} (h0 : -1000000 ≤ x) (h : x ≤ 1000000) : wrap64 x = x := by unfold wrap64; omega

theorem size_str (xs : List Int) : (strOfNums xs).size = xs.length := by
  show (strOfNums xs).data.size = _
  unfold strOfNums; simp

/-- All numbers are bytes. -/
def Bytes (xs : List Int) : Prop := ∀ x ∈ xs, 0 ≤ x ∧ x ≤ 255

theorem rd_get {xs : List Int} {i : Nat} (h : i < xs.length) : rd xs (i : Int) = xs[i] := by unfold rd; simp [h]
theorem rd_mem {xs : List Int} {i : Nat} (h : i < xs.length) : rd xs (i : Int) ∈ xs := by rw [rd_get h]; exact List.getElem_mem h

theorem bt_str {xs : List Int} (hx : Bytes xs) {i : Nat} (h : i < xs.length) : bt (strOfNums xs) (i : Int) = rd xs (i : Int) := by
  have hs := size_str xs
  have hb := hx _ (rd_mem h)
  unfold bt
  rw [dif_pos (by rw [Int.toNat_natCast, hs]; exact h)]
  rw [rd_get h] at hb ⊢
  have e : (strOfNums xs)[(i : Int).toNat]'(by rw [Int.toNat_natCast, hs]; exact h) = UInt8.ofNat xs[i].toNat := by
    show (strOfNums xs).data[(i : Int).toNat]'_ = _
    unfold strOfNums; simp
  rw [e]
  have e2 : (UInt8.ofNat xs[i].toNat).toNat = xs[i].toNat := by
    show xs[i].toNat % 256 = _
    omega
  rw [e2]; omega

theorem rd_drop' (xs : List Int) (k : Nat) (i : Int) (h0 : 0 ≤ i) : rd (xs.drop k) i = rd xs (k + i) := by
  unfold rd
  rw [List.getD_eq_getElem?_getD, List.getD_eq_getElem?_getD, List.getElem?_drop, show ((k : Int) + i).toNat = k + i.toNat from by omega]

theorem drop_cons' {xs : List Int} {k : Nat} (h : k < xs.length) : xs.drop k = rd xs k :: xs.drop (k + 1) := by
  rw [List.drop_eq_getElem_cons h, rd_get h]

/-! ### In -/
def inb (S : ByteArray) (c : Int) : Bool := S.data.toList.any (fun b => (b.toNat : Int) == c)

theorem in_l0 (S : ByteArray) (hS : S.size ≤ 1000) (c : Int) (d : Nat) : ∀ (k i : Nat), i ≤ S.size → S.size - i = d → d < k → reverieref01_In.l0 k c S i = some ((S.data.toList.drop i).any (fun b => (b.toNat : Int) == c)) := by
  induction d with
  | zero =>
    intro k i hi hd hk
    obtain ⟨k, rfl⟩ : ∃ m, k = m + 1 := ⟨k - 1, by omega⟩
    simp only [reverieref01_In.l0]
    rw [if_neg (by omega), List.drop_eq_nil_of_le (by rw [Array.length_toList]; show S.size ≤ i; omega)]
    rfl
  | succ d ih =>
    intro k i hi hd hk
    obtain ⟨k, rfl⟩ : ∃ m, k = m + 1 := ⟨k - 1, by omega⟩
    have hlt : i < S.size := by omega
    have hl : i < S.data.toList.length := by rw [Array.length_toList]; exact hlt
    simp only [reverieref01_In.l0]
    rw [if_pos (by omega), if_pos (by omega), List.drop_eq_getElem_cons hl, List.any_cons]
    have e : bt S (i : Int) = ((S.data.toList[i]'hl).toNat : Int) := by
      unfold bt; rw [dif_pos (by rw [Int.toNat_natCast]; exact hlt)]
      simp only [Int.toNat_natCast, Array.getElem_toList]; rfl
    rw [e]
    by_cases hc : ((S.data.toList[i]'hl).toNat : Int) = c
    · rw [if_pos hc, show (((S.data.toList[i]'hl).toNat : Int) == c) = true from by simpa using hc, Bool.true_or]
    · rw [if_neg hc, w64 (by omega) (by omega), show ((i : Int) + 1) = ((i + 1 : Nat) : Int) from by omega, ih k (i + 1) (by omega) (by omega) (by omega)]
      rw [show (((S.data.toList[i]'hl).toNat : Int) == c) = false from by simpa using hc, Bool.false_or]

theorem in_f (S : ByteArray) (hS : S.size ≤ 1000) (c : Int) (k : Nat) (hk : S.size < k) : reverieref01_In.f k c S = some (inb S c) := by
  unfold reverieref01_In.f inb
  have := in_l0 S hS c S.size k 0 (by omega) (by omega) hk
  simpa using this

def setDigits : ByteArray := ⟨#[48, 49, 50, 51, 52, 53, 54, 55, 56, 57]⟩
def setSmall : ByteArray := ⟨#[97, 98, 99, 100, 101, 102, 103, 104, 105, 106, 107, 108, 109, 110, 111, 112, 113, 114, 115, 116, 117, 118, 119, 120, 121, 122]⟩
def setGreat : ByteArray := ⟨#[65, 66, 67, 68, 69, 70, 71, 72, 73, 74, 75, 76, 77, 78, 79, 80, 81, 82, 83, 84, 85, 86, 87, 88, 89, 90]⟩
def setInside : ByteArray := ⟨#[97, 98, 99, 100, 101, 102, 103, 104, 105, 106, 107, 108, 109, 110, 111, 112, 113, 114, 115, 116, 117, 118, 119, 120, 121, 122, 65, 66, 67, 68, 69, 70, 71, 72, 73, 74, 75, 76, 77, 78, 79, 80, 81, 82, 83, 84, 85, 86, 87, 88, 89, 90, 48, 49, 50, 51, 52, 53, 54, 55, 56, 57, 39]⟩
def setBlank : ByteArray := ⟨#[32, 10, 9, 13]⟩
def setSym : ByteArray := ⟨#[95, 43, 45, 42, 47, 37, 61, 60]⟩

/-- A fact on bytes, tried at each. -/
theorem byte_all {P : Int → Bool} (h : ∀ n : Fin 256, P (n.val : Int) = true) (c : Int) (h0 : 0 ≤ c) (h1 : c ≤ 255) : P c = true := by
  have := h ⟨c.toNat, by omega⟩
  rwa [show ((c.toNat : Nat) : Int) = c from by omega] at this

theorem in_digits {c : Int} (h : 0 ≤ c ∧ c ≤ 255) : inb setDigits c = isDigit c := by
  have := byte_all (P := fun c => inb setDigits c == isDigit c) (by decide +kernel) c h.1 h.2
  exact beq_iff_eq.1 this
theorem in_small {c : Int} (h : 0 ≤ c ∧ c ≤ 255) : inb setSmall c = isLower c := by
  have := byte_all (P := fun c => inb setSmall c == isLower c) (by decide +kernel) c h.1 h.2
  exact beq_iff_eq.1 this
theorem in_great {c : Int} (h : 0 ≤ c ∧ c ≤ 255) : inb setGreat c = isUpper c := by
  have := byte_all (P := fun c => inb setGreat c == isUpper c) (by decide +kernel) c h.1 h.2
  exact beq_iff_eq.1 this
theorem in_inside {c : Int} (h : 0 ≤ c ∧ c ≤ 255) : inb setInside c = isWithin c := by
  have := byte_all (P := fun c => inb setInside c == isWithin c) (by decide +kernel) c h.1 h.2
  exact beq_iff_eq.1 this
theorem in_blank {c : Int} (h : 0 ≤ c ∧ c ≤ 255) : inb setBlank c = isBlank c := by
  have := byte_all (P := fun c => inb setBlank c == isBlank c) (by decide +kernel) c h.1 h.2
  exact beq_iff_eq.1 this
theorem in_sym {c : Int} (h : 0 ≤ c ∧ c ≤ 255) : inb setSym c = isSym c := by
  have := byte_all (P := fun c => inb setSym c == isSym c) (by decide +kernel) c h.1 h.2
  exact beq_iff_eq.1 this

/-! ### Take -/
theorem lead_congr {p q : Int → Bool} {xs : List Int} (h : ∀ x ∈ xs, p x = q x) : lead p xs = lead q xs := by
  induction xs with
  | nil => rfl
  | cons x xs ih => rw [lead, lead, h x (by simp), ih (fun y hy => h y (by simp [hy]))]

theorem take_l0 {xs : List Int} (hx : Bytes xs) (hl : xs.length ≤ 4096) (S : ByteArray) (hS : S.size ≤ 100) (at_ : Nat) (d : Nat) : ∀ (k n : Nat), at_ + n ≤ xs.length → xs.length - (at_ + n) = d → d + 101 < k →
    reverieref01_Take.l0 k (strOfNums xs) at_ S n = some ((n + lead (inb S) (xs.drop (at_ + n)) : Nat) : Int) := by
  induction d with
  | zero =>
    intro k n h1 h2 hk
    obtain ⟨k, rfl⟩ : ∃ m, k = m + 1 := ⟨k - 1, by omega⟩
    simp only [reverieref01_Take.l0]
    rw [w64 (by omega) (by omega), if_neg (by rw [size_str]; omega), List.drop_eq_nil_of_le (by omega)]; rfl
  | succ d ih =>
    intro k n h1 h2 hk
    obtain ⟨k, rfl⟩ : ∃ m, k = m + 1 := ⟨k - 1, by omega⟩
    have hlt : at_ + n < xs.length := by omega
    simp only [reverieref01_Take.l0]
    rw [w64 (x := (at_ : Int) + n) (by omega) (by omega), if_pos (by rw [size_str]; omega), if_pos (by omega), show ((at_ : Int) + n) = ((at_ + n : Nat) : Int) from by omega,
      bt_str hx hlt, in_f S (by omega) _ k (by omega), Option.bind_some, drop_cons' hlt, lead]
    by_cases hp : inb S (rd xs ((at_ + n : Nat) : Int)) = true
    · rw [if_pos hp, if_pos hp, w64 (by omega) (by omega), show ((n : Int) + 1) = ((n + 1 : Nat) : Int) from by omega, ih k (n + 1) (by omega) (by omega) (by omega)]
      rw [show at_ + (n + 1) = at_ + n + 1 from by omega]; congr 1; omega
    · rw [if_neg hp, if_neg hp]; rfl

theorem take_f {xs : List Int} (hx : Bytes xs) (hl : xs.length ≤ 4096) (S : ByteArray) (hS : S.size ≤ 100) (p : Int → Bool) (hp : ∀ c, 0 ≤ c ∧ c ≤ 255 → inb S c = p c) (at_ k : Nat) (h : at_ ≤ xs.length) (hk : 4300 < k) :
    reverieref01_Take.f k (strOfNums xs) at_ S = some ((lead p (xs.drop at_) : Nat) : Int) := by
  unfold reverieref01_Take.f
  have := take_l0 hx hl S hS at_ (xs.length - at_) k 0 (by omega) (by omega) (by omega)
  rw [show ((0 : Nat) : Int) = 0 from rfl] at this
  rw [this]
  simp only [Nat.zero_add, Nat.add_zero]
  rw [lead_congr (q := p) (fun x hxm => hp x (hx x (List.mem_of_mem_drop hxm)))]

/-! ### The function on lists: its rounds don't matter -/
theorem lead_cons_pos {p : Int → Bool} {x : Int} {xs : List Int} (h : p x = true) : 1 ≤ lead p (x :: xs) := by rw [lead, if_pos h]; omega

/-- What a step takes is not nothing. -/
theorem step_pos (rest : List Int) : (∀ m, lexStep rest = .skip m → 1 ≤ m) ∧ (∀ kd n, lexStep rest = .tok kd n → 1 ≤ n) ∧ (∀ n, lexStep rest = .num n → 1 ≤ n) := by
  cases rest with
  | nil => exact ⟨fun _ h => (nomatch h), fun _ _ h => (nomatch h), fun _ h => (nomatch h)⟩
  | cons c r =>
    have hw : ∀ (x : Bool), isWithin c = (isLower c || isUpper c || isDigit c || c == 39) := fun _ => rfl
    unfold lexStep
    refine ⟨fun m h => ?_, fun kd n h => ?_, fun n h => ?_⟩
    all_goals
      repeat' first
        | (split at h; skip)
        | contradiction
    all_goals first
      | (injection h with h; subst h; omega)
      | (injection h with h; subst h; rename_i h59; refine lead_cons_pos ?_; unfold isNote; rw [beq_iff_eq] at h59; rw [h59]; rfl)
      | (injection h with h h'; subst h'; decide)
      | (injection h with h h'; subst h'; rename_i hl; refine lead_cons_pos ?_; unfold isWithin; rw [hl]; rfl)
      | (injection h with h h'; subst h'; rename_i hl; refine lead_cons_pos ?_; unfold isWithin; rw [hl]; simp)

theorem lexGo_fuel (n : Nat) : ∀ (rest : List Int), rest.length ≤ n → ∀ (k k' : Nat) (at_ : Int) (out : List S33), rest.length < k → rest.length < k' → lexGo k rest at_ out = lexGo k' rest at_ out := by
  induction n with
  | zero =>
    intro rest hl k k' at_ out hk hk'
    obtain ⟨k, rfl⟩ : ∃ m, k = m + 1 := ⟨k - 1, by omega⟩
    obtain ⟨k', rfl⟩ : ∃ m, k' = m + 1 := ⟨k' - 1, by omega⟩
    rw [lexGo, lexGo, if_pos (by omega), if_pos (by omega)]
  | succ n ih =>
    intro rest hl k k' at_ out hk hk'
    obtain ⟨k, rfl⟩ : ∃ m, k = m + 1 := ⟨k - 1, by omega⟩
    obtain ⟨k', rfl⟩ : ∃ m, k' = m + 1 := ⟨k' - 1, by omega⟩
    rw [lexGo, lexGo]
    by_cases h0 : rest.length = 0
    · rw [if_pos h0, if_pos h0]
    · rw [if_neg h0, if_neg h0]
      obtain ⟨p1, p2, p3⟩ := step_pos rest
      cases hs : lexStep rest with
      | skip m =>
        have := p1 m hs
        exact ih _ (by rw [List.length_drop]; omega) _ _ _ _ (by rw [List.length_drop]; omega) (by rw [List.length_drop]; omega)
      | tok kd m =>
        have := p2 kd m hs
        exact ih _ (by rw [List.length_drop]; omega) _ _ _ _ (by rw [List.length_drop]; omega) (by rw [List.length_drop]; omega)
      | num m =>
        have := p3 m hs
        simp only
        by_cases hb : numBad rest m = true
        · rw [if_pos hb, if_pos hb]
        · rw [if_neg hb, if_neg hb]
          exact ih _ (by rw [List.length_drop]; omega) _ _ _ _ (by rw [List.length_drop]; omega) (by rw [List.length_drop]; omega)
      | bad => rfl

/-- The tokens of what is left. -/
def lexL (rest : List Int) (at_ : Int) (out : List S33) : List S33 × Int × Int := lexGo (rest.length + 1) rest at_ out

theorem lexL_step (rest : List Int) (at_ : Int) (out : List S33) (h : rest.length ≠ 0) : lexL rest at_ out =
    match lexStep rest with
      | .skip m => lexL (rest.drop m) (at_ + m) out
      | .tok kd n => lexL (rest.drop n) (at_ + n) (out ++ [⟨kd, at_, strOfNums (rest.take n), 0⟩])
      | .num n => if numBad rest n = true then ([], at_, 2) else lexL (rest.drop n) (at_ + n) (out ++ [⟨2, at_, strOfNums (rest.take n), numVal (rest.take n)⟩])
      | .bad => ([], at_, 2) := by
  unfold lexL
  rw [lexGo, if_neg h]
  obtain ⟨p1, p2, p3⟩ := step_pos rest
  cases hs : lexStep rest with
  | skip m =>
    have := p1 m hs
    exact lexGo_fuel _ _ (Nat.le_refl _) _ _ _ _ (by rw [List.length_drop]; omega) (by omega)
  | tok kd m =>
    have := p2 kd m hs
    exact lexGo_fuel _ _ (Nat.le_refl _) _ _ _ _ (by rw [List.length_drop]; omega) (by omega)
  | num m =>
    have := p3 m hs
    simp only
    by_cases hb : numBad rest m = true
    · rw [if_pos hb, if_pos hb]
    · rw [if_neg hb, if_neg hb]
      exact lexGo_fuel _ _ (Nat.le_refl _) _ _ _ _ (by rw [List.length_drop]; omega) (by omega)
  | bad => rfl

theorem lexL_nil (at_ : Int) (out : List S33) : lexL [] at_ out = (out, -1, 0) := rfl

/-! ### Skip -/
def Skipped (xs : List Int) (at_ m : Nat) : Prop := at_ + m ≤ xs.length ∧ (∀ out, lexL (xs.drop at_) at_ out = lexL (xs.drop (at_ + m)) ((at_ + m : Nat) : Int) out) ∧ (at_ + m < xs.length → isBlank (rd xs ((at_ + m : Nat) : Int)) = false ∧ (rd xs ((at_ + m : Nat) : Int) == 59) = false)

theorem Skipped.blank {xs : List Int} {at_ m : Nat} (hlt : at_ < xs.length) (hb : isBlank (rd xs at_) = true) (h : Skipped xs (at_ + 1) m) : Skipped xs at_ (1 + m) := by
  obtain ⟨h1, h2, h3⟩ := h
  refine ⟨by omega, fun out => ?_, fun h => by rw [show at_ + (1 + m) = at_ + 1 + m from by omega] at h ⊢; exact h3 h⟩
  rw [lexL_step _ _ _ (by rw [List.length_drop]; omega), drop_cons' hlt]
  have hs : lexStep (rd xs at_ :: xs.drop (at_ + 1)) = .skip 1 := by simp only [lexStep, hb, if_true]
  rw [hs]
  simp only [List.drop_succ_cons, List.drop_zero]
  rw [show (at_ : Int) + ((1 : Nat) : Int) = ((at_ + 1 : Nat) : Int) from by omega, h2 out, show at_ + 1 + m = at_ + (1 + m) from by omega]

theorem Skipped.note {xs : List Int} {at_ m : Nat} (hlt : at_ < xs.length) (hb : isBlank (rd xs at_) = false) (h59 : (rd xs at_ == 59) = true) (h : Skipped xs (at_ + lead isNote (xs.drop at_)) m) : Skipped xs at_ (lead isNote (xs.drop at_) + m) := by
  obtain ⟨h1, h2, h3⟩ := h
  refine ⟨by omega, fun out => ?_, fun h => by rw [show at_ + (lead isNote (xs.drop at_) + m) = at_ + lead isNote (xs.drop at_) + m from by omega] at h ⊢; exact h3 h⟩
  rw [lexL_step _ _ _ (by rw [List.length_drop]; omega)]
  have hs : lexStep (xs.drop at_) = .skip (lead isNote (xs.drop at_)) := by
    rw [drop_cons' hlt]; simp only [lexStep, hb, h59, Bool.false_eq_true, if_false, if_true]
  rw [hs]
  simp only [List.drop_drop]
  rw [show (at_ : Int) + ((lead isNote (xs.drop at_) : Nat) : Int) = ((at_ + lead isNote (xs.drop at_) : Nat) : Int) from by omega, h2 out, show at_ + lead isNote (xs.drop at_) + m = at_ + (lead isNote (xs.drop at_) + m) from by omega]

theorem Skipped.here {xs : List Int} {at_ : Nat} (h : at_ ≤ xs.length) (hn : at_ < xs.length → isBlank (rd xs at_) = false ∧ (rd xs at_ == 59) = false) : Skipped xs at_ 0 := ⟨by omega, fun _ => rfl, fun h => hn h⟩

theorem skip_both {xs : List Int} (hx : Bytes xs) (hl : xs.length ≤ 4096) (d : Nat) : ∀ (at_ k : Nat), at_ ≤ xs.length → xs.length - at_ = d → 4 * d + 20 < k →
    (∃ m, reverieref01_Skip.l0 k (strOfNums xs) at_ = some ((at_ + m : Nat) : Int) ∧ Skipped xs at_ m) ∧
    (∃ m, reverieref01_Skip.l1 k (strOfNums xs) at_ = some ((at_ + lead isNote (xs.drop at_) + m : Nat) : Int) ∧ Skipped xs (at_ + lead isNote (xs.drop at_)) m) := by
  induction d with
  | zero =>
    intro at_ k hat hd hk
    obtain ⟨k, rfl⟩ : ∃ m, k = m + 1 := ⟨k - 1, by omega⟩
    have h0 : ∀ k, 0 < k → reverieref01_Skip.l0 k (strOfNums xs) at_ = some ((at_ + 0 : Nat) : Int) := by
      intro k hk
      obtain ⟨k, rfl⟩ : ∃ m, k = m + 1 := ⟨k - 1, by omega⟩
      simp only [reverieref01_Skip.l0]
      rw [if_neg (by rw [size_str]; omega)]; rfl
    refine ⟨⟨0, h0 _ (by omega), Skipped.here hat (by omega)⟩, 0, ?_, ?_⟩
    · simp only [reverieref01_Skip.l1]
      rw [if_neg (by rw [size_str]; omega), h0 k (by omega), List.drop_eq_nil_of_le (by omega)]; rfl
    · rw [List.drop_eq_nil_of_le (by omega)]; exact Skipped.here hat (by omega)
  | succ d ih =>
    intro at_ k hat hd hk
    have hlt : at_ < xs.length := by omega
    have hb := hx _ (rd_mem hlt)
    have l0 : ∀ k, 4 * (d + 1) + 18 < k → (∃ m, reverieref01_Skip.l0 k (strOfNums xs) at_ = some ((at_ + m : Nat) : Int) ∧ Skipped xs at_ m) := by
      intro k hk
      obtain ⟨k, rfl⟩ : ∃ m, k = m + 1 := ⟨k - 1, by omega⟩
      simp only [reverieref01_Skip.l0]
      rw [if_pos (by rw [size_str]; omega), if_pos (by omega), bt_str hx hlt, in_f _ (by decide) _ k (by show 4 < k; omega), Option.bind_some, show inb (⟨#[32, 10, 9, 13]⟩ : ByteArray) (rd xs at_) = isBlank (rd xs at_) from in_blank hb]
      cases hbl : isBlank (rd xs at_) with
      | true =>
        obtain ⟨⟨m, e, hs⟩, _⟩ := ih (at_ + 1) k (by omega) (by omega) (by omega)
        refine ⟨1 + m, ?_, Skipped.blank hlt hbl hs⟩
        rw [if_pos rfl, w64 (by omega) (by omega), show (at_ : Int) + 1 = ((at_ + 1 : Nat) : Int) from by omega, e, show at_ + 1 + m = at_ + (1 + m) from by omega]
      | false =>
        rw [if_neg (by decide)]
        by_cases h59 : rd xs at_ = 59
        · rw [if_pos h59]
          obtain ⟨k, rfl⟩ : ∃ m, k = m + 1 := ⟨k - 1, by omega⟩
          simp only [reverieref01_Skip.l1]
          rw [if_pos (by rw [size_str]; omega), if_pos (by omega), bt_str hx hlt, if_neg (by rw [h59]; decide), w64 (by omega) (by omega), show (at_ : Int) + 1 = ((at_ + 1 : Nat) : Int) from by omega]
          obtain ⟨_, m, e, hs⟩ := ih (at_ + 1) k (by omega) (by omega) (by omega)
          have hle : lead isNote (xs.drop at_) = lead isNote (xs.drop (at_ + 1)) + 1 := by
            rw [drop_cons' hlt, lead, if_pos (by rw [h59]; rfl)]
          rw [e]
          have e2 : at_ + 1 + lead isNote (xs.drop (at_ + 1)) = at_ + lead isNote (xs.drop at_) := by omega
          rw [e2] at hs ⊢
          exact ⟨lead isNote (xs.drop at_) + m, by rw [Nat.add_assoc], Skipped.note hlt hbl (by rw [h59]; rfl) hs⟩
        · rw [if_neg h59]
          exact ⟨0, rfl, Skipped.here hat fun _ => ⟨hbl, by simpa using h59⟩⟩
    refine ⟨l0 k (by omega), ?_⟩
    obtain ⟨k, rfl⟩ : ∃ m, k = m + 1 := ⟨k - 1, by omega⟩
    simp only [reverieref01_Skip.l1]
    rw [if_pos (by rw [size_str]; omega), if_pos (by omega), bt_str hx hlt]
    by_cases h10 : rd xs at_ = 10
    · rw [if_pos h10]
      have hle : lead isNote (xs.drop at_) = 0 := by rw [drop_cons' hlt, lead, if_neg (by rw [h10]; decide)]
      obtain ⟨m, e, hs⟩ := l0 k (by omega)
      rw [hle, Nat.add_zero, e]
      exact ⟨m, rfl, hs⟩
    · rw [if_neg h10, w64 (by omega) (by omega), show (at_ : Int) + 1 = ((at_ + 1 : Nat) : Int) from by omega]
      obtain ⟨_, m, e, hs⟩ := ih (at_ + 1) k (by omega) (by omega) (by omega)
      have hle : lead isNote (xs.drop at_) = lead isNote (xs.drop (at_ + 1)) + 1 := by
        rw [drop_cons' hlt, lead, if_pos (by unfold isNote; simpa using h10)]
      have e2 : at_ + 1 + lead isNote (xs.drop (at_ + 1)) = at_ + lead isNote (xs.drop at_) := by omega
      rw [e2] at hs e
      rw [e]
      exact ⟨m, rfl, hs⟩
end Go.Proofs.YtincigcoagcgaaaDoor.Pr
