/- Whole numbers below 2^53 as doubles: sums, differences, products and comparisons are exact. Plain Lean over the model's floats. -/
import Derived.Laws.FloatArith
namespace Go.Proofs.Ytfnbpnabhfkibaa
set_option linter.unusedVariables false
set_option linter.unusedSimpArgs false
open Ieee

theorem binade_eq : double.binade = 2 ^ 52 := rfl
theorem infRung_eq : double.infRung = 2047 * 2 ^ 52 := rfl
theorem sign_eq : double.signWeight = 2 ^ 63 := rfl
theorem least_eq : double.leastPlace = -1074 := rfl

/-- The rung of a whole number above nought. -/
def rung (n : Nat) : Nat := (n.log2 + 1022) * 2 ^ 52 + n * 2 ^ (52 - n.log2)

theorem log2_le {n : Nat} (h : n < 2 ^ 53) : n.log2 ≤ 52 := by
  by_cases h0 : n = 0
  · subst h0; decide
  · have := (Nat.log2_lt h0).2 h; omega

theorem log2_lo {n : Nat} (h : n ≠ 0) : 2 ^ n.log2 ≤ n := Nat.log2_self_le h
theorem log2_hi (n : Nat) : n < 2 ^ (n.log2 + 1) := Nat.lt_log2_self

theorem log2_mul (n k : Nat) (h : n ≠ 0) : (n * 2 ^ k).log2 = n.log2 + k := by
  have h1 := log2_lo h
  have h2 := log2_hi n
  have hp : 0 < 2 ^ k := Nat.two_pow_pos k
  have hne : n * 2 ^ k ≠ 0 := by
    intro hc; rcases Nat.mul_eq_zero.1 hc with hc | hc <;> omega
  refine (Nat.log2_eq_iff hne).2 ⟨?_, ?_⟩
  · rw [Nat.pow_add]; exact Nat.mul_le_mul_right _ h1
  · rw [show n.log2 + k + 1 = n.log2 + 1 + k from by omega, Nat.pow_add]
    exact Nat.mul_lt_mul_of_pos_right h2 hp

theorem kept_bd {n : Nat} (h0 : n ≠ 0) (h : n < 2 ^ 53) : 2 ^ 52 ≤ n * 2 ^ (52 - n.log2) ∧ n * 2 ^ (52 - n.log2) < 2 ^ 53 := by
  have hl := log2_le h
  have h1 := log2_lo h0
  have h2 := log2_hi n
  have hp : 0 < 2 ^ (52 - n.log2) := Nat.two_pow_pos _
  constructor
  · have : 2 ^ n.log2 * 2 ^ (52 - n.log2) ≤ n * 2 ^ (52 - n.log2) := Nat.mul_le_mul_right _ h1
    rwa [← Nat.pow_add, show n.log2 + (52 - n.log2) = 52 from by omega] at this
  · have : n * 2 ^ (52 - n.log2) < 2 ^ (n.log2 + 1) * 2 ^ (52 - n.log2) := Nat.mul_lt_mul_of_pos_right h2 hp
    rwa [← Nat.pow_add, show n.log2 + 1 + (52 - n.log2) = 53 from by omega] at this

/-- Nothing is dropped: the number is written as it is. -/
theorem nearest_exact (s : Bool) (n mag : Nat) (place : Int) (h0 : n ≠ 0) (h : n < 2 ^ 53) (hp : place ≤ 0) (hm : mag = n * 2 ^ (-place).toNat) :
    double.nearest s mag place = double.word s (rung n) := by
  have hl := log2_le h
  have hk := kept_bd h0 h
  have hpw : 0 < 2 ^ (-place).toNat := Nat.two_pow_pos _
  have hm0 : mag ≠ 0 := by rw [hm]; intro hc; rcases Nat.mul_eq_zero.1 hc with hc | hc <;> omega
  have hlog : mag.log2 = n.log2 + (-place).toNat := by rw [hm]; exact log2_mul n _ h0
  unfold Format.nearest
  rw [if_neg hm0]
  have hlast : max (place + mag.log2 - double.fractionBits) double.leastPlace = (n.log2 : Int) - 52 := by
    rw [hlog, least_eq]
    show max (place + ((n.log2 + (-place).toNat : Nat) : Int) - (52 : Nat)) (-1074) = _
    omega
  simp only [hlast]
  have hcut : Toward.even.cut s (mag <<< (place - ((n.log2 : Int) - 52)).toNat) (((n.log2 : Int) - 52) - place).toNat = n * 2 ^ (52 - n.log2) := by
    by_cases hc : (n.log2 : Int) - 52 ≤ place
    · rw [show (((n.log2 : Int) - 52) - place).toNat = 0 from by omega]
      unfold Toward.cut
      simp only [Nat.zero_min, Nat.shiftLeft_zero, Nat.div_one, Nat.mod_one, Nat.mul_zero]
      rw [Nat.shiftLeft_eq, hm, Nat.mul_assoc, ← Nat.pow_add, show (-place).toNat + (place - ((n.log2 : Int) - 52)).toNat = 52 - n.log2 from by omega]
      simp
    · rw [show (place - ((n.log2 : Int) - 52)).toNat = 0 from by omega, Nat.shiftLeft_zero]
      unfold Toward.cut
      have hmin : min (((n.log2 : Int) - 52) - place).toNat (mag.log2 + 2) = (((n.log2 : Int) - 52) - place).toNat := by rw [hlog]; omega
      simp only [hmin]
      have hsplit : mag = n * 2 ^ (52 - n.log2) * 2 ^ (((n.log2 : Int) - 52) - place).toNat := by
        rw [hm, Nat.mul_assoc, ← Nat.pow_add]; congr 2; omega
      rw [Nat.shiftLeft_eq, Nat.one_mul]
      generalize hg : 2 ^ (((n.log2 : Int) - 52) - place).toNat = g at *
      have hg0 : 0 < g := by rw [← hg]; exact Nat.two_pow_pos _
      rw [hsplit, Nat.mul_div_cancel _ hg0, Nat.mul_mod_left]
      simp
      omega
  rw [hcut, least_eq, binade_eq, infRung_eq, show ((n.log2 : Int) - 52 - -1074).toNat = n.log2 + 1022 from by omega]
  refine congrArg (double.word s) ?_
  unfold rung
  generalize n * 2 ^ (52 - n.log2) = q at *
  generalize n.log2 = k at *
  rw [Nat.min_eq_left (by omega)]

/-- A word stands for a whole number. -/
def Rep (b : Nat) (n : Int) : Prop := if n = 0 then b = 0 ∨ b = 2 ^ 63 else b = double.word (decide (n < 0)) (rung n.natAbs)

theorem rung_bd {n : Nat} (h0 : n ≠ 0) (h : n < 2 ^ 53) : 2 ^ 52 ≤ rung n ∧ rung n < 2047 * 2 ^ 52 ∧ rung n / 2 ^ 52 = n.log2 + 1023 ∧ rung n % 2 ^ 52 = n * 2 ^ (52 - n.log2) - 2 ^ 52 := by
  have hk := kept_bd h0 h
  have hl := log2_le h
  unfold rung
  generalize n * 2 ^ (52 - n.log2) = q at *
  generalize n.log2 = k at *
  omega

theorem datum_eq {s : Bool} {m m' : Nat} {e e' : Int} (h1 : m = m') (h2 : e = e') : Datum.number s m e = Datum.number s m' e' := by rw [h1, h2]

/-- What a whole number's word is read as. -/
theorem rep_read {b : Nat} {n : Int} (hb : Rep b n) (h : n.natAbs < 2 ^ 53) :
    ∃ s m e, double.read b = .number s m e ∧ e ≤ 0 ∧ m = n.natAbs * 2 ^ (-e).toNat ∧ (n ≠ 0 → s = decide (n < 0)) := by
  unfold Rep at hb
  by_cases h0 : n = 0
  · rw [if_pos h0] at hb
    subst h0
    rcases hb with rfl | rfl
    · exact ⟨false, 0, -1074, by decide +kernel, by decide, (Nat.zero_mul _).symm, fun h => absurd rfl h⟩
    · exact ⟨true, 0, -1074, by decide +kernel, by decide, (Nat.zero_mul _).symm, fun h => absurd rfl h⟩
  · rw [if_neg h0] at hb
    have hne : n.natAbs ≠ 0 := by omega
    obtain ⟨r1, r2, r3, r4⟩ := rung_bd hne h
    have hk := kept_bd hne h
    have hl := log2_le h
    refine ⟨decide (n < 0), n.natAbs * 2 ^ (52 - n.natAbs.log2), (n.natAbs.log2 : Int) - 52, ?_, by omega, ?_, fun _ => rfl⟩
    · have hmod : b % double.signWeight = rung n.natAbs := by
        rw [hb, sign_eq]; unfold Format.word; rw [sign_eq]; split <;> omega
      have hneg : (b / double.signWeight % 2 == 1) = decide (n < 0) := by
        rw [hb, sign_eq]; unfold Format.word; rw [sign_eq]
        by_cases hc : n < 0 <;> simp only [hc, decide_true, decide_false, if_true, Bool.false_eq_true, if_false]
        · rw [beq_iff_eq]; omega
        · rw [beq_eq_false_iff_ne]; omega
      unfold Format.read
      simp only [hmod, hneg]
      rw [if_neg (by rw [binade_eq]; omega), if_pos (by rw [infRung_eq]; omega), binade_eq, r3, r4, least_eq]
      exact datum_eq (by omega) (by omega)
    · rw [show (-((n.natAbs.log2 : Int) - 52)).toNat = 52 - n.natAbs.log2 from by omega]

theorem rep_write {s : Bool} {m : Nat} {e : Int} {n : Int} (h : n.natAbs < 2 ^ 53) (he : e ≤ 0) (hm : m = n.natAbs * 2 ^ (-e).toNat) (hs : n ≠ 0 → s = decide (n < 0)) :
    Rep (double.write (.number s m e)) n := by
  unfold Rep
  by_cases h0 : n = 0
  · rw [if_pos h0]
    subst h0
    simp only [Int.natAbs_zero, Nat.zero_mul] at hm
    subst hm
    have hw : double.write (.number s 0 e) = double.word s 0 := by
      show double.nearest s 0 e = _
      unfold Format.nearest
      rw [if_pos rfl]
    rw [hw]
    cases s
    · left; decide +kernel
    · right; decide +kernel
  · rw [if_neg h0, ← hs h0]
    unfold Format.write
    exact nearest_exact s n.natAbs m e (by omega) h he hm

/-- 'mag * 2 ^ up' with its sign, as a product. -/
theorem signed_of {s : Bool} {m k : Nat} {e : Int} {n : Int} (hm : m = n.natAbs * 2 ^ k) (hs : n ≠ 0 → s = decide (n < 0)) :
    signed s m e.toNat = n * 2 ^ (k + e.toNat) := by
  unfold signed
  rw [Nat.shiftLeft_eq, hm, Nat.mul_assoc, ← Nat.pow_add]
  have key : ((n.natAbs * 2 ^ (k + e.toNat) : Nat) : Int) = (n.natAbs : Int) * 2 ^ (k + e.toNat) := by push_cast; rfl
  rw [key]
  by_cases h0 : n = 0
  · subst h0; cases s <;> simp
  · rw [hs h0]
    by_cases hc : n < 0
    · rw [if_pos (by simpa using hc), show ((n.natAbs : Nat) : Int) = -n from by omega, Int.neg_mul, Int.neg_neg]
    · rw [if_neg (by simpa using hc), show ((n.natAbs : Nat) : Int) = n from by omega]

theorem pow_int (k : Nat) : ((2 ^ k : Nat) : Int) = (2 : Int) ^ k := by push_cast; rfl

theorem rep_sum {d1 d2 : Datum} {a b : Int} {s t : Bool} {m n : Nat} {i j : Int} (h1 : d1 = .number s m i) (h2 : d2 = .number t n j) (hi : i ≤ 0) (hj : j ≤ 0)
    (hm : m = a.natAbs * 2 ^ (-i).toNat) (hn : n = b.natAbs * 2 ^ (-j).toNat) (hs : a ≠ 0 → s = decide (a < 0)) (ht : b ≠ 0 → t = decide (b < 0)) (h : (a + b).natAbs < 2 ^ 53) :
    ∃ r, (d1.sum d2).map double.write = some r ∧ Rep r (a + b) := by
  subst h1 h2
  refine ⟨_, rfl, ?_⟩
  have e1 : signed s m (i - min i j).toNat = a * 2 ^ (-(min i j)).toNat := by
    rw [signed_of hm hs]; congr 2; omega
  have e2 : signed t n (j - min i j).toNat = b * 2 ^ (-(min i j)).toNat := by
    rw [signed_of hn ht]; congr 2; omega
  rw [e1, e2, ← Int.add_mul]
  have hpos : (0 : Int) < 2 ^ (-(min i j)).toNat := by rw [← pow_int]; exact_mod_cast Nat.two_pow_pos _
  refine rep_write h (by omega) ?_ ?_
  · rw [Int.natAbs_mul, ← pow_int, Int.natAbs_natCast]
  · intro hne
    have : (a + b) * 2 ^ (-(min i j)).toNat ≠ 0 := Int.mul_ne_zero hne (by omega)
    rw [if_neg this, decide_eq_decide]
    constructor
    · intro hc
      by_cases hneg : a + b < 0
      · exact hneg
      · have := Int.mul_nonneg (by omega : 0 ≤ a + b) (Int.le_of_lt hpos); omega
    · intro hc; exact Int.mul_neg_of_neg_of_pos hc hpos

theorem rep_add {x y : Nat} {a b : Int} (hx : Rep x a) (hy : Rep y b) (ha : a.natAbs < 2 ^ 53) (hb : b.natAbs < 2 ^ 53) (h : (a + b).natAbs < 2 ^ 53) :
    ∃ r, floatBits .add .f64 x y = some r ∧ Rep r (a + b) := by
  obtain ⟨s, m, i, e1, hi, hm, hs⟩ := rep_read hx ha
  obtain ⟨t, n, j, e2, hj, hn, ht⟩ := rep_read hy hb
  exact rep_sum e1 e2 hi hj hm hn hs ht h

theorem rep_sub {x y : Nat} {a b : Int} (hx : Rep x a) (hy : Rep y b) (ha : a.natAbs < 2 ^ 53) (hb : b.natAbs < 2 ^ 53) (h : (a - b).natAbs < 2 ^ 53) :
    ∃ r, floatBits .sub .f64 x y = some r ∧ Rep r (a - b) := by
  obtain ⟨s, m, i, e1, hi, hm, hs⟩ := rep_read hx ha
  obtain ⟨t, n, j, e2, hj, hn, ht⟩ := rep_read hy hb
  have e2' : (double.read y).opposite = .number (!t) n j := by rw [e2]; rfl
  rw [Int.sub_eq_add_neg] at h ⊢
  refine rep_sum e1 e2' hi hj hm (b := -b) (by rw [Int.natAbs_neg]; exact hn) hs ?_ h
  intro hne
  rw [ht (by omega), ← decide_not, decide_eq_decide]; omega

theorem rep_mul {x y : Nat} {a b : Int} (hx : Rep x a) (hy : Rep y b) (ha : a.natAbs < 2 ^ 53) (hb : b.natAbs < 2 ^ 53) (h : (a * b).natAbs < 2 ^ 53) :
    ∃ r, floatBits .mul .f64 x y = some r ∧ Rep r (a * b) := by
  obtain ⟨s, m, i, e1, hi, hm, hs⟩ := rep_read hx ha
  obtain ⟨t, n, j, e2, hj, hn, ht⟩ := rep_read hy hb
  refine ⟨double.write (.number (s ^^ t) (m * n) (i + j)), ?_, ?_⟩
  · show ((double.read x).product (double.read y)).map double.write = _
    rw [e1, e2]; rfl
  · refine rep_write h (by omega) ?_ ?_
    · rw [hm, hn, Int.natAbs_mul, show (-(i + j)).toNat = (-i).toNat + (-j).toNat from by omega, Nat.pow_add]
      simp only [Nat.mul_assoc, Nat.mul_left_comm, Nat.mul_comm]
    · intro hne
      have h1 : a ≠ 0 := fun hc => hne (by rw [hc, Int.zero_mul])
      have h2 : b ≠ 0 := fun hc => hne (by rw [hc, Int.mul_zero])
      rw [hs h1, ht h2]
      rcases Int.lt_or_gt_of_ne h1 with ca | ca <;> rcases Int.lt_or_gt_of_ne h2 with cb | cb
      · have := Int.mul_pos_of_neg_of_neg ca cb
        simp [ca, cb, show ¬ a * b < 0 from by omega]
      · have := Int.mul_neg_of_neg_of_pos ca cb
        simp [ca, show ¬ b < 0 from by omega, this]
      · have := Int.mul_neg_of_pos_of_neg ca cb
        simp [cb, show ¬ a < 0 from by omega, this]
      · have := Int.mul_pos ca cb
        simp [show ¬ a < 0 from by omega, show ¬ b < 0 from by omega, show ¬ a * b < 0 from by omega]

theorem compare_mul (a b c : Int) (h : 0 < c) : compare (a * c) (b * c) = compare a b := by
  rcases Int.lt_trichotomy a b with hc | hc | hc
  · rw [Int.compare_eq_lt.2 hc, Int.compare_eq_lt.2 (Int.mul_lt_mul_of_pos_right hc h)]
  · subst hc; simp
  · rw [Int.compare_eq_gt.2 hc, Int.compare_eq_gt.2 (Int.mul_lt_mul_of_pos_right hc h)]

/-- The order of two whole numbers' words is the numbers'. -/
theorem rep_order {x y : Nat} {a b : Int} (hx : Rep x a) (hy : Rep y b) (ha : a.natAbs < 2 ^ 53) (hb : b.natAbs < 2 ^ 53) :
    double.order x y = some (compare a b) := by
  obtain ⟨s, m, i, e1, hi, hm, hs⟩ := rep_read hx ha
  obtain ⟨t, n, j, e2, hj, hn, ht⟩ := rep_read hy hb
  unfold Format.order
  rw [e1, e2]
  show some (compare (signed s m (i - min i j).toNat) (signed t n (j - min i j).toNat)) = _
  rw [signed_of hm hs, signed_of hn ht, show (-i).toNat + (i - min i j).toNat = (-(min i j)).toNat from by omega, show (-j).toNat + (j - min i j).toNat = (-(min i j)).toNat from by omega]
  have hpos : (0 : Int) < 2 ^ (-(min i j)).toNat := by rw [← pow_int]; exact_mod_cast Nat.two_pow_pos _
  rw [compare_mul _ _ _ hpos]

/-- A whole number, as a double. -/
theorem rep_int (n : Int) (h : n.natAbs < 2 ^ 53) : Rep (floatOfInt .f64 n) n :=
  rep_write h (Int.le_refl 0) (by simp) (fun _ => rfl)

/-- A double, as a whole number. -/
theorem rep_toInt {x : Nat} {a : Int} (hx : Rep x a) (ha : a.natAbs < 2 ^ 53) : floatToIntVal .f64 x .i64 = some a := by
  obtain ⟨s, m, i, e1, hi, hm, hs⟩ := rep_read hx ha
  have e1' : FloatKind.f64.decode x = .number s m i := e1
  unfold floatToIntVal
  rw [e1']
  have hcut : Toward.zero.cut s (m <<< i.toNat) (-i).toNat = a.natAbs := by
    rw [show i.toNat = 0 from by omega, Nat.shiftLeft_zero]
    unfold Toward.cut
    by_cases h0 : a.natAbs = 0
    · rw [hm, h0]; simp
    · have hlog : m.log2 = a.natAbs.log2 + (-i).toNat := by rw [hm]; exact log2_mul _ _ h0
      rw [show min (-i).toNat (m.log2 + 2) = (-i).toNat from by rw [hlog]; omega, Nat.shiftLeft_eq, Nat.one_mul]
      simp only [hm]
      rw [Nat.mul_div_cancel _ (Nat.two_pow_pos _)]
      simp
  show (match some (signed s (Toward.zero.cut s (m <<< i.toNat) (-i).toNat) 0) with | some n => if IntKind.min .i64 ≤ n ∧ n ≤ IntKind.max .i64 then some n else none | none => none) = _
  rw [hcut]
  have hsg : signed s a.natAbs 0 = a := by
    have := signed_of (s := s) (m := a.natAbs) (k := 0) (e := 0) (n := a) (by simp) hs
    simpa using this
  rw [hsg]
  have hb : IntKind.min .i64 ≤ a ∧ a ≤ IntKind.max .i64 := by
    simp [IntKind.min, IntKind.max, IntKind.signed, IntKind.bits]; omega
  simp only [hb, and_self, if_true]
end Go.Proofs.Ytfnbpnabhfkibaa
