/- What each function of package plane, and the functions of math beneath, come to. -/
import Derived.Test.YtfnbpnabhfkibaaFloat
import Derived.Test.YtfnbpnabhfkibaaRows
import Derived.WalkKit
import Derived.WalkSpells
import Derived.WalkLawsBesides
import Derived.Lib.Hide
namespace Go.Proofs.Ytfnbpnabhfkibaa
set_option linter.unusedVariables false
set_option linter.unusedSimpArgs false
open Go.RowKit Ieee

theorem run_bits (b : Nat) (w : World) : (callFunc 34 #[.float .f64 b]).run Try.prog w = .ok (.value (.int .u64 b)) w := by kernel_rfl
theorem run_frombits (n : Int) (w : World) : (callFunc 33 #[.int .u64 n]).run Try.prog w = .ok (.value (.float .f64 n.toNat)) w := by kernel_rfl

/-- A double without its sign. -/
def absB (b : Nat) : Nat := b % 2 ^ 63

theorem clear_top (b : Nat) (h : b < 2 ^ 64) : bits .andNot .u64 (b : Int) 9223372036854775808 = (absB b : Int) := by
  rw [show (9223372036854775808 : Int) = ((9223372036854775808 : Nat) : Int) from rfl, u64_andNot_nat b _ (by omega) (by decide)]
  rw [show 18446744073709551615 - 9223372036854775808 = 2 ^ 63 - 1 from by decide, Nat.and_two_pow_sub_one_eq_mod]
  rfl

set_option maxHeartbeats 400000 in
theorem abs_any (b : Nat) (h : b < 2 ^ 64) (w : World) :
    Calls Try.prog 30 #[.float .f64 b] w fun e w' => e = .returned (.float .f64 (absB b)) ∧ w = w' := by
  have hc := clear_top b h
  have h1 := run_bits
  have h2 := run_frombits
  clear h
  go_enter Try.func30, Try.ntmps30
  go_wp2
  go_ret
  exact ⟨by simp, rfl⟩

theorem rep_lt {b : Nat} {n : Int} (h : Rep b n) (hn : n.natAbs < 2 ^ 53) : b < 2 ^ 64 := by
  unfold Rep at h
  by_cases h0 : n = 0
  · rw [if_pos h0] at h; omega
  · rw [if_neg h0] at h
    have := rung_bd (n := n.natAbs) (by omega) hn
    rw [h]; unfold Format.word; rw [sign_eq]; split <;> omega

theorem rep_pos {b : Nat} {n : Int} (h : Rep b n) (hn : 0 < n) : b = rung n.natAbs := by
  unfold Rep at h
  rw [if_neg (by omega)] at h
  rw [h, show decide (n < 0) = false from by simp; omega]; rfl

theorem rep_of_pos {n : Int} (hn : 0 < n) : Rep (rung n.natAbs) n := by
  unfold Rep
  rw [if_neg (by omega), show decide (n < 0) = false from by simp; omega]; rfl

theorem rep_abs {b : Nat} {n : Int} (h : Rep b n) (hn : n.natAbs < 2 ^ 53) : Rep (absB b) (n.natAbs : Int) := by
  unfold Rep at h ⊢
  unfold absB
  by_cases h0 : n = 0
  · rw [if_pos h0] at h; rw [if_pos (by omega)]; rcases h with rfl | rfl
    · left; rfl
    · left; decide
  · rw [if_neg h0] at h; rw [if_neg (by omega)]
    have := rung_bd (n := n.natAbs) (by omega) hn
    have hw : b % 2 ^ 63 = rung n.natAbs := by
      rw [h]; unfold Format.word; rw [sign_eq]; split <;> omega
    rw [hw, show decide ((n.natAbs : Int) < 0) = false from by simp]
    rfl

/-- What a number above nought is read as. -/
theorem read_rung {n : Nat} (h0 : n ≠ 0) (h : n < 2 ^ 53) : double.read (rung n) = .number false (n * 2 ^ (52 - n.log2)) ((n.log2 : Int) - 52) := by
  have hr := rung_bd h0 h
  obtain ⟨r1, r2, r3, r4⟩ := hr
  have hk := kept_bd h0 h
  unfold Format.read
  have hmod : rung n % double.signWeight = rung n := by rw [sign_eq]; omega
  have hneg : (rung n / double.signWeight % 2 == 1) = false := by rw [sign_eq, beq_eq_false_iff_ne]; omega
  simp only [hmod, hneg]
  rw [if_neg (by rw [binade_eq]; omega), if_pos (by rw [infRung_eq]; omega), binade_eq, r3, r4, least_eq]
  exact datum_eq (by omega) (by omega)

theorem max_order {n : Nat} (h : n < 2 ^ 53) : double.order (if n = 0 then 0 else rung n) 9218868437227405311 = some .lt := by
  have hM : double.read 9218868437227405311 = .number false (2 ^ 53 - 1) 971 := by decide +kernel
  unfold Format.order
  rw [hM]
  by_cases h0 : n = 0
  · rw [if_pos h0]; decide +kernel
  · rw [if_neg h0, read_rung h0 h]
    have hl := log2_le h
    have hk := kept_bd h0 h
    show some (compare (signed false (n * 2 ^ (52 - n.log2)) (((n.log2 : Int) - 52) - min ((n.log2 : Int) - 52) 971).toNat) (signed false (2 ^ 53 - 1) (971 - min ((n.log2 : Int) - 52) 971).toNat)) = _
    rw [show min ((n.log2 : Int) - 52) 971 = (n.log2 : Int) - 52 from by omega, show (((n.log2 : Int) - 52) - ((n.log2 : Int) - 52)).toNat = 0 from by omega]
    generalize hj : (971 - ((n.log2 : Int) - 52)).toNat = j
    have hj1 : 1 ≤ j := by omega
    unfold signed
    simp only [Bool.false_eq_true, if_false, Nat.shiftLeft_zero, Nat.shiftLeft_eq]
    rw [Int.compare_eq_lt.2]
    have : 2 ^ 1 ≤ 2 ^ j := Nat.pow_le_pow_right (by decide) hj1
    have h3 : (2 ^ 53 - 1) * 2 ^ 1 ≤ (2 ^ 53 - 1) * 2 ^ j := Nat.mul_le_mul_left _ this
    have h4 : (2 ^ 53 - 1) * 2 ^ 1 > 2 ^ 53 := by decide
    omega

theorem small_order {n : Nat} (h0 : n ≠ 0) (h : n < 2 ^ 53) : double.order (rung n) 4503599627370496 = some .gt := by
  have hM : double.read 4503599627370496 = .number false (2 ^ 52) (-1074) := by decide +kernel
  unfold Format.order
  rw [hM, read_rung h0 h]
  have hl := log2_le h
  have hk := kept_bd h0 h
  show some (compare (signed false (n * 2 ^ (52 - n.log2)) (((n.log2 : Int) - 52) - min ((n.log2 : Int) - 52) (-1074)).toNat) (signed false (2 ^ 52) (-1074 - min ((n.log2 : Int) - 52) (-1074)).toNat)) = _
  rw [show min ((n.log2 : Int) - 52) (-1074) = -1074 from by omega, show ((-1074 : Int) - -1074).toNat = 0 from by omega]
  generalize hj : (((n.log2 : Int) - 52) - -1074).toNat = j
  have hj1 : 1 ≤ j := by omega
  unfold signed
  simp only [Bool.false_eq_true, if_false, Nat.shiftLeft_zero, Nat.shiftLeft_eq]
  rw [Int.compare_eq_gt.2]
  have : 2 ^ 1 ≤ 2 ^ j := Nat.pow_le_pow_right (by decide) hj1
  generalize n * 2 ^ (52 - n.log2) = q at *
  have h3 : q * 2 ^ 1 ≤ q * 2 ^ j := Nat.mul_le_mul_left _ this
  omega

/-- The fraction that Frexp gives. -/
def frB (n : Nat) : Nat := 1022 * 2 ^ 52 + (n * 2 ^ (52 - n.log2) - 2 ^ 52)

theorem frB_order {n : Nat} (h0 : n ≠ 0) (h : n < 2 ^ 53) : (double.order (frB n) 4602678819172646912 == some .lt) = false := by
  have hM : double.read 4602678819172646912 = .number false (2 ^ 52) (-53) := by decide +kernel
  have hk := kept_bd h0 h
  have hR : double.read (frB n) = .number false (n * 2 ^ (52 - n.log2)) (-53) := by
    unfold frB
    generalize n * 2 ^ (52 - n.log2) = q at *
    unfold Format.read
    rw [show (1022 * 2 ^ 52 + (q - 2 ^ 52)) % double.signWeight = 1022 * 2 ^ 52 + (q - 2 ^ 52) from by rw [sign_eq]; omega,
      show ((1022 * 2 ^ 52 + (q - 2 ^ 52)) / double.signWeight % 2 == 1) = false from by rw [sign_eq, beq_eq_false_iff_ne]; omega]
    simp only
    rw [if_neg (by rw [binade_eq]; omega), if_pos (by rw [infRung_eq]; omega), binade_eq, least_eq]
    exact datum_eq (by omega) (by omega)
  unfold Format.order
  rw [hM, hR]
  have e0 : ((-53 : Int) - min (-53) (-53)).toNat = 0 := by decide
  have es : Datum.order (.number false (n * 2 ^ (52 - n.log2)) (-53)) (.number false (2 ^ 52) (-53)) = some (compare (signed false (n * 2 ^ (52 - n.log2)) 0) (signed false (2 ^ 52) 0)) := by
    rw [← e0]; rfl
  rw [es]
  unfold signed
  simp only [Bool.false_eq_true, if_false, Nat.shiftLeft_zero]
  generalize n * 2 ^ (52 - n.log2) = q at *
  by_cases hq : q = 2 ^ 52
  · rw [Int.compare_eq_eq.2 (by omega)]; rfl
  · rw [Int.compare_eq_gt.2 (by omega)]; rfl

set_option maxHeartbeats 400000 in
theorem isInf_any (b : Nat) (n : Int) (hr : Rep b n) (hn : n.natAbs < 2 ^ 53) (w : World) :
    Calls Try.prog 27 #[.float .f64 b, .int .i64 0] w fun e w' => e = .returned (.bool false) ∧ w = w' := by
  have hb := rep_lt hr hn
  have hA := rep_abs hr hn
  have hm := max_order hn
  have ho : double.order (absB b) 9218868437227405311 = some .lt := by
    by_cases h0 : n.natAbs = 0
    · rw [if_pos h0] at hm
      unfold Rep at hA
      rw [if_pos (by omega)] at hA
      rcases hA with hA | hA
      · rw [hA]; exact hm
      · unfold absB at hA; omega
    · rw [if_neg h0] at hm
      rw [rep_pos hA (by omega)]; exact hm
  have ho' : (FloatKind.f64.format.order (absB b) 9218868437227405311 == some .gt) = false := by
    show (double.order (absB b) 9218868437227405311 == some .gt) = false
    rw [ho]; rfl
  clear hm ho hA hr
  go_enter Try.func27, Try.ntmps27
  go_wp2_with (go_at_call 30; refine (abs_any b hb _).mono ?_; rintro e w' ⟨rfl, rfl⟩)
  go_ret
  exact ⟨rfl, rfl⟩

theorem rep_self {b : Nat} {n : Int} (hr : Rep b n) (hn : n.natAbs < 2 ^ 53) : double.order b b = some .eq := by
  rw [rep_order hr hr hn hn]; simp

set_option maxHeartbeats 400000 in
theorem isNaN_any (b : Nat) (n : Int) (hr : Rep b n) (hn : n.natAbs < 2 ^ 53) (w : World) :
    Calls Try.prog 28 #[.float .f64 b] w fun e w' => e = .returned (.bool false) ∧ w = w' := by
  have ho' : (FloatKind.f64.format.order b b != some .eq) = false := by
    show (double.order b b != some .eq) = false
    rw [rep_self hr hn]; rfl
  clear hr
  go_enter Try.func28, Try.ntmps28
  go_wp2
  go_ret
  exact ⟨rfl, rfl⟩

set_option maxHeartbeats 400000 in
theorem normalize_any (n : Nat) (h0 : n ≠ 0) (hn : n < 2 ^ 53) (w : World) :
    Calls Try.prog 39 #[.float .f64 (rung n)] w fun e w' => e = .returned (.tuple #[.float .f64 (rung n), .int .i64 0]) ∧ w = w' := by
  have hb := rung_bd h0 hn
  have ha : absB (rung n) = rung n := by unfold absB; omega
  have ho' : (FloatKind.f64.format.order (absB (rung n)) 4503599627370496 == some .lt) = false := by
    rw [ha]
    show (double.order (rung n) 4503599627370496 == some .lt) = false
    rw [small_order h0 hn]; rfl
  have hb' : rung n < 2 ^ 64 := by omega
  clear hb ha h0 hn
  go_enter Try.func39, Try.ntmps39
  go_wp2_with (go_at_call 30; refine (abs_any (rung n) hb' _).mono ?_; rintro e w' ⟨rfl, rfl⟩)
  go_ret2
  exact ⟨rfl, rfl⟩

end Go.Proofs.Ytfnbpnabhfkibaa
