/- Frexp and Ldexp of package math, at whole numbers' doubles: what they give. -/
import Derived.Test.YtfnbpnabhfkibaaPlaneWalks
namespace Go.Proofs.Ytfnbpnabhfkibaa
set_option linter.unusedVariables false
set_option linter.unusedSimpArgs false
open Go.RowKit Ieee

theorem rung_zero {n : Nat} (h0 : n ≠ 0) (h : n < 2 ^ 53) : (FloatKind.f64.format.order (rung n) 0 == some .eq) = false := by
  have hr := rep_of_pos (n := n) (by omega)
  have h0' : Rep 0 0 := by unfold Rep; simp
  have := rep_order (x := rung n) (y := 0) (a := n) (b := 0) (by simpa using hr) h0' (by omega) (by decide)
  show (double.order (rung n) 0 == some .eq) = false
  rw [this, Int.compare_eq_gt.2 (by omega)]; rfl

theorem frexp_bits {n : Nat} (h0 : n ≠ 0) (h : n < 2 ^ 53) :
    bits .and .u64 ((rung n : Int) / 4503599627370496) 2047 = (n.log2 : Int) + 1023 ∧
    bits .andNot .u64 (rung n : Int) 9218868437227405312 = ((n * 2 ^ (52 - n.log2) - 2 ^ 52 : Nat) : Int) ∧
    bits .or .u64 ((n * 2 ^ (52 - n.log2) - 2 ^ 52 : Nat) : Int) 4602678819172646912 = (frB n : Int) := by
  obtain ⟨r1, r2, r3, r4⟩ := rung_bd h0 h
  have hk := kept_bd h0 h
  have hl := log2_le h
  unfold frB
  generalize n * 2 ^ (52 - n.log2) = q at *
  generalize rung n = r at *
  generalize n.log2 = k at *
  refine ⟨?_, ?_, ?_⟩
  · rw [show ((r : Int) / 4503599627370496) = ((k + 1023 : Nat) : Int) from by omega, show (2047 : Int) = ((2047 : Nat) : Int) from rfl, u64_and_nat _ _ (by omega) (by decide),
      show (2047 : Nat) = 2 ^ 11 - 1 from by decide, Nat.and_two_pow_sub_one_eq_mod]
    omega
  · rw [show (9218868437227405312 : Int) = ((9218868437227405312 : Nat) : Int) from rfl, u64_andNot_nat _ _ (by omega) (by decide),
      show 18446744073709551615 - 9218868437227405312 = 2 ^ 52 - 1 + 2 ^ 63 from by decide]
    have e1 : r &&& (2 ^ 52 - 1 + 2 ^ 63) = r % 2 ^ 52 := by
      have hj : (2 ^ 52 - 1 + 2 ^ 63 : Nat) = 2 ^ 63 ||| (2 ^ 52 - 1) := by decide
      rw [hj, Nat.and_or_distrib_left, Nat.and_two_pow_sub_one_eq_mod, nat_bit, show r / 2 ^ 63 = 0 from by omega]
      simp
    rw [e1, r4]
  · rw [show (4602678819172646912 : Int) = ((4602678819172646912 : Nat) : Int) from rfl, u64_or_nat _ _ (by omega) (by decide), Nat.or_comm, nat_join 52 _ _ (by decide) (by omega)]

set_option maxHeartbeats 400000 in
theorem frexp_any (n : Nat) (h0 : n ≠ 0) (hn : n < 2 ^ 53) (w : World) :
    Calls Try.prog 36 #[.float .f64 (rung n)] w fun e w' => e = .returned (.tuple #[.float .f64 (frB n), .int .i64 (n.log2 + 1)]) ∧ w = w' := by
  have hz := rung_zero h0 hn
  have hr : Rep (rung n) n := by simpa using rep_of_pos (n := n) (by omega)
  have h1 := run_bits
  have h2 := run_frombits
  have hl := log2_le hn
  obtain ⟨b1, b2, b3⟩ := frexp_bits h0 hn
  go_enter Try.func36, Try.ntmps36
  go_wp2_with (first | (go_at_call 27; refine (isInf_any (rung n) n hr (by omega) _).mono ?_; rintro e w' ⟨rfl, rfl⟩) | (go_at_call 28; refine (isNaN_any (rung n) n hr (by omega) _).mono ?_; rintro e w' ⟨rfl, rfl⟩) | (go_at_call 39; refine (normalize_any n h0 hn _).mono ?_; rintro e w' ⟨rfl, rfl⟩))
  go_ret2
  exact ⟨by simp [show ∀ x : Int, x + 1023 - 1023 = x from fun x => by omega], rfl⟩

set_option maxHeartbeats 400000 in
theorem Frexp_any (n : Nat) (h0 : n ≠ 0) (hn : n < 2 ^ 53) (w : World) :
    Calls Try.prog 31 #[.float .f64 (rung n)] w fun e w' => e = .returned (.tuple #[.float .f64 (frB n), .int .i64 (n.log2 + 1)]) ∧ w = w' := by
  go_enter Try.func31, Try.ntmps31
  go_wp2_with (go_at_call 36; refine (frexp_any n h0 hn _).mono ?_; rintro e w' ⟨rfl, rfl⟩)
  go_ret2
  exact ⟨rfl, rfl⟩

theorem rung_pow (k : Nat) (h : k ≤ 52) : rung (2 ^ k) = (k + 1023) * 2 ^ 52 := by
  unfold rung
  rw [Nat.log2_two_pow, ← Nat.pow_add, show k + (52 - k) = 52 from by omega]
  omega

theorem big_eq : (4715268809856909312 : Nat) = rung (2 ^ 24) := by rw [rung_pow 24 (by decide)]
theorem one_mul_bits {b : Nat} {n : Int} (h : b = rung n.natAbs) (h0 : 0 < n) (hn : n.natAbs < 2 ^ 53) : floatBits .mul .f64 4607182418800017408 b = some b := by
  have h1 : Rep 4607182418800017408 1 := by
    have h := rep_of_pos (n := ((2 ^ 0 : Nat) : Int)) (by decide)
    rw [Int.natAbs_natCast, rung_pow 0 (by decide)] at h
    exact h
  have h2 := rep_of_pos h0
  rw [← h] at h2
  obtain ⟨r, e1, e2⟩ := rep_mul h1 h2 (by decide) hn (by rw [Int.one_mul]; exact hn)
  rw [Int.one_mul] at e2
  rw [e1, rep_pos e2 h0, h]

theorem ldexp_bits (k : Nat) (h : k ≤ 52) : bits .andNot .u64 4715268809856909312 9218868437227405312 = 0 ∧
    bits .and .i64 1047 2047 = 1047 ∧ bits .or .u64 0 (((k : Int) + 1023) * 4503599627370496) = ((rung (2 ^ k) : Nat) : Int) := by
  refine ⟨by decide +kernel, by decide +kernel, ?_⟩
  rw [rung_pow k h, show ((k : Int) + 1023) * 4503599627370496 = (((k + 1023) * 2 ^ 52 : Nat) : Int) from by omega, show (0 : Int) = ((0 : Nat) : Int) from rfl, u64_or_nat _ _ (by decide) (by omega), Nat.zero_or]

set_option maxHeartbeats 400000 in
theorem ldexp_any (k : Nat) (h24 : 24 ≤ k) (hk : k ≤ 52) (w : World) :
    Calls Try.prog 38 #[.float .f64 4715268809856909312, .int .i64 ((k : Int) - 24)] w fun e w' => e = .returned (.float .f64 (rung (2 ^ k))) ∧ w = w' := by
  have hz : (FloatKind.f64.format.order 4715268809856909312 0 == some .eq) = false := by rw [big_eq]; exact rung_zero (by decide) (by decide)
  have hr : Rep 4715268809856909312 ((2 ^ 24 : Nat) : Int) := by rw [big_eq]; exact rep_of_pos (n := ((2 ^ 24 : Nat) : Int)) (by decide)
  have hN := normalize_any (2 ^ 24) (by decide) (by decide)
  rw [← big_eq] at hN
  have h1 := run_bits
  have h2 := run_frombits
  obtain ⟨b1, b2, b3⟩ := ldexp_bits k hk
  have hp : 2 ^ k < 2 ^ 53 := Nat.pow_lt_pow_right (by decide) (by omega)
  have hp0 : 0 < 2 ^ k := Nat.two_pow_pos k
  have hm : ∀ w, (binOp .mul 46 (.float .f64 4607182418800017408) (.float .f64 (rung (2 ^ k)))).run Try.prog w = .ok (.float .f64 (rung (2 ^ k))) w :=
    fun w => run_float_arith w .mul _ .f64 _ _ _ (one_mul_bits (n := ((2 ^ k : Nat) : Int)) (by rw [Int.natAbs_natCast]) (by omega) (by omega))
  clear hp hp0
  go_enter Try.func38, Try.ntmps38
  go_wp2_with (first | (go_at_call 27; refine (isInf_any _ _ hr (by decide) _).mono ?_; rintro e w' ⟨rfl, rfl⟩) | (go_at_call 28; refine (isNaN_any _ _ hr (by decide) _).mono ?_; rintro e w' ⟨rfl, rfl⟩) | (go_at_call 39; refine (hN _).mono ?_; rintro e w' ⟨rfl, rfl⟩))
  go_ret
  exact ⟨by simp, rfl⟩

set_option maxHeartbeats 400000 in
theorem Ldexp_any (k : Nat) (h24 : 24 ≤ k) (hk : k ≤ 52) (w : World) :
    Calls Try.prog 32 #[.float .f64 4715268809856909312, .int .i64 ((k : Int) - 24)] w fun e w' => e = .returned (.float .f64 (rung (2 ^ k))) ∧ w = w' := by
  go_enter Try.func32, Try.ntmps32
  go_wp2_with (go_at_call 38; refine (ldexp_any k h24 hk _).mono ?_; rintro e w' ⟨rfl, rfl⟩)
  go_ret
  exact ⟨rfl, rfl⟩

/-- A sum of floats is an operation's run. -/
theorem run_fl {op : BinOp} {x y r : Nat} (h : floatBits op .f64 x y = some r) (w : World) : (binOp op 46 (.float .f64 x) (.float .f64 y)).run Try.prog w = .ok (.float .f64 r) w :=
  run_float_arith w op _ .f64 x y r h

/-- The word of a number that is not below nought. -/
def numB (n : Nat) : Nat := if n = 0 then 0 else rung n
theorem rep_numB (n : Nat) : Rep (numB n) (n : Int) := by
  unfold numB
  by_cases h0 : n = 0
  · subst h0; unfold Rep; simp
  · rw [if_neg h0]; simpa using rep_of_pos (n := (n : Int)) (by omega)

/-- What remains of a number, the greatest power of two taken away again and again while it is 2^24 or more. -/
theorem sub_top {n : Nat} (h : 2 ^ 24 ≤ n) (hn : n < 2 ^ 53) : floatBits .sub .f64 (rung n) (rung (2 ^ n.log2)) = some (numB (n - 2 ^ n.log2)) := by
  have h0 : n ≠ 0 := by omega
  have hlo := log2_lo h0
  have hl := log2_le hn
  have hp : 2 ^ n.log2 < 2 ^ 53 := Nat.pow_lt_pow_right (by decide) (by omega)
  have hp0 : 0 < 2 ^ n.log2 := Nat.two_pow_pos _
  have h1 := rep_of_pos (n := (n : Int)) (by omega)
  have h2 := rep_of_pos (n := ((2 ^ n.log2 : Nat) : Int)) (by omega)
  rw [Int.natAbs_natCast] at h1 h2
  obtain ⟨r, e1, e2⟩ := rep_sub h1 h2 (by omega) (by omega) (by omega)
  rw [e1]
  refine congrArg some ?_
  have hd : (n : Int) - ((2 ^ n.log2 : Nat) : Int) = ((n - 2 ^ n.log2 : Nat) : Int) := by omega
  rw [hd] at e2
  by_cases hz : n - 2 ^ n.log2 = 0
  · -- the difference of two equal numbers is nought, without a sign
    have hnn : n = 2 ^ n.log2 := by omega
    unfold numB
    rw [if_pos hz]
    rw [← hnn] at e1
    have e3 : floatBits .sub .f64 (rung n) (rung n) = some 0 := by
      show (((double.read (rung n)).sum (double.read (rung n)).opposite).map double.write) = some 0
      rw [read_rung h0 hn]
      show some (double.write (.number _ _ _)) = some 0
      generalize hq : n * 2 ^ (52 - n.log2) = q
      have hs : signed false q (((n.log2 : Int) - 52) - min ((n.log2 : Int) - 52) ((n.log2 : Int) - 52)).toNat + signed true q (((n.log2 : Int) - 52) - min ((n.log2 : Int) - 52) ((n.log2 : Int) - 52)).toNat = 0 := by
        unfold signed; simp; omega
      simp only [Bool.not_false, hs, Int.natAbs_zero, if_true, Bool.false_and]
      show some (double.nearest false 0 _) = some 0
      unfold Format.nearest
      rw [if_pos rfl]; rfl
    rw [e3] at e1
    exact (Option.some.inj e1).symm
  · rw [rep_pos e2 (by omega), Int.natAbs_natCast]
    unfold numB
    rw [if_neg hz]
end Go.Proofs.Ytfnbpnabhfkibaa
