/- plane's sums, products, parts and comparisons of points: what they give. -/
import Derived.Test.YtfnbpnabhfkibaaPlaneW3
namespace Go.Proofs.Ytfnbpnabhfkibaa
set_option linter.unusedVariables false
set_option linter.unusedSimpArgs false
open Go.RowKit Ieee

set_option maxHeartbeats 1000000 in
theorem wrapped_any (x y : Nat) (n m : Int) (hx : Rep x n) (hy : Rep y m) (hn : n.natAbs < 2 ^ 53) (hm : m.natAbs < 2 ^ 53) (w : World) :
    Calls Try.prog 22 #[.complex .f64 x y] w fun e w' => e = .returned (pt (part n) (part m)) ∧ w = w' := by
  have h1 := part_any x n hx hn
  have h2 := part_any y m hy hm
  clear hx hy hn hm
  go_enter Try.func22, Try.ntmps22
  go_wp2_with fail
  refine (h1 _).mono ?_
  rintro e w' ⟨rfl, rfl⟩
  go_wp2_with fail
  refine (h2 _).mono ?_
  rintro e w' ⟨rfl, rfl⟩
  go_wp2
  go_ret
  exact ⟨rfl, rfl⟩

set_option maxHeartbeats 1000000 in
theorem add_any (a b c d : Int) (ha : -8388608 ≤ a ∧ a < 8388608) (hb : -8388608 ≤ b ∧ b < 8388608) (hc : -8388608 ≤ c ∧ c < 8388608) (hd : -8388608 ≤ d ∧ d < 8388608) (w : World) :
    Calls Try.prog 10 #[pt a b, pt c d] w fun e w' => e = .returned (pt (part (a + c)) (part (b + d))) ∧ w = w' := by
  obtain ⟨r, e1, hr⟩ := rep_add (rep_fl a) (rep_fl c) (by omega) (by omega) (by omega)
  obtain ⟨s, e2, hs⟩ := rep_add (rep_fl b) (rep_fl d) (by omega) (by omega) (by omega)
  have hC : ∀ w, (binOp .add 24 (.complex .f64 (fl a) (fl b)) (.complex .f64 (fl c) (fl d))).run Try.prog w = .ok (.complex .f64 r s) w := fun w =>
    run_complex_sum w .add (.inl rfl) _ .f64 _ _ _ _ r s (by unfold cSumBits; rw [e1, e2]; rfl)
  have hW := fun w => wrapped_any r s _ _ hr hs (by omega) (by omega) w
  clear e1 e2 hr hs ha hb hc hd
  unfold pt at *
  go_enter Try.func10, Try.ntmps10
  go_wp2_with (go_at_call 22; refine (hW _).mono ?_; rintro e w' ⟨rfl, rfl⟩)
  go_ret
  exact ⟨rfl, rfl⟩

theorem mul_lt_of {a c : Int} (ha : -8388608 ≤ a ∧ a < 8388608) (hc : -8388608 ≤ c ∧ c < 8388608) : (a * c).natAbs ≤ 2 ^ 46 := by
  rw [Int.natAbs_mul]
  calc a.natAbs * c.natAbs ≤ 2 ^ 23 * 2 ^ 23 := Nat.mul_le_mul (by omega) (by omega)
    _ = 2 ^ 46 := by decide

set_option maxHeartbeats 1000000 in
theorem mul_any (a b c d : Int) (ha : -8388608 ≤ a ∧ a < 8388608) (hb : -8388608 ≤ b ∧ b < 8388608) (hc : -8388608 ≤ c ∧ c < 8388608) (hd : -8388608 ≤ d ∧ d < 8388608) (w : World) :
    Calls Try.prog 11 #[pt a b, pt c d] w fun e w' => e = .returned (pt (part (a * c - b * d)) (part (a * d + b * c))) ∧ w = w' := by
  have m1 := mul_lt_of ha hc
  have m2 := mul_lt_of hb hd
  have m3 := mul_lt_of ha hd
  have m4 := mul_lt_of hb hc
  obtain ⟨r1, e1, h1⟩ := rep_mul (rep_fl a) (rep_fl c) (by omega) (by omega) (by omega)
  obtain ⟨r2, e2, h2⟩ := rep_mul (rep_fl b) (rep_fl d) (by omega) (by omega) (by omega)
  obtain ⟨r3, e3, h3⟩ := rep_mul (rep_fl a) (rep_fl d) (by omega) (by omega) (by omega)
  obtain ⟨r4, e4, h4⟩ := rep_mul (rep_fl b) (rep_fl c) (by omega) (by omega) (by omega)
  generalize a * c = ac at *
  generalize b * d = bd' at *
  generalize a * d = ad at *
  generalize b * c = bc' at *
  obtain ⟨r5, e5, h5⟩ := rep_sub h1 h2 (by omega) (by omega) (by omega)
  obtain ⟨r6, e6, h6⟩ := rep_add h3 h4 (by omega) (by omega) (by omega)
  have f1 := run_fl e1
  have f2 := run_fl e2
  have f3 := run_fl e3
  have f4 := run_fl e4
  have f5 := run_fl e5
  have f6 := run_fl e6
  have hW := fun w => wrapped_any r5 r6 _ _ h5 h6 (by omega) (by omega) w
  clear e1 e2 e3 e4 e5 e6 h1 h2 h3 h4 h5 h6 m1 m2 m3 m4 ha hb hc hd
  unfold pt at *
  go_enter Try.func11, Try.ntmps11
  go_wp2_with (go_at_call 22; refine (hW _).mono ?_; rintro e w' ⟨rfl, rfl⟩)
  go_ret
  exact ⟨rfl, rfl⟩

set_option maxHeartbeats 400000 in
theorem re_any (a b : Int) (ha : -8388608 ≤ a ∧ a < 8388608) (w : World) :
    Calls Try.prog 13 #[pt a b] w fun e w' => e = .returned (.int .i64 a) ∧ w = w' := by
  have hc : ∀ w, (convert 46 2 (.float .f64 (fl a))).run Try.prog w = .ok (.int .i64 a) w := fun w =>
    run_convert_float_int w _ _ .f64 .i64 _ a (by kernel_rfl) (by kernel_rfl) (rep_toInt (rep_fl a) (by omega))
  unfold pt
  clear ha
  go_enter Try.func13, Try.ntmps13
  go_wp2
  go_ret
  exact ⟨rfl, rfl⟩
set_option maxHeartbeats 400000 in
theorem im_any (a b : Int) (hb : -8388608 ≤ b ∧ b < 8388608) (w : World) :
    Calls Try.prog 12 #[pt a b] w fun e w' => e = .returned (.int .i64 b) ∧ w = w' := by
  have hc : ∀ w, (convert 46 2 (.float .f64 (fl b))).run Try.prog w = .ok (.int .i64 b) w := fun w =>
    run_convert_float_int w _ _ .f64 .i64 _ b (by kernel_rfl) (by kernel_rfl) (rep_toInt (rep_fl b) (by omega))
  unfold pt
  clear hb
  go_enter Try.func12, Try.ntmps12
  go_wp2
  go_ret
  exact ⟨rfl, rfl⟩

/-- Two points are the same where their parts are. -/
theorem eql_pt (t : TypeId) (a b c d : Int) (ba : -8388608 ≤ a ∧ a < 8388608) (bb : -8388608 ≤ b ∧ b < 8388608) (bc : -8388608 ≤ c ∧ c < 8388608) (bd : -8388608 ≤ d ∧ d < 8388608) (w : World) :
    (binOp .eql t (pt a b) (pt c d)).run Try.prog w = .ok (.bool (a == c && b == d)) w ∧ (binOp .neq t (pt a b) (pt c d)).run Try.prog w = .ok (.bool (!(a == c && b == d))) w := by
  have e1 := eq_of (rep_fl a) (rep_fl c) (by omega) (by omega)
  have e2 := eq_of (rep_fl b) (rep_fl d) (by omega) (by omega)
  have e1' : (FloatKind.f64.format.order (fl a) (fl c) == some .eq) = (a == c) := by rw [e1]; by_cases h : a = c <;> simp [h]
  have e2' : (FloatKind.f64.format.order (fl b) (fl d) == some .eq) = (b == d) := by rw [e2]; by_cases h : b = d <;> simp [h]
  unfold pt
  constructor <;> simp [binOp, Op.equal, Op.complexOp, Op.Complex.cmp, Op.floatCmp, asBool, e1', e2']

theorem eql_parts (t : TypeId) (a b c d : Int) (w : World) :
    (binOp .eql t (pt (part a) (part b)) (pt (part c) (part d))).run Try.prog w = .ok (.bool (part a == part c && part b == part d)) w :=
  (eql_pt t _ _ _ _ (part_bd _) (part_bd _) (part_bd _) (part_bd _) w).1
theorem neq_parts (t : TypeId) (a b c d : Int) (w : World) :
    (binOp .neq t (pt (part a) (part b)) (pt (part c) (part d))).run Try.prog w = .ok (.bool (!(part a == part c && part b == part d))) w :=
  (eql_pt t _ _ _ _ (part_bd _) (part_bd _) (part_bd _) (part_bd _) w).2

theorem add_parts (a b c d : Int) (w : World) :
    Calls Try.prog 10 #[pt (part a) (part b), pt (part c) (part d)] w fun e w' => e = .returned (pt (part (a + c)) (part (b + d))) ∧ w = w' := by
  have := add_any (part a) (part b) (part c) (part d) (part_bd _) (part_bd _) (part_bd _) (part_bd _) w
  rwa [show part (part a + part c) = part (a + c) from by unfold part; omega, show part (part b + part d) = part (b + d) from by unfold part; omega] at this

theorem part_of_dvd {x y k : Int} (h : x - y = 16777216 * k) : part x = part y := by unfold part; omega
theorem part_self (x : Int) : ∃ k, part x - x = 16777216 * k := ⟨(part x - x) / 16777216, by unfold part; omega⟩

theorem part_mul (a c b d : Int) : part (part a * part c - part b * part d) = part (a * c - b * d) := by
  obtain ⟨k1, h1⟩ := part_self a
  obtain ⟨k2, h2⟩ := part_self b
  obtain ⟨k3, h3⟩ := part_self c
  obtain ⟨k4, h4⟩ := part_self d
  generalize part a = a' at *
  generalize part b = b' at *
  generalize part c = c' at *
  generalize part d = d' at *
  refine part_of_dvd (k := k1 * c + k3 * a + 16777216 * (k1 * k3) - (k2 * d + k4 * b + 16777216 * (k2 * k4))) ?_
  obtain rfl : a' = a + 16777216 * k1 := by omega
  obtain rfl : b' = b + 16777216 * k2 := by omega
  obtain rfl : c' = c + 16777216 * k3 := by omega
  obtain rfl : d' = d + 16777216 * k4 := by omega
  grind
theorem part_mul' (a d b c : Int) : part (part a * part d + part b * part c) = part (a * d + b * c) := by
  obtain ⟨k1, h1⟩ := part_self a
  obtain ⟨k2, h2⟩ := part_self b
  obtain ⟨k3, h3⟩ := part_self c
  obtain ⟨k4, h4⟩ := part_self d
  generalize part a = a' at *
  generalize part b = b' at *
  generalize part c = c' at *
  generalize part d = d' at *
  refine part_of_dvd (k := k1 * d + k4 * a + 16777216 * (k1 * k4) + (k2 * c + k3 * b + 16777216 * (k2 * k3))) ?_
  obtain rfl : a' = a + 16777216 * k1 := by omega
  obtain rfl : b' = b + 16777216 * k2 := by omega
  obtain rfl : c' = c + 16777216 * k3 := by omega
  obtain rfl : d' = d + 16777216 * k4 := by omega
  grind

theorem mul_parts (a b c d : Int) (w : World) :
    Calls Try.prog 11 #[pt (part a) (part b), pt (part c) (part d)] w fun e w' => e = .returned (pt (part (a * c - b * d)) (part (a * d + b * c))) ∧ w = w' := by
  have := mul_any (part a) (part b) (part c) (part d) (part_bd _) (part_bd _) (part_bd _) (part_bd _) w
  rwa [part_mul, part_mul'] at this
theorem re_parts (a b : Int) (w : World) :
    Calls Try.prog 13 #[pt (part a) (part b)] w fun e w' => e = .returned (.int .i64 (part a)) ∧ w = w' := re_any _ _ (part_bd _) w
theorem im_parts (a b : Int) (w : World) :
    Calls Try.prog 12 #[pt (part a) (part b)] w fun e w' => e = .returned (.int .i64 (part b)) ∧ w = w' := im_any _ _ (part_bd _) w
end Go.Proofs.Ytfnbpnabhfkibaa
