/- The walks of the laws PlaneRing and PlanePoints: they return true. -/
import Derived.Test.YtfnbpnabhfkibaaPlaneL2
import Derived.Deep.QuietTactic
import Derived.BigQuiet
namespace Go.Proofs.Ytfnbpnabhfkibaa
set_option linter.unusedVariables false
set_option linter.unusedSimpArgs false
open Go.RowKit Ieee
attribute [local go_sem] eqGuard_pt

theorem of_same (n m : Int) (w : World) :
    Calls Try.prog 9 #[.int .i64 n, .int .i64 m] w fun e w' => e = .returned (pt (part n) (part m)) ∧ w' = w :=
  (of_any n m w).mono fun _ _ h => ⟨h.1, h.2.symm⟩

theorem below_new (w : World) (cs : Array Value) (t : TypeId) (n : Nat) : Below w.heap.size w ((w.alloc (.cells cs t)).drewN n) := by
  have h := (Below.refl w.heap.size w).alloc (Nat.le_refl _) (.cells cs t)
  exact ⟨h.os, h.tape, h.output, h.size, h.block⟩

set_option maxHeartbeats 2000000 in
theorem ring_any (a b c d e f : Int) (w : World) : Calls Try.prog 3 #[.agg #[.int .i64 a, .int .i64 b, .int .i64 c, .int .i64 d, .int .i64 e, .int .i64 f]] w fun e w' => e = .returned (.bool true) ∧ Below w.heap.size w w' := by
  have hE := fun a b c d w => eql_parts 25 a b c d w
  have hN := fun a b c d w => neq_parts 25 a b c d w
  go_enter Try.func3, Try.ntmps3
  go_wp2_with (first | (go_at_call 8; refine (lives_any _).mono ?_; rintro e w' ⟨rfl, rfl⟩) | (go_at_call 9; refine (of_any _ _ _).mono ?_; rintro e w' ⟨rfl, rfl⟩))
  go_quiet ((go_at_call 9; exact Calls.quiet_of_same (of_same _ _ _)))
  have r1 : c * a = a * c := Int.mul_comm _ _
  have r2 : d * b = b * d := Int.mul_comm _ _
  have r3 : c + a = a + c := Int.add_comm _ _
  have r4 : d + b = b + d := Int.add_comm _ _
  have r5 : c * b + d * a = a * d + b * c := by grind
  obtain ⟨X1, f1⟩ : ∃ x, (a * c - b * d) * e - (a * d + b * c) * f = x := ⟨_, rfl⟩
  have f2 : a * (c * e - d * f) - b * (c * f + d * e) = X1 := by rw [← f1]; grind
  obtain ⟨X2, f3⟩ : ∃ x, (a * c - b * d) * f + (a * d + b * c) * e = x := ⟨_, rfl⟩
  have f4 : a * (c * f + d * e) + b * (c * e - d * f) = X2 := by rw [← f3]; grind
  have f5 : a * (c + e) - b * (d + f) = a * c - b * d + (a * e - b * f) := by grind
  have f6 : a * (d + f) + b * (c + e) = a * d + b * c + (a * f + b * e) := by grind
  have f7 : a + c + e = a + (c + e) := by omega
  have f8 : b + d + f = b + (d + f) := by omega
  go_wp2_with (first | (go_at_call 9; refine (of_any _ _ _).mono ?_; rintro e w' ⟨rfl, rfl⟩) | (go_at_call 11; refine (mul_parts _ _ _ _ _).mono ?_; rintro e w' ⟨rfl, rfl⟩) | (go_at_call 10; refine (add_parts _ _ _ _ _).mono ?_; rintro e w' ⟨rfl, rfl⟩))
  go_ret
  exact ⟨rfl, below_new _ _ _ _⟩

/-- A callee that leaves the world alone, behind draws that came before. -/
theorem quiet_behind {P : Program} {f : FuncId} {args : Array Value} {w : World} {a n : Nat} {v : Value}
    (h : ∀ W : World, Calls P f args W fun e w' => e = .returned v ∧ W = w') : Calls P f args (w.drewN (a + n)) fun e w'' => e = .returned v ∧ ∃ m, w'' = w.drewN (a + m) :=
  (h _).mono fun _ _ ⟨he, hm⟩ => ⟨he, n, hm.symm⟩

theorem refPart_same (n : Int) (w : World) :
    Calls Try.prog 15 #[.int .i64 n] w fun e w' => e = .returned (.int .i64 (part n)) ∧ w' = w :=
  (refPart_any n w).mono fun _ _ h => ⟨h.1, h.2.symm⟩

set_option maxHeartbeats 400000 in
theorem refAdd_any (a b c d : Int) (w : World) :
    Calls Try.prog 18 #[.int .i64 (part a), .int .i64 (part b), .int .i64 (part c), .int .i64 (part d)] w fun e w' => e = .returned (.tuple #[.int .i64 (part (a + c)), .int .i64 (part (b + d))]) ∧ w = w' := by
  have h1 := part_bd a
  have h2 := part_bd b
  have h3 := part_bd c
  have h4 := part_bd d
  have r : ∀ x y, part (part x + part y) = part (x + y) := fun x y => by unfold part; omega
  go_enter Try.func18, Try.ntmps18
  go_wp2_with (go_at_call 15; refine (refPart_any _ _).mono ?_; rintro e w' ⟨rfl, rfl⟩)
  go_ret2
  exact ⟨rfl, rfl⟩

theorem part_wraps (x y : Int) : part (wrap64 x - wrap64 y) = part (x - y) := by unfold wrap64; unfold part; omega
theorem part_wrapa (x y : Int) : part (wrap64 x + wrap64 y) = part (x + y) := by unfold wrap64; unfold part; omega

set_option maxHeartbeats 400000 in
theorem refMul_any (a b c d : Int) (w : World) :
    Calls Try.prog 19 #[.int .i64 (part a), .int .i64 (part b), .int .i64 (part c), .int .i64 (part d)] w fun e w' => e = .returned (.tuple #[.int .i64 (part (a * c - b * d)), .int .i64 (part (a * d + b * c))]) ∧ w = w' := by
  have p1 := part_wrap
  have p2 := part_wraps
  have p3 := part_wrapa
  have p4 := part_mul
  have p5 := part_mul'
  go_enter Try.func19, Try.ntmps19
  go_wp2_with (go_at_call 15; refine (refPart_any _ _).mono ?_; rintro e w' ⟨rfl, rfl⟩)
  go_ret2
  exact ⟨rfl, rfl⟩

theorem ret_i {k : IntKind} {a b : Int} (h : a = b) : Ending.returned (.int k a) = .returned (.int k b) := by rw [h]

set_option maxHeartbeats 400000 in
theorem refWord_any (a b : Int) (ha : -8388608 ≤ a ∧ a < 8388608) (hb : -8388608 ≤ b ∧ b < 8388608) (w : World) :
    Calls Try.prog 20 #[.int .i64 a, .int .i64 b] w fun e w' => e = .returned (.int .u64 (word a b)) ∧ w = w' := by
  by_cases c1 : a < 0 <;> by_cases c2 : b < 0
  all_goals
    go_enter Try.func20, Try.ntmps20
    go_wp2
    go_ret
    exact ⟨ret_i (by unfold word; omega), rfl⟩

theorem word_bd (a b : Int) : 0 ≤ word a b ∧ word a b < 18446744073709551616 := by unfold word; omega

theorem fromWord_of (a b : Int) (ha : -8388608 ≤ a ∧ a < 8388608) (hb : -8388608 ≤ b ∧ b < 8388608) (w : World) :
    Calls Try.prog 14 #[.int .u64 (word a b)] w fun e w' => e = .returned (.tuple #[pt a b, .int .i64 0]) ∧ w = w' := by
  have h := word_bd a b
  have e1 : wrap32 (word a b / 4294967296) = a := by unfold word wrap32; omega
  have e2 : wrap32 (word a b) = b := by unfold word wrap32; omega
  have e3 : part a = a := by unfold part; omega
  have e4 : part b = b := by unfold part; omega
  have := fromWord_yes (word a b) h.1 h.2 (by rw [e1, e2, e3, e4]; simp) w
  rwa [e1, e2, e3, e4] at this

set_option maxHeartbeats 2000000 in
theorem points_any (a b c d : Int) (w : World) : Calls Try.prog 7 #[.agg #[.int .i64 a, .int .i64 b, .int .i64 c, .int .i64 d]] w fun e w' => e = .returned (.bool true) ∧ Below w.heap.size w w' := by
  have hE := fun a b c d w => eql_parts 25 a b c d w
  go_enter Try.func7, Try.ntmps7
  go_wp2_with (first | (go_at_call 8; refine (lives_any _).mono ?_; rintro e w' ⟨rfl, rfl⟩))
  go_quiet ((go_at_call 15; exact Calls.quiet_of_same (refPart_same _ _)))
  go_wp2
  go_quiet ((go_at_call 9; exact quiet_behind (of_any _ _)))
  go_wp2_with (first | (go_at_call 18; refine (refAdd_any _ _ _ _ _).mono ?_; rintro e w' ⟨rfl, rfl⟩) | (go_at_call 19; refine (refMul_any _ _ _ _ _).mono ?_; rintro e w' ⟨rfl, rfl⟩) | (go_at_call 20; refine (refWord_any _ _ (part_bd _) (part_bd _) _).mono ?_; rintro e w' ⟨rfl, rfl⟩) | (go_at_call 17; refine (word_any _ _ (part_bd _) (part_bd _) _).mono ?_; rintro e w' ⟨rfl, rfl⟩) | (go_at_call 14; refine (fromWord_of _ _ (part_bd _) (part_bd _) _).mono ?_; rintro e w' ⟨rfl, rfl⟩) | (go_at_call 11; refine (mul_parts _ _ _ _ _).mono ?_; rintro e w' ⟨rfl, rfl⟩) | (go_at_call 10; refine (add_parts _ _ _ _ _).mono ?_; rintro e w' ⟨rfl, rfl⟩) | (go_at_call 16; refine (is_any _ _ (part_bd _) (part_bd _) _).mono ?_; rintro e w' ⟨rfl, rfl⟩))
  go_ret
  exact ⟨rfl, below_new _ _ _ _⟩
end Go.Proofs.Ytfnbpnabhfkibaa
