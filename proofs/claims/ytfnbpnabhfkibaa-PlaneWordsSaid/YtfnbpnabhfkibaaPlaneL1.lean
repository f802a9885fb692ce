/- The walk of the law PlaneTurns: it returns true. -/
import Derived.Test.YtfnbpnabhfkibaaPlaneW4
namespace Go.Proofs.Ytfnbpnabhfkibaa
set_option linter.unusedVariables false
set_option linter.unusedSimpArgs false
open Go.RowKit Ieee

set_option maxHeartbeats 1000000 in
theorem lives_any (w : World) : Calls Try.prog 8 #[] w fun e w' => e = .returned (.bool true) ∧ w = w' := by
  have h1 : part (-5) = -5 := by decide
  have h2 : part 10 = 10 := by decide
  go_enter Try.func8, Try.ntmps8
  go_wp2_with (first | (go_at_call 9; refine (of_any _ _ _).mono ?_; rintro e w' ⟨rfl, rfl⟩) | (go_at_call 11; refine (mul_parts _ _ _ _ _).mono ?_; rintro e w' ⟨rfl, rfl⟩) | (go_at_call 13; refine (re_any _ _ (by decide) _).mono ?_; rintro e w' ⟨rfl, rfl⟩) | (go_at_call 12; refine (im_any _ _ (by decide) _).mono ?_; rintro e w' ⟨rfl, rfl⟩))
  go_ret
  exact ⟨rfl, rfl⟩

@[local go_sem] theorem eqGuard_pt (op : BinOp) (t : TypeId) (x y : Operand) (a b c d : Int) : eqGuard op t x y (pt a b) (pt c d) = pure () := by
  cases op <;> rfl

theorem part_wrap (x : Int) : part (wrap64 x) = part x := by unfold wrap64; unfold part; omega
theorem part_up (x : Int) : part (x + 16777216) = part x := by unfold part; omega
theorem part_down (x : Int) : part (x - 16777216) = part x := by unfold part; omega

set_option maxHeartbeats 1000000 in
theorem turns_any (re im : Int) (w : World) : Calls Try.prog 4 #[.int .i64 re, .int .i64 im] w fun e w' => e = .returned (.bool true) ∧ w = w' := by
  have hE := fun a b c d w => eql_parts 25 a b c d w
  have p1 := part_wrap
  have p2 := part_up
  have p3 := part_down
  have p4 : ∀ x : Int, x + -x = 0 := fun x => by omega
  go_enter Try.func4, Try.ntmps4
  go_wp2_with (first | (go_at_call 8; refine (lives_any _).mono ?_; rintro e w' ⟨rfl, rfl⟩) | (go_at_call 9; refine (of_any _ _ _).mono ?_; rintro e w' ⟨rfl, rfl⟩) | (go_at_call 11; refine (mul_parts _ _ _ _ _).mono ?_; rintro e w' ⟨rfl, rfl⟩) | (go_at_call 10; refine (add_parts _ _ _ _ _).mono ?_; rintro e w' ⟨rfl, rfl⟩) | (go_at_call 13; refine (re_parts _ _ _).mono ?_; rintro e w' ⟨rfl, rfl⟩) | (go_at_call 12; refine (im_parts _ _ _).mono ?_; rintro e w' ⟨rfl, rfl⟩))
  go_ret
  exact ⟨rfl, rfl⟩
end Go.Proofs.Ytfnbpnabhfkibaa
