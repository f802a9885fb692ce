/- The Go functions that the laws of this seat reach, as Lean functions, and that each call comes to them: written by a program. -/
import Derived.Test.YtincigcoagcgaaaDoorKw
import Derived.Test.YtincigcoagcgaaaDoorPr0
import Derived.Test.YtincigcoagcgaaaDoorLexB
import Derived.Test.YtincigcoagcgaaaDoorLexLives
namespace Go.Proofs.YtincigcoagcgaaaDoor.Pr
open Go.RowKit Go.Proofs.YtincigcoagcgaaaDoorW.PrintWords Go.Proofs.YtincigcoagcgaaaDoorW.PrintLast Go.Proofs.YtincigcoagcgaaaDoorW.PrintMore
attribute [local go_sem] max2_int min2_int max_two min_two max_three min_three max_four min_four   -- for this text's walks alone
set_option linter.unusedVariables false
set_option linter.unusedSimpArgs false

/-! ### reverielaw01_LexBlanks: function 4 -/
mutual
def reverielaw01_LexBlanks.j0 : Nat → List Int → List Int → Bool → Option (Bool)
  | 0, _, _, _ => none
  | k + 1, x0, x1, x28 => if x28 = true then ((reverielaw01_lives.f).bind fun t102 => (some t102)) else ((lex_Tokens.f x0).bind fun bt103 => (if bt103.2.2 = 0 then (reverielaw01_LexBlanks.l0 k x0 x1 bt103.1 ([] : List Int) bt103.1 (bt103.1.length : Int) 0) else (some ((bt103.1.length : Int) == 0))))
def reverielaw01_LexBlanks.l0 : Nat → List Int → List Int → List (S33) → List Int → List (S33) → Int → Int → Option (Bool)
  | 0, _, _, _, _, _, _, _ => none
  | k + 1, x0, x1, x5, x8, x41, x42, x43 => if x43 < x42 then (if 0 ≤ x43 then (if x43 < (x41.length : Int) then ((some (([32, 59] : List Int) : List Int)).bind fun y110 => (if x8.length + y110.length < 140737488355328 then ((some (x8 ++ y110 : List Int)).bind fun y113 => (if y113.length + x1.length < 140737488355328 then ((some (y113 ++ x1 : List Int)).bind fun y116 => ((some (([10, 9] : List Int) : List Int)).bind fun y119 => (if y116.length + y119.length < 140737488355328 then ((some (y116 ++ y119 : List Int)).bind fun y122 => (if y122.length + ((rd_T33 x41 x43).f2).size < 140737488355328 then (reverielaw01_LexBlanks.l0 k x0 x1 x5 (y122 ++ bytesOf ((rd_T33 x41 x43).f2)) x41 x42 (wrap64 (x43 + 1))) else (none))) else (none)))) else (none))) else (none))) else (none)) else (none)) else (reverielaw01_LexBlanks.l1 k x0 x5 x8 x1 (x1.length : Int) 0)
def reverielaw01_LexBlanks.l1 : Nat → List Int → List (S33) → List Int → List Int → Int → Int → Option (Bool)
  | 0, _, _, _, _, _, _ => none
  | k + 1, x0, x5, x8, x59, x60, x61 => if x61 < x60 then (if 0 ≤ x61 then (if x61 < (x59.length : Int) then (if (rd x59 x61) = 10 then (some true) else (reverielaw01_LexBlanks.l1 k x0 x5 x8 x59 x60 (wrap64 (x61 + 1)))) else (none)) else (none)) else (if (x8.length : Int) > 4096 then (some true) else ((lex_Tokens.f x8).bind fun bt129 => (if bt129.2.2 = 0 then (reverielaw01_LexBlanks.j3 k x0 x5 bt129.1 ((bt129.1.length : Int) != (x5.length : Int))) else (reverielaw01_LexBlanks.j3 k x0 x5 bt129.1 true))))
def reverielaw01_LexBlanks.j3 : Nat → List Int → List (S33) → List (S33) → Bool → Option (Bool)
  | 0, _, _, _, _ => none
  | k + 1, x0, x5, x13, x85 => if x85 = true then (some false) else (reverielaw01_LexBlanks.l2 k x0 x5 x13 (x5.length : Int) 0)
def reverielaw01_LexBlanks.l2 : Nat → List Int → List (S33) → List (S33) → Int → Int → Option (Bool)
  | 0, _, _, _, _, _ => none
  | k + 1, x0, x5, x13, x87, x88 => if x88 < x87 then (if 0 ≤ x88 then (if x88 < (x5.length : Int) then (if x88 < (x13.length : Int) then (if ((rd_T33 x5 x88).f0) = ((rd_T33 x13 x88).f0) then (if ((rd_T33 x5 x88).f2).toList = ((rd_T33 x13 x88).f2).toList then (if ((rd_T33 x5 x88).f3) = ((rd_T33 x13 x88).f3) then (if 0 ≤ ((rd_T33 x5 x88).f1) then (if ((rd_T33 x5 x88).f1) ≤ (wrap64 (((rd_T33 x5 x88).f1) + (((rd_T33 x5 x88).f2).size : Int))) then (if (wrap64 (((rd_T33 x5 x88).f1) + (((rd_T33 x5 x88).f2).size : Int))) ≤ (x0.length : Int) then (if (strOfNums ((x0.take ((wrap64 (((rd_T33 x5 x88).f1) + (((rd_T33 x5 x88).f2).size : Int))) : Int).toNat).drop (((rd_T33 x5 x88).f1) : Int).toNat)).toList = ((rd_T33 x5 x88).f2).toList then (reverielaw01_LexBlanks.l2 k x0 x5 x13 x87 (wrap64 (x88 + 1))) else (some false)) else (none)) else (none)) else (none)) else (some false)) else (some false)) else (some false)) else (none)) else (none)) else (none)) else (some true)
end
def reverielaw01_LexBlanks.f (k : Nat) (l0 : List Int) (l1 : List Int) : Option (Bool) := (reverielaw01_lives.f).bind fun t101 => (if t101 = true then (if (l0.length : Int) > 600 then (reverielaw01_LexBlanks.j0 k l0 l1 true) else (reverielaw01_LexBlanks.j0 k l0 l1 (decide ((l1.length : Int) > 20)))) else (reverielaw01_LexBlanks.j0 k l0 l1 true))
theorem reverielaw01_LexBlanks.mono_l : ∀ k, (∀ y0 y1 y2, LeO (reverielaw01_LexBlanks.j0 k y0 y1 y2) (reverielaw01_LexBlanks.j0 (k + 1) y0 y1 y2)) ∧ (∀ y0 y1 y2 y3 y4 y5 y6, LeO (reverielaw01_LexBlanks.l0 k y0 y1 y2 y3 y4 y5 y6) (reverielaw01_LexBlanks.l0 (k + 1) y0 y1 y2 y3 y4 y5 y6)) ∧ (∀ y0 y1 y2 y3 y4 y5, LeO (reverielaw01_LexBlanks.l1 k y0 y1 y2 y3 y4 y5) (reverielaw01_LexBlanks.l1 (k + 1) y0 y1 y2 y3 y4 y5)) ∧ (∀ y0 y1 y2 y3, LeO (reverielaw01_LexBlanks.j3 k y0 y1 y2 y3) (reverielaw01_LexBlanks.j3 (k + 1) y0 y1 y2 y3)) ∧ (∀ y0 y1 y2 y3 y4, LeO (reverielaw01_LexBlanks.l2 k y0 y1 y2 y3 y4) (reverielaw01_LexBlanks.l2 (k + 1) y0 y1 y2 y3 y4))
  | 0 => ⟨fun _ _ _ r h => by simp [reverielaw01_LexBlanks.j0] at h, fun _ _ _ _ _ _ _ r h => by simp [reverielaw01_LexBlanks.l0] at h, fun _ _ _ _ _ _ r h => by simp [reverielaw01_LexBlanks.l1] at h, fun _ _ _ _ r h => by simp [reverielaw01_LexBlanks.j3] at h, fun _ _ _ _ _ r h => by simp [reverielaw01_LexBlanks.l2] at h⟩
  | k + 1 => by
    obtain ⟨ih0, ih1, ih2, ih3, ih4⟩ := reverielaw01_LexBlanks.mono_l k
    refine ⟨?_, ?_, ?_, ?_, ?_⟩
    · intro y0 y1 y2
      unfold reverielaw01_LexBlanks.j0
      repeat' first
      | (with_reducible exact ih0 _ _ _)
      | (with_reducible exact ih1 _ _ _ _ _ _ _)
      | (with_reducible exact ih2 _ _ _ _ _ _)
      | (with_reducible exact ih3 _ _ _ _)
      | (with_reducible exact ih4 _ _ _ _ _)
      | (with_reducible exact LeO.refl _)
      | (with_reducible exact LeO.none _)
      | (with_reducible refine LeO.ite ?_ ?_)
      | (with_reducible refine LeO.bind ?_ (fun _ => ?_))
      | exact ih0 _ _ _
      | exact ih1 _ _ _ _ _ _ _
      | exact ih2 _ _ _ _ _ _
      | exact ih3 _ _ _ _
      | exact ih4 _ _ _ _ _
      | exact LeO.none _
      | refine LeO.ite ?_ ?_
      | refine LeO.bind ?_ (fun _ => ?_)
    · intro y0 y1 y2 y3 y4 y5 y6
      unfold reverielaw01_LexBlanks.l0
      repeat' first
      | (with_reducible exact ih0 _ _ _)
      | (with_reducible exact ih1 _ _ _ _ _ _ _)
      | (with_reducible exact ih2 _ _ _ _ _ _)
      | (with_reducible exact ih3 _ _ _ _)
      | (with_reducible exact ih4 _ _ _ _ _)
      | (with_reducible exact LeO.refl _)
      | (with_reducible exact LeO.none _)
      | (with_reducible refine LeO.ite ?_ ?_)
      | (with_reducible refine LeO.bind ?_ (fun _ => ?_))
      | exact ih0 _ _ _
      | exact ih1 _ _ _ _ _ _ _
      | exact ih2 _ _ _ _ _ _
      | exact ih3 _ _ _ _
      | exact ih4 _ _ _ _ _
      | exact LeO.none _
      | refine LeO.ite ?_ ?_
      | refine LeO.bind ?_ (fun _ => ?_)
    · intro y0 y1 y2 y3 y4 y5
      unfold reverielaw01_LexBlanks.l1
      repeat' first
      | (with_reducible exact ih0 _ _ _)
      | (with_reducible exact ih1 _ _ _ _ _ _ _)
      | (with_reducible exact ih2 _ _ _ _ _ _)
      | (with_reducible exact ih3 _ _ _ _)
      | (with_reducible exact ih4 _ _ _ _ _)
      | (with_reducible exact LeO.refl _)
      | (with_reducible exact LeO.none _)
      | (with_reducible refine LeO.ite ?_ ?_)
      | (with_reducible refine LeO.bind ?_ (fun _ => ?_))
      | exact ih0 _ _ _
      | exact ih1 _ _ _ _ _ _ _
      | exact ih2 _ _ _ _ _ _
      | exact ih3 _ _ _ _
      | exact ih4 _ _ _ _ _
      | exact LeO.none _
      | refine LeO.ite ?_ ?_
      | refine LeO.bind ?_ (fun _ => ?_)
    · intro y0 y1 y2 y3
      unfold reverielaw01_LexBlanks.j3
      repeat' first
      | (with_reducible exact ih0 _ _ _)
      | (with_reducible exact ih1 _ _ _ _ _ _ _)
      | (with_reducible exact ih2 _ _ _ _ _ _)
      | (with_reducible exact ih3 _ _ _ _)
      | (with_reducible exact ih4 _ _ _ _ _)
      | (with_reducible exact LeO.refl _)
      | (with_reducible exact LeO.none _)
      | (with_reducible refine LeO.ite ?_ ?_)
      | (with_reducible refine LeO.bind ?_ (fun _ => ?_))
      | exact ih0 _ _ _
      | exact ih1 _ _ _ _ _ _ _
      | exact ih2 _ _ _ _ _ _
      | exact ih3 _ _ _ _
      | exact ih4 _ _ _ _ _
      | exact LeO.none _
      | refine LeO.ite ?_ ?_
      | refine LeO.bind ?_ (fun _ => ?_)
    · intro y0 y1 y2 y3 y4
      unfold reverielaw01_LexBlanks.l2
      repeat' first
      | (with_reducible exact ih0 _ _ _)
      | (with_reducible exact ih1 _ _ _ _ _ _ _)
      | (with_reducible exact ih2 _ _ _ _ _ _)
      | (with_reducible exact ih3 _ _ _ _)
      | (with_reducible exact ih4 _ _ _ _ _)
      | (with_reducible exact LeO.refl _)
      | (with_reducible exact LeO.none _)
      | (with_reducible refine LeO.ite ?_ ?_)
      | (with_reducible refine LeO.bind ?_ (fun _ => ?_))
      | exact ih0 _ _ _
      | exact ih1 _ _ _ _ _ _ _
      | exact ih2 _ _ _ _ _ _
      | exact ih3 _ _ _ _
      | exact ih4 _ _ _ _ _
      | exact LeO.none _
      | refine LeO.ite ?_ ?_
      | refine LeO.bind ?_ (fun _ => ?_)
theorem reverielaw01_LexBlanks.mono : ∀ a0 a1 k, LeO (reverielaw01_LexBlanks.f k a0 a1) (reverielaw01_LexBlanks.f (k + 1) a0 a1) := by
  intro a0 a1 k
  obtain ⟨ih0, ih1, ih2, ih3, ih4⟩ := reverielaw01_LexBlanks.mono_l k
  unfold reverielaw01_LexBlanks.f
  repeat' first
      | (with_reducible exact ih0 _ _ _)
      | (with_reducible exact ih1 _ _ _ _ _ _ _)
      | (with_reducible exact ih2 _ _ _ _ _ _)
      | (with_reducible exact ih3 _ _ _ _)
      | (with_reducible exact ih4 _ _ _ _ _)
      | (with_reducible exact LeO.refl _)
      | (with_reducible exact LeO.none _)
      | (with_reducible refine LeO.ite ?_ ?_)
      | (with_reducible refine LeO.bind ?_ (fun _ => ?_))
      | exact ih0 _ _ _
      | exact ih1 _ _ _ _ _ _ _
      | exact ih2 _ _ _ _ _ _
      | exact ih3 _ _ _ _
      | exact ih4 _ _ _ _ _
      | exact LeO.none _
      | refine LeO.ite ?_ ?_
      | refine LeO.bind ?_ (fun _ => ?_)
def reverielaw01_LexBlanks.T27 : Bool × List (List Nat × List Nat) := (true, [([], []), ([], []), ([0, 1], [0, 1]), ([2], [2]), ([3], [3]), ([], []), ([], []), ([5, 6], [5, 6]), ([7], [7]), ([8], [8]), ([4, 9], [4, 9]), ([10], [10]), ([11], [11]), ([11], [11]), ([12, 13, 11], [11, 12, 13]), ([14, 11], [11, 14]), ([15, 11], [11, 15]), ([11], [11]), ([11], [11]), ([17, 18, 11], [11, 17, 18]), ([19, 11], [11, 19]), ([20, 11], [11, 20]), ([16, 21, 11], [11, 16, 21]), ([11, 22], [11, 22]), ([23, 11], [23]), ([24], [24]), ([24], [24]), ([25, 26, 24], [24, 25, 26]), ([27, 24], [24, 27]), ([28, 24], [24, 28]), ([24], [24]), ([24], [24]), ([30, 31, 24], [24, 30, 31]), ([32, 24], [24, 32]), ([33, 24], [24, 33]), ([29, 34, 24], [24, 29, 34]), ([24, 35], [24, 35]), ([36, 24], [36]), ([37], [37]), ([37], [37]), ([37], [37]), ([39, 40, 37], [37, 39, 40]), ([41, 37], [37, 41]), ([42, 37], [37, 42]), ([37], [37]), ([37], [37]), ([44, 45, 37], [37, 44, 45]), ([46, 37], [37, 46]), ([47, 37], [37, 47]), ([37], [37]), ([37], [37]), ([49, 50, 37], [37, 49, 50]), ([51, 37], [37, 51]), ([52, 37], [37, 52]), ([53, 37], [37, 53]), ([48, 54, 37], [37, 48, 54]), ([38, 43, 55, 37], [37, 38, 43, 55]), ([56, 37], [37, 56]), ([37], [37]), ([37], [37]), ([58, 59, 37], [37, 58, 59]), ([60, 37], [37, 60]), ([61, 37], [37, 61]), ([57, 62, 37], [37, 57, 62]), ([37, 63], [37, 63])])
def reverielaw01_LexBlanks.B27 : List Nat := [0, 0, 3, 7, 15, 0, 0, 96, 224, 480, 1023, 2047, 4095, 4095, 16383, 32767, 65535, 4095, 4095, 397311, 921599, 1970175, 4194303, 8388607, 16777215, 33554431, 33554431, 134217727, 268435455, 536870911, 33554431, 33554431, 3254779903, 7549747199, 16139681791, 34359738367, 68719476735, 137438953471, 274877906943, 274877906943, 274877906943, 1924145348607, 4123168604159, 8521215115263, 274877906943, 274877906943, 53051436040191, 123420180217855, 264157668573183, 274877906943, 274877906943, 1689124738170879, 3940924551856127, 8444524179226623, 17451723433967615, 36011479710826495, 72057594037927935, 144115188075855871, 274877906943, 274877906943, 864691403333042175, 2017612907939889151, 4323455917153583103, 9223372036854775807, 18446744073709551615]
theorem reverielaw01_LexBlanks.tab27 : rtab .any (opsOf Tryd.f4 27) = reverielaw01_LexBlanks.T27 := by kernel_rfl
theorem reverielaw01_LexBlanks.bits27 : waitsOk reverielaw01_LexBlanks.T27.2 reverielaw01_LexBlanks.B27 = true := by kernel_rfl
set_option maxHeartbeats 8000000 in
set_option maxRecDepth 100000 in
theorem reverielaw01_LexBlanks.calls (k : Nat) (A0 : Option Addr) (c0 : Nat) (l0 : List Int) (A1 : Option Addr) (c1 : Nat) (l1 : List Int) (r : Bool) (w : World) (hr0 : Kd.C (Kd.int .u8) w A0 l0.length l0) (hc0 : l0.length ≤ c0) (hr1 : Kd.C (Kd.int .u8) w A1 l1.length l1) (hc1 : l1.length ≤ c1) (h : reverielaw01_LexBlanks.f k l0 l1 = some r) :
    Calls Tryd.prog 4 #[.slice A0 l0.length c0, .slice A1 l1.length c1] w fun e w' => e = .returned (.bool r) ∧ Below w.heap.size w w' := by
  have hu33 := Tryd.underlying33
  have HR0 := Aside0.mk hr0
  have HC0 := Aside0.mk hc0
  clear hr0 hc0
  have HR1 := Aside0.mk hr1
  have HC1 := Aside0.mk hc1
  clear hr1 hc1
  have HB := Aside0.mk (Below.refl w.heap.size w)
  have H : ((reverielaw01_lives.f).bind fun t101 => (if t101 = true then (if (l0.length : Int) > 600 then (reverielaw01_LexBlanks.j0 k l0 l1 true) else (reverielaw01_LexBlanks.j0 k l0 l1 (decide ((l1.length : Int) > 20)))) else (reverielaw01_LexBlanks.j0 k l0 l1 true))) = some r := h
  clear h
  have HC3 := Aside0.mk H
  clear H
  go_enter Tryd.func4, Tryd.ntmps4
  go_upto_region 1 with (fail)
  go_cut [28] (fun v28 wc => ∃ (kq : Nat) (x28_2 : Bool), v28 = .bool x28_2 ∧ Aside0 (reverielaw01_LexBlanks.j0 kq l0 l1 x28_2 = some r) ∧ Aside0 (kq ≤ k) ∧ Aside0 (Below w.heap.size w wc))
  case first =>
    have H := HC3.out
    clear HC3
    replace H := Option.bind_eq_some_iff.mp H
    obtain ⟨t101, A40, H⟩ := H
    replace H : (if t101 = true then (if (l0.length : Int) > 600 then (reverielaw01_LexBlanks.j0 k l0 l1 true) else (reverielaw01_LexBlanks.j0 k l0 l1 (decide ((l1.length : Int) > 20)))) else (reverielaw01_LexBlanks.j0 k l0 l1 true)) = some r := H
    have A4 := Aside0.mk A40
    clear A40
    by_cases c5 : t101 = true
    · subst c5
      have H1 : (if (l0.length : Int) > 600 then (reverielaw01_LexBlanks.j0 k l0 l1 true) else (reverielaw01_LexBlanks.j0 k l0 l1 (decide ((l1.length : Int) > 20)))) = some r := by rw [if_pos rfl] at H; exact H
      clear H
      have H := H1
      clear H1
      by_cases c6 : (l0.length : Int) > 600
      · rw [if_pos c6] at H
        have c6b0 : decide (600 < (l0.length : Int)) = true := decide_eq_true c6
        have c6b1 : decide (600 < l0.length) = true := decide_eq_true (by omega)
        clear c6
        (first | rw [c6b0] | (simp only [i64_w, i32_w]; rw [c6b0]) | skip)
        have H' := Aside0.mk H
        clear H
        go_wp2_with (first | ((with_reducible refine gate_callee (f := 9) rfl ?_); refine goesL_ (some 17) rfl rfl Tryd.func9 (by kernel_rfl) rfl #[] rfl (by (try simp only [List.map_toArray, List.map_cons, List.map_nil]); first | done | rfl | (simp only [List.length_drop, List.length_take]; rfl)) ?_; (with_reducible refine (reverielaw01_lives.calls  true _ A4.out).mono ?_); rintro e w7 ⟨rfl, hb⟩; refine ⟨_, rfl, ?_⟩; have n0_ := Aside0.mk (below_step (by repeat (first | (with_reducible first | exact HB.out | apply below_alloc | apply pw_below_drewN | apply below_drew1) | exact HB.out)) hb); clear HB; have HB := n0_; clear n0_; (try clear hb); (try clear hb2); (try clear hk); (try clear hi)))
        go_meet
        case rel => exact ⟨_, (true), (by first | rfl | (simp; done) | (simp [*]; done)), H', ⟨by first | omega | exact Nat.le_refl _⟩, ⟨by repeat (first | (with_reducible first | exact HB.out | apply below_alloc | apply pw_below_drewN | apply below_drew1) | exact HB.out)⟩⟩
      · rw [if_neg c6] at H
        have c6b0 : decide (600 < (l0.length : Int)) = false := decide_eq_false c6
        have c6b1 : decide (600 < l0.length) = false := decide_eq_false (by omega)
        clear c6
        (first | rw [c6b0] | (simp only [i64_w, i32_w]; rw [c6b0]) | skip)
        have H' := Aside0.mk H
        clear H
        go_wp2_with (first | ((with_reducible refine gate_callee (f := 9) rfl ?_); refine goesL_ (some 17) rfl rfl Tryd.func9 (by kernel_rfl) rfl #[] rfl (by (try simp only [List.map_toArray, List.map_cons, List.map_nil]); first | done | rfl | (simp only [List.length_drop, List.length_take]; rfl)) ?_; (with_reducible refine (reverielaw01_lives.calls  true _ A4.out).mono ?_); rintro e w8 ⟨rfl, hb⟩; refine ⟨_, rfl, ?_⟩; have n0_ := Aside0.mk (below_step (by repeat (first | (with_reducible first | exact HB.out | apply below_alloc | apply pw_below_drewN | apply below_drew1) | exact HB.out)) hb); clear HB; have HB := n0_; clear n0_; (try clear hb); (try clear hb2); (try clear hk); (try clear hi)))
        go_meet
        case rel => exact ⟨_, (decide ((l1.length : Int) > 20)), (by first | rfl | (simp; done) | (simp [*]; done)), H', ⟨by first | omega | exact Nat.le_refl _⟩, ⟨by repeat (first | (with_reducible first | exact HB.out | apply below_alloc | apply pw_below_drewN | apply below_drew1) | exact HB.out)⟩⟩
    · replace c5 := Bool.eq_false_iff.mpr c5
      subst c5
      have H1 : (reverielaw01_LexBlanks.j0 k l0 l1 true) = some r := by rw [if_neg (show ¬ (false = true) by decide)] at H; exact H
      clear H
      have H := H1
      clear H1
      have H' := Aside0.mk H
      clear H
      go_wp2_with (first | ((with_reducible refine gate_callee (f := 9) rfl ?_); refine goesL_ (some 17) rfl rfl Tryd.func9 (by kernel_rfl) rfl #[] rfl (by (try simp only [List.map_toArray, List.map_cons, List.map_nil]); first | done | rfl | (simp only [List.length_drop, List.length_take]; rfl)) ?_; (with_reducible refine (reverielaw01_lives.calls  false _ A4.out).mono ?_); rintro e w9 ⟨rfl, hb⟩; refine ⟨_, rfl, ?_⟩; have n0_ := Aside0.mk (below_step (by repeat (first | (with_reducible first | exact HB.out | apply below_alloc | apply pw_below_drewN | apply below_drew1) | exact HB.out)) hb); clear HB; have HB := n0_; clear n0_; (try clear hb); (try clear hb2); (try clear hk); (try clear hi)))
      go_meet
      case rel => exact ⟨_, (true), (by first | rfl | (simp; done) | (simp [*]; done)), H', ⟨by first | omega | exact Nat.le_refl _⟩, ⟨by repeat (first | (with_reducible first | exact HB.out | apply below_alloc | apply pw_below_drewN | apply below_drew1) | exact HB.out)⟩⟩
  case rest =>
    clear HC3
    try clear c1
    try clear p2
    try clear c4
    try clear c5
    try clear c6
    try clear c6b0
    try clear c6b1
    try clear c9
    obtain ⟨kq, x28_2, rfl, HA, HJ2, HB⟩ := hcut
    cases kq with
    | zero => exact absurd HA.out (by simp [reverielaw01_LexBlanks.j0])
    | succ kj2 =>
      have H := HA.out
      clear HA
      simp only [reverielaw01_LexBlanks.j0] at H
      by_cases c10 : x28_2 = true
      · subst c10
        have H1 : ((reverielaw01_lives.f).bind fun t102 => (some t102)) = some r := by rw [if_pos rfl] at H; exact H
        clear H
        have H := H1
        clear H1
        replace H := Option.bind_eq_some_iff.mp H
        obtain ⟨t102, A110, H⟩ := H
        replace H : (some t102) = some r := H
        have A11 := Aside0.mk A110
        clear A110
        obtain rfl := Option.some.inj H
        go_wp2_with (first | ((with_reducible refine gate_callee (f := 9) rfl ?_); refine goesL_ (some 29) rfl rfl Tryd.func9 (by kernel_rfl) rfl #[] rfl (by (try simp only [List.map_toArray, List.map_cons, List.map_nil]); first | done | rfl | (simp only [List.length_drop, List.length_take]; rfl)) ?_; (with_reducible refine (reverielaw01_lives.calls  t102 _ A11.out).mono ?_); rintro e w12 ⟨rfl, hb⟩; refine ⟨_, rfl, ?_⟩; have n0_ := Aside0.mk (below_step (by repeat (first | (with_reducible first | exact HB.out | apply below_alloc | apply pw_below_drewN | apply below_drew1) | exact HB.out)) hb); clear HB; have HB := n0_; clear n0_; (try clear hb); (try clear hb2); (try clear hk); (try clear hi)))
        go_ret
        exact ⟨by first | rfl | (simp [errW_none, errW_some] <;> rfl) | (simp [*, errW_none, errW_some] <;> rfl), by repeat (first | (with_reducible first | exact HB.out | apply below_alloc | apply pw_below_drewN | apply below_drew1) | exact HB.out)⟩
      · replace c10 := Bool.eq_false_iff.mpr c10
        subst c10
        have H1 : ((lex_Tokens.f l0).bind fun bt103 => (if bt103.2.2 = 0 then (reverielaw01_LexBlanks.l0 kj2 l0 l1 bt103.1 ([] : List Int) bt103.1 (bt103.1.length : Int) 0) else (some ((bt103.1.length : Int) == 0)))) = some r := by rw [if_neg (show ¬ (false = true) by decide)] at H; exact H
        clear H
        have H := H1
        clear H1
        replace H := Option.bind_eq_some_iff.mp H
        obtain ⟨⟨t103, t104, t105⟩, A130, H⟩ := H
        replace H : (if t105 = 0 then (reverielaw01_LexBlanks.l0 kj2 l0 l1 t103 ([] : List Int) t103 (t103.length : Int) 0) else (some ((t103.length : Int) == 0))) = some r := H
        have A13 := Aside0.mk A130
        clear A130
        by_cases c14 : t105 = 0
        · rw [if_pos c14] at H
          have c14b0 : (t105 == 0) = true := beq_iff_eq.mpr c14
          have c14b1 : (t105 != 0) = false := bne_eq_false_iff_eq.mpr c14
          clear c14
          have H' := Aside0.mk H
          clear H
          go_wp2_with (first | ((with_reducible refine gate_callee (f := 10) rfl ?_); refine goesL_ (some 32) rfl rfl Tryd.func10 (by kernel_rfl) rfl #[.slice A0 l0.length c0] rfl (by (try simp only [List.map_toArray, List.map_cons, List.map_nil]); first | done | rfl | (simp only [List.length_drop, List.length_take]; rfl)) ?_; (with_reducible refine (lex_Tokens.calls _ _ l0 t103 t104 t105 _ ?side1 ?side2 A13.out).mono ?_); (case side1 => repeat (first | exact (Kd.C_below HR0.out HB.out) | (with_reducible refine Kd.C_alloc ?_ _) | (with_reducible refine Kd.C_drewN ?_ _) | (with_reducible refine Kd.C_drew ?_))); (case side2 => exact HC0.out); rintro e w15 ⟨v106, rfl, ho0, hb⟩; refine ⟨_, rfl, ?_⟩; have n0_ := Aside0.mk (Kd.R_lower ho0 (below_size (by repeat (first | (with_reducible first | exact HB.out | apply below_alloc | apply pw_below_drewN | apply below_drew1) | exact HB.out)))); have n1_ := Aside0.mk (below_step (by repeat (first | (with_reducible first | exact HB.out | apply below_alloc | apply pw_below_drewN | apply below_drew1) | exact HB.out)) hb); clear HB; have HO107 := n0_; have HB := n1_; clear n0_ n1_; (try clear hb); (try clear hb2); (try clear hk); (try clear hi); (try clear ho0); obtain ⟨Ao16, co16, eo16⟩ := Kd.R_slice HO107.out; subst eo16))
          go_loopg [8, 43] kj2 (fun kq v8 v43 w' => ∃ (x8_2 : List Int) (x43_2 : Int), v43 = .int .i64 x43_2 ∧ Aside0 (reverielaw01_LexBlanks.l0 kq l0 l1 t103 x8_2 t103 (t103.length : Int) x43_2 = some r) ∧ Aside0 (kq ≤ kj2) ∧ Aside0 (Kd.R k33 33 w' w.heap.size (fun _ => True) (.slice Ao16 t103.length co16) t103) ∧ Aside0 (Kd.R (Kd.int .u8) 5 w' w.heap.size (fun _ => True) v8 x8_2) ∧ Aside0 (Kd.R k33 33 w' w.heap.size (fun _ => True) (.slice Ao16 t103.length co16) t103) ∧ Aside0 (Below w.heap.size w w'))
          case atStart => exact ⟨(([] : List Int)), (0), (by first | rfl | (simp; done) | (simp [*]; done)), H', ⟨Nat.le_refl _⟩, ⟨by (with_reducible repeat (first | apply Kd.R_alloc | apply Kd.R_drewN | apply Kd.R_drew)); exact HO107.out⟩, ⟨by first | exact Kd.R_nil _ _ _ _ _ | exact Kd.N_nil _ _ _ _ _ | exact Kd.V_nil _ _ _ _ _ | exact Kd.Q_nil _ _ _ _ _ | exact Kd.S_nil _ _ _ _ _⟩, ⟨by (with_reducible repeat (first | apply Kd.R_alloc | apply Kd.R_drewN | apply Kd.R_drew)); exact HO107.out⟩, ⟨by repeat (first | (with_reducible first | exact HB.out | apply below_alloc | apply pw_below_drewN | apply below_drew1) | exact HB.out)⟩⟩
          case round =>
            clear H'
            try clear c1
            try clear p2
            try clear c4
            try clear c5
            try clear c6
            try clear c6b0
            try clear c6b1
            try clear c9
            try clear c10
            try clear c14
            try clear c14b0
            try clear c14b1
            try clear p2
            obtain ⟨x8_2, x43_2, rfl, HA, HK2, HO_5, HO_8, HO_41, HB⟩ := hrel
            cases gk with
            | zero => exact absurd HA.out (by simp [reverielaw01_LexBlanks.l0])
            | succ k2 =>
              have H := HA.out
              clear HA
              simp only [reverielaw01_LexBlanks.l0] at H
              by_cases c17 : x43_2 < (t103.length : Int)
              · rw [if_pos c17] at H
                have c17b0 : decide (x43_2 < (t103.length : Int)) = true := decide_eq_true c17
                clear c17
                by_cases c18 : 0 ≤ x43_2
                · rw [if_pos c18] at H
                  have c18b0 : decide (0 ≤ x43_2) = true := decide_eq_true c18
                  clear c18
                  by_cases c19 : x43_2 < (t103.length : Int)
                  · rw [if_pos c19] at H
                    have c19b0 : decide (x43_2 < (t103.length : Int)) = true := decide_eq_true c19
                    clear c19
                    obtain ⟨y110, hy110⟩ : ∃ y_ : List Int, y_ = (([32, 59] : List Int)) := ⟨_, rfl⟩
                    replace H : (if x8_2.length + y110.length < 140737488355328 then ((some (x8_2 ++ y110 : List Int)).bind fun y113 => (if y113.length + l1.length < 140737488355328 then ((some (y113 ++ l1 : List Int)).bind fun y116 => ((some (([10, 9] : List Int) : List Int)).bind fun y119 => (if y116.length + y119.length < 140737488355328 then ((some (y116 ++ y119 : List Int)).bind fun y122 => (if y122.length + ((rd_T33 t103 x43_2).f2).size < 140737488355328 then (reverielaw01_LexBlanks.l0 k2 l0 l1 t103 (y122 ++ bytesOf ((rd_T33 t103 x43_2).f2)) t103 (t103.length : Int) (wrap64 (x43_2 + 1))) else (none))) else (none)))) else (none))) else (none)) = some r := by first | (rw [hy110]; with_reducible exact H) | (have H2_ := (Option.bind_some _ _).symm.trans H; rw [hy110]; with_reducible exact H2_) | (have H2_ := (Option.bind_some _ _).symm.trans H; with_reducible exact H2_) | with_reducible exact H | (rw [hy110]; exact H) | exact H
                    have Ny110 := Aside0.mk hy110
                    clear hy110
                    by_cases c20 : x8_2.length + y110.length < 140737488355328
                    · rw [if_pos c20] at H
                      have LMc20 := Aside0.mk c20
                      clear c20
                      obtain ⟨y113, hy113⟩ : ∃ y_ : List Int, y_ = (x8_2 ++ y110) := ⟨_, rfl⟩
                      replace H : (if y113.length + l1.length < 140737488355328 then ((some (y113 ++ l1 : List Int)).bind fun y116 => ((some (([10, 9] : List Int) : List Int)).bind fun y119 => (if y116.length + y119.length < 140737488355328 then ((some (y116 ++ y119 : List Int)).bind fun y122 => (if y122.length + ((rd_T33 t103 x43_2).f2).size < 140737488355328 then (reverielaw01_LexBlanks.l0 k2 l0 l1 t103 (y122 ++ bytesOf ((rd_T33 t103 x43_2).f2)) t103 (t103.length : Int) (wrap64 (x43_2 + 1))) else (none))) else (none)))) else (none)) = some r := by first | (rw [hy113]; with_reducible exact H) | (have H2_ := (Option.bind_some _ _).symm.trans H; rw [hy113]; with_reducible exact H2_) | (have H2_ := (Option.bind_some _ _).symm.trans H; with_reducible exact H2_) | with_reducible exact H | (rw [hy113]; exact H) | exact H
                      have Ny113 := Aside0.mk hy113
                      clear hy113
                      by_cases c21 : y113.length + l1.length < 140737488355328
                      · rw [if_pos c21] at H
                        have LMc21 := Aside0.mk c21
                        clear c21
                        obtain ⟨y116, hy116⟩ : ∃ y_ : List Int, y_ = (y113 ++ l1) := ⟨_, rfl⟩
                        replace H : ((some (([10, 9] : List Int) : List Int)).bind fun y119 => (if y116.length + y119.length < 140737488355328 then ((some (y116 ++ y119 : List Int)).bind fun y122 => (if y122.length + ((rd_T33 t103 x43_2).f2).size < 140737488355328 then (reverielaw01_LexBlanks.l0 k2 l0 l1 t103 (y122 ++ bytesOf ((rd_T33 t103 x43_2).f2)) t103 (t103.length : Int) (wrap64 (x43_2 + 1))) else (none))) else (none))) = some r := by first | (rw [hy116]; with_reducible exact H) | (have H2_ := (Option.bind_some _ _).symm.trans H; rw [hy116]; with_reducible exact H2_) | (have H2_ := (Option.bind_some _ _).symm.trans H; with_reducible exact H2_) | with_reducible exact H | (rw [hy116]; exact H) | exact H
                        have Ny116 := Aside0.mk hy116
                        clear hy116
                        obtain ⟨y119, hy119⟩ : ∃ y_ : List Int, y_ = (([10, 9] : List Int)) := ⟨_, rfl⟩
                        replace H : (if y116.length + y119.length < 140737488355328 then ((some (y116 ++ y119 : List Int)).bind fun y122 => (if y122.length + ((rd_T33 t103 x43_2).f2).size < 140737488355328 then (reverielaw01_LexBlanks.l0 k2 l0 l1 t103 (y122 ++ bytesOf ((rd_T33 t103 x43_2).f2)) t103 (t103.length : Int) (wrap64 (x43_2 + 1))) else (none))) else (none)) = some r := by first | (rw [hy119]; with_reducible exact H) | (have H2_ := (Option.bind_some _ _).symm.trans H; rw [hy119]; with_reducible exact H2_) | (have H2_ := (Option.bind_some _ _).symm.trans H; with_reducible exact H2_) | with_reducible exact H | (rw [hy119]; exact H) | exact H
                        have Ny119 := Aside0.mk hy119
                        clear hy119
                        by_cases c22 : y116.length + y119.length < 140737488355328
                        · rw [if_pos c22] at H
                          have LMc22 := Aside0.mk c22
                          clear c22
                          obtain ⟨y122, hy122⟩ : ∃ y_ : List Int, y_ = (y116 ++ y119) := ⟨_, rfl⟩
                          replace H : (if y122.length + ((rd_T33 t103 x43_2).f2).size < 140737488355328 then (reverielaw01_LexBlanks.l0 k2 l0 l1 t103 (y122 ++ bytesOf ((rd_T33 t103 x43_2).f2)) t103 (t103.length : Int) (wrap64 (x43_2 + 1))) else (none)) = some r := by first | (rw [hy122]; with_reducible exact H) | (have H2_ := (Option.bind_some _ _).symm.trans H; rw [hy122]; with_reducible exact H2_) | (have H2_ := (Option.bind_some _ _).symm.trans H; with_reducible exact H2_) | with_reducible exact H | (rw [hy122]; exact H) | exact H
                          have Ny122 := Aside0.mk hy122
                          clear hy122
                          by_cases c23 : y122.length + ((rd_T33 t103 x43_2).f2).size < 140737488355328
                          · rw [if_pos c23] at H
                            have LMc23 := Aside0.mk c23
                            clear c23
                            obtain ⟨y125, hy125⟩ : ∃ y_ : List Int, y_ = (y122 ++ bytesOf ((rd_T33 t103 x43_2).f2)) := ⟨_, rfl⟩
                            replace H : (reverielaw01_LexBlanks.l0 k2 l0 l1 t103 y125 t103 (t103.length : Int) (wrap64 (x43_2 + 1))) = some r := by first | (rw [hy125]; with_reducible exact H) | (have H2_ := (Option.bind_some _ _).symm.trans H; rw [hy125]; with_reducible exact H2_) | (have H2_ := (Option.bind_some _ _).symm.trans H; with_reducible exact H2_) | with_reducible exact H | (rw [hy125]; exact H) | exact H
                            have Ny125 := Aside0.mk hy125
                            clear hy125
                            have H' := Aside0.mk H
                            clear H
                            have p108 : 0 ≤ (x43_2 : Int) := of_decide_eq_true (by first | (with_reducible assumption) | assumption)
                            have q108 : x43_2 < (t103.length : Int) := of_decide_eq_true (by first | (with_reducible assumption) | assumption)
                            obtain ⟨ad108, e108, hx108_0, hx108_1, hx108_2, hx108_3⟩ := at_T33 (Kd.R_reads' HO_41.out).2.2 x43_2 p108 q108
                            cases e108
                            replace p108 := eq_true p108
                            replace q108 := eq_true q108
                            try go_wp2_with (first | ((with_reducible refine gate_dst (N := 10) rfl ?_); (try (refine gate_guard (by rfl) ?_; dsimp only)); refine box_event ?hg (N := 10) ?hd (cs := #[.int .i64 0, .int .i64 0, .string (⟨#[]⟩ : ByteArray), .int .i64 0]) (t := 33) ?hr ?_; (case hd => rfl); (case hg => rfl); (case hr => first | (go_simp; done) | (go_simp; rfl)); intro gb109 hg w24 hbox hb; have n0_ := Aside0.mk (Kd.R_below (Kd.R_elderB (by (with_reducible repeat (first | apply Kd.R_alloc | apply Kd.R_drewN | apply Kd.R_drew)); exact HO_5.out) gb109 (Nat.le_of_eq hg.symm)) hb); have n1_ := Aside0.mk (Kd.R_below (by (with_reducible repeat (first | apply Kd.R_alloc | apply Kd.R_drewN | apply Kd.R_drew)); exact HO_8.out) hb); have n2_ := Aside0.mk (Kd.R_below (Kd.R_elderB (by (with_reducible repeat (first | apply Kd.R_alloc | apply Kd.R_drewN | apply Kd.R_drew)); exact HO_41.out) gb109 (Nat.le_of_eq hg.symm)) hb); have n3_ := Aside0.mk (below_step (by repeat (first | (with_reducible first | exact HB.out | apply below_alloc | apply pw_below_drewN | apply below_drew1) | exact HB.out)) hb); have n4_ := Aside0.mk (hbox); have n5_ := Aside0.mk ((by rw [hg]; exact (below_size (by repeat (first | (with_reducible first | exact HB.out | apply below_alloc | apply pw_below_drewN | apply below_drew1) | exact HB.out))) : w.heap.size ≤ gb109)); have n6_ := Aside0.mk ((by rw [hg]; exact (below_size (by repeat (first | (with_reducible first | exact HB.out | apply below_alloc | apply pw_below_drewN | apply below_drew1) | exact HB.out))) : w.heap.size ≤ gb109)); clear HO_5; clear HO_8; clear HO_41; clear HB; have HO_5 := n0_; have HO_8 := n1_; have HO_41 := n2_; have HB := n3_; have BK109 := n4_; have GW109 := n5_; have GE109 := n6_; clear n0_ n1_ n2_ n3_ n4_ n5_ n6_; clear hb hbox hg; have hcz25_0 : w24.cell? ⟨gb109, 0, none⟩ = some (.int .i64 0) := (blk_cell BK109.out 0).trans rfl; have hcz25_1 : w24.cell? ⟨gb109, 1, none⟩ = some (.int .i64 0) := (blk_cell BK109.out 1).trans rfl; have hcz25_2 : w24.cell? ⟨gb109, 2, none⟩ = some (.string (⟨#[]⟩ : ByteArray)) := (blk_cell BK109.out 2).trans rfl; have hcz25_3 : w24.cell? ⟨gb109, 3, none⟩ = some (.int .i64 0) := (blk_cell BK109.out 3).trans rfl; have hfz25_0 := blk_frozen BK109.out 0; have hfz25_1 := blk_frozen BK109.out 1; have hfz25_2 := blk_frozen BK109.out 2; have hfz25_3 := blk_frozen BK109.out 3) | ((with_reducible refine gate_dst (N := 48) rfl ?_); (try (refine gate_guard (by rfl) ?_; dsimp only)); refine Kd.R_lit (Kd.int .u8) _ 5 ?hg (N := 48) ?hd (xs := ([32, 59] : List Int)) (inner := [.int .u8 32, .int .u8 59]) (ok := fun _ => True) (okp := fun _ => True) ?hr ?hp (fun _ hk => hk) trivial (Below.refl _ _) (Nat.le_refl _) (by simp) ?_; (case hd => rfl); (case hg => rfl); (case hr => first | (go_simp; done) | (go_simp; rfl)); (case hp => exact (Reps.one (show Kd.M (Kd.int .u8) _ _ _ 32 [.int .u8 32] from rfl) (Reps.one (show Kd.M (Kd.int .u8) _ _ _ 59 [.int .u8 59] from rfl) (Reps.none _ _)))); intro v111 w26 ho27 hb hg_ hnew_; clear hg_ hnew_; (first | rw [← Ny110.out] at ho27 | (simp only [Int.reduceToNat] at ho27; rw [← Ny110.out] at ho27)); have n0_ := Aside0.mk (Kd.R_below (by (with_reducible repeat (first | apply Kd.R_alloc | apply Kd.R_drewN | apply Kd.R_drew)); exact (Kd.R_mono (Kd.R_far (p := ⟨gb109, 3, none⟩) (Kd.R_far (p := ⟨gb109, 2, none⟩) (Kd.R_far (p := ⟨gb109, 1, none⟩) (Kd.R_far (p := ⟨gb109, 0, none⟩) (Kd.R_mono HO_5.out (fun k_ hk => (⟨hk, hk.2⟩ : _ ∧ k_ ≠ gb109))) (fun _ hk => hk.2) (.int .i64 ((rd_T33 t103 x43_2).f0))) (fun _ hk => hk.2) (.int .i64 ((rd_T33 t103 x43_2).f1))) (fun _ hk => hk.2) (.string ((rd_T33 t103 x43_2).f2))) (fun _ hk => hk.2) (.int .i64 ((rd_T33 t103 x43_2).f3))) (fun _ h_ => h_.1))) hb); have n1_ := Aside0.mk (Kd.R_elder' (by (with_reducible repeat (first | apply Kd.R_alloc | apply Kd.R_drewN | apply Kd.R_drew)); exact (Kd.R_mono (Kd.R_far (p := ⟨gb109, 3, none⟩) (Kd.R_far (p := ⟨gb109, 2, none⟩) (Kd.R_far (p := ⟨gb109, 1, none⟩) (Kd.R_far (p := ⟨gb109, 0, none⟩) (Kd.R_types HO_8.out BK109.out (by decide)) (fun _ hk => hk.2) (.int .i64 ((rd_T33 t103 x43_2).f0))) (fun _ hk => hk.2) (.int .i64 ((rd_T33 t103 x43_2).f1))) (fun _ hk => hk.2) (.string ((rd_T33 t103 x43_2).f2))) (fun _ hk => hk.2) (.int .i64 ((rd_T33 t103 x43_2).f3))) (fun _ h_ => h_.1))) (Kd.R_base ho27) hb); have n2_ := Aside0.mk (Kd.R_below (by (with_reducible repeat (first | apply Kd.R_alloc | apply Kd.R_drewN | apply Kd.R_drew)); exact (Kd.R_mono (Kd.R_far (p := ⟨gb109, 3, none⟩) (Kd.R_far (p := ⟨gb109, 2, none⟩) (Kd.R_far (p := ⟨gb109, 1, none⟩) (Kd.R_far (p := ⟨gb109, 0, none⟩) (Kd.R_mono HO_41.out (fun k_ hk => (⟨hk, hk.2⟩ : _ ∧ k_ ≠ gb109))) (fun _ hk => hk.2) (.int .i64 ((rd_T33 t103 x43_2).f0))) (fun _ hk => hk.2) (.int .i64 ((rd_T33 t103 x43_2).f1))) (fun _ hk => hk.2) (.string ((rd_T33 t103 x43_2).f2))) (fun _ hk => hk.2) (.int .i64 ((rd_T33 t103 x43_2).f3))) (fun _ h_ => h_.1))) hb); have n3_ := Aside0.mk (Kd.R_lower (Kd.R_new' ho27 (Kd.R_lt (by (with_reducible repeat (first | apply Kd.R_alloc | apply Kd.R_drewN | apply Kd.R_drew)); exact (Kd.R_mono (Kd.R_far (p := ⟨gb109, 3, none⟩) (Kd.R_far (p := ⟨gb109, 2, none⟩) (Kd.R_far (p := ⟨gb109, 1, none⟩) (Kd.R_far (p := ⟨gb109, 0, none⟩) (Kd.R_types HO_8.out BK109.out (by decide)) (fun _ hk => hk.2) (.int .i64 ((rd_T33 t103 x43_2).f0))) (fun _ hk => hk.2) (.int .i64 ((rd_T33 t103 x43_2).f1))) (fun _ hk => hk.2) (.string ((rd_T33 t103 x43_2).f2))) (fun _ hk => hk.2) (.int .i64 ((rd_T33 t103 x43_2).f3))) (fun _ h_ => h_.1))))) (below_size (by repeat (first | (with_reducible first | exact HB.out | apply below_alloc | apply pw_below_drewN | apply below_drew1 | refine below_set ?_ GE109.out) | exact HB.out)))); have n4_ := Aside0.mk (blk_below (g := gb109) (o := .cells #[.int .i64 ((rd_T33 t103 x43_2).f0), .int .i64 ((rd_T33 t103 x43_2).f1), .string ((rd_T33 t103 x43_2).f2), .int .i64 ((rd_T33 t103 x43_2).f3)] 33 (0, 0)) (by (with_reducible repeat (first | refine blk_drewN ?_ _ | refine blk_drew ?_ | refine blk_alloc ?_ _)); refine blk_put (cs := #[.int .i64 ((rd_T33 t103 x43_2).f0), .int .i64 ((rd_T33 t103 x43_2).f1), .string ((rd_T33 t103 x43_2).f2), .int .i64 0]) ?_ 3 _ rfl; (with_reducible repeat (first | refine blk_drewN ?_ _ | refine blk_drew ?_ | refine blk_alloc ?_ _)); refine blk_put (cs := #[.int .i64 ((rd_T33 t103 x43_2).f0), .int .i64 ((rd_T33 t103 x43_2).f1), .string (⟨#[]⟩ : ByteArray), .int .i64 0]) ?_ 2 _ rfl; (with_reducible repeat (first | refine blk_drewN ?_ _ | refine blk_drew ?_ | refine blk_alloc ?_ _)); refine blk_put (cs := #[.int .i64 ((rd_T33 t103 x43_2).f0), .int .i64 0, .string (⟨#[]⟩ : ByteArray), .int .i64 0]) ?_ 1 _ rfl; (with_reducible repeat (first | refine blk_drewN ?_ _ | refine blk_drew ?_ | refine blk_alloc ?_ _)); refine blk_put (cs := #[.int .i64 0, .int .i64 0, .string (⟨#[]⟩ : ByteArray), .int .i64 0]) ?_ 0 _ rfl; (with_reducible repeat (first | refine blk_drewN ?_ _ | refine blk_drew ?_ | refine blk_alloc ?_ _)); exact BK109.out) hb); have n5_ := Aside0.mk (below_step (by repeat (first | (with_reducible first | exact HB.out | apply below_alloc | apply pw_below_drewN | apply below_drew1 | refine below_set ?_ GE109.out) | exact HB.out)) hb); clear HO_5; clear HO_8; clear HO_41; clear BK109; clear HB; have HO_5 := n0_; have HO_8 := n1_; have HO_41 := n2_; have HO112 := n3_; have BK109 := n4_; have HB := n5_; clear n0_ n1_ n2_ n3_ n4_ n5_; clear hb ho27; obtain ⟨Ao29, co29, eo29⟩ := Kd.R_slice HO112.out; subst eo29) | ((with_reducible refine gate_builtin (b := .append) (xs := #[.tmp 47, .tmp 48]) rfl ?_); (try (refine gate_guard (by rfl) ?_; dsimp only)); at_builtin; refine Kd.R_append_rows (Kd.int .u8) (w0 := w) w.heap.size rfl (.tmp 47) (.tmp 48) 22 5 (.int .u8 0) 1 rfl Tryd.underlying22 info5 rfl (by decide) (by omega) u8 x8_2 y110 _ _ _ (fun k_ => some k_ ≠ (.slice Ao29 y110.length co29 : Value).ownBlock) (fun _ => False) rfl rfl ?aO ?aR (fun _ _ h => h) (fun _ h => h.elim) ?aF ?aB ?aS ?aL ?_; (case aR => repeat (first | exact (Kd.R_reads' HO112.out).2.2 | (with_reducible refine Kd.C_alloc ?_ _) | (with_reducible refine Kd.C_drewN ?_ _) | (with_reducible refine Kd.C_drew ?_))); (case aB => exact (by repeat (first | (with_reducible first | exact HB.out | apply below_alloc | apply pw_below_drewN | apply below_drew1 | refine below_set ?_ GE109.out) | exact HB.out))); (case aF => exact (fun k_ hk => Kd.fresh' (Kd.R_lt (by (with_reducible repeat (first | apply Kd.R_alloc | apply Kd.R_drewN | apply Kd.R_drew)); exact HO112.out)) k_ hk)); (case aO => exact (by (with_reducible repeat (first | apply Kd.R_alloc | apply Kd.R_drewN | apply Kd.R_drew)); exact Kd.R_mono HO_8.out (fun _ hk => hk.2))); (case aS => exact (below_size (by repeat (first | (with_reducible first | exact HB.out | apply below_alloc | apply pw_below_drewN | apply below_drew1 | refine below_set ?_ GE109.out) | exact HB.out)))); (case aL => have := LMc20.out; omega); intro v114 w28 ho hb hg hat; rw [← Ny113.out] at ho; have n0_ := Aside0.mk (Kd.R_over' (by (with_reducible repeat (first | apply Kd.R_alloc | apply Kd.R_drewN | apply Kd.R_drew)); exact HO_5.out) (Kd.R_typed (by (with_reducible repeat (first | apply Kd.R_alloc | apply Kd.R_drewN | apply Kd.R_drew)); exact HO_8.out)) (by decide) hg); have n1_ := Aside0.mk (Kd.R_over' (by (with_reducible repeat (first | apply Kd.R_alloc | apply Kd.R_drewN | apply Kd.R_drew)); exact HO_41.out) (Kd.R_typed (by (with_reducible repeat (first | apply Kd.R_alloc | apply Kd.R_drewN | apply Kd.R_drew)); exact HO_8.out)) (by decide) hg); have n2_ := Aside0.mk (blk_grown (g := gb109) (o := .cells #[.int .i64 ((rd_T33 t103 x43_2).f0), .int .i64 ((rd_T33 t103 x43_2).f1), .string ((rd_T33 t103 x43_2).f2), .int .i64 ((rd_T33 t103 x43_2).f3)] 33 (0, 0)) (by (with_reducible repeat (first | refine blk_drewN ?_ _ | refine blk_drew ?_ | refine blk_alloc ?_ _)); exact BK109.out) hg (Kd.R_ne HO_8.out BK109.out (by decide))); have n3_ := Aside0.mk (Kd.R_after (ok := (fun _ => True)) (by (with_reducible repeat (first | apply Kd.R_alloc | apply Kd.R_drewN | apply Kd.R_drew)); exact HO112.out) hg hat); have n4_ := Aside0.mk (hb); have n5_ := Aside0.mk (ho); clear HO_5; clear HO_41; clear BK109; clear HO112; clear HB; clear HO_8; have HO_5 := n0_; have HO_41 := n1_; have BK109 := n2_; have HO112 := n3_; have HB := n4_; have HO115 := n5_; clear n0_ n1_ n2_ n3_ n4_ n5_; clear ho hb hg hat) | ((with_reducible refine gate_builtin (b := .append) (xs := #[.tmp 49, .tmp 50]) rfl ?_); (try (refine gate_guard (by rfl) ?_; dsimp only)); at_builtin; refine Kd.R_append_rows (Kd.int .u8) (w0 := w) w.heap.size rfl (.tmp 49) (.tmp 50) 22 5 (.int .u8 0) 1 rfl Tryd.underlying22 info5 rfl (by decide) (by omega) v114 y113 l1 _ _ _ (fun k_ => some k_ ≠ (.slice Ao29 y110.length co29 : Value).ownBlock) (fun _ => False) rfl rfl ?aO ?aR (fun _ _ h => h) (fun _ h => h.elim) ?aF ?aB ?aS ?aL ?_; (case aR => repeat (first | exact (Kd.C_below HR1.out HB.out) | (with_reducible refine Kd.C_alloc ?_ _) | (with_reducible refine Kd.C_drewN ?_ _) | (with_reducible refine Kd.C_drew ?_))); (case aB => exact (by repeat (first | (with_reducible first | exact HB.out | apply below_alloc | apply pw_below_drewN | apply below_drew1 | refine below_set ?_ GE109.out) | exact HB.out))); (case aF => exact (fun k_ hk => Kd.fresh' (Kd.R_lt (by (with_reducible repeat (first | apply Kd.R_alloc | apply Kd.R_drewN | apply Kd.R_drew)); exact HO112.out)) k_ hk)); (case aO => exact (by (with_reducible repeat (first | apply Kd.R_alloc | apply Kd.R_drewN | apply Kd.R_drew)); exact HO115.out)); (case aS => exact (below_size (by repeat (first | (with_reducible first | exact HB.out | apply below_alloc | apply pw_below_drewN | apply below_drew1 | refine below_set ?_ GE109.out) | exact HB.out)))); (case aL => have := LMc21.out; omega); intro v117 w30 ho hb hg hat; rw [← Ny116.out] at ho; have n0_ := Aside0.mk (Kd.R_over' (by (with_reducible repeat (first | apply Kd.R_alloc | apply Kd.R_drewN | apply Kd.R_drew)); exact HO_5.out) (Kd.R_typed (by (with_reducible repeat (first | apply Kd.R_alloc | apply Kd.R_drewN | apply Kd.R_drew)); exact HO115.out)) (by decide) hg); have n1_ := Aside0.mk (Kd.R_over' (by (with_reducible repeat (first | apply Kd.R_alloc | apply Kd.R_drewN | apply Kd.R_drew)); exact HO_41.out) (Kd.R_typed (by (with_reducible repeat (first | apply Kd.R_alloc | apply Kd.R_drewN | apply Kd.R_drew)); exact HO115.out)) (by decide) hg); have n2_ := Aside0.mk (blk_grown (g := gb109) (o := .cells #[.int .i64 ((rd_T33 t103 x43_2).f0), .int .i64 ((rd_T33 t103 x43_2).f1), .string ((rd_T33 t103 x43_2).f2), .int .i64 ((rd_T33 t103 x43_2).f3)] 33 (0, 0)) (by (with_reducible repeat (first | refine blk_drewN ?_ _ | refine blk_drew ?_ | refine blk_alloc ?_ _)); exact BK109.out) hg (Kd.R_ne HO115.out BK109.out (by decide))); have n3_ := Aside0.mk (Kd.R_after (ok := (fun _ => True)) (by (with_reducible repeat (first | apply Kd.R_alloc | apply Kd.R_drewN | apply Kd.R_drew)); exact HO112.out) hg hat); have n4_ := Aside0.mk (hb); have n5_ := Aside0.mk (ho); clear HO_5; clear HO_41; clear BK109; clear HO112; clear HB; clear HO115; have HO_5 := n0_; have HO_41 := n1_; have BK109 := n2_; have HO112 := n3_; have HB := n4_; have HO118 := n5_; clear n0_ n1_ n2_ n3_ n4_ n5_; clear ho hb hg hat))
                            have n0_ := Aside0.mk (Kd.R_drew HO_5.out)
                            have n1_ := Aside0.mk (Kd.R_drew HO_41.out)
                            have n2_ := Aside0.mk (Kd.R_drew HO112.out)
                            have n3_ := Aside0.mk (Kd.R_drew HO118.out)
                            have n4_ := Aside0.mk (blk_drew BK109.out)
                            have n5_ := Aside0.mk (below_drew1 HB.out)
                            clear HO_5
                            clear HO_41
                            clear HO112
                            clear HO118
                            clear BK109
                            clear HB
                            have HO_5 := n0_
                            have HO_41 := n1_
                            have HO112 := n2_
                            have HO118 := n3_
                            have BK109 := n4_
                            have HB := n5_
                            clear n0_ n1_ n2_ n3_ n4_ n5_
                            refine start_ (n := 7) (S := fun w' => w'.cell? ⟨gb109, 0, none⟩ = some (.int .i64 ((rd_T33 t103 x43_2).f0)) ∧ w'.cell? ⟨gb109, 1, none⟩ = some (.int .i64 ((rd_T33 t103 x43_2).f1)) ∧ w'.cell? ⟨gb109, 2, none⟩ = some (.string ((rd_T33 t103 x43_2).f2)) ∧ w'.cell? ⟨gb109, 3, none⟩ = some (.int .i64 ((rd_T33 t103 x43_2).f3))) (ds := []) #[false, false, false, false, false, false, false] (by kernel_rfl) rfl rfl ⟨(blk_cell BK109.out 0).trans rfl, (blk_cell BK109.out 1).trans rfl, (blk_cell BK109.out 2).trans rfl, (blk_cell BK109.out 3).trans rfl⟩ (fun hHeld => ?_)
                            generalize w30.drew = w31 at HO_5 HO_41 HO112 HO118 BK109 HB hHeld ⊢
                            refine pure_ (i := 0) (N := some 52) (v := ?_) (a' := ?_) #[true, false, false, false, false, false, false] rfl rfl (by kernel_rfl) (fun _ _ _ h => h) (Or.inl ⟨by rfl, ?_⟩) ?_ ?_
                            rotate_left
                            · intro w'
                              go_simp
                              with_reducible rfl
                            rotate_left
                            · simp only [Act.put, List.setIfInBounds_toArray, List.set_cons_zero, List.set_cons_succ, i64_w, i32_w]
                              rfl
                            refine pure_ (i := 3) (N := some 55) (v := ?_) (a' := ?_) #[true, false, false, true, false, false, false] rfl rfl (by kernel_rfl) (fun _ _ _ h => h) (Or.inl ⟨by rfl, ?_⟩) ?_ ?_
                            rotate_left
                            · intro w'
                              go_simp
                              with_reducible rfl
                            rotate_left
                            · simp only [Act.put, List.setIfInBounds_toArray, List.set_cons_zero, List.set_cons_succ, i64_w, i32_w]
                              rfl
                            refine take_ (i := 4) (N := some 56) (v := ?_) (a' := ?_) #[true, false, false, true, true, false, false] rfl rfl (by kernel_rfl) (fun _ _ _ h => h) (Or.inl ⟨by rfl, ?_⟩) hHeld ?_ ?_
                            rotate_left
                            · rintro w' ⟨s0, s1, s2, s3⟩
                              go_simp
                              with_reducible rfl
                            rotate_left
                            · simp only [Act.put, List.setIfInBounds_toArray, List.set_cons_zero, List.set_cons_succ, i64_w, i32_w]
                              rfl
                            refine one_ (i := 1) (N := some 53) #[true, true, false, true, true, false, false] rfl rfl (by kernel_rfl) (by decide) (fun K hK => ?_)
                            refine Kd.R_lit_step (Kd.int .u8) _ 5 ?hg (N := 53) ?hd (xs := ([10, 9] : List Int)) (inner := [.int .u8 10, .int .u8 9]) (ok := fun _ => True) (okp := fun _ => True) ?hr ?hp (fun _ hk => hk) trivial (Below.refl _ _) (Nat.le_refl _) (by simp) ?_; (case hd => rfl); (case hg => rfl); (case hr => first | (go_simp; done) | (go_simp; rfl)); (case hp => exact (Reps.one (show Kd.M (Kd.int .u8) _ _ _ 10 [.int .u8 10] from rfl) (Reps.one (show Kd.M (Kd.int .u8) _ _ _ 9 [.int .u8 9] from rfl) (Reps.none _ _))))
                            intro v120 w32 ho33 hb hg_ hnew_
                            clear hg_ hnew_
                            (first | rw [← Ny119.out] at ho33 | (simp only [Int.reduceToNat] at ho33; rw [← Ny119.out] at ho33))
                            have n0_ := Aside0.mk (Kd.R_below (by (with_reducible repeat (first | apply Kd.R_alloc | apply Kd.R_drewN | apply Kd.R_drew)); exact HO_5.out) hb)
                            have n1_ := Aside0.mk (Kd.R_below (by (with_reducible repeat (first | apply Kd.R_alloc | apply Kd.R_drewN | apply Kd.R_drew)); exact HO_41.out) hb)
                            have n2_ := Aside0.mk (Kd.R_elder' (by (with_reducible repeat (first | apply Kd.R_alloc | apply Kd.R_drewN | apply Kd.R_drew)); exact HO112.out) (Kd.R_base ho33) hb)
                            have n3_ := Aside0.mk (Kd.R_elder' (by (with_reducible repeat (first | apply Kd.R_alloc | apply Kd.R_drewN | apply Kd.R_drew)); exact HO118.out) (Kd.R_base ho33) hb)
                            have n4_ := Aside0.mk (Kd.R_lower (Kd.R_new' (Kd.R_new' ho33 (Kd.R_lt (by (with_reducible repeat (first | apply Kd.R_alloc | apply Kd.R_drewN | apply Kd.R_drew)); exact HO112.out))) (Kd.R_lt (by (with_reducible repeat (first | apply Kd.R_alloc | apply Kd.R_drewN | apply Kd.R_drew)); exact HO118.out))) (below_size (by repeat (first | (with_reducible first | exact HB.out | apply below_alloc | apply pw_below_drewN | apply below_drew1 | refine below_set ?_ GE109.out) | exact HB.out))))
                            have n5_ := Aside0.mk (blk_below (g := gb109) (o := .cells #[.int .i64 ((rd_T33 t103 x43_2).f0), .int .i64 ((rd_T33 t103 x43_2).f1), .string ((rd_T33 t103 x43_2).f2), .int .i64 ((rd_T33 t103 x43_2).f3)] 33 (0, 0)) (by (with_reducible repeat (first | refine blk_drewN ?_ _ | refine blk_drew ?_ | refine blk_alloc ?_ _)); exact BK109.out) hb)
                            have n6_ := Aside0.mk (below_step (by repeat (first | (with_reducible first | exact HB.out | apply below_alloc | apply pw_below_drewN | apply below_drew1 | refine below_set ?_ GE109.out) | exact HB.out)) hb)
                            clear HO_5
                            clear HO_41
                            clear HO112
                            clear HO118
                            clear BK109
                            clear HB
                            have HO_5 := n0_
                            have HO_41 := n1_
                            have HO112 := n2_
                            have HO118 := n3_
                            have HO121 := n4_
                            have BK109 := n5_
                            have HB := n6_
                            clear n0_ n1_ n2_ n3_ n4_ n5_ n6_
                            clear hb ho33
                            obtain ⟨Ao35, co35, eo35⟩ := Kd.R_slice HO121.out
                            (first | subst eo35 | (injection eo35 with f1_ f2_ f3_; have f4_ := f1_.symm; have f5_ := f3_.symm; clear f1_ f2_ f3_; subst f4_; subst f5_))
                            refine hK.out _ _ ⟨(blk_cell BK109.out 0).trans rfl, (blk_cell BK109.out 1).trans rfl, (blk_cell BK109.out 2).trans rfl, (blk_cell BK109.out 3).trans rfl⟩ (fun hHeld => ?_)
                            clear hK K
                            refine norm_ (a' := ?_) ?_ ?_
                            rotate_left
                            · show Act.put _ (some 53) _ = _
                              simp only [Act.put, List.setIfInBounds_toArray, List.set_cons_zero, List.set_cons_succ, i64_w, i32_w]
                              rfl
                            refine one_ (i := 2) (N := some 54) #[true, true, true, true, true, false, false] rfl rfl (by kernel_rfl) (by decide) (fun K hK => ?_)
                            refine Kd.R_append_rows_step (Kd.int .u8) (w0 := w) w.heap.size (by rfl) (.tmp 52) (.tmp 53) 22 5 (.int .u8 0) 1 rfl Tryd.underlying22 info5 rfl (by decide) (by omega) v117 y116 y119 _ _ _ (fun k_ => some k_ ≠ (.slice Ao29 y110.length co29 : Value).ownBlock ∧ some k_ ≠ (.slice Ao35 y119.length co35 : Value).ownBlock) (fun _ => False) rfl rfl ?aO ?aR (fun _ _ h => h) (fun _ h => h.elim) ?aF ?aB ?aS ?aL ?_
                            (case aR => repeat (first | exact (Kd.R_reads' HO121.out).2.2 | (with_reducible refine Kd.C_alloc ?_ _) | (with_reducible refine Kd.C_drewN ?_ _) | (with_reducible refine Kd.C_drew ?_)))
                            (case aB => exact (by repeat (first | (with_reducible first | exact HB.out | apply below_alloc | apply pw_below_drewN | apply below_drew1 | refine below_set ?_ GE109.out) | exact HB.out)))
                            (case aF => exact (fun k_ hk => ⟨Kd.fresh' (Kd.R_lt (by (with_reducible repeat (first | apply Kd.R_alloc | apply Kd.R_drewN | apply Kd.R_drew)); exact HO112.out)) k_ hk, Kd.fresh' (Kd.R_lt (by (with_reducible repeat (first | apply Kd.R_alloc | apply Kd.R_drewN | apply Kd.R_drew)); exact HO121.out)) k_ hk⟩))
                            (case aO => exact (by (with_reducible repeat (first | apply Kd.R_alloc | apply Kd.R_drewN | apply Kd.R_drew)); exact HO118.out))
                            (case aS => exact (below_size (by repeat (first | (with_reducible first | exact HB.out | apply below_alloc | apply pw_below_drewN | apply below_drew1 | refine below_set ?_ GE109.out) | exact HB.out))))
                            (case aL => have := LMc22.out; omega)
                            intro v123 w34 ho hb hg hat
                            rw [← Ny122.out] at ho
                            have n0_ := Aside0.mk (Kd.R_over' (by (with_reducible repeat (first | apply Kd.R_alloc | apply Kd.R_drewN | apply Kd.R_drew)); exact HO_5.out) (Kd.R_typed (by (with_reducible repeat (first | apply Kd.R_alloc | apply Kd.R_drewN | apply Kd.R_drew)); exact HO118.out)) (by decide) hg)
                            have n1_ := Aside0.mk (Kd.R_over' (by (with_reducible repeat (first | apply Kd.R_alloc | apply Kd.R_drewN | apply Kd.R_drew)); exact HO_41.out) (Kd.R_typed (by (with_reducible repeat (first | apply Kd.R_alloc | apply Kd.R_drewN | apply Kd.R_drew)); exact HO118.out)) (by decide) hg)
                            have n2_ := Aside0.mk (blk_grown (g := gb109) (o := .cells #[.int .i64 ((rd_T33 t103 x43_2).f0), .int .i64 ((rd_T33 t103 x43_2).f1), .string ((rd_T33 t103 x43_2).f2), .int .i64 ((rd_T33 t103 x43_2).f3)] 33 (0, 0)) (by (with_reducible repeat (first | refine blk_drewN ?_ _ | refine blk_drew ?_ | refine blk_alloc ?_ _)); exact BK109.out) hg (Kd.R_ne HO118.out BK109.out (by decide)))
                            have n3_ := Aside0.mk (Kd.R_after (ok := (fun k_ => some k_ ≠ (.slice Ao35 y119.length co35 : Value).ownBlock)) (by (with_reducible repeat (first | apply Kd.R_alloc | apply Kd.R_drewN | apply Kd.R_drew)); exact Kd.R_mono HO112.out (fun _ hk => ⟨hk.2, hk.1.2⟩)) hg hat)
                            have n4_ := Aside0.mk (Kd.R_after (ok := (fun k_ => some k_ ≠ (.slice Ao29 y110.length co29 : Value).ownBlock)) (by (with_reducible repeat (first | apply Kd.R_alloc | apply Kd.R_drewN | apply Kd.R_drew)); exact Kd.R_mono HO121.out (fun _ hk => ⟨hk.1.2, hk.2⟩)) hg hat)
                            have n5_ := Aside0.mk (hb)
                            have n6_ := Aside0.mk (ho)
                            clear HO_5
                            clear HO_41
                            clear BK109
                            clear HO112
                            clear HO121
                            clear HB
                            clear HO118
                            have HO_5 := n0_
                            have HO_41 := n1_
                            have BK109 := n2_
                            have HO112 := n3_
                            have HO121 := n4_
                            have HB := n5_
                            have HO124 := n6_
                            clear n0_ n1_ n2_ n3_ n4_ n5_ n6_
                            clear ho hb hg hat
                            refine hK.out _ _ ⟨(blk_cell BK109.out 0).trans rfl, (blk_cell BK109.out 1).trans rfl, (blk_cell BK109.out 2).trans rfl, (blk_cell BK109.out 3).trans rfl⟩ (fun hHeld => ?_)
                            clear hK K
                            refine norm_ (a' := ?_) ?_ ?_
                            rotate_left
                            · show Act.put _ (some 54) _ = _
                              simp only [Act.put, List.setIfInBounds_toArray, List.set_cons_zero, List.set_cons_succ, i64_w, i32_w]
                              rfl
                            refine one_ (i := 5) (N := some 57) #[true, true, true, true, true, true, false] rfl rfl (by kernel_rfl) (by decide) (fun K hK => ?_)
                            refine Kd.R_append_str_step (w0 := w) w.heap.size (by rfl) (.tmp 54) _ 22 9 5 rfl Tryd.underlying22 Tryd.underlying9 info5 v123 y122 ((rd_T33 t103 x43_2).f2) (fun k_ => some k_ ≠ (.slice Ao29 y110.length co29 : Value).ownBlock ∧ some k_ ≠ (.slice Ao35 y119.length co35 : Value).ownBlock) rfl rfl ?aO ?aF ?aB ?aS ?aL ?_
                            (case aB => exact (by repeat (first | (with_reducible first | exact HB.out | apply below_alloc | apply pw_below_drewN | apply below_drew1 | refine below_set ?_ GE109.out) | exact HB.out)))
                            (case aF => exact (fun k_ hk => ⟨Kd.fresh' (Kd.R_lt (by (with_reducible repeat (first | apply Kd.R_alloc | apply Kd.R_drewN | apply Kd.R_drew)); exact HO112.out)) k_ hk, Kd.fresh' (Kd.R_lt (by (with_reducible repeat (first | apply Kd.R_alloc | apply Kd.R_drewN | apply Kd.R_drew)); exact HO121.out)) k_ hk⟩))
                            (case aO => exact (by (with_reducible repeat (first | apply Kd.R_alloc | apply Kd.R_drewN | apply Kd.R_drew)); exact HO124.out))
                            (case aS => exact (below_size (by repeat (first | (with_reducible first | exact HB.out | apply below_alloc | apply pw_below_drewN | apply below_drew1 | refine below_set ?_ GE109.out) | exact HB.out))))
                            (case aL => have := LMc23.out; omega)
                            intro v126 w36 ho hb hg hat
                            rw [← Ny125.out] at ho
                            have n0_ := Aside0.mk (Kd.R_over' (by (with_reducible repeat (first | apply Kd.R_alloc | apply Kd.R_drewN | apply Kd.R_drew)); exact HO_5.out) (Kd.R_typed (by (with_reducible repeat (first | apply Kd.R_alloc | apply Kd.R_drewN | apply Kd.R_drew)); exact HO124.out)) (by decide) hg)
                            have n1_ := Aside0.mk (Kd.R_over' (by (with_reducible repeat (first | apply Kd.R_alloc | apply Kd.R_drewN | apply Kd.R_drew)); exact HO_41.out) (Kd.R_typed (by (with_reducible repeat (first | apply Kd.R_alloc | apply Kd.R_drewN | apply Kd.R_drew)); exact HO124.out)) (by decide) hg)
                            have n2_ := Aside0.mk (blk_grown (g := gb109) (o := .cells #[.int .i64 ((rd_T33 t103 x43_2).f0), .int .i64 ((rd_T33 t103 x43_2).f1), .string ((rd_T33 t103 x43_2).f2), .int .i64 ((rd_T33 t103 x43_2).f3)] 33 (0, 0)) (by (with_reducible repeat (first | refine blk_drewN ?_ _ | refine blk_drew ?_ | refine blk_alloc ?_ _)); exact BK109.out) hg (Kd.R_ne HO124.out BK109.out (by decide)))
                            have n3_ := Aside0.mk (Kd.R_after (ok := (fun k_ => some k_ ≠ (.slice Ao35 y119.length co35 : Value).ownBlock)) (by (with_reducible repeat (first | apply Kd.R_alloc | apply Kd.R_drewN | apply Kd.R_drew)); exact HO112.out) hg hat)
                            have n4_ := Aside0.mk (Kd.R_after (ok := (fun k_ => some k_ ≠ (.slice Ao29 y110.length co29 : Value).ownBlock)) (by (with_reducible repeat (first | apply Kd.R_alloc | apply Kd.R_drewN | apply Kd.R_drew)); exact HO121.out) hg hat)
                            have n5_ := Aside0.mk (hb)
                            have n6_ := Aside0.mk (ho)
                            clear HO_5
                            clear HO_41
                            clear BK109
                            clear HO112
                            clear HO121
                            clear HB
                            clear HO124
                            have HO_5 := n0_
                            have HO_41 := n1_
                            have BK109 := n2_
                            have HO112 := n3_
                            have HO121 := n4_
                            have HB := n5_
                            have HO127 := n6_
                            clear n0_ n1_ n2_ n3_ n4_ n5_ n6_
                            clear ho hb hg hat
                            refine hK.out _ _ ⟨(blk_cell BK109.out 0).trans rfl, (blk_cell BK109.out 1).trans rfl, (blk_cell BK109.out 2).trans rfl, (blk_cell BK109.out 3).trans rfl⟩ (fun hHeld => ?_)
                            clear hK K
                            refine norm_ (a' := ?_) ?_ ?_
                            rotate_left
                            · show Act.put _ (some 57) _ = _
                              simp only [Act.put, List.setIfInBounds_toArray, List.set_cons_zero, List.set_cons_succ, i64_w, i32_w]
                              rfl
                            refine pure_ (i := 6) (N := some 8) (v := ?_) (a' := ?_) #[true, true, true, true, true, true, true] rfl rfl (by kernel_rfl) (fun _ _ _ h => h) (Or.inl ⟨by rfl, ?_⟩) ?_ ?_
                            rotate_left
                            · intro w'
                              go_simp
                              with_reducible rfl
                            rotate_left
                            · simp only [Act.put, List.setIfInBounds_toArray, List.set_cons_zero, List.set_cons_succ, i64_w, i32_w]
                              rfl
                            refine done_ (by kernel_rfl) ?_
                            try go_wp2
                            go_roundg k2
                            case measure => have := HJ2.out; have := HK2.out; omega
                            case rel => exact ⟨(y125), (wrap64 (x43_2 + 1)), (by first | rfl | (simp; done) | (simp [*]; done)), H', ⟨by have := HJ2.out; have := HK2.out; omega⟩, ⟨by (with_reducible repeat (first | apply Kd.R_alloc | apply Kd.R_drewN | apply Kd.R_drew)); exact Kd.R_mono HO_5.out (fun _ hk => trivial)⟩, ⟨by (with_reducible repeat (first | apply Kd.R_alloc | apply Kd.R_drewN | apply Kd.R_drew)); exact Kd.R_mono HO127.out (fun _ hk => trivial)⟩, ⟨by (with_reducible repeat (first | apply Kd.R_alloc | apply Kd.R_drewN | apply Kd.R_drew)); exact Kd.R_mono HO_41.out (fun _ hk => trivial)⟩, ⟨by repeat (first | (with_reducible first | exact HB.out | apply below_alloc | apply pw_below_drewN | apply below_drew1 | refine below_set ?_ GE109.out) | exact HB.out)⟩⟩
                          · rw [if_neg c23] at H
                            exact absurd H (by simp)
                        · rw [if_neg c22] at H
                          exact absurd H (by simp)
                      · rw [if_neg c21] at H
                        exact absurd H (by simp)
                    · rw [if_neg c20] at H
                      exact absurd H (by simp)
                  · rw [if_neg c19] at H
                    exact absurd H (by simp)
                · rw [if_neg c18] at H
                  exact absurd H (by simp)
              · rw [if_neg c17] at H
                have c17b0 : decide (x43_2 < (t103.length : Int)) = false := decide_eq_false c17
                clear c17
                have H' := Aside0.mk H
                clear H
                go_wp2
                go_loopg [61] k2 (fun kq v61 w' => ∃ (x61_3 : Int), v61 = .int .i64 x61_3 ∧ Aside0 (reverielaw01_LexBlanks.l1 kq l0 t103 x8_2 l1 (l1.length : Int) x61_3 = some r) ∧ Aside0 (kq ≤ k2) ∧ Aside0 (Kd.R k33 33 w' w.heap.size (fun _ => True) (.slice Ao16 t103.length co16) t103) ∧ Aside0 (Kd.R (Kd.int .u8) 5 w' w.heap.size (fun _ => True) u8 x8_2) ∧ Aside0 (Below w.heap.size w w'))
                case atStart => exact ⟨(0), (by first | rfl | (simp; done) | (simp [*]; done)), H', ⟨Nat.le_refl _⟩, ⟨by (with_reducible repeat (first | apply Kd.R_alloc | apply Kd.R_drewN | apply Kd.R_drew)); exact HO_5.out⟩, ⟨by (with_reducible repeat (first | apply Kd.R_alloc | apply Kd.R_drewN | apply Kd.R_drew)); exact HO_8.out⟩, ⟨by repeat (first | (with_reducible first | exact HB.out | apply below_alloc | apply pw_below_drewN | apply below_drew1) | exact HB.out)⟩⟩
                case round =>
                  clear H'
                  try clear c1
                  try clear p1
                  try clear q1
                  try clear hx1
                  try clear c2
                  try clear p2
                  try clear c4
                  try clear c5
                  try clear c6
                  try clear c6b0
                  try clear c6b1
                  try clear p6
                  try clear c9
                  try clear c10
                  try clear p10
                  try clear q10
                  try clear hx10
                  try clear c14
                  try clear c14b0
                  try clear c14b1
                  try clear c17
                  try clear c17b0
                  try clear c18
                  try clear c18b0
                  try clear c19
                  try clear c19b0
                  try clear c20
                  try clear c21
                  try clear c22
                  try clear c23
                  try clear hcz25_0
                  try clear hcz25_1
                  try clear hcz25_2
                  try clear hcz25_3
                  try clear hfz25_0
                  try clear hfz25_1
                  try clear hfz25_2
                  try clear hfz25_3
                  try clear hx108_0
                  try clear hx108_1
                  try clear hx108_2
                  try clear hx108_3
                  try clear p108
                  try clear p2
                  try clear q108
                  obtain ⟨x61_3, rfl, HA, HK3, HO_5, HO_8, HB⟩ := hrel
                  cases gk with
                  | zero => exact absurd HA.out (by simp [reverielaw01_LexBlanks.l1])
                  | succ k3 =>
                    have H := HA.out
                    clear HA
                    simp only [reverielaw01_LexBlanks.l1] at H
                    by_cases c37 : x61_3 < (l1.length : Int)
                    · rw [if_pos c37] at H
                      have c37b0 : decide (x61_3 < (l1.length : Int)) = true := decide_eq_true c37
                      clear c37
                      by_cases c38 : 0 ≤ x61_3
                      · rw [if_pos c38] at H
                        have c38b0 : decide (0 ≤ x61_3) = true := decide_eq_true c38
                        clear c38
                        by_cases c39 : x61_3 < (l1.length : Int)
                        · rw [if_pos c39] at H
                          have c39b0 : decide (x61_3 < (l1.length : Int)) = true := decide_eq_true c39
                          clear c39
                          by_cases c40 : (rd l1 x61_3) = 10
                          · rw [if_pos c40] at H
                            have c40b0 : ((rd l1 x61_3) == 10) = true := beq_iff_eq.mpr c40
                            have c40b1 : ((rd l1 x61_3) != 10) = false := bne_eq_false_iff_eq.mpr c40
                            clear c40
                            obtain rfl := Option.some.inj H
                            have p128 : 0 ≤ (x61_3 : Int) := of_decide_eq_true (by first | (with_reducible assumption) | assumption)
                            have q128 : x61_3 < (l1.length : Int) := of_decide_eq_true (by first | (with_reducible assumption) | assumption)
                            obtain ⟨ad128, e128, hx128_0⟩ := Kd.at_int HR1.out x61_3 p128 q128
                            cases e128
                            replace hx128_0 := (HB.out.cell (World.block_lt_of_cell? w _ hx128_0)).trans hx128_0
                            replace p128 := eq_true p128
                            replace q128 := eq_true q128
                            go_wp2
                            go_ret
                            exact ⟨by first | rfl | (simp [errW_none, errW_some] <;> rfl) | (simp [*, errW_none, errW_some] <;> rfl), by repeat (first | (with_reducible first | exact HB.out | apply below_alloc | apply pw_below_drewN | apply below_drew1) | exact HB.out)⟩
                          · rw [if_neg c40] at H
                            have c40b0 : ((rd l1 x61_3) == 10) = false := beq_eq_false_iff_ne.mpr c40
                            have c40b1 : ((rd l1 x61_3) != 10) = true := bne_iff_ne.mpr c40
                            have H' := Aside0.mk H
                            clear H
                            have p128 : 0 ≤ (x61_3 : Int) := of_decide_eq_true (by first | (with_reducible assumption) | assumption)
                            have q128 : x61_3 < (l1.length : Int) := of_decide_eq_true (by first | (with_reducible assumption) | assumption)
                            obtain ⟨ad128, e128, hx128_0⟩ := Kd.at_int HR1.out x61_3 p128 q128
                            cases e128
                            replace hx128_0 := (HB.out.cell (World.block_lt_of_cell? w _ hx128_0)).trans hx128_0
                            replace p128 := eq_true p128
                            replace q128 := eq_true q128
                            go_wp2
                            go_roundg k3
                            case measure => have := HJ2.out; have := HK2.out; have := HK3.out; omega
                            case rel => exact ⟨(wrap64 (x61_3 + 1)), (by first | rfl | (simp; done) | (simp [*]; done)), H', ⟨by have := HJ2.out; have := HK2.out; have := HK3.out; omega⟩, ⟨by (with_reducible repeat (first | apply Kd.R_alloc | apply Kd.R_drewN | apply Kd.R_drew)); exact HO_5.out⟩, ⟨by (with_reducible repeat (first | apply Kd.R_alloc | apply Kd.R_drewN | apply Kd.R_drew)); exact HO_8.out⟩, ⟨by repeat (first | (with_reducible first | exact HB.out | apply below_alloc | apply pw_below_drewN | apply below_drew1) | exact HB.out)⟩⟩
                        · rw [if_neg c39] at H
                          exact absurd H (by simp)
                      · rw [if_neg c38] at H
                        exact absurd H (by simp)
                    · rw [if_neg c37] at H
                      have c37b0 : decide (x61_3 < (l1.length : Int)) = false := decide_eq_false c37
                      clear c37
                      by_cases c41 : (x8_2.length : Int) > 4096
                      · rw [if_pos c41] at H
                        have c41b0 : decide (4096 < (x8_2.length : Int)) = true := decide_eq_true c41
                        have c41b1 : decide (4096 < x8_2.length) = true := decide_eq_true (by omega)
                        clear c41
                        obtain rfl := Option.some.inj H
                        obtain ⟨Ao42, co42, eo42⟩ := Kd.R_slice HO_8.out
                        subst eo42
                        go_wp2
                        go_ret
                        exact ⟨by first | rfl | (simp [errW_none, errW_some] <;> rfl) | (simp [*, errW_none, errW_some] <;> rfl), by repeat (first | (with_reducible first | exact HB.out | apply below_alloc | apply pw_below_drewN | apply below_drew1) | exact HB.out)⟩
                      · rw [if_neg c41] at H
                        have c41b0 : decide (4096 < (x8_2.length : Int)) = false := decide_eq_false c41
                        have c41b1 : decide (4096 < x8_2.length) = false := decide_eq_false (by omega)
                        clear c41
                        replace H := Option.bind_eq_some_iff.mp H
                        obtain ⟨⟨t129, t130, t131⟩, A430, H⟩ := H
                        replace H : (if t131 = 0 then (reverielaw01_LexBlanks.j3 k3 l0 t103 t129 ((t129.length : Int) != (t103.length : Int))) else (reverielaw01_LexBlanks.j3 k3 l0 t103 t129 true)) = some r := H
                        have A43 := Aside0.mk A430
                        clear A430
                        have HC44 := Aside0.mk H
                        clear H
                        obtain ⟨Ao45, co45, eo45⟩ := Kd.R_slice HO_8.out
                        subst eo45
                        go_upto_region 22 with (first | ((with_reducible refine gate_callee (f := 10) rfl ?_); refine goesL_ (some 73) rfl rfl Tryd.func10 (by kernel_rfl) rfl #[.slice Ao45 x8_2.length co45] rfl (by (try simp only [List.map_toArray, List.map_cons, List.map_nil]); first | done | rfl | (simp only [List.length_drop, List.length_take]; rfl)) ?_; (with_reducible refine (lex_Tokens.calls _ _ x8_2 t129 t130 t131 _ ?side1 ?side2 A43.out).mono ?_); (case side1 => repeat (first | exact (Kd.R_reads' HO_8.out).2.2 | (with_reducible refine Kd.C_alloc ?_ _) | (with_reducible refine Kd.C_drewN ?_ _) | (with_reducible refine Kd.C_drew ?_))); (case side2 => exact (Kd.R_reads' HO_8.out).2.1); rintro e w46 ⟨v132, rfl, ho0, hb⟩; refine ⟨_, rfl, ?_⟩; have n0_ := Aside0.mk (Kd.R_elder' (by (with_reducible repeat (first | apply Kd.R_alloc | apply Kd.R_drewN | apply Kd.R_drew)); exact HO_5.out) (Kd.R_base ho0) hb); have n1_ := Aside0.mk (Kd.R_below (by (with_reducible repeat (first | apply Kd.R_alloc | apply Kd.R_drewN | apply Kd.R_drew)); exact HO_8.out) hb); have n2_ := Aside0.mk (Kd.R_lower (Kd.R_new' ho0 (Kd.R_lt (by (with_reducible repeat (first | apply Kd.R_alloc | apply Kd.R_drewN | apply Kd.R_drew)); exact HO_5.out))) (below_size (by repeat (first | (with_reducible first | exact HB.out | apply below_alloc | apply pw_below_drewN | apply below_drew1) | exact HB.out)))); have n3_ := Aside0.mk (below_step (by repeat (first | (with_reducible first | exact HB.out | apply below_alloc | apply pw_below_drewN | apply below_drew1) | exact HB.out)) hb); clear HO_5; clear HO_8; clear HB; have HO_5 := n0_; have HO_8 := n1_; have HO133 := n2_; have HB := n3_; clear n0_ n1_ n2_ n3_; (try clear hb); (try clear hb2); (try clear hk); (try clear hi); (try clear ho0)))
                        (try simp only [Act.put, List.setIfInBounds_toArray, List.set_cons_zero, List.set_cons_succ])
                        go_cut [85] (fun v85 wc => ∃ (kq : Nat) (x85_43 : Bool), v85 = .bool x85_43 ∧ Aside0 (reverielaw01_LexBlanks.j3 kq l0 t103 t129 x85_43 = some r) ∧ Aside0 (kq ≤ k3) ∧ Aside0 (Kd.R k33 33 wc w.heap.size (fun k_ => some k_ ≠ (v132 : Value).ownBlock) (.slice Ao16 t103.length co16) t103) ∧ Aside0 (Kd.R k33 33 wc w.heap.size (fun k_ => some k_ ≠ ((.slice Ao16 t103.length co16) : Value).ownBlock) v132 t129) ∧ Aside0 (Below w.heap.size w wc))
                        case first =>
                          have H := HC44.out
                          clear HC44
                          by_cases c47 : t131 = 0
                          · rw [if_pos c47] at H
                            have c47b0 : (t131 == 0) = true := beq_iff_eq.mpr c47
                            have c47b1 : (t131 != 0) = false := bne_eq_false_iff_eq.mpr c47
                            clear c47
                            (first | rw [c47b0] | (simp only [i64_w, i32_w]; rw [c47b0]) | skip)
                            have H' := Aside0.mk H
                            clear H
                            obtain ⟨Ao48, co48, eo48⟩ := Kd.R_slice HO133.out
                            subst eo48
                            go_wp2
                            go_meet
                            case rel => exact ⟨_, (((t129.length : Int) != (t103.length : Int))), (by first | rfl | (simp; done) | (simp [*]; done)), H', ⟨by have := HJ2.out; have := HK2.out; have := HK3.out; first | omega | exact Nat.le_refl _⟩, ⟨by (with_reducible repeat (first | apply Kd.R_alloc | apply Kd.R_drewN | apply Kd.R_drew)); exact Kd.R_mono HO_5.out (fun _ hk => hk.2)⟩, ⟨by (with_reducible repeat (first | apply Kd.R_alloc | apply Kd.R_drewN | apply Kd.R_drew)); exact Kd.R_mono HO133.out (fun _ hk => hk.2)⟩, ⟨by repeat (first | (with_reducible first | exact HB.out | apply below_alloc | apply pw_below_drewN | apply below_drew1) | exact HB.out)⟩⟩
                          · rw [if_neg c47] at H
                            have c47b0 : (t131 == 0) = false := beq_eq_false_iff_ne.mpr c47
                            have c47b1 : (t131 != 0) = true := bne_iff_ne.mpr c47
                            (first | rw [c47b0] | (simp only [i64_w, i32_w]; rw [c47b0]) | skip)
                            have H' := Aside0.mk H
                            clear H
                            go_wp2
                            go_meet
                            case rel => exact ⟨_, (true), (by first | rfl | (simp; done) | (simp [*]; done)), H', ⟨by have := HJ2.out; have := HK2.out; have := HK3.out; first | omega | exact Nat.le_refl _⟩, ⟨by (with_reducible repeat (first | apply Kd.R_alloc | apply Kd.R_drewN | apply Kd.R_drew)); exact Kd.R_mono HO_5.out (fun _ hk => hk.2)⟩, ⟨by (with_reducible repeat (first | apply Kd.R_alloc | apply Kd.R_drewN | apply Kd.R_drew)); exact Kd.R_mono HO133.out (fun _ hk => hk.2)⟩, ⟨by repeat (first | (with_reducible first | exact HB.out | apply below_alloc | apply pw_below_drewN | apply below_drew1) | exact HB.out)⟩⟩
                        case rest =>
                          clear HC44
                          try clear c1
                          try clear p1
                          try clear q1
                          try clear hx1
                          try clear c2
                          try clear p2
                          try clear c3
                          try clear c4
                          try clear c5
                          try clear c6
                          try clear c6b0
                          try clear c6b1
                          try clear p6
                          try clear c9
                          try clear c10
                          try clear p10
                          try clear q10
                          try clear hx10
                          try clear p12
                          try clear q12
                          try clear hx12
                          try clear c14
                          try clear c14b0
                          try clear c14b1
                          try clear c17
                          try clear c17b0
                          try clear c18
                          try clear c18b0
                          try clear c19
                          try clear c19b0
                          try clear c20
                          try clear c21
                          try clear c22
                          try clear c23
                          try clear c37
                          try clear c37b0
                          try clear c38
                          try clear c38b0
                          try clear c39
                          try clear c39b0
                          try clear c40
                          try clear c40b0
                          try clear c40b1
                          try clear c41
                          try clear c41b0
                          try clear c41b1
                          try clear c47
                          try clear c47b0
                          try clear c47b1
                          try clear hcz25_0
                          try clear hcz25_1
                          try clear hcz25_2
                          try clear hcz25_3
                          try clear hfz25_0
                          try clear hfz25_1
                          try clear hfz25_2
                          try clear hfz25_3
                          try clear hx108_0
                          try clear hx108_1
                          try clear hx108_2
                          try clear hx108_3
                          try clear hx128_0
                          try clear p1
                          try clear p10
                          try clear p108
                          try clear p128
                          try clear p2
                          try clear p6
                          try clear q1
                          try clear q10
                          try clear q108
                          try clear q128
                          obtain ⟨kq, x85_43, rfl, HA, HJ43, HO_5, HO_13, HB⟩ := hcut
                          cases kq with
                          | zero => exact absurd HA.out (by simp [reverielaw01_LexBlanks.j3])
                          | succ kj43 =>
                            have H := HA.out
                            clear HA
                            simp only [reverielaw01_LexBlanks.j3] at H
                            by_cases c49 : x85_43 = true
                            · subst c49
                              have H1 : (some false) = some r := by rw [if_pos rfl] at H; exact H
                              clear H
                              have H := H1
                              clear H1
                              obtain rfl := Option.some.inj H
                              go_wp2
                              go_ret
                              exact ⟨by first | rfl | (simp [errW_none, errW_some] <;> rfl) | (simp [*, errW_none, errW_some] <;> rfl), by repeat (first | (with_reducible first | exact HB.out | apply below_alloc | apply pw_below_drewN | apply below_drew1) | exact HB.out)⟩
                            · replace c49 := Bool.eq_false_iff.mpr c49
                              subst c49
                              have H1 : (reverielaw01_LexBlanks.l2 kj43 l0 t103 t129 (t103.length : Int) 0) = some r := by rw [if_neg (show ¬ (false = true) by decide)] at H; exact H
                              clear H
                              have H := H1
                              clear H1
                              have H' := Aside0.mk H
                              clear H
                              go_wp2
                              go_loopg [88] kj43 (fun kq v88 w' => ∃ (x88_5 : Int), v88 = .int .i64 x88_5 ∧ Aside0 (reverielaw01_LexBlanks.l2 kq l0 t103 t129 (t103.length : Int) x88_5 = some r) ∧ Aside0 (kq ≤ kj43) ∧ Aside0 (Kd.R k33 33 w' w.heap.size (fun k_ => some k_ ≠ (v132 : Value).ownBlock) (.slice Ao16 t103.length co16) t103) ∧ Aside0 (Kd.R k33 33 w' w.heap.size (fun k_ => some k_ ≠ ((.slice Ao16 t103.length co16) : Value).ownBlock) v132 t129) ∧ Aside0 (Below w.heap.size w w'))
                              case atStart => exact ⟨(0), (by first | rfl | (simp; done) | (simp [*]; done)), H', ⟨Nat.le_refl _⟩, ⟨by (with_reducible repeat (first | apply Kd.R_alloc | apply Kd.R_drewN | apply Kd.R_drew)); exact HO_5.out⟩, ⟨by (with_reducible repeat (first | apply Kd.R_alloc | apply Kd.R_drewN | apply Kd.R_drew)); exact HO_13.out⟩, ⟨by repeat (first | (with_reducible first | exact HB.out | apply below_alloc | apply pw_below_drewN | apply below_drew1) | exact HB.out)⟩⟩
                              case round =>
                                clear H'
                                try clear c1
                                try clear p1
                                try clear q1
                                try clear hx1
                                try clear c2
                                try clear p2
                                try clear c3
                                try clear c4
                                try clear c5
                                try clear c6
                                try clear c6b0
                                try clear c6b1
                                try clear p6
                                try clear c9
                                try clear c10
                                try clear p10
                                try clear q10
                                try clear hx10
                                try clear p12
                                try clear q12
                                try clear hx12
                                try clear c14
                                try clear c14b0
                                try clear c14b1
                                try clear c17
                                try clear c17b0
                                try clear c18
                                try clear c18b0
                                try clear c19
                                try clear c19b0
                                try clear c20
                                try clear c21
                                try clear c22
                                try clear c23
                                try clear c37
                                try clear c37b0
                                try clear c38
                                try clear c38b0
                                try clear c39
                                try clear c39b0
                                try clear c40
                                try clear c40b0
                                try clear c40b1
                                try clear c41
                                try clear c41b0
                                try clear c41b1
                                try clear c47
                                try clear c47b0
                                try clear c47b1
                                try clear c49
                                try clear hcz25_0
                                try clear hcz25_1
                                try clear hcz25_2
                                try clear hcz25_3
                                try clear hfz25_0
                                try clear hfz25_1
                                try clear hfz25_2
                                try clear hfz25_3
                                try clear hx108_0
                                try clear hx108_1
                                try clear hx108_2
                                try clear hx108_3
                                try clear hx128_0
                                try clear p1
                                try clear p10
                                try clear p108
                                try clear p12
                                try clear p128
                                try clear p2
                                try clear p6
                                try clear q1
                                try clear q10
                                try clear q108
                                try clear q12
                                try clear q128
                                obtain ⟨x88_5, rfl, HA, HK5, HO_5, HO_13, HB⟩ := hrel
                                cases gk with
                                | zero => exact absurd HA.out (by simp [reverielaw01_LexBlanks.l2])
                                | succ k5 =>
                                  have H := HA.out
                                  clear HA
                                  simp only [reverielaw01_LexBlanks.l2] at H
                                  by_cases c50 : x88_5 < (t103.length : Int)
                                  · rw [if_pos c50] at H
                                    have c50b0 : decide (x88_5 < (t103.length : Int)) = true := decide_eq_true c50
                                    clear c50
                                    by_cases c51 : 0 ≤ x88_5
                                    · rw [if_pos c51] at H
                                      have c51b0 : decide (0 ≤ x88_5) = true := decide_eq_true c51
                                      clear c51
                                      by_cases c52 : x88_5 < (t103.length : Int)
                                      · rw [if_pos c52] at H
                                        have c52b0 : decide (x88_5 < (t103.length : Int)) = true := decide_eq_true c52
                                        clear c52
                                        by_cases c53 : x88_5 < (t129.length : Int)
                                        · rw [if_pos c53] at H
                                          have c53b0 : decide (x88_5 < (t129.length : Int)) = true := decide_eq_true c53
                                          clear c53
                                          by_cases c54 : ((rd_T33 t103 x88_5).f0) = ((rd_T33 t129 x88_5).f0)
                                          · rw [if_pos c54] at H
                                            have c54b0 : (((rd_T33 t103 x88_5).f0) == ((rd_T33 t129 x88_5).f0)) = true := beq_iff_eq.mpr c54
                                            have c54b1 : (((rd_T33 t103 x88_5).f0) != ((rd_T33 t129 x88_5).f0)) = false := bne_eq_false_iff_eq.mpr c54
                                            clear c54
                                            by_cases c55 : ((rd_T33 t103 x88_5).f2).toList = ((rd_T33 t129 x88_5).f2).toList
                                            · rw [if_pos c55] at H
                                              have c55b0 : (((rd_T33 t103 x88_5).f2).toList == ((rd_T33 t129 x88_5).f2).toList) = true := beq_iff_eq.mpr c55
                                              have c55b1 : (((rd_T33 t103 x88_5).f2).toList != ((rd_T33 t129 x88_5).f2).toList) = false := bne_eq_false_iff_eq.mpr c55
                                              clear c55
                                              by_cases c56 : ((rd_T33 t103 x88_5).f3) = ((rd_T33 t129 x88_5).f3)
                                              · rw [if_pos c56] at H
                                                have c56b0 : (((rd_T33 t103 x88_5).f3) == ((rd_T33 t129 x88_5).f3)) = true := beq_iff_eq.mpr c56
                                                have c56b1 : (((rd_T33 t103 x88_5).f3) != ((rd_T33 t129 x88_5).f3)) = false := bne_eq_false_iff_eq.mpr c56
                                                clear c56
                                                by_cases c57 : 0 ≤ ((rd_T33 t103 x88_5).f1)
                                                · rw [if_pos c57] at H
                                                  have c57b0 := eq_true c57
                                                  have c57b1 : decide (0 ≤ ((rd_T33 t103 x88_5).f1)) = true := decide_eq_true c57
                                                  clear c57
                                                  by_cases c58 : ((rd_T33 t103 x88_5).f1) ≤ (wrap64 (((rd_T33 t103 x88_5).f1) + (((rd_T33 t103 x88_5).f2).size : Int)))
                                                  · rw [if_pos c58] at H
                                                    have c58b0 := eq_true c58
                                                    have c58b1 : decide (((rd_T33 t103 x88_5).f1) ≤ (wrap64 (((rd_T33 t103 x88_5).f1) + (((rd_T33 t103 x88_5).f2).size : Int)))) = true := decide_eq_true c58
                                                    by_cases c59 : (wrap64 (((rd_T33 t103 x88_5).f1) + (((rd_T33 t103 x88_5).f2).size : Int))) ≤ (l0.length : Int)
                                                    · rw [if_pos c59] at H
                                                      have c59b0 := eq_true c59
                                                      have c59b1 : decide ((wrap64 (((rd_T33 t103 x88_5).f1) + (((rd_T33 t103 x88_5).f2).size : Int))) ≤ (l0.length : Int)) = true := decide_eq_true c59
                                                      by_cases c60 : (strOfNums ((l0.take ((wrap64 (((rd_T33 t103 x88_5).f1) + (((rd_T33 t103 x88_5).f2).size : Int))) : Int).toNat).drop (((rd_T33 t103 x88_5).f1) : Int).toNat)).toList = ((rd_T33 t103 x88_5).f2).toList
                                                      · rw [if_pos c60] at H
                                                        have c60b0 : ((strOfNums ((l0.take ((wrap64 (((rd_T33 t103 x88_5).f1) + (((rd_T33 t103 x88_5).f2).size : Int))) : Int).toNat).drop (((rd_T33 t103 x88_5).f1) : Int).toNat)).toList == ((rd_T33 t103 x88_5).f2).toList) = true := beq_iff_eq.mpr c60
                                                        have c60b1 : ((strOfNums ((l0.take ((wrap64 (((rd_T33 t103 x88_5).f1) + (((rd_T33 t103 x88_5).f2).size : Int))) : Int).toNat).drop (((rd_T33 t103 x88_5).f1) : Int).toNat)).toList != ((rd_T33 t103 x88_5).f2).toList) = false := bne_eq_false_iff_eq.mpr c60
                                                        clear c60
                                                        have H' := Aside0.mk H
                                                        clear H
                                                        try go_wp2
                                                        have n0_ := Aside0.mk (HO_5.out)
                                                        have n1_ := Aside0.mk (HO_13.out)
                                                        have n2_ := Aside0.mk (HB.out)
                                                        clear HO_5
                                                        clear HO_13
                                                        clear HB
                                                        have HO_5 := n0_
                                                        have HO_13 := n1_
                                                        have HB := n2_
                                                        clear n0_ n1_ n2_
                                                        have p134 : 0 ≤ (x88_5 : Int) := of_decide_eq_true (by first | (with_reducible assumption) | assumption)
                                                        have q134 : x88_5 < (t103.length : Int) := of_decide_eq_true (by first | (with_reducible assumption) | assumption)
                                                        obtain ⟨ad134, e134, hx134_0, hx134_1, hx134_2, hx134_3⟩ := at_T33 (Kd.R_reads' HO_5.out).2.2 x88_5 p134 q134
                                                        cases e134
                                                        replace p134 := eq_true p134
                                                        replace q134 := eq_true q134
                                                        obtain ⟨Ao62, co62, eo62⟩ := Kd.R_slice HO_13.out
                                                        (first | subst eo62 | (injection eo62 with f1_ f2_ f3_; have f4_ := f1_.symm; have f5_ := f3_.symm; clear f1_ f2_ f3_; subst f4_; subst f5_))
                                                        have p135 : 0 ≤ (x88_5 : Int) := of_decide_eq_true (by first | (with_reducible assumption) | assumption)
                                                        have q135 : x88_5 < (t129.length : Int) := of_decide_eq_true (by first | (with_reducible assumption) | assumption)
                                                        obtain ⟨ad135, e135, hx135_0, hx135_1, hx135_2, hx135_3⟩ := at_T33 (Kd.R_reads' HO_13.out).2.2 x88_5 p135 q135
                                                        cases e135
                                                        replace p135 := eq_true p135
                                                        replace q135 := eq_true q135
                                                        have p136 : 0 ≤ (x88_5 : Int) := of_decide_eq_true (by first | (with_reducible assumption) | assumption)
                                                        have q136 : x88_5 < (t103.length : Int) := of_decide_eq_true (by first | (with_reducible assumption) | assumption)
                                                        obtain ⟨ad136, e136, hx136_0, hx136_1, hx136_2, hx136_3⟩ := at_T33 (Kd.R_reads' HO_5.out).2.2 x88_5 p136 q136
                                                        obtain rfl : ad134 = ad136 := (by injection e136)
                                                        replace p136 := eq_true p136
                                                        replace q136 := eq_true q136
                                                        have p137 : 0 ≤ (x88_5 : Int) := of_decide_eq_true (by first | (with_reducible assumption) | assumption)
                                                        have q137 : x88_5 < (t129.length : Int) := of_decide_eq_true (by first | (with_reducible assumption) | assumption)
                                                        obtain ⟨ad137, e137, hx137_0, hx137_1, hx137_2, hx137_3⟩ := at_T33 (Kd.R_reads' HO_13.out).2.2 x88_5 p137 q137
                                                        obtain rfl : ad135 = ad137 := (by injection e137)
                                                        replace p137 := eq_true p137
                                                        replace q137 := eq_true q137
                                                        have p138 : 0 ≤ (x88_5 : Int) := of_decide_eq_true (by first | (with_reducible assumption) | assumption)
                                                        have q138 : x88_5 < (t103.length : Int) := of_decide_eq_true (by first | (with_reducible assumption) | assumption)
                                                        obtain ⟨ad138, e138, hx138_0, hx138_1, hx138_2, hx138_3⟩ := at_T33 (Kd.R_reads' HO_5.out).2.2 x88_5 p138 q138
                                                        obtain rfl : ad134 = ad138 := (by injection e138)
                                                        replace p138 := eq_true p138
                                                        replace q138 := eq_true q138
                                                        have p139 : 0 ≤ (x88_5 : Int) := of_decide_eq_true (by first | (with_reducible assumption) | assumption)
                                                        have q139 : x88_5 < (t129.length : Int) := of_decide_eq_true (by first | (with_reducible assumption) | assumption)
                                                        obtain ⟨ad139, e139, hx139_0, hx139_1, hx139_2, hx139_3⟩ := at_T33 (Kd.R_reads' HO_13.out).2.2 x88_5 p139 q139
                                                        obtain rfl : ad135 = ad139 := (by injection e139)
                                                        replace p139 := eq_true p139
                                                        replace q139 := eq_true q139
                                                        have p140 : 0 ≤ (x88_5 : Int) := of_decide_eq_true (by first | (with_reducible assumption) | assumption)
                                                        have q140 : x88_5 < (t103.length : Int) := of_decide_eq_true (by first | (with_reducible assumption) | assumption)
                                                        obtain ⟨ad140, e140, hx140_0, hx140_1, hx140_2, hx140_3⟩ := at_T33 (Kd.R_reads' HO_5.out).2.2 x88_5 p140 q140
                                                        obtain rfl : ad134 = ad140 := (by injection e140)
                                                        replace p140 := eq_true p140
                                                        replace q140 := eq_true q140
                                                        have p141 : 0 ≤ (x88_5 : Int) := of_decide_eq_true (by first | (with_reducible assumption) | assumption)
                                                        have q141 : x88_5 < (t103.length : Int) := of_decide_eq_true (by first | (with_reducible assumption) | assumption)
                                                        obtain ⟨ad141, e141, hx141_0, hx141_1, hx141_2, hx141_3⟩ := at_T33 (Kd.R_reads' HO_5.out).2.2 x88_5 p141 q141
                                                        obtain rfl : ad134 = ad141 := (by injection e141)
                                                        replace p141 := eq_true p141
                                                        replace q141 := eq_true q141
                                                        have p142 : 0 ≤ (x88_5 : Int) := of_decide_eq_true (by first | (with_reducible assumption) | assumption)
                                                        have q142 : x88_5 < (t103.length : Int) := of_decide_eq_true (by first | (with_reducible assumption) | assumption)
                                                        obtain ⟨ad142, e142, hx142_0, hx142_1, hx142_2, hx142_3⟩ := at_T33 (Kd.R_reads' HO_5.out).2.2 x88_5 p142 q142
                                                        obtain rfl : ad134 = ad142 := (by injection e142)
                                                        replace p142 := eq_true p142
                                                        replace q142 := eq_true q142
                                                        obtain ⟨i063, hi063, _, hsz63, _⟩ := info_parts info5
                                                        obtain ⟨A63, hcut63, hA63, hC63⟩ := print_mid_of (P := Tryd.prog) (Value.int .u8) 0 22 5 .i64 .i64 Tryd.underlying22 hi063 hsz63 A0 c0 l0 ((rd_T33 t103 x88_5).f1) (wrap64 (((rd_T33 t103 x88_5).f1) + (((rd_T33 t103 x88_5).f2).size : Int))) (of_decide_eq_true (by first | (with_reducible assumption) | assumption)) (by first | omega | exact of_decide_eq_true (by first | (with_reducible assumption) | assumption)) (of_decide_eq_true (by first | (with_reducible assumption) | assumption)) HC0.out
                                                        have HR143 := Aside0.mk (Kd.C_of_reads (h1 := fun _ => rfl) (hA63 _ (Kd.reads_of_C HR0.out)))
                                                        have HC143 := Aside0.mk hC63
                                                        clear hA63 hC63 hi063 hsz63
                                                        have p144 : 0 ≤ (x88_5 : Int) := of_decide_eq_true (by first | (with_reducible assumption) | assumption)
                                                        have q144 : x88_5 < (t103.length : Int) := of_decide_eq_true (by first | (with_reducible assumption) | assumption)
                                                        obtain ⟨ad144, e144, hx144_0, hx144_1, hx144_2, hx144_3⟩ := at_T33 (Kd.R_reads' HO_5.out).2.2 x88_5 p144 q144
                                                        obtain rfl : ad134 = ad144 := (by injection e144)
                                                        replace p144 := eq_true p144
                                                        replace q144 := eq_true q144
                                                        have hwr64 : ∀ x_ : Int, IntKind.i64.wrap x_ = wrap64 x_ := i64_w
                                                        have hcv64 := Kd.C_string (P := Tryd.prog) (A := A63) (c := (c0 - ((rd_T33 t103 x88_5).f1).toNat)) Tryd.underlying22 Tryd.underlying5 Tryd.underlying9 (Kd.C_below HR143.out HB.out)
                                                        have hcw64 := (Kd.C_below HR143.out HB.out)
                                                        rw [show ((l0.take ((wrap64 (((rd_T33 t103 x88_5).f1) + (((rd_T33 t103 x88_5).f2).size : Int))) : Int).toNat).drop (((rd_T33 t103 x88_5).f1) : Int).toNat).length = ((wrap64 (((rd_T33 t103 x88_5).f1) + (((rd_T33 t103 x88_5).f2).size : Int))).toNat - ((rd_T33 t103 x88_5).f1).toNat) from (by rw [List.length_drop, List.length_take]; have h_ : ((wrap64 (((rd_T33 t103 x88_5).f1) + (((rd_T33 t103 x88_5).f2).size : Int))) : Int) ≤ (l0.length : Int) := of_decide_eq_true (by first | (with_reducible assumption) | assumption); omega)] at hcw64
                                                        have hcx64 := fun (n_ : Nat) => Kd.C_string (P := Tryd.prog) (A := A63) (c := (c0 - ((rd_T33 t103 x88_5).f1).toNat)) Tryd.underlying22 Tryd.underlying5 Tryd.underlying9 (Kd.C_drewN hcw64 n_)
                                                        try go_wp2
                                                        repeat (go_quiet (fail); try go_wp2)
                                                        go_roundg k5
                                                        case measure => have := HJ2.out; have := HK2.out; have := HK3.out; have := HJ43.out; have := HK5.out; omega
                                                        case rel => exact ⟨(wrap64 (x88_5 + 1)), (by first | rfl | (simp; done) | (simp [*]; done)), H', ⟨by have := HJ2.out; have := HK2.out; have := HK3.out; have := HJ43.out; have := HK5.out; omega⟩, ⟨by (with_reducible repeat (first | apply Kd.R_alloc | apply Kd.R_drewN | apply Kd.R_drew)); exact HO_5.out⟩, ⟨by (with_reducible repeat (first | apply Kd.R_alloc | apply Kd.R_drewN | apply Kd.R_drew)); exact HO_13.out⟩, ⟨by repeat (first | (with_reducible first | exact HB.out | apply below_alloc | apply pw_below_drewN | apply below_drew1) | exact HB.out)⟩⟩
                                                      · rw [if_neg c60] at H
                                                        have c60b0 : ((strOfNums ((l0.take ((wrap64 (((rd_T33 t103 x88_5).f1) + (((rd_T33 t103 x88_5).f2).size : Int))) : Int).toNat).drop (((rd_T33 t103 x88_5).f1) : Int).toNat)).toList == ((rd_T33 t103 x88_5).f2).toList) = false := beq_eq_false_iff_ne.mpr c60
                                                        have c60b1 : ((strOfNums ((l0.take ((wrap64 (((rd_T33 t103 x88_5).f1) + (((rd_T33 t103 x88_5).f2).size : Int))) : Int).toNat).drop (((rd_T33 t103 x88_5).f1) : Int).toNat)).toList != ((rd_T33 t103 x88_5).f2).toList) = true := bne_iff_ne.mpr c60
                                                        obtain rfl := Option.some.inj H
                                                        try go_wp2
                                                        have n0_ := Aside0.mk (HO_5.out)
                                                        have n1_ := Aside0.mk (HO_13.out)
                                                        have n2_ := Aside0.mk (HB.out)
                                                        clear HO_5
                                                        clear HO_13
                                                        clear HB
                                                        have HO_5 := n0_
                                                        have HO_13 := n1_
                                                        have HB := n2_
                                                        clear n0_ n1_ n2_
                                                        have p134 : 0 ≤ (x88_5 : Int) := of_decide_eq_true (by first | (with_reducible assumption) | assumption)
                                                        have q134 : x88_5 < (t103.length : Int) := of_decide_eq_true (by first | (with_reducible assumption) | assumption)
                                                        obtain ⟨ad134, e134, hx134_0, hx134_1, hx134_2, hx134_3⟩ := at_T33 (Kd.R_reads' HO_5.out).2.2 x88_5 p134 q134
                                                        cases e134
                                                        replace p134 := eq_true p134
                                                        replace q134 := eq_true q134
                                                        obtain ⟨Ao66, co66, eo66⟩ := Kd.R_slice HO_13.out
                                                        (first | subst eo66 | (injection eo66 with f1_ f2_ f3_; have f4_ := f1_.symm; have f5_ := f3_.symm; clear f1_ f2_ f3_; subst f4_; subst f5_))
                                                        have p135 : 0 ≤ (x88_5 : Int) := of_decide_eq_true (by first | (with_reducible assumption) | assumption)
                                                        have q135 : x88_5 < (t129.length : Int) := of_decide_eq_true (by first | (with_reducible assumption) | assumption)
                                                        obtain ⟨ad135, e135, hx135_0, hx135_1, hx135_2, hx135_3⟩ := at_T33 (Kd.R_reads' HO_13.out).2.2 x88_5 p135 q135
                                                        cases e135
                                                        replace p135 := eq_true p135
                                                        replace q135 := eq_true q135
                                                        have p136 : 0 ≤ (x88_5 : Int) := of_decide_eq_true (by first | (with_reducible assumption) | assumption)
                                                        have q136 : x88_5 < (t103.length : Int) := of_decide_eq_true (by first | (with_reducible assumption) | assumption)
                                                        obtain ⟨ad136, e136, hx136_0, hx136_1, hx136_2, hx136_3⟩ := at_T33 (Kd.R_reads' HO_5.out).2.2 x88_5 p136 q136
                                                        obtain rfl : ad134 = ad136 := (by injection e136)
                                                        replace p136 := eq_true p136
                                                        replace q136 := eq_true q136
                                                        have p137 : 0 ≤ (x88_5 : Int) := of_decide_eq_true (by first | (with_reducible assumption) | assumption)
                                                        have q137 : x88_5 < (t129.length : Int) := of_decide_eq_true (by first | (with_reducible assumption) | assumption)
                                                        obtain ⟨ad137, e137, hx137_0, hx137_1, hx137_2, hx137_3⟩ := at_T33 (Kd.R_reads' HO_13.out).2.2 x88_5 p137 q137
                                                        obtain rfl : ad135 = ad137 := (by injection e137)
                                                        replace p137 := eq_true p137
                                                        replace q137 := eq_true q137
                                                        have p138 : 0 ≤ (x88_5 : Int) := of_decide_eq_true (by first | (with_reducible assumption) | assumption)
                                                        have q138 : x88_5 < (t103.length : Int) := of_decide_eq_true (by first | (with_reducible assumption) | assumption)
                                                        obtain ⟨ad138, e138, hx138_0, hx138_1, hx138_2, hx138_3⟩ := at_T33 (Kd.R_reads' HO_5.out).2.2 x88_5 p138 q138
                                                        obtain rfl : ad134 = ad138 := (by injection e138)
                                                        replace p138 := eq_true p138
                                                        replace q138 := eq_true q138
                                                        have p139 : 0 ≤ (x88_5 : Int) := of_decide_eq_true (by first | (with_reducible assumption) | assumption)
                                                        have q139 : x88_5 < (t129.length : Int) := of_decide_eq_true (by first | (with_reducible assumption) | assumption)
                                                        obtain ⟨ad139, e139, hx139_0, hx139_1, hx139_2, hx139_3⟩ := at_T33 (Kd.R_reads' HO_13.out).2.2 x88_5 p139 q139
                                                        obtain rfl : ad135 = ad139 := (by injection e139)
                                                        replace p139 := eq_true p139
                                                        replace q139 := eq_true q139
                                                        have p140 : 0 ≤ (x88_5 : Int) := of_decide_eq_true (by first | (with_reducible assumption) | assumption)
                                                        have q140 : x88_5 < (t103.length : Int) := of_decide_eq_true (by first | (with_reducible assumption) | assumption)
                                                        obtain ⟨ad140, e140, hx140_0, hx140_1, hx140_2, hx140_3⟩ := at_T33 (Kd.R_reads' HO_5.out).2.2 x88_5 p140 q140
                                                        obtain rfl : ad134 = ad140 := (by injection e140)
                                                        replace p140 := eq_true p140
                                                        replace q140 := eq_true q140
                                                        have p141 : 0 ≤ (x88_5 : Int) := of_decide_eq_true (by first | (with_reducible assumption) | assumption)
                                                        have q141 : x88_5 < (t103.length : Int) := of_decide_eq_true (by first | (with_reducible assumption) | assumption)
                                                        obtain ⟨ad141, e141, hx141_0, hx141_1, hx141_2, hx141_3⟩ := at_T33 (Kd.R_reads' HO_5.out).2.2 x88_5 p141 q141
                                                        obtain rfl : ad134 = ad141 := (by injection e141)
                                                        replace p141 := eq_true p141
                                                        replace q141 := eq_true q141
                                                        have p142 : 0 ≤ (x88_5 : Int) := of_decide_eq_true (by first | (with_reducible assumption) | assumption)
                                                        have q142 : x88_5 < (t103.length : Int) := of_decide_eq_true (by first | (with_reducible assumption) | assumption)
                                                        obtain ⟨ad142, e142, hx142_0, hx142_1, hx142_2, hx142_3⟩ := at_T33 (Kd.R_reads' HO_5.out).2.2 x88_5 p142 q142
                                                        obtain rfl : ad134 = ad142 := (by injection e142)
                                                        replace p142 := eq_true p142
                                                        replace q142 := eq_true q142
                                                        obtain ⟨i067, hi067, _, hsz67, _⟩ := info_parts info5
                                                        obtain ⟨A67, hcut67, hA67, hC67⟩ := print_mid_of (P := Tryd.prog) (Value.int .u8) 0 22 5 .i64 .i64 Tryd.underlying22 hi067 hsz67 A0 c0 l0 ((rd_T33 t103 x88_5).f1) (wrap64 (((rd_T33 t103 x88_5).f1) + (((rd_T33 t103 x88_5).f2).size : Int))) (of_decide_eq_true (by first | (with_reducible assumption) | assumption)) (by first | omega | exact of_decide_eq_true (by first | (with_reducible assumption) | assumption)) (of_decide_eq_true (by first | (with_reducible assumption) | assumption)) HC0.out
                                                        have HR143 := Aside0.mk (Kd.C_of_reads (h1 := fun _ => rfl) (hA67 _ (Kd.reads_of_C HR0.out)))
                                                        have HC143 := Aside0.mk hC67
                                                        clear hA67 hC67 hi067 hsz67
                                                        have p144 : 0 ≤ (x88_5 : Int) := of_decide_eq_true (by first | (with_reducible assumption) | assumption)
                                                        have q144 : x88_5 < (t103.length : Int) := of_decide_eq_true (by first | (with_reducible assumption) | assumption)
                                                        obtain ⟨ad144, e144, hx144_0, hx144_1, hx144_2, hx144_3⟩ := at_T33 (Kd.R_reads' HO_5.out).2.2 x88_5 p144 q144
                                                        obtain rfl : ad134 = ad144 := (by injection e144)
                                                        replace p144 := eq_true p144
                                                        replace q144 := eq_true q144
                                                        have hwr68 : ∀ x_ : Int, IntKind.i64.wrap x_ = wrap64 x_ := i64_w
                                                        have hcv68 := Kd.C_string (P := Tryd.prog) (A := A67) (c := (c0 - ((rd_T33 t103 x88_5).f1).toNat)) Tryd.underlying22 Tryd.underlying5 Tryd.underlying9 (Kd.C_below HR143.out HB.out)
                                                        have hcw68 := (Kd.C_below HR143.out HB.out)
                                                        rw [show ((l0.take ((wrap64 (((rd_T33 t103 x88_5).f1) + (((rd_T33 t103 x88_5).f2).size : Int))) : Int).toNat).drop (((rd_T33 t103 x88_5).f1) : Int).toNat).length = ((wrap64 (((rd_T33 t103 x88_5).f1) + (((rd_T33 t103 x88_5).f2).size : Int))).toNat - ((rd_T33 t103 x88_5).f1).toNat) from (by rw [List.length_drop, List.length_take]; have h_ : ((wrap64 (((rd_T33 t103 x88_5).f1) + (((rd_T33 t103 x88_5).f2).size : Int))) : Int) ≤ (l0.length : Int) := of_decide_eq_true (by first | (with_reducible assumption) | assumption); omega)] at hcw68
                                                        have hcx68 := fun (n_ : Nat) => Kd.C_string (P := Tryd.prog) (A := A67) (c := (c0 - ((rd_T33 t103 x88_5).f1).toNat)) Tryd.underlying22 Tryd.underlying5 Tryd.underlying9 (Kd.C_drewN hcw68 n_)
                                                        try go_wp2
                                                        repeat (go_quiet (fail); try go_wp2)
                                                        go_ret
                                                        exact ⟨by first | rfl | (simp [errW_none, errW_some] <;> rfl) | (simp [*, errW_none, errW_some] <;> rfl), by repeat (first | (with_reducible first | exact HB.out | apply below_alloc | apply pw_below_drewN | apply below_drew1) | exact HB.out)⟩
                                                    · rw [if_neg c59] at H
                                                      exact absurd H (by simp)
                                                  · rw [if_neg c58] at H
                                                    exact absurd H (by simp)
                                                · rw [if_neg c57] at H
                                                  exact absurd H (by simp)
                                              · rw [if_neg c56] at H
                                                have c56b0 : (((rd_T33 t103 x88_5).f3) == ((rd_T33 t129 x88_5).f3)) = false := beq_eq_false_iff_ne.mpr c56
                                                have c56b1 : (((rd_T33 t103 x88_5).f3) != ((rd_T33 t129 x88_5).f3)) = true := bne_iff_ne.mpr c56
                                                obtain rfl := Option.some.inj H
                                                try go_wp2
                                                have n0_ := Aside0.mk (HO_5.out)
                                                have n1_ := Aside0.mk (HO_13.out)
                                                have n2_ := Aside0.mk (HB.out)
                                                clear HO_5
                                                clear HO_13
                                                clear HB
                                                have HO_5 := n0_
                                                have HO_13 := n1_
                                                have HB := n2_
                                                clear n0_ n1_ n2_
                                                have p134 : 0 ≤ (x88_5 : Int) := of_decide_eq_true (by first | (with_reducible assumption) | assumption)
                                                have q134 : x88_5 < (t103.length : Int) := of_decide_eq_true (by first | (with_reducible assumption) | assumption)
                                                obtain ⟨ad134, e134, hx134_0, hx134_1, hx134_2, hx134_3⟩ := at_T33 (Kd.R_reads' HO_5.out).2.2 x88_5 p134 q134
                                                cases e134
                                                replace p134 := eq_true p134
                                                replace q134 := eq_true q134
                                                obtain ⟨Ao70, co70, eo70⟩ := Kd.R_slice HO_13.out
                                                (first | subst eo70 | (injection eo70 with f1_ f2_ f3_; have f4_ := f1_.symm; have f5_ := f3_.symm; clear f1_ f2_ f3_; subst f4_; subst f5_))
                                                have p135 : 0 ≤ (x88_5 : Int) := of_decide_eq_true (by first | (with_reducible assumption) | assumption)
                                                have q135 : x88_5 < (t129.length : Int) := of_decide_eq_true (by first | (with_reducible assumption) | assumption)
                                                obtain ⟨ad135, e135, hx135_0, hx135_1, hx135_2, hx135_3⟩ := at_T33 (Kd.R_reads' HO_13.out).2.2 x88_5 p135 q135
                                                cases e135
                                                replace p135 := eq_true p135
                                                replace q135 := eq_true q135
                                                have p136 : 0 ≤ (x88_5 : Int) := of_decide_eq_true (by first | (with_reducible assumption) | assumption)
                                                have q136 : x88_5 < (t103.length : Int) := of_decide_eq_true (by first | (with_reducible assumption) | assumption)
                                                obtain ⟨ad136, e136, hx136_0, hx136_1, hx136_2, hx136_3⟩ := at_T33 (Kd.R_reads' HO_5.out).2.2 x88_5 p136 q136
                                                obtain rfl : ad134 = ad136 := (by injection e136)
                                                replace p136 := eq_true p136
                                                replace q136 := eq_true q136
                                                have p137 : 0 ≤ (x88_5 : Int) := of_decide_eq_true (by first | (with_reducible assumption) | assumption)
                                                have q137 : x88_5 < (t129.length : Int) := of_decide_eq_true (by first | (with_reducible assumption) | assumption)
                                                obtain ⟨ad137, e137, hx137_0, hx137_1, hx137_2, hx137_3⟩ := at_T33 (Kd.R_reads' HO_13.out).2.2 x88_5 p137 q137
                                                obtain rfl : ad135 = ad137 := (by injection e137)
                                                replace p137 := eq_true p137
                                                replace q137 := eq_true q137
                                                have p138 : 0 ≤ (x88_5 : Int) := of_decide_eq_true (by first | (with_reducible assumption) | assumption)
                                                have q138 : x88_5 < (t103.length : Int) := of_decide_eq_true (by first | (with_reducible assumption) | assumption)
                                                obtain ⟨ad138, e138, hx138_0, hx138_1, hx138_2, hx138_3⟩ := at_T33 (Kd.R_reads' HO_5.out).2.2 x88_5 p138 q138
                                                obtain rfl : ad134 = ad138 := (by injection e138)
                                                replace p138 := eq_true p138
                                                replace q138 := eq_true q138
                                                have p139 : 0 ≤ (x88_5 : Int) := of_decide_eq_true (by first | (with_reducible assumption) | assumption)
                                                have q139 : x88_5 < (t129.length : Int) := of_decide_eq_true (by first | (with_reducible assumption) | assumption)
                                                obtain ⟨ad139, e139, hx139_0, hx139_1, hx139_2, hx139_3⟩ := at_T33 (Kd.R_reads' HO_13.out).2.2 x88_5 p139 q139
                                                obtain rfl : ad135 = ad139 := (by injection e139)
                                                replace p139 := eq_true p139
                                                replace q139 := eq_true q139
                                                try go_wp2
                                                repeat (go_quiet (fail); try go_wp2)
                                                go_ret
                                                exact ⟨by first | rfl | (simp [errW_none, errW_some] <;> rfl) | (simp [*, errW_none, errW_some] <;> rfl), by repeat (first | (with_reducible first | exact HB.out | apply below_alloc | apply pw_below_drewN | apply below_drew1) | exact HB.out)⟩
                                            · rw [if_neg c55] at H
                                              have c55b0 : (((rd_T33 t103 x88_5).f2).toList == ((rd_T33 t129 x88_5).f2).toList) = false := beq_eq_false_iff_ne.mpr c55
                                              have c55b1 : (((rd_T33 t103 x88_5).f2).toList != ((rd_T33 t129 x88_5).f2).toList) = true := bne_iff_ne.mpr c55
                                              obtain rfl := Option.some.inj H
                                              try go_wp2
                                              have n0_ := Aside0.mk (HO_5.out)
                                              have n1_ := Aside0.mk (HO_13.out)
                                              have n2_ := Aside0.mk (HB.out)
                                              clear HO_5
                                              clear HO_13
                                              clear HB
                                              have HO_5 := n0_
                                              have HO_13 := n1_
                                              have HB := n2_
                                              clear n0_ n1_ n2_
                                              have p134 : 0 ≤ (x88_5 : Int) := of_decide_eq_true (by first | (with_reducible assumption) | assumption)
                                              have q134 : x88_5 < (t103.length : Int) := of_decide_eq_true (by first | (with_reducible assumption) | assumption)
                                              obtain ⟨ad134, e134, hx134_0, hx134_1, hx134_2, hx134_3⟩ := at_T33 (Kd.R_reads' HO_5.out).2.2 x88_5 p134 q134
                                              cases e134
                                              replace p134 := eq_true p134
                                              replace q134 := eq_true q134
                                              obtain ⟨Ao72, co72, eo72⟩ := Kd.R_slice HO_13.out
                                              (first | subst eo72 | (injection eo72 with f1_ f2_ f3_; have f4_ := f1_.symm; have f5_ := f3_.symm; clear f1_ f2_ f3_; subst f4_; subst f5_))
                                              have p135 : 0 ≤ (x88_5 : Int) := of_decide_eq_true (by first | (with_reducible assumption) | assumption)
                                              have q135 : x88_5 < (t129.length : Int) := of_decide_eq_true (by first | (with_reducible assumption) | assumption)
                                              obtain ⟨ad135, e135, hx135_0, hx135_1, hx135_2, hx135_3⟩ := at_T33 (Kd.R_reads' HO_13.out).2.2 x88_5 p135 q135
                                              cases e135
                                              replace p135 := eq_true p135
                                              replace q135 := eq_true q135
                                              have p136 : 0 ≤ (x88_5 : Int) := of_decide_eq_true (by first | (with_reducible assumption) | assumption)
                                              have q136 : x88_5 < (t103.length : Int) := of_decide_eq_true (by first | (with_reducible assumption) | assumption)
                                              obtain ⟨ad136, e136, hx136_0, hx136_1, hx136_2, hx136_3⟩ := at_T33 (Kd.R_reads' HO_5.out).2.2 x88_5 p136 q136
                                              obtain rfl : ad134 = ad136 := (by injection e136)
                                              replace p136 := eq_true p136
                                              replace q136 := eq_true q136
                                              have p137 : 0 ≤ (x88_5 : Int) := of_decide_eq_true (by first | (with_reducible assumption) | assumption)
                                              have q137 : x88_5 < (t129.length : Int) := of_decide_eq_true (by first | (with_reducible assumption) | assumption)
                                              obtain ⟨ad137, e137, hx137_0, hx137_1, hx137_2, hx137_3⟩ := at_T33 (Kd.R_reads' HO_13.out).2.2 x88_5 p137 q137
                                              obtain rfl : ad135 = ad137 := (by injection e137)
                                              replace p137 := eq_true p137
                                              replace q137 := eq_true q137
                                              try go_wp2
                                              repeat (go_quiet (fail); try go_wp2)
                                              go_ret
                                              exact ⟨by first | rfl | (simp [errW_none, errW_some] <;> rfl) | (simp [*, errW_none, errW_some] <;> rfl), by repeat (first | (with_reducible first | exact HB.out | apply below_alloc | apply pw_below_drewN | apply below_drew1) | exact HB.out)⟩
                                          · rw [if_neg c54] at H
                                            have c54b0 : (((rd_T33 t103 x88_5).f0) == ((rd_T33 t129 x88_5).f0)) = false := beq_eq_false_iff_ne.mpr c54
                                            have c54b1 : (((rd_T33 t103 x88_5).f0) != ((rd_T33 t129 x88_5).f0)) = true := bne_iff_ne.mpr c54
                                            obtain rfl := Option.some.inj H
                                            try go_wp2
                                            have n0_ := Aside0.mk (HO_5.out)
                                            have n1_ := Aside0.mk (HO_13.out)
                                            have n2_ := Aside0.mk (HB.out)
                                            clear HO_5
                                            clear HO_13
                                            clear HB
                                            have HO_5 := n0_
                                            have HO_13 := n1_
                                            have HB := n2_
                                            clear n0_ n1_ n2_
                                            have p134 : 0 ≤ (x88_5 : Int) := of_decide_eq_true (by first | (with_reducible assumption) | assumption)
                                            have q134 : x88_5 < (t103.length : Int) := of_decide_eq_true (by first | (with_reducible assumption) | assumption)
                                            obtain ⟨ad134, e134, hx134_0, hx134_1, hx134_2, hx134_3⟩ := at_T33 (Kd.R_reads' HO_5.out).2.2 x88_5 p134 q134
                                            cases e134
                                            replace p134 := eq_true p134
                                            replace q134 := eq_true q134
                                            obtain ⟨Ao74, co74, eo74⟩ := Kd.R_slice HO_13.out
                                            (first | subst eo74 | (injection eo74 with f1_ f2_ f3_; have f4_ := f1_.symm; have f5_ := f3_.symm; clear f1_ f2_ f3_; subst f4_; subst f5_))
                                            have p135 : 0 ≤ (x88_5 : Int) := of_decide_eq_true (by first | (with_reducible assumption) | assumption)
                                            have q135 : x88_5 < (t129.length : Int) := of_decide_eq_true (by first | (with_reducible assumption) | assumption)
                                            obtain ⟨ad135, e135, hx135_0, hx135_1, hx135_2, hx135_3⟩ := at_T33 (Kd.R_reads' HO_13.out).2.2 x88_5 p135 q135
                                            cases e135
                                            replace p135 := eq_true p135
                                            replace q135 := eq_true q135
                                            try go_wp2
                                            repeat (go_quiet (fail); try go_wp2)
                                            go_ret
                                            exact ⟨by first | rfl | (simp [errW_none, errW_some] <;> rfl) | (simp [*, errW_none, errW_some] <;> rfl), by repeat (first | (with_reducible first | exact HB.out | apply below_alloc | apply pw_below_drewN | apply below_drew1) | exact HB.out)⟩
                                        · rw [if_neg c53] at H
                                          exact absurd H (by simp)
                                      · rw [if_neg c52] at H
                                        exact absurd H (by simp)
                                    · rw [if_neg c51] at H
                                      exact absurd H (by simp)
                                  · rw [if_neg c50] at H
                                    have c50b0 : decide (x88_5 < (t103.length : Int)) = false := decide_eq_false c50
                                    clear c50
                                    obtain rfl := Option.some.inj H
                                    go_wp2
                                    go_ret
                                    exact ⟨by first | rfl | (simp [errW_none, errW_some] <;> rfl) | (simp [*, errW_none, errW_some] <;> rfl), by repeat (first | (with_reducible first | exact HB.out | apply below_alloc | apply pw_below_drewN | apply below_drew1) | exact HB.out)⟩
        · rw [if_neg c14] at H
          have c14b0 : (t105 == 0) = false := beq_eq_false_iff_ne.mpr c14
          have c14b1 : (t105 != 0) = true := bne_iff_ne.mpr c14
          obtain rfl := Option.some.inj H
          go_wp2_with (first | ((with_reducible refine gate_callee (f := 10) rfl ?_); refine goesL_ (some 32) rfl rfl Tryd.func10 (by kernel_rfl) rfl #[.slice A0 l0.length c0] rfl (by (try simp only [List.map_toArray, List.map_cons, List.map_nil]); first | done | rfl | (simp only [List.length_drop, List.length_take]; rfl)) ?_; (with_reducible refine (lex_Tokens.calls _ _ l0 t103 t104 t105 _ ?side1 ?side2 A13.out).mono ?_); (case side1 => repeat (first | exact (Kd.C_below HR0.out HB.out) | (with_reducible refine Kd.C_alloc ?_ _) | (with_reducible refine Kd.C_drewN ?_ _) | (with_reducible refine Kd.C_drew ?_))); (case side2 => exact HC0.out); rintro e w75 ⟨v106, rfl, ho0, hb⟩; refine ⟨_, rfl, ?_⟩; have n0_ := Aside0.mk (Kd.R_lower ho0 (below_size (by repeat (first | (with_reducible first | exact HB.out | apply below_alloc | apply pw_below_drewN | apply below_drew1) | exact HB.out)))); have n1_ := Aside0.mk (below_step (by repeat (first | (with_reducible first | exact HB.out | apply below_alloc | apply pw_below_drewN | apply below_drew1) | exact HB.out)) hb); clear HB; have HO107 := n0_; have HB := n1_; clear n0_ n1_; (try clear hb); (try clear hb2); (try clear hk); (try clear hi); (try clear ho0); obtain ⟨Ao76, co76, eo76⟩ := Kd.R_slice HO107.out; subst eo76))
          go_ret
          exact ⟨by first | rfl | (simp [errW_none, errW_some] <;> rfl) | (simp [*, errW_none, errW_some] <;> rfl), by repeat (first | (with_reducible first | exact HB.out | apply below_alloc | apply pw_below_drewN | apply below_drew1) | exact HB.out)⟩

/-- THE ONE PURE STATEMENT of reverielaw01_LexBlanks: yours. -/
def reverielaw01_LexBlanks.Pure : Prop := ∀ (l0 : List Int) (l1 : List Int), l0.length ≤ maxLen → l0.length * 1 ≤ 140737488351232 → (∀ x ∈ l0, (Lit.int .u8 x).wf = true) → l1.length ≤ maxLen → l1.length * 1 ≤ 140737488351232 → (∀ x ∈ l1, (Lit.int .u8 x).wf = true) → ∃ k, reverielaw01_LexBlanks.f k l0 l1 = some true
theorem reverielaw01_LexBlanks.walk (P : reverielaw01_LexBlanks.Pure) (a0 : Option Addr) (len0 cap0 : Nat) (z0 : List Int) (a1 : Option Addr) (len1 cap1 : Nat) (z1 : List Int) (w : World) (w0 : (a0 = none ∧ len0 = 0 ∧ cap0 = 0 ∧ z0 = []) ∨ ∃ x, a0 = some x ∧ len0 ≤ cap0 ∧ cap0 ≤ maxLen ∧ z0.length = cap0 ∧ (∀ i, i < z0.length → w.cell? (x.add i) = some (.int .u8 (z0.getD i 0))) ∧ ∀ n ∈ z0, (Lit.int .u8 n).wf = true) (y0 : len0 * 1 ≤ 140737488351232) (w1 : (a1 = none ∧ len1 = 0 ∧ cap1 = 0 ∧ z1 = []) ∨ ∃ x, a1 = some x ∧ len1 ≤ cap1 ∧ cap1 ≤ maxLen ∧ z1.length = cap1 ∧ (∀ i, i < z1.length → w.cell? (x.add i) = some (.int .u8 (z1.getD i 0))) ∧ ∀ n ∈ z1, (Lit.int .u8 n).wf = true) (y1 : len1 * 1 ≤ 140737488351232) :
    Calls Tryd.prog 4 #[.slice a0 len0 cap0, .slice a1 len1 cap1] w fun e w' => e = .returned (.bool true) ∧ Below w.heap.size w w' := by
  obtain ⟨l0, rfl, hr0, hm0, hw0, hc0⟩ := ReadsInt.ofRowC w0
  obtain ⟨l1, rfl, hr1, hm1, hw1, hc1⟩ := ReadsInt.ofRowC w1
  obtain ⟨k, h⟩ := P l0 l1 hm0 y0 hw0 hm1 y1 hw1
  refine (reverielaw01_LexBlanks.calls k _ _ l0 _ _ l1 true w (Kd.C_of_reads (d := (0 : Int)) (h1 := fun _ => rfl) hr0) hc0 (Kd.C_of_reads (d := (0 : Int)) (h1 := fun _ => rfl) hr1) hc1 h).mono ?_
  rintro e w' ⟨rfl, hd⟩
  exact ⟨rfl, hd⟩

end Go.Proofs.YtincigcoagcgaaaDoor.Pr
