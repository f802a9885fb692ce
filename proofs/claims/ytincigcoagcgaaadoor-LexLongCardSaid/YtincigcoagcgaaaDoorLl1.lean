/- The Go functions that the laws of this seat reach, as Lean functions, and that each call comes to them: written by a program. -/
import Derived.Test.YtincigcoagcgaaaDoorKw
import Derived.Test.YtincigcoagcgaaaDoorPr0
import Derived.Test.YtincigcoagcgaaaDoorLexB
import Derived.Test.YtincigcoagcgaaaDoorLexLives
namespace Go.Proofs.YtincigcoagcgaaaDoor.Pr
open Go.RowKit Go.Proofs.YtincigcoagcgaaaDoorW.PrintWords Go.Proofs.YtincigcoagcgaaaDoorW.PrintLast Go.Proofs.YtincigcoagcgaaaDoorW.PrintMore
attribute [local go_sem] max2_int min2_int max_two min_two max_three min_three max_four min_four   -- for this text's walks alone
set_option linter.unusedVariables false
set_option linter.unusedSimpArgs false

/-! ### reverielaw01_LexLong: function 5 -/
def reverielaw01_LexLong.l0 : Nat → Int → Int → List Int → Int → Int → Option (Bool)
  | 0, _, _, _, _, _ => none
  | k + 1, x1, x5, x6, x21, x22 => if x22 < x21 then (if 0 ≤ x22 then (if x22 < (x6.length : Int) then (reverielaw01_LexLong.l0 k x1 x5 (x6.set (x22 : Int).toNat 32) x21 (wrap64 (x22 + 1))) else (none)) else (none)) else (if 0 < (x6.length : Int) then (if 0 ≤ (wrap64 (x5 - 1)) then (if (wrap64 (x5 - 1)) < (x6.length : Int) then ((lex_Tokens.f ((x6.set (0 : Int).toNat 59).set ((wrap64 (x5 - 1)) : Int).toNat x1)).bind fun bt108 => (if x5 > 4096 then (if bt108.2.2 = 2 then (if bt108.2.1 = 4096 then (some ((bt108.1.length : Int) == 0)) else (some false)) else (some false)) else (if bt108.2.2 = 0 then (if bt108.2.1 = (-1) then (some ((bt108.1.length : Int) == 0)) else (some false)) else (some false)))) else (none)) else (none)) else (none))
def reverielaw01_LexLong.f (k : Nat) (a0 : Int) (a1 : Int) : Option (Bool) := (reverielaw01_lives.f).bind fun t101 => (if t101 = true then (if 0 ≤ (wrap64 (4094 + (wrap64 (Int.tmod (IntKind.u64.wrap (a0)) 5)))) then (if (wrap64 (4094 + (wrap64 (Int.tmod (IntKind.u64.wrap (a0)) 5))) : Int).toNat ≤ 281474976710656 then ((some (List.replicate (wrap64 (4094 + (wrap64 (Int.tmod (IntKind.u64.wrap (a0)) 5))) : Int).toNat 0 : List Int)).bind fun y102 => (reverielaw01_LexLong.l0 k a1 (wrap64 (4094 + (wrap64 (Int.tmod (IntKind.u64.wrap (a0)) 5)))) y102 (y102.length : Int) 0)) else (none)) else (none)) else (some false))
theorem reverielaw01_LexLong.mono_l : ∀ k, (∀ y0 y1 y2 y3 y4, LeO (reverielaw01_LexLong.l0 k y0 y1 y2 y3 y4) (reverielaw01_LexLong.l0 (k + 1) y0 y1 y2 y3 y4))
  | 0 => fun _ _ _ _ _ r h => by simp [reverielaw01_LexLong.l0] at h
  | k + 1 => by
    have ih0 := reverielaw01_LexLong.mono_l k
    · intro y0 y1 y2 y3 y4
      unfold reverielaw01_LexLong.l0
      repeat' first
      | (with_reducible exact ih0 _ _ _ _ _)
      | (with_reducible exact LeO.refl _)
      | (with_reducible exact LeO.none _)
      | (with_reducible refine LeO.ite ?_ ?_)
      | (with_reducible refine LeO.bind ?_ (fun _ => ?_))
      | exact ih0 _ _ _ _ _
      | exact LeO.none _
      | refine LeO.ite ?_ ?_
      | refine LeO.bind ?_ (fun _ => ?_)
theorem reverielaw01_LexLong.mono : ∀ a0 a1 k, LeO (reverielaw01_LexLong.f k a0 a1) (reverielaw01_LexLong.f (k + 1) a0 a1) := by
  intro a0 a1 k
  have ih0 := reverielaw01_LexLong.mono_l k
  unfold reverielaw01_LexLong.f
  repeat' first
      | (with_reducible exact ih0 _ _ _ _ _)
      | (with_reducible exact LeO.refl _)
      | (with_reducible exact LeO.none _)
      | (with_reducible refine LeO.ite ?_ ?_)
      | (with_reducible refine LeO.bind ?_ (fun _ => ?_))
      | exact ih0 _ _ _ _ _
      | exact LeO.none _
      | refine LeO.ite ?_ ?_
      | refine LeO.bind ?_ (fun _ => ?_)
set_option maxHeartbeats 8000000 in
set_option maxRecDepth 100000 in
theorem reverielaw01_LexLong.calls (k : Nat) (a0 : Int) (a1 : Int) (r : Bool) (w : World) (h : reverielaw01_LexLong.f k a0 a1 = some r) :
    Calls Tryd.prog 5 #[.int .i64 a0, .int .u8 a1] w fun e w' => e = .returned (.bool r) ∧ Below w.heap.size w w' := by
  have HB := Aside0.mk (Below.refl w.heap.size w)
  have H : ((reverielaw01_lives.f).bind fun t101 => (if t101 = true then (if 0 ≤ (wrap64 (4094 + (wrap64 (Int.tmod (IntKind.u64.wrap (a0)) 5)))) then (if (wrap64 (4094 + (wrap64 (Int.tmod (IntKind.u64.wrap (a0)) 5))) : Int).toNat ≤ 281474976710656 then ((some (List.replicate (wrap64 (4094 + (wrap64 (Int.tmod (IntKind.u64.wrap (a0)) 5))) : Int).toNat 0 : List Int)).bind fun y102 => (reverielaw01_LexLong.l0 k a1 (wrap64 (4094 + (wrap64 (Int.tmod (IntKind.u64.wrap (a0)) 5)))) y102 (y102.length : Int) 0)) else (none)) else (none)) else (some false))) = some r := h
  clear h
  replace H := Option.bind_eq_some_iff.mp H
  obtain ⟨t101, A30, H⟩ := H
  replace H : (if t101 = true then (if 0 ≤ (wrap64 (4094 + (wrap64 (Int.tmod (IntKind.u64.wrap (a0)) 5)))) then (if (wrap64 (4094 + (wrap64 (Int.tmod (IntKind.u64.wrap (a0)) 5))) : Int).toNat ≤ 281474976710656 then ((some (List.replicate (wrap64 (4094 + (wrap64 (Int.tmod (IntKind.u64.wrap (a0)) 5))) : Int).toNat 0 : List Int)).bind fun y102 => (reverielaw01_LexLong.l0 k a1 (wrap64 (4094 + (wrap64 (Int.tmod (IntKind.u64.wrap (a0)) 5)))) y102 (y102.length : Int) 0)) else (none)) else (none)) else (some false)) = some r := H
  have A3 := Aside0.mk A30
  clear A30
  by_cases c4 : t101 = true
  · subst c4
    have H1 : (if 0 ≤ (wrap64 (4094 + (wrap64 (Int.tmod (IntKind.u64.wrap (a0)) 5)))) then (if (wrap64 (4094 + (wrap64 (Int.tmod (IntKind.u64.wrap (a0)) 5))) : Int).toNat ≤ 281474976710656 then ((some (List.replicate (wrap64 (4094 + (wrap64 (Int.tmod (IntKind.u64.wrap (a0)) 5))) : Int).toNat 0 : List Int)).bind fun y102 => (reverielaw01_LexLong.l0 k a1 (wrap64 (4094 + (wrap64 (Int.tmod (IntKind.u64.wrap (a0)) 5)))) y102 (y102.length : Int) 0)) else (none)) else (none)) = some r := by rw [if_pos rfl] at H; exact H
    clear H
    have H := H1
    clear H1
    obtain ⟨ji5, hji5⟩ : ∃ j_ : Int, (wrap64 (4094 + (wrap64 (Int.tmod (IntKind.u64.wrap (a0)) 5)))) = j_ := ⟨_, rfl⟩
    replace H : (if 0 ≤ (ji5) then (if (ji5 : Int).toNat ≤ 281474976710656 then ((some (List.replicate (ji5 : Int).toNat 0 : List Int)).bind fun y102 => (reverielaw01_LexLong.l0 k a1 ji5 y102 (y102.length : Int) 0)) else (none)) else (none)) = some r := by first | (rw [hji5] at H; exact H) | (simp only [hji5] at H ⊢; exact H)
    (try rw [hji5] at A3)
    have hji5w : (IntKind.i64.wrap (4094 + (wrap64 (Int.tmod (IntKind.u64.wrap (a0)) 5)))) = ji5 := (i64_w _).trans hji5
    by_cases c6 : 0 ≤ (ji5)
    · rw [if_pos c6] at H
      have c6b0 := eq_true c6
      have c6b1 : decide (0 ≤ (ji5)) = true := decide_eq_true c6
      clear c6
      by_cases c7 : (ji5 : Int).toNat ≤ 281474976710656
      · rw [if_pos c7] at H
        have c7b0 := eq_true c7
        have c7b1 : decide ((ji5 : Int).toNat ≤ 281474976710656) = true := decide_eq_true c7
        clear c7
        obtain ⟨y102, hy102⟩ : ∃ y_ : List Int, y_ = (List.replicate (ji5 : Int).toNat 0) := ⟨_, rfl⟩
        replace H : (reverielaw01_LexLong.l0 k a1 ji5 y102 (y102.length : Int) 0) = some r := by first | (rw [hy102]; with_reducible exact H) | (have H2_ := (Option.bind_some _ _).symm.trans H; rw [hy102]; with_reducible exact H2_) | (have H2_ := (Option.bind_some _ _).symm.trans H; with_reducible exact H2_) | with_reducible exact H | (rw [hy102]; exact H) | exact H
        have Ny102 := Aside0.mk hy102
        clear hy102
        have H' := Aside0.mk H
        clear H
        go_enter Tryd.func5, Tryd.ntmps5
        go_wp2_with (first | ((with_reducible refine gate_callee (f := 9) rfl ?_); refine goesL_ (some 11) rfl rfl Tryd.func9 (by kernel_rfl) rfl #[] rfl (by (try simp only [List.map_toArray, List.map_cons, List.map_nil]); first | done | rfl | (simp only [List.length_drop, List.length_take]; rfl)) ?_; (with_reducible refine (reverielaw01_lives.calls  true _ A3.out).mono ?_); rintro e w8 ⟨rfl, hb⟩; refine ⟨_, rfl, ?_⟩; have n0_ := Aside0.mk (below_step (by repeat (first | (with_reducible first | exact HB.out | apply below_alloc | apply pw_below_drewN | apply below_drew1) | exact HB.out)) hb); clear HB; have HB := n0_; clear n0_; (try clear hb); (try clear hb2); (try clear hk); (try clear hi)) | ((with_reducible refine gate_dst (N := 19) rfl ?_); (try (refine gate_guard (by rfl) ?_; dsimp only)); refine Kd.R_make (Kd.int .u8) _ 5 rfl (N := 19) rfl 22 _ _ rfl ji5 rfl rfl Tryd.underlying22 (.int .u8 0) 1 info5 rfl (by decide) (by omega) 0 (ok := fun _ => True) (okp := fun _ => True) rfl (fun _ hk => hk) trivial (of_decide_eq_true (by first | (with_reducible assumption) | assumption)) (Nat.le_trans (Nat.mul_le_mul_right _ (of_decide_eq_true (by first | (with_reducible assumption) | assumption) : ji5.toNat ≤ 281474976710656)) (by omega)) (Below.refl _ _) (Nat.le_refl _) ?_; intro v103 w9 ho10 hb hg_ hnew_; clear hg_ hnew_; (first | rw [← Ny102.out] at ho10 | (simp only [Int.reduceToNat] at ho10; rw [← Ny102.out] at ho10)); have n0_ := Aside0.mk (Kd.R_lower ho10 (below_size (by repeat (first | (with_reducible first | exact HB.out | apply below_alloc | apply pw_below_drewN | apply below_drew1) | exact HB.out)))); have n1_ := Aside0.mk (below_step (by repeat (first | (with_reducible first | exact HB.out | apply below_alloc | apply pw_below_drewN | apply below_drew1) | exact HB.out)) hb); clear HB; have HO104 := n0_; have HB := n1_; clear n0_ n1_; clear hb ho10; obtain ⟨Ao11, co11, eo11⟩ := Kd.R_slice HO104.out; subst eo11))
        go_loopg [22] k (fun kq v22 w' => ∃ (x6_1 : List Int) (x22_1 : Int), v22 = .int .i64 x22_1 ∧ Aside0 (reverielaw01_LexLong.l0 kq a1 ji5 x6_1 (y102.length : Int) x22_1 = some r) ∧ Aside0 (kq ≤ k) ∧ Aside0 (Kd.R (Kd.int .u8) 5 w' w.heap.size (fun _ => True) (.slice Ao11 y102.length co11) x6_1) ∧ Aside0 (Below w.heap.size w w'))
        case atStart => exact ⟨(y102), (0), (by first | rfl | (simp; done) | (simp [*]; done)), H', ⟨Nat.le_refl _⟩, ⟨by (with_reducible repeat (first | apply Kd.R_alloc | apply Kd.R_drewN | apply Kd.R_drew)); exact HO104.out⟩, ⟨by repeat (first | (with_reducible first | exact HB.out | apply below_alloc | apply pw_below_drewN | apply below_drew1) | exact HB.out)⟩⟩
        case round =>
          clear H'
          try clear p2
          try clear c4
          try clear c5
          try clear c6
          try clear c6b0
          try clear c6b1
          try clear p6
          try clear c7
          try clear c7b0
          try clear c7b1
          try clear c9
          obtain ⟨x6_1, x22_1, rfl, HA, HK1, HO_6, HB⟩ := hrel
          have hl6_1 := (Kd.R_reads' HO_6.out).1
          rw [hl6_1] at HO_6
          (try simp only [hl6_1])
          cases gk with
          | zero => exact absurd HA.out (by simp [reverielaw01_LexLong.l0])
          | succ k1 =>
            have H := HA.out
            clear HA
            simp only [reverielaw01_LexLong.l0] at H
            by_cases c12 : x22_1 < (y102.length : Int)
            · rw [if_pos c12] at H
              have c12b0 : decide (x22_1 < (y102.length : Int)) = true := decide_eq_true c12
              clear c12
              by_cases c13 : 0 ≤ x22_1
              · rw [if_pos c13] at H
                have c13b0 : decide (0 ≤ x22_1) = true := decide_eq_true c13
                clear c13
                by_cases c14 : x22_1 < (x6_1.length : Int)
                · rw [if_pos c14] at H
                  have c14b0 : decide (x22_1 < (x6_1.length : Int)) = true := decide_eq_true c14
                  clear c14
                  obtain ⟨y105, hy105⟩ : ∃ y_ : List Int, y_ = (x6_1.set (x22_1 : Int).toNat 32) := ⟨_, rfl⟩
                  replace H : (reverielaw01_LexLong.l0 k1 a1 ji5 y105 (y102.length : Int) (wrap64 (x22_1 + 1))) = some r := by first | (rw [hy105]; with_reducible exact H) | (have H2_ := (Option.bind_some _ _).symm.trans H; rw [hy105]; with_reducible exact H2_) | (have H2_ := (Option.bind_some _ _).symm.trans H; with_reducible exact H2_) | with_reducible exact H | (rw [hy105]; exact H) | exact H
                  have Ny105 := Aside0.mk hy105
                  clear hy105
                  have H' := Aside0.mk H
                  clear H
                  have p15 : 0 ≤ (x22_1 : Int) := of_decide_eq_true (by first | (with_reducible assumption) | assumption)
                  have q15 : (x22_1 : Int) < ((x6_1.length : Int) : Int) := of_decide_eq_true (by first | (with_reducible assumption) | assumption)
                  obtain ⟨go15, co15, eo15, gb15, gl15, cl15, HG15⟩ := Kd.R_form HO_6.out (by omega)
                  (first | cases eo15 | (injection eo15 with ea_ en_ ec_; (first | subst ea_ | (injection ea_ with ea_; subst ea_)); subst ec_; clear en_))
                  have GB15 := Aside0.mk gb15
                  have GG15 := Aside0.mk HG15
                  clear gb15 gl15 HG15
                  obtain ⟨hx15_0, hf15_0⟩ := Kd.R_celln 0 HO_6.out (x22_1 : Int) p15 q15
                  replace p15 := eq_true p15
                  replace q15 := eq_true q15
                  have HP16 := Kd.R_putg HO_6.out (x22_1 : Int) 32
                  go_wp2_with (first | ((with_reducible refine gate_store (t := 5) (p := 27) rfl ?_); refine store_event (t := 5) (p := 27) (v := ?vo_w17) (w1 := (wr.setCell ⟨go15, (x22_1 : Int).toNat, none⟩ (.int .u8 32))) ?hg ?ho ?hn ?hr ?_; (case ho => rfl); (case hg => rfl); (case hn => rfl); (case hr => first | (go_simp; done) | (go_simp; rfl)); intro w17 hw; have hg : wr.grownBy w17 (some go15) := (by rw [hw]; exact HP16.2); have hp_ : Kd.R (Kd.int .u8) 5 w17 w.heap.size (fun _ => True) (.slice (some ⟨go15, 0, none⟩) x6_1.length co11) y105 := (by rw [hw, Ny105.out]; exact HP16.1); clear HP16; have n0_ := Aside0.mk (hp_); have n1_ := Aside0.mk ((by rw [hw]; exact below_set (HB.out) GB15.out : Below w.heap.size w w17)); clear HO_6; clear HB; have HO_6 := n0_; have HB := n1_; clear n0_ n1_; clear hg hw hp_))
                  (try simp only [← hl6_1])
                  go_roundg k1
                  case measure => have := HK1.out; omega
                  case rel => exact ⟨(y105), (wrap64 (x22_1 + 1)), (by first | rfl | (simp; done) | (simp [*]; done)), H', ⟨by have := HK1.out; omega⟩, ⟨by (try simp only [hl6_1]); (with_reducible repeat (first | apply Kd.R_alloc | apply Kd.R_drewN | apply Kd.R_drew)); exact HO_6.out⟩, ⟨by repeat (first | (with_reducible first | exact HB.out | apply below_alloc | apply pw_below_drewN | apply below_drew1) | exact HB.out)⟩⟩
                · rw [if_neg c14] at H
                  exact absurd H (by simp)
              · rw [if_neg c13] at H
                exact absurd H (by simp)
            · rw [if_neg c12] at H
              have c12b0 : decide (x22_1 < (y102.length : Int)) = false := decide_eq_false c12
              have c12b9 : decide (x22_1 < (x6_1.length : Int)) = false := by rw [← hl6_1]; exact c12b0
              clear c12
              by_cases c18 : 0 < (x6_1.length : Int)
              · rw [if_pos c18] at H
                have c18b0 : decide (0 < (x6_1.length : Int)) = true := decide_eq_true c18
                have c18b1 : decide (0 < x6_1.length) = true := decide_eq_true (by omega)
                clear c18
                obtain ⟨y106, hy106⟩ : ∃ y_ : List Int, y_ = (x6_1.set (0 : Int).toNat 59) := ⟨_, rfl⟩
                replace H : (if 0 ≤ (wrap64 (ji5 - 1)) then (if (wrap64 (ji5 - 1)) < (x6_1.length : Int) then ((lex_Tokens.f (y106.set ((wrap64 (ji5 - 1)) : Int).toNat a1)).bind fun bt108 => (if ji5 > 4096 then (if bt108.2.2 = 2 then (if bt108.2.1 = 4096 then (some ((bt108.1.length : Int) == 0)) else (some false)) else (some false)) else (if bt108.2.2 = 0 then (if bt108.2.1 = (-1) then (some ((bt108.1.length : Int) == 0)) else (some false)) else (some false)))) else (none)) else (none)) = some r := by first | (rw [hy106]; with_reducible exact H) | (have H2_ := (Option.bind_some _ _).symm.trans H; rw [hy106]; with_reducible exact H2_) | (have H2_ := (Option.bind_some _ _).symm.trans H; with_reducible exact H2_) | with_reducible exact H | (rw [hy106]; exact H) | exact H
                have Ny106 := Aside0.mk hy106
                clear hy106
                obtain ⟨ji20, hji20⟩ : ∃ j_ : Int, (wrap64 (ji5 - 1)) = j_ := ⟨_, rfl⟩
                replace H : (if 0 ≤ (ji20) then (if (ji20) < (x6_1.length : Int) then ((lex_Tokens.f (y106.set ((ji20) : Int).toNat a1)).bind fun bt108 => (if ji5 > 4096 then (if bt108.2.2 = 2 then (if bt108.2.1 = 4096 then (some ((bt108.1.length : Int) == 0)) else (some false)) else (some false)) else (if bt108.2.2 = 0 then (if bt108.2.1 = (-1) then (some ((bt108.1.length : Int) == 0)) else (some false)) else (some false)))) else (none)) else (none)) = some r := by first | (rw [hji20] at H; exact H) | (simp only [hji20] at H ⊢; exact H)
                have hji20w : (IntKind.i64.wrap (ji5 - 1)) = ji20 := (i64_w _).trans hji20
                by_cases c21 : 0 ≤ (ji20)
                · rw [if_pos c21] at H
                  have c21b0 : decide (0 ≤ (ji20)) = true := decide_eq_true c21
                  clear c21
                  by_cases c22 : (ji20) < (x6_1.length : Int)
                  · rw [if_pos c22] at H
                    have c22b0 : decide ((ji20) < (x6_1.length : Int)) = true := decide_eq_true c22
                    clear c22
                    obtain ⟨y107, hy107⟩ : ∃ y_ : List Int, y_ = (y106.set ((ji20) : Int).toNat a1) := ⟨_, rfl⟩
                    replace H : ((lex_Tokens.f y107).bind fun bt108 => (if ji5 > 4096 then (if bt108.2.2 = 2 then (if bt108.2.1 = 4096 then (some ((bt108.1.length : Int) == 0)) else (some false)) else (some false)) else (if bt108.2.2 = 0 then (if bt108.2.1 = (-1) then (some ((bt108.1.length : Int) == 0)) else (some false)) else (some false)))) = some r := by first | (rw [hy107]; with_reducible exact H) | (have H2_ := (Option.bind_some _ _).symm.trans H; rw [hy107]; with_reducible exact H2_) | (have H2_ := (Option.bind_some _ _).symm.trans H; with_reducible exact H2_) | with_reducible exact H | (rw [hy107]; exact H) | exact H
                    have Ny107 := Aside0.mk hy107
                    clear hy107
                    replace H := Option.bind_eq_some_iff.mp H
                    obtain ⟨⟨t108, t109, t110⟩, A240, H⟩ := H
                    replace H : (if ji5 > 4096 then (if t110 = 2 then (if t109 = 4096 then (some ((t108.length : Int) == 0)) else (some false)) else (some false)) else (if t110 = 0 then (if t109 = (-1) then (some ((t108.length : Int) == 0)) else (some false)) else (some false))) = some r := H
                    have A24 := Aside0.mk A240
                    clear A240
                    by_cases c25 : ji5 > 4096
                    · rw [if_pos c25] at H
                      have c25b0 : decide (4096 < ji5) = true := decide_eq_true c25
                      clear c25
                      by_cases c26 : t110 = 2
                      · rw [if_pos c26] at H
                        have c26b0 : (t110 == 2) = true := beq_iff_eq.mpr c26
                        have c26b1 : (t110 != 2) = false := bne_eq_false_iff_eq.mpr c26
                        clear c26
                        by_cases c27 : t109 = 4096
                        · rw [if_pos c27] at H
                          have c27b0 : (t109 == 4096) = true := beq_iff_eq.mpr c27
                          have c27b1 : (t109 != 4096) = false := bne_eq_false_iff_eq.mpr c27
                          clear c27
                          obtain rfl := Option.some.inj H
                          have p19 : 0 ≤ (0 : Int) := (by omega)
                          have q19 : (0 : Int) < ((x6_1.length : Int) : Int) := of_decide_eq_true (by first | (with_reducible assumption) | assumption)
                          have qi19 : (0 < x6_1.length) = True := eq_true (by omega)
                          obtain ⟨go19, co19, eo19, gb19, gl19, cl19, HG19⟩ := Kd.R_form HO_6.out (by omega)
                          (first | cases eo19 | (injection eo19 with ea_ en_ ec_; (first | subst ea_ | (injection ea_ with ea_; subst ea_)); subst ec_; clear en_))
                          have GB19 := Aside0.mk gb19
                          have GG19 := Aside0.mk HG19
                          clear gb19 gl19 HG19
                          obtain ⟨hx19_0, hf19_0⟩ := Kd.R_celln 0 HO_6.out (0 : Int) p19 q19
                          (try rw [show ((0 : Int)).toNat = 0 from rfl] at hx19_0)
                          (try simp only [Nat.reduceMul, Nat.zero_mul, Nat.zero_add, Nat.reduceAdd] at hx19_0)
                          (try rw [show ((0 : Int)).toNat = 0 from rfl] at hf19_0)
                          (try simp only [Nat.reduceMul, Nat.zero_mul, Nat.zero_add, Nat.reduceAdd] at hf19_0)
                          replace p19 := eq_true p19
                          replace q19 := eq_true q19
                          have HP28 := Kd.R_putg HO_6.out (0 : Int) 59
                          go_wp2_with (first | ((with_reducible refine gate_store (t := 5) (p := 30) rfl ?_); refine store_event (t := 5) (p := 30) (v := ?vo_w29) (w1 := (wr.setCell ⟨go19, (0 : Int).toNat, none⟩ (.int .u8 59))) ?hg ?ho ?hn ?hr ?_; (case ho => rfl); (case hg => rfl); (case hn => rfl); (case hr => first | (go_simp; done) | (go_simp; rfl)); intro w29 hw; have hg : wr.grownBy w29 (some go19) := (by rw [hw]; exact HP28.2); have hp_ : Kd.R (Kd.int .u8) 5 w29 w.heap.size (fun _ => True) (.slice (some ⟨go19, 0, none⟩) x6_1.length co11) y106 := (by rw [hw, Ny106.out]; exact HP28.1); clear HP28; have n0_ := Aside0.mk (hp_); have n1_ := Aside0.mk ((by rw [hw]; exact below_set (HB.out) GB19.out : Below w.heap.size w w29)); clear HO_6; clear HB; have HO_6 := n0_; have HB := n1_; clear n0_ n1_; clear hg hw hp_; have p23 : 0 ≤ ((ji20) : Int) := of_decide_eq_true (by first | (with_reducible assumption) | assumption); have q23 : ((ji20) : Int) < ((x6_1.length : Int) : Int) := of_decide_eq_true (by first | (with_reducible assumption) | assumption); obtain ⟨hx23_0, hf23_0⟩ := Kd.R_celln 0 HO_6.out ((ji20) : Int) p23 q23; replace p23 := eq_true p23; replace q23 := eq_true q23; obtain ⟨hy30_, hz30_⟩ := Kd.R_celln 0 HO_6.out ((ji20) : Int) (of_decide_eq_true (by first | (with_reducible assumption) | assumption)) (of_decide_eq_true (by first | (with_reducible assumption) | assumption)); have HP30 := Kd.R_putg HO_6.out ((ji20) : Int) a1) | ((with_reducible refine gate_store (t := 5) (p := 35) rfl ?_); refine store_event (t := 5) (p := 35) (v := ?vo_w31) (w1 := (w29.setCell ⟨go19, ((ji20) : Int).toNat, none⟩ (.int .u8 a1))) ?hg ?ho ?hn ?hr ?_; (case ho => rfl); (case hg => rfl); (case hn => rfl); (case hr => first | (go_simp; done) | (go_simp; rfl)); intro w31 hw; have hg : w29.grownBy w31 (some go19) := (by rw [hw]; exact HP30.2); have hp_ : Kd.R (Kd.int .u8) 5 w31 w.heap.size (fun _ => True) (.slice (some ⟨go19, 0, none⟩) x6_1.length co11) y107 := (by rw [hw, Ny107.out]; exact HP30.1); clear HP30; have n0_ := Aside0.mk (hp_); have n1_ := Aside0.mk ((by rw [hw]; exact below_set (HB.out) GB19.out : Below w.heap.size w w31)); clear HO_6; clear HB; have HO_6 := n0_; have HB := n1_; clear n0_ n1_; clear hg hw hp_) | ((with_reducible refine gate_callee (f := 10) rfl ?_); refine goesL_ (some 38) rfl rfl Tryd.func10 (by kernel_rfl) rfl #[.slice (some ⟨go19, 0, none⟩) y107.length co11] rfl (by (try simp only [List.map_toArray, List.map_cons, List.map_nil]); first | done | (rw [show y107.length = x6_1.length from (Kd.R_reads' HO_6.out).1.symm] <;> rfl) | rfl | (simp only [List.length_drop, List.length_take]; rfl)) ?_; (with_reducible refine (lex_Tokens.calls _ _ y107 t108 t109 t110 _ ?side1 ?side2 A24.out).mono ?_); (case side1 => repeat (first | exact (Kd.R_reads' HO_6.out).2.2 | (with_reducible refine Kd.C_alloc ?_ _) | (with_reducible refine Kd.C_drewN ?_ _) | (with_reducible refine Kd.C_drew ?_))); (case side2 => rw [show y107.length = x6_1.length from (Kd.R_reads' HO_6.out).1.symm]; exact (Kd.R_reads' HO_6.out).2.1); rintro e w32 ⟨v111, rfl, ho0, hb⟩; refine ⟨_, rfl, ?_⟩; have n0_ := Aside0.mk (Kd.R_below (by (with_reducible repeat (first | apply Kd.R_alloc | apply Kd.R_drewN | apply Kd.R_drew)); exact HO_6.out) hb); have n1_ := Aside0.mk (Kd.R_lower ho0 (below_size (by repeat (first | (with_reducible first | exact HB.out | apply below_alloc | apply pw_below_drewN | apply below_drew1) | exact HB.out)))); have n2_ := Aside0.mk (below_step (by repeat (first | (with_reducible first | exact HB.out | apply below_alloc | apply pw_below_drewN | apply below_drew1) | exact HB.out)) hb); clear HO_6; clear HB; have HO_6 := n0_; have HO112 := n1_; have HB := n2_; clear n0_ n1_ n2_; (try clear hb); (try clear hb2); (try clear hk); (try clear hi); (try clear ho0); obtain ⟨Ao33, co33, eo33⟩ := Kd.R_slice HO112.out; subst eo33))
                          go_ret
                          exact ⟨by first | rfl | (simp [errW_none, errW_some] <;> rfl) | (simp only [← hji5, ← hji20]; first | rfl | (simp [errW_none, errW_some] <;> rfl)) | (simp [*, errW_none, errW_some] <;> rfl), by repeat (first | (with_reducible first | exact HB.out | apply below_alloc | apply pw_below_drewN | apply below_drew1) | exact HB.out)⟩
                        · rw [if_neg c27] at H
                          have c27b0 : (t109 == 4096) = false := beq_eq_false_iff_ne.mpr c27
                          have c27b1 : (t109 != 4096) = true := bne_iff_ne.mpr c27
                          obtain rfl := Option.some.inj H
                          have p19 : 0 ≤ (0 : Int) := (by omega)
                          have q19 : (0 : Int) < ((x6_1.length : Int) : Int) := of_decide_eq_true (by first | (with_reducible assumption) | assumption)
                          have qi19 : (0 < x6_1.length) = True := eq_true (by omega)
                          obtain ⟨go19, co19, eo19, gb19, gl19, cl19, HG19⟩ := Kd.R_form HO_6.out (by omega)
                          (first | cases eo19 | (injection eo19 with ea_ en_ ec_; (first | subst ea_ | (injection ea_ with ea_; subst ea_)); subst ec_; clear en_))
                          have GB19 := Aside0.mk gb19
                          have GG19 := Aside0.mk HG19
                          clear gb19 gl19 HG19
                          obtain ⟨hx19_0, hf19_0⟩ := Kd.R_celln 0 HO_6.out (0 : Int) p19 q19
                          (try rw [show ((0 : Int)).toNat = 0 from rfl] at hx19_0)
                          (try simp only [Nat.reduceMul, Nat.zero_mul, Nat.zero_add, Nat.reduceAdd] at hx19_0)
                          (try rw [show ((0 : Int)).toNat = 0 from rfl] at hf19_0)
                          (try simp only [Nat.reduceMul, Nat.zero_mul, Nat.zero_add, Nat.reduceAdd] at hf19_0)
                          replace p19 := eq_true p19
                          replace q19 := eq_true q19
                          have HP34 := Kd.R_putg HO_6.out (0 : Int) 59
                          go_wp2_with (first | ((with_reducible refine gate_store (t := 5) (p := 30) rfl ?_); refine store_event (t := 5) (p := 30) (v := ?vo_w35) (w1 := (wr.setCell ⟨go19, (0 : Int).toNat, none⟩ (.int .u8 59))) ?hg ?ho ?hn ?hr ?_; (case ho => rfl); (case hg => rfl); (case hn => rfl); (case hr => first | (go_simp; done) | (go_simp; rfl)); intro w35 hw; have hg : wr.grownBy w35 (some go19) := (by rw [hw]; exact HP34.2); have hp_ : Kd.R (Kd.int .u8) 5 w35 w.heap.size (fun _ => True) (.slice (some ⟨go19, 0, none⟩) x6_1.length co11) y106 := (by rw [hw, Ny106.out]; exact HP34.1); clear HP34; have n0_ := Aside0.mk (hp_); have n1_ := Aside0.mk ((by rw [hw]; exact below_set (HB.out) GB19.out : Below w.heap.size w w35)); clear HO_6; clear HB; have HO_6 := n0_; have HB := n1_; clear n0_ n1_; clear hg hw hp_; have p23 : 0 ≤ ((ji20) : Int) := of_decide_eq_true (by first | (with_reducible assumption) | assumption); have q23 : ((ji20) : Int) < ((x6_1.length : Int) : Int) := of_decide_eq_true (by first | (with_reducible assumption) | assumption); obtain ⟨hx23_0, hf23_0⟩ := Kd.R_celln 0 HO_6.out ((ji20) : Int) p23 q23; replace p23 := eq_true p23; replace q23 := eq_true q23; obtain ⟨hy36_, hz36_⟩ := Kd.R_celln 0 HO_6.out ((ji20) : Int) (of_decide_eq_true (by first | (with_reducible assumption) | assumption)) (of_decide_eq_true (by first | (with_reducible assumption) | assumption)); have HP36 := Kd.R_putg HO_6.out ((ji20) : Int) a1) | ((with_reducible refine gate_store (t := 5) (p := 35) rfl ?_); refine store_event (t := 5) (p := 35) (v := ?vo_w37) (w1 := (w35.setCell ⟨go19, ((ji20) : Int).toNat, none⟩ (.int .u8 a1))) ?hg ?ho ?hn ?hr ?_; (case ho => rfl); (case hg => rfl); (case hn => rfl); (case hr => first | (go_simp; done) | (go_simp; rfl)); intro w37 hw; have hg : w35.grownBy w37 (some go19) := (by rw [hw]; exact HP36.2); have hp_ : Kd.R (Kd.int .u8) 5 w37 w.heap.size (fun _ => True) (.slice (some ⟨go19, 0, none⟩) x6_1.length co11) y107 := (by rw [hw, Ny107.out]; exact HP36.1); clear HP36; have n0_ := Aside0.mk (hp_); have n1_ := Aside0.mk ((by rw [hw]; exact below_set (HB.out) GB19.out : Below w.heap.size w w37)); clear HO_6; clear HB; have HO_6 := n0_; have HB := n1_; clear n0_ n1_; clear hg hw hp_) | ((with_reducible refine gate_callee (f := 10) rfl ?_); refine goesL_ (some 38) rfl rfl Tryd.func10 (by kernel_rfl) rfl #[.slice (some ⟨go19, 0, none⟩) y107.length co11] rfl (by (try simp only [List.map_toArray, List.map_cons, List.map_nil]); first | done | (rw [show y107.length = x6_1.length from (Kd.R_reads' HO_6.out).1.symm] <;> rfl) | rfl | (simp only [List.length_drop, List.length_take]; rfl)) ?_; (with_reducible refine (lex_Tokens.calls _ _ y107 t108 t109 t110 _ ?side1 ?side2 A24.out).mono ?_); (case side1 => repeat (first | exact (Kd.R_reads' HO_6.out).2.2 | (with_reducible refine Kd.C_alloc ?_ _) | (with_reducible refine Kd.C_drewN ?_ _) | (with_reducible refine Kd.C_drew ?_))); (case side2 => rw [show y107.length = x6_1.length from (Kd.R_reads' HO_6.out).1.symm]; exact (Kd.R_reads' HO_6.out).2.1); rintro e w38 ⟨v111, rfl, ho0, hb⟩; refine ⟨_, rfl, ?_⟩; have n0_ := Aside0.mk (Kd.R_below (by (with_reducible repeat (first | apply Kd.R_alloc | apply Kd.R_drewN | apply Kd.R_drew)); exact HO_6.out) hb); have n1_ := Aside0.mk (Kd.R_lower ho0 (below_size (by repeat (first | (with_reducible first | exact HB.out | apply below_alloc | apply pw_below_drewN | apply below_drew1) | exact HB.out)))); have n2_ := Aside0.mk (below_step (by repeat (first | (with_reducible first | exact HB.out | apply below_alloc | apply pw_below_drewN | apply below_drew1) | exact HB.out)) hb); clear HO_6; clear HB; have HO_6 := n0_; have HO112 := n1_; have HB := n2_; clear n0_ n1_ n2_; (try clear hb); (try clear hb2); (try clear hk); (try clear hi); (try clear ho0)))
                          go_ret
                          exact ⟨by first | rfl | (simp [errW_none, errW_some] <;> rfl) | (simp only [← hji5, ← hji20]; first | rfl | (simp [errW_none, errW_some] <;> rfl)) | (simp [*, errW_none, errW_some] <;> rfl), by repeat (first | (with_reducible first | exact HB.out | apply below_alloc | apply pw_below_drewN | apply below_drew1) | exact HB.out)⟩
                      · rw [if_neg c26] at H
                        have c26b0 : (t110 == 2) = false := beq_eq_false_iff_ne.mpr c26
                        have c26b1 : (t110 != 2) = true := bne_iff_ne.mpr c26
                        obtain rfl := Option.some.inj H
                        have p19 : 0 ≤ (0 : Int) := (by omega)
                        have q19 : (0 : Int) < ((x6_1.length : Int) : Int) := of_decide_eq_true (by first | (with_reducible assumption) | assumption)
                        have qi19 : (0 < x6_1.length) = True := eq_true (by omega)
                        obtain ⟨go19, co19, eo19, gb19, gl19, cl19, HG19⟩ := Kd.R_form HO_6.out (by omega)
                        (first | cases eo19 | (injection eo19 with ea_ en_ ec_; (first | subst ea_ | (injection ea_ with ea_; subst ea_)); subst ec_; clear en_))
                        have GB19 := Aside0.mk gb19
                        have GG19 := Aside0.mk HG19
                        clear gb19 gl19 HG19
                        obtain ⟨hx19_0, hf19_0⟩ := Kd.R_celln 0 HO_6.out (0 : Int) p19 q19
                        (try rw [show ((0 : Int)).toNat = 0 from rfl] at hx19_0)
                        (try simp only [Nat.reduceMul, Nat.zero_mul, Nat.zero_add, Nat.reduceAdd] at hx19_0)
                        (try rw [show ((0 : Int)).toNat = 0 from rfl] at hf19_0)
                        (try simp only [Nat.reduceMul, Nat.zero_mul, Nat.zero_add, Nat.reduceAdd] at hf19_0)
                        replace p19 := eq_true p19
                        replace q19 := eq_true q19
                        have HP39 := Kd.R_putg HO_6.out (0 : Int) 59
                        go_wp2_with (first | ((with_reducible refine gate_store (t := 5) (p := 30) rfl ?_); refine store_event (t := 5) (p := 30) (v := ?vo_w40) (w1 := (wr.setCell ⟨go19, (0 : Int).toNat, none⟩ (.int .u8 59))) ?hg ?ho ?hn ?hr ?_; (case ho => rfl); (case hg => rfl); (case hn => rfl); (case hr => first | (go_simp; done) | (go_simp; rfl)); intro w40 hw; have hg : wr.grownBy w40 (some go19) := (by rw [hw]; exact HP39.2); have hp_ : Kd.R (Kd.int .u8) 5 w40 w.heap.size (fun _ => True) (.slice (some ⟨go19, 0, none⟩) x6_1.length co11) y106 := (by rw [hw, Ny106.out]; exact HP39.1); clear HP39; have n0_ := Aside0.mk (hp_); have n1_ := Aside0.mk ((by rw [hw]; exact below_set (HB.out) GB19.out : Below w.heap.size w w40)); clear HO_6; clear HB; have HO_6 := n0_; have HB := n1_; clear n0_ n1_; clear hg hw hp_; have p23 : 0 ≤ ((ji20) : Int) := of_decide_eq_true (by first | (with_reducible assumption) | assumption); have q23 : ((ji20) : Int) < ((x6_1.length : Int) : Int) := of_decide_eq_true (by first | (with_reducible assumption) | assumption); obtain ⟨hx23_0, hf23_0⟩ := Kd.R_celln 0 HO_6.out ((ji20) : Int) p23 q23; replace p23 := eq_true p23; replace q23 := eq_true q23; obtain ⟨hy41_, hz41_⟩ := Kd.R_celln 0 HO_6.out ((ji20) : Int) (of_decide_eq_true (by first | (with_reducible assumption) | assumption)) (of_decide_eq_true (by first | (with_reducible assumption) | assumption)); have HP41 := Kd.R_putg HO_6.out ((ji20) : Int) a1) | ((with_reducible refine gate_store (t := 5) (p := 35) rfl ?_); refine store_event (t := 5) (p := 35) (v := ?vo_w42) (w1 := (w40.setCell ⟨go19, ((ji20) : Int).toNat, none⟩ (.int .u8 a1))) ?hg ?ho ?hn ?hr ?_; (case ho => rfl); (case hg => rfl); (case hn => rfl); (case hr => first | (go_simp; done) | (go_simp; rfl)); intro w42 hw; have hg : w40.grownBy w42 (some go19) := (by rw [hw]; exact HP41.2); have hp_ : Kd.R (Kd.int .u8) 5 w42 w.heap.size (fun _ => True) (.slice (some ⟨go19, 0, none⟩) x6_1.length co11) y107 := (by rw [hw, Ny107.out]; exact HP41.1); clear HP41; have n0_ := Aside0.mk (hp_); have n1_ := Aside0.mk ((by rw [hw]; exact below_set (HB.out) GB19.out : Below w.heap.size w w42)); clear HO_6; clear HB; have HO_6 := n0_; have HB := n1_; clear n0_ n1_; clear hg hw hp_) | ((with_reducible refine gate_callee (f := 10) rfl ?_); refine goesL_ (some 38) rfl rfl Tryd.func10 (by kernel_rfl) rfl #[.slice (some ⟨go19, 0, none⟩) y107.length co11] rfl (by (try simp only [List.map_toArray, List.map_cons, List.map_nil]); first | done | (rw [show y107.length = x6_1.length from (Kd.R_reads' HO_6.out).1.symm] <;> rfl) | rfl | (simp only [List.length_drop, List.length_take]; rfl)) ?_; (with_reducible refine (lex_Tokens.calls _ _ y107 t108 t109 t110 _ ?side1 ?side2 A24.out).mono ?_); (case side1 => repeat (first | exact (Kd.R_reads' HO_6.out).2.2 | (with_reducible refine Kd.C_alloc ?_ _) | (with_reducible refine Kd.C_drewN ?_ _) | (with_reducible refine Kd.C_drew ?_))); (case side2 => rw [show y107.length = x6_1.length from (Kd.R_reads' HO_6.out).1.symm]; exact (Kd.R_reads' HO_6.out).2.1); rintro e w43 ⟨v111, rfl, ho0, hb⟩; refine ⟨_, rfl, ?_⟩; have n0_ := Aside0.mk (Kd.R_below (by (with_reducible repeat (first | apply Kd.R_alloc | apply Kd.R_drewN | apply Kd.R_drew)); exact HO_6.out) hb); have n1_ := Aside0.mk (Kd.R_lower ho0 (below_size (by repeat (first | (with_reducible first | exact HB.out | apply below_alloc | apply pw_below_drewN | apply below_drew1) | exact HB.out)))); have n2_ := Aside0.mk (below_step (by repeat (first | (with_reducible first | exact HB.out | apply below_alloc | apply pw_below_drewN | apply below_drew1) | exact HB.out)) hb); clear HO_6; clear HB; have HO_6 := n0_; have HO112 := n1_; have HB := n2_; clear n0_ n1_ n2_; (try clear hb); (try clear hb2); (try clear hk); (try clear hi); (try clear ho0)))
                        go_ret
                        exact ⟨by first | rfl | (simp [errW_none, errW_some] <;> rfl) | (simp only [← hji5, ← hji20]; first | rfl | (simp [errW_none, errW_some] <;> rfl)) | (simp [*, errW_none, errW_some] <;> rfl), by repeat (first | (with_reducible first | exact HB.out | apply below_alloc | apply pw_below_drewN | apply below_drew1) | exact HB.out)⟩
                    · rw [if_neg c25] at H
                      have c25b0 : decide (4096 < ji5) = false := decide_eq_false c25
                      clear c25
                      by_cases c44 : t110 = 0
                      · rw [if_pos c44] at H
                        have c44b0 : (t110 == 0) = true := beq_iff_eq.mpr c44
                        have c44b1 : (t110 != 0) = false := bne_eq_false_iff_eq.mpr c44
                        clear c44
                        by_cases c45 : t109 = (-1)
                        · rw [if_pos c45] at H
                          have c45b0 : (t109 == (-1)) = true := beq_iff_eq.mpr c45
                          have c45b1 : (t109 != (-1)) = false := bne_eq_false_iff_eq.mpr c45
                          clear c45
                          obtain rfl := Option.some.inj H
                          have p19 : 0 ≤ (0 : Int) := (by omega)
                          have q19 : (0 : Int) < ((x6_1.length : Int) : Int) := of_decide_eq_true (by first | (with_reducible assumption) | assumption)
                          have qi19 : (0 < x6_1.length) = True := eq_true (by omega)
                          obtain ⟨go19, co19, eo19, gb19, gl19, cl19, HG19⟩ := Kd.R_form HO_6.out (by omega)
                          (first | cases eo19 | (injection eo19 with ea_ en_ ec_; (first | subst ea_ | (injection ea_ with ea_; subst ea_)); subst ec_; clear en_))
                          have GB19 := Aside0.mk gb19
                          have GG19 := Aside0.mk HG19
                          clear gb19 gl19 HG19
                          obtain ⟨hx19_0, hf19_0⟩ := Kd.R_celln 0 HO_6.out (0 : Int) p19 q19
                          (try rw [show ((0 : Int)).toNat = 0 from rfl] at hx19_0)
                          (try simp only [Nat.reduceMul, Nat.zero_mul, Nat.zero_add, Nat.reduceAdd] at hx19_0)
                          (try rw [show ((0 : Int)).toNat = 0 from rfl] at hf19_0)
                          (try simp only [Nat.reduceMul, Nat.zero_mul, Nat.zero_add, Nat.reduceAdd] at hf19_0)
                          replace p19 := eq_true p19
                          replace q19 := eq_true q19
                          have HP46 := Kd.R_putg HO_6.out (0 : Int) 59
                          go_wp2_with (first | ((with_reducible refine gate_store (t := 5) (p := 30) rfl ?_); refine store_event (t := 5) (p := 30) (v := ?vo_w47) (w1 := (wr.setCell ⟨go19, (0 : Int).toNat, none⟩ (.int .u8 59))) ?hg ?ho ?hn ?hr ?_; (case ho => rfl); (case hg => rfl); (case hn => rfl); (case hr => first | (go_simp; done) | (go_simp; rfl)); intro w47 hw; have hg : wr.grownBy w47 (some go19) := (by rw [hw]; exact HP46.2); have hp_ : Kd.R (Kd.int .u8) 5 w47 w.heap.size (fun _ => True) (.slice (some ⟨go19, 0, none⟩) x6_1.length co11) y106 := (by rw [hw, Ny106.out]; exact HP46.1); clear HP46; have n0_ := Aside0.mk (hp_); have n1_ := Aside0.mk ((by rw [hw]; exact below_set (HB.out) GB19.out : Below w.heap.size w w47)); clear HO_6; clear HB; have HO_6 := n0_; have HB := n1_; clear n0_ n1_; clear hg hw hp_; have p23 : 0 ≤ ((ji20) : Int) := of_decide_eq_true (by first | (with_reducible assumption) | assumption); have q23 : ((ji20) : Int) < ((x6_1.length : Int) : Int) := of_decide_eq_true (by first | (with_reducible assumption) | assumption); obtain ⟨hx23_0, hf23_0⟩ := Kd.R_celln 0 HO_6.out ((ji20) : Int) p23 q23; replace p23 := eq_true p23; replace q23 := eq_true q23; obtain ⟨hy48_, hz48_⟩ := Kd.R_celln 0 HO_6.out ((ji20) : Int) (of_decide_eq_true (by first | (with_reducible assumption) | assumption)) (of_decide_eq_true (by first | (with_reducible assumption) | assumption)); have HP48 := Kd.R_putg HO_6.out ((ji20) : Int) a1) | ((with_reducible refine gate_store (t := 5) (p := 35) rfl ?_); refine store_event (t := 5) (p := 35) (v := ?vo_w49) (w1 := (w47.setCell ⟨go19, ((ji20) : Int).toNat, none⟩ (.int .u8 a1))) ?hg ?ho ?hn ?hr ?_; (case ho => rfl); (case hg => rfl); (case hn => rfl); (case hr => first | (go_simp; done) | (go_simp; rfl)); intro w49 hw; have hg : w47.grownBy w49 (some go19) := (by rw [hw]; exact HP48.2); have hp_ : Kd.R (Kd.int .u8) 5 w49 w.heap.size (fun _ => True) (.slice (some ⟨go19, 0, none⟩) x6_1.length co11) y107 := (by rw [hw, Ny107.out]; exact HP48.1); clear HP48; have n0_ := Aside0.mk (hp_); have n1_ := Aside0.mk ((by rw [hw]; exact below_set (HB.out) GB19.out : Below w.heap.size w w49)); clear HO_6; clear HB; have HO_6 := n0_; have HB := n1_; clear n0_ n1_; clear hg hw hp_) | ((with_reducible refine gate_callee (f := 10) rfl ?_); refine goesL_ (some 38) rfl rfl Tryd.func10 (by kernel_rfl) rfl #[.slice (some ⟨go19, 0, none⟩) y107.length co11] rfl (by (try simp only [List.map_toArray, List.map_cons, List.map_nil]); first | done | (rw [show y107.length = x6_1.length from (Kd.R_reads' HO_6.out).1.symm] <;> rfl) | rfl | (simp only [List.length_drop, List.length_take]; rfl)) ?_; (with_reducible refine (lex_Tokens.calls _ _ y107 t108 t109 t110 _ ?side1 ?side2 A24.out).mono ?_); (case side1 => repeat (first | exact (Kd.R_reads' HO_6.out).2.2 | (with_reducible refine Kd.C_alloc ?_ _) | (with_reducible refine Kd.C_drewN ?_ _) | (with_reducible refine Kd.C_drew ?_))); (case side2 => rw [show y107.length = x6_1.length from (Kd.R_reads' HO_6.out).1.symm]; exact (Kd.R_reads' HO_6.out).2.1); rintro e w50 ⟨v111, rfl, ho0, hb⟩; refine ⟨_, rfl, ?_⟩; have n0_ := Aside0.mk (Kd.R_below (by (with_reducible repeat (first | apply Kd.R_alloc | apply Kd.R_drewN | apply Kd.R_drew)); exact HO_6.out) hb); have n1_ := Aside0.mk (Kd.R_lower ho0 (below_size (by repeat (first | (with_reducible first | exact HB.out | apply below_alloc | apply pw_below_drewN | apply below_drew1) | exact HB.out)))); have n2_ := Aside0.mk (below_step (by repeat (first | (with_reducible first | exact HB.out | apply below_alloc | apply pw_below_drewN | apply below_drew1) | exact HB.out)) hb); clear HO_6; clear HB; have HO_6 := n0_; have HO112 := n1_; have HB := n2_; clear n0_ n1_ n2_; (try clear hb); (try clear hb2); (try clear hk); (try clear hi); (try clear ho0); obtain ⟨Ao51, co51, eo51⟩ := Kd.R_slice HO112.out; subst eo51))
                          go_ret
                          exact ⟨by first | rfl | (simp [errW_none, errW_some] <;> rfl) | (simp only [← hji5, ← hji20]; first | rfl | (simp [errW_none, errW_some] <;> rfl)) | (simp [*, errW_none, errW_some] <;> rfl), by repeat (first | (with_reducible first | exact HB.out | apply below_alloc | apply pw_below_drewN | apply below_drew1) | exact HB.out)⟩
                        · rw [if_neg c45] at H
                          have c45b0 : (t109 == (-1)) = false := beq_eq_false_iff_ne.mpr c45
                          have c45b1 : (t109 != (-1)) = true := bne_iff_ne.mpr c45
                          obtain rfl := Option.some.inj H
                          have p19 : 0 ≤ (0 : Int) := (by omega)
                          have q19 : (0 : Int) < ((x6_1.length : Int) : Int) := of_decide_eq_true (by first | (with_reducible assumption) | assumption)
                          have qi19 : (0 < x6_1.length) = True := eq_true (by omega)
                          obtain ⟨go19, co19, eo19, gb19, gl19, cl19, HG19⟩ := Kd.R_form HO_6.out (by omega)
                          (first | cases eo19 | (injection eo19 with ea_ en_ ec_; (first | subst ea_ | (injection ea_ with ea_; subst ea_)); subst ec_; clear en_))
                          have GB19 := Aside0.mk gb19
                          have GG19 := Aside0.mk HG19
                          clear gb19 gl19 HG19
                          obtain ⟨hx19_0, hf19_0⟩ := Kd.R_celln 0 HO_6.out (0 : Int) p19 q19
                          (try rw [show ((0 : Int)).toNat = 0 from rfl] at hx19_0)
                          (try simp only [Nat.reduceMul, Nat.zero_mul, Nat.zero_add, Nat.reduceAdd] at hx19_0)
                          (try rw [show ((0 : Int)).toNat = 0 from rfl] at hf19_0)
                          (try simp only [Nat.reduceMul, Nat.zero_mul, Nat.zero_add, Nat.reduceAdd] at hf19_0)
                          replace p19 := eq_true p19
                          replace q19 := eq_true q19
                          have HP52 := Kd.R_putg HO_6.out (0 : Int) 59
                          go_wp2_with (first | ((with_reducible refine gate_store (t := 5) (p := 30) rfl ?_); refine store_event (t := 5) (p := 30) (v := ?vo_w53) (w1 := (wr.setCell ⟨go19, (0 : Int).toNat, none⟩ (.int .u8 59))) ?hg ?ho ?hn ?hr ?_; (case ho => rfl); (case hg => rfl); (case hn => rfl); (case hr => first | (go_simp; done) | (go_simp; rfl)); intro w53 hw; have hg : wr.grownBy w53 (some go19) := (by rw [hw]; exact HP52.2); have hp_ : Kd.R (Kd.int .u8) 5 w53 w.heap.size (fun _ => True) (.slice (some ⟨go19, 0, none⟩) x6_1.length co11) y106 := (by rw [hw, Ny106.out]; exact HP52.1); clear HP52; have n0_ := Aside0.mk (hp_); have n1_ := Aside0.mk ((by rw [hw]; exact below_set (HB.out) GB19.out : Below w.heap.size w w53)); clear HO_6; clear HB; have HO_6 := n0_; have HB := n1_; clear n0_ n1_; clear hg hw hp_; have p23 : 0 ≤ ((ji20) : Int) := of_decide_eq_true (by first | (with_reducible assumption) | assumption); have q23 : ((ji20) : Int) < ((x6_1.length : Int) : Int) := of_decide_eq_true (by first | (with_reducible assumption) | assumption); obtain ⟨hx23_0, hf23_0⟩ := Kd.R_celln 0 HO_6.out ((ji20) : Int) p23 q23; replace p23 := eq_true p23; replace q23 := eq_true q23; obtain ⟨hy54_, hz54_⟩ := Kd.R_celln 0 HO_6.out ((ji20) : Int) (of_decide_eq_true (by first | (with_reducible assumption) | assumption)) (of_decide_eq_true (by first | (with_reducible assumption) | assumption)); have HP54 := Kd.R_putg HO_6.out ((ji20) : Int) a1) | ((with_reducible refine gate_store (t := 5) (p := 35) rfl ?_); refine store_event (t := 5) (p := 35) (v := ?vo_w55) (w1 := (w53.setCell ⟨go19, ((ji20) : Int).toNat, none⟩ (.int .u8 a1))) ?hg ?ho ?hn ?hr ?_; (case ho => rfl); (case hg => rfl); (case hn => rfl); (case hr => first | (go_simp; done) | (go_simp; rfl)); intro w55 hw; have hg : w53.grownBy w55 (some go19) := (by rw [hw]; exact HP54.2); have hp_ : Kd.R (Kd.int .u8) 5 w55 w.heap.size (fun _ => True) (.slice (some ⟨go19, 0, none⟩) x6_1.length co11) y107 := (by rw [hw, Ny107.out]; exact HP54.1); clear HP54; have n0_ := Aside0.mk (hp_); have n1_ := Aside0.mk ((by rw [hw]; exact below_set (HB.out) GB19.out : Below w.heap.size w w55)); clear HO_6; clear HB; have HO_6 := n0_; have HB := n1_; clear n0_ n1_; clear hg hw hp_) | ((with_reducible refine gate_callee (f := 10) rfl ?_); refine goesL_ (some 38) rfl rfl Tryd.func10 (by kernel_rfl) rfl #[.slice (some ⟨go19, 0, none⟩) y107.length co11] rfl (by (try simp only [List.map_toArray, List.map_cons, List.map_nil]); first | done | (rw [show y107.length = x6_1.length from (Kd.R_reads' HO_6.out).1.symm] <;> rfl) | rfl | (simp only [List.length_drop, List.length_take]; rfl)) ?_; (with_reducible refine (lex_Tokens.calls _ _ y107 t108 t109 t110 _ ?side1 ?side2 A24.out).mono ?_); (case side1 => repeat (first | exact (Kd.R_reads' HO_6.out).2.2 | (with_reducible refine Kd.C_alloc ?_ _) | (with_reducible refine Kd.C_drewN ?_ _) | (with_reducible refine Kd.C_drew ?_))); (case side2 => rw [show y107.length = x6_1.length from (Kd.R_reads' HO_6.out).1.symm]; exact (Kd.R_reads' HO_6.out).2.1); rintro e w56 ⟨v111, rfl, ho0, hb⟩; refine ⟨_, rfl, ?_⟩; have n0_ := Aside0.mk (Kd.R_below (by (with_reducible repeat (first | apply Kd.R_alloc | apply Kd.R_drewN | apply Kd.R_drew)); exact HO_6.out) hb); have n1_ := Aside0.mk (Kd.R_lower ho0 (below_size (by repeat (first | (with_reducible first | exact HB.out | apply below_alloc | apply pw_below_drewN | apply below_drew1) | exact HB.out)))); have n2_ := Aside0.mk (below_step (by repeat (first | (with_reducible first | exact HB.out | apply below_alloc | apply pw_below_drewN | apply below_drew1) | exact HB.out)) hb); clear HO_6; clear HB; have HO_6 := n0_; have HO112 := n1_; have HB := n2_; clear n0_ n1_ n2_; (try clear hb); (try clear hb2); (try clear hk); (try clear hi); (try clear ho0)))
                          go_ret
                          exact ⟨by first | rfl | (simp [errW_none, errW_some] <;> rfl) | (simp only [← hji5, ← hji20]; first | rfl | (simp [errW_none, errW_some] <;> rfl)) | (simp [*, errW_none, errW_some] <;> rfl), by repeat (first | (with_reducible first | exact HB.out | apply below_alloc | apply pw_below_drewN | apply below_drew1) | exact HB.out)⟩
                      · rw [if_neg c44] at H
                        have c44b0 : (t110 == 0) = false := beq_eq_false_iff_ne.mpr c44
                        have c44b1 : (t110 != 0) = true := bne_iff_ne.mpr c44
                        obtain rfl := Option.some.inj H
                        have p19 : 0 ≤ (0 : Int) := (by omega)
                        have q19 : (0 : Int) < ((x6_1.length : Int) : Int) := of_decide_eq_true (by first | (with_reducible assumption) | assumption)
                        have qi19 : (0 < x6_1.length) = True := eq_true (by omega)
                        obtain ⟨go19, co19, eo19, gb19, gl19, cl19, HG19⟩ := Kd.R_form HO_6.out (by omega)
                        (first | cases eo19 | (injection eo19 with ea_ en_ ec_; (first | subst ea_ | (injection ea_ with ea_; subst ea_)); subst ec_; clear en_))
                        have GB19 := Aside0.mk gb19
                        have GG19 := Aside0.mk HG19
                        clear gb19 gl19 HG19
                        obtain ⟨hx19_0, hf19_0⟩ := Kd.R_celln 0 HO_6.out (0 : Int) p19 q19
                        (try rw [show ((0 : Int)).toNat = 0 from rfl] at hx19_0)
                        (try simp only [Nat.reduceMul, Nat.zero_mul, Nat.zero_add, Nat.reduceAdd] at hx19_0)
                        (try rw [show ((0 : Int)).toNat = 0 from rfl] at hf19_0)
                        (try simp only [Nat.reduceMul, Nat.zero_mul, Nat.zero_add, Nat.reduceAdd] at hf19_0)
                        replace p19 := eq_true p19
                        replace q19 := eq_true q19
                        have HP57 := Kd.R_putg HO_6.out (0 : Int) 59
                        go_wp2_with (first | ((with_reducible refine gate_store (t := 5) (p := 30) rfl ?_); refine store_event (t := 5) (p := 30) (v := ?vo_w58) (w1 := (wr.setCell ⟨go19, (0 : Int).toNat, none⟩ (.int .u8 59))) ?hg ?ho ?hn ?hr ?_; (case ho => rfl); (case hg => rfl); (case hn => rfl); (case hr => first | (go_simp; done) | (go_simp; rfl)); intro w58 hw; have hg : wr.grownBy w58 (some go19) := (by rw [hw]; exact HP57.2); have hp_ : Kd.R (Kd.int .u8) 5 w58 w.heap.size (fun _ => True) (.slice (some ⟨go19, 0, none⟩) x6_1.length co11) y106 := (by rw [hw, Ny106.out]; exact HP57.1); clear HP57; have n0_ := Aside0.mk (hp_); have n1_ := Aside0.mk ((by rw [hw]; exact below_set (HB.out) GB19.out : Below w.heap.size w w58)); clear HO_6; clear HB; have HO_6 := n0_; have HB := n1_; clear n0_ n1_; clear hg hw hp_; have p23 : 0 ≤ ((ji20) : Int) := of_decide_eq_true (by first | (with_reducible assumption) | assumption); have q23 : ((ji20) : Int) < ((x6_1.length : Int) : Int) := of_decide_eq_true (by first | (with_reducible assumption) | assumption); obtain ⟨hx23_0, hf23_0⟩ := Kd.R_celln 0 HO_6.out ((ji20) : Int) p23 q23; replace p23 := eq_true p23; replace q23 := eq_true q23; obtain ⟨hy59_, hz59_⟩ := Kd.R_celln 0 HO_6.out ((ji20) : Int) (of_decide_eq_true (by first | (with_reducible assumption) | assumption)) (of_decide_eq_true (by first | (with_reducible assumption) | assumption)); have HP59 := Kd.R_putg HO_6.out ((ji20) : Int) a1) | ((with_reducible refine gate_store (t := 5) (p := 35) rfl ?_); refine store_event (t := 5) (p := 35) (v := ?vo_w60) (w1 := (w58.setCell ⟨go19, ((ji20) : Int).toNat, none⟩ (.int .u8 a1))) ?hg ?ho ?hn ?hr ?_; (case ho => rfl); (case hg => rfl); (case hn => rfl); (case hr => first | (go_simp; done) | (go_simp; rfl)); intro w60 hw; have hg : w58.grownBy w60 (some go19) := (by rw [hw]; exact HP59.2); have hp_ : Kd.R (Kd.int .u8) 5 w60 w.heap.size (fun _ => True) (.slice (some ⟨go19, 0, none⟩) x6_1.length co11) y107 := (by rw [hw, Ny107.out]; exact HP59.1); clear HP59; have n0_ := Aside0.mk (hp_); have n1_ := Aside0.mk ((by rw [hw]; exact below_set (HB.out) GB19.out : Below w.heap.size w w60)); clear HO_6; clear HB; have HO_6 := n0_; have HB := n1_; clear n0_ n1_; clear hg hw hp_) | ((with_reducible refine gate_callee (f := 10) rfl ?_); refine goesL_ (some 38) rfl rfl Tryd.func10 (by kernel_rfl) rfl #[.slice (some ⟨go19, 0, none⟩) y107.length co11] rfl (by (try simp only [List.map_toArray, List.map_cons, List.map_nil]); first | done | (rw [show y107.length = x6_1.length from (Kd.R_reads' HO_6.out).1.symm] <;> rfl) | rfl | (simp only [List.length_drop, List.length_take]; rfl)) ?_; (with_reducible refine (lex_Tokens.calls _ _ y107 t108 t109 t110 _ ?side1 ?side2 A24.out).mono ?_); (case side1 => repeat (first | exact (Kd.R_reads' HO_6.out).2.2 | (with_reducible refine Kd.C_alloc ?_ _) | (with_reducible refine Kd.C_drewN ?_ _) | (with_reducible refine Kd.C_drew ?_))); (case side2 => rw [show y107.length = x6_1.length from (Kd.R_reads' HO_6.out).1.symm]; exact (Kd.R_reads' HO_6.out).2.1); rintro e w61 ⟨v111, rfl, ho0, hb⟩; refine ⟨_, rfl, ?_⟩; have n0_ := Aside0.mk (Kd.R_below (by (with_reducible repeat (first | apply Kd.R_alloc | apply Kd.R_drewN | apply Kd.R_drew)); exact HO_6.out) hb); have n1_ := Aside0.mk (Kd.R_lower ho0 (below_size (by repeat (first | (with_reducible first | exact HB.out | apply below_alloc | apply pw_below_drewN | apply below_drew1) | exact HB.out)))); have n2_ := Aside0.mk (below_step (by repeat (first | (with_reducible first | exact HB.out | apply below_alloc | apply pw_below_drewN | apply below_drew1) | exact HB.out)) hb); clear HO_6; clear HB; have HO_6 := n0_; have HO112 := n1_; have HB := n2_; clear n0_ n1_ n2_; (try clear hb); (try clear hb2); (try clear hk); (try clear hi); (try clear ho0)))
                        go_ret
                        exact ⟨by first | rfl | (simp [errW_none, errW_some] <;> rfl) | (simp only [← hji5, ← hji20]; first | rfl | (simp [errW_none, errW_some] <;> rfl)) | (simp [*, errW_none, errW_some] <;> rfl), by repeat (first | (with_reducible first | exact HB.out | apply below_alloc | apply pw_below_drewN | apply below_drew1) | exact HB.out)⟩
                  · rw [if_neg c22] at H
                    exact absurd H (by simp)
                · rw [if_neg c21] at H
                  exact absurd H (by simp)
              · rw [if_neg c18] at H
                exact absurd H (by simp)
      · rw [if_neg c7] at H
        exact absurd H (by simp)
    · rw [if_neg c6] at H
      exact absurd H (by simp)
  · replace c4 := Bool.eq_false_iff.mpr c4
    subst c4
    have H1 : (some false) = some r := by rw [if_neg (show ¬ (false = true) by decide)] at H; exact H
    clear H
    have H := H1
    clear H1
    obtain rfl := Option.some.inj H
    go_enter Tryd.func5, Tryd.ntmps5
    go_wp2_with (first | ((with_reducible refine gate_callee (f := 9) rfl ?_); refine goesL_ (some 11) rfl rfl Tryd.func9 (by kernel_rfl) rfl #[] rfl (by (try simp only [List.map_toArray, List.map_cons, List.map_nil]); first | done | rfl | (simp only [List.length_drop, List.length_take]; rfl)) ?_; (with_reducible refine (reverielaw01_lives.calls  false _ A3.out).mono ?_); rintro e w62 ⟨rfl, hb⟩; refine ⟨_, rfl, ?_⟩; have n0_ := Aside0.mk (below_step (by repeat (first | (with_reducible first | exact HB.out | apply below_alloc | apply pw_below_drewN | apply below_drew1) | exact HB.out)) hb); clear HB; have HB := n0_; clear n0_; (try clear hb); (try clear hb2); (try clear hk); (try clear hi)))
    go_ret
    exact ⟨by first | rfl | (simp [errW_none, errW_some] <;> rfl) | (simp [*, errW_none, errW_some] <;> rfl), by repeat (first | (with_reducible first | exact HB.out | apply below_alloc | apply pw_below_drewN | apply below_drew1) | exact HB.out)⟩

/-- THE ONE PURE STATEMENT of reverielaw01_LexLong: yours. -/
def reverielaw01_LexLong.Pure : Prop := ∀ (a0 : Int) (a1 : Int), (Lit.int .i64 a0).wf = true → (Lit.int .u8 a1).wf = true → ∃ k, reverielaw01_LexLong.f k a0 a1 = some true
theorem reverielaw01_LexLong.walk (P : reverielaw01_LexLong.Pure) (a0 : Int) (a1 : Int) (w : World) (w0 : (Lit.int .i64 a0).wf = true) (w1 : (Lit.int .u8 a1).wf = true) :
    Calls Tryd.prog 5 #[.int .i64 a0, .int .u8 a1] w fun e w' => e = .returned (.bool true) ∧ Below w.heap.size w w' := by
  obtain ⟨k, h⟩ := P a0 a1 w0 w1
  refine (reverielaw01_LexLong.calls k a0 a1 true w h).mono ?_
  rintro e w' ⟨rfl, hd⟩
  exact ⟨rfl, hd⟩

end Go.Proofs.YtincigcoagcgaaaDoor.Pr
