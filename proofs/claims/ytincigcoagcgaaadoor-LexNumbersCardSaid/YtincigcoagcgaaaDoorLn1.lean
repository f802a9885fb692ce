/- The Go functions that the laws of this seat reach, as Lean functions, and that each call comes to them: written by a program. -/
import Derived.Test.YtincigcoagcgaaaDoorKw
import Derived.Test.YtincigcoagcgaaaDoorPr0
import Derived.Test.YtincigcoagcgaaaDoorLexB
import Derived.Test.YtincigcoagcgaaaDoorLexD
import Derived.Test.YtincigcoagcgaaaDoorLexLives
namespace Go.Proofs.YtincigcoagcgaaaDoor.Pr
open Go.RowKit Go.Proofs.YtincigcoagcgaaaDoorW.PrintWords Go.Proofs.YtincigcoagcgaaaDoorW.PrintLast Go.Proofs.YtincigcoagcgaaaDoorW.PrintMore
attribute [local go_sem] max2_int min2_int max_two min_two max_three min_three max_four min_four   -- for this text's walks alone
set_option linter.unusedVariables false
set_option linter.unusedSimpArgs false

/-! ### reverielaw01_LexNumbers: function 8 -/
def reverielaw01_LexNumbers.l0 : Nat → Int → ByteArray → Int → Int → Option (Bool)
  | 0, _, _, _, _ => none
  | k + 1, x0, x5, x21, x22 => if x22 < x21 then (if 1 + x5.size ≤ 9223372036854775807 then (reverielaw01_LexNumbers.l0 k x0 ((⟨#[48]⟩ : ByteArray) ++ x5) x21 (wrap64 (x22 + 1))) else (none)) else (if x0 < 0 then (if 1 + x5.size ≤ 9223372036854775807 then (if ((⟨#[45]⟩ : ByteArray) ++ x5).size ≤ 140737488355328 then ((lex_Tokens.f (bytesOf ((⟨#[45]⟩ : ByteArray) ++ x5))).bind fun bt104 => (if (x5.size : Int) > 18 then (if bt104.2.2 = 2 then (if bt104.2.1 = 0 then (some ((bt104.1.length : Int) == 0)) else (some false)) else (some false)) else (if bt104.2.2 = 0 then (if bt104.2.1 = (-1) then (if (bt104.1.length : Int) = 1 then (if 0 < (bt104.1.length : Int) then (if ((rd_T33 bt104.1 0).f3) = x0 then (if ((rd_T33 bt104.1 0).f0) = 2 then (some (((rd_T33 bt104.1 0).f2).toList == ((⟨#[45]⟩ : ByteArray) ++ x5).toList)) else (some false)) else (some false)) else (none)) else (some false)) else (some false)) else (some false)))) else (none)) else (none)) else (if x5.size ≤ 140737488355328 then ((lex_Tokens.f (bytesOf x5)).bind fun bt113 => (if (x5.size : Int) > 18 then (if bt113.2.2 = 2 then (if bt113.2.1 = 0 then (some ((bt113.1.length : Int) == 0)) else (some false)) else (some false)) else (if bt113.2.2 = 0 then (if bt113.2.1 = (-1) then (if (bt113.1.length : Int) = 1 then (if 0 < (bt113.1.length : Int) then (if ((rd_T33 bt113.1 0).f3) = x0 then (if ((rd_T33 bt113.1 0).f0) = 2 then (some (((rd_T33 bt113.1 0).f2).toList == x5.toList)) else (some false)) else (some false)) else (none)) else (some false)) else (some false)) else (some false)))) else (none)))
def reverielaw01_LexNumbers.f (k : Nat) (a0 : Int) (a1 : Int) : Option (Bool) := (reverielaw01_lives.f).bind fun t101 => (if t101 = true then ((strconv_FormatInt.f (mx (Int.tmod a0 1000000000000000000) (wrap64 (-(Int.tmod a0 1000000000000000000)))) 10).bind fun t102 => (reverielaw01_LexNumbers.l0 k (Int.tmod a0 1000000000000000000) t102 (Int.tmod (wrap64 (a1)) 20) 0)) else (some false))
theorem reverielaw01_LexNumbers.mono_l : ∀ k, (∀ y0 y1 y2 y3, LeO (reverielaw01_LexNumbers.l0 k y0 y1 y2 y3) (reverielaw01_LexNumbers.l0 (k + 1) y0 y1 y2 y3))
  | 0 => fun _ _ _ _ r h => by simp [reverielaw01_LexNumbers.l0] at h
  | k + 1 => by
    have ih0 := reverielaw01_LexNumbers.mono_l k
    · intro y0 y1 y2 y3
      unfold reverielaw01_LexNumbers.l0
      repeat' first
      | (with_reducible exact ih0 _ _ _ _)
      | (with_reducible exact LeO.refl _)
      | (with_reducible exact LeO.none _)
      | (with_reducible refine LeO.ite ?_ ?_)
      | (with_reducible refine LeO.bind ?_ (fun _ => ?_))
      | exact ih0 _ _ _ _
      | exact LeO.none _
      | refine LeO.ite ?_ ?_
      | refine LeO.bind ?_ (fun _ => ?_)
theorem reverielaw01_LexNumbers.mono : ∀ a0 a1 k, LeO (reverielaw01_LexNumbers.f k a0 a1) (reverielaw01_LexNumbers.f (k + 1) a0 a1) := by
  intro a0 a1 k
  have ih0 := reverielaw01_LexNumbers.mono_l k
  unfold reverielaw01_LexNumbers.f
  repeat' first
      | (with_reducible exact ih0 _ _ _ _)
      | (with_reducible exact LeO.refl _)
      | (with_reducible exact LeO.none _)
      | (with_reducible refine LeO.ite ?_ ?_)
      | (with_reducible refine LeO.bind ?_ (fun _ => ?_))
      | exact ih0 _ _ _ _
      | exact LeO.none _
      | refine LeO.ite ?_ ?_
      | refine LeO.bind ?_ (fun _ => ?_)
set_option maxHeartbeats 8000000 in
set_option maxRecDepth 100000 in
theorem reverielaw01_LexNumbers.calls (k : Nat) (a0 : Int) (a1 : Int) (r : Bool) (w : World) (htab : Lib.TabBelow Tryd.prog w.heap.size w "internal/strconv.uint64pow10" .u64 Lib.pow10Tab) (h : reverielaw01_LexNumbers.f k a0 a1 = some r) :
    Calls Tryd.prog 8 #[.int .i64 a0, .int .u8 a1] w fun e w' => e = .returned (.bool r) ∧ Below w.heap.size w w' := by
  have HTab := Aside0.mk htab
  clear htab
  have HB := Aside0.mk (Below.refl w.heap.size w)
  have H : ((reverielaw01_lives.f).bind fun t101 => (if t101 = true then ((strconv_FormatInt.f (mx (Int.tmod a0 1000000000000000000) (wrap64 (-(Int.tmod a0 1000000000000000000)))) 10).bind fun t102 => (reverielaw01_LexNumbers.l0 k (Int.tmod a0 1000000000000000000) t102 (Int.tmod (wrap64 (a1)) 20) 0)) else (some false))) = some r := h
  clear h
  replace H := Option.bind_eq_some_iff.mp H
  obtain ⟨t101, A30, H⟩ := H
  replace H : (if t101 = true then ((strconv_FormatInt.f (mx (Int.tmod a0 1000000000000000000) (wrap64 (-(Int.tmod a0 1000000000000000000)))) 10).bind fun t102 => (reverielaw01_LexNumbers.l0 k (Int.tmod a0 1000000000000000000) t102 (Int.tmod (wrap64 (a1)) 20) 0)) else (some false)) = some r := H
  have A3 := Aside0.mk A30
  clear A30
  by_cases c4 : t101 = true
  · subst c4
    have H1 : ((strconv_FormatInt.f (mx (Int.tmod a0 1000000000000000000) (wrap64 (-(Int.tmod a0 1000000000000000000)))) 10).bind fun t102 => (reverielaw01_LexNumbers.l0 k (Int.tmod a0 1000000000000000000) t102 (Int.tmod (wrap64 (a1)) 20) 0)) = some r := by rw [if_pos rfl] at H; exact H
    clear H
    have H := H1
    clear H1
    obtain ⟨ji5, hji5⟩ : ∃ j_ : Int, (mx (Int.tmod a0 1000000000000000000) (wrap64 (-(Int.tmod a0 1000000000000000000)))) = j_ := ⟨_, rfl⟩
    replace H : ((strconv_FormatInt.f (ji5) 10).bind fun t102 => (reverielaw01_LexNumbers.l0 k (Int.tmod a0 1000000000000000000) t102 (Int.tmod (wrap64 (a1)) 20) 0)) = some r := by first | (rw [hji5] at H; exact H) | (simp only [hji5] at H ⊢; exact H)
    (try rw [hji5] at A3)
    have hji5_ : (if (Int.tmod a0 1000000000000000000) < (wrap64 (-(Int.tmod a0 1000000000000000000))) then (wrap64 (-(Int.tmod a0 1000000000000000000))) else (Int.tmod a0 1000000000000000000)) = ji5 := hji5
    replace H := Option.bind_eq_some_iff.mp H
    obtain ⟨t102, A60, H⟩ := H
    replace H : (reverielaw01_LexNumbers.l0 k (Int.tmod a0 1000000000000000000) t102 (Int.tmod (wrap64 (a1)) 20) 0) = some r := H
    have A6 := Aside0.mk A60
    clear A60
    have H' := Aside0.mk H
    clear H
    go_enter Tryd.func8, Tryd.ntmps8
    go_wp2_with (first | ((with_reducible refine gate_callee (f := 9) rfl ?_); refine goesL_ (some 10) rfl rfl Tryd.func9 (by kernel_rfl) rfl #[] rfl (by (try simp only [List.map_toArray, List.map_cons, List.map_nil]); first | done | rfl | (simp only [List.length_drop, List.length_take]; rfl)) ?_; (with_reducible refine (reverielaw01_lives.calls  true _ A3.out).mono ?_); rintro e w7 ⟨rfl, hb⟩; refine ⟨_, rfl, ?_⟩; have n0_ := Aside0.mk (below_step (by repeat (first | (with_reducible first | exact HB.out | apply below_alloc | apply pw_below_drewN | apply below_drew1) | exact HB.out)) hb); clear HB; have HB := n0_; clear n0_; (try clear hb); (try clear hb2); (try clear hk); (try clear hi)) | ((with_reducible refine gate_callee (f := 13) rfl ?_); refine goesL_ (some 18) rfl rfl Tryd.func13 (by kernel_rfl) rfl #[.int .i64 ji5, .int .i64 10] rfl (by (try simp only [List.map_toArray, List.map_cons, List.map_nil]); first | done | (simp only [hji5]; rfl) | rfl | (simp only [List.length_drop, List.length_take]; rfl)) ?_; (with_reducible refine (strconv_FormatInt.calls ji5 10 t102 _ A6.out (tab_at HTab.out (by repeat (first | (with_reducible first | exact HB.out | apply below_alloc | apply pw_below_drewN | apply below_drew1) | exact HB.out)))).mono ?_); rintro e w8 ⟨rfl, hb⟩; refine ⟨_, rfl, ?_⟩; have n0_ := Aside0.mk (below_step (by repeat (first | (with_reducible first | exact HB.out | apply below_alloc | apply pw_below_drewN | apply below_drew1) | exact HB.out)) hb); clear HB; have HB := n0_; clear n0_; (try clear hb); (try clear hb2); (try clear hk); (try clear hi)))
    go_loopg [5, 22] k (fun kq v5 v22 w' => ∃ (x5_1 : ByteArray) (x22_1 : Int), v5 = .string x5_1 ∧ v22 = .int .i64 x22_1 ∧ Aside0 (reverielaw01_LexNumbers.l0 kq (Int.tmod a0 1000000000000000000) x5_1 (Int.tmod (wrap64 (a1)) 20) x22_1 = some r) ∧ Aside0 (kq ≤ k) ∧ Aside0 (Below w.heap.size w w'))
    case atStart => exact ⟨(t102), (0), (by first | rfl | (simp; done) | (simp [*]; done)), (by first | rfl | (simp; done) | (simp [*]; done)), H', ⟨Nat.le_refl _⟩, ⟨by repeat (first | (with_reducible first | exact HB.out | apply below_alloc | apply pw_below_drewN | apply below_drew1) | exact HB.out)⟩⟩
    case round =>
      clear H'
      try clear c1
      try clear p2
      try clear c4
      try clear p6
      try clear c8
      obtain ⟨x5_1, x22_1, rfl, rfl, HA, HK1, HB⟩ := hrel
      cases gk with
      | zero => exact absurd HA.out (by simp [reverielaw01_LexNumbers.l0])
      | succ k1 =>
        have H := HA.out
        clear HA
        simp only [reverielaw01_LexNumbers.l0] at H
        by_cases c9 : x22_1 < (Int.tmod (wrap64 (a1)) 20)
        · rw [if_pos c9] at H
          have c9b0 : decide (x22_1 < (Int.tmod (wrap64 (a1)) 20)) = true := decide_eq_true c9
          clear c9
          by_cases c10 : 1 + x5_1.size ≤ 9223372036854775807
          · rw [if_pos c10] at H
            have c10b0 := eq_true c10
            have c10b1 : decide (1 + x5_1.size ≤ 9223372036854775807) = true := decide_eq_true c10
            try have c10b2 : (9223372036854775807 < 1 + x5_1.size) = False := eq_false (Nat.not_lt.2 c10)
            have H' := Aside0.mk H
            clear H
            go_wp2
            go_roundg k1
            case measure => have := HK1.out; omega
            case rel => exact ⟨((⟨#[48]⟩ : ByteArray) ++ x5_1), (wrap64 (x22_1 + 1)), (by first | rfl | (simp; done) | (simp [*]; done)), (by first | rfl | (simp; done) | (simp [*]; done)), H', ⟨by have := HK1.out; omega⟩, ⟨by repeat (first | (with_reducible first | exact HB.out | apply below_alloc | apply pw_below_drewN | apply below_drew1) | exact HB.out)⟩⟩
          · rw [if_neg c10] at H
            exact absurd H (by simp)
        · rw [if_neg c9] at H
          have c9b0 : decide (x22_1 < (Int.tmod (wrap64 (a1)) 20)) = false := decide_eq_false c9
          clear c9
          by_cases c11 : (Int.tmod a0 1000000000000000000) < 0
          · rw [if_pos c11] at H
            have c11b0 : decide ((Int.tmod a0 1000000000000000000) < 0) = true := decide_eq_true c11
            clear c11
            by_cases c12 : 1 + x5_1.size ≤ 9223372036854775807
            · rw [if_pos c12] at H
              have c12b0 := eq_true c12
              have c12b1 : decide (1 + x5_1.size ≤ 9223372036854775807) = true := decide_eq_true c12
              try have c12b2 : (9223372036854775807 < 1 + x5_1.size) = False := eq_false (Nat.not_lt.2 c12)
              by_cases c13 : ((⟨#[45]⟩ : ByteArray) ++ x5_1).size ≤ 140737488355328
              · rw [if_pos c13] at H
                have LMc13 := Aside0.mk c13
                clear c13
                replace H := Option.bind_eq_some_iff.mp H
                obtain ⟨⟨t104, t105, t106⟩, A140, H⟩ := H
                replace H : (if (x5_1.size : Int) > 18 then (if t106 = 2 then (if t105 = 0 then (some ((t104.length : Int) == 0)) else (some false)) else (some false)) else (if t106 = 0 then (if t105 = (-1) then (if (t104.length : Int) = 1 then (if 0 < (t104.length : Int) then (if ((rd_T33 t104 0).f3) = (Int.tmod a0 1000000000000000000) then (if ((rd_T33 t104 0).f0) = 2 then (some (((rd_T33 t104 0).f2).toList == ((⟨#[45]⟩ : ByteArray) ++ x5_1).toList)) else (some false)) else (some false)) else (none)) else (some false)) else (some false)) else (some false))) = some r := H
                have A14 := Aside0.mk A140
                clear A140
                by_cases c15 : (x5_1.size : Int) > 18
                · rw [if_pos c15] at H
                  have c15b0 : decide (18 < (x5_1.size : Int)) = true := decide_eq_true c15
                  have c15b1 : decide (18 < x5_1.size) = true := decide_eq_true (by omega)
                  clear c15
                  by_cases c16 : t106 = 2
                  · rw [if_pos c16] at H
                    have c16b0 : (t106 == 2) = true := beq_iff_eq.mpr c16
                    have c16b1 : (t106 != 2) = false := bne_eq_false_iff_eq.mpr c16
                    clear c16
                    by_cases c17 : t105 = 0
                    · rw [if_pos c17] at H
                      have c17b0 : (t105 == 0) = true := beq_iff_eq.mpr c17
                      have c17b1 : (t105 != 0) = false := bne_eq_false_iff_eq.mpr c17
                      clear c17
                      obtain rfl := Option.some.inj H
                      go_wp2_with (first | ((with_reducible refine gate_dst (N := 36) rfl ?_); (try (refine gate_guard (by rfl) ?_; dsimp only)); refine Kd.conv_bytes rfl (N := 36) rfl _ 9 22 5 rfl Tryd.underlying9 Tryd.underlying22 Tryd.underlying5 ((⟨#[45]⟩ : ByteArray) ++ x5_1) rfl (by have := LMc13.out; omega) ?_; intro A103 c103 w18 hrd hcp hb; have n0_ := Aside0.mk (below_step (by repeat (first | (with_reducible first | exact HB.out | apply below_alloc | apply pw_below_drewN | apply below_drew1) | exact HB.out)) hb); have n1_ := Aside0.mk (hrd); have n2_ := Aside0.mk (hcp); clear HB; have HB := n0_; have HR103 := n1_; have HC103 := n2_; clear n0_ n1_ n2_; clear hb hrd hcp) | ((with_reducible refine gate_callee (f := 10) rfl ?_); refine goesL_ (some 37) rfl rfl Tryd.func10 (by kernel_rfl) rfl #[.slice A103 (bytesOf ((⟨#[45]⟩ : ByteArray) ++ x5_1)).length c103] rfl (by (try simp only [List.map_toArray, List.map_cons, List.map_nil]); first | done | rfl | (simp only [List.length_drop, List.length_take]; rfl)) ?_; (with_reducible refine (lex_Tokens.calls _ _ (bytesOf ((⟨#[45]⟩ : ByteArray) ++ x5_1)) t104 t105 t106 _ ?side1 ?side2 A14.out).mono ?_); (case side1 => exact HR103.out); (case side2 => exact HC103.out); rintro e w19 ⟨v107, rfl, ho0, hb⟩; refine ⟨_, rfl, ?_⟩; have n0_ := Aside0.mk (Kd.R_lower ho0 (below_size (by repeat (first | (with_reducible first | exact HB.out | apply below_alloc | apply pw_below_drewN | apply below_drew1) | exact HB.out)))); have n1_ := Aside0.mk (below_step (by repeat (first | (with_reducible first | exact HB.out | apply below_alloc | apply pw_below_drewN | apply below_drew1) | exact HB.out)) hb); clear HB; have HO108 := n0_; have HB := n1_; clear n0_ n1_; (try clear hb); (try clear hb2); (try clear hk); (try clear hi); (try clear ho0); obtain ⟨Ao20, co20, eo20⟩ := Kd.R_slice HO108.out; subst eo20))
                      go_ret
                      exact ⟨by first | rfl | (simp [errW_none, errW_some] <;> rfl) | (simp only [← hji5]; first | rfl | (simp [errW_none, errW_some] <;> rfl)) | (simp [*, errW_none, errW_some] <;> rfl), by repeat (first | (with_reducible first | exact HB.out | apply below_alloc | apply pw_below_drewN | apply below_drew1) | exact HB.out)⟩
                    · rw [if_neg c17] at H
                      have c17b0 : (t105 == 0) = false := beq_eq_false_iff_ne.mpr c17
                      have c17b1 : (t105 != 0) = true := bne_iff_ne.mpr c17
                      obtain rfl := Option.some.inj H
                      go_wp2_with (first | ((with_reducible refine gate_dst (N := 36) rfl ?_); (try (refine gate_guard (by rfl) ?_; dsimp only)); refine Kd.conv_bytes rfl (N := 36) rfl _ 9 22 5 rfl Tryd.underlying9 Tryd.underlying22 Tryd.underlying5 ((⟨#[45]⟩ : ByteArray) ++ x5_1) rfl (by have := LMc13.out; omega) ?_; intro A103 c103 w21 hrd hcp hb; have n0_ := Aside0.mk (below_step (by repeat (first | (with_reducible first | exact HB.out | apply below_alloc | apply pw_below_drewN | apply below_drew1) | exact HB.out)) hb); have n1_ := Aside0.mk (hrd); have n2_ := Aside0.mk (hcp); clear HB; have HB := n0_; have HR103 := n1_; have HC103 := n2_; clear n0_ n1_ n2_; clear hb hrd hcp) | ((with_reducible refine gate_callee (f := 10) rfl ?_); refine goesL_ (some 37) rfl rfl Tryd.func10 (by kernel_rfl) rfl #[.slice A103 (bytesOf ((⟨#[45]⟩ : ByteArray) ++ x5_1)).length c103] rfl (by (try simp only [List.map_toArray, List.map_cons, List.map_nil]); first | done | rfl | (simp only [List.length_drop, List.length_take]; rfl)) ?_; (with_reducible refine (lex_Tokens.calls _ _ (bytesOf ((⟨#[45]⟩ : ByteArray) ++ x5_1)) t104 t105 t106 _ ?side1 ?side2 A14.out).mono ?_); (case side1 => exact HR103.out); (case side2 => exact HC103.out); rintro e w22 ⟨v107, rfl, ho0, hb⟩; refine ⟨_, rfl, ?_⟩; have n0_ := Aside0.mk (Kd.R_lower ho0 (below_size (by repeat (first | (with_reducible first | exact HB.out | apply below_alloc | apply pw_below_drewN | apply below_drew1) | exact HB.out)))); have n1_ := Aside0.mk (below_step (by repeat (first | (with_reducible first | exact HB.out | apply below_alloc | apply pw_below_drewN | apply below_drew1) | exact HB.out)) hb); clear HB; have HO108 := n0_; have HB := n1_; clear n0_ n1_; (try clear hb); (try clear hb2); (try clear hk); (try clear hi); (try clear ho0)))
                      go_ret
                      exact ⟨by first | rfl | (simp [errW_none, errW_some] <;> rfl) | (simp only [← hji5]; first | rfl | (simp [errW_none, errW_some] <;> rfl)) | (simp [*, errW_none, errW_some] <;> rfl), by repeat (first | (with_reducible first | exact HB.out | apply below_alloc | apply pw_below_drewN | apply below_drew1) | exact HB.out)⟩
                  · rw [if_neg c16] at H
                    have c16b0 : (t106 == 2) = false := beq_eq_false_iff_ne.mpr c16
                    have c16b1 : (t106 != 2) = true := bne_iff_ne.mpr c16
                    obtain rfl := Option.some.inj H
                    go_wp2_with (first | ((with_reducible refine gate_dst (N := 36) rfl ?_); (try (refine gate_guard (by rfl) ?_; dsimp only)); refine Kd.conv_bytes rfl (N := 36) rfl _ 9 22 5 rfl Tryd.underlying9 Tryd.underlying22 Tryd.underlying5 ((⟨#[45]⟩ : ByteArray) ++ x5_1) rfl (by have := LMc13.out; omega) ?_; intro A103 c103 w23 hrd hcp hb; have n0_ := Aside0.mk (below_step (by repeat (first | (with_reducible first | exact HB.out | apply below_alloc | apply pw_below_drewN | apply below_drew1) | exact HB.out)) hb); have n1_ := Aside0.mk (hrd); have n2_ := Aside0.mk (hcp); clear HB; have HB := n0_; have HR103 := n1_; have HC103 := n2_; clear n0_ n1_ n2_; clear hb hrd hcp) | ((with_reducible refine gate_callee (f := 10) rfl ?_); refine goesL_ (some 37) rfl rfl Tryd.func10 (by kernel_rfl) rfl #[.slice A103 (bytesOf ((⟨#[45]⟩ : ByteArray) ++ x5_1)).length c103] rfl (by (try simp only [List.map_toArray, List.map_cons, List.map_nil]); first | done | rfl | (simp only [List.length_drop, List.length_take]; rfl)) ?_; (with_reducible refine (lex_Tokens.calls _ _ (bytesOf ((⟨#[45]⟩ : ByteArray) ++ x5_1)) t104 t105 t106 _ ?side1 ?side2 A14.out).mono ?_); (case side1 => exact HR103.out); (case side2 => exact HC103.out); rintro e w24 ⟨v107, rfl, ho0, hb⟩; refine ⟨_, rfl, ?_⟩; have n0_ := Aside0.mk (Kd.R_lower ho0 (below_size (by repeat (first | (with_reducible first | exact HB.out | apply below_alloc | apply pw_below_drewN | apply below_drew1) | exact HB.out)))); have n1_ := Aside0.mk (below_step (by repeat (first | (with_reducible first | exact HB.out | apply below_alloc | apply pw_below_drewN | apply below_drew1) | exact HB.out)) hb); clear HB; have HO108 := n0_; have HB := n1_; clear n0_ n1_; (try clear hb); (try clear hb2); (try clear hk); (try clear hi); (try clear ho0)))
                    go_ret
                    exact ⟨by first | rfl | (simp [errW_none, errW_some] <;> rfl) | (simp only [← hji5]; first | rfl | (simp [errW_none, errW_some] <;> rfl)) | (simp [*, errW_none, errW_some] <;> rfl), by repeat (first | (with_reducible first | exact HB.out | apply below_alloc | apply pw_below_drewN | apply below_drew1) | exact HB.out)⟩
                · rw [if_neg c15] at H
                  have c15b0 : decide (18 < (x5_1.size : Int)) = false := decide_eq_false c15
                  have c15b1 : decide (18 < x5_1.size) = false := decide_eq_false (by omega)
                  clear c15
                  by_cases c25 : t106 = 0
                  · rw [if_pos c25] at H
                    have c25b0 : (t106 == 0) = true := beq_iff_eq.mpr c25
                    have c25b1 : (t106 != 0) = false := bne_eq_false_iff_eq.mpr c25
                    clear c25
                    by_cases c26 : t105 = (-1)
                    · rw [if_pos c26] at H
                      have c26b0 : (t105 == (-1)) = true := beq_iff_eq.mpr c26
                      have c26b1 : (t105 != (-1)) = false := bne_eq_false_iff_eq.mpr c26
                      clear c26
                      by_cases c27 : (t104.length : Int) = 1
                      · rw [if_pos c27] at H
                        have c27b0 : ((t104.length : Int) == 1) = true := beq_iff_eq.mpr c27
                        have c27b1 : ((t104.length : Int) != 1) = false := bne_eq_false_iff_eq.mpr c27
                        clear c27
                        by_cases c28 : 0 < (t104.length : Int)
                        · rw [if_pos c28] at H
                          have c28b0 : decide (0 < (t104.length : Int)) = true := decide_eq_true c28
                          have c28b1 : decide (0 < t104.length) = true := decide_eq_true (by omega)
                          clear c28
                          by_cases c29 : ((rd_T33 t104 0).f3) = (Int.tmod a0 1000000000000000000)
                          · rw [if_pos c29] at H
                            have c29b0 : (((rd_T33 t104 0).f3) == (Int.tmod a0 1000000000000000000)) = true := beq_iff_eq.mpr c29
                            have c29b1 : (((rd_T33 t104 0).f3) != (Int.tmod a0 1000000000000000000)) = false := bne_eq_false_iff_eq.mpr c29
                            clear c29
                            by_cases c30 : ((rd_T33 t104 0).f0) = 2
                            · rw [if_pos c30] at H
                              have c30b0 : (((rd_T33 t104 0).f0) == 2) = true := beq_iff_eq.mpr c30
                              have c30b1 : (((rd_T33 t104 0).f0) != 2) = false := bne_eq_false_iff_eq.mpr c30
                              clear c30
                              obtain rfl := Option.some.inj H
                              go_wp2_with (first | ((with_reducible refine gate_dst (N := 36) rfl ?_); (try (refine gate_guard (by rfl) ?_; dsimp only)); refine Kd.conv_bytes rfl (N := 36) rfl _ 9 22 5 rfl Tryd.underlying9 Tryd.underlying22 Tryd.underlying5 ((⟨#[45]⟩ : ByteArray) ++ x5_1) rfl (by have := LMc13.out; omega) ?_; intro A103 c103 w31 hrd hcp hb; have n0_ := Aside0.mk (below_step (by repeat (first | (with_reducible first | exact HB.out | apply below_alloc | apply pw_below_drewN | apply below_drew1) | exact HB.out)) hb); have n1_ := Aside0.mk (hrd); have n2_ := Aside0.mk (hcp); clear HB; have HB := n0_; have HR103 := n1_; have HC103 := n2_; clear n0_ n1_ n2_; clear hb hrd hcp) | ((with_reducible refine gate_callee (f := 10) rfl ?_); refine goesL_ (some 37) rfl rfl Tryd.func10 (by kernel_rfl) rfl #[.slice A103 (bytesOf ((⟨#[45]⟩ : ByteArray) ++ x5_1)).length c103] rfl (by (try simp only [List.map_toArray, List.map_cons, List.map_nil]); first | done | rfl | (simp only [List.length_drop, List.length_take]; rfl)) ?_; (with_reducible refine (lex_Tokens.calls _ _ (bytesOf ((⟨#[45]⟩ : ByteArray) ++ x5_1)) t104 t105 t106 _ ?side1 ?side2 A14.out).mono ?_); (case side1 => exact HR103.out); (case side2 => exact HC103.out); rintro e w32 ⟨v107, rfl, ho0, hb⟩; refine ⟨_, rfl, ?_⟩; have n0_ := Aside0.mk (Kd.R_lower ho0 (below_size (by repeat (first | (with_reducible first | exact HB.out | apply below_alloc | apply pw_below_drewN | apply below_drew1) | exact HB.out)))); have n1_ := Aside0.mk (below_step (by repeat (first | (with_reducible first | exact HB.out | apply below_alloc | apply pw_below_drewN | apply below_drew1) | exact HB.out)) hb); clear HB; have HO108 := n0_; have HB := n1_; clear n0_ n1_; (try clear hb); (try clear hb2); (try clear hk); (try clear hi); (try clear ho0); obtain ⟨Ao33, co33, eo33⟩ := Kd.R_slice HO108.out; subst eo33; have p109 : 0 ≤ (0 : Int) := (by omega); have q109 : 0 < (t104.length : Int) := of_decide_eq_true (by first | (with_reducible assumption) | assumption); obtain ⟨ad109, e109, hx109_0, hx109_1, hx109_2, hx109_3⟩ := at_T33 (Kd.R_reads' HO108.out).2.2 0 p109 q109; cases e109; have qi109 : (0 < t104.length) = True := eq_true (by omega); (try rw [show ((0 : Int)).toNat = 0 from rfl] at hx109_0); (try rw [show 0 * 4 = 0 from rfl] at hx109_0); (try rw [Addr.add_zero'] at hx109_0); (try rw [show ((0 : Int)).toNat = 0 from rfl] at hx109_1); (try rw [show 0 * 4 = 0 from rfl] at hx109_1); (try rw [Addr.add_zero'] at hx109_1); (try rw [show ((0 : Int)).toNat = 0 from rfl] at hx109_2); (try rw [show 0 * 4 = 0 from rfl] at hx109_2); (try rw [Addr.add_zero'] at hx109_2); (try rw [show ((0 : Int)).toNat = 0 from rfl] at hx109_3); (try rw [show 0 * 4 = 0 from rfl] at hx109_3); (try rw [Addr.add_zero'] at hx109_3); replace p109 := eq_true p109; replace q109 := eq_true q109; have p110 : 0 ≤ (0 : Int) := (by omega); have q110 : 0 < (t104.length : Int) := of_decide_eq_true (by first | (with_reducible assumption) | assumption); obtain ⟨ad110, e110, hx110_0, hx110_1, hx110_2, hx110_3⟩ := at_T33 (Kd.R_reads' HO108.out).2.2 0 p110 q110; obtain rfl : ad109 = ad110 := (by injection e110); have qi110 : (0 < t104.length) = True := eq_true (by omega); (try rw [show ((0 : Int)).toNat = 0 from rfl] at hx110_0); (try rw [show 0 * 4 = 0 from rfl] at hx110_0); (try rw [Addr.add_zero'] at hx110_0); (try rw [show ((0 : Int)).toNat = 0 from rfl] at hx110_1); (try rw [show 0 * 4 = 0 from rfl] at hx110_1); (try rw [Addr.add_zero'] at hx110_1); (try rw [show ((0 : Int)).toNat = 0 from rfl] at hx110_2); (try rw [show 0 * 4 = 0 from rfl] at hx110_2); (try rw [Addr.add_zero'] at hx110_2); (try rw [show ((0 : Int)).toNat = 0 from rfl] at hx110_3); (try rw [show 0 * 4 = 0 from rfl] at hx110_3); (try rw [Addr.add_zero'] at hx110_3); replace p110 := eq_true p110; replace q110 := eq_true q110; have p111 : 0 ≤ (0 : Int) := (by omega); have q111 : 0 < (t104.length : Int) := of_decide_eq_true (by first | (with_reducible assumption) | assumption); obtain ⟨ad111, e111, hx111_0, hx111_1, hx111_2, hx111_3⟩ := at_T33 (Kd.R_reads' HO108.out).2.2 0 p111 q111; obtain rfl : ad109 = ad111 := (by injection e111); have qi111 : (0 < t104.length) = True := eq_true (by omega); (try rw [show ((0 : Int)).toNat = 0 from rfl] at hx111_0); (try rw [show 0 * 4 = 0 from rfl] at hx111_0); (try rw [Addr.add_zero'] at hx111_0); (try rw [show ((0 : Int)).toNat = 0 from rfl] at hx111_1); (try rw [show 0 * 4 = 0 from rfl] at hx111_1); (try rw [Addr.add_zero'] at hx111_1); (try rw [show ((0 : Int)).toNat = 0 from rfl] at hx111_2); (try rw [show 0 * 4 = 0 from rfl] at hx111_2); (try rw [Addr.add_zero'] at hx111_2); (try rw [show ((0 : Int)).toNat = 0 from rfl] at hx111_3); (try rw [show 0 * 4 = 0 from rfl] at hx111_3); (try rw [Addr.add_zero'] at hx111_3); replace p111 := eq_true p111; replace q111 := eq_true q111))
                              go_ret
                              exact ⟨by first | rfl | (simp [errW_none, errW_some] <;> rfl) | (simp only [← hji5]; first | rfl | (simp [errW_none, errW_some] <;> rfl)) | (simp [*, errW_none, errW_some] <;> rfl), by repeat (first | (with_reducible first | exact HB.out | apply below_alloc | apply pw_below_drewN | apply below_drew1) | exact HB.out)⟩
                            · rw [if_neg c30] at H
                              have c30b0 : (((rd_T33 t104 0).f0) == 2) = false := beq_eq_false_iff_ne.mpr c30
                              have c30b1 : (((rd_T33 t104 0).f0) != 2) = true := bne_iff_ne.mpr c30
                              obtain rfl := Option.some.inj H
                              go_wp2_with (first | ((with_reducible refine gate_dst (N := 36) rfl ?_); (try (refine gate_guard (by rfl) ?_; dsimp only)); refine Kd.conv_bytes rfl (N := 36) rfl _ 9 22 5 rfl Tryd.underlying9 Tryd.underlying22 Tryd.underlying5 ((⟨#[45]⟩ : ByteArray) ++ x5_1) rfl (by have := LMc13.out; omega) ?_; intro A103 c103 w34 hrd hcp hb; have n0_ := Aside0.mk (below_step (by repeat (first | (with_reducible first | exact HB.out | apply below_alloc | apply pw_below_drewN | apply below_drew1) | exact HB.out)) hb); have n1_ := Aside0.mk (hrd); have n2_ := Aside0.mk (hcp); clear HB; have HB := n0_; have HR103 := n1_; have HC103 := n2_; clear n0_ n1_ n2_; clear hb hrd hcp) | ((with_reducible refine gate_callee (f := 10) rfl ?_); refine goesL_ (some 37) rfl rfl Tryd.func10 (by kernel_rfl) rfl #[.slice A103 (bytesOf ((⟨#[45]⟩ : ByteArray) ++ x5_1)).length c103] rfl (by (try simp only [List.map_toArray, List.map_cons, List.map_nil]); first | done | rfl | (simp only [List.length_drop, List.length_take]; rfl)) ?_; (with_reducible refine (lex_Tokens.calls _ _ (bytesOf ((⟨#[45]⟩ : ByteArray) ++ x5_1)) t104 t105 t106 _ ?side1 ?side2 A14.out).mono ?_); (case side1 => exact HR103.out); (case side2 => exact HC103.out); rintro e w35 ⟨v107, rfl, ho0, hb⟩; refine ⟨_, rfl, ?_⟩; have n0_ := Aside0.mk (Kd.R_lower ho0 (below_size (by repeat (first | (with_reducible first | exact HB.out | apply below_alloc | apply pw_below_drewN | apply below_drew1) | exact HB.out)))); have n1_ := Aside0.mk (below_step (by repeat (first | (with_reducible first | exact HB.out | apply below_alloc | apply pw_below_drewN | apply below_drew1) | exact HB.out)) hb); clear HB; have HO108 := n0_; have HB := n1_; clear n0_ n1_; (try clear hb); (try clear hb2); (try clear hk); (try clear hi); (try clear ho0); obtain ⟨Ao36, co36, eo36⟩ := Kd.R_slice HO108.out; subst eo36; have p109 : 0 ≤ (0 : Int) := (by omega); have q109 : 0 < (t104.length : Int) := of_decide_eq_true (by first | (with_reducible assumption) | assumption); obtain ⟨ad109, e109, hx109_0, hx109_1, hx109_2, hx109_3⟩ := at_T33 (Kd.R_reads' HO108.out).2.2 0 p109 q109; cases e109; have qi109 : (0 < t104.length) = True := eq_true (by omega); (try rw [show ((0 : Int)).toNat = 0 from rfl] at hx109_0); (try rw [show 0 * 4 = 0 from rfl] at hx109_0); (try rw [Addr.add_zero'] at hx109_0); (try rw [show ((0 : Int)).toNat = 0 from rfl] at hx109_1); (try rw [show 0 * 4 = 0 from rfl] at hx109_1); (try rw [Addr.add_zero'] at hx109_1); (try rw [show ((0 : Int)).toNat = 0 from rfl] at hx109_2); (try rw [show 0 * 4 = 0 from rfl] at hx109_2); (try rw [Addr.add_zero'] at hx109_2); (try rw [show ((0 : Int)).toNat = 0 from rfl] at hx109_3); (try rw [show 0 * 4 = 0 from rfl] at hx109_3); (try rw [Addr.add_zero'] at hx109_3); replace p109 := eq_true p109; replace q109 := eq_true q109; have p110 : 0 ≤ (0 : Int) := (by omega); have q110 : 0 < (t104.length : Int) := of_decide_eq_true (by first | (with_reducible assumption) | assumption); obtain ⟨ad110, e110, hx110_0, hx110_1, hx110_2, hx110_3⟩ := at_T33 (Kd.R_reads' HO108.out).2.2 0 p110 q110; obtain rfl : ad109 = ad110 := (by injection e110); have qi110 : (0 < t104.length) = True := eq_true (by omega); (try rw [show ((0 : Int)).toNat = 0 from rfl] at hx110_0); (try rw [show 0 * 4 = 0 from rfl] at hx110_0); (try rw [Addr.add_zero'] at hx110_0); (try rw [show ((0 : Int)).toNat = 0 from rfl] at hx110_1); (try rw [show 0 * 4 = 0 from rfl] at hx110_1); (try rw [Addr.add_zero'] at hx110_1); (try rw [show ((0 : Int)).toNat = 0 from rfl] at hx110_2); (try rw [show 0 * 4 = 0 from rfl] at hx110_2); (try rw [Addr.add_zero'] at hx110_2); (try rw [show ((0 : Int)).toNat = 0 from rfl] at hx110_3); (try rw [show 0 * 4 = 0 from rfl] at hx110_3); (try rw [Addr.add_zero'] at hx110_3); replace p110 := eq_true p110; replace q110 := eq_true q110))
                              go_ret
                              exact ⟨by first | rfl | (simp [errW_none, errW_some] <;> rfl) | (simp only [← hji5]; first | rfl | (simp [errW_none, errW_some] <;> rfl)) | (simp [*, errW_none, errW_some] <;> rfl), by repeat (first | (with_reducible first | exact HB.out | apply below_alloc | apply pw_below_drewN | apply below_drew1) | exact HB.out)⟩
                          · rw [if_neg c29] at H
                            have c29b0 : (((rd_T33 t104 0).f3) == (Int.tmod a0 1000000000000000000)) = false := beq_eq_false_iff_ne.mpr c29
                            have c29b1 : (((rd_T33 t104 0).f3) != (Int.tmod a0 1000000000000000000)) = true := bne_iff_ne.mpr c29
                            obtain rfl := Option.some.inj H
                            go_wp2_with (first | ((with_reducible refine gate_dst (N := 36) rfl ?_); (try (refine gate_guard (by rfl) ?_; dsimp only)); refine Kd.conv_bytes rfl (N := 36) rfl _ 9 22 5 rfl Tryd.underlying9 Tryd.underlying22 Tryd.underlying5 ((⟨#[45]⟩ : ByteArray) ++ x5_1) rfl (by have := LMc13.out; omega) ?_; intro A103 c103 w37 hrd hcp hb; have n0_ := Aside0.mk (below_step (by repeat (first | (with_reducible first | exact HB.out | apply below_alloc | apply pw_below_drewN | apply below_drew1) | exact HB.out)) hb); have n1_ := Aside0.mk (hrd); have n2_ := Aside0.mk (hcp); clear HB; have HB := n0_; have HR103 := n1_; have HC103 := n2_; clear n0_ n1_ n2_; clear hb hrd hcp) | ((with_reducible refine gate_callee (f := 10) rfl ?_); refine goesL_ (some 37) rfl rfl Tryd.func10 (by kernel_rfl) rfl #[.slice A103 (bytesOf ((⟨#[45]⟩ : ByteArray) ++ x5_1)).length c103] rfl (by (try simp only [List.map_toArray, List.map_cons, List.map_nil]); first | done | rfl | (simp only [List.length_drop, List.length_take]; rfl)) ?_; (with_reducible refine (lex_Tokens.calls _ _ (bytesOf ((⟨#[45]⟩ : ByteArray) ++ x5_1)) t104 t105 t106 _ ?side1 ?side2 A14.out).mono ?_); (case side1 => exact HR103.out); (case side2 => exact HC103.out); rintro e w38 ⟨v107, rfl, ho0, hb⟩; refine ⟨_, rfl, ?_⟩; have n0_ := Aside0.mk (Kd.R_lower ho0 (below_size (by repeat (first | (with_reducible first | exact HB.out | apply below_alloc | apply pw_below_drewN | apply below_drew1) | exact HB.out)))); have n1_ := Aside0.mk (below_step (by repeat (first | (with_reducible first | exact HB.out | apply below_alloc | apply pw_below_drewN | apply below_drew1) | exact HB.out)) hb); clear HB; have HO108 := n0_; have HB := n1_; clear n0_ n1_; (try clear hb); (try clear hb2); (try clear hk); (try clear hi); (try clear ho0); obtain ⟨Ao39, co39, eo39⟩ := Kd.R_slice HO108.out; subst eo39; have p109 : 0 ≤ (0 : Int) := (by omega); have q109 : 0 < (t104.length : Int) := of_decide_eq_true (by first | (with_reducible assumption) | assumption); obtain ⟨ad109, e109, hx109_0, hx109_1, hx109_2, hx109_3⟩ := at_T33 (Kd.R_reads' HO108.out).2.2 0 p109 q109; cases e109; have qi109 : (0 < t104.length) = True := eq_true (by omega); (try rw [show ((0 : Int)).toNat = 0 from rfl] at hx109_0); (try rw [show 0 * 4 = 0 from rfl] at hx109_0); (try rw [Addr.add_zero'] at hx109_0); (try rw [show ((0 : Int)).toNat = 0 from rfl] at hx109_1); (try rw [show 0 * 4 = 0 from rfl] at hx109_1); (try rw [Addr.add_zero'] at hx109_1); (try rw [show ((0 : Int)).toNat = 0 from rfl] at hx109_2); (try rw [show 0 * 4 = 0 from rfl] at hx109_2); (try rw [Addr.add_zero'] at hx109_2); (try rw [show ((0 : Int)).toNat = 0 from rfl] at hx109_3); (try rw [show 0 * 4 = 0 from rfl] at hx109_3); (try rw [Addr.add_zero'] at hx109_3); replace p109 := eq_true p109; replace q109 := eq_true q109))
                            go_ret
                            exact ⟨by first | rfl | (simp [errW_none, errW_some] <;> rfl) | (simp only [← hji5]; first | rfl | (simp [errW_none, errW_some] <;> rfl)) | (simp [*, errW_none, errW_some] <;> rfl), by repeat (first | (with_reducible first | exact HB.out | apply below_alloc | apply pw_below_drewN | apply below_drew1) | exact HB.out)⟩
                        · rw [if_neg c28] at H
                          exact absurd H (by simp)
                      · rw [if_neg c27] at H
                        have c27b0 : ((t104.length : Int) == 1) = false := beq_eq_false_iff_ne.mpr c27
                        have c27b1 : ((t104.length : Int) != 1) = true := bne_iff_ne.mpr c27
                        obtain rfl := Option.some.inj H
                        go_wp2_with (first | ((with_reducible refine gate_dst (N := 36) rfl ?_); (try (refine gate_guard (by rfl) ?_; dsimp only)); refine Kd.conv_bytes rfl (N := 36) rfl _ 9 22 5 rfl Tryd.underlying9 Tryd.underlying22 Tryd.underlying5 ((⟨#[45]⟩ : ByteArray) ++ x5_1) rfl (by have := LMc13.out; omega) ?_; intro A103 c103 w40 hrd hcp hb; have n0_ := Aside0.mk (below_step (by repeat (first | (with_reducible first | exact HB.out | apply below_alloc | apply pw_below_drewN | apply below_drew1) | exact HB.out)) hb); have n1_ := Aside0.mk (hrd); have n2_ := Aside0.mk (hcp); clear HB; have HB := n0_; have HR103 := n1_; have HC103 := n2_; clear n0_ n1_ n2_; clear hb hrd hcp) | ((with_reducible refine gate_callee (f := 10) rfl ?_); refine goesL_ (some 37) rfl rfl Tryd.func10 (by kernel_rfl) rfl #[.slice A103 (bytesOf ((⟨#[45]⟩ : ByteArray) ++ x5_1)).length c103] rfl (by (try simp only [List.map_toArray, List.map_cons, List.map_nil]); first | done | rfl | (simp only [List.length_drop, List.length_take]; rfl)) ?_; (with_reducible refine (lex_Tokens.calls _ _ (bytesOf ((⟨#[45]⟩ : ByteArray) ++ x5_1)) t104 t105 t106 _ ?side1 ?side2 A14.out).mono ?_); (case side1 => exact HR103.out); (case side2 => exact HC103.out); rintro e w41 ⟨v107, rfl, ho0, hb⟩; refine ⟨_, rfl, ?_⟩; have n0_ := Aside0.mk (Kd.R_lower ho0 (below_size (by repeat (first | (with_reducible first | exact HB.out | apply below_alloc | apply pw_below_drewN | apply below_drew1) | exact HB.out)))); have n1_ := Aside0.mk (below_step (by repeat (first | (with_reducible first | exact HB.out | apply below_alloc | apply pw_below_drewN | apply below_drew1) | exact HB.out)) hb); clear HB; have HO108 := n0_; have HB := n1_; clear n0_ n1_; (try clear hb); (try clear hb2); (try clear hk); (try clear hi); (try clear ho0); obtain ⟨Ao42, co42, eo42⟩ := Kd.R_slice HO108.out; subst eo42))
                        go_ret
                        exact ⟨by first | rfl | (simp [errW_none, errW_some] <;> rfl) | (simp only [← hji5]; first | rfl | (simp [errW_none, errW_some] <;> rfl)) | (simp [*, errW_none, errW_some] <;> rfl), by repeat (first | (with_reducible first | exact HB.out | apply below_alloc | apply pw_below_drewN | apply below_drew1) | exact HB.out)⟩
                    · rw [if_neg c26] at H
                      have c26b0 : (t105 == (-1)) = false := beq_eq_false_iff_ne.mpr c26
                      have c26b1 : (t105 != (-1)) = true := bne_iff_ne.mpr c26
                      obtain rfl := Option.some.inj H
                      go_wp2_with (first | ((with_reducible refine gate_dst (N := 36) rfl ?_); (try (refine gate_guard (by rfl) ?_; dsimp only)); refine Kd.conv_bytes rfl (N := 36) rfl _ 9 22 5 rfl Tryd.underlying9 Tryd.underlying22 Tryd.underlying5 ((⟨#[45]⟩ : ByteArray) ++ x5_1) rfl (by have := LMc13.out; omega) ?_; intro A103 c103 w43 hrd hcp hb; have n0_ := Aside0.mk (below_step (by repeat (first | (with_reducible first | exact HB.out | apply below_alloc | apply pw_below_drewN | apply below_drew1) | exact HB.out)) hb); have n1_ := Aside0.mk (hrd); have n2_ := Aside0.mk (hcp); clear HB; have HB := n0_; have HR103 := n1_; have HC103 := n2_; clear n0_ n1_ n2_; clear hb hrd hcp) | ((with_reducible refine gate_callee (f := 10) rfl ?_); refine goesL_ (some 37) rfl rfl Tryd.func10 (by kernel_rfl) rfl #[.slice A103 (bytesOf ((⟨#[45]⟩ : ByteArray) ++ x5_1)).length c103] rfl (by (try simp only [List.map_toArray, List.map_cons, List.map_nil]); first | done | rfl | (simp only [List.length_drop, List.length_take]; rfl)) ?_; (with_reducible refine (lex_Tokens.calls _ _ (bytesOf ((⟨#[45]⟩ : ByteArray) ++ x5_1)) t104 t105 t106 _ ?side1 ?side2 A14.out).mono ?_); (case side1 => exact HR103.out); (case side2 => exact HC103.out); rintro e w44 ⟨v107, rfl, ho0, hb⟩; refine ⟨_, rfl, ?_⟩; have n0_ := Aside0.mk (Kd.R_lower ho0 (below_size (by repeat (first | (with_reducible first | exact HB.out | apply below_alloc | apply pw_below_drewN | apply below_drew1) | exact HB.out)))); have n1_ := Aside0.mk (below_step (by repeat (first | (with_reducible first | exact HB.out | apply below_alloc | apply pw_below_drewN | apply below_drew1) | exact HB.out)) hb); clear HB; have HO108 := n0_; have HB := n1_; clear n0_ n1_; (try clear hb); (try clear hb2); (try clear hk); (try clear hi); (try clear ho0)))
                      go_ret
                      exact ⟨by first | rfl | (simp [errW_none, errW_some] <;> rfl) | (simp only [← hji5]; first | rfl | (simp [errW_none, errW_some] <;> rfl)) | (simp [*, errW_none, errW_some] <;> rfl), by repeat (first | (with_reducible first | exact HB.out | apply below_alloc | apply pw_below_drewN | apply below_drew1) | exact HB.out)⟩
                  · rw [if_neg c25] at H
                    have c25b0 : (t106 == 0) = false := beq_eq_false_iff_ne.mpr c25
                    have c25b1 : (t106 != 0) = true := bne_iff_ne.mpr c25
                    obtain rfl := Option.some.inj H
                    go_wp2_with (first | ((with_reducible refine gate_dst (N := 36) rfl ?_); (try (refine gate_guard (by rfl) ?_; dsimp only)); refine Kd.conv_bytes rfl (N := 36) rfl _ 9 22 5 rfl Tryd.underlying9 Tryd.underlying22 Tryd.underlying5 ((⟨#[45]⟩ : ByteArray) ++ x5_1) rfl (by have := LMc13.out; omega) ?_; intro A103 c103 w45 hrd hcp hb; have n0_ := Aside0.mk (below_step (by repeat (first | (with_reducible first | exact HB.out | apply below_alloc | apply pw_below_drewN | apply below_drew1) | exact HB.out)) hb); have n1_ := Aside0.mk (hrd); have n2_ := Aside0.mk (hcp); clear HB; have HB := n0_; have HR103 := n1_; have HC103 := n2_; clear n0_ n1_ n2_; clear hb hrd hcp) | ((with_reducible refine gate_callee (f := 10) rfl ?_); refine goesL_ (some 37) rfl rfl Tryd.func10 (by kernel_rfl) rfl #[.slice A103 (bytesOf ((⟨#[45]⟩ : ByteArray) ++ x5_1)).length c103] rfl (by (try simp only [List.map_toArray, List.map_cons, List.map_nil]); first | done | rfl | (simp only [List.length_drop, List.length_take]; rfl)) ?_; (with_reducible refine (lex_Tokens.calls _ _ (bytesOf ((⟨#[45]⟩ : ByteArray) ++ x5_1)) t104 t105 t106 _ ?side1 ?side2 A14.out).mono ?_); (case side1 => exact HR103.out); (case side2 => exact HC103.out); rintro e w46 ⟨v107, rfl, ho0, hb⟩; refine ⟨_, rfl, ?_⟩; have n0_ := Aside0.mk (Kd.R_lower ho0 (below_size (by repeat (first | (with_reducible first | exact HB.out | apply below_alloc | apply pw_below_drewN | apply below_drew1) | exact HB.out)))); have n1_ := Aside0.mk (below_step (by repeat (first | (with_reducible first | exact HB.out | apply below_alloc | apply pw_below_drewN | apply below_drew1) | exact HB.out)) hb); clear HB; have HO108 := n0_; have HB := n1_; clear n0_ n1_; (try clear hb); (try clear hb2); (try clear hk); (try clear hi); (try clear ho0)))
                    go_ret
                    exact ⟨by first | rfl | (simp [errW_none, errW_some] <;> rfl) | (simp only [← hji5]; first | rfl | (simp [errW_none, errW_some] <;> rfl)) | (simp [*, errW_none, errW_some] <;> rfl), by repeat (first | (with_reducible first | exact HB.out | apply below_alloc | apply pw_below_drewN | apply below_drew1) | exact HB.out)⟩
              · rw [if_neg c13] at H
                exact absurd H (by simp)
            · rw [if_neg c12] at H
              exact absurd H (by simp)
          · rw [if_neg c11] at H
            have c11b0 : decide ((Int.tmod a0 1000000000000000000) < 0) = false := decide_eq_false c11
            clear c11
            by_cases c47 : x5_1.size ≤ 140737488355328
            · rw [if_pos c47] at H
              have LMc47 := Aside0.mk c47
              clear c47
              replace H := Option.bind_eq_some_iff.mp H
              obtain ⟨⟨t113, t114, t115⟩, A480, H⟩ := H
              replace H : (if (x5_1.size : Int) > 18 then (if t115 = 2 then (if t114 = 0 then (some ((t113.length : Int) == 0)) else (some false)) else (some false)) else (if t115 = 0 then (if t114 = (-1) then (if (t113.length : Int) = 1 then (if 0 < (t113.length : Int) then (if ((rd_T33 t113 0).f3) = (Int.tmod a0 1000000000000000000) then (if ((rd_T33 t113 0).f0) = 2 then (some (((rd_T33 t113 0).f2).toList == x5_1.toList)) else (some false)) else (some false)) else (none)) else (some false)) else (some false)) else (some false))) = some r := H
              have A48 := Aside0.mk A480
              clear A480
              by_cases c49 : (x5_1.size : Int) > 18
              · rw [if_pos c49] at H
                have c49b0 : decide (18 < (x5_1.size : Int)) = true := decide_eq_true c49
                have c49b1 : decide (18 < x5_1.size) = true := decide_eq_true (by omega)
                clear c49
                by_cases c50 : t115 = 2
                · rw [if_pos c50] at H
                  have c50b0 : (t115 == 2) = true := beq_iff_eq.mpr c50
                  have c50b1 : (t115 != 2) = false := bne_eq_false_iff_eq.mpr c50
                  clear c50
                  by_cases c51 : t114 = 0
                  · rw [if_pos c51] at H
                    have c51b0 : (t114 == 0) = true := beq_iff_eq.mpr c51
                    have c51b1 : (t114 != 0) = false := bne_eq_false_iff_eq.mpr c51
                    clear c51
                    obtain rfl := Option.some.inj H
                    go_wp2_with (first | ((with_reducible refine gate_dst (N := 36) rfl ?_); (try (refine gate_guard (by rfl) ?_; dsimp only)); refine Kd.conv_bytes rfl (N := 36) rfl _ 9 22 5 rfl Tryd.underlying9 Tryd.underlying22 Tryd.underlying5 x5_1 rfl (by have := LMc47.out; omega) ?_; intro A112 c112 w52 hrd hcp hb; have n0_ := Aside0.mk (below_step (by repeat (first | (with_reducible first | exact HB.out | apply below_alloc | apply pw_below_drewN | apply below_drew1) | exact HB.out)) hb); have n1_ := Aside0.mk (hrd); have n2_ := Aside0.mk (hcp); clear HB; have HB := n0_; have HR112 := n1_; have HC112 := n2_; clear n0_ n1_ n2_; clear hb hrd hcp) | ((with_reducible refine gate_callee (f := 10) rfl ?_); refine goesL_ (some 37) rfl rfl Tryd.func10 (by kernel_rfl) rfl #[.slice A112 (bytesOf x5_1).length c112] rfl (by (try simp only [List.map_toArray, List.map_cons, List.map_nil]); first | done | rfl | (simp only [List.length_drop, List.length_take]; rfl)) ?_; (with_reducible refine (lex_Tokens.calls _ _ (bytesOf x5_1) t113 t114 t115 _ ?side1 ?side2 A48.out).mono ?_); (case side1 => exact HR112.out); (case side2 => exact HC112.out); rintro e w53 ⟨v116, rfl, ho0, hb⟩; refine ⟨_, rfl, ?_⟩; have n0_ := Aside0.mk (Kd.R_lower ho0 (below_size (by repeat (first | (with_reducible first | exact HB.out | apply below_alloc | apply pw_below_drewN | apply below_drew1) | exact HB.out)))); have n1_ := Aside0.mk (below_step (by repeat (first | (with_reducible first | exact HB.out | apply below_alloc | apply pw_below_drewN | apply below_drew1) | exact HB.out)) hb); clear HB; have HO117 := n0_; have HB := n1_; clear n0_ n1_; (try clear hb); (try clear hb2); (try clear hk); (try clear hi); (try clear ho0); obtain ⟨Ao54, co54, eo54⟩ := Kd.R_slice HO117.out; subst eo54))
                    go_ret
                    exact ⟨by first | rfl | (simp [errW_none, errW_some] <;> rfl) | (simp only [← hji5]; first | rfl | (simp [errW_none, errW_some] <;> rfl)) | (simp [*, errW_none, errW_some] <;> rfl), by repeat (first | (with_reducible first | exact HB.out | apply below_alloc | apply pw_below_drewN | apply below_drew1) | exact HB.out)⟩
                  · rw [if_neg c51] at H
                    have c51b0 : (t114 == 0) = false := beq_eq_false_iff_ne.mpr c51
                    have c51b1 : (t114 != 0) = true := bne_iff_ne.mpr c51
                    obtain rfl := Option.some.inj H
                    go_wp2_with (first | ((with_reducible refine gate_dst (N := 36) rfl ?_); (try (refine gate_guard (by rfl) ?_; dsimp only)); refine Kd.conv_bytes rfl (N := 36) rfl _ 9 22 5 rfl Tryd.underlying9 Tryd.underlying22 Tryd.underlying5 x5_1 rfl (by have := LMc47.out; omega) ?_; intro A112 c112 w55 hrd hcp hb; have n0_ := Aside0.mk (below_step (by repeat (first | (with_reducible first | exact HB.out | apply below_alloc | apply pw_below_drewN | apply below_drew1) | exact HB.out)) hb); have n1_ := Aside0.mk (hrd); have n2_ := Aside0.mk (hcp); clear HB; have HB := n0_; have HR112 := n1_; have HC112 := n2_; clear n0_ n1_ n2_; clear hb hrd hcp) | ((with_reducible refine gate_callee (f := 10) rfl ?_); refine goesL_ (some 37) rfl rfl Tryd.func10 (by kernel_rfl) rfl #[.slice A112 (bytesOf x5_1).length c112] rfl (by (try simp only [List.map_toArray, List.map_cons, List.map_nil]); first | done | rfl | (simp only [List.length_drop, List.length_take]; rfl)) ?_; (with_reducible refine (lex_Tokens.calls _ _ (bytesOf x5_1) t113 t114 t115 _ ?side1 ?side2 A48.out).mono ?_); (case side1 => exact HR112.out); (case side2 => exact HC112.out); rintro e w56 ⟨v116, rfl, ho0, hb⟩; refine ⟨_, rfl, ?_⟩; have n0_ := Aside0.mk (Kd.R_lower ho0 (below_size (by repeat (first | (with_reducible first | exact HB.out | apply below_alloc | apply pw_below_drewN | apply below_drew1) | exact HB.out)))); have n1_ := Aside0.mk (below_step (by repeat (first | (with_reducible first | exact HB.out | apply below_alloc | apply pw_below_drewN | apply below_drew1) | exact HB.out)) hb); clear HB; have HO117 := n0_; have HB := n1_; clear n0_ n1_; (try clear hb); (try clear hb2); (try clear hk); (try clear hi); (try clear ho0)))
                    go_ret
                    exact ⟨by first | rfl | (simp [errW_none, errW_some] <;> rfl) | (simp only [← hji5]; first | rfl | (simp [errW_none, errW_some] <;> rfl)) | (simp [*, errW_none, errW_some] <;> rfl), by repeat (first | (with_reducible first | exact HB.out | apply below_alloc | apply pw_below_drewN | apply below_drew1) | exact HB.out)⟩
                · rw [if_neg c50] at H
                  have c50b0 : (t115 == 2) = false := beq_eq_false_iff_ne.mpr c50
                  have c50b1 : (t115 != 2) = true := bne_iff_ne.mpr c50
                  obtain rfl := Option.some.inj H
                  go_wp2_with (first | ((with_reducible refine gate_dst (N := 36) rfl ?_); (try (refine gate_guard (by rfl) ?_; dsimp only)); refine Kd.conv_bytes rfl (N := 36) rfl _ 9 22 5 rfl Tryd.underlying9 Tryd.underlying22 Tryd.underlying5 x5_1 rfl (by have := LMc47.out; omega) ?_; intro A112 c112 w57 hrd hcp hb; have n0_ := Aside0.mk (below_step (by repeat (first | (with_reducible first | exact HB.out | apply below_alloc | apply pw_below_drewN | apply below_drew1) | exact HB.out)) hb); have n1_ := Aside0.mk (hrd); have n2_ := Aside0.mk (hcp); clear HB; have HB := n0_; have HR112 := n1_; have HC112 := n2_; clear n0_ n1_ n2_; clear hb hrd hcp) | ((with_reducible refine gate_callee (f := 10) rfl ?_); refine goesL_ (some 37) rfl rfl Tryd.func10 (by kernel_rfl) rfl #[.slice A112 (bytesOf x5_1).length c112] rfl (by (try simp only [List.map_toArray, List.map_cons, List.map_nil]); first | done | rfl | (simp only [List.length_drop, List.length_take]; rfl)) ?_; (with_reducible refine (lex_Tokens.calls _ _ (bytesOf x5_1) t113 t114 t115 _ ?side1 ?side2 A48.out).mono ?_); (case side1 => exact HR112.out); (case side2 => exact HC112.out); rintro e w58 ⟨v116, rfl, ho0, hb⟩; refine ⟨_, rfl, ?_⟩; have n0_ := Aside0.mk (Kd.R_lower ho0 (below_size (by repeat (first | (with_reducible first | exact HB.out | apply below_alloc | apply pw_below_drewN | apply below_drew1) | exact HB.out)))); have n1_ := Aside0.mk (below_step (by repeat (first | (with_reducible first | exact HB.out | apply below_alloc | apply pw_below_drewN | apply below_drew1) | exact HB.out)) hb); clear HB; have HO117 := n0_; have HB := n1_; clear n0_ n1_; (try clear hb); (try clear hb2); (try clear hk); (try clear hi); (try clear ho0)))
                  go_ret
                  exact ⟨by first | rfl | (simp [errW_none, errW_some] <;> rfl) | (simp only [← hji5]; first | rfl | (simp [errW_none, errW_some] <;> rfl)) | (simp [*, errW_none, errW_some] <;> rfl), by repeat (first | (with_reducible first | exact HB.out | apply below_alloc | apply pw_below_drewN | apply below_drew1) | exact HB.out)⟩
              · rw [if_neg c49] at H
                have c49b0 : decide (18 < (x5_1.size : Int)) = false := decide_eq_false c49
                have c49b1 : decide (18 < x5_1.size) = false := decide_eq_false (by omega)
                clear c49
                by_cases c59 : t115 = 0
                · rw [if_pos c59] at H
                  have c59b0 : (t115 == 0) = true := beq_iff_eq.mpr c59
                  have c59b1 : (t115 != 0) = false := bne_eq_false_iff_eq.mpr c59
                  clear c59
                  by_cases c60 : t114 = (-1)
                  · rw [if_pos c60] at H
                    have c60b0 : (t114 == (-1)) = true := beq_iff_eq.mpr c60
                    have c60b1 : (t114 != (-1)) = false := bne_eq_false_iff_eq.mpr c60
                    clear c60
                    by_cases c61 : (t113.length : Int) = 1
                    · rw [if_pos c61] at H
                      have c61b0 : ((t113.length : Int) == 1) = true := beq_iff_eq.mpr c61
                      have c61b1 : ((t113.length : Int) != 1) = false := bne_eq_false_iff_eq.mpr c61
                      clear c61
                      by_cases c62 : 0 < (t113.length : Int)
                      · rw [if_pos c62] at H
                        have c62b0 : decide (0 < (t113.length : Int)) = true := decide_eq_true c62
                        have c62b1 : decide (0 < t113.length) = true := decide_eq_true (by omega)
                        clear c62
                        by_cases c63 : ((rd_T33 t113 0).f3) = (Int.tmod a0 1000000000000000000)
                        · rw [if_pos c63] at H
                          have c63b0 : (((rd_T33 t113 0).f3) == (Int.tmod a0 1000000000000000000)) = true := beq_iff_eq.mpr c63
                          have c63b1 : (((rd_T33 t113 0).f3) != (Int.tmod a0 1000000000000000000)) = false := bne_eq_false_iff_eq.mpr c63
                          clear c63
                          by_cases c64 : ((rd_T33 t113 0).f0) = 2
                          · rw [if_pos c64] at H
                            have c64b0 : (((rd_T33 t113 0).f0) == 2) = true := beq_iff_eq.mpr c64
                            have c64b1 : (((rd_T33 t113 0).f0) != 2) = false := bne_eq_false_iff_eq.mpr c64
                            clear c64
                            obtain rfl := Option.some.inj H
                            go_wp2_with (first | ((with_reducible refine gate_dst (N := 36) rfl ?_); (try (refine gate_guard (by rfl) ?_; dsimp only)); refine Kd.conv_bytes rfl (N := 36) rfl _ 9 22 5 rfl Tryd.underlying9 Tryd.underlying22 Tryd.underlying5 x5_1 rfl (by have := LMc47.out; omega) ?_; intro A112 c112 w65 hrd hcp hb; have n0_ := Aside0.mk (below_step (by repeat (first | (with_reducible first | exact HB.out | apply below_alloc | apply pw_below_drewN | apply below_drew1) | exact HB.out)) hb); have n1_ := Aside0.mk (hrd); have n2_ := Aside0.mk (hcp); clear HB; have HB := n0_; have HR112 := n1_; have HC112 := n2_; clear n0_ n1_ n2_; clear hb hrd hcp) | ((with_reducible refine gate_callee (f := 10) rfl ?_); refine goesL_ (some 37) rfl rfl Tryd.func10 (by kernel_rfl) rfl #[.slice A112 (bytesOf x5_1).length c112] rfl (by (try simp only [List.map_toArray, List.map_cons, List.map_nil]); first | done | rfl | (simp only [List.length_drop, List.length_take]; rfl)) ?_; (with_reducible refine (lex_Tokens.calls _ _ (bytesOf x5_1) t113 t114 t115 _ ?side1 ?side2 A48.out).mono ?_); (case side1 => exact HR112.out); (case side2 => exact HC112.out); rintro e w66 ⟨v116, rfl, ho0, hb⟩; refine ⟨_, rfl, ?_⟩; have n0_ := Aside0.mk (Kd.R_lower ho0 (below_size (by repeat (first | (with_reducible first | exact HB.out | apply below_alloc | apply pw_below_drewN | apply below_drew1) | exact HB.out)))); have n1_ := Aside0.mk (below_step (by repeat (first | (with_reducible first | exact HB.out | apply below_alloc | apply pw_below_drewN | apply below_drew1) | exact HB.out)) hb); clear HB; have HO117 := n0_; have HB := n1_; clear n0_ n1_; (try clear hb); (try clear hb2); (try clear hk); (try clear hi); (try clear ho0); obtain ⟨Ao67, co67, eo67⟩ := Kd.R_slice HO117.out; subst eo67; have p118 : 0 ≤ (0 : Int) := (by omega); have q118 : 0 < (t113.length : Int) := of_decide_eq_true (by first | (with_reducible assumption) | assumption); obtain ⟨ad118, e118, hx118_0, hx118_1, hx118_2, hx118_3⟩ := at_T33 (Kd.R_reads' HO117.out).2.2 0 p118 q118; cases e118; have qi118 : (0 < t113.length) = True := eq_true (by omega); (try rw [show ((0 : Int)).toNat = 0 from rfl] at hx118_0); (try rw [show 0 * 4 = 0 from rfl] at hx118_0); (try rw [Addr.add_zero'] at hx118_0); (try rw [show ((0 : Int)).toNat = 0 from rfl] at hx118_1); (try rw [show 0 * 4 = 0 from rfl] at hx118_1); (try rw [Addr.add_zero'] at hx118_1); (try rw [show ((0 : Int)).toNat = 0 from rfl] at hx118_2); (try rw [show 0 * 4 = 0 from rfl] at hx118_2); (try rw [Addr.add_zero'] at hx118_2); (try rw [show ((0 : Int)).toNat = 0 from rfl] at hx118_3); (try rw [show 0 * 4 = 0 from rfl] at hx118_3); (try rw [Addr.add_zero'] at hx118_3); replace p118 := eq_true p118; replace q118 := eq_true q118; have p119 : 0 ≤ (0 : Int) := (by omega); have q119 : 0 < (t113.length : Int) := of_decide_eq_true (by first | (with_reducible assumption) | assumption); obtain ⟨ad119, e119, hx119_0, hx119_1, hx119_2, hx119_3⟩ := at_T33 (Kd.R_reads' HO117.out).2.2 0 p119 q119; obtain rfl : ad118 = ad119 := (by injection e119); have qi119 : (0 < t113.length) = True := eq_true (by omega); (try rw [show ((0 : Int)).toNat = 0 from rfl] at hx119_0); (try rw [show 0 * 4 = 0 from rfl] at hx119_0); (try rw [Addr.add_zero'] at hx119_0); (try rw [show ((0 : Int)).toNat = 0 from rfl] at hx119_1); (try rw [show 0 * 4 = 0 from rfl] at hx119_1); (try rw [Addr.add_zero'] at hx119_1); (try rw [show ((0 : Int)).toNat = 0 from rfl] at hx119_2); (try rw [show 0 * 4 = 0 from rfl] at hx119_2); (try rw [Addr.add_zero'] at hx119_2); (try rw [show ((0 : Int)).toNat = 0 from rfl] at hx119_3); (try rw [show 0 * 4 = 0 from rfl] at hx119_3); (try rw [Addr.add_zero'] at hx119_3); replace p119 := eq_true p119; replace q119 := eq_true q119; have p120 : 0 ≤ (0 : Int) := (by omega); have q120 : 0 < (t113.length : Int) := of_decide_eq_true (by first | (with_reducible assumption) | assumption); obtain ⟨ad120, e120, hx120_0, hx120_1, hx120_2, hx120_3⟩ := at_T33 (Kd.R_reads' HO117.out).2.2 0 p120 q120; obtain rfl : ad118 = ad120 := (by injection e120); have qi120 : (0 < t113.length) = True := eq_true (by omega); (try rw [show ((0 : Int)).toNat = 0 from rfl] at hx120_0); (try rw [show 0 * 4 = 0 from rfl] at hx120_0); (try rw [Addr.add_zero'] at hx120_0); (try rw [show ((0 : Int)).toNat = 0 from rfl] at hx120_1); (try rw [show 0 * 4 = 0 from rfl] at hx120_1); (try rw [Addr.add_zero'] at hx120_1); (try rw [show ((0 : Int)).toNat = 0 from rfl] at hx120_2); (try rw [show 0 * 4 = 0 from rfl] at hx120_2); (try rw [Addr.add_zero'] at hx120_2); (try rw [show ((0 : Int)).toNat = 0 from rfl] at hx120_3); (try rw [show 0 * 4 = 0 from rfl] at hx120_3); (try rw [Addr.add_zero'] at hx120_3); replace p120 := eq_true p120; replace q120 := eq_true q120))
                            go_ret
                            exact ⟨by first | rfl | (simp [errW_none, errW_some] <;> rfl) | (simp only [← hji5]; first | rfl | (simp [errW_none, errW_some] <;> rfl)) | (simp [*, errW_none, errW_some] <;> rfl), by repeat (first | (with_reducible first | exact HB.out | apply below_alloc | apply pw_below_drewN | apply below_drew1) | exact HB.out)⟩
                          · rw [if_neg c64] at H
                            have c64b0 : (((rd_T33 t113 0).f0) == 2) = false := beq_eq_false_iff_ne.mpr c64
                            have c64b1 : (((rd_T33 t113 0).f0) != 2) = true := bne_iff_ne.mpr c64
                            obtain rfl := Option.some.inj H
                            go_wp2_with (first | ((with_reducible refine gate_dst (N := 36) rfl ?_); (try (refine gate_guard (by rfl) ?_; dsimp only)); refine Kd.conv_bytes rfl (N := 36) rfl _ 9 22 5 rfl Tryd.underlying9 Tryd.underlying22 Tryd.underlying5 x5_1 rfl (by have := LMc47.out; omega) ?_; intro A112 c112 w68 hrd hcp hb; have n0_ := Aside0.mk (below_step (by repeat (first | (with_reducible first | exact HB.out | apply below_alloc | apply pw_below_drewN | apply below_drew1) | exact HB.out)) hb); have n1_ := Aside0.mk (hrd); have n2_ := Aside0.mk (hcp); clear HB; have HB := n0_; have HR112 := n1_; have HC112 := n2_; clear n0_ n1_ n2_; clear hb hrd hcp) | ((with_reducible refine gate_callee (f := 10) rfl ?_); refine goesL_ (some 37) rfl rfl Tryd.func10 (by kernel_rfl) rfl #[.slice A112 (bytesOf x5_1).length c112] rfl (by (try simp only [List.map_toArray, List.map_cons, List.map_nil]); first | done | rfl | (simp only [List.length_drop, List.length_take]; rfl)) ?_; (with_reducible refine (lex_Tokens.calls _ _ (bytesOf x5_1) t113 t114 t115 _ ?side1 ?side2 A48.out).mono ?_); (case side1 => exact HR112.out); (case side2 => exact HC112.out); rintro e w69 ⟨v116, rfl, ho0, hb⟩; refine ⟨_, rfl, ?_⟩; have n0_ := Aside0.mk (Kd.R_lower ho0 (below_size (by repeat (first | (with_reducible first | exact HB.out | apply below_alloc | apply pw_below_drewN | apply below_drew1) | exact HB.out)))); have n1_ := Aside0.mk (below_step (by repeat (first | (with_reducible first | exact HB.out | apply below_alloc | apply pw_below_drewN | apply below_drew1) | exact HB.out)) hb); clear HB; have HO117 := n0_; have HB := n1_; clear n0_ n1_; (try clear hb); (try clear hb2); (try clear hk); (try clear hi); (try clear ho0); obtain ⟨Ao70, co70, eo70⟩ := Kd.R_slice HO117.out; subst eo70; have p118 : 0 ≤ (0 : Int) := (by omega); have q118 : 0 < (t113.length : Int) := of_decide_eq_true (by first | (with_reducible assumption) | assumption); obtain ⟨ad118, e118, hx118_0, hx118_1, hx118_2, hx118_3⟩ := at_T33 (Kd.R_reads' HO117.out).2.2 0 p118 q118; cases e118; have qi118 : (0 < t113.length) = True := eq_true (by omega); (try rw [show ((0 : Int)).toNat = 0 from rfl] at hx118_0); (try rw [show 0 * 4 = 0 from rfl] at hx118_0); (try rw [Addr.add_zero'] at hx118_0); (try rw [show ((0 : Int)).toNat = 0 from rfl] at hx118_1); (try rw [show 0 * 4 = 0 from rfl] at hx118_1); (try rw [Addr.add_zero'] at hx118_1); (try rw [show ((0 : Int)).toNat = 0 from rfl] at hx118_2); (try rw [show 0 * 4 = 0 from rfl] at hx118_2); (try rw [Addr.add_zero'] at hx118_2); (try rw [show ((0 : Int)).toNat = 0 from rfl] at hx118_3); (try rw [show 0 * 4 = 0 from rfl] at hx118_3); (try rw [Addr.add_zero'] at hx118_3); replace p118 := eq_true p118; replace q118 := eq_true q118; have p119 : 0 ≤ (0 : Int) := (by omega); have q119 : 0 < (t113.length : Int) := of_decide_eq_true (by first | (with_reducible assumption) | assumption); obtain ⟨ad119, e119, hx119_0, hx119_1, hx119_2, hx119_3⟩ := at_T33 (Kd.R_reads' HO117.out).2.2 0 p119 q119; obtain rfl : ad118 = ad119 := (by injection e119); have qi119 : (0 < t113.length) = True := eq_true (by omega); (try rw [show ((0 : Int)).toNat = 0 from rfl] at hx119_0); (try rw [show 0 * 4 = 0 from rfl] at hx119_0); (try rw [Addr.add_zero'] at hx119_0); (try rw [show ((0 : Int)).toNat = 0 from rfl] at hx119_1); (try rw [show 0 * 4 = 0 from rfl] at hx119_1); (try rw [Addr.add_zero'] at hx119_1); (try rw [show ((0 : Int)).toNat = 0 from rfl] at hx119_2); (try rw [show 0 * 4 = 0 from rfl] at hx119_2); (try rw [Addr.add_zero'] at hx119_2); (try rw [show ((0 : Int)).toNat = 0 from rfl] at hx119_3); (try rw [show 0 * 4 = 0 from rfl] at hx119_3); (try rw [Addr.add_zero'] at hx119_3); replace p119 := eq_true p119; replace q119 := eq_true q119))
                            go_ret
                            exact ⟨by first | rfl | (simp [errW_none, errW_some] <;> rfl) | (simp only [← hji5]; first | rfl | (simp [errW_none, errW_some] <;> rfl)) | (simp [*, errW_none, errW_some] <;> rfl), by repeat (first | (with_reducible first | exact HB.out | apply below_alloc | apply pw_below_drewN | apply below_drew1) | exact HB.out)⟩
                        · rw [if_neg c63] at H
                          have c63b0 : (((rd_T33 t113 0).f3) == (Int.tmod a0 1000000000000000000)) = false := beq_eq_false_iff_ne.mpr c63
                          have c63b1 : (((rd_T33 t113 0).f3) != (Int.tmod a0 1000000000000000000)) = true := bne_iff_ne.mpr c63
                          obtain rfl := Option.some.inj H
                          go_wp2_with (first | ((with_reducible refine gate_dst (N := 36) rfl ?_); (try (refine gate_guard (by rfl) ?_; dsimp only)); refine Kd.conv_bytes rfl (N := 36) rfl _ 9 22 5 rfl Tryd.underlying9 Tryd.underlying22 Tryd.underlying5 x5_1 rfl (by have := LMc47.out; omega) ?_; intro A112 c112 w71 hrd hcp hb; have n0_ := Aside0.mk (below_step (by repeat (first | (with_reducible first | exact HB.out | apply below_alloc | apply pw_below_drewN | apply below_drew1) | exact HB.out)) hb); have n1_ := Aside0.mk (hrd); have n2_ := Aside0.mk (hcp); clear HB; have HB := n0_; have HR112 := n1_; have HC112 := n2_; clear n0_ n1_ n2_; clear hb hrd hcp) | ((with_reducible refine gate_callee (f := 10) rfl ?_); refine goesL_ (some 37) rfl rfl Tryd.func10 (by kernel_rfl) rfl #[.slice A112 (bytesOf x5_1).length c112] rfl (by (try simp only [List.map_toArray, List.map_cons, List.map_nil]); first | done | rfl | (simp only [List.length_drop, List.length_take]; rfl)) ?_; (with_reducible refine (lex_Tokens.calls _ _ (bytesOf x5_1) t113 t114 t115 _ ?side1 ?side2 A48.out).mono ?_); (case side1 => exact HR112.out); (case side2 => exact HC112.out); rintro e w72 ⟨v116, rfl, ho0, hb⟩; refine ⟨_, rfl, ?_⟩; have n0_ := Aside0.mk (Kd.R_lower ho0 (below_size (by repeat (first | (with_reducible first | exact HB.out | apply below_alloc | apply pw_below_drewN | apply below_drew1) | exact HB.out)))); have n1_ := Aside0.mk (below_step (by repeat (first | (with_reducible first | exact HB.out | apply below_alloc | apply pw_below_drewN | apply below_drew1) | exact HB.out)) hb); clear HB; have HO117 := n0_; have HB := n1_; clear n0_ n1_; (try clear hb); (try clear hb2); (try clear hk); (try clear hi); (try clear ho0); obtain ⟨Ao73, co73, eo73⟩ := Kd.R_slice HO117.out; subst eo73; have p118 : 0 ≤ (0 : Int) := (by omega); have q118 : 0 < (t113.length : Int) := of_decide_eq_true (by first | (with_reducible assumption) | assumption); obtain ⟨ad118, e118, hx118_0, hx118_1, hx118_2, hx118_3⟩ := at_T33 (Kd.R_reads' HO117.out).2.2 0 p118 q118; cases e118; have qi118 : (0 < t113.length) = True := eq_true (by omega); (try rw [show ((0 : Int)).toNat = 0 from rfl] at hx118_0); (try rw [show 0 * 4 = 0 from rfl] at hx118_0); (try rw [Addr.add_zero'] at hx118_0); (try rw [show ((0 : Int)).toNat = 0 from rfl] at hx118_1); (try rw [show 0 * 4 = 0 from rfl] at hx118_1); (try rw [Addr.add_zero'] at hx118_1); (try rw [show ((0 : Int)).toNat = 0 from rfl] at hx118_2); (try rw [show 0 * 4 = 0 from rfl] at hx118_2); (try rw [Addr.add_zero'] at hx118_2); (try rw [show ((0 : Int)).toNat = 0 from rfl] at hx118_3); (try rw [show 0 * 4 = 0 from rfl] at hx118_3); (try rw [Addr.add_zero'] at hx118_3); replace p118 := eq_true p118; replace q118 := eq_true q118))
                          go_ret
                          exact ⟨by first | rfl | (simp [errW_none, errW_some] <;> rfl) | (simp only [← hji5]; first | rfl | (simp [errW_none, errW_some] <;> rfl)) | (simp [*, errW_none, errW_some] <;> rfl), by repeat (first | (with_reducible first | exact HB.out | apply below_alloc | apply pw_below_drewN | apply below_drew1) | exact HB.out)⟩
                      · rw [if_neg c62] at H
                        exact absurd H (by simp)
                    · rw [if_neg c61] at H
                      have c61b0 : ((t113.length : Int) == 1) = false := beq_eq_false_iff_ne.mpr c61
                      have c61b1 : ((t113.length : Int) != 1) = true := bne_iff_ne.mpr c61
                      obtain rfl := Option.some.inj H
                      go_wp2_with (first | ((with_reducible refine gate_dst (N := 36) rfl ?_); (try (refine gate_guard (by rfl) ?_; dsimp only)); refine Kd.conv_bytes rfl (N := 36) rfl _ 9 22 5 rfl Tryd.underlying9 Tryd.underlying22 Tryd.underlying5 x5_1 rfl (by have := LMc47.out; omega) ?_; intro A112 c112 w74 hrd hcp hb; have n0_ := Aside0.mk (below_step (by repeat (first | (with_reducible first | exact HB.out | apply below_alloc | apply pw_below_drewN | apply below_drew1) | exact HB.out)) hb); have n1_ := Aside0.mk (hrd); have n2_ := Aside0.mk (hcp); clear HB; have HB := n0_; have HR112 := n1_; have HC112 := n2_; clear n0_ n1_ n2_; clear hb hrd hcp) | ((with_reducible refine gate_callee (f := 10) rfl ?_); refine goesL_ (some 37) rfl rfl Tryd.func10 (by kernel_rfl) rfl #[.slice A112 (bytesOf x5_1).length c112] rfl (by (try simp only [List.map_toArray, List.map_cons, List.map_nil]); first | done | rfl | (simp only [List.length_drop, List.length_take]; rfl)) ?_; (with_reducible refine (lex_Tokens.calls _ _ (bytesOf x5_1) t113 t114 t115 _ ?side1 ?side2 A48.out).mono ?_); (case side1 => exact HR112.out); (case side2 => exact HC112.out); rintro e w75 ⟨v116, rfl, ho0, hb⟩; refine ⟨_, rfl, ?_⟩; have n0_ := Aside0.mk (Kd.R_lower ho0 (below_size (by repeat (first | (with_reducible first | exact HB.out | apply below_alloc | apply pw_below_drewN | apply below_drew1) | exact HB.out)))); have n1_ := Aside0.mk (below_step (by repeat (first | (with_reducible first | exact HB.out | apply below_alloc | apply pw_below_drewN | apply below_drew1) | exact HB.out)) hb); clear HB; have HO117 := n0_; have HB := n1_; clear n0_ n1_; (try clear hb); (try clear hb2); (try clear hk); (try clear hi); (try clear ho0); obtain ⟨Ao76, co76, eo76⟩ := Kd.R_slice HO117.out; subst eo76))
                      go_ret
                      exact ⟨by first | rfl | (simp [errW_none, errW_some] <;> rfl) | (simp only [← hji5]; first | rfl | (simp [errW_none, errW_some] <;> rfl)) | (simp [*, errW_none, errW_some] <;> rfl), by repeat (first | (with_reducible first | exact HB.out | apply below_alloc | apply pw_below_drewN | apply below_drew1) | exact HB.out)⟩
                  · rw [if_neg c60] at H
                    have c60b0 : (t114 == (-1)) = false := beq_eq_false_iff_ne.mpr c60
                    have c60b1 : (t114 != (-1)) = true := bne_iff_ne.mpr c60
                    obtain rfl := Option.some.inj H
                    go_wp2_with (first | ((with_reducible refine gate_dst (N := 36) rfl ?_); (try (refine gate_guard (by rfl) ?_; dsimp only)); refine Kd.conv_bytes rfl (N := 36) rfl _ 9 22 5 rfl Tryd.underlying9 Tryd.underlying22 Tryd.underlying5 x5_1 rfl (by have := LMc47.out; omega) ?_; intro A112 c112 w77 hrd hcp hb; have n0_ := Aside0.mk (below_step (by repeat (first | (with_reducible first | exact HB.out | apply below_alloc | apply pw_below_drewN | apply below_drew1) | exact HB.out)) hb); have n1_ := Aside0.mk (hrd); have n2_ := Aside0.mk (hcp); clear HB; have HB := n0_; have HR112 := n1_; have HC112 := n2_; clear n0_ n1_ n2_; clear hb hrd hcp) | ((with_reducible refine gate_callee (f := 10) rfl ?_); refine goesL_ (some 37) rfl rfl Tryd.func10 (by kernel_rfl) rfl #[.slice A112 (bytesOf x5_1).length c112] rfl (by (try simp only [List.map_toArray, List.map_cons, List.map_nil]); first | done | rfl | (simp only [List.length_drop, List.length_take]; rfl)) ?_; (with_reducible refine (lex_Tokens.calls _ _ (bytesOf x5_1) t113 t114 t115 _ ?side1 ?side2 A48.out).mono ?_); (case side1 => exact HR112.out); (case side2 => exact HC112.out); rintro e w78 ⟨v116, rfl, ho0, hb⟩; refine ⟨_, rfl, ?_⟩; have n0_ := Aside0.mk (Kd.R_lower ho0 (below_size (by repeat (first | (with_reducible first | exact HB.out | apply below_alloc | apply pw_below_drewN | apply below_drew1) | exact HB.out)))); have n1_ := Aside0.mk (below_step (by repeat (first | (with_reducible first | exact HB.out | apply below_alloc | apply pw_below_drewN | apply below_drew1) | exact HB.out)) hb); clear HB; have HO117 := n0_; have HB := n1_; clear n0_ n1_; (try clear hb); (try clear hb2); (try clear hk); (try clear hi); (try clear ho0)))
                    go_ret
                    exact ⟨by first | rfl | (simp [errW_none, errW_some] <;> rfl) | (simp only [← hji5]; first | rfl | (simp [errW_none, errW_some] <;> rfl)) | (simp [*, errW_none, errW_some] <;> rfl), by repeat (first | (with_reducible first | exact HB.out | apply below_alloc | apply pw_below_drewN | apply below_drew1) | exact HB.out)⟩
                · rw [if_neg c59] at H
                  have c59b0 : (t115 == 0) = false := beq_eq_false_iff_ne.mpr c59
                  have c59b1 : (t115 != 0) = true := bne_iff_ne.mpr c59
                  obtain rfl := Option.some.inj H
                  go_wp2_with (first | ((with_reducible refine gate_dst (N := 36) rfl ?_); (try (refine gate_guard (by rfl) ?_; dsimp only)); refine Kd.conv_bytes rfl (N := 36) rfl _ 9 22 5 rfl Tryd.underlying9 Tryd.underlying22 Tryd.underlying5 x5_1 rfl (by have := LMc47.out; omega) ?_; intro A112 c112 w79 hrd hcp hb; have n0_ := Aside0.mk (below_step (by repeat (first | (with_reducible first | exact HB.out | apply below_alloc | apply pw_below_drewN | apply below_drew1) | exact HB.out)) hb); have n1_ := Aside0.mk (hrd); have n2_ := Aside0.mk (hcp); clear HB; have HB := n0_; have HR112 := n1_; have HC112 := n2_; clear n0_ n1_ n2_; clear hb hrd hcp) | ((with_reducible refine gate_callee (f := 10) rfl ?_); refine goesL_ (some 37) rfl rfl Tryd.func10 (by kernel_rfl) rfl #[.slice A112 (bytesOf x5_1).length c112] rfl (by (try simp only [List.map_toArray, List.map_cons, List.map_nil]); first | done | rfl | (simp only [List.length_drop, List.length_take]; rfl)) ?_; (with_reducible refine (lex_Tokens.calls _ _ (bytesOf x5_1) t113 t114 t115 _ ?side1 ?side2 A48.out).mono ?_); (case side1 => exact HR112.out); (case side2 => exact HC112.out); rintro e w80 ⟨v116, rfl, ho0, hb⟩; refine ⟨_, rfl, ?_⟩; have n0_ := Aside0.mk (Kd.R_lower ho0 (below_size (by repeat (first | (with_reducible first | exact HB.out | apply below_alloc | apply pw_below_drewN | apply below_drew1) | exact HB.out)))); have n1_ := Aside0.mk (below_step (by repeat (first | (with_reducible first | exact HB.out | apply below_alloc | apply pw_below_drewN | apply below_drew1) | exact HB.out)) hb); clear HB; have HO117 := n0_; have HB := n1_; clear n0_ n1_; (try clear hb); (try clear hb2); (try clear hk); (try clear hi); (try clear ho0)))
                  go_ret
                  exact ⟨by first | rfl | (simp [errW_none, errW_some] <;> rfl) | (simp only [← hji5]; first | rfl | (simp [errW_none, errW_some] <;> rfl)) | (simp [*, errW_none, errW_some] <;> rfl), by repeat (first | (with_reducible first | exact HB.out | apply below_alloc | apply pw_below_drewN | apply below_drew1) | exact HB.out)⟩
            · rw [if_neg c47] at H
              exact absurd H (by simp)
  · replace c4 := Bool.eq_false_iff.mpr c4
    subst c4
    have H1 : (some false) = some r := by rw [if_neg (show ¬ (false = true) by decide)] at H; exact H
    clear H
    have H := H1
    clear H1
    obtain rfl := Option.some.inj H
    go_enter Tryd.func8, Tryd.ntmps8
    go_wp2_with (first | ((with_reducible refine gate_callee (f := 9) rfl ?_); refine goesL_ (some 10) rfl rfl Tryd.func9 (by kernel_rfl) rfl #[] rfl (by (try simp only [List.map_toArray, List.map_cons, List.map_nil]); first | done | rfl | (simp only [List.length_drop, List.length_take]; rfl)) ?_; (with_reducible refine (reverielaw01_lives.calls  false _ A3.out).mono ?_); rintro e w81 ⟨rfl, hb⟩; refine ⟨_, rfl, ?_⟩; have n0_ := Aside0.mk (below_step (by repeat (first | (with_reducible first | exact HB.out | apply below_alloc | apply pw_below_drewN | apply below_drew1) | exact HB.out)) hb); clear HB; have HB := n0_; clear n0_; (try clear hb); (try clear hb2); (try clear hk); (try clear hi)))
    go_ret
    exact ⟨by first | rfl | (simp [errW_none, errW_some] <;> rfl) | (simp [*, errW_none, errW_some] <;> rfl), by repeat (first | (with_reducible first | exact HB.out | apply below_alloc | apply pw_below_drewN | apply below_drew1) | exact HB.out)⟩

/-- THE ONE PURE STATEMENT of reverielaw01_LexNumbers: yours. -/
def reverielaw01_LexNumbers.Pure : Prop := ∀ (a0 : Int) (a1 : Int), (Lit.int .i64 a0).wf = true → (Lit.int .u8 a1).wf = true → ∃ k, reverielaw01_LexNumbers.f k a0 a1 = some true
theorem reverielaw01_LexNumbers.walk (P : reverielaw01_LexNumbers.Pure) (a0 : Int) (a1 : Int) (w : World) (htab : Lib.TabIs Tryd.prog w "internal/strconv.uint64pow10" .u64 Lib.pow10Tab) (w0 : (Lit.int .i64 a0).wf = true) (w1 : (Lit.int .u8 a1).wf = true) :
    Calls Tryd.prog 8 #[.int .i64 a0, .int .u8 a1] w fun e w' => e = .returned (.bool true) ∧ Below w.heap.size w w' := by
  obtain ⟨k, h⟩ := P a0 a1 w0 w1
  refine (reverielaw01_LexNumbers.calls k a0 a1 true w (Lib.tabBelow_of_tabIs htab) h).mono ?_
  rintro e w' ⟨rfl, hd⟩
  exact ⟨rfl, hd⟩

end Go.Proofs.YtincigcoagcgaaaDoor.Pr
