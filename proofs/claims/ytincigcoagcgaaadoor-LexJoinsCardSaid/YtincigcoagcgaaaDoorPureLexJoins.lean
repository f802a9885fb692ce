/- The law LexJoins on lists. -/
import Derived.Test.YtincigcoagcgaaaDoorRefLex5
import Derived.Test.YtincigcoagcgaaaDoorPr5
namespace Go.Proofs.YtincigcoagcgaaaDoor.Pr
set_option linter.unusedVariables false
set_option linter.unusedSimpArgs false
open Go.RowKit Go.Proofs.YtincigcoagcgaaaDoorW.PrintWords Go.Proofs.YtincigcoagcgaaaDoorW.PrintLast Go.Proofs.YtincigcoagcgaaaDoorW.PrintMore

theorem rdT_get {xs : List S33} {i : Nat} (h : i < xs.length) : rd_T33 xs (i : Int) = xs[i] := by unfold rd_T33; simp [h]

theorem joins_l0 (a : List Int) (x y : List S33) (ha : a.length ≤ 2000) (hx : x.length ≤ 2000) (hy : y.length ≤ 2000) (hf : ∀ t ∈ y, 0 ≤ t.f1 ∧ t.f1 ≤ 2000) (d : Nat) : ∀ (i k : Nat), i ≤ (x ++ y.map (sh (a.length + 1))).length → (x ++ y.map (sh (a.length + 1))).length - i = d → d < k →
    reverielaw01_LexJoins.l0 k a x y (x ++ y.map (sh (a.length + 1))) ((x ++ y.map (sh (a.length + 1))).length : Nat) i = some true := by
  have hl : (x ++ y.map (sh (a.length + 1))).length = x.length + y.length := by rw [List.length_append, List.length_map]
  rw [hl]
  induction d with
  | zero =>
    intro i k hi hd hk
    obtain ⟨k, rfl⟩ : ∃ m, k = m + 1 := ⟨k - 1, by omega⟩
    simp only [reverielaw01_LexJoins.l0]
    rw [if_neg (by omega)]
  | succ d ih =>
    intro i k hi hd hk
    obtain ⟨k, rfl⟩ : ∃ m, k = m + 1 := ⟨k - 1, by omega⟩
    have next := ih (i + 1) k (by omega) (by omega) (by omega)
    simp only [reverielaw01_LexJoins.l0]
    rw [if_pos (by omega), if_pos (by omega), if_pos (by rw [hl]; omega), w64 (x := (i : Int) + 1) (by omega) (by omega), show (i : Int) + 1 = ((i + 1 : Nat) : Int) from by omega]
    by_cases hix : i < x.length
    · have e1 : rd_T33 (x ++ y.map (sh (a.length + 1))) (i : Int) = rd_T33 x (i : Int) := by
        rw [rdT_get (by rw [hl]; omega), rdT_get hix, List.getElem_append_left hix]
      rw [if_pos (by omega), e1, if_neg (by simp)]
      exact next
    · have hj : i - x.length < y.length := by omega
      have ew : wrap64 ((i : Int) - (x.length : Int)) = ((i - x.length : Nat) : Int) := by rw [w64 (by omega) (by omega)]; omega
      have e1 : rd_T33 (x ++ y.map (sh (a.length + 1))) (i : Int) = sh (a.length + 1) y[i - x.length] := by
        rw [rdT_get (by rw [hl]; omega), List.getElem_append_right (by omega), List.getElem_map]
      have hb := hf _ (List.getElem_mem hj)
      rw [if_neg (by omega), ew, if_pos (by omega), if_pos (by omega), e1, rdT_get hj, w64 (x := (a.length : Int) + 1) (by omega) (by omega), w64 (x := y[i - x.length].f1 + ((a.length : Int) + 1)) (by omega) (by omega), if_neg (by simp [sh])]
      exact next
end Go.Proofs.YtincigcoagcgaaaDoor.Pr
namespace Go.Proofs.YtincigcoagcgaaaDoor.Pure
set_option linter.unusedVariables false
set_option linter.unusedSimpArgs false
open Go.RowKit Go.Proofs.YtincigcoagcgaaaDoor.Pr Go.Proofs.YtincigcoagcgaaaDoorW.PrintWords Go.Proofs.YtincigcoagcgaaaDoorW.PrintLast

theorem LexJoins : reverielaw01_LexJoins.Pure := by
  intro a b h1 h2 hwa h3 h4 hwb
  refine ⟨60000, ?_⟩
  have hw : wrap64 ((a.length : Int) + (b.length : Int)) = (a.length : Int) + b.length := by unfold wrap64; omega
  unfold reverielaw01_LexJoins.f reverielaw01_lives.f
  rw [Option.bind_some, if_pos rfl, hw]
  obtain ⟨k, hk⟩ : ∃ k, 60000 = k + 1 := ⟨59999, rfl⟩
  obtain rfl : k = 59999 := by omega
  rw [hk]
  simp only [reverielaw01_LexJoins.j0]
  by_cases hl : (a.length : Int) + b.length > 2000
  · rw [if_pos (decide_eq_true hl)]; rfl
  · rw [if_neg (by simpa using hl), Option.bind_some, if_pos (by show 0 + a.length < _; omega), Option.bind_some, List.nil_append, if_pos (by omega), Option.bind_some, if_pos (by rw [List.length_append]; show a.length + 1 + _ < _; omega)]
    have ea : lex_Tokens.f a = some (lexL a 0 []) := by unfold lex_Tokens.f; rw [if_neg (by omega)]; rfl
    have eb : lex_Tokens.f b = some (lexL b 0 []) := by unfold lex_Tokens.f; rw [if_neg (by omega)]; rfl
    have ez : lex_Tokens.f (a ++ [10] ++ b) = some (lexL (a ++ 10 :: b) 0 []) := by
      rw [List.append_assoc]
      unfold lex_Tokens.f; rw [if_neg (by rw [List.length_append, List.length_append]; show ¬4096 < a.length + (1 + b.length); omega)]; rfl
    obtain ⟨fa, _, la⟩ := lexL_form a.length a (Nat.le_refl _) 0 [] 0 2000 (Int.le_refl _) (by omega) (fun t ht => nomatch ht)
    obtain ⟨fb, pb, lb⟩ := lexL_form b.length b (Nat.le_refl _) 0 [] 0 2000 (Int.le_refl _) (by omega) (fun t ht => nomatch ht)
    have jn := lexL_join a.length a (Nat.le_refl _) 0 [] b
    have sft := lexL_shift ((a.length : Int) + 1) (lexL a 0 []).1 b.length b (Nat.le_refl _) 0 []
    rw [ea, Option.bind_some, eb, Option.bind_some, ez, Option.bind_some, jn]
    rw [show (0 : Int) + ((a.length : Int) + 1) = 0 + (a.length : Int) + 1 from by omega, List.map_nil, List.append_nil] at sft
    rw [sft]
    clear jn sft ea eb ez
    generalize lexL a 0 [] = x at *
    generalize lexL b 0 [] = y at *
    obtain ⟨x1, x2, x3⟩ := x
    obtain ⟨y1, y2, y3⟩ := y
    simp only at fa fb la lb pb ⊢
    rcases fa with ⟨rfl, rfl⟩ | ⟨rfl, rfl, a1, a2⟩
    · rw [if_pos rfl, if_pos rfl]
      rcases fb with ⟨rfl, rfl⟩ | ⟨rfl, rfl, b1, b2⟩
      · rw [if_pos rfl, if_pos rfl]
        simp only
        rw [if_pos trivial, if_pos (by rw [List.length_append, List.length_map, w64 (by simp at la lb; omega) (by simp at la lb; omega)]; omega)]
        simp only [List.length_nil, Nat.zero_add] at la lb
        exact joins_l0 a x1 y1 (by omega) (by omega) (by omega) pb _ 0 59999 (Nat.zero_le _) rfl (by rw [List.length_append, List.length_map]; omega)
      · have n20 : ¬(2 : Int) = 0 := by decide
        simp only [if_neg n20]
        rw [if_pos trivial, w64 (x := (a.length : Int) + 1) (by omega) (by omega), w64 (by omega) (by omega), if_pos (by omega)]
        rfl
    · have n20 : ¬(2 : Int) = 0 := by decide
      simp only [if_neg n20]
      rw [if_pos trivial, if_pos trivial]
      rfl
end Go.Proofs.YtincigcoagcgaaaDoor.Pure
