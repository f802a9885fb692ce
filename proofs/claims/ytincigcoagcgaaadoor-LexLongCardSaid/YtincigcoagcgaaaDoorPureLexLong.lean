/- The law LexLong on lists. -/
import Derived.Test.YtincigcoagcgaaaDoorRefLex6
import Derived.Test.YtincigcoagcgaaaDoorLl1
namespace Go.Proofs.YtincigcoagcgaaaDoor.Pr
set_option linter.unusedVariables false
set_option linter.unusedSimpArgs false
open Go.RowKit Go.Proofs.YtincigcoagcgaaaDoorW.PrintWords Go.Proofs.YtincigcoagcgaaaDoorW.PrintLast Go.Proofs.YtincigcoagcgaaaDoorW.PrintMore

theorem lead_blanks (c : Int) : ∀ m : Nat, lead isNote (List.replicate m 32 ++ [c]) = if c = 10 then m else m + 1 := by
  intro m
  induction m with
  | zero =>
    show (if isNote c = true then 0 + 1 else 0) = _
    unfold isNote
    by_cases h : c = 10
    · rw [if_pos h, if_neg (by simp [h])]
    · rw [if_neg h, if_pos (by simp [h])]
  | succ m ih =>
    rw [List.replicate_succ, List.cons_append, lead, if_pos (by decide), ih]
    split <;> rfl

theorem long_lex (c : Int) (m : Nat) : lexL (59 :: (List.replicate m 32 ++ [c])) 0 [] = ([], -1, 0) := by
  have hl : (59 :: (List.replicate m (32 : Int) ++ [c])).length = m + 2 := by simp
  rw [lexL_step _ _ _ (by omega)]
  have hs : lexStep (59 :: (List.replicate m 32 ++ [c])) = .skip (lead isNote (59 :: (List.replicate m 32 ++ [c]))) := by simp [lexStep, isBlank]
  have hle : lead isNote (59 :: (List.replicate m 32 ++ [c])) = (if c = 10 then m else m + 1) + 1 := by
    rw [lead, if_pos (by decide), lead_blanks]
  rw [hs, hle]
  simp only
  by_cases h : c = 10
  · rw [if_pos h, List.drop_succ_cons]
    have e1 : (List.replicate m (32 : Int) ++ [c]).drop m = [c] := by
      rw [List.drop_append_of_le_length (by simp), List.drop_eq_nil_of_le (by simp), List.nil_append]
    rw [e1, h, lexL_step _ _ _ (by simp)]
    have hs2 : lexStep [10] = .skip 1 := by simp [lexStep, isBlank]
    rw [hs2]
    rfl
  · rw [if_neg h, List.drop_eq_nil_of_le (by omega), lexL_nil]

theorem long_set (k i : Nat) (h : i < k) : (List.replicate i (32 : Int) ++ List.replicate (k - i) 0).set i 32 = List.replicate (i + 1) 32 ++ List.replicate (k - (i + 1)) 0 := by
  apply List.ext_getElem
  · simp; omega
  · intro n h1 h2
    simp only [List.getElem_set, List.getElem_append, List.getElem_replicate, List.length_replicate]
    split
    · subst_vars; rw [dif_pos (by omega)]
    · by_cases h3 : n < i
      · rw [dif_pos h3, dif_pos (by omega)]
      · rw [dif_neg h3, dif_neg (by omega)]

theorem long_ends (k : Nat) (c : Int) : ((List.replicate (k + 2) (32 : Int)).set 0 59).set (k + 1) c = 59 :: (List.replicate k 32 ++ [c]) := by
  rw [List.replicate_succ, List.set_cons_zero, List.set_cons_succ]
  congr 1
  apply List.ext_getElem
  · simp
  · intro n h1 h2
    simp only [List.length_set, List.length_replicate] at h1
    simp only [List.getElem_set, List.getElem_append, List.getElem_replicate, List.length_replicate]
    by_cases h3 : k = n
    · rw [if_pos h3, dif_neg (by omega)]; simp
    · rw [if_neg h3, dif_pos (by omega)]

theorem long_l0 (c : Int) (m : Nat) (hm : m ≤ 5000) (d : Nat) : ∀ (i k : Nat), i ≤ m + 2 → m + 2 - i = d → d < k →
    reverielaw01_LexLong.l0 k c ((m + 2 : Nat) : Int) (List.replicate i 32 ++ List.replicate (m + 2 - i) 0) ((m + 2 : Nat) : Int) i = some true := by
  induction d with
  | zero =>
    intro i k hi hd hk
    obtain ⟨k, rfl⟩ : ∃ j, k = j + 1 := ⟨k - 1, by omega⟩
    obtain rfl : i = m + 2 := by omega
    rw [Nat.sub_self, List.replicate_zero, List.append_nil]
    simp only [reverielaw01_LexLong.l0]
    have hl : (List.replicate (m + 2) (32 : Int)).length = m + 2 := List.length_replicate
    rw [if_neg (by omega), hl, if_pos (by omega), w64 (x := ((m + 2 : Nat) : Int) - 1) (by omega) (by omega), if_pos (by omega), if_pos (by omega), show (((m + 2 : Nat) : Int) - 1).toNat = m + 1 from by omega, show (0 : Int).toNat = 0 from rfl, long_ends]
    have hl2 : (59 :: (List.replicate m (32 : Int) ++ [c])).length = m + 2 := by simp
    unfold lex_Tokens.f
    by_cases hb : 4096 < m + 2
    · rw [if_pos (by omega), Option.bind_some, if_pos (by omega)]
      rfl
    · rw [if_neg (by omega), Option.bind_some, if_neg (by omega)]
      have e := long_lex c m
      unfold lexL at e
      rw [e]
      rfl
  | succ d ih =>
    intro i k hi hd hk
    obtain ⟨k, rfl⟩ : ∃ j, k = j + 1 := ⟨k - 1, by omega⟩
    simp only [reverielaw01_LexLong.l0]
    have hl : (List.replicate i (32 : Int) ++ List.replicate (m + 2 - i) 0).length = m + 2 := by simp; omega
    rw [if_pos (by omega), if_pos (by omega), if_pos (by omega), Int.toNat_natCast, long_set (m + 2) i (by omega), w64 (by omega) (by omega), show (i : Int) + 1 = ((i + 1 : Nat) : Int) from by omega]
    exact ih (i + 1) k (by omega) (by omega) (by omega)
end Go.Proofs.YtincigcoagcgaaaDoor.Pr
namespace Go.Proofs.YtincigcoagcgaaaDoor.Pure
set_option linter.unusedVariables false
set_option linter.unusedSimpArgs false
open Go.RowKit Go.Proofs.YtincigcoagcgaaaDoor.Pr Go.Proofs.YtincigcoagcgaaaDoorW.PrintWords Go.Proofs.YtincigcoagcgaaaDoorW.PrintLast

theorem LexLong : reverielaw01_LexLong.Pure := by
  intro n c h1 h2
  refine ⟨6000, ?_⟩
  unfold reverielaw01_LexLong.f reverielaw01_lives.f
  rw [Option.bind_some, if_pos rfl]
  have hu : 0 ≤ IntKind.u64.wrap n := by
    show 0 ≤ n % _
    exact Int.emod_nonneg _ (by decide)
  have ht : 0 ≤ Int.tmod (IntKind.u64.wrap n) 5 ∧ Int.tmod (IntKind.u64.wrap n) 5 < 5 := by
    rw [Int.tmod_eq_emod_of_nonneg hu]
    omega
  generalize Int.tmod (IntKind.u64.wrap n) 5 = q at ht ⊢
  rw [w64 (x := q) (by omega) (by omega), w64 (by omega) (by omega)]
  obtain ⟨m, hm⟩ : ∃ m : Nat, 4094 + q = ((m + 2 : Nat) : Int) := ⟨(4092 + q).toNat, by omega⟩
  rw [hm, if_pos (by omega), if_pos (by omega), Option.bind_some, Int.toNat_natCast]
  have := long_l0 c m (by omega) (m + 2) 0 6000 (by omega) (by omega) (by omega)
  rw [List.replicate_zero, List.nil_append, Nat.sub_zero] at this
  rw [List.length_replicate]
  exact this
end Go.Proofs.YtincigcoagcgaaaDoor.Pure
