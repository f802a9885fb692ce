/- The law LexTokens on lists. -/
import Derived.Test.YtincigcoagcgaaaDoorRefLex4
namespace Go.Proofs.YtincigcoagcgaaaDoor.Pure
set_option linter.unusedVariables false
set_option linter.unusedSimpArgs false
open Go.RowKit Go.Proofs.YtincigcoagcgaaaDoor.Pr Go.Proofs.YtincigcoagcgaaaDoorW.PrintWords Go.Proofs.YtincigcoagcgaaaDoorW.PrintLast

theorem LexTokens : reverielaw01_LexTokens.Pure := by
  intro xs h1 h2 hwf
  refine ⟨60000, ?_⟩
  have hx := bytes_wf hwf
  obtain ⟨r, e1, e2, e3, e4⟩ := tokens_f hx 59999 (by decide)
  unfold reverielaw01_LexTokens.f reverielaw01_lives.f
  rw [Option.bind_some, if_pos rfl]
  obtain ⟨k, hk⟩ : ∃ k, 60000 = k + 1 := ⟨59999, rfl⟩
  obtain rfl : k = 59999 := by omega
  rw [hk]
  simp only [reverielaw01_LexTokens.j0]
  by_cases hl : (xs.length : Int) > 6000
  · rw [if_pos (decide_eq_true hl)]; rfl
  · rw [if_neg (by simpa using hl), Option.bind_some, if_pos (by show 0 + xs.length < _; omega), Option.bind_some, List.nil_append, e1, Option.bind_some, e2, Option.bind_some]
    simp only
    rw [same_f r.1 e4 59999 (by decide), Option.bind_some, if_pos rfl, if_pos trivial]
    rcases e3 with ⟨a, b⟩ | ⟨a, b⟩
    · rw [if_pos (by rw [a, b]; rfl), if_pos (by rw [a, b]; rfl)]; simp
    · rw [b, if_pos (by rw [show decide (r.2.1 < 0) = false from decide_eq_false (by omega)]; rfl), if_pos (by rw [decide_eq_true a]; rfl)]; simp
end Go.Proofs.YtincigcoagcgaaaDoor.Pure
