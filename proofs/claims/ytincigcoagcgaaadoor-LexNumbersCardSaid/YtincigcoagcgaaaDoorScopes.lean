/- A scope in which the run jumps to three labels: what holds at each jump, with a number that every pass lowers. -/
import Derived.ScopeJumps
namespace Go
set_option linter.unusedVariables false
/-- As Q; by a goto to label l: J l. -/
def Exit.jumpsYtincigcoagcgaaaDoor (J : Nat → Act → World → Prop) (Q : Exit → Act → World → Prop) : Exit → Act → World → Prop
  | .goto l, a, w => J l a w
  | e, a, w => Q e a w

section
variable {P : Program} {a : Act} {w : World} {Q : Exit → Act → World → Prop}

theorem wp_scope3YtincigcoagcgaaaDoor {c r0 r1 r2 : Code} (h0 : findLabel c 0 = some (Code.skip.seq r0)) (h1 : findLabel c 1 = some (Code.skip.seq r1)) (h2 : findLabel c 2 = some (Code.skip.seq r2)) (J : Nat → Nat → Act → World → Prop) (hJ : ∀ l m a w, J l m a w → l = 0 ∨ l = 1 ∨ l = 2)
    (first : (∀ m a w, J 0 m a w → r0.wp P (Exit.jumpsYtincigcoagcgaaaDoor (fun l a w => ∃ m, J l m a w) Q) a w) → c.wp P (Exit.jumpsYtincigcoagcgaaaDoor (fun l a w => ∃ m, J l m a w) Q) a w)
    (pass0 : ∀ m a w, J 0 m a w → r0.wp P (Exit.jumpsYtincigcoagcgaaaDoor (fun l a' w' => ∃ m', m' < m ∧ J l m' a' w') Q) a w)
    (pass1 : ∀ m a w, J 1 m a w → r1.wp P (Exit.jumpsYtincigcoagcgaaaDoor (fun l a' w' => ∃ m', m' < m ∧ J l m' a' w') Q) a w)
    (pass2 : ∀ m a w, J 2 m a w → r2.wp P (Exit.jumpsYtincigcoagcgaaaDoor (fun l a' w' => ∃ m', m' < m ∧ J l m' a' w') Q) a w) : (Code.scope c).wp P Q a w := by
  intro b k cs
  have hg0 : gotoIn 0 (.inScope c :: k) = some (.code (Code.skip.seq r0) :: .inScope c :: k) := by simp [gotoIn, h0]
  have hg1 : gotoIn 1 (.inScope c :: k) = some (.code (Code.skip.seq r1) :: .inScope c :: k) := by simp [gotoIn, h1]
  have hg2 : gotoIn 2 (.inScope c :: k) = some (.code (Code.skip.seq r2) :: .inScope c :: k) := by simp [gotoIn, h2]
  have key : ∀ m l a w, J l m a w → ∃ r e a' w', gotoIn l (.inScope c :: k) = some (.code r :: .inScope c :: k) ∧ Q e a' w' ∧ Arrives P (lone (b.at a (.code r :: .inScope c :: k)) cs w) b k cs e a' w' := by
    intro m
    induction m using Nat.strongRecOn with
    | _ m ih =>
      intro l a w hJl
      have one : ∀ r, gotoIn l (.inScope c :: k) = some (.code r :: .inScope c :: k) → r.wp P (Exit.jumpsYtincigcoagcgaaaDoor (fun l a' w' => ∃ m', m' < m ∧ J l m' a' w') Q) a w → ∃ r e a' w', gotoIn l (.inScope c :: k) = some (.code r :: .inScope c :: k) ∧ Q e a' w' ∧ Arrives P (lone (b.at a (.code r :: .inScope c :: k)) cs w) b k cs e a' w' := by
        intro r hr hp
        obtain ⟨e, a₁, w₁, hq, harr⟩ := hp b (.inScope c :: k) cs
        refine ⟨r, ?_⟩
        cases e with
        | normal => exact ⟨.normal, a₁, w₁, hr, hq, Steps.trans harr (.one step_inScope)⟩
        | exit id => exact ⟨.exit id, a₁, w₁, hr, hq, fun k' hk => harr k' (by simp [exitTo, hk])⟩
        | goto l' =>
          obtain ⟨m', hlt, hJ'⟩ := hq
          obtain ⟨r', e₂, a₂, w₂, hr', hq₂, harr₂⟩ := ih m' hlt l' a₁ w₁ hJ'
          exact ⟨e₂, a₂, w₂, hr, hq₂, .of_steps (harr _ hr') harr₂⟩
        | ret => exact ⟨_, a₁, w₁, hr, hq, harr⟩
        | panic ch => exact ⟨_, a₁, w₁, hr, hq, harr⟩
        | outgrown => exact ⟨_, a₁, w₁, hr, hq, harr⟩
      rcases hJ l m a w hJl with rfl | rfl | rfl
      · exact one _ hg0 (wp_seq (wp_skip (pass0 m a w hJl)))
      · exact one _ hg1 (wp_seq (wp_skip (pass1 m a w hJl)))
      · exact one _ hg2 (wp_seq (wp_skip (pass2 m a w hJl)))
  have weak : ∀ m a w, J 0 m a w → r0.wp P (Exit.jumpsYtincigcoagcgaaaDoor (fun l a w => ∃ m, J l m a w) Q) a w := by
    intro m a w hj
    refine wp_mono (pass0 m a w hj) ?_
    intro e a w hq
    cases e with
    | goto l => obtain ⟨m', _, h⟩ := hq; exact ⟨m', h⟩
    | _ => exact hq
  obtain ⟨e, a₁, w₁, hq, harr⟩ := first weak b (.inScope c :: k) cs
  cases e with
  | normal => exact ⟨.normal, a₁, w₁, hq, .head step_scope (Steps.trans harr (.one step_inScope))⟩
  | exit id => exact ⟨.exit id, a₁, w₁, hq, fun k' hk => .head step_scope (harr k' (by simp [exitTo, hk]))⟩
  | goto l' =>
    obtain ⟨m', hJ'⟩ := hq
    obtain ⟨r', e₂, a₂, w₂, hr', hq₂, harr₂⟩ := key m' l' a₁ w₁ hJ'
    exact ⟨e₂, a₂, w₂, hq₂, .of_steps (.head step_scope (harr _ hr')) harr₂⟩
  | ret => exact ⟨_, a₁, w₁, hq, .of_steps (.one step_scope) harr⟩
  | panic ch => exact ⟨_, a₁, w₁, hq, .of_steps (.one step_scope) harr⟩
  | outgrown => exact ⟨_, a₁, w₁, hq, .of_steps (.one step_scope) harr⟩

@[go_sem] theorem Exit.jumpsYtincigcoagcgaaaDoor_normal {J : Nat → Act → World → Prop} {a : Act} {w : World} : Exit.jumpsYtincigcoagcgaaaDoor J Q .normal a w = Q .normal a w := rfl
@[go_sem] theorem Exit.jumpsYtincigcoagcgaaaDoor_exit {J : Nat → Act → World → Prop} {a : Act} {w : World} (id : Nat) : Exit.jumpsYtincigcoagcgaaaDoor J Q (.exit id) a w = Q (.exit id) a w := rfl
@[go_sem] theorem Exit.jumpsYtincigcoagcgaaaDoor_ret {J : Nat → Act → World → Prop} {a : Act} {w : World} : Exit.jumpsYtincigcoagcgaaaDoor J Q .ret a w = Q .ret a w := rfl
@[go_sem] theorem Exit.jumpsYtincigcoagcgaaaDoor_panic {J : Nat → Act → World → Prop} {a : Act} {w : World} (ch : List PanicEntry) : Exit.jumpsYtincigcoagcgaaaDoor J Q (.panic ch) a w = Q (.panic ch) a w := rfl
end
end Go
