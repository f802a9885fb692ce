/- A struct's load out of a box of the call's own, by what the block holds. -/
import Derived.Test.YtincigcoagcgaaaDoorPr0
namespace Go.Proofs.YtincigcoagcgaaaDoor.Pr
set_option linter.unusedVariables false
set_option linter.unusedSimpArgs false
open Go.RowKit Go.Proofs.YtincigcoagcgaaaDoorW.PrintWords Go.Proofs.YtincigcoagcgaaaDoorW.PrintLast Go.Proofs.YtincigcoagcgaaaDoorW.PrintMore
section
variable {P : Program} {ops : Array Oper} {rest : List Oper} {o : Oper} {a : Act} {Q : Exit → Act → World → Prop}

theorem blk_set {w : World} {g : Nat} {t : TypeId} {cs : Array Value} {i : Nat} {u : Value} (h : w.heap[g]? = some (.cells cs t (0, 0))) : (w.setCell ⟨g, i, none⟩ u).heap[g]? = some (.cells (cs.setIfInBounds i u) t (0, 0)) := blk_put h i u rfl

theorem load_event {W : World} (hgd : o.guard = none) {p : Tmp} {ty : TypeId} (ho : o.op = .load ty (.tmp p)) (g : Nat) {t : TypeId} {cs : Array Value} {d : TypeDesc} {n : Nat}
    (hp : a.eval (.tmp p) = .pointer (some ⟨g, 0, none⟩)) (hg : W.heap[g]? = some (.cells cs t (0, 0)))
    (hu : P.underlying ty = some d) (hd : (match d with | .struct _ | .array _ _ => true | _ => false) = true) (hi : (P.info? ty).map (·.size) = some n) (hs : cs.size = n)
    (h : wpList P ops Q rest (a.put o.dst (.agg cs)) W) : wpList P ops Q (o :: rest) a W := by
  subst hs
  refine Kd.event_run hgd ?_ h
  have hl : (Instr.loadAt ty (.pointer (some ⟨g, 0, none⟩))).run P W = .ok (.agg cs) W := by
    simp only [Instr.loadAt, Instr.sureAddr, Sem.run_bind, Sem.run_pure, Result.andThen]
    exact run_loadVar_row W g t ty cs (0, 0) d hg hu hd hi
  simp only [execOp, ho, hp, Sem.run_bind, hl, Result.andThen, Sem.run_pure]
theorem cell_event {W : World} (hgd : o.guard = none) {p : Tmp} {ty : TypeId} (ho : o.op = .load ty (.tmp p)) (ad : Addr) {v : Value} {d : TypeDesc}
    (hp : a.eval (.tmp p) = .pointer (some ad)) (hc : W.cell? ad = some v) (hu : P.underlying ty = some d) (hd : (match d with | .struct _ | .array _ _ => false | _ => true) = true)
    (h : wpList P ops Q rest (a.put o.dst v) W) : wpList P ops Q (o :: rest) a W := by
  refine Kd.event_run hgd ?_ h
  have hagg : (isAgg ty).run P W = .ok false W := by
    unfold isAgg
    rw [Sem.run_bind, run_underlying hu W]
    cases d <;> simp_all
  have hl : (Instr.loadAt ty (.pointer (some ad))).run P W = .ok v W := by
    simp only [Instr.loadAt, Instr.sureAddr, Sem.run_bind, Sem.run_pure, Result.andThen]
    simp [loadVar, Sem.run_bind, hagg, hc]
  simp only [execOp, ho, hp, Sem.run_bind, hl, Result.andThen, Sem.run_pure]
theorem cell_store_event {W : World} (hgd : o.guard = none) {p : Tmp} {ty : TypeId} {y : Operand} (ho : o.op = .store ty (.tmp p) y) (hN : o.dst = none) (g i : Nat) {bt : TypeId} {cs : Array Value} {u : Value}
    (hp : a.eval (.tmp p) = .pointer (some ⟨g, i, none⟩)) (hy : a.eval y = u) (hg : W.heap[g]? = some (.cells cs bt (0, 0))) (hi : i < cs.size) (h1 : u.oneCell' = true) (hs : (P.info? ty).map (·.size) = some 1)
    (h : ∀ w', w' = W.setCell ⟨g, i, none⟩ u → wpList P ops Q rest a w') : wpList P ops Q (o :: rest) a W := by
  refine store_event hgd ho hN (w1 := W.setCell ⟨g, i, none⟩ u) ?_ h
  have hcl : u.cells = #[u] := by cases u <;> first | rfl | cases h1
  have hf : W.frozen? ⟨g, i, none⟩ = false := blk_frozen hg i
  have hc : W.cell? ⟨g, i, none⟩ = some (cs[i]) := by rw [blk_cell hg i]; simp [hi]
  have hst : ∀ m, (store ⟨g, i, none⟩ u m).run P W = .ok () (W.setCell ⟨g, i, none⟩ u) := by
    intro m
    rw [run_store P W _ u m h1, hc]
    simp [hf]
  cases hq : P.info? ty with
  | none => simp [hq] at hs
  | some k =>
    have hsz : k.size = 1 := by simpa [hq] using hs
    have hv : (storeVar ty ⟨g, i, none⟩ u).run P W = .ok () (W.setCell ⟨g, i, none⟩ u) := by
      simp only [storeVar, sizeOf, typeInfo, hq, hcl, hsz, storeCells, Sem.run_bind, Sem.run_pure, Result.andThen]
      simp [storeCells, hst, hq, hsz, Addr.add, typeInfo]
    simp only [execOp, ho, hp, hy, Instr.storeAt, Instr.sureAddr, Sem.run_bind, Sem.run_pure, Result.andThen, hv]
end
end Go.Proofs.YtincigcoagcgaaaDoor.Pr
