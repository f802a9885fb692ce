/- PlaneRing: for all three points, sums and products are the same in another order; nought and one change nothing; the product spreads over the sum. -/
import Derived.Test.YtfnbpnabhfkibaaRows
import Derived.Test.YtfnbpnabhfkibaaPlaneL3
import Derived.WalkKit
import Derived.ProofKit
import Derived.OpenShut
import Derived.ShutString
import Derived.ChangeOld
import Derived.Below
import Derived.SizedLaws
namespace Go.Proofs.Ytfnbpnabhfkibaa.planeRing
open Go.ChangeShapes Go.WideShapes Go.ChangeAt Go.RowKit
open Go.ChangeMaps (open_string shut_string)
theorem own : ownKnob Try.prog.godebug = none := by kernel_rfl
theorem laidOut : laidOutB Try.prog = true := by kernel_rfl
theorem list6 {α : Type} (l : List α) (h : (⟨l⟩ : Array α).size = 6) : ∃ x0 x1 x2 x3 x4 x5, l = [x0, x1, x2, x3, x4, x5] := by
  match l, h with
  | [x0, x1, x2, x3, x4, x5], _ => exact ⟨x0, x1, x2, x3, x4, x5, rfl⟩
set_option maxHeartbeats 1000000 in
set_option maxRecDepth 100000 in
theorem lifted (os : Os) (started : os.Started) (H : Type) (enc : TypeId × Value → H) :
    ReturnsInHanded {} Try.checked os 3 .any (Rows.planeRingSpec.pre6 enc Try.prog Try.f3 Rows.planeRingRow.domain false) (Rows.planeRingSpec.post enc Try.prog Try.f3 false true false false) := by
  refine returnsInHanded_of_change_sized (C := Try.checked) own started (by kernel_rfl) Try.func3
    (ChangeSpec.witness6 (enc := enc) (C := Try.checked) false ⟨#[], #[.agg #[.int .i64 0, .int .i64 0, .int .i64 0, .int .i64 0, .int .i64 0, .int .i64 0]], []⟩ 8 (by kernel_rfl) (by kernel_rfl) (by kernel_rfl) (by kernel_rfl)) ?_
  intro W base args ds gs before hval0 hW hcnd hsz0 _
  have hsz : (DataW.weightsEach Try.prog (Try.f3.params.toList ++ Rows.planeRingSpec.plain.varTypes Try.prog) (ds ++ gs)).all (· ≤ reachBytes) = true := hsz0
  have hval : ∀ (j : Nat) t v, Try.f3.params[j]? = some t → args[j]? = some v → Value.okWide Try.prog W .any base t v := hval0
  have hW' := hW
  obtain ⟨p, q, hA0, hV, rfl, hfz, hnd⟩ := hW
  have hA : DataW.TrodAll enc Try.prog W 0 (fun _ => true) true Try.f3.params.toList args.toList ds p := hA0
  rw [Try.params3] at hA hval hsz
  obtain ⟨v0, vs0, d0, ds0, p0, q0, hargs, rfl, rfl, h0, r0⟩ := trodAll_cons hA
  obtain ⟨rfl, rfl, rfl⟩ := trodAll_nil r0
  obtain rfl : args = #[v0] := by cases args; simp_all
  obtain ⟨rfl, rfl⟩ := trodVars_none hV
  have k0 := h0
  have lt0 : ∀ x ∈ p0, x.block < W.heap.size := by obtain ⟨m, hm⟩ := k0; exact DataW.trod_lt m _ _ _ hm
  obtain ⟨cs0, rfl, hs0⟩ : ∃ cs, v0 = .agg cs ∧ cs.size = Try.prog.cellsOf 22 := by
    have := hval 0 22 v0 rfl rfl
    simp only [Value.okWide, Try.underlying22] at this
    obtain ⟨cs, h1, h2, _⟩ : ∃ cs, v0 = .agg cs ∧ cs.size = Try.prog.cellsOf 22 ∧ Row.okWide Try.prog W .any base 22 cs := by simpa using this
    exact ⟨cs, h1, h2⟩
  rw [show Try.prog.cellsOf 22 = 6 from by kernel_rfl] at hs0
  obtain ⟨l0⟩ := cs0
  obtain ⟨c0_0, c0_1, c0_2, c0_3, c0_4, c0_5, rfl⟩ := list6 l0 hs0
  obtain ⟨fuel0, hf0⟩ := h0
  obtain ⟨ys0, m0, _, hx0, _, hl0, hg0⟩ := DataW.trod_array Try.underlying22 hf0
  rw [show Try.prog.cellsOf 2 = 1 from by kernel_rfl] at hg0
  obtain ⟨a0_0, w0_0⟩ : ∃ x, c0_0 = .int .i64 x ∧ (Lit.int .i64 x).wf = true := by
    have hy := hg0 0 (by omega)
    rw [List.getElem?_eq_getElem (by omega)] at hy
    obtain ⟨x, e1, _, e2⟩ := DataW.trod_int Try.underlying2 hy
    simp [Value.cells] at e1
    exact ⟨x, e1, e2⟩
  obtain ⟨rfl, w0_0⟩ := w0_0
  obtain ⟨a0_1, w0_1⟩ : ∃ x, c0_1 = .int .i64 x ∧ (Lit.int .i64 x).wf = true := by
    have hy := hg0 1 (by omega)
    rw [List.getElem?_eq_getElem (by omega)] at hy
    obtain ⟨x, e1, _, e2⟩ := DataW.trod_int Try.underlying2 hy
    simp [Value.cells] at e1
    exact ⟨x, e1, e2⟩
  obtain ⟨rfl, w0_1⟩ := w0_1
  obtain ⟨a0_2, w0_2⟩ : ∃ x, c0_2 = .int .i64 x ∧ (Lit.int .i64 x).wf = true := by
    have hy := hg0 2 (by omega)
    rw [List.getElem?_eq_getElem (by omega)] at hy
    obtain ⟨x, e1, _, e2⟩ := DataW.trod_int Try.underlying2 hy
    simp [Value.cells] at e1
    exact ⟨x, e1, e2⟩
  obtain ⟨rfl, w0_2⟩ := w0_2
  obtain ⟨a0_3, w0_3⟩ : ∃ x, c0_3 = .int .i64 x ∧ (Lit.int .i64 x).wf = true := by
    have hy := hg0 3 (by omega)
    rw [List.getElem?_eq_getElem (by omega)] at hy
    obtain ⟨x, e1, _, e2⟩ := DataW.trod_int Try.underlying2 hy
    simp [Value.cells] at e1
    exact ⟨x, e1, e2⟩
  obtain ⟨rfl, w0_3⟩ := w0_3
  obtain ⟨a0_4, w0_4⟩ : ∃ x, c0_4 = .int .i64 x ∧ (Lit.int .i64 x).wf = true := by
    have hy := hg0 4 (by omega)
    rw [List.getElem?_eq_getElem (by omega)] at hy
    obtain ⟨x, e1, _, e2⟩ := DataW.trod_int Try.underlying2 hy
    simp [Value.cells] at e1
    exact ⟨x, e1, e2⟩
  obtain ⟨rfl, w0_4⟩ := w0_4
  obtain ⟨a0_5, w0_5⟩ : ∃ x, c0_5 = .int .i64 x ∧ (Lit.int .i64 x).wf = true := by
    have hy := hg0 5 (by omega)
    rw [List.getElem?_eq_getElem (by omega)] at hy
    obtain ⟨x, e1, _, e2⟩ := DataW.trod_int Try.underlying2 hy
    simp [Value.cells] at e1
    exact ⟨x, e1, e2⟩
  obtain ⟨rfl, w0_5⟩ := w0_5
  clear hA0 hval0 hsz0
  refine Calls.mono (ring_any a0_0 a0_1 a0_2 a0_3 a0_4 a0_5 W) fun e W' ⟨he, bel⟩ => ?_
  subst he
  exact ⟨_, rfl, _, _, _, [], _, [], hW', trodAll_mk1 (shut_bool Try.underlying4 _), (trodAll_cons_mk (Below.trod laidOut (by kernel_rfl) (of_decide_eq_true (by kernel_rfl)) k0 bel lt0) trodAll_mk0), rfl, bel.frame _, fun h => by cases h⟩

theorem over : Rows.planeRingRow.holds Try.pinned (OpenSpec.ofChange Rows.planeRingSpec) :=
  OpenClaim.holds_of_wide 3 Try.f3 rfl rfl rfl rfl rfl rfl rfl ⟨rfl, rfl, rfl, rfl, rfl⟩ rfl rfl rfl rfl rfl (by kernel_rfl) Try.func3 (by kernel_rfl)
    (of_decide_eq_true (by kernel_rfl)) (by unfold Func.isWrapper; first | (rw [if_pos (by decide +kernel)]; kernel_rfl) | (rw [if_neg (by decide +kernel)]; exact ⟨rfl, rfl⟩))
    (fun os started H enc _ => lifted os started H enc)
theorem proved : Rows.PlaneRingSaid := over
#print axioms proved
end Go.Proofs.Ytfnbpnabhfkibaa.planeRing
