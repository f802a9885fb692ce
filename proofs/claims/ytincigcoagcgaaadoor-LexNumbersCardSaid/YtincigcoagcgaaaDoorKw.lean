/- Two more events of a walk: a string appended to a row of bytes that is held beside others; a string turned into bytes. -/
import Derived.Test.YtincigcoagcgaaaDoorWMore
import Derived.Lib.ConvBytes
import Derived.Lib.AppendStr
namespace Go.Proofs.YtincigcoagcgaaaDoorW.PrintWords.Kd
open Go.RowKit Go.Proofs.YtincigcoagcgaaaDoorW.PrintWords Go.Proofs.YtincigcoagcgaaaDoorW.PrintLast Go.Proofs.YtincigcoagcgaaaDoorW.PrintMore
set_option linter.unusedVariables false
set_option linter.unusedSimpArgs false
section
variable {P : Program} {ops : Array Oper} {rest : List Oper} {o : Oper} {a : Act} {Q : Exit → Act → World → Prop}

theorem append_str_run {w0 W : World} (base : Nat) (s x : Operand) (t u e : TypeId)
    (ho : o.op = .call { callee := .builtin .append, args := #[s, x], argTypes := #[t, u] })
    (ht : P.underlying t = some (.slice e)) (hu : P.underlying u = some .string) (hinfo : (P.info? e).map (fun i => (i.zero, i.size, i.bytes)) = some (some (.int .u8 0), 1, 1))
    (v : Value) (xs : List Int) (y : ByteArray) (ok : Nat → Prop) (hs : a.eval s = v) (hx : a.eval x = .string y)
    (HO : (Kd.int .u8).R e W base ok v xs) (hfresh : ∀ k, W.heap.size ≤ k → ok k) (HB : Below base w0 W) (hbase : base ≤ W.heap.size) (hl : xs.length + y.size ≤ 140737488355328) :
    ∃ v1 w1, (execOp a.eval o).run P W = .ok (.value v1) w1 ∧ (Kd.int .u8).R e w1 base ok v1 (xs ++ bytesOf y) ∧ Below base w0 w1 ∧ W.grownBy w1 v.ownBlock ∧ (v1.ownBlock = v.ownBlock ∨ ∃ b, v1.ownBlock = some b ∧ W.heap.size ≤ b) := by
  obtain ⟨i0, hi, hzz⟩ := Option.map_eq_some_iff.1 hinfo
  simp only [Prod.mk.injEq] at hzz
  obtain ⟨hz0, hz1, hz2⟩ := hzz
  have hown0 : W.ownsRow base e 1 v xs.length (nums .u8 xs) := own_of_R HO
  obtain ⟨v1, w1, hr, h2, h3, h4⟩ := Lib.run_append_own_string (P := P) W base t u o.type e i0 ht hu hi hz0 hz1 hz2 v xs.length (nums .u8 xs) hown0 y (by simp only [maxLen]; omega) hl hbase
  have hl2 : (xs ++ bytesOf y).length = xs.length + y.size := by rw [List.length_append, bytesOf_length]
  have hc : nums .u8 (xs ++ bytesOf y) = nums .u8 xs ++ Lib.strCells y := by
    rw [nums_append]
    congr 1
    simp [nums, bytesOf, Lib.strCells]
  have hg := h3
  have hown : w1.ownsRow base e 1 v1 (xs ++ bytesOf y).length (nums .u8 (xs ++ bytesOf y)) := by rw [hl2, hc]; exact h2
  have hat : v1.ownBlock = v.ownBlock ∨ ∃ b, v1.ownBlock = some b ∧ W.heap.size ≤ b := by
    rcases hown0.2 with ⟨rfl, hn⟩ | ⟨g, cap, cur, rfl, hbg, hgg, hnc, hcm, hcs, htake⟩
    · have hx0 : nums .u8 xs = [] := List.eq_nil_of_length_eq_zero (by rw [nums_length]; exact hn)
      obtain ⟨v2, w2, hr2, k2, _, _⟩ := Lib.run_append_own_string (P := P) W W.heap.size t u o.type e i0 ht hu hi hz0 hz1 hz2 (.slice none 0 0) 0 [] (World.ownsRow_nil W W.heap.size e 1) y (by simp only [maxLen]; omega) (by omega) (Nat.le_refl _)
      rw [hr] at hr2
      injection hr2 with e1 e2
      subst e1
      rcases k2.2 with ⟨rfl, _⟩ | ⟨g, cap, cur, rfl, hbg, _⟩
      · exact .inl rfl
      · exact .inr ⟨g, rfl, hbg⟩
    · by_cases hroom : xs.length + y.size ≤ cap
      · have hcs' : cur.size = cap := by simpa using hcs
        have hr2 := Lib.run_append_room_string (P := P) W t u o.type e i0 ht hu hi hz1 g xs.length cap cur hgg y hroom (by omega)
        rw [hr] at hr2
        injection hr2 with e1 e2
        subst e1
        exact .inl rfl
      · have holds : ∀ j u, (nums .u8 xs)[j]? = some u → W.cell? ((⟨g, 0, none⟩ : Addr).add j) = some u := hown0.cells (g := g) rfl
        have hr2 := Lib.run_append_grow_string (P := P) W t u o.type e i0 (.int .u8 0) ht hu hi hz0 ⟨g, 0, none⟩ xs.length cap (nums .u8 xs) (by rw [hz1]; simp [nums]) holds y (by omega) (by omega) (by rw [hz2]; exact growslice_fits (by omega) (by omega))
        rw [hr] at hr2
        injection hr2 with e1 e2
        subst e1
        exact .inr ⟨W.heap.size, rfl, Nat.le_refl _⟩
  refine ⟨v1, w1, ?_, R_of_own hown fun k hk => ?_, HB.grown hg hbase (own_base hown0), hg, hat⟩
  · unfold execOp
    simp only [ho, resolve, invoke, builtin, Sem.run_bind, Sem.run_pure, Result.andThen_ok, List.map_toArray, List.map_cons, List.map_nil, hs, hx, hr]
  rcases hat with he | ⟨b, hb, hle⟩
  · exact HO.1 k (he ▸ hk)
  · have : b = k := by rw [hb] at hk; exact Option.some.inj hk
    exact hfresh k (this ▸ hle)

theorem R_append_str {w0 W : World} (base : Nat) (hgd : o.guard = none) (s x : Operand) (t u e : TypeId)
    (ho : o.op = .call { callee := .builtin .append, args := #[s, x], argTypes := #[t, u] })
    (ht : P.underlying t = some (.slice e)) (hu : P.underlying u = some .string) (hinfo : (P.info? e).map (fun i => (i.zero, i.size, i.bytes)) = some (some (.int .u8 0), 1, 1))
    (v : Value) (xs : List Int) (y : ByteArray) (ok : Nat → Prop) (hs : a.eval s = v) (hx : a.eval x = .string y)
    (HO : (Kd.int .u8).R e W base ok v xs) (hfresh : ∀ k, W.heap.size ≤ k → ok k) (HB : Below base w0 W) (hbase : base ≤ W.heap.size) (hl : xs.length + y.size ≤ 140737488355328)
    (h : ∀ v1 w1, (Kd.int .u8).R e w1 base ok v1 (xs ++ bytesOf y) → Below base w0 w1 → W.grownBy w1 v.ownBlock → (v1.ownBlock = v.ownBlock ∨ ∃ b, v1.ownBlock = some b ∧ W.heap.size ≤ b) → wpList P ops Q rest (a.put o.dst v1) w1) :
    wpList P ops Q (o :: rest) a W := by
  obtain ⟨v1, w1, hr, h1, h2, h3, h4⟩ := append_str_run (P := P) (w0 := w0) base s x t u e ho ht hu hinfo v xs y ok hs hx HO hfresh HB hbase hl
  exact event_run hgd hr (h v1 w1 h1 h2 h3 h4)

theorem R_append_str_step {Kc : Act → World → Prop} {w0 W : World} (base : Nat) (hw : Region.wanted o (yielded ops a.tmps) = true) (s x : Operand) (t u e : TypeId)
    (ho : o.op = .call { callee := .builtin .append, args := #[s, x], argTypes := #[t, u] })
    (ht : P.underlying t = some (.slice e)) (hu : P.underlying u = some .string) (hinfo : (P.info? e).map (fun i => (i.zero, i.size, i.bytes)) = some (some (.int .u8 0), 1, 1))
    (v : Value) (xs : List Int) (y : ByteArray) (ok : Nat → Prop) (hs : a.eval s = v) (hx : a.eval x = .string y)
    (HO : (Kd.int .u8).R e W base ok v xs) (hfresh : ∀ k, W.heap.size ≤ k → ok k) (HB : Below base w0 W) (hbase : base ≤ W.heap.size) (hl : xs.length + y.size ≤ 140737488355328)
    (h : ∀ v1 w1, (Kd.int .u8).R e w1 base ok v1 (xs ++ bytesOf y) → Below base w0 w1 → W.grownBy w1 v.ownBlock → (v1.ownBlock = v.ownBlock ∨ ∃ b, v1.ownBlock = some b ∧ W.heap.size ≤ b) → Kc (a.put o.dst v1) w1) :
    if Region.wanted o (yielded ops a.tmps) = true then Oper.wp P o a W Kc Q else Kc (a.put o.dst undef) W := by
  obtain ⟨v1, w1, hr, h1, h2, h3, h4⟩ := append_str_run (P := P) (w0 := w0) base s x t u e ho ht hu hinfo v xs y ok hs hx HO hfresh HB hbase hl
  exact event_step hw hr (h v1 w1 h1 h2 h3 h4)

theorem conv_bytes {W : World} (hgd : o.guard = none) {N : Tmp} (_hd : o.dst = some N) (x : Operand) (src dst e : TypeId) {d : TypeDesc} (ho : o.op = .convert src dst x)
    (hs : P.underlying src = some d) (ht : P.underlying dst = some (.slice e)) (he : P.underlying e = some (.int .u8)) (y : ByteArray) (hx : a.eval x = .string y) (hl : y.size ≤ 140737488355328)
    (h : ∀ A c w1, (Kd.int .u8).C w1 A (bytesOf y).length (bytesOf y) → (bytesOf y).length ≤ c → Below W.heap.size W w1 → wpList P ops Q rest (a.put o.dst (.slice A (bytesOf y).length c)) w1) :
    wpList P ops Q (o :: rest) a W := by
  have hrun := Lib.run_convert_string_bytes (P := P) W src dst e y hs ht he
  have hlen := bytesOf_length y
  refine event_run hgd (w1 := Lib.bytesWorld W e y) (v := .slice (some ⟨W.heap.size, 0, none⟩) (bytesOf y).length (grownCap W y.size 0 e)) ?_ (h _ _ _ ?_ ?_ ?_)
  · simp only [execOp, ho, hx, Sem.run_bind, hrun, Result.andThen, Sem.run_pure, hlen]
  · refine C_of_reads (d := 0) (h1 := fun _ => rfl) ⟨rfl, by rw [hlen]; omega, fun _ => ⟨_, rfl, fun j hj => ?_⟩⟩
    have := Lib.bytesWorld_cell W e y j (by omega)
    rw [show Addr.add ⟨W.heap.size, 0, none⟩ j = ⟨W.heap.size, j, none⟩ from by unfold Addr.add; split <;> simp_all]
    rw [this]
    have hj' : j < y.data.toList.length := by rw [data_length]; omega
    simp only [bytesOf, List.getD, List.getElem?_map, Array.getElem?_toList]
    cases y.data[j]? <;> rfl
  · rw [hlen]
    exact grownCap_ge W y.size 0 e
  · exact ⟨rfl, rfl, rfl, by rw [Lib.bytesWorld_size]; omega, fun k hk => Lib.bytesWorld_at_old W e y k hk⟩
end
end Go.Proofs.YtincigcoagcgaaaDoorW.PrintWords.Kd
