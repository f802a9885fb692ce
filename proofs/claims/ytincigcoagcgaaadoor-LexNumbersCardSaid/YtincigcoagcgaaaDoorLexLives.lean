/- The chapter's example of layer 1 holds. -/
import Derived.Test.YtincigcoagcgaaaDoorLexB
import Derived.Lib.SlBytesConst
namespace Go.Proofs.YtincigcoagcgaaaDoor.Pr
set_option linter.unusedVariables false
set_option linter.unusedSimpArgs false
open Go.RowKit Go.Proofs.YtincigcoagcgaaaDoorW.PrintWords Go.Proofs.YtincigcoagcgaaaDoorW.PrintLast Go.Proofs.YtincigcoagcgaaaDoorW.PrintMore

def livesToks : List S33 := [⟨0, 0, strOfNums [40], 0⟩, ⟨3, 1, strOfNums [102], 0⟩, ⟨2, 3, strOfNums [45, 51], -3⟩, ⟨1, 5, strOfNums [41], 0⟩]
theorem lives_toks : lex_Tokens.f [40, 102, 32, 45, 51, 41] = some (livesToks, -1, 0) := by kernel_rfl

def reverielaw01_lives.f : Option Bool := some true

/-- The cells of a new row of bytes that is marked. -/
theorem C_new (w : World) (xs : List Int) (fr : Nat × Nat) (hl : xs.length ≤ 9223372036854775807) : Kd.C (Kd.int .u8) (w.alloc (.cells (xs.map (Value.int .u8)).toArray 5 fr)) (some ⟨w.heap.size, 0, none⟩) xs.length xs := by
  refine ⟨rfl, hl, fun _ => ⟨_, rfl, fun j p hj => ⟨[.int .u8 p], rfl, rfl, fun i u hu => ?_⟩⟩⟩
  have hi : i = 0 := by
    cases i with
    | zero => rfl
    | succ i => simp at hu
  subst hi
  have hp : u = .int .u8 p := by simpa using hu.symm
  subst hp
  have hlt : j < xs.length := (List.getElem?_eq_some_iff.1 hj).1
  have e := World.cell?_alloc_mark w (xs.map (Value.int .u8)).toArray 5 fr j
  have e2 : (Addr.add ⟨w.heap.size, 0, none⟩ (j * (Kd.int .u8).sz + 0)) = ⟨w.heap.size, j, none⟩ := by
    rw [show (Kd.int .u8).sz = 1 from rfl, Nat.mul_one, Nat.add_zero]
    simp [Addr.add]
    omega
  rw [e2, e]
  simp [hj]

set_option maxHeartbeats 1000000 in
theorem reverielaw01_lives.calls (r : Bool) (w : World) (h : reverielaw01_lives.f = some r) :
    Calls Tryd.prog 9 #[] w fun e w' => e = .returned (.bool r) ∧ Below w.heap.size w w' := by
  obtain rfl := Option.some.inj h
  clear h
  have kc := fun (w : World) (C : Array Value) (n c : Nat) => Lib.run_convert_bytes_const (P := Tryd.prog) w 22 5 C n c Tryd.underlying22 Tryd.underlying5
  have hC := C_new w [40, 102, 32, 45, 51, 41] (6, 7) (by decide)
  have HC := Lib.hid hC
  have HBel := Lib.hid ((Below.refl w.heap.size w).alloc (Nat.le_refl _) (.cells #[.int .u8 40, .int .u8 102, .int .u8 32, .int .u8 45, .int .u8 51, .int .u8 41] 5 (6, 7)))
  clear hC
  go_enter Tryd.func9, Tryd.ntmps9
  go_wp2_with fail
  refine (lex_Tokens.calls _ _ [40, 102, 32, 45, 51, 41] livesToks (-1) 0 _ HC.out (by decide) lives_toks).mono ?_
  rintro e w1 ⟨v0, rfl, ho, hb⟩
  obtain ⟨A, c, rfl⟩ := Kd.R_slice ho
  have hrd := (Kd.R_reads' ho).2.2
  obtain ⟨ad, e1, a0, a1, a2, a3⟩ := at_T33 hrd 1 (by decide) (by decide)
  obtain ⟨ad', e2, b0, b1, b2, b3⟩ := at_T33 hrd 2 (by decide) (by decide)
  subst e1
  obtain rfl := Option.some.inj e2
  have HB1 := Lib.hid (below_step HBel.out hb)
  clear ho hb hrd e2 kc
  have t1 : (1 : Int).toNat = 1 := rfl
  have t2 : (2 : Int).toNat = 2 := rfl
  have x1 : rd_T33 livesToks 1 = ⟨3, 1, strOfNums [102], 0⟩ := rfl
  have x2 : rd_T33 livesToks 2 = ⟨2, 3, strOfNums [45, 51], -3⟩ := rfl
  have ln : livesToks.length = 4 := rfl
  have sn : strOfNums [102] = ⟨#[102]⟩ := by kernel_rfl
  rw [x1] at a0 a1 a2 a3
  rw [x2] at b0 b1 b2 b3
  simp only [t1, t2, sn, Nat.reduceMul, Nat.reduceAdd, Nat.reduceEqDiff, Addr.add, ↓reduceIte] at a0 a1 a2 a3 b0 b1 b2 b3
  rw [ln]
  clear t1 t2 x1 x2
  go_wp2
  go_ret
  exact ⟨rfl, HB1.out⟩
end Go.Proofs.YtincigcoagcgaaaDoor.Pr
