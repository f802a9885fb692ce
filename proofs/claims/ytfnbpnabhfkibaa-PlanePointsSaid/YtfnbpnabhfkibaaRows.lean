/-
  No cell of these rows narrows 'for every input' (looked for: loops, veiled, ifaces, maps, wideKeys, modest, calm, conditions, laid).
  DERIVED. THE GIVEN ROWS OF THIS SEAT. 5 by the template 'for every input the law returns true; each argument reads behind the call as it read before'; 0 by the template 'total and deterministic' (their statements: YtfnbpnabhfkibaaTotals.lean).
  GIVEN WITH THE SEED: the statements are not yours to turn. If you find one false, say at which input.
  Laid BY PROGRAM, IN A SANDBOX (cutbox-rows.mjs): the forced cells as the released guide's own fill.sh prints them over the translation edb2503dc3e0b8d1… (all of the seat's roots in one cut). By AI agents, Wed Nov 11 2026. No macro, syntax, notation, axiom, sorry.
-/
import Derived.Test.YtfnbpnabhfkibaaChecked
import GoSem.Claim
import GoSem.ClaimJoined
import GoSem.ClaimMapViews
import Derived.JoinedTies
import Derived.KernelRfl
namespace Go.Proofs.Ytfnbpnabhfkibaa
/- THE CELL 'sum', in the pinned program and in every row, IS THE sha256 OF THE DUMP (.gsa) THAT YtfnbpnabhfkibaaProg.lean LOADS. Nothing in Lean hashes anything: it is a label: what it is worth is what the hold of that sum in a sandbox is worth. -/
noncomputable def Try.pinned : Pinned := { name := "ytfnbpnabhfkibaa", sum := "edb2503dc3e0b8d1995344a9bbad45308dc93975fef265fdc49a214caa095b82", checked := Try.checked }
namespace Rows
def none {H : Type} : Left H := { results := [], args := [] }

/-- 'reverielaw08.PlaneRing': WHATEVER THE INPUT: true; the input reads as it did. -/
def planeRingSpec : ChangeSpec := { name := "planeRing", fn := fun _ => fun
  | [d] => { results := [.lit (.bool true)], args := [d] }
  | _ => none }
def planeRingRow : OpenClaim := { program := "ytfnbpnabhfkibaa", sum := "edb2503dc3e0b8d1995344a9bbad45308dc93975fef265fdc49a214caa095b82", func := "reverie/reverielaw08.PlaneRing", spec := "planeRing", inPlace := ["math.Float64bits", "math.Float64frombits"], apart := false }
def PlaneRingSaid : Prop := planeRingRow.holds Try.pinned (OpenSpec.ofChange planeRingSpec)

/-- ITS FALSE NEIGHBOUR: 'it returns false'. Refute it at one input. -/
def planeRingWrong : ChangeSpec := { name := "planeRing", fn := fun _ => fun
  | [d] => { results := [.lit (.bool false)], args := [d] }
  | _ => none }
def PlaneRingWrongFalsely : Prop := planeRingRow.holds Try.pinned (OpenSpec.ofChange planeRingWrong)

/-- 'reverielaw08.PlaneTurns': WHATEVER THE INPUT: true; the input reads as it did. -/
def planeTurnsSpec : ChangeSpec := { name := "planeTurns", fn := fun _ => fun
  | [d1, d2] => { results := [.lit (.bool true)], args := [d1, d2] }
  | _ => none }
def planeTurnsRow : OpenClaim := { program := "ytfnbpnabhfkibaa", sum := "edb2503dc3e0b8d1995344a9bbad45308dc93975fef265fdc49a214caa095b82", func := "reverie/reverielaw08.PlaneTurns", spec := "planeTurns", inPlace := ["math.Float64bits", "math.Float64frombits"], apart := false }
def PlaneTurnsSaid : Prop := planeTurnsRow.holds Try.pinned (OpenSpec.ofChange planeTurnsSpec)

/-- ITS FALSE NEIGHBOUR: 'it returns false'. Refute it at one input. -/
def planeTurnsWrong : ChangeSpec := { name := "planeTurns", fn := fun _ => fun
  | [d1, d2] => { results := [.lit (.bool false)], args := [d1, d2] }
  | _ => none }
def PlaneTurnsWrongFalsely : Prop := planeTurnsRow.holds Try.pinned (OpenSpec.ofChange planeTurnsWrong)

/-- 'reverielaw08.PlaneMany': WHATEVER THE INPUT: true; the input reads as it did. -/
def planeManySpec : ChangeSpec := { name := "planeMany", fn := fun _ => fun
  | [d1, d2, d3] => { results := [.lit (.bool true)], args := [d1, d2, d3] }
  | _ => none }
def planeManyRow : OpenClaim := { program := "ytfnbpnabhfkibaa", sum := "edb2503dc3e0b8d1995344a9bbad45308dc93975fef265fdc49a214caa095b82", func := "reverie/reverielaw08.PlaneMany", spec := "planeMany", inPlace := ["math.Float64bits", "math.Float64frombits"], apart := false }
def PlaneManySaid : Prop := planeManyRow.holds Try.pinned (OpenSpec.ofChange planeManySpec)

/-- ITS FALSE NEIGHBOUR: 'it returns false'. Refute it at one input. -/
def planeManyWrong : ChangeSpec := { name := "planeMany", fn := fun _ => fun
  | [d1, d2, d3] => { results := [.lit (.bool false)], args := [d1, d2, d3] }
  | _ => none }
def PlaneManyWrongFalsely : Prop := planeManyRow.holds Try.pinned (OpenSpec.ofChange planeManyWrong)

/-- 'reverielaw08.PlaneWords': WHATEVER THE INPUT: true; the input reads as it did. -/
def planeWordsSpec : ChangeSpec := { name := "planeWords", fn := fun _ => fun
  | [d] => { results := [.lit (.bool true)], args := [d] }
  | _ => none }
def planeWordsRow : OpenClaim := { program := "ytfnbpnabhfkibaa", sum := "edb2503dc3e0b8d1995344a9bbad45308dc93975fef265fdc49a214caa095b82", func := "reverie/reverielaw08.PlaneWords", spec := "planeWords", inPlace := ["math.Float64bits", "math.Float64frombits"], apart := false }
def PlaneWordsSaid : Prop := planeWordsRow.holds Try.pinned (OpenSpec.ofChange planeWordsSpec)

/-- ITS FALSE NEIGHBOUR: 'it returns false'. Refute it at one input. -/
def planeWordsWrong : ChangeSpec := { name := "planeWords", fn := fun _ => fun
  | [d] => { results := [.lit (.bool false)], args := [d] }
  | _ => none }
def PlaneWordsWrongFalsely : Prop := planeWordsRow.holds Try.pinned (OpenSpec.ofChange planeWordsWrong)

/-- 'reverielaw08.PlanePoints': WHATEVER THE INPUT: true; the input reads as it did. -/
def planePointsSpec : ChangeSpec := { name := "planePoints", fn := fun _ => fun
  | [d] => { results := [.lit (.bool true)], args := [d] }
  | _ => none }
def planePointsRow : OpenClaim := { program := "ytfnbpnabhfkibaa", sum := "edb2503dc3e0b8d1995344a9bbad45308dc93975fef265fdc49a214caa095b82", func := "reverie/reverielaw08.PlanePoints", spec := "planePoints", inPlace := ["math.Float64bits", "math.Float64frombits"], apart := false }
def PlanePointsSaid : Prop := planePointsRow.holds Try.pinned (OpenSpec.ofChange planePointsSpec)

/-- ITS FALSE NEIGHBOUR: 'it returns false'. Refute it at one input. -/
def planePointsWrong : ChangeSpec := { name := "planePoints", fn := fun _ => fun
  | [d] => { results := [.lit (.bool false)], args := [d] }
  | _ => none }
def PlanePointsWrongFalsely : Prop := planePointsRow.holds Try.pinned (OpenSpec.ofChange planePointsWrong)

/- THE SECOND FORM. 'bulk': how many values and letters a reading holds, each counted each time it is reached (what is shared counts as often as it is met; a slice's spare places count too). A statement '..UptoSaid' is the law's where the arguments, and the package variables that the reading takes, are together of bulk at most 1048576: NARROWER than '..Said'. Prove '..Said' where nothing that the law and all that it calls make is longer than what came in: it says more and counts as full. Else prove '..UptoSaid'. A law counts once. -/
mutual
def uptoBulk {H : Type} : DataW H → Nat
  | .lit (.string bytes) => bytes.length + 1
  | .lit _ => 1
  | .nil => 1
  | .ptr d => uptoBulk d + 1
  | .slice elems spare => uptoBulkAll elems + uptoBulkAll spare + 1
  | .agg parts => uptoBulkAll parts + 1
  | .iface _ d => uptoBulk d + 1
  | .map entries => uptoBulkEntries entries + 1
  | .held _ => 1
def uptoBulkAll {H : Type} : List (DataW H) → Nat
  | [] => 0
  | d :: r => uptoBulk d + uptoBulkAll r
def uptoBulkEntries {H : Type} : List (Lit × DataW H) → Nat
  | [] => 0
  | x :: r => uptoBulkEntry x + uptoBulkEntries r
def uptoBulkEntry {H : Type} : Lit × DataW H → Nat
  | (.string bytes, d) => bytes.length + uptoBulk d + 1
  | (_, d) => uptoBulk d + 1
 end
def uptoSmall : (H : Type) → List (DataW H) → Bool := fun _ ds => decide (uptoBulkAll ds ≤ 1048576)
def OpenSpec.upto (s : _root_.Go.ChangeSpec) : _root_.Go.OpenSpec := { _root_.Go.OpenSpec.ofChange s with cond := some uptoSmall }

/-- 'reverielaw08.PlaneRing', WHERE WHAT IT READS IS OF BULK AT MOST 1048576: true; the input reads as it did. -/
def planeRingUptoRow : OpenClaim := { program := "ytfnbpnabhfkibaa", sum := "edb2503dc3e0b8d1995344a9bbad45308dc93975fef265fdc49a214caa095b82", func := "reverie/reverielaw08.PlaneRing", spec := "planeRing", inPlace := ["math.Float64bits", "math.Float64frombits"], apart := false, narrowed := true }
def PlaneRingUptoSaid : Prop := planeRingUptoRow.holds Try.pinned (OpenSpec.upto planeRingSpec)

/-- 'reverielaw08.PlaneTurns', WHERE WHAT IT READS IS OF BULK AT MOST 1048576: true; the input reads as it did. -/
def planeTurnsUptoRow : OpenClaim := { program := "ytfnbpnabhfkibaa", sum := "edb2503dc3e0b8d1995344a9bbad45308dc93975fef265fdc49a214caa095b82", func := "reverie/reverielaw08.PlaneTurns", spec := "planeTurns", inPlace := ["math.Float64bits", "math.Float64frombits"], apart := false, narrowed := true }
def PlaneTurnsUptoSaid : Prop := planeTurnsUptoRow.holds Try.pinned (OpenSpec.upto planeTurnsSpec)

/-- 'reverielaw08.PlaneMany', WHERE WHAT IT READS IS OF BULK AT MOST 1048576: true; the input reads as it did. -/
def planeManyUptoRow : OpenClaim := { program := "ytfnbpnabhfkibaa", sum := "edb2503dc3e0b8d1995344a9bbad45308dc93975fef265fdc49a214caa095b82", func := "reverie/reverielaw08.PlaneMany", spec := "planeMany", inPlace := ["math.Float64bits", "math.Float64frombits"], apart := false, narrowed := true }
def PlaneManyUptoSaid : Prop := planeManyUptoRow.holds Try.pinned (OpenSpec.upto planeManySpec)

/-- 'reverielaw08.PlaneWords', WHERE WHAT IT READS IS OF BULK AT MOST 1048576: true; the input reads as it did. -/
def planeWordsUptoRow : OpenClaim := { program := "ytfnbpnabhfkibaa", sum := "edb2503dc3e0b8d1995344a9bbad45308dc93975fef265fdc49a214caa095b82", func := "reverie/reverielaw08.PlaneWords", spec := "planeWords", inPlace := ["math.Float64bits", "math.Float64frombits"], apart := false, narrowed := true }
def PlaneWordsUptoSaid : Prop := planeWordsUptoRow.holds Try.pinned (OpenSpec.upto planeWordsSpec)

/-- 'reverielaw08.PlanePoints', WHERE WHAT IT READS IS OF BULK AT MOST 1048576: true; the input reads as it did. -/
def planePointsUptoRow : OpenClaim := { program := "ytfnbpnabhfkibaa", sum := "edb2503dc3e0b8d1995344a9bbad45308dc93975fef265fdc49a214caa095b82", func := "reverie/reverielaw08.PlanePoints", spec := "planePoints", inPlace := ["math.Float64bits", "math.Float64frombits"], apart := false, narrowed := true }
def PlanePointsUptoSaid : Prop := planePointsUptoRow.holds Try.pinned (OpenSpec.upto planePointsSpec)

end Rows
end Go.Proofs.Ytfnbpnabhfkibaa
