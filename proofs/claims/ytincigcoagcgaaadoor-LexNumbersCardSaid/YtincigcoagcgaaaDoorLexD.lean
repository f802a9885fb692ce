/- strconv.FormatInt at base 10: what it gives, where the world holds its table; that the listed table is that table. -/
import Derived.Test.YtincigcoagcgaaaDoorShelf
import Derived.Test.YtincigcoagcgaaaDoorPr0
import Derived.Test.YtincigcoagcgaaaDoorRows
import Derived.Lib.AppendIntMem
import Derived.LaidSub
import Derived.MakeChecks
namespace Go.Proofs.YtincigcoagcgaaaDoor.Pr
set_option linter.unusedVariables false
set_option linter.unusedSimpArgs false
open Go.RowKit Go.Proofs.YtincigcoagcgaaaDoorW.PrintWords Go.Proofs.YtincigcoagcgaaaDoorW.PrintLast Go.Proofs.YtincigcoagcgaaaDoorW.PrintMore

def strconv_FormatInt.f (n base : Int) : Option ByteArray := if base = 10 ∧ -9223372036854775808 ≤ n ∧ n ≤ 9223372036854775807 then some ⟨(Lib.itoa n).toArray⟩ else none

theorem strconv_FormatInt.calls (n base : Int) (r : ByteArray) (W : World) (h : strconv_FormatInt.f n base = some r) (ht : Lib.TabIs Tryd.prog W "internal/strconv.uint64pow10" .u64 Lib.pow10Tab) :
    Calls Tryd.prog 13 #[.int .i64 n, .int .i64 base] W fun e w' => e = .returned (.string r) ∧ Below W.heap.size W w' := by
  unfold strconv_FormatInt.f at h
  split at h
  · rename_i hc
    obtain ⟨rfl, h0, h1⟩ := hc
    obtain rfl := Option.some.inj h
    refine (Tryd.strconv_FormatInt_10 n h0 h1 W ht).mono ?_
    rintro e w' ⟨rfl, k, os, rfl⟩
    exact ⟨rfl, Lib.below_grow _ _ (Nat.le_refl _) _ _⟩
  · cases h

theorem tab_at {P : Program} {B : Nat} {w w' : World} {name : String} {k : IntKind} {zs : List Int} (h : Lib.TabBelow P B w name k zs) (hb : Below B w w') : Lib.TabIs P w' name k zs := h w' hb

theorem num_tab {W : World} (h : laidMetH Tryd.prog Rows.lexNumbersRow.laid W) : Lib.TabIs Tryd.prog W "internal/strconv.uint64pow10" .u64 Lib.pow10Tab := by
  have h1 := h.filter fun x => x.1 == "internal/strconv.uint64pow10"
  have e : Rows.lexNumbersRow.laid.filter (fun x => x.1 == "internal/strconv.uint64pow10") = [("internal/strconv.uint64pow10", Lib.tabData .u64 Lib.pow10Tab)] := by kernel_rfl
  rw [e, Go.MakeChecks.laidMetH_plain _ _ _ (by kernel_rfl)] at h1
  exact Lib.tabIs_of_head (g := 0) (t := 68) (e := 55) (n := 20) (by kernel_rfl) (by kernel_rfl) (by kernel_rfl) (by kernel_rfl) (by kernel_rfl) (by kernel_rfl) h1
end Go.Proofs.YtincigcoagcgaaaDoor.Pr
