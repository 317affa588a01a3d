/-
  DcacheDirs at the asks that come in.
-/
import Derived.Test.YtjicoebcmfnooaaDoorAskP
import Derived.Test.YtjicoebcmfnooaaDoorDcacheDirs
namespace Go.Proofs.YtjicoebcmfnooaaDoor
open Go Go.RowKit Go.ChangeShapes Go.WideShapes Go.Deep
set_option linter.unusedSectionVars false
set_option linter.unusedSimpArgs false
set_option linter.unusedVariables false

theorem dirs_row (a : Option Addr) (len cap : Nat) (dir : Int) (W : World) (hp : Pw W) (h : StructsIs asksK W a len cap) (hx : (Lit.int .i64 dir).wf = true) (hz : TextsLe asksK W a len) :
    Calls Tryd.prog 4 #[.slice a len cap, .int .i64 dir] W fun r w' => r = .returned (.bool true) ∧ Below W.heap.size W w' := by
  obtain ⟨rows, hI⟩ := asks_in h hz
  exact dirs_walk a len cap dir rows W hp hI (bounds_i64 hx)

end Go.Proofs.YtjicoebcmfnooaaDoor
