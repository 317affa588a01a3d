/-
  TreeTame, as the shell asks for it.
-/
import Derived.Test.YtnjfcedkfobbcaaGreatRBb
namespace Go.Proofs.YtnjfcedkfobbcaaGreat
open Go Go.RowKit

theorem tame_row (n : Int) (a : Option Addr) (len cap : Nat) (w : World) (_ : (Lit.int .i64 n).wf = true) (h : StructsIs asksT w a len cap) :
    Calls Tryz.prog 3 #[.int .i64 n, .slice a len cap] w fun r w' => r = .returned (.bool true) ∧ Below w.heap.size w w' := tame_walk n a len cap w h

end Go.Proofs.YtnjfcedkfobbcaaGreat
