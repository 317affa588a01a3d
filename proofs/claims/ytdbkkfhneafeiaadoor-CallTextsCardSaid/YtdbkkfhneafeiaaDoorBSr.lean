/-
  Bytes that may be read: as BSl, but an empty slice may lie anywhere.
-/
import Derived.Test.YtdbkkfhneafeiaaDoorB8
namespace Go.Proofs.YtdbkkfhneafeiaaDoor
open Go Go.RowKit
set_option linter.unusedSectionVars false
set_option linter.unusedSimpArgs false
set_option linter.unusedVariables false

def BSr (w : World) (v : Value) (l : Bs) : Prop := BSl w v l ∨ (l = [] ∧ ∃ ad cap, v = .slice (some ad) 0 cap ∧ cap ≤ maxLen)

theorem BSr.aside {w w' : World} {v : Value} {l : Bs} (h : BSr w v l) (k : Keep w w' (fun _ => False)) : BSr w' v l := h.imp (fun h => h.aside k) id

theorem str_ofr {P : Program} {w : World} (src dst : TypeId) {e : TypeId} (hs : P.underlying src = .some (.slice e)) (he : P.underlying e = .some (.int .u8)) (hd : P.underlying dst = .some .string)
    {v : Value} {l : Bs} (h : BSr w v l) : (convert src dst v).run P w = .ok (.string (strB l)) w := by
  rcases h with h | ⟨rfl, ad, cap, rfl, hc⟩
  · exact str_of src dst hs he hd h
  · exact run_convert_bytes_back w src dst e ad cap [] hs he hd (fun j hj => by simp at hj)

end Go.Proofs.YtdbkkfhneafeiaaDoor
