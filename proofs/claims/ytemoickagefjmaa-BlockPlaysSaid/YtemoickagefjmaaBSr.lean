/-
  Bytes that may be read: as BSl, but an empty slice may lie anywhere.
-/
import Derived.Test.YtemoickagefjmaaB8
namespace Go.Proofs.Ytemoickagefjmaa
open Go Go.RowKit
set_option linter.unusedSectionVars false
set_option linter.unusedSimpArgs false
set_option linter.unusedVariables false

def BSr (w : World) (v : Value) (l : Bs) : Prop := BSl w v l ∨ (l = [] ∧ ∃ ad cap, v = .slice (some ad) 0 cap ∧ cap ≤ maxLen)

theorem BSr.aside {w w' : World} {v : Value} {l : Bs} (h : BSr w v l) (k : Keep w w' (fun _ => False)) : BSr w' v l := h.imp (fun h => h.aside k) id

theorem BSr.bsl {w : World} {v : Value} {l : Bs} (h : BSr w v l) (h0 : l ≠ []) : BSl w v l := by
  rcases h with h | ⟨h, _⟩
  · exact h
  · exact absurd h h0

theorem BSr.valr {w : World} {v : Value} {l : Bs} (h : BSr w v l) : ∃ a cap, v = .slice a l.length cap ∧ l.length ≤ cap ∧ cap ≤ maxLen := by
  rcases h with h | ⟨rfl, ad, cap, rfl, hc⟩
  · exact h.val
  · exact ⟨_, _, rfl, Nat.zero_le _, hc⟩

theorem BSr.set {w w' : World} {v : Value} {l : Bs} {S : Nat → Prop} (h : BSr w v l) (k : Keep w w' S) (hs : l ≠ [] → Clear v S) : BSr w' v l := by
  by_cases h0 : l = []
  · subst h0
    rcases h with (⟨rfl, _⟩ | ⟨blk, off, cap, rfl, h1, h2, h3, h4⟩) | h
    · exact .inl (.inl ⟨rfl, rfl⟩)
    · exact .inl (.inr ⟨blk, off, cap, rfl, h1, h2, Nat.lt_of_lt_of_le h3 k.size, fun i u hi => by simp at hi⟩)
    · exact .inr h
  · exact .inl ((h.bsl h0).keep k (hs h0))

theorem str_ofr {P : Program} {w : World} (src dst : TypeId) {e : TypeId} (hs : P.underlying src = .some (.slice e)) (he : P.underlying e = .some (.int .u8)) (hd : P.underlying dst = .some .string)
    {v : Value} {l : Bs} (h : BSr w v l) : (convert src dst v).run P w = .ok (.string (strB l)) w := by
  rcases h with h | ⟨rfl, ad, cap, rfl, hc⟩
  · exact str_of src dst hs he hd h
  · exact run_convert_bytes_back w src dst e ad cap [] hs he hd (fun j hj => by simp at hj)

end Go.Proofs.Ytemoickagefjmaa
