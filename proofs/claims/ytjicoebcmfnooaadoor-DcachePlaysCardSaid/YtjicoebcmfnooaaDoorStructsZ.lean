/-
  A slice of structs of one-cell fields: how long its texts may be (the form's own reach).
-/
import Derived.Test.YtjicoebcmfnooaaDoorStructs
import Derived.SizedLaws
namespace Go.Proofs.YtjicoebcmfnooaaDoor
open Go Go.RowKit Go.ChangeShapes Go.WideShapes Go.Deep
set_option linter.unusedSectionVars false
set_option linter.unusedSimpArgs false
set_option linter.unusedVariables false

section
variable {H : Type} {enc : TypeId × Value → H} {P : Program} {w : World} {base : Nat} {held : Bool}

theorem weightsAll_mem {e : TypeId} {l : List (DataW H)} {d : DataW H} (h : d ∈ l) {n : Nat} (hn : n ∈ d.weights P e) : n ∈ DataW.weightsAll P e l := by
  induction l with
  | nil => cases h
  | cons x r ih =>
    simp only [DataW.weightsAll]
    rcases List.mem_cons.1 h with rfl | h
    · exact List.mem_append_left _ hn
    · exact List.mem_append_right _ (ih h)

theorem sized_mem {ts : List TypeId} {ds : List (DataW H)} (h : (DataW.weightsEach P ts ds).all (· ≤ reachBytes) = true) {j : Nat} {t : TypeId} {d : DataW H} (ht : ts[j]? = some t) (hd : ds[j]? = some d) : ∀ n ∈ d.weights P t, n ≤ reachBytes := fun n hn => by
  have := List.all_eq_true.1 h n (DataW.weights_mem_each ht hd n hn)
  simpa using this

/-- A text of the row. -/
def TextsLe (ks : List FieldKind) (w : World) (a : Option Addr) (len : Nat) : Prop :=
  ∀ x, a = some x → ∀ i, i < len → ∀ j, ks[j]? = some .str → ∀ s, w.cell? (x.add (i * ks.length + j)) = some (.string s) → s.size ≤ reachBytes

theorem structs_openZ {t e : TypeId} {fs : Array Field} {fuel : Nat} {a : Option Addr} {len cap : Nat} {x : DataW H × List MemPlace} (ks : List FieldKind) (ht : P.underlying t = some (.slice e)) (he : P.underlying e = some (.struct fs))
    (hone : oneCellFields P fs = true) (hC : P.cellsOf e = fs.size) (hl : ks.length = fs.size) (hks : ∀ (j : Nat) f, ks[j]? = some f → ∃ g, fs[j]? = some g ∧ FieldOf P f g.type)
    (h : DataW.trod enc P w base (fun _ => true) held fuel t [.slice a len cap] = some x) (hw : ∀ n ∈ x.1.weights P t, n ≤ reachBytes) : TextsLe ks w a len := by
  rcases open_slice_fields ht he hone hC h with ⟨hcs, _⟩ | ⟨ad, l, c, m, D, Pl, hcs, _, hlc, hm, hmm, hx, hi⟩
  · simp at hcs
    obtain ⟨rfl, rfl, rfl⟩ := hcs
    intro x e
    cases e
  · simp at hcs
    obtain ⟨rfl, rfl, rfl⟩ := hcs
    intro y ey i hil j hj s hc
    cases ey
    obtain ⟨ys, n, hD, _, _, hf⟩ := hi i (by rw [hmm]; simp; omega)
    obtain ⟨g, hg, hk⟩ := hks j .str hj
    obtain ⟨v, z, hcell, hz, hv⟩ := hf j g hg
    rw [← hl, hc] at hcell
    cases hcell
    obtain ⟨s', e1, e2, _⟩ := DataW.trod_string hk hv
    simp at e1
    subst e1
    apply hw
    rw [hx]
    simp only [DataW.weights, ht]
    refine List.mem_cons_of_mem _ (List.mem_append_left _ ?_)
    refine weightsAll_mem (d := D i) (List.mem_map.2 ⟨i, List.mem_range.2 hil, rfl⟩) ?_
    rw [hD]
    simp only [DataW.weights, he]
    refine DataW.weights_mem_each (j := j) (t := g.type) (d := z.1) ?_ ?_ _ ?_
    · rw [List.getElem?_map, Array.getElem?_toList, hg]
      rfl
    · rw [List.getElem?_map, hz]
      rfl
    · rw [e2]
      simp [DataW.weights]
end

end Go.Proofs.YtjicoebcmfnooaaDoor
