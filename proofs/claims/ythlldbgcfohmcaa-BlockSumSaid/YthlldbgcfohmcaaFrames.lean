/-
  A slice of structs that came in, opened to its cells (open_slice_fields: the block of the kit's page on structs, copied as that page asks).
-/
import Derived.Test.YthlldbgcfohmcaaBlockL2
import Derived.Deep.Slices
import Derived.Deep.Fields
import Derived.ChangeSame
namespace Go.Proofs.Ythlldbgcfohmcaa
open Go Go.RowKit Go.ChangeShapes Go.WideShapes Go.Deep
set_option linter.unusedSectionVars false
set_option linter.unusedSimpArgs false
set_option linter.unusedVariables false

section
variable {H : Type} {enc : TypeId × Value → H} {P : Program} {w : World} {base : Nat} {spare : Nat → Bool} {held : Bool}
theorem open_slice_fields {t e : TypeId} {fs : Array Field} {fuel : Nat} {cs : List Value} {x : DataW H × List MemPlace} (ht : P.underlying t = some (.slice e)) (he : P.underlying e = some (.struct fs))
    (hone : oneCellFields P fs = true) (hC : P.cellsOf e = fs.size) (h : DataW.trod enc P w base spare held fuel t cs = some x) :
    (cs = [.slice none 0 0] ∧ x = (.nil, [])) ∨
    ∃ (a : Addr) (len cap m : Nat) (D : Nat → DataW H) (Pl : Nat → List MemPlace), cs = [.slice (some a) len cap] ∧ base ≤ a.block ∧ len ≤ cap ∧ cap ≤ maxLen ∧ m = (if spare a.block then cap else len) ∧
      x = (.slice ((List.range len).map D) ((List.range (m - len)).map fun j => D (len + j)), MemPlace.row a (m * fs.size) ++ (List.range m).flatMap Pl) ∧
      ∀ i, i < m → ∃ (ys : List (DataW H × List MemPlace)) (n : Nat), D i = .agg (ys.map (·.1)) ∧ Pl i = ys.flatMap (·.2) ∧ ys.length = fs.size ∧
        ∀ (j : Nat) (f : Field), fs[j]? = some f → ∃ (v : Value) (y : DataW H × List MemPlace), w.cell? (a.add (i * fs.size + j)) = some v ∧ ys[j]? = some y ∧ DataW.trod enc P w base spare held n f.type [v] = some y := by
  rcases open_slice ht h with h0 | ⟨a, len, cap, m, n, D, Pl, hcs, hb, hl, hm, hmm, hx, hi⟩
  · exact .inl h0
  · refine .inr ⟨a, len, cap, m, D, Pl, hcs, hb, hl, hm, hmm, by rw [hC] at hx; exact hx, fun i him => ?_⟩
    obtain ⟨cs', hc, ht'⟩ := hi i him
    rw [hC] at hc
    obtain ⟨ys, n', hn', hy, hlen, hyl, hf⟩ := DataW.trod_struct he ht'
    obtain ⟨_, hcl, hat⟩ := World.cells?_some hc
    simp only [Prod.mk.injEq] at hy
    refine ⟨ys, n', hy.1, hy.2, hyl, fun j f hj => ?_⟩
    obtain ⟨ho, hk⟩ := hone_of hone j f hj
    have hjl : j < fs.size := (Array.getElem?_eq_some_iff.1 hj).1
    have hcell := hat j hjl
    have hv : cs'[j]? = some (cs'[j]'(by omega)) := List.getElem?_eq_getElem (by omega)
    have h1 := hf j f hj
    rw [ho, hk] at h1
    have hone' : (cs'.drop j).take 1 = [cs'[j]'(by omega)] := by
      rw [List.drop_eq_getElem_cons (by omega)]
      rfl
    rw [hone'] at h1
    have hys : ys[j]? = some (ys[j]'(by omega)) := List.getElem?_eq_getElem (by omega)
    refine ⟨_, _, ?_, hys, h1.trans hys⟩
    rw [← Go.Deep.add_add, hcell, hv]

def FieldOf (P : Program) : FieldKind → TypeId → Prop
  | .int k, t => P.underlying t = some (.int k)
  | .bytes, t => ∃ e, P.underlying t = some (.slice e) ∧ P.underlying e = some (.int .u8) ∧ P.cellsOf e = 1
  | .str, t => P.underlying t = some .string
  | .bool, t => P.underlying t = some .bool

theorem field_is {f : FieldKind} {t : TypeId} {n : Nat} {v : Value} {y : DataW H × List MemPlace} (hf : FieldOf P f t) (h : DataW.trod enc P w base (fun _ => true) held n t [v] = some y) : FieldIs w f v := by
  cases f with
  | int k =>
    obtain ⟨m, hc, _, hw⟩ := DataW.trod_int hf h
    simp at hc
    exact ⟨m, hc, hw⟩
  | str =>
    obtain ⟨s, hc, _, hs⟩ := DataW.trod_string hf h
    simp at hc
    exact ⟨s, hc, hs⟩
  | bool =>
    obtain ⟨b, hc, _⟩ := DataW.trod_bool hf h
    simp at hc
    exact ⟨b, hc⟩
  | bytes =>
    obtain ⟨e, h1, h2, h3⟩ := hf
    rcases open_ints h1 h2 h3 h with ⟨hcs, _⟩ | ⟨x, l, c, zs, hcs, _, hl, hm, hz, _, hcell, hwz⟩
    · simp at hcs
      exact ⟨_, _, _, [], hcs, .inl ⟨rfl, rfl, rfl, rfl⟩⟩
    · simp at hcs
      exact ⟨_, _, _, zs, hcs, .inr ⟨_, rfl, hl, hm, by simpa using hz, hcell, hwz⟩⟩

theorem structs_open {t e : TypeId} {fs : Array Field} {fuel : Nat} {a : Option Addr} {len cap : Nat} {x : DataW H × List MemPlace} (ks : List FieldKind) (ht : P.underlying t = some (.slice e)) (he : P.underlying e = some (.struct fs))
    (hone : oneCellFields P fs = true) (hC : P.cellsOf e = fs.size) (hl : ks.length = fs.size) (hks : ∀ (j : Nat) f, ks[j]? = some f → ∃ g, fs[j]? = some g ∧ FieldOf P f g.type)
    (h : DataW.trod enc P w base (fun _ => true) held fuel t [.slice a len cap] = some x) : StructsIs ks w a len cap := by
  rcases open_slice_fields ht he hone hC h with ⟨hcs, _⟩ | ⟨ad, l, c, m, D, Pl, hcs, _, hlc, hm, hmm, _, hi⟩
  · simp at hcs
    obtain ⟨rfl, rfl, rfl⟩ := hcs
    exact .inl ⟨rfl, rfl, rfl⟩
  · simp at hcs
    obtain ⟨rfl, rfl, rfl⟩ := hcs
    refine .inr ⟨_, rfl, hlc, hm, fun i hil j f hj => ?_⟩
    obtain ⟨ys, n, _, _, _, hf⟩ := hi i (by rw [hmm]; simp; omega)
    obtain ⟨g, hg, hk⟩ := hks j f hj
    obtain ⟨v, y, hcell, _, hv⟩ := hf j g hg
    rw [← hl] at hcell
    exact ⟨v, hcell, field_is hk hv⟩
end

end Go.Proofs.Ythlldbgcfohmcaa
