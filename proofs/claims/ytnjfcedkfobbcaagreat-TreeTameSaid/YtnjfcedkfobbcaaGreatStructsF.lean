/-
  A slice of structs that came in, where fields may be structs of one-cell fields themselves, opened to its cells.
-/
import Derived.Test.YtnjfcedkfobbcaaGreatStructs
namespace Go.Proofs.YtnjfcedkfobbcaaGreat
open Go Go.RowKit Go.ChangeShapes Go.WideShapes Go.Deep
set_option linter.unusedSectionVars false
set_option linter.unusedSimpArgs false
set_option linter.unusedVariables false

/-- What a field's cells are: one, or those of a struct. -/
def SegOf (P : Program) (ks : List FieldKind) (t : TypeId) : Prop :=
  (∃ k, ks = [k] ∧ FieldOf P k t) ∨
  ∃ fs, P.underlying t = some (.struct fs) ∧ oneCellFields P fs = true ∧ ks.length = fs.size ∧ ∀ (j : Nat) f, ks[j]? = some f → ∃ g, fs[j]? = some g ∧ FieldOf P f g.type

section
variable {H : Type} {enc : TypeId × Value → H} {P : Program} {w : World} {base : Nat} {held : Bool}

theorem seg_is {ks : List FieldKind} {t : TypeId} {n : Nat} {cs : List Value} {y : DataW H × List MemPlace} (hs : SegOf P ks t) (hl : cs.length = ks.length) (h : DataW.trod enc P w base (fun _ => true) held n t cs = some y) :
    ∀ (j : Nat) f, ks[j]? = some f → ∃ v, cs[j]? = some v ∧ FieldIs w f v := by
  rcases hs with ⟨k, rfl, hk⟩ | ⟨fs, hu, hone, hlen, hks⟩
  · intro j f hj
    match cs, hl with
    | [c], _ =>
      match j, hj with
      | 0, hj =>
        simp at hj
        subst hj
        exact ⟨c, rfl, field_is hk h⟩
      | j + 1, hj => simp at hj
  · obtain ⟨ys, n', hn', hy, hlen', hyl, hf⟩ := DataW.trod_struct hu h
    intro j f hj
    obtain ⟨g, hg, hgk⟩ := hks j f hj
    obtain ⟨ho, hk⟩ := hone_of hone j g hg
    have hjl : j < fs.size := (Array.getElem?_eq_some_iff.1 hg).1
    have hv : cs[j]? = some (cs[j]'(by omega)) := List.getElem?_eq_getElem (by omega)
    have h1 := hf j g hg
    rw [ho, hk] at h1
    have hone' : (cs.drop j).take 1 = [cs[j]'(by omega)] := by
      rw [List.drop_eq_getElem_cons (by omega)]
      rfl
    rw [hone'] at h1
    have hys : ys[j]? = some (ys[j]'(by omega)) := List.getElem?_eq_getElem (by omega)
    exact ⟨_, hv, field_is hgk (h1.trans hys)⟩

theorem flatten_get {α : Type} : ∀ (L : List (List α)) (q : Nat) (x : α), L.flatten[q]? = some x → ∃ i seg r, L[i]? = some seg ∧ seg[r]? = some x ∧ q = (L.take i).flatten.length + r
  | [], q, x, h => by simp at h
  | s :: L, q, x, h => by
    rw [List.flatten_cons] at h
    by_cases hq : q < s.length
    · rw [List.getElem?_append_left hq] at h
      exact ⟨0, s, q, rfl, h, by simp⟩
    · rw [List.getElem?_append_right (by omega)] at h
      obtain ⟨i, seg, r, h1, h2, h3⟩ := flatten_get L _ x h
      refine ⟨i + 1, seg, r, by simpa using h1, h2, ?_⟩
      rw [List.take_succ_cons, List.flatten_cons, List.length_append]
      omega

theorem structs_openF {t e : TypeId} {fs : Array Field} {fuel : Nat} {a : Option Addr} {len cap : Nat} {x : DataW H × List MemPlace} (segs : List (List FieldKind)) (ht : P.underlying t = some (.slice e)) (he : P.underlying e = some (.struct fs))
    (hC : P.cellsOf e = segs.flatten.length) (hks : ∀ (j : Nat) seg, segs[j]? = some seg → ∃ g, fs[j]? = some g ∧ SegOf P seg g.type ∧ g.offset = (segs.take j).flatten.length ∧ P.cellsOf g.type = seg.length)
    (h : DataW.trod enc P w base (fun _ => true) held fuel t [.slice a len cap] = some x) : StructsIs segs.flatten w a len cap := by
  rcases open_slice ht h with ⟨hcs, _⟩ | ⟨ad, l, c, m, n, D, Pl, hcs, hb, hl, hm, hmm, hx, hi⟩
  · simp at hcs
    obtain ⟨rfl, rfl, rfl⟩ := hcs
    exact .inl ⟨rfl, rfl, rfl⟩
  · simp at hcs
    obtain ⟨rfl, rfl, rfl⟩ := hcs
    refine .inr ⟨_, rfl, hl, hm, fun i hil q f hq => ?_⟩
    obtain ⟨cs', hc, ht'⟩ := hi i (by rw [hmm]; simp; omega)
    rw [hC] at hc
    obtain ⟨_, hcl, hat⟩ := World.cells?_some hc
    obtain ⟨ys, n', hn', hy, hlen', hyl, hf⟩ := DataW.trod_struct he ht'
    obtain ⟨j, seg, r, hj, hr, hqe⟩ := flatten_get segs q f hq
    obtain ⟨g, hg, hsg, hgo, hgc⟩ := hks j seg hj
    have h1 := hf j g hg
    rw [hgo, hgc] at h1
    have hql : q < segs.flatten.length := (List.getElem?_eq_some_iff.1 hq).1
    have hrl : r < seg.length := (List.getElem?_eq_some_iff.1 hr).1
    have hjl : j < fs.size := (Array.getElem?_eq_some_iff.1 hg).1
    have hys : ys[j]? = some (ys[j]'(by omega)) := List.getElem?_eq_getElem (by omega)
    have htot : (segs.take j).flatten.length + seg.length ≤ segs.flatten.length := by
      obtain ⟨hj1, hj2⟩ := List.getElem?_eq_some_iff.1 hj
      have e : segs = segs.take j ++ seg :: segs.drop (j + 1) := by
        rw [← hj2, List.getElem_cons_drop, List.take_append_drop]
      have e2 := congrArg (fun L => (List.flatten L).length) e
      simp only [List.flatten_append, List.flatten_cons, List.length_append] at e2
      omega
    have hdl : ((cs'.drop (segs.take j).flatten.length).take seg.length).length = seg.length := by
      rw [List.length_take, List.length_drop]; omega
    obtain ⟨v, hv, hfi⟩ := seg_is hsg hdl (h1.trans hys) r f hr
    refine ⟨v, ?_, hfi⟩
    rw [← Go.Deep.add_add, hat q hql, hqe]
    rw [List.getElem?_take_of_lt hrl, List.getElem?_drop] at hv
    exact hv

/-- A struct of numbers. -/
theorem istruct_open {t : TypeId} {fs : Array Field} {n : Nat} {cs : List Value} {x : DataW H × List MemPlace} (he : P.underlying t = some (.struct fs)) (hone : oneCellFields P fs = true) (hC : P.cellsOf t = fs.size)
    (hks : ∀ (j : Nat) g, fs[j]? = some g → P.underlying g.type = some (.int .i64)) (hl : cs.length = P.cellsOf t) (h : DataW.trod enc P w base (fun _ => true) held n t cs = some x) :
    ∃ zs : List Int, zs.length = fs.size ∧ cs = zs.map (Value.int .i64) ∧ ∀ z ∈ zs, (Lit.int .i64 z).wf = true := by
  have hs : SegOf P (List.replicate fs.size (.int .i64)) t := .inr ⟨fs, he, hone, by simp, fun j f hj => by
    have hj1 : j < fs.size := by
      have := (List.getElem?_eq_some_iff.1 hj).1
      simpa using this
    rw [List.getElem?_replicate_of_lt hj1] at hj
    cases hj
    exact ⟨fs[j], Array.getElem?_eq_getElem hj1, hks j _ (Array.getElem?_eq_getElem hj1)⟩⟩
  have hf := seg_is hs (by simp; omega) h
  have key : ∀ m, m ≤ fs.size → ∃ zs : List Int, zs.length = m ∧ cs.take m = zs.map (Value.int .i64) ∧ ∀ z ∈ zs, (Lit.int .i64 z).wf = true := by
    intro m
    induction m with
    | zero => exact fun _ => ⟨[], rfl, by simp, by simp⟩
    | succ m ih =>
      intro hm
      obtain ⟨zs, h1, h2, h3⟩ := ih (by omega)
      obtain ⟨v, hv, z, rfl, hz⟩ := hf m (.int .i64) (by rw [List.getElem?_replicate_of_lt (by omega)])
      refine ⟨zs ++ [z], by simp [h1], by rw [List.take_add_one, h2, hv]; simp, fun y hy => ?_⟩
      rcases List.mem_append.1 hy with hy | hy
      · exact h3 y hy
      · rw [List.mem_singleton.1 hy]; exact hz
  obtain ⟨zs, h1, h2, h3⟩ := key fs.size (Nat.le_refl _)
  rw [List.take_of_length_le (by omega)] at h2
  exact ⟨zs, h1, h2, h3⟩
end

theorem list2 {α : Type} {l : List α} (h : l.length = 2) : ∃ a b, l = [a, b] := by
  match l, h with
  | [a, b], _ => exact ⟨a, b, rfl⟩

end Go.Proofs.YtnjfcedkfobbcaaGreat
