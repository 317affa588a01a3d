/-
  What comes in: a row of numbers, a slice of structs opened to its cells (open_slice_fields: the block of the kit's page on structs, copied as that page asks).
-/
import Derived.Test.YtnjfcedkfobbcaaGreatLaws
import Derived.OpenShut
import Derived.Deep.Slices
import Derived.Deep.Fields
import Derived.ChangeSame
namespace Go.Proofs.YtnjfcedkfobbcaaGreat
open Go Go.RowKit Go.ChangeShapes Go.WideShapes Go.Deep
set_option linter.unusedSectionVars false
set_option linter.unusedSimpArgs false
set_option linter.unusedVariables false

/-- What is known of a slice of bytes that came in. -/
def RowIs (w : World) (a : Option Addr) (len cap : Nat) (zs : List Int) : Prop :=
  (a = none ∧ len = 0 ∧ cap = 0 ∧ zs = []) ∨
  ∃ x, a = some x ∧ len ≤ cap ∧ cap ≤ maxLen ∧ zs.length = cap ∧ (∀ i, i < zs.length → w.cell? (x.add i) = some (.int .u8 (zs.getD i 0))) ∧ ∀ n ∈ zs, (Lit.int .u8 n).wf = true

theorem RowIs.cap {w : World} {a : Option Addr} {len cap : Nat} {zs : List Int} (h : RowIs w a len cap zs) : len ≤ cap ∧ cap ≤ maxLen ∧ zs.length = cap := by
  rcases h with ⟨_, rfl, rfl, rfl⟩ | ⟨x, _, h1, h2, h3, _⟩
  · simp
  · exact ⟨h1, h2, h3⟩

theorem RowIs.bytes {w : World} {a : Option Addr} {len cap : Nat} {zs : List Int} (h : RowIs w a len cap zs) (m : Nat) (hm : m ≤ len) : (zs.take m).length = m ∧ BytesIn w (.slice a m cap) (zs.take m) (fun b => w.heap.size ≤ b) := by
  have hc := h.cap
  have hl : (zs.take m).length = m := by rw [List.length_take]; omega
  refine ⟨hl, ?_, a, cap, by rw [hl], ?_⟩
  · intro c hcm
    rcases h with ⟨_, _, _, rfl⟩ | ⟨x, _, _, _, _, _, hw⟩
    · simp at hcm
    · have := hw c (List.mem_of_mem_take hcm)
      have hb := bounds_u8 this
      omega
  · rcases h with ⟨_, rfl, _, rfl⟩ | ⟨x, rfl, h1, h2, h3, h4, _⟩
    · left; simp
    · by_cases h0 : m = 0
      · left; subst h0; simp
      · right
        obtain ⟨b, off, sp⟩ := x
        have hc0 := h4 0 (by omega)
        have hsp : sp = none := by
          cases sp with
          | none => rfl
          | some q =>
            simp only [Addr.add, if_true] at hc0
            unfold World.cell? at hc0
            split at hc0 <;> simp at hc0
        subst hsp
        refine ⟨b, off, rfl, fun q => ?_, fun i hi => ?_⟩
        · have := World.block_lt_of_cell? w _ hc0
          have h5 : b < w.heap.size := by simpa [Addr.add] using this
          omega
        · have h6 := h4 i (by omega)
          have ha : (Addr.add ⟨b, off, none⟩ i) = ⟨b, off + i, none⟩ := by
            unfold Addr.add
            split
            · rename_i h0; subst h0; rfl
            · rfl
          rw [ha] at h6
          rw [h6]
          have : i < m := by omega
          simp [List.getD, List.getElem?_take, this]

/-- What a field of a struct that came in is. -/
inductive FieldKind where
  | int (k : IntKind) | bytes | str | bool

def FieldIs (w : World) : FieldKind → Value → Prop
  | .int k, v => ∃ n, v = .int k n ∧ (Lit.int k n).wf = true
  | .bytes, v => ∃ a len cap zs, v = .slice a len cap ∧ RowIs w a len cap zs
  | .str, v => ∃ s : ByteArray, v = .string s ∧ s.size ≤ maxLen
  | .bool, v => ∃ b, v = .bool b

/-- What is known of a slice of structs that came in. -/
def StructsIs (fs : List FieldKind) (w : World) (a : Option Addr) (len cap : Nat) : Prop :=
  (a = none ∧ len = 0 ∧ cap = 0) ∨
  ∃ x, a = some x ∧ len ≤ cap ∧ cap ≤ maxLen ∧ ∀ i, i < len → ∀ (j : Nat) f, fs[j]? = some f → ∃ v, w.cell? (x.add (i * fs.length + j)) = some v ∧ FieldIs w f v

theorem StructsIs.cap {fs : List FieldKind} {w : World} {a : Option Addr} {len cap : Nat} (h : StructsIs fs w a len cap) : len ≤ cap ∧ cap ≤ maxLen := by
  rcases h with ⟨_, rfl, rfl⟩ | ⟨x, _, h1, h2, _⟩
  · simp
  · exact ⟨h1, h2⟩

/-- One field of one struct, read. -/
theorem StructsIs.field {fs : List FieldKind} {w : World} {a : Option Addr} {len cap : Nat} (h : StructsIs fs w a len cap) (h0 : 0 < len) (hfs : 0 < fs.length) :
    ∃ b off, a = some ⟨b, off, none⟩ ∧ b < w.heap.size ∧ ∀ i, i < len → ∀ (j : Nat) f, fs[j]? = some f → ∃ v, w.cell? ⟨b, off + i * fs.length + j, none⟩ = some v ∧ FieldIs w f v := by
  rcases h with ⟨_, h1, _⟩ | ⟨x, rfl, _, _, h3⟩
  · omega
  · obtain ⟨b, off, sp⟩ := x
    have e : ∀ n, w.cell? (Addr.add ⟨b, off, none⟩ n) = w.cell? ⟨b, off + n, none⟩ := by
      intro n
      unfold Addr.add
      split
      · rename_i h0; subst h0; rfl
      · rfl
    have hsp : sp = none := by
      obtain ⟨v, hv, _⟩ := h3 0 h0 0 fs[0] (List.getElem?_eq_getElem hfs)
      cases sp with
      | none => rfl
      | some q =>
        rw [Nat.zero_mul] at hv
        simp only [Addr.add, if_true, Nat.add_zero] at hv
        unfold World.cell? at hv
        split at hv <;> simp at hv
    subst hsp
    have hb : b < w.heap.size := by
      obtain ⟨v, hv, _⟩ := h3 0 h0 0 fs[0] (List.getElem?_eq_getElem hfs)
      rw [e] at hv
      exact World.block_lt_of_cell? w _ hv
    refine ⟨b, off, rfl, hb, fun i hi j f hj => ?_⟩
    obtain ⟨v, hv, hf⟩ := h3 i hi j f hj
    rw [e, ← Nat.add_assoc] at hv
    exact ⟨v, hv, hf⟩

section
variable {H : Type} {enc : TypeId × Value → H} {P : Program} {w : World} {base : Nat} {spare : Nat → Bool} {held : Bool}
theorem open_slice_fields {t e : TypeId} {fs : Array Field} {fuel : Nat} {cs : List Value} {x : DataW H × List MemPlace} (ht : P.underlying t = some (.slice e)) (he : P.underlying e = some (.struct fs))
    (hone : oneCellFields P fs = true) (hC : P.cellsOf e = fs.size) (h : DataW.trod enc P w base spare held fuel t cs = some x) :
    (cs = [.slice none 0 0] ∧ x = (.nil, [])) ∨
    ∃ (a : Addr) (len cap m : Nat) (D : Nat → DataW H) (Pl : Nat → List MemPlace), cs = [.slice (some a) len cap] ∧ base ≤ a.block ∧ len ≤ cap ∧ cap ≤ maxLen ∧ m = (if spare a.block then cap else len) ∧
      x = (.slice ((List.range len).map D) ((List.range (m - len)).map fun j => D (len + j)), MemPlace.row a (m * fs.size) ++ (List.range m).flatMap Pl) ∧
      ∀ i, i < m → ∃ (ys : List (DataW H × List MemPlace)) (n : Nat), D i = .agg (ys.map (·.1)) ∧ Pl i = ys.flatMap (·.2) ∧ ys.length = fs.size ∧
        ∀ (j : Nat) (f : Field), fs[j]? = some f → ∃ (v : Value) (y : DataW H × List MemPlace), w.cell? (a.add (i * fs.size + j)) = some v ∧ ys[j]? = some y ∧ DataW.trod enc P w base spare held n f.type [v] = some y := by
  rcases open_slice ht h with h0 | ⟨a, len, cap, m, n, D, Pl, hcs, hb, hl, hm, hmm, hx, hi⟩
  · exact .inl h0
  · refine .inr ⟨a, len, cap, m, D, Pl, hcs, hb, hl, hm, hmm, by rw [hC] at hx; exact hx, fun i him => ?_⟩
    obtain ⟨cs', hc, ht'⟩ := hi i him
    rw [hC] at hc
    obtain ⟨ys, n', hn', hy, hlen, hyl, hf⟩ := DataW.trod_struct he ht'
    obtain ⟨_, hcl, hat⟩ := World.cells?_some hc
    simp only [Prod.mk.injEq] at hy
    refine ⟨ys, n', hy.1, hy.2, hyl, fun j f hj => ?_⟩
    obtain ⟨ho, hk⟩ := hone_of hone j f hj
    have hjl : j < fs.size := (Array.getElem?_eq_some_iff.1 hj).1
    have hcell := hat j hjl
    have hv : cs'[j]? = some (cs'[j]'(by omega)) := List.getElem?_eq_getElem (by omega)
    have h1 := hf j f hj
    rw [ho, hk] at h1
    have hone' : (cs'.drop j).take 1 = [cs'[j]'(by omega)] := by
      rw [List.drop_eq_getElem_cons (by omega)]
      rfl
    rw [hone'] at h1
    have hys : ys[j]? = some (ys[j]'(by omega)) := List.getElem?_eq_getElem (by omega)
    refine ⟨_, _, ?_, hys, h1.trans hys⟩
    rw [← Go.Deep.add_add, hcell, hv]

def FieldOf (P : Program) : FieldKind → TypeId → Prop
  | .int k, t => P.underlying t = some (.int k)
  | .bytes, t => ∃ e, P.underlying t = some (.slice e) ∧ P.underlying e = some (.int .u8) ∧ P.cellsOf e = 1
  | .str, t => P.underlying t = some .string
  | .bool, t => P.underlying t = some .bool

theorem field_is {f : FieldKind} {t : TypeId} {n : Nat} {v : Value} {y : DataW H × List MemPlace} (hf : FieldOf P f t) (h : DataW.trod enc P w base (fun _ => true) held n t [v] = some y) : FieldIs w f v := by
  cases f with
  | int k =>
    obtain ⟨m, hc, _, hw⟩ := DataW.trod_int hf h
    simp at hc
    exact ⟨m, hc, hw⟩
  | str =>
    obtain ⟨s, hc, _, hs⟩ := DataW.trod_string hf h
    simp at hc
    exact ⟨s, hc, hs⟩
  | bool =>
    obtain ⟨b, hc, _⟩ := DataW.trod_bool hf h
    simp at hc
    exact ⟨b, hc⟩
  | bytes =>
    obtain ⟨e, h1, h2, h3⟩ := hf
    rcases open_ints h1 h2 h3 h with ⟨hcs, _⟩ | ⟨x, l, c, zs, hcs, _, hl, hm, hz, _, hcell, hwz⟩
    · simp at hcs
      exact ⟨_, _, _, [], hcs, .inl ⟨rfl, rfl, rfl, rfl⟩⟩
    · simp at hcs
      exact ⟨_, _, _, zs, hcs, .inr ⟨_, rfl, hl, hm, by simpa using hz, hcell, hwz⟩⟩

theorem structs_open {t e : TypeId} {fs : Array Field} {fuel : Nat} {a : Option Addr} {len cap : Nat} {x : DataW H × List MemPlace} (ks : List FieldKind) (ht : P.underlying t = some (.slice e)) (he : P.underlying e = some (.struct fs))
    (hone : oneCellFields P fs = true) (hC : P.cellsOf e = fs.size) (hl : ks.length = fs.size) (hks : ∀ (j : Nat) f, ks[j]? = some f → ∃ g, fs[j]? = some g ∧ FieldOf P f g.type)
    (h : DataW.trod enc P w base (fun _ => true) held fuel t [.slice a len cap] = some x) : StructsIs ks w a len cap := by
  rcases open_slice_fields ht he hone hC h with ⟨hcs, _⟩ | ⟨ad, l, c, m, D, Pl, hcs, _, hlc, hm, hmm, _, hi⟩
  · simp at hcs
    obtain ⟨rfl, rfl, rfl⟩ := hcs
    exact .inl ⟨rfl, rfl, rfl⟩
  · simp at hcs
    obtain ⟨rfl, rfl, rfl⟩ := hcs
    refine .inr ⟨_, rfl, hlc, hm, fun i hil j f hj => ?_⟩
    obtain ⟨ys, n, _, _, _, hf⟩ := hi i (by rw [hmm]; simp; omega)
    obtain ⟨g, hg, hk⟩ := hks j f hj
    obtain ⟨v, y, hcell, _, hv⟩ := hf j g hg
    rw [← hl] at hcell
    exact ⟨v, hcell, field_is hk hv⟩
end

end Go.Proofs.YtnjfcedkfobbcaaGreat
