/-
  What comes in: slices of texts, of numbers, of bools, as lists that are read.
-/
import Derived.Test.YtnjfcedkfobbcaaLists
import Derived.Test.YtnjfcedkfobbcaaStructs
import Derived.SliceStrings
import Derived.Deep.Grids
namespace Go.Proofs.Ytnjfcedkfobbcaa
open Go Go.RowKit Go.ChangeShapes Go.WideShapes Go.Deep
set_option linter.unusedSectionVars false
set_option linter.unusedSimpArgs false
set_option linter.unusedVariables false

theorem listIn_of {w : World} {x : Addr} {len cap : Nat} {xs : List Value} (hl : xs.length = len) (h : ∀ i u, xs[i]? = some u → w.cell? (x.add i) = some u) : ListIn w (.slice (some x) len cap) xs := by
  subst hl
  refine ⟨some x, cap, rfl, ?_⟩
  cases xs with
  | nil => exact .inl rfl
  | cons y r =>
    obtain ⟨b, off, sp⟩ := x
    have h0 := h 0 y rfl
    have hsp : sp = none := by
      cases sp with
      | none => rfl
      | some q =>
        simp only [Addr.add, if_true] at h0
        unfold World.cell? at h0
        split at h0 <;> simp at h0
    subst hsp
    have e : ∀ n, w.cell? (Addr.add ⟨b, off, none⟩ n) = w.cell? ⟨b, off + n, none⟩ := by
      intro n
      unfold Addr.add
      split
      · rename_i h0; subst h0; rfl
      · rfl
    refine .inr ⟨b, off, rfl, ?_, fun i u hi => by rw [← e]; exact h i u hi⟩
    rw [e] at h0
    exact World.block_lt_of_cell? w _ h0

def StrsIs (w : World) (a : Option Addr) (len cap : Nat) (ks : List ByteArray) : Prop :=
  ks.length = len ∧ len ≤ maxLen ∧ ListIn w (.slice a len cap) (ks.map Value.string) ∧ ∀ s ∈ ks, s.size ≤ maxLen
def NumsIs (k : IntKind) (w : World) (a : Option Addr) (len cap : Nat) (zs : List Int) : Prop :=
  zs.length = len ∧ len ≤ maxLen ∧ ListIn w (.slice a len cap) (zs.map (Value.int k)) ∧ ∀ n ∈ zs, (Lit.int k n).wf = true
def BoolsIs (w : World) (a : Option Addr) (len cap : Nat) (bs : List Bool) : Prop :=
  bs.length = len ∧ len ≤ maxLen ∧ ListIn w (.slice a len cap) (bs.map Value.bool)

section
variable {H : Type} {enc : TypeId × Value → H} {P : Program} {w : World} {base : Nat} {held : Bool}

theorem take_getA {α : Type} {l : List α} {n i : Nat} {x : α} (h : (l.take n)[i]? = some x) : l[i]? = some x := by
  rw [List.getElem?_take] at h
  split at h
  · exact h
  · simp at h

theorem strs_open {t e : TypeId} {fuel : Nat} {a : Option Addr} {len cap : Nat} {x : DataW H × List MemPlace} (ht : P.underlying t = some (.slice e)) (he : P.underlying e = some .string) (hc : P.cellsOf e = 1)
    (h : DataW.trod enc P w base (fun _ => true) held fuel t [.slice a len cap] = some x) : ∃ ks, StrsIs w a len cap ks := by
  rcases open_strings ht he hc h with ⟨hcs, _⟩ | ⟨y, l, c, ss, hcs, _, hl, hm, hz, _, hcell, hwz⟩
  · simp at hcs
    obtain ⟨rfl, rfl, rfl⟩ := hcs
    exact ⟨[], rfl, Nat.zero_le _, ⟨none, 0, rfl, .inl rfl⟩, by simp⟩
  · simp at hcs
    obtain ⟨rfl, rfl, rfl⟩ := hcs
    simp only [if_true] at hz
    have hlen : (ss.take len).length = len := by rw [List.length_take]; omega
    refine ⟨ss.take len, hlen, by omega, listIn_of (by rw [List.length_map, hlen]) (fun i u hi => ?_), fun s hs => hwz s (List.mem_of_mem_take hs)⟩
    rw [List.getElem?_map] at hi
    cases hx : (ss.take len)[i]? with
    | none => rw [hx] at hi; simp at hi
    | some z =>
      rw [hx] at hi
      simp at hi
      subst hi
      have h1 := take_getA hx
      obtain ⟨h2, h3⟩ := List.getElem?_eq_some_iff.1 h1
      rw [hcell i h2, List.getD_eq_getElem?_getD, h1]
      rfl

theorem nums_open {t e : TypeId} {k : IntKind} {fuel : Nat} {a : Option Addr} {len cap : Nat} {x : DataW H × List MemPlace} (ht : P.underlying t = some (.slice e)) (he : P.underlying e = some (.int k)) (hc : P.cellsOf e = 1)
    (h : DataW.trod enc P w base (fun _ => true) held fuel t [.slice a len cap] = some x) : ∃ ks, NumsIs k w a len cap ks := by
  rcases open_ints ht he hc h with ⟨hcs, _⟩ | ⟨y, l, c, ss, hcs, _, hl, hm, hz, _, hcell, hwz⟩
  · simp at hcs
    obtain ⟨rfl, rfl, rfl⟩ := hcs
    exact ⟨[], rfl, Nat.zero_le _, ⟨none, 0, rfl, .inl rfl⟩, by simp⟩
  · simp at hcs
    obtain ⟨rfl, rfl, rfl⟩ := hcs
    simp only [if_true] at hz
    have hlen : (ss.take len).length = len := by rw [List.length_take]; omega
    refine ⟨ss.take len, hlen, by omega, listIn_of (by rw [List.length_map, hlen]) (fun i u hi => ?_), fun s hs => hwz s (List.mem_of_mem_take hs)⟩
    rw [List.getElem?_map] at hi
    cases hx : (ss.take len)[i]? with
    | none => rw [hx] at hi; simp at hi
    | some z =>
      rw [hx] at hi
      simp at hi
      subst hi
      have h1 := take_getA hx
      obtain ⟨h2, h3⟩ := List.getElem?_eq_some_iff.1 h1
      rw [hcell i h2, List.getD_eq_getElem?_getD, h1]
      rfl

theorem bools_open {t e : TypeId} {fuel : Nat} {a : Option Addr} {len cap : Nat} {x : DataW H × List MemPlace} (ht : P.underlying t = some (.slice e)) (he : P.underlying e = some .bool) (hc : P.cellsOf e = 1)
    (h : DataW.trod enc P w base (fun _ => true) held fuel t [.slice a len cap] = some x) : ∃ ks, BoolsIs w a len cap ks := by
  rcases open_bools ht he hc h with ⟨hcs, _⟩ | ⟨y, l, c, B, hcs, _, hl, hm, _, hcell⟩
  · simp at hcs
    obtain ⟨rfl, rfl, rfl⟩ := hcs
    exact ⟨[], rfl, Nat.zero_le _, ⟨none, 0, rfl, .inl rfl⟩⟩
  · simp at hcs
    obtain ⟨rfl, rfl, rfl⟩ := hcs
    have hlen : ((List.range len).map B).length = len := by simp
    refine ⟨(List.range len).map B, hlen, by omega, listIn_of (by simp) (fun i u hi => ?_)⟩
    rw [List.map_map, List.getElem?_map] at hi
    by_cases hlt : i < len
    · rw [List.getElem?_range hlt] at hi
      simp at hi
      subst hi
      exact hcell i (by omega)
    · rw [List.getElem?_eq_none (by simpa using hlt)] at hi
      simp at hi
end

end Go.Proofs.Ytnjfcedkfobbcaa
