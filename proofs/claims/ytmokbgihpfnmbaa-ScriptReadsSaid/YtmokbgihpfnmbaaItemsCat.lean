/-
  Bytes and items that are laid behind one another: what an append reads, what the row is then read as.
-/
import Derived.Test.YtmokbgihpfnmbaaItemsP
namespace Go.Proofs.Ytmokbgihpfnmbaa
open Go Go.RowKit
set_option linter.unusedSectionVars false
set_option linter.unusedSimpArgs false
set_option linter.unusedVariables false

/-- An operation whose guard holds. -/
theorem wpList_wanted {P : Program} {w : World} {ops : Array Oper} {rest : List Oper} {o : Oper} {a : Act} {Q : Exit → Act → World → Prop} (hw : Region.wanted o (yielded ops a.tmps) = true)
    (h : ∀ K : Act → World → Prop, (∀ a w, wpList P ops Q rest a w → K a w) → o.wp P a w K Q) : wpList P ops Q (o :: rest) a w :=
  wpList_step fun K hK => by rw [if_pos hw]; exact h K hK

theorem addr_at (b off j : Nat) : ((⟨b, off, none⟩ : Addr).add j) = ⟨b, off + j, none⟩ := by
  unfold Addr.add
  split
  · rename_i h; rw [h]; rfl
  · rfl

/-- What an append reads of a slice of bytes. -/
def NewsB (w : World) (a : Option Addr) (l : Bs) : Prop := l.length = 0 ∨ ∃ ad, a = some ad ∧ ∀ j u, (l.map u8V)[j]? = some u → w.cell? (ad.add j) = some u

theorem BSl.news {w : World} {a : Option Addr} {n cap : Nat} {l : Bs} (h : BSl w (.slice a n cap) l) : NewsB w a l := by
  by_cases h0 : l.length = 0
  · exact .inl h0
  · obtain ⟨b, off, rfl, _, hc⟩ := h.some (by omega)
    refine .inr ⟨_, rfl, fun j u hj => ?_⟩
    rw [addr_at]
    rw [List.getElem?_map] at hj
    cases hx : l[j]? with
    | none => rw [hx] at hj; simp at hj
    | some x => rw [hx] at hj; simp at hj; rw [← hj]; exact hc j x hx

theorem BSr.news {w : World} {a : Option Addr} {n cap : Nat} {l : Bs} (h : BSr w (.slice a n cap) l) : NewsB w a l := by
  rcases h with h | ⟨rfl, _⟩
  · exact h.news
  · exact .inl rfl

theorem OwnB.bsl {w : World} {v : Value} {l : Bs} (h : OwnB w v l) : BSl w v l := by
  rcases rows_val h with ⟨rfl, h0⟩ | ⟨g, cap, rfl, hc, _, hg⟩
  · exact .inl ⟨rfl, List.length_eq_zero_iff.1 h0⟩
  · refine .inr ⟨g, 0, cap, rfl, hc, ?_, hg, fun i u hi => ?_⟩
    · rcases h.2 with ⟨e, _⟩ | ⟨g', cap', cur, e, _, _, _, hcm, _⟩
      · cases e
      · cases e; exact hcm
    · rw [Nat.zero_add]
      exact (rows_cell h (mapGet (f := u8V) hi)).1

theorem u8_one (l : Bs) : ∀ u ∈ l.map u8V, u.oneCell' = true := by
  intro u hu
  obtain ⟨x, _, rfl⟩ := List.mem_map.1 hu
  rfl

/-- What an append reads of a slice of items. -/
theorem ItemsIn.news {w : World} {a : Option Addr} {n cap : Nat} {L : List ItemV} (h : ItemsIn w (.slice a n cap) L) : ∃ xs : List ItemD, xs.map Prod.fst = L ∧ (∀ x ∈ xs, GoodD w x) ∧
    (xs.length = 0 ∨ ∃ ad, a = some ad ∧ ∀ j u, (flat pairC xs)[j]? = some u → w.cell? (ad.add j) = some u) ∧ (∀ b, (Value.slice a n cap).ownBlock = some b → xs.length = 0 ∨ b < w.heap.size) := by
  obtain ⟨xs, h1, h2, a', cap', h3, h4, h5, h6⟩ := h
  simp only [Value.slice.injEq] at h3
  obtain ⟨rfl, _, rfl⟩ := h3
  refine ⟨xs, h1, h2, ?_, ?_⟩
  · rcases h6 with h6 | ⟨b, off, e, hb, hc⟩
    · left; rw [← h1, List.map_eq_nil_iff] at h6; rw [h6]; rfl
    · exact .inr ⟨_, e, fun j u hj => by rw [addr_at]; exact hc j u hj⟩
  · intro b q
    rcases h6 with h6 | ⟨b', off, e, hb, hc⟩
    · left; rw [← h1, List.map_eq_nil_iff] at h6; rw [h6]; rfl
    · right; rw [e] at q; simp [Value.ownBlock] at q; omega

theorem pair_one {w : World} {xs : List ItemD} (hg : ∀ x ∈ xs, GoodD w x) : ∀ u ∈ flat pairC xs, u.oneCell' = true := by
  intro u hu
  unfold flat at hu
  obtain ⟨x, hx0, hx⟩ := List.mem_flatMap.1 hu
  obtain ⟨a, cap, e⟩ := (hg x hx0).1
  obtain ⟨⟨ik, ith, inn, ⟨op, path, tt, fd, fl, md, n2, m2, dat⟩⟩, dv⟩ := x
  simp only at e
  subst e
  simp only [pairC, itemC, callC, List.mem_cons, List.cons_append, List.nil_append, List.not_mem_nil, or_false] at hx
  rcases hx with rfl | rfl | rfl | rfl | rfl | rfl | rfl | rfl | rfl | rfl | rfl | rfl <;> rfl

/-- A row of one's own that holds items is a slice of items. -/
theorem items_of_row {w : World} {a : Option Addr} {n cap : Nat} {xs : List ItemD} (h : w.ownsRow 0 39 12 (.slice a n cap) n (flat pairC xs)) (hn : n = xs.length) (hg : ∀ x ∈ xs, GoodD w x) : ItemsIn w (.slice a n cap) (xs.map Prod.fst) := by
  subst hn
  have hcap : cap ≤ maxLen := by
    rcases h.2 with ⟨e, _⟩ | ⟨g, cap', cur, e, _, _, _, hcm', _⟩
    · simp only [Value.slice.injEq] at e; rw [e.2.2]; exact Nat.zero_le _
    · simp only [Value.slice.injEq] at e; rw [e.2.2]; exact hcm'
  have hle : xs.length ≤ cap := by
    obtain ⟨_, _, e, h⟩ := rows_val2 h
    simp only [Value.slice.injEq] at e
    omega
  refine ⟨xs, rfl, hg, a, cap, by rw [List.length_map], by rw [List.length_map]; exact hle, hcap, ?_⟩
  by_cases h0 : xs.length = 0
  · left; rw [List.length_eq_zero_iff.1 h0]; rfl
  · right
    obtain ⟨g, rfl, _, _, hgl⟩ := rows_some h (by omega)
    exact ⟨g, 0, rfl, hgl, fun i u hi => by rw [Nat.zero_add]; exact (rows_cell h hi).1⟩

theorem ItemsIn.take {w : World} {a : Option Addr} {n cap : Nat} {L : List ItemV} (h : ItemsIn w (.slice a n cap) L) {j : Nat} (hj : j ≤ L.length) : ItemsIn w (.slice a j cap) (L.take j) := by
  obtain ⟨xs, h1, h2, a', cap', h3, h4, h5, h6⟩ := h
  simp only [Value.slice.injEq] at h3
  obtain ⟨rfl, _, rfl⟩ := h3
  have hl : (L.take j).length = j := by rw [List.length_take]; omega
  refine ⟨xs.take j, by rw [List.map_take, h1], fun x hx => h2 x (List.mem_of_mem_take hx), a, cap, by rw [hl], by rw [hl]; omega, h5, ?_⟩
  rcases h6 with h6 | ⟨b, off, e, hb, hc⟩
  · left; rw [h6]; simp
  · refine .inr ⟨b, off, e, hb, fun i u hi => hc i u ?_⟩
    rw [flat_take pairC 12 pairC_len] at hi
    exact take_get hi

/-- A slice of items, its items with their data named. -/
structure ItemsX (w : World) (a : Option Addr) (xs : List ItemD) : Prop where
  good : ∀ x ∈ xs, GoodD w x
  cells : xs.length = 0 ∨ ∃ b off, a = some ⟨b, off, none⟩ ∧ b < w.heap.size ∧ ∀ i u, (flat pairC xs)[i]? = some u → w.cell? ⟨b, off + i, none⟩ = some u

theorem ItemsIn.ex {w : World} {a : Option Addr} {n cap : Nat} {L : List ItemV} (h : ItemsIn w (.slice a n cap) L) : ∃ xs : List ItemD, xs.map Prod.fst = L ∧ ItemsX w a xs := by
  obtain ⟨xs, h1, h2, a', cap', h3, h4, h5, h6⟩ := h
  simp only [Value.slice.injEq] at h3
  obtain ⟨rfl, _, rfl⟩ := h3
  refine ⟨xs, h1, h2, h6.imp (fun h6 => ?_) id⟩
  rw [← h1, List.map_eq_nil_iff] at h6; rw [h6]; rfl

theorem ItemsX.aside {w w' : World} {a : Option Addr} {xs : List ItemD} (h : ItemsX w a xs) (k : Keep w w' (fun _ => False)) : ItemsX w' a xs :=
  ⟨fun x hx => ⟨(h.good x hx).1, (h.good x hx).2.aside k⟩, h.cells.imp id (fun ⟨b, off, e, hb, hc⟩ => ⟨b, off, e, Nat.lt_of_lt_of_le hb k.size, fun i u hi => k.cell (hc i u hi) (fun q => q)⟩)⟩

theorem ItemsX.news {w : World} {a : Option Addr} {xs : List ItemD} (h : ItemsX w a xs) {n : Nat} (hn : xs.length = n) : n = 0 ∨ ∃ ad, a = some ad ∧ ∀ j u, (flat pairC xs)[j]? = some u → w.cell? (ad.add j) = some u := by
  subst hn
  exact h.cells.imp id (fun ⟨b, off, e, _, hc⟩ => ⟨_, e, fun j u hj => by rw [addr_at]; exact hc j u hj⟩)

theorem ItemsX.at {w : World} {a : Option Addr} {xs : List ItemD} (h : ItemsX w a xs) {k : Nat} {x : ItemD} (hx : xs[k]? = some x) : ∃ b off, a = some ⟨b, off, none⟩ ∧ ∀ j u, (pairC x)[j]? = some u → w.cell? ⟨b, off + k * 12 + j, none⟩ = some u := by
  have hk := (List.getElem?_eq_some_iff.1 hx).1
  rcases h.cells with h0 | ⟨b, off, e, hb, hc⟩
  · omega
  · refine ⟨b, off, e, fun j u hj => ?_⟩
    rw [Nat.add_assoc]
    refine hc _ u ?_
    have hj12 : j < 12 := by
      have := (List.getElem?_eq_some_iff.1 hj).1
      rw [pairC_len] at this
      exact this
    rw [flat_get pairC 12 pairC_len hx hj12]
    exact hj

theorem BSr.take {w : World} {a : Option Addr} {n cap : Nat} {l : Bs} (h : BSr w (.slice a n cap) l) {k : Nat} (hk : k ≤ l.length) : BSr w (.slice a k cap) (l.take k) := by
  have hl : (l.take k).length = k := by rw [List.length_take]; omega
  rcases h with (⟨e, rfl⟩ | ⟨b, off, c, e, h1, h2, h3, h4⟩) | ⟨rfl, ad, c, e, hc⟩
  · simp only [Value.slice.injEq] at e
    obtain ⟨rfl, rfl, rfl⟩ := e
    have : k = 0 := by simpa using hk
    subst this
    exact .inl (BSl.nil w)
  · simp only [Value.slice.injEq] at e
    obtain ⟨rfl, rfl, rfl⟩ := e
    exact .inl (.inr ⟨b, off, cap, by rw [hl], by omega, h2, h3, fun i u hi => h4 i u (take_get hi)⟩)
  · simp only [Value.slice.injEq] at e
    obtain ⟨rfl, rfl, rfl⟩ := e
    have : k = 0 := by simpa using hk
    subst this
    exact .inr ⟨by simp, ad, cap, rfl, hc⟩

theorem BSr.val {w : World} {v : Value} {l : Bs} (h : BSr w v l) : ∃ a cap, v = .slice a l.length cap ∧ l.length ≤ cap ∧ cap ≤ maxLen := by
  rcases h with h | ⟨rfl, ad, cap, rfl, hc⟩
  · exact h.val
  · exact ⟨_, _, rfl, Nat.zero_le _, hc⟩

/-- The first append onto a new row, the next: nothing old turns. -/
theorem fresh1 {w w4 : World} {o : Obj} {sa : Option Addr} {n cap : Nat} (r2 : Keep (w.alloc o) w4 (fun b => some b = (Value.slice (some ⟨w.heap.size, 0, none⟩) 0 0).ownBlock))
    (r3 : ∀ b, (Value.slice sa n cap).ownBlock = some b → (Value.slice (some ⟨w.heap.size, 0, none⟩) 0 0).ownBlock = some b ∨ b = (w.alloc o).heap.size) : Keep w w4 (fun _ => False) ∧ ∀ b, (Value.slice sa n cap).ownBlock = some b → w.heap.size ≤ b := by
  have hs : (w.alloc o).heap.size = w.heap.size + 1 := by simp
  refine ⟨(Keep.alloc w o (fun _ => False)).trans r2 (fun b q => .inr (by
    have : b = w.heap.size := by simpa [Value.ownBlock] using q
    omega)), fun b q => ?_⟩
  rcases r3 b q with q | q
  · have : b = w.heap.size := by simpa [Value.ownBlock, eq_comm] using q
    omega
  · omega

theorem fresh2 {w w4 w5 : World} {v v' : Value} (k : Keep w w4 (fun _ => False)) (f : ∀ b, v.ownBlock = some b → w.heap.size ≤ b) (r2 : Keep w4 w5 (fun b => some b = v.ownBlock))
    (r3 : ∀ b, v'.ownBlock = some b → v.ownBlock = some b ∨ b = w4.heap.size) : Keep w w5 (fun _ => False) ∧ ∀ b, v'.ownBlock = some b → w.heap.size ≤ b := by
  have hs := k.size
  refine ⟨k.trans r2 (fun b q => .inr (f b q.symm)), fun b q => ?_⟩
  rcases r3 b q with q | q
  · exact f b q
  · omega

end Go.Proofs.Ytmokbgihpfnmbaa
