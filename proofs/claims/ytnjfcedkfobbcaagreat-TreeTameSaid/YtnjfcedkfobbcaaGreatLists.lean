/-
  A row of values that is read: a slice's elements; of one's own or come in.
-/
import Derived.Test.YtnjfcedkfobbcaaGreatHeaps
import Derived.Deep.QuietTactic
namespace Go.Proofs.YtnjfcedkfobbcaaGreat
open Go Go.RowKit
set_option linter.unusedSectionVars false
set_option linter.unusedSimpArgs false
set_option linter.unusedVariables false

/-- v is a slice whose elements are xs, each of one cell. -/
def ListIn (w : World) (v : Value) (xs : List Value) : Prop :=
  ∃ a cap, v = .slice a xs.length cap ∧ (xs = [] ∨ ∃ b off, a = some ⟨b, off, none⟩ ∧ b < w.heap.size ∧ ∀ i u, xs[i]? = some u → w.cell? ⟨b, off + i, none⟩ = some u)

/-- The blocks in which v's elements lie are none of S. -/
def Clear (v : Value) (S : Nat → Prop) : Prop := ∀ b, v.ownBlock = some b → ¬ S b

theorem ListIn.keep {w w' : World} {v : Value} {xs : List Value} {S : Nat → Prop} (h : ListIn w v xs) (k : Keep w w' S) (hS : Clear v S) : ListIn w' v xs := by
  obtain ⟨a, cap, rfl, h⟩ := h
  refine ⟨a, cap, rfl, h.imp id ?_⟩
  rintro ⟨b, off, rfl, h1, h2⟩
  exact ⟨b, off, rfl, Nat.lt_of_lt_of_le h1 k.size, fun i u hi => k.cell (h2 i u hi) (hS b rfl)⟩

theorem ListIn.old {w w' : World} {v : Value} {xs : List Value} (h : ListIn w v xs) (k : Keep w w' (fun b => w.heap.size ≤ b)) : ListIn w' v xs := by
  obtain ⟨a, cap, rfl, h⟩ := h
  refine ⟨a, cap, rfl, h.imp id ?_⟩
  rintro ⟨b, off, rfl, h1, h2⟩
  exact ⟨b, off, rfl, Nat.lt_of_lt_of_le h1 k.size, fun i u hi => k.cell (h2 i u hi) (by omega)⟩

theorem ListIn.aside {w w' : World} {v : Value} {xs : List Value} (h : ListIn w v xs) (k : Keep w w' (fun _ => False)) : ListIn w' v xs := h.keep k (fun _ _ q => q)

theorem ListIn.of_own {w : World} {e : TypeId} {v : Value} {n : Nat} {xs : List Value} (h : w.ownsRow 0 e 1 v n xs) : ListIn w v xs := by
  have hl := rows_len h
  rcases rows_val h with ⟨rfl, rfl⟩ | ⟨g, cap, rfl, h3, _, h4⟩
  · have : xs = [] := List.length_eq_zero_iff.1 (by omega)
    subst this
    exact ⟨none, 0, rfl, .inl rfl⟩
  · refine ⟨some ⟨g, 0, none⟩, cap, by rw [hl, Nat.mul_one], .inr ⟨g, 0, rfl, h4, fun i u hi => ?_⟩⟩
    rw [Nat.zero_add]
    exact (rows_cell h hi).1

theorem ListIn.val {w : World} {v : Value} {xs : List Value} (h : ListIn w v xs) : ∃ a cap, v = .slice a xs.length cap := by
  obtain ⟨a, cap, rfl, _⟩ := h
  exact ⟨a, cap, rfl⟩

theorem ListIn.some {w : World} {a : Option Addr} {m cap : Nat} {xs : List Value} (h : ListIn w (.slice a m cap) xs) (h0 : 0 < xs.length) : ∃ b off, a = some ⟨b, off, none⟩ ∧ b < w.heap.size ∧ ∀ i u, xs[i]? = some u → w.cell? ⟨b, off + i, none⟩ = some u := by
  obtain ⟨a', cap', e, h⟩ := h
  cases e
  rcases h with rfl | h
  · simp at h0
  · exact h

theorem mapGet {α β : Type} {f : α → β} {l : List α} {i : Nat} {x : α} (h : l[i]? = some x) : (l.map f)[i]? = some (f x) := by rw [List.getElem?_map, h]; rfl

theorem drewN_keep (w : World) (S : Nat → Prop) (q : Nat) : Keep w (w.drewN q) S := ⟨Nat.le_refl _, fun _ _ _ => rfl, rfl, rfl, rfl⟩

/-! ### a row of one's own that is being laid -/

structure Made (w wr : World) (e : TypeId) (v : Value) (xs : List Value) : Prop where
  row : wr.ownsRow 0 e 1 v xs.length xs
  keep : Keep w wr (fun _ => False)
  new : ∀ b, v.ownBlock = some b → w.heap.size ≤ b

theorem Made.nil (w : World) (e : TypeId) : Made w w e (.slice none 0 0) [] := ⟨rows_nil w e 1, Keep.refl _ _, fun b q => by simp [Value.ownBlock] at q⟩

theorem Made.turn {w w1 w2 : World} {e : TypeId} {v : Value} {xs : List Value} {S : Nat → Prop} (h : Made w w1 e v xs) (k : Keep w1 w2 S) (hc : Clear v S) (hS : ∀ b, S b → w.heap.size ≤ b) : Made w w2 e v xs :=
  ⟨rows_keep h.row k hc, h.keep.trans k (fun b q => .inr (hS b q)), h.new⟩

theorem Made.aside {w w1 w2 : World} {e : TypeId} {v : Value} {xs : List Value} (h : Made w w1 e v xs) (k : Keep w1 w2 (fun _ => False)) : Made w w2 e v xs := h.turn k (fun _ _ q => q) (fun _ q => q.elim)

theorem Made.val {w wr : World} {e : TypeId} {v : Value} {xs : List Value} (h : Made w wr e v xs) : ∃ a cap, v = .slice a xs.length cap :=
  let ⟨a, cap, h1, _⟩ := rows_val2 h.row; ⟨a, cap, h1⟩

theorem Made.valn {w wr : World} {e : TypeId} {v : Value} {xs : List Value} (h : Made w wr e v xs) {n : Nat} (hn : xs.length = n) : ∃ a cap, v = .slice a n cap := by subst hn; exact h.val

theorem Made.list {w wr : World} {e : TypeId} {v : Value} {xs : List Value} (h : Made w wr e v xs) : ListIn wr v xs := ListIn.of_own h.row

theorem Made.lt {w wr : World} {e : TypeId} {v : Value} {xs : List Value} (h : Made w wr e v xs) : ∀ b, v.ownBlock = some b → b < wr.heap.size := by
  intro b q
  rcases rows_val h.row with ⟨rfl, _⟩ | ⟨g, cap, rfl, _, h5, h6⟩
  · simp [Value.ownBlock] at q
  · rw [h5] at q; cases q; exact h6

theorem Made.set {w wr : World} {e : TypeId} {g n cap : Nat} {xs : List Value} (h : Made w wr e (.slice (some ⟨g, 0, none⟩) n cap) xs) (j : Nat) (u : Value) : Made w (wr.setCell ⟨g, j, none⟩ u) e (.slice (some ⟨g, 0, none⟩) n cap) (xs.set j u) :=
  ⟨by rw [List.length_set]; exact rows_set h.row j u, h.keep.trans (Keep.setCell wr ⟨g, j, none⟩ u) (fun b q => .inr (by rw [show b = g from q]; exact h.new g rfl)), h.new⟩

section
variable {P : Program} {w0 w1 : World} {ops : Array Oper} {rest : List Oper} {o : Oper} {a : Act} {Q : Exit → Act → World → Prop}

/-- 'append(s, u)' at a row of one's own. -/
theorem law_push (hg : o.guard = none) (s x : Operand) (t : TypeId) (hop : o.op = .call { callee := .builtin .append, args := #[s, x], argTypes := #[t, t] }) {e : TypeId} {i : TypeInfo} {z : Value} (ht : P.underlying t = some (.slice e)) (hi : P.info? e = some i)
    (hz : i.zero = some z) (hsize : i.size = 1) (hby : i.bytes ≤ 64) (hzs : z.cells.size = 1) {v : Value} {xs : List Value} (M : Made w0 w1 e v xs) (hs : a.eval s = v) (u : Value) (hu : u.oneCell' = true) (hx : a.eval x = .slice (some ⟨w1.heap.size, 0, none⟩) 1 1) {n : Nat} (hn : xs.length = n) (hl : n ≤ 1099511627000)
    (hK : ∀ a8 cap8 w8, Made w0 w8 e (.slice a8 (n + 1) cap8) (xs ++ [u]) → Keep w1 w8 (fun b => v.ownBlock = some b) → (∀ b, (Value.slice a8 (n + 1) cap8).ownBlock = some b → v.ownBlock = some b ∨ w1.heap.size ≤ b) → wpList P ops Q rest (a.put o.dst (.slice a8 (n + 1) cap8)) w8) :
    wpList P ops Q (o :: rest) a (w1.alloc (.cells #[u] e)) := by
  subst hn
  have hk0 := Keep.alloc w1 (.cells #[u] e) (fun _ => False)
  refine law_append_row hg s x t hop ht hi hz hsize hby hzs (by omega) hs (rows_keep M.row hk0 (fun _ _ q => q)) [u] hx rfl (.inr ⟨_, rfl, cells_new w1 [u] e⟩) (fun y hy => by simp at hy; rw [hy]; exact hu) (by omega) ?_
  intro a8 cap8 w8 h1 h2 h3
  have hsz := hk0.size
  refine hK a8 cap8 w8 ⟨by simpa using h1, (M.keep.trans hk0 (fun _ q => q.elim)).trans h2 (fun b q => .inr (M.new b q.symm)), fun b q => ?_⟩ ?_ ?_
  · rcases h3 b q with z | z
    · exact M.new b z
    · have := M.keep.size; omega
  · exact (hk0.mono (fun _ q => q.elim)).trans (h2.mono (T := fun b => v.ownBlock = some b) (fun b q => q.symm)) (fun b q => .inl q)
  · intro b q
    rcases h3 b q with z | z
    · exact .inl z
    · exact .inr (by omega)

/-- The same; the place where u lies is told by a number. -/
theorem law_pushH (hg : o.guard = none) (s x : Operand) (t : TypeId) (hop : o.op = .call { callee := .builtin .append, args := #[s, x], argTypes := #[t, t] }) {e : TypeId} {i : TypeInfo} {z : Value} (ht : P.underlying t = some (.slice e)) (hi : P.info? e = some i)
    (hz : i.zero = some z) (hsize : i.size = 1) (hby : i.bytes ≤ 64) (hzs : z.cells.size = 1) {v : Value} {xs : List Value} (M : Made w0 w1 e v xs) (hs : a.eval s = v) (u : Value) (hu : u.oneCell' = true) {H : Nat} (hH : w1.heap.size = H) (hx : a.eval x = .slice (some ⟨H, 0, none⟩) 1 1) {n : Nat} (hn : xs.length = n) (hl : n ≤ 1099511627000)
    (hK : ∀ a8 cap8 w8, Made w0 w8 e (.slice a8 (n + 1) cap8) (xs ++ [u]) → Keep w1 w8 (fun b => v.ownBlock = some b) → (∀ b, (Value.slice a8 (n + 1) cap8).ownBlock = some b → v.ownBlock = some b ∨ w1.heap.size ≤ b) → wpList P ops Q rest (a.put o.dst (.slice a8 (n + 1) cap8)) w8) :
    wpList P ops Q (o :: rest) a (w1.alloc (.cells #[u] e)) := by
  subst hH
  exact law_push hg s x t hop ht hi hz hsize hby hzs M hs u hu hx hn hl hK
end

end Go.Proofs.YtnjfcedkfobbcaaGreat
