/-
  The pool of blocks in memory, and the contracts of its calls.
-/
import Derived.Test.YtnjfcedkfobbcaaGreatBlockPure
import Derived.Test.YtnjfcedkfobbcaaGreatProg
namespace Go.Proofs.YtnjfcedkfobbcaaGreat
open Go Go.RowKit
set_option linter.unusedSectionVars false
set_option linter.unusedSimpArgs false
set_option linter.unusedVariables false
set_option maxRecDepth 100000

theorem kFiles : KeyKind Tryz.prog 3 kInt := key_int Tryz.underlying3
theorem tFiles : Tryz.prog.underlying 94 = some (.map 3 124) := Tryz.underlying94
theorem tBlocks : Tryz.prog.underlying 125 = some (.map 3 133) := Tryz.underlying125
theorem zFile (w : World) : (zeroValue 124).run Tryz.prog w = .ok (.pointer none) w := by kernel_rfl
theorem zBlock (w : World) : (zeroValue 133).run Tryz.prog w = .ok (.pointer none) w := by kernel_rfl

def ptr (b : Nat) : Value := .pointer (some ⟨b, 0, none⟩)

def rowOf (f : Int → Int) (k : Int) : Array Value := ((List.range 16).map fun (i : Nat) => Value.int .u8 (f (16 * k + i))).toArray

/-- A file at block xb; S: the blocks that it has. -/
def FileAt (w : World) (xb : Nat) (S : Nat → Prop) (F : FileV) : Prop :=
  F.ok ∧ ∃ (bm : Nat) (ad : Int → Nat),
    w.heap[xb]? = some (.cells #[.int .i64 F.size, .map (some bm)] 127 (0, 0)) ∧
    MapAt w bm kInt (F.keys.map fun k => (k, ptr (ad k))) ∧
    (∀ k ∈ F.keys, w.heap[ad k]? = some (.cells (rowOf F.byte k) 134 (0, 0))) ∧
    (∀ k ∈ F.keys, ∀ j ∈ F.keys, ad k = ad j → k = j) ∧
    (∀ b, S b ↔ b = xb ∨ b = bm ∨ ∃ k ∈ F.keys, b = ad k)

/-- A pool at block pb. -/
def PoolAt (w : World) (pb : Nat) (S : Nat → Prop) (V : PoolV) : Prop :=
  ∃ (mf : Nat) (xa : Int → Nat) (fs : Int → Nat → Prop),
    w.heap[pb]? = some (.cells #[.int .i64 V.left, .map (some mf), .int .i64 V.made] 96 (0, 0)) ∧
    MapAt w mf kInt (V.files.map fun x => (x.1, ptr (xa x.1))) ∧
    (∀ x ∈ V.files, FileAt w (xa x.1) (fs x.1) x.2) ∧
    (∀ x ∈ V.files, ¬ fs x.1 pb ∧ ¬ fs x.1 mf) ∧
    (∀ x ∈ V.files, ∀ y ∈ V.files, x.1 ≠ y.1 → ∀ b, fs x.1 b → ¬ fs y.1 b) ∧
    (∀ b, S b ↔ b = pb ∨ b = mf ∨ ∃ x ∈ V.files, fs x.1 b)

/-- What a call did: outside of S nothing turned; what the thing has now it had, or it is new. -/
structure Turn (w : World) (S : Nat → Prop) (w' : World) (S' : Nat → Prop) : Prop where
  keep : Keep w w' S
  new : ∀ b, S' b → S b ∨ w.heap.size ≤ b

theorem FileAt.keep {w w' : World} {xb : Nat} {S T : Nat → Prop} {F : FileV} (h : FileAt w xb S F) (k : Keep w w' T) (hd : ∀ b, S b → ¬ T b) : FileAt w' xb S F := by
  obtain ⟨hok, bm, ad, h1, h2, h3, h4, h5⟩ := h
  refine ⟨hok, bm, ad, k.get h1 (hd _ ((h5 _).2 (.inl rfl))), h2.keep k (hd _ ((h5 _).2 (.inr (.inl rfl)))), ?_, h4, h5⟩
  intro x hx
  exact k.get (h3 x hx) (hd _ ((h5 _).2 (.inr (.inr ⟨x, hx, rfl⟩))))

theorem FileAt.lt {w : World} {xb : Nat} {S : Nat → Prop} {F : FileV} (h : FileAt w xb S F) {b : Nat} (hb : S b) : b < w.heap.size := by
  obtain ⟨hok, bm, ad, h1, h2, h3, h4, h5⟩ := h
  rcases (h5 b).1 hb with rfl | rfl | ⟨k, hk, rfl⟩
  · exact lt_of_blk h1
  · exact h2.lt
  · exact lt_of_blk (h3 k hk)

theorem PoolAt.keep {w w' : World} {pb : Nat} {S T : Nat → Prop} {V : PoolV} (h : PoolAt w pb S V) (k : Keep w w' T) (hd : ∀ b, S b → ¬ T b) : PoolAt w' pb S V := by
  obtain ⟨mf, xa, fs, h1, h2, h3, h4, h5, h6⟩ := h
  refine ⟨mf, xa, fs, k.get h1 (hd _ ((h6 _).2 (.inl rfl))), h2.keep k (hd _ ((h6 _).2 (.inr (.inl rfl)))), ?_, h4, h5, h6⟩
  intro x hx
  exact (h3 x hx).keep k (fun b hb => hd b ((h6 b).2 (.inr (.inr ⟨x, hx, hb⟩))))

theorem PoolAt.lt {w : World} {pb : Nat} {S : Nat → Prop} {V : PoolV} (h : PoolAt w pb S V) {b : Nat} (hb : S b) : b < w.heap.size := by
  obtain ⟨mf, xa, fs, h1, h2, h3, h4, h5, h6⟩ := h
  rcases (h6 b).1 hb with rfl | rfl | ⟨x, hx, hb⟩
  · exact lt_of_blk h1
  · exact h2.lt
  · exact (h3 x hx).lt hb

theorem aget_map {α : Type} (L : List (Int × α)) (g : Int → α → Value) (k : Int) : aget (L.map fun x => (x.1, g x.1 x.2)) k = (aget L k).map (g k) := by
  induction L with
  | nil => rfl
  | cons x r ih =>
    obtain ⟨a, v⟩ := x
    simp only [List.map_cons, aget]
    split
    · rename_i h; subst h; rfl
    · exact ih

theorem aget_keys (L : List Int) (g : Int → Value) (k : Int) : aget (L.map fun x => (x, g x)) k = if k ∈ L then some (g k) else none := by
  induction L with
  | nil => rfl
  | cons x r ih =>
    simp only [List.map_cons, aget, List.mem_cons]
    by_cases h : x = k
    · subst h; simp
    · have h' : ¬ k = x := fun e => h e.symm
      rw [if_neg h, ih]; simp [h']

theorem aget_mem {α : Type} {L : List (Int × α)} {k : Int} {v : α} (h : aget L k = some v) : (k, v) ∈ L := by
  induction L with
  | nil => simp [aget] at h
  | cons x r ih =>
    obtain ⟨a, u⟩ := x
    simp only [aget] at h
    split at h
    · rename_i e; subst e; simp at h; subst h; simp
    · exact List.mem_cons_of_mem _ (ih h)

theorem aget_none_iff {α : Type} {L : List (Int × α)} {k : Int} : aget L k = none ↔ k ∉ L.map Prod.fst := by
  induction L with
  | nil => simp [aget]
  | cons x r ih =>
    obtain ⟨a, u⟩ := x
    simp only [aget, List.map_cons, List.mem_cons, not_or]
    split
    · rename_i e; subst e; simp
    · rename_i e; rw [ih]; constructor
      · exact fun q => ⟨fun z => e z.symm, q⟩
      · exact fun q => q.2

/-! ### Size, Used, Left -/
theorem size_c {w : World} {pb : Nat} {S : Nat → Prop} {V : PoolV} (h : PoolAt w pb S V) (f : Int) :
    Calls Tryz.prog 84 #[ptr pb, .int .i64 f] w fun e w' => e = .returned (.int .i64 (V.size f)) ∧ w = w' := by
  obtain ⟨mf, xa, fs, h1, h2, h3, h4, h5, h6⟩ := h
  have c1 : w.cell? ⟨pb, 1, none⟩ = some (.map (some mf)) := by rw [cell_blk h1]; rfl
  have l := lookup_run (P := Tryz.prog) kFiles tFiles zFile h2 f false
  simp only [Bool.false_eq_true, if_false, aget_map V.files (fun k _ => ptr (xa k)), kInt] at l
  unfold PoolV.size
  cases hg : aget V.files f with
  | none =>
    rw [hg] at l
    simp only [Option.map_none, Option.getD_none] at l
    clear h1 h2 h3 h4 h5 h6 hg
    go_enter Tryz.func84, Tryz.ntmps84
    unfold ptr
    go_wp2
    go_ret
    exact ⟨rfl, rfl⟩
  | some F =>
    rw [hg] at l
    simp only [Option.map_some, Option.getD_some] at l
    obtain ⟨hok, bm, ad, g1, g2, g3, g4, g5⟩ := h3 _ (aget_mem hg)
    have c2 : w.cell? ⟨xa f, 0, none⟩ = some (.int .i64 F.size) := by rw [cell_blk g1]; rfl
    clear h1 h2 h3 h4 h5 h6 hg g1 g2 g3 g4 g5 hok
    unfold ptr at *
    go_enter Tryz.func84, Tryz.ntmps84
    go_wp2
    go_ret
    exact ⟨rfl, rfl⟩

end Go.Proofs.YtnjfcedkfobbcaaGreat
