/-
  A file of the document's while it is being turned.
-/
import Derived.Test.YtemoickagefjmaaRPool0
namespace Go.Proofs.Ytemoickagefjmaa
open Go Go.RowKit
set_option linter.unusedSectionVars false
set_option linter.unusedSimpArgs false
set_option linter.unusedVariables false

structure RFlux (w0 : World) (fs : Nat → Prop) (xb : Nat) (w : World) (v : Value) (K : List Int) (m : Nat) (f : Int → Int) : Prop where
  blk : w.heap[xb]? = some (.cells (v :: hasL K).toArray 89 (0, 0))
  row : w.ownsRow 0 5 1 v m (rowL m f)
  own : ∀ b, v.ownBlock = some b → (fs b ∨ w0.heap.size ≤ b) ∧ b ≠ xb
  keep : Keep w0 w fs
  at_ : fs xb
  old : xb < w0.heap.size

theorem RFlux.start {w : World} {xb : Nat} {S : Nat → Prop} {F : FileV} (h : RFileAt w xb S F) : ∃ v, RFlux w S xb w v F.keys F.size.toNat F.byte := by
  obtain ⟨v, h1, h2, h3, h4⟩ := h.ex
  exact ⟨v, h1, h2, fun b q => ⟨.inl (h3 b q).1, (h3 b q).2⟩, Keep.refl _ _, h4, h.lt _ h4⟩

theorem RFlux.fin {w0 w : World} {fs : Nat → Prop} {xb : Nat} {v : Value} {K : List Int} {m : Nat} {f : Int → Int} (h : RFlux w0 fs xb w v K m f) (hfs : ∀ b, fs b → b < w0.heap.size) {F : FileV} (hok : F.ok) (hz : ∀ q, F.size ≤ q → F.byte q = 0)
    (hs : F.size = m) (hb : ∀ i : Nat, i < m → f i = F.byte i) (hk : ∀ i : Nat, i < 64 → ((i : Int) ∈ K ↔ (i : Int) ∈ F.keys)) :
    ∃ G, RFileAt w xb G F ∧ ∀ b, G b → fs b ∨ w0.heap.size ≤ b := by
  have e : F.size.toNat = m := by omega
  refine ⟨fun b => fs b ∨ v.ownBlock = some b, ⟨hok, hz, ⟨v, by rw [← hasL_congr hk]; exact h.blk, by rw [e, ← rowL_congr hb]; exact h.row, fun b q => ⟨.inr q, (h.own b q).2⟩, .inl h.at_⟩, fun b q => ?_⟩, fun b q => ?_⟩
  · rcases q with q | q
    · exact Nat.lt_of_lt_of_le (hfs b q) h.keep.size
    · rcases rows_val h.row with ⟨rfl, _⟩ | ⟨g, cap, rfl, _, h5, h6⟩
      · simp [Value.ownBlock] at q
      · rw [h5] at q; cases q; exact h6
  · rcases q with q | q
    · exact .inl q
    · exact (h.own b q).1

theorem RFlux.aside {w0 w w' : World} {fs : Nat → Prop} {xb : Nat} {v : Value} {K : List Int} {m : Nat} {f : Int → Int} (h : RFlux w0 fs xb w v K m f) (k : Keep w w' (fun _ => False)) : RFlux w0 fs xb w' v K m f :=
  ⟨k.get h.blk (fun q => q), rows_keep h.row k (fun _ _ q => q), h.own, h.keep.trans k (fun _ q => q.elim), h.at_, h.old⟩

/-- The row is another one now. -/
theorem RFlux.turn {w0 w w' : World} {fs : Nat → Prop} {xb : Nat} {v v' : Value} {K : List Int} {m m' : Nat} {f f' : Int → Int} (h : RFlux w0 fs xb w v K m f) (k : Keep w w' (fun b => v.ownBlock = some b)) (hr : w'.ownsRow 0 5 1 v' m' (rowL m' f'))
    (hv : ∀ b, v'.ownBlock = some b → v.ownBlock = some b ∨ w.heap.size ≤ b) : RFlux w0 fs xb (w'.setCell ⟨xb, 0, none⟩ v') v' K m' f' := by
  have hw := h.keep.size
  have ho : ∀ b, v'.ownBlock = some b → (fs b ∨ w0.heap.size ≤ b) ∧ b ≠ xb := fun b q => by
    rcases hv b q with z | z
    · exact h.own b z
    · refine ⟨.inr (by omega), fun e => ?_⟩
      have := h.old
      omega
  have b1 := k.get h.blk (fun q => (h.own _ q).2 rfl)
  refine ⟨?_, rows_keep hr (Keep.setCell w' ⟨xb, 0, none⟩ v') (fun b q e => (ho b q).2 e), ho, ?_, h.at_, h.old⟩
  · have := heap_setCell_eq (off := 0) v' b1
    simpa using this
  · refine (h.keep.trans k (fun b q => ?_)).trans (Keep.setCell w' ⟨xb, 0, none⟩ v') (fun b q => .inl (by rw [show b = xb from q]; exact h.at_))
    exact (h.own b q).1

theorem RFlux.byte {w0 w : World} {fs : Nat → Prop} {xb g n cap : Nat} {K : List Int} {m : Nat} {f : Int → Int} (h : RFlux w0 fs xb w (.slice (some ⟨g, 0, none⟩) n cap) K m f) (j : Nat) (c : Int) : RFlux w0 fs xb (w.setCell ⟨g, j, none⟩ (.int .u8 c)) (.slice (some ⟨g, 0, none⟩) n cap) K m (fun q => if q = j then c else f q) := by
  have k := Keep.setCell w ⟨g, j, none⟩ (.int .u8 c)
  have ho := h.own g rfl
  refine ⟨k.get h.blk (fun q => ho.2 (show xb = g from q).symm), ?_, h.own, h.keep.trans k (fun b q => by rw [show b = g from q]; exact ho.1), h.at_, h.old⟩
  rw [← rowL_set]
  exact rows_set h.row j _

theorem RFlux.has {w0 w : World} {fs : Nat → Prop} {xb : Nat} {v : Value} {K J : List Int} {m : Nat} {f : Int → Int} (h : RFlux w0 fs xb w v K m f) (i : Nat) (hi : i < 64) (b : Bool) (hb : decide ((i : Int) ∈ J) = b) (hj : ∀ j : Nat, j < 64 → j ≠ i → ((j : Int) ∈ K ↔ (j : Int) ∈ J)) :
    RFlux w0 fs xb (w.setCell ⟨xb, 1 + i, none⟩ (.bool b)) v J m f := by
  have k := Keep.setCell w ⟨xb, 1 + i, none⟩ (.bool b)
  refine ⟨?_, rows_keep h.row k (fun b q e => (h.own b q).2 e), h.own, h.keep.trans k (fun b q => .inl (by rw [show b = xb from q]; exact h.at_)), h.at_, h.old⟩
  rw [heap_setCell_eq _ h.blk, cons_set, hasL_set hi hb hj]

theorem rowL_grow {F : FileV} (hz : ∀ q, F.size ≤ q → F.byte q = 0) {m : Nat} (hm : F.size ≤ m) : rowL m F.byte ++ [.int .u8 0] = rowL (m + 1) F.byte := by
  rw [rowL_snoc, hz m hm]

theorem put_keys (F : FileV) (p c : Int) : (F.put p c).keys = (F.addKey (p / 16)).keys := rfl
theorem put_byte (F : FileV) (p c : Int) : (F.put p c).byte = fun q => if q = p then c else F.byte q := by
  show (fun q => if q = p then c else (F.addKey (p / 16)).byte q) = _
  rw [F.addKey_byte]

theorem write_zero {F : FileV} (hz : ∀ q, F.size ≤ q → F.byte q = 0) (p : Int) (l : List Int) : ∀ q, FileV.size { F.puts p l with size := max F.size (p + l.length) } ≤ q → FileV.byte { F.puts p l with size := max F.size (p + l.length) } q = 0 := by
  intro q hq
  have hq' : max F.size (p + l.length) ≤ q := hq
  show (F.puts p l).byte q = 0
  rw [FileV.puts_byte, if_neg (by omega)]
  exact hz q (by omega)

theorem cut_zero (F : FileV) (s : Int) : ∀ q, (F.cut s).size ≤ q → (F.cut s).byte q = 0 := by
  intro q hq
  have hq' : s ≤ q := hq
  show (if q < s then F.byte q else 0) = 0
  rw [if_neg (by omega)]

end Go.Proofs.Ytemoickagefjmaa
