/-
  Parts of the walk's proof: Structs, Laws2, BlockLs, RPools. (joined by pack.py)
-/
import Derived.OpenShut
import Derived.Deep.Slices
import Derived.Deep.Fields
import Derived.ChangeSame
import Derived.Lib.SlBytesConst
import Derived.Deep.Cut
import Derived.Test.YtoanccechefclaaGreatDoorK01
import Derived.Test.YtoanccechefclaaGreatDoorK02
import Derived.Test.YtoanccechefclaaGreatDoorK04
set_option linter.unusedSectionVars false
set_option linter.unusedSimpArgs false
set_option linter.unusedVariables false
namespace Go.Proofs.YtoanccechefclaaGreatDoor
open Go Go.RowKit Go.ChangeShapes Go.WideShapes Go.Deep
def RowIs (w : World) (a : Option Addr) (len cap : Nat) (zs : List Int) : Prop :=
  (a = none ∧ len = 0 ∧ cap = 0 ∧ zs = []) ∨
  ∃ x, a = some x ∧ len ≤ cap ∧ cap ≤ maxLen ∧ zs.length = cap ∧ (∀ i, i < zs.length → w.cell? (x.add i) = some (.int .u8 (zs.getD i 0))) ∧ ∀ n ∈ zs, (Lit.int .u8 n).wf = true
theorem RowIs.cap {w : World} {a : Option Addr} {len cap : Nat} {zs : List Int} (h : RowIs w a len cap zs) : len ≤ cap ∧ cap ≤ maxLen ∧ zs.length = cap := by
  rcases h with ⟨_, rfl, rfl, rfl⟩ | ⟨x, _, h1, h2, h3, _⟩
  · simp
  · exact ⟨h1, h2, h3⟩
theorem RowIs.bytes {w : World} {a : Option Addr} {len cap : Nat} {zs : List Int} (h : RowIs w a len cap zs) (m : Nat) (hm : m ≤ len) : (zs.take m).length = m ∧ BytesIn w (.slice a m cap) (zs.take m) (fun b => w.heap.size ≤ b) := by
  have hc := h.cap
  have hl : (zs.take m).length = m := by rw [List.length_take]; omega
  refine ⟨hl, ?_, a, cap, by rw [hl], ?_⟩
  · intro c hcm
    rcases h with ⟨_, _, _, rfl⟩ | ⟨x, _, _, _, _, _, hw⟩
    · simp at hcm
    · have := hw c (List.mem_of_mem_take hcm)
      have hb := bounds_u8 this
      omega
  · rcases h with ⟨_, rfl, _, rfl⟩ | ⟨x, rfl, h1, h2, h3, h4, _⟩
    · left; simp
    · by_cases h0 : m = 0
      · left; subst h0; simp
      · right
        obtain ⟨b, off, sp⟩ := x
        have hc0 := h4 0 (by omega)
        have hsp : sp = none := by
          cases sp with
          | none => rfl
          | some q =>
            simp only [Addr.add, if_true] at hc0
            unfold World.cell? at hc0
            split at hc0 <;> simp at hc0
        subst hsp
        refine ⟨b, off, rfl, fun q => ?_, fun i hi => ?_⟩
        · have := World.block_lt_of_cell? w _ hc0
          have h5 : b < w.heap.size := by simpa [Addr.add] using this
          omega
        · have h6 := h4 i (by omega)
          have ha : (Addr.add ⟨b, off, none⟩ i) = ⟨b, off + i, none⟩ := by
            unfold Addr.add
            split
            · rename_i h0; subst h0; rfl
            · rfl
          rw [ha] at h6
          rw [h6]
          have : i < m := by omega
          simp [List.getD, List.getElem?_take, this]
inductive FieldKind where
  | int (k : IntKind) | bytes | str | bool
def FieldIs (w : World) : FieldKind → Value → Prop
  | .int k, v => ∃ n, v = .int k n ∧ (Lit.int k n).wf = true
  | .bytes, v => ∃ a len cap zs, v = .slice a len cap ∧ RowIs w a len cap zs
  | .str, v => ∃ s : ByteArray, v = .string s ∧ s.size ≤ maxLen
  | .bool, v => ∃ b, v = .bool b
def StructsIs (fs : List FieldKind) (w : World) (a : Option Addr) (len cap : Nat) : Prop :=
  (a = none ∧ len = 0 ∧ cap = 0) ∨
  ∃ x, a = some x ∧ len ≤ cap ∧ cap ≤ maxLen ∧ ∀ i, i < len → ∀ (j : Nat) f, fs[j]? = some f → ∃ v, w.cell? (x.add (i * fs.length + j)) = some v ∧ FieldIs w f v
theorem StructsIs.cap {fs : List FieldKind} {w : World} {a : Option Addr} {len cap : Nat} (h : StructsIs fs w a len cap) : len ≤ cap ∧ cap ≤ maxLen := by
  rcases h with ⟨_, rfl, rfl⟩ | ⟨x, _, h1, h2, _⟩
  · simp
  · exact ⟨h1, h2⟩
theorem StructsIs.field {fs : List FieldKind} {w : World} {a : Option Addr} {len cap : Nat} (h : StructsIs fs w a len cap) (h0 : 0 < len) (hfs : 0 < fs.length) :
    ∃ b off, a = some ⟨b, off, none⟩ ∧ b < w.heap.size ∧ ∀ i, i < len → ∀ (j : Nat) f, fs[j]? = some f → ∃ v, w.cell? ⟨b, off + i * fs.length + j, none⟩ = some v ∧ FieldIs w f v := by
  rcases h with ⟨_, h1, _⟩ | ⟨x, rfl, _, _, h3⟩
  · omega
  · obtain ⟨b, off, sp⟩ := x
    have e : ∀ n, w.cell? (Addr.add ⟨b, off, none⟩ n) = w.cell? ⟨b, off + n, none⟩ := by
      intro n
      unfold Addr.add
      split
      · rename_i h0; subst h0; rfl
      · rfl
    have hsp : sp = none := by
      obtain ⟨v, hv, _⟩ := h3 0 h0 0 fs[0] (List.getElem?_eq_getElem hfs)
      cases sp with
      | none => rfl
      | some q =>
        rw [Nat.zero_mul] at hv
        simp only [Addr.add, if_true, Nat.add_zero] at hv
        unfold World.cell? at hv
        split at hv <;> simp at hv
    subst hsp
    have hb : b < w.heap.size := by
      obtain ⟨v, hv, _⟩ := h3 0 h0 0 fs[0] (List.getElem?_eq_getElem hfs)
      rw [e] at hv
      exact World.block_lt_of_cell? w _ hv
    refine ⟨b, off, rfl, hb, fun i hi j f hj => ?_⟩
    obtain ⟨v, hv, hf⟩ := h3 i hi j f hj
    rw [e, ← Nat.add_assoc] at hv
    exact ⟨v, hv, hf⟩
section
variable {H : Type} {enc : TypeId × Value → H} {P : Program} {w : World} {base : Nat} {spare : Nat → Bool} {held : Bool}
theorem open_slice_fields {t e : TypeId} {fs : Array Field} {fuel : Nat} {cs : List Value} {x : DataW H × List MemPlace} (ht : P.underlying t = some (.slice e)) (he : P.underlying e = some (.struct fs))
    (hone : oneCellFields P fs = true) (hC : P.cellsOf e = fs.size) (h : DataW.trod enc P w base spare held fuel t cs = some x) :
    (cs = [.slice none 0 0] ∧ x = (.nil, [])) ∨
    ∃ (a : Addr) (len cap m : Nat) (D : Nat → DataW H) (Pl : Nat → List MemPlace), cs = [.slice (some a) len cap] ∧ base ≤ a.block ∧ len ≤ cap ∧ cap ≤ maxLen ∧ m = (if spare a.block then cap else len) ∧
      x = (.slice ((List.range len).map D) ((List.range (m - len)).map fun j => D (len + j)), MemPlace.row a (m * fs.size) ++ (List.range m).flatMap Pl) ∧
      ∀ i, i < m → ∃ (ys : List (DataW H × List MemPlace)) (n : Nat), D i = .agg (ys.map (·.1)) ∧ Pl i = ys.flatMap (·.2) ∧ ys.length = fs.size ∧
        ∀ (j : Nat) (f : Field), fs[j]? = some f → ∃ (v : Value) (y : DataW H × List MemPlace), w.cell? (a.add (i * fs.size + j)) = some v ∧ ys[j]? = some y ∧ DataW.trod enc P w base spare held n f.type [v] = some y := by
  rcases open_slice ht h with h0 | ⟨a, len, cap, m, n, D, Pl, hcs, hb, hl, hm, hmm, hx, hi⟩
  · exact .inl h0
  · refine .inr ⟨a, len, cap, m, D, Pl, hcs, hb, hl, hm, hmm, by rw [hC] at hx; exact hx, fun i him => ?_⟩
    obtain ⟨cs', hc, ht'⟩ := hi i him
    rw [hC] at hc
    obtain ⟨ys, n', hn', hy, hlen, hyl, hf⟩ := DataW.trod_struct he ht'
    obtain ⟨_, hcl, hat⟩ := World.cells?_some hc
    simp only [Prod.mk.injEq] at hy
    refine ⟨ys, n', hy.1, hy.2, hyl, fun j f hj => ?_⟩
    obtain ⟨ho, hk⟩ := hone_of hone j f hj
    have hjl : j < fs.size := (Array.getElem?_eq_some_iff.1 hj).1
    have hcell := hat j hjl
    have hv : cs'[j]? = some (cs'[j]'(by omega)) := List.getElem?_eq_getElem (by omega)
    have h1 := hf j f hj
    rw [ho, hk] at h1
    have hone' : (cs'.drop j).take 1 = [cs'[j]'(by omega)] := by
      rw [List.drop_eq_getElem_cons (by omega)]
      rfl
    rw [hone'] at h1
    have hys : ys[j]? = some (ys[j]'(by omega)) := List.getElem?_eq_getElem (by omega)
    refine ⟨_, _, ?_, hys, h1.trans hys⟩
    rw [← Go.Deep.add_add, hcell, hv]
def FieldOf (P : Program) : FieldKind → TypeId → Prop
  | .int k, t => P.underlying t = some (.int k)
  | .bytes, t => ∃ e, P.underlying t = some (.slice e) ∧ P.underlying e = some (.int .u8) ∧ P.cellsOf e = 1
  | .str, t => P.underlying t = some .string
  | .bool, t => P.underlying t = some .bool
theorem field_is {f : FieldKind} {t : TypeId} {n : Nat} {v : Value} {y : DataW H × List MemPlace} (hf : FieldOf P f t) (h : DataW.trod enc P w base (fun _ => true) held n t [v] = some y) : FieldIs w f v := by
  cases f with
  | int k =>
    obtain ⟨m, hc, _, hw⟩ := DataW.trod_int hf h
    simp at hc
    exact ⟨m, hc, hw⟩
  | str =>
    obtain ⟨s, hc, _, hs⟩ := DataW.trod_string hf h
    simp at hc
    exact ⟨s, hc, hs⟩
  | bool =>
    obtain ⟨b, hc, _⟩ := DataW.trod_bool hf h
    simp at hc
    exact ⟨b, hc⟩
  | bytes =>
    obtain ⟨e, h1, h2, h3⟩ := hf
    rcases open_ints h1 h2 h3 h with ⟨hcs, _⟩ | ⟨x, l, c, zs, hcs, _, hl, hm, hz, _, hcell, hwz⟩
    · simp at hcs
      exact ⟨_, _, _, [], hcs, .inl ⟨rfl, rfl, rfl, rfl⟩⟩
    · simp at hcs
      exact ⟨_, _, _, zs, hcs, .inr ⟨_, rfl, hl, hm, by simpa using hz, hcell, hwz⟩⟩
end
end Go.Proofs.YtoanccechefclaaGreatDoor
namespace Go.Proofs.YtoanccechefclaaGreatDoor
open Go Go.RowKit
def rowF (n : Nat) (g : Int → Int) : Array Value := ((List.range n).map fun (i : Nat) => Value.int .u8 (g i)).toArray
def listF (n : Nat) (g : Int → Int) : List Int := (List.range n).map fun (i : Nat) => g i
def putF (g : Int → Int) (off : Int) (l : List Int) : Int → Int := fun p => if off ≤ p ∧ p < off + l.length then l.getD (p - off).toNat 0 else g p
section
variable {P : Program} {w : World} {ops : Array Oper} {rest : List Oper} {o : Oper} {a : Act} {Q : Exit → Act → World → Prop}
end
end Go.Proofs.YtoanccechefclaaGreatDoor
namespace Go.Proofs.YtoanccechefclaaGreatDoor
open Go Go.RowKit
set_option maxRecDepth 100000
theorem Turn.refl (w : World) (S : Nat → Prop) : Turn w S w S := ⟨Keep.refl _ _, fun b q => .inl q⟩
theorem Turn.trans {w w1 w2 : World} {S S1 S2 : Nat → Prop} (h : Turn w S w1 S1) (k : Turn w1 S1 w2 S2) : Turn w S w2 S2 :=
  ⟨h.keep.trans k.keep h.new, fun b q => (k.new b q).elim (h.new b) (fun q => .inr (by have := h.keep.size; omega))⟩
theorem Turn.step {w w1 w2 : World} {S S1 : Nat → Prop} (h : Turn w S w1 S1) (k : Keep w1 w2 (fun _ => False)) : Turn w S w2 S1 :=
  ⟨h.keep.trans k (fun b q => q.elim), h.new⟩
theorem BytesIn.turn {w w' : World} {v : Value} {l : List Int} {S S' : Nat → Prop} (h : BytesIn w v l S) (k : Turn w S w' S') : BytesIn w' v l S' := by
  obtain ⟨h1, a, cap, h2, h3⟩ := h
  by_cases hl : l = []
  · exact ⟨h1, a, cap, h2, .inl hl⟩
  · obtain ⟨b, off, h4, h5, h6⟩ := h3.resolve_left hl
    refine ⟨h1, a, cap, h2, .inr ⟨b, off, h4, fun q => ?_, fun i hi => k.keep.cell (h6 i hi) h5⟩⟩
    have h0 := World.block_lt_of_cell? w _ (h6 0 (List.length_pos_iff.2 hl))
    rcases k.new b q with q | q
    · exact h5 q
    · have : b < w.heap.size := h0
      omega
theorem BytesNew.cell {w : World} {v : Value} {l : List Int} {B : Nat} (h : BytesNew w v l B) (hl : l ≠ []) : ∃ b, B ≤ b ∧ v = .slice (some ⟨b, 0, none⟩) l.length l.length ∧ w.heap[b]? = some (.cells (l.map (Value.int .u8)).toArray 5 (0, 0)) :=
  h.resolve_left (fun q => hl q.1)
def V1 : PoolV := (PoolV.write ⟨1, 1, [(1, FileV.empty)]⟩ 1 20 [120]).1
end Go.Proofs.YtoanccechefclaaGreatDoor
namespace Go.Proofs.YtoanccechefclaaGreatDoor
open Go Go.RowKit
set_option maxRecDepth 100000
def One (L : Int) (F : FileV) : PoolV := ⟨L, 1, [(1, F)]⟩
structure Cur (w0 w : World) (pb : Nat) (S : Nat → Prop) (V : PoolV) (n : Int) : Prop where
  pool : PoolAt w pb S V
  keep : Keep w0 w (fun _ => False)
  new : ∀ b, S b → w0.heap.size ≤ b
  ok : V.ok n
theorem Cur.made {w0 w1 w : World} {pb : Nat} {S : Nat → Prop} {V : PoolV} {n : Int} (hk : Keep w0 w1 (fun _ => False)) (hp : PoolAt w pb S V) (ht : Turn w1 (fun _ => False) w S) (ho : V.ok n) : Cur w0 w pb S V n :=
  ⟨hp, hk.trans ht.keep (fun b q => q.elim), fun b q => (ht.new b q).elim (fun z => z.elim) (fun z => by have := hk.size; omega), ho⟩
theorem Cur.turn {w0 w w' : World} {pb : Nat} {S S' : Nat → Prop} {V V' : PoolV} {n n' : Int} (c : Cur w0 w pb S V n) (hp : PoolAt w' pb S' V') (ht : Turn w S w' S') (ho : V'.ok n') : Cur w0 w' pb S' V' n' :=
  ⟨hp, c.keep.trans ht.keep (fun b q => .inr (c.new b q)), fun b q => (ht.new b q).elim (c.new b) (fun z => by have := c.keep.size; omega), ho⟩
theorem Cur.step {w0 w w' : World} {pb : Nat} {S : Nat → Prop} {V : PoolV} {n : Int} (c : Cur w0 w pb S V n) (hk : Keep w w' (fun _ => False)) : Cur w0 w' pb S V n :=
  ⟨c.pool.keep hk (fun b _ q => q), c.keep.trans hk (fun b q => q.elim), c.new, c.ok⟩
theorem Cur.beside {w0 w w' : World} {pb : Nat} {S T : Nat → Prop} {V : PoolV} {n : Int} (c : Cur w0 w pb S V n) (hk : Keep w w' T) (hT : ∀ b, T b → w0.heap.size ≤ b ∧ ¬ S b) : Cur w0 w' pb S V n :=
  ⟨c.pool.keep hk (fun b q z => (hT b z).2 q), c.keep.trans hk (fun b q => .inr (hT b q).1), c.new, c.ok⟩
theorem Cur.bytes {w0 w : World} {pb : Nat} {S : Nat → Prop} {V : PoolV} {n : Int} (c : Cur w0 w pb S V n) {v : Value} {l : List Int} (h : BytesIn w0 v l (fun b => w0.heap.size ≤ b)) : BytesIn w v l S :=
  (h.keep c.keep (fun b q => q.elim)).mono c.new
theorem Cur.below {w0 w : World} {pb : Nat} {S : Nat → Prop} {V : PoolV} {n : Int} (c : Cur w0 w pb S V n) : Below w0.heap.size w0 w := c.keep.below (Nat.le_refl _) (fun b q => q.elim)
def FileV.wrote (F : FileV) (p : Int) (l : List Int) : FileV := if l = [] then F else { F.puts p l with size := max F.size (p + l.length) }
theorem BytesIn.old {w : World} {v : Value} {l : List Int} {D : Nat → Prop} (h : BytesIn w v l D) : BytesIn w v l (fun b => w.heap.size ≤ b) := by
  obtain ⟨h1, a, cap, h2, h3⟩ := h
  refine ⟨h1, a, cap, h2, ?_⟩
  by_cases hl : l = []
  · exact .inl hl
  · obtain ⟨b, off, h4, _, h6⟩ := h3.resolve_left hl
    refine .inr ⟨b, off, h4, fun q => ?_, h6⟩
    have h7 := World.block_lt_of_cell? w _ (h6 0 (List.length_pos_iff.2 hl))
    have : b < w.heap.size := h7
    omega
end Go.Proofs.YtoanccechefclaaGreatDoor
namespace Go.Proofs.YtoanccechefclaaGreatDoor
open Go Go.RowKit
set_option maxRecDepth 100000
def FileV.fit (F : FileV) : Prop := ∀ k ∈ F.keys, k * 16 < F.size
def PoolV.fit (V : PoolV) : Prop := ∀ x ∈ V.files, x.2.fit
theorem PoolV.fit.file {V : PoolV} {n : Int} (h : V.ok n) (hf : V.fit) : V.file.fit := by
  intro x hx
  rcases mem_aset h.nodup hx with rfl | ⟨hx, _⟩
  · intro k hk; simp [FileV.empty] at hk
  · exact hf x hx
theorem PoolV.fit.drop {V : PoolV} {n : Int} (h : V.ok n) (hf : V.fit) (f : Int) : (V.drop f).1.fit := by
  unfold PoolV.drop
  cases hg : aget V.files f with
  | none => exact hf
  | some F => exact fun x hx => hf x (mem_adel h.nodup hx).1
theorem PoolV.fit.cut {V : PoolV} {n : Int} (h : V.ok n) (hf : V.fit) (f s : Int) : (V.cut f s).1.fit := by
  unfold PoolV.cut
  cases hg : aget V.files f with
  | none => exact hf
  | some F =>
    show (if _ then _ else _ : PoolV × Int).1.fit
    split
    · exact hf
    · split
      · exact hf
      · intro x hx
        rcases mem_aset h.nodup hx with rfl | ⟨hx, _⟩
        · intro k hk
          have := (List.mem_filter.1 hk).2
          show k * 16 < s
          simpa using this
        · exact hf x hx
def sumTo (g : Int → Int) : Nat → Int
  | 0 => 0
  | m + 1 => sumTo g m + g (m + 1)
def usedOf (L : List (Int × FileV)) (k : Int) : Int := match aget L k with | none => 0 | some F => F.keys.length
end Go.Proofs.YtoanccechefclaaGreatDoor
namespace Go.Proofs.YtoanccechefclaaGreatDoor
open Go Go.RowKit
def rowL (n : Nat) (f : Int → Int) : List Value := (List.range n).map fun (i : Nat) => Value.int .u8 (f i)
def hasL (K : List Int) : List Value := (List.range 64).map fun (i : Nat) => Value.bool (decide ((i : Int) ∈ K))
def cntK (K : List Int) (j : Nat) : Nat := ((List.range j).filter fun (i : Nat) => decide ((i : Int) ∈ K)).length
structure RFileAt (w : World) (xb : Nat) (S : Nat → Prop) (F : FileV) : Prop where
  ok : F.ok
  zero : ∀ q, F.size ≤ q → F.byte q = 0
  ex : ∃ v, w.heap[xb]? = some (.cells (v :: hasL F.keys).toArray 206 (0, 0)) ∧ w.ownsRow 0 5 1 v F.size.toNat (rowL F.size.toNat F.byte) ∧ (∀ b, v.ownBlock = some b → S b ∧ b ≠ xb) ∧ S xb
  lt : ∀ b, S b → b < w.heap.size
theorem RFileAt.keep {w w' : World} {xb : Nat} {S U : Nat → Prop} {F : FileV} (h : RFileAt w xb S F) (K : Keep w w' U) (hU : ∀ b, S b → ¬ U b) : RFileAt w' xb S F := by
  obtain ⟨v, h1, h2, h3, h4⟩ := h.ex
  exact ⟨h.ok, h.zero, ⟨v, K.get h1 (hU _ h4), rows_keep h2 K (fun b q => hU b (h3 b q).1), h3, h4⟩, fun b q => Nat.lt_of_lt_of_le (h.lt b q) K.size⟩
def slotV (V : PoolV) (xa : Int → Nat) (f : Int) : Value := if (aget V.files f).isSome then ptr (xa f) else .pointer none
def slotsL (V : PoolV) (xa : Int → Nat) : List Value := (List.range V.made.toNat).map fun (i : Nat) => slotV V xa (i + 1)
theorem slotsL_len (V : PoolV) (xa : Int → Nat) : (slotsL V xa).length = V.made.toNat := by simp [slotsL]
theorem slotsL_get (V : PoolV) (xa : Int → Nat) {i : Nat} (h : i < V.made.toNat) : (slotsL V xa)[i]? = some (slotV V xa (i + 1)) := by
  unfold slotsL
  rw [List.getElem?_map, List.getElem?_range h]
  rfl
structure RPoolAt (w : World) (rb : Nat) (S : Nat → Prop) (n : Int) (V : PoolV) : Prop where
  ok : V.ok n
  ex : ∃ (v : Value) (xa : Int → Nat) (fs : Int → Nat → Prop),
    w.heap[rb]? = some (.cells #[.int .i64 n, v] 198 (0, 0)) ∧
    w.ownsRow 0 202 1 v V.made.toNat (slotsL V xa) ∧
    (∀ b, v.ownBlock = some b → S b ∧ b ≠ rb) ∧ S rb ∧
    (∀ x ∈ V.files, RFileAt w (xa x.1) (fs x.1) x.2) ∧
    (∀ x ∈ V.files, ∀ b, fs x.1 b → S b ∧ b ≠ rb ∧ v.ownBlock ≠ some b) ∧
    (∀ x ∈ V.files, ∀ y ∈ V.files, x.1 ≠ y.1 → ∀ b, fs x.1 b → ¬ fs y.1 b)
  lt : ∀ b, S b → b < w.heap.size
theorem RPoolAt.keep {w w' : World} {rb : Nat} {S U : Nat → Prop} {n : Int} {V : PoolV} (h : RPoolAt w rb S n V) (K : Keep w w' U) (hU : ∀ b, S b → ¬ U b) : RPoolAt w' rb S n V := by
  obtain ⟨v, xa, fs, h1, h2, h3, h4, h5, h6, h7⟩ := h.ex
  exact ⟨h.ok, ⟨v, xa, fs, K.get h1 (hU _ h4), rows_keep h2 K (fun b q => hU b (h3 b q).1), h3, h4, fun x hx => (h5 x hx).keep K (fun b q => hU b (h6 x hx b q).1), h6, h7⟩, fun b q => Nat.lt_of_lt_of_le (h.lt b q) K.size⟩
theorem RPoolAt.aside {w w' : World} {rb : Nat} {S : Nat → Prop} {n : Int} {V : PoolV} (h : RPoolAt w rb S n V) (K : Keep w w' (fun _ => False)) : RPoolAt w' rb S n V := h.keep K (fun _ _ q => q)
end Go.Proofs.YtoanccechefclaaGreatDoor
namespace Go.Proofs.YtoanccechefclaaGreatDoor
open Go Go.RowKit
structure RFlux (w0 : World) (fs : Nat → Prop) (xb : Nat) (w : World) (v : Value) (K : List Int) (m : Nat) (f : Int → Int) : Prop where
  blk : w.heap[xb]? = some (.cells (v :: hasL K).toArray 206 (0, 0))
  row : w.ownsRow 0 5 1 v m (rowL m f)
  own : ∀ b, v.ownBlock = some b → (fs b ∨ w0.heap.size ≤ b) ∧ b ≠ xb
  keep : Keep w0 w fs
  at_ : fs xb
  old : xb < w0.heap.size
theorem RFlux.start {w : World} {xb : Nat} {S : Nat → Prop} {F : FileV} (h : RFileAt w xb S F) : ∃ v, RFlux w S xb w v F.keys F.size.toNat F.byte := by
  obtain ⟨v, h1, h2, h3, h4⟩ := h.ex
  exact ⟨v, h1, h2, fun b q => ⟨.inl (h3 b q).1, (h3 b q).2⟩, Keep.refl _ _, h4, h.lt _ h4⟩
theorem RFlux.aside {w0 w w' : World} {fs : Nat → Prop} {xb : Nat} {v : Value} {K : List Int} {m : Nat} {f : Int → Int} (h : RFlux w0 fs xb w v K m f) (k : Keep w w' (fun _ => False)) : RFlux w0 fs xb w' v K m f :=
  ⟨k.get h.blk (fun q => q), rows_keep h.row k (fun _ _ q => q), h.own, h.keep.trans k (fun _ q => q.elim), h.at_, h.old⟩
theorem RFlux.turn {w0 w w' : World} {fs : Nat → Prop} {xb : Nat} {v v' : Value} {K : List Int} {m m' : Nat} {f f' : Int → Int} (h : RFlux w0 fs xb w v K m f) (k : Keep w w' (fun b => v.ownBlock = some b)) (hr : w'.ownsRow 0 5 1 v' m' (rowL m' f'))
    (hv : ∀ b, v'.ownBlock = some b → v.ownBlock = some b ∨ w.heap.size ≤ b) : RFlux w0 fs xb (w'.setCell ⟨xb, 0, none⟩ v') v' K m' f' := by
  have hw := h.keep.size
  have ho : ∀ b, v'.ownBlock = some b → (fs b ∨ w0.heap.size ≤ b) ∧ b ≠ xb := fun b q => by
    rcases hv b q with z | z
    · exact h.own b z
    · refine ⟨.inr (by omega), fun e => ?_⟩
      have := h.old
      omega
  have b1 := k.get h.blk (fun q => (h.own _ q).2 rfl)
  refine ⟨?_, rows_keep hr (Keep.setCell w' ⟨xb, 0, none⟩ v') (fun b q e => (ho b q).2 e), ho, ?_, h.at_, h.old⟩
  · have := heap_setCell_eq (off := 0) v' b1
    simpa using this
  · refine (h.keep.trans k (fun b q => ?_)).trans (Keep.setCell w' ⟨xb, 0, none⟩ v') (fun b q => .inl (by rw [show b = xb from q]; exact h.at_))
    exact (h.own b q).1
end Go.Proofs.YtoanccechefclaaGreatDoor
namespace Go.Proofs.YtoanccechefclaaGreatDoor
open Go Go.RowKit
set_option maxRecDepth 100000
attribute [local go_sem] Oper.semAt_some
theorem rof_c {w : World} {rb : Nat} {n : Int} {V : PoolV} {v : Value} {xa : Int → Nat} (h1 : w.heap[rb]? = some (.cells #[.int .i64 n, v] 198 (0, 0))) (h2 : w.ownsRow 0 202 1 v V.made.toNat (slotsL V xa)) (hok : V.ok n) (hm : V.made ≤ 1000000) (f : Int) :
    Calls Tryz.prog 135 #[.pointer (some ⟨rb, 0, none⟩), .int .i64 f] w fun r w' => r = .returned (slotV V xa f) ∧ w' = w := by
  obtain ⟨sa, cap, rfl, hc⟩ := rows_val2 h2
  obtain ⟨m, hmm⟩ : ∃ m : Nat, m = V.made.toNat := ⟨_, rfl⟩
  have hmi : V.made = m := by have := hok.made0; omega
  have hkeys := hok.keys
  rw [← hmm] at h1 h2 hc
  have c0 : w.cell? ⟨rb, 1, none⟩ = some (.slice sa m cap) := by rw [cell_blk h1]; rfl
  have hm6 : m ≤ 1000000 := by omega
  by_cases hf : 1 ≤ f ∧ f ≤ m
  · obtain ⟨i, rfl⟩ : ∃ i : Nat, f = (i : Int) + 1 := ⟨(f - 1).toNat, by omega⟩
    obtain ⟨g, rfl, -, -, -⟩ := rows_some h2 (by omega)
    have c1 : w.cell? ⟨g, i, none⟩ = some (slotV V xa ((i : Int) + 1)) := (rows_cell h2 (slotsL_get V xa (i := i) (by omega))).1
    generalize slotV V xa ((i : Int) + 1) = sv at *
    have g1 : ¬ (i : Int) + 1 < 1 := by omega
    have g2 : ¬ (m : Int) < (i : Int) + 1 := by omega
    have g3 : i < m := by omega
    clear h1 h2 hok hmm hmi hkeys hf hm
    go_enter Tryz.func135, Tryz.ntmps135
    go_wp2
    go_ret
    exact ⟨rfl, rfl⟩
  · have hs : slotV V xa f = .pointer none := by
      unfold slotV
      rw [if_neg]
      intro hx
      cases hg : aget V.files f with
      | none => rw [hg] at hx; simp at hx
      | some F =>
        have := hkeys _ (aget_mem hg)
        simp only at this
        omega
    rw [hs]
    by_cases g1 : f < 1
    · clear h1 h2 hok hmm hmi hkeys hf hm hs
      go_enter Tryz.func135, Tryz.ntmps135
      go_wp2
      go_ret
      exact ⟨rfl, rfl⟩
    · have g2 : (m : Int) < f := by omega
      clear h1 h2 hok hmm hmi hkeys hf hm hs
      go_enter Tryz.func135, Tryz.ntmps135
      go_wp2
      go_ret
      exact ⟨rfl, rfl⟩
end Go.Proofs.YtoanccechefclaaGreatDoor
namespace Go.Proofs.YtoanccechefclaaGreatDoor
open Go Go.RowKit
set_option maxRecDepth 100000
attribute [local go_sem] Oper.semAt_some
theorem slot_none {V : PoolV} {xa : Int → Nat} {f : Int} (h : aget V.files f = none) : slotV V xa f = .pointer none := by
  unfold slotV; rw [h]; rfl
theorem slot_some {V : PoolV} {xa : Int → Nat} {f : Int} {F : FileV} (h : aget V.files f = some F) : slotV V xa f = .pointer (some ⟨xa f, 0, none⟩) := by
  unfold slotV; rw [h]; rfl
theorem rSize_c {w : World} {rb : Nat} {S : Nat → Prop} {n : Int} {V : PoolV} (h : RPoolAt w rb S n V) (hm : V.made ≤ 1000000) (f : Int) :
    Calls Tryz.prog 116 #[.pointer (some ⟨rb, 0, none⟩), .int .i64 f] w fun r w' => r = .returned (.int .i64 (V.size f)) ∧ w' = w := by
  obtain ⟨v, xa, fs, h1, h2, h3, h4, h5, h6, h7⟩ := h.ex
  have ho := rof_c h1 h2 h.ok hm f
  unfold PoolV.size
  cases hg : aget V.files f with
  | none =>
    rw [slot_none hg] at ho
    clear h h1 h2 h3 h4 h5 h6 h7 hg hm
    go_enter Tryz.func116, Tryz.ntmps116
    go_wp2_with (
      go_at_call 135
      refine ho.mono ?_
      rintro e w2 ⟨rfl, hw⟩
      subst hw
      clear ho)
    go_ret
    exact ⟨rfl, rfl⟩
  | some F =>
    rw [slot_some hg] at ho
    have hF := h5 _ (aget_mem hg)
    obtain ⟨u, k1, k2, k3, k4⟩ := hF.ex
    obtain ⟨sa, cap, rfl, hc⟩ := rows_val2 k2
    have hs0 := hF.ok.1
    simp only at k1 k2 hc hs0
    obtain ⟨s, hs⟩ : ∃ s : Nat, s = F.size.toNat := ⟨_, rfl⟩
    have hss : F.size = s := by omega
    rw [← hs] at k1 hc
    have c0 : w.cell? ⟨xa f, 0, none⟩ = some (.slice sa s cap) := by rw [cell_blk k1]; rfl
    dsimp only
    rw [hss]
    clear h h1 h2 h3 h4 h5 h6 h7 hg hm hF k1 k2 k3 k4 hs hss hs0
    go_enter Tryz.func116, Tryz.ntmps116
    go_wp2_with (
      go_at_call 135
      refine ho.mono ?_
      rintro e w2 ⟨rfl, hw⟩
      subst hw
      clear ho)
    go_ret
    exact ⟨rfl, rfl⟩
end Go.Proofs.YtoanccechefclaaGreatDoor
namespace Go.Proofs.YtoanccechefclaaGreatDoor
open Go Go.RowKit
set_option maxRecDepth 100000
attribute [local go_sem] Oper.semAt_some
theorem aget_notin {α : Type} {L : List (Int × α)} {x : Int} (h : x ∉ L.map Prod.fst) : aget L x = none := by
  cases hg : aget L x with
  | none => rfl
  | some v => exact absurd (List.mem_map.2 ⟨_, aget_mem hg, rfl⟩) h
theorem aget_adelI {α : Type} {L : List (Int × α)} (hn : (L.map Prod.fst).Nodup) (x y : Int) : aget (adel L x) y = if x = y then none else aget L y := by
  induction L with
  | nil => simp [adel, aget]
  | cons z r ih =>
    obtain ⟨a, u⟩ := z
    simp only [List.map_cons, List.nodup_cons] at hn
    simp only [adel]
    by_cases h : a = x
    · subst h
      rw [if_pos rfl]
      by_cases e : a = y
      · subst e
        rw [if_pos rfl]
        exact aget_notin hn.1
      · rw [if_neg e]
        simp only [aget, if_neg e]
    · rw [if_neg h]
      simp only [aget]
      by_cases e : a = y
      · rw [if_pos e, if_pos e, if_neg (fun q => h (e.trans q.symm))]
      · rw [if_neg e, if_neg e, ih hn.2]
theorem krnewp_c (w : World) (n : Int) (h0 : 0 ≤ n) (h1 : n ≤ 256) :
    Calls Tryz.prog 74 #[.int .i64 n] w fun r w' => ∃ rb S, r = .returned (.pointer (some ⟨rb, 0, none⟩)) ∧ RPoolAt w' rb S n ⟨n, 0, []⟩ ∧ Turn w (fun _ => False) w' S := by
  go_enter Tryz.func74, Tryz.ntmps74
  go_wp2
  go_ret
  have ka := Keep.alloc w (.cells #[.int .i64 n, .slice none 0 0] 198) (fun _ => False)
  refine ⟨w.heap.size, fun b => b = w.heap.size, rfl, ⟨PoolV.new_ok h0 h1, ⟨.slice none 0 0, fun _ => 0, fun _ _ => False, heap_alloc_eq _ _, rows_nil _ _ _, fun b q => by simp [Value.ownBlock] at q, rfl, fun x hx => by simp at hx, fun x hx => by simp at hx, fun x hx => by simp at hx⟩, fun b q => ?_⟩, ka, fun b q => .inr (by rw [show b = w.heap.size from q]; exact Nat.le_refl _)⟩
  have e : (w.alloc (.cells #[.int .i64 n, .slice none 0 0] 198)).heap.size = w.heap.size + 1 := by simp
  rw [e, show b = w.heap.size from q]
  exact Nat.lt_succ_self _
theorem slotsL_drop {V : PoolV} {xa : Int → Nat} {l : Int} {i : Nat} (hn : (V.files.map Prod.fst).Nodup) : (slotsL V xa).set i (.pointer none) = slotsL { V with left := l, files := adel V.files ((i : Int) + 1) } xa := by
  apply List.ext_getElem?
  intro j
  rw [List.getElem?_set]
  by_cases hj : j < V.made.toNat
  · rw [slotsL_get V xa hj, slotsL_get { V with left := l, files := adel V.files ((i : Int) + 1) } xa (i := j) hj, slotsL_len]
    by_cases hij : i = j
    · subst hij
      rw [if_pos rfl, if_pos hj]
      unfold slotV
      rw [aget_adelI hn, if_pos rfl]
      rfl
    · rw [if_neg hij]
      unfold slotV
      rw [aget_adelI hn]
      simp only [show ¬ ((i : Int) + 1 = (j : Int) + 1) by omega, if_false]
  · have e1 : (slotsL V xa)[j]? = none := List.getElem?_eq_none (by rw [slotsL_len]; omega)
    have e2 : (slotsL { V with left := l, files := adel V.files ((i : Int) + 1) } xa)[j]? = none := List.getElem?_eq_none (by rw [slotsL_len]; exact Nat.le_of_not_lt hj)
    rw [e1, e2, slotsL_len]
    split
    · rw [if_neg (by omega)]
    · rfl
set_option maxHeartbeats 1000000 in
theorem rpdrop_c {w : World} {rb : Nat} {S : Nat → Prop} {n : Int} {V : PoolV} (h : RPoolAt w rb S n V) (hm : V.made ≤ 1000000) (f : Int) :
    Calls Tryz.prog 134 #[.pointer (some ⟨rb, 0, none⟩), .int .i64 f] w fun r w' => r = .returned (.int .i64 (V.drop f).2) ∧ ∃ S', RPoolAt w' rb S' n (V.drop f).1 ∧ Turn w S w' S' := by
  obtain ⟨v, xa, fs, h1, h2, h3, h4, h5, h6, h7⟩ := h.ex
  have ho := rof_c h1 h2 h.ok hm f
  have hok := h.ok.drop f
  unfold PoolV.drop at hok ⊢
  cases hg : aget V.files f with
  | none =>
    rw [slot_none hg] at ho
    have H := Lib.hid h
    clear h h1 h2 h3 h4 h5 h6 h7 hg hm hok
    go_enter Tryz.func134, Tryz.ntmps134
    go_wp2_with (
      go_at_call 135
      refine ho.mono ?_
      rintro e w2 ⟨rfl, hw⟩
      subst hw
      clear ho)
    go_ret
    exact ⟨rfl, S, H.out, Turn.refl _ _⟩
  | some F =>
    rw [slot_some hg] at ho
    rw [hg] at hok
    have hk := h.ok.keys _ (aget_mem hg)
    simp only at hk hok
    obtain ⟨i, rfl⟩ : ∃ i : Nat, f = (i : Int) + 1 := ⟨(f - 1).toNat, by omega⟩
    obtain ⟨sa, cap, rfl, hc⟩ := rows_val2 h2
    obtain ⟨m, hmm⟩ : ∃ m : Nat, m = V.made.toNat := ⟨_, rfl⟩
    have him : i < m := by omega
    rw [← hmm] at h1 h2 h3 h6 hc
    obtain ⟨g, rfl, -, -, -⟩ := rows_some h2 (by omega)
    have c0 : w.cell? ⟨rb, 1, none⟩ = some (.slice (some ⟨g, 0, none⟩) m cap) := by rw [cell_blk h1]; rfl
    have hcs := rows_cell h2 (slotsL_get V xa (i := i) (by omega))
    have c1 := hcs.1
    have c2 := hcs.2
    have hr := rows_set h2 i (.pointer none)
    have hm6 : m ≤ 1000000 := by omega
    have H := Lib.hid (And.intro h (And.intro h1 (And.intro h3 (And.intro h4 (And.intro h5 (And.intro h6 h7))))))
    have HR := Lib.hid (And.intro hr (And.intro hok hmm))
    generalize xa ((i : Int) + 1) = xb at *
    generalize hsv : slotV V xa ((i : Int) + 1) = sv at *
    clear h h1 h2 h3 h4 h5 h6 h7 hg hm hok hcs hr hk hmm hsv
    go_enter Tryz.func134, Tryz.ntmps134
    go_wp2_with (
      go_at_call 135
      refine ho.mono ?_
      rintro e w2 ⟨rfl, hw⟩
      subst hw
      clear ho)
    go_ret
    obtain ⟨h, h1, h3, h4, h5, h6, h7⟩ := H.out
    have k := Keep.setCell w2 ⟨g, i, none⟩ (.pointer none)
    have hg3 := h3 g rfl
    refine ⟨rfl, S, ⟨HR.out.2.1, ⟨.slice (some ⟨g, 0, none⟩) m cap, xa, fs, k.get h1 (fun e => hg3.2 (show rb = g from e).symm), ?_, h3, h4, fun x hx => ?_, fun x hx => ?_, fun x hx y hy => ?_⟩, fun b q => Nat.lt_of_lt_of_le (h.lt b q) k.size⟩, ⟨k.mono fun b q => by rw [show b = g from q]; exact hg3.1, fun b q => .inl q⟩⟩
    · have := HR.out.1
      rw [slotsL_drop (l := V.left + F.keys.length) h.ok.nodup] at this
      rw [HR.out.2.2] at this
      rw [HR.out.2.2]
      exact this
    · exact (h5 x (mem_adel h.ok.nodup hx).1).keep k (fun b q e => (h6 x (mem_adel h.ok.nodup hx).1 b q).2.2 (by rw [show b = g from e]; rfl))
    · exact h6 x (mem_adel h.ok.nodup hx).1
    · exact h7 x (mem_adel h.ok.nodup hx).1 y (mem_adel h.ok.nodup hy).1
end Go.Proofs.YtoanccechefclaaGreatDoor
namespace Go.Proofs.YtoanccechefclaaGreatDoor
open Go Go.RowKit
set_option maxRecDepth 100000
attribute [local go_sem] Oper.semAt_some
theorem pf_info : ∃ i, Tryz.prog.info? 202 = some i ∧ i.zero = some (.pointer none) ∧ i.size = 1 ∧ i.bytes ≤ 64 := by
  have h : (Tryz.prog.info? 202).map (fun i => (i.zero, i.size, i.bytes)) = some (some (.pointer none), 1, 8) := by kernel_rfl
  cases hh : Tryz.prog.info? 202 with
  | none => rw [hh] at h; simp at h
  | some i =>
    rw [hh] at h
    simp only [Option.map_some, Option.some.injEq, Prod.mk.injEq] at h
    exact ⟨i, rfl, h.1, h.2.1, by omega⟩
theorem pf_cells : (Value.pointer none).cells.size = 1 := rfl
theorem zero_file : Tryz.zeroCells206 = (.slice none 0 0 :: hasL []).toArray := by kernel_rfl
theorem slotsL_file {V : PoolV} {n : Int} (h : V.ok n) (xa : Int → Nat) (xb : Nat) : slotsL V.file (fun k => if k = V.made + 1 then xb else xa k) = slotsL V xa ++ [.pointer (some ⟨xb, 0, none⟩)] := by
  obtain ⟨m, hm⟩ : ∃ m : Nat, V.made = m := ⟨V.made.toNat, by have := h.made0; omega⟩
  have hnone : aget V.files (V.made + 1) = none := aget_notin fun q => by
    obtain ⟨x, hx, e⟩ := List.mem_map.1 q
    have := h.keys x hx
    omega
  have hset : V.file.files = V.files ++ [(V.made + 1, FileV.empty)] := aset_new _ _ _ (fun q => by
    obtain ⟨x, hx, e⟩ := List.mem_map.1 q
    have := h.keys x hx
    omega)
  have hget : ∀ k, aget (V.files ++ [(V.made + 1, FileV.empty)]) k = match aget V.files k with | some F => some F | none => if V.made + 1 = k then some FileV.empty else none := by
    intro k
    induction V.files with
    | nil => simp [aget]
    | cons z r ih =>
      obtain ⟨a, u⟩ := z
      simp only [List.cons_append, aget]
      by_cases e : a = k
      · rw [if_pos e, if_pos e]
      · rw [if_neg e, if_neg e, ih]
  have e1 : V.file.made.toNat = m + 1 := by show (V.made + 1).toNat = _; omega
  have e2 : V.made.toNat = m := by omega
  unfold slotsL
  rw [e1, e2, List.range_succ, List.map_append]
  congr 1
  · apply List.map_congr_left
    intro i hi
    have hi' := List.mem_range.1 hi
    unfold slotV
    rw [hset, hget]
    have hne : ¬ (V.made + 1 = (i : Int) + 1) := by omega
    have hne2 : ¬ ((i : Int) + 1 = V.made + 1) := by omega
    cases aget V.files ((i : Int) + 1) with
    | some F => simp only [Option.isSome_some, if_true, hne2, if_false]
    | none => simp only [hne, if_false, Option.isSome_none, Bool.false_eq_true]
  · simp only [List.map_cons, List.map_nil]
    unfold slotV
    rw [hset, hget, show ((m : Int) + 1) = V.made + 1 by omega, hnone]
    simp only [if_true, Option.isSome_some]
    rfl
set_option maxHeartbeats 1000000 in
theorem rmake_c {w : World} {rb : Nat} {S : Nat → Prop} {n : Int} {V : PoolV} (h : RPoolAt w rb S n V) (hm : V.made ≤ 1000000) :
    Calls Tryz.prog 82 #[.pointer (some ⟨rb, 0, none⟩)] w fun r w' => r = .returned (.int .i64 (V.made + 1)) ∧ ∃ S', RPoolAt w' rb S' n V.file ∧ Turn w S w' S' := by
  obtain ⟨v, xa, fs, h1, h2, h3, h4, h5, h6, h7⟩ := h.ex
  obtain ⟨sa, cap, rfl, hc⟩ := rows_val2 h2
  obtain ⟨m, hmm⟩ : ∃ m : Nat, m = V.made.toNat := ⟨_, rfl⟩
  have hmi : V.made = m := by have := h.ok.made0; omega
  rw [← hmm] at h1 h2 h3 h6 hc
  have c0 : w.cell? ⟨rb, 1, none⟩ = some (.slice sa m cap) := by rw [cell_blk h1]; rfl
  have hm6 : m ≤ 1000000 := by omega
  obtain ⟨pi, pi1, pi2, pi3, pi4⟩ := pf_info
  have PI := Lib.hid (And.intro pi1 (And.intro pi2 (And.intro pi3 pi4)))
  have ka := Keep.alloc w (.cells Tryz.zeroCells206 206) (fun _ => False)
  have ga := heap_alloc_eq w (.cells Tryz.zeroCells206 206)
  have za : (w.alloc (.cells Tryz.zeroCells206 206)).heap.size = w.heap.size + 1 := by simp
  have kb := Keep.alloc (w.alloc (.cells Tryz.zeroCells206 206)) (.cells #[.pointer (some ⟨w.heap.size, 0, none⟩)] 202) (fun _ => False)
  have hnew := cells_new (w.alloc (.cells Tryz.zeroCells206 206)) [.pointer (some ⟨w.heap.size, 0, none⟩)] 202
  rw [za] at hnew
  have kab := ka.trans kb (fun _ q => q.elim)
  have hrow := rows_keep h2 kab (fun _ _ q => q)
  have gb := kb.get ga (fun q => q)
  have bb := kab.get h1 (fun q => q)
  have hsz : w.heap.size + 1 ≤ ((w.alloc (.cells Tryz.zeroCells206 206)).alloc (.cells #[.pointer (some ⟨w.heap.size, 0, none⟩)] 202)).heap.size := by have := kb.size; omega
  have H := Lib.hid (And.intro h (And.intro h1 (And.intro h2 (And.intro h3 (And.intro h4 (And.intro h5 (And.intro h6 h7)))))))
  have HM := Lib.hid (And.intro hmm hmi)
  have HA := Lib.hid (And.intro hnew (And.intro kab (And.intro hrow (And.intro gb (And.intro bb hsz)))))
  rw [hmi]
  clear h h1 h2 h3 h4 h5 h6 h7 hmm hmi pi1 pi2 pi3 pi4 hm ka ga za kb hnew kab hrow gb bb hsz
  go_enter Tryz.func82, Tryz.ntmps82
  go_upto_region 2 with (
    at_builtin
    refine law_append_row rfl _ _ _ rfl Tryz.underlying196 PI.out.1 PI.out.2.1 PI.out.2.2.1 PI.out.2.2.2 pf_cells (by decide) rfl HA.out.2.2.1 [.pointer (some ⟨w.heap.size, 0, none⟩)] rfl rfl (.inr ⟨_, rfl, HA.out.1⟩) (fun u hu => by rw [List.mem_singleton.1 hu]; rfl) (by omega) ?_
    intro sa8 cap8 w8 r1 r2 r3
    have B8 := r2.get HA.out.2.2.2.2.1 (fun e => (H.out.2.2.2.1 rb e.symm).2 rfl)
    have d0 : w8.cell? ⟨rb, 1, none⟩ = some (.slice sa m cap) := by rw [cell_blk B8]; rfl
    have g0 : w8.frozen? ⟨rb, 1, none⟩ = false := free_blk B8 _
    have r2' : Keep w w8 (fun b => some b = (Value.slice sa m cap).ownBlock) := (HA.out.2.1.mono (T := fun b => some b = (Value.slice sa m cap).ownBlock) (fun _ q => q.elim)).trans r2 (fun b q => .inl q)
    have gz : w8.heap[w.heap.size]? = some (.cells Tryz.zeroCells206 206 (0, 0)) := r2.get HA.out.2.2.2.1 (fun e => by have := H.out.1.lt _ (H.out.2.2.2.1 _ e.symm).1; omega)
    have hs8 : w.heap.size + 1 ≤ w8.heap.size := Nat.le_trans HA.out.2.2.2.2.2 r2.size
    have r3' : ∀ b, (Value.slice sa8 (m + 1) cap8).ownBlock = some b → (Value.slice sa m cap).ownBlock = some b ∨ w.heap.size + 1 ≤ b := fun b q => (r3 b q).imp id (fun z => by rw [z]; exact HA.out.2.2.2.2.2)
    have N8 := Lib.hid (And.intro r1 (And.intro r2' (And.intro r3' (And.intro B8 (And.intro gz hs8)))))
    clear r2' r3' gz hs8
    clear r1 r2 r3 B8)
  obtain ⟨wz, hwz⟩ : ∃ wz, wz = w8.setCell ⟨rb, 1, none⟩ (.slice sa8 (m + 1) cap8) := ⟨_, rfl⟩
  rw [← hwz]
  have hz1 : wz.heap[rb]? = some (.cells #[.int .i64 n, .slice sa8 (m + 1) cap8] 198 (0, 0)) := by
    rw [hwz]
    exact heap_setCell_eq (off := 1) (.slice sa8 (m + 1) cap8) N8.out.2.2.2.1
  have e1 : wz.cell? ⟨rb, 1, none⟩ = some (.slice sa8 (m + 1) cap8) := by rw [cell_blk hz1]; rfl
  have HZ := Lib.hid (And.intro hwz hz1)
  clear hwz hz1 d0 g0 c0
  go_wp2
  go_ret
  refine ⟨rfl, ?_⟩
  obtain ⟨h, h1, h2, h3, h4, h5, h6, h7⟩ := H.out
  obtain ⟨r1, r2, r3, B8, gz, hs8⟩ := N8.out
  have kz : Keep w8 wz (fun b => b = rb) := by rw [HZ.out.1]; exact Keep.setCell _ _ _
  have hrb := h.lt _ h4
  have hm1 : V.made + 1 = (m : Int) + 1 := by rw [HM.out.2]
  have hne : ∀ x ∈ V.files, ¬ x.1 = V.made + 1 := fun x hx e => by have := h.ok.keys x hx; omega
  have hset : V.file.files = V.files ++ [(V.made + 1, FileV.empty)] := aset_new _ _ _ (fun q => by
    obtain ⟨x, hx, e⟩ := List.mem_map.1 q
    exact hne x hx e)
  have hown : ∀ b, (Value.slice sa8 (m + 1) cap8).ownBlock = some b → b ≠ rb ∧ b ≠ w.heap.size := fun b q => by
    rcases r3 b q with z | z
    · have := h3 b z
      exact ⟨this.2, fun e => by have := h.lt _ this.1; omega⟩
    · exact ⟨by omega, by omega⟩
  have hrw := rows_keep r1 kz (fun b q e => (hown b q).1 e)
  have gz2 := kz.get gz (fun e => by omega)
  have hin : ∀ x, x ∈ V.file.files → (x ∈ V.files ∧ ¬ x.1 = V.made + 1) ∨ x = (V.made + 1, FileV.empty) := fun x hx => by
    rw [hset] at hx
    rcases List.mem_append.1 hx with hx | hx
    · exact .inl ⟨hx, hne x hx⟩
    · exact .inr (List.mem_singleton.1 hx)
  have kwz : Keep w wz (fun b => some b = (Value.slice sa m cap).ownBlock ∨ b = rb) := (r2.mono (fun b q => .inl q)).trans kz (fun b q => .inl (.inr q))
  refine ⟨fun b => S b ∨ b = w.heap.size ∨ (Value.slice sa8 (m + 1) cap8).ownBlock = some b, ⟨h.ok.file, ⟨.slice sa8 (m + 1) cap8, fun k => if k = V.made + 1 then w.heap.size else xa k, fun k => if k = V.made + 1 then (fun b => b = w.heap.size) else fs k, HZ.out.2, ?_, fun b q => ⟨.inr (.inr q), (hown b q).1⟩, .inl h4, fun x hx => ?_, fun x hx b q => ?_, fun x hx y hy hxy b q z => ?_⟩, fun b q => ?_⟩, ⟨kwz.mono fun b q => ?_, fun b q => ?_⟩⟩
  · have e : V.file.made.toNat = m + 1 := by show (V.made + 1).toNat = _; omega
    rw [e, slotsL_file h.ok]
    exact hrw
  · rcases hin x hx with ⟨hx, hn⟩ | rfl
    · simp only [if_neg hn]
      refine (h5 x hx).keep kwz (fun b q e => ?_)
      have := h6 x hx b q
      rcases e with e | e
      · exact this.2.2 e.symm
      · exact this.2.1 e
    · simp only [if_true]
      rw [zero_file] at gz2
      exact ⟨FileV.empty_ok, fun _ _ => rfl, ⟨.slice none 0 0, gz2, rows_nil _ _ _, fun b q => by simp [Value.ownBlock] at q, rfl⟩, fun b q => by rw [show b = w.heap.size from q]; exact lt_of_blk gz2⟩
  · rcases hin x hx with ⟨hx, hn⟩ | rfl
    · simp only [if_neg hn] at q
      have := h6 x hx b q
      refine ⟨.inl this.1, this.2.1, fun e => ?_⟩
      rcases r3 b e with z | z
      · exact this.2.2 z
      · have := h.lt _ this.1; omega
    · simp only [if_true] at q
      exact ⟨.inr (.inl q), by omega, fun e => (hown b e).2 q⟩
  · rcases hin x hx with ⟨hx, hn⟩ | rfl
    · simp only [if_neg hn] at q
      rcases hin y hy with ⟨hy, hn2⟩ | rfl
      · simp only [if_neg hn2] at z
        exact h7 x hx y hy hxy b q z
      · simp only [if_true] at z
        have := h.lt _ (h6 x hx b q).1
        omega
    · simp only [if_true] at q
      rcases hin y hy with ⟨hy, hn2⟩ | rfl
      · simp only [if_neg hn2] at z
        have := h.lt _ (h6 y hy b z).1
        omega
      · exact hxy rfl
  · rcases q with q | q | q
    · exact Nat.lt_of_lt_of_le (h.lt b q) kwz.size
    · rw [q]; exact lt_of_blk gz2
    · rcases rows_val hrw with ⟨e, _⟩ | ⟨g, cp, e, _, e5, e6⟩
      · rw [e] at q; simp [Value.ownBlock] at q
      · rw [e5] at q; cases q; exact e6
  · rcases q with q | q
    · exact (h3 b q.symm).1
    · rw [q]; exact h4
  · rcases q with q | q | q
    · exact .inl q
    · exact .inr (by omega)
    · rcases r3 b q with z | z
      · exact .inl (h3 b z).1
      · exact .inr (by omega)
end Go.Proofs.YtoanccechefclaaGreatDoor
namespace Go.Proofs.YtoanccechefclaaGreatDoor
open Go Go.RowKit
set_option maxRecDepth 100000
attribute [local go_sem] Oper.semAt_some
def RRead (w w' : World) (v : Value) (l : List Int) : Prop := w'.ownsRow 0 5 1 v l.length (l.map (Value.int .u8)) ∧ (∀ b, v.ownBlock = some b → w.heap.size ≤ b) ∧ Keep w w' (fun _ => False)
end Go.Proofs.YtoanccechefclaaGreatDoor
namespace Go.Proofs.YtoanccechefclaaGreatDoor
open Go Go.RowKit
set_option maxRecDepth 100000
attribute [local go_sem] Oper.semAt_some
end Go.Proofs.YtoanccechefclaaGreatDoor
namespace Go.Proofs.YtoanccechefclaaGreatDoor
open Go Go.RowKit
set_option maxRecDepth 100000
attribute [local go_sem] Oper.semAt_some
end Go.Proofs.YtoanccechefclaaGreatDoor
