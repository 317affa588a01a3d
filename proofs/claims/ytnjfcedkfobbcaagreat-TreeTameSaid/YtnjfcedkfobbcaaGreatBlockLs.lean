/-
  What the statements of layer 9 share: known, Within, bytes of an argument. (BlockLs: BlockL0, BlockL1, BlockL2)
-/
import Derived.Test.YtnjfcedkfobbcaaGreatStructs
import Derived.Test.YtnjfcedkfobbcaaGreatBlock8
import Derived.Lib.SlBytesConst
import Derived.OpenShut
import Derived.Test.YtnjfcedkfobbcaaGreatLaws2
import Derived.Deep.Cut

/-! What the statements of layer 9 share: known, Within, bytes of an argument. -/
namespace Go.Proofs.YtnjfcedkfobbcaaGreat
open Go Go.RowKit
set_option linter.unusedSectionVars false
set_option linter.unusedSimpArgs false
set_option linter.unusedVariables false
set_option maxRecDepth 100000

theorem Turn.refl (w : World) (S : Nat → Prop) : Turn w S w S := ⟨Keep.refl _ _, fun b q => .inl q⟩
theorem Turn.trans {w w1 w2 : World} {S S1 S2 : Nat → Prop} (h : Turn w S w1 S1) (k : Turn w1 S1 w2 S2) : Turn w S w2 S2 :=
  ⟨h.keep.trans k.keep h.new, fun b q => (k.new b q).elim (h.new b) (fun q => .inr (by have := h.keep.size; omega))⟩

theorem Turn.step {w w1 w2 : World} {S S1 : Nat → Prop} (h : Turn w S w1 S1) (k : Keep w1 w2 (fun _ => False)) : Turn w S w2 S1 :=
  ⟨h.keep.trans k (fun b q => q.elim), h.new⟩

theorem BytesIn.turn {w w' : World} {v : Value} {l : List Int} {S S' : Nat → Prop} (h : BytesIn w v l S) (k : Turn w S w' S') : BytesIn w' v l S' := by
  obtain ⟨h1, a, cap, h2, h3⟩ := h
  by_cases hl : l = []
  · exact ⟨h1, a, cap, h2, .inl hl⟩
  · obtain ⟨b, off, h4, h5, h6⟩ := h3.resolve_left hl
    refine ⟨h1, a, cap, h2, .inr ⟨b, off, h4, fun q => ?_, fun i hi => k.keep.cell (h6 i hi) h5⟩⟩
    have h0 := World.block_lt_of_cell? w _ (h6 0 (List.length_pos_iff.2 hl))
    rcases k.new b q with q | q
    · exact h5 q
    · have : b < w.heap.size := h0
      omega

theorem BytesIn.news {w : World} {sa : Option Addr} {m c : Nat} {l : List Int} {D : Nat → Prop} (h : BytesIn w (.slice sa m c) l D) :
    m = 0 ∨ ∃ ad, sa = some ad ∧ ∀ j u, (l.map (Value.int .u8))[j]? = some u → w.cell? (ad.add j) = some u := by
  obtain ⟨h1, a, cap, h2, h3⟩ := h
  simp only [Value.slice.injEq] at h2
  obtain ⟨rfl, rfl, rfl⟩ := h2
  rcases h3 with rfl | ⟨b, off, rfl, _, h6⟩
  · exact .inl rfl
  · refine .inr ⟨_, rfl, fun j u hu => ?_⟩
    have hj : j < l.length := by
      have := (List.getElem?_eq_some_iff.1 hu).1
      simpa using this
    have ha : (Addr.add ⟨b, off, none⟩ j) = ⟨b, off + j, none⟩ := by
      unfold Addr.add
      split
      · rename_i h0; subst h0; rfl
      · rfl
    rw [ha, h6 j hj]
    simp [hj] at hu ⊢
    exact hu

theorem BytesNew.own {w : World} {v : Value} {l : List Int} {B : Nat} (h : BytesNew w v l B) (hl : l.length ≤ maxLen) : w.ownsRow B 5 1 v l.length (l.map (Value.int .u8)) := by
  rcases h with ⟨rfl, rfl⟩ | ⟨b, hb, rfl, hc⟩
  · exact World.ownsRow_nil _ _ _ _
  · exact ⟨by simp, .inr ⟨b, l.length, _, rfl, hb, hc, Nat.le_refl _, hl, by simp, List.take_of_length_le (by simp)⟩⟩

theorem own_slice {w : World} {base : Nat} {e : TypeId} {v : Value} {n : Nat} {xs : List Value} (h : w.ownsRow base e 1 v n xs) : ∃ a cap, v = .slice a n cap := by
  rcases h.2 with ⟨rfl, rfl⟩ | ⟨g, cap, cur, rfl, _⟩
  · exact ⟨_, _, rfl⟩
  · exact ⟨_, _, rfl⟩

theorem BytesNew.cell {w : World} {v : Value} {l : List Int} {B : Nat} (h : BytesNew w v l B) (hl : l ≠ []) : ∃ b, B ≤ b ∧ v = .slice (some ⟨b, 0, none⟩) l.length l.length ∧ w.heap[b]? = some (.cells (l.map (Value.int .u8)).toArray 5 (0, 0)) :=
  h.resolve_left (fun q => hl q.1)

theorem BytesNew.bytesIn {w : World} {v : Value} {l : List Int} {B : Nat} {D : Nat → Prop} (h : BytesNew w v l B) (hl : ∀ c ∈ l, 0 ≤ c ∧ c < 256) (hD : ∀ b, D b → b < B) : BytesIn w v l D := by
  refine ⟨hl, ?_⟩
  rcases h with ⟨rfl, rfl⟩ | ⟨b, hb, rfl, hc⟩
  · exact ⟨none, 0, rfl, .inl rfl⟩
  · refine ⟨_, _, rfl, .inr ⟨b, 0, rfl, fun q => by have := hD b q; omega, fun i hi => ?_⟩⟩
    rw [cell_blk hc]
    simp [hi]

theorem u8_row : ∃ i z, Tryz.prog.info? 5 = some i ∧ i.zero = some z ∧ i.size = 1 ∧ i.bytes ≤ 64 ∧ z.cells.size = 1 := by
  have h : (Tryz.prog.info? 5).map (fun i => (i.zero, i.size, i.bytes)) = some (some (.int .u8 0), 1, 1) := by kernel_rfl
  cases hh : Tryz.prog.info? 5 with
  | none => rw [hh] at h; simp at h
  | some i =>
    rw [hh] at h
    simp only [Option.map_some, Option.some.injEq, Prod.mk.injEq] at h
    exact ⟨i, _, rfl, h.1, h.2.1, by omega, rfl⟩

def V1 : PoolV := (PoolV.write ⟨1, 1, [(1, FileV.empty)]⟩ 1 20 [120]).1

theorem V1_ok : (PoolV.write ⟨1, 1, [(1, FileV.empty)]⟩ 1 20 [120]).2 = 0 := by decide
theorem V1_read : V1.read 1 0 99 = (List.replicate 20 0 ++ [120], 0) := by decide
theorem V1_used : V1.used 1 = 1 := by decide
theorem V1_left : V1.left = 0 := by decide

end Go.Proofs.YtnjfcedkfobbcaaGreat

/-! Within; a pool of one file, plainly. -/
namespace Go.Proofs.YtnjfcedkfobbcaaGreat
open Go Go.RowKit
set_option linter.unusedSectionVars false
set_option linter.unusedSimpArgs false
set_option linter.unusedVariables false
set_option maxRecDepth 100000

theorem within_c (w : World) (n lo hi : Int) (h0 : 0 ≤ lo) (h1 : lo ≤ hi) (h2 : hi ≤ 1000000) :
    Calls Tryz.prog 5 #[.int .i64 n, .int .i64 lo, .int .i64 hi] w fun r w' => ∃ m : Int, lo ≤ m ∧ m ≤ hi ∧ r = .returned (.int .i64 m) ∧ w = w' := by
  have hd : 0 < hi - lo + 1 := by omega
  by_cases hn : 0 ≤ n
  · have hm := Int.emod_nonneg n (b := hi - lo + 1) (by omega)
    have hm2 := Int.emod_lt_of_pos n hd
    go_enter Tryz.func5, Tryz.ntmps5
    go_wp2
    go_ret
    exact ⟨_, by omega, by omega, rfl, rfl⟩
  · have hm : -(hi - lo + 1) < n.tmod (hi - lo + 1) ∧ n.tmod (hi - lo + 1) ≤ 0 := by
      have e : (-n).tmod (hi - lo + 1) = (-n) % (hi - lo + 1) := Int.tmod_eq_emod_of_nonneg (by omega)
      rw [Int.neg_tmod] at e
      have h3 := Int.emod_nonneg (-n) (b := hi - lo + 1) (by omega)
      have h4 := Int.emod_lt_of_pos (-n) hd
      omega
    obtain ⟨hm1, hm2⟩ := hm
    go_enter Tryz.func5, Tryz.ntmps5
    go_wp2
    all_goals
      go_ret
      exact ⟨_, by omega, by omega, rfl, rfl⟩

def One (L : Int) (F : FileV) : PoolV := ⟨L, 1, [(1, F)]⟩

theorem one_file (n : Int) : PoolV.file ⟨n, 0, []⟩ = One n FileV.empty := rfl

theorem lacks_le (F : FileV) (p e : Int) (h : p / 16 ≤ (e - 1) / 16 + 1) : F.lacks p e ≤ (e - 1) / 16 - p / 16 + 1 := by
  unfold FileV.lacks
  have := List.length_filter_le (fun k => !decide (k ∈ F.keys)) (span (p / 16) ((e - 1) / 16))
  have h2 : (span (p / 16) ((e - 1) / 16)).length = ((e - 1) / 16 + 1 - p / 16).toNat := by simp [span]
  omega

theorem one_write (L : Int) (F : FileV) (p : Int) (l : List Int) (h0 : 0 ≤ p) (h1 : l ≠ []) (h2 : p + l.length ≤ 1024) (h3 : F.lacks p (p + l.length) ≤ L) :
    (One L F).write 1 p l = (One (L - F.lacks p (p + l.length)) { F.puts p l with size := max F.size (p + l.length) }, 0) := by
  have hpos : 0 < l.length := List.length_pos_iff.2 h1
  unfold PoolV.write One
  simp only [aget, if_true, aset]
  rw [if_neg (by omega), if_neg h1, if_neg (by omega), if_neg (by omega)]

theorem one_write_nil (L : Int) (F : FileV) (p : Int) (h0 : 0 ≤ p) : (One L F).write 1 p [] = (One L F, 0) := by
  unfold PoolV.write One
  simp only [aget, if_true]
  rw [if_neg (by omega)]

theorem one_read (L : Int) (F : FileV) (n : Int) (h0 : 0 ≤ n) (h1 : 0 ≤ F.size) (h2 : F.size ≤ n) : (One L F).read 1 0 n = ((List.range F.size.toNat).map fun (i : Nat) => F.byte i, 0) := by
  unfold PoolV.read One
  simp only [aget, if_true]
  rw [if_neg (by omega)]
  by_cases h : F.size ≤ 0
  · rw [if_pos h]
    have : F.size.toNat = 0 := by omega
    rw [this]; rfl
  · rw [if_neg h]
    unfold FileV.read
    have : (min n (F.size - 0)).toNat = F.size.toNat := by omega
    rw [this]
    simp


/-- How things stand in a statement's walk: since w0 nothing old has turned, the pool is new. -/
structure Cur (w0 w : World) (pb : Nat) (S : Nat → Prop) (V : PoolV) (n : Int) : Prop where
  pool : PoolAt w pb S V
  keep : Keep w0 w (fun _ => False)
  new : ∀ b, S b → w0.heap.size ≤ b
  ok : V.ok n

theorem Cur.made {w0 w1 w : World} {pb : Nat} {S : Nat → Prop} {V : PoolV} {n : Int} (hk : Keep w0 w1 (fun _ => False)) (hp : PoolAt w pb S V) (ht : Turn w1 (fun _ => False) w S) (ho : V.ok n) : Cur w0 w pb S V n :=
  ⟨hp, hk.trans ht.keep (fun b q => q.elim), fun b q => (ht.new b q).elim (fun z => z.elim) (fun z => by have := hk.size; omega), ho⟩
theorem Cur.turn {w0 w w' : World} {pb : Nat} {S S' : Nat → Prop} {V V' : PoolV} {n n' : Int} (c : Cur w0 w pb S V n) (hp : PoolAt w' pb S' V') (ht : Turn w S w' S') (ho : V'.ok n') : Cur w0 w' pb S' V' n' :=
  ⟨hp, c.keep.trans ht.keep (fun b q => .inr (c.new b q)), fun b q => (ht.new b q).elim (c.new b) (fun z => by have := c.keep.size; omega), ho⟩
theorem Cur.step {w0 w w' : World} {pb : Nat} {S : Nat → Prop} {V : PoolV} {n : Int} (c : Cur w0 w pb S V n) (hk : Keep w w' (fun _ => False)) : Cur w0 w' pb S V n :=
  ⟨c.pool.keep hk (fun b _ q => q), c.keep.trans hk (fun b q => q.elim), c.new, c.ok⟩
/-- A step that turns new memory beside the pool. -/
theorem Cur.beside {w0 w w' : World} {pb : Nat} {S T : Nat → Prop} {V : PoolV} {n : Int} (c : Cur w0 w pb S V n) (hk : Keep w w' T) (hT : ∀ b, T b → w0.heap.size ≤ b ∧ ¬ S b) : Cur w0 w' pb S V n :=
  ⟨c.pool.keep hk (fun b q z => (hT b z).2 q), c.keep.trans hk (fun b q => .inr (hT b q).1), c.new, c.ok⟩
theorem Cur.bytes {w0 w : World} {pb : Nat} {S : Nat → Prop} {V : PoolV} {n : Int} (c : Cur w0 w pb S V n) {v : Value} {l : List Int} (h : BytesIn w0 v l (fun b => w0.heap.size ≤ b)) : BytesIn w v l S :=
  (h.keep c.keep (fun b q => q.elim)).mono c.new
theorem Cur.below {w0 w : World} {pb : Nat} {S : Nat → Prop} {V : PoolV} {n : Int} (c : Cur w0 w pb S V n) : Below w0.heap.size w0 w := c.keep.below (Nat.le_refl _) (fun b q => q.elim)

def FileV.wrote (F : FileV) (p : Int) (l : List Int) : FileV := if l = [] then F else { F.puts p l with size := max F.size (p + l.length) }

theorem FileV.wrote_ok {F : FileV} (h : F.ok) {p : Int} {l : List Int} (h0 : 0 ≤ p) (h1 : p + l.length ≤ 1024) (hl : ∀ c ∈ l, 0 ≤ c ∧ c < 256) : (F.wrote p l).ok := by
  unfold FileV.wrote
  split
  · exact h
  · exact FileV.write_ok h h0 h1 hl

theorem FileV.wrote_byte (F : FileV) (p : Int) (l : List Int) : (F.wrote p l).byte = putF F.byte p l := by
  funext q
  unfold FileV.wrote putF
  split
  · rename_i h; subst h
    rw [if_neg (by simp only [List.length_nil]; omega)]
  · exact FileV.puts_byte l F p q

theorem FileV.wrote_size (F : FileV) (p : Int) (l : List Int) : (l = [] → (F.wrote p l).size = F.size) ∧ (l ≠ [] → (F.wrote p l).size = max F.size (p + l.length)) := by
  unfold FileV.wrote
  constructor
  · intro h; rw [if_pos h]
  · intro h; rw [if_neg h]

/-- A write into the one file of a pool that has room for a whole file. -/
theorem one_wrote (L : Int) (F : FileV) (p : Int) (l : List Int) (hF : F.ok) (h0 : 0 ≤ p) (h2 : p + l.length ≤ 1024) (hl : ∀ c ∈ l, 0 ≤ c ∧ c < 256) (hr : 64 ≤ L + F.keys.length) :
    (One L F).write 1 p l = (One (L + F.keys.length - (F.wrote p l).keys.length) (F.wrote p l), 0) := by
  by_cases h : l = []
  · subst h
    rw [one_write_nil _ _ _ h0]
    unfold FileV.wrote
    rw [if_pos rfl]
    have : L + (F.keys.length : Int) - F.keys.length = L := by omega
    rw [this]
  · have hlen := FileV.puts_len F p l hF h0 h2 hl h
    have hk := keys_len (FileV.puts_ok l hF h0 h2 hl)
    rw [one_write L F p l h0 h h2 (by omega)]
    unfold FileV.wrote
    rw [if_neg h]
    have : L - F.lacks p (p + l.length) = L + (F.keys.length : Int) - (F.puts p l).keys.length := by omega
    rw [this]

theorem one_ok {L : Int} {F : FileV} (hF : F.ok) (h0 : 0 ≤ L) {n : Int} (h1 : L + F.keys.length = n) (h2 : n ≤ 256) : (One L F).ok n :=
  ⟨h0, by simp [One, PoolV.total]; exact h1, h2, by simp [One], by simp [One], by simp [One], by simp [One]; exact hF⟩

theorem one_read' (L : Int) (F : FileV) (n : Int) (hF : F.ok) (h2 : 1024 ≤ n) : (One L F).read 1 0 n = (listF F.size.toNat F.byte, 0) :=
  one_read L F n (by omega) hF.1 (by have := hF.2.1; omega)

theorem one_wrote_empty (p : Int) (l : List Int) (h0 : 0 ≤ p) (h2 : p + l.length ≤ 1024) (hl : ∀ c ∈ l, 0 ≤ c ∧ c < 256) :
    (One 256 FileV.empty).write 1 p l = (One (256 - (FileV.empty.wrote p l).keys.length) (FileV.empty.wrote p l), 0) := by
  have h := one_wrote 256 FileV.empty p l FileV.empty_ok h0 h2 hl (by show (64 : Int) ≤ 256 + 0; omega)
  have e : (256 : Int) + (FileV.empty.keys.length : Int) - (FileV.empty.wrote p l).keys.length = 256 - (FileV.empty.wrote p l).keys.length := by
    show (256 : Int) + 0 - _ = _
    omega
  rw [e] at h
  exact h

theorem one_wrote_next (F : FileV) (p : Int) (l : List Int) (hF : F.ok) (h0 : 0 ≤ p) (h2 : p + l.length ≤ 1024) (hl : ∀ c ∈ l, 0 ≤ c ∧ c < 256) :
    (One (256 - F.keys.length) F).write 1 p l = (One (256 - (F.wrote p l).keys.length) (F.wrote p l), 0) := by
  have h := one_wrote (256 - F.keys.length) F p l hF h0 h2 hl (by omega)
  have e : (256 : Int) - (F.keys.length : Int) + (F.keys.length : Int) - (F.wrote p l).keys.length = 256 - (F.wrote p l).keys.length := by omega
  rw [e] at h
  exact h

theorem write_refused (V : PoolV) (f p : Int) (l : List Int) (h : (V.write f p l).2 ≠ 0) : (V.write f p l).1 = V := by
  unfold PoolV.write at *
  cases hg : aget V.files f with
  | none => rfl
  | some F =>
    rw [hg] at h
    dsimp only at h ⊢
    split
    · rfl
    · split
      · rfl
      · split
        · rfl
        · split
          · rfl
          · rename_i h1 h2 h3 h4
            rw [if_neg h1, if_neg h2, if_neg h3, if_neg h4] at h
            exact absurd rfl h

theorem PoolV.ok.read_bytes {V : PoolV} {m : Int} (h : V.ok m) (f p n : Int) : ∀ c ∈ (V.read f p n).1, 0 ≤ c ∧ c < 256 := by
  unfold PoolV.read
  cases hg : aget V.files f with
  | none => intro c hc; simp at hc
  | some F =>
    have hF := h.files _ (aget_mem hg)
    dsimp only
    split
    · intro c hc; simp at hc
    · split
      · intro c hc; simp at hc
      · intro c hc
        obtain ⟨i, _, rfl⟩ := List.mem_map.1 hc
        exact hF.2.2.2.2.2 _

theorem PoolV.read_len (V : PoolV) (f p n : Int) (m : Int) (h : V.ok m) (hp : 0 ≤ p) : (V.read f p n).1.length ≤ 1024 := by
  unfold PoolV.read
  cases hg : aget V.files f with
  | none => simp
  | some F =>
    have hF := h.files _ (aget_mem hg)
    have hF1 : F.size ≤ 1024 := hF.2.1
    dsimp only
    split
    · simp
    · split
      · simp
      · show (F.read p n).length ≤ 1024
        have : (F.read p n).length = (min n (F.size - p)).toNat := by simp [FileV.read]
        omega

theorem one_used (L : Int) (F : FileV) : (One L F).used 1 = F.keys.length := rfl
theorem one_size (L : Int) (F : FileV) : (One L F).size 1 = F.size := rfl
theorem FileV.cut_size (F : FileV) (s : Int) : (F.cut s).size = s := rfl

/-- Its block is there: it is none of what comes later. -/
theorem BytesIn.old {w : World} {v : Value} {l : List Int} {D : Nat → Prop} (h : BytesIn w v l D) : BytesIn w v l (fun b => w.heap.size ≤ b) := by
  obtain ⟨h1, a, cap, h2, h3⟩ := h
  refine ⟨h1, a, cap, h2, ?_⟩
  by_cases hl : l = []
  · exact .inl hl
  · obtain ⟨b, off, h4, _, h6⟩ := h3.resolve_left hl
    refine .inr ⟨b, off, h4, fun q => ?_, h6⟩
    have h7 := World.block_lt_of_cell? w _ (h6 0 (List.length_pos_iff.2 hl))
    have : b < w.heap.size := h7
    omega

end Go.Proofs.YtnjfcedkfobbcaaGreat

/-! What the files of a pool have, in sum; a file's blocks lie below its size; a row of asks that came in. -/
namespace Go.Proofs.YtnjfcedkfobbcaaGreat
open Go Go.RowKit
set_option linter.unusedSectionVars false
set_option linter.unusedSimpArgs false
set_option linter.unusedVariables false
set_option maxRecDepth 100000

def FileV.fit (F : FileV) : Prop := ∀ k ∈ F.keys, k * 16 < F.size
def PoolV.fit (V : PoolV) : Prop := ∀ x ∈ V.files, x.2.fit

theorem FileV.len_fit {F : FileV} (h : F.ok) (hf : F.fit) : (F.keys.length : Int) * 16 ≤ F.size + 15 := by
  have h0 := h.1
  have hp : F.keys.Perm ((span 0 ((F.size + 15) / 16 - 1)).filter fun k => decide (k ∈ F.keys)) := by
    rw [List.perm_ext_iff_of_nodup h.2.2.1 ((span_nodup _ _).filter _)]
    intro x
    rw [List.mem_filter, mem_span]
    constructor
    · intro hx; have := h.2.2.2.1 x hx; have h3 := hf x hx; exact ⟨by omega, by simpa using hx⟩
    · intro hx; simpa using hx.2
  have h1 := hp.length_eq
  have h2 := List.length_filter_le (fun k => decide (k ∈ F.keys)) (span 0 ((F.size + 15) / 16 - 1))
  have h3 : (span 0 ((F.size + 15) / 16 - 1)).length = ((F.size + 15) / 16 - 1 + 1 - 0).toNat := by simp [span]
  omega

theorem PoolV.used_fit {V : PoolV} {n : Int} (h : V.ok n) (hf : V.fit) (k : Int) : 0 ≤ V.used k ∧ V.used k ≤ 64 ∧ 0 ≤ V.size k ∧ V.size k ≤ 1024 ∧ V.used k * 16 ≤ V.size k + 15 := by
  unfold PoolV.used PoolV.size
  cases hg : aget V.files k with
  | none => simp
  | some F =>
    have hm := aget_mem hg
    have h1 := FileV.len_fit (h.files _ hm) (hf _ hm)
    have h2 := keys_len (h.files _ hm)
    have h3 := (h.files _ hm).1
    have h4 := (h.files _ hm).2.1
    dsimp only at h1 h2 h3 h4 ⊢
    omega

theorem PoolV.fit_new (n : Int) : PoolV.fit ⟨n, 0, []⟩ := by simp [PoolV.fit]

theorem PoolV.fit.file {V : PoolV} {n : Int} (h : V.ok n) (hf : V.fit) : V.file.fit := by
  intro x hx
  rcases mem_aset h.nodup hx with rfl | ⟨hx, _⟩
  · intro k hk; simp [FileV.empty] at hk
  · exact hf x hx

theorem PoolV.fit.drop {V : PoolV} {n : Int} (h : V.ok n) (hf : V.fit) (f : Int) : (V.drop f).1.fit := by
  unfold PoolV.drop
  cases hg : aget V.files f with
  | none => exact hf
  | some F => exact fun x hx => hf x (mem_adel h.nodup hx).1

theorem PoolV.fit.write {V : PoolV} {n : Int} (h : V.ok n) (hf : V.fit) (f p : Int) (l : List Int) : (V.write f p l).1.fit := by
  unfold PoolV.write
  cases hg : aget V.files f with
  | none => exact hf
  | some F =>
    show (if _ then _ else _ : PoolV × Int).1.fit
    split
    · exact hf
    · split
      · exact hf
      · split
        · exact hf
        · split
          · exact hf
          · rename_i h1 h2 h3 h4
            intro x hx
            rcases mem_aset h.nodup hx with rfl | ⟨hx, _⟩
            · intro k hk
              have hpos : 0 < l.length := List.length_pos_iff.2 h2
              show k * 16 < max F.size (p + l.length)
              rcases (FileV.mem_puts l F p k).1 hk with hk | ⟨_, _, hk⟩
              · have := hf _ (aget_mem hg) k hk
                dsimp only at this
                omega
              · omega
            · exact hf x hx

theorem PoolV.fit.cut {V : PoolV} {n : Int} (h : V.ok n) (hf : V.fit) (f s : Int) : (V.cut f s).1.fit := by
  unfold PoolV.cut
  cases hg : aget V.files f with
  | none => exact hf
  | some F =>
    show (if _ then _ else _ : PoolV × Int).1.fit
    split
    · exact hf
    · split
      · exact hf
      · intro x hx
        rcases mem_aset h.nodup hx with rfl | ⟨hx, _⟩
        · intro k hk
          have := (List.mem_filter.1 hk).2
          show k * 16 < s
          simpa using this
        · exact hf x hx

theorem PoolV.write_made (V : PoolV) (f p : Int) (l : List Int) : (V.write f p l).1.made = V.made := by
  unfold PoolV.write
  cases hg : aget V.files f with
  | none => rfl
  | some F =>
    show (if _ then _ else _ : PoolV × Int).1.made = _
    split
    · rfl
    · split
      · rfl
      · split
        · rfl
        · split <;> rfl
theorem PoolV.cut_made (V : PoolV) (f s : Int) : (V.cut f s).1.made = V.made := by
  unfold PoolV.cut
  cases hg : aget V.files f with
  | none => rfl
  | some F =>
    show (if _ then _ else _ : PoolV × Int).1.made = _
    split
    · rfl
    · split <;> rfl
theorem PoolV.drop_made (V : PoolV) (f : Int) : (V.drop f).1.made = V.made := by
  unfold PoolV.drop
  cases hg : aget V.files f <;> rfl

/-- Sums from 1 on. -/
def sumTo (g : Int → Int) : Nat → Int
  | 0 => 0
  | m + 1 => sumTo g m + g (m + 1)

theorem sumTo_congr {g g' : Int → Int} (h : ∀ i, g i = g' i) : ∀ m, sumTo g m = sumTo g' m
  | 0 => rfl
  | m + 1 => by simp only [sumTo, sumTo_congr h m, h]

theorem sumTo_zero : ∀ m, sumTo (fun _ => 0) m = 0
  | 0 => rfl
  | m + 1 => by simp only [sumTo, sumTo_zero m]; rfl

theorem sumTo_add (g : Int → Int) (a c : Int) (h0 : 1 ≤ a) : ∀ (m : Nat), sumTo (fun i => if a = i then c + g i else g i) m = sumTo g m + if a ≤ m then c else 0
  | 0 => by rw [if_neg (by omega)]; rfl
  | m + 1 => by
    simp only [sumTo, sumTo_add g a c h0 m]
    by_cases h : a = m + 1
    · rw [if_neg (by omega), if_pos h, if_pos (by omega)]; omega
    · rw [if_neg h]
      by_cases h2 : a ≤ m
      · rw [if_pos h2, if_pos (by omega)]; omega
      · rw [if_neg h2, if_neg (by omega)]; omega

def usedOf (L : List (Int × FileV)) (k : Int) : Int := match aget L k with | none => 0 | some F => F.keys.length

theorem sum_used (m : Nat) : ∀ (L : List (Int × FileV)), (∀ x ∈ L, 1 ≤ x.1 ∧ x.1 ≤ m) → (L.map Prod.fst).Nodup → sumTo (usedOf L) m = (L.map fun x => (x.2.keys.length : Int)).sum
  | [], _, _ => by
    have e := (sumTo_congr (g := usedOf []) (g' := fun _ => 0) (fun i => rfl) m).trans (sumTo_zero m)
    rw [e]; rfl
  | (a, F) :: r, hk, hn => by
    simp only [List.map_cons, List.nodup_cons] at hn
    have h1 := hk (a, F) (by simp)
    have ih := sum_used m r (fun x hx => hk x (by simp [hx])) hn.2
    have e : ∀ i, usedOf ((a, F) :: r) i = if a = i then (F.keys.length : Int) + usedOf r i else usedOf r i := by
      intro i
      unfold usedOf
      simp only [aget]
      by_cases h : a = i
      · subst h
        rw [if_pos rfl, if_pos rfl, aget_none_iff.2 hn.1]
        dsimp only
        omega
      · rw [if_neg h, if_neg h]
    rw [sumTo_congr e, sumTo_add _ _ _ h1.1, if_pos h1.2, ih]
    simp only [List.map_cons, List.sum_cons]
    omega

theorem PoolV.sum_used {V : PoolV} {n : Int} (h : V.ok n) (m : Nat) (hm : V.made = m) : V.left + sumTo V.used m = n := by
  have := Go.Proofs.YtnjfcedkfobbcaaGreat.sum_used m V.files (fun x hx => by have := h.keys x hx; omega) h.nodup
  rw [← h.sum]
  unfold PoolV.total
  rw [← this]
  rfl

theorem sumTo_used {V : PoolV} {n : Int} (h : V.ok n) (hf : V.fit) : ∀ m, 0 ≤ sumTo V.used m ∧ sumTo V.used m ≤ m * 64
  | 0 => by simp [sumTo]
  | m + 1 => by
    have ih := sumTo_used h hf m
    have := PoolV.used_fit h hf (m + 1)
    simp only [sumTo]
    omega

end Go.Proofs.YtnjfcedkfobbcaaGreat
