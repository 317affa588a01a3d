/-
  The document's pool: its shape in memory, and plain laws of its rows. (RPools: RPool0, RPool1, RPool2, RPool3, RPool4, RPool5, RPool6, RPool7, RPool8)
-/
import Derived.Test.YtnjfcedkfobbcaaGreatHeaps
import Derived.Test.YtnjfcedkfobbcaaGreatBlockLs

/-! The document's pool: its shape in memory, and plain laws of its rows. -/
namespace Go.Proofs.YtnjfcedkfobbcaaGreat
open Go Go.RowKit
set_option linter.unusedSectionVars false
set_option linter.unusedSimpArgs false
set_option linter.unusedVariables false

/-! ### rows -/

def rowL (n : Nat) (f : Int → Int) : List Value := (List.range n).map fun (i : Nat) => Value.int .u8 (f i)

theorem rowL_len (n : Nat) (f : Int → Int) : (rowL n f).length = n := by simp [rowL]
theorem rowL_get {n i : Nat} (f : Int → Int) (h : i < n) : (rowL n f)[i]? = some (.int .u8 (f i)) := by
  unfold rowL
  rw [List.getElem?_map, List.getElem?_range h]
  rfl
theorem rowL_snoc (n : Nat) (f : Int → Int) : rowL (n + 1) f = rowL n f ++ [.int .u8 (f n)] := by
  unfold rowL
  rw [List.range_succ, List.map_append]
  rfl
theorem rowL_congr {n : Nat} {f g : Int → Int} (h : ∀ i : Nat, i < n → f i = g i) : rowL n f = rowL n g := by
  unfold rowL
  apply List.map_congr_left
  intro i hi
  rw [h i (List.mem_range.1 hi)]
theorem rowL_set {n i : Nat} (f : Int → Int) (c : Int) : (rowL n f).set i (.int .u8 c) = rowL n (fun q => if q = i then c else f q) := by
  apply List.ext_getElem?
  intro j
  rw [List.getElem?_set]
  by_cases hj : j < n
  · rw [rowL_get _ hj, rowL_get _ hj, rowL_len]
    by_cases hij : i = j
    · subst hij
      rw [if_pos rfl, if_pos hj, if_pos rfl]
    · rw [if_neg hij, if_neg (by omega)]
  · have h1 : (rowL n f)[j]? = none := List.getElem?_eq_none (by rw [rowL_len]; omega)
    have h2 : (rowL n (fun q => if q = i then c else f q))[j]? = none := List.getElem?_eq_none (by rw [rowL_len]; omega)
    rw [h1, h2, rowL_len]
    split
    · rw [if_neg (by omega)]
    · rfl
theorem rowL_take {n m : Nat} (f : Int → Int) (h : m ≤ n) : (rowL n f).take m = rowL m f := by
  unfold rowL
  rw [← List.map_take, List.take_range, Nat.min_eq_left h]

def hasL (K : List Int) : List Value := (List.range 64).map fun (i : Nat) => Value.bool (decide ((i : Int) ∈ K))
theorem hasL_len (K : List Int) : (hasL K).length = 64 := by simp [hasL]
theorem hasL_get (K : List Int) {i : Nat} (h : i < 64) : (hasL K)[i]? = some (.bool (decide ((i : Int) ∈ K))) := by
  unfold hasL
  rw [List.getElem?_map, List.getElem?_range h]
  rfl
theorem hasL_congr {K J : List Int} (h : ∀ i : Nat, i < 64 → ((i : Int) ∈ K ↔ (i : Int) ∈ J)) : hasL K = hasL J := by
  unfold hasL
  apply List.map_congr_left
  intro i hi
  rw [decide_eq_decide.2 (h i (List.mem_range.1 hi))]
theorem hasL_set {K J : List Int} {i : Nat} {b : Bool} (hi : i < 64) (hb : decide ((i : Int) ∈ J) = b) (h : ∀ j : Nat, j < 64 → j ≠ i → ((j : Int) ∈ K ↔ (j : Int) ∈ J)) : (hasL K).set i (.bool b) = hasL J := by
  apply List.ext_getElem?
  intro j
  rw [List.getElem?_set]
  by_cases hj : j < 64
  · by_cases hij : i = j
    · subst hij
      rw [if_pos rfl, hasL_len, if_pos hj, hasL_get J hj, hb]
    · rw [if_neg hij, hasL_get K hj, hasL_get J hj, decide_eq_decide.2 (h j hj (fun e => hij e.symm))]
  · have h1 : (hasL K)[j]? = none := List.getElem?_eq_none (by rw [hasL_len]; omega)
    have h2 : (hasL J)[j]? = none := List.getElem?_eq_none (by rw [hasL_len]; omega)
    rw [h1, h2, if_neg (by omega)]

theorem cons_set (v u : Value) (l : List Value) (i : Nat) : ((v :: l).toArray.setIfInBounds (1 + i) u) = (v :: l.set i u).toArray := by
  rw [Nat.add_comm]
  simp

/-- How many of the first places a file has. -/
def cntK (K : List Int) (j : Nat) : Nat := ((List.range j).filter fun (i : Nat) => decide ((i : Int) ∈ K)).length
theorem cntK_succ (K : List Int) (j : Nat) : cntK K (j + 1) = cntK K j + if (j : Int) ∈ K then 1 else 0 := by
  unfold cntK
  rw [List.range_succ, List.filter_append, List.length_append]
  by_cases h : (j : Int) ∈ K <;> simp [h]
theorem cntK_le (K : List Int) (j : Nat) : cntK K j ≤ j := by
  unfold cntK
  have := List.length_filter_le (fun (i : Nat) => decide ((i : Int) ∈ K)) (List.range j)
  simpa using this
theorem cntK_all {F : FileV} (h : F.ok) : cntK F.keys 64 = F.keys.length := by
  have hp : F.keys.Perm (((List.range 64).filter fun (i : Nat) => decide ((i : Int) ∈ F.keys)).map fun (i : Nat) => (i : Int)) := by
    rw [List.perm_ext_iff_of_nodup h.2.2.1]
    · intro x
      simp only [List.mem_map, List.mem_filter, List.mem_range, decide_eq_true_eq]
      constructor
      · intro hx
        have := h.2.2.2.1 x hx
        exact ⟨x.toNat, ⟨by omega, by rw [show ((x.toNat : Nat) : Int) = x by omega]; exact hx⟩, by omega⟩
      · rintro ⟨i, ⟨_, hi⟩, rfl⟩
        exact hi
    · unfold List.Nodup
      rw [List.pairwise_map]
      exact ((List.nodup_range).filter _).imp fun h e => h (Int.ofNat.inj e)
  have := hp.length_eq
  rw [List.length_map] at this
  exact this.symm

/-! ### the shape in memory -/

/-- A file of the document's at block xb. -/
structure RFileAt (w : World) (xb : Nat) (S : Nat → Prop) (F : FileV) : Prop where
  ok : F.ok
  zero : ∀ q, F.size ≤ q → F.byte q = 0
  ex : ∃ v, w.heap[xb]? = some (.cells (v :: hasL F.keys).toArray 132 (0, 0)) ∧ w.ownsRow 0 5 1 v F.size.toNat (rowL F.size.toNat F.byte) ∧ (∀ b, v.ownBlock = some b → S b ∧ b ≠ xb) ∧ S xb
  lt : ∀ b, S b → b < w.heap.size

theorem RFileAt.keep {w w' : World} {xb : Nat} {S U : Nat → Prop} {F : FileV} (h : RFileAt w xb S F) (K : Keep w w' U) (hU : ∀ b, S b → ¬ U b) : RFileAt w' xb S F := by
  obtain ⟨v, h1, h2, h3, h4⟩ := h.ex
  exact ⟨h.ok, h.zero, ⟨v, K.get h1 (hU _ h4), rows_keep h2 K (fun b q => hU b (h3 b q).1), h3, h4⟩, fun b q => Nat.lt_of_lt_of_le (h.lt b q) K.size⟩

def slotV (V : PoolV) (xa : Int → Nat) (f : Int) : Value := if (aget V.files f).isSome then ptr (xa f) else .pointer none
def slotsL (V : PoolV) (xa : Int → Nat) : List Value := (List.range V.made.toNat).map fun (i : Nat) => slotV V xa (i + 1)

theorem slotsL_len (V : PoolV) (xa : Int → Nat) : (slotsL V xa).length = V.made.toNat := by simp [slotsL]
theorem slotsL_get (V : PoolV) (xa : Int → Nat) {i : Nat} (h : i < V.made.toNat) : (slotsL V xa)[i]? = some (slotV V xa (i + 1)) := by
  unfold slotsL
  rw [List.getElem?_map, List.getElem?_range h]
  rfl

/-- The document's pool at block rb. -/
structure RPoolAt (w : World) (rb : Nat) (S : Nat → Prop) (n : Int) (V : PoolV) : Prop where
  ok : V.ok n
  ex : ∃ (v : Value) (xa : Int → Nat) (fs : Int → Nat → Prop),
    w.heap[rb]? = some (.cells #[.int .i64 n, v] 99 (0, 0)) ∧
    w.ownsRow 0 129 1 v V.made.toNat (slotsL V xa) ∧
    (∀ b, v.ownBlock = some b → S b ∧ b ≠ rb) ∧ S rb ∧
    (∀ x ∈ V.files, RFileAt w (xa x.1) (fs x.1) x.2) ∧
    (∀ x ∈ V.files, ∀ b, fs x.1 b → S b ∧ b ≠ rb ∧ v.ownBlock ≠ some b) ∧
    (∀ x ∈ V.files, ∀ y ∈ V.files, x.1 ≠ y.1 → ∀ b, fs x.1 b → ¬ fs y.1 b)
  lt : ∀ b, S b → b < w.heap.size

theorem RPoolAt.keep {w w' : World} {rb : Nat} {S U : Nat → Prop} {n : Int} {V : PoolV} (h : RPoolAt w rb S n V) (K : Keep w w' U) (hU : ∀ b, S b → ¬ U b) : RPoolAt w' rb S n V := by
  obtain ⟨v, xa, fs, h1, h2, h3, h4, h5, h6, h7⟩ := h.ex
  exact ⟨h.ok, ⟨v, xa, fs, K.get h1 (hU _ h4), rows_keep h2 K (fun b q => hU b (h3 b q).1), h3, h4, fun x hx => (h5 x hx).keep K (fun b q => hU b (h6 x hx b q).1), h6, h7⟩, fun b q => Nat.lt_of_lt_of_le (h.lt b q) K.size⟩

theorem RPoolAt.aside {w w' : World} {rb : Nat} {S : Nat → Prop} {n : Int} {V : PoolV} (h : RPoolAt w rb S n V) (K : Keep w w' (fun _ => False)) : RPoolAt w' rb S n V := h.keep K (fun _ _ q => q)

theorem aset_isSome {α : Type} (L : List (Int × α)) (f : Int) (v : α) (k : Int) (h : (aget L f).isSome = true) : (aget (aset L f v) k).isSome = (aget L k).isSome := by
  induction L with
  | nil => simp [aget] at h
  | cons x r ih =>
    obtain ⟨a, u⟩ := x
    by_cases ha : a = f
    · simp only [aset, ha, if_true, aget]
      split <;> rfl
    · simp only [aset, ha, if_false, aget]
      split
      · rfl
      · refine ih ?_
        simpa only [aget, ha, if_false] using h

/-- A file of the pool is another one now. -/
theorem rpool_file {w w' : World} {rb : Nat} {S U : Nat → Prop} {n l : Int} {V : PoolV} {f : Int} {F F' : FileV} (h : RPoolAt w rb S n V) (hg : aget V.files f = some F)
    {v : Value} {xa : Int → Nat} {fs : Int → Nat → Prop} (h1 : w.heap[rb]? = some (.cells #[.int .i64 n, v] 99 (0, 0))) (h2 : w.ownsRow 0 129 1 v V.made.toNat (slotsL V xa))
    (h3 : ∀ b, v.ownBlock = some b → S b ∧ b ≠ rb) (h4 : S rb) (h5 : ∀ x ∈ V.files, RFileAt w (xa x.1) (fs x.1) x.2) (h6 : ∀ x ∈ V.files, ∀ b, fs x.1 b → S b ∧ b ≠ rb ∧ v.ownBlock ≠ some b) (h7 : ∀ x ∈ V.files, ∀ y ∈ V.files, x.1 ≠ y.1 → ∀ b, fs x.1 b → ¬ fs y.1 b)
    (K : Keep w w' U) (hU : ∀ b, U b → fs f b) {G : Nat → Prop} (hF : RFileAt w' (xa f) G F') (hG : ∀ b, G b → fs f b ∨ w.heap.size ≤ b) (hok : PoolV.ok { V with left := l, files := aset V.files f F' } n) :
    ∃ S', RPoolAt w' rb S' n { V with left := l, files := aset V.files f F' } ∧ Turn w S w' S' := by
  have hm := aget_mem hg
  have hlt := h.lt
  refine ⟨fun b => S b ∨ G b, ⟨hok, ⟨v, xa, fun k => if k = f then G else fs k, ?_, ?_, ?_, .inl h4, ?_, ?_, ?_⟩, ?_⟩, ⟨K.mono fun b q => (h6 _ hm b (hU b q)).1, ?_⟩⟩
  · exact K.get h1 (fun q => (h6 _ hm _ (hU _ q)).2.1 rfl)
  · have e : slotsL { V with left := l, files := aset V.files f F' } xa = slotsL V xa := by
      unfold slotsL slotV
      apply List.map_congr_left
      intro i _
      show (if (aget (aset V.files f F') _).isSome then _ else _) = _
      rw [aset_isSome _ _ _ _ (by rw [hg]; rfl)]
    rw [e]
    exact rows_keep h2 K (fun b q u => (h6 _ hm b (hU b u)).2.2 q)
  · exact fun b q => ⟨.inl (h3 b q).1, (h3 b q).2⟩
  · intro x hx
    rcases mem_aset h.ok.nodup hx with rfl | ⟨hx, hne⟩
    · show RFileAt w' (xa f) (if f = f then G else fs f) F'
      rw [if_pos rfl]
      exact hF
    · show RFileAt w' (xa x.1) (if x.1 = f then G else fs x.1) x.2
      rw [if_neg hne]
      exact (h5 x hx).keep K (fun b q u => h7 x hx _ hm hne b q (hU b u))
  · intro x hx b q
    rcases mem_aset h.ok.nodup hx with rfl | ⟨hx, hne⟩
    · have q : (if f = f then G else fs f) b := q
      rw [if_pos rfl] at q
      rcases hG b q with z | z
      · have := h6 _ hm b z
        exact ⟨.inl this.1, this.2⟩
      · refine ⟨.inr q, fun e => ?_, fun e => ?_⟩
        · have := hlt _ h4
          omega
        · have := hlt _ (h3 _ e).1
          omega
    · have q : (if x.1 = f then G else fs x.1) b := q
      rw [if_neg hne] at q
      have := h6 x hx b q
      exact ⟨.inl this.1, this.2⟩
  · intro x hx y hy hxy b q r
    have q : (if x.1 = f then G else fs x.1) b := q
    have r : (if y.1 = f then G else fs y.1) b := r
    rcases mem_aset h.ok.nodup hx with rfl | ⟨hx, hne⟩
    · rw [if_pos rfl] at q
      rcases mem_aset h.ok.nodup hy with rfl | ⟨hy, hne2⟩
      · exact hxy rfl
      · rw [if_neg hne2] at r
        rcases hG b q with z | z
        · exact h7 _ hm y hy (fun e => hne2 e.symm) b z r
        · have := hlt _ (h6 y hy b r).1
          omega
    · rw [if_neg hne] at q
      rcases mem_aset h.ok.nodup hy with rfl | ⟨hy, hne2⟩
      · rw [if_pos rfl] at r
        rcases hG b r with z | z
        · exact h7 x hx _ hm hne b q z
        · have := hlt _ (h6 x hx b q).1
          omega
      · rw [if_neg hne2] at r
        exact h7 x hx y hy hxy b q r
  · intro b q
    rcases q with q | q
    · exact Nat.lt_of_lt_of_le (h.lt b q) K.size
    · exact hF.lt b q
  · intro b q
    rcases q with q | q
    · exact .inl q
    · exact (hG b q).imp (fun z => (h6 _ hm b z).1) id

end Go.Proofs.YtnjfcedkfobbcaaGreat

/-! A file of the document's while it is being turned. -/
namespace Go.Proofs.YtnjfcedkfobbcaaGreat
open Go Go.RowKit
set_option linter.unusedSectionVars false
set_option linter.unusedSimpArgs false
set_option linter.unusedVariables false

structure RFlux (w0 : World) (fs : Nat → Prop) (xb : Nat) (w : World) (v : Value) (K : List Int) (m : Nat) (f : Int → Int) : Prop where
  blk : w.heap[xb]? = some (.cells (v :: hasL K).toArray 132 (0, 0))
  row : w.ownsRow 0 5 1 v m (rowL m f)
  own : ∀ b, v.ownBlock = some b → (fs b ∨ w0.heap.size ≤ b) ∧ b ≠ xb
  keep : Keep w0 w fs
  at_ : fs xb
  old : xb < w0.heap.size

theorem RFlux.start {w : World} {xb : Nat} {S : Nat → Prop} {F : FileV} (h : RFileAt w xb S F) : ∃ v, RFlux w S xb w v F.keys F.size.toNat F.byte := by
  obtain ⟨v, h1, h2, h3, h4⟩ := h.ex
  exact ⟨v, h1, h2, fun b q => ⟨.inl (h3 b q).1, (h3 b q).2⟩, Keep.refl _ _, h4, h.lt _ h4⟩

theorem RFlux.fin {w0 w : World} {fs : Nat → Prop} {xb : Nat} {v : Value} {K : List Int} {m : Nat} {f : Int → Int} (h : RFlux w0 fs xb w v K m f) (hfs : ∀ b, fs b → b < w0.heap.size) {F : FileV} (hok : F.ok) (hz : ∀ q, F.size ≤ q → F.byte q = 0)
    (hs : F.size = m) (hb : ∀ i : Nat, i < m → f i = F.byte i) (hk : ∀ i : Nat, i < 64 → ((i : Int) ∈ K ↔ (i : Int) ∈ F.keys)) :
    ∃ G, RFileAt w xb G F ∧ ∀ b, G b → fs b ∨ w0.heap.size ≤ b := by
  have e : F.size.toNat = m := by omega
  refine ⟨fun b => fs b ∨ v.ownBlock = some b, ⟨hok, hz, ⟨v, by rw [← hasL_congr hk]; exact h.blk, by rw [e, ← rowL_congr hb]; exact h.row, fun b q => ⟨.inr q, (h.own b q).2⟩, .inl h.at_⟩, fun b q => ?_⟩, fun b q => ?_⟩
  · rcases q with q | q
    · exact Nat.lt_of_lt_of_le (hfs b q) h.keep.size
    · rcases rows_val h.row with ⟨rfl, _⟩ | ⟨g, cap, rfl, _, h5, h6⟩
      · simp [Value.ownBlock] at q
      · rw [h5] at q; cases q; exact h6
  · rcases q with q | q
    · exact .inl q
    · exact (h.own b q).1

theorem RFlux.aside {w0 w w' : World} {fs : Nat → Prop} {xb : Nat} {v : Value} {K : List Int} {m : Nat} {f : Int → Int} (h : RFlux w0 fs xb w v K m f) (k : Keep w w' (fun _ => False)) : RFlux w0 fs xb w' v K m f :=
  ⟨k.get h.blk (fun q => q), rows_keep h.row k (fun _ _ q => q), h.own, h.keep.trans k (fun _ q => q.elim), h.at_, h.old⟩

/-- The row is another one now. -/
theorem RFlux.turn {w0 w w' : World} {fs : Nat → Prop} {xb : Nat} {v v' : Value} {K : List Int} {m m' : Nat} {f f' : Int → Int} (h : RFlux w0 fs xb w v K m f) (k : Keep w w' (fun b => v.ownBlock = some b)) (hr : w'.ownsRow 0 5 1 v' m' (rowL m' f'))
    (hv : ∀ b, v'.ownBlock = some b → v.ownBlock = some b ∨ w.heap.size ≤ b) : RFlux w0 fs xb (w'.setCell ⟨xb, 0, none⟩ v') v' K m' f' := by
  have hw := h.keep.size
  have ho : ∀ b, v'.ownBlock = some b → (fs b ∨ w0.heap.size ≤ b) ∧ b ≠ xb := fun b q => by
    rcases hv b q with z | z
    · exact h.own b z
    · refine ⟨.inr (by omega), fun e => ?_⟩
      have := h.old
      omega
  have b1 := k.get h.blk (fun q => (h.own _ q).2 rfl)
  refine ⟨?_, rows_keep hr (Keep.setCell w' ⟨xb, 0, none⟩ v') (fun b q e => (ho b q).2 e), ho, ?_, h.at_, h.old⟩
  · have := heap_setCell_eq (off := 0) v' b1
    simpa using this
  · refine (h.keep.trans k (fun b q => ?_)).trans (Keep.setCell w' ⟨xb, 0, none⟩ v') (fun b q => .inl (by rw [show b = xb from q]; exact h.at_))
    exact (h.own b q).1

theorem RFlux.byte {w0 w : World} {fs : Nat → Prop} {xb g n cap : Nat} {K : List Int} {m : Nat} {f : Int → Int} (h : RFlux w0 fs xb w (.slice (some ⟨g, 0, none⟩) n cap) K m f) (j : Nat) (c : Int) : RFlux w0 fs xb (w.setCell ⟨g, j, none⟩ (.int .u8 c)) (.slice (some ⟨g, 0, none⟩) n cap) K m (fun q => if q = j then c else f q) := by
  have k := Keep.setCell w ⟨g, j, none⟩ (.int .u8 c)
  have ho := h.own g rfl
  refine ⟨k.get h.blk (fun q => ho.2 (show xb = g from q).symm), ?_, h.own, h.keep.trans k (fun b q => by rw [show b = g from q]; exact ho.1), h.at_, h.old⟩
  rw [← rowL_set]
  exact rows_set h.row j _

theorem RFlux.has {w0 w : World} {fs : Nat → Prop} {xb : Nat} {v : Value} {K J : List Int} {m : Nat} {f : Int → Int} (h : RFlux w0 fs xb w v K m f) (i : Nat) (hi : i < 64) (b : Bool) (hb : decide ((i : Int) ∈ J) = b) (hj : ∀ j : Nat, j < 64 → j ≠ i → ((j : Int) ∈ K ↔ (j : Int) ∈ J)) :
    RFlux w0 fs xb (w.setCell ⟨xb, 1 + i, none⟩ (.bool b)) v J m f := by
  have k := Keep.setCell w ⟨xb, 1 + i, none⟩ (.bool b)
  refine ⟨?_, rows_keep h.row k (fun b q e => (h.own b q).2 e), h.own, h.keep.trans k (fun b q => .inl (by rw [show b = xb from q]; exact h.at_)), h.at_, h.old⟩
  rw [heap_setCell_eq _ h.blk, cons_set, hasL_set hi hb hj]

theorem rowL_grow {F : FileV} (hz : ∀ q, F.size ≤ q → F.byte q = 0) {m : Nat} (hm : F.size ≤ m) : rowL m F.byte ++ [.int .u8 0] = rowL (m + 1) F.byte := by
  rw [rowL_snoc, hz m hm]

theorem put_keys (F : FileV) (p c : Int) : (F.put p c).keys = (F.addKey (p / 16)).keys := rfl
theorem put_byte (F : FileV) (p c : Int) : (F.put p c).byte = fun q => if q = p then c else F.byte q := by
  show (fun q => if q = p then c else (F.addKey (p / 16)).byte q) = _
  rw [F.addKey_byte]

theorem write_zero {F : FileV} (hz : ∀ q, F.size ≤ q → F.byte q = 0) (p : Int) (l : List Int) : ∀ q, FileV.size { F.puts p l with size := max F.size (p + l.length) } ≤ q → FileV.byte { F.puts p l with size := max F.size (p + l.length) } q = 0 := by
  intro q hq
  have hq' : max F.size (p + l.length) ≤ q := hq
  show (F.puts p l).byte q = 0
  rw [FileV.puts_byte, if_neg (by omega)]
  exact hz q (by omega)

theorem cut_zero (F : FileV) (s : Int) : ∀ q, (F.cut s).size ≤ q → (F.cut s).byte q = 0 := by
  intro q hq
  have hq' : s ≤ q := hq
  show (if q < s then F.byte q else 0) = 0
  rw [if_neg (by omega)]

end Go.Proofs.YtnjfcedkfobbcaaGreat

/-! The document's pool: of, used, Used, Size, Left. -/
namespace Go.Proofs.YtnjfcedkfobbcaaGreat
open Go Go.RowKit
set_option linter.unusedSectionVars false
set_option linter.unusedSimpArgs false
set_option linter.unusedVariables false
set_option maxRecDepth 100000
attribute [local go_sem] Oper.semAt_some

theorem rof_c {w : World} {rb : Nat} {n : Int} {V : PoolV} {v : Value} {xa : Int → Nat} (h1 : w.heap[rb]? = some (.cells #[.int .i64 n, v] 99 (0, 0))) (h2 : w.ownsRow 0 129 1 v V.made.toNat (slotsL V xa)) (hok : V.ok n) (hm : V.made ≤ 1000000) (f : Int) :
    Calls Tryz.prog 95 #[.pointer (some ⟨rb, 0, none⟩), .int .i64 f] w fun r w' => r = .returned (slotV V xa f) ∧ w' = w := by
  obtain ⟨sa, cap, rfl, hc⟩ := rows_val2 h2
  obtain ⟨m, hmm⟩ : ∃ m : Nat, m = V.made.toNat := ⟨_, rfl⟩
  have hmi : V.made = m := by have := hok.made0; omega
  have hkeys := hok.keys
  rw [← hmm] at h1 h2 hc
  have c0 : w.cell? ⟨rb, 1, none⟩ = some (.slice sa m cap) := by rw [cell_blk h1]; rfl
  have hm6 : m ≤ 1000000 := by omega
  by_cases hf : 1 ≤ f ∧ f ≤ m
  · obtain ⟨i, rfl⟩ : ∃ i : Nat, f = (i : Int) + 1 := ⟨(f - 1).toNat, by omega⟩
    obtain ⟨g, rfl, -, -, -⟩ := rows_some h2 (by omega)
    have c1 : w.cell? ⟨g, i, none⟩ = some (slotV V xa ((i : Int) + 1)) := (rows_cell h2 (slotsL_get V xa (i := i) (by omega))).1
    generalize slotV V xa ((i : Int) + 1) = sv at *
    have g1 : ¬ (i : Int) + 1 < 1 := by omega
    have g2 : ¬ (m : Int) < (i : Int) + 1 := by omega
    have g3 : i < m := by omega
    clear h1 h2 hok hmm hmi hkeys hf hm
    go_enter Tryz.func95, Tryz.ntmps95
    go_wp2
    go_ret
    exact ⟨rfl, rfl⟩
  · have hs : slotV V xa f = .pointer none := by
      unfold slotV
      rw [if_neg]
      intro hx
      cases hg : aget V.files f with
      | none => rw [hg] at hx; simp at hx
      | some F =>
        have := hkeys _ (aget_mem hg)
        simp only at this
        omega
    rw [hs]
    by_cases g1 : f < 1
    · clear h1 h2 hok hmm hmi hkeys hf hm hs
      go_enter Tryz.func95, Tryz.ntmps95
      go_wp2
      go_ret
      exact ⟨rfl, rfl⟩
    · have g2 : (m : Int) < f := by omega
      clear h1 h2 hok hmm hmi hkeys hf hm hs
      go_enter Tryz.func95, Tryz.ntmps95
      go_wp2
      go_ret
      exact ⟨rfl, rfl⟩

theorem rused_c {w : World} {xb : Nat} {S : Nat → Prop} {F : FileV} (h : RFileAt w xb S F) :
    Calls Tryz.prog 104 #[.pointer (some ⟨xb, 0, none⟩)] w fun r w' => r = .returned (.int .i64 F.keys.length) ∧ w' = w := by
  obtain ⟨v, h1, h2, h3, h4⟩ := h.ex
  have hall := cntK_all h.ok
  have cells : ∀ i : Nat, i < 64 → w.cell? ⟨xb, 1 + i, none⟩ = some (.bool (decide ((i : Int) ∈ F.keys))) := fun i hi => by
    rw [cell_blk h1, Nat.add_comm]
    simpa using hasL_get F.keys hi
  generalize F.keys = K at *
  have HC := Lib.hid (And.intro cells hall)
  clear h h1 h2 h3 h4 cells hall
  go_enter Tryz.func104, Tryz.ntmps104
  go_wp2
  go_loopg [3, 4] 64 (fun g s3 s4 wr => ∃ i : Nat, s4 = .int .i64 i ∧ s3 = .int .i64 (cntK K i) ∧ i + g = 64 ∧ wr = w)
  case atStart => exact ⟨0, rfl, rfl, by omega, rfl⟩
  case round =>
    obtain ⟨i, rfl, rfl, hi, rfl⟩ := hrel
    by_cases hl : i < 64
    · have hl' : (i : Int) < 64 := by omega
      have c1 := HC.out.1 i hl
      have hs := Lib.hid (cntK_succ K i)
      have hle := cntK_le K i
      obtain ⟨q, hq⟩ : ∃ q, q = cntK K i := ⟨_, rfl⟩
      rw [← hq] at hle ⊢
      have HQ := Lib.hid hq
      clear hq
      by_cases hk : (i : Int) ∈ K
      · have e1 : decide ((i : Int) ∈ K) = true := by simpa using hk
        rw [e1] at c1
        have HK := Lib.hid hk
        clear hk e1
        go_wp2
        go_roundg (64 - (i + 1))
        case measure => omega
        case rel => exact ⟨i + 1, by go_num, by rw [hs.out, if_pos HK.out, ← HQ.out]; go_num, by omega, rfl⟩
      · have e1 : decide ((i : Int) ∈ K) = false := by simpa using hk
        rw [e1] at c1
        have HK := Lib.hid hk
        clear hk e1
        go_wp2
        go_roundg (64 - (i + 1))
        case measure => omega
        case rel => exact ⟨i + 1, by go_num, by rw [hs.out, if_neg HK.out, ← HQ.out]; rfl, by omega, rfl⟩
    · have hl' : ¬ (i : Int) < 64 := by omega
      have hi64 : i = 64 := by omega
      have HI := Lib.hid hi64
      clear hi64
      go_wp2
      go_ret
      refine ⟨?_, rfl⟩
      rw [← HC.out.2, ← HI.out]
      rfl

end Go.Proofs.YtnjfcedkfobbcaaGreat

/-! The document's pool: Used, Size, Left. -/
namespace Go.Proofs.YtnjfcedkfobbcaaGreat
open Go Go.RowKit
set_option linter.unusedSectionVars false
set_option linter.unusedSimpArgs false
set_option linter.unusedVariables false
set_option maxRecDepth 100000
attribute [local go_sem] Oper.semAt_some

theorem slot_none {V : PoolV} {xa : Int → Nat} {f : Int} (h : aget V.files f = none) : slotV V xa f = .pointer none := by
  unfold slotV; rw [h]; rfl
theorem slot_some {V : PoolV} {xa : Int → Nat} {f : Int} {F : FileV} (h : aget V.files f = some F) : slotV V xa f = .pointer (some ⟨xa f, 0, none⟩) := by
  unfold slotV; rw [h]; rfl

theorem rSize_c {w : World} {rb : Nat} {S : Nat → Prop} {n : Int} {V : PoolV} (h : RPoolAt w rb S n V) (hm : V.made ≤ 1000000) (f : Int) :
    Calls Tryz.prog 85 #[.pointer (some ⟨rb, 0, none⟩), .int .i64 f] w fun r w' => r = .returned (.int .i64 (V.size f)) ∧ w' = w := by
  obtain ⟨v, xa, fs, h1, h2, h3, h4, h5, h6, h7⟩ := h.ex
  have ho := rof_c h1 h2 h.ok hm f
  unfold PoolV.size
  cases hg : aget V.files f with
  | none =>
    rw [slot_none hg] at ho
    clear h h1 h2 h3 h4 h5 h6 h7 hg hm
    go_enter Tryz.func85, Tryz.ntmps85
    go_wp2_with (
      go_at_call 95
      refine ho.mono ?_
      rintro e w2 ⟨rfl, hw⟩
      subst hw
      clear ho)
    go_ret
    exact ⟨rfl, rfl⟩
  | some F =>
    rw [slot_some hg] at ho
    have hF := h5 _ (aget_mem hg)
    obtain ⟨u, k1, k2, k3, k4⟩ := hF.ex
    obtain ⟨sa, cap, rfl, hc⟩ := rows_val2 k2
    have hs0 := hF.ok.1
    simp only at k1 k2 hc hs0
    obtain ⟨s, hs⟩ : ∃ s : Nat, s = F.size.toNat := ⟨_, rfl⟩
    have hss : F.size = s := by omega
    rw [← hs] at k1 hc
    have c0 : w.cell? ⟨xa f, 0, none⟩ = some (.slice sa s cap) := by rw [cell_blk k1]; rfl
    dsimp only
    rw [hss]
    clear h h1 h2 h3 h4 h5 h6 h7 hg hm hF k1 k2 k3 k4 hs hss hs0
    go_enter Tryz.func85, Tryz.ntmps85
    go_wp2_with (
      go_at_call 95
      refine ho.mono ?_
      rintro e w2 ⟨rfl, hw⟩
      subst hw
      clear ho)
    go_ret
    exact ⟨rfl, rfl⟩

theorem usedOf_bd {V : PoolV} {n : Int} (h : V.ok n) (k : Int) : 0 ≤ usedOf V.files k ∧ usedOf V.files k ≤ 64 := by
  unfold usedOf
  cases hg : aget V.files k with
  | none => simp
  | some F =>
    have hF := h.files _ (aget_mem hg)
    have e := cntK_all hF
    have := cntK_le F.keys 64
    simp only at e
    dsimp only
    omega

theorem sumTo_bd {V : PoolV} {n : Int} (h : V.ok n) : ∀ i : Nat, 0 ≤ sumTo (usedOf V.files) i ∧ sumTo (usedOf V.files) i ≤ 64 * i
  | 0 => by simp [sumTo]
  | i + 1 => by
    have h1 := sumTo_bd h i
    have h2 := usedOf_bd h ((i : Int) + 1)
    show 0 ≤ sumTo (usedOf V.files) i + usedOf V.files _ ∧ sumTo (usedOf V.files) i + usedOf V.files _ ≤ _
    have e : (((i + 1 : Nat)) : Int) = (i : Int) + 1 := by omega
    first | rw [e] | skip
    omega

set_option maxHeartbeats 1000000 in
theorem rLeft_c {w : World} {rb : Nat} {S : Nat → Prop} {n : Int} {V : PoolV} (h : RPoolAt w rb S n V) (hm : V.made ≤ 1000000) :
    Calls Tryz.prog 96 #[.pointer (some ⟨rb, 0, none⟩)] w fun r w' => r = .returned (.int .i64 V.left) ∧ w' = w := by
  obtain ⟨v, xa, fs, h1, h2, h3, h4, h5, h6, h7⟩ := h.ex
  obtain ⟨sa, cap, rfl, hc⟩ := rows_val2 h2
  obtain ⟨m, hmm⟩ : ∃ m : Nat, m = V.made.toNat := ⟨_, rfl⟩
  have hmi : V.made = m := by have := h.ok.made0; omega
  have hsum := sum_used m V.files (fun x hx => by rw [← hmi]; exact h.ok.keys x hx) h.ok.nodup
  have htot := h.ok.sum
  unfold PoolV.total at htot
  rw [← hsum] at htot
  rw [← hmm] at h1 h2 hc
  have c0 : w.cell? ⟨rb, 0, none⟩ = some (.int .i64 n) := by rw [cell_blk h1]; rfl
  have c1 : w.cell? ⟨rb, 1, none⟩ = some (.slice sa m cap) := by rw [cell_blk h1]; rfl
  have hm6 : m ≤ 1000000 := by omega
  have hn := h.ok.most
  have hl0 := h.ok.left
  have H := Lib.hid (And.intro h.ok (And.intro h2 (And.intro h5 hmm)))
  have HT := Lib.hid htot
  have hbm := sumTo_bd h.ok m
  have hn0 : 0 ≤ n := by omega
  clear h h1 h2 h3 h4 h5 h6 h7 hm hmm hmi hsum htot hl0 hbm
  go_enter Tryz.func96, Tryz.ntmps96
  go_wp2
  go_loopg [3, 4] m (fun g s3 s4 wr => ∃ i : Nat, s4 = .int .i64 i ∧ s3 = .int .i64 (n - sumTo (usedOf V.files) i) ∧ i + g = m ∧ wr = w)
  case atStart => exact ⟨0, rfl, by simp [sumTo], by omega, rfl⟩
  case round =>
    obtain ⟨i, rfl, rfl, hi, rfl⟩ := hrel
    have hb := sumTo_bd H.out.1 i
    have hu := usedOf_bd H.out.1 ((i : Int) + 1)
    have HS := Lib.hid (show sumTo (usedOf V.files) (i + 1) = sumTo (usedOf V.files) i + usedOf V.files ((i : Int) + 1) from by
      show sumTo (usedOf V.files) i + usedOf V.files _ = _
      congr 2 <;> omega)
    generalize hx : sumTo (usedOf V.files) i = x at *
    have HX := Lib.hid hx
    clear hx
    by_cases hl : i < m
    · have hl' : (i : Int) < (m : Int) := by omega
      obtain ⟨g, rfl, -, -, -⟩ := rows_some H.out.2.1 (by omega)
      have c2 : wr.cell? ⟨g, i, none⟩ = some (slotV V xa ((i : Int) + 1)) := (rows_cell H.out.2.1 (slotsL_get V xa (i := i) (by rw [← H.out.2.2.2]; exact hl))).1
      cases hg : aget V.files ((i : Int) + 1) with
      | none =>
        rw [slot_none hg] at c2
        have HU := Lib.hid (show usedOf V.files ((i : Int) + 1) = 0 by unfold usedOf; rw [hg])
        clear hg hu
        go_wp2
        go_roundg (m - (i + 1))
        case measure => omega
        case rel => exact ⟨i + 1, by go_num, by rw [HS.out, HU.out]; congr 1; omega, by omega, rfl⟩
      | some F =>
        rw [slot_some hg] at c2
        have hus := rused_c (H.out.2.2.1 _ (aget_mem hg))
        have huq : usedOf V.files ((i : Int) + 1) = F.keys.length := by unfold usedOf; rw [hg]
        rw [huq] at hu
        have HU := Lib.hid huq
        generalize xa ((i : Int) + 1) = xb at *
        obtain ⟨q, hq⟩ : ∃ q : Nat, q = F.keys.length := ⟨_, rfl⟩
        simp only at hus
        rw [← hq] at hu hus
        have HQ := Lib.hid hq
        clear hg huq hq
        go_wp2_with (
          go_at_call 104
          refine hus.mono ?_
          rintro e w3 ⟨rfl, hw⟩
          subst hw
          clear hus)
        go_roundg (m - (i + 1))
        case measure => omega
        case rel => exact ⟨i + 1, by go_num, by rw [HS.out, HU.out, ← HQ.out]; congr 1; omega, by omega, rfl⟩
    · have hl' : ¬ (i : Int) < (m : Int) := by omega
      have him : i = m := by omega
      have HI := Lib.hid him
      clear him hu
      go_wp2
      go_ret
      have ht := HT.out
      rw [← HI.out, HX.out] at ht
      exact ⟨by rw [show V.left = n - x by omega]; rfl, rfl⟩

end Go.Proofs.YtnjfcedkfobbcaaGreat

/-! The document's pool: New, Drop. -/
namespace Go.Proofs.YtnjfcedkfobbcaaGreat
open Go Go.RowKit
set_option linter.unusedSectionVars false
set_option linter.unusedSimpArgs false
set_option linter.unusedVariables false
set_option maxRecDepth 100000
attribute [local go_sem] Oper.semAt_some

theorem aget_notin {α : Type} {L : List (Int × α)} {x : Int} (h : x ∉ L.map Prod.fst) : aget L x = none := by
  cases hg : aget L x with
  | none => rfl
  | some v => exact absurd (List.mem_map.2 ⟨_, aget_mem hg, rfl⟩) h

theorem aget_adelI {α : Type} {L : List (Int × α)} (hn : (L.map Prod.fst).Nodup) (x y : Int) : aget (adel L x) y = if x = y then none else aget L y := by
  induction L with
  | nil => simp [adel, aget]
  | cons z r ih =>
    obtain ⟨a, u⟩ := z
    simp only [List.map_cons, List.nodup_cons] at hn
    simp only [adel]
    by_cases h : a = x
    · subst h
      rw [if_pos rfl]
      by_cases e : a = y
      · subst e
        rw [if_pos rfl]
        exact aget_notin hn.1
      · rw [if_neg e]
        simp only [aget, if_neg e]
    · rw [if_neg h]
      simp only [aget]
      by_cases e : a = y
      · rw [if_pos e, if_pos e, if_neg (fun q => h (e.trans q.symm))]
      · rw [if_neg e, if_neg e, ih hn.2]

theorem krnewp_c (w : World) (n : Int) (h0 : 0 ≤ n) (h1 : n ≤ 256) :
    Calls Tryz.prog 13 #[.int .i64 n] w fun r w' => ∃ rb S, r = .returned (.pointer (some ⟨rb, 0, none⟩)) ∧ RPoolAt w' rb S n ⟨n, 0, []⟩ ∧ Turn w (fun _ => False) w' S := by
  go_enter Tryz.func13, Tryz.ntmps13
  go_wp2
  go_ret
  have ka := Keep.alloc w (.cells #[.int .i64 n, .slice none 0 0] 99) (fun _ => False)
  refine ⟨w.heap.size, fun b => b = w.heap.size, rfl, ⟨PoolV.new_ok h0 h1, ⟨.slice none 0 0, fun _ => 0, fun _ _ => False, heap_alloc_eq _ _, rows_nil _ _ _, fun b q => by simp [Value.ownBlock] at q, rfl, fun x hx => by simp at hx, fun x hx => by simp at hx, fun x hx => by simp at hx⟩, fun b q => ?_⟩, ka, fun b q => .inr (by rw [show b = w.heap.size from q]; exact Nat.le_refl _)⟩
  have e : (w.alloc (.cells #[.int .i64 n, .slice none 0 0] 99)).heap.size = w.heap.size + 1 := by simp
  rw [e, show b = w.heap.size from q]
  exact Nat.lt_succ_self _

theorem slotsL_drop {V : PoolV} {xa : Int → Nat} {l : Int} {i : Nat} (hn : (V.files.map Prod.fst).Nodup) : (slotsL V xa).set i (.pointer none) = slotsL { V with left := l, files := adel V.files ((i : Int) + 1) } xa := by
  apply List.ext_getElem?
  intro j
  rw [List.getElem?_set]
  by_cases hj : j < V.made.toNat
  · rw [slotsL_get V xa hj, slotsL_get { V with left := l, files := adel V.files ((i : Int) + 1) } xa (i := j) hj, slotsL_len]
    by_cases hij : i = j
    · subst hij
      rw [if_pos rfl, if_pos hj]
      unfold slotV
      rw [aget_adelI hn, if_pos rfl]
      rfl
    · rw [if_neg hij]
      unfold slotV
      rw [aget_adelI hn]
      simp only [show ¬ ((i : Int) + 1 = (j : Int) + 1) by omega, if_false]
  · have e1 : (slotsL V xa)[j]? = none := List.getElem?_eq_none (by rw [slotsL_len]; omega)
    have e2 : (slotsL { V with left := l, files := adel V.files ((i : Int) + 1) } xa)[j]? = none := List.getElem?_eq_none (by rw [slotsL_len]; exact Nat.le_of_not_lt hj)
    rw [e1, e2, slotsL_len]
    split
    · rw [if_neg (by omega)]
    · rfl

set_option maxHeartbeats 1000000 in
theorem rpdrop_c {w : World} {rb : Nat} {S : Nat → Prop} {n : Int} {V : PoolV} (h : RPoolAt w rb S n V) (hm : V.made ≤ 1000000) (f : Int) :
    Calls Tryz.prog 93 #[.pointer (some ⟨rb, 0, none⟩), .int .i64 f] w fun r w' => r = .returned (.int .i64 (V.drop f).2) ∧ ∃ S', RPoolAt w' rb S' n (V.drop f).1 ∧ Turn w S w' S' := by
  obtain ⟨v, xa, fs, h1, h2, h3, h4, h5, h6, h7⟩ := h.ex
  have ho := rof_c h1 h2 h.ok hm f
  have hok := h.ok.drop f
  unfold PoolV.drop at hok ⊢
  cases hg : aget V.files f with
  | none =>
    rw [slot_none hg] at ho
    have H := Lib.hid h
    clear h h1 h2 h3 h4 h5 h6 h7 hg hm hok
    go_enter Tryz.func93, Tryz.ntmps93
    go_wp2_with (
      go_at_call 95
      refine ho.mono ?_
      rintro e w2 ⟨rfl, hw⟩
      subst hw
      clear ho)
    go_ret
    exact ⟨rfl, S, H.out, Turn.refl _ _⟩
  | some F =>
    rw [slot_some hg] at ho
    rw [hg] at hok
    have hk := h.ok.keys _ (aget_mem hg)
    simp only at hk hok
    obtain ⟨i, rfl⟩ : ∃ i : Nat, f = (i : Int) + 1 := ⟨(f - 1).toNat, by omega⟩
    obtain ⟨sa, cap, rfl, hc⟩ := rows_val2 h2
    obtain ⟨m, hmm⟩ : ∃ m : Nat, m = V.made.toNat := ⟨_, rfl⟩
    have him : i < m := by omega
    rw [← hmm] at h1 h2 h3 h6 hc
    obtain ⟨g, rfl, -, -, -⟩ := rows_some h2 (by omega)
    have c0 : w.cell? ⟨rb, 1, none⟩ = some (.slice (some ⟨g, 0, none⟩) m cap) := by rw [cell_blk h1]; rfl
    have hcs := rows_cell h2 (slotsL_get V xa (i := i) (by omega))
    have c1 := hcs.1
    have c2 := hcs.2
    have hr := rows_set h2 i (.pointer none)
    have hm6 : m ≤ 1000000 := by omega
    have H := Lib.hid (And.intro h (And.intro h1 (And.intro h3 (And.intro h4 (And.intro h5 (And.intro h6 h7))))))
    have HR := Lib.hid (And.intro hr (And.intro hok hmm))
    generalize xa ((i : Int) + 1) = xb at *
    generalize hsv : slotV V xa ((i : Int) + 1) = sv at *
    clear h h1 h2 h3 h4 h5 h6 h7 hg hm hok hcs hr hk hmm hsv
    go_enter Tryz.func93, Tryz.ntmps93
    go_wp2_with (
      go_at_call 95
      refine ho.mono ?_
      rintro e w2 ⟨rfl, hw⟩
      subst hw
      clear ho)
    go_ret
    obtain ⟨h, h1, h3, h4, h5, h6, h7⟩ := H.out
    have k := Keep.setCell w2 ⟨g, i, none⟩ (.pointer none)
    have hg3 := h3 g rfl
    refine ⟨rfl, S, ⟨HR.out.2.1, ⟨.slice (some ⟨g, 0, none⟩) m cap, xa, fs, k.get h1 (fun e => hg3.2 (show rb = g from e).symm), ?_, h3, h4, fun x hx => ?_, fun x hx => ?_, fun x hx y hy => ?_⟩, fun b q => Nat.lt_of_lt_of_le (h.lt b q) k.size⟩, ⟨k.mono fun b q => by rw [show b = g from q]; exact hg3.1, fun b q => .inl q⟩⟩
    · have := HR.out.1
      rw [slotsL_drop (l := V.left + F.keys.length) h.ok.nodup] at this
      rw [HR.out.2.2] at this
      rw [HR.out.2.2]
      exact this
    · exact (h5 x (mem_adel h.ok.nodup hx).1).keep k (fun b q e => (h6 x (mem_adel h.ok.nodup hx).1 b q).2.2 (by rw [show b = g from e]; rfl))
    · exact h6 x (mem_adel h.ok.nodup hx).1
    · exact h7 x (mem_adel h.ok.nodup hx).1 y (mem_adel h.ok.nodup hy).1

end Go.Proofs.YtnjfcedkfobbcaaGreat

/-! The document's pool: Make. -/
namespace Go.Proofs.YtnjfcedkfobbcaaGreat
open Go Go.RowKit
set_option linter.unusedSectionVars false
set_option linter.unusedSimpArgs false
set_option linter.unusedVariables false
set_option maxRecDepth 100000
attribute [local go_sem] Oper.semAt_some

theorem pf_info : ∃ i, Tryz.prog.info? 129 = some i ∧ i.zero = some (.pointer none) ∧ i.size = 1 ∧ i.bytes ≤ 64 := by
  have h : (Tryz.prog.info? 129).map (fun i => (i.zero, i.size, i.bytes)) = some (some (.pointer none), 1, 8) := by kernel_rfl
  cases hh : Tryz.prog.info? 129 with
  | none => rw [hh] at h; simp at h
  | some i =>
    rw [hh] at h
    simp only [Option.map_some, Option.some.injEq, Prod.mk.injEq] at h
    exact ⟨i, rfl, h.1, h.2.1, by omega⟩
theorem pf_cells : (Value.pointer none).cells.size = 1 := rfl

theorem zero_file : Tryz.zeroCells132 = (.slice none 0 0 :: hasL []).toArray := by kernel_rfl

theorem slotsL_file {V : PoolV} {n : Int} (h : V.ok n) (xa : Int → Nat) (xb : Nat) : slotsL V.file (fun k => if k = V.made + 1 then xb else xa k) = slotsL V xa ++ [.pointer (some ⟨xb, 0, none⟩)] := by
  obtain ⟨m, hm⟩ : ∃ m : Nat, V.made = m := ⟨V.made.toNat, by have := h.made0; omega⟩
  have hnone : aget V.files (V.made + 1) = none := aget_notin fun q => by
    obtain ⟨x, hx, e⟩ := List.mem_map.1 q
    have := h.keys x hx
    omega
  have hset : V.file.files = V.files ++ [(V.made + 1, FileV.empty)] := aset_new _ _ _ (fun q => by
    obtain ⟨x, hx, e⟩ := List.mem_map.1 q
    have := h.keys x hx
    omega)
  have hget : ∀ k, aget (V.files ++ [(V.made + 1, FileV.empty)]) k = match aget V.files k with | some F => some F | none => if V.made + 1 = k then some FileV.empty else none := by
    intro k
    induction V.files with
    | nil => simp [aget]
    | cons z r ih =>
      obtain ⟨a, u⟩ := z
      simp only [List.cons_append, aget]
      by_cases e : a = k
      · rw [if_pos e, if_pos e]
      · rw [if_neg e, if_neg e, ih]
  have e1 : V.file.made.toNat = m + 1 := by show (V.made + 1).toNat = _; omega
  have e2 : V.made.toNat = m := by omega
  unfold slotsL
  rw [e1, e2, List.range_succ, List.map_append]
  congr 1
  · apply List.map_congr_left
    intro i hi
    have hi' := List.mem_range.1 hi
    unfold slotV
    rw [hset, hget]
    have hne : ¬ (V.made + 1 = (i : Int) + 1) := by omega
    have hne2 : ¬ ((i : Int) + 1 = V.made + 1) := by omega
    cases aget V.files ((i : Int) + 1) with
    | some F => simp only [Option.isSome_some, if_true, hne2, if_false]
    | none => simp only [hne, if_false, Option.isSome_none, Bool.false_eq_true]
  · simp only [List.map_cons, List.map_nil]
    unfold slotV
    rw [hset, hget, show ((m : Int) + 1) = V.made + 1 by omega, hnone]
    simp only [if_true, Option.isSome_some]
    rfl

set_option maxHeartbeats 1000000 in
theorem rmake_c {w : World} {rb : Nat} {S : Nat → Prop} {n : Int} {V : PoolV} (h : RPoolAt w rb S n V) (hm : V.made ≤ 1000000) :
    Calls Tryz.prog 65 #[.pointer (some ⟨rb, 0, none⟩)] w fun r w' => r = .returned (.int .i64 (V.made + 1)) ∧ ∃ S', RPoolAt w' rb S' n V.file ∧ Turn w S w' S' := by
  obtain ⟨v, xa, fs, h1, h2, h3, h4, h5, h6, h7⟩ := h.ex
  obtain ⟨sa, cap, rfl, hc⟩ := rows_val2 h2
  obtain ⟨m, hmm⟩ : ∃ m : Nat, m = V.made.toNat := ⟨_, rfl⟩
  have hmi : V.made = m := by have := h.ok.made0; omega
  rw [← hmm] at h1 h2 h3 h6 hc
  have c0 : w.cell? ⟨rb, 1, none⟩ = some (.slice sa m cap) := by rw [cell_blk h1]; rfl
  have hm6 : m ≤ 1000000 := by omega
  obtain ⟨pi, pi1, pi2, pi3, pi4⟩ := pf_info
  have PI := Lib.hid (And.intro pi1 (And.intro pi2 (And.intro pi3 pi4)))
  have ka := Keep.alloc w (.cells Tryz.zeroCells132 132) (fun _ => False)
  have ga := heap_alloc_eq w (.cells Tryz.zeroCells132 132)
  have za : (w.alloc (.cells Tryz.zeroCells132 132)).heap.size = w.heap.size + 1 := by simp
  have kb := Keep.alloc (w.alloc (.cells Tryz.zeroCells132 132)) (.cells #[.pointer (some ⟨w.heap.size, 0, none⟩)] 129) (fun _ => False)
  have hnew := cells_new (w.alloc (.cells Tryz.zeroCells132 132)) [.pointer (some ⟨w.heap.size, 0, none⟩)] 129
  rw [za] at hnew
  have kab := ka.trans kb (fun _ q => q.elim)
  have hrow := rows_keep h2 kab (fun _ _ q => q)
  have gb := kb.get ga (fun q => q)
  have bb := kab.get h1 (fun q => q)
  have hsz : w.heap.size + 1 ≤ ((w.alloc (.cells Tryz.zeroCells132 132)).alloc (.cells #[.pointer (some ⟨w.heap.size, 0, none⟩)] 129)).heap.size := by have := kb.size; omega
  have H := Lib.hid (And.intro h (And.intro h1 (And.intro h2 (And.intro h3 (And.intro h4 (And.intro h5 (And.intro h6 h7)))))))
  have HM := Lib.hid (And.intro hmm hmi)
  have HA := Lib.hid (And.intro hnew (And.intro kab (And.intro hrow (And.intro gb (And.intro bb hsz)))))
  rw [hmi]
  clear h h1 h2 h3 h4 h5 h6 h7 hmm hmi pi1 pi2 pi3 pi4 hm ka ga za kb hnew kab hrow gb bb hsz
  go_enter Tryz.func65, Tryz.ntmps65
  go_upto_region 2 with (
    at_builtin
    refine law_append_row rfl _ _ _ rfl Tryz.underlying97 PI.out.1 PI.out.2.1 PI.out.2.2.1 PI.out.2.2.2 pf_cells (by decide) rfl HA.out.2.2.1 [.pointer (some ⟨w.heap.size, 0, none⟩)] rfl rfl (.inr ⟨_, rfl, HA.out.1⟩) (fun u hu => by rw [List.mem_singleton.1 hu]; rfl) (by omega) ?_
    intro sa8 cap8 w8 r1 r2 r3
    have B8 := r2.get HA.out.2.2.2.2.1 (fun e => (H.out.2.2.2.1 rb e.symm).2 rfl)
    have d0 : w8.cell? ⟨rb, 1, none⟩ = some (.slice sa m cap) := by rw [cell_blk B8]; rfl
    have g0 : w8.frozen? ⟨rb, 1, none⟩ = false := free_blk B8 _
    have r2' : Keep w w8 (fun b => some b = (Value.slice sa m cap).ownBlock) := (HA.out.2.1.mono (T := fun b => some b = (Value.slice sa m cap).ownBlock) (fun _ q => q.elim)).trans r2 (fun b q => .inl q)
    have gz : w8.heap[w.heap.size]? = some (.cells Tryz.zeroCells132 132 (0, 0)) := r2.get HA.out.2.2.2.1 (fun e => by have := H.out.1.lt _ (H.out.2.2.2.1 _ e.symm).1; omega)
    have hs8 : w.heap.size + 1 ≤ w8.heap.size := Nat.le_trans HA.out.2.2.2.2.2 r2.size
    have r3' : ∀ b, (Value.slice sa8 (m + 1) cap8).ownBlock = some b → (Value.slice sa m cap).ownBlock = some b ∨ w.heap.size + 1 ≤ b := fun b q => (r3 b q).imp id (fun z => by rw [z]; exact HA.out.2.2.2.2.2)
    have N8 := Lib.hid (And.intro r1 (And.intro r2' (And.intro r3' (And.intro B8 (And.intro gz hs8)))))
    clear r2' r3' gz hs8
    clear r1 r2 r3 B8)
  obtain ⟨wz, hwz⟩ : ∃ wz, wz = w8.setCell ⟨rb, 1, none⟩ (.slice sa8 (m + 1) cap8) := ⟨_, rfl⟩
  rw [← hwz]
  have hz1 : wz.heap[rb]? = some (.cells #[.int .i64 n, .slice sa8 (m + 1) cap8] 99 (0, 0)) := by
    rw [hwz]
    exact heap_setCell_eq (off := 1) (.slice sa8 (m + 1) cap8) N8.out.2.2.2.1
  have e1 : wz.cell? ⟨rb, 1, none⟩ = some (.slice sa8 (m + 1) cap8) := by rw [cell_blk hz1]; rfl
  have HZ := Lib.hid (And.intro hwz hz1)
  clear hwz hz1 d0 g0 c0
  go_wp2
  go_ret
  refine ⟨rfl, ?_⟩
  obtain ⟨h, h1, h2, h3, h4, h5, h6, h7⟩ := H.out
  obtain ⟨r1, r2, r3, B8, gz, hs8⟩ := N8.out
  have kz : Keep w8 wz (fun b => b = rb) := by rw [HZ.out.1]; exact Keep.setCell _ _ _
  have hrb := h.lt _ h4
  have hm1 : V.made + 1 = (m : Int) + 1 := by rw [HM.out.2]
  have hne : ∀ x ∈ V.files, ¬ x.1 = V.made + 1 := fun x hx e => by have := h.ok.keys x hx; omega
  have hset : V.file.files = V.files ++ [(V.made + 1, FileV.empty)] := aset_new _ _ _ (fun q => by
    obtain ⟨x, hx, e⟩ := List.mem_map.1 q
    exact hne x hx e)
  have hown : ∀ b, (Value.slice sa8 (m + 1) cap8).ownBlock = some b → b ≠ rb ∧ b ≠ w.heap.size := fun b q => by
    rcases r3 b q with z | z
    · have := h3 b z
      exact ⟨this.2, fun e => by have := h.lt _ this.1; omega⟩
    · exact ⟨by omega, by omega⟩
  have hrw := rows_keep r1 kz (fun b q e => (hown b q).1 e)
  have gz2 := kz.get gz (fun e => by omega)
  have hin : ∀ x, x ∈ V.file.files → (x ∈ V.files ∧ ¬ x.1 = V.made + 1) ∨ x = (V.made + 1, FileV.empty) := fun x hx => by
    rw [hset] at hx
    rcases List.mem_append.1 hx with hx | hx
    · exact .inl ⟨hx, hne x hx⟩
    · exact .inr (List.mem_singleton.1 hx)
  have kwz : Keep w wz (fun b => some b = (Value.slice sa m cap).ownBlock ∨ b = rb) := (r2.mono (fun b q => .inl q)).trans kz (fun b q => .inl (.inr q))
  refine ⟨fun b => S b ∨ b = w.heap.size ∨ (Value.slice sa8 (m + 1) cap8).ownBlock = some b, ⟨h.ok.file, ⟨.slice sa8 (m + 1) cap8, fun k => if k = V.made + 1 then w.heap.size else xa k, fun k => if k = V.made + 1 then (fun b => b = w.heap.size) else fs k, HZ.out.2, ?_, fun b q => ⟨.inr (.inr q), (hown b q).1⟩, .inl h4, fun x hx => ?_, fun x hx b q => ?_, fun x hx y hy hxy b q z => ?_⟩, fun b q => ?_⟩, ⟨kwz.mono fun b q => ?_, fun b q => ?_⟩⟩
  · have e : V.file.made.toNat = m + 1 := by show (V.made + 1).toNat = _; omega
    rw [e, slotsL_file h.ok]
    exact hrw
  · rcases hin x hx with ⟨hx, hn⟩ | rfl
    · simp only [if_neg hn]
      refine (h5 x hx).keep kwz (fun b q e => ?_)
      have := h6 x hx b q
      rcases e with e | e
      · exact this.2.2 e.symm
      · exact this.2.1 e
    · simp only [if_true]
      rw [zero_file] at gz2
      exact ⟨FileV.empty_ok, fun _ _ => rfl, ⟨.slice none 0 0, gz2, rows_nil _ _ _, fun b q => by simp [Value.ownBlock] at q, rfl⟩, fun b q => by rw [show b = w.heap.size from q]; exact lt_of_blk gz2⟩
  · rcases hin x hx with ⟨hx, hn⟩ | rfl
    · simp only [if_neg hn] at q
      have := h6 x hx b q
      refine ⟨.inl this.1, this.2.1, fun e => ?_⟩
      rcases r3 b e with z | z
      · exact this.2.2 z
      · have := h.lt _ this.1; omega
    · simp only [if_true] at q
      exact ⟨.inr (.inl q), by omega, fun e => (hown b e).2 q⟩
  · rcases hin x hx with ⟨hx, hn⟩ | rfl
    · simp only [if_neg hn] at q
      rcases hin y hy with ⟨hy, hn2⟩ | rfl
      · simp only [if_neg hn2] at z
        exact h7 x hx y hy hxy b q z
      · simp only [if_true] at z
        have := h.lt _ (h6 x hx b q).1
        omega
    · simp only [if_true] at q
      rcases hin y hy with ⟨hy, hn2⟩ | rfl
      · simp only [if_neg hn2] at z
        have := h.lt _ (h6 y hy b z).1
        omega
      · exact hxy rfl
  · rcases q with q | q | q
    · exact Nat.lt_of_lt_of_le (h.lt b q) kwz.size
    · rw [q]; exact lt_of_blk gz2
    · rcases rows_val hrw with ⟨e, _⟩ | ⟨g, cp, e, _, e5, e6⟩
      · rw [e] at q; simp [Value.ownBlock] at q
      · rw [e5] at q; cases q; exact e6
  · rcases q with q | q
    · exact (h3 b q.symm).1
    · rw [q]; exact h4
  · rcases q with q | q | q
    · exact .inl q
    · exact .inr (by omega)
    · rcases r3 b q with z | z
      · exact .inl (h3 b z).1
      · exact .inr (by omega)

end Go.Proofs.YtnjfcedkfobbcaaGreat

/-! The document's pool: Read. -/
namespace Go.Proofs.YtnjfcedkfobbcaaGreat
open Go Go.RowKit
set_option linter.unusedSectionVars false
set_option linter.unusedSimpArgs false
set_option linter.unusedVariables false
set_option maxRecDepth 100000
attribute [local go_sem] Oper.semAt_some

theorem by_info : ∃ i, Tryz.prog.info? 5 = some i ∧ i.zero = some (.int .u8 0) ∧ i.size = 1 ∧ i.bytes ≤ 64 := by
  have h : (Tryz.prog.info? 5).map (fun i => (i.zero, i.size, i.bytes)) = some (some (.int .u8 0), 1, 1) := by kernel_rfl
  cases hh : Tryz.prog.info? 5 with
  | none => rw [hh] at h; simp at h
  | some i =>
    rw [hh] at h
    simp only [Option.map_some, Option.some.injEq, Prod.mk.injEq] at h
    exact ⟨i, rfl, h.1, h.2.1, by omega⟩
theorem by_cells : (Value.int .u8 0).cells.size = 1 := rfl

/-- What Read lays. -/
def RRead (w w' : World) (v : Value) (l : List Int) : Prop := w'.ownsRow 0 5 1 v l.length (l.map (Value.int .u8)) ∧ (∀ b, v.ownBlock = some b → w.heap.size ≤ b) ∧ Keep w w' (fun _ => False)

theorem rread_nil {w w' : World} (k : Keep w w' (fun _ => False)) : RRead w w' (.slice none 0 0) [] := ⟨rows_nil _ _ _, fun b q => by simp [Value.ownBlock] at q, k⟩

set_option maxHeartbeats 2000000 in
theorem rread_c {w : World} {rb : Nat} {S : Nat → Prop} {n : Int} {V : PoolV} (h : RPoolAt w rb S n V) (hm : V.made ≤ 1000000) (f p k : Int) :
    Calls Tryz.prog 88 #[.pointer (some ⟨rb, 0, none⟩), .int .i64 f, .int .i64 p, .int .i64 k] w fun r w' => ∃ v, r = .returned (.tuple #[v, .int .i64 (V.read f p k).2]) ∧ RRead w w' v (V.read f p k).1 := by
  obtain ⟨v, xa, fs, h1, h2, h3, h4, h5, h6, h7⟩ := h.ex
  have ho := rof_c h1 h2 h.ok hm f
  unfold PoolV.read
  cases hg : aget V.files f with
  | none =>
    rw [slot_none hg] at ho
    clear h h1 h2 h3 h4 h5 h6 h7 hg hm
    go_enter Tryz.func88, Tryz.ntmps88
    go_wp2_with (
      go_at_call 95
      refine ho.mono ?_
      rintro e w2 ⟨rfl, hw⟩
      subst hw
      clear ho)
    go_ret2
    exact ⟨_, rfl, rread_nil (Keep.refl _ _)⟩
  | some F =>
    rw [slot_some hg] at ho
    have hF := h5 _ (aget_mem hg)
    obtain ⟨u, k1, k2, k3, k4⟩ := hF.ex
    have hok := hF.ok
    simp only at k1 k2 hok
    generalize xa f = xb at *
    obtain ⟨s, hs⟩ : ∃ s : Nat, s = F.size.toNat := ⟨_, rfl⟩
    have hss : F.size = s := by have := hok.1; omega
    have hs24 : s ≤ 1024 := by have := hok.2.1; omega
    rw [← hs] at k2
    obtain ⟨sa, cap, rfl, hc⟩ := rows_val2 k2
    have c0 : w.cell? ⟨xb, 0, none⟩ = some (.slice sa s cap) := by rw [cell_blk k1]; rfl
    have HR := Lib.hid k2
    dsimp only
    clear h h1 h2 h3 h4 h5 h6 h7 hg hm hF k1 k2 k3 k4 hs hok
    by_cases hneg : p < 0 ∨ k < 0
    · rw [if_pos hneg]
      have hn2 : p < 0 ∨ (¬ p < 0 ∧ k < 0) := by omega
      clear hneg hss
      rcases hn2 with g1 | ⟨g1, g2⟩
      all_goals
        go_enter Tryz.func88, Tryz.ntmps88
        go_wp2_with (
          go_at_call 95
          refine ho.mono ?_
          rintro e w2 ⟨rfl, hw⟩
          subst hw
          clear ho)
        go_ret2
        exact ⟨_, rfl, rread_nil (Keep.refl _ _)⟩
    · rw [if_neg hneg]
      have g1 : ¬ p < 0 := by omega
      have g2 : ¬ k < 0 := by omega
      obtain ⟨q, rfl⟩ : ∃ q : Nat, p = q := ⟨p.toNat, by omega⟩
      obtain ⟨N, hN⟩ : ∃ N : Nat, N = (if F.size ≤ (q : Int) then 0 else (min k (F.size - q)).toNat) := ⟨_, rfl⟩
      have hres : (if F.size ≤ (q : Int) then (([] : List Int), (0 : Int)) else (F.read q k, 0)) = ((List.range N).map (fun (i : Nat) => F.byte ((q : Int) + i)), 0) := by
        rw [hN]
        by_cases e : F.size ≤ (q : Int)
        · rw [if_pos e, if_pos e]; rfl
        · rw [if_neg e, if_neg e]; rfl
      rw [hres]
      have hNin : ∀ i : Nat, i < N → (i : Int) < k ∧ (q : Int) < s ∧ (i : Int) < (s : Int) - q := fun i hi => by
        rw [hN] at hi
        split at hi <;> omega
      have hNout : ¬ (N : Int) < k ∨ ((N : Int) < k ∧ ¬ (q : Int) < s) ∨ ((N : Int) < k ∧ (q : Int) < s ∧ ¬ (N : Int) < (s : Int) - q) := by
        rw [hN]
        split <;> omega
      have hN24 : N ≤ 1024 := by rw [hN]; split <;> omega
      have HN := Lib.hid (And.intro hNin hNout)
      obtain ⟨bi, bi1, bi2, bi3, bi4⟩ := by_info
      have BI := Lib.hid (And.intro bi1 (And.intro bi2 (And.intro bi3 bi4)))
      clear hneg hres hNin hNout hN bi1 bi2 bi3 bi4 hss
      go_enter Tryz.func88, Tryz.ntmps88
      go_wp2_with (
        go_at_call 95
        refine ho.mono ?_
        rintro e w2 ⟨rfl, hw⟩
        subst hw
        clear ho)
      go_loopg [11, 12] N (fun g s11 s12 wr => ∃ i : Nat, s12 = .int .i64 i ∧ i + g = N ∧ wr.ownsRow 0 5 1 s11 i (rowL i (fun z => F.byte ((q : Int) + z))) ∧ (∀ b, s11.ownBlock = some b → w2.heap.size ≤ b) ∧ Keep w2 wr (fun _ => False))
      case atStart => exact ⟨0, rfl, by omega, rows_nil _ _ _, fun b q => by simp [Value.ownBlock] at q, Keep.refl _ _⟩
      case round =>
        obtain ⟨i, rfl, hi, hr, hn, hK⟩ := hrel
        obtain ⟨wo, hwo⟩ : ∃ wo, wo = wr := ⟨_, rfl⟩
        subst hwo
        obtain ⟨a9, cap9, hs9, hcap9⟩ := rows_val2 hr
        subst hs9
        have E := Lib.hid (And.intro hr (And.intro hn hK))
        have d0 : wo.cell? ⟨xb, 0, none⟩ = some (.slice sa s cap) := hK.cell c0 (fun q => q)
        by_cases hl : i < N
        · obtain ⟨n1, n2, n3⟩ := HN.out.1 i hl
          have hrow := rows_keep HR.out hK (fun _ _ q => q)
          obtain ⟨g, rfl, -, -, -⟩ := rows_some hrow (by omega)
          have d1 : wo.cell? ⟨g, q + i, none⟩ = some (.int .u8 (F.byte ((q : Int) + i))) := by
            have := (rows_cell hrow (rowL_get F.byte (i := q + i) (by omega))).1
            rw [this]
            congr 2
          have hsn := Lib.hid (rowL_snoc i (fun z => F.byte ((q : Int) + z)))
          obtain ⟨c, hcc⟩ : ∃ c, c = F.byte ((q : Int) + i) := ⟨_, rfl⟩
          rw [← hcc] at d1
          have HC := Lib.hid hcc
          have hq24 : q + i ≤ 1024 := by omega
          clear hr hn hK hrow hcc
          go_wp2_with (
            at_builtin
            refine law_append_row rfl _ _ _ rfl Tryz.underlying33 BI.out.1 BI.out.2.1 BI.out.2.2.1 BI.out.2.2.2 by_cells (by decide) rfl (rows_keep E.out.1 (Keep.alloc wo _ (fun _ => False)) (fun _ _ q => q)) [.int .u8 c] rfl rfl (.inr ⟨_, rfl, cells_new wo [.int .u8 c] _⟩) (fun u hu => by rw [List.mem_singleton.1 hu]; rfl) (by omega) ?_
            intro sa8 cap8 w8 r1 r2 r3
            have ka := Keep.alloc wo (.cells #[.int .u8 c] 5) (fun _ => False)
            have k8 : Keep w2 w8 (fun _ => False) := (E.out.2.2.trans ka (fun _ q => q.elim)).trans r2 (fun b q => .inr (E.out.2.1 b q.symm))
            have f8 : ∀ b, (Value.slice sa8 (i + 1) cap8).ownBlock = some b → w2.heap.size ≤ b := fun b q => by
              rcases r3 b q with z | z
              · exact E.out.2.1 b z
              · have h1 := ka.size
                have h2 := E.out.2.2.size
                have h3 : (wo.alloc (.cells #[.int .u8 c] 5)).heap.size = b := z.symm
                omega
            have N8 := Lib.hid (And.intro r1 (And.intro k8 f8))
            clear r1 r2 r3 ka k8 f8)
          go_roundg (N - (i + 1))
          case measure => omega
          case rel => exact ⟨i + 1, by go_num, by omega, by rw [hsn.out, ← HC.out]; exact N8.out.1, N8.out.2.2, N8.out.2.1⟩
        · have hiN : i = N := by omega
          have hout := HN.out.2
          rw [← hiN] at hout
          have HI := Lib.hid hiN
          clear hr hn hK hiN hl
          rcases hout with n1 | ⟨n1, n2⟩ | ⟨n1, n2, n3⟩
          all_goals
            go_wp2
            go_ret2
            refine ⟨_, rfl, ?_, E.out.2.1, E.out.2.2⟩
            rw [← HI.out, List.length_map, List.length_range, List.map_map]
            exact E.out.1

end Go.Proofs.YtnjfcedkfobbcaaGreat

/-! The document's pool: Cut. -/
namespace Go.Proofs.YtnjfcedkfobbcaaGreat
open Go Go.RowKit
set_option linter.unusedSectionVars false
set_option linter.unusedSimpArgs false
set_option linter.unusedVariables false
set_option maxRecDepth 100000
attribute [local go_sem] Oper.semAt_some

set_option maxHeartbeats 4000000 in
theorem rcut_c {w : World} {rb : Nat} {S : Nat → Prop} {n : Int} {V : PoolV} (h : RPoolAt w rb S n V) (hm : V.made ≤ 1000000) (f size : Int) :
    Calls Tryz.prog 81 #[.pointer (some ⟨rb, 0, none⟩), .int .i64 f, .int .i64 size] w fun r w' => r = .returned (.int .i64 (V.cut f size).2) ∧ ∃ S', RPoolAt w' rb S' n (V.cut f size).1 ∧ Turn w S w' S' := by
  obtain ⟨v, xa, fs, h1, h2, h3, h4, h5, h6, h7⟩ := h.ex
  have ho := rof_c h1 h2 h.ok hm f
  have hoc := h.ok.cut f size
  unfold PoolV.cut at hoc ⊢
  cases hg : aget V.files f with
  | none =>
    rw [slot_none hg] at ho
    have H := Lib.hid h
    clear h h1 h2 h3 h4 h5 h6 h7 hg hm hoc
    go_enter Tryz.func81, Tryz.ntmps81
    go_wp2_with (
      go_at_call 95
      refine ho.mono ?_
      rintro e w2 ⟨rfl, hw⟩
      subst hw
      clear ho)
    go_ret
    exact ⟨rfl, S, H.out, Turn.refl _ _⟩
  | some F =>
    rw [slot_some hg] at ho
    rw [hg] at hoc
    dsimp only at hoc ⊢
    by_cases g1 : size < 0
    · rw [if_pos g1]
      have H := Lib.hid h
      clear h h1 h2 h3 h4 h5 h6 h7 hg hm hoc
      go_enter Tryz.func81, Tryz.ntmps81
      go_wp2_with (
        go_at_call 95
        refine ho.mono ?_
        rintro e w2 ⟨rfl, hw⟩
        subst hw
        clear ho)
      go_ret
      exact ⟨rfl, S, H.out, Turn.refl _ _⟩
    · by_cases g2 : 1024 < size
      · rw [if_neg g1, if_pos g2]
        have H := Lib.hid h
        clear h h1 h2 h3 h4 h5 h6 h7 hg hm hoc
        go_enter Tryz.func81, Tryz.ntmps81
        go_wp2_with (
          go_at_call 95
          refine ho.mono ?_
          rintro e w2 ⟨rfl, hw⟩
          subst hw
          clear ho)
        go_ret
        exact ⟨rfl, S, H.out, Turn.refl _ _⟩
      · rw [if_neg g1, if_neg g2] at hoc ⊢
        have hF := h5 _ (aget_mem hg)
        obtain ⟨v0, hx0⟩ := RFlux.start hF
        have hok := hF.ok
        have hzr := hF.zero
        have hflt := hF.lt
        simp only at hx0 hok hzr hflt
        obtain ⟨s, hs⟩ : ∃ s : Nat, s = F.size.toNat := ⟨_, rfl⟩
        have hss : F.size = s := by have := hok.1; omega
        have hs24 : s ≤ 1024 := by have := hok.2.1; omega
        rw [← hs] at hx0
        obtain ⟨z, rfl⟩ : ∃ z : Nat, size = z := ⟨size.toNat, by omega⟩
        have H := Lib.hid (And.intro h (And.intro h1 (And.intro h2 (And.intro h3 (And.intro h4 (And.intro h5 (And.intro h6 h7)))))))
        have HF := Lib.hid (And.intro hok (And.intro hzr (And.intro hflt (And.intro hss (And.intro hg hoc)))))
        have X0 := Lib.hid hx0
        obtain ⟨bi, bi1, bi2, bi3, bi4⟩ := by_info
        have BI := Lib.hid (And.intro bi1 (And.intro bi2 (And.intro bi3 bi4)))
        have hz24 : z ≤ 1024 := by omega
        obtain ⟨xb, hxb⟩ : ∃ xb, xb = xa f := ⟨_, rfl⟩
        rw [← hxb] at ho X0
        have HXB := Lib.hid hxb
        obtain ⟨fx, hfx⟩ : ∃ fx, fx = fs f := ⟨_, rfl⟩
        rw [← hfx] at X0
        have HFX := Lib.hid hfx
        have HFIN := Lib.hid (show ∀ (wr : World) (v' : Value) (K : List Int), RFlux w fx xb wr v' K z F.byte → (∀ j : Nat, j < 64 → ((j : Int) ∈ K ↔ (j : Int) ∈ F.keys ∧ (j : Int) * 16 < z)) → ∃ S', RPoolAt wr rb S' n { V with left := V.left + (F.keys.length - (F.cut z).keys.length), files := aset V.files f (F.cut z) } ∧ Turn w S wr S' from by
          intro wr v' K hX hK
          obtain ⟨G, q1, q2⟩ := hX.fin (by rw [hfx]; exact hflt) (FileV.cut_ok hok (by omega) (by omega)) (cut_zero F z) rfl (fun i hi => by
            show F.byte i = if (i : Int) < (z : Int) then F.byte i else 0
            rw [if_pos (by omega)]) (fun i hi => by
            rw [hK i hi]
            unfold FileV.cut
            simp only [List.mem_filter, decide_eq_true_eq])
          rw [hxb] at q1
          exact rpool_file h hg h1 h2 h3 h4 h5 h6 h7 hX.keep (fun b q => by rw [← hfx]; exact q) q1 (fun b q => by rw [← hfx]; exact q2 b q) hoc)
        clear h h1 h2 h3 h4 h5 h6 h7 hg hm hoc hF hx0 hok hzr hflt hs hss bi1 bi2 bi3 bi4 hxb hfx g2
        go_enter Tryz.func81, Tryz.ntmps81
        go_wp2_with (
          go_at_call 95
          refine ho.mono ?_
          rintro e w2 ⟨rfl, hw⟩
          subst hw
          clear ho)
        go_loopg [] (z - s) (fun g wr => ∃ (m : Nat) (v : Value), s ≤ m ∧ m + g = max s z ∧ RFlux w2 fx xb wr v F.keys m F.byte)
        case atStart => exact ⟨s, v0, Nat.le_refl _, by omega, X0.out⟩
        case round =>
          obtain ⟨m, v, hsm, hmg, hX⟩ := hrel
          obtain ⟨wo, hwo⟩ : ∃ wo, wo = wr := ⟨_, rfl⟩
          subst hwo
          obtain ⟨sa, cap, hv, hcap⟩ := rows_val2 hX.row
          subst hv
          have X := Lib.hid hX
          have d0 : wo.cell? ⟨xb, 0, none⟩ = some (.slice sa m cap) := by rw [cell_blk hX.blk]; rfl
          have hgr := Lib.hid (show rowL m F.byte ++ [.int .u8 0] = rowL (m + 1) F.byte from rowL_grow HF.out.2.1 (by rw [HF.out.2.2.2.1]; omega))
          clear hX
          by_cases hl : m < z
          · have hl' : (m : Int) < (z : Int) := by omega
            have hm24 : m ≤ 1024 := by omega
            go_wp2_with (
              at_builtin
              refine law_append_row rfl _ _ _ rfl Tryz.underlying33 BI.out.1 BI.out.2.1 BI.out.2.2.1 BI.out.2.2.2 by_cells (by decide) rfl (rows_keep X.out.row (Keep.alloc wo _ (fun _ => False)) (fun _ _ q => q)) [.int .u8 0] rfl rfl (.inr ⟨_, rfl, cells_new wo [.int .u8 0] _⟩) (fun u hu => by rw [List.mem_singleton.1 hu]; rfl) (by omega) ?_
              intro sa8 cap8 w8 r1 r2 r3
              have ka := Keep.alloc wo (.cells #[.int .u8 0] 5) (fun _ => False)
              have k8 : Keep wo w8 (fun b => (Value.slice sa m cap).ownBlock = some b) := (ka.mono (T := fun b => (Value.slice sa m cap).ownBlock = some b) (fun _ q => q.elim)).trans r2 (fun b q => .inl q.symm)
              have f8 : ∀ b, (Value.slice sa8 (m + 1) cap8).ownBlock = some b → (Value.slice sa m cap).ownBlock = some b ∨ wo.heap.size ≤ b := fun b q => (r3 b q).imp id (fun z => by rw [z]; exact ka.size)
              have B8 := k8.get X.out.blk (fun q => (X.out.own _ q).2 rfl)
              have d1 : w8.cell? ⟨xb, 0, none⟩ = some (.slice sa m cap) := by rw [cell_blk B8]; rfl
              have g0 : w8.frozen? ⟨xb, 0, none⟩ = false := free_blk B8 _
              have N8 := Lib.hid (And.intro r1 (And.intro k8 f8))
              clear r1 r2 r3 ka k8 f8 B8)
            go_roundg (max s z - (m + 1))
            case measure => omega
            case rel => exact ⟨m + 1, .slice sa8 (m + 1) cap8, by omega, by omega, X.out.turn N8.out.2.1 (by rw [← hgr.out]; exact N8.out.1) N8.out.2.2⟩
          · have hl' : ¬ (m : Int) < (z : Int) := by omega
            have hzm : z ≤ m := by omega
            have hrd : (z = 0 ∧ sa = none) ∨ ∃ g, sa = some ⟨g, 0, none⟩ := by
              rcases rows_val X.out.row with ⟨e, e2⟩ | ⟨g, cp, e, _⟩
              · cases e; exact .inl ⟨by omega, rfl⟩
              · cases e; exact .inr ⟨g, rfl⟩
            have hread : z = 0 ∨ ∃ ad, sa = some ad ∧ ∀ j u, (rowL z F.byte)[j]? = some u → (wo.alloc (.cells #[] 5)).cell? (ad.add j) = some u := by
              rcases hrd with ⟨e, _⟩ | ⟨g, rfl⟩
              · exact .inl e
              · refine .inr ⟨_, rfl, rows_read (rows_keep X.out.row (Keep.alloc wo _ (fun _ => False)) (fun _ _ q => q)) 0 (fun j u hj => ?_)⟩
                rw [Nat.zero_add]
                have hj2 : j < z := by
                  have := (List.getElem?_eq_some_iff.1 hj).1
                  rwa [rowL_len] at this
                rw [rowL_get _ hj2] at hj
                rw [rowL_get _ (show j < m by omega)]
                exact hj
            have HE := Lib.hid (And.intro (rows_empty (sz := 1) (heap_alloc_eq wo (.cells #[] 5))) (And.intro hread (show ∀ u ∈ rowL z F.byte, oneC u = true from fun u hu => by
              unfold rowL at hu
              obtain ⟨i, _, rfl⟩ := List.mem_map.1 hu
              rfl)))
            have hone : ∀ u ∈ rowL z F.byte, u.oneCell' = true := fun u hu => by
              unfold rowL at hu
              obtain ⟨i, _, rfl⟩ := List.mem_map.1 hu
              rfl
            have HO := Lib.hid hone
            have ka := Keep.alloc wo (.cells #[] 5) (fun _ => False)
            have HKA := Lib.hid ka
            have d9 := ka.cell d0 (fun q => q)
            have dBa := ka.get X.out.blk (fun q => q)
            have HBA := Lib.hid dBa
            clear dBa
            have g3 : (z : Int) ≤ (m : Int) := by omega
            have g4 : (z : Int) ≤ (cap : Int) := by omega
            clear hread hone ka hgr
            rcases rows_val X.out.row with ⟨e, e2⟩ | ⟨g, cp, e, _⟩
            · cases e
              have hz0 : z = 0 := by omega
              subst hz0
              clear hzm hl hl' g3 g4 hrd hsm
              go_upto_region 11 with (
                at_builtin
                (refine law_append_row rfl _ _ _ rfl Tryz.underlying33 BI.out.1 BI.out.2.1 BI.out.2.2.1 BI.out.2.2.2 by_cells (by decide) rfl HE.out.1 (rowL 0 F.byte) rfl (by rw [rowL_len, Nat.mul_one]) HE.out.2.1 HO.out (by omega) ?_)
                intro sa8 cap8 w8 r1 r2 r3
                simp only [Nat.zero_add, List.nil_append] at r1 r3 ⊢
                have B8 := r2.get HBA.out (fun e => by
                  have e' : some xb = (Value.slice (some ⟨wo.heap.size, 0, none⟩) 0 0).ownBlock := e
                  have h6 : xb = wo.heap.size := by simpa [Value.ownBlock] using e'
                  have := lt_of_blk X.out.blk
                  omega)
                have d1 : w8.cell? ⟨xb, 0, none⟩ = some (.slice none 0 0) := by rw [cell_blk B8]; rfl
                have g0 : w8.frozen? ⟨xb, 0, none⟩ = false := free_blk B8 _
                have N8 := Lib.hid (And.intro r1 (And.intro r2 r3))
                clear r1 r2 r3 B8)
              obtain ⟨wz, hwz⟩ : ∃ wz, wz = w8.setCell ⟨xb, 0, none⟩ (.slice sa8 0 cap8) := ⟨_, rfl⟩
              rw [← hwz]
              have hX2 : RFlux w2 fx xb wz (.slice sa8 0 cap8) F.keys 0 F.byte := by
                rw [hwz]
                refine X.out.turn ((HKA.out.mono (fun _ q => q.elim)).trans N8.out.2.1 (fun b q => .inr ?_)) N8.out.1 (fun b q => ?_)
                · have e' : some b = (Value.slice (some ⟨wo.heap.size, 0, none⟩) 0 0).ownBlock := q
                  have h6 : b = wo.heap.size := by simpa [Value.ownBlock] using e'
                  omega
                · rcases N8.out.2.2 b q with q | q
                  · have e' : some b = (Value.slice (some ⟨wo.heap.size, 0, none⟩) 0 0).ownBlock := q.symm
                    have h6 : b = wo.heap.size := by simpa [Value.ownBlock] using e'
                    exact .inr (by omega)
                  · rw [q]; exact .inr HKA.out.size
              have X2 := Lib.hid hX2
              clear hwz hX2 d0 d1 d9 g0
              go_wp2
              go_loopg [8] 64 (fun g s8 wr => ∃ (i : Nat) (K : List Int), s8 = .int .i64 i ∧ i + g = 64 ∧ RFlux w2 fx xb wr (.slice sa8 0 cap8) K 0 F.byte ∧ ∀ j : Nat, j < 64 → ((j : Int) ∈ K ↔ (j : Int) ∈ F.keys ∧ (j < i → (j : Int) * 16 < ((0 : Nat) : Int))))
              case atStart => exact ⟨0, F.keys, rfl, by omega, X2.out, fun j _ => ⟨fun q => ⟨q, fun z => by omega⟩, fun q => q.1⟩⟩
              case round =>
                obtain ⟨i, K, rfl, hi, hX3, hK3⟩ := hrel
                obtain ⟨wp, hwp⟩ : ∃ wp, wp = wr := ⟨_, rfl⟩
                subst hwp
                have X3 := Lib.hid (And.intro hX3 hK3)
                by_cases hl3 : i < 64
                · have hl4 : (i : Int) < 64 := by omega
                  have c5 : wp.cell? ⟨xb, 1 + i, none⟩ = some (.bool (decide ((i : Int) ∈ K))) := by
                    rw [cell_blk hX3.blk, Nat.add_comm]
                    simpa using hasL_get K hl3
                  have c6 : wp.frozen? ⟨xb, 1 + i, none⟩ = false := free_blk hX3.blk _
                  obtain ⟨bo, hbo⟩ : ∃ bo, bo = decide ((i : Int) ∈ K) := ⟨_, rfl⟩
                  rw [← hbo] at c5
                  clear hX3 hK3 hbo
                  by_cases hz : ((0 : Nat) : Int) ≤ (i : Int) * 16
                  · have HZ := Lib.hid hz
                    simp only [Int.natCast_zero, Int.ofNat_zero] at hz
                    go_wp2
                    go_roundg (64 - (i + 1))
                    case measure => omega
                    case rel =>
                      refine ⟨i + 1, K.filter (fun k => decide (k ≠ (i : Int))), by go_num, by omega, X3.out.1.has i hl3 false (by simp) (fun j hj hne => ?_), fun j hj => ?_⟩
                      · simp only [List.mem_filter, decide_eq_true_eq]
                        exact ⟨fun q => ⟨q, by omega⟩, fun q => q.1⟩
                      · have hz9 := HZ.out
                        simp only [List.mem_filter, decide_eq_true_eq]
                        rw [X3.out.2 j hj]
                        constructor
                        · rintro ⟨⟨q1, q2⟩, q3⟩
                          exact ⟨q1, fun q4 => q2 (by omega)⟩
                        · rintro ⟨q1, q2⟩
                          refine ⟨⟨q1, fun q4 => q2 (by omega)⟩, fun e => ?_⟩
                          have := q2 (by omega)
                          omega
                  · have HZ := Lib.hid hz
                    simp only [Int.natCast_zero, Int.ofNat_zero] at hz
                    go_wp2
                    go_roundg (64 - (i + 1))
                    case measure => omega
                    case rel =>
                      refine ⟨i + 1, K, by go_num, by omega, X3.out.1, fun j hj => ?_⟩
                      have hz9 := HZ.out
                      rw [X3.out.2 j hj]
                      constructor
                      · rintro ⟨q1, q2⟩
                        refine ⟨q1, fun q4 => ?_⟩
                        by_cases e : j < i
                        · exact q2 e
                        · omega
                      · rintro ⟨q1, q2⟩
                        exact ⟨q1, fun q4 => q2 (by omega)⟩
                · have hl4 : ¬ (i : Int) < 64 := by omega
                  clear hX3 hK3
                  go_wp2
                  go_ret
                  refine ⟨rfl, HFIN.out wp _ K X3.out.1 (fun j hj => ?_)⟩
                  rw [X3.out.2 j hj]
                  exact ⟨fun q => ⟨q.1, q.2 (by omega)⟩, fun q => ⟨q.1, fun _ => q.2⟩⟩
            · obtain rfl : sa = some ⟨g, 0, none⟩ := by cases e; rfl
              clear hrd e
              go_upto_region 11 with (
                at_builtin
                (refine law_append_row rfl _ _ _ rfl Tryz.underlying33 BI.out.1 BI.out.2.1 BI.out.2.2.1 BI.out.2.2.2 by_cells (by decide) rfl HE.out.1 (rowL z F.byte) rfl (by rw [rowL_len, Nat.mul_one]) HE.out.2.1 HO.out (by omega) ?_)
                intro sa8 cap8 w8 r1 r2 r3
                simp only [Nat.zero_add, List.nil_append] at r1 r3 ⊢
                have B8 := r2.get HBA.out (fun e => by
                  have e' : some xb = (Value.slice (some ⟨wo.heap.size, 0, none⟩) 0 0).ownBlock := e
                  have h6 : xb = wo.heap.size := by simpa [Value.ownBlock] using e'
                  have := lt_of_blk X.out.blk
                  omega)
                have d1 : w8.cell? ⟨xb, 0, none⟩ = some (.slice (some ⟨g, 0, none⟩) m cap) := by rw [cell_blk B8]; rfl
                have g0 : w8.frozen? ⟨xb, 0, none⟩ = false := free_blk B8 _
                have N8 := Lib.hid (And.intro r1 (And.intro r2 r3))
                clear r1 r2 r3 B8)
              obtain ⟨wz, hwz⟩ : ∃ wz, wz = w8.setCell ⟨xb, 0, none⟩ (.slice sa8 z cap8) := ⟨_, rfl⟩
              rw [← hwz]
              have hX2 : RFlux w2 fx xb wz (.slice sa8 z cap8) F.keys z F.byte := by
                rw [hwz]
                refine X.out.turn ((HKA.out.mono (fun _ q => q.elim)).trans N8.out.2.1 (fun b q => .inr ?_)) N8.out.1 (fun b q => ?_)
                · have e' : some b = (Value.slice (some ⟨wo.heap.size, 0, none⟩) 0 0).ownBlock := q
                  have h6 : b = wo.heap.size := by simpa [Value.ownBlock] using e'
                  omega
                · rcases N8.out.2.2 b q with q | q
                  · have e' : some b = (Value.slice (some ⟨wo.heap.size, 0, none⟩) 0 0).ownBlock := q.symm
                    have h6 : b = wo.heap.size := by simpa [Value.ownBlock] using e'
                    exact .inr (by omega)
                  · rw [q]; exact .inr HKA.out.size
              have X2 := Lib.hid hX2
              clear hwz hX2 d0 d1 d9 g0
              go_wp2
              go_loopg [8] 64 (fun g s8 wr => ∃ (i : Nat) (K : List Int), s8 = .int .i64 i ∧ i + g = 64 ∧ RFlux w2 fx xb wr (.slice sa8 z cap8) K z F.byte ∧ ∀ j : Nat, j < 64 → ((j : Int) ∈ K ↔ (j : Int) ∈ F.keys ∧ (j < i → (j : Int) * 16 < ((z : Nat) : Int))))
              case atStart => exact ⟨0, F.keys, rfl, by omega, X2.out, fun j _ => ⟨fun q => ⟨q, fun z => by omega⟩, fun q => q.1⟩⟩
              case round =>
                obtain ⟨i, K, rfl, hi, hX3, hK3⟩ := hrel
                obtain ⟨wp, hwp⟩ : ∃ wp, wp = wr := ⟨_, rfl⟩
                subst hwp
                have X3 := Lib.hid (And.intro hX3 hK3)
                by_cases hl3 : i < 64
                · have hl4 : (i : Int) < 64 := by omega
                  have c5 : wp.cell? ⟨xb, 1 + i, none⟩ = some (.bool (decide ((i : Int) ∈ K))) := by
                    rw [cell_blk hX3.blk, Nat.add_comm]
                    simpa using hasL_get K hl3
                  have c6 : wp.frozen? ⟨xb, 1 + i, none⟩ = false := free_blk hX3.blk _
                  obtain ⟨bo, hbo⟩ : ∃ bo, bo = decide ((i : Int) ∈ K) := ⟨_, rfl⟩
                  rw [← hbo] at c5
                  clear hX3 hK3 hbo
                  by_cases hz : ((z : Nat) : Int) ≤ (i : Int) * 16
                  · have HZ := Lib.hid hz
                    go_wp2
                    go_roundg (64 - (i + 1))
                    case measure => omega
                    case rel =>
                      refine ⟨i + 1, K.filter (fun k => decide (k ≠ (i : Int))), by go_num, by omega, X3.out.1.has i hl3 false (by simp) (fun j hj hne => ?_), fun j hj => ?_⟩
                      · simp only [List.mem_filter, decide_eq_true_eq]
                        exact ⟨fun q => ⟨q, by omega⟩, fun q => q.1⟩
                      · have hz9 := HZ.out
                        simp only [List.mem_filter, decide_eq_true_eq]
                        rw [X3.out.2 j hj]
                        constructor
                        · rintro ⟨⟨q1, q2⟩, q3⟩
                          exact ⟨q1, fun q4 => q2 (by omega)⟩
                        · rintro ⟨q1, q2⟩
                          refine ⟨⟨q1, fun q4 => q2 (by omega)⟩, fun e => ?_⟩
                          have := q2 (by omega)
                          omega
                  · have HZ := Lib.hid hz
                    go_wp2
                    go_roundg (64 - (i + 1))
                    case measure => omega
                    case rel =>
                      refine ⟨i + 1, K, by go_num, by omega, X3.out.1, fun j hj => ?_⟩
                      have hz9 := HZ.out
                      rw [X3.out.2 j hj]
                      constructor
                      · rintro ⟨q1, q2⟩
                        refine ⟨q1, fun q4 => ?_⟩
                        by_cases e : j < i
                        · exact q2 e
                        · omega
                      · rintro ⟨q1, q2⟩
                        exact ⟨q1, fun q4 => q2 (by omega)⟩
                · have hl4 : ¬ (i : Int) < 64 := by omega
                  clear hX3 hK3
                  go_wp2
                  go_ret
                  refine ⟨rfl, HFIN.out wp _ K X3.out.1 (fun j hj => ?_)⟩
                  rw [X3.out.2 j hj]
                  exact ⟨fun q => ⟨q.1, q.2 (by omega)⟩, fun q => ⟨q.1, fun _ => q.2⟩⟩

end Go.Proofs.YtnjfcedkfobbcaaGreat

/-! The document's pool: Write. -/
namespace Go.Proofs.YtnjfcedkfobbcaaGreat
open Go Go.RowKit
set_option linter.unusedSectionVars false
set_option linter.unusedSimpArgs false
set_option linter.unusedVariables false
set_option maxRecDepth 100000
attribute [local go_sem] Oper.semAt_some

set_option maxHeartbeats 4000000 in
theorem rwrite_c {w : World} {rb : Nat} {S : Nat → Prop} {n : Int} {V : PoolV} (h : RPoolAt w rb S n V) (hm : V.made ≤ 1000000) (f p : Int) {vb : Value} {l : List Int} (hb : BytesIn w vb l S) (hlen : l.length ≤ maxLen) :
    Calls Tryz.prog 78 #[.pointer (some ⟨rb, 0, none⟩), .int .i64 f, .int .i64 p, vb] w fun r w' => r = .returned (.int .i64 (V.write f p l).2) ∧ ∃ S', RPoolAt w' rb S' n (V.write f p l).1 ∧ Turn w S w' S' := by
  obtain ⟨v, xa, fs, h1, h2, h3, h4, h5, h6, h7⟩ := h.ex
  have ho := rof_c h1 h2 h.ok hm f
  have hoc := h.ok.write f p (fun c hc => hb.1 c hc)
  have hle := rLeft_c h hm
  have HB := Lib.hid hb
  obtain ⟨hb1, ba, bcap, rfl, hb3⟩ := hb
  unfold maxLen at hlen
  unfold PoolV.write at hoc ⊢
  have H := Lib.hid h
  cases hg : aget V.files f with
  | none =>
    rw [slot_none hg] at ho
    clear h h1 h2 h3 h4 h5 h6 h7 hg hm hoc hb1 hb3 hle
    go_enter Tryz.func78, Tryz.ntmps78
    go_wp2_with (
      go_at_call 95
      refine ho.mono ?_
      rintro e w2 ⟨rfl, hw⟩
      subst hw
      clear ho)
    go_ret
    exact ⟨rfl, S, H.out, Turn.refl _ _⟩
  | some F =>
    rw [slot_some hg] at ho
    rw [hg] at hoc
    dsimp only at hoc ⊢
    by_cases g1 : p < 0
    · rw [if_pos g1]
      clear h h1 h2 h3 h4 h5 h6 h7 hg hm hoc hb1 hb3 hle
      go_enter Tryz.func78, Tryz.ntmps78
      go_wp2_with (
        go_at_call 95
        refine ho.mono ?_
        rintro e w2 ⟨rfl, hw⟩
        subst hw
        clear ho)
      go_ret
      exact ⟨rfl, S, H.out, Turn.refl _ _⟩
    · rw [if_neg g1] at hoc ⊢
      by_cases g2 : l = []
      · rw [if_pos g2]
        subst g2
        clear h h1 h2 h3 h4 h5 h6 h7 hg hm hoc hb1 hb3 hle
        have g3 : (([] : List Int).length : Int) = 0 := rfl
        go_enter Tryz.func78, Tryz.ntmps78
        go_wp2_with (
          go_at_call 95
          refine ho.mono ?_
          rintro e w2 ⟨rfl, hw⟩
          subst hw
          clear ho)
        go_ret
        exact ⟨rfl, S, H.out, Turn.refl _ _⟩
      · rw [if_neg g2] at hoc ⊢
        obtain ⟨L, hL⟩ : ∃ L, L = l.length := ⟨_, rfl⟩
        have hL1 : 1 ≤ L := by
          rw [hL]
          cases l with
          | nil => exact absurd rfl g2
          | cons a r => simp
        rw [← hL] at hoc hlen ⊢
        have hl0 : ¬ (L : Int) = 0 := by omega
        by_cases g3 : 1024 < L ∨ 1024 - (L : Int) < p
        · rw [if_pos g3]
          have g4 : 1024 < p ∨ (¬ 1024 < p ∧ 1024 - p < (L : Int)) := by omega
          clear h h1 h2 h3 h4 h5 h6 h7 hg hm hoc hb1 hb3 hle g3 g2 hL
          rcases g4 with g4 | ⟨g4, g5⟩
          all_goals
            go_enter Tryz.func78, Tryz.ntmps78
            go_wp2_with (
              go_at_call 95
              refine ho.mono ?_
              rintro e w2 ⟨rfl, hw⟩
              subst hw
              clear ho)
            go_ret
            exact ⟨rfl, S, H.out, Turn.refl _ _⟩
        · rw [if_neg g3] at hoc ⊢
          obtain ⟨q, rfl⟩ : ∃ q : Nat, p = q := ⟨p.toNat, by omega⟩
          have g4 : ¬ 1024 < (q : Int) := by omega
          have g5 : ¬ 1024 - (q : Int) < (L : Int) := by omega
          have hqL : q + L ≤ 1024 := by omega
          have hF := h5 _ (aget_mem hg)
          obtain ⟨v0, hx0⟩ := RFlux.start hF
          have hok := hF.ok
          have hzr := hF.zero
          have hflt := hF.lt
          simp only at hx0 hok hzr hflt
          obtain ⟨s, hs⟩ : ∃ s : Nat, s = F.size.toNat := ⟨_, rfl⟩
          have hss : F.size = s := by have := hok.1; omega
          have hs24 : s ≤ 1024 := by have := hok.2.1; omega
          rw [← hs] at hx0
          obtain ⟨xb, hxb⟩ : ∃ xb, xb = xa f := ⟨_, rfl⟩
          rw [← hxb] at ho hx0
          have HXB := Lib.hid hxb
          have cells : ∀ i : Nat, i < 64 → w.cell? ⟨xb, 1 + i, none⟩ = some (.bool (decide ((i : Int) ∈ F.keys))) := fun i hi => by
            rw [cell_blk hx0.blk, Nat.add_comm]
            simpa using hasL_get F.keys hi
          have HCL := Lib.hid cells
          obtain ⟨lk, hlk⟩ : ∃ lk : Nat, lk = cnt F ((q : Int) / 16) (((q : Int) + L - 1) / 16 + 1 - (q : Int) / 16).toNat := ⟨_, rfl⟩
          have hlacks : F.lacks q (q + L) = lk := by rw [hlk]; rfl
          rw [hlacks] at hoc ⊢
          by_cases g6 : V.left < (lk : Int)
          · rw [if_pos g6]
            have HLK := Lib.hid hlk
            have HP := Lib.hid (And.intro h (And.intro h1 (And.intro h2 (And.intro h3 (And.intro h4 (And.intro h5 (And.intro h6 h7)))))))
            have HF := Lib.hid (And.intro hok (And.intro hzr (And.intro hflt (And.intro hss (And.intro hg (And.intro hoc (And.intro hx0 hL)))))))
            have hlf0 := h.ok.left
            obtain ⟨bi, bi1, bi2, bi3, bi4⟩ := by_info
            have BI := Lib.hid (And.intro bi1 (And.intro bi2 (And.intro bi3 bi4)))
            clear h h1 h2 h3 h4 h5 h6 h7 hg hm hF hx0 hok hzr hflt hs hss hb1 hb3 cells hlk hlacks g3 g2 hL hxb bi1 bi2 bi3 bi4 hoc
            go_enter Tryz.func78, Tryz.ntmps78
            go_wp2_with (
              go_at_call 95
              refine ho.mono ?_
              rintro e w2 ⟨rfl, hw⟩
              subst hw
              clear ho)
            go_loopg [10, 11] ((q + L - 1) / 16 + 1 - q / 16) (fun g s10 s11 wr => ∃ k : Nat, s11 = .int .i64 k ∧ k + g = (q + L - 1) / 16 + 1 ∧ q / 16 ≤ k ∧ s10 = .int .i64 (cnt F ((q : Int) / 16) (k - q / 16)) ∧ wr = w2)
            case atStart => exact ⟨q / 16, by congr 1, by omega, Nat.le_refl _, by rw [Nat.sub_self]; rfl, rfl⟩
            case round =>
              obtain ⟨k, rfl, hk, hqk, rfl, rfl⟩ := hrel
              have hc := cnt_le F ((q : Int) / 16) (k - q / 16)
              by_cases hl : k ≤ (q + L - 1) / 16
              · have hl1 : (k : Int) ≤ ((q : Int) + (L : Int) - 1) / 16 := by omega
                have c5 := HCL.out k (by omega)
                have hs := cnt_succ F ((q : Int) / 16) (k - q / 16)
                rw [show (q : Int) / 16 + ((k - q / 16 : Nat) : Int) = k by omega, show k - q / 16 + 1 = k + 1 - q / 16 by omega] at hs
                obtain ⟨cc, hcc⟩ : ∃ cc, cc = cnt F ((q : Int) / 16) (k - q / 16) := ⟨_, rfl⟩
                rw [← hcc] at hc hs ⊢
                clear hcc
                by_cases hm : (k : Int) ∈ F.keys
                · rw [if_pos hm] at hs
                  have e1 : decide ((k : Int) ∈ F.keys) = true := by simpa using hm
                  rw [e1] at c5
                  have HS := Lib.hid hs
                  clear hs hm e1
                  go_wp2
                  go_roundg ((q + L - 1) / 16 + 1 - (k + 1))
                  case measure => omega
                  case rel => exact ⟨k + 1, by go_num, by omega, by omega, by rw [HS.out]; rfl, rfl⟩
                · rw [if_neg hm] at hs
                  have e1 : decide ((k : Int) ∈ F.keys) = false := by simpa using hm
                  rw [e1] at c5
                  have HS := Lib.hid hs
                  clear hs hm e1
                  go_wp2
                  go_roundg ((q + L - 1) / 16 + 1 - (k + 1))
                  case measure => omega
                  case rel => exact ⟨k + 1, by go_num, by omega, by omega, by rw [HS.out]; go_num, rfl⟩
              · have hl1 : ¬ (k : Int) ≤ ((q : Int) + (L : Int) - 1) / 16 := by omega
                have hkk : cnt F ((q : Int) / 16) (k - q / 16) = lk := by rw [HLK.out]; congr 1; omega
                rw [hkk]
                clear hc hkk
                go_wp2_with (
                  go_at_call 96
                  refine hle.mono ?_
                  rintro e w3 ⟨rfl, hw⟩
                  subst hw
                  clear hle)
                go_ret
                exact ⟨rfl, S, H.out, Turn.refl _ _⟩
          · rw [if_neg g6] at hoc ⊢
            obtain ⟨fx, hfx⟩ : ∃ fx, fx = fs f := ⟨_, rfl⟩
            rw [← hfx] at hx0 hflt
            have HFIN := Lib.hid (show ∀ (wr : World) (v' : Value), RFlux w fx xb wr v' (F.puts q l).keys (max s (q + L)) (F.puts q l).byte → ∃ S', RPoolAt wr rb S' n { V with left := V.left - lk, files := aset V.files f { F.puts q l with size := max F.size (q + L) } } ∧ Turn w S wr S' from by
              intro wr v' hX
              have hokF := hoc.files _ (mem_aset_of V.files f { F.puts q l with size := max F.size (q + L) })
              have hzw := write_zero hzr q l
              rw [← hL] at hzw
              obtain ⟨G, z1, z2⟩ := hX.fin hflt hokF hzw (show max F.size ((q : Int) + L) = ((max s (q + L) : Nat) : Int) by omega) (fun i hi => rfl) (fun i hi => Iff.rfl)
              rw [hxb] at z1
              exact rpool_file h hg h1 h2 h3 h4 h5 h6 h7 hX.keep (fun b q => by rw [← hfx]; exact q) z1 (fun b q => by rw [← hfx]; exact z2 b q) hoc)
            have hfxS : ∀ b, fx b → S b := fun b z => (h6 _ (aget_mem hg) b (by rw [← hfx]; exact z)).1
            have HFX := Lib.hid hfxS
            have HLK := Lib.hid hlk
            have HP := Lib.hid (And.intro h (And.intro h1 (And.intro h2 (And.intro h3 (And.intro h4 (And.intro h5 (And.intro h6 h7)))))))
            have HF := Lib.hid (And.intro hok (And.intro hzr (And.intro hflt (And.intro hss (And.intro hg (And.intro hoc (And.intro hx0 hL)))))))
            have X0 := Lib.hid hx0
            have hlf0 := h.ok.left
            obtain ⟨bi, bi1, bi2, bi3, bi4⟩ := by_info
            have BI := Lib.hid (And.intro bi1 (And.intro bi2 (And.intro bi3 bi4)))
            clear hfx hfxS h h1 h2 h3 h4 h5 h6 h7 hg hm hF hx0 hok hzr hflt hs hss hb1 hb3 cells hlk hlacks g3 g2 hL hxb bi1 bi2 bi3 bi4 hoc
            go_enter Tryz.func78, Tryz.ntmps78
            go_wp2_with (
              go_at_call 95
              refine ho.mono ?_
              rintro e w2 ⟨rfl, hw⟩
              subst hw
              clear ho)
            go_loopg [10, 11] ((q + L - 1) / 16 + 1 - q / 16) (fun g s10 s11 wr => ∃ k : Nat, s11 = .int .i64 k ∧ k + g = (q + L - 1) / 16 + 1 ∧ q / 16 ≤ k ∧ s10 = .int .i64 (cnt F ((q : Int) / 16) (k - q / 16)) ∧ wr = w2)
            case atStart => exact ⟨q / 16, by congr 1, by omega, Nat.le_refl _, by rw [Nat.sub_self]; rfl, rfl⟩
            case round =>
              obtain ⟨k, rfl, hk, hqk, rfl, rfl⟩ := hrel
              have hc := cnt_le F ((q : Int) / 16) (k - q / 16)
              by_cases hl : k ≤ (q + L - 1) / 16
              · have hl1 : (k : Int) ≤ ((q : Int) + (L : Int) - 1) / 16 := by omega
                have c5 := HCL.out k (by omega)
                have hs := cnt_succ F ((q : Int) / 16) (k - q / 16)
                rw [show (q : Int) / 16 + ((k - q / 16 : Nat) : Int) = k by omega, show k - q / 16 + 1 = k + 1 - q / 16 by omega] at hs
                obtain ⟨cc, hcc⟩ : ∃ cc, cc = cnt F ((q : Int) / 16) (k - q / 16) := ⟨_, rfl⟩
                rw [← hcc] at hc hs ⊢
                clear hcc
                by_cases hm : (k : Int) ∈ F.keys
                · rw [if_pos hm] at hs
                  have e1 : decide ((k : Int) ∈ F.keys) = true := by simpa using hm
                  rw [e1] at c5
                  have HS := Lib.hid hs
                  clear hs hm e1
                  go_wp2
                  go_roundg ((q + L - 1) / 16 + 1 - (k + 1))
                  case measure => omega
                  case rel => exact ⟨k + 1, by go_num, by omega, by omega, by rw [HS.out]; rfl, rfl⟩
                · rw [if_neg hm] at hs
                  have e1 : decide ((k : Int) ∈ F.keys) = false := by simpa using hm
                  rw [e1] at c5
                  have HS := Lib.hid hs
                  clear hs hm e1
                  go_wp2
                  go_roundg ((q + L - 1) / 16 + 1 - (k + 1))
                  case measure => omega
                  case rel => exact ⟨k + 1, by go_num, by omega, by omega, by rw [HS.out]; go_num, rfl⟩
              · have hl1 : ¬ (k : Int) ≤ ((q : Int) + (L : Int) - 1) / 16 := by omega
                have hkk : cnt F ((q : Int) / 16) (k - q / 16) = lk := by rw [HLK.out]; congr 1; omega
                rw [hkk]
                clear hc hkk
                go_upto_region 18 with (
                  go_at_call 96
                  refine hle.mono ?_
                  rintro e w3 ⟨rfl, hw⟩
                  subst hw
                  clear hle)
                have X0' := X0.out
                go_loopg [] (q + L - s) (fun g wr => ∃ (m : Nat) (v : Value), s ≤ m ∧ m + g = max s (q + L) ∧ RFlux w3 fx xb wr v F.keys m F.byte)
                case atStart => exact ⟨s, v0, Nat.le_refl _, by omega, X0'⟩
                case round =>
                  obtain ⟨m, v, hsm, hmg, hX⟩ := hrel
                  obtain ⟨wo, hwo⟩ : ∃ wo, wo = wr := ⟨_, rfl⟩
                  subst hwo
                  obtain ⟨sa, cap, hv, hcap⟩ := rows_val2 hX.row
                  subst hv
                  have X := Lib.hid hX
                  have d0 : wo.cell? ⟨xb, 0, none⟩ = some (.slice sa m cap) := by rw [cell_blk hX.blk]; rfl
                  have hgr := Lib.hid (show rowL m F.byte ++ [.int .u8 0] = rowL (m + 1) F.byte from rowL_grow HF.out.2.1 (by rw [HF.out.2.2.2.1]; omega))
                  clear hX X0'
                  by_cases hlg : m < q + L
                  · have hl' : (m : Int) < (q : Int) + (L : Int) := by omega
                    have hm24 : m ≤ 1024 := by omega
                    go_wp2_with (
                      at_builtin
                      refine law_append_row rfl _ _ _ rfl Tryz.underlying33 BI.out.1 BI.out.2.1 BI.out.2.2.1 BI.out.2.2.2 by_cells (by decide) rfl (rows_keep X.out.row (Keep.alloc wo _ (fun _ => False)) (fun _ _ q => q)) [.int .u8 0] rfl rfl (.inr ⟨_, rfl, cells_new wo [.int .u8 0] _⟩) (fun u hu => by rw [List.mem_singleton.1 hu]; rfl) (by omega) ?_
                      intro sa8 cap8 w8 r1 r2 r3
                      have ka := Keep.alloc wo (.cells #[.int .u8 0] 5) (fun _ => False)
                      have k8 : Keep wo w8 (fun b => (Value.slice sa m cap).ownBlock = some b) := (ka.mono (T := fun b => (Value.slice sa m cap).ownBlock = some b) (fun _ q => q.elim)).trans r2 (fun b q => .inl q.symm)
                      have f8 : ∀ b, (Value.slice sa8 (m + 1) cap8).ownBlock = some b → (Value.slice sa m cap).ownBlock = some b ∨ wo.heap.size ≤ b := fun b q => (r3 b q).imp id (fun z => by rw [z]; exact ka.size)
                      have B8 := k8.get X.out.blk (fun q => (X.out.own _ q).2 rfl)
                      have d1 : w8.cell? ⟨xb, 0, none⟩ = some (.slice sa m cap) := by rw [cell_blk B8]; rfl
                      have g0 : w8.frozen? ⟨xb, 0, none⟩ = false := free_blk B8 _
                      have N8 := Lib.hid (And.intro r1 (And.intro k8 f8))
                      clear r1 r2 r3 ka k8 f8 B8)
                    go_roundg (max s (q + L) - (m + 1))
                    case measure => omega
                    case rel => exact ⟨m + 1, .slice sa8 (m + 1) cap8, by omega, by omega, X.out.turn N8.out.2.1 (by rw [← hgr.out]; exact N8.out.1) N8.out.2.2⟩
                  · have hl' : ¬ (m : Int) < (q : Int) + (L : Int) := by omega
                    have hmx : max s (q + L) = m := by omega
                    rw [hmx] at HFIN
                    obtain ⟨g, rfl⟩ : ∃ g, sa = some ⟨g, 0, none⟩ := by
                      obtain ⟨g, e, _⟩ := rows_some X.out.row (by omega)
                      exact ⟨g, e⟩
                    have hm1 : q + L ≤ m := by omega
                    have hm24 : m ≤ 1024 := by omega
                    clear hmx hgr
                    go_wp2
                    go_loopg [12] L (fun g' s12 wr => ∃ i : Nat, s12 = .int .i64 i ∧ i + g' = L ∧ RFlux w3 fx xb wr (.slice (some ⟨g, 0, none⟩) m cap) (F.puts q (l.take i)).keys m (F.puts q (l.take i)).byte)
                    case atStart => exact ⟨0, rfl, by omega, X.out⟩
                    case round =>
                      obtain ⟨i, rfl, hi, hY⟩ := hrel
                      obtain ⟨wp, hwp⟩ : ∃ wp, wp = wr := ⟨_, rfl⟩
                      subst hwp
                      have Y := Lib.hid hY
                      by_cases hlt : i < L
                      · have hlt' : (i : Int) < (L : Int) := by omega
                        have hLl := HF.out.2.2.2.2.2.2.2
                        obtain ⟨_, a', cap', e', h3'⟩ := HB.out.keep hY.keep HFX.out
                        simp only [Value.slice.injEq] at e'
                        obtain ⟨rfl, -, rfl⟩ := e'
                        rcases h3' with h3' | ⟨b0, off0, rfl, hnD, hcell⟩
                        · rw [h3'] at hLl; simp at hLl; omega
                        · have d5 := hcell i (by omega)
                          obtain ⟨c, hc⟩ : ∃ c, c = l.getD i 0 := ⟨_, rfl⟩
                          rw [← hc] at d5
                          have d6 : wp.cell? ⟨xb, 0, none⟩ = some (.slice (some ⟨g, 0, none⟩) m cap) := by rw [cell_blk hY.blk]; rfl
                          have hrc := rows_cell hY.row (rowL_get (F.puts q (l.take i)).byte (i := q + i) (by omega))
                          have d7 := hrc.1
                          have d8 := hrc.2
                          have htk : l.take (i + 1) = l.take i ++ [c] := by
                            rw [List.take_add_one, hc, List.getD_eq_getElem?_getD]
                            cases hq : l[i]? with
                            | none => rw [List.getElem?_eq_none_iff] at hq; omega
                            | some c' => rfl
                          have hpt : F.puts q (l.take (i + 1)) = (F.puts q (l.take i)).put ((q : Int) + i) c := by
                            rw [htk, FileV.puts_snoc, List.length_take, Nat.min_eq_left (by omega)]
                          have HPT := Lib.hid hpt
                          have k6 : (q + i) / 16 < 64 := by omega
                          generalize hcb : (F.puts q (l.take i)).byte ((q + i : Nat) : Int) = cb at d7
                          have hb1 : (q : Int) + (i : Int) < (m : Int) := by omega
                          have hb2 : ¬ (q : Int) + (i : Int) < 0 := by omega
                          have hb3 : ((q : Int) + (i : Int)).toNat = q + i := by omega
                          have hb4 : q + i < m := by omega
                          have hb5 : ¬ ((q : Int) + (i : Int) < 0 ∨ (m : Int) ≤ (q : Int) + (i : Int)) := by omega
                          clear hY hcell hrc htk hpt hc hcb hLl
                          go_upto_region 23 with (fail)
                          go_still_tail 11, (by kernel_rfl)
                          obtain ⟨wq, hwq⟩ : ∃ wq, wq = wp.drew := ⟨_, rfl⟩
                          change wpList _ _ _ _ _ wp.drew
                          rw [← hwq]
                          have hYq : RFlux w3 fx xb wq (.slice (some ⟨g, 0, none⟩) m cap) (F.puts q (l.take i)).keys m (F.puts q (l.take i)).byte := by rw [hwq]; exact Y.out.aside (Keep.drew wp (fun _ => False))
                          have hrc := rows_cell hYq.row (rowL_get (F.puts q (l.take i)).byte (i := q + i) (by omega))
                          have d9 := hrc.1
                          have d10 := hrc.2
                          have hzz := hYq.byte (q + i) c
                          have hzb : (wq.setCell ⟨g, q + i, none⟩ (.int .u8 c)).cell? ⟨xb, 1 + (q + i) / 16, none⟩ = some (.bool (decide ((((q + i) / 16 : Nat) : Int) ∈ (F.puts q (l.take i)).keys))) := by
                            rw [cell_blk hzz.blk, Nat.add_comm]
                            simpa using hasL_get (F.puts q (l.take i)).keys k6
                          have hzf : (wq.setCell ⟨g, q + i, none⟩ (.int .u8 c)).frozen? ⟨xb, 1 + (q + i) / 16, none⟩ = false := free_blk hzz.blk _
                          have ZZ := Lib.hid hzz
                          generalize hcb : (F.puts q (l.take i)).byte ((q + i : Nat) : Int) = cb2 at d9
                          generalize hdb : decide ((((q + i) / 16 : Nat) : Int) ∈ (F.puts q (l.take i)).keys) = db at hzb
                          clear hYq hrc hzz hwq hcb hdb d5 d6 d7 d8
                          go_wp2
                          go_roundg (L - (i + 1))
                          case measure => omega
                          case rel =>
                            refine ⟨i + 1, by go_num, by omega, ?_⟩
                            rw [HPT.out, put_byte]
                            have hpi : (((q + i) / 16 : Nat) : Int) = ((q : Int) + i) / 16 := by omega
                            have hf := ZZ.out.has (J := ((F.puts q (l.take i)).put ((q : Int) + i) c).keys) ((q + i) / 16) k6 true (by
                              rw [decide_eq_true_eq, put_keys, FileV.mem_addKey, hpi]
                              exact .inr rfl) (fun j hj hne => by
                              rw [put_keys, FileV.mem_addKey]
                              exact ⟨fun z => .inl z, fun z => z.elim id (fun z => absurd (by omega : j = (q + i) / 16) hne)⟩)
                            rw [show ((q + i : Nat) : Int) = (q : Int) + (i : Int) from by omega] at hf
                            exact hf
                      · have hlt' : ¬ (i : Int) < (L : Int) := by omega
                        have hLl := HF.out.2.2.2.2.2.2.2
                        have hti : l.take i = l := List.take_of_length_le (by omega)
                        rw [hti] at Y
                        clear hY hti hLl
                        go_wp2
                        go_ret
                        exact ⟨rfl, HFIN.out wp _ Y.out⟩

end Go.Proofs.YtnjfcedkfobbcaaGreat
