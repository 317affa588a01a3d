/-
  The document's pool: its shape in memory, and plain laws of its rows.
-/
import Derived.Test.YtemoickagefjmaaHeaps
import Derived.Test.YtemoickagefjmaaBlockL2
namespace Go.Proofs.Ytemoickagefjmaa
open Go Go.RowKit
set_option linter.unusedSectionVars false
set_option linter.unusedSimpArgs false
set_option linter.unusedVariables false

/-! ### rows -/

def rowL (n : Nat) (f : Int → Int) : List Value := (List.range n).map fun (i : Nat) => Value.int .u8 (f i)

theorem rowL_len (n : Nat) (f : Int → Int) : (rowL n f).length = n := by simp [rowL]
theorem rowL_get {n i : Nat} (f : Int → Int) (h : i < n) : (rowL n f)[i]? = some (.int .u8 (f i)) := by
  unfold rowL
  rw [List.getElem?_map, List.getElem?_range h]
  rfl
theorem rowL_snoc (n : Nat) (f : Int → Int) : rowL (n + 1) f = rowL n f ++ [.int .u8 (f n)] := by
  unfold rowL
  rw [List.range_succ, List.map_append]
  rfl
theorem rowL_congr {n : Nat} {f g : Int → Int} (h : ∀ i : Nat, i < n → f i = g i) : rowL n f = rowL n g := by
  unfold rowL
  apply List.map_congr_left
  intro i hi
  rw [h i (List.mem_range.1 hi)]
theorem rowL_set {n i : Nat} (f : Int → Int) (c : Int) : (rowL n f).set i (.int .u8 c) = rowL n (fun q => if q = i then c else f q) := by
  apply List.ext_getElem?
  intro j
  rw [List.getElem?_set]
  by_cases hj : j < n
  · rw [rowL_get _ hj, rowL_get _ hj, rowL_len]
    by_cases hij : i = j
    · subst hij
      rw [if_pos rfl, if_pos hj, if_pos rfl]
    · rw [if_neg hij, if_neg (by omega)]
  · have h1 : (rowL n f)[j]? = none := List.getElem?_eq_none (by rw [rowL_len]; omega)
    have h2 : (rowL n (fun q => if q = i then c else f q))[j]? = none := List.getElem?_eq_none (by rw [rowL_len]; omega)
    rw [h1, h2, rowL_len]
    split
    · rw [if_neg (by omega)]
    · rfl
theorem rowL_take {n m : Nat} (f : Int → Int) (h : m ≤ n) : (rowL n f).take m = rowL m f := by
  unfold rowL
  rw [← List.map_take, List.take_range, Nat.min_eq_left h]

def hasL (K : List Int) : List Value := (List.range 64).map fun (i : Nat) => Value.bool (decide ((i : Int) ∈ K))
theorem hasL_len (K : List Int) : (hasL K).length = 64 := by simp [hasL]
theorem hasL_get (K : List Int) {i : Nat} (h : i < 64) : (hasL K)[i]? = some (.bool (decide ((i : Int) ∈ K))) := by
  unfold hasL
  rw [List.getElem?_map, List.getElem?_range h]
  rfl
theorem hasL_congr {K J : List Int} (h : ∀ i : Nat, i < 64 → ((i : Int) ∈ K ↔ (i : Int) ∈ J)) : hasL K = hasL J := by
  unfold hasL
  apply List.map_congr_left
  intro i hi
  rw [decide_eq_decide.2 (h i (List.mem_range.1 hi))]
theorem hasL_set {K J : List Int} {i : Nat} {b : Bool} (hi : i < 64) (hb : decide ((i : Int) ∈ J) = b) (h : ∀ j : Nat, j < 64 → j ≠ i → ((j : Int) ∈ K ↔ (j : Int) ∈ J)) : (hasL K).set i (.bool b) = hasL J := by
  apply List.ext_getElem?
  intro j
  rw [List.getElem?_set]
  by_cases hj : j < 64
  · by_cases hij : i = j
    · subst hij
      rw [if_pos rfl, hasL_len, if_pos hj, hasL_get J hj, hb]
    · rw [if_neg hij, hasL_get K hj, hasL_get J hj, decide_eq_decide.2 (h j hj (fun e => hij e.symm))]
  · have h1 : (hasL K)[j]? = none := List.getElem?_eq_none (by rw [hasL_len]; omega)
    have h2 : (hasL J)[j]? = none := List.getElem?_eq_none (by rw [hasL_len]; omega)
    rw [h1, h2, if_neg (by omega)]

theorem cons_set (v u : Value) (l : List Value) (i : Nat) : ((v :: l).toArray.setIfInBounds (1 + i) u) = (v :: l.set i u).toArray := by
  rw [Nat.add_comm]
  simp

/-- How many of the first places a file has. -/
def cntK (K : List Int) (j : Nat) : Nat := ((List.range j).filter fun (i : Nat) => decide ((i : Int) ∈ K)).length
theorem cntK_succ (K : List Int) (j : Nat) : cntK K (j + 1) = cntK K j + if (j : Int) ∈ K then 1 else 0 := by
  unfold cntK
  rw [List.range_succ, List.filter_append, List.length_append]
  by_cases h : (j : Int) ∈ K <;> simp [h]
theorem cntK_le (K : List Int) (j : Nat) : cntK K j ≤ j := by
  unfold cntK
  have := List.length_filter_le (fun (i : Nat) => decide ((i : Int) ∈ K)) (List.range j)
  simpa using this
theorem cntK_all {F : FileV} (h : F.ok) : cntK F.keys 64 = F.keys.length := by
  have hp : F.keys.Perm (((List.range 64).filter fun (i : Nat) => decide ((i : Int) ∈ F.keys)).map fun (i : Nat) => (i : Int)) := by
    rw [List.perm_ext_iff_of_nodup h.2.2.1]
    · intro x
      simp only [List.mem_map, List.mem_filter, List.mem_range, decide_eq_true_eq]
      constructor
      · intro hx
        have := h.2.2.2.1 x hx
        exact ⟨x.toNat, ⟨by omega, by rw [show ((x.toNat : Nat) : Int) = x by omega]; exact hx⟩, by omega⟩
      · rintro ⟨i, ⟨_, hi⟩, rfl⟩
        exact hi
    · unfold List.Nodup
      rw [List.pairwise_map]
      exact ((List.nodup_range).filter _).imp fun h e => h (Int.ofNat.inj e)
  have := hp.length_eq
  rw [List.length_map] at this
  exact this.symm

/-! ### the shape in memory -/

/-- A file of the document's at block xb. -/
structure RFileAt (w : World) (xb : Nat) (S : Nat → Prop) (F : FileV) : Prop where
  ok : F.ok
  zero : ∀ q, F.size ≤ q → F.byte q = 0
  ex : ∃ v, w.heap[xb]? = some (.cells (v :: hasL F.keys).toArray 89 (0, 0)) ∧ w.ownsRow 0 5 1 v F.size.toNat (rowL F.size.toNat F.byte) ∧ (∀ b, v.ownBlock = some b → S b ∧ b ≠ xb) ∧ S xb
  lt : ∀ b, S b → b < w.heap.size

theorem RFileAt.keep {w w' : World} {xb : Nat} {S U : Nat → Prop} {F : FileV} (h : RFileAt w xb S F) (K : Keep w w' U) (hU : ∀ b, S b → ¬ U b) : RFileAt w' xb S F := by
  obtain ⟨v, h1, h2, h3, h4⟩ := h.ex
  exact ⟨h.ok, h.zero, ⟨v, K.get h1 (hU _ h4), rows_keep h2 K (fun b q => hU b (h3 b q).1), h3, h4⟩, fun b q => Nat.lt_of_lt_of_le (h.lt b q) K.size⟩

def slotV (V : PoolV) (xa : Int → Nat) (f : Int) : Value := if (aget V.files f).isSome then ptr (xa f) else .pointer none
def slotsL (V : PoolV) (xa : Int → Nat) : List Value := (List.range V.made.toNat).map fun (i : Nat) => slotV V xa (i + 1)

theorem slotsL_len (V : PoolV) (xa : Int → Nat) : (slotsL V xa).length = V.made.toNat := by simp [slotsL]
theorem slotsL_get (V : PoolV) (xa : Int → Nat) {i : Nat} (h : i < V.made.toNat) : (slotsL V xa)[i]? = some (slotV V xa (i + 1)) := by
  unfold slotsL
  rw [List.getElem?_map, List.getElem?_range h]
  rfl

/-- The document's pool at block rb. -/
structure RPoolAt (w : World) (rb : Nat) (S : Nat → Prop) (n : Int) (V : PoolV) : Prop where
  ok : V.ok n
  ex : ∃ (v : Value) (xa : Int → Nat) (fs : Int → Nat → Prop),
    w.heap[rb]? = some (.cells #[.int .i64 n, v] 81 (0, 0)) ∧
    w.ownsRow 0 86 1 v V.made.toNat (slotsL V xa) ∧
    (∀ b, v.ownBlock = some b → S b ∧ b ≠ rb) ∧ S rb ∧
    (∀ x ∈ V.files, RFileAt w (xa x.1) (fs x.1) x.2) ∧
    (∀ x ∈ V.files, ∀ b, fs x.1 b → S b ∧ b ≠ rb ∧ v.ownBlock ≠ some b) ∧
    (∀ x ∈ V.files, ∀ y ∈ V.files, x.1 ≠ y.1 → ∀ b, fs x.1 b → ¬ fs y.1 b)
  lt : ∀ b, S b → b < w.heap.size

theorem RPoolAt.keep {w w' : World} {rb : Nat} {S U : Nat → Prop} {n : Int} {V : PoolV} (h : RPoolAt w rb S n V) (K : Keep w w' U) (hU : ∀ b, S b → ¬ U b) : RPoolAt w' rb S n V := by
  obtain ⟨v, xa, fs, h1, h2, h3, h4, h5, h6, h7⟩ := h.ex
  exact ⟨h.ok, ⟨v, xa, fs, K.get h1 (hU _ h4), rows_keep h2 K (fun b q => hU b (h3 b q).1), h3, h4, fun x hx => (h5 x hx).keep K (fun b q => hU b (h6 x hx b q).1), h6, h7⟩, fun b q => Nat.lt_of_lt_of_le (h.lt b q) K.size⟩

theorem RPoolAt.aside {w w' : World} {rb : Nat} {S : Nat → Prop} {n : Int} {V : PoolV} (h : RPoolAt w rb S n V) (K : Keep w w' (fun _ => False)) : RPoolAt w' rb S n V := h.keep K (fun _ _ q => q)

theorem aset_isSome {α : Type} (L : List (Int × α)) (f : Int) (v : α) (k : Int) (h : (aget L f).isSome = true) : (aget (aset L f v) k).isSome = (aget L k).isSome := by
  induction L with
  | nil => simp [aget] at h
  | cons x r ih =>
    obtain ⟨a, u⟩ := x
    by_cases ha : a = f
    · simp only [aset, ha, if_true, aget]
      split <;> rfl
    · simp only [aset, ha, if_false, aget]
      split
      · rfl
      · refine ih ?_
        simpa only [aget, ha, if_false] using h

/-- A file of the pool is another one now. -/
theorem rpool_file {w w' : World} {rb : Nat} {S U : Nat → Prop} {n l : Int} {V : PoolV} {f : Int} {F F' : FileV} (h : RPoolAt w rb S n V) (hg : aget V.files f = some F)
    {v : Value} {xa : Int → Nat} {fs : Int → Nat → Prop} (h1 : w.heap[rb]? = some (.cells #[.int .i64 n, v] 81 (0, 0))) (h2 : w.ownsRow 0 86 1 v V.made.toNat (slotsL V xa))
    (h3 : ∀ b, v.ownBlock = some b → S b ∧ b ≠ rb) (h4 : S rb) (h5 : ∀ x ∈ V.files, RFileAt w (xa x.1) (fs x.1) x.2) (h6 : ∀ x ∈ V.files, ∀ b, fs x.1 b → S b ∧ b ≠ rb ∧ v.ownBlock ≠ some b) (h7 : ∀ x ∈ V.files, ∀ y ∈ V.files, x.1 ≠ y.1 → ∀ b, fs x.1 b → ¬ fs y.1 b)
    (K : Keep w w' U) (hU : ∀ b, U b → fs f b) {G : Nat → Prop} (hF : RFileAt w' (xa f) G F') (hG : ∀ b, G b → fs f b ∨ w.heap.size ≤ b) (hok : PoolV.ok { V with left := l, files := aset V.files f F' } n) :
    ∃ S', RPoolAt w' rb S' n { V with left := l, files := aset V.files f F' } ∧ Turn w S w' S' := by
  have hm := aget_mem hg
  have hlt := h.lt
  refine ⟨fun b => S b ∨ G b, ⟨hok, ⟨v, xa, fun k => if k = f then G else fs k, ?_, ?_, ?_, .inl h4, ?_, ?_, ?_⟩, ?_⟩, ⟨K.mono fun b q => (h6 _ hm b (hU b q)).1, ?_⟩⟩
  · exact K.get h1 (fun q => (h6 _ hm _ (hU _ q)).2.1 rfl)
  · have e : slotsL { V with left := l, files := aset V.files f F' } xa = slotsL V xa := by
      unfold slotsL slotV
      apply List.map_congr_left
      intro i _
      show (if (aget (aset V.files f F') _).isSome then _ else _) = _
      rw [aset_isSome _ _ _ _ (by rw [hg]; rfl)]
    rw [e]
    exact rows_keep h2 K (fun b q u => (h6 _ hm b (hU b u)).2.2 q)
  · exact fun b q => ⟨.inl (h3 b q).1, (h3 b q).2⟩
  · intro x hx
    rcases mem_aset h.ok.nodup hx with rfl | ⟨hx, hne⟩
    · show RFileAt w' (xa f) (if f = f then G else fs f) F'
      rw [if_pos rfl]
      exact hF
    · show RFileAt w' (xa x.1) (if x.1 = f then G else fs x.1) x.2
      rw [if_neg hne]
      exact (h5 x hx).keep K (fun b q u => h7 x hx _ hm hne b q (hU b u))
  · intro x hx b q
    rcases mem_aset h.ok.nodup hx with rfl | ⟨hx, hne⟩
    · have q : (if f = f then G else fs f) b := q
      rw [if_pos rfl] at q
      rcases hG b q with z | z
      · have := h6 _ hm b z
        exact ⟨.inl this.1, this.2⟩
      · refine ⟨.inr q, fun e => ?_, fun e => ?_⟩
        · have := hlt _ h4
          omega
        · have := hlt _ (h3 _ e).1
          omega
    · have q : (if x.1 = f then G else fs x.1) b := q
      rw [if_neg hne] at q
      have := h6 x hx b q
      exact ⟨.inl this.1, this.2⟩
  · intro x hx y hy hxy b q r
    have q : (if x.1 = f then G else fs x.1) b := q
    have r : (if y.1 = f then G else fs y.1) b := r
    rcases mem_aset h.ok.nodup hx with rfl | ⟨hx, hne⟩
    · rw [if_pos rfl] at q
      rcases mem_aset h.ok.nodup hy with rfl | ⟨hy, hne2⟩
      · exact hxy rfl
      · rw [if_neg hne2] at r
        rcases hG b q with z | z
        · exact h7 _ hm y hy (fun e => hne2 e.symm) b z r
        · have := hlt _ (h6 y hy b r).1
          omega
    · rw [if_neg hne] at q
      rcases mem_aset h.ok.nodup hy with rfl | ⟨hy, hne2⟩
      · rw [if_pos rfl] at r
        rcases hG b r with z | z
        · exact h7 x hx _ hm hne b q z
        · have := hlt _ (h6 x hx b q).1
          omega
      · rw [if_neg hne2] at r
        exact h7 x hx y hy hxy b q r
  · intro b q
    rcases q with q | q
    · exact Nat.lt_of_lt_of_le (h.lt b q) K.size
    · exact hF.lt b q
  · intro b q
    rcases q with q | q
    · exact .inl q
    · exact (hG b q).imp (fun z => (h6 _ hm b z).1) id

end Go.Proofs.Ytemoickagefjmaa
