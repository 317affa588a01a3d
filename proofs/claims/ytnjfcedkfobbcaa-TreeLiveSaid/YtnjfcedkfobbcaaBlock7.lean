/-
  The contract of Cut.
-/
import Derived.Test.YtnjfcedkfobbcaaBlock6
import Derived.Deep.LoopGhost
namespace Go.Proofs.Ytnjfcedkfobbcaa
open Go Go.RowKit
set_option linter.unusedSectionVars false
set_option linter.unusedSimpArgs false
set_option linter.unusedVariables false
set_option maxRecDepth 100000

/-- A file of which the blocks at the places D have been gone through by Cut. -/
def FileV.cutD (F : FileV) (s : Int) (D : List Int) : FileV :=
  { size := F.size, keys := F.keys.filter (fun k => !(decide (k ∈ D) && decide (s ≤ k * 16))), byte := fun p => if p / 16 ∈ D ∧ s ≤ p then 0 else F.byte p }

theorem FileV.cutD_nil (F : FileV) (s : Int) : F.cutD s [] = F := by
  have e : F.keys.filter (fun k => !(decide (k ∈ ([] : List Int)) && decide (s ≤ k * 16))) = F.keys := List.filter_eq_self.2 (fun k _ => by simp)
  have e2 : (fun p => if p / 16 ∈ ([] : List Int) ∧ s ≤ p then 0 else F.byte p) = F.byte := by funext p; simp
  unfold FileV.cutD
  rw [e, e2]

theorem FileV.mem_cutD (F : FileV) (s : Int) (D : List Int) (k : Int) : k ∈ (F.cutD s D).keys ↔ k ∈ F.keys ∧ ¬ (k ∈ D ∧ s ≤ k * 16) := by
  unfold FileV.cutD
  simp only [List.mem_filter, Bool.not_eq_true', Bool.and_eq_false_iff, decide_eq_false_iff_not]
  constructor
  · rintro ⟨h1, h2⟩; exact ⟨h1, fun q => h2.elim (fun z => z q.1) (fun z => z q.2)⟩
  · rintro ⟨h1, h2⟩
    refine ⟨h1, ?_⟩
    by_cases hk : k ∈ D
    · exact .inr (fun q => h2 ⟨hk, q⟩)
    · exact .inl hk

theorem FileV.cutD_ok {F : FileV} (h : F.ok) (s : Int) (D : List Int) : (F.cutD s D).ok := by
  obtain ⟨a, a', b, c, d, e⟩ := h
  refine ⟨a, a', b.filter _, fun k hk => c k ((F.mem_cutD s D k).1 hk).1, ?_, ?_⟩
  · intro p hp
    show (if p / 16 ∈ D ∧ s ≤ p then 0 else F.byte p) = 0
    split
    · rfl
    · rename_i hn
      refine d p (fun q => hp ((F.mem_cutD s D _).2 ⟨q, fun z => hn ⟨z.1, by omega⟩⟩))
  · intro p
    show 0 ≤ (if p / 16 ∈ D ∧ s ≤ p then 0 else F.byte p) ∧ (if p / 16 ∈ D ∧ s ≤ p then 0 else F.byte p) < 256
    split
    · omega
    · exact e p

/-- A block that goes. -/
theorem FileV.cutD_drop {F : FileV} (h : F.ok) (s : Int) (D : List Int) (k : Int) (hk : k ∈ F.keys) (hD : k ∉ D) (hs : s ≤ k * 16) (g : Int → Value) :
    ((F.cutD s (k :: D)).keys.map fun k => (k, g k)) = adel ((F.cutD s D).keys.map fun k => (k, g k)) k ∧ ((F.cutD s (k :: D)).keys.length : Int) = (F.cutD s D).keys.length - 1 := by
  have hmem : k ∈ (F.cutD s D).keys := (F.mem_cutD s D k).2 ⟨hk, fun q => hD q.1⟩
  have hnd : (F.cutD s D).keys.Nodup := (FileV.cutD_ok h s D).2.2.1
  have e : (F.cutD s (k :: D)).keys = (F.cutD s D).keys.filter (fun j => !decide (j = k)) := by
    unfold FileV.cutD
    simp only [List.filter_filter]
    refine List.filter_congr (fun j hj => ?_)
    rw [Bool.eq_iff_iff]
    simp only [List.mem_cons, Bool.not_eq_true', Bool.and_eq_true, Bool.and_eq_false_iff, decide_eq_false_iff_not]
    by_cases hj : j = k
    · subst hj; simp [hs]
    · simp [hj]
  rw [e]
  generalize (F.cutD s D).keys = K at hmem hnd
  clear e
  induction K with
  | nil => simp at hmem
  | cons x r ih =>
    simp only [List.nodup_cons] at hnd
    by_cases hx : x = k
    · subst hx
      have hr : r.filter (fun j => !decide (j = x)) = r := by
        refine List.filter_eq_self.2 (fun j hj => ?_)
        have : j ≠ x := fun e => hnd.1 (e ▸ hj)
        simp [this]
      simp [adel, hr]
    · have hm : k ∈ r := (List.mem_cons.1 hmem).resolve_left (fun e => hx e.symm)
      obtain ⟨i1, i2⟩ := ih hm hnd.2
      simp only [List.filter_cons, hx, decide_false, Bool.not_false, if_true, List.map_cons, adel, if_false, i1, List.length_cons, true_and]
      omega

/-- A block that stays, its end cleared. -/
theorem FileV.cutD_stay {F : FileV} (s : Int) (D : List Int) (k : Int) (hs : ¬ s ≤ k * 16) : (F.cutD s (k :: D)).keys = (F.cutD s D).keys := by
  unfold FileV.cutD
  refine List.filter_congr (fun j hj => ?_)
  rw [Bool.eq_iff_iff]
  simp only [List.mem_cons, Bool.not_eq_true', Bool.and_eq_false_iff, decide_eq_false_iff_not]
  by_cases hj : j = k
  · subst hj; simp [hs]
  · simp [hj]

theorem FileV.cutD_row {F : FileV} (s : Int) (D : List Int) (k j : Int) (h : j ≠ k) : rowOf (F.cutD s (k :: D)).byte j = rowOf (F.cutD s D).byte j := by
  refine rowOf_same (fun i hi => ?_)
  show (if _ then _ else _) = if _ then _ else _
  have e : (16 * j + (i : Int)) / 16 = j := by omega
  simp only [e, List.mem_cons, h, false_or]

theorem FileV.cutD_row_whole {F : FileV} (s : Int) (D : List Int) (k : Int) (h : k * 16 + 16 ≤ s) : rowOf (F.cutD s (k :: D)).byte k = rowOf (F.cutD s D).byte k := by
  refine rowOf_same (fun i hi => ?_)
  show (if _ then _ else _) = if _ then _ else _
  rw [if_neg (by omega), if_neg (by omega)]

theorem FileV.cutD_row_part {F : FileV} (s : Int) (D : List Int) (k : Int) (keep : Nat) (h : (keep : Int) = s - k * 16) (h0 : 0 < keep) (h1 : keep < 16) (hD : k ∉ D) :
    setRange (rowOf (F.cutD s D).byte k) keep (List.replicate (16 - keep) (.int .u8 0)) = rowOf (F.cutD s (k :: D)).byte k := by
  apply Array.ext_getElem?
  intro i
  have hz : (rowOf (F.cutD s D).byte k).size = 16 := by simp [rowOf]
  rw [setRange_get _ _ _ _ (by simp [hz]; omega)]
  by_cases hi : i < 16
  · rw [rowOf_get _ _ _ hi]
    have e : (16 * k + (i : Int)) / 16 = k := by omega
    by_cases hk : keep ≤ i
    · rw [if_pos (by simp; omega), rowOf_get _ _ _ hi]
      have h2 : (F.cutD s (k :: D)).byte (16 * k + (i : Int)) = 0 := by
        show (if _ then _ else _) = (0 : Int)
        rw [if_pos ⟨by rw [e]; simp, by omega⟩]
      rw [h2, List.getElem?_replicate, if_pos (by omega)]
    · rw [if_neg (by simp; omega), rowOf_get _ _ _ hi]
      have h2 : (F.cutD s (k :: D)).byte (16 * k + (i : Int)) = (F.cutD s D).byte (16 * k + (i : Int)) := by
        show (if _ then _ else _) = if _ then _ else _
        rw [if_neg (by omega), if_neg (by omega)]
      rw [h2]
  · rw [if_neg (by simp; omega), Array.getElem?_eq_none (by simp [rowOf]; omega), Array.getElem?_eq_none (by simp [rowOf]; omega)]

/-- When all have come. -/
theorem FileV.cutD_all {F : FileV} (h : F.ok) (s : Int) (D : List Int) (hD : ∀ k ∈ (F.cutD s D).keys, k ∈ D) (hDF : ∀ k ∈ D, k ∈ F.keys) : { F.cutD s D with size := s } = F.cut s := by
  have hall : ∀ k ∈ F.keys, k ∈ D := by
    intro k hk
    by_cases hq : k ∈ (F.cutD s D).keys
    · exact hD k hq
    · by_cases hd : k ∈ D
      · exact hd
      · exact absurd ((F.mem_cutD s D k).2 ⟨hk, fun z => hd z.1⟩) hq
  have e1 : (F.cutD s D).keys = F.keys.filter (fun k => decide (k * 16 < s)) := by
    unfold FileV.cutD
    refine List.filter_congr (fun k hk => ?_)
    simp only [hall k hk, decide_true, Bool.true_and]
    rw [Bool.eq_iff_iff]
    simp
  have e2 : (F.cutD s D).byte = fun p => if p < s then F.byte p else 0 := by
    funext p
    show (if p / 16 ∈ D ∧ s ≤ p then 0 else F.byte p) = if p < s then F.byte p else 0
    by_cases hp : p < s
    · rw [if_pos hp, if_neg (by omega)]
    · rw [if_neg hp]
      split
      · rfl
      · rename_i hn
        exact h.2.2.2.2.1 p (fun q => hn ⟨hall _ q, by omega⟩)
  unfold FileV.cut
  show FileV.mk s (F.cutD s D).keys (F.cutD s D).byte = _
  rw [e1, e2]

/-- What holds at the head of a round of Cut. -/
structure CutAt (w wr : World) (pb mf xb bm it : Nat) (fsf : Nat → Prop) (ad : Int → Nat) (V : PoolV) (F : FileV) (s : Int) (D : List Int) (B : List Nat) (c : Nat) : Prop where
  sub : ∀ k ∈ D, k ∈ F.keys
  pool : wr.heap[pb]? = some (.cells #[.int .i64 (V.left + (F.keys.length - (F.cutD s D).keys.length)), .map (some mf), .int .i64 V.made] 89 (0, 0))
  file : wr.heap[xb]? = some (.cells #[.int .i64 F.size, .map (some bm)] 94 (0, 0))
  map : MapAtB wr bm kInt ((F.cutD s D).keys.map fun k => (k, ptr (ad k))) B c
  rows : ∀ k ∈ (F.cutD s D).keys, wr.heap[ad k]? = some (.cells (rowOf (F.cutD s D).byte k) 99 (0, 0))
  iter : IterAt wr it bm ((F.cutD s D).keys.map fun k => (k, ptr (ad k))) B D
  keep : Keep w wr (fun b => b = pb ∨ fsf b)

theorem ndone_lt (F : FileV) (D : List Int) (k : Int) (hk : k ∈ F.keys) (hD : k ∉ D) : (F.keys.filter (fun j => !decide (j ∈ k :: D))).length < (F.keys.filter (fun j => !decide (j ∈ D))).length := by
  have h1 : F.keys.filter (fun j => !decide (j ∈ k :: D)) = (F.keys.filter (fun j => !decide (j ∈ D))).filter (fun j => !decide (j = k)) := by
    rw [List.filter_filter]
    refine List.filter_congr (fun j _ => ?_)
    rw [Bool.eq_iff_iff]
    simp [not_or]
  rw [h1]
  have hm : k ∈ F.keys.filter (fun j => !decide (j ∈ D)) := by simp [hk, hD]
  generalize F.keys.filter (fun j => !decide (j ∈ D)) = K at hm
  induction K with
  | nil => simp at hm
  | cons x r ih =>
    by_cases hx : x = k
    · subst hx
      have := List.length_filter_le (fun j => !decide (j = x)) r
      simp; omega
    · have hm' : k ∈ r := (List.mem_cons.1 hm).resolve_left (fun e => hx e.symm)
      have := ih hm'
      simp [hx]; simpa using this

end Go.Proofs.Ytnjfcedkfobbcaa
