/-
  The contracts of Write, Read.
-/
import Derived.Test.YtnjfcedkfobbcaaGreatBlock2
namespace Go.Proofs.YtnjfcedkfobbcaaGreat
open Go Go.RowKit
set_option linter.unusedSectionVars false
set_option linter.unusedSimpArgs false
set_option linter.unusedVariables false
set_option maxRecDepth 100000

theorem rowOf_get (f : Int → Int) (k : Int) (i : Nat) (h : i < 16) : (rowOf f k)[i]? = some (.int .u8 (f (16 * k + i))) := by
  simp [rowOf, h]

theorem rowOf_set (F : FileV) (p c : Int) (i : Nat) (k : Int) (hi : i < 16) (hp : p = 16 * k + i) : (rowOf F.byte k).setIfInBounds i (.int .u8 c) = rowOf (F.setByte p c).byte k := by
  apply Array.ext_getElem?
  intro j
  by_cases hj : j < 16
  · rw [rowOf_get _ _ _ hj, Array.getElem?_setIfInBounds]
    by_cases e : i = j
    · subst e
      simp [rowOf, hj, FileV.setByte, hp]
    · rw [if_neg e, rowOf_get _ _ _ hj]
      simp only [FileV.setByte]
      rw [if_neg (by omega)]
  · rw [Array.getElem?_eq_none (by simp [rowOf]; omega), Array.getElem?_eq_none (by simp [rowOf]; omega)]

theorem rowOf_same {f g : Int → Int} {k : Int} (h : ∀ i : Nat, i < 16 → f (16 * k + i) = g (16 * k + i)) : rowOf f k = rowOf g k := by
  apply Array.ext_getElem?
  intro j
  by_cases hj : j < 16
  · rw [rowOf_get _ _ _ hj, rowOf_get _ _ _ hj, h j hj]
  · rw [Array.getElem?_eq_none (by simp [rowOf]; omega), Array.getElem?_eq_none (by simp [rowOf]; omega)]

theorem rowOf_noughts (F : FileV) (h : F.ok) (k : Int) (hk : k ∉ F.keys) : rowOf F.byte k = Array.replicate 16 (.int .u8 0) := by
  apply Array.ext_getElem?
  intro j
  by_cases hj : j < 16
  · rw [rowOf_get _ _ _ hj, h.2.2.2.2.1 _ (by rw [show (16 * k + (j : Int)) / 16 = k by omega]; exact hk)]
    simp [hj]
  · rw [Array.getElem?_eq_none (by simp [rowOf]; omega), Array.getElem?_eq_none (by simp; omega)]

/-- A byte is set in a block that is there. -/
theorem FileAt.set {w w' : World} {xb bm : Nat} {ad : Int → Nat} {S : Nat → Prop} {F : FileV} (hok : F.ok)
    (g1 : w.heap[xb]? = some (.cells #[.int .i64 F.size, .map (some bm)] 127 (0, 0)))
    (g2 : MapAt w bm kInt (F.keys.map fun k => (k, ptr (ad k))))
    (g3 : ∀ k ∈ F.keys, w.heap[ad k]? = some (.cells (rowOf F.byte k) 134 (0, 0)))
    (g4 : ∀ k ∈ F.keys, ∀ j ∈ F.keys, ad k = ad j → k = j)
    (g5 : ∀ b, S b ↔ b = xb ∨ b = bm ∨ ∃ k ∈ F.keys, b = ad k)
    (hne : ∀ k ∈ F.keys, ad k ≠ xb ∧ ad k ≠ bm)
    {p c : Int} (hk : p / 16 ∈ F.keys) (hc : 0 ≤ c ∧ c < 256) {off : Nat} (hoff : (off : Int) = p % 16)
    (hb : w'.heap[ad (p / 16)]? = some (.cells ((rowOf F.byte (p / 16)).setIfInBounds off (.int .u8 c)) 134 (0, 0)))
    (k : Keep w w' (fun b => b = ad (p / 16))) : FileAt w' xb S (F.setByte p c) := by
  refine ⟨FileV.setByte_ok hok hk hc, bm, ad, k.get g1 (fun e => (hne _ hk).1 e.symm), g2.keep k (fun e => (hne _ hk).2 e.symm), ?_, g4, g5⟩
  intro j hj
  by_cases e : j = p / 16
  · subst e
    rw [hb, rowOf_set F p c off (p / 16) (by omega) (by omega)]
  · rw [k.get (g3 j hj) (fun q => e (g4 j hj _ hk q))]
    congr 2
    refine rowOf_same (fun i hi => ?_)
    simp only [FileV.setByte]
    rw [if_neg (by omega)]

theorem ne_of_mem {l : List Int} {j k : Int} (hj : j ∈ l) (hk : k ∉ l) : j ≠ k := fun e => hk (e ▸ hj)

/-- A block more. -/
theorem FileAt.grow {w w' : World} {xb bm nb : Nat} {ad : Int → Nat} {S : Nat → Prop} {F : FileV} (hok : F.ok)
    (g1 : w.heap[xb]? = some (.cells #[.int .i64 F.size, .map (some bm)] 127 (0, 0)))
    (g3 : ∀ k ∈ F.keys, w.heap[ad k]? = some (.cells (rowOf F.byte k) 134 (0, 0)))
    (g4 : ∀ k ∈ F.keys, ∀ j ∈ F.keys, ad k = ad j → k = j)
    (g5 : ∀ b, S b ↔ b = xb ∨ b = bm ∨ ∃ k ∈ F.keys, b = ad k)
    (hne : ∀ k ∈ F.keys, ad k ≠ xb ∧ ad k ≠ bm) (hxb : xb ≠ bm) (hbm : bm < w.heap.size)
    {k : Int} (hk : k ∉ F.keys) (h0 : 0 ≤ k) (h1 : k < 64) (hnb : nb = w.heap.size)
    (hm : MapAt w' bm kInt (aset (F.keys.map fun k => (k, ptr (ad k))) k (ptr nb)))
    (hb : w'.heap[nb]? = some (.cells (Array.replicate 16 (.int .u8 0)) 134 (0, 0)))
    (kp : Keep w w' (fun b => b = bm)) :
    FileAt w' xb (fun b => S b ∨ b = nb) (F.addKey k) ∧
    ∃ ad' : Int → Nat, w'.heap[xb]? = some (.cells #[.int .i64 (F.addKey k).size, .map (some bm)] 127 (0, 0)) ∧ MapAt w' bm kInt ((F.addKey k).keys.map fun k => (k, ptr (ad' k))) ∧
      (∀ k' ∈ (F.addKey k).keys, w'.heap[ad' k']? = some (.cells (rowOf (F.addKey k).byte k') 134 (0, 0))) ∧ (∀ x ∈ (F.addKey k).keys, ∀ y ∈ (F.addKey k).keys, ad' x = ad' y → x = y) ∧
      (∀ b, (S b ∨ b = nb) ↔ b = xb ∨ b = bm ∨ ∃ k' ∈ (F.addKey k).keys, b = ad' k') ∧ (∀ k' ∈ (F.addKey k).keys, ad' k' ≠ xb ∧ ad' k' ≠ bm) ∧ ad' k = nb := by
  have hF : F.addKey k = { F with keys := F.keys ++ [k] } := by unfold FileV.addKey; rw [if_neg hk]
  have hxlt := lt_of_blk g1
  have hlt : ∀ j ∈ F.keys, ad j < w.heap.size := fun j hj => lt_of_blk (g3 j hj)
  have a1 : w'.heap[xb]? = some (.cells #[.int .i64 F.size, .map (some bm)] 127 (0, 0)) := kp.get g1 hxb
  have a2 : MapAt w' bm kInt ((F.keys ++ [k]).map fun j => (j, ptr (if j = k then nb else ad j))) := by
    rw [aset_new _ _ _ (by simpa [List.map_map, Function.comp_def] using hk)] at hm
    have : ((F.keys ++ [k]).map fun j => (j, ptr (if j = k then nb else ad j))) = (F.keys.map fun k => (k, ptr (ad k))) ++ [(k, ptr nb)] := by
      rw [List.map_append]
      congr 1
      · refine List.map_congr_left (fun j hj => ?_)
        rw [if_neg (ne_of_mem hj hk)]
      · simp
    rw [this]; exact hm
  have a3 : ∀ j ∈ F.keys ++ [k], w'.heap[if j = k then nb else ad j]? = some (.cells (rowOf F.byte j) 134 (0, 0)) := by
    intro j hj
    by_cases e : j = k
    · subst e
      rw [if_pos rfl, hb, rowOf_noughts F hok _ hk]
    · rw [if_neg e]
      have hj' : j ∈ F.keys := by simpa [e] using hj
      exact kp.get (g3 j hj') (hne j hj').2
  have a4 : ∀ x ∈ F.keys ++ [k], ∀ y ∈ F.keys ++ [k], (if x = k then nb else ad x) = (if y = k then nb else ad y) → x = y := by
    intro x hx y hy e
    by_cases ex : x = k <;> by_cases ey : y = k
    · rw [ex, ey]
    · rw [if_pos ex, if_neg ey] at e
      have := hlt y (by simpa [ey] using hy); omega
    · rw [if_neg ex, if_pos ey] at e
      have := hlt x (by simpa [ex] using hx); omega
    · rw [if_neg ex, if_neg ey] at e
      exact g4 x (by simpa [ex] using hx) y (by simpa [ey] using hy) e
  have a5 : ∀ b, (S b ∨ b = nb) ↔ b = xb ∨ b = bm ∨ ∃ j ∈ F.keys ++ [k], b = if j = k then nb else ad j := by
    intro b
    rw [g5]
    constructor
    · rintro ((h | h | ⟨j, hj, h⟩) | h)
      · exact .inl h
      · exact .inr (.inl h)
      · exact .inr (.inr ⟨j, by simp [hj], by rw [if_neg (ne_of_mem hj hk)]; exact h⟩)
      · exact .inr (.inr ⟨k, by simp, by simp [h]⟩)
    · rintro (h | h | ⟨j, hj, h⟩)
      · exact .inl (.inl h)
      · exact .inl (.inr (.inl h))
      · by_cases e : j = k
        · right; simpa [e] using h
        · left; right; right; exact ⟨j, by simpa [e] using hj, by simpa [e] using h⟩
  have a6 : ∀ j ∈ F.keys ++ [k], (if j = k then nb else ad j) ≠ xb ∧ (if j = k then nb else ad j) ≠ bm := by
    intro j hj
    by_cases e : j = k
    · rw [if_pos e]; constructor <;> omega
    · rw [if_neg e]; exact hne j (by simpa [e] using hj)
  refine ⟨⟨FileV.addKey_ok hok h0 h1, bm, fun j => if j = k then nb else ad j, ?_⟩, fun j => if j = k then nb else ad j, ?_⟩
  · rw [hF]; exact ⟨a1, a2, a3, a4, a5⟩
  · rw [hF]; exact ⟨a1, a2, a3, a4, a5, a6, by simp⟩

theorem FileAt.apart {w : World} {xb bm : Nat} {ad : Int → Nat} {F : FileV} {L : List (Int × Value)}
    (g1 : w.heap[xb]? = some (.cells #[.int .i64 F.size, .map (some bm)] 127 (0, 0))) (g2 : MapAt w bm kInt L)
    (g3 : ∀ k ∈ F.keys, w.heap[ad k]? = some (.cells (rowOf F.byte k) 134 (0, 0))) : xb ≠ bm ∧ ∀ k ∈ F.keys, ad k ≠ xb ∧ ad k ≠ bm := by
  obtain ⟨B, cl, hB⟩ := g2
  have h2 := hB.2.1
  refine ⟨fun e => ?_, fun k hk => ⟨fun e => ?_, fun e => ?_⟩⟩
  · rw [e, h2] at g1; simp at g1
  · have := g3 k hk
    rw [e, g1] at this
    simp at this
  · have := g3 k hk
    rw [e, h2] at this
    simp at this

end Go.Proofs.YtnjfcedkfobbcaaGreat
