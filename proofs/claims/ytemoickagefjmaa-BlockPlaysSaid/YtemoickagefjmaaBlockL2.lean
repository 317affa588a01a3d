/-
  What the files of a pool have, in sum; a file's blocks lie below its size; a row of asks that came in.
-/
import Derived.Test.YtemoickagefjmaaBlockL1
namespace Go.Proofs.Ytemoickagefjmaa
open Go Go.RowKit
set_option linter.unusedSectionVars false
set_option linter.unusedSimpArgs false
set_option linter.unusedVariables false
set_option maxRecDepth 100000

def FileV.fit (F : FileV) : Prop := ∀ k ∈ F.keys, k * 16 < F.size
def PoolV.fit (V : PoolV) : Prop := ∀ x ∈ V.files, x.2.fit

theorem FileV.len_fit {F : FileV} (h : F.ok) (hf : F.fit) : (F.keys.length : Int) * 16 ≤ F.size + 15 := by
  have h0 := h.1
  have hp : F.keys.Perm ((span 0 ((F.size + 15) / 16 - 1)).filter fun k => decide (k ∈ F.keys)) := by
    rw [List.perm_ext_iff_of_nodup h.2.2.1 ((span_nodup _ _).filter _)]
    intro x
    rw [List.mem_filter, mem_span]
    constructor
    · intro hx; have := h.2.2.2.1 x hx; have h3 := hf x hx; exact ⟨by omega, by simpa using hx⟩
    · intro hx; simpa using hx.2
  have h1 := hp.length_eq
  have h2 := List.length_filter_le (fun k => decide (k ∈ F.keys)) (span 0 ((F.size + 15) / 16 - 1))
  have h3 : (span 0 ((F.size + 15) / 16 - 1)).length = ((F.size + 15) / 16 - 1 + 1 - 0).toNat := by simp [span]
  omega

theorem PoolV.used_fit {V : PoolV} {n : Int} (h : V.ok n) (hf : V.fit) (k : Int) : 0 ≤ V.used k ∧ V.used k ≤ 64 ∧ 0 ≤ V.size k ∧ V.size k ≤ 1024 ∧ V.used k * 16 ≤ V.size k + 15 := by
  unfold PoolV.used PoolV.size
  cases hg : aget V.files k with
  | none => simp
  | some F =>
    have hm := aget_mem hg
    have h1 := FileV.len_fit (h.files _ hm) (hf _ hm)
    have h2 := keys_len (h.files _ hm)
    have h3 := (h.files _ hm).1
    have h4 := (h.files _ hm).2.1
    dsimp only at h1 h2 h3 h4 ⊢
    omega

theorem PoolV.fit_new (n : Int) : PoolV.fit ⟨n, 0, []⟩ := by simp [PoolV.fit]

theorem PoolV.fit.file {V : PoolV} {n : Int} (h : V.ok n) (hf : V.fit) : V.file.fit := by
  intro x hx
  rcases mem_aset h.nodup hx with rfl | ⟨hx, _⟩
  · intro k hk; simp [FileV.empty] at hk
  · exact hf x hx

theorem PoolV.fit.drop {V : PoolV} {n : Int} (h : V.ok n) (hf : V.fit) (f : Int) : (V.drop f).1.fit := by
  unfold PoolV.drop
  cases hg : aget V.files f with
  | none => exact hf
  | some F => exact fun x hx => hf x (mem_adel h.nodup hx).1

theorem PoolV.fit.write {V : PoolV} {n : Int} (h : V.ok n) (hf : V.fit) (f p : Int) (l : List Int) : (V.write f p l).1.fit := by
  unfold PoolV.write
  cases hg : aget V.files f with
  | none => exact hf
  | some F =>
    show (if _ then _ else _ : PoolV × Int).1.fit
    split
    · exact hf
    · split
      · exact hf
      · split
        · exact hf
        · split
          · exact hf
          · rename_i h1 h2 h3 h4
            intro x hx
            rcases mem_aset h.nodup hx with rfl | ⟨hx, _⟩
            · intro k hk
              have hpos : 0 < l.length := List.length_pos_iff.2 h2
              show k * 16 < max F.size (p + l.length)
              rcases (FileV.mem_puts l F p k).1 hk with hk | ⟨_, _, hk⟩
              · have := hf _ (aget_mem hg) k hk
                dsimp only at this
                omega
              · omega
            · exact hf x hx

theorem PoolV.fit.cut {V : PoolV} {n : Int} (h : V.ok n) (hf : V.fit) (f s : Int) : (V.cut f s).1.fit := by
  unfold PoolV.cut
  cases hg : aget V.files f with
  | none => exact hf
  | some F =>
    show (if _ then _ else _ : PoolV × Int).1.fit
    split
    · exact hf
    · split
      · exact hf
      · intro x hx
        rcases mem_aset h.nodup hx with rfl | ⟨hx, _⟩
        · intro k hk
          have := (List.mem_filter.1 hk).2
          show k * 16 < s
          simpa using this
        · exact hf x hx

theorem PoolV.write_made (V : PoolV) (f p : Int) (l : List Int) : (V.write f p l).1.made = V.made := by
  unfold PoolV.write
  cases hg : aget V.files f with
  | none => rfl
  | some F =>
    show (if _ then _ else _ : PoolV × Int).1.made = _
    split
    · rfl
    · split
      · rfl
      · split
        · rfl
        · split <;> rfl
theorem PoolV.cut_made (V : PoolV) (f s : Int) : (V.cut f s).1.made = V.made := by
  unfold PoolV.cut
  cases hg : aget V.files f with
  | none => rfl
  | some F =>
    show (if _ then _ else _ : PoolV × Int).1.made = _
    split
    · rfl
    · split <;> rfl
theorem PoolV.drop_made (V : PoolV) (f : Int) : (V.drop f).1.made = V.made := by
  unfold PoolV.drop
  cases hg : aget V.files f <;> rfl

/-- Sums from 1 on. -/
def sumTo (g : Int → Int) : Nat → Int
  | 0 => 0
  | m + 1 => sumTo g m + g (m + 1)

theorem sumTo_congr {g g' : Int → Int} (h : ∀ i, g i = g' i) : ∀ m, sumTo g m = sumTo g' m
  | 0 => rfl
  | m + 1 => by simp only [sumTo, sumTo_congr h m, h]

theorem sumTo_zero : ∀ m, sumTo (fun _ => 0) m = 0
  | 0 => rfl
  | m + 1 => by simp only [sumTo, sumTo_zero m]; rfl

theorem sumTo_add (g : Int → Int) (a c : Int) (h0 : 1 ≤ a) : ∀ (m : Nat), sumTo (fun i => if a = i then c + g i else g i) m = sumTo g m + if a ≤ m then c else 0
  | 0 => by rw [if_neg (by omega)]; rfl
  | m + 1 => by
    simp only [sumTo, sumTo_add g a c h0 m]
    by_cases h : a = m + 1
    · rw [if_neg (by omega), if_pos h, if_pos (by omega)]; omega
    · rw [if_neg h]
      by_cases h2 : a ≤ m
      · rw [if_pos h2, if_pos (by omega)]; omega
      · rw [if_neg h2, if_neg (by omega)]; omega

def usedOf (L : List (Int × FileV)) (k : Int) : Int := match aget L k with | none => 0 | some F => F.keys.length

theorem sum_used (m : Nat) : ∀ (L : List (Int × FileV)), (∀ x ∈ L, 1 ≤ x.1 ∧ x.1 ≤ m) → (L.map Prod.fst).Nodup → sumTo (usedOf L) m = (L.map fun x => (x.2.keys.length : Int)).sum
  | [], _, _ => by
    have e := (sumTo_congr (g := usedOf []) (g' := fun _ => 0) (fun i => rfl) m).trans (sumTo_zero m)
    rw [e]; rfl
  | (a, F) :: r, hk, hn => by
    simp only [List.map_cons, List.nodup_cons] at hn
    have h1 := hk (a, F) (by simp)
    have ih := sum_used m r (fun x hx => hk x (by simp [hx])) hn.2
    have e : ∀ i, usedOf ((a, F) :: r) i = if a = i then (F.keys.length : Int) + usedOf r i else usedOf r i := by
      intro i
      unfold usedOf
      simp only [aget]
      by_cases h : a = i
      · subst h
        rw [if_pos rfl, if_pos rfl, aget_none_iff.2 hn.1]
        dsimp only
        omega
      · rw [if_neg h, if_neg h]
    rw [sumTo_congr e, sumTo_add _ _ _ h1.1, if_pos h1.2, ih]
    simp only [List.map_cons, List.sum_cons]
    omega

theorem PoolV.sum_used {V : PoolV} {n : Int} (h : V.ok n) (m : Nat) (hm : V.made = m) : V.left + sumTo V.used m = n := by
  have := Go.Proofs.Ytemoickagefjmaa.sum_used m V.files (fun x hx => by have := h.keys x hx; omega) h.nodup
  rw [← h.sum]
  unfold PoolV.total
  rw [← this]
  rfl

theorem sumTo_used {V : PoolV} {n : Int} (h : V.ok n) (hf : V.fit) : ∀ m, 0 ≤ sumTo V.used m ∧ sumTo V.used m ≤ m * 64
  | 0 => by simp [sumTo]
  | m + 1 => by
    have ih := sumTo_used h hf m
    have := PoolV.used_fit h hf (m + 1)
    simp only [sumTo]
    omega

end Go.Proofs.Ytemoickagefjmaa
