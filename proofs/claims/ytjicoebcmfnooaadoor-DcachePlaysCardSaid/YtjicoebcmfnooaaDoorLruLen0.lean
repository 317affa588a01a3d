/-
  LruLen, the plain law.
-/
import Derived.Test.YtjicoebcmfnooaaDoorLru5
namespace Go.Proofs.YtjicoebcmfnooaaDoor
open Go Go.RowKit
set_option linter.unusedSectionVars false
set_option linter.unusedSimpArgs false
set_option linter.unusedVariables false

def plainL (L : List Pair) : Prop := ∀ x ∈ L, x.2 = 0

theorem plain_loose {L : List Pair} (h : plainL L) : looseL L = L.map Prod.fst := by
  unfold looseL
  rw [List.filter_eq_self.2 (fun x hx => by simp [h x hx])]

theorem plain_get {L : List Pair} (h : plainL L) (key : ByteArray) : (aget L key).getD 0 = 0 := by
  cases hg : aget L key with
  | none => rfl
  | some p => exact h _ (pget_mem hg)

theorem plain_used {L : List Pair} (h : plainL L) (key : ByteArray) : plainL (used L key) := by
  intro x hx
  unfold used at hx
  rcases List.mem_append.1 hx with hx | hx
  · exact h x ((adel_sub L key).subset hx)
  · simp at hx; subst hx; exact plain_get h key

theorem use_plain {L : List Pair} (h : plainL L) (hn : (L.map Prod.fst).Nodup) {m : Int} (hm : 1 ≤ m) (key : ByteArray) :
    ((used L key).length ≤ m ∧ useE m L key = (used L key, ByteArray.empty, false)) ∨ (m < (used L key).length ∧ ∃ y r, used L key = y :: r ∧ useE m L key = (r, y.1, true)) := by
  by_cases hl : ((used L key).length : Int) ≤ m
  · exact .inl ⟨hl, by unfold useE; rw [if_pos hl]⟩
  · refine .inr ⟨by omega, ?_⟩
    have hU := plain_used h key
    have hk := ent_aget_none hn key
    have hnd := adel_nodup hn key
    cases hA : adel L key with
    | nil =>
      exfalso
      unfold used at hl
      rw [hA] at hl
      simp at hl
      omega
    | cons y r' =>
      have hu : used L key = y :: (r' ++ [(key, (aget L key).getD 0)]) := by unfold used; rw [hA]; rfl
      refine ⟨y, _, hu, ?_⟩
      have hy : y.1 ≠ key := fun e => hk (by rw [hA, ← e]; simp)
      unfold useE
      rw [if_neg hl, plain_loose hU, hu]
      simp only [List.map_cons, List.find?_cons, hy, ne_eq, not_false_eq_true, decide_true, adel, if_true]

theorem adel_map {L : List Pair} (hn : (L.map Prod.fst).Nodup) (key : ByteArray) : (adel L key).map Prod.fst = (L.map Prod.fst).filter (fun s => decide (s ≠ key)) := by
  induction L with
  | nil => rfl
  | cons x r ih =>
    obtain ⟨a, u⟩ := x
    simp only [List.map_cons, List.nodup_cons] at hn
    simp only [adel, List.map_cons, List.filter_cons]
    by_cases e : a = key
    · subst e
      simp only [if_true, ne_eq, not_true_eq_false, decide_false, Bool.false_eq_true, if_false]
      symm
      rw [List.filter_eq_self]
      intro s hs
      simp only [decide_eq_true_eq]
      exact fun q => hn.1 (by rw [← q]; exact hs)
    · simp only [e, if_false, ne_eq, not_false_eq_true, decide_true, if_true, List.map_cons]
      rw [ih hn.2]

end Go.Proofs.YtjicoebcmfnooaaDoor
