/-
  Plain laws for MountCounts: what Unbind answers; the sum of what lies over each mount.
-/
import Derived.Test.YtemoickagefjmaaMountUps
namespace Go.Proofs.Ytemoickagefjmaa
open Go Go.RowKit Go.Shelf
set_option linter.unusedSectionVars false
set_option linter.unusedSimpArgs false
set_option linter.unusedVariables false

theorem adel_lenM {α : Type} {T : List (Int × α)} {k : Int} {v : α} (h : aget T k = some v) : (adel T k).length + 1 = T.length := by
  induction T with
  | nil => simp [aget] at h
  | cons x r ih =>
    obtain ⟨a, u⟩ := x
    simp only [aget] at h
    simp only [adel]
    split
    · simp
    · rename_i e
      rw [if_neg e] at h
      simp only [List.length_cons, ih h]

theorem MountV.above_le (V : MountV) (m : Int) : (V.above m).length ≤ V.list.length := by
  unfold MountV.above MountV.list
  rw [List.length_map, List.length_map]
  exact List.length_filter_le _ _

theorem MountV.unbind_ways (V : MountV) (m : Int) :
    (∃ e : Int, e ≠ 0 ∧ V.unbind m = (V, e) ∧ (m = 0 ∨ (m ≠ 0 ∧ ∃ q, V.root_ m = (q, false)) ∨ (m ≠ 0 ∧ (∃ q, V.root_ m = (q, true)) ∧ (V.above m).length ≠ 0))) ∨
    (m ≠ 0 ∧ (∃ q, V.root_ m = (q, true)) ∧ (V.above m).length = 0 ∧ ∃ V', V.unbind m = (V', 0) ∧ V'.list.length + 1 = V.list.length) := by
  by_cases hm : m = 0
  · exact .inl ⟨1, by decide, by unfold MountV.unbind; rw [if_pos (.inr hm)], .inl hm⟩
  cases hg : aget V.live m with
  | none => exact .inl ⟨1, by decide, by unfold MountV.unbind; rw [if_pos (.inl hg)], .inr (.inl ⟨hm, _, by unfold MountV.root_; rw [hg]⟩)⟩
  | some x =>
    have hr : V.root_ m = (x.top, true) := by unfold MountV.root_; rw [hg]
    by_cases ha : V.above m = []
    · refine .inr ⟨hm, ⟨_, hr⟩, by rw [ha]; rfl, ⟨V.made, V.turns + 1, adel V.live m⟩, ?_, ?_⟩
      · unfold MountV.unbind
        rw [if_neg (by rw [hg]; simp [hm]), if_neg (by simp [ha])]
      · unfold MountV.list
        rw [List.length_map, List.length_map]
        exact adel_lenM hg
    · refine .inl ⟨15, by decide, ?_, .inr (.inr ⟨hm, ⟨_, hr⟩, fun q => ha (List.length_eq_zero_iff.1 q)⟩)⟩
      unfold MountV.unbind
      rw [if_neg (by rw [hg]; simp [hm]), if_pos ha]

theorem cnt_split {α : Type} {L : List α} {a b c : α → Bool} (h : ∀ x ∈ L, c x = (a x || b x)) (h2 : ∀ x ∈ L, ¬ (a x = true ∧ b x = true)) :
    (L.filter c).length = (L.filter a).length + (L.filter b).length := by
  induction L with
  | nil => rfl
  | cons x r ih =>
    have h3 := h x (by simp)
    have h4 := h2 x (by simp)
    have h5 := ih (fun y hy => h y (by simp [hy])) (fun y hy => h2 y (by simp [hy]))
    rw [List.filter_cons, List.filter_cons, List.filter_cons, h3]
    cases ha : a x <;> cases hb : b x <;> simp_all <;> omega

theorem sum_keys (L : List Mnt) : ∀ K : List Int, K.Nodup →
    (K.map fun k => ((L.filter fun x => decide (0 < x.1) && decide (x.2.am = k)).length)).sum = (L.filter fun x => decide (0 < x.1) && decide (x.2.am ∈ K)).length
  | [], _ => by
    have : (L.filter fun x => decide (0 < x.1) && decide (x.2.am ∈ ([] : List Int))) = [] := List.filter_eq_nil_iff.2 (by simp)
    rw [this]
    rfl
  | k :: K, hn => by
    rw [List.map_cons, List.sum_cons, sum_keys L K (List.nodup_cons.1 hn).2]
    refine (cnt_split ?_ ?_).symm
    · intro x _
      by_cases h0 : 0 < x.1 <;> simp [h0]
    · intro x _ ⟨h1, h2⟩
      simp only [Bool.and_eq_true, decide_eq_true_eq] at h1 h2
      exact (List.nodup_cons.1 hn).1 (h1.2 ▸ h2.2)

theorem MountV.sum_above {V : MountV} (h : V.ok) : (V.list.map fun k => (V.above k).length).sum + 1 = V.list.length := by
  have e : (V.list.map fun k => (V.above k).length) = (V.list.map fun k => ((V.live.filter fun x => decide (0 < x.1) && decide (x.2.am = k)).length)) := by
    apply List.map_congr_left
    intro k _
    unfold MountV.above
    rw [List.length_map]
  rw [e, sum_keys V.live V.list h.nodup]
  have e2 : (V.live.filter fun x => decide (0 < x.1) && decide (x.2.am ∈ V.list)) = V.live.filter fun x => decide (0 < x.1) := by
    apply List.filter_congr
    intro x hx
    by_cases h0 : 0 < x.1
    · have := (h.at_ x hx h0).2
      simp only [h0, decide_true, Bool.true_and, decide_eq_true_eq]
      exact this
    · simp [h0]
  rw [e2]
  have hs := h.sorted
  have hr := h.range
  have ho := h.root
  unfold MountV.list
  rw [List.length_map]
  cases hL : V.live with
  | nil => rw [hL] at ho; cases ho
  | cons x r =>
    rw [hL] at hs hr ho
    rw [List.map_cons, List.pairwise_cons] at hs
    have hx0 : x.1 = 0 := by
      rcases List.mem_cons.1 (by simpa using ho : (0 : Int) ∈ x.1 :: r.map Prod.fst) with q | q
      · exact q.symm
      · have h1 := hs.1 0 q
        have := (hr x (by simp)).1
        omega
    have hf : r.filter (fun x => decide (0 < x.1)) = r := by
      apply List.filter_eq_self.2
      intro y hy
      have := hs.1 y.1 (List.mem_map_of_mem (f := Prod.fst) hy)
      simp
      omega
    rw [List.filter_cons, if_neg (by simp [hx0]), hf]
    rfl

theorem sum_take_le (V : MountV) : ∀ (K : List Int), (K.map fun k => (V.above k).length).sum ≤ K.length * V.list.length
  | [] => by simp
  | k :: K => by
    have h1 := sum_take_le V K
    have h2 := V.above_le k
    rw [List.map_cons, List.sum_cons, List.length_cons, Nat.succ_mul]
    omega

/-- Down of where a new mount lies leads away. -/
theorem MountV.down_away {V : MountV} (h : V.ok) {m n : Int} {x : Mnt} (hx : V.over m n = some x) : ¬ (V.down m n).1 = m := by
  obtain ⟨h1, h2, h3, h4⟩ := MountV.over_mem hx
  have h5 := (h.at_ x h1 h2).1
  have h6 : m < (V.down m n).1 := by
    rw [MountV.down_some h hx]
    have := MountV.down_ind h (fun m n => m ≤ (V.down m n).1) (fun m n ho => by rw [MountV.down_none ho]; exact Int.le_refl _) (fun m n y hy q => by
      obtain ⟨z1, z2, z3, z4⟩ := MountV.over_mem hy
      have z5 := (h.at_ y z1 z2).1
      rw [MountV.down_some h hy]
      omega) _ x.1 x.2.top (Nat.le_refl _)
    omega
  omega

theorem MountV.bind_over {V : MountV} {m n node t : Int} (h0 : 0 ≤ V.made) : ∃ x, MountV.over ⟨V.made + 1, t, V.live ++ [(V.made + 1, ⟨node, m, n⟩)]⟩ m n = some x := by
  have : (MountV.over ⟨V.made + 1, t, V.live ++ [(V.made + 1, ⟨node, m, n⟩)]⟩ m n).isSome = true := by
    unfold MountV.over
    rw [List.find?_isSome]
    exact ⟨(V.made + 1, ⟨node, m, n⟩), by simp, by unfold laidAt; simp; omega⟩
  exact Option.isSome_iff_exists.1 this

end Go.Proofs.Ytemoickagefjmaa
