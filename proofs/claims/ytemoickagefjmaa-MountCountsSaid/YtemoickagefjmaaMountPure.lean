/-
  Mounts, plainly: what a table is, what its calls make of it and answer.
-/
import Derived.Test.YtemoickagefjmaaLaws
namespace Go.Proofs.Ytemoickagefjmaa
open Go Go.RowKit
set_option linter.unusedSectionVars false
set_option linter.unusedSimpArgs false
set_option linter.unusedVariables false

/-- A mount: its top; where it lies. -/
structure MntV where
  top : Int
  am : Int
  an : Int
abbrev Mnt := Int × MntV
structure MountV where
  made : Int
  turns : Int
  live : List Mnt

structure MountV.ok (V : MountV) : Prop where
  made0 : 0 ≤ V.made
  sorted : (V.live.map Prod.fst).Pairwise (· < ·)
  range : ∀ x ∈ V.live, 0 ≤ x.1 ∧ x.1 ≤ V.made
  root : (0 : Int) ∈ V.live.map Prod.fst
  at_ : ∀ x ∈ V.live, 0 < x.1 → x.2.am < x.1 ∧ x.2.am ∈ V.live.map Prod.fst
  uniq : ∀ x ∈ V.live, ∀ y ∈ V.live, 0 < x.1 → 0 < y.1 → x.2.am = y.2.am → x.2.an = y.2.an → x.1 = y.1
  most : V.live.length ≤ 8

def MountV.new (root : Int) : MountV := ⟨0, 0, [(0, ⟨root, 0, 0⟩)]⟩

theorem MountV.new_ok (root : Int) : (MountV.new root).ok :=
  ⟨by simp [MountV.new], by simp [MountV.new], by simp [MountV.new], by simp [MountV.new], by simp [MountV.new], by simp [MountV.new], by simp [MountV.new]⟩

theorem MountV.ok.nodup {V : MountV} (h : V.ok) : (V.live.map Prod.fst).Nodup := h.sorted.imp fun h e => by omega

theorem aget_memM {α : Type} {L : List (Int × α)} {k : Int} {v : α} (h : aget L k = some v) : (k, v) ∈ L := by
  induction L with
  | nil => simp [aget] at h
  | cons x r ih =>
    obtain ⟨a, u⟩ := x
    simp only [aget] at h
    split at h
    · rename_i e; subst e; simp at h; subst h; simp
    · exact List.mem_cons_of_mem _ (ih h)
theorem aget_of_memM {α : Type} {L : List (Int × α)} (hn : (L.map Prod.fst).Nodup) {k : Int} {v : α} (h : (k, v) ∈ L) : aget L k = some v := by
  induction L with
  | nil => cases h
  | cons y r ih =>
    obtain ⟨a, u⟩ := y
    simp only [List.map_cons, List.nodup_cons] at hn
    simp only [aget]
    rcases List.mem_cons.1 h with h | h
    · cases h
      rw [if_pos rfl]
    · rw [if_neg (fun e => hn.1 (by rw [e]; exact List.mem_map_of_mem (f := Prod.fst) h))]
      exact ih hn.2 h
theorem aget_noneM {α : Type} {L : List (Int × α)} {k : Int} : aget L k = none ↔ k ∉ L.map Prod.fst := by
  induction L with
  | nil => simp [aget]
  | cons x r ih =>
    obtain ⟨a, u⟩ := x
    simp only [aget, List.map_cons, List.mem_cons, not_or]
    split
    · rename_i e; subst e; simp
    · rename_i e; rw [ih]; constructor
      · exact fun h => ⟨fun q => e q.symm, h⟩
      · exact fun h => h.2
theorem aget_mapM {α : Type} (L : List (Int × α)) (g : α → Value) (k : Int) : aget (L.map fun x => (x.1, g x.2)) k = (aget L k).map g := by
  induction L with
  | nil => rfl
  | cons x r ih =>
    obtain ⟨a, v⟩ := x
    simp only [List.map_cons, aget]
    split
    · rfl
    · exact ih

def laidAt (m n : Int) (x : Mnt) : Bool := decide (0 < x.1) && (decide (x.2.am = m) && decide (x.2.an = n))
/-- The mount that lies at a place. -/
def MountV.over (V : MountV) (m n : Int) : Option Mnt := V.live.find? (laidAt m n)

def MountV.bind (V : MountV) (m n node : Int) : MountV × Int × Int :=
  if aget V.live m = none then (V, 0, 1)
  else if (V.over m n).isSome then (V, 0, 15)
  else if 8 ≤ V.live.length then (V, 0, 13)
  else (⟨V.made + 1, V.turns + 1, V.live ++ [(V.made + 1, ⟨node, m, n⟩)]⟩, V.made + 1, 0)

def MountV.above (V : MountV) (m : Int) : List Int := (V.live.filter fun x => decide (0 < x.1) && decide (x.2.am = m)).map Prod.fst
def MountV.list (V : MountV) : List Int := V.live.map Prod.fst
def MountV.covered (V : MountV) (n : Int) : Bool := V.live.any fun x => decide (0 < x.1) && decide (x.2.an = n)
def MountV.unbind (V : MountV) (m : Int) : MountV × Int :=
  if aget V.live m = none ∨ m = 0 then (V, 1)
  else if V.above m ≠ [] then (V, 15)
  else (⟨V.made, V.turns + 1, adel V.live m⟩, 0)
def MountV.up (V : MountV) (m n : Int) : Int × Int × Bool :=
  match aget V.live m with
  | none => (m, n, false)
  | some x => if m = 0 ∨ x.top ≠ n then (m, n, false) else (x.am, x.an, true)
def MountV.root_ (V : MountV) (m : Int) : Int × Bool :=
  match aget V.live m with
  | none => (0, false)
  | some x => (x.top, true)

/-- Where a place leads down to. -/
def MountV.downF (V : MountV) : Nat → Int → Int → Int × Int
  | 0, m, n => (m, n)
  | k + 1, m, n => match V.over m n with
    | none => (m, n)
    | some x => V.downF k x.1 x.2.top
/-- How many mounts have a greater number. -/
def MountV.rank (V : MountV) (m : Int) : Nat := (V.live.filter fun x => decide (m < x.1)).length
def MountV.down (V : MountV) (m n : Int) : Int × Int := V.downF (V.rank m) m n

theorem MountV.over_mem {V : MountV} {m n : Int} {x : Mnt} (h : V.over m n = some x) : x ∈ V.live ∧ 0 < x.1 ∧ x.2.am = m ∧ x.2.an = n := by
  have h1 := List.mem_of_find?_eq_some h
  have h2 := List.find?_some h
  unfold laidAt at h2
  simp only [Bool.and_eq_true, decide_eq_true_eq] at h2
  exact ⟨h1, h2⟩
theorem MountV.over_none {V : MountV} {m n : Int} (h : V.over m n = none) : ∀ x ∈ V.live, 0 < x.1 → x.2.am = m → x.2.an ≠ n := by
  intro x hx h0 h1 h2
  have := List.find?_eq_none.1 h x hx
  unfold laidAt at this
  simp [h0, h1, h2] at this

theorem MountV.rank_lt {V : MountV} (h : V.ok) {m n : Int} {x : Mnt} (hx : V.over m n = some x) : V.rank x.1 < V.rank m := by
  obtain ⟨h1, h2, h3, h4⟩ := MountV.over_mem hx
  have h5 := (h.at_ x h1 h2).1
  unfold MountV.rank
  have hsub : (V.live.filter fun y => decide (x.1 < y.1)).length = ((V.live.filter fun y => decide (m < y.1)).filter fun y => decide (x.1 < y.1)).length := by
    rw [List.filter_filter]
    congr 1
    apply List.filter_congr
    intro y _
    by_cases q : x.1 < y.1
    · simp [q, show m < y.1 by omega]
    · simp [q]
  rw [hsub]
  refine List.length_filter_lt_length_iff_exists.2 ⟨x, List.mem_filter.2 ⟨h1, by simp; omega⟩, by simp⟩

/-- One step down. -/
theorem MountV.down_none {V : MountV} {m n : Int} (h : V.over m n = none) : V.down m n = (m, n) := by
  unfold MountV.down
  cases V.rank m with
  | zero => rfl
  | succ k => simp only [MountV.downF, h]

theorem MountV.downF_more {V : MountV} (h : V.ok) : ∀ (k : Nat) (m n : Int), V.rank m ≤ k → V.downF k m n = V.downF (V.rank m) m n
  | 0, m, n, hk => by rw [show V.rank m = 0 by omega]
  | k + 1, m, n, hk => by
    cases ho : V.over m n with
    | none =>
      have h1 := MountV.down_none ho
      unfold MountV.down at h1
      rw [h1]
      simp only [MountV.downF, ho]
    | some x =>
      have hr := MountV.rank_lt h ho
      obtain ⟨r, hr2⟩ : ∃ r, V.rank m = r + 1 := ⟨V.rank m - 1, by omega⟩
      rw [hr2]
      simp only [MountV.downF, ho]
      rw [MountV.downF_more h k _ _ (by omega), MountV.downF_more h r _ _ (by omega)]
  termination_by k => k

theorem MountV.down_some {V : MountV} (h : V.ok) {m n : Int} {x : Mnt} (hx : V.over m n = some x) : V.down m n = V.down x.1 x.2.top := by
  have hr := MountV.rank_lt h hx
  obtain ⟨r, hr2⟩ : ∃ r, V.rank m = r + 1 := ⟨V.rank m - 1, by omega⟩
  unfold MountV.down
  rw [hr2]
  simp only [MountV.downF, hx]
  exact MountV.downF_more h r _ _ (by omega)

theorem MountV.down_ind {V : MountV} (h : V.ok) (Q : Int → Int → Prop) (hn : ∀ m n, V.over m n = none → Q m n) (hs : ∀ m n x, V.over m n = some x → Q x.1 x.2.top → Q m n) : ∀ (k : Nat) (m n : Int), V.rank m ≤ k → Q m n
  | 0, m, n, hk => by
    cases ho : V.over m n with
    | none => exact hn m n ho
    | some x => have := MountV.rank_lt h ho; omega
  | k + 1, m, n, hk => by
    cases ho : V.over m n with
    | none => exact hn m n ho
    | some x => exact hs m n x ho (MountV.down_ind h Q hn hs k _ _ (by have := MountV.rank_lt h ho; omega))

/-- No mount lies at what Down answers. -/
theorem MountV.over_down {V : MountV} (h : V.ok) (m n : Int) : V.over (V.down m n).1 (V.down m n).2 = none := by
  refine MountV.down_ind h (fun m n => V.over (V.down m n).1 (V.down m n).2 = none) ?_ ?_ _ m n (Nat.le_refl _)
  · intro m n ho; rw [MountV.down_none ho]; exact ho
  · intro m n x hx q; rw [MountV.down_some h hx]; exact q
theorem MountV.down_down {V : MountV} (h : V.ok) (m n : Int) : V.down (V.down m n).1 (V.down m n).2 = V.down m n := by
  rw [MountV.down_none (MountV.over_down h m n)]

theorem MountV.rank_le {V : MountV} (h : V.ok) (m : Int) : V.rank m ≤ 8 := Nat.le_trans (List.length_filter_le _ _) h.most

theorem adel_subM {α : Type} (L : List (Int × α)) (k : Int) : (adel L k).Sublist L := by
  induction L with
  | nil => exact List.Sublist.refl _
  | cons x r ih =>
    obtain ⟨a, u⟩ := x
    simp only [adel]
    split
    · exact List.sublist_cons_self _ _
    · exact ih.cons_cons _
theorem mem_adelM {α : Type} {L : List (Int × α)} (hn : (L.map Prod.fst).Nodup) {k : Int} {x : Int × α} : x ∈ adel L k ↔ x ∈ L ∧ x.1 ≠ k := by
  induction L with
  | nil => simp [adel]
  | cons y r ih =>
    obtain ⟨a, u⟩ := y
    simp only [List.map_cons, List.nodup_cons] at hn
    simp only [adel]
    by_cases e : a = k
    · subst e
      rw [if_pos rfl]
      constructor
      · intro hx
        exact ⟨List.mem_cons_of_mem _ hx, fun q => hn.1 (by rw [← q]; exact List.mem_map_of_mem hx)⟩
      · rintro ⟨hx, hne⟩
        rcases List.mem_cons.1 hx with rfl | hx
        · exact absurd rfl hne
        · exact hx
    · rw [if_neg e, List.mem_cons, List.mem_cons, ih hn.2]
      constructor
      · rintro (rfl | ⟨h1, h2⟩)
        · exact ⟨.inl rfl, e⟩
        · exact ⟨.inr h1, h2⟩
      · rintro ⟨rfl | h1, h2⟩
        · exact .inl rfl
        · exact .inr ⟨h1, h2⟩

theorem MountV.ok.bind {V : MountV} (h : V.ok) (m n node : Int) : (V.bind m n node).1.ok := by
  unfold MountV.bind
  split
  · exact h
  · split
    · exact h
    · split
      · exact h
      · rename_i h1 h2 h3
        have hm : m ∈ V.live.map Prod.fst := by
          rcases Classical.em (m ∈ V.live.map Prod.fst) with q | q
          · exact q
          · exact absurd (aget_noneM.2 q) h1
        have hov : V.over m n = none := by simpa using h2
        have hno := MountV.over_none hov
        have hm0 := h.made0
        obtain ⟨y, hy, hym⟩ := List.mem_map.1 hm
        have hyr := h.range y hy
        refine ⟨by show 0 ≤ V.made + 1; omega, ?_, ?_, ?_, ?_, ?_, ?_⟩
        · show (List.map Prod.fst (V.live ++ _)).Pairwise _
          rw [List.map_append, List.pairwise_append]
          refine ⟨h.sorted, by simp, ?_⟩
          intro a ha b hb
          obtain ⟨x, hx, rfl⟩ := List.mem_map.1 ha
          simp at hb
          subst hb
          have := h.range x hx
          omega
        · intro x hx
          rcases List.mem_append.1 hx with hx | hx
          · have := h.range x hx
            exact ⟨this.1, by show x.1 ≤ V.made + 1; omega⟩
          · simp at hx; subst hx
            exact ⟨by show 0 ≤ V.made + 1; omega, Int.le_refl _⟩
        · show _ ∈ List.map Prod.fst (V.live ++ _)
          rw [List.map_append]
          exact List.mem_append_left _ h.root
        · intro x hx h0
          show _ ∧ _ ∈ List.map Prod.fst (V.live ++ _)
          rw [List.map_append]
          rcases List.mem_append.1 hx with hx | hx
          · exact ⟨(h.at_ x hx h0).1, List.mem_append_left _ (h.at_ x hx h0).2⟩
          · simp at hx; subst hx
            exact ⟨by show m < V.made + 1; omega, List.mem_append_left _ hm⟩
        · intro x hx z hz h0 h0' e1 e2
          rcases List.mem_append.1 hx with hx | hx
          · rcases List.mem_append.1 hz with hz | hz
            · exact h.uniq x hx z hz h0 h0' e1 e2
            · simp at hz; subst hz
              exact absurd e2 (hno x hx h0 e1)
          · simp at hx; subst hx
            rcases List.mem_append.1 hz with hz | hz
            · exact absurd e2.symm (hno z hz h0' e1.symm)
            · simp at hz; subst hz; rfl
        · show (V.live ++ _).length ≤ 8
          rw [List.length_append, List.length_singleton]
          omega

theorem MountV.above_mem {V : MountV} {m k : Int} : k ∈ V.above m ↔ ∃ x ∈ V.live, x.1 = k ∧ 0 < k ∧ x.2.am = m := by
  unfold MountV.above
  simp only [List.mem_map, List.mem_filter, Bool.and_eq_true, decide_eq_true_eq]
  constructor
  · rintro ⟨x, ⟨h1, h2, h3⟩, rfl⟩; exact ⟨x, h1, rfl, h2, h3⟩
  · rintro ⟨x, h1, rfl, h2, h3⟩; exact ⟨x, ⟨h1, h2, h3⟩, rfl⟩

theorem MountV.ok.unbind {V : MountV} (h : V.ok) (m : Int) : (V.unbind m).1.ok := by
  unfold MountV.unbind
  split
  · exact h
  · split
    · exact h
    · rename_i h1 h2
      have h2 : V.above m = [] := by simpa using h2
      have hsub := adel_subM V.live m
      have hmem : ∀ {x : Mnt}, x ∈ adel V.live m ↔ x ∈ V.live ∧ x.1 ≠ m := mem_adelM h.nodup
      have hm0 : m ≠ 0 := fun e => h1 (.inr e)
      have hkey : ∀ k, k ∈ V.live.map Prod.fst → k ≠ m → k ∈ (adel V.live m).map Prod.fst := by
        intro k hk hne
        obtain ⟨x, hx, rfl⟩ := List.mem_map.1 hk
        exact List.mem_map_of_mem (hmem.2 ⟨hx, hne⟩)
      refine ⟨h.made0, h.sorted.sublist (hsub.map _), fun x hx => h.range x (hmem.1 hx).1, hkey 0 h.root (fun e => hm0 e.symm), ?_, fun x hx y hy => h.uniq x (hmem.1 hx).1 y (hmem.1 hy).1, Nat.le_trans hsub.length_le h.most⟩
      intro x hx h0
      have hx' := (hmem.1 hx).1
      refine ⟨(h.at_ x hx' h0).1, hkey _ (h.at_ x hx' h0).2 (fun e => ?_)⟩
      have : x.1 ∈ V.above m := MountV.above_mem.2 ⟨x, hx', rfl, h0, e⟩
      rw [h2] at this
      cases this

end Go.Proofs.Ytemoickagefjmaa
