/-
  What a walk from the root through all names counts (plainly).
-/
import Derived.Test.YtnjfcedkfobbcaaTreeLv0
namespace Go.Proofs.Ytnjfcedkfobbcaa
open Go Go.RowKit Go.Shelf
set_option linter.unusedSectionVars false
set_option linter.unusedSimpArgs false
set_option linter.unusedVariables false

/-- What a Dir's names lead to, in the names' order. -/
def kidsOf (T : TreeV) (d : Int) : List Int := match T.dir d with | none => [] | some x => (sortedN x.names).map fun s => (aget x.names s).getD 0

theorem kids_dir {T : TreeV} {d : Int} {x : NodeV} (h : T.dir d = some x) : kidsOf T d = (sortedN x.names).map fun s => (aget x.names s).getD 0 := by unfold kidsOf; rw [h]
theorem kids_none {T : TreeV} {d : Int} (h : T.dir d = none) : kidsOf T d = [] := by unfold kidsOf; rw [h]
theorem kids_perm {T : TreeV} {d : Int} {x : NodeV} (h : T.dir d = some x) (hn : (x.names.map Prod.fst).Nodup) : (kidsOf T d).Perm (x.names.map Prod.snd) := by
  rw [kids_dir h]
  have hp : (sortedN x.names).Perm (x.names.map Prod.fst) := sortS_perm _
  refine (hp.map _).trans ?_
  rw [List.map_map]
  refine List.Perm.of_eq (List.map_congr_left fun e he => ?_)
  simp only [Function.comp]
  rw [aget_ofS hn he]
  rfl
theorem count_snd (L : List (ByteArray × Int)) (n : Int) : (L.map Prod.snd).count n = (L.filter fun e => decide (e.2 = n)).length := by
  induction L with
  | nil => rfl
  | cons y r ih =>
    simp only [List.map_cons, List.count_cons, ih, List.filter_cons]
    by_cases q : y.2 = n <;> simp [q]

/-- Sums over rows of numbers. -/
theorem sum_perm {f : Int → Nat} {a b : List Int} (h : a.Perm b) : (a.map f).sum = (b.map f).sum := by
  induction h with
  | nil => rfl
  | cons x _ ih => simp [ih]
  | swap x y l => simp; omega
  | trans _ _ h1 h2 => omega
theorem sum_sub {f : Int → Nat} {D : List Int} : ∀ {K : List Int}, D.Nodup → (∀ d ∈ D, d ∈ K) → (D.map f).sum ≤ (K.map f).sum := by
  induction D with
  | nil => intro K _ _; simp
  | cons d r ih =>
    intro K hn hs
    have hd := hs d (by simp)
    have hp := List.perm_cons_erase hd
    rw [sum_perm hp]
    simp only [List.map_cons, List.sum_cons]
    rw [List.nodup_cons] at hn
    have := ih (K := K.erase d) hn.2 (fun e he => (List.mem_erase_of_ne (fun q => hn.1 (by rw [← q]; exact he))).2 (hs e (by simp [he])))
    omega
theorem sum_filter {f : Int → Nat} (p : Int → Bool) (h : ∀ d, p d = false → f d = 0) (K : List Int) : ((K.filter p).map f).sum = (K.map f).sum := by
  induction K with
  | nil => rfl
  | cons d r ih =>
    simp only [List.filter_cons]
    cases q : p d with
    | true => simp [ih]
    | false => simp [ih, h d q]
theorem sum_ones (K : List Int) : (K.map fun _ => 1).sum = K.length := by
  induction K with
  | nil => rfl
  | cons d r ih => simp [ih]; omega
theorem count_flat (f : Int → List Int) (D : List Int) (n : Int) : (D.flatMap f).count n = (D.map fun d => (f d).count n).sum := by
  induction D with
  | nil => rfl
  | cons d r ih => simp [List.flatMap_cons, List.count_append, ih]

section
variable {T : TreeV}
/-- A node's names are what all Dirs' names lead to it. -/
theorem TreeV.okBut.names_sum (h : T.ok) (n : Int) : namesOf T.all n = ((T.all.map Prod.fst).map fun d => (kidsOf T d).count n).sum := by
  unfold namesOf
  rw [List.map_map]
  congr 1
  apply List.map_congr_left
  intro x hx
  simp only [Function.comp]
  have hg := aget_ofN h.nodup hx
  by_cases hk : x.2.kind = 1
  · rw [(kids_perm (TreeV.dir_of hg hk) (h.once x hx)).count_eq, count_snd]
  · have hd : T.dir x.1 = none := by unfold TreeV.dir; rw [hg]; simp [Option.filter_some, hk]
    rw [kids_none hd, h.leaf x hx hk]
    rfl
theorem isDir_mem {d : Int} (h : T.isDir d = true) : ∃ x, T.dir d = some x ∧ aget T.all d = some x ∧ d ∈ T.all.map Prod.fst := by
  unfold TreeV.isDir at h
  cases hq : T.dir d with
  | none => rw [hq] at h; cases h
  | some x =>
    have := TreeV.dir_some hq
    exact ⟨x, rfl, this.1, List.mem_map_of_mem (f := Prod.fst) (aget_memN this.1)⟩
/-- What a kid is. -/
theorem TreeV.okBut.kid_at (h : T.ok) {d n : Int} {x : NodeV} {i : Nat} {s : ByteArray} (hd : T.dir d = some x) (hs : (sortedN x.names)[i]? = some s) (hn : (kidsOf T d)[i]? = some n) :
    aget x.names s = some n ∧ (s, n) ∈ x.names ∧ n ≠ 1 ∧ 1 ≤ n ∧ n ≤ T.made ∧ ∃ y, aget T.all n = some y := by
  have hm := aget_memN (TreeV.dir_some hd).1
  obtain ⟨n', h1, h2⟩ := sorted_found (h.once _ hm) hs
  rw [kids_dir hd, List.getElem?_map, hs] at hn
  simp only [Option.map_some, Option.some.injEq, h1, Option.getD_some] at hn
  subst hn
  obtain ⟨k1, k2⟩ := h.kids _ hm _ h2
  simp only at k1 k2
  obtain ⟨y, hy, e⟩ := List.mem_map.1 k2
  have hr := h.range y hy
  rw [e] at hr
  exact ⟨h1, h2, k1, hr.1, hr.2, y.2, by rw [← e]; exact aget_ofN h.nodup hy⟩
end

/-- The walk: D are the Dirs that are done, Q those to do. -/
structure Bfs (T : TreeV) (D Q : List Int) : Prop where
  order : D ++ Q = 1 :: ((D.flatMap (kidsOf T)).filter T.isDir)
  nd : (D ++ Q).Nodup
  dirs : ∀ d ∈ D ++ Q, T.isDir d = true
/-- Of a Dir d the first i names are done. -/
structure BfsIn (T : TreeV) (D : List Int) (d : Int) (Q : List Int) (i : Nat) : Prop where
  order : D ++ d :: Q = 1 :: ((D.flatMap (kidsOf T) ++ (kidsOf T d).take i).filter T.isDir)
  nd : (D ++ d :: Q).Nodup
  dirs : ∀ e ∈ D ++ d :: Q, T.isDir e = true

def reachOf (P : List Int) (n : Int) : Int := (if n = 1 then 1 else 0) + (P.count n : Int)
theorem reach_snoc (P : List Int) (k n : Int) : reachOf (P ++ [k]) n = if n = k then reachOf P k + 1 else reachOf P n := by
  unfold reachOf
  rw [List.count_append, List.count_singleton]
  by_cases q : n = k
  · subst q; simp; omega
  · rw [if_neg q]
    have : (k == n) = false := by simpa using fun z => q z.symm
    rw [this]
    simp

namespace Bfs
variable {T : TreeV} (h : T.ok) {D Q : List Int} {d : Int} {i : Nat}
include h
theorem start : Bfs T [] [1] := by
  obtain ⟨x, hx, hk⟩ := h.root
  refine ⟨rfl, by simp, fun d hd => ?_⟩
  simp only [List.nil_append, List.mem_singleton] at hd
  subst hd
  unfold TreeV.isDir
  rw [TreeV.dir_of hx hk]
  rfl
theorem fuel (b : Bfs T D Q) : D.length + Q.length ≤ T.all.length := by
  have := sum_sub (f := fun _ => 1) b.nd (K := T.all.map Prod.fst) (fun d hd => by obtain ⟨x, _, _, q⟩ := isDir_mem (b.dirs d hd); exact q)
  rw [sum_ones, sum_ones, List.length_append, List.length_map] at this
  exact this
omit h in
theorem enter (b : Bfs T D (d :: Q)) : BfsIn T D d Q 0 := ⟨by simpa using b.order, b.nd, b.dirs⟩
omit h in
theorem leave (b : BfsIn T D d Q i) (hi : (kidsOf T d).length ≤ i) : Bfs T (D ++ [d]) Q := by
  have e : D ++ [d] ++ Q = D ++ d :: Q := by simp
  refine ⟨?_, by rw [e]; exact b.nd, by rw [e]; exact b.dirs⟩
  rw [e, b.order, List.take_of_length_le hi]
  simp [List.flatMap_append]
/-- A Dir's one name is seen but once. -/
theorem once (b : BfsIn T D d Q i) {n : Int} (hn : (kidsOf T d)[i]? = some n) (hk : T.isDir n = true) (h1 : n ≠ 1) : (D.flatMap (kidsOf T) ++ (kidsOf T d).take i).count n = 0 := by
  obtain ⟨x, hd, hx, -⟩ := isDir_mem hk
  have hl := h.links _ (aget_memN hx)
  have hs := h.single _ (aget_memN hx) (TreeV.dir_some hd).2
  simp only at hl hs
  have hsum := h.names_sum n
  have hnd : (D ++ [d]).Nodup := by
    have := b.nd
    rw [show D ++ d :: Q = (D ++ [d]) ++ Q by simp] at this
    exact (List.nodup_append.1 this).1
  have hle := sum_sub (f := fun e => (kidsOf T e).count n) hnd (K := T.all.map Prod.fst) (fun e he => by
    obtain ⟨x, _, _, q⟩ := isDir_mem (b.dirs e (by
      rw [show D ++ d :: Q = (D ++ [d]) ++ Q by simp]
      exact List.mem_append.2 (.inl he)))
    exact q)
  rw [← hsum, List.map_append, List.sum_append] at hle
  simp only [List.map_cons, List.map_nil, List.sum_cons, List.sum_nil, Nat.add_zero] at hle
  rw [← count_flat] at hle
  have hi : i < (kidsOf T d).length := (List.getElem?_eq_some_iff.1 hn).1
  have hsp : kidsOf T d = (kidsOf T d).take i ++ n :: (kidsOf T d).drop (i + 1) := by
    have e1 := (List.getElem?_eq_some_iff.1 hn).2
    rw [← e1, List.getElem_cons_drop, List.take_append_drop]
  have hc : (kidsOf T d).count n = ((kidsOf T d).take i).count n + ((n :: (kidsOf T d).drop (i + 1)).count n) := by
    rw [← List.count_append, ← hsp]
  rw [List.count_cons_self] at hc
  rw [List.count_append]
  omega
theorem stepDir (b : BfsIn T D d Q i) {n : Int} (hn : (kidsOf T d)[i]? = some n) (hk : T.isDir n = true) (h1 : n ≠ 1) : BfsIn T D d (Q ++ [n]) (i + 1) := by
  have ho := once h b hn hk h1
  have e : D ++ d :: (Q ++ [n]) = (D ++ d :: Q) ++ [n] := by simp
  have hnot : n ∉ D ++ d :: Q := by
    rw [b.order]
    intro q
    rcases List.mem_cons.1 q with q | q
    · exact h1 q
    · have := List.count_pos_iff.2 (List.mem_filter.1 q).1
      omega
  refine ⟨?_, ?_, ?_⟩
  · rw [e, b.order, List.take_add_one, hn]
    simp [List.filter_append, hk]
  · rw [e, List.nodup_append]
    refine ⟨b.nd, by simp, ?_⟩
    intro a ha c hc q
    simp only [List.mem_singleton] at hc
    exact hnot (by rw [← hc, ← q]; exact ha)
  · rw [e]
    intro a ha
    rcases List.mem_append.1 ha with q | q
    · exact b.dirs a q
    · simp only [List.mem_singleton] at q
      rw [q]; exact hk
omit h in
theorem stepLeaf (b : BfsIn T D d Q i) {n : Int} (hn : (kidsOf T d)[i]? = some n) (hk : T.isDir n = false) : BfsIn T D d Q (i + 1) := by
  refine ⟨?_, b.nd, b.dirs⟩
  rw [b.order, List.take_add_one, hn]
  simp [List.filter_append, hk]

/-- Which nodes have names. -/
theorem has_name {n : Int} (hp : 0 < namesOf T.all n) : ∃ p x s, T.dir p = some x ∧ aget T.all p = some x ∧ (s, n) ∈ x.names ∧ TreeV.named p x = true ∧ n ∈ kidsOf T p := by
  rw [h.names_sum] at hp
  have hex : ∃ d ∈ T.all.map Prod.fst, 0 < (kidsOf T d).count n := by
    apply Classical.byContradiction
    intro q
    have hz : ∀ K : List Int, (∀ d ∈ K, d ∈ T.all.map Prod.fst) → (K.map fun d => (kidsOf T d).count n).sum = 0 := by
      intro K
      induction K with
      | nil => intro _; rfl
      | cons d r ih =>
        intro hK
        simp only [List.map_cons, List.sum_cons]
        rw [ih (fun e he => hK e (by simp [he]))]
        have : ¬ 0 < (kidsOf T d).count n := fun z => q ⟨d, hK d (by simp), z⟩
        omega
    have := hz _ (fun d hd => hd)
    omega
  obtain ⟨p, hpm, hc⟩ := hex
  have hmem := List.count_pos_iff.1 hc
  cases hd : T.dir p with
  | none => rw [kids_none hd] at hmem; cases hmem
  | some x =>
    have hx := TreeV.dir_some hd
    have hxm := aget_memN hx.1
    have h2 := (kids_perm hd (h.once _ hxm)).mem_iff.1 hmem
    obtain ⟨e, he, rfl⟩ := List.mem_map.1 h2
    refine ⟨p, x, e.1, hd, hx.1, he, ?_, hmem⟩
    cases q : TreeV.named p x with
    | true => rfl
    | false =>
      have := h.bare _ hxm (by have := (h.range _ hxm).1; simp only at this ⊢; omega) hx.2 q
      simp only at this
      rw [this] at he
      cases he
theorem found (b : Bfs T D []) {d : Int} {x : NodeV} (hd : T.dir d = some x) (hn : TreeV.named d x = true) : d ∈ D := by
  obtain ⟨rank, hr⟩ := h.deep
  have hall : D = 1 :: ((D.flatMap (kidsOf T)).filter T.isDir) := by have := b.order; rw [List.append_nil] at this; exact this
  have key : ∀ k : Nat, ∀ d x, T.dir d = some x → TreeV.named d x = true → rank d ≤ k → d ∈ D := by
    intro k
    induction k with
    | zero =>
      intro d x hd hn hk
      by_cases q : d = 1
      · rw [hall, q]; simp
      · exfalso
        have hx := TreeV.dir_some hd
        have hl := h.links _ (aget_memN hx.1)
        unfold TreeV.named at hn
        simp only [q, decide_false, Bool.false_or, decide_eq_true_eq] at hn hl
        obtain ⟨p, y, s, h1, h2, h3, h4, h5⟩ := has_name h (n := d) (by omega)
        have := hr _ (aget_memN h2) _ h3 (by unfold TreeV.isDir; simp only; rw [hd]; rfl)
        simp only at this
        omega
    | succ k ih =>
      intro d x hd hn hk
      by_cases q : d = 1
      · rw [hall, q]; simp
      · have hx := TreeV.dir_some hd
        have hl := h.links _ (aget_memN hx.1)
        unfold TreeV.named at hn
        simp only [q, decide_false, Bool.false_or, decide_eq_true_eq] at hn hl
        obtain ⟨p, y, s, h1, h2, h3, h4, h5⟩ := has_name h (n := d) (by omega)
        have hdd : T.isDir d = true := by unfold TreeV.isDir; rw [hd]; rfl
        have := hr _ (aget_memN h2) _ h3 hdd
        simp only at this
        have hp := ih p y h1 h4 (by omega)
        rw [hall]
        exact List.mem_cons.2 (.inr (List.mem_filter.2 ⟨List.mem_flatMap.2 ⟨p, hp, h5⟩, hdd⟩))
  exact key _ d x hd hn (Nat.le_refl _)
/-- What has been counted at the end: all names. -/
theorem over (b : Bfs T D []) (n : Int) : (D.flatMap (kidsOf T)).count n = namesOf T.all n := by
  rw [h.names_sum, count_flat]
  have hnd : D.Nodup := by have := b.nd; rw [List.append_nil] at this; exact this
  apply Nat.le_antisymm
  · exact sum_sub hnd (fun e he => by
      obtain ⟨x, _, _, q⟩ := isDir_mem (b.dirs e (List.mem_append.2 (.inl he)))
      exact q)
  · rw [← sum_filter (fun d => !(kidsOf T d).isEmpty) (fun d hd => by
      simp only [Bool.not_eq_false', List.isEmpty_iff] at hd
      rw [hd]; rfl) (T.all.map Prod.fst)]
    refine sum_sub (h.nodup.filter _) (fun d hd => ?_)
    obtain ⟨hm, hne⟩ := List.mem_filter.1 hd
    cases hq : T.dir d with
    | none => rw [kids_none hq] at hne; simp at hne
    | some x =>
      refine found h b hq ?_
      cases q : TreeV.named d x with
      | true => rfl
      | false =>
        have hx := TreeV.dir_some hq
        have hxm := aget_memN hx.1
        have := h.bare _ hxm (by have := (h.range _ hxm).1; simp only at this ⊢; omega) hx.2 q
        simp only at this
        rw [kids_dir hq, this] at hne
        simp [sortedN, sortS] at hne
/-- What the last loop looks at. -/
theorem tells (b : Bfs T D []) {H : Int → Int} (hd : Hd T H) (n : Int) : ∃ v : TreeV.StatV, T.stat n = (v, decide (0 < reachOf (D.flatMap (kidsOf T)) n ∨ 0 < H n)) ∧ (v.kind = 2 → v.links = reachOf (D.flatMap (kidsOf T)) n) := by
  unfold reachOf
  rw [over h b]
  cases hx : aget T.all n with
  | none =>
    refine ⟨⟨0, 0, 0, 0, 0, 0, 0⟩, ?_, fun q => absurd q (by decide)⟩
    unfold TreeV.stat
    rw [hx]
    have h0 : namesOf T.all n = 0 := by
      apply Classical.byContradiction
      intro q
      obtain ⟨p, y, s, h1, h2, h3, h4, h5⟩ := has_name h (n := n) (by omega)
      have := (h.kids _ (aget_memN h2) _ h3).2
      simp only at this
      obtain ⟨z, hz, e⟩ := List.mem_map.1 this
      have := aget_ofN h.nodup hz
      rw [e, hx] at this
      cases this
    have h1 : n ≠ 1 := by
      obtain ⟨y, hy, _⟩ := h.root
      intro q
      rw [q, hy] at hx
      cases hx
    have h2 : H n = 0 := by
      have := hd.h n
      unfold TreeV.holdsAt at this
      rw [hx] at this
      exact this.symm
    rw [h0, if_neg h1, h2]
    simp
  | some x =>
    have hm := aget_memN hx
    have hl := h.links _ hm
    have hk := h.kept _ hm (by have := (h.range _ hm).1; simp only at this ⊢; omega)
    have h2 : x.holds = H n := hd.at_ hx
    simp only at hl hk
    refine ⟨T.statOf n x, ?_, fun q => ?_⟩
    · unfold TreeV.stat
      rw [hx]
      have : 0 < (if n = 1 then (1 : Int) else 0) + (namesOf T.all n : Int) ∨ 0 < H n := by
        rcases hk with q | q | q
        · rw [if_pos q]; left; omega
        · left; split <;> omega
        · right; omega
      rw [decide_eq_true this]
    · have hk2 : x.kind = 2 := by
        unfold TreeV.statOf at q
        split at q
        · exact q
        · rename_i z; split at q
          · rename_i z2; exact z2
          · exact q
      have h1 : n ≠ 1 := by
        obtain ⟨y, hy, hy2⟩ := h.root
        intro q
        rw [q, hy] at hx
        cases hx
        rw [hy2] at hk2
        cases hk2
      rw [if_neg h1]
      unfold TreeV.statOf
      rw [if_neg (by rw [hk2]; decide), if_pos hk2]
      simp only
      omega
end Bfs

end Go.Proofs.Ytnjfcedkfobbcaa
