/-
  What the document's cache makes of its rows and its list. Plain words.
-/
import Derived.Test.YtjicoebcmfnooaaDoorR20B
namespace Go.Proofs.YtjicoebcmfnooaaDoor
open Go Go.RowKit
set_option linter.unusedSectionVars false
set_option linter.unusedSimpArgs false
set_option linter.unusedVariables false
set_option maxRecDepth 100000

def AllR (A : Mem) : Prop := ∀ y ∈ A, InR y.1

theorem aget8 {α : Type} (A : List (Nm × α)) (hA : ∀ y ∈ A, InR y.1) {x : Nm} (hx : InR x) : aget (A.map fun y => (k8 y.1, (0 : Int))) (k8 x) = (aget A x).map fun _ => 0 := by
  induction A with
  | nil => rfl
  | cons y r ih =>
    obtain ⟨a, u⟩ := y
    simp only [List.map_cons, aget]
    by_cases h : a = x
    · subst h
      simp
    · rw [if_neg (fun e => h (k8_inj (hA (a, u) (by simp)) hx e)), if_neg h, ih (fun y hy => hA y (by simp [hy]))]

theorem adel8 (A : Mem) (hA : AllR A) {x : Nm} (hx : InR x) : adel (lru8 A) (k8 x) = lru8 (adel A x) := by
  induction A with
  | nil => rfl
  | cons y r ih =>
    obtain ⟨a, u⟩ := y
    have ih' := ih (fun y hy => hA y (by simp [hy]))
    unfold lru8 at *
    simp only [List.map_cons, adel]
    by_cases h : a = x
    · subst h
      simp
    · rw [if_neg (fun e => h (k8_inj (hA (a, u) (by simp)) hx e)), if_neg h, List.map_cons, ih']

theorem lru8_get {A : Mem} (hA : AllR A) {x : Nm} (hx : InR x) : aget (lru8 A) (k8 x) = (aget A x).map fun _ => 0 := aget8 A hA hx
theorem lru8_len (A : Mem) : (lru8 A).length = A.length := by simp [lru8]
theorem lru8_plain (A : Mem) : plainL (lru8 A) := by
  intro x hx
  obtain ⟨y, _, rfl⟩ := List.mem_map.1 hx
  rfl

theorem lru8_used {A : Mem} (hA : AllR A) {x : Nm} (hx : InR x) (v : Int) : used (lru8 A) (k8 x) = lru8 (touch A x v) := by
  unfold used touch
  rw [adel8 A hA hx, lru8_get hA hx]
  have e : ((aget A x).map fun _ => (0 : Int)).getD 0 = 0 := by cases aget A x <;> rfl
  rw [e]
  simp [lru8]

theorem lru8_nodup {A : Mem} (hA : AllR A) (h : (A.map Prod.fst).Nodup) : ((lru8 A).map Prod.fst).Nodup := by
  unfold lru8
  rw [List.map_map]
  unfold List.Nodup at *
  rw [List.pairwise_map] at h ⊢
  exact h.imp_of_mem fun {a b} ha hb hne e => hne (k8_inj (hA a ha) (hA b hb) e)

theorem AllR.touch {A : Mem} (hA : AllR A) {x : Nm} (hx : InR x) (v : Int) : AllR (touch A x v) := by
  intro y hy
  unfold Go.Proofs.YtjicoebcmfnooaaDoor.touch at hy
  rcases List.mem_append.1 hy with hy | hy
  · exact hA y ((adelA_sub A x).subset hy)
  · rw [List.mem_singleton.1 hy]; exact hx

theorem use8_fits {most : Int} {A : Mem} (hA : AllR A) {x : Nm} (hx : InR x) {v : Int} (hl : ((touch A x v).length : Int) ≤ most) : useE most (lru8 A) (k8 x) = (lru8 (touch A x v), ByteArray.empty, false) := by
  unfold useE
  rw [lru8_used hA hx v, if_pos (by rw [lru8_len]; exact hl)]

theorem use8_full {most : Int} {A : Mem} (h : Mem.ok most A) (hA : AllR A) {x : Nm} (hx : InR x) {v : Int} (hl : ¬ ((touch A x v).length : Int) ≤ most) :
    ∃ y r, touch A x v = y :: r ∧ useE most (lru8 A) (k8 x) = (lru8 r, k8 y.1, true) := by
  rcases use_plain (lru8_plain A) (lru8_nodup hA h.nodup) h.most1.1 (k8 x) with ⟨q, _⟩ | ⟨_, y, r, h1, h2⟩
  · rw [lru8_used hA hx v, lru8_len] at q
    exact absurd q hl
  · rw [lru8_used hA hx v] at h1
    cases ht : touch A x v with
    | nil => rw [ht] at h1; simp [lru8] at h1
    | cons z s =>
      rw [ht] at h1
      simp only [lru8, List.map_cons, List.cons.injEq] at h1
      refine ⟨z, s, rfl, ?_⟩
      rw [h2, ← h1.1, ← h1.2]
      rfl

def out8 (A : Mem) (n : Nat) : List ByteArray := (A.take n).map fun y => k8 y.1

theorem gone8 (A : Mem) (n : Int) : gone (lru8 A) n = out8 A n.toNat := by
  unfold gone out8
  rw [plain_loose (lru8_plain A)]
  unfold lru8
  rw [List.map_map, ← List.map_take]
  rfl

theorem dropAll_cons (L : List Pair) (s : ByteArray) (r : List ByteArray) : dropAll L (s :: r) = dropAll (adel L s) r := rfl

theorem shrink8 : ∀ (k : Nat) (A : Mem), dropAll (lru8 A) (out8 A k) = lru8 (A.drop k)
  | 0, A => rfl
  | k + 1, [] => rfl
  | k + 1, y :: r => by
    have e : out8 (y :: r) (k + 1) = k8 y.1 :: out8 r k := rfl
    rw [e, dropAll_cons]
    have e2 : adel (lru8 (y :: r)) (k8 y.1) = lru8 r := by
      unfold lru8
      simp only [List.map_cons, adel, if_pos]
    rw [e2]
    exact shrink8 k r

/-- Where a name stands among the rows. -/
theorem idx8_some {K : Mem} (hK : AllR K) (hn : (K.map Prod.fst).Nodup) {x : Nm} (hx : InR x) {v : Int} (hg : aget K x = some v) : ∃ k : Nat, idxT (lru8 K) (k8 x) = k ∧ K[k]? = some (x, v) ∧ k < K.length ∧ K.eraseIdx k = adel K x := by
  obtain ⟨k, h1, h2, h3, h4⟩ := idx_some (L := lru8 K) (key := k8 x) (show aget (lru8 K) (k8 x) = some 0 by rw [lru8_get hK hx, hg]; rfl)
  rw [lru8_len] at h3
  obtain ⟨y, hy⟩ : ∃ y, K[k]? = some y := ⟨_, List.getElem?_eq_getElem h3⟩
  have e := lru8_at hy
  rw [h2] at e
  simp only [Option.some.injEq, Prod.mk.injEq, and_true] at e
  have ex := k8_inj hx (hK y (List.mem_of_getElem? hy)) e
  have ey : y = (x, v) := by
    have := (mem_iff_get hn y.1 y.2).1 (List.mem_of_getElem? hy)
    rw [← ex, hg] at this
    exact Prod.ext ex.symm (Option.some.inj this).symm
  refine ⟨k, h1, by rw [hy, ey], h3, ?_⟩
  clear h1 h4 h2 e
  rw [ey] at hy
  clear ex ey hg h3
  induction K generalizing k with
  | nil => simp at hy
  | cons z r ih =>
    obtain ⟨a, u⟩ := z
    simp only [List.map_cons, List.nodup_cons] at hn
    cases k with
    | zero =>
      simp at hy
      obtain ⟨rfl, rfl⟩ := hy
      simp [adel]
    | succ k =>
      simp only [List.getElem?_cons_succ] at hy
      have hne : ¬ a = x := fun e => hn.1 (by rw [e]; exact List.mem_map.2 ⟨(x, v), List.mem_of_getElem? hy, rfl⟩)
      simp only [List.eraseIdx_cons_succ, adel, if_neg hne]
      rw [ih (fun y hy => hK y (by simp [hy])) hn.2 k hy]

theorem idx8_none {K : Mem} (hK : AllR K) {x : Nm} (hx : InR x) (hg : aget K x = none) : idxT (lru8 K) (k8 x) = -1 := by
  have h : aget (lru8 K) (k8 x) = none := by rw [lru8_get hK hx, hg]; rfl
  exact idx_none h

end Go.Proofs.YtjicoebcmfnooaaDoor
