/-
  What a cache is, and what its calls make of it. Plain words.
-/
import Derived.Test.YtjicoebcmfnooaaDoorLruLen0
import Derived.Test.YtjicoebcmfnooaaDoorLru7
import Derived.Test.YtjicoebcmfnooaaDoorDKey
namespace Go.Proofs.YtjicoebcmfnooaaDoor
open Go Go.RowKit
set_option linter.unusedSectionVars false
set_option linter.unusedSimpArgs false
set_option linter.unusedVariables false

/-- A dir and a name. -/
abbrev Nm := Int × ByteArray
abbrev Mem := List (Nm × Int)

def nkey (x : Nm) : ByteArray := keyB x.1 x.2
theorem nkey_inj {x y : Nm} (h : nkey x = nkey y) : x = y := by
  obtain ⟨h1, h2⟩ := keyB_inj h
  exact Prod.ext h1 h2

def touch (A : Mem) (x : Nm) (v : Int) : Mem := adel A x ++ [(x, v)]
def getA (A : Mem) (x : Nm) : Mem × Int × Int :=
  match aget A x with
  | none => (A, 1, 0)
  | some v => (touch A x v, if v ≤ 0 then (3, 0) else (2, v))
def putA (most : Int) (A : Mem) (x : Nm) (v : Int) : Mem × ByteArray :=
  if ((touch A x v).length : Int) ≤ most then (touch A x v, ByteArray.empty)
  else ((touch A x v).drop 1, ((touch A x v).head?.map fun y => y.1.2).getD ByteArray.empty)
def dropA (A : Mem) (x : Nm) : Mem × Bool := (adel A x, (aget A x).isSome)
def forgetA (A : Mem) (d : Int) : Mem × Int := (A.filter fun y => decide (y.1.1 ≠ d), (A.filter fun y => decide (y.1.1 = d)).length)
def shrinkA (A : Mem) (n : Int) : Mem × Int := (A.drop n.toNat, (A.take n.toNat).length)

structure Mem.ok (most : Int) (A : Mem) : Prop where
  most1 : 1 ≤ most ∧ most ≤ 64
  len : (A.length : Int) ≤ most
  nodup : (A.map Prod.fst).Nodup

/-- The list of keys by use; the nodes by key. -/
def lruOf (A : Mem) : List Pair := A.map fun x => (nkey x.1, 0)
def nodesOf (A : Mem) : List (ByteArray × Int) := A.map fun x => (nkey x.1, x.2)

theorem lruOf_plain (A : Mem) : plainL (lruOf A) := by
  intro x hx
  obtain ⟨y, _, rfl⟩ := List.mem_map.1 hx
  rfl

theorem aget_mapk {α β : Type} (A : List (Nm × α)) (f : α → β) (x : Nm) : aget (A.map fun y => (nkey y.1, f y.2)) (nkey x) = (aget A x).map f := by
  induction A with
  | nil => rfl
  | cons y r ih =>
    obtain ⟨a, u⟩ := y
    simp only [List.map_cons, aget]
    by_cases h : a = x
    · subst h
      simp
    · rw [if_neg (fun e => h (nkey_inj e)), if_neg h, ih]

theorem adel_mapk {α β : Type} (A : List (Nm × α)) (f : α → β) (x : Nm) : adel (A.map fun y => (nkey y.1, f y.2)) (nkey x) = (adel A x).map fun y => (nkey y.1, f y.2) := by
  induction A with
  | nil => rfl
  | cons y r ih =>
    obtain ⟨a, u⟩ := y
    simp only [List.map_cons, adel]
    by_cases h : a = x
    · subst h
      simp
    · rw [if_neg (fun e => h (nkey_inj e)), if_neg h, List.map_cons, ih]

theorem lruOf_get (A : Mem) (x : Nm) : aget (lruOf A) (nkey x) = (aget A x).map fun _ => 0 := aget_mapk A (fun _ => (0 : Int)) x
theorem lruOf_del (A : Mem) (x : Nm) : adel (lruOf A) (nkey x) = lruOf (adel A x) := adel_mapk A (fun _ => (0 : Int)) x
theorem nodesOf_get (A : Mem) (x : Nm) : aget (nodesOf A) (nkey x) = aget A x := by
  have h := aget_mapk A id x
  simpa [nodesOf] using h
theorem nodesOf_del (A : Mem) (x : Nm) : adel (nodesOf A) (nkey x) = nodesOf (adel A x) := adel_mapk A id x
theorem lruOf_len (A : Mem) : (lruOf A).length = A.length := by simp [lruOf]

theorem lruOf_used (A : Mem) (x : Nm) (v : Int) : used (lruOf A) (nkey x) = lruOf (touch A x v) := by
  unfold used touch
  rw [lruOf_del, lruOf_get]
  have e : ((aget A x).map fun _ => (0 : Int)).getD 0 = 0 := by cases aget A x <;> rfl
  rw [e]
  simp [lruOf]

theorem nodup_map {A : Mem} (h : (A.map Prod.fst).Nodup) : ((lruOf A).map Prod.fst).Nodup := by
  unfold lruOf
  rw [List.map_map]
  have e : (Prod.fst ∘ fun x : Nm × Int => (nkey x.1, (0 : Int))) = nkey ∘ Prod.fst := rfl
  rw [e, ← List.map_map]
  unfold List.Nodup at *
  rw [List.pairwise_map]
  exact h.imp fun h e => h (nkey_inj e)

theorem nodup_nodes {A : Mem} (h : (A.map Prod.fst).Nodup) : ((nodesOf A).map Prod.fst).Nodup := by
  have e : (nodesOf A).map Prod.fst = (lruOf A).map Prod.fst := by simp [nodesOf, lruOf]
  rw [e]
  exact nodup_map h

theorem adelA_sub (A : Mem) (x : Nm) : List.Sublist (adel A x) A := by
  induction A with
  | nil => exact List.Sublist.refl _
  | cons y r ih =>
    obtain ⟨a, u⟩ := y
    simp only [adel]
    split
    · exact List.sublist_cons_self _ _
    · exact ih.cons_cons _

theorem aget_memA {A : Mem} {x : Nm} {v : Int} (h : aget A x = some v) : (x, v) ∈ A := by
  induction A with
  | nil => simp [aget] at h
  | cons y r ih =>
    obtain ⟨a, u⟩ := y
    simp only [aget] at h
    split at h
    · rename_i e; subst e; simp at h; subst h; simp
    · exact List.mem_cons_of_mem _ (ih h)

theorem aget_none_iffA {A : Mem} {x : Nm} : aget A x = none ↔ x ∉ A.map Prod.fst := by
  induction A with
  | nil => simp [aget]
  | cons y r ih =>
    obtain ⟨a, u⟩ := y
    simp only [aget, List.map_cons, List.mem_cons, not_or]
    split
    · rename_i e; subst e; simp
    · rename_i e; rw [ih]; constructor
      · exact fun q => ⟨fun z => e z.symm, q⟩
      · exact fun q => q.2

theorem adel_len {A : Mem} {x : Nm} (h : (aget A x).isSome = true) : (adel A x).length + 1 = A.length := by
  induction A with
  | nil => simp [aget] at h
  | cons y r ih =>
    obtain ⟨a, u⟩ := y
    simp only [adel]
    by_cases e : a = x
    · rw [if_pos e]; rfl
    · rw [if_neg e, List.length_cons, List.length_cons, ih (by simpa only [aget, e, if_false] using h)]

theorem adel_noneA {A : Mem} {x : Nm} (h : aget A x = none) : adel A x = A := by
  induction A with
  | nil => rfl
  | cons y r ih =>
    obtain ⟨a, u⟩ := y
    simp only [aget] at h
    split at h
    · simp at h
    · rename_i e
      simp only [adel, if_neg e, ih h]

theorem adel_notin {A : Mem} (hn : (A.map Prod.fst).Nodup) (x : Nm) : x ∉ (adel A x).map Prod.fst := by
  induction A with
  | nil => simp [adel]
  | cons y r ih =>
    obtain ⟨a, u⟩ := y
    simp only [List.map_cons, List.nodup_cons] at hn
    simp only [adel]
    by_cases e : a = x
    · rw [if_pos e, ← e]; exact hn.1
    · rw [if_neg e, List.map_cons, List.mem_cons, not_or]
      exact ⟨fun q => e q.symm, ih hn.2⟩

theorem touch_nodup {A : Mem} (hn : (A.map Prod.fst).Nodup) (x : Nm) (v : Int) : ((touch A x v).map Prod.fst).Nodup := by
  unfold touch
  rw [List.map_append]
  refine List.nodup_append.2 ⟨hn.sublist ((adelA_sub A x).map _), by simp, ?_⟩
  intro a ha b hb e
  have hb' : b = x := by simpa using hb
  have e2 : a = x := e.trans hb'
  rw [e2] at ha
  exact adel_notin hn x ha

theorem touch_len {A : Mem} {x : Nm} {v : Int} (h : (aget A x).isSome = true) : (touch A x v).length = A.length := by
  unfold touch
  rw [List.length_append]
  exact adel_len h
theorem touch_len_new {A : Mem} {x : Nm} {v : Int} (h : aget A x = none) : (touch A x v).length = A.length + 1 := by
  unfold touch
  rw [List.length_append, adel_noneA h]
  rfl
theorem touch_len_le (A : Mem) (x : Nm) (v : Int) : (touch A x v).length ≤ A.length + 1 := by
  cases h : aget A x with
  | none => rw [touch_len_new h]; exact Nat.le_refl _
  | some u => rw [touch_len (by rw [h]; rfl)]; omega

theorem touch_ok {most : Int} {A : Mem} (h : Mem.ok most A) {x : Nm} (hx : (aget A x).isSome = true) (v : Int) : Mem.ok most (touch A x v) :=
  ⟨h.most1, by rw [touch_len hx]; exact h.len, touch_nodup h.nodup x v⟩

theorem Mem.ok.get {most : Int} {A : Mem} (h : Mem.ok most A) (x : Nm) : Mem.ok most (getA A x).1 := by
  unfold getA
  cases hg : aget A x with
  | none => exact h
  | some v => exact touch_ok h (by rw [hg]; rfl) v

theorem Mem.ok.put {most : Int} {A : Mem} (h : Mem.ok most A) (x : Nm) (v : Int) : Mem.ok most (putA most A x v).1 := by
  have hl := touch_len_le A x v
  have h0 := h.len
  unfold putA
  split
  · rename_i hle
    exact ⟨h.most1, hle, touch_nodup h.nodup x v⟩
  · refine ⟨h.most1, ?_, (touch_nodup h.nodup x v).sublist ((List.drop_sublist _ _).map _)⟩
    rw [List.length_drop]
    omega

theorem Mem.ok.drop {most : Int} {A : Mem} (h : Mem.ok most A) (x : Nm) : Mem.ok most (dropA A x).1 :=
  ⟨h.most1, by have := (adelA_sub A x).length_le; have := h.len; show ((adel A x).length : Int) ≤ most; omega, h.nodup.sublist ((adelA_sub A x).map _)⟩

theorem Mem.ok.forget {most : Int} {A : Mem} (h : Mem.ok most A) (d : Int) : Mem.ok most (forgetA A d).1 :=
  ⟨h.most1, by have := List.length_filter_le (fun y : Nm × Int => decide (y.1.1 ≠ d)) A; have := h.len; show ((A.filter _).length : Int) ≤ most; omega, h.nodup.sublist (List.filter_sublist.map _)⟩

theorem Mem.ok.shrink {most : Int} {A : Mem} (h : Mem.ok most A) (n : Int) : Mem.ok most (shrinkA A n).1 :=
  ⟨h.most1, by have := h.len; show ((A.drop n.toNat).length : Int) ≤ most; rw [List.length_drop]; omega, h.nodup.sublist ((List.drop_sublist _ _).map _)⟩

theorem Mem.new_ok {m : Int} (h1 : 1 ≤ m) (h2 : m ≤ 64) : Mem.ok m [] := ⟨⟨h1, h2⟩, by simp; omega, by simp⟩

/-- What the list of keys answers: nothing goes while a key is used that is there. -/
theorem use_there {most : Int} {A : Mem} (h : Mem.ok most A) {x : Nm} {v : Int} (hg : aget A x = some v) : useE most (lruOf A) (nkey x) = (lruOf (touch A x v), ByteArray.empty, false) := by
  have hl := touch_len (v := v) (show (aget A x).isSome = true by rw [hg]; rfl)
  have h0 := h.len
  unfold useE
  rw [lruOf_used A x v, if_pos (by rw [lruOf_len, hl]; exact h0)]

theorem use_fits {most : Int} {A : Mem} (h : Mem.ok most A) {x : Nm} {v : Int} (hl : ((touch A x v).length : Int) ≤ most) : useE most (lruOf A) (nkey x) = (lruOf (touch A x v), ByteArray.empty, false) := by
  unfold useE
  rw [lruOf_used A x v, if_pos (by rw [lruOf_len]; exact hl)]

theorem use_full {most : Int} {A : Mem} (h : Mem.ok most A) {x : Nm} {v : Int} (hl : ¬ ((touch A x v).length : Int) ≤ most) :
    ∃ y r, touch A x v = y :: r ∧ useE most (lruOf A) (nkey x) = (lruOf r, nkey y.1, true) := by
  rcases use_plain (lruOf_plain A) (nodup_map h.nodup) h.most1.1 (nkey x) with ⟨q, _⟩ | ⟨_, y, r, h1, h2⟩
  · rw [lruOf_used A x v, lruOf_len] at q
    exact absurd q hl
  · rw [lruOf_used A x v] at h1
    cases ht : touch A x v with
    | nil => rw [ht] at h1; simp [lruOf] at h1
    | cons z s =>
      rw [ht] at h1
      simp only [lruOf, List.map_cons, List.cons.injEq] at h1
      refine ⟨z, s, rfl, ?_⟩
      rw [h2, ← h1.1, ← h1.2]
      rfl

end Go.Proofs.YtjicoebcmfnooaaDoor
