/-
  Parts of the walk's proof: TreeP. (joined by pack.py)
-/
import Derived.Test.YtoanccechefclaaGreatDoorK02
set_option linter.unusedSectionVars false
set_option linter.unusedSimpArgs false
set_option linter.unusedVariables false
namespace Go.Proofs.YtoanccechefclaaGreatDoor
open Go Go.RowKit
structure NodeV where
  kind : Int
  mode : Int
  uid : Int
  gid : Int
  names : List (ByteArray × Int)
  up : Int
  links : Int
  holds : Int
  text : ByteArray
  file : Int
abbrev Nod := Int × NodeV
structure TreeV where
  most : Int
  made : Int
  turns : Int
  all : List Nod
  pool : PoolV
namespace TreeV
variable (T : TreeV)
def nodeAt (n : Int) : Option NodeV := aget T.all n
def dir (n : Int) : Option NodeV := (aget T.all n).filter fun x => decide (x.kind = 1)
def named (n : Int) (x : NodeV) : Bool := decide (n = 1) || decide (0 < x.links)
def isDir (n : Int) : Bool := (T.dir n).isSome
def dirs (n : Int) (x : NodeV) : Int := if named n x then 2 + ((x.names.filter fun e => T.isDir e.2).length : Int) else 0
structure StatV where
  node : Int
  kind : Int
  mode : Int
  uid : Int
  gid : Int
  links : Int
  size : Int
def statOf (n : Int) (x : NodeV) : StatV :=
  if x.kind = 1 then ⟨n, x.kind, x.mode, x.uid, x.gid, T.dirs n x, x.names.length⟩
  else if x.kind = 2 then ⟨n, x.kind, x.mode, x.uid, x.gid, x.links, T.pool.size x.file⟩
  else ⟨n, x.kind, x.mode, x.uid, x.gid, x.links, x.text.size⟩
def stat (n : Int) : StatV × Bool :=
  match aget T.all n with
  | none => (⟨0, 0, 0, 0, 0, 0, 0⟩, false)
  | some x => (T.statOf n x, true)
def find (d : Int) (s : ByteArray) : Int × Bool :=
  match T.dir d with
  | none => (0, false)
  | some x => match aget x.names s with
    | none => (0, false)
    | some n => (n, true)
def upOf (d : Int) : Int :=
  match T.dir d with
  | none => 0
  | some x => if named d x then x.up else d
def textOf (n : Int) : ByteArray := match aget T.all n with | none => ByteArray.empty | some x => x.text
def fileOf (n : Int) : Int := match aget T.all n with | none => 0 | some x => x.file
def set (n : Int) (x : NodeV) : TreeV := { T with all := aset T.all n x }
def add (kind mode uid gid : Int) (text : ByteArray) : TreeV :=
  { T with made := T.made + 1,
           all := aset T.all (T.made + 1) ⟨kind, mode, uid, gid, [], 0, 0, 0, text, if kind = 2 then T.pool.made + 1 else 0⟩,
           pool := if kind = 2 then T.pool.file else T.pool }
def drop (n : Int) : TreeV :=
  match aget T.all n with
  | none => T
  | some x => if named n x ∨ 0 < x.links ∨ 0 < x.holds then T
    else { T with turns := T.turns + 1, all := adel T.all n, pool := if x.kind = 2 then (T.pool.drop x.file).1 else T.pool }
def give (d : Int) (s : ByteArray) (n : Int) : TreeV :=
  match aget T.all d, aget T.all n with
  | some dx, some x =>
    { T with turns := T.turns + 1, all := aset (aset T.all d { dx with names := aset dx.names s n }) n { x with links := x.links + 1, up := if x.kind = 1 then d else x.up } }
  | _, _ => T
def loseName (d : Int) (s : ByteArray) (n : Int) : TreeV :=
  match aget T.all d, aget T.all n with
  | some dx, some x => { T with all := aset (aset T.all d { dx with names := adel dx.names s }) n { x with links := x.links - 1 } }
  | _, _ => T
def take (d : Int) (s : ByteArray) (n : Int) : TreeV :=
  ({ T.loseName d s n with turns := T.turns + 1 } : TreeV).drop n
def free (d : Int) (x : NodeV) (s : ByteArray) : Int :=
  if (aget x.names s).isSome then 35 else if named d x then 0 else 32
def make (right : Bool) (d : Int) (s : ByteArray) (kind mode uid gid : Int) (text : ByteArray) : TreeV × Int × Int :=
  match T.dir d with
  | none => (T, 0, 1)
  | some x =>
    if right = false ∨ kind < 1 ∨ 3 < kind ∨ (text.size ≠ 0 ∧ kind ≠ 3) then (T, 0, 1)
    else if free d x s ≠ 0 then (T, 0, free d x s)
    else if kind = 1 ∧ 16 ≤ T.dirs d x then (T, 0, 44)
    else if T.most ≤ T.all.length then (T, 0, 43)
    else ((T.add kind mode uid gid text).give d s (T.made + 1), T.made + 1, 0)
def join (right : Bool) (d : Int) (s : ByteArray) (n : Int) : TreeV × Int :=
  match T.dir d, aget T.all n with
  | some dx, some x =>
    if x.kind = 1 ∨ right = false then (T, 1)
    else if free d dx s ≠ 0 then (T, free d dx s)
    else if 16 ≤ x.links then (T, 44)
    else (T.give d s n, 0)
  | _, _ => (T, 1)
def part (d : Int) (s : ByteArray) : TreeV × Int :=
  match T.dir d with
  | none => (T, 1)
  | some x => match aget x.names s with
    | none => (T, 32)
    | some n => match aget T.all n with
      | none => (T, 0)
      | some y => if y.names ≠ [] then (T, 47) else (T.take d s n, 0)
def withinF : Nat → Int → Int → Bool
  | 0, _, _ => false
  | k + 1, n, d => if (T.dir n).isNone ∨ T.upOf n = n then false else if T.upOf n = d then true else withinF k (T.upOf n) d
def within (n d : Int) : Bool := if (T.dir d).isNone then false else T.withinF T.all.length n d
def move (right : Bool) (d : Int) (s : ByteArray) (e : Int) (z : ByteArray) : TreeV × Int :=
  match T.dir d, T.dir e with
  | some dx, some ex =>
    if right = false then (T, 1)
    else match aget dx.names s with
      | none => (T, 32)
      | some n =>
        if named e ex = false then (T, 32)
        else if T.isDir n ∧ (n = e ∨ T.within e n = true) then (T, 39)
        else match aget ex.names z with
          | some m =>
            if m = n then (T, 0)
            else if T.isDir n ∧ ¬ T.isDir m then (T, 37)
            else if T.isDir m ∧ ¬ T.isDir n then (T, 38)
            else if T.isDir m ∧ (aget T.all m).any (fun y => !y.names.isEmpty) then (T, 47)
            else (((T.take e z m).loseName d s n).give e z n, 0)
          | none =>
            if T.isDir n ∧ d ≠ e ∧ 16 ≤ T.dirs e ex then (T, 44)
            else ((T.loseName d s n).give e z n, 0)
  | _, _ => (T, 1)
def hold (n : Int) : TreeV × Int :=
  match aget T.all n with
  | none => (T, 1)
  | some x => (T.set n { x with holds := x.holds + 1 }, 0)
def loose (n : Int) : TreeV × Int :=
  match aget T.all n with
  | none => (T, 1)
  | some x => if x.holds = 0 then (T, 16) else ((T.set n { x with holds := x.holds - 1 }).drop n, 0)
def setMode (n mode : Int) : TreeV × Int :=
  match aget T.all n with
  | none => (T, 1)
  | some x => ({ T.set n { x with mode := mode } with turns := T.turns + 1 }, 0)
def setOwner (n uid gid : Int) : TreeV × Int :=
  match aget T.all n with
  | none => (T, 1)
  | some x => ({ T.set n { x with uid := uid, gid := gid } with turns := T.turns + 1 }, 0)
def write (n p : Int) (l : List Int) : TreeV × Int := ({ T with pool := (T.pool.write (T.fileOf n) p l).1 }, (T.pool.write (T.fileOf n) p l).2)
def cut (n size : Int) : TreeV × Int := ({ T with pool := (T.pool.cut (T.fileOf n) size).1 }, (T.pool.cut (T.fileOf n) size).2)
def live : List Int := T.all.map Prod.fst
def left : Int := T.most - T.all.length
end TreeV
def TreeV.new (most blocks : Int) : TreeV := ⟨most, 1, 0, [(1, ⟨1, 493, 0, 0, [], 1, 0, 0, ByteArray.empty, 0⟩)], ⟨blocks, 0, []⟩⟩
end Go.Proofs.YtoanccechefclaaGreatDoor
namespace Go.Proofs.YtoanccechefclaaGreatDoor
open Go Go.RowKit
def namesOf (L : List Nod) (m : Int) : Nat := (L.map fun x => (x.2.names.filter fun e => decide (e.2 = m)).length).sum
structure TreeV.okBut (hole : Int) (T : TreeV) : Prop where
  sorted : (T.all.map Prod.fst).Pairwise (· < ·)
  range : ∀ x ∈ T.all, 1 ≤ x.1 ∧ x.1 ≤ T.made
  root : ∃ x, aget T.all 1 = some x ∧ x.kind = 1
  kids : ∀ x ∈ T.all, ∀ e ∈ x.2.names, e.2 ≠ 1 ∧ e.2 ∈ T.all.map Prod.fst
  once : ∀ x ∈ T.all, (x.2.names.map Prod.fst).Nodup
  kinds : ∀ x ∈ T.all, 1 ≤ x.2.kind ∧ x.2.kind ≤ 3
  leaf : ∀ x ∈ T.all, x.2.kind ≠ 1 → x.2.names = []
  bare : ∀ x ∈ T.all, x.1 ≠ hole → x.2.kind = 1 → TreeV.named x.1 x.2 = false → x.2.names = []
  links : ∀ x ∈ T.all, x.2.links = (namesOf T.all x.1 : Int)
  single : ∀ x ∈ T.all, x.2.kind = 1 → x.2.links ≤ 1
  ups : ∀ x ∈ T.all, ∀ e ∈ x.2.names, ∀ y, aget T.all e.2 = some y → y.kind = 1 → y.up = x.1
  rootUp : ∀ x, aget T.all 1 = some x → x.up = 1
  kept : ∀ x ∈ T.all, x.1 ≠ hole → x.1 = 1 ∨ 0 < x.2.links ∨ 0 < x.2.holds
  holds : ∀ x ∈ T.all, 0 ≤ x.2.holds
  files : ∀ x ∈ T.all, x.2.kind = 2 → (aget T.pool.files x.2.file).isSome
  nofile : ∀ x ∈ T.all, x.2.kind ≠ 2 → x.2.file = 0
  apart : ∀ x ∈ T.all, ∀ y ∈ T.all, x.2.kind = 2 → y.2.kind = 2 → x.2.file = y.2.file → x.1 = y.1
  deep : ∃ rank : Int → Nat, ∀ x ∈ T.all, ∀ e ∈ x.2.names, T.isDir e.2 = true → rank x.1 < rank e.2
  room : (T.all.length : Int) ≤ T.most ∧ T.most ≤ 64
abbrev TreeV.ok (T : TreeV) : Prop := T.okBut 0
theorem TreeV.okBut.nodup {T : TreeV} {z : Int} (h : T.okBut z) : (T.all.map Prod.fst).Nodup := h.sorted.imp fun h e => by omega
theorem TreeV.new_ok {most blocks : Int} (h0 : 1 ≤ most) (h1 : most ≤ 64) : (TreeV.new most blocks).ok := by
  refine ⟨by simp [TreeV.new], by simp [TreeV.new], ⟨_, rfl, rfl⟩, by simp [TreeV.new], by simp [TreeV.new], by simp [TreeV.new], by simp [TreeV.new], by simp [TreeV.new, TreeV.named], by simp [TreeV.new, namesOf], by simp [TreeV.new], by simp [TreeV.new], ?_, by simp [TreeV.new], by simp [TreeV.new], by simp [TreeV.new], by simp [TreeV.new], ?_, ⟨fun _ => 0, by simp [TreeV.new]⟩, by simp only [TreeV.new, List.length_cons, List.length_nil]; omega⟩
  · intro x hx
    simp only [TreeV.new, aget, if_true, Option.some.injEq] at hx
    rw [← hx]
  · intro x hx y hy
    simp only [TreeV.new, List.mem_cons, List.not_mem_nil, or_false] at hx hy
    subst hx hy
    exact fun _ _ _ => rfl
theorem TreeV.dir_some {T : TreeV} {n : Int} {x : NodeV} (h : T.dir n = some x) : aget T.all n = some x ∧ x.kind = 1 := by
  unfold TreeV.dir at h
  rw [Option.filter_eq_some_iff] at h
  exact ⟨h.1, by simpa using h.2⟩
theorem TreeV.dir_of {T : TreeV} {n : Int} {x : NodeV} (h : aget T.all n = some x) (hk : x.kind = 1) : T.dir n = some x := by
  unfold TreeV.dir
  rw [h]
  simp [Option.filter, hk]
end Go.Proofs.YtoanccechefclaaGreatDoor
namespace Go.Proofs.YtoanccechefclaaGreatDoor
open Go Go.RowKit
def cntN (m : Int) (l : List (ByteArray × Int)) : Nat := (l.filter fun e => decide (e.2 = m)).length
theorem namesOf_nil (m : Int) : namesOf [] m = 0 := rfl
theorem namesOf_cons (x : Nod) (L : List Nod) (m : Int) : namesOf (x :: L) m = cntN m x.2.names + namesOf L m := by
  unfold namesOf cntN
  rw [List.map_cons, List.sum_cons]
section
variable {κ : Type} [DecidableEq κ] {α : Type}
theorem aget_out {L : List (κ × α)} {k : κ} (h : aget L k = none) : k ∉ L.map Prod.fst := by
  induction L with
  | nil => simp
  | cons x r ih =>
    obtain ⟨a, u⟩ := x
    simp only [aget] at h
    split at h
    · cases h
    · rename_i e
      simp only [List.map_cons, List.mem_cons, not_or]
      exact ⟨fun q => e q.symm, ih h⟩
theorem aset_keys {L : List (κ × α)} {k : κ} {v u : α} (h : aget L k = some u) : (aset L k v).map Prod.fst = L.map Prod.fst := by
  induction L with
  | nil => simp [aget] at h
  | cons x r ih =>
    obtain ⟨a, y⟩ := x
    simp only [aget] at h
    simp only [aset]
    split
    · rfl
    · rename_i e
      rw [if_neg e] at h
      simp only [List.map_cons, ih h]
theorem aget_aset (L : List (κ × α)) (k j : κ) (v : α) : aget (aset L k v) j = if k = j then some v else aget L j := by
  induction L with
  | nil => simp only [aset, aget]
  | cons x r ih =>
    obtain ⟨a, y⟩ := x
    simp only [aset]
    by_cases e : a = k
    · subst e
      rw [if_pos rfl]
      simp only [aget]
      split <;> rfl
    · rw [if_neg e]
      simp only [aget, ih]
      by_cases q : a = j
      · subst q
        rw [if_pos rfl, if_pos rfl, if_neg (fun z => e z.symm)]
      · rw [if_neg q, if_neg q]
theorem aget_adel_ne {L : List (κ × α)} {k j : κ} (h : k ≠ j) : aget (adel L k) j = aget L j := by
  induction L with
  | nil => rfl
  | cons x r ih =>
    obtain ⟨a, y⟩ := x
    simp only [adel]
    by_cases e : a = k
    · subst e
      rw [if_pos rfl]
      simp only [aget, if_neg h]
    · rw [if_neg e]
      simp only [aget, ih]
theorem aget_adel_eq {L : List (κ × α)} {k : κ} (hn : (L.map Prod.fst).Nodup) : aget (adel L k) k = none := by
  induction L with
  | nil => rfl
  | cons x r ih =>
    obtain ⟨a, y⟩ := x
    simp only [List.map_cons, List.nodup_cons] at hn
    simp only [adel]
    by_cases e : a = k
    · subst e
      rw [if_pos rfl]
      cases hg : aget r a with
      | none => rfl
      | some v =>
        exfalso
        apply hn.1
        clear ih hn
        induction r with
        | nil => simp [aget] at hg
        | cons z q ih =>
          obtain ⟨c, d⟩ := z
          simp only [aget] at hg
          split at hg
          · rename_i e; subst e; simp
          · exact List.mem_cons_of_mem _ (ih hg)
    · rw [if_neg e]
      simp only [aget, if_neg e]
      exact ih hn.2
end
theorem cntN_new {l : List (ByteArray × Int)} {s : ByteArray} (n m : Int) (h : aget l s = none) : cntN m (aset l s n) = cntN m l + (if n = m then 1 else 0) := by
  rw [aset_new _ _ _ (aget_out h)]
  unfold cntN
  rw [List.filter_append, List.length_append]
  congr 1
  by_cases e : n = m <;> simp [e]
theorem cntN_del {l : List (ByteArray × Int)} {s : ByteArray} {n : Int} (m : Int) (h : aget l s = some n) : cntN m (adel l s) + (if n = m then 1 else 0) = cntN m l := by
  induction l with
  | nil => simp [aget] at h
  | cons x r ih =>
    obtain ⟨a, y⟩ := x
    simp only [aget] at h
    simp only [adel]
    split
    · rename_i e
      rw [if_pos e] at h
      cases h
      unfold cntN
      rw [List.filter_cons]
      by_cases q : n = m <;> simp [q]
    · rename_i e
      rw [if_neg e] at h
      have := ih h
      unfold cntN at this ⊢
      rw [List.filter_cons, List.filter_cons]
      by_cases q : y = m
      · simp [q] at this ⊢
        omega
      · simp [q] at this ⊢
        omega
theorem namesOf_aset {L : List Nod} {d : Int} {x x' : NodeV} (m : Int) (h : aget L d = some x) : namesOf (aset L d x') m + cntN m x.names = namesOf L m + cntN m x'.names := by
  induction L with
  | nil => simp [aget] at h
  | cons y r ih =>
    obtain ⟨a, u⟩ := y
    simp only [aget] at h
    simp only [aset]
    split
    · rename_i e
      rw [if_pos e] at h
      cases h
      rw [namesOf_cons, namesOf_cons]
      simp only
      omega
    · rename_i e
      rw [if_neg e] at h
      rw [namesOf_cons, namesOf_cons]
      have := ih h
      omega
theorem namesOf_adel {L : List Nod} {d : Int} {x : NodeV} (m : Int) (h : aget L d = some x) : namesOf (adel L d) m + cntN m x.names = namesOf L m := by
  induction L with
  | nil => simp [aget] at h
  | cons y r ih =>
    obtain ⟨a, u⟩ := y
    simp only [aget] at h
    simp only [adel]
    split
    · rename_i e
      rw [if_pos e] at h
      cases h
      rw [namesOf_cons]
      simp only
      omega
    · rename_i e
      rw [if_neg e] at h
      rw [namesOf_cons, namesOf_cons]
      have := ih h
      omega
theorem namesOf_snoc (L : List Nod) (k : Int) (x : NodeV) (m : Int) : namesOf (L ++ [(k, x)]) m = namesOf L m + cntN m x.names := by
  induction L with
  | nil => rw [List.nil_append, namesOf_cons]; simp only [namesOf_nil]; omega
  | cons y r ih => rw [List.cons_append, namesOf_cons, namesOf_cons, ih]; omega
theorem namesOf_zero {L : List Nod} {m : Int} (h : namesOf L m = 0) : ∀ x ∈ L, ∀ e ∈ x.2.names, e.2 ≠ m := by
  induction L with
  | nil => intro x hx; cases hx
  | cons y r ih =>
    rw [namesOf_cons] at h
    intro x hx e he
    rcases List.mem_cons.1 hx with rfl | hx
    · have h0 : cntN m x.2.names = 0 := by omega
      unfold cntN at h0
      have := List.filter_eq_nil_iff.1 (List.length_eq_zero_iff.1 h0) e he
      simpa using this
    · exact ih (by omega) x hx e he
end Go.Proofs.YtoanccechefclaaGreatDoor
namespace Go.Proofs.YtoanccechefclaaGreatDoor
open Go Go.RowKit
theorem aget_memN {α : Type} {L : List (Int × α)} {k : Int} {v : α} (h : aget L k = some v) : (k, v) ∈ L := by
  induction L with
  | nil => simp [aget] at h
  | cons x r ih =>
    obtain ⟨a, u⟩ := x
    simp only [aget] at h
    split at h
    · rename_i e; subst e; simp at h; subst h; simp
    · exact List.mem_cons_of_mem _ (ih h)
theorem aget_ofN {α : Type} {L : List (Int × α)} (hn : (L.map Prod.fst).Nodup) {x : Int × α} (h : x ∈ L) : aget L x.1 = some x.2 := by
  induction L with
  | nil => cases h
  | cons y r ih =>
    obtain ⟨a, u⟩ := y
    simp only [List.map_cons, List.nodup_cons] at hn
    simp only [aget]
    rcases List.mem_cons.1 h with h | h
    · subst h
      rw [if_pos rfl]
    · rw [if_neg (fun e => hn.1 (by rw [e]; exact List.mem_map_of_mem (f := Prod.fst) h))]
      exact ih hn.2 h
theorem mem_asetN {α : Type} {L : List (Int × α)} (hn : (L.map Prod.fst).Nodup) {k : Int} {v u : α} (hk : aget L k = some u) {x : Int × α} (h : x ∈ aset L k v) : x = (k, v) ∨ (x ∈ L ∧ x.1 ≠ k) := by
  have hg := aget_ofN (by rw [aset_keys hk]; exact hn) h
  rw [aget_aset] at hg
  by_cases e : k = x.1
  · rw [if_pos e] at hg
    cases hg
    left
    rw [e]
  · rw [if_neg e] at hg
    exact .inr ⟨aget_memN hg, fun q => e q.symm⟩
theorem mem_adelN {α : Type} {L : List (Int × α)} (hn : (L.map Prod.fst).Nodup) {k : Int} {x : Int × α} (h : x ∈ adel L k) : x ∈ L ∧ x.1 ≠ k := by
  induction L with
  | nil => cases h
  | cons y r ih =>
    obtain ⟨a, u⟩ := y
    simp only [List.map_cons, List.nodup_cons] at hn
    simp only [adel] at h
    split at h
    · rename_i e
      subst e
      exact ⟨List.mem_cons_of_mem _ h, fun e => hn.1 (by rw [← e]; exact List.mem_map_of_mem (f := Prod.fst) h)⟩
    · rename_i e
      rcases List.mem_cons.1 h with h | h
      · subst h
        exact ⟨List.mem_cons_self .., e⟩
      · exact ⟨List.mem_cons_of_mem _ (ih hn.2 h).1, (ih hn.2 h).2⟩
theorem isDir_same {T U : TreeV} {n : Int} (h : (aget U.all n).map NodeV.kind = (aget T.all n).map NodeV.kind) : U.isDir n = T.isDir n := by
  unfold TreeV.isDir TreeV.dir
  cases hu : aget U.all n <;> cases ht : aget T.all n <;> rw [hu, ht] at h <;> simp at h <;> simp [Option.filter, h]
  split <;> simp_all
end Go.Proofs.YtoanccechefclaaGreatDoor
namespace Go.Proofs.YtoanccechefclaaGreatDoor
open Go Go.RowKit
theorem drop_files {V : PoolV} {f g : Int} (h : f ≠ g) : aget (V.drop f).1.files g = aget V.files g := by
  unfold PoolV.drop
  cases aget V.files f with
  | none => rfl
  | some F => exact aget_adel_ne h
theorem TreeV.okBut.gone {T : TreeV} {n : Int} {x : NodeV} (h : T.okBut n) (hx : aget T.all n = some x) (h1 : n ≠ 1) (hl : x.links = 0) (hn : x.names = []) (t : Int) :
    TreeV.ok { T with turns := t, all := adel T.all n, pool := if x.kind = 2 then (T.pool.drop x.file).1 else T.pool } := by
  have hm := aget_memN hx
  have hsub : ∀ y ∈ adel T.all n, y ∈ T.all ∧ y.1 ≠ n := fun y hy => mem_adelN h.nodup hy
  have hz : namesOf T.all n = 0 := by
    have := h.links _ hm
    simp only at this
    omega
  have hkeys : ∀ m, m ≠ n → m ∈ T.all.map Prod.fst → m ∈ (adel T.all n).map Prod.fst := by
    intro m hm hk
    cases hg : aget (adel T.all n) m with
    | none =>
      rw [aget_adel_ne (fun q => hm q.symm)] at hg
      exact absurd hk (aget_out hg)
    | some v => exact List.mem_map_of_mem (f := Prod.fst) (aget_memN hg)
  have hag : ∀ m v, aget (adel T.all n) m = some v → aget T.all m = some v := by
    intro m v hv
    by_cases e : n = m
    · subst e
      rw [aget_adel_eq h.nodup] at hv
      cases hv
    · rwa [aget_adel_ne e] at hv
  have hnm : ∀ m, namesOf (adel T.all n) m = namesOf T.all m := by
    intro m
    have := namesOf_adel m hx
    rw [hn] at this
    simpa [cntN] using this
  refine ⟨?_, fun y hy => h.range y (hsub y hy).1, ?_, ?_, fun y hy => h.once y (hsub y hy).1, fun y hy => h.kinds y (hsub y hy).1, fun y hy => h.leaf y (hsub y hy).1,
    fun y hy _ => h.bare y (hsub y hy).1 (hsub y hy).2, fun y hy => by rw [h.links y (hsub y hy).1, hnm], fun y hy => h.single y (hsub y hy).1,
    fun y hy e he z hz => h.ups y (hsub y hy).1 e he z (hag _ _ hz), fun y hy => h.rootUp y (hag _ _ hy), fun y hy _ => h.kept y (hsub y hy).1 (hsub y hy).2,
    fun y hy => h.holds y (hsub y hy).1, ?_, fun y hy => h.nofile y (hsub y hy).1, fun y hy z hz => h.apart y (hsub y hy).1 z (hsub z hz).1, ?_, ?_⟩
  · have := h.sorted
    have hs : ((adel T.all n).map Prod.fst).Sublist (T.all.map Prod.fst) := by
      have : (adel T.all n).Sublist T.all := by
        generalize T.all = L
        induction L with
        | nil => exact List.Sublist.refl _
        | cons y r ih =>
          obtain ⟨a, u⟩ := y
          simp only [adel]
          split
          · exact List.sublist_cons_self _ _
          · exact List.Sublist.cons_cons _ ih
      exact this.map _
    exact this.sublist hs
  · obtain ⟨r, hr, hk⟩ := h.root
    exact ⟨r, by simp only; rw [aget_adel_ne h1]; exact hr, hk⟩
  · intro y hy e he
    obtain ⟨k1, k2⟩ := h.kids y (hsub y hy).1 e he
    exact ⟨k1, hkeys _ (namesOf_zero hz y (hsub y hy).1 e he) k2⟩
  · intro y hy hk
    have hf := h.files y (hsub y hy).1 hk
    simp only
    split
    · rename_i hk2
      have hne : x.file ≠ y.2.file := fun q => (hsub y hy).2 (h.apart _ hm y (hsub y hy).1 hk2 hk q).symm
      rw [drop_files hne]
      exact hf
    · exact hf
  · obtain ⟨rank, hrank⟩ := h.deep
    refine ⟨rank, fun y hy e he hd => hrank y (hsub y hy).1 e he ?_⟩
    unfold TreeV.isDir TreeV.dir at hd ⊢
    simp only at hd
    rw [aget_adel_ne (fun q => namesOf_zero hz y (hsub y hy).1 e he q.symm)] at hd
    exact hd
  · have hr := h.room
    have hle : (adel T.all n).length ≤ T.all.length := by
      generalize T.all = L
      induction L with
      | nil => exact Nat.le_refl _
      | cons y r ih =>
        obtain ⟨a, u⟩ := y
        simp only [adel]
        split <;> simp only [List.length_cons] <;> omega
    simp only
    omega
end Go.Proofs.YtoanccechefclaaGreatDoor
namespace Go.Proofs.YtoanccechefclaaGreatDoor
open Go Go.RowKit
theorem adel_subN {l : List (ByteArray × Int)} {s : ByteArray} : ∀ e ∈ adel l s, e ∈ l := by
  induction l with
  | nil => intro e he; cases he
  | cons x r ih =>
    obtain ⟨a, y⟩ := x
    simp only [adel]
    split
    · exact fun e he => List.mem_cons_of_mem _ he
    · intro e he
      rcases List.mem_cons.1 he with rfl | he
      · exact List.mem_cons_self ..
      · exact List.mem_cons_of_mem _ (ih e he)
theorem adel_nodupN {l : List (ByteArray × Int)} {s : ByteArray} (h : (l.map Prod.fst).Nodup) : ((adel l s).map Prod.fst).Nodup := by
  induction l with
  | nil => exact h
  | cons x r ih =>
    obtain ⟨a, y⟩ := x
    simp only [List.map_cons, List.nodup_cons] at h
    simp only [adel]
    split
    · exact h.2
    · simp only [List.map_cons, List.nodup_cons]
      refine ⟨fun q => h.1 ?_, ih h.2⟩
      obtain ⟨e, he, hq⟩ := List.mem_map.1 q
      exact List.mem_map.2 ⟨e, adel_subN e he, hq⟩
theorem aget_memS {l : List (ByteArray × Int)} {s : ByteArray} {n : Int} (h : aget l s = some n) : (s, n) ∈ l := by
  induction l with
  | nil => simp [aget] at h
  | cons x r ih =>
    obtain ⟨a, u⟩ := x
    simp only [aget] at h
    split at h
    · rename_i e; subst e; simp at h; subst h; simp
    · exact List.mem_cons_of_mem _ (ih h)
theorem TreeV.okBut.kid_ne {T : TreeV} {z d n : Int} {dx : NodeV} {s : ByteArray} (h : T.okBut z) (hd : T.dir d = some dx) (hs : aget dx.names s = some n) : d ≠ n := by
  intro e
  obtain ⟨rank, hr⟩ := h.deep
  obtain ⟨h1, h2⟩ := TreeV.dir_some hd
  have := hr _ (aget_memN h1) _ (aget_memS hs) (by simp only; rw [← e]; unfold TreeV.isDir; rw [hd]; rfl)
  simp only at this
  rw [e] at this
  omega
theorem TreeV.okBut.loseName {T : TreeV} {d n : Int} {dx x : NodeV} {s : ByteArray} (h : T.ok) (hd : T.dir d = some dx) (hs : aget dx.names s = some n) (hx : aget T.all n = some x) :
    (T.loseName d s n).okBut n := by
  have hne := h.kid_ne hd hs
  obtain ⟨hdg, hdk⟩ := TreeV.dir_some hd
  have hdm := aget_memN hdg
  have hxm := aget_memN hx
  have hn1 := (h.kids _ hdm _ (aget_memS hs)).1
  simp only at hn1
  have hx2 : ∀ v, aget (aset T.all d v) n = some x := fun v => by rw [aget_aset, if_neg hne]; exact hx
  have hkeys : ((aset (aset T.all d { dx with names := adel dx.names s }) n { x with links := x.links - 1 }).map Prod.fst) = T.all.map Prod.fst := by
    rw [aset_keys (hx2 _), aset_keys hdg]
  have hall : (T.loseName d s n).all = aset (aset T.all d { dx with names := adel dx.names s }) n { x with links := x.links - 1 } := by
    unfold TreeV.loseName
    rw [hdg, hx]
  have hpool : (T.loseName d s n).pool = T.pool ∧ (T.loseName d s n).made = T.made ∧ (T.loseName d s n).most = T.most := by
    unfold TreeV.loseName
    rw [hdg, hx]
    exact ⟨rfl, rfl, rfl⟩
  obtain ⟨hp1, hp2, hp3⟩ := hpool
  have hget : ∀ m, aget (T.loseName d s n).all m = if n = m then some { x with links := x.links - 1 } else if d = m then some { dx with names := adel dx.names s } else aget T.all m := by
    intro m
    rw [hall, aget_aset, aget_aset]
  have hnd : ((T.loseName d s n).all.map Prod.fst).Nodup := by rw [hall, hkeys]; exact h.nodup
  /- each node was one of the same kind, and had no fewer names -/
  have was : ∀ y ∈ (T.loseName d s n).all, ∃ y0, (y.1, y0) ∈ T.all ∧ y.2.kind = y0.kind ∧ y.2.file = y0.file ∧ y.2.holds = y0.holds ∧ y.2.up = y0.up ∧ (∀ e ∈ y.2.names, e ∈ y0.names) ∧ ((y0.names.map Prod.fst).Nodup → (y.2.names.map Prod.fst).Nodup) ∧ y.2.links ≤ y0.links ∧ (y.1 ≠ n → y.2.links = y0.links) := by
    rintro ⟨ky, y⟩ hy
    have hg := aget_ofN hnd hy
    simp only at hg
    rw [hget] at hg
    split at hg
    · rename_i e
      cases hg
      exact ⟨x, by rw [← e]; exact hxm, rfl, rfl, rfl, rfl, fun e he => he, id, by dsimp only; omega, fun q => absurd e.symm q⟩
    · split at hg
      · rename_i e
        cases hg
        exact ⟨dx, by rw [← e]; exact hdm, rfl, rfl, rfl, rfl, fun e he => adel_subN e he, adel_nodupN, Int.le_refl _, fun _ => rfl⟩
      · exact ⟨y, aget_memN hg, rfl, rfl, rfl, rfl, fun e he => he, id, Int.le_refl _, fun _ => rfl⟩
  have kindOf : ∀ m, (aget (T.loseName d s n).all m).map NodeV.kind = (aget T.all m).map NodeV.kind := by
    intro m
    rw [hget]
    split
    · rename_i e; rw [← e, hx]; rfl
    · split
      · rename_i e; rw [← e, hdg]; rfl
      · rfl
  refine ⟨by rw [hall, hkeys]; exact h.sorted, ?_, ?_, ?_, ?_, ?_, ?_, ?_, ?_, ?_, ?_, ?_, ?_, ?_, ?_, ?_, ?_, ?_, ?_⟩
  · intro y hy
    obtain ⟨y0, w1, -⟩ := was y hy
    rw [hp2]
    exact h.range (y.1, y0) w1
  · obtain ⟨r, hr, hk⟩ := h.root
    rw [hget, if_neg hn1]
    split
    · exact ⟨_, rfl, hdk⟩
    · exact ⟨r, hr, hk⟩
  · intro y hy e he
    obtain ⟨y0, w1, w2, w3, w4, w5, w6, -⟩ := was y hy
    rw [hall, hkeys]
    exact h.kids _ w1 e (w6 e he)
  · intro y hy
    obtain ⟨y0, w1, w2, w3, w4, w5, w6, w7, -⟩ := was y hy
    exact w7 (h.once _ w1)
  · intro y hy
    obtain ⟨y0, w1, w2, -⟩ := was y hy
    rw [w2]
    exact h.kinds _ w1
  · intro y hy hk
    obtain ⟨y0, w1, w2, w3, w4, w5, w6, -⟩ := was y hy
    rw [w2] at hk
    have h0 := h.leaf _ w1 hk
    simp only at h0
    rw [h0] at w6
    exact List.eq_nil_iff_forall_not_mem.2 (fun e he => by cases w6 e he)
  · intro y hy hyn hk hnm
    obtain ⟨y0, w1, w2, w3, w4, w5, w6, w7, w8, w9⟩ := was y hy
    have h0 := h.bare _ w1 (by have := (h.range _ w1).1; simp only at this ⊢; omega) (by rw [← w2]; exact hk) (by unfold TreeV.named at hnm ⊢; rw [← w9 hyn]; exact hnm)
    simp only at h0
    rw [h0] at w6
    exact List.eq_nil_iff_forall_not_mem.2 (fun e he => by cases w6 e he)
  · rintro ⟨ky, y⟩ hy
    have hg := aget_ofN hnd hy
    have e1 := namesOf_aset (x' := { x with links := x.links - 1 }) ky (hx2 { dx with names := adel dx.names s })
    have e2 := namesOf_aset (x' := { dx with names := adel dx.names s }) ky hdg
    have e3 := cntN_del ky hs
    rw [← hall] at e1
    simp only at e1 e2 hg
    rw [hget] at hg
    split at hg
    · rename_i e
      cases hg
      have hl := h.links _ hxm
      simp only at hl
      rw [if_pos e] at e3
      have hone : 1 ≤ cntN n dx.names := by rw [e]; omega
      rw [← e] at e1 e2 e3 ⊢
      dsimp only
      omega
    · rename_i e
      rw [if_neg e] at e3
      obtain ⟨y0, w1, w2, w3, w4, w5, w6, w7, w8, w9⟩ := was _ hy
      have hl := h.links _ w1
      simp only at hl
      rw [w9 (fun q => e q.symm), hl]
      dsimp only
      omega
  · intro y hy hk
    obtain ⟨y0, w1, w2, w3, w4, w5, w6, w7, w8, w9⟩ := was y hy
    have := h.single _ w1 (by rw [← w2]; exact hk)
    simp only at this
    omega
  · intro y hy e he z hz hk
    obtain ⟨y0, w1, w2, w3, w4, w5, w6, w7, w8, w9⟩ := was y hy
    have hzm := aget_memN hz
    obtain ⟨z0, v1, v2, v3, v4, v5, -⟩ := was _ hzm
    simp only at v1 v2 v5
    rw [v5]
    exact h.ups _ w1 e (w6 e he) z0 (aget_ofN h.nodup v1) (by rw [← v2]; exact hk)
  · intro y hy
    obtain ⟨y0, w1, w2, w3, w4, w5, -⟩ := was _ (aget_memN hy)
    simp only at w1 w5
    rw [w5]
    exact h.rootUp _ (aget_ofN h.nodup w1)
  · intro y hy hyn
    obtain ⟨y0, w1, w2, w3, w4, w5, w6, w7, w8, w9⟩ := was y hy
    have := h.kept _ w1 (by have := (h.range _ w1).1; simp only at this ⊢; omega)
    simp only at this
    rw [w9 hyn, w4]
    exact this
  · intro y hy
    obtain ⟨y0, w1, w2, w3, w4, -⟩ := was y hy
    rw [w4]
    exact h.holds _ w1
  · intro y hy hk
    obtain ⟨y0, w1, w2, w3, -⟩ := was y hy
    rw [hp1, w3]
    exact h.files _ w1 (by rw [← w2]; exact hk)
  · intro y hy hk
    obtain ⟨y0, w1, w2, w3, -⟩ := was y hy
    rw [w3]
    exact h.nofile _ w1 (by rw [← w2]; exact hk)
  · intro y hy z hz hk hl hf
    obtain ⟨y0, w1, w2, w3, -⟩ := was y hy
    obtain ⟨z0, v1, v2, v3, -⟩ := was z hz
    exact h.apart (y.1, y0) w1 (z.1, z0) v1 (by rw [← w2]; exact hk) (by rw [← v2]; exact hl) (by rw [← w3, ← v3]; exact hf)
  · obtain ⟨rank, hrank⟩ := h.deep
    refine ⟨rank, fun y hy e he hdir => ?_⟩
    obtain ⟨y0, w1, w2, w3, w4, w5, w6, -⟩ := was y hy
    rw [isDir_same (kindOf e.2)] at hdir
    exact hrank _ w1 e (w6 e he) hdir
  · have hr := h.room
    have : (T.loseName d s n).all.length = T.all.length := by
      have := congrArg List.length hkeys
      rw [List.length_map, List.length_map] at this
      rw [hall, this]
    rw [this, hp3]
    exact hr
end Go.Proofs.YtoanccechefclaaGreatDoor
namespace Go.Proofs.YtoanccechefclaaGreatDoor
open Go Go.RowKit
theorem TreeV.okBut.turned {T : TreeV} {z : Int} (h : T.okBut z) (t : Int) : TreeV.okBut z { T with turns := t } :=
  ⟨h.sorted, h.range, h.root, h.kids, h.once, h.kinds, h.leaf, h.bare, h.links, h.single, h.ups, h.rootUp, h.kept, h.holds, h.files, h.nofile, h.apart, h.deep, h.room⟩
theorem TreeV.okBut.fill {T : TreeV} {n : Int} {x : NodeV} (h : T.okBut n) (hx : aget T.all n = some x) (hk : n = 1 ∨ 0 < x.links ∨ 0 < x.holds) (hb : x.kind = 1 → TreeV.named n x = false → x.names = []) : T.ok := by
  refine ⟨h.sorted, h.range, h.root, h.kids, h.once, h.kinds, h.leaf, ?_, h.links, h.single, h.ups, h.rootUp, ?_, h.holds, h.files, h.nofile, h.apart, h.deep, h.room⟩
  · intro y hy _ q1 q2
    by_cases e : y.1 = n
    · have := aget_ofN h.nodup hy
      rw [e, hx] at this
      cases this
      rw [e] at q2
      exact hb q1 q2
    · exact h.bare y hy e q1 q2
  · intro y hy _
    by_cases e : y.1 = n
    · have := aget_ofN h.nodup hy
      rw [e, hx] at this
      cases this
      rw [e]
      exact hk
    · exact h.kept y hy e
theorem TreeV.okBut.links0 {T : TreeV} {z n : Int} {x : NodeV} (h : T.okBut z) (hx : aget T.all n = some x) : 0 ≤ x.links := by
  have := h.links _ (aget_memN hx)
  simp only at this
  omega
theorem TreeV.okBut.drop {T : TreeV} {n : Int} {x : NodeV} (h : T.okBut n) (hx : aget T.all n = some x) (hn : TreeV.named n x = false → x.names = []) : (T.drop n).ok := by
  unfold TreeV.drop
  rw [hx]
  dsimp only
  have h0 := h.links0 hx
  have h1 := h.holds _ (aget_memN hx)
  simp only at h1
  split
  · rename_i hc
    refine h.fill hx ?_ (fun _ => hn)
    rcases hc with hc | hc | hc
    · unfold TreeV.named at hc
      simp only [Bool.or_eq_true, decide_eq_true_eq] at hc
      omega
    · exact .inr (.inl hc)
    · exact .inr (.inr hc)
  · rename_i hc
    simp only [not_or] at hc
    obtain ⟨c1, c2, c3⟩ := hc
    have c1' : TreeV.named n x = false := by simpa using c1
    have hn1 : n ≠ 1 := by
      intro e
      apply c1
      unfold TreeV.named
      simp [e]
    exact h.gone hx hn1 (by omega) (hn c1') _
theorem TreeV.okBut.take {T : TreeV} {d n : Int} {dx x : NodeV} {s : ByteArray} (h : T.ok) (hd : T.dir d = some dx) (hs : aget dx.names s = some n) (hx : aget T.all n = some x) (hn : x.names = []) : (T.take d s n).ok := by
  have hU := (h.loseName hd hs hx).turned ((T.loseName d s n).turns + 1)
  have hne := h.kid_ne hd hs
  have hdg := (TreeV.dir_some hd).1
  have hg : aget (T.loseName d s n).all n = some { x with links := x.links - 1 } := by
    unfold TreeV.loseName
    rw [hdg, hx]
    simp only
    rw [aget_aset, if_pos rfl]
  have e : (T.loseName d s n).turns = T.turns := by
    unfold TreeV.loseName
    rw [hdg, hx]
  unfold TreeV.take
  rw [e] at hU
  exact hU.drop hg (fun _ => hn)
theorem TreeV.okBut.part {T : TreeV} (h : T.ok) (d : Int) (s : ByteArray) : (T.part d s).1.ok := by
  unfold TreeV.part
  cases hd : T.dir d with
  | none => exact h
  | some dx =>
    dsimp only
    cases hs : aget dx.names s with
    | none => exact h
    | some n =>
      dsimp only
      cases hx : aget T.all n with
      | none => exact h
      | some y =>
        dsimp only
        split
        · exact h
        · rename_i hn
          exact h.take hd hs hx (by simpa using hn)
end Go.Proofs.YtoanccechefclaaGreatDoor
namespace Go.Proofs.YtoanccechefclaaGreatDoor
open Go Go.RowKit
theorem TreeV.okBut.same {T : TreeV} {n : Int} {x x' : NodeV} (h : T.ok) (hx : aget T.all n = some x) (h1 : x'.kind = x.kind) (h2 : x'.names = x.names) (h3 : x'.links = x.links) (h4 : x'.up = x.up) (h5 : x'.file = x.file) (h6 : 0 ≤ x'.holds) :
    (T.set n x').okBut n := by
  have hkeys : (T.set n x').all.map Prod.fst = T.all.map Prod.fst := aset_keys hx
  have hnd : ((T.set n x').all.map Prod.fst).Nodup := by rw [hkeys]; exact h.nodup
  have hget : ∀ m, aget (T.set n x').all m = if n = m then some x' else aget T.all m := fun m => aget_aset _ _ _ _
  have was : ∀ y ∈ (T.set n x').all, ∃ y0, (y.1, y0) ∈ T.all ∧ y.2.kind = y0.kind ∧ y.2.file = y0.file ∧ y.2.names = y0.names ∧ y.2.up = y0.up ∧ y.2.links = y0.links ∧ 0 ≤ y.2.holds ∧ (y.1 ≠ n → y.2.holds = y0.holds) := by
    rintro ⟨ky, y⟩ hy
    have hg := aget_ofN hnd hy
    simp only at hg
    rw [hget] at hg
    split at hg
    · rename_i e
      cases hg
      exact ⟨x, by rw [← e]; exact aget_memN hx, h1, h5, h2, h4, h3, h6, fun q => absurd e.symm q⟩
    · exact ⟨y, aget_memN hg, rfl, rfl, rfl, rfl, rfl, h.holds _ (aget_memN hg), fun _ => rfl⟩
  have kindOf : ∀ m, (aget (T.set n x').all m).map NodeV.kind = (aget T.all m).map NodeV.kind := by
    intro m
    rw [hget]
    split
    · rename_i e; rw [← e, hx]; simp [h1]
    · rfl
  have hnm : ∀ m, namesOf (T.set n x').all m = namesOf T.all m := by
    intro m
    have := namesOf_aset (x' := x') m hx
    rw [h2] at this
    have e : (T.set n x').all = aset T.all n x' := rfl
    rw [e]
    omega
  have pos : ∀ y ∈ T.all, y.1 ≠ 0 := fun y hy => by have := (h.range y hy).1; omega
  refine ⟨by rw [hkeys]; exact h.sorted, ?_, ?_, ?_, ?_, ?_, ?_, ?_, ?_, ?_, ?_, ?_, ?_, ?_, ?_, ?_, ?_, ?_, ?_⟩
  · intro y hy
    obtain ⟨y0, w1, -⟩ := was y hy
    exact h.range (y.1, y0) w1
  · obtain ⟨r, hr, hk⟩ := h.root
    rw [hget]
    split
    · rename_i e
      rw [e, hr] at hx
      cases hx
      exact ⟨_, rfl, by rw [h1]; exact hk⟩
    · exact ⟨r, hr, hk⟩
  · intro y hy e he
    obtain ⟨y0, w1, w2, w3, w4, -⟩ := was y hy
    rw [hkeys]
    rw [w4] at he
    exact h.kids _ w1 e he
  · intro y hy
    obtain ⟨y0, w1, w2, w3, w4, -⟩ := was y hy
    rw [w4]
    exact h.once _ w1
  · intro y hy
    obtain ⟨y0, w1, w2, -⟩ := was y hy
    rw [w2]
    exact h.kinds _ w1
  · intro y hy hk
    obtain ⟨y0, w1, w2, w3, w4, -⟩ := was y hy
    rw [w4]
    exact h.leaf _ w1 (by rw [← w2]; exact hk)
  · intro y hy hyn hk hnm
    obtain ⟨y0, w1, w2, w3, w4, w5, w6, -⟩ := was y hy
    rw [w4]
    exact h.bare _ w1 (pos _ w1) (by rw [← w2]; exact hk) (by unfold TreeV.named at hnm ⊢; rw [← w6]; exact hnm)
  · intro y hy
    obtain ⟨y0, w1, w2, w3, w4, w5, w6, -⟩ := was y hy
    rw [w6, hnm]
    exact h.links _ w1
  · intro y hy hk
    obtain ⟨y0, w1, w2, w3, w4, w5, w6, -⟩ := was y hy
    rw [w6]
    exact h.single _ w1 (by rw [← w2]; exact hk)
  · intro y hy e he z hz hk
    obtain ⟨y0, w1, w2, w3, w4, w5, -⟩ := was y hy
    obtain ⟨z0, v1, v2, v3, v4, v5, -⟩ := was _ (aget_memN hz)
    simp only at v1 v2 v5
    rw [v5]
    rw [w4] at he
    exact h.ups _ w1 e he z0 (aget_ofN h.nodup v1) (by rw [← v2]; exact hk)
  · intro y hy
    obtain ⟨y0, w1, w2, w3, w4, w5, -⟩ := was _ (aget_memN hy)
    simp only at w1 w5
    rw [w5]
    exact h.rootUp _ (aget_ofN h.nodup w1)
  · intro y hy hyn
    obtain ⟨y0, w1, w2, w3, w4, w5, w6, w7, w8⟩ := was y hy
    rw [w6, w8 hyn]
    exact h.kept _ w1 (pos _ w1)
  · intro y hy
    obtain ⟨y0, w1, w2, w3, w4, w5, w6, w7, w8⟩ := was y hy
    exact w7
  · intro y hy hk
    obtain ⟨y0, w1, w2, w3, -⟩ := was y hy
    rw [w3]
    exact h.files _ w1 (by rw [← w2]; exact hk)
  · intro y hy hk
    obtain ⟨y0, w1, w2, w3, -⟩ := was y hy
    rw [w3]
    exact h.nofile _ w1 (by rw [← w2]; exact hk)
  · intro y hy z hz hk hl hf
    obtain ⟨y0, w1, w2, w3, -⟩ := was y hy
    obtain ⟨z0, v1, v2, v3, -⟩ := was z hz
    exact h.apart (y.1, y0) w1 (z.1, z0) v1 (by rw [← w2]; exact hk) (by rw [← v2]; exact hl) (by rw [← w3, ← v3]; exact hf)
  · obtain ⟨rank, hrank⟩ := h.deep
    refine ⟨rank, fun y hy e he hdir => ?_⟩
    obtain ⟨y0, w1, w2, w3, w4, -⟩ := was y hy
    rw [isDir_same (kindOf e.2)] at hdir
    rw [w4] at he
    exact hrank _ w1 e he hdir
  · have hr := h.room
    have : (T.set n x').all.length = T.all.length := by
      have := congrArg List.length hkeys
      rwa [List.length_map, List.length_map] at this
    rw [this]
    exact hr
theorem TreeV.okBut.kept_at {T : TreeV} (h : T.ok) {n : Int} {x : NodeV} (hx : aget T.all n = some x) : (n = 1 ∨ 0 < x.links ∨ 0 < x.holds) ∧ (x.kind = 1 → TreeV.named n x = false → x.names = []) := by
  have hm := aget_memN hx
  have hp : n ≠ 0 := by have := (h.range _ hm).1; simp only at this; omega
  exact ⟨h.kept _ hm hp, h.bare _ hm hp⟩
theorem TreeV.okBut.hold {T : TreeV} (h : T.ok) (n : Int) : (T.hold n).1.ok := by
  unfold TreeV.hold
  cases hx : aget T.all n with
  | none => exact h
  | some x =>
    have h0 := h.holds _ (aget_memN hx)
    simp only at h0
    have hs := TreeV.okBut.same (x' := { x with holds := x.holds + 1 }) h hx rfl rfl rfl rfl rfl (by dsimp only; omega)
    have hg : aget (T.set n { x with holds := x.holds + 1 }).all n = some { x with holds := x.holds + 1 } := by
      unfold TreeV.set
      simp only
      rw [aget_aset, if_pos rfl]
    exact hs.fill hg (.inr (.inr (by dsimp only; omega))) (h.kept_at hx).2
theorem TreeV.okBut.setMode {T : TreeV} (h : T.ok) (n mode : Int) : (T.setMode n mode).1.ok := by
  unfold TreeV.setMode
  cases hx : aget T.all n with
  | none => exact h
  | some x =>
    have hs := TreeV.okBut.same (x' := { x with mode := mode }) h hx rfl rfl rfl rfl rfl (h.holds _ (aget_memN hx))
    have hg : aget (T.set n { x with mode := mode }).all n = some { x with mode := mode } := by
      unfold TreeV.set
      simp only
      rw [aget_aset, if_pos rfl]
    exact (hs.fill hg (h.kept_at hx).1 (h.kept_at hx).2).turned _
theorem TreeV.okBut.setOwner {T : TreeV} (h : T.ok) (n uid gid : Int) : (T.setOwner n uid gid).1.ok := by
  unfold TreeV.setOwner
  cases hx : aget T.all n with
  | none => exact h
  | some x =>
    have hs := TreeV.okBut.same (x' := { x with uid := uid, gid := gid }) h hx rfl rfl rfl rfl rfl (h.holds _ (aget_memN hx))
    have hg : aget (T.set n { x with uid := uid, gid := gid }).all n = some { x with uid := uid, gid := gid } := by
      unfold TreeV.set
      simp only
      rw [aget_aset, if_pos rfl]
    exact (hs.fill hg (h.kept_at hx).1 (h.kept_at hx).2).turned _
end Go.Proofs.YtoanccechefclaaGreatDoor
namespace Go.Proofs.YtoanccechefclaaGreatDoor
open Go Go.RowKit
theorem TreeV.okBut.give {T : TreeV} {d n : Int} {dx x : NodeV} {s : ByteArray} (h : T.okBut n) (hd : T.dir d = some dx) (hdn : TreeV.named d dx = true) (hs : aget dx.names s = none) (hx : aget T.all n = some x)
    (hn1 : n ≠ 1) (hne : d ≠ n) (hl : x.kind = 1 → x.links = 0) (hr : x.kind = 1 → ∃ rank : Int → Nat, (∀ y ∈ T.all, ∀ e ∈ y.2.names, T.isDir e.2 = true → rank y.1 < rank e.2) ∧ rank d < rank n) :
    (T.give d s n).ok := by
  obtain ⟨hdg, hdk⟩ := TreeV.dir_some hd
  have hdm := aget_memN hdg
  have hxm := aget_memN hx
  have hx2 : ∀ v, aget (aset T.all d v) n = some x := fun v => by rw [aget_aset, if_neg hne]; exact hx
  have hnames : aset dx.names s n = dx.names ++ [(s, n)] := aset_new _ _ _ (aget_out hs)
  obtain ⟨x', hx'⟩ : ∃ x' : NodeV, x' = { x with links := x.links + 1, up := if x.kind = 1 then d else x.up } := ⟨_, rfl⟩
  obtain ⟨d', hd'⟩ : ∃ d' : NodeV, d' = { dx with names := aset dx.names s n } := ⟨_, rfl⟩
  have hall : (T.give d s n).all = aset (aset T.all d d') n x' := by
    unfold TreeV.give
    rw [hdg, hx, hx', hd']
  have hrest : (T.give d s n).pool = T.pool ∧ (T.give d s n).made = T.made ∧ (T.give d s n).most = T.most := by
    unfold TreeV.give
    rw [hdg, hx]
    exact ⟨rfl, rfl, rfl⟩
  obtain ⟨hp1, hp2, hp3⟩ := hrest
  have hkeys : ((T.give d s n).all.map Prod.fst) = T.all.map Prod.fst := by
    rw [hall, aset_keys (hx2 _), aset_keys hdg]
  have hnd : ((T.give d s n).all.map Prod.fst).Nodup := by rw [hkeys]; exact h.nodup
  have hget : ∀ m, aget (T.give d s n).all m = if n = m then some x' else if d = m then some d' else aget T.all m := by
    intro m
    rw [hall, aget_aset, aget_aset]
  have x1 : x'.kind = x.kind ∧ x'.file = x.file ∧ x'.holds = x.holds ∧ x'.names = x.names ∧ x'.links = x.links + 1 := by rw [hx']; exact ⟨rfl, rfl, rfl, rfl, rfl⟩
  have d1 : d'.kind = dx.kind ∧ d'.file = dx.file ∧ d'.holds = dx.holds ∧ d'.names = dx.names ++ [(s, n)] ∧ d'.links = dx.links ∧ d'.up = dx.up := by rw [hd']; exact ⟨rfl, rfl, rfl, hnames, rfl, rfl⟩
  have was : ∀ y ∈ (T.give d s n).all, ∃ y0, (y.1, y0) ∈ T.all ∧ y.2.kind = y0.kind ∧ y.2.file = y0.file ∧ y.2.holds = y0.holds ∧ (y.2.names = y0.names ∨ (y.1 = d ∧ y0 = dx ∧ y.2.names = dx.names ++ [(s, n)])) ∧ (y.1 ≠ n → y.2.links = y0.links ∧ y.2.up = y0.up) ∧ (y.1 = n → y0 = x ∧ y.2 = x') := by
    rintro ⟨ky, y⟩ hy
    have hg := aget_ofN hnd hy
    simp only at hg
    rw [hget] at hg
    split at hg
    · rename_i e
      cases hg
      exact ⟨x, by rw [← e]; exact hxm, x1.1, x1.2.1, x1.2.2.1, .inl x1.2.2.2.1, fun q => absurd e.symm q, fun _ => ⟨rfl, rfl⟩⟩
    · rename_i e0
      split at hg
      · rename_i e
        cases hg
        exact ⟨dx, by rw [← e]; exact hdm, d1.1, d1.2.1, d1.2.2.1, .inr ⟨e.symm, rfl, d1.2.2.2.1⟩, fun _ => ⟨d1.2.2.2.2.1, d1.2.2.2.2.2⟩, fun q => absurd q.symm e0⟩
      · exact ⟨y, aget_memN hg, rfl, rfl, rfl, .inl rfl, fun _ => ⟨rfl, rfl⟩, fun q => absurd q.symm e0⟩
  have kindOf : ∀ m, (aget (T.give d s n).all m).map NodeV.kind = (aget T.all m).map NodeV.kind := by
    intro m
    rw [hget]
    split
    · rename_i e; rw [← e, hx]; simp [x1.1]
    · split
      · rename_i e; rw [← e, hdg]; simp [d1.1]
      · rfl
  have hnm : ∀ m, namesOf (T.give d s n).all m = namesOf T.all m + (if n = m then 1 else 0) := by
    intro m
    have e1 := namesOf_aset (x' := x') m (hx2 d')
    have e2 := namesOf_aset (x' := d') m hdg
    have e3 := cntN_new n m hs
    rw [hnames] at e3
    rw [x1.2.2.2.1] at e1
    rw [d1.2.2.2.1] at e2
    rw [hall]
    omega
  have hxl : x.links = (namesOf T.all n : Int) := h.links _ hxm
  refine ⟨by rw [hkeys]; exact h.sorted, ?_, ?_, ?_, ?_, ?_, ?_, ?_, ?_, ?_, ?_, ?_, ?_, ?_, ?_, ?_, ?_, ?_, ?_⟩
  · intro y hy
    obtain ⟨y0, w1, -⟩ := was y hy
    rw [hp2]
    exact h.range (y.1, y0) w1
  · obtain ⟨r, hr1, hk⟩ := h.root
    rw [hget, if_neg hn1]
    split
    · exact ⟨_, rfl, by rw [d1.1]; exact hdk⟩
    · exact ⟨r, hr1, hk⟩
  · intro y hy e he
    obtain ⟨y0, w1, w2, w3, w4, w5, -⟩ := was y hy
    rw [hkeys]
    rcases w5 with w5 | ⟨q1, q2, w5⟩
    · rw [w5] at he
      exact h.kids _ w1 e he
    · rw [w5] at he
      rcases List.mem_append.1 he with he | he
      · rw [q2] at w1
        exact h.kids _ w1 e he
      · simp only [List.mem_cons, List.not_mem_nil, or_false] at he
        rw [he]
        exact ⟨hn1, List.mem_map_of_mem (f := Prod.fst) hxm⟩
  · intro y hy
    obtain ⟨y0, w1, w2, w3, w4, w5, -⟩ := was y hy
    rcases w5 with w5 | ⟨q1, q2, w5⟩
    · rw [w5]
      exact h.once _ w1
    · rw [w5, List.map_append, List.nodup_append]
      refine ⟨h.once _ hdm, by simp, ?_⟩
      intro a ha b hb
      simp only [List.map_cons, List.map_nil, List.mem_cons, List.not_mem_nil, or_false] at hb
      intro e
      rw [hb] at e
      exact aget_out hs (e ▸ ha)
  · intro y hy
    obtain ⟨y0, w1, w2, -⟩ := was y hy
    rw [w2]
    exact h.kinds _ w1
  · intro y hy hk
    obtain ⟨y0, w1, w2, w3, w4, w5, -⟩ := was y hy
    rcases w5 with w5 | ⟨q1, q2, w5⟩
    · rw [w5]
      exact h.leaf _ w1 (by rw [← w2]; exact hk)
    · rw [w2, q2] at hk
      exact absurd hdk hk
  · intro y hy _ hk hnm2
    obtain ⟨y0, w1, w2, w3, w4, w5, w6, w7⟩ := was y hy
    by_cases e : y.1 = n
    · exfalso
      obtain ⟨q1, q2⟩ := w7 e
      have := h.links0 hx
      unfold TreeV.named at hnm2
      simp only [Bool.or_eq_false_iff, decide_eq_false_iff_not] at hnm2
      rw [q2, x1.2.2.2.2] at hnm2
      omega
    · have hnm3 : TreeV.named y.1 y0 = false := by unfold TreeV.named at hnm2 ⊢; rw [← (w6 e).1]; exact hnm2
      rcases w5 with w5 | ⟨q1, q2, w5⟩
      · rw [w5]
        exact h.bare _ w1 e (by rw [← w2]; exact hk) hnm3
      · rw [q1, q2, hdn] at hnm3
        cases hnm3
  · intro y hy
    obtain ⟨y0, w1, w2, w3, w4, w5, w6, w7⟩ := was y hy
    rw [hnm]
    have hl0 := h.links _ w1
    simp only at hl0
    by_cases e : y.1 = n
    · obtain ⟨q1, q2⟩ := w7 e
      rw [q2, x1.2.2.2.2, hxl, e, if_pos rfl]
      omega
    · rw [(w6 e).1, hl0, if_neg (fun q => e q.symm)]
      omega
  · intro y hy hk
    obtain ⟨y0, w1, w2, w3, w4, w5, w6, w7⟩ := was y hy
    by_cases e : y.1 = n
    · obtain ⟨q1, q2⟩ := w7 e
      rw [w2, q1] at hk
      rw [q2, x1.2.2.2.2, hl hk]
      omega
    · rw [(w6 e).1]
      exact h.single _ w1 (by rw [← w2]; exact hk)
  · intro y hy e he z hz hk
    obtain ⟨y0, w1, w2, w3, w4, w5, w6, w7⟩ := was y hy
    obtain ⟨z0, v1, v2, v3, v4, v5, v6, v7⟩ := was _ (aget_memN hz)
    simp only at v1 v2 v6 v7
    have hz0 := aget_ofN h.nodup v1
    simp only at hz0
    by_cases en : e.2 = n
    · obtain ⟨q1, q2⟩ := v7 en
      rw [v2, q1] at hk
      have h0 := hl hk
      have hz00 : namesOf T.all n = 0 := by omega
      rw [q2, hx']
      simp only [if_pos hk]
      rcases w5 with w5 | ⟨p1, p2, w5⟩
      · rw [w5] at he
        exact absurd en (namesOf_zero hz00 _ w1 e he)
      · exact p1.symm
    · rw [(v6 en).2]
      have he0 : e ∈ y0.names := by
        rcases w5 with w5 | ⟨p1, p2, w5⟩
        · rw [w5] at he; exact he
        · rw [w5] at he
          rcases List.mem_append.1 he with he | he
          · rw [p2]; exact he
          · simp only [List.mem_cons, List.not_mem_nil, or_false] at he
            rw [he] at en
            exact absurd rfl en
      exact h.ups _ w1 e he0 z0 hz0 (by rw [← v2]; exact hk)
  · intro y hy
    obtain ⟨y0, w1, w2, w3, w4, w5, w6, w7⟩ := was _ (aget_memN hy)
    simp only at w1 w6
    rw [(w6 (fun q => hn1 q.symm)).2]
    exact h.rootUp _ (aget_ofN h.nodup w1)
  · intro y hy _
    obtain ⟨y0, w1, w2, w3, w4, w5, w6, w7⟩ := was y hy
    by_cases e : y.1 = n
    · obtain ⟨q1, q2⟩ := w7 e
      have := h.links0 hx
      rw [q2, x1.2.2.2.2]
      omega
    · have := h.kept _ w1 e
      simp only at this
      rw [(w6 e).1, w4]
      exact this
  · intro y hy
    obtain ⟨y0, w1, w2, w3, w4, -⟩ := was y hy
    rw [w4]
    exact h.holds _ w1
  · intro y hy hk
    obtain ⟨y0, w1, w2, w3, -⟩ := was y hy
    rw [hp1, w3]
    exact h.files _ w1 (by rw [← w2]; exact hk)
  · intro y hy hk
    obtain ⟨y0, w1, w2, w3, -⟩ := was y hy
    rw [w3]
    exact h.nofile _ w1 (by rw [← w2]; exact hk)
  · intro y hy z hz hk hl2 hf
    obtain ⟨y0, w1, w2, w3, -⟩ := was y hy
    obtain ⟨z0, v1, v2, v3, -⟩ := was z hz
    exact h.apart (y.1, y0) w1 (z.1, z0) v1 (by rw [← w2]; exact hk) (by rw [← v2]; exact hl2) (by rw [← w3, ← v3]; exact hf)
  · have hrank2 : ∃ rank : Int → Nat, (∀ y ∈ T.all, ∀ e ∈ y.2.names, T.isDir e.2 = true → rank y.1 < rank e.2) ∧ (x.kind = 1 → rank d < rank n) := by
      by_cases hk : x.kind = 1
      · obtain ⟨rank, q1, q2⟩ := hr hk
        exact ⟨rank, q1, fun _ => q2⟩
      · obtain ⟨rank, q1⟩ := h.deep
        exact ⟨rank, q1, fun q => absurd q hk⟩
    obtain ⟨rank, q1, q2⟩ := hrank2
    refine ⟨rank, fun y hy e he hdir => ?_⟩
    obtain ⟨y0, w1, w2, w3, w4, w5, -⟩ := was y hy
    rw [isDir_same (kindOf e.2)] at hdir
    rcases w5 with w5 | ⟨p1, p2, w5⟩
    · rw [w5] at he
      exact q1 _ w1 e he hdir
    · rw [w5] at he
      rcases List.mem_append.1 he with he | he
      · rw [p2] at w1
        exact q1 _ w1 e he hdir
      · simp only [List.mem_cons, List.not_mem_nil, or_false] at he
        rw [he] at hdir ⊢
        rw [p1]
        refine q2 ?_
        unfold TreeV.isDir at hdir
        obtain ⟨u, hu⟩ := Option.isSome_iff_exists.1 hdir
        obtain ⟨u1, u2⟩ := TreeV.dir_some hu
        simp only at u1
        rw [hx] at u1
        cases u1
        exact u2
  · have hro := h.room
    have : (T.give d s n).all.length = T.all.length := by
      have := congrArg List.length hkeys
      rwa [List.length_map, List.length_map] at this
    rw [this, hp3]
    exact hro
end Go.Proofs.YtoanccechefclaaGreatDoor
namespace Go.Proofs.YtoanccechefclaaGreatDoor
open Go Go.RowKit
theorem aget_snocN {α : Type} (L : List (Int × α)) (k j : Int) (v : α) (h : k ∉ L.map Prod.fst) : aget (L ++ [(k, v)]) j = if k = j then some v else aget L j := by
  rw [← aset_new L k v h, aget_aset]
def TreeV.filesMade (T : TreeV) : Prop := ∀ f, (aget T.pool.files f).isSome → f ≤ T.pool.made
theorem TreeV.okBut.add {T : TreeV} (h : T.ok) (hf : T.filesMade) {kind : Int} (hk : 1 ≤ kind ∧ kind ≤ 3) (mode uid gid : Int) (text : ByteArray) (hr : (T.all.length : Int) < T.most) :
    (T.add kind mode uid gid text).okBut (T.made + 1) := by
  have hfresh : T.made + 1 ∉ T.all.map Prod.fst := by
    intro q
    obtain ⟨y, hy, e⟩ := List.mem_map.1 q
    have := (h.range y hy).2
    omega
  obtain ⟨x, hx⟩ : ∃ x : NodeV, x = ⟨kind, mode, uid, gid, [], 0, 0, 0, text, if kind = 2 then T.pool.made + 1 else 0⟩ := ⟨_, rfl⟩
  have hall : (T.add kind mode uid gid text).all = T.all ++ [(T.made + 1, x)] := by
    unfold TreeV.add
    simp only
    rw [aset_new _ _ _ hfresh, hx]
  have hmade : (T.add kind mode uid gid text).made = T.made + 1 := rfl
  have hmost : (T.add kind mode uid gid text).most = T.most := rfl
  have cases2 : ∀ y ∈ (T.add kind mode uid gid text).all, y ∈ T.all ∨ y = (T.made + 1, x) := by
    intro y hy
    rw [hall] at hy
    rcases List.mem_append.1 hy with hy | hy
    · exact .inl hy
    · exact .inr (by simpa using hy)
  have pos : ∀ y ∈ T.all, y.1 ≠ 0 := fun y hy => by have := (h.range y hy).1; omega
  have below : ∀ y ∈ T.all, y.1 ≠ T.made + 1 := fun y hy => by have := (h.range y hy).2; omega
  have hget : ∀ m, aget (T.add kind mode uid gid text).all m = if T.made + 1 = m then some x else aget T.all m := fun m => by rw [hall, aget_snocN _ _ _ _ hfresh]
  have hnm : ∀ m, namesOf (T.add kind mode uid gid text).all m = namesOf T.all m := by
    intro m
    rw [hall, namesOf_snoc, hx]
    simp [cntN]
  have hmade0 : 1 ≤ T.made := by
    obtain ⟨r, hr1, -⟩ := h.root
    have := h.range _ (aget_memN hr1)
    simp only at this
    omega
  have hold : ∀ f, (aget T.pool.files f).isSome → (aget (T.add kind mode uid gid text).pool.files f).isSome := by
    intro f q
    unfold TreeV.add
    simp only
    split
    · unfold PoolV.file
      simp only
      rw [aget_aset]
      split
      · rfl
      · exact q
    · exact q
  have noname : namesOf T.all (T.made + 1) = 0 := by
    have : ∀ y ∈ T.all, ∀ e ∈ y.2.names, e.2 ≠ T.made + 1 := by
      intro y hy e he q
      obtain ⟨-, k2⟩ := h.kids y hy e he
      rw [q] at k2
      exact hfresh k2
    clear hall cases2 hget hnm hold pos below hfresh hr
    generalize T.all = L at *
    generalize T.made + 1 = m at *
    induction L with
    | nil => rfl
    | cons y r ih =>
      rw [namesOf_cons, ih (fun z hz => this z (List.mem_cons_of_mem _ hz))]
      unfold cntN
      rw [List.filter_eq_nil_iff.2 (fun e he => by simpa using this y (List.mem_cons_self ..) e he)]
      rfl
  refine ⟨?_, ?_, ?_, ?_, ?_, ?_, ?_, ?_, ?_, ?_, ?_, ?_, ?_, ?_, ?_, ?_, ?_, ?_, ?_⟩
  · rw [hall, List.map_append, List.pairwise_append]
    refine ⟨h.sorted, by simp, ?_⟩
    intro a ha b hb
    simp only [List.map_cons, List.map_nil, List.mem_cons, List.not_mem_nil, or_false] at hb
    obtain ⟨y, hy, e⟩ := List.mem_map.1 ha
    have := (h.range y hy).2
    omega
  · intro y hy
    rw [hmade]
    rcases cases2 y hy with hy | rfl
    · have := h.range y hy
      omega
    · simp only
      omega
  · obtain ⟨r, hr1, hk1⟩ := h.root
    rw [hget, if_neg (by omega)]
    exact ⟨r, hr1, hk1⟩
  · intro y hy e he
    rcases cases2 y hy with hy | rfl
    · obtain ⟨k1, k2⟩ := h.kids y hy e he
      rw [hall, List.map_append]
      exact ⟨k1, List.mem_append_left _ k2⟩
    · rw [hx] at he
      cases he
  · intro y hy
    rcases cases2 y hy with hy | rfl
    · exact h.once y hy
    · rw [hx]; simp
  · intro y hy
    rcases cases2 y hy with hy | rfl
    · exact h.kinds y hy
    · rw [hx]; exact hk
  · intro y hy q
    rcases cases2 y hy with hy | rfl
    · exact h.leaf y hy q
    · rw [hx]
  · intro y hy q
    rcases cases2 y hy with hy | rfl
    · exact h.bare y hy (pos y hy)
    · exact absurd rfl q
  · intro y hy
    rw [hnm]
    rcases cases2 y hy with hy | rfl
    · exact h.links y hy
    · rw [noname, hx]; rfl
  · intro y hy q
    rcases cases2 y hy with hy | rfl
    · exact h.single y hy q
    · rw [hx]; simp
  · intro y hy e he z hz hzk
    rcases cases2 y hy with hy | rfl
    · have hne := namesOf_zero noname y hy e he
      rw [hget, if_neg (fun q => hne q.symm)] at hz
      exact h.ups y hy e he z hz hzk
    · rw [hx] at he
      cases he
  · intro y hy
    rw [hget, if_neg (by omega)] at hy
    exact h.rootUp y hy
  · intro y hy q
    rcases cases2 y hy with hy | rfl
    · exact h.kept y hy (pos y hy)
    · exact absurd rfl q
  · intro y hy
    rcases cases2 y hy with hy | rfl
    · exact h.holds y hy
    · rw [hx]; exact Int.le_refl _
  · intro y hy q
    rcases cases2 y hy with hy | rfl
    · exact hold _ (h.files y hy q)
    · rw [hx] at q ⊢
      simp only at q ⊢
      unfold TreeV.add
      simp only [if_pos q]
      unfold PoolV.file
      simp only
      rw [aget_aset, if_pos rfl]
      rfl
  · intro y hy q
    rcases cases2 y hy with hy | rfl
    · exact h.nofile y hy q
    · rw [hx] at q ⊢
      simp only at q ⊢
      rw [if_neg q]
  · intro y hy z hz q1 q2 q3
    rcases cases2 y hy with hy | rfl
    · rcases cases2 z hz with hz | rfl
      · exact h.apart y hy z hz q1 q2 q3
      · exfalso
        have := hf _ (h.files y hy q1)
        rw [hx] at q2 q3
        simp only at q2 q3
        rw [if_pos q2] at q3
        omega
    · rcases cases2 z hz with hz | rfl
      · exfalso
        have := hf _ (h.files z hz q2)
        rw [hx] at q1 q3
        simp only at q1 q3
        rw [if_pos q1] at q3
        omega
      · rfl
  · obtain ⟨rank, hrank⟩ := h.deep
    refine ⟨rank, fun y hy e he hdir => ?_⟩
    rcases cases2 y hy with hy | rfl
    · refine hrank y hy e he ?_
      have hne := namesOf_zero noname y hy e he
      rw [isDir_same (T := T) (by rw [hget, if_neg (fun q => hne q.symm)])] at hdir
      exact hdir
    · rw [hx] at he
      cases he
  · rw [hall, hmost, List.length_append]
    have := h.room
    simp only [List.length_cons, List.length_nil]
    omega
end Go.Proofs.YtoanccechefclaaGreatDoor
namespace Go.Proofs.YtoanccechefclaaGreatDoor
open Go Go.RowKit
theorem free_zero {d : Int} {x : NodeV} {s : ByteArray} (h : TreeV.free d x s = 0) : aget x.names s = none ∧ TreeV.named d x = true := by
  unfold TreeV.free at h
  split at h
  · cases h
  · rename_i q
    split at h
    · rename_i q2
      exact ⟨by simpa using q, q2⟩
    · cases h
theorem TreeV.okBut.join {T : TreeV} (h : T.ok) (right : Bool) (d : Int) (s : ByteArray) (n : Int) : (T.join right d s n).1.ok := by
  unfold TreeV.join
  cases hd : T.dir d with
  | none => exact h
  | some dx =>
    cases hx : aget T.all n with
    | none => exact h
    | some x =>
      dsimp only
      split
      · exact h
      · rename_i c1
        simp only [not_or] at c1
        split
        · exact h
        · rename_i c2
          simp only [ne_eq, Decidable.not_not] at c2
          split
          · exact h
          · obtain ⟨f1, f2⟩ := free_zero c2
            obtain ⟨hdg, hdk⟩ := TreeV.dir_some hd
            have hne : d ≠ n := by
              intro e
              rw [← e, hdg] at hx
              cases hx
              exact c1.1 hdk
            have hn1 : n ≠ 1 := by
              intro e
              obtain ⟨r, hr1, hrk⟩ := h.root
              rw [e, hr1] at hx
              cases hx
              exact c1.1 hrk
            have hb : T.okBut n := ⟨h.sorted, h.range, h.root, h.kids, h.once, h.kinds, h.leaf, fun y hy _ => h.bare y hy (by have := (h.range y hy).1; omega), h.links, h.single, h.ups, h.rootUp, fun y hy _ => h.kept y hy (by have := (h.range y hy).1; omega), h.holds, h.files, h.nofile, h.apart, h.deep, h.room⟩
            exact hb.give hd f2 f1 hx hn1 hne (fun q => absurd q c1.1) (fun q => absurd q c1.1)
theorem TreeV.okBut.make {T : TreeV} (h : T.ok) (hf : T.filesMade) (right : Bool) (d : Int) (s : ByteArray) (kind mode uid gid : Int) (text : ByteArray) : (T.make right d s kind mode uid gid text).1.ok := by
  unfold TreeV.make
  cases hd : T.dir d with
  | none => exact h
  | some dx =>
    dsimp only
    split
    · exact h
    · rename_i c1
      simp only [not_or] at c1
      obtain ⟨-, k1, k2, -⟩ := c1
      split
      · exact h
      · rename_i c2
        simp only [ne_eq, Decidable.not_not] at c2
        split
        · exact h
        · split
          · exact h
          · rename_i c4
            obtain ⟨f1, f2⟩ := free_zero c2
            obtain ⟨hdg, hdk⟩ := TreeV.dir_some hd
            have hfresh : T.made + 1 ∉ T.all.map Prod.fst := by
              intro q
              obtain ⟨y, hy, e⟩ := List.mem_map.1 q
              have := (h.range y hy).2
              omega
            have hA := h.add hf (kind := kind) ⟨by omega, by omega⟩ mode uid gid text (by omega)
            obtain ⟨x, hx⟩ : ∃ x : NodeV, x = ⟨kind, mode, uid, gid, [], 0, 0, 0, text, if kind = 2 then T.pool.made + 1 else 0⟩ := ⟨_, rfl⟩
            have hall : (T.add kind mode uid gid text).all = T.all ++ [(T.made + 1, x)] := by
              unfold TreeV.add
              simp only
              rw [aset_new _ _ _ hfresh, hx]
            have hget : ∀ m, aget (T.add kind mode uid gid text).all m = if T.made + 1 = m then some x else aget T.all m := fun m => by rw [hall, aget_snocN _ _ _ _ hfresh]
            have hdl := (h.range _ (aget_memN hdg))
            simp only at hdl
            have hdne : d ≠ T.made + 1 := by omega
            have hd2 : (T.add kind mode uid gid text).dir d = some dx := TreeV.dir_of (by rw [hget, if_neg (fun q => hdne q.symm)]; exact hdg) hdk
            refine hA.give hd2 f2 f1 (by rw [hget, if_pos rfl]) (by omega) hdne (fun _ => by rw [hx]) (fun _ => ?_)
            obtain ⟨rank, hrank⟩ := hA.deep
            refine ⟨fun m => if m = T.made + 1 then rank d + 1 else rank m, fun y hy e he hdir => ?_, ?_⟩
            · have hy2 : y ∈ T.all := by
                rw [hall] at hy
                rcases List.mem_append.1 hy with q | q
                · exact q
                · simp only [List.mem_cons, List.not_mem_nil, or_false] at q
                  rw [q, hx] at he
                  cases he
              have e1 := (h.range y hy2).2
              obtain ⟨-, e2⟩ := h.kids y hy2 e he
              obtain ⟨z, hz, hze⟩ := List.mem_map.1 e2
              have e3 := (h.range z hz).2
              simp only [if_neg (show ¬ y.1 = T.made + 1 by omega), if_neg (show ¬ e.2 = T.made + 1 by omega)]
              exact hrank y hy e he hdir
            · simp only [if_neg hdne, if_pos True.intro]
              simp
end Go.Proofs.YtoanccechefclaaGreatDoor
namespace Go.Proofs.YtoanccechefclaaGreatDoor
open Go Go.RowKit
theorem namesOf_pos {L : List Nod} {m : Int} (h : 0 < namesOf L m) : ∃ y ∈ L, ∃ e ∈ y.2.names, e.2 = m := by
  induction L with
  | nil => simp [namesOf_nil] at h
  | cons y r ih =>
    rw [namesOf_cons] at h
    by_cases q : 0 < namesOf r m
    · obtain ⟨z, hz, e, he, hm⟩ := ih q
      exact ⟨z, List.mem_cons_of_mem _ hz, e, he, hm⟩
    · have h0 : 0 < cntN m y.2.names := by omega
      unfold cntN at h0
      obtain ⟨e, he⟩ := List.exists_mem_of_length_pos h0
      rw [List.mem_filter] at he
      exact ⟨y, List.mem_cons_self .., e, he.1, by simpa using he.2⟩
theorem TreeV.okBut.up_edge {T : TreeV} (h : T.ok) {n : Int} {x : NodeV} (hd : T.dir n = some x) (hn : TreeV.named n x = true) (h1 : n ≠ 1) :
    T.upOf n = x.up ∧ ∃ y, T.dir x.up = some y ∧ ∃ e ∈ y.names, e.2 = n := by
  obtain ⟨hg, hk⟩ := TreeV.dir_some hd
  have hl := h.links _ (aget_memN hg)
  simp only at hl
  have hpos : 0 < namesOf T.all n := by
    unfold TreeV.named at hn
    simp only [Bool.or_eq_true, decide_eq_true_eq] at hn
    rcases hn with q | q
    · exact absurd q h1
    · omega
  obtain ⟨y, hy, e, he, hm⟩ := namesOf_pos hpos
  have hu := h.ups y hy e he x (by rw [hm]; exact hg) hk
  have hyk : y.2.kind = 1 := by
    cases Classical.em (y.2.kind = 1) with
    | inl q => exact q
    | inr q =>
      have := h.leaf y hy q
      rw [this] at he
      cases he
  refine ⟨?_, y.2, ?_, e, he, hm⟩
  · unfold TreeV.upOf
    rw [hd]
    simp only
    rw [if_pos hn]
  · rw [hu]
    exact TreeV.dir_of (aget_ofN h.nodup hy) hyk
def lower (T : TreeV) (rank : Int → Nat) (n : Int) : Nat := (T.all.filter fun y => decide (rank y.1 < rank n)).length
theorem lower_lt {T : TreeV} {rank : Int → Nat} {m n : Int} {y : NodeV} (hm : aget T.all m = some y) (h : rank m < rank n) : lower T rank m < lower T rank n := by
  unfold lower
  have hsub : (T.all.filter fun y => decide (rank y.1 < rank m)).length = ((T.all.filter fun y => decide (rank y.1 < rank n)).filter fun y => decide (rank y.1 < rank m)).length := by
    rw [List.filter_filter]
    congr 1
    apply List.filter_congr
    intro z _
    by_cases q : rank z.1 < rank m
    · simp [q, show rank z.1 < rank n by omega]
    · simp [q]
  rw [hsub]
  exact List.length_filter_lt_length_iff_exists.2 ⟨(m, y), List.mem_filter.2 ⟨aget_memN hm, by simpa using h⟩, by simp⟩
theorem lower_all {T : TreeV} {rank : Int → Nat} {n : Int} {x : NodeV} (hn : aget T.all n = some x) : lower T rank n < T.all.length := by
  unfold lower
  exact List.length_filter_lt_length_iff_exists.2 ⟨(n, x), aget_memN hn, by simp⟩
theorem TreeV.okBut.withinF_more {T : TreeV} (h : T.ok) {rank : Int → Nat} (hr : ∀ x ∈ T.all, ∀ e ∈ x.2.names, T.isDir e.2 = true → rank x.1 < rank e.2) (d : Int) :
    ∀ (k j : Nat) (n : Int), lower T rank n < k → lower T rank n < j → T.withinF k n d = T.withinF j n d
  | 0, _, _, h1, _ => by omega
  | _ + 1, 0, _, _, h2 => by omega
  | k + 1, j + 1, n, h1, h2 => by
    simp only [TreeV.withinF]
    split
    · rfl
    · rename_i hc
      simp only [not_or] at hc
      split
      · rfl
      · obtain ⟨c1, c2⟩ := hc
        cases hd : T.dir n with
        | none => rw [hd] at c1; exact absurd rfl c1
        | some x =>
          obtain ⟨hg, hk⟩ := TreeV.dir_some hd
          have hn : TreeV.named n x = true := by
            cases hnm : TreeV.named n x with
            | true => rfl
            | false =>
              exfalso
              apply c2
              unfold TreeV.upOf
              rw [hd]
              simp only
              rw [hnm]
              rfl
          have hn1 : n ≠ 1 := by
            intro e
            apply c2
            unfold TreeV.upOf
            rw [hd]
            simp only
            rw [if_pos hn, e]
            exact h.rootUp _ (e ▸ hg)
          obtain ⟨hu, y, hy, e, he, hem⟩ := h.up_edge hd hn hn1
          have hyg := (TreeV.dir_some hy).1
          have hlt : rank x.up < rank n := by
            have := hr _ (aget_memN hyg) e he (by rw [hem]; unfold TreeV.isDir; rw [hd]; rfl)
            rw [hem] at this
            exact this
          rw [hu]
          have := lower_lt hyg hlt
          exact TreeV.okBut.withinF_more h hr d k j x.up (by omega) (by omega)
inductive Sub (T : TreeV) (n : Int) : Int → Prop
  | refl : Sub T n n
  | step {m : Int} {y : NodeV} {e : ByteArray × Int} : Sub T n m → aget T.all m = some y → e ∈ y.names → Sub T n e.2
theorem TreeV.okBut.edge_up {T : TreeV} (h : T.ok) {m : Int} {y : NodeV} {e : ByteArray × Int} (hm : aget T.all m = some y) (he : e ∈ y.names) (hd : T.isDir e.2 = true) : T.upOf e.2 = m ∧ e.2 ≠ m := by
  obtain ⟨x, hx⟩ := Option.isSome_iff_exists.1 (show (T.dir e.2).isSome = true from hd)
  obtain ⟨hg, hk⟩ := TreeV.dir_some hx
  have hu := h.ups _ (aget_memN hm) e he x hg hk
  have hz : namesOf T.all e.2 ≠ 0 := fun q => namesOf_zero q _ (aget_memN hm) e he rfl
  have hl := h.links _ (aget_memN hg)
  simp only at hl
  have hn : TreeV.named e.2 x = true := by
    unfold TreeV.named
    have : 0 < x.links := by omega
    simp [this]
  refine ⟨?_, ?_⟩
  · unfold TreeV.upOf
    rw [hx]
    simp only
    rw [if_pos hn]
    exact hu
  · intro q
    obtain ⟨rank, hr⟩ := h.deep
    have := hr _ (aget_memN hm) e he hd
    simp only at this
    rw [q] at this
    omega
theorem TreeV.okBut.sub_within {T : TreeV} (h : T.ok) {rank : Int → Nat} (hr : ∀ x ∈ T.all, ∀ e ∈ x.2.names, T.isDir e.2 = true → rank x.1 < rank e.2) {n m : Int} (hs : Sub T n m) (hd : T.isDir m = true) :
    m = n ∨ ∀ k, lower T rank m < k → T.withinF k m n = true := by
  induction hs with
  | refl => exact .inl rfl
  | step hs hm he ih =>
    rename_i m y e
    obtain ⟨u1, u2⟩ := h.edge_up hm he hd
    have hlt := hr _ (aget_memN hm) e he hd
    simp only at hlt
    have hlow := lower_lt (T := T) hm hlt
    refine .inr fun k hk => ?_
    obtain ⟨k, rfl⟩ : ∃ j, k = j + 1 := ⟨k - 1, by omega⟩
    simp only [TreeV.withinF]
    rw [if_neg (by
      rw [u1]
      simp only [not_or]
      refine ⟨fun q => ?_, fun q => u2 q.symm⟩
      have : (T.dir e.2).isSome = true := hd
      rw [Option.isNone_iff_eq_none.1 q] at this
      cases this), u1]
    split
    · rfl
    · rename_i hne
      have hyd : T.isDir m = true := by
        have hk1 : y.kind = 1 := by
          cases Classical.em (y.kind = 1) with
          | inl q => exact q
          | inr q =>
            have := h.leaf _ (aget_memN hm) q
            simp only at this
            rw [this] at he
            cases he
        unfold TreeV.isDir
        rw [TreeV.dir_of hm hk1]
        rfl
      rcases ih hyd with q | q
      · exact absurd q hne
      · exact q k (by omega)
end Go.Proofs.YtoanccechefclaaGreatDoor
namespace Go.Proofs.YtoanccechefclaaGreatDoor
open Go Go.RowKit
def Fewer (T U : TreeV) : Prop := ∀ m y, aget U.all m = some y → ∃ y0, aget T.all m = some y0 ∧ y.kind = y0.kind ∧ ∀ e ∈ y.names, e ∈ y0.names
theorem Sub.fewer {T U : TreeV} (hf : Fewer T U) {n m : Int} (h : Sub U n m) : Sub T n m := by
  induction h with
  | refl => exact .refl
  | step hs hm he ih =>
    obtain ⟨y0, h1, -, h2⟩ := hf _ _ hm
    exact .step ih h1 (h2 _ he)
theorem rank_moved {U : TreeV} {rank : Int → Nat} (hr : ∀ x ∈ U.all, ∀ e ∈ x.2.names, U.isDir e.2 = true → rank x.1 < rank e.2) (hnd : (U.all.map Prod.fst).Nodup) {n d : Int} (hs : ¬ Sub U n d) :
    ∃ rank' : Int → Nat, (∀ x ∈ U.all, ∀ e ∈ x.2.names, U.isDir e.2 = true → rank' x.1 < rank' e.2) ∧ rank' d < rank' n := by
  classical
  refine ⟨fun m => if Sub U n m then rank m + rank d + 1 else rank m, fun x hx e he hd => ?_, ?_⟩
  · have h1 := hr x hx e he hd
    simp only
    by_cases q : Sub U n x.1
    · rw [if_pos q, if_pos (Sub.step q (aget_ofN hnd hx) he)]
      omega
    · rw [if_neg q]
      split <;> omega
  · simp only
    rw [if_neg hs, if_pos Sub.refl]
    omega
theorem loseName_fewer {T : TreeV} {d n : Int} {s : ByteArray} : Fewer T (T.loseName d s n) := by
  intro m y hy
  unfold TreeV.loseName at hy
  split at hy
  · rename_i dx x hd hx
    simp only at hy
    rw [aget_aset, aget_aset] at hy
    split at hy
    · rename_i e
      cases hy
      exact ⟨x, by rw [← e]; exact hx, rfl, fun e he => he⟩
    · split at hy
      · rename_i e
        cases hy
        exact ⟨dx, by rw [← e]; exact hd, rfl, fun e he => adel_subN e he⟩
      · exact ⟨y, hy, rfl, fun e he => he⟩
  · exact ⟨y, hy, rfl, fun e he => he⟩
theorem aget_adel_none {l : List (ByteArray × Int)} {s z : ByteArray} (h : aget l z = none) : aget (adel l s) z = none := by
  cases hg : aget (adel l s) z with
  | none => rfl
  | some v => exact absurd (List.mem_map_of_mem (f := Prod.fst) (adel_subN _ (aget_memS hg))) (aget_out h)
theorem TreeV.okBut.moved {T : TreeV} (h : T.ok) {d e n : Int} {dx ex x : NodeV} {s z : ByteArray} (hd : T.dir d = some dx) (hs : aget dx.names s = some n) (hx : aget T.all n = some x)
    (he : T.dir e = some ex) (hen : TreeV.named e ex = true) (hz : aget ex.names z = none) (hne : e ≠ n) (hsub : x.kind = 1 → ¬ Sub T n e) : ((T.loseName d s n).give e z n).ok := by
  have hU := h.loseName hd hs hx
  obtain ⟨hdg, hdk⟩ := TreeV.dir_some hd
  obtain ⟨heg, hek⟩ := TreeV.dir_some he
  have hget : ∀ m, aget (T.loseName d s n).all m = if n = m then some { x with links := x.links - 1 } else if d = m then some { dx with names := adel dx.names s } else aget T.all m := by
    intro m
    unfold TreeV.loseName
    rw [hdg, hx]
    simp only
    rw [aget_aset, aget_aset]
  have hn1 := (h.kids _ (aget_memN hdg) _ (aget_memS hs)).1
  simp only at hn1
  have hnx : aget (T.loseName d s n).all n = some { x with links := x.links - 1 } := by rw [hget, if_pos rfl]
  have hl0 := h.links _ (aget_memN hx)
  simp only at hl0
  have hpos : namesOf T.all n ≠ 0 := fun q => namesOf_zero q _ (aget_memN hdg) _ (aget_memS hs) rfl
  obtain ⟨ex', h1, h2, h3⟩ : ∃ ex', aget (T.loseName d s n).all e = some ex' ∧ ex'.kind = 1 ∧ (TreeV.named e ex' = true ∧ aget ex'.names z = none) := by
    by_cases q : d = e
    · rw [q, heg] at hdg
      cases hdg
      refine ⟨{ dx with names := adel dx.names s }, by rw [hget, if_neg (fun k => hne k.symm), if_pos q], hek, ?_, aget_adel_none hz⟩
      unfold TreeV.named at hen ⊢
      exact hen
    · exact ⟨ex, by rw [hget, if_neg (fun k => hne k.symm), if_neg q]; exact heg, hek, hen, hz⟩
  refine hU.give (TreeV.dir_of h1 h2) h3.1 h3.2 hnx hn1 hne (fun hk => ?_) (fun hk => ?_)
  · have := h.single _ (aget_memN hx) hk
    simp only at this ⊢
    omega
  · obtain ⟨rank, hr⟩ := hU.deep
    exact rank_moved hr hU.nodup (fun q => hsub hk (q.fewer loseName_fewer))
end Go.Proofs.YtoanccechefclaaGreatDoor
namespace Go.Proofs.YtoanccechefclaaGreatDoor
open Go Go.RowKit
theorem filesMade_of {T : TreeV} {b : Int} (h : T.pool.ok b) : T.filesMade := by
  intro f hf
  obtain ⟨F, hF⟩ := Option.isSome_iff_exists.1 hf
  exact (h.keys _ (aget_memN hF)).2
theorem add_pool {T : TreeV} {b : Int} (h : T.pool.ok b) (kind mode uid gid : Int) (text : ByteArray) : (T.add kind mode uid gid text).pool.ok b := by
  unfold TreeV.add
  simp only
  split
  · exact h.file
  · exact h
theorem drop_pool {T : TreeV} {b : Int} (h : T.pool.ok b) (n : Int) : (T.drop n).pool.ok b := by
  unfold TreeV.drop
  cases aget T.all n with
  | none => exact h
  | some x =>
    dsimp only
    split
    · exact h
    · dsimp only
      split
      · exact h.drop _
      · exact h
theorem give_pool {T : TreeV} (d n : Int) (s : ByteArray) : (T.give d s n).pool = T.pool := by
  unfold TreeV.give
  split <;> rfl
theorem lose_pool {T : TreeV} (d n : Int) (s : ByteArray) : (T.loseName d s n).pool = T.pool := by
  unfold TreeV.loseName
  split <;> rfl
theorem take_pool {T : TreeV} {b : Int} (h : T.pool.ok b) (d n : Int) (s : ByteArray) : (T.take d s n).pool.ok b := by
  unfold TreeV.take
  refine drop_pool ?_ _
  simp only
  rw [lose_pool]
  exact h
theorem cut_pool {T : TreeV} {b : Int} (h : T.pool.ok b) (n s : Int) : (T.cut n s).1.pool.ok b := h.cut _ _
end Go.Proofs.YtoanccechefclaaGreatDoor
namespace Go.Proofs.YtoanccechefclaaGreatDoor
open Go Go.RowKit
theorem TreeV.okBut.kid {T : TreeV} (h : T.ok) {d n : Int} {dx : NodeV} {s : ByteArray} (hd : T.dir d = some dx) (hs : aget dx.names s = some n) : ∃ x, aget T.all n = some x := by
  obtain ⟨hdg, -⟩ := TreeV.dir_some hd
  obtain ⟨-, k⟩ := h.kids _ (aget_memN hdg) _ (aget_memS hs)
  cases hx : aget T.all n with
  | some x => exact ⟨x, rfl⟩
  | none => exact absurd k (aget_out hx)
theorem TreeV.okBut.not_below {T : TreeV} (h : T.ok) {e n : Int} {ex x : NodeV} (he : T.dir e = some ex) (hx : aget T.all n = some x) (hc : ¬ (T.isDir n = true ∧ (n = e ∨ T.within e n = true))) : e ≠ n ∧ (x.kind = 1 → ¬ Sub T n e) := by
  have hed : T.isDir e = true := by unfold TreeV.isDir; rw [he]; rfl
  have hne : e ≠ n := fun q => hc ⟨by rw [← q]; exact hed, .inl q.symm⟩
  refine ⟨hne, fun hk hs => ?_⟩
  have hnd : T.isDir n = true := by unfold TreeV.isDir; rw [TreeV.dir_of hx hk]; rfl
  obtain ⟨rank, hr⟩ := h.deep
  rcases h.sub_within hr hs hed with q | q
  · exact hne q
  · refine hc ⟨hnd, .inr ?_⟩
    unfold TreeV.within
    rw [TreeV.dir_of hx hk]
    simp only [Option.isNone_some, Bool.false_eq_true, if_false]
    exact q _ (lower_all (TreeV.dir_some he).1)
end Go.Proofs.YtoanccechefclaaGreatDoor
namespace Go.Proofs.YtoanccechefclaaGreatDoor
open Go Go.RowKit
theorem take_get {T : TreeV} (hnd : (T.all.map Prod.fst).Nodup) {e m : Int} {ex y : NodeV} {z : ByteArray} (he : aget T.all e = some ex) (hy : aget T.all m = some y) {k : Int} (hk : m ≠ k) :
    aget (T.take e z m).all k = if e = k then some { ex with names := adel ex.names z } else aget T.all k := by
  have h1 : aget (T.loseName e z m).all k = if e = k then some { ex with names := adel ex.names z } else aget T.all k := by
    unfold TreeV.loseName
    rw [he, hy]
    simp only
    rw [aget_aset, if_neg hk, aget_aset]
  rw [← h1]
  unfold TreeV.take TreeV.drop
  dsimp only
  cases aget (T.loseName e z m).all m with
  | none => rfl
  | some x =>
    dsimp only
    split
    · rfl
    · exact aget_adel_ne hk
theorem take_fewer {T : TreeV} (hnd : (T.all.map Prod.fst).Nodup) {e m : Int} {z : ByteArray} : Fewer T (T.take e z m) := by
  intro k y hy
  have key : ∃ y1, aget (T.loseName e z m).all k = some y1 ∧ y = y1 := by
    unfold TreeV.take TreeV.drop at hy
    dsimp only at hy
    cases hx : aget (T.loseName e z m).all m with
    | none => rw [hx] at hy; exact ⟨y, hy, rfl⟩
    | some x =>
      rw [hx] at hy
      dsimp only at hy
      split at hy
      · exact ⟨y, hy, rfl⟩
      · dsimp only at hy
        by_cases q : m = k
        · subst q
          have hn2 : ((T.loseName e z m).all.map Prod.fst).Nodup := by
            unfold TreeV.loseName
            split
            · rename_i dx x' h1 h2
              simp only
              rw [aset_keys (u := if e = m then { dx with names := adel dx.names z } else x') (by
                rw [aget_aset]
                split
                · rfl
                · exact h2), aset_keys h1]
              exact hnd
            · exact hnd
          rw [aget_adel_eq hn2] at hy
          cases hy
        · rw [aget_adel_ne q] at hy
          exact ⟨y, hy, rfl⟩
  obtain ⟨y1, h1, rfl⟩ := key
  exact loseName_fewer k y h1
theorem aget_adel_self {l : List (ByteArray × Int)} {s : ByteArray} (hn : (l.map Prod.fst).Nodup) : aget (adel l s) s = none := aget_adel_eq hn
set_option maxHeartbeats 400000 in
theorem TreeV.okBut.move {T : TreeV} (h : T.ok) (right : Bool) (d : Int) (s : ByteArray) (e : Int) (z : ByteArray) : (T.move right d s e z).1.ok := by
  unfold TreeV.move
  cases hd : T.dir d with
  | none => exact h
  | some dx =>
    cases he : T.dir e with
    | none => exact h
    | some ex =>
      dsimp only
      split
      · exact h
      cases hs : aget dx.names s with
      | none => exact h
      | some n =>
        dsimp only
        split
        · exact h
        rename_i hen
        split
        · exact h
        rename_i hc
        obtain ⟨x, hx⟩ := h.kid hd hs
        obtain ⟨hne, hsub⟩ := h.not_below he hx hc
        have hen' : TreeV.named e ex = true := by simpa using hen
        cases hz : aget ex.names z with
        | none =>
          dsimp only
          split
          · exact h
          · exact h.moved hd hs hx he hen' hz hne hsub
        | some m =>
          dsimp only
          split
          · exact h
          rename_i hmn
          split
          · exact h
          split
          · exact h
          split
          · exact h
          rename_i c1 c2 c3
          obtain ⟨y, hy⟩ := h.kid he hz
          obtain ⟨hdg, hdk⟩ := TreeV.dir_some hd
          obtain ⟨heg, hek⟩ := TreeV.dir_some he
          have hyn : y.names = [] := by
            by_cases k : y.kind = 1
            · have hdm : T.isDir m = true := by unfold TreeV.isDir; rw [TreeV.dir_of hy k]; rfl
              rw [hy] at c3
              simp only [hdm, true_and, Option.any_some, Bool.not_eq_true, Bool.not_eq_false', List.isEmpty_iff] at c3
              exact c3
            · exact h.leaf _ (aget_memN hy) k
          have hU := h.take he hz hy hyn
          have hem := h.kid_ne he hz
          have hdm : m ≠ d := by
            intro q
            rw [q, hdg] at hy
            cases hy
            rw [hyn] at hs
            cases hs
          have hone := h.once _ (aget_memN heg)
          have hget := fun k => take_get (k := k) (z := z) h.nodup heg hy
          have e1 := hget e (fun q => hem q.symm)
          rw [if_pos rfl] at e1
          have e2 := hget n hmn
          rw [if_neg hne, hx] at e2
          have he' : (T.take e z m).dir e = some { ex with names := adel ex.names z } := TreeV.dir_of e1 hek
          have hz' : aget (adel ex.names z) z = none := aget_adel_self hone
          have hed : (TreeV.named e { ex with names := adel ex.names z }) = true := by
            unfold TreeV.named at hen' ⊢
            exact hen'
          have hsub' : x.kind = 1 → ¬ Sub (T.take e z m) n e := fun k q => hsub k (q.fewer (take_fewer h.nodup))
          by_cases q : d = e
          · subst q
            rw [heg] at hdg
            cases hdg
            have hsz : z ≠ s := by
              intro k
              rw [k] at hz
              rw [hz] at hs
              exact hmn (Option.some.inj hs)
            exact hU.moved he' (by rw [aget_adel_ne hsz]; exact hs) e2 he' hed hz' hne hsub'
          · have e3 := hget d hdm
            rw [if_neg (fun k => q k.symm), hdg] at e3
            exact hU.moved (TreeV.dir_of e3 hdk) hs e2 he' hed hz' hne hsub'
theorem TreeV.okBut.filesKept {T : TreeV} (h : T.ok) {V : PoolV} (hf : V.files.map Prod.fst = T.pool.files.map Prod.fst) : TreeV.ok { T with pool := V } := by
  refine ⟨h.sorted, h.range, h.root, h.kids, h.once, h.kinds, h.leaf, h.bare, h.links, h.single, h.ups, h.rootUp, h.kept, h.holds, ?_, h.nofile, h.apart, h.deep, h.room⟩
  intro x hx hk
  have := h.files x hx hk
  cases hg : aget V.files x.2.file with
  | some F => rfl
  | none =>
    exfalso
    have h1 := aget_out hg
    obtain ⟨F, hF⟩ := Option.isSome_iff_exists.1 this
    exact h1 (by rw [hf]; exact List.mem_map_of_mem (f := Prod.fst) (aget_memN hF))
theorem cut_files (V : PoolV) (f s : Int) : (V.cut f s).1.files.map Prod.fst = V.files.map Prod.fst := by
  unfold PoolV.cut
  cases hg : aget V.files f with
  | none => rfl
  | some F =>
    dsimp only
    repeat (split; · rfl)
    exact aset_keys hg
structure TreeV.good (T : TreeV) (b : Int) : Prop where
  ok : T.ok
  pool : T.pool.ok b
theorem TreeV.new_good {most blocks : Int} (h0 : 1 ≤ most) (h1 : most ≤ 64) (b0 : 0 ≤ blocks) (b1 : blocks ≤ 256) : (TreeV.new most blocks).good blocks := ⟨TreeV.new_ok h0 h1, PoolV.new_ok b0 b1⟩
namespace TreeV.good
variable {T : TreeV} {b : Int} (h : T.good b)
include h
theorem make (right : Bool) (d : Int) (s : ByteArray) (kind mode uid gid : Int) (text : ByteArray) : (T.make right d s kind mode uid gid text).1.good b := by
  refine ⟨h.ok.make (filesMade_of h.pool) right d s kind mode uid gid text, ?_⟩
  unfold TreeV.make
  cases T.dir d with
  | none => exact h.pool
  | some x =>
    dsimp only
    repeat (split; · exact h.pool)
    dsimp only
    rw [give_pool]
    exact add_pool h.pool ..
theorem join (right : Bool) (d : Int) (s : ByteArray) (n : Int) : (T.join right d s n).1.good b := by
  refine ⟨h.ok.join right d s n, ?_⟩
  unfold TreeV.join
  cases T.dir d with
  | none => exact h.pool
  | some dx =>
    cases aget T.all n with
    | none => exact h.pool
    | some x =>
      dsimp only
      repeat (split; · exact h.pool)
      dsimp only
      rw [give_pool]
      exact h.pool
theorem part (d : Int) (s : ByteArray) : (T.part d s).1.good b := by
  refine ⟨h.ok.part d s, ?_⟩
  unfold TreeV.part
  cases T.dir d with
  | none => exact h.pool
  | some dx =>
    dsimp only
    cases aget dx.names s with
    | none => exact h.pool
    | some n =>
      dsimp only
      cases aget T.all n with
      | none => exact h.pool
      | some y =>
        dsimp only
        split
        · exact h.pool
        · exact take_pool h.pool ..
theorem move (right : Bool) (d : Int) (s : ByteArray) (e : Int) (z : ByteArray) : (T.move right d s e z).1.good b := by
  refine ⟨h.ok.move right d s e z, ?_⟩
  unfold TreeV.move
  cases T.dir d with
  | none => exact h.pool
  | some dx =>
    cases T.dir e with
    | none => exact h.pool
    | some ex =>
      dsimp only
      split
      · exact h.pool
      cases aget dx.names s with
      | none => exact h.pool
      | some n =>
        dsimp only
        repeat (split; · exact h.pool)
        cases aget ex.names z with
        | none =>
          dsimp only
          split
          · exact h.pool
          · dsimp only
            rw [give_pool, lose_pool]
            exact h.pool
        | some m =>
          dsimp only
          repeat (split; · exact h.pool)
          dsimp only
          rw [give_pool, lose_pool]
          exact take_pool h.pool ..
theorem hold (n : Int) : (T.hold n).1.good b := by
  refine ⟨h.ok.hold n, ?_⟩
  unfold TreeV.hold
  cases aget T.all n <;> exact h.pool
theorem setMode (n m : Int) : (T.setMode n m).1.good b := by
  refine ⟨h.ok.setMode n m, ?_⟩
  unfold TreeV.setMode
  cases aget T.all n <;> exact h.pool
theorem setOwner (n u g : Int) : (T.setOwner n u g).1.good b := by
  refine ⟨h.ok.setOwner n u g, ?_⟩
  unfold TreeV.setOwner
  cases aget T.all n <;> exact h.pool
theorem cut (n s : Int) : (T.cut n s).1.good b := ⟨h.ok.filesKept (cut_files ..), cut_pool h.pool n s⟩
end TreeV.good
end Go.Proofs.YtoanccechefclaaGreatDoor
namespace Go.Proofs.YtoanccechefclaaGreatDoor
open Go Go.RowKit
structure TreeV.small (T : TreeV) (k : Int) : Prop where
  made : 0 ≤ T.made ∧ T.made ≤ k
  turns : 0 ≤ T.turns ∧ T.turns ≤ k
  nodes : ∀ x ∈ T.all, x.2.holds ≤ k ∧ x.2.links ≤ k ∧ (x.2.names.length : Int) ≤ k
  pool : T.pool.made ≤ k
theorem mem_aset_any {κ α : Type} [DecidableEq κ] {L : List (κ × α)} {k : κ} {v : α} {x : κ × α} (h : x ∈ aset L k v) : x = (k, v) ∨ x ∈ L := by
  induction L with
  | nil =>
    simp only [aset, List.mem_cons, List.not_mem_nil, or_false] at h
    exact .inl h
  | cons y r ih =>
    obtain ⟨a, u⟩ := y
    simp only [aset] at h
    split at h
    · rename_i e
      rcases List.mem_cons.1 h with q | q
      · exact .inl (by rw [q, e])
      · exact .inr (List.mem_cons_of_mem _ q)
    · rcases List.mem_cons.1 h with q | q
      · exact .inr (by rw [q]; exact List.mem_cons_self ..)
      · rcases ih q with z | z
        · exact .inl z
        · exact .inr (List.mem_cons_of_mem _ z)
theorem mem_adel_any {κ α : Type} [DecidableEq κ] {L : List (κ × α)} {k : κ} {x : κ × α} (h : x ∈ adel L k) : x ∈ L := by
  induction L with
  | nil => exact h
  | cons y r ih =>
    obtain ⟨a, u⟩ := y
    simp only [adel] at h
    split at h
    · exact List.mem_cons_of_mem _ h
    · rcases List.mem_cons.1 h with q | q
      · rw [q]; exact List.mem_cons_self ..
      · exact List.mem_cons_of_mem _ (ih q)
theorem aset_len {κ α : Type} [DecidableEq κ] (L : List (κ × α)) (k : κ) (v : α) : (aset L k v).length ≤ L.length + 1 := by
  induction L with
  | nil => exact Nat.le_refl _
  | cons y r ih =>
    obtain ⟨a, u⟩ := y
    simp only [aset]
    split
    · simp only [List.length_cons]; omega
    · simp only [List.length_cons]; omega
theorem adel_len {κ α : Type} [DecidableEq κ] (L : List (κ × α)) (k : κ) : (adel L k).length ≤ L.length := by
  induction L with
  | nil => exact Nat.le_refl _
  | cons y r ih =>
    obtain ⟨a, u⟩ := y
    simp only [adel]
    split
    · simp only [List.length_cons]; omega
    · simp only [List.length_cons]; omega
namespace TreeV.small
variable {T : TreeV} {k : Int}
theorem mono (h : T.small k) {j : Int} (hj : k ≤ j) : T.small j :=
  ⟨⟨h.made.1, by have := h.made.2; omega⟩, ⟨h.turns.1, by have := h.turns.2; omega⟩, fun x hx => by have := h.nodes x hx; omega, by have := h.pool; omega⟩
theorem node (h : T.small k) {n : Int} {x : NodeV} (hx : aget T.all n = some x) : x.holds ≤ k ∧ x.links ≤ k ∧ (x.names.length : Int) ≤ k := h.nodes _ (aget_memN hx)
theorem set (h : T.small k) (n : Int) {x : NodeV} (hx : x.holds ≤ k ∧ x.links ≤ k ∧ (x.names.length : Int) ≤ k) : (T.set n x).small k :=
  ⟨h.made, h.turns, fun y hy => by rcases mem_aset_any hy with q | q; (· rw [q]; exact hx); exact h.nodes y q, h.pool⟩
theorem turned (h : T.small k) (h1 : k + 1 ≤ k + 1) : TreeV.small { T with turns := T.turns + 1 } (k + 1) :=
  ⟨⟨h.made.1, by have := h.made.2; show T.made ≤ k + 1; omega⟩, ⟨by have := h.turns.1; show 0 ≤ T.turns + 1; omega, by have := h.turns.2; show T.turns + 1 ≤ k + 1; omega⟩, fun x hx => by have := h.nodes x hx; omega, by have := h.pool; show T.pool.made ≤ k + 1; omega⟩
theorem pooled (h : T.small k) {V : PoolV} (hV : V.made ≤ k) : TreeV.small { T with pool := V } k := ⟨h.made, h.turns, h.nodes, hV⟩
theorem give (h : T.small k) (d n : Int) (s : ByteArray) : (T.give d s n).small (k + 1) := by
  unfold TreeV.give
  split
  · rename_i dx x h1 h2
    refine ⟨⟨h.made.1, by have := h.made.2; show T.made ≤ k + 1; omega⟩, ⟨by have := h.turns.1; show 0 ≤ T.turns + 1; omega, by have := h.turns.2; show T.turns + 1 ≤ k + 1; omega⟩, fun y hy => ?_, by have := h.pool; show T.pool.made ≤ k + 1; omega⟩
    have n1 := h.node h1
    have n2 := h.node h2
    rcases mem_aset_any hy with q | q
    · rw [q]; show x.holds ≤ k + 1 ∧ x.links + 1 ≤ k + 1 ∧ (x.names.length : Int) ≤ k + 1; omega
    · rcases mem_aset_any q with q | q
      · rw [q]; show dx.holds ≤ k + 1 ∧ dx.links ≤ k + 1 ∧ ((aset dx.names s n).length : Int) ≤ k + 1; have := aset_len dx.names s n; omega
      · have := h.nodes y q; omega
  · exact h.mono (by omega)
theorem lose (h : T.small k) (d n : Int) (s : ByteArray) : (T.loseName d s n).small k := by
  unfold TreeV.loseName
  split
  · rename_i dx x h1 h2
    refine ⟨h.made, h.turns, fun y hy => ?_, h.pool⟩
    have n1 := h.node h1
    have n2 := h.node h2
    rcases mem_aset_any hy with q | q
    · rw [q]; show x.holds ≤ k ∧ x.links - 1 ≤ k ∧ (x.names.length : Int) ≤ k; omega
    · rcases mem_aset_any q with q | q
      · rw [q]; show dx.holds ≤ k ∧ dx.links ≤ k ∧ ((adel dx.names s).length : Int) ≤ k; have := adel_len dx.names s; omega
      · exact h.nodes y q
  · exact h
theorem drop (h : T.small k) (n : Int) : (T.drop n).small (k + 1) := by
  unfold TreeV.drop
  cases aget T.all n with
  | none => exact h.mono (by omega)
  | some x =>
    dsimp only
    split
    · exact h.mono (by omega)
    · refine ⟨⟨h.made.1, by have := h.made.2; show T.made ≤ k + 1; omega⟩, ⟨by have := h.turns.1; show 0 ≤ T.turns + 1; omega, by have := h.turns.2; show T.turns + 1 ≤ k + 1; omega⟩, fun y hy => ?_, ?_⟩
      · have := h.nodes y (mem_adel_any hy); omega
      · have := h.pool
        show (if x.kind = 2 then (T.pool.drop x.file).1 else T.pool).made ≤ k + 1
        split
        · unfold PoolV.drop
          cases aget T.pool.files x.file with
          | none => show T.pool.made ≤ k + 1; omega
          | some F => show T.pool.made ≤ k + 1; omega
        · omega
theorem take (h : T.small k) (d n : Int) (s : ByteArray) : (T.take d s n).small (k + 2) := by
  have h1 := ((h.lose d n s).turned (Int.le_refl _)).drop n
  have e : (T.loseName d s n).turns = T.turns := by
    unfold TreeV.loseName
    split <;> rfl
  rw [e] at h1
  exact h1.mono (show k + 1 + 1 ≤ k + 2 by omega)
theorem add (h : T.small k) (h0 : 0 ≤ k) (kind mode uid gid : Int) (text : ByteArray) : (T.add kind mode uid gid text).small (k + 1) := by
  unfold TreeV.add
  refine ⟨⟨by have := h.made.1; show 0 ≤ T.made + 1; omega, by have := h.made.2; show T.made + 1 ≤ k + 1; omega⟩, ⟨h.turns.1, by have := h.turns.2; show T.turns ≤ k + 1; omega⟩, fun y hy => ?_, ?_⟩
  · rcases mem_aset_any hy with q | q
    · rw [q]; show (0 : Int) ≤ k + 1 ∧ (0 : Int) ≤ k + 1 ∧ (([] : List (ByteArray × Int)).length : Int) ≤ k + 1; simp only [List.length_nil]; omega
    · have := h.nodes y q; omega
  · have := h.pool
    show (if kind = 2 then T.pool.file else T.pool).made ≤ k + 1
    split
    · show T.pool.made + 1 ≤ k + 1; omega
    · omega
theorem nonneg (h : T.small k) : 0 ≤ k := by have := h.made; omega
theorem make (h : T.small k) (right : Bool) (d : Int) (s : ByteArray) (kind mode uid gid : Int) (text : ByteArray) : (T.make right d s kind mode uid gid text).1.small (k + 3) := by
  unfold TreeV.make
  cases T.dir d with
  | none => exact h.mono (by omega)
  | some x =>
    dsimp only
    repeat (split; · exact h.mono (by omega))
    exact ((h.add h.nonneg kind mode uid gid text).give ..).mono (by omega)
theorem join (h : T.small k) (right : Bool) (d : Int) (s : ByteArray) (n : Int) : (T.join right d s n).1.small (k + 3) := by
  unfold TreeV.join
  cases T.dir d with
  | none => exact h.mono (by omega)
  | some dx =>
    cases aget T.all n with
    | none => exact h.mono (by omega)
    | some x =>
      dsimp only
      repeat (split; · exact h.mono (by omega))
      exact (h.give ..).mono (by omega)
theorem part (h : T.small k) (d : Int) (s : ByteArray) : (T.part d s).1.small (k + 3) := by
  unfold TreeV.part
  cases T.dir d with
  | none => exact h.mono (by omega)
  | some dx =>
    dsimp only
    cases aget dx.names s with
    | none => exact h.mono (by omega)
    | some n =>
      dsimp only
      cases aget T.all n with
      | none => exact h.mono (by omega)
      | some y =>
        dsimp only
        split
        · exact h.mono (by omega)
        · exact (h.take ..).mono (by omega)
theorem move (h : T.small k) (right : Bool) (d : Int) (s : ByteArray) (e : Int) (z : ByteArray) : (T.move right d s e z).1.small (k + 3) := by
  unfold TreeV.move
  cases T.dir d with
  | none => exact h.mono (by omega)
  | some dx =>
    cases T.dir e with
    | none => exact h.mono (by omega)
    | some ex =>
      dsimp only
      split
      · exact h.mono (by omega)
      cases aget dx.names s with
      | none => exact h.mono (by omega)
      | some n =>
        dsimp only
        repeat (split; · exact h.mono (by omega))
        cases aget ex.names z with
        | none =>
          dsimp only
          split
          · exact h.mono (by omega)
          · exact ((h.lose ..).give ..).mono (by omega)
        | some m =>
          dsimp only
          repeat (split; · exact h.mono (by omega))
          exact (((h.take ..).lose ..).give ..).mono (by omega)
theorem hold (h : T.small k) (n : Int) : (T.hold n).1.small (k + 3) := by
  unfold TreeV.hold
  cases hx : aget T.all n with
  | none => exact h.mono (by omega)
  | some x => exact (h.mono (show k ≤ k + 3 by omega)).set n (by have := h.node hx; show x.holds + 1 ≤ k + 3 ∧ x.links ≤ k + 3 ∧ (x.names.length : Int) ≤ k + 3; omega)
theorem setMode (h : T.small k) (n m : Int) : (T.setMode n m).1.small (k + 3) := by
  unfold TreeV.setMode
  cases hx : aget T.all n with
  | none => exact h.mono (by omega)
  | some x => exact ((h.set n (x := { x with mode := m }) (show x.holds ≤ k ∧ x.links ≤ k ∧ (x.names.length : Int) ≤ k from h.node hx)).turned (Int.le_refl _)).mono (show k + 1 ≤ k + 3 by omega)
theorem setOwner (h : T.small k) (n u g : Int) : (T.setOwner n u g).1.small (k + 3) := by
  unfold TreeV.setOwner
  cases hx : aget T.all n with
  | none => exact h.mono (by omega)
  | some x => exact ((h.set n (x := { x with uid := u, gid := g }) (show x.holds ≤ k ∧ x.links ≤ k ∧ (x.names.length : Int) ≤ k from h.node hx)).turned (Int.le_refl _)).mono (show k + 1 ≤ k + 3 by omega)
theorem cut (h : T.small k) (n s : Int) : (T.cut n s).1.small (k + 3) := by
  refine TreeV.small.mono (k := k) (h.pooled ?_) (by omega)
  have := h.pool
  unfold PoolV.cut
  cases aget T.pool.files (T.fileOf n) with
  | none => exact this
  | some F =>
    dsimp only
    repeat (split; · exact this)
    exact this
end TreeV.small
theorem TreeV.new_small (most blocks : Int) : (TreeV.new most blocks).small 1 := by
  refine ⟨by simp [TreeV.new], by simp [TreeV.new], fun x hx => ?_, by simp [TreeV.new]⟩
  simp only [TreeV.new, List.mem_cons, List.not_mem_nil, or_false] at hx
  subst hx
  exact ⟨by decide, by decide, by decide⟩
end Go.Proofs.YtoanccechefclaaGreatDoor
