/-
  Parts of the walk's proof: MountPure, MountAt, SKeysM. (joined by pack.py)
-/
import Derived.Test.YtoanccechefclaaGreatDoorProg
import Derived.Deep.RegionHeld3
import Derived.StillTailTactics
import Derived.Outline
import Derived.Deep.DeepCutAuto
import Derived.Deep.CutRange
import Derived.Deep.CutBlock
import Derived.Test.YtoanccechefclaaGreatDoorK01
import Derived.Test.YtoanccechefclaaGreatDoorK04
import Derived.Test.YtoanccechefclaaGreatDoorK05
set_option linter.unusedSectionVars false
set_option linter.unusedSimpArgs false
set_option linter.unusedVariables false
namespace Go.Proofs.YtoanccechefclaaGreatDoor
open Go Go.RowKit
structure MntV where
  top : Int
  am : Int
  an : Int
abbrev Mnt := Int × MntV
structure MountV where
  made : Int
  turns : Int
  live : List Mnt
structure MountV.ok (V : MountV) : Prop where
  made0 : 0 ≤ V.made
  sorted : (V.live.map Prod.fst).Pairwise (· < ·)
  range : ∀ x ∈ V.live, 0 ≤ x.1 ∧ x.1 ≤ V.made
  root : (0 : Int) ∈ V.live.map Prod.fst
  at_ : ∀ x ∈ V.live, 0 < x.1 → x.2.am < x.1 ∧ x.2.am ∈ V.live.map Prod.fst
  uniq : ∀ x ∈ V.live, ∀ y ∈ V.live, 0 < x.1 → 0 < y.1 → x.2.am = y.2.am → x.2.an = y.2.an → x.1 = y.1
  most : V.live.length ≤ 8
def MountV.new (root : Int) : MountV := ⟨0, 0, [(0, ⟨root, 0, 0⟩)]⟩
theorem MountV.new_ok (root : Int) : (MountV.new root).ok :=
  ⟨by simp [MountV.new], by simp [MountV.new], by simp [MountV.new], by simp [MountV.new], by simp [MountV.new], by simp [MountV.new], by simp [MountV.new]⟩
theorem MountV.ok.nodup {V : MountV} (h : V.ok) : (V.live.map Prod.fst).Nodup := h.sorted.imp fun h e => by omega
theorem aget_memM {α : Type} {L : List (Int × α)} {k : Int} {v : α} (h : aget L k = some v) : (k, v) ∈ L := by
  induction L with
  | nil => simp [aget] at h
  | cons x r ih =>
    obtain ⟨a, u⟩ := x
    simp only [aget] at h
    split at h
    · rename_i e; subst e; simp at h; subst h; simp
    · exact List.mem_cons_of_mem _ (ih h)
theorem aget_of_memM {α : Type} {L : List (Int × α)} (hn : (L.map Prod.fst).Nodup) {k : Int} {v : α} (h : (k, v) ∈ L) : aget L k = some v := by
  induction L with
  | nil => cases h
  | cons y r ih =>
    obtain ⟨a, u⟩ := y
    simp only [List.map_cons, List.nodup_cons] at hn
    simp only [aget]
    rcases List.mem_cons.1 h with h | h
    · cases h
      rw [if_pos rfl]
    · rw [if_neg (fun e => hn.1 (by rw [e]; exact List.mem_map_of_mem (f := Prod.fst) h))]
      exact ih hn.2 h
theorem aget_noneM {α : Type} {L : List (Int × α)} {k : Int} : aget L k = none ↔ k ∉ L.map Prod.fst := by
  induction L with
  | nil => simp [aget]
  | cons x r ih =>
    obtain ⟨a, u⟩ := x
    simp only [aget, List.map_cons, List.mem_cons, not_or]
    split
    · rename_i e; subst e; simp
    · rename_i e; rw [ih]; constructor
      · exact fun h => ⟨fun q => e q.symm, h⟩
      · exact fun h => h.2
theorem aget_mapM {α : Type} (L : List (Int × α)) (g : α → Value) (k : Int) : aget (L.map fun x => (x.1, g x.2)) k = (aget L k).map g := by
  induction L with
  | nil => rfl
  | cons x r ih =>
    obtain ⟨a, v⟩ := x
    simp only [List.map_cons, aget]
    split
    · rfl
    · exact ih
def laidAt (m n : Int) (x : Mnt) : Bool := decide (0 < x.1) && (decide (x.2.am = m) && decide (x.2.an = n))
def MountV.over (V : MountV) (m n : Int) : Option Mnt := V.live.find? (laidAt m n)
def MountV.bind (V : MountV) (m n node : Int) : MountV × Int × Int :=
  if aget V.live m = none then (V, 0, 1)
  else if (V.over m n).isSome then (V, 0, 15)
  else if 8 ≤ V.live.length then (V, 0, 13)
  else (⟨V.made + 1, V.turns + 1, V.live ++ [(V.made + 1, ⟨node, m, n⟩)]⟩, V.made + 1, 0)
def MountV.above (V : MountV) (m : Int) : List Int := (V.live.filter fun x => decide (0 < x.1) && decide (x.2.am = m)).map Prod.fst
def MountV.list (V : MountV) : List Int := V.live.map Prod.fst
def MountV.covered (V : MountV) (n : Int) : Bool := V.live.any fun x => decide (0 < x.1) && decide (x.2.an = n)
def MountV.unbind (V : MountV) (m : Int) : MountV × Int :=
  if aget V.live m = none ∨ m = 0 then (V, 1)
  else if V.above m ≠ [] then (V, 15)
  else (⟨V.made, V.turns + 1, adel V.live m⟩, 0)
def MountV.up (V : MountV) (m n : Int) : Int × Int × Bool :=
  match aget V.live m with
  | none => (m, n, false)
  | some x => if m = 0 ∨ x.top ≠ n then (m, n, false) else (x.am, x.an, true)
def MountV.root_ (V : MountV) (m : Int) : Int × Bool :=
  match aget V.live m with
  | none => (0, false)
  | some x => (x.top, true)
def MountV.downF (V : MountV) : Nat → Int → Int → Int × Int
  | 0, m, n => (m, n)
  | k + 1, m, n => match V.over m n with
    | none => (m, n)
    | some x => V.downF k x.1 x.2.top
def MountV.rank (V : MountV) (m : Int) : Nat := (V.live.filter fun x => decide (m < x.1)).length
def MountV.down (V : MountV) (m n : Int) : Int × Int := V.downF (V.rank m) m n
theorem MountV.over_mem {V : MountV} {m n : Int} {x : Mnt} (h : V.over m n = some x) : x ∈ V.live ∧ 0 < x.1 ∧ x.2.am = m ∧ x.2.an = n := by
  have h1 := List.mem_of_find?_eq_some h
  have h2 := List.find?_some h
  unfold laidAt at h2
  simp only [Bool.and_eq_true, decide_eq_true_eq] at h2
  exact ⟨h1, h2⟩
theorem MountV.over_none {V : MountV} {m n : Int} (h : V.over m n = none) : ∀ x ∈ V.live, 0 < x.1 → x.2.am = m → x.2.an ≠ n := by
  intro x hx h0 h1 h2
  have := List.find?_eq_none.1 h x hx
  unfold laidAt at this
  simp [h0, h1, h2] at this
theorem MountV.rank_lt {V : MountV} (h : V.ok) {m n : Int} {x : Mnt} (hx : V.over m n = some x) : V.rank x.1 < V.rank m := by
  obtain ⟨h1, h2, h3, h4⟩ := MountV.over_mem hx
  have h5 := (h.at_ x h1 h2).1
  unfold MountV.rank
  have hsub : (V.live.filter fun y => decide (x.1 < y.1)).length = ((V.live.filter fun y => decide (m < y.1)).filter fun y => decide (x.1 < y.1)).length := by
    rw [List.filter_filter]
    congr 1
    apply List.filter_congr
    intro y _
    by_cases q : x.1 < y.1
    · simp [q, show m < y.1 by omega]
    · simp [q]
  rw [hsub]
  refine List.length_filter_lt_length_iff_exists.2 ⟨x, List.mem_filter.2 ⟨h1, by simp; omega⟩, by simp⟩
theorem MountV.down_none {V : MountV} {m n : Int} (h : V.over m n = none) : V.down m n = (m, n) := by
  unfold MountV.down
  cases V.rank m with
  | zero => rfl
  | succ k => simp only [MountV.downF, h]
theorem MountV.downF_more {V : MountV} (h : V.ok) : ∀ (k : Nat) (m n : Int), V.rank m ≤ k → V.downF k m n = V.downF (V.rank m) m n
  | 0, m, n, hk => by rw [show V.rank m = 0 by omega]
  | k + 1, m, n, hk => by
    cases ho : V.over m n with
    | none =>
      have h1 := MountV.down_none ho
      unfold MountV.down at h1
      rw [h1]
      simp only [MountV.downF, ho]
    | some x =>
      have hr := MountV.rank_lt h ho
      obtain ⟨r, hr2⟩ : ∃ r, V.rank m = r + 1 := ⟨V.rank m - 1, by omega⟩
      rw [hr2]
      simp only [MountV.downF, ho]
      rw [MountV.downF_more h k _ _ (by omega), MountV.downF_more h r _ _ (by omega)]
  termination_by k => k
theorem MountV.down_some {V : MountV} (h : V.ok) {m n : Int} {x : Mnt} (hx : V.over m n = some x) : V.down m n = V.down x.1 x.2.top := by
  have hr := MountV.rank_lt h hx
  obtain ⟨r, hr2⟩ : ∃ r, V.rank m = r + 1 := ⟨V.rank m - 1, by omega⟩
  unfold MountV.down
  rw [hr2]
  simp only [MountV.downF, hx]
  exact MountV.downF_more h r _ _ (by omega)
theorem adel_subM {α : Type} (L : List (Int × α)) (k : Int) : (adel L k).Sublist L := by
  induction L with
  | nil => exact List.Sublist.refl _
  | cons x r ih =>
    obtain ⟨a, u⟩ := x
    simp only [adel]
    split
    · exact List.sublist_cons_self _ _
    · exact ih.cons_cons _
theorem mem_adelM {α : Type} {L : List (Int × α)} (hn : (L.map Prod.fst).Nodup) {k : Int} {x : Int × α} : x ∈ adel L k ↔ x ∈ L ∧ x.1 ≠ k := by
  induction L with
  | nil => simp [adel]
  | cons y r ih =>
    obtain ⟨a, u⟩ := y
    simp only [List.map_cons, List.nodup_cons] at hn
    simp only [adel]
    by_cases e : a = k
    · subst e
      rw [if_pos rfl]
      constructor
      · intro hx
        exact ⟨List.mem_cons_of_mem _ hx, fun q => hn.1 (by rw [← q]; exact List.mem_map_of_mem hx)⟩
      · rintro ⟨hx, hne⟩
        rcases List.mem_cons.1 hx with rfl | hx
        · exact absurd rfl hne
        · exact hx
    · rw [if_neg e, List.mem_cons, List.mem_cons, ih hn.2]
      constructor
      · rintro (rfl | ⟨h1, h2⟩)
        · exact ⟨.inl rfl, e⟩
        · exact ⟨.inr h1, h2⟩
      · rintro ⟨rfl | h1, h2⟩
        · exact .inl rfl
        · exact .inr ⟨h1, h2⟩
theorem MountV.ok.bind {V : MountV} (h : V.ok) (m n node : Int) : (V.bind m n node).1.ok := by
  unfold MountV.bind
  split
  · exact h
  · split
    · exact h
    · split
      · exact h
      · rename_i h1 h2 h3
        have hm : m ∈ V.live.map Prod.fst := by
          rcases Classical.em (m ∈ V.live.map Prod.fst) with q | q
          · exact q
          · exact absurd (aget_noneM.2 q) h1
        have hov : V.over m n = none := by simpa using h2
        have hno := MountV.over_none hov
        have hm0 := h.made0
        obtain ⟨y, hy, hym⟩ := List.mem_map.1 hm
        have hyr := h.range y hy
        refine ⟨by show 0 ≤ V.made + 1; omega, ?_, ?_, ?_, ?_, ?_, ?_⟩
        · show (List.map Prod.fst (V.live ++ _)).Pairwise _
          rw [List.map_append, List.pairwise_append]
          refine ⟨h.sorted, by simp, ?_⟩
          intro a ha b hb
          obtain ⟨x, hx, rfl⟩ := List.mem_map.1 ha
          simp at hb
          subst hb
          have := h.range x hx
          omega
        · intro x hx
          rcases List.mem_append.1 hx with hx | hx
          · have := h.range x hx
            exact ⟨this.1, by show x.1 ≤ V.made + 1; omega⟩
          · simp at hx; subst hx
            exact ⟨by show 0 ≤ V.made + 1; omega, Int.le_refl _⟩
        · show _ ∈ List.map Prod.fst (V.live ++ _)
          rw [List.map_append]
          exact List.mem_append_left _ h.root
        · intro x hx h0
          show _ ∧ _ ∈ List.map Prod.fst (V.live ++ _)
          rw [List.map_append]
          rcases List.mem_append.1 hx with hx | hx
          · exact ⟨(h.at_ x hx h0).1, List.mem_append_left _ (h.at_ x hx h0).2⟩
          · simp at hx; subst hx
            exact ⟨by show m < V.made + 1; omega, List.mem_append_left _ hm⟩
        · intro x hx z hz h0 h0' e1 e2
          rcases List.mem_append.1 hx with hx | hx
          · rcases List.mem_append.1 hz with hz | hz
            · exact h.uniq x hx z hz h0 h0' e1 e2
            · simp at hz; subst hz
              exact absurd e2 (hno x hx h0 e1)
          · simp at hx; subst hx
            rcases List.mem_append.1 hz with hz | hz
            · exact absurd e2.symm (hno z hz h0' e1.symm)
            · simp at hz; subst hz; rfl
        · show (V.live ++ _).length ≤ 8
          rw [List.length_append, List.length_singleton]
          omega
theorem MountV.above_mem {V : MountV} {m k : Int} : k ∈ V.above m ↔ ∃ x ∈ V.live, x.1 = k ∧ 0 < k ∧ x.2.am = m := by
  unfold MountV.above
  simp only [List.mem_map, List.mem_filter, Bool.and_eq_true, decide_eq_true_eq]
  constructor
  · rintro ⟨x, ⟨h1, h2, h3⟩, rfl⟩; exact ⟨x, h1, rfl, h2, h3⟩
  · rintro ⟨x, h1, rfl, h2, h3⟩; exact ⟨x, ⟨h1, h2, h3⟩, rfl⟩
theorem MountV.ok.unbind {V : MountV} (h : V.ok) (m : Int) : (V.unbind m).1.ok := by
  unfold MountV.unbind
  split
  · exact h
  · split
    · exact h
    · rename_i h1 h2
      have h2 : V.above m = [] := by simpa using h2
      have hsub := adel_subM V.live m
      have hmem : ∀ {x : Mnt}, x ∈ adel V.live m ↔ x ∈ V.live ∧ x.1 ≠ m := mem_adelM h.nodup
      have hm0 : m ≠ 0 := fun e => h1 (.inr e)
      have hkey : ∀ k, k ∈ V.live.map Prod.fst → k ≠ m → k ∈ (adel V.live m).map Prod.fst := by
        intro k hk hne
        obtain ⟨x, hx, rfl⟩ := List.mem_map.1 hk
        exact List.mem_map_of_mem (hmem.2 ⟨hx, hne⟩)
      refine ⟨h.made0, h.sorted.sublist (hsub.map _), fun x hx => h.range x (hmem.1 hx).1, hkey 0 h.root (fun e => hm0 e.symm), ?_, fun x hx y hy => h.uniq x (hmem.1 hx).1 y (hmem.1 hy).1, Nat.le_trans hsub.length_le h.most⟩
      intro x hx h0
      have hx' := (hmem.1 hx).1
      refine ⟨(h.at_ x hx' h0).1, hkey _ (h.at_ x hx' h0).2 (fun e => ?_)⟩
      have : x.1 ∈ V.above m := MountV.above_mem.2 ⟨x, hx', rfl, h0, e⟩
      rw [h2] at this
      cases this
end Go.Proofs.YtoanccechefclaaGreatDoor
namespace Go.Proofs.YtoanccechefclaaGreatDoor
open Go Go.RowKit
set_option maxRecDepth 100000
theorem kMnt : KeyKind Tryz.prog 3 kInt := key_int Tryz.underlying3
theorem tMnt : Tryz.prog.underlying 119 = some (.map 3 118) := Tryz.underlying119
def mntV (x : MntV) : Value := .agg #[.int .i64 x.top, .int .i64 x.am, .int .i64 x.an]
theorem zMnt (w : World) : (zeroValue 118).run Tryz.prog w = .ok (mntV ⟨0, 0, 0⟩) w := by kernel_rfl
def liveV (L : List Mnt) : List (Int × Value) := L.map fun x => (x.1, mntV x.2)
section
variable {P : Program} {w : World} {ops : Array Oper} {rest : List Oper} {o : Oper} {a : Act} {Q : Exit → Act → World → Prop}
variable {κ : Type} [DecidableEq κ] {kt et t : TypeId} {kv : κ → Value} {b : Nat} {L : List (κ × Value)}
theorem law_insert (hg : o.guard = none) (m x v : Operand) (t : TypeId) (hop : o.op = .insert t m x v) (K : KeyKind P kt kv) (ht : P.underlying t = some (.map kt et)) (hm : a.eval m = .map (some b))
    (hat : MapAt w b kv L) (k : κ) (hx : a.eval x = kv k) (hK : ∀ w1, MapAt w1 b kv (aset L k (a.eval v)) → Keep w w1 (fun x => x = b) → wpList P ops Q rest (a.put o.dst undef) w1) : wpList P ops Q (o :: rest) a w := by
  refine wpList_plain hg fun K' hK' => ?_
  obtain ⟨w1, hrun, h1, h2⟩ := update_run (P := P) K ht hat k (a.eval v)
  unfold Oper.wp
  simp [execOp, hop, hm, hx, hrun, Result.andThen]
  exact hK' _ _ (hK w1 h1 h2)
end
structure TableAt (w : World) (tb : Nat) (S : Nat → Prop) (V : MountV) : Prop where
  ok : V.ok
  ex : ∃ mb, w.heap[tb]? = some (.cells #[.map (some mb), .int .i64 V.made, .int .i64 V.turns] 121 (0, 0)) ∧ MapAt w mb kInt (liveV V.live) ∧ S tb ∧ S mb ∧ tb ≠ mb
  lt : ∀ b, S b → b < w.heap.size
theorem TableAt.keep {w w' : World} {tb : Nat} {S U : Nat → Prop} {V : MountV} (h : TableAt w tb S V) (K : Keep w w' U) (hU : ∀ b, S b → ¬ U b) : TableAt w' tb S V := by
  obtain ⟨mb, h1, h2, h3, h4, h5⟩ := h.ex
  exact ⟨h.ok, ⟨mb, K.get h1 (hU _ h3), h2.keep K (hU _ h4), h3, h4, h5⟩, fun b q => Nat.lt_of_lt_of_le (h.lt b q) K.size⟩
theorem TableAt.aside {w w' : World} {tb : Nat} {S : Nat → Prop} {V : MountV} (h : TableAt w tb S V) (K : Keep w w' (fun _ => False)) : TableAt w' tb S V := h.keep K (fun _ _ q => q)
structure TurnM (w : World) (S : Nat → Prop) (w' : World) (S' : Nat → Prop) : Prop where
  keep : Keep w w' S
  new : ∀ b, S' b → S b ∨ w.heap.size ≤ b
set_option maxHeartbeats 1000000 in
theorem mnew_c (w : World) (r : Int) :
    Calls Tryz.prog 38 #[.int .i64 r] w fun e w' => ∃ tb S, e = .returned (.pointer (some ⟨tb, 0, none⟩)) ∧ TableAt w' tb S (MountV.new r) ∧ TurnM w (fun _ => False) w' S := by
  have hmm := @run_makeMap Tryz.prog
  go_enter Tryz.func38, Tryz.ntmps38
  go_wp2_with (
    refine law_insert rfl _ _ _ _ rfl kMnt tMnt rfl (MapAt.made (heap_alloc_eq w _)) 0 rfl ?_
    intro w1 hM hK
    have H := Lib.hid (And.intro hM hK)
    clear hM hK)
  go_ret
  have kt := Keep.alloc w1 (.cells #[.map (some w.heap.size), .int .i64 0, .int .i64 0] 121) (fun _ => False)
  have at_ := heap_alloc_eq w1 (.cells #[.map (some w.heap.size), .int .i64 0, .int .i64 0] 121)
  have hsz : w.heap.size + 1 ≤ w1.heap.size := by have := H.out.2.size; simpa using this
  have hsz2 := lt_of_blk at_
  have k1 : Keep w w1 (fun _ => False) := (Keep.alloc w (.map #[] 0) (fun _ => False)).trans H.out.2 (fun b q => .inr (by omega))
  refine ⟨w1.heap.size, fun b => b = w1.heap.size ∨ b = w.heap.size, rfl, ⟨MountV.new_ok r, ⟨w.heap.size, at_, H.out.1.keep kt (fun q => q), .inl rfl, .inr rfl, by omega⟩, fun b q => by rcases q with q | q <;> omega⟩, ⟨k1.trans kt (fun _ q => q.elim), fun b q => .inr (by rcases q with q | q <;> omega)⟩⟩
theorem mget {V : MountV} (m : Int) : (aget (liveV V.live) m).getD (mntV ⟨0, 0, 0⟩) = mntV ((aget V.live m).getD ⟨0, 0, 0⟩) ∧ (aget (liveV V.live) m).isSome = (aget V.live m).isSome := by
  unfold liveV
  rw [aget_mapM]
  cases aget V.live m <;> exact ⟨rfl, rfl⟩
theorem mlook {w : World} {mb : Nat} {V : MountV} (h : MapAt w mb kInt (liveV V.live)) (m : Int) (ok : Bool) :
    (Instr.lookup 119 (.map (some mb)) (.int .i64 m) ok).run Tryz.prog w = .ok (if ok then .tuple #[mntV ((aget V.live m).getD ⟨0, 0, 0⟩), .bool (aget V.live m).isSome] else mntV ((aget V.live m).getD ⟨0, 0, 0⟩)) w := by
  have l := lookup_run (P := Tryz.prog) kMnt tMnt zMnt h m ok
  rw [(mget m).1, (mget m).2] at l
  exact l
theorem mlookA {w : World} {mb : Nat} {V : MountV} (h : MapAt w mb kInt (liveV V.live)) {m : Int} {x : MntV} {ok : Bool} (hx : (aget V.live m).getD ⟨0, 0, 0⟩ = x) (hok : (aget V.live m).isSome = ok) :
    (Instr.lookup 119 (.map (some mb)) (.int .i64 m) true).run Tryz.prog w = .ok (.tuple #[.agg #[.int .i64 x.top, .int .i64 x.am, .int .i64 x.an], .bool ok]) w := by
  have l := mlook h m true
  rw [hx, hok] at l
  exact l
set_option maxHeartbeats 1000000 in
theorem mroot_c {w : World} {tb : Nat} {S : Nat → Prop} {V : MountV} (h : TableAt w tb S V) (m : Int) :
    Calls Tryz.prog 55 #[.pointer (some ⟨tb, 0, none⟩), .int .i64 m] w fun e w' => e = .returned (.tuple #[.int .i64 (V.root_ m).1, .bool (V.root_ m).2]) ∧ Keep w w' (fun _ => False) := by
  obtain ⟨mb, h1, h2, h3, h4, h5⟩ := h.ex
  have c0 : w.cell? ⟨tb, 0, none⟩ = some (.map (some mb)) := by rw [cell_blk h1]; rfl
  have l := mlook h2 m true
  unfold MountV.root_
  cases hg : aget V.live m with
  | none =>
    rw [hg] at l
    simp only [if_true, Option.getD_none, Option.isSome_none, mntV] at l
    clear h h1 h2 h3 h4 h5 hg
    go_enter Tryz.func55, Tryz.ntmps55
    go_wp2
    go_ret2
    exact ⟨rfl, Keep.alloc _ _ _⟩
  | some x =>
    rw [hg] at l
    simp only [if_true, Option.getD_some, Option.isSome_some, mntV] at l
    clear h h1 h2 h3 h4 h5 hg
    go_enter Tryz.func55, Tryz.ntmps55
    go_wp2
    go_ret2
    exact ⟨rfl, Keep.alloc _ _ _⟩
theorem mup_res {W : World} {b : Nat} {m n : Int} {ok : Bool} {T : Array Value} (z : W.heap[b]? = some (.cells #[.int .i64 m, .int .i64 n] 38 (0, 0))) (h4 : T.getD 4 undef = .pointer (some ⟨b, 0, none⟩)) (h5 : T.getD 5 undef = .bool ok) :
    (results Tryz.f141 T).run Tryz.prog W = .ok (.tuple #[.agg #[.int .i64 m, .int .i64 n], .bool ok]) W := by
  have y0 : W.cell? ⟨b, 0, none⟩ = some (.int .i64 m) := by rw [cell_blk z]; rfl
  have y1 : W.cell? ⟨b, 1, none⟩ = some (.int .i64 n) := by rw [cell_blk z]; rfl
  have h4' : T[4]?.getD undef = .pointer (some ⟨b, 0, none⟩) := by simpa using h4
  have h5' : T[5]?.getD undef = .bool ok := by simpa using h5
  simp [results, Tryz.results141, go_sem, h4', h5', y0, y1]
set_option maxHeartbeats 1000000 in
theorem mup_c {w : World} {tb : Nat} {S : Nat → Prop} {V : MountV} (h : TableAt w tb S V) (m n : Int) :
    Calls Tryz.prog 141 #[.pointer (some ⟨tb, 0, none⟩), .agg #[.int .i64 m, .int .i64 n]] w fun e w' => e = .returned (.tuple #[.agg #[.int .i64 (V.up m n).1, .int .i64 (V.up m n).2.1], .bool (V.up m n).2.2]) ∧ Keep w w' (fun _ => False) := by
  obtain ⟨mb, h1, h2, h3, h4, h5⟩ := h.ex
  have c0 : w.cell? ⟨tb, 0, none⟩ = some (.map (some mb)) := by rw [cell_blk h1]; rfl
  have htb := h.lt _ h3
  have hmb := h2.lt
  have H2 := Lib.hid h2
  clear h h1 h2 h3 h4 h5
  obtain ⟨x, hx⟩ : ∃ x, (aget V.live m).getD ⟨0, 0, 0⟩ = x := ⟨_, rfl⟩
  obtain ⟨ok, hok⟩ : ∃ ok, (aget V.live m).isSome = ok := ⟨_, rfl⟩
  have HX := Lib.hid (And.intro hx hok)
  clear hx hok
  go_enter Tryz.func141, Tryz.ntmps141
  go_upto_region 1 with (fail)
  obtain ⟨wB, hwB⟩ : ∃ wB, wB = (w.alloc (.cells #[.int .i64 m, .int .i64 n] 38)).alloc (.cells #[.int .i64 0, .int .i64 0] 38) := ⟨_, rfl⟩
  obtain ⟨kB, b1, b2, zB⟩ : Keep w wB (fun _ => False) ∧ wB.heap[w.heap.size]? = some (.cells #[.int .i64 m, .int .i64 n] 38 (0, 0)) ∧ wB.heap[w.heap.size + 1]? = some (.cells #[.int .i64 0, .int .i64 0] 38 (0, 0)) ∧ wB.heap.size = w.heap.size + 2 := by
    rw [hwB]
    exact boxes2 w _ _
  rw [← hwB]
  clear hwB
  replace c0 := kB.cell c0 (fun q => q)
  have d0 := cell_blk b1 0
  simp only [List.getElem?_toArray, List.getElem?_cons_zero, List.getElem?_cons_succ] at d0
  have HB := Lib.hid (And.intro kB (And.intro b1 b2))
  clear kB b1 b2
  go_cut [6, 7] (fun s6 s7 wx => ∃ nb, s6 = .pointer (some ⟨nb, 0, none⟩) ∧ s7 = .bool ok ∧ Keep wB wx (fun _ => False) ∧ wx.heap[nb]? = some (.cells #[.int .i64 x.top, .int .i64 x.am, .int .i64 x.an] 118 (0, 0)))
  case first =>
    have hM := H2.out.keep HB.out.1 (fun q => q)
    have l := mlookA hM HX.out.1 HX.out.2
    have n1 := World.new_ne wB _ c0
    have n2 := World.new_ne wB _ d0
    go_region_held3 (fun w' => (w'.cell? ⟨tb, 0, none⟩ = some (.map (some mb)) ∧ w'.cell? ⟨w.heap.size, 0, none⟩ = some (.int .i64 m)) ∧ MapAt w' mb kInt (liveV V.live) ∧ (Instr.lookup 119 (.map (some mb)) (.int .i64 m) true).run Tryz.prog w' = .ok (.tuple #[.agg #[.int .i64 x.top, .int .i64 x.am, .int .i64 x.an], .bool ok]) w')
      ((go_split_ands; refine ⟨⟨?_, ?_⟩, ?_, ?_⟩ <;> first
         | (refine MapAt.keep hM (S := fun _ => False) ?_ (fun q => q); repeat (first | exact Keep.refl _ _ | refine Keep.drewNew ?_ | refine Keep.allocNew ?_ _))
         | (refine mlookA (MapAt.keep hM (S := fun _ => False) ?_ (fun q => q)) HX.out.1 HX.out.2; repeat (first | exact Keep.refl _ _ | refine Keep.drewNew ?_ | refine Keep.allocNew ?_ _))
         | go_keep)) (fail)
    all_goals go_wp2
    all_goals go_meet
    all_goals
      refine ⟨_, rfl, rfl, ?_, ?_⟩
      · repeat (first | exact Keep.refl _ _ | refine Keep.drewNew ?_ | refine Keep.allocNew ?_ _)
      · rw [← zB]; exact heap_alloc_eq wB _
  case rest =>
    obtain ⟨nb, rfl, rfl, k1, b3⟩ := hcut
    have kC := HB.out.1.aside k1
    have e1 := k1.get HB.out.2.1 (fun q => q)
    have e2 := k1.get HB.out.2.2 (fun q => q)
    have q0 := cell_blk e1 0
    have q1 := cell_blk e1 1
    have r0 := cell_blk e2 0
    have r1 := cell_blk e2 1
    have t0 := cell_blk b3 0
    have t1 := cell_blk b3 1
    have t2 := cell_blk b3 2
    simp only [List.getElem?_toArray, List.getElem?_cons_zero, List.getElem?_cons_succ] at q0 q1 r0 r1 t0 t1 t2
    have f0 := free_blk e2 0
    have f1 := free_blk e2 1
    have HC := Lib.hid (And.intro kC e2)
    clear k1 e1 e2 b3 kC c0 d0
    have fin : ∀ (a b : Int) (ok' : Bool), Hid (MountV.up V m n = (a, b, ok')) → ∀ (T : Array Value), T.getD 4 undef = .pointer (some ⟨w.heap.size + 1, 0, none⟩) → T.getD 5 undef = .bool ok' →
        bodyPost Tryz.prog Tryz.f141 (fun e w' => e = .returned (.tuple #[.agg #[.int .i64 (V.up m n).1, .int .i64 (V.up m n).2.1], .bool (V.up m n).2.2]) ∧ Keep w w' (fun _ => False)) Exit.ret ⟨T, []⟩ ((wc.setCell ⟨w.heap.size + 1, 0, none⟩ (.int .i64 a)).setCell ⟨w.heap.size + 1, 1, none⟩ (.int .i64 b)) := by
      intro a b ok' hu T h4 h5
      have s1 := heap_setCell_eq (off := 0) (Value.int .i64 a) HC.out.2
      have s2 := heap_setCell_eq (off := 1) (Value.int .i64 b) s1
      refine bodyPost_ret (mup_res (by simpa using s2) h4 h5) rfl ⟨by rw [hu.out], ?_⟩
      exact (HC.out.1.setNew _ _ (by simp)).setNew _ _ (by simp)
    have HF := Lib.hid fin
    clear fin
    have HX' := HX.out
    cases ok with
    | false =>
      have hu : MountV.up V m n = (m, n, false) := by
        unfold MountV.up
        rw [show aget V.live m = none by have := HX.out.2; simpa using this]
      have HU := Lib.hid hu
      clear hu HX'
      go_wp2
      exact HF.out m n false HU _ rfl rfl
    | true =>
      have hg : aget V.live m = some x := by
        obtain ⟨h6, h7⟩ := HX.out
        cases hh : aget V.live m with
        | none => rw [hh] at h7; simp at h7
        | some y => rw [hh] at h6; simp at h6; rw [h6]
      by_cases hm0 : m = 0
      · have hu : MountV.up V m n = (m, n, false) := by
          unfold MountV.up
          rw [hg]
          simp only [hm0, true_or, if_true]
        have HU := Lib.hid hu
        clear hu HX' hg
        have g1 : (m == 0) = true := by simpa using hm0
        clear hm0
        go_wp2
        exact HF.out m n false HU _ rfl rfl
      · have g1 : (m == 0) = false := by simpa using hm0
        by_cases hn0 : x.top = n
        · have hu : MountV.up V m n = (x.am, x.an, true) := by
            unfold MountV.up
            rw [hg]
            simp only [hm0, hn0, ne_eq, not_true_eq_false, or_false, if_false]
          have HU := Lib.hid hu
          have g2 : (x.top != n) = false := by simpa using hn0
          clear hu HX' hg hm0 hn0
          go_wp2
          exact HF.out x.am x.an true HU _ rfl rfl
        · have hu : MountV.up V m n = (m, n, false) := by
            unfold MountV.up
            rw [hg]
            simp only [hn0, ne_eq, not_false_eq_true, or_true, if_true]
          have HU := Lib.hid hu
          have g2 : (x.top != n) = true := by simpa using hn0
          clear hu HX' hg hm0 hn0
          go_wp2
          exact HF.out m n false HU _ rfl rfl
end Go.Proofs.YtoanccechefclaaGreatDoor
namespace Go.Proofs.YtoanccechefclaaGreatDoor
open Go Go.RowKit Go.Shelf
set_option maxRecDepth 100000
attribute [local go_sem] Oper.semAt_some
theorem m_tMap : Tryz.prog.underlying 119 = some (.map 3 118) := Tryz.underlying119
theorem m_nodup_len {d K : List Int} (hd : d.Nodup) (hK : K.Nodup) (hs : ∀ x ∈ d, x ∈ K) : d.length ≤ K.length := by
  classical
  have h : d.Perm (K.filter (fun x => decide (x ∈ d))) := by
    rw [List.perm_ext_iff_of_nodup hd (hK.filter _)]
    intro x
    rw [List.mem_filter]
    exact ⟨fun q => ⟨hs x q, by simpa using q⟩, fun q => by simpa using q.2⟩
  rw [h.length_eq]
  exact List.length_filter_le _ _
theorem m_iter_walks {w w' : World} {it mb : Nat} {L : List (Int × Value)} {B : List Nat} {done : List Int} (h : IterAt w it mb L B done) (k : KeepsWalks w w') : IterAt w' it mb L B done := by
  obtain ⟨s, e, l, h1, h2, h3⟩ := h
  exact ⟨s, e, l, k.same _ _ h1 rfl, h2, h3⟩
theorem m_map_walks {w w' : World} {mb : Nat} {L : List (Int × Value)} {B : List Nat} {c : Nat} (h : MapAtB w mb kInt L B c) (k : KeepsWalks w w') : MapAtB w' mb kInt L B c := ⟨h.1, k.same _ _ h.2.1 rfl, h.2.2⟩
set_option maxHeartbeats 2000000 in
theorem m_keys1_in (n : Nat) (hn : 1 ≤ n) (l bl mb n0 : Nat) (L : List (Int × Value)) (J Jx : List Int → World → Prop) (W : World) (hJ : AbidesFrom W.heap.size J) (hJx : AbidesFrom W.heap.size Jx)
    (hY : ∀ pre x W1, J pre W1 → pre.length < L.length → YieldAt Fence.wide (n - 1) Tryz.prog l #[.int .i64 x] W1 fun e W' =>
      (e = .returned (.bool true) ∧ J (pre ++ [x]) W' ∧ KpW n0 W1 W') ∨ (e = .returned (.bool false) ∧ Jx (pre ++ [x]) W'))
    (hbl : W.cell? ⟨bl, 0, none⟩ = some (.map (some mb))) (hM : MapAt W mb kInt L) (h0 : J [] W) :
    CallsIn Fence.wide n Tryz.prog 138 #[.func (.yield l) #[] #[], .pointer (some ⟨bl, 0, none⟩)] W fun e W' => (∃ v, e = .returned v) ∧
      ((∃ ys : List Int, ys.Perm (L.map Prod.fst) ∧ J ys W') ∨ (∃ pre : List Int, True ∧ Jx pre W')) := by
  obtain ⟨B, c, hB⟩ := hM
  have hmlt : mb < W.heap.size := lt_of_blk hB.2.1
  have HB := Lib.hid (And.intro hB h0)
  clear hB h0
  refine callsIn_of_wp Tryz.func138 rfl trivial ?_ rfl
  simp only [Tryz.ntmps138, List.size_toArray, List.length_cons, List.length_nil, Nat.reduceAdd, Nat.reduceSub, Array.replicate_succ, Array.replicate_zero, List.push_toArray, List.append_toArray, List.nil_append, List.cons_append]
  gi_wp2_with (
    (refine law_rangeIn rfl _ _ rfl m_tMap rfl HB.out.1 ?_)
    intro w1 it hit h1 h2 h3 h4
    have hJ1 : J [] w1 := hJ _ _ _ none HB.out.2 ⟨h3.os, h3.tape, h3.output, h3.size, fun k hk _ => h3.block k hk (fun q => q)⟩ (fun r e => by cases e)
    have H1 := Lib.hid (And.intro h1 (And.intro h2 (And.intro h3 (And.intro hJ1 hit))))
    clear h1 h2 h3 h4 hJ1 hit)
  have hne : it ≠ mb := by have := H1.out.2.2.2.2; omega
  go_frame
  gi_loopg [] (L.length) (fun g wr => ∃ done : List Int, g + done.length = L.length ∧ IterAt wr it mb L B done ∧ MapAtB wr mb kInt L B c ∧ J done.reverse wr ∧ done.Nodup ∧ (∀ k ∈ done, k ∈ L.map Prod.fst))
  case atStart => exact ⟨[], by simp, H1.out.1, H1.out.2.1, H1.out.2.2.2.1, by simp, by simp⟩
  case round =>
    obtain ⟨done, hlen, q1, q2, q3, q4, q5⟩ := hrel
    have Q := Lib.hid (And.intro q1 (And.intro q2 (And.intro q3 (And.intro q4 q5))))
    clear q1 q2 q3 q4 q5
    have hturn : ∀ w2, Keep wr w2 (fun b => b = it) → J done.reverse w2 := fun w2 k => hJ _ _ _ (some it) Q.out.2.2.1 (grown_of_keep k) (fun r e => by
      cases e
      obtain ⟨s, e, l, z, _⟩ := Q.out.1
      exact ⟨by have := H1.out.2.2.2.2; omega, _, z, rfl⟩)
    have HT := Lib.hid hturn
    clear hturn
    gi_wp2_with (first
      | (refine law_nextIn rfl _ rfl rfl Q.out.2.1 Q.out.1 hne ?_ ?_)
      | (intro w2 hall hk2
         have A := Lib.hid (And.intro hall hk2)
         have case1 := 1
         clear hall hk2)
      | (intro w2 x hx hnd hent h1 h2 hk2
         have hlt : done.length < L.length := by
           have := m_nodup_len (d := x.1 :: done) (K := L.map Prod.fst) (List.nodup_cons.2 ⟨hnd, Q.out.2.2.2.1⟩) HB.out.1.2.2.1 (fun y hy => by
             rcases List.mem_cons.1 hy with rfl | hy
             · exact List.mem_map_of_mem hx
             · exact Q.out.2.2.2.2 y hy)
           simp only [List.length_cons, List.length_map] at this
           omega
         obtain ⟨fn, tmps, assign, body, hy, hR⟩ := (show YieldAt Fence.wide (n - 1) Tryz.prog l #[kInt x.1] w2 _ from hY done.reverse x.1 w2 (HT.out w2 hk2) (by rw [List.length_reverse]; exact hlt))
         have A := Lib.hid (And.intro h1 (And.intro h2 (And.intro hnd hx)))
         have case2 := 2
         obtain ⟨xk, xv⟩ := x
         simp only at hy hR hent
         clear hnd hx h1 h2 hk2))
    · gi_wp2
      go_end0
      refine ⟨⟨_, rfl⟩, .inl ⟨done.reverse, ?_, HT.out _ A.out.2⟩⟩
      refine (List.reverse_perm done).trans ?_
      rw [List.perm_ext_iff_of_nodup Q.out.2.2.2.1 HB.out.1.2.2.1]
      intro k
      refine ⟨Q.out.2.2.2.2 k, fun q => ?_⟩
      obtain ⟨y, hy, rfl⟩ := List.mem_map.1 q
      exact A.out.1 y hy
    · refine hR.mono ?_
      rintro e W3 (⟨rfl, hJ3, hk3⟩ | ⟨rfl, hJx3⟩)
      · have N := Lib.hid (And.intro hJ3 hk3)
        clear hJ3 hk3
        gi_wp2
        gi_roundg (L.length - (done.length + 1))
        case measure => omega
        case rel =>
          refine ⟨xk :: done, by simp only [List.length_cons]; omega, m_iter_walks A.out.2.1 N.out.2.1, m_map_walks A.out.1 N.out.2.1, by rw [List.reverse_cons]; exact N.out.1, List.nodup_cons.2 ⟨A.out.2.2.1, Q.out.2.2.2.1⟩, fun k hk => ?_⟩
          rcases List.mem_cons.1 hk with rfl | hk
          · exact List.mem_map_of_mem (f := Prod.fst) A.out.2.2.2
          · exact Q.out.2.2.2.2 k hk
      · gi_wp2
        refine bodyPost_ret (results_none rfl _ _ _) rfl ?_
        exact ⟨⟨_, rfl⟩, .inr ⟨_, trivial, hJx3⟩⟩
theorem m_keys_stops (n : Nat) (hn : 1 ≤ n) (bl mb n0 : Nat) (L : List (Int × Value)) (w : World) (hbl : w.cell? ⟨bl, 0, none⟩ = some (.map (some mb))) (hb : bl < w.heap.size) (hM : MapAt w mb kInt L) :
    SeqStopsK Fence.wide n Tryz.prog 138 #[.pointer (some ⟨bl, 0, none⟩)] (fun x : Int => #[.int .i64 x]) (KpW n0) (fun ys => ys.Perm (L.map Prod.fst)) (fun _ => True) L.length w := fun l J Jx W hW hJ hJx hY h0 =>
  m_keys1_in n hn l bl mb n0 L J Jx W hJ hJx hY ((hW.cell (p := ⟨bl, 0, none⟩) hb).trans hbl) (hM.keep (Keep.of_below hW) (fun q => by have := hM.lt; omega)) h0
theorem m_keys_c (w : World) (m : Option Nat) :
    Calls Tryz.prog 121 #[.map m] w fun r w' => r = .returned (.func (.func 138) #[] #[.pointer (some ⟨w.heap.size, 0, none⟩)]) ∧ w' = w.alloc (.cells #[.map m] 119) := by
  go_enter Tryz.func121, Tryz.ntmps121
  go_wp2
  go_ret
  exact ⟨rfl, rfl⟩
theorem m_keepsFrom_cells {Bd : Nat} {W W' : World} {S : Nat → Prop} (h : Keep W W' S) (hS : ∀ b, S b → ∀ o, W.heap[b]? = some o → o.isCells = true) : KeepsFrom Bd W W' :=
  ⟨h.size, fun k o _ hk ho => by
    rw [h.block k (lt_of_blk hk) (fun q => ?_)]
    · exact hk
    · have := hS k q o hk
      rw [this] at ho
      cases ho⟩
structure m_AppW (w wx : World) (v : Value) (out : List Int) : Prop where
  keep : Keep w wx (fun _ => False)
  box : wx.heap[w.heap.size]? = some (.cells #[v] 25 (0, 0))
  row : wx.ownsRow 0 3 1 v out.length (out.map (Value.int .i64))
  new : ∀ b, v.ownBlock = some b → w.heap.size + 1 ≤ b
theorem m_own_is {w : World} {v : Value} {n : Nat} {xs : List Value} {e : TypeId} (h : w.ownsRow 0 e 1 v n xs) {b : Nat} (q : v.ownBlock = some b) : ∃ c t f, w.heap[b]? = some (.cells c t f) := by
  rcases h.2 with ⟨rfl, _⟩ | ⟨g, cap, cur, rfl, _, hb, _⟩
  · simp [Value.ownBlock] at q
  · simp only [Value.ownBlock, Option.some.injEq] at q
    subst q
    exact ⟨_, _, _, hb⟩
theorem m_AppW.far {w wx wy : World} {v : Value} {out : List Int} (h : m_AppW w wx v out) {Bd : Nat} (hB : w.heap.size ≤ Bd) (k : Keep wx wy (fun b => Bd ≤ b ∧ ∃ o, wx.heap[b]? = some o ∧ o.isCells = false)) : m_AppW w wy v out := by
  refine ⟨h.keep.trans k (fun b q => .inr (by have := q.1; omega)), k.get h.box (fun q => not_cells h.box q.2), rows_keep h.row k (fun b q z => ?_), h.new⟩
  obtain ⟨c, t, f, hb⟩ := m_own_is h.row q
  obtain ⟨o, ho, hn⟩ := z.2
  rw [hb] at ho
  cases ho
  simp [Obj.isCells] at hn
theorem m_kt_info : ∃ i z, Tryz.prog.info? 3 = some i ∧ i.zero = some z ∧ i.size = 1 ∧ i.bytes ≤ 64 ∧ z.cells.size = 1 := by
  have h : (Tryz.prog.info? 3).map (fun i => (i.size, decide (i.bytes ≤ 64), i.zero.map fun z => z.cells.size)) = some (1, true, some 1) := by kernel_rfl
  cases hh : Tryz.prog.info? 3 with
  | none => rw [hh] at h; simp at h
  | some i =>
    rw [hh] at h
    simp only [Option.map_some, Option.some.injEq, Prod.mk.injEq, decide_eq_true_eq] at h
    obtain ⟨h1, h2, h3⟩ := h
    cases hz : i.zero with
    | none => rw [hz] at h3; simp at h3
    | some z =>
      rw [hz] at h3
      simp at h3
      exact ⟨i, z, rfl, hz, h1, h2, h3⟩
set_option maxHeartbeats 4000000 in
theorem m_appendSeq_c {w : World} {bl mb : Nat} {L : List (Int × Value)} (hbl : w.cell? ⟨bl, 0, none⟩ = some (.map (some mb))) (hM : MapAt w mb kInt L) (hl : L.length ≤ 1099511000000) :
    Calls Tryz.prog 149 #[.slice none 0 0, .func (.func 138) #[] #[.pointer (some ⟨bl, 0, none⟩)]] w fun r w' =>
      ∃ (v : Value) (ys : List Int), r = .returned v ∧ ys.Perm (L.map Prod.fst) ∧ w'.ownsRow 0 3 1 v ys.length (ys.map (Value.int .i64)) ∧ Keep w w' (fun _ => False) ∧ ∀ b, v.ownBlock = some b → w.heap.size ≤ b := by
  have hblt : bl < w.heap.size := World.block_lt_of_cell? w ⟨bl, 0, none⟩ hbl
  have H := Lib.hid (And.intro hbl hM)
  clear hbl hM
  refine calls_marks Tryz.func149 rfl ?_
  simp only [Tryz.ntmps149, List.size_toArray, List.length_cons, List.length_nil, Nat.reduceAdd, Nat.reduceSub, Array.replicate_succ, Array.replicate_zero, List.push_toArray, List.append_toArray, List.nil_append, List.cons_append]
  go_wp2
  obtain ⟨wL, hwL⟩ : ∃ wL, wL = w.alloc (.cells #[.slice none 0 0] 25) := ⟨_, rfl⟩
  have k1 := Keep.alloc w (.cells #[.slice none 0 0] 25) (fun _ => False)
  have g1 := heap_alloc_eq w (.cells #[.slice none 0 0] 25)
  have z1 : (w.alloc (.cells #[.slice none 0 0] 25)).heap.size = w.heap.size + 1 := by simp
  rw [← hwL] at k1 g1 z1
  rw [← hwL]
  have HW := Lib.hid (show m_AppW w wL (.slice none 0 0) [] from ⟨k1, g1, rows_nil _ _ _, fun b q => by simp [Value.ownBlock] at q⟩)
  have HZ := Lib.hid z1
  have HI := Lib.hid m_kt_info
  clear hwL g1 z1
  have hblL := k1.cell H.out.1 (fun q => q)
  have hML := H.out.2.keep k1 (fun q => q)
  have hblt2 : bl < wL.heap.size := by have := HZ.out; omega
  have hnL : w.heap.size ≤ wL.heap.size := k1.size
  clear k1
  refine wp_range1W (α := Int) (enc := fun x => .int .i64 x) (j := 5) (gf := 138) (lb := #[.pointer (some ⟨bl, 0, none⟩)]) (n0 := w.heap.size) rfl (enters_of Tryz.func138 (by kernel_rfl) rfl)
    (m_keys_stops 8 (by omega) bl mb w.heap.size L wL hblL hblt2 hML) hnL
    (fun pre W => pre.length ≤ L.length ∧ ∃ v, m_AppW w W v pre) (fun _ _ _ => False)
    (own_of fun s W W' h k => ⟨h.1, by obtain ⟨v, hv⟩ := h.2; exact ⟨v, hv.far hnL k⟩⟩)
    (fun c => own_of fun s W W' h k => h.elim)
    ⟨Nat.zero_le _, _, HW.out⟩ ?assign ?body ?done ?stop
  case assign =>
    intro l x W K hK
    gi_wp2
    exact hK
  case body =>
    rintro l pre x W ⟨hpl, v, hW⟩ hlt
    have hn1 : 1 ≤ 7 := by omega
    simp only [List.setIfInBounds_toArray, List.set_cons_succ, List.set_cons_zero]
    obtain ⟨sa, cap, rfl, hcap⟩ := rows_val2 hW.row
    have c1 := cell_blk hW.box 0
    have f1 := free_blk hW.box 0
    simp only [List.getElem?_toArray, List.getElem?_cons_zero, List.getElem?_cons_succ] at c1
    have D := Lib.hid (And.intro hW (And.intro hpl hlt))
    have hk : pre.length ≤ 1099511000000 := by omega
    generalize hln : pre.length = k at *
    have HK := Lib.hid hln
    clear hW hpl hln hlt
    obtain ⟨ti, tz, ti1, ti2, ti3, ti4, ti5⟩ := HI.out
    have HJ := Lib.hid (And.intro ti1 (And.intro ti2 (And.intro ti3 (And.intro ti4 ti5))))
    clear ti1 ti2 ti3 ti4 ti5
    have hrow := Lib.hid (show W.ownsRow 0 3 1 (.slice sa k cap) k (pre.map (Value.int .i64)) from by have := D.out.1.row; rw [HK.out] at this; exact this)
    gi_wp2_with (
      gi_at_builtin
      refine law_pushIn rfl _ _ _ rfl Tryz.underlying25 HJ.out.1 HJ.out.2.1 HJ.out.2.2.1 HJ.out.2.2.2.1 HJ.out.2.2.2.2 hrow.out rfl (.int .i64 x) rfl rfl rfl (by omega) ?_
      intro a8 cap8 w8 q1 q2 q3
      have hnb : ¬ (Value.slice sa k cap).ownBlock = some w.heap.size := fun q => by have := D.out.1.new _ q; omega
      have b8 := q2.get D.out.1.box hnb
      have d1 : w8.cell? ⟨w.heap.size, 0, none⟩ = some (.slice sa k cap) := by rw [cell_blk b8]; rfl
      have d2 : w8.frozen? ⟨w.heap.size, 0, none⟩ = false := free_blk b8 _
      have N := Lib.hid (And.intro q1 (And.intro q2 (And.intro q3 b8)))
      clear q1 q2 q3 hnb b8)
    have k5 := Keep.setCell w8 ⟨w.heap.size, 0, none⟩ (.slice a8 (k + 1) cap8)
    have kk : Keep W (w8.setCell ⟨w.heap.size, 0, none⟩ (.slice a8 (k + 1) cap8)) (fun b => (Value.slice sa k cap).ownBlock = some b ∨ b = w.heap.size) := (N.out.2.1.mono (fun b q => .inl q)).trans k5 (fun b q => .inl (.inr q))
    have hcel : ∀ b, ((Value.slice sa k cap).ownBlock = some b ∨ b = w.heap.size) → ∀ o, W.heap[b]? = some o → o.isCells = true := fun b q o ho => by
      rcases q with q | q
      · obtain ⟨c, t, f, hb⟩ := m_own_is D.out.1.row q
        rw [hb] at ho; cases ho; rfl
      · subst q
        rw [D.out.1.box] at ho; cases ho; rfl
    have hge : ∀ b, ((Value.slice sa k cap).ownBlock = some b ∨ b = w.heap.size) → w.heap.size ≤ b := fun b q => by
      rcases q with q | q
      · have := D.out.1.new b q; omega
      · omega
    refine ⟨m_keepsFrom_cells kk hcel, KpW.of kk (fun b q => ⟨hge b q, hcel b q⟩) D.out.1.keep.size, by rw [List.length_append, List.length_singleton, HK.out]; have := D.out.2.2; omega, .slice a8 (k + 1) cap8, ⟨D.out.1.keep.trans kk (fun b q => .inr (hge b q)), heap_setCell_eq (.slice a8 (k + 1) cap8) (off := 0) N.out.2.2.2, ?_, fun b q => ?_⟩⟩
    · have := rows_keep N.out.1 k5 (fun b q z => by
        have hz : b = w.heap.size := z
        rcases N.out.2.2.1 b q with y | y
        · have := D.out.1.new b y; omega
        · have := lt_of_blk D.out.1.box; omega)
      rw [List.length_append, List.length_singleton, HK.out, List.map_append]
      exact this
    · rcases N.out.2.2.1 b q with y | y
      · exact D.out.1.new b y
      · have := lt_of_blk D.out.1.box; omega
  case done =>
    rintro D xs W hD hS ⟨hpl, v, hW⟩ hK
    obtain ⟨sa, cap, rfl, hcap⟩ := rows_val2 hW.row
    have c1 := cell_blk hW.box 0
    simp only [List.getElem?_toArray, List.getElem?_cons_zero, List.getElem?_cons_succ] at c1
    have D2 := Lib.hid (And.intro hW (And.intro hK hS))
    generalize hln : xs.length = k at *
    have HK := Lib.hid hln
    clear hW hK hS hln hpl
    go_wp2
    refine leaves_mark D2.out.2.1 fun w' k' => ⟨.slice sa k cap, by simp [results, Tryz.results149, go_sem], _, xs, rfl, D2.out.2.2, ?_⟩
    have kr : Keep W w' (fun b => wL.heap.size ≤ b ∧ ∃ o, W.heap[b]? = some o ∧ o.isCells = false) := k'.mono fun b q => by
      have q' : b = D := q
      subst q'
      exact ⟨hD, _, D2.out.2.1, rfl⟩
    have hf := D2.out.1.far hnL kr
    exact ⟨hf.row, hf.keep, fun b q => by have := hf.new b q; omega⟩
  case stop =>
    rintro D c pre W hD _ h
    exact h.elim
theorem m_collect_c {w : World} {bl mb : Nat} {L : List (Int × Value)} (hbl : w.cell? ⟨bl, 0, none⟩ = some (.map (some mb))) (hM : MapAt w mb kInt L) (hl : L.length ≤ 1099511000000) :
    Calls Tryz.prog 136 #[.func (.func 138) #[] #[.pointer (some ⟨bl, 0, none⟩)]] w fun r w' =>
      ∃ (v : Value) (ys : List Int), r = .returned v ∧ ys.Perm (L.map Prod.fst) ∧ w'.ownsRow 0 3 1 v ys.length (ys.map (Value.int .i64)) ∧ Keep w w' (fun _ => False) ∧ ∀ b, v.ownBlock = some b → w.heap.size ≤ b := by
  have hc := m_appendSeq_c hbl hM hl
  clear hbl hM
  go_enter Tryz.func136, Tryz.ntmps136
  go_wp2_with (
    go_at_call 149
    refine hc.mono ?_
    rintro e w1 ⟨v, ys, rfl, h1, h2, h3, h4⟩
    obtain ⟨sa, cap, rfl, -⟩ := rows_val2 h2
    have N := Lib.hid (And.intro h1 (And.intro h2 (And.intro h3 h4)))
    clear h1 h2 h3 h4 hc)
  go_ret
  exact ⟨_, ys, rfl, N.out⟩
theorem m_sorted_c {w : World} {bl mb : Nat} {L : List (Int × Value)} (hbl : w.cell? ⟨bl, 0, none⟩ = some (.map (some mb))) (hM : MapAt w mb kInt L) (hl : L.length ≤ 1099511000000) :
    Calls Tryz.prog 120 #[.func (.func 138) #[] #[.pointer (some ⟨bl, 0, none⟩)]] w fun r w' =>
      ∃ v : Value, r = .returned v ∧ w'.ownsRow 0 3 1 v (sortI (L.map Prod.fst)).length ((sortI (L.map Prod.fst)).map (Value.int .i64)) ∧ Keep w w' (fun _ => False) ∧ ∀ b, v.ownBlock = some b → w.heap.size ≤ b := by
  have hc := m_collect_c hbl hM hl
  have HL := Lib.hid hl
  clear hbl hM hl
  go_enter Tryz.func120, Tryz.ntmps120
  go_wp2_with (first
    | (go_at_call 136
       refine hc.mono ?_
       rintro e w1 ⟨v, ys, rfl, h1, h2, h3, h4⟩
       obtain ⟨sa, cap, rfl, -⟩ := rows_val2 h2
       have hs := isort_c h2 (by rw [h1.length_eq, List.length_map]; have := HL.out; omega)
       have N := Lib.hid (And.intro h1 (And.intro h2 (And.intro h3 h4)))
       clear h1 h2 h3 h4 hc)
    | (go_at_call 137
       refine hs.mono ?_
       rintro e w2 ⟨rfl, h1, h2⟩
       have M := Lib.hid (And.intro h1 h2)
       clear h1 h2 hs))
  go_ret
  have e : sortI ys = sortI (L.map Prod.fst) := sortI_perm2 N.out.1
  have e2 : ys.length = (sortI (L.map Prod.fst)).length := by rw [← e, sortI_len]
  refine ⟨_, rfl, ?_, N.out.2.2.1.trans M.out.2 (fun b q => .inr (N.out.2.2.2 b q)), fun b q => N.out.2.2.2 b q⟩
  rw [← e2, ← e]
  exact M.out.1
end Go.Proofs.YtoanccechefclaaGreatDoor
