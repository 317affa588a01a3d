/-
  Parts of the walk's proof: TreeA. (joined by pack.py)
-/
import Derived.Deep.RegionHeld3
import Derived.StillTailTactics
import Derived.Outline
import Derived.Deep.LoopGhost
import Derived.Deep.DeepCutAuto
import Derived.Deep.CutRange
import Derived.Deep.CutBlock
import Derived.Test.YtoanccechefclaaGreatDoorK02
import Derived.Test.YtoanccechefclaaGreatDoorK03
import Derived.Test.YtoanccechefclaaGreatDoorK04
import Derived.Test.YtoanccechefclaaGreatDoorK05
set_option linter.unusedSectionVars false
set_option linter.unusedSimpArgs false
set_option linter.unusedVariables false
namespace Go.Proofs.YtoanccechefclaaGreatDoor
open Go Go.RowKit
set_option maxRecDepth 100000
theorem kNodes : KeyKind Tryz.prog 3 kInt := key_int Tryz.underlying3
theorem kNames : KeyKind Tryz.prog 9 kStr := key_str Tryz.underlying9
theorem tNodes : Tryz.prog.underlying 109 = some (.map 3 107) := Tryz.underlying109
theorem tNames : Tryz.prog.underlying 112 = some (.map 9 3) := Tryz.underlying112
theorem zNode (w : World) : (zeroValue 107).run Tryz.prog w = .ok (.pointer none) w := by kernel_rfl
theorem zName (w : World) : (zeroValue 3).run Tryz.prog w = .ok (.int .i64 0) w := by kernel_rfl
inductive TTag
  | tree | all | node (n : Int) | names (n : Int) | pool
structure TShape where
  ma : Nat
  pb : Nat
  na : Int → Nat
  nm : Int → Nat
  tag : Nat → Option TTag
def nodeC (n : Int) (x : NodeV) (mb : Option Nat) : Array Value :=
  #[.int .i64 n, .int .i64 x.kind, .int .i64 x.mode, .int .i64 x.uid, .int .i64 x.gid, .int .i64 0, .int .i64 0, .map mb, .int .i64 x.up, .int .i64 x.links, .int .i64 x.holds, .string x.text, .int .i64 x.file]
def namesB (s : TShape) (n : Int) (x : NodeV) : Option Nat := if x.kind = 1 then some (s.nm n) else none
def namesV (L : List (ByteArray × Int)) : List (ByteArray × Value) := L.map fun e => (e.1, .int .i64 e.2)
def nodesV (s : TShape) (L : List Nod) : List (Int × Value) := L.map fun x => (x.1, ptr (s.na x.1))
structure TreeIn (w : World) (tb : Nat) (s : TShape) (T : TreeV) : Prop where
  head : w.heap[tb]? = some (.cells #[.int .i64 T.most, ptr s.pb, .map (some s.ma), .int .i64 T.made, .int .i64 T.turns] 111 (0, 0))
  all : MapAt w s.ma kInt (nodesV s T.all)
  node : ∀ x ∈ T.all, w.heap[s.na x.1]? = some (.cells (nodeC x.1 x.2 (namesB s x.1 x.2)) 114 (0, 0))
  names : ∀ x ∈ T.all, x.2.kind = 1 → MapAt w (s.nm x.1) kStr (namesV x.2.names)
  pool : PoolAt w s.pb (fun b => s.tag b = some .pool) T.pool
  tTree : s.tag tb = some .tree
  tAll : s.tag s.ma = some .all
  tNode : ∀ x ∈ T.all, s.tag (s.na x.1) = some (.node x.1)
  tNames : ∀ x ∈ T.all, x.2.kind = 1 → s.tag (s.nm x.1) = some (.names x.1)
  lt : ∀ b g, s.tag b = some g → b < w.heap.size
abbrev TShape.has (s : TShape) (b : Nat) : Prop := s.tag b ≠ none
theorem tag_ne {s : TShape} {a b : Nat} {x y : TTag} (ha : s.tag a = some x) (hb : s.tag b = some y) (h : x ≠ y) : a ≠ b := by
  rintro rfl
  rw [ha] at hb
  exact h (Option.some.inj hb)
theorem has_of {s : TShape} {a : Nat} {x : TTag} (ha : s.tag a = some x) : s.has a := by unfold TShape.has; rw [ha]; simp
theorem nodes_nodup {w : World} {tb : Nat} {s : TShape} {T : TreeV} (h : TreeIn w tb s T) : (T.all.map Prod.fst).Nodup := by
  have := h.all.nodup
  unfold nodesV at this
  rw [List.map_map] at this
  exact this
namespace TreeIn
variable {w w' : World} {tb : Nat} {s : TShape} {T : TreeV}
theorem keep (h : TreeIn w tb s T) {S : Nat → Prop} (K : Keep w w' S) (hS : ∀ b, s.has b → ¬ S b) : TreeIn w' tb s T :=
  ⟨K.get h.head (hS _ (has_of h.tTree)), h.all.keep K (hS _ (has_of h.tAll)), fun x hx => K.get (h.node x hx) (hS _ (has_of (h.tNode x hx))), fun x hx k => (h.names x hx k).keep K (hS _ (has_of (h.tNames x hx k))),
    h.pool.keep K (fun b q => hS b (has_of q)), h.tTree, h.tAll, h.tNode, h.tNames, fun b g q => Nat.lt_of_lt_of_le (h.lt b g q) K.size⟩
theorem aside (h : TreeIn w tb s T) (K : Keep w w' (fun _ => False)) : TreeIn w' tb s T := h.keep K (fun _ _ q => q)
theorem node_at (h : TreeIn w tb s T) {n : Int} {x : NodeV} (hx : aget T.all n = some x) : w.heap[s.na n]? = some (.cells (nodeC n x (namesB s n x)) 114 (0, 0)) := h.node _ (aget_memN hx)
theorem names_at (h : TreeIn w tb s T) {n : Int} {x : NodeV} (hx : aget T.all n = some x) (hk : x.kind = 1) : MapAt w (s.nm n) kStr (namesV x.names) := h.names _ (aget_memN hx) hk
theorem tnode (h : TreeIn w tb s T) {n : Int} {x : NodeV} (hx : aget T.all n = some x) : s.tag (s.na n) = some (.node n) := h.tNode _ (aget_memN hx)
theorem tnames (h : TreeIn w tb s T) {n : Int} {x : NodeV} (hx : aget T.all n = some x) (hk : x.kind = 1) : s.tag (s.nm n) = some (.names n) := h.tNames _ (aget_memN hx) hk
theorem look (h : TreeIn w tb s T) (n : Int) :
    (Instr.lookup 109 (.map (some s.ma)) (.int .i64 n) false).run Tryz.prog w = .ok (if (aget T.all n).isSome then ptr (s.na n) else .pointer none) w := by
  have l := lookup_run (P := Tryz.prog) kNodes tNodes zNode h.all n false
  unfold nodesV at l
  rw [aget_map T.all (fun k _ => ptr (s.na k))] at l
  simp only [Bool.false_eq_true, if_false] at l
  rw [show kInt n = Value.int .i64 n from rfl] at l
  rw [l]
  cases aget T.all n <;> rfl
theorem setHead (h : TreeIn w tb s T) (K : Keep w w' (fun b => b = tb)) {t : Int} (hw : w'.heap[tb]? = some (.cells #[.int .i64 T.most, ptr s.pb, .map (some s.ma), .int .i64 T.made, .int .i64 t] 111 (0, 0))) : TreeIn w' tb s { T with turns := t } :=
  ⟨hw, h.all.keep K (tag_ne h.tAll h.tTree (by simp)), fun x hx => K.get (h.node x hx) (tag_ne (h.tNode x hx) h.tTree (by simp)), fun x hx k => (h.names x hx k).keep K (tag_ne (h.tNames x hx k) h.tTree (by simp)),
    h.pool.keep K (fun b q => tag_ne q h.tTree (by simp)), h.tTree, h.tAll, h.tNode, h.tNames, fun b g q => Nat.lt_of_lt_of_le (h.lt b g q) K.size⟩
theorem nodesV_keys {L M : List Nod} (h : L.map Prod.fst = M.map Prod.fst) : nodesV s L = nodesV s M := by
  have e : ∀ L : List Nod, nodesV s L = (L.map Prod.fst).map fun n => (n, ptr (s.na n)) := fun L => by unfold nodesV; rw [List.map_map]; rfl
  rw [e, e, h]
theorem mem_set (h : TreeIn w tb s T) {n : Int} {x x' : NodeV} (hx : aget T.all n = some x) {y : Nod} (hy : y ∈ aset T.all n x') : y = (n, x') ∨ (y ∈ T.all ∧ y.1 ≠ n) := mem_asetN (nodes_nodup h) hx hy
theorem setNode (h : TreeIn w tb s T) {n : Int} {x x' : NodeV} (hx : aget T.all n = some x) (hk : x'.kind = x.kind) (hn : x'.names = x.names) (K : Keep w w' (fun b => b = s.na n)) (hw : w'.heap[s.na n]? = some (.cells (nodeC n x' (namesB s n x')) 114 (0, 0))) :
    TreeIn w' tb s (T.set n x') := by
  have hm := aget_memN hx
  have ht := h.tNode _ hm
  refine ⟨K.get h.head (tag_ne h.tTree ht (by simp)), ?_, fun y hy => ?_, fun y hy k => ?_, h.pool.keep K (fun b q => tag_ne q ht (by simp)), h.tTree, h.tAll, fun y hy => ?_, fun y hy k => ?_, fun b g q => Nat.lt_of_lt_of_le (h.lt b g q) K.size⟩
  · have e : nodesV s (T.set n x').all = nodesV s T.all := nodesV_keys (aset_keys hx)
    rw [e]
    exact h.all.keep K (tag_ne h.tAll ht (by simp))
  · rcases h.mem_set hx hy with q | ⟨q, q2⟩
    · rw [q]; exact hw
    · exact K.get (h.node y q) (tag_ne (h.tNode y q) ht (by simpa using q2))
  · rcases h.mem_set hx hy with q | ⟨q, q2⟩
    · rw [q] at k ⊢
      simp only at k ⊢
      rw [hn]
      exact (h.names _ hm (by simp only; rw [← hk]; exact k)).keep K (tag_ne (h.tNames _ hm (by simp only; rw [← hk]; exact k)) ht (by simp))
    · exact (h.names y q k).keep K (tag_ne (h.tNames y q k) ht (by simp))
  · rcases h.mem_set hx hy with q | ⟨q, q2⟩
    · rw [q]; exact ht
    · exact h.tNode y q
  · rcases h.mem_set hx hy with q | ⟨q, q2⟩
    · rw [q] at k ⊢
      simp only at k ⊢
      exact h.tNames _ hm (by simp only; rw [← hk]; exact k)
    · exact h.tNames y q k
theorem setNames (h : TreeIn w tb s T) {n : Int} {x : NodeV} (hx : aget T.all n = some x) (hk : x.kind = 1) {L : List (ByteArray × Int)} (K : Keep w w' (fun b => b = s.nm n)) (hw : MapAt w' (s.nm n) kStr (namesV L)) :
    TreeIn w' tb s (T.set n { x with names := L }) := by
  have hm := aget_memN hx
  have ht := h.tNames _ hm hk
  refine ⟨K.get h.head (tag_ne h.tTree ht (by simp)), ?_, fun y hy => ?_, fun y hy k => ?_, h.pool.keep K (fun b q => tag_ne q ht (by simp)), h.tTree, h.tAll, fun y hy => ?_, fun y hy k => ?_, fun b g q => Nat.lt_of_lt_of_le (h.lt b g q) K.size⟩
  · have e : nodesV s (T.set n { x with names := L }).all = nodesV s T.all := nodesV_keys (aset_keys hx)
    rw [e]
    exact h.all.keep K (tag_ne h.tAll ht (by simp))
  · rcases h.mem_set hx hy with q | ⟨q, q2⟩
    · rw [q]; exact K.get (h.node (n, x) hm) (tag_ne (h.tNode (n, x) hm) ht (by simp))
    · exact K.get (h.node y q) (tag_ne (h.tNode y q) ht (by simp))
  · rcases h.mem_set hx hy with q | ⟨q, q2⟩
    · rw [q]; exact hw
    · exact (h.names y q k).keep K (tag_ne (h.tNames y q k) ht (by simpa using q2))
  · rcases h.mem_set hx hy with q | ⟨q, q2⟩
    · rw [q]; exact h.tNode (n, x) hm
    · exact h.tNode y q
  · rcases h.mem_set hx hy with q | ⟨q, q2⟩
    · rw [q]; exact ht
    · exact h.tNames y q k
theorem delNode (h : TreeIn w tb s T) {n : Int} (K : Keep w w' (fun b => b = s.ma)) (hw : MapAt w' s.ma kInt (nodesV s (adel T.all n))) : TreeIn w' tb s { T with all := adel T.all n } :=
  ⟨K.get h.head (tag_ne h.tTree h.tAll (by simp)), hw, fun y hy => K.get (h.node y (mem_adel_any hy)) (tag_ne (h.tNode y (mem_adel_any hy)) h.tAll (by simp)),
    fun y hy k => (h.names y (mem_adel_any hy) k).keep K (tag_ne (h.tNames y (mem_adel_any hy) k) h.tAll (by simp)), h.pool.keep K (fun b q => tag_ne q h.tAll (by simp)), h.tTree, h.tAll,
    fun y hy => h.tNode y (mem_adel_any hy), fun y hy k => h.tNames y (mem_adel_any hy) k, fun b g q => Nat.lt_of_lt_of_le (h.lt b g q) K.size⟩
theorem nodesV_adel (L : List Nod) (n : Int) : adel (nodesV s L) n = nodesV s (adel L n) := by
  induction L with
  | nil => rfl
  | cons y r ih =>
    obtain ⟨a, u⟩ := y
    simp only [nodesV, List.map_cons, adel]
    split
    · rfl
    · simp only [List.map_cons]
      exact congrArg _ ih
end TreeIn
theorem namesV_aset (L : List (ByteArray × Int)) (k : ByteArray) (n : Int) : aset (namesV L) k (.int .i64 n) = namesV (aset L k n) := by
  induction L with
  | nil => rfl
  | cons y r ih =>
    obtain ⟨a, u⟩ := y
    simp only [namesV, List.map_cons, aset]
    split
    · rfl
    · simp only [List.map_cons]
      exact congrArg _ ih
theorem namesV_adel (L : List (ByteArray × Int)) (k : ByteArray) : adel (namesV L) k = namesV (adel L k) := by
  induction L with
  | nil => rfl
  | cons y r ih =>
    obtain ⟨a, u⟩ := y
    simp only [namesV, List.map_cons, adel]
    split
    · rfl
    · simp only [List.map_cons]
      exact congrArg _ ih
theorem namesV_aget (L : List (ByteArray × Int)) (k : ByteArray) : aget (namesV L) k = (aget L k).map (Value.int .i64) := by
  induction L with
  | nil => rfl
  | cons y r ih =>
    obtain ⟨a, u⟩ := y
    simp only [namesV, List.map_cons, aget]
    split
    · rfl
    · exact ih
theorem namesV_len (L : List (ByteArray × Int)) : (namesV L).length = L.length := by unfold namesV; rw [List.length_map]
theorem nodesV_len (s : TShape) (L : List Nod) : (nodesV s L).length = L.length := by unfold nodesV; rw [List.length_map]
theorem names_look {w : World} {mb : Nat} {L : List (ByteArray × Int)} (h : MapAt w mb kStr (namesV L)) (k : ByteArray) (ok : Bool) :
    (Instr.lookup 112 (.map (some mb)) (.string k) ok).run Tryz.prog w = .ok (if ok then .tuple #[.int .i64 ((aget L k).getD 0), .bool (aget L k).isSome] else .int .i64 ((aget L k).getD 0)) w := by
  have l := lookup_run (P := Tryz.prog) kNames tNames zName h k ok
  rw [namesV_aget] at l
  rw [show kStr k = Value.string k from rfl] at l
  rw [l]
  cases aget L k <;> rfl
open Classical in
noncomputable def TShape.pooled (s : TShape) (P : Nat → Prop) : TShape := { s with tag := fun b => if P b then some .pool else if s.tag b = some .pool then none else s.tag b }
theorem TreeIn.setPool {w w' : World} {tb : Nat} {s : TShape} {T : TreeV} (h : TreeIn w tb s T) {P : Nat → Prop} {V : PoolV} (hP : PoolAt w' s.pb P V) (hT : Turn w (fun b => s.tag b = some .pool) w' P) :
    TreeIn w' tb (s.pooled P) { T with pool := V } ∧ ∀ b, (s.pooled P).has b → s.has b ∨ w.heap.size ≤ b := by
  classical
  have old : ∀ {b : Nat} {g : TTag}, s.tag b = some g → g ≠ .pool → ¬ P b := by
    intro b g q hg p
    rcases hT.new b p with z | z
    · rw [z] at q; exact hg (Option.some.inj q).symm
    · have := h.lt b g q; omega
  have nk : ∀ {b : Nat} {g : TTag}, s.tag b = some g → g ≠ .pool → ¬ (s.tag b = some .pool) := by
    intro b g q hg z
    rw [z] at q
    exact hg (Option.some.inj q).symm
  have tg : ∀ {b : Nat} {g : TTag}, s.tag b = some g → g ≠ .pool → (s.pooled P).tag b = some g := by
    intro b g q hg
    show (if P b then some TTag.pool else if s.tag b = some .pool then none else s.tag b) = some g
    rw [if_neg (old q hg), if_neg (nk q hg)]
    exact q
  have hp : (fun b => (s.pooled P).tag b = some TTag.pool) = P := by
    funext b
    apply propext
    show (if P b then some TTag.pool else if s.tag b = some .pool then none else s.tag b) = some TTag.pool ↔ P b
    by_cases p : P b
    · rw [if_pos p]; exact ⟨fun _ => p, fun _ => rfl⟩
    · rw [if_neg p]
      refine ⟨fun q => ?_, fun q => absurd q p⟩
      split at q
      · cases q
      · rename_i z
        exact absurd q z
  have hpool : PoolAt w' (s.pooled P).pb (fun b => (s.pooled P).tag b = some .pool) V := by
    rw [hp]
    exact hP
  refine ⟨⟨hT.keep.get h.head (nk h.tTree (by simp)), h.all.keep hT.keep (nk h.tAll (by simp)), fun x hx => hT.keep.get (h.node x hx) (nk (h.tNode x hx) (by simp)), fun x hx k => (h.names x hx k).keep hT.keep (nk (h.tNames x hx k) (by simp)), hpool,
    tg h.tTree (by simp), tg h.tAll (by simp), fun x hx => tg (h.tNode x hx) (by simp), fun x hx k => tg (h.tNames x hx k) (by simp), ?_⟩, ?_⟩
  · intro b g q
    have q' : (if P b then some TTag.pool else if s.tag b = some .pool then none else s.tag b) = some g := q
    by_cases p : P b
    · exact hP.lt p
    · rw [if_neg p] at q'
      split at q'
      · cases q'
      · exact Nat.lt_of_lt_of_le (h.lt b g q') hT.keep.size
  · intro b q
    by_cases p : P b
    · rcases hT.new b p with z | z
      · exact .inl (has_of z)
      · exact .inr z
    · left
      intro z
      apply q
      show (if P b then some TTag.pool else if s.tag b = some .pool then none else s.tag b) = none
      rw [if_neg p]
      split
      · rfl
      · exact z
end Go.Proofs.YtoanccechefclaaGreatDoor
namespace Go.Proofs.YtoanccechefclaaGreatDoor
open Go Go.RowKit
set_option maxRecDepth 100000
section cells
variable {w : World} {tb : Nat} {s : TShape} {T : TreeV} {n : Int} {x : NodeV}
structure NodeCells (w : World) (b : Nat) (n : Int) (x : NodeV) (mb : Option Nat) : Prop where
  node : w.cell? ⟨b, 0, none⟩ = some (.int .i64 n)
  kind : w.cell? ⟨b, 1, none⟩ = some (.int .i64 x.kind)
  mode : w.cell? ⟨b, 2, none⟩ = some (.int .i64 x.mode)
  uid : w.cell? ⟨b, 3, none⟩ = some (.int .i64 x.uid)
  gid : w.cell? ⟨b, 4, none⟩ = some (.int .i64 x.gid)
  l0 : w.cell? ⟨b, 5, none⟩ = some (.int .i64 0)
  s0 : w.cell? ⟨b, 6, none⟩ = some (.int .i64 0)
  names : w.cell? ⟨b, 7, none⟩ = some (.map mb)
  up : w.cell? ⟨b, 8, none⟩ = some (.int .i64 x.up)
  links : w.cell? ⟨b, 9, none⟩ = some (.int .i64 x.links)
  holds : w.cell? ⟨b, 10, none⟩ = some (.int .i64 x.holds)
  text : w.cell? ⟨b, 11, none⟩ = some (.string x.text)
  file : w.cell? ⟨b, 12, none⟩ = some (.int .i64 x.file)
theorem nodeCells {b : Nat} {mb : Option Nat} {t : TypeId} (h : w.heap[b]? = some (.cells (nodeC n x mb) t (0, 0))) : NodeCells w b n x mb := by
  constructor <;> (rw [cell_blk h]; rfl)
theorem TreeIn.cells (h : TreeIn w tb s T) (hx : aget T.all n = some x) : NodeCells w (s.na n) n x (namesB s n x) := nodeCells (h.node_at hx)
structure HeadCells (w : World) (tb : Nat) (s : TShape) (T : TreeV) : Prop where
  most : w.cell? ⟨tb, 0, none⟩ = some (.int .i64 T.most)
  pool : w.cell? ⟨tb, 1, none⟩ = some (.pointer (some ⟨s.pb, 0, none⟩))
  all : w.cell? ⟨tb, 2, none⟩ = some (.map (some s.ma))
  made : w.cell? ⟨tb, 3, none⟩ = some (.int .i64 T.made)
  turns : w.cell? ⟨tb, 4, none⟩ = some (.int .i64 T.turns)
theorem TreeIn.hcells (h : TreeIn w tb s T) : HeadCells w tb s T := by
  have := h.head
  constructor <;> (rw [cell_blk this]; rfl)
end cells
theorem look_some {w : World} {tb : Nat} {s : TShape} {T : TreeV} (h : TreeIn w tb s T) {n : Int} {x : NodeV} (hx : aget T.all n = some x) :
    (Instr.lookup 109 (.map (some s.ma)) (.int .i64 n) false).run Tryz.prog w = .ok (.pointer (some ⟨s.na n, 0, none⟩)) w := by
  have l := h.look n
  rw [hx] at l
  exact l
theorem look_none {w : World} {tb : Nat} {s : TShape} {T : TreeV} (h : TreeIn w tb s T) {n : Int} (hx : aget T.all n = none) :
    (Instr.lookup 109 (.map (some s.ma)) (.int .i64 n) false).run Tryz.prog w = .ok (.pointer none) w := by
  have l := h.look n
  rw [hx] at l
  exact l
section reads
variable {w : World} {tb : Nat} {s : TShape} {T : TreeV} (h : TreeIn w tb s T)
include h
theorem tdir_c (n : Int) : Calls Tryz.prog 64 #[.pointer (some ⟨tb, 0, none⟩), .int .i64 n] w fun e w' => e = .returned (if T.isDir n then .pointer (some ⟨s.na n, 0, none⟩) else .pointer none) ∧ w = w' := by
  have c0 := h.hcells.all
  unfold TreeV.isDir TreeV.dir
  cases hx : aget T.all n with
  | none =>
    have l := look_none h hx
    clear h hx
    go_enter Tryz.func64, Tryz.ntmps64
    go_wp2
    go_ret
    exact ⟨rfl, rfl⟩
  | some x =>
    have l := look_some h hx
    have c1 := (h.cells hx).kind
    by_cases hk : x.kind = 1
    · have e : (Option.filter (fun x => decide (x.kind = 1)) (some x)).isSome = true := by simp [Option.filter, hk]
      rw [e]
      simp only [hk] at c1
      clear h hx e hk
      go_enter Tryz.func64, Tryz.ntmps64
      go_wp2
      go_ret
      exact ⟨rfl, rfl⟩
    · have e : (Option.filter (fun x => decide (x.kind = 1)) (some x)).isSome = false := by simp [Option.filter, hk]
      rw [e]
      have g : (x.kind != 1) = true := by simpa using hk
      clear h hx e hk
      go_enter Tryz.func64, Tryz.ntmps64
      go_wp2
      go_ret
      exact ⟨rfl, rfl⟩
theorem tnamed_c {n : Int} {x : NodeV} (hx : aget T.all n = some x) : Calls Tryz.prog 69 #[.pointer (some ⟨s.na n, 0, none⟩)] w fun e w' => e = .returned (.bool (TreeV.named n x)) ∧ w = w' := by
  have c0 := (h.cells hx).node
  have c1 := (h.cells hx).links
  unfold TreeV.named
  clear h hx
  go_enter Tryz.func69, Tryz.ntmps69
  by_cases h1 : n = 1
  · simp only [h1] at c0
    go_wp2
    go_ret
    simp [h1]
  · have g : (n == 1) = false := by simpa using h1
    go_wp2
    go_ret
    simp [h1]
theorem tfind_c (d : Int) (k : ByteArray) : Calls Tryz.prog 125 #[.pointer (some ⟨tb, 0, none⟩), .int .i64 d, .string k] w fun e w' => e = .returned (.tuple #[.int .i64 (T.find d k).1, .bool (T.find d k).2]) ∧ w = w' := by
  have hd := tdir_c h d
  cases hx : T.dir d with
  | none =>
    unfold TreeV.isDir at hd
    rw [hx] at hd
    simp only [Option.isSome_none, Bool.false_eq_true, if_false] at hd
    have e : T.find d k = (0, false) := by unfold TreeV.find; rw [hx]
    rw [e]
    clear h hx e
    go_enter Tryz.func125, Tryz.ntmps125
    go_wp2_with (
      go_at_call 64
      refine hd.mono ?_
      rintro e w1 ⟨rfl, rfl⟩
      clear hd)
    go_ret2
    exact ⟨rfl, rfl⟩
  | some x =>
    unfold TreeV.isDir at hd
    rw [hx] at hd
    simp only [Option.isSome_some, if_true] at hd
    obtain ⟨hg, hk⟩ := TreeV.dir_some hx
    have c1 := (h.cells hg).names
    unfold namesB at c1
    rw [if_pos hk] at c1
    have l := names_look (h.names_at hg hk) k true
    simp only [if_true] at l
    have e : T.find d k = ((aget x.names k).getD 0, (aget x.names k).isSome) := by
      unfold TreeV.find
      rw [hx]
      simp only
      cases aget x.names k <;> rfl
    rw [e]
    generalize (aget x.names k).isSome = b at *
    generalize (aget x.names k).getD 0 = r at *
    clear h hx hg hk e
    go_enter Tryz.func125, Tryz.ntmps125
    go_wp2_with (
      go_at_call 64
      refine hd.mono ?_
      rintro e w1 ⟨rfl, rfl⟩
      clear hd)
    go_ret2
    exact ⟨rfl, rfl⟩
theorem tup_c (d : Int) : Calls Tryz.prog 111 #[.pointer (some ⟨tb, 0, none⟩), .int .i64 d] w fun e w' => e = .returned (.int .i64 (T.upOf d)) ∧ w = w' := by
  have hd := tdir_c h d
  unfold TreeV.upOf
  cases hx : T.dir d with
  | none =>
    unfold TreeV.isDir at hd
    rw [hx] at hd
    simp only [Option.isSome_none, Bool.false_eq_true, if_false] at hd
    clear h hx
    go_enter Tryz.func111, Tryz.ntmps111
    go_wp2_with (
      go_at_call 64
      refine hd.mono ?_
      rintro e w1 ⟨rfl, rfl⟩
      clear hd)
    go_ret
    exact ⟨rfl, rfl⟩
  | some x =>
    unfold TreeV.isDir at hd
    rw [hx] at hd
    simp only [Option.isSome_some, if_true] at hd
    obtain ⟨hg, hk⟩ := TreeV.dir_some hx
    have c1 := (h.cells hg).up
    have hn := tnamed_c h hg
    dsimp only
    cases hb : TreeV.named d x with
    | true =>
      rw [hb] at hn
      simp only [if_true]
      clear h hx hg hk hb
      go_enter Tryz.func111, Tryz.ntmps111
      go_wp2_with (first
        | (go_at_call 64
           refine hd.mono ?_
           rintro e w1 ⟨rfl, rfl⟩
           clear hd)
        | (go_at_call 69
           refine hn.mono ?_
           rintro e w1 ⟨rfl, rfl⟩
           clear hn))
      go_ret
      exact ⟨rfl, rfl⟩
    | false =>
      rw [hb] at hn
      simp only [Bool.false_eq_true, if_false]
      clear h hx hg hk hb
      go_enter Tryz.func111, Tryz.ntmps111
      go_wp2_with (first
        | (go_at_call 64
           refine hd.mono ?_
           rintro e w1 ⟨rfl, rfl⟩
           clear hd)
        | (go_at_call 69
           refine hn.mono ?_
           rintro e w1 ⟨rfl, rfl⟩
           clear hn))
      go_ret
      exact ⟨rfl, rfl⟩
theorem ttext_c (n : Int) : Calls Tryz.prog 127 #[.pointer (some ⟨tb, 0, none⟩), .int .i64 n] w fun e w' => e = .returned (.string (T.textOf n)) ∧ w = w' := by
  have c0 := h.hcells.all
  unfold TreeV.textOf
  cases hx : aget T.all n with
  | none =>
    have l := look_none h hx
    clear h hx
    go_enter Tryz.func127, Tryz.ntmps127
    go_wp2
    go_ret
    exact ⟨rfl, rfl⟩
  | some x =>
    have l := look_some h hx
    have c1 := (h.cells hx).text
    clear h hx
    go_enter Tryz.func127, Tryz.ntmps127
    go_wp2
    go_ret
    exact ⟨rfl, rfl⟩
theorem tfree_c {n : Int} {x : NodeV} (hx : aget T.all n = some x) (hk : x.kind = 1) (k : ByteArray) : Calls Tryz.prog 66 #[.pointer (some ⟨tb, 0, none⟩), .pointer (some ⟨s.na n, 0, none⟩), .string k] w fun e w' => e = .returned (.int .i64 (TreeV.free n x k)) ∧ w = w' := by
  have c1 := (h.cells hx).names
  unfold namesB at c1
  rw [if_pos hk] at c1
  have l := names_look (h.names_at hx hk) k true
  simp only [if_true] at l
  have hn := tnamed_c h hx
  unfold TreeV.free
  generalize (aget x.names k).isSome = b at *
  generalize (aget x.names k).getD 0 = r at *
  generalize TreeV.named n x = m at *
  clear h hx hk
  cases b <;> cases m
  all_goals
    go_enter Tryz.func66, Tryz.ntmps66
    go_wp2_with (
      go_at_call 69
      refine hn.mono ?_
      rintro e w1 ⟨rfl, rfl⟩
      clear hn)
    go_ret
    exact ⟨rfl, rfl⟩
end reads
end Go.Proofs.YtoanccechefclaaGreatDoor
namespace Go.Proofs.YtoanccechefclaaGreatDoor
open Go Go.RowKit
set_option maxRecDepth 100000
open Classical in
noncomputable def cntD (p : Int → Bool) (D : List ByteArray) (L : List (ByteArray × Int)) : Nat := (L.filter fun e => decide (e.1 ∈ D) && p e.2).length
open Classical in
noncomputable def restD (D : List ByteArray) (L : List (ByteArray × Int)) : Nat := (L.filter fun e => decide (e.1 ∉ D)).length
theorem cntD_nil (p : Int → Bool) (L : List (ByteArray × Int)) : cntD p [] L = 0 := by simp [cntD]
theorem cntD_all {p : Int → Bool} {D : List ByteArray} {L : List (ByteArray × Int)} (h : ∀ e ∈ L, e.1 ∈ D) : cntD p D L = (L.filter fun e => p e.2).length := by
  classical
  unfold cntD
  congr 1
  apply List.filter_congr
  intro e he
  simp [h e he]
theorem cntD_le (p : Int → Bool) (D : List ByteArray) (L : List (ByteArray × Int)) : cntD p D L ≤ L.length := List.length_filter_le ..
theorem cntD_cons {p : Int → Bool} {D : List ByteArray} {L : List (ByteArray × Int)} (hn : (L.map Prod.fst).Nodup) {e : ByteArray × Int} (he : e ∈ L) (hD : e.1 ∉ D) : cntD p (e.1 :: D) L = cntD p D L + if p e.2 then 1 else 0 := by
  classical
  induction L with
  | nil => cases he
  | cons y r ih =>
    simp only [List.map_cons, List.nodup_cons] at hn
    unfold cntD at ih ⊢
    simp only [List.filter_cons]
    rcases List.mem_cons.1 he with q | q
    · subst q
      have e1 : (r.filter fun f => decide (f.1 ∈ e.1 :: D) && p f.2) = r.filter fun f => decide (f.1 ∈ D) && p f.2 := by
        apply List.filter_congr
        intro f hf
        have : f.1 ≠ e.1 := fun z => hn.1 (by rw [← z]; exact List.mem_map_of_mem (f := Prod.fst) hf)
        simp [this]
      rw [e1]
      simp only [hD, List.mem_cons_self, decide_true, decide_false, Bool.true_and, Bool.false_and, Bool.false_eq_true, if_false]
      by_cases z : p e.2 = true
      · simp [z]
      · simp [z]
    · have hne : y.1 ≠ e.1 := fun z => hn.1 (by rw [z]; exact List.mem_map_of_mem (f := Prod.fst) q)
      have ih' := ih hn.2 q
      have e1 : (decide (y.1 ∈ e.1 :: D) && p y.2) = (decide (y.1 ∈ D) && p y.2) := by simp [hne]
      rw [e1]
      split
      · simp only [List.length_cons]; omega
      · exact ih'
theorem restD_cons {D : List ByteArray} {L : List (ByteArray × Int)} {e : ByteArray × Int} (he : e ∈ L) (hD : e.1 ∉ D) : restD (e.1 :: D) L < restD D L := by
  classical
  unfold restD
  have hsub : (L.filter fun f => decide (f.1 ∉ e.1 :: D)).length = ((L.filter fun f => decide (f.1 ∉ D)).filter fun f => decide (f.1 ≠ e.1)).length := by
    rw [List.filter_filter]
    congr 1
    apply List.filter_congr
    intro f _
    by_cases q : f.1 = e.1
    · simp [q]
    · simp [q]
  rw [hsub]
  exact List.length_filter_lt_length_iff_exists.2 ⟨e, List.mem_filter.2 ⟨he, by simpa using hD⟩, by simp⟩
set_option maxHeartbeats 1000000 in
theorem tdirs_c {w : World} {tb : Nat} {s : TShape} {T : TreeV} (h : TreeIn w tb s T) {n : Int} {x : NodeV} (hx : aget T.all n = some x) (hk : x.kind = 1) (hl : x.names.length ≤ 1000000) :
    Calls Tryz.prog 56 #[.pointer (some ⟨tb, 0, none⟩), .pointer (some ⟨s.na n, 0, none⟩)] w fun e w' => e = .returned (.int .i64 (T.dirs n x)) ∧ Keep w w' (fun _ => False) := by
  have hn := tnamed_c h hx
  unfold TreeV.dirs
  cases hb : TreeV.named n x with
  | false =>
    rw [hb] at hn
    simp only [Bool.false_eq_true, if_false]
    clear h hx hk hl hb
    go_enter Tryz.func56, Tryz.ntmps56
    go_wp2_with (
      go_at_call 69
      refine hn.mono ?_
      rintro e w1 ⟨rfl, rfl⟩
      clear hn)
    go_ret
    exact ⟨rfl, Keep.refl _ _⟩
  | true =>
    rw [hb] at hn
    simp only [if_true]
    have c1 := (h.cells hx).names
    unfold namesB at c1
    rw [if_pos hk] at c1
    obtain ⟨B, cl, hB⟩ := h.names_at hx hk
    have hnd : (x.names.map Prod.fst).Nodup := by
      have := hB.2.2.1
      unfold namesV at this
      rw [List.map_map] at this
      exact this
    have H := Lib.hid (And.intro h (And.intro hB hnd))
    clear h hx hk hb hB hnd
    go_enter Tryz.func56, Tryz.ntmps56
    go_wp2_with (first
      | (go_at_call 69
         refine hn.mono ?_
         rintro e w1 ⟨rfl, rfl⟩
         clear hn)
      | (at_range
         refine law_range rfl _ _ rfl tNames rfl H.out.2.1 ?_
         intro w1 it hit hi1 hm1 hk1 hil
         have I := Lib.hid (And.intro hit (And.intro hi1 (And.intro hm1 (And.intro hk1 hil))))
         clear hit hi1 hm1 hk1 hil))
    simp only [Act.put, List.setIfInBounds_toArray, List.set_cons_succ, List.set_cons_zero]
    go_loopg [5] (restD [] x.names) (fun g s5 wr => ∃ D, g = restD D x.names ∧ s5 = .int .i64 (2 + cntD T.isDir D x.names) ∧ IterAt wr it (s.nm n) (namesV x.names) B D ∧ Keep w wr (fun _ => False))
    case atStart =>
      refine ⟨[], rfl, by rw [cntD_nil]; rfl, I.out.2.1, I.out.2.2.2.1⟩
    case round =>
      obtain ⟨D, hg, rfl, hi, hkr⟩ := hrel
      have hm := H.out.2.1.keep hkr (fun q => q)
      have hitb : it ≠ s.nm n := by have := I.out.1; have := lt_of_blk H.out.2.1.2.1; omega
      have hle := cntD_le T.isDir D x.names
      have C := Lib.hid (And.intro hg (And.intro hi (And.intro hkr hm)))
      clear hg hi hkr hm
      generalize hcn : cntD T.isDir D x.names = cn at *
      have HCN := Lib.hid hcn
      clear hcn
      go_wp2_with (first
        | (at_next
           refine law_next rfl _ rfl rfl C.out.2.2.2 C.out.2.1 hitb ?_ ?_)
        | (intro w1 hall hk1
           have A := Lib.hid (And.intro hall hk1)
           clear hall hk1)
        | (intro w1 y1 y2 hy hyD hen hm1 hi1 hk1
           obtain ⟨e, he, heq⟩ := List.mem_map.1 hy
           simp only [Prod.mk.injEq] at heq
           obtain ⟨rfl, rfl⟩ := heq
           have k1 : Keep w w1 (fun _ => False) := C.out.2.2.1.trans hk1 (fun b q => .inr (by have := I.out.1; omega))
           have hd := tdir_c (H.out.1.aside k1) e.2
           have A := Lib.hid (And.intro he (And.intro hyD (And.intro hi1 k1)))
           unfold kStr at hen
           clear hy hyD hm1 hi1 hk1 k1 he
           obtain ⟨di, hdi⟩ : ∃ di, T.isDir e.2 = di := ⟨_, rfl⟩
           rw [hdi] at hd
           have HD := Lib.hid hdi
           clear hdi
           cases di <;> simp only [Bool.false_eq_true, if_false, if_true] at hd)
        | (go_at_call 64
           refine hd.mono ?_
           rintro e' w1 ⟨rfl, rfl⟩
           clear hd))
      · go_ret
        obtain ⟨hall, hk1⟩ := A.out
        rw [← HCN.out, cntD_all (fun e he => hall (e.1, .int .i64 e.2) (List.mem_map_of_mem he))]
        exact ⟨rfl, C.out.2.2.1.trans hk1 (fun b q => .inr (by have := I.out.1; omega))⟩
      all_goals
        obtain ⟨he, hyD, hi1, k1⟩ := A.out
        have hc := cntD_cons (p := T.isDir) H.out.2.2 he hyD
        rw [HCN.out, HD.out] at hc
        simp only [Bool.false_eq_true, if_false, if_true] at hc
        go_roundg (restD (e.1 :: D) x.names)
        case measure => have := restD_cons he hyD; have := C.out.1; omega
        case rel => exact ⟨e.1 :: D, rfl, by rw [hc]; go_num, hi1, k1⟩
end Go.Proofs.YtoanccechefclaaGreatDoor
namespace Go.Proofs.YtoanccechefclaaGreatDoor
open Go Go.RowKit
set_option maxRecDepth 100000
def statC (x : TreeV.StatV) : Array Value := #[.int .i64 x.node, .int .i64 x.kind, .int .i64 x.mode, .int .i64 x.uid, .int .i64 x.gid, .int .i64 x.links, .int .i64 x.size]
theorem tstat_res {W : World} {b : Nat} {x : TreeV.StatV} {ok : Bool} {A : Array Value} (z : W.heap[b]? = some (.cells (statC x) 36 (0, 0))) (h4 : A.getD 4 undef = .pointer (some ⟨b, 0, none⟩)) (h5 : A.getD 5 undef = .bool ok) :
    (results Tryz.f20 A).run Tryz.prog W = .ok (.tuple #[.agg (statC x), .bool ok]) W := by
  have y0 : W.cell? ⟨b, 0, none⟩ = some (.int .i64 x.node) := by rw [cell_blk z]; rfl
  have y1 : W.cell? ⟨b, 1, none⟩ = some (.int .i64 x.kind) := by rw [cell_blk z]; rfl
  have y2 : W.cell? ⟨b, 2, none⟩ = some (.int .i64 x.mode) := by rw [cell_blk z]; rfl
  have y3 : W.cell? ⟨b, 3, none⟩ = some (.int .i64 x.uid) := by rw [cell_blk z]; rfl
  have y4 : W.cell? ⟨b, 4, none⟩ = some (.int .i64 x.gid) := by rw [cell_blk z]; rfl
  have y5 : W.cell? ⟨b, 5, none⟩ = some (.int .i64 x.links) := by rw [cell_blk z]; rfl
  have y6 : W.cell? ⟨b, 6, none⟩ = some (.int .i64 x.size) := by rw [cell_blk z]; rfl
  have h4' : A[4]?.getD undef = .pointer (some ⟨b, 0, none⟩) := by simpa using h4
  have h5' : A[5]?.getD undef = .bool ok := by simpa using h5
  simp [results, Tryz.results20, go_sem, h4', h5', y0, y1, y2, y3, y4, y5, y6, statC]
structure StatAt (w : World) (b : Nat) (x : TreeV.StatV) : Prop where
  blk : w.heap[b]? = some (.cells (statC x) 36 (0, 0))
theorem StatAt.cells {w : World} {b : Nat} {x : TreeV.StatV} (h : StatAt w b x) :
    w.cell? ⟨b, 0, none⟩ = some (.int .i64 x.node) ∧ w.cell? ⟨b, 1, none⟩ = some (.int .i64 x.kind) ∧ w.cell? ⟨b, 2, none⟩ = some (.int .i64 x.mode) ∧ w.cell? ⟨b, 3, none⟩ = some (.int .i64 x.uid) ∧ w.cell? ⟨b, 4, none⟩ = some (.int .i64 x.gid) ∧
      w.cell? ⟨b, 5, none⟩ = some (.int .i64 x.links) ∧ w.cell? ⟨b, 6, none⟩ = some (.int .i64 x.size) := by
  refine ⟨?_, ?_, ?_, ?_, ?_, ?_, ?_⟩ <;> (rw [cell_blk h.blk]; rfl)
theorem StatAt.free {w : World} {b : Nat} {x : TreeV.StatV} (h : StatAt w b x) (i : Nat) : w.frozen? ⟨b, i, none⟩ = false := free_blk h.blk i
theorem names_len {w : World} {mb : Nat} {L : List (ByteArray × Int)} (h : MapAt w mb kStr (namesV L)) : (Builtin.len_ #[112] 3 #[.map (some mb)]).run Tryz.prog w = .ok (.int .i64 L.length) w := by
  have l := len_run (P := Tryz.prog) tNames h 3
  rw [namesV_len] at l
  exact l
theorem tstat_end {w W : World} {b : Nat} {x y : TreeV.StatV} {ok : Bool} {T : TreeV} {n : Int} (hb : StatAt W b y) (K : Keep w W (fun _ => False)) (hlt : w.heap.size ≤ b) (he : T.stat n = (x, ok)) (A : Array Value)
    (h4 : A.getD 4 undef = .pointer (some ⟨b, 0, none⟩)) (h5 : A.getD 5 undef = .bool ok) :
    bodyPost Tryz.prog Tryz.f20 (fun e w' => e = Ending.returned (.tuple #[.agg (statC (T.stat n).1), .bool (T.stat n).2]) ∧ Keep w w' (fun _ => False)) Exit.ret ⟨A, []⟩
      (((((((W.setCell ⟨b, 0, none⟩ (.int .i64 x.node)).setCell ⟨b, 1, none⟩ (.int .i64 x.kind)).setCell ⟨b, 2, none⟩ (.int .i64 x.mode)).setCell ⟨b, 3, none⟩ (.int .i64 x.uid)).setCell ⟨b, 4, none⟩ (.int .i64 x.gid)).setCell ⟨b, 5, none⟩ (.int .i64 x.links)).setCell ⟨b, 6, none⟩ (.int .i64 x.size)) := by
  have s0 := heap_setCell_eq (off := 0) (Value.int .i64 x.node) hb.blk
  have s1 := heap_setCell_eq (off := 1) (Value.int .i64 x.kind) s0
  have s2 := heap_setCell_eq (off := 2) (Value.int .i64 x.mode) s1
  have s3 := heap_setCell_eq (off := 3) (Value.int .i64 x.uid) s2
  have s4 := heap_setCell_eq (off := 4) (Value.int .i64 x.gid) s3
  have s5 := heap_setCell_eq (off := 5) (Value.int .i64 x.links) s4
  have s6 := heap_setCell_eq (off := 6) (Value.int .i64 x.size) s5
  refine bodyPost_ret (tstat_res (x := x) (by simpa [statC] using s6) h4 h5) rfl ⟨by rw [he], ?_⟩
  exact ((((((K.setNew _ _ hlt).setNew _ _ hlt).setNew _ _ hlt).setNew _ _ hlt).setNew _ _ hlt).setNew _ _ hlt).setNew _ _ hlt
set_option maxHeartbeats 2000000 in
theorem tstat_c {w : World} {tb : Nat} {s : TShape} {T : TreeV} (h : TreeIn w tb s T) (hs : T.small 1000000) (n : Int) :
    Calls Tryz.prog 20 #[.pointer (some ⟨tb, 0, none⟩), .int .i64 n] w fun e w' => e = .returned (.tuple #[.agg (statC (T.stat n).1), .bool (T.stat n).2]) ∧ Keep w w' (fun _ => False) := by
  go_enter Tryz.func20, Tryz.ntmps20
  go_upto_region 1 with (fail)
  obtain ⟨wB, hwB⟩ : ∃ wB, wB = w.alloc (.cells #[.int .i64 0, .int .i64 0, .int .i64 0, .int .i64 0, .int .i64 0, .int .i64 0, .int .i64 0] 36) := ⟨_, rfl⟩
  have W0 := boxes1 w (.cells #[.int .i64 0, .int .i64 0, .int .i64 0, .int .i64 0, .int .i64 0, .int .i64 0, .int .i64 0] 36)
  rw [← hwB] at W0
  rw [← hwB]
  clear hwB
  have hB := h.aside W0.1
  have zB := W0.2.2
  have hS : StatAt wB w.heap.size ⟨0, 0, 0, 0, 0, 0, 0⟩ := ⟨W0.2.1⟩
  have c0 := hB.hcells.all
  cases hx : aget T.all n with
  | none =>
    have l := look_none hB hx
    have he : T.stat n = (⟨0, 0, 0, 0, 0, 0, 0⟩, false) := by unfold TreeV.stat; rw [hx]
    have f := hS.free
    obtain ⟨d0, d1, d2, d3, d4, d5, d6⟩ := hS.cells
    have f0 := f 0
    have f1 := f 1
    have f2 := f 2
    have f3 := f 3
    have f4 := f 4
    have f5 := f 5
    have f6 := f 6
    have HW := Lib.hid (And.intro W0 (And.intro hS he))
    clear h hx W0 hB hS he f
    go_wp2
    exact tstat_end HW.out.2.1 HW.out.1.1 (Nat.le_refl _) HW.out.2.2 _ rfl rfl
  | some x =>
    have l := look_some hB hx
    obtain ⟨c1, c2, c3, c4, c5, c6, c7, c8, c9, c10, c11, c12, c13⟩ := hB.cells hx
    have H := Lib.hid (And.intro hB (And.intro hx (And.intro hS W0)))
    clear hB hS W0
    go_upto_region 5 with (fail)
    obtain ⟨wC, hwC⟩ : ∃ wC, wC = wB.alloc (.cells #[.int .i64 n, .int .i64 x.kind, .int .i64 x.mode, .int .i64 x.uid, .int .i64 x.gid, .int .i64 0, .int .i64 0] 36) := ⟨_, rfl⟩
    have W1 := boxes1 wB (.cells #[.int .i64 n, .int .i64 x.kind, .int .i64 x.mode, .int .i64 x.uid, .int .i64 x.gid, .int .i64 0, .int .i64 0] 36)
    rw [← hwC] at W1
    rw [← hwC]
    clear hwC c0 c1 c2 c3 c4 c5 c6 c7 c8 c9 c10 c11 c12 c13 l
    obtain ⟨hB, -, hS, W0⟩ := H.out
    have hC := hB.aside W1.1
    have hS0 : StatAt wC w.heap.size ⟨0, 0, 0, 0, 0, 0, 0⟩ := ⟨W1.1.get hS.blk (fun q => q)⟩
    have hS1 : StatAt wC (w.heap.size + 1) ⟨n, x.kind, x.mode, x.uid, x.gid, 0, 0⟩ := ⟨by rw [← zB]; exact W1.2.1⟩
    have kC : Keep w wC (fun _ => False) := W0.1.aside W1.1
    obtain ⟨c1, c2, c3, c4, c5, c6, c7, c8, c9, c10, c11, c12, c13⟩ := hC.cells hx
    have fA := hS0.free
    have fB := hS1.free
    obtain ⟨d0, d1, d2, d3, d4, d5, d6⟩ := hS0.cells
    obtain ⟨e0, e1, e2, e3, e4, e5, e6⟩ := hS1.cells
    have f0 := fA 0
    have f1 := fA 1
    have f2 := fA 2
    have f3 := fA 3
    have f4 := fA 4
    have f5 := fA 5
    have f6 := fA 6
    have i5 := fB 5
    have i6 := fB 6
    have hne : s.na n ≠ w.heap.size + 1 := fun q => by have := hB.lt _ _ (hB.tnode hx); omega
    have hne0 : s.na n ≠ w.heap.size := fun q => by have := h.lt _ _ (h.tnode hx); omega
    have HC := Lib.hid (And.intro hC (And.intro hx (And.intro hS0 (And.intro hS1 kC))))
    clear hB hS W0 W1 H hC hS0 hS1 kC fA fB hx hne0
    simp only at d0 d1 d2 d3 d4 d5 d6 e0 e1 e2 e3 e4 e5 e6
    by_cases hk : x.kind = 1
    · simp only [hk] at e1 c2
      go_upto_region 9 with (fail)
      obtain ⟨wD, hwD⟩ : ∃ wD, wD = wC.setCell ⟨w.heap.size + 1, 5, none⟩ (.int .i64 x.links) := ⟨_, rfl⟩
      have kD : Keep wC wD (fun b => b = w.heap.size + 1) := by rw [hwD]; exact Keep.setCell _ _ _
      have sD := heap_setCell_eq (off := 5) (Value.int .i64 x.links) HC.out.2.2.2.1.blk
      rw [← hwD] at sD ⊢
      clear hwD
      have hS1 : StatAt wD (w.heap.size + 1) ⟨n, 1, x.mode, x.uid, x.gid, x.links, 0⟩ := ⟨by rw [hk] at sD; exact sD⟩
      have hS0 : StatAt wD w.heap.size ⟨0, 0, 0, 0, 0, 0, 0⟩ := ⟨kD.get HC.out.2.2.1.blk (by omega)⟩
      have hD : TreeIn wD tb s T := h.keep (HC.out.2.2.2.2.trans kD (fun b q => .inr (by omega))) (fun _ _ q => q)
      have kwD : Keep w wD (fun _ => False) := HC.out.2.2.2.2.trans kD (fun b q => .inr (by omega))
      have he : T.stat n = (⟨n, 1, x.mode, x.uid, x.gid, T.dirs n x, x.names.length⟩, true) := by
        unfold TreeV.stat
        rw [HC.out.2.1]
        simp only [TreeV.statOf, hk, if_true]
      have hdl := (hs.node HC.out.2.1).2.2
      have hd : ∀ w', Keep wD w' (fun _ => False) → Calls Tryz.prog 56 #[.pointer (some ⟨tb, 0, none⟩), .pointer (some ⟨s.na n, 0, none⟩)] w' fun e w2 => e = .returned (.int .i64 (T.dirs n x)) ∧ Keep w' w2 (fun _ => False) := fun w' k => tdirs_c (hD.aside k) HC.out.2.1 hk (by omega)
      have hM := hD.names_at HC.out.2.1 hk
      have c8' := (hD.cells HC.out.2.1).names
      unfold namesB at c8'
      rw [if_pos hk] at c8'
      have hnm : s.nm n ≠ w.heap.size + 1 := fun q => by have := h.lt _ _ (h.tnames (show aget T.all n = some x from HC.out.2.1) hk); omega
      have D := Lib.hid (And.intro hS0 (And.intro hS1 (And.intro kwD he)))
      clear c1 c2 c3 c4 c5 c6 c7 c8 c9 c10 c11 c12 c13 d0 d1 d2 d3 d4 d5 d6 e0 e1 e2 e3 e4 e5 e6 f0 f1 f2 f3 f4 f5 f6 i5 i6 kD sD hD hS1 hS0 kwD he hs hdl zB
      generalize hdn : T.dirs n x = dn at *
      clear h
      go_region_held3 (fun w' => w'.cell? ⟨s.na n, 7, none⟩ = some (.map (some (s.nm n))) ∧ (Builtin.len_ #[112] 3 #[.map (some (s.nm n))]).run Tryz.prog w' = .ok (.int .i64 x.names.length) w')
        ((go_split_ands; refine ⟨?_, ?_⟩ <;> first
           | exact hL4
           | exact hL6
           | exact hQ6
           | exact hQ4
           | exact q0
           | exact names_len hM4
           | (refine names_len (MapAt.keep hM (S := fun b => b = w.heap.size + 1) ?_ hnm); repeat (first | exact Keep.refl _ _ | refine Keep.drewNew ?_))
           | go_keep)) (first
        | (go_at_call 56
           refine (hd _ ?_).mono ?_
           · repeat (first | exact Keep.refl _ _ | refine Keep.drewNew ?_)
           rintro e w4 ⟨rfl, k4⟩
           have k5 : Keep wD w4 (fun _ => False) := (Keep.drew wD _).aside k4
           have q0 := k5.cell c8' (fun q => q)
           have hM4 := hM.keep k5 (fun q => q)
           have hN4 := hM4.keep (Keep.setCell w4 ⟨w.heap.size + 1, 5, none⟩ (.int .i64 dn)) hnm
           have hL4 := names_len hN4
           have K2 : Keep w4 ((w4.setCell ⟨w.heap.size + 1, 5, none⟩ (.int .i64 dn)).setCell ⟨w.heap.size + 1, 6, none⟩ (.int .i64 x.names.length)) (fun b => b = w.heap.size + 1) := (Keep.setCell _ _ _).trans (Keep.setCell _ _ _) (fun b q => .inl q)
           have hL6 := names_len (hM4.keep K2 hnm)
           have hQ6 := K2.cell q0 hne
           have hQ4 := (Keep.setCell w4 ⟨w.heap.size + 1, 5, none⟩ (.int .i64 dn)).cell q0 hne
           obtain ⟨e0, e1, e2, e3, e4, e5, e6⟩ := (StatAt.mk (k5.get D.out.2.1.blk (fun q => q))).cells
           obtain ⟨d0, d1, d2, d3, d4, d5, d6⟩ := (StatAt.mk (k5.get D.out.1.blk (fun q => q))).cells
           have i5 := (StatAt.mk (k5.get D.out.2.1.blk (fun q => q))).free 5
           have i6 := (StatAt.mk (k5.get D.out.2.1.blk (fun q => q))).free 6
           have D4 := Lib.hid k5))
      obtain ⟨wE, hwE⟩ : ∃ wE, wE = (w4.setCell ⟨w.heap.size + 1, 5, none⟩ (.int .i64 dn)).setCell ⟨w.heap.size + 1, 6, none⟩ (.int .i64 x.names.length) := ⟨_, rfl⟩
      have t5 := heap_setCell_eq (off := 5) (Value.int .i64 dn) (D4.out.get D.out.2.1.blk (fun q => q))
      have t6 := heap_setCell_eq (off := 6) (Value.int .i64 x.names.length) t5
      rw [← hwE] at K2 t6 ⊢
      have hE1 : StatAt wE (w.heap.size + 1) ⟨n, 1, x.mode, x.uid, x.gid, dn, x.names.length⟩ := ⟨by simpa [statC] using t6⟩
      have kE : Keep w wE (fun _ => False) := (D.out.2.2.1.aside D4.out).trans K2 (fun b q => .inr (by omega))
      have hE0 : StatAt wE w.heap.size ⟨0, 0, 0, 0, 0, 0, 0⟩ := ⟨K2.get (D4.out.get D.out.1.blk (fun q => q)) (by omega)⟩
      clear hwE t5 t6 K2 hL4 hL6 hQ4 hQ6 hN4 hM4 q0 i5 i6 e0 e1 e2 e3 e4 e5 e6 d0 d1 d2 d3 d4 d5 d6
      obtain ⟨e0, e1, e2, e3, e4, e5, e6⟩ := hE1.cells
      obtain ⟨d0, d1, d2, d3, d4, d5, d6⟩ := hE0.cells
      have f := hE0.free
      have f0 := f 0
      have f1 := f 1
      have f2 := f 2
      have f3 := f 3
      have f4 := f 4
      have f5 := f 5
      have f6 := f 6
      simp only at d0 d1 d2 d3 d4 d5 d6 e0 e1 e2 e3 e4 e5 e6
      have E := Lib.hid (And.intro hE0 kE)
      clear hE0 hE1 kE f
      go_wp2
      exact tstat_end E.out.1 E.out.2 (Nat.le_refl _) D.out.2.2.2 _ rfl rfl
    · have g1 : (x.kind == 1) = false := by simpa using hk
      by_cases hk2 : x.kind = 2
      · have he : T.stat n = (⟨n, 2, x.mode, x.uid, x.gid, x.links, T.pool.size x.file⟩, true) := by
          unfold TreeV.stat
          rw [HC.out.2.1]
          simp only [TreeV.statOf, hk2, show ¬ ((2 : Int) = 1) by decide, if_true, if_false]
        simp only [hk2] at e1 c2
        clear hk g1
        go_upto_region 11 with (fail)
        obtain ⟨wD, hwD⟩ : ∃ wD, wD = wC.setCell ⟨w.heap.size + 1, 5, none⟩ (.int .i64 x.links) := ⟨_, rfl⟩
        have kD : Keep wC wD (fun b => b = w.heap.size + 1) := by rw [hwD]; exact Keep.setCell _ _ _
        have sD := heap_setCell_eq (off := 5) (Value.int .i64 x.links) HC.out.2.2.2.1.blk
        rw [← hwD] at sD ⊢
        clear hwD
        have hS1 : StatAt wD (w.heap.size + 1) ⟨n, 2, x.mode, x.uid, x.gid, x.links, 0⟩ := ⟨by rw [hk2] at sD; exact sD⟩
        have hS0 : StatAt wD w.heap.size ⟨0, 0, 0, 0, 0, 0, 0⟩ := ⟨kD.get HC.out.2.2.1.blk (by omega)⟩
        have kwD : Keep w wD (fun _ => False) := HC.out.2.2.2.2.trans kD (fun b q => .inr (by omega))
        have hD : TreeIn wD tb s T := h.aside kwD
        have hz : ∀ w', Keep wD w' (fun _ => False) → Calls Tryz.prog 57 #[.pointer (some ⟨s.pb, 0, none⟩), .int .i64 x.file] w' fun e w2 => e = .returned (.int .i64 (T.pool.size x.file)) ∧ w' = w2 := fun w' k => size_c (hD.aside k).pool x.file
        have q1 := hD.hcells.pool
        have q2 := (hD.cells HC.out.2.1).file
        have ht1 : tb ≠ w.heap.size + 1 := fun q => by have := h.lt _ _ h.tTree; omega
        have D := Lib.hid (And.intro hS0 (And.intro hS1 (And.intro kwD he)))
        clear c1 c2 c3 c4 c5 c6 c7 c8 c9 c10 c11 c12 c13 d0 d1 d2 d3 d4 d5 d6 e0 e1 e2 e3 e4 e5 e6 f0 f1 f2 f3 f4 f5 f6 i5 i6 kD sD hD hS1 hS0 kwD he hs zB
        generalize hdn : T.pool.size x.file = dn at *
        have hQ1 := (Keep.setCell wD.drew ⟨w.heap.size + 1, 6, none⟩ (.int .i64 dn)).cell (show wD.drew.cell? ⟨tb, 1, none⟩ = _ from q1) ht1
        have hQ2 := (Keep.setCell wD.drew ⟨w.heap.size + 1, 6, none⟩ (.int .i64 dn)).cell (show wD.drew.cell? ⟨s.na n, 12, none⟩ = _ from q2) hne
        clear h
        go_region_held3 (fun w' => w'.cell? ⟨tb, 1, none⟩ = some (.pointer (some ⟨s.pb, 0, none⟩)) ∧ w'.cell? ⟨s.na n, 12, none⟩ = some (.int .i64 x.file))
          ((go_split_ands; refine ⟨?_, ?_⟩ <;> first
             | exact hQ1
             | exact hQ2
             | go_keep)) (first
          | (go_at_call 57
             refine (hz _ ?_).mono ?_
             · repeat (first | exact Keep.refl _ _ | refine Keep.drewNew ?_)
             rintro e w4 ⟨rfl, rfl⟩
             have i6 : wD.drew.frozen? ⟨w.heap.size + 1, 6, none⟩ = false := D.out.2.1.free 6
             have z6 : wD.drew.cell? ⟨w.heap.size + 1, 6, none⟩ = some (.int .i64 0) := D.out.2.1.cells.2.2.2.2.2.2))
        rw [show (wD.setCell ⟨w.heap.size + 1, 6, none⟩ (.int .i64 dn)).drew = wD.drew.setCell ⟨w.heap.size + 1, 6, none⟩ (.int .i64 dn) from rfl]
        obtain ⟨wE, hwE⟩ : ∃ wE, wE = wD.drew.setCell ⟨w.heap.size + 1, 6, none⟩ (.int .i64 dn) := ⟨_, rfl⟩
        have t6 := heap_setCell_eq (off := 6) (Value.int .i64 dn) (show wD.drew.heap[w.heap.size + 1]? = _ from D.out.2.1.blk)
        have K2 := Keep.setCell wD.drew ⟨w.heap.size + 1, 6, none⟩ (.int .i64 dn)
        rw [← hwE] at K2 t6 ⊢
        have hE1 : StatAt wE (w.heap.size + 1) ⟨n, 2, x.mode, x.uid, x.gid, x.links, dn⟩ := ⟨by simpa [statC] using t6⟩
        have kE : Keep w wE (fun _ => False) := (D.out.2.2.1.aside (Keep.drew _ _)).trans K2 (fun b q => .inr (by have q' : b = w.heap.size + 1 := q; omega))
        have hE0 : StatAt wE w.heap.size ⟨0, 0, 0, 0, 0, 0, 0⟩ := ⟨K2.get (show wD.drew.heap[w.heap.size]? = _ from D.out.1.blk) (by simp)⟩
        clear hwE t6 K2 hQ1 hQ2 q1 q2 i6 z6
        obtain ⟨e0, e1, e2, e3, e4, e5, e6⟩ := hE1.cells
        obtain ⟨d0, d1, d2, d3, d4, d5, d6⟩ := hE0.cells
        have f := hE0.free
        have f0 := f 0
        have f1 := f 1
        have f2 := f 2
        have f3 := f 3
        have f4 := f 4
        have f5 := f 5
        have f6 := f 6
        simp only at d0 d1 d2 d3 d4 d5 d6 e0 e1 e2 e3 e4 e5 e6
        have E := Lib.hid (And.intro hE0 kE)
        clear hE0 hE1 kE f
        go_wp2
        exact tstat_end E.out.1 E.out.2 (Nat.le_refl _) D.out.2.2.2 _ rfl rfl
      · have g2 : (x.kind == 2) = false := by simpa using hk2
        have he : T.stat n = (⟨n, x.kind, x.mode, x.uid, x.gid, x.links, x.text.size⟩, true) := by
          unfold TreeV.stat
          rw [HC.out.2.1]
          simp only [TreeV.statOf, hk, hk2, if_false]
        have HE := Lib.hid he
        have K2 : Keep wC ((wC.setCell ⟨w.heap.size + 1, 5, none⟩ (.int .i64 x.links)).setCell ⟨w.heap.size + 1, 6, none⟩ (.int .i64 x.text.size)) (fun b => b = w.heap.size + 1) := (Keep.setCell _ _ _).trans (Keep.setCell _ _ _) (fun b q => .inl q)
        have E := Lib.hid (And.intro (show StatAt _ w.heap.size _ from ⟨K2.get HC.out.2.2.1.blk (by omega)⟩) (show Keep w _ (fun _ => False) from HC.out.2.2.2.2.trans K2 (fun b q => .inr (by omega))))
        clear hk hk2 he K2 hs h zB
        go_wp2
        exact tstat_end E.out.1 E.out.2 (Nat.le_refl _) HE.out _ rfl rfl
end Go.Proofs.YtoanccechefclaaGreatDoor
namespace Go.Proofs.YtoanccechefclaaGreatDoor
open Go Go.RowKit Go.Shelf
set_option maxRecDepth 100000
theorem TreeV.okBut.up_lower {T : TreeV} (h : T.ok) {rank : Int → Nat} (hr : ∀ x ∈ T.all, ∀ e ∈ x.2.names, T.isDir e.2 = true → rank x.1 < rank e.2) {n : Int} {x : NodeV} (hd : T.dir n = some x) (hu : T.upOf n ≠ n) :
    lower T rank (T.upOf n) < lower T rank n ∧ T.isDir (T.upOf n) = true := by
  obtain ⟨hg, hk⟩ := TreeV.dir_some hd
  have hn : TreeV.named n x = true := by
    cases hnm : TreeV.named n x with
    | true => rfl
    | false =>
      exfalso
      apply hu
      unfold TreeV.upOf
      rw [hd]
      simp only
      rw [hnm]
      rfl
  have hn1 : n ≠ 1 := by
    intro e
    apply hu
    unfold TreeV.upOf
    rw [hd]
    simp only
    rw [if_pos hn, e]
    exact h.rootUp _ (e ▸ hg)
  obtain ⟨hu2, y, hy, e, he, hem⟩ := h.up_edge hd hn hn1
  have hyg := (TreeV.dir_some hy).1
  have hlt : rank x.up < rank n := by
    have := hr _ (aget_memN hyg) e he (by rw [hem]; unfold TreeV.isDir; rw [hd]; rfl)
    rw [hem] at this
    exact this
  rw [hu2]
  exact ⟨lower_lt hyg hlt, by unfold TreeV.isDir; rw [hy]; rfl⟩
set_option maxHeartbeats 1000000 in
theorem twithin_c {w : World} {tb : Nat} {s : TShape} {T : TreeV} (h : TreeIn w tb s T) (hok : T.ok) (n d : Int) :
    Calls Tryz.prog 70 #[.pointer (some ⟨tb, 0, none⟩), .int .i64 n, .int .i64 d] w fun e w' => e = .returned (.bool (T.within n d)) ∧ w = w' := by
  have hd := tdir_c h d
  have hn := tdir_c h n
  unfold TreeV.within
  obtain ⟨di, hdi⟩ : ∃ di, T.isDir d = di := ⟨_, rfl⟩
  have hdn : (T.dir d).isNone = !di := by rw [← hdi]; unfold TreeV.isDir; cases T.dir d <;> rfl
  rw [hdi] at hd
  rw [hdn]
  clear hdn hdi
  cases di with
  | false =>
    simp only [Bool.false_eq_true, if_false, Bool.not_false, if_true] at hd ⊢
    clear hn h
    go_enter Tryz.func70, Tryz.ntmps70
    go_wp2_with (
      go_at_call 64
      refine hd.mono ?_
      rintro e w1 ⟨rfl, rfl⟩
      clear hd)
    go_ret
    exact ⟨rfl, rfl⟩
  | true =>
    simp only [Bool.false_eq_true, if_false, Bool.not_true, if_true] at hd ⊢
    obtain ⟨rank, hr⟩ := hok.deep
    have H := Lib.hid (And.intro h (And.intro hok hr))
    obtain ⟨s0, hs0⟩ : ∃ s0, (if T.isDir n then Value.pointer (some ⟨s.na n, 0, none⟩) else .pointer none) = s0 := ⟨_, rfl⟩
    rw [hs0] at hn
    have HS := Lib.hid hs0
    obtain ⟨res, hres⟩ : ∃ res, T.withinF T.all.length n d = res := ⟨_, rfl⟩
    rw [hres]
    have HR := Lib.hid hres
    clear h hok hr hs0 hres
    go_enter Tryz.func70, Tryz.ntmps70
    go_wp2_with (first
      | (go_at_call 64
         refine hd.mono ?_
         rintro e w1 ⟨rfl, rfl⟩
         clear hd)
      | (go_at_call 64
         refine hn.mono ?_
         rintro e w1 ⟨rfl, rfl⟩
         clear hn))
    go_loopg [7] (lower T rank n) (fun g s7 wr => ∃ m, s7 = (if T.isDir m then .pointer (some ⟨s.na m, 0, none⟩) else .pointer none) ∧ g = lower T rank m ∧ T.withinF (g + 1) m d = res ∧ wr = w)
    case atStart =>
      refine ⟨n, HS.out.symm, rfl, ?_, rfl⟩
      rw [← HR.out]
      by_cases hD : T.isDir n = true
      · obtain ⟨x, hx⟩ := Option.isSome_iff_exists.1 (show (T.dir n).isSome = true from hD)
        exact H.out.2.1.withinF_more H.out.2.2 d _ _ n (by omega) (lower_all (TreeV.dir_some hx).1)
      · have h0 : (T.dir n).isNone = true := by
          cases hq : T.dir n with
          | none => rfl
          | some x => exfalso; apply hD; unfold TreeV.isDir; rw [hq]; rfl
        have e : ∀ k, T.withinF k n d = false := fun k => by
          cases k with
          | zero => rfl
          | succ k => simp only [TreeV.withinF]; rw [if_pos (.inl h0)]
        rw [e, e]
    case round =>
      obtain ⟨m, rfl, hg, hw, rfl⟩ := hrel
      simp only [TreeV.withinF] at hw
      cases hdm : T.dir m with
      | none =>
        have hm : T.isDir m = false := by unfold TreeV.isDir; rw [hdm]; rfl
        rw [hm]
        rw [hdm] at hw
        simp only [Option.isNone_none, true_or, if_true, Bool.false_eq_true, if_false] at hw ⊢
        subst hw
        clear hg hdm hm
        go_wp2
        go_ret
        exact ⟨rfl, rfl⟩
      | some x =>
        have hm : T.isDir m = true := by unfold TreeV.isDir; rw [hdm]; rfl
        rw [hm]
        rw [hdm] at hw
        simp only [Option.isNone_some, Bool.false_eq_true, false_or, if_true] at hw ⊢
        have c0 := (H.out.1.cells (TreeV.dir_some hdm).1).node
        have hu := tup_c H.out.1 m
        have hdu := tdir_c H.out.1 (T.upOf m)
        by_cases q1 : T.upOf m = m
        · rw [if_pos q1] at hw
          have g1 : (T.upOf m == m) = true := by simpa using q1
          have Q1 := Lib.hid q1
          subst hw
          clear hg hdm hm q1 hdu
          go_wp2_with (
            go_at_call 111
            refine hu.mono ?_
            rintro e w1 ⟨rfl, rfl⟩
            clear hu)
          go_ret
          exact ⟨rfl, rfl⟩
        · rw [if_neg q1] at hw
          have g1 : (T.upOf m == m) = false := by simpa using q1
          have hlow := H.out.2.1.up_lower H.out.2.2 hdm q1
          by_cases q2 : T.upOf m = d
          · rw [if_pos q2] at hw
            have g2 : (T.upOf m == d) = true := by simpa using q2
            have Q2 := Lib.hid q2
            subst hw
            clear hg hdm hm q1 q2 hdu hlow
            go_wp2_with (
              go_at_call 111
              refine hu.mono ?_
              rintro e w1 ⟨rfl, rfl⟩
              clear hu)
            go_ret
            exact ⟨rfl, rfl⟩
          · rw [if_neg q2] at hw
            have g2 : (T.upOf m == d) = false := by simpa using q2
            obtain ⟨up, hup⟩ : ∃ up, up = T.upOf m := ⟨_, rfl⟩
            rw [← hup] at hu hdu g1 g2 hw hlow
            rw [hlow.2] at hdu
            simp only [if_true] at hdu
            have Q := Lib.hid (And.intro hup (And.intro hlow (And.intro hw hg)))
            clear hg hdm hm q1 q2 hup hlow hw
            go_wp2_with (first
              | (go_at_call 111
                 refine hu.mono ?_
                 rintro e w1 ⟨rfl, rfl⟩
                 clear hu)
              | (go_at_call 64
                 refine hdu.mono ?_
                 rintro e w1 ⟨rfl, rfl⟩
                 clear hdu))
            go_roundg (lower T rank up)
            case measure => have := Q.out.2.1.1; have := Q.out.2.2.2; omega
            case rel =>
              refine ⟨up, by rw [Q.out.2.1.2]; rfl, rfl, ?_, rfl⟩
              rw [← Q.out.2.2.1]
              exact H.out.2.1.withinF_more H.out.2.2 d _ _ up (by omega) (by have := Q.out.2.1.1; have := Q.out.2.2.2; omega)
end Go.Proofs.YtoanccechefclaaGreatDoor
namespace Go.Proofs.YtoanccechefclaaGreatDoor
open Go Go.RowKit
set_option maxRecDepth 100000
theorem TreeIn.headFree {w : World} {tb : Nat} {s : TShape} {T : TreeV} (h : TreeIn w tb s T) (i : Nat) : w.frozen? ⟨tb, i, none⟩ = false := free_blk h.head i
theorem TreeIn.nodeFree {w : World} {tb : Nat} {s : TShape} {T : TreeV} (h : TreeIn w tb s T) {n : Int} {x : NodeV} (hx : aget T.all n = some x) (i : Nat) : w.frozen? ⟨s.na n, i, none⟩ = false := free_blk (h.node_at hx) i
set_option maxHeartbeats 1000000 in
theorem tgive_c {w : World} {tb : Nat} {s : TShape} {T : TreeV} (h : TreeIn w tb s T) {d n : Int} {dx x : NodeV} (hd : aget T.all d = some dx) (hdk : dx.kind = 1) (hx : aget T.all n = some x) (hne : d ≠ n)
    (ht : 0 ≤ T.turns ∧ T.turns ≤ 1000000) (hl : 0 ≤ x.links ∧ x.links ≤ 1000000) (k : ByteArray) :
    Calls Tryz.prog 68 #[.pointer (some ⟨tb, 0, none⟩), .pointer (some ⟨s.na d, 0, none⟩), .string k, .pointer (some ⟨s.na n, 0, none⟩)] w fun e w' => (∃ v, e = .returned v) ∧ TreeIn w' tb s (T.give d k n) ∧ Keep w w' s.has := by
  have c0 := h.hcells.turns
  have f0 := h.headFree 4
  obtain ⟨ht0, ht1⟩ := ht
  obtain ⟨hl0, hl1⟩ := hl
  have H := Lib.hid (And.intro h (And.intro hd (And.intro hdk (And.intro hx hne))))
  clear h hd hdk hx hne
  go_enter Tryz.func68, Tryz.ntmps68
  go_upto_region 1 with (fail)
  obtain ⟨w1, hw1⟩ : ∃ w1, w1 = w.setCell ⟨tb, 4, none⟩ (.int .i64 (T.turns + 1)) := ⟨_, rfl⟩
  have s1 := heap_setCell_eq (off := 4) (Value.int .i64 (T.turns + 1)) H.out.1.head
  have k1 := Keep.setCell w ⟨tb, 4, none⟩ (.int .i64 (T.turns + 1))
  rw [← hw1] at s1 k1 ⊢
  have h1 := H.out.1.setHead k1 (t := T.turns + 1) (by simpa using s1)
  clear hw1 s1 c0 f0
  have hd1 : aget ({ T with turns := T.turns + 1 } : TreeV).all d = some dx := H.out.2.1
  have c1 := (h1.cells hd1).names
  unfold namesB at c1
  rw [if_pos H.out.2.2.1] at c1
  have c2 := (h1.cells (show aget ({ T with turns := T.turns + 1 } : TreeV).all n = some x from H.out.2.2.2.1)).node
  have hM := h1.names_at hd1 H.out.2.2.1
  have H1 := Lib.hid (And.intro h1 (And.intro k1 (And.intro hd1 hM)))
  clear h1 k1 hd1 hM
  go_still_tail 10, (by kernel_rfl)
  change wpList _ _ _ _ _ w1.drew
  have MQ := Lib.hid (H1.out.2.2.2.keep (Keep.drew w1 (fun _ => False)) (fun q => q))
  refine law_update rfl _ _ _ _ rfl kNames tNames rfl MQ.out k rfl ?_
  intro w2 hM2 hk2
  replace hM2 : MapAt w2 (s.nm d) kStr (aset (namesV dx.names) k (.int .i64 n)) := hM2
  rw [namesV_aset] at hM2
  have k2 : Keep w1 w2 (fun b => b = s.nm d) := (Keep.drew w1 (fun _ => False)).mono (fun _ q => q.elim) |>.trans hk2 (fun b q => .inl q)
  have h2 := H1.out.1.setNames H1.out.2.2.1 H.out.2.2.1 k2 hM2
  have hn2 : aget (({ T with turns := T.turns + 1 } : TreeV).set d { dx with names := aset dx.names k n }).all n = some x := by
    show aget (aset T.all d _) n = some x
    rw [aget_aset, if_neg H.out.2.2.2.2]
    exact H.out.2.2.2.1
  have hd2 : aget (({ T with turns := T.turns + 1 } : TreeV).set d { dx with names := aset dx.names k n }).all d = some { dx with names := aset dx.names k n } := by
    show aget (aset T.all d _) d = _
    rw [aget_aset, if_pos rfl]
  have c3 := (h2.cells hn2).links
  have c4 := (h2.cells hn2).kind
  have c5 := (h2.cells hd2).node
  have f3 := h2.nodeFree hn2 9
  have f4 := h2.nodeFree hn2 8
  have c6 := (h2.cells hn2).up
  have hnn : s.na d ≠ s.na n := tag_ne (h2.tnode hd2) (h2.tnode hn2) (by simpa using H.out.2.2.2.2)
  have kw2 : Keep w w2 s.has := (H1.out.2.1.mono (fun b q => by rw [q]; exact has_of H.out.1.tTree)).trans k2 (fun b q => .inl (by rw [q]; exact has_of (H.out.1.tnames H.out.2.1 H.out.2.2.1)))
  have hhas : s.has (s.na n) := has_of (H.out.1.tnode H.out.2.2.2.1)
  have give : ∀ U : TreeV, U = (({ T with turns := T.turns + 1 } : TreeV).set d { dx with names := aset dx.names k n }).set n { x with links := x.links + 1, up := if x.kind = 1 then d else x.up } → U = T.give d k n := by
    rintro U rfl
    unfold TreeV.give
    rw [H.out.2.1, H.out.2.2.2.1]
    rfl
  have H2 := Lib.hid (And.intro h2 (And.intro hn2 (And.intro kw2 (And.intro hhas give))))
  clear hM2 hk2 k2 h2 hn2 hd2 kw2 hhas give c1 c2
  by_cases hk : x.kind = 1
  · simp only [hk] at c4
    go_wp2
    go_end0
    have s3 := heap_setCell_eq (off := 9) (Value.int .i64 (x.links + 1)) (H2.out.1.node_at H2.out.2.1)
    have s4 := heap_setCell_eq (off := 8) (Value.int .i64 d) s3
    have K : Keep w2 ((w2.setCell ⟨s.na n, 9, none⟩ (.int .i64 (x.links + 1))).setCell ⟨s.na n, 8, none⟩ (.int .i64 d)) (fun b => b = s.na n) := (Keep.setCell _ _ _).trans (Keep.setCell _ _ _) (fun b q => .inl q)
    refine ⟨⟨_, rfl⟩, ?_, H2.out.2.2.1.trans K (fun b q => .inl (by rw [q]; exact H2.out.2.2.2.1))⟩
    rw [← H2.out.2.2.2.2 _ rfl]
    refine H2.out.1.setNode H2.out.2.1 rfl rfl K ?_
    rw [if_pos hk]
    simpa [nodeC, namesB] using s4
  · have g : (x.kind == 1) = false := by simpa using hk
    go_wp2
    go_end0
    have s3 := heap_setCell_eq (off := 9) (Value.int .i64 (x.links + 1)) (H2.out.1.node_at H2.out.2.1)
    refine ⟨⟨_, rfl⟩, ?_, H2.out.2.2.1.trans (Keep.setCell _ _ _) (fun b q => .inl (by rw [show b = s.na n from q]; exact H2.out.2.2.2.1))⟩
    rw [← H2.out.2.2.2.2 _ rfl]
    refine H2.out.1.setNode H2.out.2.1 rfl rfl (Keep.setCell _ _ _) ?_
    rw [if_neg hk]
    simpa [nodeC, namesB] using s3
end Go.Proofs.YtoanccechefclaaGreatDoor
namespace Go.Proofs.YtoanccechefclaaGreatDoor
open Go Go.RowKit
set_option maxRecDepth 100000
structure TurnT (w : World) (s : TShape) (w' : World) (s' : TShape) : Prop where
  keep : Keep w w' s.has
  new : ∀ b, s'.has b → s.has b ∨ w.heap.size ≤ b
theorem TurnT.trans {w w1 w2 : World} {s s1 s2 : TShape} (h : TurnT w s w1 s1) (k : TurnT w1 s1 w2 s2) : TurnT w s w2 s2 :=
  ⟨h.keep.trans k.keep (fun b q => h.new b q), fun b q => by
    rcases k.new b q with z | z
    · exact h.new b z
    · exact .inr (Nat.le_trans h.keep.size z)⟩
theorem TurnT.same {w w1 : World} {s : TShape} (h : Keep w w1 s.has) : TurnT w s w1 s := ⟨h, fun b q => .inl q⟩
theorem TurnT.aside {w w1 : World} {s : TShape} (h : Keep w w1 (fun _ => False)) : TurnT w s w1 s := ⟨h.mono (fun _ q => q.elim), fun b q => .inl q⟩
set_option maxHeartbeats 2000000 in
theorem tdrop_c {w : World} {tb : Nat} {s : TShape} {T : TreeV} {bl : Int} (h : TreeIn w tb s T) (hp : T.pool.ok bl) {n : Int} {x : NodeV} (hx : aget T.all n = some x) (ht : 0 ≤ T.turns ∧ T.turns ≤ 1000000) :
    Calls Tryz.prog 112 #[.pointer (some ⟨tb, 0, none⟩), .pointer (some ⟨s.na n, 0, none⟩)] w fun e w' => (∃ v, e = .returned v) ∧ ∃ s', TreeIn w' tb s' (T.drop n) ∧ s'.na = s.na ∧ s'.nm = s.nm ∧ TurnT w s w' s' := by
  have hn := tnamed_c h hx
  obtain ⟨-, c2, -, -, -, -, -, -, -, c10, c11, -, c13⟩ := h.cells hx
  have hnd := nodes_nodup h
  unfold TreeV.drop
  rw [hx]
  dsimp only
  obtain ⟨ht0, ht1⟩ := ht
  obtain ⟨nm, hnm⟩ : ∃ nm, TreeV.named n x = nm := ⟨_, rfl⟩
  rw [hnm] at hn ⊢
  by_cases hc : nm = true ∨ 0 < x.links ∨ 0 < x.holds
  · rw [if_pos hc]
    have fin : (∃ s', TreeIn w tb s' T ∧ s'.na = s.na ∧ s'.nm = s.nm ∧ TurnT w s w s') := ⟨s, h, rfl, rfl, TurnT.same (Keep.refl _ _)⟩
    have HF := Lib.hid fin
    have HM := Lib.hid hnm
    clear h hp hx hnd fin hnm
    cases nm with
    | true =>
      clear hc
      go_enter Tryz.func112, Tryz.ntmps112
      go_wp2_with (
        go_at_call 69
        refine hn.mono ?_
        rintro e w1 ⟨rfl, rfl⟩
        clear hn)
      refine bodyPost_ret (results_none rfl _ _ _) rfl ?_
      exact ⟨⟨_, rfl⟩, HF.out⟩
    | false =>
      by_cases hl : 0 < x.links
      · clear hc
        go_enter Tryz.func112, Tryz.ntmps112
        go_wp2_with (
          go_at_call 69
          refine hn.mono ?_
          rintro e w1 ⟨rfl, rfl⟩
          clear hn)
        refine bodyPost_ret (results_none rfl _ _ _) rfl ?_
        exact ⟨⟨_, rfl⟩, HF.out⟩
      · have hh : 0 < x.holds := by simpa [hl] using hc
        clear hc
        go_enter Tryz.func112, Tryz.ntmps112
        go_wp2_with (
          go_at_call 69
          refine hn.mono ?_
          rintro e w1 ⟨rfl, rfl⟩
          clear hn)
        refine bodyPost_ret (results_none rfl _ _ _) rfl ?_
        exact ⟨⟨_, rfl⟩, HF.out⟩
  · rw [if_neg hc]
    simp only [not_or, Bool.not_eq_true] at hc
    obtain ⟨rfl, hl, hh⟩ := hc
    have ct := h.hcells.turns
    have ft := h.headFree 4
    have H := Lib.hid (And.intro h (And.intro hp (And.intro hx hnd)))
    clear h hp hx hnd hnm
    go_enter Tryz.func112, Tryz.ntmps112
    go_upto_region 2 with (
      go_at_call 69
      refine hn.mono ?_
      rintro e w1 ⟨rfl, rfl⟩
      clear hn)
    obtain ⟨w1, hw1⟩ : ∃ w1, w1 = w.setCell ⟨tb, 4, none⟩ (.int .i64 (T.turns + 1)) := ⟨_, rfl⟩
    have s1 := heap_setCell_eq (off := 4) (Value.int .i64 (T.turns + 1)) H.out.1.head
    have k1 := Keep.setCell w ⟨tb, 4, none⟩ (.int .i64 (T.turns + 1))
    rw [← hw1] at s1 k1 ⊢
    have h1 := H.out.1.setHead k1 (t := T.turns + 1) (by simpa using s1)
    clear hw1 s1 ct ft c2 c10 c11 c13 hl hh
    have hx1 : aget ({ T with turns := T.turns + 1 } : TreeV).all n = some x := H.out.2.2.1
    have c0 := (h1.cells hx1).node
    have ca := h1.hcells.all
    have H1 := Lib.hid (And.intro h1 (And.intro k1 hx1))
    clear h1 k1 hx1
    go_still_tail 9, (by kernel_rfl)
    change wpList _ _ _ _ _ w1.drew
    obtain ⟨B0, clk, hB0⟩ := H1.out.1.all.keep (Keep.drew w1 (fun _ => False)) (fun q => q)
    refine law_delete rfl _ _ _ _ rfl kNodes tNodes rfl hB0 n rfl ?_
    intro w2 B1 q1 q2 q3
    have k2 : Keep w1 w2 (fun b => b = s.ma) := (Keep.drew w1 (fun _ => False)).mono (fun _ q => q.elim) |>.trans q3 (fun b q => .inl q)
    have hM2 : MapAt w2 s.ma kInt (nodesV s (adel T.all n)) := by rw [← TreeIn.nodesV_adel]; exact ⟨_, _, q1⟩
    have h2 := H1.out.1.delNode k2 hM2
    have hnm2 : s.na n ≠ s.ma := tag_ne (H1.out.1.tnode H1.out.2.2) H1.out.1.tAll (by simp)
    obtain ⟨-, c2, -, -, -, -, -, -, -, -, -, -, c13⟩ := nodeCells (k2.get (H1.out.1.node_at H1.out.2.2) hnm2)
    have c1 := h2.hcells.pool
    have kw2 : Keep w w2 s.has := (H1.out.2.1.mono (fun b q => by rw [q]; exact has_of H.out.1.tTree)).trans k2 (fun b q => .inl (by rw [q]; exact has_of H.out.1.tAll))
    have H2 := Lib.hid (And.intro h2 kw2)
    clear q1 q2 q3 k2 hM2 h2 hnm2 kw2 hB0 c0 ca
    by_cases hk : x.kind = 2
    · simp only [hk] at c2
      have hdr : ∀ w', Keep w2 w' (fun _ => False) → Calls Tryz.prog 133 #[.pointer (some ⟨s.pb, 0, none⟩), .int .i64 x.file] w' fun r w3 => r = .returned (.int .i64 (T.pool.drop x.file).2) ∧ ∃ S', PoolAt w3 s.pb S' (T.pool.drop x.file).1 ∧ Turn w' (fun b => s.tag b = some .pool) w3 S' :=
        fun w' k => drop_c (h := (H2.out.1.aside k).pool) H.out.2.1 x.file
      go_upto_region 4 with (fail)
      go_region_held3 (fun w' => w'.cell? ⟨tb, 1, none⟩ = some (.pointer (some ⟨s.pb, 0, none⟩)) ∧ w'.cell? ⟨s.na n, 12, none⟩ = some (.int .i64 x.file)) (go_keep) (
        (go_at_call 133
         refine (hdr _ ?_).mono ?_
         · repeat (first | exact Keep.refl _ _ | refine Keep.drewNew ?_)
         rintro e w4 ⟨rfl, S4, hP4, hT4⟩
         have hT := (H2.out.1.aside (Keep.drew w2 _)).setPool hP4 hT4
         have q0 := hT4.keep.cell (show w2.drew.cell? ⟨tb, 1, none⟩ = _ from c1) (fun q => by rw [H2.out.1.tTree] at q; cases q)
         have q1 := hT4.keep.cell (show w2.drew.cell? ⟨s.na n, 12, none⟩ = _ from c13) (fun q => by rw [H1.out.1.tnode H1.out.2.2] at q; cases q)
         have H3 := Lib.hid (And.intro hT hT4)))
      go_wp2
      go_end0
      refine ⟨⟨_, rfl⟩, s.pooled S4, ?_, rfl, rfl, (H2.out.2.trans (Keep.drew w2 (fun _ => False)) (fun _ q => q.elim)).trans H3.out.2.keep (fun b q => .inl (has_of q)), fun b q => ?_⟩
      · first
          | exact H3.out.1.1
          | (rw [if_pos hk]; exact H3.out.1.1)
      · rcases H3.out.1.2 b q with z | z
        · exact .inl z
        · exact .inr (Nat.le_trans H2.out.2.size z)
    · have g : (x.kind == 2) = false := by simpa using hk
      go_wp2
      go_end0
      refine ⟨⟨_, rfl⟩, s, ?_, rfl, rfl, TurnT.same H2.out.2⟩
      first
        | exact H2.out.1
        | (rw [if_neg hk]; exact H2.out.1)
def TreeV.lost (T : TreeV) (d : Int) (k : ByteArray) (n : Int) : TreeV := { T.loseName d k n with turns := T.turns + 1 }
theorem lost_get {T : TreeV} {d n : Int} {dx x : NodeV} {k : ByteArray} (hd : aget T.all d = some dx) (hx : aget T.all n = some x) : aget (T.lost d k n).all n = some { x with links := x.links - 1 } := by
  unfold TreeV.lost TreeV.loseName
  rw [hd, hx]
  show aget (aset (aset T.all d _) n _) n = _
  rw [aget_aset, if_pos rfl]
theorem lost_turns (T : TreeV) (d : Int) (k : ByteArray) (n : Int) : (T.lost d k n).turns = T.turns + 1 := rfl
theorem lost_pool (T : TreeV) (d : Int) (k : ByteArray) (n : Int) : (T.lost d k n).pool = T.pool := by
  unfold TreeV.lost
  exact lose_pool d n k
set_option maxHeartbeats 2000000 in
theorem ttake_c {w : World} {tb : Nat} {s : TShape} {T : TreeV} {bl : Int} (h : TreeIn w tb s T) (hp : T.pool.ok bl) {d n : Int} {dx x : NodeV} {k : ByteArray} (hd : aget T.all d = some dx) (hdk : dx.kind = 1) (hk : aget dx.names k = some n) (hx : aget T.all n = some x) (hne : d ≠ n)
    (ht : 0 ≤ T.turns ∧ T.turns ≤ 900000) (hl : 0 ≤ x.links ∧ x.links ≤ 1000000) :
    Calls Tryz.prog 72 #[.pointer (some ⟨tb, 0, none⟩), .pointer (some ⟨s.na d, 0, none⟩), .string k] w fun e w' => (∃ v, e = .returned v) ∧ ∃ s', TreeIn w' tb s' (T.take d k n) ∧ s'.na = s.na ∧ s'.nm = s.nm ∧ TurnT w s w' s' := by
  obtain ⟨ht0, ht1⟩ := ht
  obtain ⟨hl0, hl1⟩ := hl
  have hD := h.aside (Keep.drew w (fun _ => False))
  have ca := hD.hcells.all
  have ct := hD.hcells.turns
  have ft := hD.headFree 4
  have c1 := (hD.cells hd).names
  unfold namesB at c1
  rw [if_pos hdk] at c1
  have l1 := names_look (hD.names_at hd hdk) k false
  rw [hk] at l1
  simp only [Bool.false_eq_true, if_false, Option.getD_some] at l1
  have l2 := look_some hD hx
  have H := Lib.hid (And.intro hD (And.intro hp (And.intro hd (And.intro hdk (And.intro hx hne)))))
  clear h hp hd hdk hk hx hne hD
  go_enter Tryz.func72, Tryz.ntmps72
  go_wp2
  go_region
  go_upto_region 2 with (fail)
  obtain ⟨w1, hw1⟩ : ∃ w1, w1 = w.drew.setCell ⟨tb, 4, none⟩ (.int .i64 (T.turns + 1)) := ⟨_, rfl⟩
  have s1 := heap_setCell_eq (off := 4) (Value.int .i64 (T.turns + 1)) H.out.1.head
  have k1 := Keep.setCell w.drew ⟨tb, 4, none⟩ (.int .i64 (T.turns + 1))
  rw [← hw1] at s1 k1
  have h1 := H.out.1.setHead k1 (t := T.turns + 1) (by simpa using s1)
  first
    | rw [← hw1]
    | rw [show (w.setCell ⟨tb, 4, none⟩ (.int .i64 (T.turns + 1))).drew = w1 from hw1.symm]
  clear hw1 s1 ca ct ft c1 l1 l2
  have hd1 : aget ({ T with turns := T.turns + 1 } : TreeV).all d = some dx := H.out.2.2.1
  have hx1 : aget ({ T with turns := T.turns + 1 } : TreeV).all n = some x := H.out.2.2.2.2.1
  have c1 := (h1.cells hd1).names
  unfold namesB at c1
  rw [if_pos H.out.2.2.2.1] at c1
  have hkw1 : Keep w w1 s.has := (Keep.drew w s.has).trans k1 (fun b q => .inl (by rw [q]; exact has_of H.out.1.tTree))
  have H1 := Lib.hid (And.intro h1 (And.intro hkw1 (And.intro hd1 hx1)))
  clear h1 k1 hd1 hx1 hkw1
  go_wp2_with (first
    | (at_delete
       obtain ⟨B0, clk, hB0⟩ := H1.out.1.names_at H1.out.2.2.1 H.out.2.2.2.1
       refine law_delete rfl _ _ _ _ rfl kNames tNames rfl hB0 k rfl ?_
       intro w2 B1 q1 q2 q3
       have hM2 : MapAt w2 (s.nm d) kStr (namesV (adel dx.names k)) := by rw [← namesV_adel]; exact ⟨_, _, q1⟩
       have h2 := H1.out.1.setNames H1.out.2.2.1 H.out.2.2.2.1 q3 hM2
       have hn2 : aget (({ T with turns := T.turns + 1 } : TreeV).set d { dx with names := adel dx.names k }).all n = some x := by
         show aget (aset T.all d _) n = some x
         rw [aget_aset, if_neg H.out.2.2.2.2.2]
         exact H.out.2.2.2.2.1
       have c3 := (h2.cells hn2).links
       have f3 := h2.nodeFree hn2 9
       have s3 := heap_setCell_eq (off := 9) (Value.int .i64 (x.links - 1)) (h2.node_at hn2)
       have h3 := h2.setNode (x' := { x with links := x.links - 1 }) hn2 rfl rfl (Keep.setCell w2 ⟨s.na n, 9, none⟩ (.int .i64 (x.links - 1))) (by simpa [nodeC, namesB] using s3)
       have kw3 : Keep w (w2.setCell ⟨s.na n, 9, none⟩ (.int .i64 (x.links - 1))) s.has := (H1.out.2.1.trans q3 (fun b q => .inl (by rw [q]; exact has_of (H1.out.1.tnames H1.out.2.2.1 H.out.2.2.2.1)))).trans (Keep.setCell _ _ _) (fun b q => .inl (by rw [show b = s.na n from q]; exact has_of (H1.out.1.tnode H1.out.2.2.2)))
       have eL : (({ T with turns := T.turns + 1 } : TreeV).set d { dx with names := adel dx.names k }).set n { x with links := x.links - 1 } = T.lost d k n := by
         unfold TreeV.lost TreeV.loseName
         rw [H.out.2.2.1, H.out.2.2.2.2.1]
         rfl
       rw [eL] at h3
       have hdr := tdrop_c h3 (by rw [lost_pool]; exact H.out.2.1) (lost_get H.out.2.2.1 H.out.2.2.2.2.1) (by rw [lost_turns]; omega)
       have H3 := Lib.hid kw3
       clear q1 q2 q3 hM2 h2 hn2 s3 h3 kw3 eL hB0)
    | (go_at_call 112
       refine hdr.mono ?_
       rintro e w4 ⟨⟨v, rfl⟩, s', i1, i2, i3, i4⟩
       have H4 := Lib.hid (And.intro i1 (And.intro i2 (And.intro i3 i4)))
       clear hdr i1 i2 i3 i4))
  go_end0
  exact ⟨⟨_, rfl⟩, s', H4.out.1, H4.out.2.1, H4.out.2.2.1, ⟨H3.out.trans H4.out.2.2.2.keep (fun b q => .inl q), fun b q => by
    rcases H4.out.2.2.2.new b q with z | z
    · exact .inl z
    · exact .inr (Nat.le_trans H3.out.size z)⟩⟩
end Go.Proofs.YtoanccechefclaaGreatDoor
