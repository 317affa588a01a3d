/-
  Parts of the walk's proof: RTa, TreeNames. (joined by pack.py)
-/
import Derived.Outline
import Derived.Test.YtoanccechefclaaGreatDoorK04
import Derived.Test.YtoanccechefclaaGreatDoorK07
import Derived.Test.YtoanccechefclaaGreatDoorK08
import Derived.Test.YtoanccechefclaaGreatDoorK09
set_option linter.unusedSectionVars false
set_option linter.unusedSimpArgs false
set_option linter.unusedVariables false
namespace Go.Proofs.YtoanccechefclaaGreatDoor
open Go Go.RowKit Go.Sort
def entsOf (L : List (ByteArray × Int)) : List (ByteArray × Int) := (sortedN L).map fun s => (s, (aget L s).getD 0)
def entC (e : ByteArray × Int) : List Value := [.string e.1, .int .i64 e.2]
theorem entC_len (e : ByteArray × Int) : (entC e).length = 2 := rfl
theorem ents_len (L : List (ByteArray × Int)) : (entsOf L).length = L.length := by unfold entsOf; rw [List.length_map, sortedN_len]
theorem ents_nil : entsOf [] = [] := by simp [entsOf, sortedN, sortS]
theorem aget_ofR {L : List (ByteArray × Int)} (hn : (L.map Prod.fst).Nodup) {e : ByteArray × Int} (he : e ∈ L) : aget L e.1 = some e.2 := by
  induction L with
  | nil => cases he
  | cons y r ih =>
    obtain ⟨a, u⟩ := y
    simp only [List.map_cons, List.nodup_cons] at hn
    simp only [aget]
    rcases List.mem_cons.1 he with q | q
    · rw [q, if_pos rfl]
    · rw [if_neg (fun z => hn.1 (by rw [z]; exact List.mem_map_of_mem (f := Prod.fst) q)), ih hn.2 q]
theorem aget_memR {L : List (ByteArray × Int)} {k : ByteArray} {v : Int} (h : aget L k = some v) : (k, v) ∈ L := by
  induction L with
  | nil => cases h
  | cons y r ih =>
    obtain ⟨a, u⟩ := y
    simp only [aget] at h
    split at h
    · rename_i e
      cases h
      rw [e]
      exact List.mem_cons_self
    · exact List.mem_cons_of_mem _ (ih h)
theorem ents_perm {L : List (ByteArray × Int)} (hn : (L.map Prod.fst).Nodup) : (entsOf L).Perm L := by
  have hp : (sortedN L).Perm (L.map Prod.fst) := sortS_perm _
  refine (hp.map _).trans ?_
  rw [List.map_map]
  refine List.Perm.of_eq ((List.map_congr_left fun e he => ?_).trans (List.map_id' _))
  simp only [Function.comp]
  rw [aget_ofR hn he]
  rfl
theorem ents_sorted (L : List (ByteArray × Int)) : (entsOf L).Pairwise (fun a b => leS a.1 b.1) := by
  have h := sortS_sorted (L.map Prod.fst)
  unfold entsOf
  rw [List.pairwise_map]
  exact h
theorem ents_eq {L M : List (ByteArray × Int)} (hn : (L.map Prod.fst).Nodup) (hs : M.Pairwise (fun a b => leS a.1 b.1)) (hp : M.Perm L) : entsOf L = M := by
  have hq := ents_perm hn
  refine List.Perm.eq_of_pairwise (le := fun a b => leS a.1 b.1) (fun x y hx hy p q => ?_) (ents_sorted L) hs (hq.trans hp.symm)
  have h1 := aget_ofR hn (hq.mem_iff.1 hx)
  have h2 := aget_ofR hn (hp.mem_iff.1 hy)
  have e : x.1 = y.1 := bl_inj (leL_anti p q)
  rw [e, h2] at h1
  exact Prod.ext e (Option.some.inj h1).symm
def idxE (l : List (ByteArray × Int)) (s : ByteArray) : Int := match l.findIdx? (fun e => decide (e.1 = s)) with | some i => i | none => -1
theorem idxE_none {L : List (ByteArray × Int)} (hn : (L.map Prod.fst).Nodup) {s : ByteArray} (h : aget L s = none) : idxE (entsOf L) s = -1 := by
  unfold idxE
  rw [List.findIdx?_eq_none_iff.2]
  intro e he
  have h1 := aget_ofR hn ((ents_perm hn).mem_iff.1 he)
  by_cases q : e.1 = s
  · rw [q, h] at h1; cases h1
  · simpa using q
theorem idxE_some {L : List (ByteArray × Int)} (hn : (L.map Prod.fst).Nodup) {s : ByteArray} {n : Int} (h : aget L s = some n) : ∃ k : Nat, idxE (entsOf L) s = k ∧ (entsOf L)[k]? = some (s, n) := by
  have hm := (ents_perm hn).mem_iff.2 (aget_memR h)
  cases hq : (entsOf L).findIdx? (fun e => decide (e.1 = s)) with
  | none =>
    have := List.findIdx?_eq_none_iff.1 hq _ hm
    simp at this
  | some k =>
    obtain ⟨hk, h1, -⟩ := List.findIdx?_eq_some_iff_getElem.1 hq
    refine ⟨k, by unfold idxE; rw [hq], ?_⟩
    rw [List.getElem?_eq_getElem hk]
    have h2 := aget_ofR hn ((ents_perm hn).mem_iff.1 (List.getElem_mem hk))
    simp only [decide_eq_true_eq] at h1
    rw [h1, h] at h2
    exact congrArg some (Prod.ext h1 (Option.some.inj h2).symm)
theorem idxE_at {l : List (ByteArray × Int)} {s : ByteArray} {k : Nat} (hk : ∀ e ∈ l.take k, e.1 ≠ s) {e : ByteArray × Int} (he : l[k]? = some e) (hs : e.1 = s) : idxE l s = k := by
  obtain ⟨hl, h1⟩ := List.getElem?_eq_some_iff.1 he
  have : l.findIdx? (fun e => decide (e.1 = s)) = some k := by
    rw [List.findIdx?_eq_some_iff_getElem]
    refine ⟨hl, by rw [h1]; simpa using hs, fun j hj => ?_⟩
    have := hk l[j] (List.mem_iff_getElem.2 ⟨j, by rw [List.length_take]; omega, by rw [List.getElem_take]⟩)
    simpa using this
  unfold idxE
  rw [this]
theorem idxE_end {l : List (ByteArray × Int)} {s : ByteArray} (hk : ∀ e ∈ l, e.1 ≠ s) : idxE l s = -1 := by
  unfold idxE
  rw [List.findIdx?_eq_none_iff.2]
  intro e he
  simpa using hk e he
theorem take_none {l : List (ByteArray × Int)} {s : ByteArray} {k : Nat} (hk : ∀ e ∈ l.take k, e.1 ≠ s) {e : ByteArray × Int} (he : l[k]? = some e) (hs : e.1 ≠ s) : ∀ e ∈ l.take (k + 1), e.1 ≠ s := by
  intro x hx
  rw [List.take_add_one, he] at hx
  rcases List.mem_append.1 hx with q | q
  · exact hk x q
  · simp at q
    rw [q]; exact hs
theorem leS_trans {a b c : ByteArray} (h1 : leS a b) (h2 : leS b c) : leS a c := leL_trans _ _ _ h1 h2
theorem ents_put {L : List (ByteArray × Int)} (hn : (L.map Prod.fst).Nodup) {s : ByteArray} (n : Int) (hs : aget L s = none) {k : Nat} (hk : k ≤ L.length) (h1 : ∀ e ∈ (entsOf L).drop k, leS s e.1) (h2 : ∀ i e, k = i + 1 → (entsOf L)[i]? = some e → leS e.1 s) :
    (entsOf L).take k ++ (s, n) :: (entsOf L).drop k = entsOf (aset L s n) := by
  symm
  have hp := aset_perm n hs
  refine ents_eq ?_ ?_ ?_
  · have : (aset L s n).map Prod.fst |>.Perm (s :: L.map Prod.fst) := hp.map Prod.fst
    rw [this.nodup_iff]
    exact List.nodup_cons.2 ⟨aget_out hs, hn⟩
  · have hso := ents_sorted L
    rw [List.pairwise_append]
    refine ⟨hso.sublist (List.take_sublist _ _), List.pairwise_cons.2 ⟨h1, hso.sublist (List.drop_sublist _ _)⟩, ?_⟩
    intro a ha b hb
    have hle : ∀ e ∈ (entsOf L).take k, leS e.1 s := by
      intro e he
      cases k with
      | zero => simp at he
      | succ i =>
        obtain ⟨j, hj, rfl⟩ := List.mem_iff_getElem.1 he
        rw [List.getElem_take]
        rw [List.length_take, ents_len] at hj
        have hi : i < (entsOf L).length := by rw [ents_len]; omega
        have hl := h2 i _ rfl (List.getElem?_eq_getElem hi)
        by_cases q : j = i
        · subst q; exact hl
        · exact leS_trans (List.pairwise_iff_getElem.1 hso j i (by rw [ents_len]; omega) hi (by omega)) hl
    rcases List.mem_cons.1 hb with q | q
    · rw [q]; exact hle a ha
    · exact leS_trans (hle a ha) (h1 b q)
  · refine (List.perm_middle).trans ?_
    rw [List.take_append_drop]
    exact ((ents_perm hn).cons _).trans hp.symm
theorem ents_out {L : List (ByteArray × Int)} (hn : (L.map Prod.fst).Nodup) {s : ByteArray} {n : Int} (hs : aget L s = some n) {k : Nat} (hk : (entsOf L)[k]? = some (s, n)) :
    (entsOf L).take k ++ (entsOf L).drop (k + 1) = entsOf (adel L s) := by
  symm
  have hp := adel_perm hs
  have hl := (List.getElem?_eq_some_iff.1 hk).1
  refine ents_eq ?_ ?_ ?_
  · have : L.map Prod.fst |>.Perm (s :: (adel L s).map Prod.fst) := hp.map Prod.fst
    rw [this.nodup_iff, List.nodup_cons] at hn
    exact hn.2
  · refine (ents_sorted L).sublist ?_
    rw [← List.eraseIdx_eq_take_drop_succ]
    exact List.eraseIdx_sublist _ _
  · have h1 : (entsOf L).Perm ((s, n) :: ((entsOf L).take k ++ (entsOf L).drop (k + 1))) := by
      refine List.Perm.trans ?_ List.perm_middle
      refine List.Perm.of_eq ?_
      have e1 := (List.getElem?_eq_some_iff.1 hk).2
      rw [← e1, List.getElem_cons_drop, List.take_append_drop]
    exact (h1.symm.trans ((ents_perm hn).trans hp)).cons_inv
end Go.Proofs.YtoanccechefclaaGreatDoor
namespace Go.Proofs.YtoanccechefclaaGreatDoor
open Go Go.RowKit
set_option maxRecDepth 100000
inductive RTag
  | tree | rows | node (n : Int) | ents (n : Int) | pool
structure RShape where
  rv : Value
  pb : Nat
  na : Int → Nat
  ev : Int → Value
  up : Int → Int
  tag : Nat → Option RTag
abbrev RShape.has (s : RShape) (b : Nat) : Prop := s.tag b ≠ none
def rnodeC (n : Int) (x : NodeV) (u : Int) (v : Value) : Array Value :=
  #[.int .i64 n, .int .i64 x.kind, .int .i64 x.mode, .int .i64 x.uid, .int .i64 x.gid, .int .i64 0, .int .i64 0, .string x.text, v, .int .i64 u, .int .i64 x.links, .int .i64 x.holds, .int .i64 x.file]
def rslot (T : TreeV) (na : Int → Nat) (n : Int) : Value := if (aget T.all n).isSome then ptr (na n) else .pointer none
def rslots (T : TreeV) (na : Int → Nat) : List Value := (List.range T.made.toNat).map fun (i : Nat) => rslot T na ((i : Int) + 1)
theorem rslots_len (T : TreeV) (na : Int → Nat) : (rslots T na).length = T.made.toNat := by simp [rslots]
theorem rslots_get (T : TreeV) (na : Int → Nat) {i : Nat} (h : i < T.made.toNat) : (rslots T na)[i]? = some (rslot T na ((i : Int) + 1)) := by
  unfold rslots
  rw [List.getElem?_map, List.getElem?_range h]
  rfl
theorem rslot_some {T : TreeV} {na : Int → Nat} {n : Int} {x : NodeV} (h : aget T.all n = some x) : rslot T na n = .pointer (some ⟨na n, 0, none⟩) := by
  unfold rslot; rw [h]; rfl
theorem rslot_none {T : TreeV} {na : Int → Nat} {n : Int} (h : aget T.all n = none) : rslot T na n = .pointer none := by
  unfold rslot; rw [h]; rfl
structure RTreeIn (w : World) (tb : Nat) (s : RShape) (bl : Int) (T : TreeV) : Prop where
  head : w.heap[tb]? = some (.cells #[.int .i64 T.most, ptr s.pb, s.rv] 144 (0, 0))
  rows : w.ownsRow 0 145 1 s.rv T.made.toNat (rslots T s.na)
  node : ∀ x ∈ T.all, w.heap[s.na x.1]? = some (.cells (rnodeC x.1 x.2 (s.up x.1) (s.ev x.1)) 148 (0, 0))
  ents : ∀ x ∈ T.all, w.ownsRow 0 200 2 (s.ev x.1) x.2.names.length (flat entC (entsOf x.2.names))
  pool : RPoolAt w s.pb (fun b => s.tag b = some .pool) bl T.pool
  nodup : (T.all.map Prod.fst).Nodup
  tTree : s.tag tb = some .tree
  tRows : ∀ b, s.rv.ownBlock = some b → s.tag b = some .rows
  tNode : ∀ x ∈ T.all, s.tag (s.na x.1) = some (.node x.1)
  tEnts : ∀ x ∈ T.all, ∀ b, (s.ev x.1).ownBlock = some b → s.tag b = some (.ents x.1)
  lt : ∀ b g, s.tag b = some g → b < w.heap.size
theorem rtag_ne {s : RShape} {a b : Nat} {x y : RTag} (ha : s.tag a = some x) (hb : s.tag b = some y) (h : x ≠ y) : a ≠ b := by
  rintro rfl
  rw [ha] at hb
  exact h (Option.some.inj hb)
theorem rhas_of {s : RShape} {a : Nat} {x : RTag} (ha : s.tag a = some x) : s.has a := by unfold RShape.has; rw [ha]; simp
theorem rhas_lt {w : World} {tb : Nat} {s : RShape} {bl : Int} {T : TreeV} (h : RTreeIn w tb s bl T) {b : Nat} (q : s.has b) : b < w.heap.size := by
  cases hg : s.tag b with
  | none => exact absurd hg q
  | some g => exact h.lt b g hg
structure TurnR (w : World) (s : RShape) (w' : World) (s' : RShape) : Prop where
  keep : Keep w w' s.has
  new : ∀ b, s'.has b → s.has b ∨ w.heap.size ≤ b
theorem TurnR.trans {w w1 w2 : World} {s s1 s2 : RShape} (h : TurnR w s w1 s1) (k : TurnR w1 s1 w2 s2) : TurnR w s w2 s2 :=
  ⟨h.keep.trans k.keep (fun b q => h.new b q), fun b q => by
    rcases k.new b q with z | z
    · exact h.new b z
    · exact .inr (Nat.le_trans h.keep.size z)⟩
theorem TurnR.same {w w1 : World} {s : RShape} (h : Keep w w1 s.has) : TurnR w s w1 s := ⟨h, fun b q => .inl q⟩
theorem TurnR.aside {w w1 : World} {s : RShape} (h : Keep w w1 (fun _ => False)) : TurnR w s w1 s := ⟨h.mono (fun _ q => q.elim), fun b q => .inl q⟩
namespace RTreeIn
variable {w w' : World} {tb : Nat} {s : RShape} {bl : Int} {T : TreeV}
theorem keep (h : RTreeIn w tb s bl T) {S : Nat → Prop} (K : Keep w w' S) (hS : ∀ b, s.has b → ¬ S b) : RTreeIn w' tb s bl T :=
  ⟨K.get h.head (hS _ (rhas_of h.tTree)), rows_keep h.rows K (fun b q => hS b (rhas_of (h.tRows b q))), fun x hx => K.get (h.node x hx) (hS _ (rhas_of (h.tNode x hx))), fun x hx => rows_keep (h.ents x hx) K (fun b q => hS b (rhas_of (h.tEnts x hx b q))),
    h.pool.keep K (fun b q => hS b (rhas_of q)), h.nodup, h.tTree, h.tRows, h.tNode, h.tEnts, fun b g q => Nat.lt_of_lt_of_le (h.lt b g q) K.size⟩
theorem aside (h : RTreeIn w tb s bl T) (K : Keep w w' (fun _ => False)) : RTreeIn w' tb s bl T := h.keep K (fun _ _ q => q)
theorem turned (h : RTreeIn w tb s bl T) (t : Int) : RTreeIn w tb s bl { T with turns := t } := ⟨h.head, h.rows, h.node, h.ents, h.pool, h.nodup, h.tTree, h.tRows, h.tNode, h.tEnts, h.lt⟩
theorem node_at (h : RTreeIn w tb s bl T) {n : Int} {x : NodeV} (hx : aget T.all n = some x) : w.heap[s.na n]? = some (.cells (rnodeC n x (s.up n) (s.ev n)) 148 (0, 0)) := h.node _ (aget_memN hx)
theorem ents_at (h : RTreeIn w tb s bl T) {n : Int} {x : NodeV} (hx : aget T.all n = some x) : w.ownsRow 0 200 2 (s.ev n) x.names.length (flat entC (entsOf x.names)) := h.ents _ (aget_memN hx)
theorem tnode (h : RTreeIn w tb s bl T) {n : Int} {x : NodeV} (hx : aget T.all n = some x) : s.tag (s.na n) = some (.node n) := h.tNode _ (aget_memN hx)
theorem tents (h : RTreeIn w tb s bl T) {n : Int} {x : NodeV} (hx : aget T.all n = some x) : ∀ b, (s.ev n).ownBlock = some b → s.tag b = some (.ents n) := h.tEnts _ (aget_memN hx)
theorem mem_set (h : RTreeIn w tb s bl T) {n : Int} {x x' : NodeV} (hx : aget T.all n = some x) {y : Nod} (hy : y ∈ aset T.all n x') : y = (n, x') ∨ (y ∈ T.all ∧ y.1 ≠ n) := mem_asetN h.nodup hx hy
theorem slots_keys {L M : TreeV} {na : Int → Nat} (hm : L.made = M.made) (h : ∀ k, (aget L.all k).isSome = (aget M.all k).isSome) : rslots L na = rslots M na := by
  unfold rslots rslot
  rw [hm]
  apply List.map_congr_left
  intro i _
  rw [h]
def _root_.Go.Proofs.YtoanccechefclaaGreatDoor.RShape.turned (s : RShape) (n u : Int) (v : Value) : RShape :=
  { s with ev := fun k => if k = n then v else s.ev k, up := fun k => if k = n then u else s.up k, tag := fun b => if v.ownBlock = some b then some (.ents n) else s.tag b }
theorem setNode (h : RTreeIn w tb s bl T) {n : Int} {x x' : NodeV} (hx : aget T.all n = some x) {v : Value} {u : Int} (K : Keep w w' (fun b => b = s.na n)) (hc : w'.heap[s.na n]? = some (.cells (rnodeC n x' u v) 148 (0, 0)))
    (he : w'.ownsRow 0 200 2 v x'.names.length (flat entC (entsOf x'.names))) (hv : ∀ b, v.ownBlock = some b → (s.ev n).ownBlock = some b ∨ s.tag b = none) :
    RTreeIn w' tb (s.turned n u v) bl (T.set n x') ∧ ∀ b, (s.turned n u v).has b → s.has b ∨ v.ownBlock = some b := by
  have hm := aget_memN hx
  have ht := h.tnode hx
  have hte := h.tents hx
  have vt : ∀ b g, s.tag b = some g → v.ownBlock = some b → g = .ents n := fun b g q z => by
    rcases hv b z with y | y
    · have := hte b y
      rw [q] at this
      exact Option.some.inj this
    · rw [q] at y; cases y
  have tg : ∀ {b g}, s.tag b = some g → (s.turned n u v).tag b = some g := by
    intro b g q
    show (if v.ownBlock = some b then some (RTag.ents n) else s.tag b) = some g
    by_cases z : v.ownBlock = some b
    · rw [if_pos z, vt b g q z]
    · rw [if_neg z]; exact q
  have ne : ∀ {b g}, s.tag b = some g → g ≠ .node n → ¬ b = s.na n := fun q z => rtag_ne q ht z
  have ev1 : (s.turned n u v).ev n = v := by show (if n = n then v else _) = v; rw [if_pos rfl]
  have up1 : (s.turned n u v).up n = u := by show (if n = n then u else _) = u; rw [if_pos rfl]
  have ev2 : ∀ m, m ≠ n → (s.turned n u v).ev m = s.ev m := fun m q => by show (if m = n then v else _) = _; rw [if_neg q]
  have up2 : ∀ m, m ≠ n → (s.turned n u v).up m = s.up m := fun m q => by show (if m = n then u else _) = _; rw [if_neg q]
  have hrl : ∀ b, v.ownBlock = some b → b < w'.heap.size := fun b q => by
    rcases rows_val he with ⟨e, _⟩ | ⟨g, cap, e, _, e5, e6⟩
    · rw [e] at q; simp [Value.ownBlock] at q
    · rw [e5] at q; cases q; exact e6
  refine ⟨⟨K.get h.head (ne h.tTree (by simp)), ?_, fun y hy => ?_, fun y hy => ?_, ?_, ?_, tg h.tTree, fun b q => tg (h.tRows b q), fun y hy => ?_, fun y hy b q => ?_, fun b g q => ?_⟩, fun b q => ?_⟩
  · have e : rslots (T.set n x') s.na = rslots T s.na := slots_keys rfl (fun k => by
      show (aget (aset T.all n x') k).isSome = _
      rw [aget_aset]
      by_cases q : n = k
      · rw [if_pos q, ← q, hx]; rfl
      · rw [if_neg q])
    show w'.ownsRow 0 _ 1 s.rv T.made.toNat (rslots (T.set n x') s.na)
    rw [e]
    exact rows_keep h.rows K (fun b q => ne (h.tRows b q) (by simp))
  · rcases h.mem_set hx hy with q | ⟨q, q2⟩
    · rw [q]; simp only; rw [ev1, up1]; exact hc
    · rw [ev2 _ q2, up2 _ q2]
      exact K.get (h.node y q) (ne (h.tNode y q) (by simpa using q2))
  · rcases h.mem_set hx hy with q | ⟨q, q2⟩
    · rw [q]; simp only; rw [ev1]; exact he
    · rw [ev2 _ q2]
      exact rows_keep (h.ents y q) K (fun b z => ne (h.tEnts y q b z) (by simp))
  · have e : (fun b => (s.turned n u v).tag b = some RTag.pool) = fun b => s.tag b = some RTag.pool := by
      funext b
      apply propext
      refine ⟨fun q => ?_, fun q => tg q⟩
      have q' : (if v.ownBlock = some b then some (RTag.ents n) else s.tag b) = some RTag.pool := q
      split at q'
      · cases q'
      · exact q'
    show RPoolAt w' s.pb _ bl T.pool
    rw [e]
    exact h.pool.keep K (fun b q => ne q (by simp))
  · show ((aset T.all n x').map Prod.fst).Nodup
    rw [aset_keys hx]
    exact h.nodup
  · rcases h.mem_set hx hy with q | ⟨q, q2⟩
    · rw [q]; exact tg ht
    · exact tg (h.tNode y q)
  · rcases h.mem_set hx hy with z | ⟨z, z2⟩
    · rw [z] at q ⊢
      simp only at q ⊢
      rw [ev1] at q
      show (if v.ownBlock = some b then some (RTag.ents n) else s.tag b) = some (.ents n)
      rw [if_pos q]
    · rw [ev2 _ z2] at q
      exact tg (h.tEnts y z b q)
  · have q' : (if v.ownBlock = some b then some (RTag.ents n) else s.tag b) = some g := q
    split at q'
    · rename_i z; exact hrl b z
    · exact Nat.lt_of_lt_of_le (h.lt b g q') K.size
  · by_cases z : v.ownBlock = some b
    · exact .inr z
    · left
      intro y
      apply q
      show (if v.ownBlock = some b then some (RTag.ents n) else s.tag b) = none
      rw [if_neg z]
      exact y
theorem delNode (h : RTreeIn w tb s bl T) {i : Nat} (hi : i < T.made.toNat) (K : Keep w w' (fun b => s.rv.ownBlock = some b)) (hr : w'.ownsRow 0 145 1 s.rv T.made.toNat ((rslots T s.na).set i (.pointer none))) :
    RTreeIn w' tb s bl { T with all := adel T.all ((i : Int) + 1) } := by
  have ne : ∀ {b g}, s.tag b = some g → g ≠ .rows → ¬ s.rv.ownBlock = some b := fun q z e => by
    have := h.tRows _ e
    rw [q] at this
    exact z (Option.some.inj this)
  refine ⟨K.get h.head (ne h.tTree (by simp)), ?_, fun y hy => K.get (h.node y (mem_adel_any hy)) (ne (h.tNode y (mem_adel_any hy)) (by simp)), fun y hy => rows_keep (h.ents y (mem_adel_any hy)) K (fun b z => ne (h.tEnts y (mem_adel_any hy) b z) (by simp)),
    h.pool.keep K (fun b q => ne q (by simp)), h.nodup.sublist ((adel_sub T.all ((i : Int) + 1)).map Prod.fst), h.tTree, h.tRows, fun y hy => h.tNode y (mem_adel_any hy), fun y hy => h.tEnts y (mem_adel_any hy), fun b g q => Nat.lt_of_lt_of_le (h.lt b g q) K.size⟩
  have e : rslots { T with all := adel T.all ((i : Int) + 1) } s.na = (rslots T s.na).set i (.pointer none) := by
    apply List.ext_getElem?
    intro j
    rw [List.getElem?_set]
    by_cases hj : j < T.made.toNat
    · rw [rslots_get T s.na hj, rslots_get { T with all := adel T.all ((i : Int) + 1) } s.na (i := j) hj, rslots_len]
      unfold rslot
      simp only
      rw [aget_adelI h.nodup]
      by_cases hij : i = j
      · subst hij
        rw [if_pos rfl, if_pos rfl, if_pos hi]; rfl
      · rw [if_neg hij]
        simp only [show ¬ ((i : Int) + 1 = (j : Int) + 1) by omega, if_false]
    · have e1 : (rslots T s.na)[j]? = none := List.getElem?_eq_none (by rw [rslots_len]; omega)
      have e2 : (rslots { T with all := adel T.all ((i : Int) + 1) } s.na)[j]? = none := List.getElem?_eq_none (by rw [rslots_len]; exact Nat.le_of_not_lt hj)
      rw [e1, e2, rslots_len]
      split
      · omega
      · rfl
  rw [e]
  exact hr
def _root_.Go.Proofs.YtoanccechefclaaGreatDoor.RShape.added (s : RShape) (n : Int) (b : Nat) (rv : Value) : RShape :=
  { s with rv := rv, na := fun m => if m = n then b else s.na m, ev := fun m => if m = n then .slice none 0 0 else s.ev m, up := fun m => if m = n then 0 else s.up m,
           tag := fun c => if c = b then some (.node n) else if rv.ownBlock = some c then some .rows else s.tag c }
theorem addNode (h : RTreeIn w tb s bl T) {m : Nat} (hm : T.made = m) {x : NodeV} (hxn : x.names = []) {b : Nat} {rv : Value} (hn : ∀ y ∈ T.all, y.1 ≤ T.made) (hb : s.tag b = none) (K : Keep w w' (fun c => c = tb ∨ s.rv.ownBlock = some c))
    (hh : w'.heap[tb]? = some (.cells #[.int .i64 T.most, ptr s.pb, rv] 144 (0, 0))) (hr : w'.ownsRow 0 145 1 rv (m + 1) (rslots T s.na ++ [ptr b])) (hrv : ∀ c, rv.ownBlock = some c → s.rv.ownBlock = some c ∨ s.tag c = none) (hrb : rv.ownBlock ≠ some b)
    (hx : w'.heap[b]? = some (.cells (rnodeC (T.made + 1) x 0 (.slice none 0 0)) 148 (0, 0))) :
    RTreeIn w' tb (s.added (T.made + 1) b rv) bl { T with made := T.made + 1, all := aset T.all (T.made + 1) x } ∧ ∀ c, (s.added (T.made + 1) b rv).has c → s.has c ∨ c = b ∨ rv.ownBlock = some c := by
  have hnk : T.made + 1 ∉ T.all.map Prod.fst := fun q => by
    obtain ⟨y, hy, e⟩ := List.mem_map.1 q
    have := hn y hy
    omega
  have hmem : ∀ y, y ∈ aset T.all (T.made + 1) x → y = (T.made + 1, x) ∨ (y ∈ T.all ∧ y.1 ≠ T.made + 1) := fun y hy => by
    rw [aset_new _ _ _ hnk] at hy
    rcases List.mem_append.1 hy with q | q
    · exact .inr ⟨q, fun e => hnk (by rw [← e]; exact List.mem_map_of_mem (f := Prod.fst) q)⟩
    · simp only [List.mem_cons, List.not_mem_nil, or_false] at q
      exact .inl q
  have rvt : ∀ c g, s.tag c = some g → rv.ownBlock = some c → g = .rows := fun c g q z => by
    rcases hrv c z with y | y
    · have := h.tRows c y
      rw [q] at this
      exact Option.some.inj this
    · rw [q] at y; cases y
  have tg : ∀ {c g}, s.tag c = some g → (s.added (T.made + 1) b rv).tag c = some g := by
    intro c g q
    show (if c = b then some (RTag.node (T.made + 1)) else if rv.ownBlock = some c then some .rows else s.tag c) = some g
    rw [if_neg (fun e => by rw [e, hb] at q; cases q)]
    by_cases z : rv.ownBlock = some c
    · rw [if_pos z, rvt c g q z]
    · rw [if_neg z]; exact q
  have ne : ∀ {c g}, s.tag c = some g → g ≠ .tree → g ≠ .rows → ¬ (c = tb ∨ s.rv.ownBlock = some c) := fun q z1 z2 e => by
    rcases e with e | e
    · rw [e, h.tTree] at q; exact z1 (Option.some.inj q).symm
    · have := h.tRows _ e
      rw [q] at this
      exact z2 (Option.some.inj this)
  have na1 : (s.added (T.made + 1) b rv).na (T.made + 1) = b := by show (if T.made + 1 = T.made + 1 then b else _) = b; rw [if_pos rfl]
  have ev1 : (s.added (T.made + 1) b rv).ev (T.made + 1) = .slice none 0 0 := by show (if T.made + 1 = T.made + 1 then _ else _) = _; rw [if_pos rfl]
  have up1 : (s.added (T.made + 1) b rv).up (T.made + 1) = 0 := by show (if T.made + 1 = T.made + 1 then _ else _) = _; rw [if_pos rfl]
  have na2 : ∀ k, k ≠ T.made + 1 → (s.added (T.made + 1) b rv).na k = s.na k := fun k q => by show (if k = T.made + 1 then b else _) = _; rw [if_neg q]
  have ev2 : ∀ k, k ≠ T.made + 1 → (s.added (T.made + 1) b rv).ev k = s.ev k := fun k q => by show (if k = T.made + 1 then _ else _) = _; rw [if_neg q]
  have up2 : ∀ k, k ≠ T.made + 1 → (s.added (T.made + 1) b rv).up k = s.up k := fun k q => by show (if k = T.made + 1 then _ else _) = _; rw [if_neg q]
  refine ⟨⟨hh, ?_, fun y hy => ?_, fun y hy => ?_, ?_, ?_, tg h.tTree, fun c q => ?_, fun y hy => ?_, fun y hy c q => ?_, fun c g q => ?_⟩, fun c q => ?_⟩
  · have e : rslots { T with made := T.made + 1, all := aset T.all (T.made + 1) x } (s.added (T.made + 1) b rv).na = rslots T s.na ++ [ptr b] := by
      unfold rslots
      simp only
      rw [show (T.made + 1).toNat = m + 1 by omega, show T.made.toNat = m by omega, List.range_succ, List.map_append]
      congr 1
      · apply List.map_congr_left
        intro i hi
        have hi' := List.mem_range.1 hi
        unfold rslot
        simp only
        have q1 : ¬ T.made + 1 = (i : Int) + 1 := by omega
        rw [aget_aset, if_neg q1, na2 _ (fun e => q1 e.symm)]
      · simp only [List.map_cons, List.map_nil]
        unfold rslot
        simp only
        have q2 : T.made + 1 = (m : Int) + 1 := by omega
        rw [aget_aset, if_pos q2, ← q2, na1]
        rfl
    rw [e]
    show w'.ownsRow 0 _ 1 rv (T.made + 1).toNat _
    rw [show (T.made + 1).toNat = m + 1 by omega]
    exact hr
  · rcases hmem y hy with q | ⟨q, q2⟩
    · rw [q]; simp only; rw [na1, ev1, up1]; exact hx
    · rw [na2 _ q2, ev2 _ q2, up2 _ q2]
      exact K.get (h.node y q) (ne (h.tNode y q) (by simp) (by simp))
  · rcases hmem y hy with q | ⟨q, q2⟩
    · rw [q]; simp only; rw [ev1, hxn, ents_nil]; exact rows_nil _ _ _
    · rw [ev2 _ q2]
      exact rows_keep (h.ents y q) K (fun c z => ne (h.tEnts y q c z) (by simp) (by simp))
  · have e : (fun c => (s.added (T.made + 1) b rv).tag c = some RTag.pool) = fun c => s.tag c = some RTag.pool := by
      funext c
      apply propext
      refine ⟨fun q => ?_, fun q => tg q⟩
      have q' : (if c = b then some (RTag.node (T.made + 1)) else if rv.ownBlock = some c then some .rows else s.tag c) = some RTag.pool := q
      split at q'
      · cases q'
      · split at q'
        · cases q'
        · exact q'
    show RPoolAt w' s.pb _ bl T.pool
    rw [e]
    exact h.pool.keep K (fun c q => ne q (by simp) (by simp))
  · show ((aset T.all (T.made + 1) x).map Prod.fst).Nodup
    rw [aset_new _ _ _ hnk, List.map_append, List.nodup_append]
    refine ⟨h.nodup, by simp, ?_⟩
    intro a ha c hc e
    simp only [List.map_cons, List.map_nil, List.mem_singleton] at hc
    exact hnk (by rw [← hc, ← e]; exact ha)
  · show (if c = b then some (RTag.node (T.made + 1)) else if rv.ownBlock = some c then some .rows else s.tag c) = some RTag.rows
    have q : rv.ownBlock = some c := q
    rw [if_neg (fun e => hrb (by rw [← e]; exact q)), if_pos q]
  · rcases hmem y hy with q | ⟨q, q2⟩
    · rw [q]; simp only; rw [na1]
      show (if b = b then some (RTag.node (T.made + 1)) else _) = _
      rw [if_pos rfl]
    · rw [na2 _ q2]; exact tg (h.tNode y q)
  · rcases hmem y hy with z | ⟨z, z2⟩
    · rw [z] at q; simp only at q; rw [ev1] at q; simp [Value.ownBlock] at q
    · rw [ev2 _ z2] at q; exact tg (h.tEnts y z c q)
  · have q' : (if c = b then some (RTag.node (T.made + 1)) else if rv.ownBlock = some c then some .rows else s.tag c) = some g := q
    split at q'
    · rename_i e; rw [e]; exact lt_of_blk hx
    · split at q'
      · rename_i e
        rcases rows_val hr with ⟨e1, _⟩ | ⟨g1, cap, e1, _, e5, e6⟩
        · rw [e1] at e; simp [Value.ownBlock] at e
        · rw [e5] at e; cases e; exact e6
      · exact Nat.lt_of_lt_of_le (h.lt c g q') K.size
  · by_cases e1 : c = b
    · exact .inr (.inl e1)
    · by_cases e2 : rv.ownBlock = some c
      · exact .inr (.inr e2)
      · left
        intro z
        apply q
        show (if c = b then some (RTag.node (T.made + 1)) else if rv.ownBlock = some c then some .rows else s.tag c) = none
        rw [if_neg e1, if_neg e2]
        exact z
open Classical in
noncomputable def _root_.Go.Proofs.YtoanccechefclaaGreatDoor.RShape.pooled (s : RShape) (P : Nat → Prop) : RShape := { s with tag := fun b => if P b then some .pool else if s.tag b = some .pool then none else s.tag b }
theorem setPool (h : RTreeIn w tb s bl T) {P : Nat → Prop} {V : PoolV} (hP : RPoolAt w' s.pb P bl V) (hT : Turn w (fun b => s.tag b = some .pool) w' P) :
    RTreeIn w' tb (s.pooled P) bl { T with pool := V } ∧ TurnR w s w' (s.pooled P) := by
  classical
  have old : ∀ {b : Nat} {g : RTag}, s.tag b = some g → g ≠ .pool → ¬ P b := by
    intro b g q hg p
    rcases hT.new b p with z | z
    · rw [z] at q; exact hg (Option.some.inj q).symm
    · have := h.lt b g q; omega
  have nk : ∀ {b : Nat} {g : RTag}, s.tag b = some g → g ≠ .pool → ¬ (s.tag b = some .pool) := by
    intro b g q hg z
    rw [z] at q
    exact hg (Option.some.inj q).symm
  have tg : ∀ {b : Nat} {g : RTag}, s.tag b = some g → g ≠ .pool → (s.pooled P).tag b = some g := by
    intro b g q hg
    show (if P b then some RTag.pool else if s.tag b = some .pool then none else s.tag b) = some g
    rw [if_neg (old q hg), if_neg (nk q hg)]
    exact q
  have hp : (fun b => (s.pooled P).tag b = some RTag.pool) = P := by
    funext b
    apply propext
    show (if P b then some RTag.pool else if s.tag b = some .pool then none else s.tag b) = some RTag.pool ↔ P b
    by_cases p : P b
    · rw [if_pos p]; exact ⟨fun _ => p, fun _ => rfl⟩
    · rw [if_neg p]
      refine ⟨fun q => ?_, fun q => absurd q p⟩
      split at q
      · cases q
      · rename_i z
        exact absurd q z
  have hpool : RPoolAt w' (s.pooled P).pb (fun b => (s.pooled P).tag b = some .pool) bl V := by
    rw [hp]
    exact hP
  refine ⟨⟨hT.keep.get h.head (nk h.tTree (by simp)), rows_keep h.rows hT.keep (fun b q => nk (h.tRows b q) (by simp)), fun x hx => hT.keep.get (h.node x hx) (nk (h.tNode x hx) (by simp)), fun x hx => rows_keep (h.ents x hx) hT.keep (fun b q => nk (h.tEnts x hx b q) (by simp)), hpool, h.nodup,
    tg h.tTree (by simp), fun b q => tg (h.tRows b q) (by simp), fun x hx => tg (h.tNode x hx) (by simp), fun x hx b q => tg (h.tEnts x hx b q) (by simp), ?_⟩, ⟨hT.keep.mono fun b q => rhas_of q, ?_⟩⟩
  · intro b g q
    have q' : (if P b then some RTag.pool else if s.tag b = some .pool then none else s.tag b) = some g := q
    by_cases p : P b
    · exact hP.lt b p
    · rw [if_neg p] at q'
      split at q'
      · cases q'
      · exact Nat.lt_of_lt_of_le (h.lt b g q') hT.keep.size
  · intro b q
    by_cases p : P b
    · rcases hT.new b p with z | z
      · exact .inl (rhas_of z)
      · exact .inr z
    · left
      intro z
      apply q
      show (if P b then some RTag.pool else if s.tag b = some .pool then none else s.tag b) = none
      rw [if_neg p]
      split
      · rfl
      · exact z
end RTreeIn
end Go.Proofs.YtoanccechefclaaGreatDoor
namespace Go.Proofs.YtoanccechefclaaGreatDoor
open Go Go.RowKit Go.Shelf
set_option maxRecDepth 100000
attribute [local go_sem] Oper.semAt_some
structure NaI (w : World) (M : Nat) (pre : List ByteArray) (U : World) : Prop where
  keep : Keep w U (fun _ => False)
  row : ∃ v, U.heap[w.heap.size]? = some (.cells #[v] 79 (0, 0)) ∧ U.ownsRow 0 9 1 v pre.length (pre.map Value.string) ∧ ∀ b, v.ownBlock = some b → M ≤ b ∧ w.heap.size + 2 ≤ b
def TreeV.namesAt (T : TreeV) (d : Int) : List ByteArray := match T.dir d with | none => [] | some x => sortedN x.names
end Go.Proofs.YtoanccechefclaaGreatDoor
