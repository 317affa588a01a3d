/-
  Parts of the walk's proof: TreeB. (joined by pack.py)
-/
import Derived.Test.YtoanccechefclaaGreatDoorProg
import Derived.LaidEqlPtr
import Derived.Test.YtoanccechefclaaGreatDoorK01
import Derived.Test.YtoanccechefclaaGreatDoorK06
set_option linter.unusedSectionVars false
set_option linter.unusedSimpArgs false
set_option linter.unusedVariables false
namespace Go.Proofs.YtoanccechefclaaGreatDoor
open Go Go.RowKit
set_option maxRecDepth 100000
def maskV (m : Int) : Int := bits BinOp.and IntKind.i64 m 4095
theorem cmask_c (w : World) (m : Int) : Calls Tryz.prog 88 #[.int .i64 m] w fun e w' => e = .returned (.int .i64 (maskV m)) ∧ w = w' := by
  go_enter Tryz.func88, Tryz.ntmps88
  go_wp2
  go_ret
  exact ⟨rfl, rfl⟩
end Go.Proofs.YtoanccechefclaaGreatDoor
namespace Go.Proofs.YtoanccechefclaaGreatDoor
open Go Go.RowKit
set_option maxRecDepth 100000
theorem TreeIn.setHead2 {w w' : World} {tb : Nat} {s : TShape} {T : TreeV} (h : TreeIn w tb s T) (K : Keep w w' (fun b => b = tb)) {m t : Int} (hw : w'.heap[tb]? = some (.cells #[.int .i64 T.most, ptr s.pb, .map (some s.ma), .int .i64 m, .int .i64 t] 111 (0, 0))) : TreeIn w' tb s { T with made := m, turns := t } :=
  ⟨hw, h.all.keep K (tag_ne h.tAll h.tTree (by simp)), fun x hx => K.get (h.node x hx) (tag_ne (h.tNode x hx) h.tTree (by simp)), fun x hx k => (h.names x hx k).keep K (tag_ne (h.tNames x hx k) h.tTree (by simp)),
    h.pool.keep K (fun b q => tag_ne q h.tTree (by simp)), h.tTree, h.tAll, h.tNode, h.tNames, fun b g q => Nat.lt_of_lt_of_le (h.lt b g q) K.size⟩
def TShape.added (s : TShape) (n : Int) (b b2 : Nat) (dir : Bool) : TShape :=
  { s with na := fun m => if m = n then b else s.na m, nm := fun m => if m = n then b2 else s.nm m,
           tag := fun c => if c = b then some (.node n) else if dir = true ∧ c = b2 then some (.names n) else s.tag c }
theorem TreeIn.addNode {w w' : World} {tb : Nat} {s : TShape} {T : TreeV} (h : TreeIn w tb s T) {n : Int} {x : NodeV} {b b2 : Nat} (hn : n ∉ T.all.map Prod.fst) (hb : s.tag b = none) (hb2 : s.tag b2 = none) (hbb : b2 ≠ b) (K : Keep w w' (fun c => c = s.ma))
    (hM : MapAt w' s.ma kInt (aset (nodesV s T.all) n (ptr b))) (hx : w'.heap[b]? = some (.cells (nodeC n x (if x.kind = 1 then some b2 else none)) 114 (0, 0))) (hN : x.kind = 1 → MapAt w' b2 kStr (namesV x.names)) :
    TreeIn w' tb (s.added n b b2 (decide (x.kind = 1))) { T with all := aset T.all n x } ∧ ∀ c, (s.added n b b2 (decide (x.kind = 1))).has c → s.has c ∨ c = b ∨ (x.kind = 1 ∧ c = b2) := by
  have tg : ∀ {c : Nat} {g : TTag}, s.tag c = some g → (s.added n b b2 (decide (x.kind = 1))).tag c = some g := by
    intro c g q
    show (if c = b then some (TTag.node n) else if decide (x.kind = 1) = true ∧ c = b2 then some (.names n) else s.tag c) = some g
    rw [if_neg (fun e => by rw [e, hb] at q; cases q), if_neg (fun e => by rw [e.2, hb2] at q; cases q)]
    exact q
  have tb1 : (s.added n b b2 (decide (x.kind = 1))).tag b = some (.node n) := by
    show (if b = b then some (TTag.node n) else _) = _
    rw [if_pos rfl]
  have tb2 : x.kind = 1 → (s.added n b b2 (decide (x.kind = 1))).tag b2 = some (.names n) := fun k => by
    show (if b2 = b then some (TTag.node n) else if decide (x.kind = 1) = true ∧ b2 = b2 then some (.names n) else s.tag b2) = some (.names n)
    rw [if_neg hbb, if_pos ⟨by simpa using k, rfl⟩]
  have hmem : ∀ y, y ∈ aset T.all n x → y = (n, x) ∨ (y ∈ T.all ∧ y.1 ≠ n) := fun y hy => by
    rw [aset_new _ _ _ hn] at hy
    rcases List.mem_append.1 hy with q | q
    · exact .inr ⟨q, fun e => hn (by rw [← e]; exact List.mem_map_of_mem (f := Prod.fst) q)⟩
    · simp only [List.mem_cons, List.not_mem_nil, or_false] at q
      exact .inl q
  have na1 : (s.added n b b2 (decide (x.kind = 1))).na n = b := by show (if n = n then b else _) = b; rw [if_pos rfl]
  have nm1 : (s.added n b b2 (decide (x.kind = 1))).nm n = b2 := by show (if n = n then b2 else _) = b2; rw [if_pos rfl]
  have na2 : ∀ m, m ≠ n → (s.added n b b2 (decide (x.kind = 1))).na m = s.na m := fun m q => by show (if m = n then b else _) = _; rw [if_neg q]
  have nm2 : ∀ m, m ≠ n → (s.added n b b2 (decide (x.kind = 1))).nm m = s.nm m := fun m q => by show (if m = n then b2 else _) = _; rw [if_neg q]
  have hb' : s.ma ≠ b := fun e => by have := h.tAll; rw [e, hb] at this; cases this
  refine ⟨⟨K.get h.head (tag_ne h.tTree h.tAll (by simp)), ?_, fun y hy => ?_, fun y hy k => ?_, ?_, tg h.tTree, tg h.tAll, fun y hy => ?_, fun y hy k => ?_, fun c g q => ?_⟩, fun c q => ?_⟩
  · have e : nodesV (s.added n b b2 (decide (x.kind = 1))) (aset T.all n x) = aset (nodesV s T.all) n (ptr b) := by
      rw [aset_new _ _ _ hn, aset_new _ _ _ (by unfold nodesV; rw [List.map_map]; exact hn)]
      unfold nodesV
      rw [List.map_append]
      congr 1
      · apply List.map_congr_left
        intro y hy
        rw [na2 y.1 (fun e => hn (by rw [← e]; exact List.mem_map_of_mem (f := Prod.fst) hy))]
      · simp only [List.map_cons, List.map_nil]
        rw [na1]
    show MapAt w' s.ma kInt (nodesV _ (aset T.all n x))
    rw [e]
    exact hM
  · rcases hmem y hy with q | ⟨q, q2⟩
    · rw [q]
      simp only
      rw [na1]
      unfold namesB
      rw [nm1]
      exact hx
    · unfold namesB
      rw [na2 _ q2, nm2 _ q2]
      exact K.get (h.node y q) (tag_ne (h.tNode y q) h.tAll (by simp))
  · rcases hmem y hy with q | ⟨q, q2⟩
    · rw [q] at k ⊢
      simp only at k ⊢
      rw [nm1]
      exact hN k
    · rw [nm2 _ q2]
      exact (h.names y q k).keep K (tag_ne (h.tNames y q k) h.tAll (by simp))
  · have e : (fun c => (s.added n b b2 (decide (x.kind = 1))).tag c = some TTag.pool) = fun c => s.tag c = some TTag.pool := by
      funext c
      apply propext
      refine ⟨fun q => ?_, fun q => tg q⟩
      have q' : (if c = b then some (TTag.node n) else if decide (x.kind = 1) = true ∧ c = b2 then some (.names n) else s.tag c) = some TTag.pool := q
      split at q'
      · cases q'
      · split at q'
        · cases q'
        · exact q'
    show PoolAt w' s.pb _ T.pool
    rw [e]
    exact h.pool.keep K (fun c q => tag_ne q h.tAll (by simp))
  · rcases hmem y hy with q | ⟨q, q2⟩
    · rw [q]
      simp only
      rw [na1]
      exact tb1
    · rw [na2 _ q2]
      exact tg (h.tNode y q)
  · rcases hmem y hy with q | ⟨q, q2⟩
    · rw [q] at k ⊢
      simp only at k ⊢
      rw [nm1]
      exact tb2 k
    · rw [nm2 _ q2]
      exact tg (h.tNames y q k)
  · have q' : (if c = b then some (TTag.node n) else if decide (x.kind = 1) = true ∧ c = b2 then some (.names n) else s.tag c) = some g := q
    split at q'
    · rename_i e
      rw [e]
      exact lt_of_blk hx
    · split at q'
      · rename_i e
        rw [e.2]
        exact (hN (by simpa using e.1)).lt
      · exact Nat.lt_of_lt_of_le (h.lt c g q') K.size
  · by_cases e1 : c = b
    · exact .inr (.inl e1)
    · by_cases e2 : x.kind = 1 ∧ c = b2
      · exact .inr (.inr e2)
      · left
        intro z
        apply q
        show (if c = b then some (TTag.node n) else if decide (x.kind = 1) = true ∧ c = b2 then some (.names n) else s.tag c) = none
        rw [if_neg e1, if_neg (fun e => e2 ⟨by simpa using e.1, e.2⟩)]
        exact z
theorem tadd_end {w w0 w' : World} {tb : Nat} {s s0 : TShape} {T0 : TreeV} {n : Int} {x : NodeV} {b b2 : Nat} (h0 : TreeIn w0 tb s0 T0) (hT : TurnT w s w0 s0) (hn : n ∉ T0.all.map Prod.fst) (hb : s0.tag b = none) (hb2 : s0.tag b2 = none) (hbb : b2 ≠ b) (hbw : w.heap.size ≤ b) (hb2w : w.heap.size ≤ b2)
    (K : Keep w0 w' (fun c => c = s0.ma)) (hM : MapAt w' s0.ma kInt (aset (nodesV s0 T0.all) n (ptr b))) (hx : w'.heap[b]? = some (.cells (nodeC n x (if x.kind = 1 then some b2 else none)) 114 (0, 0))) (hN : x.kind = 1 → MapAt w' b2 kStr (namesV x.names)) (hna : s0.na = s.na) (hnm : s0.nm = s.nm) :
    ∃ s', s'.na n = b ∧ TreeIn w' tb s' { T0 with all := aset T0.all n x } ∧ (∀ m, m ≠ n → s'.na m = s.na m ∧ s'.nm m = s.nm m) ∧ TurnT w s w' s' := by
  obtain ⟨h1, h2⟩ := h0.addNode hn hb hb2 hbb K hM hx hN
  refine ⟨_, ?_, h1, fun m q => ⟨?_, ?_⟩, hT.keep.trans K (fun c q => ?_), fun c q => ?_⟩
  · show (if n = n then b else _) = b
    rw [if_pos rfl]
  · show (if m = n then b else _) = _
    rw [if_neg q, hna]
  · show (if m = n then b2 else _) = _
    rw [if_neg q, hnm]
  · exact hT.new c (by rw [q]; exact has_of h0.tAll)
  · rcases h2 c q with z | z | z
    · exact hT.new c z
    · exact .inr (by omega)
    · exact .inr (by omega)
set_option maxHeartbeats 4000000 in
theorem tadd_c {w : World} {tb : Nat} {s : TShape} {T : TreeV} {bl : Int} (h : TreeIn w tb s T) (hp : T.pool.ok bl) (hm : 0 ≤ T.made ∧ T.made ≤ 1000000) (hpm : T.pool.made ≤ 1000000) (hr : ∀ x ∈ T.all, x.1 ≤ T.made) (st : TreeV.StatV) (text : ByteArray) :
    Calls Tryz.prog 67 #[.pointer (some ⟨tb, 0, none⟩), .agg (statC st), .string text] w fun e w' => ∃ s', e = .returned (.pointer (some ⟨s'.na (T.made + 1), 0, none⟩)) ∧ TreeIn w' tb s' (T.add st.kind (maskV st.mode) st.uid st.gid text) ∧ (∀ m, m ≠ T.made + 1 → s'.na m = s.na m ∧ s'.nm m = s.nm m) ∧ TurnT w s w' s' := by
  obtain ⟨hm0, hm1⟩ := hm
  have ka := Keep.alloc w (.cells (statC st) 36) (fun _ => False)
  have aa := heap_alloc_eq w (.cells (statC st) 36)
  obtain ⟨wA, hwA⟩ : ∃ wA, wA = w.alloc (.cells (statC st) 36) := ⟨_, rfl⟩
  rw [← hwA] at ka aa
  have hA := h.aside ka
  have cm := hA.hcells.made
  have fm := hA.headFree 3
  have hfresh : T.made + 1 ∉ T.all.map Prod.fst := fun q => by
    obtain ⟨y, hy, e⟩ := List.mem_map.1 q
    have := hr y hy
    omega
  have H := Lib.hid (And.intro h (And.intro hp (And.intro hfresh (And.intro hwA (And.intro ka (And.intro aa hA))))))
  clear h hp hr hfresh ka aa hA hwA
  unfold statC
  go_enter Tryz.func67, Tryz.ntmps67
  go_upto_region 1 with (fail)
  rw [show w.alloc (.cells #[.int .i64 st.node, .int .i64 st.kind, .int .i64 st.mode, .int .i64 st.uid, .int .i64 st.gid, .int .i64 st.links, .int .i64 st.size] 36) = wA from H.out.2.2.2.1.symm]
  go_upto_region 2 with (fail)
  obtain ⟨w1, hw1⟩ : ∃ w1, w1 = wA.setCell ⟨tb, 3, none⟩ (.int .i64 (T.made + 1)) := ⟨_, rfl⟩
  have s1 := heap_setCell_eq (off := 3) (Value.int .i64 (T.made + 1)) H.out.2.2.2.2.2.2.head
  have k1 := Keep.setCell wA ⟨tb, 3, none⟩ (.int .i64 (T.made + 1))
  rw [← hw1] at s1 k1 ⊢
  have h1 := H.out.2.2.2.2.2.2.setHead2 k1 (m := T.made + 1) (t := T.turns) (by simpa using s1)
  have hS : StatAt w1 w.heap.size st := ⟨k1.get H.out.2.2.2.2.2.1 (fun q => by have := H.out.1.lt _ _ H.out.1.tTree; have q' : w.heap.size = tb := q; omega)⟩
  have kw1 : Keep w w1 s.has := (H.out.2.2.2.2.1.mono (fun _ q => q.elim)).trans k1 (fun b q => .inl (by rw [q]; exact has_of H.out.1.tTree))
  have zA : wA.heap.size = w.heap.size + 1 := by rw [H.out.2.2.2.1]; simp
  have z1 : w1.heap.size = w.heap.size + 1 := by rw [hw1]; simpa using zA
  clear hw1 s1 cm fm
  have cm := h1.hcells.made
  simp only at cm
  obtain ⟨-, e1, e2, e3, e4, -, -⟩ := hS.cells
  have H1 := Lib.hid (And.intro h1 (And.intro hS (And.intro kw1 k1)))
  clear h1 hS kw1 k1
  have n0 := World.new_ne w1 _ cm
  have n1 := World.new_ne w1 _ e1
  have n2 := World.new_ne w1 _ e2
  have n3 := World.new_ne w1 _ e3
  have n4 := World.new_ne w1 _ e4
  go_region_held3 (fun w' => w'.cell? ⟨tb, 3, none⟩ = some (.int .i64 (T.made + 1)) ∧ w'.cell? ⟨w.heap.size, 1, none⟩ = some (.int .i64 st.kind) ∧ w'.cell? ⟨w.heap.size, 2, none⟩ = some (.int .i64 st.mode) ∧ w'.cell? ⟨w.heap.size, 3, none⟩ = some (.int .i64 st.uid) ∧ w'.cell? ⟨w.heap.size, 4, none⟩ = some (.int .i64 st.gid)) (go_keep) (
    (go_at_call 88
     refine (cmask_c _ _).mono ?_
     rintro e w4 ⟨rfl, rfl⟩))
  obtain ⟨wB, hwB⟩ : ∃ wB, wB = (w1.alloc (.cells (nodeC (T.made + 1) ⟨st.kind, maskV st.mode, st.uid, st.gid, [], 0, 0, 0, text, 0⟩ none) 114)).drew := ⟨_, rfl⟩
  have kB : Keep w1 wB (fun _ => False) := by rw [hwB]; exact (Keep.alloc _ _ _).drewNew
  have bB : wB.heap[w.heap.size + 1]? = some (.cells (nodeC (T.made + 1) ⟨st.kind, maskV st.mode, st.uid, st.gid, [], 0, 0, 0, text, 0⟩ none) 114 (0, 0)) := by rw [hwB, ← z1]; exact heap_alloc_eq w1 _
  have zB : wB.heap.size = w.heap.size + 2 := by rw [hwB]; show (w1.alloc _).heap.size = _; simp [z1]
  refine Eq.mpr (congrArg (fun W => Exit.then _ _ Exit.normal _ W) hwB.symm) ?_
  clear hwB cm e1 e2 e3 e4 n0 n1 n2 n3 n4
  have hB := H1.out.1.aside kB
  have tnone : ∀ c, w.heap.size ≤ c → s.tag c = none := fun c q => by
    cases hq : s.tag c with
    | none => rfl
    | some g => have := H.out.1.lt c g hq; omega
  have eS := (⟨kB.get H1.out.2.1.blk (fun q => q)⟩ : StatAt wB w.heap.size st).cells.2.1
  have kwB : Keep w wB s.has := H1.out.2.2.1.trans kB (fun _ q => q.elim)
  have HB := Lib.hid (And.intro hB (And.intro kwB (And.intro bB tnone)))
  have HH := Lib.hid (And.intro kB zB)
  clear hB kwB kB bB tnone
  have hbb : s.tag (w.heap.size + 1) = none := HB.out.2.2.2 _ (by omega)
  have hbc : s.tag w.heap.size = none := HB.out.2.2.2 _ (by omega)
  have HG := Lib.hid (And.intro hbb hbc)
  clear hbb hbc
  have f7 := free_blk HB.out.2.2.1 7
  have f12 := free_blk HB.out.2.2.1 12
  obtain ⟨-, -, -, -, -, -, -, d7, -, -, -, -, d12⟩ := nodeCells HB.out.2.2.1
  by_cases hk1 : st.kind = 1
  · have hmm := @run_makeMap Tryz.prog
    simp only [hk1] at eS
    go_upto_region 8 with (fail)
    obtain ⟨wC, hwC⟩ : ∃ wC, wC = (wB.setCell ⟨w.heap.size + 1, 7, none⟩ (.map (some (w.heap.size + 2)))).alloc (.map #[] 0) := ⟨_, rfl⟩
    have kC : Keep wB wC (fun b => b = w.heap.size + 1) := by rw [hwC]; exact (Keep.setCell wB ⟨w.heap.size + 1, 7, none⟩ _).allocNew _
    have bC := (Keep.alloc (wB.setCell ⟨w.heap.size + 1, 7, none⟩ (.map (some (w.heap.size + 2)))) (.map #[] 0) (fun _ => False)).get (heap_setCell_eq (off := 7) (Value.map (some (w.heap.size + 2))) HB.out.2.2.1) (fun q => q)
    have zS : (wB.setCell ⟨w.heap.size + 1, 7, none⟩ (.map (some (w.heap.size + 2)))).heap.size = w.heap.size + 2 := by simpa using HH.out.2
    have mC : MapAt wC (w.heap.size + 2) kStr (namesV []) := by
      rw [hwC]
      have := heap_alloc_eq (wB.setCell ⟨w.heap.size + 1, 7, none⟩ (.map (some (w.heap.size + 2)))) (.map #[] 0)
      rw [zS] at this
      exact MapAt.made this
    rw [← hwC] at bC ⊢
    clear hwC
    have hC := HB.out.1.keep kC (fun c q e => by rw [e] at q; exact q HG.out.1)
    have kwC : Keep w wC s.has := HB.out.2.1.trans kC (fun b q => .inr (by omega))
    have hb2 : s.tag (w.heap.size + 2) = none := HB.out.2.2.2 _ (by omega)
    have ca := hC.hcells.all
    have cm := hC.hcells.made
    simp only at ca cm
    have C := Lib.hid (And.intro hC (And.intro kwC (And.intro bC (And.intro mC hb2))))
    clear hC kwC kC bC mC hb2 d7 d12 f7 f12
    go_still_tail 9, (by kernel_rfl)
    change wpList _ _ _ _ _ wC.drew
    have MQ := Lib.hid (C.out.1.all.keep (Keep.drew wC (fun _ => False)) (fun q => q))
    refine law_update rfl _ _ _ _ rfl kNodes tNodes rfl MQ.out (T.made + 1) rfl ?_
    intro w3 hM3 hk3
    replace hM3 : MapAt w3 s.ma kInt (aset (nodesV s T.all) (T.made + 1) (ptr (w.heap.size + 1))) := hM3
    have k3 : Keep wC w3 (fun b => b = s.ma) := (Keep.drew wC (fun _ => False)).mono (fun _ q => q.elim) |>.trans hk3 (fun b q => .inl q)
    have hma : w.heap.size + 1 ≠ s.ma := fun e => by have := HB.out.1.tAll; rw [← e, HG.out.1] at this; cases this
    have hma2 : w.heap.size + 2 ≠ s.ma := fun e => by have := HB.out.1.tAll; rw [← e, C.out.2.2.2.2] at this; cases this
    have E := Lib.hid (tadd_end (w := w) (x := ⟨1, maskV st.mode, st.uid, st.gid, [], 0, 0, 0, text, 0⟩) (b2 := (w.heap.size + 2)) C.out.1 (TurnT.same C.out.2.1) H.out.2.2.1 HG.out.1 C.out.2.2.2.2 (by have := HH.out.2; omega) (by omega) (by have := HH.out.2; omega) k3 hM3 (by
      have := k3.get C.out.2.2.1 hma
      rw [this]
      simp [nodeC, hk1]) (fun _ => C.out.2.2.2.1.keep k3 hma2) rfl rfl)
    have eA : ({ ({ T with made := T.made + 1, turns := T.turns } : TreeV) with all := aset T.all (T.made + 1) ⟨1, maskV st.mode, st.uid, st.gid, [], 0, 0, 0, text, 0⟩ } : TreeV) = T.add st.kind (maskV st.mode) st.uid st.gid text := by
      unfold TreeV.add
      rw [hk1]
      rfl
    have EA := Lib.hid eA
    clear hM3 hk3 k3 hma hma2 ca cm eS eA hk1
    go_wp2
    go_ret
    obtain ⟨s', i1, i2, i3, i4⟩ := E.out
    rw [EA.out] at i2
    exact ⟨s', by rw [i1]; rfl, i2, i3, i4⟩
  · have g1 : (st.kind == 1) = false := by simpa using hk1
    by_cases hk2 : st.kind = 2
    · simp only [hk2] at eS
      have hfl : Calls Tryz.prog 110 #[.pointer (some ⟨s.pb, 0, none⟩)] wB fun r w4 => r = .returned (.int .i64 (T.pool.made + 1)) ∧ ∃ S', PoolAt w4 s.pb S' T.pool.file ∧ Turn wB (fun b => s.tag b = some .pool) w4 S' :=
        file_cc (h := HB.out.1.pool) H.out.2.1 (by show T.pool.made ≤ _; omega)
      have cp := HB.out.1.hcells.pool
      clear hk1 g1
      go_upto_region 8 with (
        go_at_call 110
        refine hfl.mono ?_
        rintro e w4 ⟨rfl, S4, hP4, hT4⟩
        have b4 := hT4.keep.get HB.out.2.2.1 (fun q => by rw [HG.out.1] at q; cases q)
        have f12 := free_blk b4 12
        obtain ⟨-, -, -, -, -, -, -, d7, -, -, -, -, d12⟩ := nodeCells b4
        have F := Lib.hid (And.intro hP4 (And.intro hT4 b4))
        clear hP4 hT4 b4 hfl)
      obtain ⟨wC, hwC⟩ : ∃ wC, wC = w4.setCell ⟨w.heap.size + 1, 12, none⟩ (.int .i64 (T.pool.made + 1)) := ⟨_, rfl⟩
      have kC : Keep w4 wC (fun b => b = w.heap.size + 1) := by rw [hwC]; exact Keep.setCell _ _ _
      have bC := heap_setCell_eq (off := 12) (Value.int .i64 (T.pool.made + 1)) F.out.2.2
      rw [← hwC] at bC ⊢
      clear hwC
      have hPl := HB.out.1.setPool F.out.1 F.out.2.1
      have hnot : ∀ c, w.heap.size ≤ c → c < wB.heap.size → (s.pooled S4).tag c = none := fun c q1 q2 => by
        cases hq : (s.pooled S4).tag c with
        | none => rfl
        | some g =>
          rcases hPl.2 c (has_of hq) with z | z
          · exact absurd (HB.out.2.2.2 c q1) z
          · omega
      have t1 := hnot (w.heap.size + 1) (by omega) (by have := HH.out.2; omega)
      have t2 := hnot w.heap.size (by omega) (by have := HH.out.2; omega)
      have hC := hPl.1.keep kC (fun c q e => by rw [e] at q; exact q t1)
      have kwC : TurnT w s wC (s.pooled S4) := ⟨(HB.out.2.1.trans F.out.2.1.keep (fun b q => .inl (has_of q))).trans kC (fun b q => .inr (by omega)), fun b q => by
        rcases hPl.2 b q with z | z
        · exact .inl z
        · exact .inr (Nat.le_trans HB.out.2.1.size z)⟩
      have ca := hC.hcells.all
      have cm := hC.hcells.made
      simp only at ca cm
      replace ca : wC.cell? ⟨tb, 2, none⟩ = some (.map (some s.ma)) := ca
      have C := Lib.hid (And.intro hC (And.intro kwC (And.intro bC (And.intro t1 t2))))
      clear hC kwC kC bC t1 t2 d7 d12 f7 f12 hPl hnot cp
      go_still_tail 9, (by kernel_rfl)
      change wpList _ _ _ _ _ wC.drew
      have MQ := Lib.hid (C.out.1.all.keep (Keep.drew wC (fun _ => False)) (fun q => q))
      refine law_update rfl _ _ _ _ rfl kNodes tNodes rfl MQ.out (T.made + 1) rfl ?_
      intro w3 hM3 hk3
      replace hM3 : MapAt w3 s.ma kInt (aset (nodesV s T.all) (T.made + 1) (ptr (w.heap.size + 1))) := hM3
      have k3 : Keep wC w3 (fun b => b = s.ma) := (Keep.drew wC (fun _ => False)).mono (fun _ q => q.elim) |>.trans hk3 (fun b q => .inl q)
      have hma : w.heap.size + 1 ≠ s.ma := fun e => by have := HB.out.1.tAll; rw [← e, HG.out.1] at this; cases this
      have E := Lib.hid (tadd_end (w := w) (x := ⟨2, maskV st.mode, st.uid, st.gid, [], 0, 0, 0, text, T.pool.made + 1⟩) (b2 := w.heap.size) C.out.1 C.out.2.1 H.out.2.2.1 C.out.2.2.2.1 C.out.2.2.2.2 (by omega) (by omega) (by omega) k3 hM3 (by
        have := k3.get C.out.2.2.1 hma
        rw [this]
        simp [nodeC, hk2]) (fun q => by have q' : (2 : Int) = 1 := q; omega) rfl rfl)
      have eA : ({ ({ T with made := T.made + 1, turns := T.turns, pool := T.pool.file } : TreeV) with all := aset T.all (T.made + 1) ⟨2, maskV st.mode, st.uid, st.gid, [], 0, 0, 0, text, T.pool.made + 1⟩ } : TreeV) = T.add st.kind (maskV st.mode) st.uid st.gid text := by
        unfold TreeV.add
        rw [hk2]
        rfl
      have EA := Lib.hid eA
      clear hM3 hk3 k3 hma ca cm eS eA hk2
      go_wp2
      go_ret
      obtain ⟨s', i1, i2, i3, i4⟩ := E.out
      rw [EA.out] at i2
      exact ⟨s', by rw [i1]; rfl, i2, i3, i4⟩
    · have g2 : (st.kind == 2) = false := by simpa using hk2
      go_upto_region 8 with (fail)
      have ca := HB.out.1.hcells.all
      have cm := HB.out.1.hcells.made
      simp only at ca cm
      go_still_tail 9, (by kernel_rfl)
      change wpList _ _ _ _ _ wB.drew
      have MQ := Lib.hid (HB.out.1.all.keep (Keep.drew wB (fun _ => False)) (fun q => q))
      refine law_update rfl _ _ _ _ rfl kNodes tNodes rfl MQ.out (T.made + 1) rfl ?_
      intro w3 hM3 hk3
      replace hM3 : MapAt w3 s.ma kInt (aset (nodesV s T.all) (T.made + 1) (ptr (w.heap.size + 1))) := hM3
      have k3 : Keep wB w3 (fun b => b = s.ma) := (Keep.drew wB (fun _ => False)).mono (fun _ q => q.elim) |>.trans hk3 (fun b q => .inl q)
      have hma : w.heap.size + 1 ≠ s.ma := fun e => by have := HB.out.1.tAll; rw [← e, HG.out.1] at this; cases this
      have E := Lib.hid (tadd_end (w := w) (x := ⟨st.kind, maskV st.mode, st.uid, st.gid, [], 0, 0, 0, text, 0⟩) HB.out.1 (TurnT.same HB.out.2.1) H.out.2.2.1 HG.out.1 HG.out.2 (by omega) (by omega) (by omega) k3 hM3 (by rw [if_neg hk1]; exact k3.get HB.out.2.2.1 hma) (fun q => absurd q hk1) rfl rfl)
      have eA : ({ ({ T with made := T.made + 1, turns := T.turns } : TreeV) with all := aset T.all (T.made + 1) ⟨st.kind, maskV st.mode, st.uid, st.gid, [], 0, 0, 0, text, 0⟩ } : TreeV) = T.add st.kind (maskV st.mode) st.uid st.gid text := by
        unfold TreeV.add
        rw [if_neg hk2, if_neg hk2]
      have EA := Lib.hid eA
      clear hM3 hk3 k3 hma ca cm d7 d12 f7 f12 eS eA hk1 hk2
      go_wp2
      go_ret
      obtain ⟨s', i1, i2, i3, i4⟩ := E.out
      rw [EA.out] at i2
      exact ⟨s', by rw [i1]; rfl, i2, i3, i4⟩
end Go.Proofs.YtoanccechefclaaGreatDoor
namespace Go.Proofs.YtoanccechefclaaGreatDoor
open Go Go.RowKit
set_option maxRecDepth 100000
def RightIs (k : ByteArray) (r : Bool) : Prop := ∀ U : World, Calls Tryz.prog 65 #[.string k] U fun e w' => e = .returned (.bool r) ∧ U = w'
theorem kid_links {T : TreeV} (h : T.ok) {k : Int} (hs : T.small k) {n : Int} {x : NodeV} (hx : aget T.all n = some x) : 0 ≤ x.links ∧ x.links ≤ k := ⟨h.links0 hx, (hs.node hx).2.1⟩
set_option maxHeartbeats 2000000 in
theorem tpart_c {w : World} {tb : Nat} {s : TShape} {T : TreeV} {bl : Int} (h : TreeIn w tb s T) (hg : T.good bl) (hs : T.small 900000) (d : Int) (k : ByteArray) :
    Calls Tryz.prog 43 #[.pointer (some ⟨tb, 0, none⟩), .int .i64 d, .string k] w fun e w' => e = .returned (.int .i64 (T.part d k).2) ∧ ∃ s', TreeIn w' tb s' (T.part d k).1 ∧ TurnT w s w' s' := by
  have hd := tdir_c h d
  have same : ∀ w', w = w' → ∃ s', TreeIn w' tb s' T ∧ TurnT w s w' s' := by
    rintro w' rfl
    exact ⟨s, h, TurnT.same (Keep.refl _ _)⟩
  cases hx : T.dir d with
  | none =>
    unfold TreeV.isDir at hd
    rw [hx] at hd
    simp only [Option.isSome_none, Bool.false_eq_true, if_false] at hd
    rw [show T.part d k = (T, 1) by unfold TreeV.part; simp only [hx]]
    have HS := Lib.hid same
    clear h hx same hg hs
    go_enter Tryz.func43, Tryz.ntmps43
    go_wp2_with (
      go_at_call 64
      refine hd.mono ?_
      rintro e w1 ⟨rfl, rfl⟩
      clear hd)
    go_ret
    exact ⟨rfl, HS.out _ rfl⟩
  | some dx =>
    unfold TreeV.isDir at hd
    rw [hx] at hd
    simp only [Option.isSome_some, if_true] at hd
    obtain ⟨hdg, hdk⟩ := TreeV.dir_some hx
    have c1 := (h.cells hdg).names
    unfold namesB at c1
    rw [if_pos hdk] at c1
    have l := names_look (h.names_at hdg hdk) k true
    simp only [if_true] at l
    cases hk : aget dx.names k with
    | none =>
      rw [hk] at l
      simp only [Option.getD_none, Option.isSome_none] at l
      rw [show T.part d k = (T, 32) by unfold TreeV.part; simp only [hx, hk]]
      have HS := Lib.hid same
      clear h hx same hg hs hdg hdk hk
      go_enter Tryz.func43, Tryz.ntmps43
      go_wp2_with (
        go_at_call 64
        refine hd.mono ?_
        rintro e w1 ⟨rfl, rfl⟩
        clear hd)
      go_ret
      exact ⟨rfl, HS.out _ rfl⟩
    | some n =>
      rw [hk] at l
      simp only [Option.getD_some, Option.isSome_some] at l
      obtain ⟨y, hy⟩ := hg.ok.kid hx hk
      have ca := h.hcells.all
      have l2 := look_some h hy
      have cn := (h.cells hy).names
      have hne := hg.ok.kid_ne hx hk
      have hyl := kid_links hg.ok hs hy
      by_cases hk1 : y.kind = 1
      · unfold namesB at cn
        rw [if_pos hk1] at cn
        have hMy := h.names_at hy hk1
        by_cases hl : 0 < y.names.length
        · rw [show T.part d k = (T, 47) by unfold TreeV.part; simp only [hx, hk, hy]; rw [if_pos (List.length_pos_iff.1 hl)]]
          have HM := Lib.hid hMy
          have g : (0 : Int) < ((namesV y.names).length : Int) := by rw [namesV_len]; omega
          have HS := Lib.hid same
          clear h hx same hg hs hdg hdk hk hy hMy hl hne hyl hk1
          go_enter Tryz.func43, Tryz.ntmps43
          go_wp2_with (first
            | (go_at_call 64
               refine hd.mono ?_
               rintro e w1 ⟨rfl, rfl⟩
               clear hd)
            | (at_len; refine law_len rfl _ _ rfl tNames rfl HM.out ?_))
          go_ret
          exact ⟨rfl, HS.out _ rfl⟩
        · rw [show T.part d k = (T.take d k n, 0) by unfold TreeV.part; simp only [hx, hk, hy]; rw [if_neg (fun q => hl (List.length_pos_iff.2 q))]]
          have HM := Lib.hid hMy
          have g : ¬ (0 : Int) < ((namesV y.names).length : Int) := by rw [namesV_len]; omega
          have ht := ttake_c h hg.pool hdg hdk hk hy hne ⟨hs.turns.1, hs.turns.2⟩ ⟨hyl.1, by omega⟩
          have HS := Lib.hid same
          clear h hx same hg hs hdg hdk hk hy hMy hl hne hyl hk1
          go_enter Tryz.func43, Tryz.ntmps43
          go_wp2_with (first
            | (go_at_call 64
               refine hd.mono ?_
               rintro e w1 ⟨rfl, rfl⟩
               clear hd)
            | (at_len; refine law_len rfl _ _ rfl tNames rfl HM.out ?_)
            | (go_at_call 72
               refine ht.mono ?_
               rintro e w2 ⟨⟨v, rfl⟩, s', i1, i2, i3, i4⟩
               have N := Lib.hid (And.intro i1 i4)
               clear ht i1 i2 i3 i4))
          go_ret
          exact ⟨rfl, s', N.out.1, N.out.2⟩
      · have hyn : y.names = [] := hg.ok.leaf _ (aget_memN hy) hk1
        rw [show T.part d k = (T.take d k n, 0) by unfold TreeV.part; simp only [hx, hk, hy]; rw [if_neg (by rw [hyn]; simp)]]
        unfold namesB at cn
        rw [if_neg hk1] at cn
        have ht := ttake_c h hg.pool hdg hdk hk hy hne ⟨hs.turns.1, hs.turns.2⟩ ⟨hyl.1, by omega⟩
        have HS := Lib.hid same
        clear h hx same hg hs hdg hdk hk hy hne hyl hk1 hyn
        go_enter Tryz.func43, Tryz.ntmps43
        go_wp2_with (first
          | (go_at_call 64
             refine hd.mono ?_
             rintro e w1 ⟨rfl, rfl⟩
             clear hd)
          | (go_at_call 72
             refine ht.mono ?_
             rintro e w2 ⟨⟨v, rfl⟩, s', i1, i2, i3, i4⟩
             have N := Lib.hid (And.intro i1 i4)
             clear ht i1 i2 i3 i4))
        go_ret
        exact ⟨rfl, s', N.out.1, N.out.2⟩
end Go.Proofs.YtoanccechefclaaGreatDoor
namespace Go.Proofs.YtoanccechefclaaGreatDoor
open Go Go.RowKit
set_option maxRecDepth 100000
theorem isDir_eq {T : TreeV} {d : Int} {dx : NodeV} (hx : T.dir d = some dx) : T.isDir d = true := by unfold TreeV.isDir; rw [hx]; rfl
theorem isDir_not {T : TreeV} {d : Int} (hx : T.dir d = none) : T.isDir d = false := by unfold TreeV.isDir; rw [hx]; rfl
set_option maxHeartbeats 4000000 in
theorem tjoin_c {w : World} {tb : Nat} {s : TShape} {T : TreeV} {bl : Int} (h : TreeIn w tb s T) (hg : T.good bl) (hs : T.small 900000) {r : Bool} {k : ByteArray} (hr : RightIs k r) (d n : Int) :
    Calls Tryz.prog 41 #[.pointer (some ⟨tb, 0, none⟩), .int .i64 d, .string k, .int .i64 n] w fun e w' => e = .returned (.int .i64 (T.join r d k n).2) ∧ ∃ s', TreeIn w' tb s' (T.join r d k n).1 ∧ TurnT w s w' s' := by
  have hD := h.aside (Keep.drew w (fun _ => False))
  have hd : ∀ w', w' = w.drew → Calls Tryz.prog 64 #[.pointer (some ⟨tb, 0, none⟩), .int .i64 d] w' fun e w2 => e = .returned (if T.isDir d then .pointer (some ⟨s.na d, 0, none⟩) else .pointer none) ∧ w' = w2 := fun w' q => by rw [q]; exact tdir_c hD d
  have same : ∃ s', TreeIn w.drew tb s' T ∧ TurnT w s w.drew s' := ⟨s, hD, TurnT.same (Keep.drew _ _)⟩
  have ca := h.hcells.all
  have caD := hD.hcells.all
  obtain ⟨pd, hpd⟩ : ∃ pd, (if T.isDir d then Value.pointer (some ⟨s.na d, 0, none⟩) else .pointer none) = pd := ⟨_, rfl⟩
  obtain ⟨pn, hpn⟩ : ∃ pn, (if (aget T.all n).isSome then ptr (s.na n) else .pointer none) = pn := ⟨_, rfl⟩
  have l := h.look n
  have lD := hD.look n
  rw [hpn] at l lD
  rw [hpd] at hd
  obtain ⟨U, v, hU⟩ : ∃ U v, T.join r d k n = (U, v) := ⟨_, _, rfl⟩
  rw [hU]
  have fin : ∀ v', Hid (T.join r d k n = (T, v')) → (Ending.returned (.int .i64 v') = Ending.returned (.int .i64 v)) ∧ ∃ s', TreeIn w.drew tb s' U ∧ TurnT w s w.drew s' := fun v' q => by
    have e := hU.symm.trans q.out
    simp only [Prod.mk.injEq] at e
    obtain ⟨rfl, rfl⟩ := e
    exact ⟨rfl, same⟩
  have HF := Lib.hid fin
  have HU := Lib.hid hU
  clear fin hU
  simp only
  have H := Lib.hid (And.intro h (And.intro hg (And.intro hs (And.intro hD (And.intro hr (And.intro hpd hpn))))))
  clear h hg hs hD hr hpd hpn same
  go_enter Tryz.func41, Tryz.ntmps41
  go_upto_region 1 with (fail)
  go_cut [9, 10] (fun s9 s10 wx => s9 = pd ∧ s10 = pn ∧ wx = w.drew)
  case first =>
    go_region_held3 (fun w' => w'.cell? ⟨tb, 2, none⟩ = some (.map (some s.ma)) ∧ (Instr.lookup 109 (.map (some s.ma)) (.int .i64 n) false).run Tryz.prog w' = .ok pn w')
      ((go_split_ands; refine ⟨?_, ?_⟩ <;> first | exact lD | go_keep)) (
      (go_at_call 64
       refine (hd _ rfl).mono ?_
       rintro e w4 ⟨rfl, rfl⟩))
    all_goals go_wp2
    all_goals go_meet
    all_goals exact ⟨rfl, rfl, rfl⟩
  case rest =>
    obtain ⟨e9, e10, rfl⟩ := hcut
    have e9' := e9.symm
    have e10' := e10.symm
    clear e9 e10
    subst e9' e10'
    clear hd ca caD l lD
    cases hx : T.dir d with
    | none =>
      have e0 : pd = .pointer none := by rw [← H.out.2.2.2.2.2.1, isDir_not hx]; rfl
      have HX := Lib.hid (show T.join r d k n = (T, 1) by unfold TreeV.join; simp only [hx])
      subst e0
      clear hx
      go_wp2
      go_ret
      exact HF.out _ HX
    | some dx =>
      have e0 : pd = .pointer (some ⟨s.na d, 0, none⟩) := by rw [← H.out.2.2.2.2.2.1, isDir_eq hx]; rfl
      subst e0
      cases hn : aget T.all n with
      | none =>
        have e1 : pn = .pointer none := by rw [← H.out.2.2.2.2.2.2, hn]; rfl
        have HX := Lib.hid (show T.join r d k n = (T, 1) by unfold TreeV.join; simp only [hx, hn])
        subst e1
        clear hx hn
        go_wp2
        go_ret
        exact HF.out _ HX
      | some x =>
        have e1 : pn = .pointer (some ⟨s.na n, 0, none⟩) := by rw [← H.out.2.2.2.2.2.2, hn]; rfl
        subst e1
        have c1 := (H.out.2.2.2.1.cells hn).kind
        by_cases hk : x.kind = 1
        · simp only [hk] at c1
          have HX := Lib.hid (show T.join r d k n = (T, 1) by unfold TreeV.join; simp only [hx, hn]; rw [if_pos (.inl hk)])
          clear hx hn hk
          go_wp2
          go_ret
          exact HF.out _ HX
        · have g1 : (x.kind == 1) = false := by simpa using hk
          have hri := H.out.2.2.2.2.1
          cases r with
          | false =>
            have HX := Lib.hid (show T.join false d k n = (T, 1) by unfold TreeV.join; simp only [hx, hn]; rw [if_pos (by simp)])
            clear hx hn hk
            go_wp2_with (
              go_at_call 65
              refine (hri _).mono ?_
              rintro e w1 ⟨rfl, rfl⟩)
            go_ret
            exact HF.out _ HX
          | true =>
            obtain ⟨hdg, hdk⟩ := TreeV.dir_some hx
            have hf := tfree_c H.out.2.2.2.1 hdg hdk k
            have hno : ¬ (x.kind = 1 ∨ true = false) := by simp [hk]
            by_cases hf0 : TreeV.free d dx k = 0
            · obtain ⟨hfk, hfn⟩ := free_zero hf0
              have c2 := (H.out.2.2.2.1.cells hn).links
              rw [hf0] at hf
              have hne : d ≠ n := fun e => by rw [e, hn] at hdg; rw [Option.some.inj hdg] at hk; exact hk hdk
              by_cases hl : 16 ≤ x.links
              · have HX := Lib.hid (show T.join true d k n = (T, 44) by unfold TreeV.join; simp only [hx, hn]; rw [if_neg hno, if_neg (fun q => q hf0), if_pos hl])
                clear hx hn hk hdg hdk hno hf0 hfk hfn hne
                go_wp2_with (first
                  | (go_at_call 65
                     refine (hri _).mono ?_
                     rintro e w1 ⟨rfl, rfl⟩)
                  | (go_at_call 66
                     refine hf.mono ?_
                     rintro e w1 ⟨rfl, rfl⟩
                     clear hf))
                go_ret
                exact HF.out _ HX
              · have HX := Lib.hid (show T.join true d k n = (T.give d k n, 0) by unfold TreeV.join; simp only [hx, hn]; rw [if_neg hno, if_neg (fun q => q hf0), if_neg hl])
                have hgv := tgive_c H.out.2.2.2.1 hdg hdk hn hne ⟨H.out.2.2.1.turns.1, by have := H.out.2.2.1.turns.2; omega⟩ ⟨H.out.2.1.ok.links0 hn, by omega⟩ k
                clear hx hn hk hdg hdk hno hf0 hfk hfn hne
                go_wp2_with (first
                  | (go_at_call 65
                     refine (hri _).mono ?_
                     rintro e w1 ⟨rfl, rfl⟩)
                  | (go_at_call 66
                     refine hf.mono ?_
                     rintro e w1 ⟨rfl, rfl⟩
                     clear hf)
                  | (go_at_call 68
                     refine hgv.mono ?_
                     rintro e w2 ⟨⟨v, rfl⟩, i1, i2⟩
                     have N := Lib.hid (And.intro i1 i2)
                     clear hgv i1 i2))
                go_ret
                have e := HU.out.symm.trans HX.out
                simp only [Prod.mk.injEq] at e
                obtain ⟨rfl, rfl⟩ := e
                exact ⟨rfl, s, N.out.1, TurnT.same ((Keep.drew w s.has).trans N.out.2 (fun b q => .inl q))⟩
            · have HX := Lib.hid (show T.join true d k n = (T, TreeV.free d dx k) by unfold TreeV.join; simp only [hx, hn]; rw [if_neg hno, if_pos hf0])
              have g2 : (TreeV.free d dx k != 0) = true := by simpa using hf0
              generalize TreeV.free d dx k = fr at *
              clear hx hn hk hdg hdk hno hf0
              go_wp2_with (first
                | (go_at_call 65
                   refine (hri _).mono ?_
                   rintro e w1 ⟨rfl, rfl⟩)
                | (go_at_call 66
                   refine hf.mono ?_
                   rintro e w1 ⟨rfl, rfl⟩
                   clear hf))
              go_ret
              exact HF.out _ HX
end Go.Proofs.YtoanccechefclaaGreatDoor
namespace Go.Proofs.YtoanccechefclaaGreatDoor
open Go Go.RowKit
set_option maxRecDepth 100000
theorem node_info : ∃ j, Tryz.prog.info? 114 = some j ∧ j.size ≠ 0 := by
  have e : (Tryz.prog.info? 114).map (fun j => j.size) = some 13 := by kernel_rfl
  cases h : Tryz.prog.info? 114 with
  | none => rw [h] at e; simp at e
  | some i =>
    rw [h] at e
    simp at e
    exact ⟨i, rfl, by omega⟩
theorem nptr_neq_same (w : World) (a : Nat) : (binOp .neq 107 (.pointer (some ⟨a, 0, none⟩)) (.pointer (some ⟨a, 0, none⟩))).run Tryz.prog w = .ok (.bool false) w := by
  obtain ⟨j, hj, -⟩ := node_info
  have h : ∀ d : Nat, (Op.equalIn (d + 1) 107 (.pointer (some ⟨a, 0, none⟩)) (.pointer (some ⟨a, 0, none⟩))).run Tryz.prog w = .ok true w := fun d => by
    simp [Op.equalIn, run_underlying Tryz.underlying107, sizeOf, typeInfo, hj, run_sameAddr_same]
  simp only [binOp]
  simp [Op.equal, Op.maxDepth, h 9999]
theorem nptr_neq_other {w : World} {a b : Nat} {ca cb : Array Value} {ta tb : TypeId} (hne : a ≠ b) (ha : w.heap[a]? = some (.cells ca ta (0, 0))) (hb : w.heap[b]? = some (.cells cb tb (0, 0))) :
    (binOp .neq 107 (.pointer (some ⟨a, 0, none⟩)) (.pointer (some ⟨b, 0, none⟩))).run Tryz.prog w = .ok (.bool true) w := by
  obtain ⟨j, hj, hz⟩ := node_info
  have h : ∀ d : Nat, (Op.equalIn (d + 1) 107 (.pointer (some ⟨a, 0, none⟩)) (.pointer (some ⟨b, 0, none⟩))).run Tryz.prog w = .ok false w := fun d => by
    simp [Op.equalIn, run_underlying Tryz.underlying107, sizeOf, typeInfo, hj, hz, run_sameAddr_other w (a := ⟨a, 0, none⟩) (b := ⟨b, 0, none⟩) (fun q => hne (by injection q)) ha hb]
  simp only [binOp]
  simp [Op.equal, Op.maxDepth, h 9999]
theorem nptr_eql_same (w : World) (a : Nat) : (binOp .eql 107 (.pointer (some ⟨a, 0, none⟩)) (.pointer (some ⟨a, 0, none⟩))).run Tryz.prog w = .ok (.bool true) w := by
  obtain ⟨j, hj, -⟩ := node_info
  exact run_eql_ptr_same w _ Tryz.underlying107 hj
theorem nptr_eql_other {w : World} {a b : Nat} {ca cb : Array Value} {ta tb : TypeId} (hne : a ≠ b) (ha : w.heap[a]? = some (.cells ca ta (0, 0))) (hb : w.heap[b]? = some (.cells cb tb (0, 0))) :
    (binOp .eql 107 (.pointer (some ⟨a, 0, none⟩)) (.pointer (some ⟨b, 0, none⟩))).run Tryz.prog w = .ok (.bool false) w := by
  obtain ⟨j, hj, hz⟩ := node_info
  exact run_eql_ptr_other w Tryz.underlying107 hj hz (fun q => hne (by injection q)) ha hb
end Go.Proofs.YtoanccechefclaaGreatDoor
namespace Go.Proofs.YtoanccechefclaaGreatDoor
open Go Go.RowKit
set_option maxRecDepth 100000
section over
variable {w : World} {tb : Nat} {s : TShape} {T : TreeV} (h : TreeIn w tb s T) {n d e m : Int} {x y ex : NodeV} (hx : aget T.all n = some x)
include h hx
set_option maxHeartbeats 1600000 in
theorem tover_none {dx : NodeV} (hd : aget T.all d = some dx) (he : aget T.all e = some ex) (hek : ex.kind = 1) (hl : ex.names.length ≤ 1000000) :
    Calls Tryz.prog 71 #[.pointer (some ⟨tb, 0, none⟩), .pointer (some ⟨s.na n, 0, none⟩), .pointer none, .pointer (some ⟨s.na d, 0, none⟩), .pointer (some ⟨s.na e, 0, none⟩)] w fun r w' => r = .returned (.int .i64 (if x.kind = 1 ∧ d ≠ e ∧ 16 ≤ T.dirs e ex then 44 else 0)) ∧ Keep w w' (fun _ => False) := by
  have c1 := (h.cells hx).kind
  have hdr := tdirs_c h he hek hl
  have hne : d ≠ e → s.na d ≠ s.na e := fun q => tag_ne (h.tnode hd) (h.tnode he) (by simpa using q)
  by_cases hk : x.kind = 1
  · simp only [hk] at c1
    by_cases hde : d = e
    · rw [if_neg (fun q => q.2.1 hde)]
      subst hde
      have g := nptr_neq_same w (s.na d)
      clear h hx hd he hdr hne hk
      go_enter Tryz.func71, Tryz.ntmps71
      go_wp2
      go_ret
      exact ⟨rfl, Keep.refl _ _⟩
    · have g := nptr_neq_other (hne hde) (h.node_at hd) (h.node_at he)
      by_cases h16 : 16 ≤ T.dirs e ex
      · rw [if_pos ⟨hk, hde, h16⟩]
        generalize T.dirs e ex = dn at *
        clear h hx hd he hne hk
        go_enter Tryz.func71, Tryz.ntmps71
        go_wp2_with (
          go_at_call 56
          refine hdr.mono ?_
          rintro e w2 ⟨rfl, k2⟩
          have K2 := Lib.hid k2
          clear hdr k2)
        go_ret
        exact ⟨rfl, K2.out⟩
      · rw [if_neg (fun q => h16 q.2.2)]
        generalize T.dirs e ex = dn at *
        clear h hx hd he hne hk
        go_enter Tryz.func71, Tryz.ntmps71
        go_wp2_with (
          go_at_call 56
          refine hdr.mono ?_
          rintro e w2 ⟨rfl, k2⟩
          have K2 := Lib.hid k2
          clear hdr k2)
        go_ret
        exact ⟨rfl, K2.out⟩
  · rw [if_neg (fun q => hk q.1)]
    have g : (x.kind == 1) = false := by simpa using hk
    clear h hx hd he hdr hne hk
    go_enter Tryz.func71, Tryz.ntmps71
    go_wp2
    go_ret
    exact ⟨rfl, Keep.refl _ _⟩
def overS (x y : NodeV) : Int := if x.kind = 1 ∧ y.kind ≠ 1 then 37 else if y.kind = 1 ∧ x.kind ≠ 1 then 38 else if y.kind = 1 ∧ y.names ≠ [] then 47 else 0
set_option maxHeartbeats 1600000 in
theorem tover_some (hy : aget T.all m = some y) (a b : Value) :
    Calls Tryz.prog 71 #[.pointer (some ⟨tb, 0, none⟩), .pointer (some ⟨s.na n, 0, none⟩), .pointer (some ⟨s.na m, 0, none⟩), a, b] w fun r w' => r = .returned (.int .i64 (overS x y)) ∧ Keep w w' (fun _ => False) := by
  have c1 := (h.cells hx).kind
  have c2 := (h.cells hy).kind
  have c3 := (h.cells hy).names
  unfold overS
  by_cases hk : x.kind = 1
  · simp only [hk] at c1
    by_cases hky : y.kind = 1
    · simp only [hky] at c2
      rw [if_neg (fun q => q.2 hky), if_neg (fun q => q.2 hk)]
      unfold namesB at c3
      rw [if_pos hky] at c3
      have hM := names_len (h.names_at hy hky)
      by_cases hl : y.names = []
      · rw [if_neg (fun q => q.2 hl)]
        have g : y.names.length = 0 := by rw [hl]; rfl
        clear h hx hy hk hky hl
        go_enter Tryz.func71, Tryz.ntmps71
        go_wp2
        go_ret
        exact ⟨rfl, Keep.refl _ _⟩
      · rw [if_pos ⟨hky, hl⟩]
        have g : 0 < y.names.length := List.length_pos_iff.2 hl
        clear h hx hy hk hky hl
        go_enter Tryz.func71, Tryz.ntmps71
        go_wp2
        go_ret
        exact ⟨rfl, Keep.refl _ _⟩
    · rw [if_pos ⟨hk, hky⟩]
      have g : (y.kind == 1) = false := by simpa using hky
      clear h hx hy hk hky
      go_enter Tryz.func71, Tryz.ntmps71
      go_wp2
      go_ret
      exact ⟨rfl, Keep.refl _ _⟩
  · have g : (x.kind == 1) = false := by simpa using hk
    rw [if_neg (fun q => hk q.1)]
    by_cases hky : y.kind = 1
    · simp only [hky] at c2
      rw [if_pos ⟨hky, hk⟩]
      clear h hx hy hk hky
      go_enter Tryz.func71, Tryz.ntmps71
      go_wp2
      go_ret
      exact ⟨rfl, Keep.refl _ _⟩
    · rw [if_neg (fun q => hky q.1), if_neg (fun q => hky q.1)]
      have g2 : (y.kind == 1) = false := by simpa using hky
      clear h hx hy hk hky
      go_enter Tryz.func71, Tryz.ntmps71
      go_wp2
      go_ret
      exact ⟨rfl, Keep.refl _ _⟩
end over
end Go.Proofs.YtoanccechefclaaGreatDoor
