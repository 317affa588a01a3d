/-
  Parts of the walk's proof: MountOrd, MountOrdE, MountOver, MountAbv. (joined by pack.py)
-/
import Derived.Test.YtoanccechefclaaGreatDoorK07
import Derived.Test.YtoanccechefclaaGreatDoorK19
set_option linter.unusedSectionVars false
set_option linter.unusedSimpArgs false
set_option linter.unusedVariables false
namespace Go.Proofs.YtoanccechefclaaGreatDoor
open Go Go.RowKit Go.Shelf
set_option maxRecDepth 100000
attribute [local go_sem] Oper.semAt_some
theorem MountV.ok.sortKeys {V : MountV} (h : V.ok) : sortI ((liveV V.live).map Prod.fst) = V.live.map Prod.fst := by
  have e : (liveV V.live).map Prod.fst = V.live.map Prod.fst := by simp [liveV]
  rw [e]
  exact sortI_eq (h.sorted.imp fun h => by omega) (List.Perm.refl _)
def KpM (T : Nat → Prop) (B0 n : Nat) (U U' : World) : Prop := Keep U U' (fun b => T b ∨ (b + 1 = n ∧ B0 ≤ b))
theorem KpM.trans {T : Nat → Prop} {B0 n : Nat} {A B C : World} (h : KpM T B0 n A B) (k : KpM T B0 n B C) : KpM T B0 n A C := Keep.trans h k (fun b q => .inl q)
def encM (x : Mnt) : Array Value := #[.int .i64 x.1, mntV x.2]
theorem mord_c (w : World) (tb : Nat) :
    Calls Tryz.prog 97 #[.pointer (some ⟨tb, 0, none⟩)] w fun r w' => r = .returned (.func (.func 119) #[] #[.pointer (some ⟨w.heap.size, 0, none⟩)]) ∧ w' = w.alloc (.cells #[.pointer (some ⟨tb, 0, none⟩)] 27) := by
  go_enter Tryz.func97, Tryz.ntmps97
  go_wp2
  go_ret
  exact ⟨rfl, rfl⟩
set_option maxHeartbeats 4000000 in
theorem mord1_in (l b1 tb : Nat) (S T : Nat → Prop) (V : MountV) (B0 : Nat) (hT : ∀ b, T b → b < B0 ∧ ¬ S b) (hb1 : ¬ T b1 ∧ b1 < B0) (hS : ∀ b, S b → b < B0)
    (J Jx : List Mnt → World → Prop) (W : World) (hB0 : B0 ≤ W.heap.size) (hJ : AbidesX W.heap.size (fun _ => False) J)
    (hY : ∀ pre x U, J pre U → W.heap.size ≤ U.heap.size → pre.length ≤ 1000000 → YieldAt Fence.wide 7 Tryz.prog l (encM x) U fun r U' => (r = .returned (.bool true) ∧ J (pre ++ [x]) U' ∧ KpM T B0 W.heap.size U U' ∧ U.heap.size ≤ U'.heap.size) ∨ (r = .returned (.bool false) ∧ Jx (pre ++ [x]) U' ∧ KpM T B0 W.heap.size U U'))
    (h1 : W.heap[b1]? = some (.cells #[.pointer (some ⟨tb, 0, none⟩)] 27 (0, 0))) (hM : TableAt W tb S V) (h0 : J [] W) :
    CallsIn Fence.wide 8 Tryz.prog 119 #[.func (.yield l) #[] #[], .pointer (some ⟨b1, 0, none⟩)] W fun e U => (∃ v, e = .returned v) ∧
      ((∃ xs, xs = V.live ∧ J xs U) ∨ (∃ pre, pre <+: V.live ∧ Jx pre U)) := by
  obtain ⟨mb, t1, t2, t3, t4, t5⟩ := hM.ex
  have c1 := cell_blk h1 0
  have c0 := cell_blk t1 0
  simp only [List.getElem?_toArray, List.getElem?_cons_zero, List.getElem?_cons_succ] at c1 c0
  have hkl : V.live.length ≤ 8 := hM.ok.most
  have hk := m_keys_c W (some mb)
  have ka := Keep.alloc W (.cells #[.map (some mb)] 119) (fun _ => False)
  have aa := heap_alloc_eq W (.cells #[.map (some mb)] 119)
  have hs := m_sorted_c (w := W.alloc (.cells #[.map (some mb)] 119)) (bl := W.heap.size) (mb := mb) (by rw [cell_blk aa]; rfl) (t2.keep ka (fun q => q)) (by unfold liveV; rw [List.length_map]; omega)
  rw [hM.ok.sortKeys, List.length_map] at hs
  have HM := Lib.hid hM
  have HX := Lib.hid (And.intro t1 (And.intro t2 (And.intro t3 t4)))
  have H := Lib.hid (And.intro h1 (And.intro h0 ka))
  clear h1 h0 ka aa hM t1 t2 t3 t4 t5
  refine callsIn_of_wp Tryz.func119 rfl trivial ?_ rfl
  simp only [Tryz.ntmps119, List.size_toArray, List.length_cons, List.length_nil, Nat.reduceAdd, Nat.reduceSub, Array.replicate_succ, Array.replicate_zero, List.push_toArray, List.append_toArray, List.nil_append, List.cons_append]
  gi_wp2_with (first
    | (refine ⟨trivial, ?_⟩
       gi_at_call 121
       refine (callsIn_wide.2 hk).mono ?_
       rintro e w1 ⟨rfl, rfl⟩
       clear hk)
    | (refine ⟨trivial, ?_⟩
       gi_at_call 120
       refine (callsIn_wide.2 hs).mono ?_
       rintro e w2 ⟨v, rfl, q1, q2, q3⟩
       obtain ⟨sa, cap, rfl, hcap⟩ := rows_val2 q1
       have N := Lib.hid (And.intro q1 (And.intro (H.out.2.2.trans q2 (fun _ q => q.elim)) (show ∀ b, (Value.slice sa V.live.length cap).ownBlock = some b → W.heap.size < b from fun b q => by have := q3 b q; simp at this; omega)))
       clear hs q1 q2 q3))
  obtain ⟨m, hm⟩ : ∃ m, m = V.live.length := ⟨_, rfl⟩
  have hm8 : m ≤ 8 := by rw [hm]; exact hkl
  rw [← hm] at N hcap ⊢
  have HMM := Lib.hid hm
  clear hm
  gi_loopg [12] m (fun g s12 wr => ∃ k : Nat, s12 = .int .i64 k ∧ k + g = m ∧ J (V.live.take k) wr ∧ Keep w2 wr (fun b => T b ∨ (b + 1 = W.heap.size ∧ B0 ≤ b)))
  case atStart => exact ⟨0, rfl, by omega, hJ.aside H.out.2.1 N.out.2.1, Keep.refl _ _⟩
  case round =>
    obtain ⟨k, rfl, hk, hj, hkeep⟩ := hrel
    have hno : ∀ b, (Value.slice sa m cap).ownBlock = some b → ¬ (T b ∨ (b + 1 = W.heap.size ∧ B0 ≤ b)) := fun b q z => by
      have := N.out.2.2 b q
      rcases z with z | z
      · have := (hT b z).1; omega
      · omega
    have hkw : Keep W wr (fun b => T b ∨ (b + 1 = W.heap.size ∧ B0 ≤ b)) := (N.out.2.1.mono (fun _ q => q.elim)).trans hkeep (fun b q => .inl q)
    have hnS : ∀ b, S b → ¬ (T b ∨ (b + 1 = W.heap.size ∧ B0 ≤ b)) := fun b q z => by
      rcases z with z | z
      · exact (hT b z).2 q
      · have := hS b q; omega
    have g1 := hkw.get H.out.1 (fun q => by rcases q with q | q; exact hb1.1 q; have := hb1.2; omega)
    have g2 := hkw.get HX.out.1 (hnS _ HX.out.2.2.1)
    have g3 := HX.out.2.1.keep hkw (hnS _ HX.out.2.2.2)
    have e1 := cell_blk g1 0
    have e2 := cell_blk g2 0
    simp only [List.getElem?_toArray, List.getElem?_cons_zero, List.getElem?_cons_succ] at e1 e2
    have D := Lib.hid (And.intro hj (And.intro hkeep hkw))
    clear hj hkeep hkw g1 g2 c1 c0
    by_cases hlt : k < m
    · have hlt' : (k : Int) < (m : Int) := by omega
      have hrow := rows_keep N.out.1 D.out.2.1 hno
      obtain ⟨x, hx⟩ : ∃ x, V.live[k]? = some x := ⟨_, List.getElem?_eq_getElem (by have := HMM.out; omega)⟩
      have hxk : (V.live.map Prod.fst)[k]? = some x.1 := by rw [List.getElem?_map, hx]; rfl
      obtain ⟨gv, rfl, -, -, -⟩ := rows_some hrow (by omega)
      have cx := (rows_cell hrow (mapGet (f := Value.int .i64) hxk)).1
      have htk : V.live.take (k + 1) = V.live.take k ++ [x] := by rw [List.take_add_one, hx]; rfl
      have HTK := Lib.hid htk
      have hgx : aget V.live x.1 = some x.2 := aget_of_memM HM.out.ok.nodup (List.mem_of_getElem? hx)
      have l1 := mlook g3 x.1 false
      rw [hgx] at l1
      simp only [Bool.false_eq_true, if_false, Option.getD_some] at l1
      obtain ⟨fn, tmps, assign, body, hy, hR⟩ := hY _ x wr D.out.1 D.out.2.2.size (by rw [List.length_take]; omega)
      have H8 := Lib.hid (show m ≤ 8 from hm8)
      unfold encM at hy
      clear hrow hx htk hno hnS g3 hgx hxk
      gi_wp2
      refine hR.mono ?_
      rintro e W3 (⟨rfl, hJ3, hk3, hz⟩ | ⟨rfl, hJx3, hk3⟩)
      · have M := Lib.hid (And.intro hJ3 hk3)
        clear hJ3 hk3
        gi_wp2
        gi_roundg (m - (k + 1))
        case measure => omega
        case rel => exact ⟨k + 1, by go_num, by omega, by rw [HTK.out]; exact M.out.1, D.out.2.1.trans M.out.2 (fun b q => .inl q)⟩
      · gi_wp2
        refine bodyPost_ret (results_none rfl _ _ _) rfl ?_
        refine ⟨⟨_, rfl⟩, .inr ⟨_, ?_, hJx3⟩⟩
        rw [← HTK.out]
        exact List.take_prefix _ _
    · have hlt' : ¬ (k : Int) < (m : Int) := by omega
      gi_wp2
      go_end0
      exact ⟨⟨_, rfl⟩, .inl (by have h := D.out.1; rw [List.take_of_length_le (by have := HMM.out; omega)] at h; exact h)⟩
end Go.Proofs.YtoanccechefclaaGreatDoor
namespace Go.Proofs.YtoanccechefclaaGreatDoor
open Go Go.RowKit Go.Shelf
set_option maxRecDepth 100000
attribute [local go_sem] Oper.semAt_some
def KpE (T : Nat → Prop) (B0 M n : Nat) (U U' : World) : Prop := Keep U U' (fun b => T b ∨ (b + 1 = n ∧ B0 ≤ b) ∨ M ≤ b)
theorem KpE.trans {T : Nat → Prop} {B0 M n : Nat} {A B C : World} (h : KpE T B0 M n A B) (k : KpE T B0 M n B C) : KpE T B0 M n A C := Keep.trans h k (fun b q => .inl q)
set_option maxHeartbeats 4000000 in
theorem mord1E_in (l b1 tb : Nat) (S T : Nat → Prop) (V : MountV) (B0 : Nat) (hT : ∀ b, T b → b < B0 ∧ ¬ S b) (hb1 : ¬ T b1 ∧ b1 < B0) (hS : ∀ b, S b → b < B0)
    (J Jx : Nat → List Mnt → World → Prop) (W : World) (hB0 : B0 ≤ W.heap.size) (hJ : ∀ M, AbidesX W.heap.size (fun _ => False) (J M))
    (hY : ∀ M pre x U, J M pre U → W.heap.size ≤ M → M ≤ U.heap.size → pre.length ≤ 1000000 → YieldAt Fence.wide 7 Tryz.prog l (encM x) U fun r U' => (r = .returned (.bool true) ∧ J M (pre ++ [x]) U' ∧ KpE T B0 M W.heap.size U U' ∧ U.heap.size ≤ U'.heap.size) ∨ (r = .returned (.bool false) ∧ Jx M (pre ++ [x]) U' ∧ KpE T B0 M W.heap.size U U'))
    (h1 : W.heap[b1]? = some (.cells #[.pointer (some ⟨tb, 0, none⟩)] 27 (0, 0))) (hM : TableAt W tb S V) (h0 : ∀ M, J M [] W) :
    CallsIn Fence.wide 8 Tryz.prog 119 #[.func (.yield l) #[] #[], .pointer (some ⟨b1, 0, none⟩)] W fun e U => (∃ v, e = .returned v) ∧
      ((∃ M xs, xs = V.live ∧ J M xs U) ∨ (∃ M pre, pre <+: V.live ∧ Jx M pre U)) := by
  obtain ⟨mb, t1, t2, t3, t4, t5⟩ := hM.ex
  have c1 := cell_blk h1 0
  have c0 := cell_blk t1 0
  simp only [List.getElem?_toArray, List.getElem?_cons_zero, List.getElem?_cons_succ] at c1 c0
  have hkl : V.live.length ≤ 8 := hM.ok.most
  have hk := m_keys_c W (some mb)
  have ka := Keep.alloc W (.cells #[.map (some mb)] 119) (fun _ => False)
  have aa := heap_alloc_eq W (.cells #[.map (some mb)] 119)
  have hs := m_sorted_c (w := W.alloc (.cells #[.map (some mb)] 119)) (bl := W.heap.size) (mb := mb) (by rw [cell_blk aa]; rfl) (t2.keep ka (fun q => q)) (by unfold liveV; rw [List.length_map]; omega)
  rw [hM.ok.sortKeys, List.length_map] at hs
  have HM := Lib.hid hM
  have HX := Lib.hid (And.intro t1 (And.intro t2 (And.intro t3 t4)))
  have H := Lib.hid (And.intro h1 (And.intro h0 ka))
  clear h1 h0 ka aa hM t1 t2 t3 t4 t5
  refine callsIn_of_wp Tryz.func119 rfl trivial ?_ rfl
  simp only [Tryz.ntmps119, List.size_toArray, List.length_cons, List.length_nil, Nat.reduceAdd, Nat.reduceSub, Array.replicate_succ, Array.replicate_zero, List.push_toArray, List.append_toArray, List.nil_append, List.cons_append]
  gi_wp2_with (first
    | (refine ⟨trivial, ?_⟩
       gi_at_call 121
       refine (callsIn_wide.2 hk).mono ?_
       rintro e w1 ⟨rfl, rfl⟩
       clear hk)
    | (refine ⟨trivial, ?_⟩
       gi_at_call 120
       refine (callsIn_wide.2 hs).mono ?_
       rintro e w2 ⟨v, rfl, q1, q2, q3⟩
       obtain ⟨sa, cap, rfl, hcap⟩ := rows_val2 q1
       have qv : ∀ b, (Value.slice sa V.live.length cap).ownBlock = some b → b < w2.heap.size := fun b q => by
         rcases rows_val q1 with ⟨e, _⟩ | ⟨g, cp, e, _, e2, e3⟩
         · rw [e] at q; simp [Value.ownBlock] at q
         · rw [e2] at q; cases q; exact e3
       have N := Lib.hid (And.intro q1 (And.intro (H.out.2.2.trans q2 (fun _ q => q.elim)) (show ∀ b, (Value.slice sa V.live.length cap).ownBlock = some b → W.heap.size < b ∧ b < w2.heap.size from fun b q => by have := q3 b q; have := qv b q; simp at *; omega)))
       clear qv
       clear hs q1 q2 q3))
  obtain ⟨m, hm⟩ : ∃ m, m = V.live.length := ⟨_, rfl⟩
  have hm8 : m ≤ 8 := by rw [hm]; exact hkl
  rw [← hm] at N hcap ⊢
  have HMM := Lib.hid hm
  clear hm
  gi_loopg [12] m (fun g s12 wr => ∃ k : Nat, s12 = .int .i64 k ∧ k + g = m ∧ J w2.heap.size (V.live.take k) wr ∧ Keep w2 wr (fun b => T b ∨ (b + 1 = W.heap.size ∧ B0 ≤ b) ∨ w2.heap.size ≤ b))
  case atStart => exact ⟨0, rfl, by omega, (hJ _).aside (H.out.2.1 _) N.out.2.1, Keep.refl _ _⟩
  case round =>
    obtain ⟨k, rfl, hk, hj, hkeep⟩ := hrel
    have hno : ∀ b, (Value.slice sa m cap).ownBlock = some b → ¬ (T b ∨ (b + 1 = W.heap.size ∧ B0 ≤ b) ∨ w2.heap.size ≤ b) := fun b q z => by
      have := N.out.2.2 b q
      rcases z with z | z | z
      · have := (hT b z).1; omega
      · omega
      · omega
    have hkw : Keep W wr (fun b => T b ∨ (b + 1 = W.heap.size ∧ B0 ≤ b)) := (N.out.2.1.mono (fun _ q => q.elim)).trans hkeep (fun b q => by
      have := N.out.2.1.size
      rcases q with q | q | q
      · exact .inl (.inl q)
      · exact .inl (.inr q)
      · exact .inr (by omega))
    have hnS : ∀ b, S b → ¬ (T b ∨ (b + 1 = W.heap.size ∧ B0 ≤ b)) := fun b q z => by
      rcases z with z | z
      · exact (hT b z).2 q
      · have := hS b q; omega
    have g1 := hkw.get H.out.1 (fun q => by rcases q with q | q; exact hb1.1 q; have := hb1.2; omega)
    have g2 := hkw.get HX.out.1 (hnS _ HX.out.2.2.1)
    have g3 := HX.out.2.1.keep hkw (hnS _ HX.out.2.2.2)
    have e1 := cell_blk g1 0
    have e2 := cell_blk g2 0
    simp only [List.getElem?_toArray, List.getElem?_cons_zero, List.getElem?_cons_succ] at e1 e2
    have D := Lib.hid (And.intro hj (And.intro hkeep hkw))
    clear hj hkeep hkw g1 g2 c1 c0
    by_cases hlt : k < m
    · have hlt' : (k : Int) < (m : Int) := by omega
      have hrow := rows_keep N.out.1 D.out.2.1 hno
      obtain ⟨x, hx⟩ : ∃ x, V.live[k]? = some x := ⟨_, List.getElem?_eq_getElem (by have := HMM.out; omega)⟩
      have hxk : (V.live.map Prod.fst)[k]? = some x.1 := by rw [List.getElem?_map, hx]; rfl
      obtain ⟨gv, rfl, -, -, -⟩ := rows_some hrow (by omega)
      have cx := (rows_cell hrow (mapGet (f := Value.int .i64) hxk)).1
      have htk : V.live.take (k + 1) = V.live.take k ++ [x] := by rw [List.take_add_one, hx]; rfl
      have HTK := Lib.hid htk
      have hgx : aget V.live x.1 = some x.2 := aget_of_memM HM.out.ok.nodup (List.mem_of_getElem? hx)
      have l1 := mlook g3 x.1 false
      rw [hgx] at l1
      simp only [Bool.false_eq_true, if_false, Option.getD_some] at l1
      obtain ⟨fn, tmps, assign, body, hy, hR⟩ := hY _ _ x wr D.out.1 N.out.2.1.size D.out.2.1.size (by rw [List.length_take]; omega)
      have H8 := Lib.hid (show m ≤ 8 from hm8)
      unfold encM at hy
      clear hrow hx htk hno hnS g3 hgx hxk
      gi_wp2
      refine hR.mono ?_
      rintro e W3 (⟨rfl, hJ3, hk3, hz⟩ | ⟨rfl, hJx3, hk3⟩)
      · have M := Lib.hid (And.intro hJ3 hk3)
        clear hJ3 hk3
        gi_wp2
        gi_roundg (m - (k + 1))
        case measure => omega
        case rel => exact ⟨k + 1, by go_num, by omega, by rw [HTK.out]; exact M.out.1, D.out.2.1.trans M.out.2 (fun b q => .inl q)⟩
      · gi_wp2
        refine bodyPost_ret (results_none rfl _ _ _) rfl ?_
        refine ⟨⟨_, rfl⟩, .inr ⟨_, _, ?_, hJx3⟩⟩
        rw [← HTK.out]
        exact List.take_prefix _ _
    · have hlt' : ¬ (k : Int) < (m : Int) := by omega
      gi_wp2
      go_end0
      exact ⟨⟨_, rfl⟩, .inl ⟨_, by have h := D.out.1; rw [List.take_of_length_le (by have := HMM.out; omega)] at h; exact h⟩⟩
end Go.Proofs.YtoanccechefclaaGreatDoor
namespace Go.Proofs.YtoanccechefclaaGreatDoor
open Go Go.RowKit Go.Shelf
set_option maxRecDepth 100000
attribute [local go_sem] Oper.semAt_some
theorem over_res {W : World} {b4 b5 : Nat} {k : Int} {ok : Bool} {T : Array Value} (z4 : W.heap[b4]? = some (.cells #[.int .i64 k] 3 (0, 0))) (z5 : W.heap[b5]? = some (.cells #[.bool ok] 4 (0, 0))) (h4 : T.getD 4 undef = .pointer (some ⟨b4, 0, none⟩)) (h5 : T.getD 5 undef = .pointer (some ⟨b5, 0, none⟩)) :
    (results Tryz.f58 T).run Tryz.prog W = .ok (.tuple #[.int .i64 k, .bool ok]) W := by
  have y4 : W.cell? ⟨b4, 0, none⟩ = some (.int .i64 k) := by rw [cell_blk z4]; rfl
  have y5 : W.cell? ⟨b5, 0, none⟩ = some (.bool ok) := by rw [cell_blk z5]; rfl
  have h4' : T[4]?.getD undef = .pointer (some ⟨b4, 0, none⟩) := by simpa using h4
  have h5' : T[5]?.getD undef = .pointer (some ⟨b5, 0, none⟩) := by simpa using h5
  simp [results, Tryz.results58, go_sem, h4', h5', y4, y5]
def overA (V : MountV) (m n : Int) : Int × Bool := match V.over m n with | some x => (x.1, true) | none => (0, false)
structure OvI (w : World) (m n : Int) (pre : List Mnt) (U : World) : Prop where
  keep : Keep w U (fun _ => False)
  box : U.heap[w.heap.size]? = some (.cells #[.int .i64 m, .int .i64 n] 38 (0, 0))
  r4 : U.heap[w.heap.size + 1]? = some (.cells #[.int .i64 0] 3 (0, 0))
  r5 : U.heap[w.heap.size + 1 + 1]? = some (.cells #[.bool false] 4 (0, 0))
  none : ∀ y ∈ pre, laidAt m n y = false
structure OvX (w : World) (m n : Int) (c : Code) (pre : List Mnt) (U : World) : Prop where
  ret : c = .ret
  keep : Keep w U (fun _ => False)
  ex : ∃ qs y, pre = qs ++ [y] ∧ laidAt m n y = true ∧ (∀ z ∈ qs, laidAt m n z = false) ∧ U.heap[w.heap.size + 1]? = some (.cells #[.int .i64 y.1] 3 (0, 0)) ∧ U.heap[w.heap.size + 1 + 1]? = some (.cells #[.bool true] 4 (0, 0))
theorem find_pre {α : Type} {p : α → Bool} {l qs : List α} {y : α} (h : qs ++ [y] <+: l) (hy : p y = true) (hq : ∀ z ∈ qs, p z = false) : l.find? p = some y := by
  obtain ⟨r, rfl⟩ := h
  rw [List.append_assoc, List.find?_append]
  have : qs.find? p = Option.none := by
    rw [List.find?_eq_none]
    intro z hz
    simp [hq z hz]
  rw [this]
  simp [hy]
set_option maxHeartbeats 4000000 in
theorem mover_c {w : World} {tb : Nat} {S : Nat → Prop} {V : MountV} (h : TableAt w tb S V) (m n : Int) :
    Calls Tryz.prog 58 #[.pointer (some ⟨tb, 0, none⟩), .agg #[.int .i64 m, .int .i64 n]] w fun e w' => e = .returned (.tuple #[.int .i64 (overA V m n).1, .bool (overA V m n).2]) ∧ Keep w w' (fun _ => False) := by
  have H := Lib.hid h
  clear h
  refine calls_marks Tryz.func58 rfl ?_
  simp only [Tryz.ntmps58, List.size_toArray, List.length_cons, List.length_nil, Nat.reduceAdd, Nat.reduceSub, Array.replicate_succ, Array.replicate_zero, List.push_toArray, List.append_toArray, List.nil_append, List.cons_append]
  go_wp2_with (
    go_at_call 97
    refine (mord_c _ _).mono ?_
    rintro e w11 ⟨rfl, rfl⟩)
  obtain ⟨wL, hwL⟩ : ∃ wL, wL = (((w.alloc (.cells #[.int .i64 m, .int .i64 n] 38)).alloc (.cells #[.int .i64 0] 3)).alloc (.cells #[.bool false] 4)).alloc (.cells #[.pointer (some ⟨tb, 0, none⟩)] 27) := ⟨_, rfl⟩
  have W0 : _ := boxes4 w (.cells #[.int .i64 m, .int .i64 n] 38) (.cells #[.int .i64 0] 3) (.cells #[.bool false] 4) (.cells #[.pointer (some ⟨tb, 0, none⟩)] 27)
  rw [← hwL] at W0
  have HW := Lib.hid W0
  have hz1 : wL.heap.size ≤ w.heap.size + 4 := by have := W0.2.2.2.2.2; omega
  have hz2 : w.heap.size + 4 ≤ wL.heap.size := by have := W0.2.2.2.2.2; omega
  clear W0
  rw [← hwL]
  clear hwL
  have htb := H.out.ex
  have hSlt := H.out.lt
  have hI0 : OvI w m n [] wL := ⟨HW.out.1, HW.out.2.1, HW.out.2.2.1, HW.out.2.2.2.1, fun y hy => by cases hy⟩
  have HI0 := Lib.hid hI0
  have HS := Lib.hid hSlt
  clear hI0 hSlt htb
  refine wp_rangeD (α := Mnt) (enc := encM) (X := fun _ _ => False) (ee := 0) (Kp := KpM (fun b => b = w.heap.size + 1 ∨ b = w.heap.size + 1 + 1) wL.heap.size) (S := fun xs => xs = V.live) (Sp := fun pre => pre <+: V.live)
    (gf := 119) (lb := #[.pointer (some ⟨w.heap.size + 1 + 1 + 1, 0, none⟩)]) rfl (enters_of Tryz.func119 (by kernel_rfl) rfl)
    (fun l J Jx W hW hJ hJx hY h0 => mord1_in l (w.heap.size + 1 + 1 + 1) tb S _ V wL.heap.size (fun b q => ⟨by rcases q with q | q <;> omega, fun z => by have := HS.out b z; rcases q with q | q <;> omega⟩) ⟨by omega, by omega⟩ (fun b q => by have := HS.out b q; omega) J Jx W hW.size hJ (fun pre x U => hY pre x U) ((Keep.of_below hW).get HW.out.2.2.2.2.1 (by omega)) ((H.out.aside HW.out.1).keep (Keep.of_below hW) (fun b q z => by have := HS.out b q; omega)) h0)
    (fun b q => q.elim) (fun h k => KpM.trans h k) (fun W l o o' hl ho hc hw => (keep_of_grown (grownBy_putObj' W l o')).mono fun b e => .inr (by simp only [Option.some.injEq] at e; omega))
    (fun x => rfl) (fun h => h.mono fun _ q => q.elim) (fun x => .cells #[.int .i64 x.2.top, .int .i64 x.2.am, .int .i64 x.2.an] 118 (0, 0))
    (fun x B t => (((t.setIfInBounds 10 (.int .i64 x.1)).setIfInBounds 11 (mntV x.2)).setIfInBounds 6 (.int .i64 x.1)).setIfInBounds 7 (.pointer (some ⟨B, 0, none⟩)))
    (fun x t => (t.setIfInBounds 10 (.int .i64 x.1)).setIfInBounds 11 (mntV x.2)) (fun x t => zip_two _ _ _ _ t)
    (OvI w m n) (OvX w m n) ?abide ?abidex HI0.out ?assign ?body ?done ?stop
  case abide =>
    intro pre A1 A2 hA k
    have hn : ∀ b, b < wL.heap.size → ¬ Turns wL.heap.size (fun _ => False) A1 b := fun b hb q => by
      rcases q with q | q
      · exact q
      · have := q.1; omega
    exact ⟨hA.keep.trans k (fun b q => .inr (by rcases q with q | q; exact q.elim; have := q.1; omega)), k.get hA.box (hn _ (by omega)), k.get hA.r4 (hn _ (by omega)), k.get hA.r5 (hn _ (by omega)), hA.none⟩
  case abidex =>
    intro c pre A1 A2 hA k
    have hn : ∀ b, b < wL.heap.size → ¬ Turns wL.heap.size (fun _ => False) A1 b := fun b hb q => by
      rcases q with q | q
      · exact q
      · have := q.1; omega
    obtain ⟨qs, y, e1, e2, e3, e4, e5⟩ := hA.ex
    exact ⟨hA.ret, hA.keep.trans k (fun b q => .inr (by rcases q with q | q; exact q.elim; have := q.1; omega)), qs, y, e1, e2, e3, k.get e4 (hn _ (by omega)), k.get e5 (hn _ (by omega))⟩
  case assign =>
    intro l x W K hK
    unfold mntV at hK ⊢
    simp only [List.setIfInBounds_toArray, List.set_cons_succ, List.set_cons_zero] at hK ⊢
    gi_wp2
    exact hK _ (Keep.alloc _ _ _) (heap_alloc_eq W _)
  case body =>
    rintro l' pre x W B hW hB hbx hpm
    unfold mntV
    simp only [List.setIfInBounds_toArray, List.set_cons_succ, List.set_cons_zero]
    have a0 := cell_blk hbx 0
    have a1 := cell_blk hbx 1
    have a2 := cell_blk hbx 2
    have b0 := cell_blk hW.box 0
    have b1 := cell_blk hW.box 1
    simp only [List.getElem?_toArray, List.getElem?_cons_zero, List.getElem?_cons_succ] at a0 a1 a2 b0 b1
    have c4 := cell_blk hW.r4 0
    have c5 := cell_blk hW.r5 0
    simp only [List.getElem?_toArray, List.getElem?_cons_zero, List.getElem?_cons_succ] at c4 c5
    have f4 := free_blk hW.r4 0
    have f5 := free_blk hW.r5 0
    have D := Lib.hid (And.intro hW (And.intro hbx hB))
    clear hW hbx
    obtain ⟨xk, xt, xm, xn⟩ := x
    simp only at *
    have same : laidAt m n (xk, ⟨xt, xm, xn⟩) = false → roundC wL.heap.size (KpM (fun b => b = w.heap.size + 1 ∨ b = w.heap.size + 1 + 1) wL.heap.size (wL.heap.size + 2)) (OvI w m n) (OvX w m n) (pre ++ [(xk, ⟨xt, xm, xn⟩)]) W Exit.normal ⟨#[], []⟩ W := fun hf =>
      ⟨⟨Nat.le_refl _, fun _ _ _ hk _ => hk⟩, Keep.refl _ _, D.out.1.keep, D.out.1.box, D.out.1.r4, D.out.1.r5, fun y hy => by
        rcases List.mem_append.1 hy with hy | hy
        · exact D.out.1.none y hy
        · rw [List.mem_singleton.1 hy]; exact hf⟩
    have HSM := Lib.hid same
    clear same
    by_cases h0 : 0 < xk
    · by_cases h1 : xm = m ∧ xn = n
      · have hyes := Lib.hid (show laidAt m n (xk, ⟨xt, xm, xn⟩) = true by unfold laidAt; simp [h0, h1.1, h1.2])
        obtain ⟨e1, e2⟩ := h1
        have a1' : W.cell? ⟨B, 1, none⟩ = some (.int .i64 m) := by rw [a1, e1]
        have a2' : W.cell? ⟨B, 2, none⟩ = some (.int .i64 n) := by rw [a2, e2]
        clear a1 a2 e1 e2 HSM
        gi_wp2
        have k4 := Keep.setCell W ⟨w.heap.size + 1, 0, none⟩ (.int .i64 xk)
        have s4 := heap_setCell_eq (off := 0) (Value.int .i64 xk) D.out.1.r4
        have s5 := k4.get D.out.1.r5 (fun q => by have q' : w.heap.size + 1 + 1 = w.heap.size + 1 := q; omega)
        have k5 := Keep.setCell (W.setCell ⟨w.heap.size + 1, 0, none⟩ (.int .i64 xk)) ⟨w.heap.size + 1 + 1, 0, none⟩ (.bool true)
        have u5 := heap_setCell_eq (off := 0) (Value.bool true) s5
        have u4 := k5.get s4 (fun q => by have q' : w.heap.size + 1 = w.heap.size + 1 + 1 := q; omega)
        have kk : Keep W ((W.setCell ⟨w.heap.size + 1, 0, none⟩ (.int .i64 xk)).setCell ⟨w.heap.size + 1 + 1, 0, none⟩ (.bool true)) (fun b => b = w.heap.size + 1 ∨ b = w.heap.size + 1 + 1) := (k4.mono (fun b q => .inl q)).trans k5 (fun b q => .inl (.inr q))
        refine ⟨⟨kk.size, fun b o hb hk _ => kk.get hk (fun q => by rcases q with q | q <;> omega)⟩, kk.mono (fun b q => .inl q), rfl, D.out.1.keep.trans kk (fun b q => .inr (by rcases q with q | q <;> omega)), pre, _, rfl, hyes.out, D.out.1.none, ?_, ?_⟩
        · simpa using u4
        · simpa using u5
      · have hno := Lib.hid (show laidAt m n (xk, ⟨xt, xm, xn⟩) = false by
          unfold laidAt
          simp only [Bool.and_eq_false_iff, decide_eq_false_iff_not]
          right
          by_cases q : xm = m
          · exact .inr (fun z => h1 ⟨q, z⟩)
          · exact .inl q)
        gi_wp2
        all_goals exact HSM.out hno.out
    · have hno := Lib.hid (show laidAt m n (xk, ⟨xt, xm, xn⟩) = false by unfold laidAt; simp [h0])
      gi_wp2
      exact HSM.out hno.out
  case done =>
    rintro D xs W hD rfl hW hK
    have c4 := cell_blk hW.r4 0
    have c5 := cell_blk hW.r5 0
    simp only [List.getElem?_toArray, List.getElem?_cons_zero, List.getElem?_cons_succ] at c4 c5
    have f4 := free_blk hW.r4 0
    have f5 := free_blk hW.r5 0
    have k4 := Keep.setCell W ⟨w.heap.size + 1, 0, none⟩ (.int .i64 0)
    have s4 := heap_setCell_eq (off := 0) (Value.int .i64 0) hW.r4
    have s5 := k4.get hW.r5 (fun q => by have q' : w.heap.size + 1 + 1 = w.heap.size + 1 := q; omega)
    have k5 := Keep.setCell (W.setCell ⟨w.heap.size + 1, 0, none⟩ (.int .i64 0)) ⟨w.heap.size + 1 + 1, 0, none⟩ (.bool false)
    have u5 := heap_setCell_eq (off := 0) (Value.bool false) s5
    have u4 := k5.get s4 (fun q => by have q' : w.heap.size + 1 = w.heap.size + 1 + 1 := q; omega)
    have kk : Keep W ((W.setCell ⟨w.heap.size + 1, 0, none⟩ (.int .i64 0)).setCell ⟨w.heap.size + 1 + 1, 0, none⟩ (.bool false)) (fun b => b = w.heap.size + 1 ∨ b = w.heap.size + 1 + 1) := (k4.mono (fun b q => .inl q)).trans k5 (fun b q => .inl (.inr q))
    have ho : overA V m n = (0, false) := by
      have : V.over m n = none := List.find?_eq_none.2 (fun y hy => by rw [hW.none y hy]; simp)
      unfold overA
      rw [this]
    have D2 := Lib.hid (And.intro (kk.get hK (fun q => by rcases q with q | q <;> omega)) (And.intro (hW.keep.trans kk (fun b q => .inr (by rcases q with q | q <;> omega))) (And.intro u4 (And.intro u5 ho))))
    clear hW hK k4 s4 s5 k5 u5 u4 kk ho
    go_wp2
    refine leaves_mark D2.out.1 fun w' k' => ⟨_, over_res (k'.get D2.out.2.2.1 (fun q => by have q' : w.heap.size + 1 = D := q; omega)) (k'.get D2.out.2.2.2.1 (fun q => by have q' : w.heap.size + 1 + 1 = D := q; omega)) rfl rfl, ?_⟩
    rw [D2.out.2.2.2.2]
    exact ⟨rfl, D2.out.2.1.trans k' (fun b q => .inr (by have q' : b = D := q; omega))⟩
  case stop =>
    rintro D c pre W hD hpre hX hK
    obtain ⟨qs, y, rfl, e2, e3, e4, e5⟩ := hX.ex
    obtain rfl := hX.ret
    have ho : overA V m n = (y.1, true) := by
      have : V.over m n = some y := find_pre hpre e2 e3
      unfold overA
      rw [this]
    have D2 := Lib.hid (And.intro hK (And.intro hX.keep (And.intro e4 (And.intro e5 ho))))
    clear hX hK e2 e3 e4 e5 ho hpre
    go_wp2
    refine leaves_mark D2.out.1 fun w' k' => ⟨_, over_res (k'.get D2.out.2.2.1 (fun q => by have q' : w.heap.size + 1 = D := q; omega)) (k'.get D2.out.2.2.2.1 (fun q => by have q' : w.heap.size + 1 + 1 = D := q; omega)) rfl rfl, ?_⟩
    rw [D2.out.2.2.2.2]
    exact ⟨rfl, D2.out.2.1.trans k' (fun b q => .inr (by have q' : b = D := q; omega))⟩
end Go.Proofs.YtoanccechefclaaGreatDoor
namespace Go.Proofs.YtoanccechefclaaGreatDoor
open Go Go.RowKit Go.Shelf
set_option maxRecDepth 100000
attribute [local go_sem] Oper.semAt_some
def abv (m : Int) (L : List Mnt) : List Int := (L.filter fun x => decide (0 < x.1) && decide (x.2.am = m)).map Prod.fst
theorem abv_snoc (m : Int) (L : List Mnt) (x : Mnt) : abv m (L ++ [x]) = abv m L ++ if 0 < x.1 ∧ x.2.am = m then [x.1] else [] := by
  unfold abv
  rw [List.filter_append, List.map_append]
  congr 1
  by_cases h : 0 < x.1 ∧ x.2.am = m
  · rw [if_pos h]; simp [List.filter_cons, h.1, h.2]
  · rw [if_neg h]
    have : (decide (0 < x.1) && decide (x.2.am = m)) = false := by
      simp only [Bool.and_eq_false_iff, decide_eq_false_iff_not]
      by_cases q : 0 < x.1
      · exact .inr (fun z => h ⟨q, z⟩)
      · exact .inl q
    simp [List.filter_cons, this]
theorem abv_len (m : Int) (L : List Mnt) : (abv m L).length ≤ L.length := by
  unfold abv
  rw [List.length_map]
  exact List.length_filter_le _ _
structure AbI (w : World) (m : Int) (M : Nat) (pre : List Mnt) (U : World) : Prop where
  keep : Keep w U (fun _ => False)
  box : U.heap[w.heap.size]? = some (.cells #[.int .i64 m] 3 (0, 0))
  row : ∃ v, U.heap[w.heap.size + 1]? = some (.cells #[v] 25 (0, 0)) ∧ U.ownsRow 0 3 1 v (abv m pre).length ((abv m pre).map (Value.int .i64)) ∧ ∀ b, v.ownBlock = some b → M ≤ b ∧ w.heap.size + 3 ≤ b
theorem int_info : ∃ i z, Tryz.prog.info? 3 = some i ∧ i.zero = some z ∧ i.size = 1 ∧ i.bytes ≤ 64 ∧ z.cells.size = 1 := m_kt_info
set_option maxHeartbeats 4000000 in
theorem mabv_c {w : World} {tb : Nat} {S : Nat → Prop} {V : MountV} (h : TableAt w tb S V) (m : Int) :
    Calls Tryz.prog 94 #[.pointer (some ⟨tb, 0, none⟩), .int .i64 m] w fun e w' => ∃ v, e = .returned v ∧ w'.ownsRow 0 3 1 v (V.above m).length ((V.above m).map (Value.int .i64)) ∧ Keep w w' (fun _ => False) ∧ ∀ b, v.ownBlock = some b → w.heap.size ≤ b := by
  have H := Lib.hid h
  clear h
  refine calls_marks Tryz.func94 rfl ?_
  simp only [Tryz.ntmps94, List.size_toArray, List.length_cons, List.length_nil, Nat.reduceAdd, Nat.reduceSub, Array.replicate_succ, Array.replicate_zero, List.push_toArray, List.append_toArray, List.nil_append, List.cons_append]
  go_wp2_with (
    go_at_call 97
    refine (mord_c _ _).mono ?_
    rintro e w11 ⟨rfl, rfl⟩)
  obtain ⟨wL, hwL⟩ : ∃ wL, wL = ((w.alloc (.cells #[.int .i64 m] 3)).alloc (.cells #[.slice none 0 0] 25)).alloc (.cells #[.pointer (some ⟨tb, 0, none⟩)] 27) := ⟨_, rfl⟩
  have W0 : _ := boxes3 w (.cells #[.int .i64 m] 3) (.cells #[.slice none 0 0] 25) (.cells #[.pointer (some ⟨tb, 0, none⟩)] 27)
  rw [← hwL] at W0
  have HW := Lib.hid W0
  have hz1 : wL.heap.size ≤ w.heap.size + 3 := by have := W0.2.2.2.2; omega
  have hz2 : w.heap.size + 3 ≤ wL.heap.size := by have := W0.2.2.2.2; omega
  clear W0
  rw [← hwL]
  clear hwL
  have hSlt := H.out.lt
  have hI0 : ∀ M, AbI w m M [] wL := fun M => ⟨HW.out.1, HW.out.2.1, .slice none 0 0, HW.out.2.2.1, rows_nil _ _ _, fun b q => by simp [Value.ownBlock] at q⟩
  have HI0 := Lib.hid hI0
  have HS := Lib.hid hSlt
  have H8 := Lib.hid H.out.ok.most
  clear hI0 hSlt
  refine wp_rangeE (α := Mnt) (enc := encM) (X := fun _ _ => False) (Kp := KpE (fun b => b = w.heap.size + 1) wL.heap.size) (S := fun xs => xs = V.live) (Sp := fun pre => pre <+: V.live)
    (gf := 119) (lb := #[.pointer (some ⟨w.heap.size + 1 + 1, 0, none⟩)]) rfl (enters_of Tryz.func119 (by kernel_rfl) rfl)
    (fun l J Jx W hW hJ hJx hY h0 => mord1E_in l (w.heap.size + 1 + 1) tb S _ V wL.heap.size (fun b q => ⟨by omega, fun z => by have := HS.out b z; omega⟩) ⟨by omega, by omega⟩ (fun b q => by have := HS.out b q; omega) J Jx W hW.size hJ (fun M pre x U => hY M pre x U) ((Keep.of_below hW).get HW.out.2.2.2.1 (by omega)) ((H.out.aside HW.out.1).keep (Keep.of_below hW) (fun b q z => by have := HS.out b q; omega)) h0)
    (fun b q => q.elim) (fun h k => KpE.trans h k) (fun M W l o o' hl ho hc hw => (keep_of_grown (grownBy_putObj' W l o')).mono fun b e => .inr (.inl (by simp only [Option.some.injEq] at e; omega)))
    (fun x => rfl) (fun h => h.mono fun _ q => q.elim) (fun x => some (.cells #[.int .i64 x.2.top, .int .i64 x.2.am, .int .i64 x.2.an] 118 (0, 0)))
    (fun x B t => (((t.setIfInBounds 10 (.int .i64 x.1)).setIfInBounds 11 (mntV x.2)).setIfInBounds 6 (.int .i64 x.1)).setIfInBounds 7 (.pointer (some ⟨B, 0, none⟩)))
    (fun x t => (t.setIfInBounds 10 (.int .i64 x.1)).setIfInBounds 11 (mntV x.2)) (fun x t => zip_two _ _ _ _ t)
    (AbI w m) (fun _ _ _ _ => False) ?abide ?abidex HI0.out ?assign ?body ?done ?stop
  case abide =>
    intro M pre A1 A2 hA k
    have hn : ∀ b, b < wL.heap.size → ¬ Turns wL.heap.size (fun _ => False) A1 b := fun b hb q => by
      rcases q with q | q
      · exact q
      · have := q.1; omega
    obtain ⟨v, v1, v2, v3⟩ := hA.row
    refine ⟨hA.keep.trans k (fun b q => .inr (by rcases q with q | q; exact q.elim; have := q.1; omega)), k.get hA.box (hn _ (by omega)), v, k.get v1 (hn _ (by omega)), rows_keep v2 k (fun b q z => ?_), v3⟩
    rcases z with z | z
    · exact z
    · obtain ⟨c, t, f, hb⟩ := m_own_is v2 q
      exact not_cells hb z.2
  case abidex => exact fun M c s A1 A2 hA k => hA
  case assign =>
    intro l x W K hK
    unfold mntV at hK ⊢
    simp only [List.setIfInBounds_toArray, List.set_cons_succ, List.set_cons_zero] at hK ⊢
    gi_wp2
    exact hK _ (Keep.alloc _ _ _) (fun o ho => by cases ho; exact heap_alloc_eq W _)
  case body =>
    rintro l' M pre x W B hW hM0 hMB hBW hbx hpm
    have hbx := hbx _ rfl
    unfold mntV
    simp only [List.setIfInBounds_toArray, List.set_cons_succ, List.set_cons_zero]
    have a0 := cell_blk hbx 0
    have a1 := cell_blk hbx 1
    have a2 := cell_blk hbx 2
    have b0 := cell_blk hW.box 0
    simp only [List.getElem?_toArray, List.getElem?_cons_zero, List.getElem?_cons_succ] at a0 a1 a2 b0
    obtain ⟨v, v1, v2, v3⟩ := hW.row
    obtain ⟨sa, cap, rfl, hcap⟩ := rows_val2 v2
    have c1 := cell_blk v1 0
    simp only [List.getElem?_toArray, List.getElem?_cons_zero, List.getElem?_cons_succ] at c1
    have f1 := free_blk v1 0
    have hal := abv_len m pre
    have D := Lib.hid (And.intro hW (And.intro hbx (And.intro v1 (And.intro v2 v3))))
    generalize hln : (abv m pre).length = k at *
    have HK := Lib.hid hln
    clear hW hbx v1 v2 v3 hln
    obtain ⟨xk, xt, xm, xn⟩ := x
    simp only at *
    have same : ¬ (0 < xk ∧ xm = m) → roundC wL.heap.size (KpE (fun b => b = w.heap.size + 1) wL.heap.size M (wL.heap.size + 2)) (AbI w m M) (fun _ _ _ => False) (pre ++ [(xk, ⟨xt, xm, xn⟩)]) W Exit.normal ⟨#[], []⟩ W := fun hf =>
      ⟨⟨Nat.le_refl _, fun _ _ _ hk _ => hk⟩, Keep.refl _ _, D.out.1.keep, D.out.1.box, by
        rw [abv_snoc, if_neg hf, List.append_nil]
        exact D.out.1.row⟩
    have HSM := Lib.hid same
    clear same
    by_cases h0 : 0 < xk
    · by_cases h1 : xm = m
      · have a1' : W.cell? ⟨B, 1, none⟩ = some (.int .i64 m) := by rw [a1, h1]
        have HX := Lib.hid (And.intro h0 h1)
        clear a1 h1 HSM
        obtain ⟨ti, tz, ti1, ti2, ti3, ti4, ti5⟩ := int_info
        have HJ := Lib.hid (And.intro ti1 (And.intro ti2 (And.intro ti3 (And.intro ti4 ti5))))
        clear ti1 ti2 ti3 ti4 ti5
        gi_wp2_with (
          gi_at_builtin
          refine law_pushIn rfl _ _ _ rfl Tryz.underlying25 HJ.out.1 HJ.out.2.1 HJ.out.2.2.1 HJ.out.2.2.2.1 HJ.out.2.2.2.2 D.out.2.2.2.1 rfl (.int .i64 xk) rfl rfl rfl (by omega) ?_
          intro a8 cap8 w8 q1 q2 q3
          have hnb : ¬ (Value.slice sa k cap).ownBlock = some (w.heap.size + 1) := fun q => by have := D.out.2.2.2.2 _ q; omega
          have b8 := q2.get D.out.2.2.1 hnb
          have d1 : w8.cell? ⟨w.heap.size + 1, 0, none⟩ = some (.slice sa k cap) := by rw [cell_blk b8]; rfl
          have d2 : w8.frozen? ⟨w.heap.size + 1, 0, none⟩ = false := free_blk b8 _
          have N := Lib.hid (And.intro q1 (And.intro q2 (And.intro q3 b8)))
          clear q1 q2 q3 hnb b8)
        have k5 := Keep.setCell w8 ⟨w.heap.size + 1, 0, none⟩ (.slice a8 (k + 1) cap8)
        have kk : Keep W (w8.setCell ⟨w.heap.size + 1, 0, none⟩ (.slice a8 (k + 1) cap8)) (fun b => (Value.slice sa k cap).ownBlock = some b ∨ b = w.heap.size + 1) := (N.out.2.1.mono (fun b q => .inl q)).trans k5 (fun b q => .inl (.inr q))
        have hcel : ∀ b, ((Value.slice sa k cap).ownBlock = some b ∨ b = w.heap.size + 1) → ∀ o, W.heap[b]? = some o → o.isCells = true := fun b q o ho => by
          rcases q with q | q
          · obtain ⟨c, t, f, hb⟩ := m_own_is D.out.2.2.2.1 q
            rw [hb] at ho; cases ho; rfl
          · subst q
            rw [D.out.2.2.1] at ho; cases ho; rfl
        refine ⟨m_keepsFrom_cells kk hcel, kk.mono (fun b q => ?_), D.out.1.keep.trans kk (fun b q => .inr ?_), kk.get D.out.1.box (fun q => ?_), .slice a8 (k + 1) cap8, heap_setCell_eq (.slice a8 (k + 1) cap8) (off := 0) N.out.2.2.2, ?_, fun b q => ?_⟩
        · rcases q with q | q
          · exact .inr (.inr (D.out.2.2.2.2 b q).1)
          · exact .inl q
        · rcases q with q | q
          · have := D.out.2.2.2.2 b q; omega
          · omega
        · rcases q with q | q
          · have := D.out.2.2.2.2 _ q; omega
          · omega
        · have hr := rows_keep N.out.1 k5 (fun b q z => by
            have hz : b = w.heap.size + 1 := z
            rcases N.out.2.2.1 b q with y | y
            · have := D.out.2.2.2.2 b y; omega
            · have := lt_of_blk D.out.2.2.1; omega)
          rw [abv_snoc, if_pos (show 0 < xk ∧ xm = m from HX.out), List.length_append, List.length_singleton, HK.out, List.map_append]
          exact hr
        · rcases N.out.2.2.1 b q with y | y
          · exact D.out.2.2.2.2 b y
          · omega
      · have g1 : (xm == m) = false := by simpa using h1
        have hno := Lib.hid (show ¬ (0 < xk ∧ xm = m) from fun q => h1 q.2)
        clear h1
        gi_wp2
        exact HSM.out hno.out
    · have hno := Lib.hid (show ¬ (0 < xk ∧ xm = m) from fun q => h0 q.1)
      gi_wp2
      exact HSM.out hno.out
  case done =>
    rintro D M xs W hD rfl hW hK
    obtain ⟨v, v1, v2, v3⟩ := hW.row
    obtain ⟨sa, cap, rfl, hcap⟩ := rows_val2 v2
    have c1 := cell_blk v1 0
    simp only [List.getElem?_toArray, List.getElem?_cons_zero, List.getElem?_cons_succ] at c1
    have D2 := Lib.hid (And.intro hW.keep (And.intro hK (And.intro v2 v3)))
    have ev : abv m V.live = V.above m := rfl
    rw [ev] at D2 c1 hcap
    generalize hln : (V.above m).length = k at *
    clear hW hK v1 v2 v3 ev hcap
    go_wp2
    refine leaves_mark D2.out.2.1 fun w' k' => ⟨.slice sa k cap, by simp [results, Tryz.results94, go_sem], _, rfl, ?_⟩
    rw [hln]
    have hn : ∀ b, (Value.slice sa k cap).ownBlock = some b → ¬ b = D := fun b q z => by
      obtain ⟨c, t, f, hb⟩ := m_own_is D2.out.2.2.1 q
      rw [z, D2.out.2.1] at hb
      cases hb
    exact ⟨rows_keep D2.out.2.2.1 k' hn, D2.out.1.trans k' (fun b q => .inr (by have q' : b = D := q; omega)), fun b q => by have := D2.out.2.2.2 b q; omega⟩
  case stop =>
    rintro D M c pre W hD _ h
    exact h.elim
end Go.Proofs.YtoanccechefclaaGreatDoor
