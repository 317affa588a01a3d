/-
  The iterator of a table of mounts.
-/
import Derived.Test.YtemoickagefjmaaMountAt
import Derived.Test.YtemoickagefjmaaSKeysM
import Derived.Test.YtemoickagefjmaaRangeD
namespace Go.Proofs.Ytemoickagefjmaa
open Go Go.RowKit Go.Shelf
set_option linter.unusedSectionVars false
set_option linter.unusedSimpArgs false
set_option linter.unusedVariables false
set_option maxRecDepth 100000
attribute [local go_sem] Oper.semAt_some

theorem MountV.ok.sortKeys {V : MountV} (h : V.ok) : sortI ((liveV V.live).map Prod.fst) = V.live.map Prod.fst := by
  have e : (liveV V.live).map Prod.fst = V.live.map Prod.fst := by simp [liveV]
  rw [e]
  exact sortI_eq (h.sorted.imp fun h => by omega) (List.Perm.refl _)

/-- What the taker may turn: T; the loop's own block. -/
def KpM (T : Nat → Prop) (B0 n : Nat) (U U' : World) : Prop := Keep U U' (fun b => T b ∨ (b + 1 = n ∧ B0 ≤ b))
theorem KpM.trans {T : Nat → Prop} {B0 n : Nat} {A B C : World} (h : KpM T B0 n A B) (k : KpM T B0 n B C) : KpM T B0 n A C := Keep.trans h k (fun b q => .inl q)

def encM (x : Mnt) : Array Value := #[.int .i64 x.1, mntV x.2]

theorem mord_c (w : World) (tb : Nat) :
    Calls Try.prog 58 #[.pointer (some ⟨tb, 0, none⟩)] w fun r w' => r = .returned (.func (.func 64) #[] #[.pointer (some ⟨w.heap.size, 0, none⟩)]) ∧ w' = w.alloc (.cells #[.pointer (some ⟨tb, 0, none⟩)] 50) := by
  go_enter Try.func58, Try.ntmps58
  go_wp2
  go_ret
  exact ⟨rfl, rfl⟩

set_option maxHeartbeats 4000000 in
theorem mord1_in (l b1 tb : Nat) (S T : Nat → Prop) (V : MountV) (B0 : Nat) (hT : ∀ b, T b → b < B0 ∧ ¬ S b) (hb1 : ¬ T b1 ∧ b1 < B0) (hS : ∀ b, S b → b < B0)
    (J Jx : List Mnt → World → Prop) (W : World) (hB0 : B0 ≤ W.heap.size) (hJ : AbidesX W.heap.size (fun _ => False) J)
    (hY : ∀ pre x U, J pre U → W.heap.size ≤ U.heap.size → pre.length ≤ 1000000 → YieldAt Fence.wide 7 Try.prog l (encM x) U fun r U' => (r = .returned (.bool true) ∧ J (pre ++ [x]) U' ∧ KpM T B0 W.heap.size U U' ∧ U.heap.size ≤ U'.heap.size) ∨ (r = .returned (.bool false) ∧ Jx (pre ++ [x]) U' ∧ KpM T B0 W.heap.size U U'))
    (h1 : W.heap[b1]? = some (.cells #[.pointer (some ⟨tb, 0, none⟩)] 50 (0, 0))) (hM : TableAt W tb S V) (h0 : J [] W) :
    CallsIn Fence.wide 8 Try.prog 64 #[.func (.yield l) #[] #[], .pointer (some ⟨b1, 0, none⟩)] W fun e U => (∃ v, e = .returned v) ∧
      ((∃ xs, xs = V.live ∧ J xs U) ∨ (∃ pre, pre <+: V.live ∧ Jx pre U)) := by
  obtain ⟨mb, t1, t2, t3, t4, t5⟩ := hM.ex
  have c1 := cell_blk h1 0
  have c0 := cell_blk t1 0
  simp only [List.getElem?_toArray, List.getElem?_cons_zero, List.getElem?_cons_succ] at c1 c0
  have hkl : V.live.length ≤ 8 := hM.ok.most
  have hk := m_keys_c W (some mb)
  have ka := Keep.alloc W (.cells #[.map (some mb)] 96) (fun _ => False)
  have aa := heap_alloc_eq W (.cells #[.map (some mb)] 96)
  have hs := m_sorted_c (w := W.alloc (.cells #[.map (some mb)] 96)) (bl := W.heap.size) (mb := mb) (by rw [cell_blk aa]; rfl) (t2.keep ka (fun q => q)) (by unfold liveV; rw [List.length_map]; omega)
  rw [hM.ok.sortKeys, List.length_map] at hs
  have HM := Lib.hid hM
  have HX := Lib.hid (And.intro t1 (And.intro t2 (And.intro t3 t4)))
  have H := Lib.hid (And.intro h1 (And.intro h0 ka))
  clear h1 h0 ka aa hM t1 t2 t3 t4 t5
  refine callsIn_of_wp Try.func64 rfl trivial ?_ rfl
  simp only [Try.ntmps64, List.size_toArray, List.length_cons, List.length_nil, Nat.reduceAdd, Nat.reduceSub, Array.replicate_succ, Array.replicate_zero, List.push_toArray, List.append_toArray, List.nil_append, List.cons_append]
  gi_wp2_with (first
    | (refine ⟨trivial, ?_⟩
       gi_at_call 57
       refine (callsIn_wide.2 hk).mono ?_
       rintro e w1 ⟨rfl, rfl⟩
       clear hk)
    | (refine ⟨trivial, ?_⟩
       gi_at_call 56
       refine (callsIn_wide.2 hs).mono ?_
       rintro e w2 ⟨v, rfl, q1, q2, q3⟩
       obtain ⟨sa, cap, rfl, hcap⟩ := rows_val2 q1
       have N := Lib.hid (And.intro q1 (And.intro (H.out.2.2.trans q2 (fun _ q => q.elim)) (show ∀ b, (Value.slice sa V.live.length cap).ownBlock = some b → W.heap.size < b from fun b q => by have := q3 b q; simp at this; omega)))
       clear hs q1 q2 q3))
  obtain ⟨m, hm⟩ : ∃ m, m = V.live.length := ⟨_, rfl⟩
  have hm8 : m ≤ 8 := by rw [hm]; exact hkl
  rw [← hm] at N hcap ⊢
  have HMM := Lib.hid hm
  clear hm
  gi_loopg [12] m (fun g s12 wr => ∃ k : Nat, s12 = .int .i64 k ∧ k + g = m ∧ J (V.live.take k) wr ∧ Keep w2 wr (fun b => T b ∨ (b + 1 = W.heap.size ∧ B0 ≤ b)))
  case atStart => exact ⟨0, rfl, by omega, hJ.aside H.out.2.1 N.out.2.1, Keep.refl _ _⟩
  case round =>
    obtain ⟨k, rfl, hk, hj, hkeep⟩ := hrel
    have hno : ∀ b, (Value.slice sa m cap).ownBlock = some b → ¬ (T b ∨ (b + 1 = W.heap.size ∧ B0 ≤ b)) := fun b q z => by
      have := N.out.2.2 b q
      rcases z with z | z
      · have := (hT b z).1; omega
      · omega
    have hkw : Keep W wr (fun b => T b ∨ (b + 1 = W.heap.size ∧ B0 ≤ b)) := (N.out.2.1.mono (fun _ q => q.elim)).trans hkeep (fun b q => .inl q)
    have hnS : ∀ b, S b → ¬ (T b ∨ (b + 1 = W.heap.size ∧ B0 ≤ b)) := fun b q z => by
      rcases z with z | z
      · exact (hT b z).2 q
      · have := hS b q; omega
    have g1 := hkw.get H.out.1 (fun q => by rcases q with q | q; exact hb1.1 q; have := hb1.2; omega)
    have g2 := hkw.get HX.out.1 (hnS _ HX.out.2.2.1)
    have g3 := HX.out.2.1.keep hkw (hnS _ HX.out.2.2.2)
    have e1 := cell_blk g1 0
    have e2 := cell_blk g2 0
    simp only [List.getElem?_toArray, List.getElem?_cons_zero, List.getElem?_cons_succ] at e1 e2
    have D := Lib.hid (And.intro hj (And.intro hkeep hkw))
    clear hj hkeep hkw g1 g2 c1 c0
    by_cases hlt : k < m
    · have hlt' : (k : Int) < (m : Int) := by omega
      have hrow := rows_keep N.out.1 D.out.2.1 hno
      obtain ⟨x, hx⟩ : ∃ x, V.live[k]? = some x := ⟨_, List.getElem?_eq_getElem (by have := HMM.out; omega)⟩
      have hxk : (V.live.map Prod.fst)[k]? = some x.1 := by rw [List.getElem?_map, hx]; rfl
      obtain ⟨gv, rfl, -, -, -⟩ := rows_some hrow (by omega)
      have cx := (rows_cell hrow (mapGet (f := Value.int .i64) hxk)).1
      have htk : V.live.take (k + 1) = V.live.take k ++ [x] := by rw [List.take_add_one, hx]; rfl
      have HTK := Lib.hid htk
      have hgx : aget V.live x.1 = some x.2 := aget_of_memM HM.out.ok.nodup (List.mem_of_getElem? hx)
      have l1 := mlook g3 x.1 false
      rw [hgx] at l1
      simp only [Bool.false_eq_true, if_false, Option.getD_some] at l1
      obtain ⟨fn, tmps, assign, body, hy, hR⟩ := hY _ x wr D.out.1 D.out.2.2.size (by rw [List.length_take]; omega)
      have H8 := Lib.hid (show m ≤ 8 from hm8)
      unfold encM at hy
      clear hrow hx htk hno hnS g3 hgx hxk
      gi_wp2
      refine hR.mono ?_
      rintro e W3 (⟨rfl, hJ3, hk3, hz⟩ | ⟨rfl, hJx3, hk3⟩)
      · have M := Lib.hid (And.intro hJ3 hk3)
        clear hJ3 hk3
        gi_wp2
        gi_roundg (m - (k + 1))
        case measure => omega
        case rel => exact ⟨k + 1, by go_num, by omega, by rw [HTK.out]; exact M.out.1, D.out.2.1.trans M.out.2 (fun b q => .inl q)⟩
      · gi_wp2
        refine bodyPost_ret (results_none rfl _ _ _) rfl ?_
        refine ⟨⟨_, rfl⟩, .inr ⟨_, ?_, hJx3⟩⟩
        rw [← HTK.out]
        exact List.take_prefix _ _
    · have hlt' : ¬ (k : Int) < (m : Int) := by omega
      gi_wp2
      go_end0
      exact ⟨⟨_, rfl⟩, .inl (by have h := D.out.1; rw [List.take_of_length_le (by have := HMM.out; omega)] at h; exact h)⟩

end Go.Proofs.Ytemoickagefjmaa
