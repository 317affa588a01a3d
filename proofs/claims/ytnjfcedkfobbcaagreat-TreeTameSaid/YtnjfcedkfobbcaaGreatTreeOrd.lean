/-
  A Dir's names, in order.
-/
import Derived.Test.YtnjfcedkfobbcaaGreatTreeA
import Derived.Test.YtnjfcedkfobbcaaGreatSKeysS
import Derived.Test.YtnjfcedkfobbcaaGreatRangeE
namespace Go.Proofs.YtnjfcedkfobbcaaGreat
open Go Go.RowKit Go.Shelf
set_option linter.unusedSectionVars false
set_option linter.unusedSimpArgs false
set_option linter.unusedVariables false
set_option maxRecDepth 100000
attribute [local go_sem] Oper.semAt_some

/-- What the taker may turn: T; the loop's own block; what rounds have laid. -/
def KpN (T : Nat → Prop) (B0 M n : Nat) (U U' : World) : Prop := Keep U U' (fun b => T b ∨ (b + 1 = n ∧ B0 ≤ b) ∨ M ≤ b)
theorem KpN.trans {T : Nat → Prop} {B0 M n : Nat} {A B C : World} (h : KpN T B0 M n A B) (k : KpN T B0 M n B C) : KpN T B0 M n A C := Keep.trans h k (fun b q => .inl q)

def encN (x : ByteArray) : Array Value := #[.string x]
theorem zip_one (p : Tmp) (u : Value) (t : Array Value) : ((#[p] : Array Tmp).zip #[u]).foldl (fun (tmps : Array Value) (x : Tmp × Value) => tmps.setIfInBounds x.1 x.2) t = t.setIfInBounds p u := by simp

/-- The names, in order. -/
def sortedN (L : List (ByteArray × Int)) : List ByteArray := sortS (L.map Prod.fst)
theorem sortedN_len (L : List (ByteArray × Int)) : (sortedN L).length = L.length := by
  unfold sortedN
  rw [(sortS_perm _).length_eq, List.length_map]

theorem tord_c (w : World) (nb : Nat) :
    Calls Tryz.prog 86 #[.pointer (some ⟨nb, 0, none⟩)] w fun r w' => r = .returned (.func (.func 100) #[] #[.pointer (some ⟨w.heap.size, 0, none⟩)]) ∧ w' = w.alloc (.cells #[.pointer (some ⟨nb, 0, none⟩)] 50) := by
  go_enter Tryz.func86, Tryz.ntmps86
  go_wp2
  go_ret
  exact ⟨rfl, rfl⟩

set_option maxHeartbeats 4000000 in
theorem tord1_in (l b1 nb mb : Nat) (T : Nat → Prop) (L : List (ByteArray × Int)) (B0 : Nat) (hT : ∀ b, T b → b < B0 ∧ b ≠ nb ∧ b ≠ mb) (hb1 : ¬ T b1 ∧ b1 < B0) (hS : nb < B0 ∧ mb < B0) (hl : L.length ≤ 1000000)
    (J Jx : Nat → List ByteArray → World → Prop) (W : World) (hB0 : B0 ≤ W.heap.size) (hJ : ∀ M, AbidesX W.heap.size (fun _ => False) (J M))
    (hY : ∀ M pre x U, J M pre U → W.heap.size ≤ M → M ≤ U.heap.size → pre.length ≤ 1000000 → YieldAt Fence.wide 7 Tryz.prog l (encN x) U fun r U' => (r = .returned (.bool true) ∧ J M (pre ++ [x]) U' ∧ KpN T B0 M W.heap.size U U' ∧ U.heap.size ≤ U'.heap.size) ∨ (r = .returned (.bool false) ∧ Jx M (pre ++ [x]) U' ∧ KpN T B0 M W.heap.size U U'))
    (h1 : W.heap[b1]? = some (.cells #[.pointer (some ⟨nb, 0, none⟩)] 50 (0, 0))) (hc : W.cell? ⟨nb, 7, none⟩ = some (.map (some mb))) (hM : MapAt W mb kStr (namesV L)) (h0 : ∀ M, J M [] W) :
    CallsIn Fence.wide 8 Tryz.prog 100 #[.func (.yield l) #[] #[], .pointer (some ⟨b1, 0, none⟩)] W fun e U => (∃ v, e = .returned v) ∧
      ((∃ M xs, xs = sortedN L ∧ J M xs U) ∨ (∃ M pre, pre <+: sortedN L ∧ Jx M pre U)) := by
  have c1 := cell_blk h1 0
  simp only [List.getElem?_toArray, List.getElem?_cons_zero, List.getElem?_cons_succ] at c1
  have hk := s_keys_c W (some mb)
  have ka := Keep.alloc W (.cells #[.map (some mb)] 47) (fun _ => False)
  have aa := heap_alloc_eq W (.cells #[.map (some mb)] 47)
  have hs := s_sorted_c (w := W.alloc (.cells #[.map (some mb)] 47)) (bl := W.heap.size) (mb := mb) (by rw [cell_blk aa]; rfl) (hM.keep ka (fun q => q)) (by rw [namesV_len]; omega)
  have ek : sortS ((namesV L).map Prod.fst) = sortedN L := by unfold namesV sortedN; rw [List.map_map]; rfl
  rw [ek] at hs
  have hsl := sortedN_len L
  obtain ⟨m, hm⟩ : ∃ m, m = (sortedN L).length := ⟨_, rfl⟩
  have hm8 : m ≤ 1000000 := by rw [hm, hsl]; exact hl
  have H := Lib.hid (And.intro h1 (And.intro h0 ka))
  have HMM := Lib.hid hm
  rw [← hm] at hs
  clear h1 h0 ka aa hM ek hsl hl hm
  refine callsIn_of_wp Tryz.func100 rfl trivial ?_ rfl
  simp only [Tryz.ntmps100, List.size_toArray, List.length_cons, List.length_nil, Nat.reduceAdd, Nat.reduceSub, Array.replicate_succ, Array.replicate_zero, List.push_toArray, List.append_toArray, List.nil_append, List.cons_append]
  gi_wp2_with (first
    | (refine ⟨trivial, ?_⟩
       gi_at_call 102
       refine (callsIn_wide.2 hk).mono ?_
       rintro e w1 ⟨rfl, rfl⟩
       clear hk)
    | (refine ⟨trivial, ?_⟩
       gi_at_call 101
       refine (callsIn_wide.2 hs).mono ?_
       rintro e w2 ⟨v, rfl, q1, q2, q3⟩
       obtain ⟨sa, cap, rfl, hcap⟩ := rows_val2 q1
       have qv : ∀ b, (Value.slice sa m cap).ownBlock = some b → b < w2.heap.size := fun b q => by
         rcases rows_val q1 with ⟨e, _⟩ | ⟨g, cp, e, _, e2, e3⟩
         · rw [e] at q; simp [Value.ownBlock] at q
         · rw [e2] at q; cases q; exact e3
       have N := Lib.hid (And.intro q1 (And.intro (H.out.2.2.trans q2 (fun _ q => q.elim)) (show ∀ b, (Value.slice sa m cap).ownBlock = some b → W.heap.size < b ∧ b < w2.heap.size from fun b q => by have := q3 b q; have := qv b q; simp at *; omega)))
       clear qv
       clear hs q1 q2 q3))
  gi_loopg [12] m (fun g s12 wr => ∃ k : Nat, s12 = .int .i64 k ∧ k + g = m ∧ J w2.heap.size ((sortedN L).take k) wr ∧ Keep w2 wr (fun b => T b ∨ (b + 1 = W.heap.size ∧ B0 ≤ b) ∨ w2.heap.size ≤ b))
  case atStart => exact ⟨0, rfl, by omega, (hJ _).aside (H.out.2.1 _) N.out.2.1, Keep.refl _ _⟩
  case round =>
    obtain ⟨k, rfl, hk, hj, hkeep⟩ := hrel
    have hno : ∀ b, (Value.slice sa m cap).ownBlock = some b → ¬ (T b ∨ (b + 1 = W.heap.size ∧ B0 ≤ b) ∨ w2.heap.size ≤ b) := fun b q z => by
      have := N.out.2.2 b q
      rcases z with z | z | z
      · have := (hT b z).1; omega
      · omega
      · omega
    have D := Lib.hid (And.intro hj hkeep)
    clear hj hkeep c1 hc
    by_cases hlt : k < m
    · have hlt' : (k : Int) < (m : Int) := by omega
      have hrow := rows_keep N.out.1 D.out.2 hno
      obtain ⟨x, hx⟩ : ∃ x, (sortedN L)[k]? = some x := ⟨_, List.getElem?_eq_getElem (by have := HMM.out; omega)⟩
      obtain ⟨gv, rfl, -, -, -⟩ := rows_some hrow (by omega)
      have cx := (rows_cell hrow (mapGet (f := Value.string) hx)).1
      have htk : (sortedN L).take (k + 1) = (sortedN L).take k ++ [x] := by rw [List.take_add_one, hx]; rfl
      have HTK := Lib.hid htk
      obtain ⟨fn, tmps, assign, body, hy, hR⟩ := hY _ _ x wr D.out.1 N.out.2.1.size D.out.2.size (by rw [List.length_take]; omega)
      have H8 := Lib.hid (show m ≤ 1000000 from hm8)
      unfold encN at hy
      clear hrow hx htk hno
      gi_wp2
      refine hR.mono ?_
      rintro e W3 (⟨rfl, hJ3, hk3, hz⟩ | ⟨rfl, hJx3, hk3⟩)
      · have M := Lib.hid (And.intro hJ3 hk3)
        clear hJ3 hk3
        gi_wp2
        gi_roundg (m - (k + 1))
        case measure => omega
        case rel => exact ⟨k + 1, by go_num, by omega, by rw [HTK.out]; exact M.out.1, D.out.2.trans M.out.2 (fun b q => .inl q)⟩
      · gi_wp2
        refine bodyPost_ret (results_none rfl _ _ _) rfl ?_
        refine ⟨⟨_, rfl⟩, .inr ⟨_, _, ?_, hJx3⟩⟩
        rw [← HTK.out]
        exact List.take_prefix _ _
    · have hlt' : ¬ (k : Int) < (m : Int) := by omega
      gi_wp2
      go_end0
      have hj := D.out.1
      rw [List.take_of_length_le (by have := HMM.out; omega)] at hj
      exact ⟨⟨_, rfl⟩, .inl ⟨_, hj⟩⟩

end Go.Proofs.YtnjfcedkfobbcaaGreat
