/-
  The iterator of a dir's keys.
-/
import Derived.Test.YtjicoebcmfnooaaDoorD4
import Derived.Test.YtjicoebcmfnooaaDoorSKeysS
import Derived.Test.YtjicoebcmfnooaaDoorRangeC
namespace Go.Proofs.YtjicoebcmfnooaaDoor
open Go Go.RowKit Go.Shelf
set_option linter.unusedSectionVars false
set_option linter.unusedSimpArgs false
set_option linter.unusedVariables false
set_option maxRecDepth 100000
attribute [local go_sem] Oper.semAt_some

/-- Is it a key of the dir? -/
def ofDir (d : Int) (k : ByteArray) : Bool := Lib.hasPrefix k.data.toList (keyL d [])
def dirKeys (d : Int) (ks : List ByteArray) : List ByteArray := ks.filter (ofDir d)

theorem dirKeys_snoc (d : Int) (l : List ByteArray) (x : ByteArray) : dirKeys d (l ++ [x]) = dirKeys d l ++ if ofDir d x = true then [x] else [] := by
  unfold dirKeys
  rw [List.filter_append]
  congr 1
  by_cases h : ofDir d x = true <;> simp [List.filter_cons, h]
theorem dirKeys_take (d : Int) (l : List ByteArray) (k : Nat) : dirKeys d (l.take k) <+: dirKeys d l := List.IsPrefix.filter _ (List.take_prefix k l)

theorem ofDir_nkey (d : Int) (x : Nm) : ofDir d (nkey x) = decide (d = x.1) := by
  have h := keyL_prefix (d := d) (e := x.1) (s := bsOf x.2)
  have e : ofDir d (nkey x) = (keyL d []).isPrefixOf (keyL x.1 (bsOf x.2)) := rfl
  rw [e, Bool.eq_iff_iff, List.isPrefixOf_iff_prefix, h]
  simp

theorem keyB_nil (d : Int) : (keyB d ⟨#[]⟩).data.toList = keyL d [] := rfl

theorem PwKeep {W W' : World} (h : Pw W) (k : Keep W W' (fun b => W.heap.size ≤ b)) : Pw W' :=
  h.keep ⟨k.size, fun b hb _ => k.block b hb (by omega), k.os, k.tape, k.output⟩

/-- What the taker may turn: T; the loop's own block. -/
def KpT (T : Nat → Prop) (B0 n : Nat) (U U' : World) : Prop := Keep U U' (fun b => T b ∨ (b + 1 = n ∧ B0 ≤ b))
theorem KpT.trans {T : Nat → Prop} {B0 n : Nat} {A B C : World} (h : KpT T B0 n A B) (k : KpT T B0 n B C) : KpT T B0 n A C := Keep.trans h k (fun b q => .inl q)

set_option maxHeartbeats 4000000 in
theorem of1_in (l b1 b2 cb : Nat) (d : Int) (hd : -9223372036854775808 ≤ d ∧ d ≤ 9223372036854775807) (S T : Nat → Prop) (most : Int) (A M : Mem) (lb mb : Nat) (B0 : Nat) (hT : ∀ b, T b → b < B0) (hb1 : ¬ T b1 ∧ b1 < B0) (hb2 : ¬ T b2 ∧ b2 < B0)
    (J Jx : List ByteArray → World → Prop) (W : World) (hB0 : B0 ≤ W.heap.size) (hPw : ∀ U, Keep W U (fun b => T b ∨ B0 ≤ b) → Pw U) (hJ : AbidesX W.heap.size (fun _ => False) J)
    (hY : ∀ pre x U, J pre U → W.heap.size ≤ U.heap.size → pre.length ≤ 1000000 → YieldAt Fence.wide 7 Tryd.prog l #[.string x] U fun r U' => (r = .returned (.bool true) ∧ J (pre ++ [x]) U' ∧ KpT T B0 W.heap.size U U' ∧ U.heap.size ≤ U'.heap.size) ∨ (r = .returned (.bool false) ∧ Jx (pre ++ [x]) U' ∧ KpT T B0 W.heap.size U U'))
    (h1 : W.heap[b1]? = some (.cells #[.pointer (some ⟨cb, 0, none⟩)] 23 (0, 0))) (h2 : W.heap[b2]? = some (.cells #[.int .i64 d] 3 (0, 0))) (hcb : W.heap[cb]? = some (.cells #[.pointer (some ⟨lb, 0, none⟩), .map (some mb)] 45 (0, 0)))
    (hM : MapAt W mb kStr (nodesV M)) (hml : M.length ≤ 1000) (h0 : J [] W) :
    CallsIn Fence.wide 8 Tryd.prog 42 #[.func (.yield l) #[] #[], .pointer (some ⟨b1, 0, none⟩), .pointer (some ⟨b2, 0, none⟩)] W fun e U => (∃ v, e = .returned v) ∧
      ((∃ xs, xs = dirKeys d (sortS ((nodesV M).map Prod.fst)) ∧ J xs U) ∨ (∃ pre, pre <+: dirKeys d (sortS ((nodesV M).map Prod.fst)) ∧ Jx pre U)) := by
  have c1 := cell_blk h1 0
  have c0 := cell_blk hcb 1
  simp only [List.getElem?_toArray, List.getElem?_cons_zero, List.getElem?_cons_succ] at c1 c0
  obtain ⟨ks, hks⟩ : ∃ ks, ks = sortS ((nodesV M).map Prod.fst) := ⟨_, rfl⟩
  have hkl : ks.length ≤ 1000 := by rw [hks, sortS_len, List.length_map]; unfold nodesV; rw [List.length_map]; exact hml
  have hk := s_keys_c W (some mb)
  have ka := Keep.alloc W (.cells #[.map (some mb)] 43) (fun _ => False)
  have aa := heap_alloc_eq W (.cells #[.map (some mb)] 43)
  have hs := s_sorted_c (w := W.alloc (.cells #[.map (some mb)] 43)) (bl := W.heap.size) (mb := mb) (by rw [cell_blk aa]; rfl) (hM.keep ka (fun q => q)) (by unfold nodesV; rw [List.length_map]; omega)
  rw [← hks] at hs ⊢
  have H := Lib.hid (And.intro h1 (And.intro h2 (And.intro hPw (And.intro h0 ka))))
  clear hks h1 h2 hPw h0 ka aa hM hcb
  refine callsIn_of_wp Tryd.func42 rfl trivial ?_ rfl
  simp only [Tryd.ntmps42, List.size_toArray, List.length_cons, List.length_nil, Nat.reduceAdd, Nat.reduceSub, Array.replicate_succ, Array.replicate_zero, List.push_toArray, List.append_toArray, List.nil_append, List.cons_append]
  gi_wp2_with (first
    | (refine ⟨trivial, ?_⟩
       gi_at_call 44
       refine (callsIn_wide.2 hk).mono ?_
       rintro e w1 ⟨rfl, rfl⟩
       clear hk)
    | (refine ⟨trivial, ?_⟩
       gi_at_call 43
       refine (callsIn_wide.2 hs).mono ?_
       rintro e w2 ⟨v, rfl, q1, q2, q3⟩
       obtain ⟨sa, cap, rfl, hcap⟩ := rows_val2 q1
       have N := Lib.hid (And.intro q1 (And.intro (H.out.2.2.2.2.trans q2 (fun _ q => q.elim)) (show ∀ b, (Value.slice sa ks.length cap).ownBlock = some b → W.heap.size ≤ b from fun b q => Nat.le_trans H.out.2.2.2.2.size (q3 b q))))
       clear hs q1 q2 q3))
  obtain ⟨m, hm⟩ : ∃ m, m = ks.length := ⟨_, rfl⟩
  rw [← hm] at N hkl hcap ⊢
  have HM := Lib.hid hm
  clear hm
  gi_loopg [13] m (fun g s13 wr => ∃ k : Nat, s13 = .int .i64 k ∧ k + g = m ∧ J (dirKeys d (ks.take k)) wr ∧ Keep w2 wr (fun b => T b ∨ (b + 1 = W.heap.size ∧ B0 ≤ b)) ∧ (dirKeys d (ks.take k)).length ≤ k)
  case atStart => exact ⟨0, rfl, by omega, hJ.aside H.out.2.2.2.1 N.out.2.1, Keep.refl _ _, by simp [dirKeys]⟩
  case round =>
    obtain ⟨k, rfl, hk, hj, hkeep, hlen⟩ := hrel
    have hno : ∀ b, (Value.slice sa m cap).ownBlock = some b → ¬ (T b ∨ (b + 1 = W.heap.size ∧ B0 ≤ b)) := fun b q z => by
      have := N.out.2.2 b q
      rcases z with z | z
      · have := hT b z; omega
      · omega
    have hkw : Keep W wr (fun b => T b ∨ (b + 1 = W.heap.size ∧ B0 ≤ b)) := (N.out.2.1.mono (fun _ q => q.elim)).trans hkeep (fun b q => .inl q)
    have g1 := hkw.get H.out.1 (fun q => by rcases q with q | q; exact hb1.1 q; have := hb1.2; omega)
    have g2 := hkw.get H.out.2.1 (fun q => by rcases q with q | q; exact hb2.1 q; have := hb2.2; omega)
    have e2 := cell_blk g2 0
    simp only [List.getElem?_toArray, List.getElem?_cons_zero, List.getElem?_cons_succ] at e2
    have hpw := H.out.2.2.1 wr (hkw.mono (fun b q => q.imp id (fun z => z.2)))
    have D := Lib.hid (And.intro hj (And.intro hkeep (And.intro hlen hkw)))
    clear hj hkeep hlen hkw g1 g2
    by_cases hlt : k < m
    · have hlt' : (k : Int) < (m : Int) := by omega
      have hrow := rows_keep N.out.1 D.out.2.1 hno
      obtain ⟨x, hx⟩ : ∃ x, ks[k]? = some x := ⟨_, List.getElem?_eq_getElem (by rw [← HM.out]; exact hlt)⟩
      obtain ⟨gv, rfl, -, -, -⟩ := rows_some hrow (by omega)
      have cx := (rows_cell hrow (mapGet (f := Value.string) hx)).1
      have htk : ks.take (k + 1) = ks.take k ++ [x] := by rw [List.take_add_one, hx]; rfl
      have HTK := Lib.hid htk
      have hkey := key_c d ⟨#[]⟩ wr hpw hd.1 hd.2 (by decide)
      clear hrow hx htk hno
      obtain ⟨bo, hbo⟩ : ∃ bo, bo = ofDir d x := ⟨_, rfl⟩
      have hpre : ∀ U, Calls Tryd.prog 45 #[.string x, .string (keyB d ⟨#[]⟩)] U fun e w' => e = .returned (.bool bo) ∧ w' = U := fun U => by
        have h := Tryd.strings_HasPrefix x (keyB d ⟨#[]⟩) U
        rw [keyB_nil] at h
        rw [hbo]
        exact h
      have HB := Lib.hid hbo
      clear hbo
      cases bo with
      | true =>
        gi_wp2_with (first
          | (refine ⟨trivial, ?_⟩
             gi_at_call 23
             refine (callsIn_wide.2 hkey).mono ?_
             rintro e w3 ⟨rfl, k3⟩
             have hj3 := hJ.aside D.out.1 k3
             obtain ⟨fn, tmps, assign, body, hy, hR⟩ := hY _ x w3 hj3 (Nat.le_trans D.out.2.2.2.size k3.size) (by have := D.out.2.2.1; omega)
             have N3 := Lib.hid k3
             clear k3 hkey hj3)
          | (refine ⟨trivial, ?_⟩
             gi_at_call 45
             refine (callsIn_wide.2 (hpre _)).mono ?_
             rintro e w4 ⟨rfl, rfl⟩
             clear hpre))
        refine hR.mono ?_
        rintro e W3 (⟨rfl, hJ3, hk3, hz⟩ | ⟨rfl, hJx3, hk3⟩)
        · have M := Lib.hid (And.intro hJ3 hk3)
          clear hJ3 hk3
          gi_wp2
          gi_roundg (m - (k + 1))
          case measure => omega
          case rel =>
            refine ⟨k + 1, by go_num, by omega, ?_, (D.out.2.1.trans N3.out (fun _ q => q.elim)).trans M.out.2 (fun b q => .inl q), ?_⟩
            · rw [HTK.out, dirKeys_snoc, if_pos HB.out.symm]
              exact M.out.1
            · rw [HTK.out, dirKeys_snoc, if_pos HB.out.symm, List.length_append, List.length_singleton]
              have := D.out.2.2.1
              omega
        · gi_wp2
          refine bodyPost_ret (results_none rfl _ _ _) rfl ?_
          refine ⟨⟨_, rfl⟩, .inr ⟨_, ?_, hJx3⟩⟩
          have := dirKeys_take d ks (k + 1)
          rw [HTK.out, dirKeys_snoc, if_pos HB.out.symm] at this
          exact this
      | false =>
        gi_wp2_with (first
          | (refine ⟨trivial, ?_⟩
             gi_at_call 23
             refine (callsIn_wide.2 hkey).mono ?_
             rintro e w3 ⟨rfl, k3⟩
             have N3 := Lib.hid k3
             clear k3 hkey)
          | (refine ⟨trivial, ?_⟩
             gi_at_call 45
             refine (callsIn_wide.2 (hpre _)).mono ?_
             rintro e w4 ⟨rfl, rfl⟩
             clear hpre))
        refine ⟨fun _ h => (by cases h), ?_⟩
        gi_wp2
        gi_roundg (m - (k + 1))
        case measure => omega
        case rel =>
          have hn : ¬ ofDir d x = true := by rw [← HB.out]; simp
          refine ⟨k + 1, by go_num, by omega, ?_, D.out.2.1.trans N3.out (fun _ q => q.elim), ?_⟩
          · rw [HTK.out, dirKeys_snoc, if_neg hn, List.append_nil]
            exact hJ.aside D.out.1 N3.out
          · rw [HTK.out, dirKeys_snoc, if_neg hn, List.append_nil]
            have := D.out.2.2.1
            omega
    · have hlt' : ¬ (k : Int) < (m : Int) := by omega
      gi_wp2
      go_end0
      exact ⟨⟨_, rfl⟩, .inl (by have h := D.out.1; rw [List.take_of_length_le (by rw [← HM.out]; omega)] at h; exact h)⟩

end Go.Proofs.YtjicoebcmfnooaaDoor
