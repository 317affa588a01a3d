/-
  The keys that are not pinned, handed on one by one.
-/
import Derived.Test.YtjicoebcmfnooaaDoorLru3
import Derived.Test.YtjicoebcmfnooaaDoorRanges
namespace Go.Proofs.YtjicoebcmfnooaaDoor
open Go Go.RowKit Go.Shelf
set_option linter.unusedSectionVars false
set_option linter.unusedSimpArgs false
set_option linter.unusedVariables false
attribute [local go_sem] Oper.semAt_some

def looseL (L : List Pair) : List ByteArray := (L.filter fun x => decide (x.2 = 0)).map Prod.fst

theorem looseL_len (L : List Pair) : (looseL L).length ≤ L.length := by
  unfold looseL
  rw [List.length_map]
  exact List.length_filter_le _ _

theorem looseL_snoc (L : List Pair) (x : Pair) : looseL (L ++ [x]) = looseL L ++ if x.2 = 0 then [x.1] else [] := by
  unfold looseL
  rw [List.filter_append, List.map_append]
  congr 1
  by_cases h : x.2 = 0 <;> simp [List.filter_cons, h]

theorem looseL_take (L : List Pair) (k : Nat) : looseL (L.take k) <+: looseL L := by
  unfold looseL
  exact (List.IsPrefix.filter _ (List.take_prefix k L)).map _

set_option maxRecDepth 100000 in
set_option maxHeartbeats 2000000 in
theorem loose1_in (n : Nat) (hn : 1 ≤ n) (l bl lb n0 : Nat) (S : Nat → Prop) (most : Int) (L : List Pair) (hl : L.length ≤ 1000000) (B : Nat) (J Jx : List ByteArray → World → Prop) (hJ : AbidesFrom B J)
    (hY : ∀ pre x W, J pre W → pre.length < L.length → YieldAt Fence.wide (n - 1) Tryd.prog l #[.string x] W fun e W' =>
      (e = .returned (.bool true) ∧ J (pre ++ [x]) W' ∧ Below n0 W W') ∨ (e = .returned (.bool false) ∧ Jx (pre ++ [x]) W'))
    (W : World) (hbl : W.cell? ⟨bl, 0, none⟩ = some (.pointer (some ⟨lb, 0, none⟩))) (hL : ListAt W lb S most L) (hS : ∀ b, S b → b < n0) (hn0 : n0 ≤ W.heap.size) (h0 : J [] W) :
    CallsIn Fence.wide n Tryd.prog 51 #[.func (.yield l) #[] #[], .pointer (some ⟨bl, 0, none⟩)] W fun e W' => (∃ v, e = .returned v) ∧
      ((∃ ys, ys = looseL L ∧ J ys W') ∨ (∃ pre, pre <+: looseL L ∧ Jx pre W')) := by
  obtain ⟨v, h1, h2, h3, h4⟩ := hL.ex
  obtain ⟨sa, cap, rfl, hc⟩ := rows_val2 h2
  have c0 : W.cell? ⟨lb, 1, none⟩ = some (.slice sa L.length cap) := by rw [cell_blk h1]; rfl
  have H := Lib.hid (And.intro h2 h3)
  generalize hln : L.length = ln at *
  have HN := Lib.hid hln
  clear h1 h2 h3 h4 hL hln
  refine callsIn_of_wp Tryd.func51 rfl trivial ?_ rfl
  simp only [Tryd.ntmps51, List.size_toArray, List.length_cons, List.length_nil, Nat.reduceAdd, Nat.reduceSub, Array.replicate_succ, Array.replicate_zero, List.push_toArray, List.append_toArray, List.nil_append, List.cons_append]
  gi_wp2
  gi_loopw [10] (fun i wr => ∃ k : Nat, k ≤ ln ∧ i = .int .i64 k ∧ J (looseL (L.take k)) wr ∧ Below n0 W wr) (fun i _ => ln - (intOf i).toNat)
  case atStart => exact ⟨0, Nat.zero_le _, rfl, by simpa [looseL] using h0, Below.refl _ _⟩
  case round =>
    obtain ⟨k, hk, rfl, hJs, hnx⟩ := hrel
    by_cases hlt : k < ln
    · have hlt' : (k : Int) < (ln : Int) := by omega
      obtain ⟨g, rfl, _, _, _⟩ := rows_some H.out.1 (by omega)
      have hgn : g < n0 := hS g (H.out.2 g rfl).1
      obtain ⟨x, hx⟩ : ∃ x, L[k]? = some x := ⟨_, List.getElem?_eq_getElem (by rw [HN.out]; exact hlt)⟩
      have c1 : wr.cell? ⟨g, k * 2, none⟩ = some (.string x.1) := (hnx.cell (p := ⟨g, k * 2, none⟩) hgn).trans (rows_cell H.out.1 (by rw [← Nat.add_zero (k * 2), flat_get entV 2 entV_len hx (by omega)]; rfl)).1
      have c2 : wr.cell? ⟨g, k * 2 + 1, none⟩ = some (.int .i64 x.2) := (hnx.cell (p := ⟨g, k * 2 + 1, none⟩) hgn).trans (rows_cell H.out.1 (by rw [flat_get entV 2 entV_len hx (by omega)]; rfl)).1
      have htk : L.take (k + 1) = L.take k ++ [x] := by rw [List.take_add_one, hx]; rfl
      have hsn := looseL_snoc (L.take k) x
      rw [← htk] at hsn
      have HSN := Lib.hid hsn
      have hll : (looseL (L.take k)).length < ln := by have := looseL_len (L.take k); rw [List.length_take] at this; omega
      obtain ⟨o, ho⟩ : ∃ o, o = Obj.cells #[.string x.1, .int .i64 x.2] 72 (0, 0) := ⟨_, rfl⟩
      have hJ1 : J (looseL (L.take k)) (wr.alloc o) := hJ _ _ _ none hJs (World.grownBy_alloc wr o none) (fun r e => by cases e)
      have hnx1 : Below n0 W (wr.alloc o) := hnx.trans ((Below.refl n0 wr).alloc (by have := hnx.size; omega) _)
      subst ho
      clear hsn htk hx
      by_cases hp : x.2 = 0
      · obtain ⟨fn, tmps, assign, body, hy, hR⟩ := hY _ x.1 _ hJ1 hll
        obtain ⟨xk, xp⟩ := x
        simp only at hp hy hR c1 c2 hJ1 hnx1 HSN
        subst hp
        gi_wp2
        refine hR.mono ?_
        rintro e W3 (⟨rfl, hJ3, hk3⟩ | ⟨rfl, hJx3⟩)
        · gi_wp2
          go_roundw
          case rel => exact ⟨k + 1, by omega, by go_num, by rw [HSN.out]; exact hJ3, hnx1.trans hk3⟩
          case measure => simp [intOf]; omega
        · gi_wp2
          refine bodyPost_ret (results_none rfl _ _ _) rfl ?_
          refine ⟨⟨_, rfl⟩, .inr ⟨_, ?_, hJx3⟩⟩
          have := looseL_take L (k + 1)
          rw [HSN.out] at this
          simpa using this
      · have hp2 : (x.2 == 0) = false := by simpa using hp
        have HP := Lib.hid hp
        clear hp
        gi_wp2
        refine ⟨fun _ h => (by cases h), ?_⟩
        gi_wp2
        go_roundw
        case rel => exact ⟨k + 1, by omega, by go_num, by rw [HSN.out, if_neg HP.out, List.append_nil]; exact hJ1, hnx1⟩
        case measure => simp [intOf]; omega
    · obtain rfl : k = ln := by omega
      gi_wp2
      go_end0
      exact ⟨⟨_, rfl⟩, .inl ⟨_, rfl, by rw [List.take_of_length_le (by rw [HN.out]; exact Nat.le_refl _)] at hJs; exact hJs⟩⟩

theorem loose_stops (n : Nat) (hn : 1 ≤ n) (bl lb n0 : Nat) (S : Nat → Prop) (most : Int) (L : List Pair) (hl : L.length ≤ 1000000) (w : World) (hbl : w.cell? ⟨bl, 0, none⟩ = some (.pointer (some ⟨lb, 0, none⟩))) (hb : bl < w.heap.size) (hL : ListAt w lb S most L) (hS : ∀ b, S b → b < n0) (hn0 : n0 ≤ w.heap.size) :
    SeqStopsK Fence.wide n Tryd.prog 51 #[.pointer (some ⟨bl, 0, none⟩)] (fun x : ByteArray => #[Value.string x]) (Below n0) (fun ys => ys = looseL L) (fun pre => pre <+: looseL L) L.length w := fun l J Jx W hW hJ _ hY h0 =>
  loose1_in n hn l bl lb n0 S most L hl _ J Jx hJ hY W ((hW.cell (p := ⟨bl, 0, none⟩) hb).trans hbl) (hL.keep (Keep.of_below hW) (fun b q z => by have := hL.lt b q; omega)) hS (Nat.le_trans hn0 hW.size) h0

theorem loose_c (w : World) (lb : Nat) :
    Calls Tryd.prog 40 #[.pointer (some ⟨lb, 0, none⟩)] w fun r w' => r = .returned (.func (.func 51) #[] #[.pointer (some ⟨w.heap.size, 0, none⟩)]) ∧ w' = w.alloc (.cells #[.pointer (some ⟨lb, 0, none⟩)] 40) := by
  go_enter Tryd.func40, Tryd.ntmps40
  go_wp2
  go_ret
  exact ⟨rfl, rfl⟩

end Go.Proofs.YtjicoebcmfnooaaDoor
