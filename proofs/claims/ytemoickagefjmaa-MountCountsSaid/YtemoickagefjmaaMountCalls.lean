/-
  The table's other calls: List, Down, Unbind, Bind.
-/
import Derived.Test.YtemoickagefjmaaMountAbv
import Derived.Deep.LoopGhost
import Derived.StillTailTactics
import Derived.Outline
namespace Go.Proofs.Ytemoickagefjmaa
open Go Go.RowKit Go.Shelf
set_option linter.unusedSectionVars false
set_option linter.unusedSimpArgs false
set_option linter.unusedVariables false
set_option maxRecDepth 100000
attribute [local go_sem] Oper.semAt_some

theorem mlist_c {w : World} {tb : Nat} {S : Nat → Prop} {V : MountV} (h : TableAt w tb S V) :
    Calls Try.prog 33 #[.pointer (some ⟨tb, 0, none⟩)] w fun e w' => ∃ v, e = .returned v ∧ w'.ownsRow 0 3 1 v V.list.length (V.list.map (Value.int .i64)) ∧ Keep w w' (fun _ => False) ∧ ∀ b, v.ownBlock = some b → w.heap.size ≤ b := by
  obtain ⟨mb, t1, t2, t3, t4, t5⟩ := h.ex
  have c0 := cell_blk t1 0
  simp only [List.getElem?_toArray, List.getElem?_cons_zero, List.getElem?_cons_succ] at c0
  have hk := m_keys_c w (some mb)
  have ka := Keep.alloc w (.cells #[.map (some mb)] 96) (fun _ => False)
  have aa := heap_alloc_eq w (.cells #[.map (some mb)] 96)
  have hs := m_sorted_c (w := w.alloc (.cells #[.map (some mb)] 96)) (bl := w.heap.size) (mb := mb) (by rw [cell_blk aa]; rfl) (t2.keep ka (fun q => q)) (by unfold liveV; rw [List.length_map]; have := h.ok.most; omega)
  rw [h.ok.sortKeys, List.length_map] at hs
  have H := Lib.hid ka
  clear ka aa t1 t2 t3 t4 t5 h
  go_enter Try.func33, Try.ntmps33
  go_wp2_with (first
    | (go_at_call 57
       refine hk.mono ?_
       rintro e w1 ⟨rfl, rfl⟩
       clear hk)
    | (go_at_call 56
       refine hs.mono ?_
       rintro e w2 ⟨v, rfl, q1, q2, q3⟩
       obtain ⟨sa, cap, rfl, hcap⟩ := rows_val2 q1
       have N := Lib.hid (And.intro q1 (And.intro (H.out.trans q2 (fun _ q => q.elim)) (show ∀ b, (Value.slice sa V.live.length cap).ownBlock = some b → w.heap.size ≤ b from fun b q => by have := q3 b q; simp at this; omega)))
       clear hs q1 q2 q3))
  go_ret
  refine ⟨_, rfl, ?_⟩
  unfold MountV.list
  rw [List.length_map]
  exact N.out

theorem liveV_adel (L : List Mnt) (m : Int) : adel (liveV L) m = liveV (adel L m) := by
  unfold liveV
  induction L with
  | nil => rfl
  | cons y r ih =>
    obtain ⟨a, u⟩ := y
    simp only [List.map_cons, adel]
    split
    · rfl
    · simp only [List.map_cons, ih]

theorem laid_field (a b c : Int) (w : World) : (Instr.field 95 (.agg #[.int .i64 a, .int .i64 b, .int .i64 c]) 0).run Try.prog w = .ok (.int .i64 a) w := by kernel_rfl

theorem mdown_res {W : World} {b : Nat} {m n : Int} {T : Array Value} (z : W.heap[b]? = some (.cells #[.int .i64 m, .int .i64 n] 49 (0, 0))) (h4 : T.getD 4 undef = .pointer (some ⟨b, 0, none⟩)) :
    (results Try.f37 T).run Try.prog W = .ok (.agg #[.int .i64 m, .int .i64 n]) W := by
  have y0 : W.cell? ⟨b, 0, none⟩ = some (.int .i64 m) := by rw [cell_blk z]; rfl
  have y1 : W.cell? ⟨b, 1, none⟩ = some (.int .i64 n) := by rw [cell_blk z]; rfl
  have h4' : T[4]?.getD undef = .pointer (some ⟨b, 0, none⟩) := by simpa using h4
  simp [results, Try.results37, go_sem, h4', y0, y1]

set_option maxHeartbeats 2000000 in
theorem mdown_c {w : World} {tb : Nat} {S : Nat → Prop} {V : MountV} (h : TableAt w tb S V) (m n : Int) :
    Calls Try.prog 37 #[.pointer (some ⟨tb, 0, none⟩), .agg #[.int .i64 m, .int .i64 n]] w fun e w' => e = .returned (.agg #[.int .i64 (V.down m n).1, .int .i64 (V.down m n).2]) ∧ Keep w w' (fun _ => False) := by
  have H := Lib.hid h
  clear h
  go_enter Try.func37, Try.ntmps37
  go_wp2
  obtain ⟨wB, hwB⟩ : ∃ wB, wB = (w.alloc (.cells #[.int .i64 m, .int .i64 n] 49)).alloc (.cells #[.int .i64 0, .int .i64 0] 49) := ⟨_, rfl⟩
  have W0 := boxes2 w (.cells #[.int .i64 m, .int .i64 n] 49) (.cells #[.int .i64 0, .int .i64 0] 49)
  rw [← hwB] at W0
  rw [← hwB]
  have HB := Lib.hid W0
  clear hwB W0
  go_loopg [] (V.rank m) (fun g wr => ∃ m' n', V.down m' n' = V.down m n ∧ g = V.rank m' ∧ Keep w wr (fun _ => False) ∧ wr.heap[w.heap.size]? = some (.cells #[.int .i64 m', .int .i64 n'] 49 (0, 0)) ∧ wr.heap[w.heap.size + 1]? = some (.cells #[.int .i64 0, .int .i64 0] 49 (0, 0)))
  case atStart => exact ⟨m, n, rfl, rfl, HB.out.1, HB.out.2.1, HB.out.2.2.1⟩
  case round =>
    obtain ⟨m', n', hd, hg, kr, b1, b2⟩ := hrel
    have q0 := cell_blk b1 0
    have q1 := cell_blk b1 1
    have r0 := cell_blk b2 0
    have r1 := cell_blk b2 1
    simp only [List.getElem?_toArray, List.getElem?_cons_zero, List.getElem?_cons_succ] at q0 q1 r0 r1
    have hov := mover_c (H.out.aside kr) m' n'
    have D := Lib.hid (And.intro hd (And.intro hg (And.intro kr (And.intro b1 b2))))
    clear hd hg kr b1 b2
    obtain ⟨wo, rfl⟩ : ∃ wo : World, wo = wr := ⟨_, rfl⟩
    cases ho : V.over m' n' with
    | none =>
      have he : overA V m' n' = (0, false) := by unfold overA; rw [ho]
      rw [he] at hov
      have HO := Lib.hid ho
      clear ho he
      go_wp2_with (
        go_at_call 55
        refine hov.mono ?_
        rintro e w2 ⟨rfl, hk2⟩
        have b1 := hk2.get D.out.2.2.2.1 (fun q => q)
        have b2 := hk2.get D.out.2.2.2.2 (fun q => q)
        have q0' := cell_blk b1 0
        have q1' := cell_blk b1 1
        have r0' := cell_blk b2 0
        have r1' := cell_blk b2 1
        have f0 := free_blk b2 0
        have f1 := free_blk b2 1
        simp only [List.getElem?_toArray, List.getElem?_cons_zero, List.getElem?_cons_succ] at q0' q1' r0' r1'
        have N := Lib.hid (And.intro hk2 (And.intro b1 b2))
        clear hk2 b1 b2 hov)
      have s1 := heap_setCell_eq (off := 0) (Value.int .i64 m') N.out.2.2
      have s2 := heap_setCell_eq (off := 1) (Value.int .i64 n') s1
      have hdn := MountV.down_none HO.out
      have hd := D.out.1
      rw [hdn] at hd
      refine bodyPost_ret (mdown_res (by simpa using s2) rfl) rfl ⟨by rw [← hd], ?_⟩
      exact (((D.out.2.2.1.aside N.out.1).setNew _ _ (by simp)).setNew _ _ (by simp))
    | some x =>
      have he : overA V m' n' = (x.1, true) := by unfold overA; rw [ho]
      rw [he] at hov
      obtain ⟨mb, t1, t2, t3, t4, t5⟩ := H.out.ex
      have hx := MountV.over_mem ho
      have hgx : aget V.live x.1 = some x.2 := aget_of_memM H.out.ok.nodup hx.1
      have HO := Lib.hid (And.intro ho (And.intro t1 (And.intro t2 hgx)))
      clear ho he t1 t2 t3 t4 t5 hx hgx
      go_wp2_with (
        go_at_call 55
        refine hov.mono ?_
        rintro e w2 ⟨rfl, hk2⟩
        have b1 := hk2.get D.out.2.2.2.1 (fun q => q)
        have b2 := hk2.get D.out.2.2.2.2 (fun q => q)
        have q0' := cell_blk b1 0
        have q1' := cell_blk b1 1
        have f0 := free_blk b1 0
        have f1 := free_blk b1 1
        simp only [List.getElem?_toArray, List.getElem?_cons_zero, List.getElem?_cons_succ] at q0' q1'
        have c0 : w2.cell? ⟨tb, 0, none⟩ = some (.map (some mb)) := by rw [cell_blk (hk2.get (D.out.2.2.1.get HO.out.2.1 (fun q => q)) (fun q => q))]; rfl
        have l1 := mlook ((HO.out.2.2.1.keep D.out.2.2.1 (fun q => q)).keep hk2 (fun q => q)) x.1 false
        rw [HO.out.2.2.2] at l1
        simp only [Bool.false_eq_true, if_false, Option.getD_some, mntV] at l1
        have hfl := laid_field x.2.top x.2.am x.2.an
        have N := Lib.hid (And.intro hk2 (And.intro b1 b2))
        clear hk2 b1 b2 hov)
      have s1 := heap_setCell_eq (off := 0) (Value.int .i64 x.1) N.out.2.1
      have s2 := heap_setCell_eq (off := 1) (Value.int .i64 x.2.top) s1
      have kk : Keep w2 ((w2.setCell ⟨w.heap.size, 0, none⟩ (.int .i64 x.1)).setCell ⟨w.heap.size, 1, none⟩ (.int .i64 x.2.top)) (fun b => b = w.heap.size) := (Keep.setCell _ _ _).trans (Keep.setCell _ _ _) (fun b q => .inl q)
      go_roundg (V.rank x.1)
      case measure => have h1 := MountV.rank_lt H.out.ok HO.out.1; have h2 := D.out.2.1; omega
      case rel =>
        refine ⟨x.1, x.2.top, ?_, rfl, ((D.out.2.2.1.aside N.out.1).setNew _ _ (by simp)).setNew _ _ (by simp), by simpa using s2, kk.get N.out.2.2 (fun q => by have q' : w.heap.size + 1 = w.heap.size := q; omega)⟩
        rw [← MountV.down_some H.out.ok HO.out.1]
        exact D.out.1

set_option maxHeartbeats 2000000 in
theorem munbind_c {w : World} {tb : Nat} {S : Nat → Prop} {V : MountV} (h : TableAt w tb S V) (ht : 0 ≤ V.turns ∧ V.turns ≤ 1000000) (m : Int) :
    Calls Try.prog 36 #[.pointer (some ⟨tb, 0, none⟩), .int .i64 m] w fun e w' => e = .returned (.int .i64 (V.unbind m).2) ∧ ∃ S', TableAt w' tb S' (V.unbind m).1 ∧ TurnM w S w' S' := by
  have H := Lib.hid h
  have hub := h.ok.unbind m
  obtain ⟨mb, t1, t2, t3, t4, t5⟩ := h.ex
  have c0 : w.cell? ⟨tb, 0, none⟩ = some (.map (some mb)) := by rw [cell_blk t1]; rfl
  have same : ∀ w', Keep w w' (fun _ => False) → ∃ S', TableAt w' tb S' V ∧ TurnM w S w' S' := fun w' k => ⟨S, H.out.aside k, k.mono (fun _ q => q.elim), fun b q => .inl q⟩
  unfold MountV.unbind at hub ⊢
  have HT := Lib.hid (And.intro t1 (And.intro t2 (And.intro t3 (And.intro t4 t5))))
  have HS := Lib.hid same
  clear h t1 t2 t3 t4 t5 same
  obtain ⟨x, hx⟩ : ∃ x, (aget V.live m).getD ⟨0, 0, 0⟩ = x := ⟨_, rfl⟩
  cases hg : aget V.live m with
  | none =>
    have l := mlookA (ok := false) HT.out.2.1 hx (by simp [hg])
    clear hub hg hx
    simp only [true_or, if_true]
    go_enter Try.func36, Try.ntmps36
    go_wp2
    go_ret
    exact ⟨rfl, HS.out _ (Keep.alloc _ _ _)⟩
  | some y =>
    have l := mlookA (ok := true) HT.out.2.1 hx (by simp [hg])
    by_cases h0 : m = 0
    · rw [if_pos (.inr h0)]
      have g0 : (m == 0) = true := by simpa using h0
      clear hub hg hx h0
      go_enter Try.func36, Try.ntmps36
      go_wp2
      go_ret
      exact ⟨rfl, HS.out _ (Keep.alloc _ _ _)⟩
    · have g0 : (m == 0) = false := by simpa using h0
      rw [hg] at hub
      simp only [h0, or_false] at hub ⊢
      have e : ¬ (some y = none) := by simp
      rw [if_neg e] at hub ⊢
      have hab := mabv_c (H.out.aside (Keep.alloc w (.cells #[.int .i64 x.top, .int .i64 x.am, .int .i64 x.an] 95) _)) m
      by_cases h1 : V.above m = []
      · have h1' : ¬ (V.above m ≠ []) := fun q => q h1
        rw [if_neg h1'] at hub ⊢
        have HU := Lib.hid hub
        have hln : (V.above m).length = 0 := by rw [h1]; rfl
        rw [hln] at hab
        have c2 : w.cell? ⟨tb, 2, none⟩ = some (.int .i64 V.turns) := by rw [cell_blk HT.out.1]; rfl
        have htb := H.out.lt _ HT.out.2.2.1
        obtain ⟨ht0, ht1⟩ := ht
        clear hub hg hx h0 h1 h1' hln e
        go_enter Try.func36, Try.ntmps36
        go_wp2_with (first
          | (go_at_call 39
             refine hab.mono ?_
             rintro e w2 ⟨v, rfl, r1, r2, r3⟩
             obtain ⟨sa, cap, rfl, hcap⟩ := rows_val2 r1
             have k2 : Keep w w2 (fun _ => False) := (Keep.alloc w _ (fun _ => False)).aside r2
             have b1 := k2.get HT.out.1 (fun q => q)
             have d0 : w2.cell? ⟨tb, 0, none⟩ = some (.map (some mb)) := by rw [cell_blk b1]; rfl
             have d2 : w2.cell? ⟨tb, 2, none⟩ = some (.int .i64 V.turns) := by rw [cell_blk b1]; rfl
             have f2 := free_blk b1 2
             have N := Lib.hid (And.intro k2 b1)
             clear r1 r2 r3 k2 b1 hab)
          | (obtain ⟨B0, clk, hB0⟩ := (HT.out.2.1.keep N.out.1 (fun q => q)).keep (Keep.setCell w2 ⟨tb, 2, none⟩ (.int .i64 (V.turns + 1))) (fun q => HT.out.2.2.2.2 (show mb = tb from q).symm)
             refine law_delete rfl _ _ _ _ rfl kMnt tMnt rfl hB0 m rfl ?_
             intro w3 B1 q1 q2 q3
             have M3 := Lib.hid (And.intro (show MapAt w3 mb kInt _ from ⟨_, _, q1⟩) q3)
             clear q1 q2 q3 hB0))
        go_ret
        have s2 := heap_setCell_eq (off := 2) (Value.int .i64 (V.turns + 1)) N.out.2
        have s3 := M3.out.2.get s2 (fun q => HT.out.2.2.2.2 q)
        have kk : Keep w w3 (fun b => b = tb ∨ b = mb) := ((N.out.1.mono (fun _ q => q.elim)).trans (Keep.setCell w2 ⟨tb, 2, none⟩ (.int .i64 (V.turns + 1))) (fun b q => .inl (.inl q))).trans M3.out.2 (fun b q => .inl (.inr q))
        refine ⟨rfl, S, ⟨HU.out, ⟨mb, by simpa using s3, ?_, HT.out.2.2.1, HT.out.2.2.2.1, HT.out.2.2.2.2⟩, fun b q => Nat.lt_of_lt_of_le (H.out.lt b q) kk.size⟩, kk.mono (fun b q => ?_), fun b q => .inl q⟩
        · have h2 := M3.out.1
          have e2 := liveV_adel V.live m
          rw [e2] at h2
          exact h2
        · rcases q with q | q
          · rw [q]; exact HT.out.2.2.1
          · rw [q]; exact HT.out.2.2.2.1
      · rw [if_pos h1]
        have hln : 0 < (V.above m).length := List.length_pos_iff.2 h1
        have hln2 : (V.above m).length ≤ 8 := Nat.le_trans (abv_len m V.live) H.out.ok.most
        generalize hq : (V.above m).length = q at *
        have g3 : (0 : Int) < (q : Int) := by omega
        clear hub hg hx h0 h1 e hq
        go_enter Try.func36, Try.ntmps36
        go_wp2_with (
          go_at_call 39
          refine hab.mono ?_
          rintro e w2 ⟨v, rfl, r1, r2, r3⟩
          obtain ⟨sa, cap, rfl, hcap⟩ := rows_val2 r1
          have k2 : Keep w w2 (fun _ => False) := (Keep.alloc w _ (fun _ => False)).aside r2
          have N := Lib.hid k2
          clear r1 r2 r3 k2 hab)
        go_ret
        exact ⟨rfl, HS.out _ N.out⟩

end Go.Proofs.Ytemoickagefjmaa
