/-
  Parts of the walk's proof: MountCalls, MountBind, MountCov, SameN, MountKnown, MountNumbers, StructsF, MountLaw, RM0. (joined by pack.py)
-/
import Derived.Deep.LoopGhost
import Derived.StillTailTactics
import Derived.Outline
import Derived.Test.YtoanccechefclaaGreatDoorChecked
import Derived.WalkMore
import Derived.Deep.QuietTactic
import Derived.BigQuiet
import Derived.Below
import Derived.Deep.CutRange
import Derived.Deep.CutBlock
import Derived.Deep.DeepCutAuto
import Derived.Test.YtoanccechefclaaGreatDoorK04
import Derived.Test.YtoanccechefclaaGreatDoorK08
import Derived.Test.YtoanccechefclaaGreatDoorK17
import Derived.Test.YtoanccechefclaaGreatDoorK20
set_option linter.unusedSectionVars false
set_option linter.unusedSimpArgs false
set_option linter.unusedVariables false
namespace Go.Proofs.YtoanccechefclaaGreatDoor
open Go Go.RowKit Go.Shelf
set_option maxRecDepth 100000
attribute [local go_sem] Oper.semAt_some
theorem liveV_adel (L : List Mnt) (m : Int) : adel (liveV L) m = liveV (adel L m) := by
  unfold liveV
  induction L with
  | nil => rfl
  | cons y r ih =>
    obtain ⟨a, u⟩ := y
    simp only [List.map_cons, adel]
    split
    · rfl
    · simp only [List.map_cons, ih]
theorem laid_field (a b c : Int) (w : World) : (Instr.field 118 (.agg #[.int .i64 a, .int .i64 b, .int .i64 c]) 0).run Tryz.prog w = .ok (.int .i64 a) w := by kernel_rfl
theorem mdown_res {W : World} {b : Nat} {m n : Int} {T : Array Value} (z : W.heap[b]? = some (.cells #[.int .i64 m, .int .i64 n] 38 (0, 0))) (h4 : T.getD 4 undef = .pointer (some ⟨b, 0, none⟩)) :
    (results Tryz.f21 T).run Tryz.prog W = .ok (.agg #[.int .i64 m, .int .i64 n]) W := by
  have y0 : W.cell? ⟨b, 0, none⟩ = some (.int .i64 m) := by rw [cell_blk z]; rfl
  have y1 : W.cell? ⟨b, 1, none⟩ = some (.int .i64 n) := by rw [cell_blk z]; rfl
  have h4' : T[4]?.getD undef = .pointer (some ⟨b, 0, none⟩) := by simpa using h4
  simp [results, Tryz.results21, go_sem, h4', y0, y1]
set_option maxHeartbeats 2000000 in
theorem mdown_c {w : World} {tb : Nat} {S : Nat → Prop} {V : MountV} (h : TableAt w tb S V) (m n : Int) :
    Calls Tryz.prog 21 #[.pointer (some ⟨tb, 0, none⟩), .agg #[.int .i64 m, .int .i64 n]] w fun e w' => e = .returned (.agg #[.int .i64 (V.down m n).1, .int .i64 (V.down m n).2]) ∧ Keep w w' (fun _ => False) := by
  have H := Lib.hid h
  clear h
  go_enter Tryz.func21, Tryz.ntmps21
  go_wp2
  obtain ⟨wB, hwB⟩ : ∃ wB, wB = (w.alloc (.cells #[.int .i64 m, .int .i64 n] 38)).alloc (.cells #[.int .i64 0, .int .i64 0] 38) := ⟨_, rfl⟩
  have W0 := boxes2 w (.cells #[.int .i64 m, .int .i64 n] 38) (.cells #[.int .i64 0, .int .i64 0] 38)
  rw [← hwB] at W0
  rw [← hwB]
  have HB := Lib.hid W0
  clear hwB W0
  go_loopg [] (V.rank m) (fun g wr => ∃ m' n', V.down m' n' = V.down m n ∧ g = V.rank m' ∧ Keep w wr (fun _ => False) ∧ wr.heap[w.heap.size]? = some (.cells #[.int .i64 m', .int .i64 n'] 38 (0, 0)) ∧ wr.heap[w.heap.size + 1]? = some (.cells #[.int .i64 0, .int .i64 0] 38 (0, 0)))
  case atStart => exact ⟨m, n, rfl, rfl, HB.out.1, HB.out.2.1, HB.out.2.2.1⟩
  case round =>
    obtain ⟨m', n', hd, hg, kr, b1, b2⟩ := hrel
    have q0 := cell_blk b1 0
    have q1 := cell_blk b1 1
    have r0 := cell_blk b2 0
    have r1 := cell_blk b2 1
    simp only [List.getElem?_toArray, List.getElem?_cons_zero, List.getElem?_cons_succ] at q0 q1 r0 r1
    have hov := mover_c (H.out.aside kr) m' n'
    have D := Lib.hid (And.intro hd (And.intro hg (And.intro kr (And.intro b1 b2))))
    clear hd hg kr b1 b2
    obtain ⟨wo, rfl⟩ : ∃ wo : World, wo = wr := ⟨_, rfl⟩
    cases ho : V.over m' n' with
    | none =>
      have he : overA V m' n' = (0, false) := by unfold overA; rw [ho]
      rw [he] at hov
      have HO := Lib.hid ho
      clear ho he
      go_wp2_with (
        go_at_call 58
        refine hov.mono ?_
        rintro e w2 ⟨rfl, hk2⟩
        have b1 := hk2.get D.out.2.2.2.1 (fun q => q)
        have b2 := hk2.get D.out.2.2.2.2 (fun q => q)
        have q0' := cell_blk b1 0
        have q1' := cell_blk b1 1
        have r0' := cell_blk b2 0
        have r1' := cell_blk b2 1
        have f0 := free_blk b2 0
        have f1 := free_blk b2 1
        simp only [List.getElem?_toArray, List.getElem?_cons_zero, List.getElem?_cons_succ] at q0' q1' r0' r1'
        have N := Lib.hid (And.intro hk2 (And.intro b1 b2))
        clear hk2 b1 b2 hov)
      have s1 := heap_setCell_eq (off := 0) (Value.int .i64 m') N.out.2.2
      have s2 := heap_setCell_eq (off := 1) (Value.int .i64 n') s1
      have hdn := MountV.down_none HO.out
      have hd := D.out.1
      rw [hdn] at hd
      refine bodyPost_ret (mdown_res (by simpa using s2) rfl) rfl ⟨by rw [← hd], ?_⟩
      exact (((D.out.2.2.1.aside N.out.1).setNew _ _ (by simp)).setNew _ _ (by simp))
    | some x =>
      have he : overA V m' n' = (x.1, true) := by unfold overA; rw [ho]
      rw [he] at hov
      obtain ⟨mb, t1, t2, t3, t4, t5⟩ := H.out.ex
      have hx := MountV.over_mem ho
      have hgx : aget V.live x.1 = some x.2 := aget_of_memM H.out.ok.nodup hx.1
      have HO := Lib.hid (And.intro ho (And.intro t1 (And.intro t2 hgx)))
      clear ho he t1 t2 t3 t4 t5 hx hgx
      go_wp2_with (
        go_at_call 58
        refine hov.mono ?_
        rintro e w2 ⟨rfl, hk2⟩
        have b1 := hk2.get D.out.2.2.2.1 (fun q => q)
        have b2 := hk2.get D.out.2.2.2.2 (fun q => q)
        have q0' := cell_blk b1 0
        have q1' := cell_blk b1 1
        have f0 := free_blk b1 0
        have f1 := free_blk b1 1
        simp only [List.getElem?_toArray, List.getElem?_cons_zero, List.getElem?_cons_succ] at q0' q1'
        have c0 : w2.cell? ⟨tb, 0, none⟩ = some (.map (some mb)) := by rw [cell_blk (hk2.get (D.out.2.2.1.get HO.out.2.1 (fun q => q)) (fun q => q))]; rfl
        have l1 := mlook ((HO.out.2.2.1.keep D.out.2.2.1 (fun q => q)).keep hk2 (fun q => q)) x.1 false
        rw [HO.out.2.2.2] at l1
        simp only [Bool.false_eq_true, if_false, Option.getD_some, mntV] at l1
        have hfl := laid_field x.2.top x.2.am x.2.an
        have N := Lib.hid (And.intro hk2 (And.intro b1 b2))
        clear hk2 b1 b2 hov)
      have s1 := heap_setCell_eq (off := 0) (Value.int .i64 x.1) N.out.2.1
      have s2 := heap_setCell_eq (off := 1) (Value.int .i64 x.2.top) s1
      have kk : Keep w2 ((w2.setCell ⟨w.heap.size, 0, none⟩ (.int .i64 x.1)).setCell ⟨w.heap.size, 1, none⟩ (.int .i64 x.2.top)) (fun b => b = w.heap.size) := (Keep.setCell _ _ _).trans (Keep.setCell _ _ _) (fun b q => .inl q)
      go_roundg (V.rank x.1)
      case measure => have h1 := MountV.rank_lt H.out.ok HO.out.1; have h2 := D.out.2.1; omega
      case rel =>
        refine ⟨x.1, x.2.top, ?_, rfl, ((D.out.2.2.1.aside N.out.1).setNew _ _ (by simp)).setNew _ _ (by simp), by simpa using s2, kk.get N.out.2.2 (fun q => by have q' : w.heap.size + 1 = w.heap.size := q; omega)⟩
        rw [← MountV.down_some H.out.ok HO.out.1]
        exact D.out.1
set_option maxHeartbeats 2000000 in
theorem munbind_c {w : World} {tb : Nat} {S : Nat → Prop} {V : MountV} (h : TableAt w tb S V) (ht : 0 ≤ V.turns ∧ V.turns ≤ 1000000) (m : Int) :
    Calls Tryz.prog 49 #[.pointer (some ⟨tb, 0, none⟩), .int .i64 m] w fun e w' => e = .returned (.int .i64 (V.unbind m).2) ∧ ∃ S', TableAt w' tb S' (V.unbind m).1 ∧ TurnM w S w' S' := by
  have H := Lib.hid h
  have hub := h.ok.unbind m
  obtain ⟨mb, t1, t2, t3, t4, t5⟩ := h.ex
  have c0 : w.cell? ⟨tb, 0, none⟩ = some (.map (some mb)) := by rw [cell_blk t1]; rfl
  have same : ∀ w', Keep w w' (fun _ => False) → ∃ S', TableAt w' tb S' V ∧ TurnM w S w' S' := fun w' k => ⟨S, H.out.aside k, k.mono (fun _ q => q.elim), fun b q => .inl q⟩
  unfold MountV.unbind at hub ⊢
  have HT := Lib.hid (And.intro t1 (And.intro t2 (And.intro t3 (And.intro t4 t5))))
  have HS := Lib.hid same
  clear h t1 t2 t3 t4 t5 same
  obtain ⟨x, hx⟩ : ∃ x, (aget V.live m).getD ⟨0, 0, 0⟩ = x := ⟨_, rfl⟩
  cases hg : aget V.live m with
  | none =>
    have l := mlookA (ok := false) HT.out.2.1 hx (by simp [hg])
    clear hub hg hx
    simp only [true_or, if_true]
    go_enter Tryz.func49, Tryz.ntmps49
    go_wp2
    go_ret
    exact ⟨rfl, HS.out _ (Keep.alloc _ _ _)⟩
  | some y =>
    have l := mlookA (ok := true) HT.out.2.1 hx (by simp [hg])
    by_cases h0 : m = 0
    · rw [if_pos (.inr h0)]
      have g0 : (m == 0) = true := by simpa using h0
      clear hub hg hx h0
      go_enter Tryz.func49, Tryz.ntmps49
      go_wp2
      go_ret
      exact ⟨rfl, HS.out _ (Keep.alloc _ _ _)⟩
    · have g0 : (m == 0) = false := by simpa using h0
      rw [hg] at hub
      simp only [h0, or_false] at hub ⊢
      have e : ¬ (some y = none) := by simp
      rw [if_neg e] at hub ⊢
      have hab := mabv_c (H.out.aside (Keep.alloc w (.cells #[.int .i64 x.top, .int .i64 x.am, .int .i64 x.an] 118) _)) m
      by_cases h1 : V.above m = []
      · have h1' : ¬ (V.above m ≠ []) := fun q => q h1
        rw [if_neg h1'] at hub ⊢
        have HU := Lib.hid hub
        have hln : (V.above m).length = 0 := by rw [h1]; rfl
        rw [hln] at hab
        have c2 : w.cell? ⟨tb, 2, none⟩ = some (.int .i64 V.turns) := by rw [cell_blk HT.out.1]; rfl
        have htb := H.out.lt _ HT.out.2.2.1
        obtain ⟨ht0, ht1⟩ := ht
        clear hub hg hx h0 h1 h1' hln e
        go_enter Tryz.func49, Tryz.ntmps49
        go_wp2_with (first
          | (go_at_call 94
             refine hab.mono ?_
             rintro e w2 ⟨v, rfl, r1, r2, r3⟩
             obtain ⟨sa, cap, rfl, hcap⟩ := rows_val2 r1
             have k2 : Keep w w2 (fun _ => False) := (Keep.alloc w _ (fun _ => False)).aside r2
             have b1 := k2.get HT.out.1 (fun q => q)
             have d0 : w2.cell? ⟨tb, 0, none⟩ = some (.map (some mb)) := by rw [cell_blk b1]; rfl
             have d2 : w2.cell? ⟨tb, 2, none⟩ = some (.int .i64 V.turns) := by rw [cell_blk b1]; rfl
             have f2 := free_blk b1 2
             have N := Lib.hid (And.intro k2 b1)
             clear r1 r2 r3 k2 b1 hab)
          | (obtain ⟨B0, clk, hB0⟩ := (HT.out.2.1.keep N.out.1 (fun q => q)).keep (Keep.setCell w2 ⟨tb, 2, none⟩ (.int .i64 (V.turns + 1))) (fun q => HT.out.2.2.2.2 (show mb = tb from q).symm)
             refine law_delete rfl _ _ _ _ rfl kMnt tMnt rfl hB0 m rfl ?_
             intro w3 B1 q1 q2 q3
             have M3 := Lib.hid (And.intro (show MapAt w3 mb kInt _ from ⟨_, _, q1⟩) q3)
             clear q1 q2 q3 hB0))
        go_ret
        have s2 := heap_setCell_eq (off := 2) (Value.int .i64 (V.turns + 1)) N.out.2
        have s3 := M3.out.2.get s2 (fun q => HT.out.2.2.2.2 q)
        have kk : Keep w w3 (fun b => b = tb ∨ b = mb) := ((N.out.1.mono (fun _ q => q.elim)).trans (Keep.setCell w2 ⟨tb, 2, none⟩ (.int .i64 (V.turns + 1))) (fun b q => .inl (.inl q))).trans M3.out.2 (fun b q => .inl (.inr q))
        refine ⟨rfl, S, ⟨HU.out, ⟨mb, by simpa using s3, ?_, HT.out.2.2.1, HT.out.2.2.2.1, HT.out.2.2.2.2⟩, fun b q => Nat.lt_of_lt_of_le (H.out.lt b q) kk.size⟩, kk.mono (fun b q => ?_), fun b q => .inl q⟩
        · have h2 := M3.out.1
          have e2 := liveV_adel V.live m
          rw [e2] at h2
          exact h2
        · rcases q with q | q
          · rw [q]; exact HT.out.2.2.1
          · rw [q]; exact HT.out.2.2.2.1
      · rw [if_pos h1]
        have hln : 0 < (V.above m).length := List.length_pos_iff.2 h1
        have hln2 : (V.above m).length ≤ 8 := Nat.le_trans (abv_len m V.live) H.out.ok.most
        generalize hq : (V.above m).length = q at *
        have g3 : (0 : Int) < (q : Int) := by omega
        clear hub hg hx h0 h1 e hq
        go_enter Tryz.func49, Tryz.ntmps49
        go_wp2_with (
          go_at_call 94
          refine hab.mono ?_
          rintro e w2 ⟨v, rfl, r1, r2, r3⟩
          obtain ⟨sa, cap, rfl, hcap⟩ := rows_val2 r1
          have k2 : Keep w w2 (fun _ => False) := (Keep.alloc w _ (fun _ => False)).aside r2
          have N := Lib.hid k2
          clear r1 r2 r3 k2 hab)
        go_ret
        exact ⟨rfl, HS.out _ N.out⟩
end Go.Proofs.YtoanccechefclaaGreatDoor
namespace Go.Proofs.YtoanccechefclaaGreatDoor
open Go Go.RowKit Go.Shelf
set_option maxRecDepth 100000
attribute [local go_sem] Oper.semAt_some
theorem liveV_snoc (L : List Mnt) (k : Int) (x : MntV) (h : k ∉ L.map Prod.fst) : aset (liveV L) k (mntV x) = liveV (L ++ [(k, x)]) := by
  rw [aset_new _ _ _ (by unfold liveV; rw [List.map_map]; exact h)]
  simp [liveV]
set_option maxHeartbeats 4000000 in
theorem mbind_c {w : World} {tb : Nat} {S : Nat → Prop} {V : MountV} (h : TableAt w tb S V) (ht : 0 ≤ V.turns ∧ V.turns ≤ 1000000) (hm : V.made ≤ 1000000) (m n node : Int) :
    Calls Tryz.prog 90 #[.pointer (some ⟨tb, 0, none⟩), .agg #[.int .i64 m, .int .i64 n], .int .i64 node] w fun e w' => e = .returned (.tuple #[.int .i64 (V.bind m n node).2.1, .int .i64 (V.bind m n node).2.2]) ∧ ∃ S', TableAt w' tb S' (V.bind m n node).1 ∧ TurnM w S w' S' := by
  have H := Lib.hid h
  have hub := h.ok.bind m n node
  obtain ⟨mb, t1, t2, t3, t4, t5⟩ := h.ex
  have c0 : w.cell? ⟨tb, 0, none⟩ = some (.map (some mb)) := by rw [cell_blk t1]; rfl
  have same : ∀ w', Keep w w' (fun _ => False) → ∃ S', TableAt w' tb S' V ∧ TurnM w S w' S' := fun w' k => ⟨S, H.out.aside k, k.mono (fun _ q => q.elim), fun b q => .inl q⟩
  have HT := Lib.hid (And.intro t1 (And.intro t2 (And.intro t3 (And.intro t4 t5))))
  have HS := Lib.hid same
  have htb := h.lt _ t3
  have hm0 := h.ok.made0
  clear h t1 t2 t3 t4 t5 same
  obtain ⟨x, hx⟩ : ∃ x, (aget V.live m).getD ⟨0, 0, 0⟩ = x := ⟨_, rfl⟩
  obtain ⟨ok, hok⟩ : ∃ ok, (aget V.live m).isSome = ok := ⟨_, rfl⟩
  have HX := Lib.hid (And.intro hx hok)
  obtain ⟨U, rk, re, hU⟩ : ∃ U rk re, V.bind m n node = (U, rk, re) := ⟨_, _, _, rfl⟩
  rw [hU] at hub ⊢
  simp only at hub ⊢
  have HU := Lib.hid (And.intro hU hub)
  clear hx hok hub hU
  go_enter Tryz.func90, Tryz.ntmps90
  go_upto_region 1 with (fail)
  obtain ⟨wB, hwB⟩ : ∃ wB, wB = w.alloc (.cells #[.int .i64 m, .int .i64 n] 38) := ⟨_, rfl⟩
  have W0 := boxes1 w (.cells #[.int .i64 m, .int .i64 n] 38)
  rw [← hwB] at W0
  rw [← hwB]
  have zB := W0.2.2
  have HB := Lib.hid W0
  clear hwB W0
  replace c0 := HB.out.1.cell c0 (fun q => q)
  have d0 := cell_blk HB.out.2.1 0
  simp only [List.getElem?_toArray, List.getElem?_cons_zero, List.getElem?_cons_succ] at d0
  go_cut [9] (fun s9 wx => s9 = .bool ok ∧ Keep wB wx (fun _ => False))
  case first =>
    have hM := HT.out.2.1.keep HB.out.1 (fun q => q)
    have l := mlookA hM HX.out.1 HX.out.2
    have n1 := World.new_ne wB _ c0
    have n2 := World.new_ne wB _ d0
    go_region_held3 (fun w' => (w'.cell? ⟨tb, 0, none⟩ = some (.map (some mb)) ∧ w'.cell? ⟨w.heap.size, 0, none⟩ = some (.int .i64 m)) ∧ MapAt w' mb kInt (liveV V.live) ∧ (Instr.lookup 119 (.map (some mb)) (.int .i64 m) true).run Tryz.prog w' = .ok (.tuple #[.agg #[.int .i64 x.top, .int .i64 x.am, .int .i64 x.an], .bool ok]) w')
      ((go_split_ands; refine ⟨⟨?_, ?_⟩, ?_, ?_⟩ <;> first
         | (refine MapAt.keep hM (S := fun _ => False) ?_ (fun q => q); repeat (first | exact Keep.refl _ _ | refine Keep.drewNew ?_ | refine Keep.allocNew ?_ _))
         | (refine mlookA (MapAt.keep hM (S := fun _ => False) ?_ (fun q => q)) HX.out.1 HX.out.2; repeat (first | exact Keep.refl _ _ | refine Keep.drewNew ?_ | refine Keep.allocNew ?_ _))
         | go_keep)) (fail)
    all_goals go_wp2
    all_goals go_meet
    all_goals
      refine ⟨rfl, ?_⟩
      repeat (first | exact Keep.refl _ _ | refine Keep.drewNew ?_ | refine Keep.allocNew ?_ _)
  case rest =>
    obtain ⟨rfl, k1⟩ := hcut
    have kC := HB.out.1.aside k1
    have e1 := k1.get HB.out.2.1 (fun q => q)
    have q0 := cell_blk e1 0
    have q1 := cell_blk e1 1
    simp only [List.getElem?_toArray, List.getElem?_cons_zero, List.getElem?_cons_succ] at q0 q1
    have hov := mover_c (H.out.aside kC) m n
    have HC := Lib.hid (And.intro kC e1)
    clear k1 e1 kC c0 d0 zB
    have fin : ∀ (rk' re' : Int) w', Hid (V.bind m n node = (V, rk', re')) → Keep w w' (fun _ => False) → Ending.returned (.tuple #[.int .i64 rk', .int .i64 re']) = Ending.returned (.tuple #[.int .i64 rk, .int .i64 re]) ∧ ∃ S', TableAt w' tb S' U ∧ TurnM w S w' S' := fun rk' re' w' hbd k => by
      have e := HU.out.1.symm.trans hbd.out
      simp only [Prod.mk.injEq] at e
      obtain ⟨rfl, rfl, rfl⟩ := e
      exact ⟨rfl, HS.out w' k⟩
    have HF := Lib.hid fin
    clear fin
    cases ok with
    | false =>
      have HBD := Lib.hid (show V.bind m n node = (V, 0, 1) by
        unfold MountV.bind
        rw [if_pos (by have := HX.out.2; simpa using this)])
      clear hov
      go_wp2
      go_ret2
      exact HF.out 0 1 _ HBD HC.out.1
    | true =>
      have hg : ¬ aget V.live m = none := fun q => by have := HX.out.2; rw [q] at this; simp at this
      cases ho : V.over m n with
      | some y =>
        have HBD := Lib.hid (show V.bind m n node = (V, 0, 15) by
          unfold MountV.bind
          rw [if_neg hg, if_pos (by rw [ho]; rfl)])
        have he : overA V m n = (y.1, true) := by unfold overA; rw [ho]
        rw [he] at hov
        clear hg ho he
        go_wp2_with (
          go_at_call 58
          refine hov.mono ?_
          rintro e w2 ⟨rfl, hk2⟩
          have N := Lib.hid hk2
          clear hk2 hov)
        go_ret2
        exact HF.out 0 15 _ HBD (HC.out.1.aside N.out)
      | none =>
        have he : overA V m n = (0, false) := by unfold overA; rw [ho]
        rw [he] at hov
        have hll : (liveV V.live).length = V.live.length := by simp [liveV]
        have hl8 := H.out.ok.most
        by_cases h8 : 8 ≤ V.live.length
        · have HBD := Lib.hid (show V.bind m n node = (V, 0, 13) by
            unfold MountV.bind
            rw [if_neg hg, if_neg (by rw [ho]; simp), if_pos h8])
          have g8 : (8 : Int) ≤ ((liveV V.live).length : Int) := by rw [hll]; omega
          clear hg ho he hll hl8 h8
          go_wp2_with (first
            | (go_at_call 58
               refine hov.mono ?_
               rintro e w2 ⟨rfl, hk2⟩
               have k3 := HC.out.1.aside hk2
               have c2 : w2.cell? ⟨tb, 0, none⟩ = some (.map (some mb)) := by rw [cell_blk (k3.get HT.out.1 (fun q => q))]; rfl
               have N := Lib.hid k3
               clear hk2 hov k3)
            | (at_len; refine law_len rfl _ _ rfl tMnt rfl (HT.out.2.1.keep N.out (fun q => q)) ?_))
          go_ret2
          exact HF.out 0 13 _ HBD N.out
        · have HBD := Lib.hid (show V.bind m n node = (⟨V.made + 1, V.turns + 1, V.live ++ [(V.made + 1, ⟨node, m, n⟩)]⟩, V.made + 1, 0) by
            unfold MountV.bind
            rw [if_neg hg, if_neg (by rw [ho]; simp), if_neg h8])
          have g8 : ¬ (8 : Int) ≤ ((liveV V.live).length : Int) := by rw [hll]; omega
          obtain ⟨ht0, ht1⟩ := ht
          have hnew : V.made + 1 ∉ V.live.map Prod.fst := fun q => by
            obtain ⟨z, hz, e⟩ := List.mem_map.1 q
            have := (H.out.ok.range z hz).2
            omega
          have HN := Lib.hid hnew
          clear hg ho he hll hl8 h8 hnew
          have g5 : IntKind.i64.wrap (V.made + 1) = V.made + 1 := IntWalk.i64_in _ (by omega)
          go_upto_region 11 with (first
            | (go_at_call 58
               refine hov.mono ?_
               rintro e w2 ⟨rfl, hk2⟩
               have k3 := HC.out.1.aside hk2
               have b3 := k3.get HT.out.1 (fun q => q)
               have c2 : w2.cell? ⟨tb, 0, none⟩ = some (.map (some mb)) := by rw [cell_blk b3]; rfl
               have c3 : w2.cell? ⟨tb, 1, none⟩ = some (.int .i64 V.made) := by rw [cell_blk b3]; rfl
               have c4 : w2.cell? ⟨tb, 2, none⟩ = some (.int .i64 V.turns) := by rw [cell_blk b3]; rfl
               have f3 := free_blk b3 1
               have f4 := free_blk b3 2
               have N := Lib.hid (And.intro k3 (And.intro b3 (hk2.get HC.out.2 (fun q => q))))
               clear hk2 hov k3 b3)
            | (at_len; refine law_len rfl _ _ rfl tMnt rfl (HT.out.2.1.keep N.out.1 (fun q => q)) ?_))
          have s1 := heap_setCell_eq (off := 1) (Value.int .i64 (V.made + 1)) N.out.2.1
          have s2 := heap_setCell_eq (off := 2) (Value.int .i64 (V.turns + 1)) s1
          have kN : Keep w2 ((w2.setCell ⟨tb, 1, none⟩ (.int .i64 (V.made + 1))).setCell ⟨tb, 2, none⟩ (.int .i64 (V.turns + 1))) (fun b => b = tb) := (Keep.setCell _ _ _).trans (Keep.setCell _ _ _) (fun b q => .inl q)
          generalize (w2.setCell ⟨tb, 1, none⟩ (.int .i64 (V.made + 1))).setCell ⟨tb, 2, none⟩ (.int .i64 (V.turns + 1)) = wN at *
          simp only [List.setIfInBounds_toArray, List.set_cons_succ, List.set_cons_zero] at s2
          have hpl : w.heap.size ≠ tb := by omega
          have bp := kN.get N.out.2.2 hpl
          have d0 := cell_blk s2 0
          have d1 := cell_blk s2 1
          have p0 := cell_blk bp 0
          have p1 := cell_blk bp 1
          simp only [List.getElem?_toArray, List.getElem?_cons_zero, List.getElem?_cons_succ] at d0 d1 p0 p1
          have NN := Lib.hid (And.intro s2 (And.intro kN ((HT.out.2.1.keep N.out.1 (fun q => q)).keep kN (fun q => HT.out.2.2.2.2 q.symm))))
          clear s1 s2 kN bp c2 c3 c4 f3 f4 q0 q1
          go_still_tail 11, (by kernel_rfl)
          change wpList _ _ _ _ _ wN.drew
          have MQ := Lib.hid (NN.out.2.2.keep (Keep.drew wN (fun _ => False)) (fun q => q))
          refine law_update rfl _ _ _ _ rfl kMnt tMnt rfl MQ.out (V.made + 1) rfl ?_
          intro w3 hM3 hk3
          simp only [go_sem] at hM3
          have e3 := liveV_snoc V.live (V.made + 1) ⟨node, m, n⟩ HN.out
          have k4 : Keep wN w3 (fun b => b = mb) := (Keep.drew wN (fun _ => False)).mono (fun _ q => q.elim) |>.trans hk3 (fun b q => .inl q)
          have b3 := k4.get NN.out.1 (fun q => HT.out.2.2.2.2 q)
          have c5 : w3.cell? ⟨tb, 1, none⟩ = some (.int .i64 (V.made + 1)) := by rw [cell_blk b3]; rfl
          have N3 := Lib.hid (And.intro hM3 (And.intro k4 (And.intro b3 e3)))
          clear hM3 hk3 k4 b3 e3 d0 d1 p0 p1
          go_wp2
          go_ret2
          have e := HU.out.1.symm.trans HBD.out
          simp only [Prod.mk.injEq] at e
          obtain ⟨rfl, rfl, rfl⟩ := e
          have kk : Keep w w3 (fun b => b = tb ∨ b = mb) := ((N.out.1.mono (fun _ q => q.elim)).trans NN.out.2.1 (fun b q => .inl (.inl q))).trans N3.out.2.1 (fun b q => .inl (.inr q))
          refine ⟨rfl, S, ⟨HU.out.2, ⟨mb, N3.out.2.2.1, ?_, HT.out.2.2.1, HT.out.2.2.2.1, HT.out.2.2.2.2⟩, fun b q => Nat.lt_of_lt_of_le (H.out.lt b q) kk.size⟩, kk.mono (fun b q => ?_), fun b q => .inl q⟩
          · rw [← N3.out.2.2.2]
            exact N3.out.1
          · rcases q with q | q
            · rw [q]; exact HT.out.2.2.1
            · rw [q]; exact HT.out.2.2.2.1
end Go.Proofs.YtoanccechefclaaGreatDoor
namespace Go.Proofs.YtoanccechefclaaGreatDoor
open Go Go.RowKit Go.Shelf
set_option maxRecDepth 100000
attribute [local go_sem] Oper.semAt_some
def covAt (n : Int) (x : Mnt) : Bool := decide (0 < x.1) && decide (x.2.an = n)
structure CvI (w : World) (n : Int) (pre : List Mnt) (U : World) : Prop where
  keep : Keep w U (fun _ => False)
  box : U.heap[w.heap.size]? = some (.cells #[.int .i64 n] 3 (0, 0))
  r4 : U.heap[w.heap.size + 1]? = some (.cells #[.bool false] 4 (0, 0))
  none : ∀ y ∈ pre, covAt n y = false
structure CvX (w : World) (n : Int) (c : Code) (pre : List Mnt) (U : World) : Prop where
  ret : c = .ret
  keep : Keep w U (fun _ => False)
  ex : ∃ qs y, pre = qs ++ [y] ∧ covAt n y = true ∧ U.heap[w.heap.size + 1]? = some (.cells #[.bool true] 4 (0, 0))
end Go.Proofs.YtoanccechefclaaGreatDoor
namespace Go.Proofs.YtoanccechefclaaGreatDoor
open Go Go.RowKit
end Go.Proofs.YtoanccechefclaaGreatDoor
namespace Go.Proofs.YtoanccechefclaaGreatDoor
open Go Go.RowKit Go.Shelf
set_option maxRecDepth 100000
structure MCur (W w : World) (tb : Nat) (S : Nat → Prop) (V : MountV) : Prop where
  tab : TableAt w tb S V
  keep : Keep W w (fun _ => False)
  new : ∀ b, S b → W.heap.size ≤ b
section
variable {W w w' : World} {tb : Nat} {S S' : Nat → Prop} {V V' : MountV}
theorem MCur.made (hk : Keep W w (fun _ => False)) (hp : TableAt w' tb S V) (ht : TurnM w (fun _ => False) w' S) : MCur W w' tb S V :=
  ⟨hp, hk.aside ht.keep, fun b q => (ht.new b q).elim (fun z => z.elim) (fun z => by have := hk.size; omega)⟩
theorem MCur.turn (c : MCur W w tb S V) (hp : TableAt w' tb S' V') (ht : TurnM w S w' S') : MCur W w' tb S' V' :=
  ⟨hp, c.keep.trans ht.keep (fun b q => .inr (c.new b q)), fun b q => (ht.new b q).elim (c.new b) (fun z => by have := c.keep.size; omega)⟩
theorem MCur.step (c : MCur W w tb S V) (hk : Keep w w' (fun _ => False)) : MCur W w' tb S V := ⟨c.tab.aside hk, c.keep.aside hk, c.new⟩
theorem MCur.below (c : MCur W w tb S V) : Below W.heap.size W w := c.keep.below (Nat.le_refl _) (fun b q => q.elim)
end
def K0 : MountV := MountV.new 1
def K1 : MountV := ⟨1, 1, [(0, ⟨1, 0, 0⟩), (1, ⟨5, 0, 2⟩)]⟩
end Go.Proofs.YtoanccechefclaaGreatDoor
namespace Go.Proofs.YtoanccechefclaaGreatDoor
open Go Go.RowKit Go.Shelf
set_option maxRecDepth 100000
def K2 : MountV := ⟨2, 2, [(0, ⟨1, 0, 0⟩), (1, ⟨5, 0, 2⟩), (2, ⟨6, 1, 5⟩)]⟩
def KJ (j : Nat) : MountV := ⟨2 + j, 2 + j, K2.live ++ (List.range j).map fun (i : Nat) => ((3 + i : Int), (⟨3, 0, 10 + i⟩ : MntV))⟩
def K8 : MountV := ⟨7, 8, [(0, ⟨1, 0, 0⟩), (1, ⟨5, 0, 2⟩), (3, ⟨3, 0, 10⟩), (4, ⟨3, 0, 11⟩), (5, ⟨3, 0, 12⟩), (6, ⟨3, 0, 13⟩), (7, ⟨3, 0, 14⟩)]⟩
def K9 : MountV := ⟨8, 9, [(0, ⟨1, 0, 0⟩), (1, ⟨5, 0, 2⟩), (3, ⟨3, 0, 10⟩), (4, ⟨3, 0, 11⟩), (5, ⟨3, 0, 12⟩), (6, ⟨3, 0, 13⟩), (7, ⟨3, 0, 14⟩), (8, ⟨3, 0, 30⟩)]⟩
structure MBox (W w : World) (tb : Nat) (S : Nat → Prop) (V : MountV) (xb : Nat) (o : Obj) : Prop where
  cur : MCur W w tb S V
  box : w.heap[xb]? = some o
  ns : ¬ S xb
section
variable {W w w' : World} {tb xb : Nat} {S S' : Nat → Prop} {V V' : MountV} {o : Obj}
theorem MBox.turn (c : MBox W w tb S V xb o) (hp : TableAt w' tb S' V') (ht : TurnM w S w' S') : MBox W w' tb S' V' xb o :=
  ⟨c.cur.turn hp ht, ht.keep.get c.box c.ns, fun q => (ht.new _ q).elim c.ns (fun z => by have := lt_of_blk c.box; omega)⟩
theorem MBox.step (c : MBox W w tb S V xb o) (hk : Keep w w' (fun _ => False)) : MBox W w' tb S V xb o := ⟨c.cur.step hk, hk.get c.box (fun q => q), c.ns⟩
theorem MBox.alloc (c : MCur W w tb S V) : MBox W (w.alloc o) tb S V w.heap.size o :=
  ⟨c.step (Keep.alloc _ _ _), heap_alloc_eq w o, fun q => Nat.lt_irrefl _ (c.tab.lt _ q)⟩
theorem MBox.beside {U : Nat → Prop} (c : MBox W w tb S V xb o) (k : Keep w w' U) (hU : ∀ b, U b → W.heap.size ≤ b ∧ ¬ S b ∧ b ≠ xb) : MBox W w' tb S V xb o :=
  ⟨⟨c.cur.tab.keep k (fun b q z => (hU b z).2.1 q), c.cur.keep.trans k (fun b q => .inr (hU b q).1), c.cur.new⟩, k.get c.box (fun q => (hU _ q).2.2 rfl), c.ns⟩
end
end Go.Proofs.YtoanccechefclaaGreatDoor
namespace Go.Proofs.YtoanccechefclaaGreatDoor
open Go Go.RowKit Go.ChangeShapes Go.WideShapes Go.Deep
def SegOf (P : Program) (ks : List FieldKind) (t : TypeId) : Prop :=
  (∃ k, ks = [k] ∧ FieldOf P k t) ∨
  ∃ fs, P.underlying t = some (.struct fs) ∧ oneCellFields P fs = true ∧ ks.length = fs.size ∧ ∀ (j : Nat) f, ks[j]? = some f → ∃ g, fs[j]? = some g ∧ FieldOf P f g.type
section
variable {H : Type} {enc : TypeId × Value → H} {P : Program} {w : World} {base : Nat} {held : Bool}
theorem seg_is {ks : List FieldKind} {t : TypeId} {n : Nat} {cs : List Value} {y : DataW H × List MemPlace} (hs : SegOf P ks t) (hl : cs.length = ks.length) (h : DataW.trod enc P w base (fun _ => true) held n t cs = some y) :
    ∀ (j : Nat) f, ks[j]? = some f → ∃ v, cs[j]? = some v ∧ FieldIs w f v := by
  rcases hs with ⟨k, rfl, hk⟩ | ⟨fs, hu, hone, hlen, hks⟩
  · intro j f hj
    match cs, hl with
    | [c], _ =>
      match j, hj with
      | 0, hj =>
        simp at hj
        subst hj
        exact ⟨c, rfl, field_is hk h⟩
      | j + 1, hj => simp at hj
  · obtain ⟨ys, n', hn', hy, hlen', hyl, hf⟩ := DataW.trod_struct hu h
    intro j f hj
    obtain ⟨g, hg, hgk⟩ := hks j f hj
    obtain ⟨ho, hk⟩ := hone_of hone j g hg
    have hjl : j < fs.size := (Array.getElem?_eq_some_iff.1 hg).1
    have hv : cs[j]? = some (cs[j]'(by omega)) := List.getElem?_eq_getElem (by omega)
    have h1 := hf j g hg
    rw [ho, hk] at h1
    have hone' : (cs.drop j).take 1 = [cs[j]'(by omega)] := by
      rw [List.drop_eq_getElem_cons (by omega)]
      rfl
    rw [hone'] at h1
    have hys : ys[j]? = some (ys[j]'(by omega)) := List.getElem?_eq_getElem (by omega)
    exact ⟨_, hv, field_is hgk (h1.trans hys)⟩
theorem flatten_get {α : Type} : ∀ (L : List (List α)) (q : Nat) (x : α), L.flatten[q]? = some x → ∃ i seg r, L[i]? = some seg ∧ seg[r]? = some x ∧ q = (L.take i).flatten.length + r
  | [], q, x, h => by simp at h
  | s :: L, q, x, h => by
    rw [List.flatten_cons] at h
    by_cases hq : q < s.length
    · rw [List.getElem?_append_left hq] at h
      exact ⟨0, s, q, rfl, h, by simp⟩
    · rw [List.getElem?_append_right (by omega)] at h
      obtain ⟨i, seg, r, h1, h2, h3⟩ := flatten_get L _ x h
      refine ⟨i + 1, seg, r, by simpa using h1, h2, ?_⟩
      rw [List.take_succ_cons, List.flatten_cons, List.length_append]
      omega
theorem structs_openF {t e : TypeId} {fs : Array Field} {fuel : Nat} {a : Option Addr} {len cap : Nat} {x : DataW H × List MemPlace} (segs : List (List FieldKind)) (ht : P.underlying t = some (.slice e)) (he : P.underlying e = some (.struct fs))
    (hC : P.cellsOf e = segs.flatten.length) (hks : ∀ (j : Nat) seg, segs[j]? = some seg → ∃ g, fs[j]? = some g ∧ SegOf P seg g.type ∧ g.offset = (segs.take j).flatten.length ∧ P.cellsOf g.type = seg.length)
    (h : DataW.trod enc P w base (fun _ => true) held fuel t [.slice a len cap] = some x) : StructsIs segs.flatten w a len cap := by
  rcases open_slice ht h with ⟨hcs, _⟩ | ⟨ad, l, c, m, n, D, Pl, hcs, hb, hl, hm, hmm, hx, hi⟩
  · simp at hcs
    obtain ⟨rfl, rfl, rfl⟩ := hcs
    exact .inl ⟨rfl, rfl, rfl⟩
  · simp at hcs
    obtain ⟨rfl, rfl, rfl⟩ := hcs
    refine .inr ⟨_, rfl, hl, hm, fun i hil q f hq => ?_⟩
    obtain ⟨cs', hc, ht'⟩ := hi i (by rw [hmm]; simp; omega)
    rw [hC] at hc
    obtain ⟨_, hcl, hat⟩ := World.cells?_some hc
    obtain ⟨ys, n', hn', hy, hlen', hyl, hf⟩ := DataW.trod_struct he ht'
    obtain ⟨j, seg, r, hj, hr, hqe⟩ := flatten_get segs q f hq
    obtain ⟨g, hg, hsg, hgo, hgc⟩ := hks j seg hj
    have h1 := hf j g hg
    rw [hgo, hgc] at h1
    have hql : q < segs.flatten.length := (List.getElem?_eq_some_iff.1 hq).1
    have hrl : r < seg.length := (List.getElem?_eq_some_iff.1 hr).1
    have hjl : j < fs.size := (Array.getElem?_eq_some_iff.1 hg).1
    have hys : ys[j]? = some (ys[j]'(by omega)) := List.getElem?_eq_getElem (by omega)
    have htot : (segs.take j).flatten.length + seg.length ≤ segs.flatten.length := by
      obtain ⟨hj1, hj2⟩ := List.getElem?_eq_some_iff.1 hj
      have e : segs = segs.take j ++ seg :: segs.drop (j + 1) := by
        rw [← hj2, List.getElem_cons_drop, List.take_append_drop]
      have e2 := congrArg (fun L => (List.flatten L).length) e
      simp only [List.flatten_append, List.flatten_cons, List.length_append] at e2
      omega
    have hdl : ((cs'.drop (segs.take j).flatten.length).take seg.length).length = seg.length := by
      rw [List.length_take, List.length_drop]; omega
    obtain ⟨v, hv, hfi⟩ := seg_is hsg hdl (h1.trans hys) r f hr
    refine ⟨v, ?_, hfi⟩
    rw [← Go.Deep.add_add, hat q hql, hqe]
    rw [List.getElem?_take_of_lt hrl, List.getElem?_drop] at hv
    exact hv
theorem istruct_open {t : TypeId} {fs : Array Field} {n : Nat} {cs : List Value} {x : DataW H × List MemPlace} (he : P.underlying t = some (.struct fs)) (hone : oneCellFields P fs = true) (hC : P.cellsOf t = fs.size)
    (hks : ∀ (j : Nat) g, fs[j]? = some g → P.underlying g.type = some (.int .i64)) (hl : cs.length = P.cellsOf t) (h : DataW.trod enc P w base (fun _ => true) held n t cs = some x) :
    ∃ zs : List Int, zs.length = fs.size ∧ cs = zs.map (Value.int .i64) ∧ ∀ z ∈ zs, (Lit.int .i64 z).wf = true := by
  have hs : SegOf P (List.replicate fs.size (.int .i64)) t := .inr ⟨fs, he, hone, by simp, fun j f hj => by
    have hj1 : j < fs.size := by
      have := (List.getElem?_eq_some_iff.1 hj).1
      simpa using this
    rw [List.getElem?_replicate_of_lt hj1] at hj
    cases hj
    exact ⟨fs[j], Array.getElem?_eq_getElem hj1, hks j _ (Array.getElem?_eq_getElem hj1)⟩⟩
  have hf := seg_is hs (by simp; omega) h
  have key : ∀ m, m ≤ fs.size → ∃ zs : List Int, zs.length = m ∧ cs.take m = zs.map (Value.int .i64) ∧ ∀ z ∈ zs, (Lit.int .i64 z).wf = true := by
    intro m
    induction m with
    | zero => exact fun _ => ⟨[], rfl, by simp, by simp⟩
    | succ m ih =>
      intro hm
      obtain ⟨zs, h1, h2, h3⟩ := ih (by omega)
      obtain ⟨v, hv, z, rfl, hz⟩ := hf m (.int .i64) (by rw [List.getElem?_replicate_of_lt (by omega)])
      refine ⟨zs ++ [z], by simp [h1], by rw [List.take_add_one, h2, hv]; simp, fun y hy => ?_⟩
      rcases List.mem_append.1 hy with hy | hy
      · exact h3 y hy
      · rw [List.mem_singleton.1 hy]; exact hz
  obtain ⟨zs, h1, h2, h3⟩ := key fs.size (Nat.le_refl _)
  rw [List.take_of_length_le (by omega)] at h2
  exact ⟨zs, h1, h2, h3⟩
end
theorem list2 {α : Type} {l : List α} (h : l.length = 2) : ∃ a b, l = [a, b] := by
  match l, h with
  | [a, b], _ => exact ⟨a, b, rfl⟩
end Go.Proofs.YtoanccechefclaaGreatDoor
namespace Go.Proofs.YtoanccechefclaaGreatDoor
open Go Go.RowKit Go.Shelf
inductive MPath (V : MountV) (p : Int × Int) : Nat → Int × Int → Prop
  | zero : MPath V p 0 p
  | succ {k : Nat} {m n : Int} {x : Mnt} : MPath V p k (m, n) → V.over m n = some x → MPath V p (k + 1) (x.1, x.2.top)
abbrev asksM : List FieldKind := [.int .i64, .int .i64, .int .i64, .int .i64, .int .i64]
structure AskMAt (w : World) (b o : Nat) (k m nd am an : Int) : Prop where
  c0 : w.cell? ⟨b, o, none⟩ = some (.int .i64 k)
  c1 : w.cell? ⟨b, o + 1, none⟩ = some (.int .i64 m)
  c2 : w.cell? ⟨b, o + 2, none⟩ = some (.int .i64 nd)
  c3 : w.cell? ⟨b, o + 3, none⟩ = some (.int .i64 am)
  c4 : w.cell? ⟨b, o + 4, none⟩ = some (.int .i64 an)
theorem AskMAt.keep {w w' : World} {b o : Nat} {k m nd am an : Int} (h : AskMAt w b o k m nd am an) (K : Keep w w' (fun _ => False)) : AskMAt w' b o k m nd am an :=
  ⟨K.cell h.c0 (fun q => q), K.cell h.c1 (fun q => q), K.cell h.c2 (fun q => q), K.cell h.c3 (fun q => q), K.cell h.c4 (fun q => q)⟩
end Go.Proofs.YtoanccechefclaaGreatDoor
namespace Go.Proofs.YtoanccechefclaaGreatDoor
open Go Go.RowKit Go.Shelf
set_option maxRecDepth 100000
attribute [local go_sem] Oper.semAt_some
structure RowM where
  am : Int
  an : Int
  node : Int
  live : Bool
def RowM.val (r : RowM) : MntV := ⟨r.node, r.am, r.an⟩
def rowC (r : RowM) : List Value := [.int .i64 r.am, .int .i64 r.an, .int .i64 r.node, .bool r.live]
theorem rowC_len (r : RowM) : (rowC r).length = 4 := rfl
def liveF : Nat → List RowM → List Mnt
  | _, [] => []
  | i, r :: l => (if r.live then [((i : Int), r.val)] else []) ++ liveF (i + 1) l
theorem liveF_append : ∀ (a : List RowM) (i : Nat) (b : List RowM), liveF i (a ++ b) = liveF i a ++ liveF (i + a.length) b
  | [], i, b => by simp [liveF]
  | r :: a, i, b => by
    simp only [List.cons_append, liveF, liveF_append a (i + 1) b, List.append_assoc, List.length_cons]
    rw [show i + 1 + a.length = i + (a.length + 1) by omega]
theorem liveF_snoc (a : List RowM) (r : RowM) : liveF 0 (a ++ [r]) = liveF 0 a ++ if r.live then [((a.length : Int), r.val)] else [] := by
  rw [liveF_append]
  simp [liveF]
theorem mem_liveF : ∀ (l : List RowM) (i : Nat) (x : Mnt), x ∈ liveF i l ↔ ∃ (j : Nat) (r : RowM), l[j]? = some r ∧ r.live = true ∧ x = (((i + j : Nat) : Int), r.val)
  | [], i, x => by simp [liveF]
  | r :: l, i, x => by
    simp only [liveF, List.mem_append, mem_liveF l]
    constructor
    · rintro (h | ⟨j, r', h1, h2, h3⟩)
      · split at h
        · rename_i hl
          rw [List.mem_singleton.1 h]
          exact ⟨0, r, rfl, hl, rfl⟩
        · cases h
      · exact ⟨j + 1, r', by simpa using h1, h2, by rw [h3, show i + 1 + j = i + (j + 1) by omega]⟩
    · rintro ⟨j, r', h1, h2, h3⟩
      cases j with
      | zero =>
        simp at h1
        subst h1
        left
        rw [if_pos h2, h3]
        simp
      | succ j => exact .inr ⟨j, r', by simpa using h1, h2, by rw [h3, show i + 1 + j = i + (j + 1) by omega]⟩
theorem liveF_ge (l : List RowM) (i : Nat) (x : Mnt) (h : x ∈ liveF i l) : (i : Int) ≤ x.1 ∧ x.1 < (i + l.length : Nat) := by
  obtain ⟨j, r, h1, _, rfl⟩ := (mem_liveF l i x).1 h
  have := (List.getElem?_eq_some_iff.1 h1).1
  simp only
  omega
theorem liveF_adel : ∀ (l : List RowM) (i j : Nat) (r : RowM), l[j]? = some r → r.live = true → adel (liveF i l) ((i + j : Nat) : Int) = liveF i (l.set j { r with live := false })
  | [], i, j, r, h, _ => by simp at h
  | q :: l, i, 0, r, h, hr => by
    simp at h
    subst h
    simp only [liveF, hr, if_true, List.cons_append, List.nil_append, List.set_cons_zero, Bool.false_eq_true, if_false]
    simp [adel]
  | q :: l, i, j + 1, r, h, hr => by
    have ih := liveF_adel l (i + 1) j r (by simpa using h) hr
    rw [show i + 1 + j = i + (j + 1) by omega] at ih
    simp only [liveF, List.set_cons_succ]
    rw [← ih]
    by_cases hq : q.live = true
    · simp only [hq, if_true, List.cons_append, List.nil_append, adel]
      rw [if_neg (by omega)]
    · simp only [hq, if_false, List.nil_append]; rfl
structure RTableAt (w : World) (rb : Nat) (R : Nat → Prop) (V : MountV) : Prop where
  ok : V.ok
  ex : ∃ (v : Value) (rows : List RowM), w.heap[rb]? = some (.cells #[v] 153 (0, 0)) ∧ w.ownsRow 0 150 4 v rows.length (flat rowC rows) ∧ (∀ b, v.ownBlock = some b → R b ∧ b ≠ rb) ∧ R rb ∧ (rows.length : Int) = V.made + 1 ∧ V.live = liveF 0 rows
  lt : ∀ b, R b → b < w.heap.size
theorem RTableAt.keep {w w' : World} {rb : Nat} {R U : Nat → Prop} {V : MountV} (h : RTableAt w rb R V) (K : Keep w w' U) (hU : ∀ b, R b → ¬ U b) : RTableAt w' rb R V := by
  obtain ⟨v, rows, h1, h2, h3, h4, h5, h6⟩ := h.ex
  exact ⟨h.ok, ⟨v, rows, K.get h1 (hU _ h4), rows_keep h2 K (fun b q => hU b (h3 b q).1), h3, h4, h5, h6⟩, fun b q => Nat.lt_of_lt_of_le (h.lt b q) K.size⟩
theorem RTableAt.aside {w w' : World} {rb : Nat} {R : Nat → Prop} {V : MountV} (h : RTableAt w rb R V) (K : Keep w w' (fun _ => False)) : RTableAt w' rb R V := h.keep K (fun _ _ q => q)
theorem row_get {V : MountV} (h : V.ok) {rows : List RowM} (hl : V.live = liveF 0 rows) {j : Nat} {r : RowM} (hj : rows[j]? = some r) : aget V.live (j : Int) = if r.live then some r.val else none := by
  cases hr : r.live with
  | true =>
    simp only [if_true]
    refine aget_of_memM h.nodup ?_
    rw [hl, mem_liveF]
    exact ⟨j, r, hj, hr, by simp⟩
  | false =>
    simp only [Bool.false_eq_true, if_false]
    rw [aget_noneM]
    intro q
    obtain ⟨x, hx, e⟩ := List.mem_map.1 q
    rw [hl, mem_liveF] at hx
    obtain ⟨j', r', h1, h2, rfl⟩ := hx
    simp only at e
    have : j' = j := by omega
    subst this
    rw [hj] at h1
    cases h1
    rw [hr] at h2
    cases h2
theorem row_out {V : MountV} {rows : List RowM} (hl : V.live = liveF 0 rows) {m : Int} (hm : m < 0 ∨ (rows.length : Int) ≤ m) : aget V.live m = none := by
  rw [aget_noneM]
  intro q
  obtain ⟨x, hx, e⟩ := List.mem_map.1 q
  rw [hl] at hx
  have := liveF_ge _ _ _ hx
  omega
set_option maxHeartbeats 2000000 in
theorem ris_c {w : World} {rb : Nat} {R : Nat → Prop} {V : MountV} (h : RTableAt w rb R V) (hm : V.made ≤ 1000000) (m : Int) :
    Calls Tryz.prog 95 #[.pointer (some ⟨rb, 0, none⟩), .int .i64 m] w fun e w' => e = .returned (.bool (aget V.live m).isSome) ∧ w' = w := by
  obtain ⟨v, rows, h1, h2, h3, h4, h5, h6⟩ := h.ex
  obtain ⟨sa, cap, rfl, hc⟩ := rows_val2 h2
  have c0 : w.cell? ⟨rb, 0, none⟩ = some (.slice sa rows.length cap) := by rw [cell_blk h1]; rfl
  have hok := h.ok
  have H := Lib.hid (And.intro h2 (And.intro h6 hok))
  by_cases hin : 0 ≤ m ∧ m < (rows.length : Int)
  · obtain ⟨g1, g2⟩ := hin
    obtain ⟨r, hr⟩ : ∃ r, rows[m.toNat]? = some r := ⟨_, List.getElem?_eq_getElem (by omega)⟩
    obtain ⟨j, hj⟩ : ∃ j : Nat, m = j := ⟨m.toNat, by omega⟩
    subst hj
    simp only [Int.toNat_natCast] at hr
    have hg := row_get hok h6 hr
    obtain ⟨g, rfl, _, _, _⟩ := rows_some h2 (by omega)
    have c1 : w.cell? ⟨g, j * 4 + 3, none⟩ = some (.bool r.live) := (rows_cell h2 (by rw [flat_get rowC 4 rowC_len hr (by omega)]; rfl)).1
    have hs : (aget V.live (j : Int)).isSome = r.live := by rw [hg]; cases r.live <;> rfl
    rw [hs]
    generalize r.live = lv at *
    generalize hn : rows.length = n at *
    clear h h1 h2 h3 h4 h5 h6 hr hg hs hok hn H
    go_enter Tryz.func95, Tryz.ntmps95
    go_wp2
    go_ret
    exact ⟨rfl, rfl⟩
  · have hg := row_out h6 (m := m) (by omega)
    rw [hg]
    generalize hn : rows.length = n at *
    clear h h1 h2 h3 h4 h5 h6 hg hok hn H
    by_cases g1 : 0 ≤ m
    · have g2 : ¬ m < (n : Int) := fun q => hin ⟨g1, q⟩
      clear hin
      go_enter Tryz.func95, Tryz.ntmps95
      go_wp2
      go_ret
      exact ⟨rfl, rfl⟩
    · clear hin
      go_enter Tryz.func95, Tryz.ntmps95
      go_wp2
      go_ret
      exact ⟨rfl, rfl⟩
end Go.Proofs.YtoanccechefclaaGreatDoor
