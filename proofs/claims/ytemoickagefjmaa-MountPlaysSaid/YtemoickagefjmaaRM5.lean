/-
  The document's mounts: Bind.
-/
import Derived.Test.YtemoickagefjmaaRM4
namespace Go.Proofs.Ytemoickagefjmaa
open Go Go.RowKit Go.Shelf
set_option linter.unusedSectionVars false
set_option linter.unusedSimpArgs false
set_option linter.unusedVariables false
set_option maxRecDepth 100000
attribute [local go_sem] Oper.semAt_some

theorem rm_info : ∃ i, Try.prog.info? 109 = some i ∧ i.zero = some (.agg #[.int .i64 0, .int .i64 0, .int .i64 0, .bool false]) ∧ i.size = 4 ∧ i.bytes ≤ 64 := by
  have h : (Try.prog.info? 109).map (fun i => (i.zero, i.size, decide (i.bytes ≤ 64))) = some (some (.agg #[.int .i64 0, .int .i64 0, .int .i64 0, .bool false]), 4, true) := by kernel_rfl
  cases hh : Try.prog.info? 109 with
  | none => rw [hh] at h; simp at h
  | some i =>
    rw [hh] at h
    simp only [Option.map_some, Option.some.injEq, Prod.mk.injEq, decide_eq_true_eq] at h
    exact ⟨i, rfl, h.1, h.2.1, h.2.2⟩
theorem rm_cells : (Value.agg #[.int .i64 0, .int .i64 0, .int .i64 0, .bool false]).cells.size = 4 := rfl

set_option maxHeartbeats 4000000 in
theorem rmbind_c {w : World} {rb : Nat} {R : Nat → Prop} {V : MountV} (h : RTableAt w rb R V) (hm : V.made ≤ 100000) (m n node : Int) :
    Calls Try.prog 43 #[.pointer (some ⟨rb, 0, none⟩), .agg #[.int .i64 m, .int .i64 n], .int .i64 node] w fun e w' => e = .returned (.tuple #[.int .i64 (V.bind m n node).2.1, .int .i64 (V.bind m n node).2.2]) ∧ ∃ R', RTableAt w' rb R' (V.bind m n node).1 ∧ TurnM w R w' R' := by
  have hok := h.ok.bind m n node
  have same : ∀ w', Keep w w' (fun _ => False) → ∃ R', RTableAt w' rb R' V ∧ TurnM w R w' R' := fun w' k => ⟨R, h.aside k, k.mono (fun _ q => q.elim), fun b q => .inl q⟩
  have HS := Lib.hid same
  have H := Lib.hid h
  obtain ⟨U, rk, re, hU⟩ : ∃ U rk re, V.bind m n node = (U, rk, re) := ⟨_, _, _, rfl⟩
  rw [hU] at hok ⊢
  simp only at hok ⊢
  have HU := Lib.hid (And.intro hU hok)
  have fin : ∀ (rk' re' : Int) w', Hid (V.bind m n node = (V, rk', re')) → Keep w w' (fun _ => False) → Ending.returned (.tuple #[.int .i64 rk', .int .i64 re']) = Ending.returned (.tuple #[.int .i64 rk, .int .i64 re]) ∧ ∃ R', RTableAt w' rb R' U ∧ TurnM w R w' R' := fun rk' re' w' hbd k => by
    have e := HU.out.1.symm.trans hbd.out
    simp only [Prod.mk.injEq] at e
    obtain ⟨rfl, rfl, rfl⟩ := e
    exact ⟨rfl, HS.out w' k⟩
  have HF := Lib.hid fin
  clear fin same h hU hok
  go_enter Try.func43, Try.ntmps43
  go_upto_region 1 with (fail)
  obtain ⟨wB, hwB⟩ : ∃ wB, wB = w.alloc (.cells #[.int .i64 m, .int .i64 n] 49) := ⟨_, rfl⟩
  have W0 := boxes1 w (.cells #[.int .i64 m, .int .i64 n] 49)
  rw [← hwB] at W0
  rw [← hwB]
  have HB := Lib.hid W0
  have p0 : wB.cell? ⟨w.heap.size, 0, none⟩ = some (.int .i64 m) := by rw [cell_blk W0.2.1]; rfl
  have p1 : wB.cell? ⟨w.heap.size, 1, none⟩ = some (.int .i64 n) := by rw [cell_blk W0.2.1]; rfl
  have hi := ris_c (H.out.aside W0.1) (by omega) m
  clear hwB W0
  cases hg : aget V.live m with
  | none =>
    have HBD := Lib.hid (show V.bind m n node = (V, 0, 1) by unfold MountV.bind; rw [if_pos hg])
    rw [hg] at hi
    simp only [Option.isSome_none] at hi
    clear hg
    go_wp2_with (
      go_at_call 59
      refine hi.mono ?_
      rintro e w2 ⟨rfl, hw⟩
      obtain rfl : wB = w2 := hw.symm
      clear hi)
    go_ret2
    exact HF.out 0 1 _ HBD HB.out.1
  | some x0 =>
    rw [hg] at hi
    simp only [Option.isSome_some] at hi
    have hgn : ¬ aget V.live m = none := by rw [hg]; simp
    have hov := rmover_c (H.out.aside HB.out.1) (by omega) m n
    cases ho : V.over m n with
    | some y =>
      have HBD := Lib.hid (show V.bind m n node = (V, 0, 15) by unfold MountV.bind; rw [if_neg hgn, if_pos (by rw [ho]; rfl)])
      have he : overI V m n = y.1 := by unfold overI; rw [ho]
      have hy0 : 0 ≤ y.1 := by have := (MountV.over_mem ho).2.1; omega
      rw [he] at hov
      generalize y.1 = yk at *
      clear hg hgn ho he
      go_wp2_with (first
        | (go_at_call 59
           refine hi.mono ?_
           rintro e w2 ⟨rfl, hw⟩
           obtain rfl : wB = w2 := hw.symm
           clear hi)
        | (go_at_call 60
           refine hov.mono ?_
           rintro e w3 ⟨rfl, hk3⟩
           have N := Lib.hid hk3
           clear hov hk3))
      go_ret2
      exact HF.out 0 15 _ HBD (HB.out.1.aside N.out)
    | none =>
      have he : overI V m n = -1 := by unfold overI; rw [ho]
      rw [he] at hov
      have hll := fun w' (K : Keep wB w' (fun _ => False)) => rmlist_c ((H.out.aside HB.out.1).aside K) (by omega)
      have hql : (V.list.map (Value.int .i64)).length = V.live.length := by unfold MountV.list; rw [List.length_map, List.length_map]
      have hl8 := H.out.ok.most
      by_cases h8 : 8 ≤ V.live.length
      · have HBD := Lib.hid (show V.bind m n node = (V, 0, 13) by unfold MountV.bind; rw [if_neg hgn, if_neg (by rw [ho]; simp), if_pos h8])
        have g8 : (8 : Int) ≤ (V.live.length : Int) := by omega
        clear hg hgn ho he
        go_wp2_with (first
          | (go_at_call 59
             refine hi.mono ?_
             rintro e w2 ⟨rfl, hw⟩
             obtain rfl : wB = w2 := hw.symm
             clear hi)
          | (go_at_call 60
             refine hov.mono ?_
             rintro e w3 ⟨rfl, hk3⟩
             have hl := hll w3 hk3
             have N := Lib.hid hk3
             clear hov hk3)
          | (go_at_call 49
             refine hl.mono ?_
             rintro e w4 ⟨v, rfl, hM⟩
             obtain ⟨a4, cap4, rfl⟩ := hM.valn hql
             have M := Lib.hid hM.keep
             clear hl hM))
        go_ret2
        exact HF.out 0 13 _ HBD ((HB.out.1.aside N.out).aside M.out)
      · have HBD := Lib.hid (show V.bind m n node = (⟨V.made + 1, V.turns + 1, V.live ++ [(V.made + 1, ⟨node, m, n⟩)]⟩, V.made + 1, 0) by unfold MountV.bind; rw [if_neg hgn, if_neg (by rw [ho]; simp), if_neg h8])
        have g8 : ¬ (8 : Int) ≤ (V.live.length : Int) := by omega
        clear hg hgn ho he
        go_upto_region 7 with (first
          | (go_at_call 59
             refine hi.mono ?_
             rintro e w2 ⟨rfl, hw⟩
             obtain rfl : wB = w2 := hw.symm
             clear hi)
          | (go_at_call 60
             refine hov.mono ?_
             rintro e w3 ⟨rfl, hk3⟩
             have hl := hll w3 hk3
             have N := Lib.hid hk3
             clear hov hk3)
          | (go_at_call 49
             refine hl.mono ?_
             rintro e w4 ⟨v, rfl, hM⟩
             obtain ⟨a4, cap4, rfl⟩ := hM.valn hql
             have M := Lib.hid hM.keep
             clear hl hM))
        obtain ⟨v, rows, t1, t2, t3, t4, t5, t6⟩ := H.out.ex
        obtain ⟨sa, cap, rfl, hc⟩ := rows_val2 t2
        have kw4 : Keep w w4 (fun _ => False) := (HB.out.1.aside N.out).aside M.out
        have b4 := kw4.get t1 (fun q => q)
        have pB := (N.out.aside M.out).get HB.out.2.1 (fun q => q)
        have hm0 := H.out.ok.made0
        obtain ⟨ln, hln⟩ : ∃ ln, ln = rows.length := ⟨_, rfl⟩
        have hlb : ln ≤ 100001 := by omega
        have g5 : (1 : Int) ≤ (ln : Int) := by omega
        rw [← hln] at b4 hc
        have ka : Keep w4 (World.drew (w4.alloc (.cells #[.int .i64 m, .int .i64 n, .int .i64 node, .bool true] 109))) (fun _ => False) := (Keep.alloc _ _ _).trans (Keep.drew _ _) (fun _ q => q)
        have ra := rows_keep (rows_keep t2 kw4 (fun _ _ q => q)) ka (fun _ _ q => q)
        rw [← hln] at ra
        have cn : ∀ j u, [Value.int .i64 m, .int .i64 n, .int .i64 node, .bool true][j]? = some u → (World.drew (w4.alloc (.cells #[.int .i64 m, .int .i64 n, .int .i64 node, .bool true] 109))).cell? ((⟨w4.heap.size, 0, none⟩ : Addr).add j) = some u := fun j u hj => cells_new w4 [.int .i64 m, .int .i64 n, .int .i64 node, .bool true] 109 j u hj
        have za : (World.drew (w4.alloc (.cells #[.int .i64 m, .int .i64 n, .int .i64 node, .bool true] 109))).heap.size = w4.heap.size + 1 := by show (w4.alloc _).heap.size = _; simp
        obtain ⟨ti, ti1, ti2, ti3, ti4⟩ := rm_info
        have c0 : w4.cell? ⟨rb, 0, none⟩ = some (.slice sa ln cap) := by rw [cell_blk b4]; rfl
        have q0 : w4.cell? ⟨w.heap.size, 0, none⟩ = some (.int .i64 m) := by rw [cell_blk pB]; rfl
        have q1 : w4.cell? ⟨w.heap.size, 1, none⟩ = some (.int .i64 n) := by rw [cell_blk pB]; rfl
        have c0a := (Keep.alloc w4 (.cells #[.int .i64 m, .int .i64 n, .int .i64 node, .bool true] 109) (fun _ => False)).cell c0 (fun q => q)
        have f0 : w4.frozen? ⟨rb, 0, none⟩ = false := free_blk b4 _
        have RA := Lib.hid (And.intro ra (And.intro cn (And.intro ka (And.intro za (And.intro ti1 (And.intro ti2 (And.intro ti3 ti4)))))))
        have HT := Lib.hid (And.intro t1 (And.intro t2 (And.intro t3 (And.intro t4 (And.intro t5 (And.intro t6 (And.intro hln (And.intro kw4 b4))))))))
        have e9 : IntKind.i64.wrap ((ln : Int) + 1) = (ln : Int) + 1 := IntWalk.i64_in _ (by omega)
        clear ra cn ka za ti1 ti2 ti3 ti4 t1 t2 t3 t4 t5 t6 hln kw4 b4 pB p0 p1 hll hql
        go_region_law (
          (refine step_append_row rfl _ _ _ (by rfl) Try.underlying110 RA.out.2.2.2.2.1 RA.out.2.2.2.2.2.1 RA.out.2.2.2.2.2.2.1 RA.out.2.2.2.2.2.2.2 rm_cells (by omega) (by rfl) RA.out.1 [.int .i64 m, .int .i64 n, .int .i64 node, .bool true] (by rfl) rfl (.inr ⟨_, rfl, RA.out.2.1⟩) (by simp [Value.oneCell']) (by omega) (ln + 1) rfl _ rfl ?_
           intro a8 c8 w8 h8 k8 f8
           have K8 : Keep w4 w8 (fun c => (Value.slice sa ln cap).ownBlock = some c) := (RA.out.2.2.1.mono (fun _ q => q.elim)).trans k8 (fun c q => .inl q.symm)
           have hnr : ¬ (Value.slice sa ln cap).ownBlock = some rb := fun q => (HT.out.2.2.1 rb (by rw [← HT.out.2.2.2.2.2.2.1]; exact q)).2 rfl
           have B8 := K8.get HT.out.2.2.2.2.2.2.2.2 hnr
           have d8 : w8.cell? ⟨rb, 0, none⟩ = some (.slice sa ln cap) := by rw [cell_blk B8]; rfl
           have g8 : w8.frozen? ⟨rb, 0, none⟩ = false := free_blk B8 _
           have F8 : ∀ c, (Value.slice a8 (ln + 1) c8).ownBlock = some c → (Value.slice sa ln cap).ownBlock = some c ∨ w4.heap.size ≤ c := fun c q => by
             rcases f8 c q with z | z
             · exact .inl z
             · right; rw [z, RA.out.2.2.2.1]; omega
           have N8 := Lib.hid (And.intro h8 (And.intro K8 (And.intro B8 F8)))
           clear h8 k8 f8 K8 B8 F8 hnr))
        all_goals
          obtain ⟨wz, hwz⟩ : ∃ wz, wz = w8.setCell ⟨rb, 0, none⟩ (.slice a8 (ln + 1) c8) := ⟨_, rfl⟩
          have bz := heap_setCell_eq (off := 0) (Value.slice a8 (ln + 1) c8) N8.out.2.2.1
          have kz := Keep.setCell w8 ⟨rb, 0, none⟩ (.slice a8 (ln + 1) c8)
          have hrb := H.out.lt _ HT.out.2.2.2.1
          have hsz4 := HT.out.2.2.2.2.2.2.2.1.size
          have fr : ∀ b, (Value.slice a8 (ln + 1) c8).ownBlock = some b → (R b ∨ w.heap.size ≤ b) ∧ b ≠ rb := fun b q => by
            rcases N8.out.2.2.2 b q with z | z
            · have h := HT.out.2.2.1 b (by rw [← HT.out.2.2.2.2.2.2.1]; exact z)
              exact ⟨.inl h.1, h.2⟩
            · exact ⟨.inr (by omega), by omega⟩
          have rz := rows_keep N8.out.1 kz (fun b q z => (fr b q).2 z)
          rw [← hwz] at bz kz rz ⊢
          simp only [List.setIfInBounds_toArray, List.set_cons_zero] at bz
          have c0z : wz.cell? ⟨rb, 0, none⟩ = some (.slice a8 (ln + 1) c8) := by rw [cell_blk bz]; rfl
          have NZ := Lib.hid (And.intro bz (And.intro kz (And.intro rz fr)))
          clear bz kz rz fr hwz d8 g8 c0 c0a q0 q1 f0
          have e10 : IntKind.i64.wrap ((ln : Int) + 1 - 1) = (ln : Int) := by rw [show (ln : Int) + 1 - 1 = ln by omega]; exact IntWalk.i64_in _ (by omega)
          go_wp2
          go_ret2
          have e := HU.out.1.symm.trans HBD.out
          simp only [Prod.mk.injEq] at e
          obtain ⟨rfl, rfl, rfl⟩ := e
          have hml : (ln : Int) = V.made + 1 := by have := HT.out.2.2.2.2.1; have := HT.out.2.2.2.2.2.2.1; omega
          have hrl : rows.length = ln := HT.out.2.2.2.2.2.2.1.symm
          have kk : Keep w wz R := (HT.out.2.2.2.2.2.2.2.1.mono (fun _ q => q.elim)).trans ((N8.out.2.1.mono (T := fun b => (Value.slice sa ln cap).ownBlock = some b ∨ b = rb) (fun b q => .inl q)).trans NZ.out.2.1 (fun b q => .inl (.inr q))) (fun b q => .inl (by
            rcases q with q | q
            · exact (HT.out.2.2.1 b (by rw [hrl]; exact q)).1
            · rw [q]; exact HT.out.2.2.2.1))
          refine ⟨by rw [← hml]; simp, fun b => R b ∨ (Value.slice a8 (ln + 1) c8).ownBlock = some b, ⟨HU.out.2, ⟨.slice a8 (ln + 1) c8, rows ++ [⟨m, n, node, true⟩], NZ.out.1, ?_, fun b q => ⟨.inr q, (NZ.out.2.2.2 b q).2⟩, .inl HT.out.2.2.2.1, ?_, ?_⟩, fun b q => ?_⟩, kk, fun b q => ?_⟩
          · rw [List.length_append, List.length_singleton, hrl, flat_append]
            exact NZ.out.2.2.1
          · rw [List.length_append, List.length_singleton, hrl]
            show ((ln + 1 : Nat) : Int) = V.made + 1 + 1
            omega
          · show V.live ++ _ = _
            rw [liveF_snoc, HT.out.2.2.2.2.2.1, hrl, hml]
            rfl
          · rcases q with q | q
            · exact Nat.lt_of_lt_of_le (H.out.lt b q) kk.size
            · rcases rows_val NZ.out.2.2.1 with ⟨e, _⟩ | ⟨g9, cap9, e, _, h5, h6⟩
              · rw [e] at q; simp [Value.ownBlock] at q
              · rw [h5] at q; cases q; exact h6
          · rcases q with q | q
            · exact .inl q
            · exact (NZ.out.2.2.2 b q).1

end Go.Proofs.Ytemoickagefjmaa
