/-
  The table's Bind.
-/
import Derived.Test.YtemoickagefjmaaMountCalls
namespace Go.Proofs.Ytemoickagefjmaa
open Go Go.RowKit Go.Shelf
set_option linter.unusedSectionVars false
set_option linter.unusedSimpArgs false
set_option linter.unusedVariables false
set_option maxRecDepth 100000
attribute [local go_sem] Oper.semAt_some

theorem liveV_snoc (L : List Mnt) (k : Int) (x : MntV) (h : k ∉ L.map Prod.fst) : aset (liveV L) k (mntV x) = liveV (L ++ [(k, x)]) := by
  rw [aset_new _ _ _ (by unfold liveV; rw [List.map_map]; exact h)]
  simp [liveV]

set_option maxHeartbeats 4000000 in
theorem mbind_c {w : World} {tb : Nat} {S : Nat → Prop} {V : MountV} (h : TableAt w tb S V) (ht : 0 ≤ V.turns ∧ V.turns ≤ 1000000) (hm : V.made ≤ 1000000) (m n node : Int) :
    Calls Try.prog 32 #[.pointer (some ⟨tb, 0, none⟩), .agg #[.int .i64 m, .int .i64 n], .int .i64 node] w fun e w' => e = .returned (.tuple #[.int .i64 (V.bind m n node).2.1, .int .i64 (V.bind m n node).2.2]) ∧ ∃ S', TableAt w' tb S' (V.bind m n node).1 ∧ TurnM w S w' S' := by
  have H := Lib.hid h
  have hub := h.ok.bind m n node
  obtain ⟨mb, t1, t2, t3, t4, t5⟩ := h.ex
  have c0 : w.cell? ⟨tb, 0, none⟩ = some (.map (some mb)) := by rw [cell_blk t1]; rfl
  have same : ∀ w', Keep w w' (fun _ => False) → ∃ S', TableAt w' tb S' V ∧ TurnM w S w' S' := fun w' k => ⟨S, H.out.aside k, k.mono (fun _ q => q.elim), fun b q => .inl q⟩
  have HT := Lib.hid (And.intro t1 (And.intro t2 (And.intro t3 (And.intro t4 t5))))
  have HS := Lib.hid same
  have htb := h.lt _ t3
  have hm0 := h.ok.made0
  clear h t1 t2 t3 t4 t5 same
  obtain ⟨x, hx⟩ : ∃ x, (aget V.live m).getD ⟨0, 0, 0⟩ = x := ⟨_, rfl⟩
  obtain ⟨ok, hok⟩ : ∃ ok, (aget V.live m).isSome = ok := ⟨_, rfl⟩
  have HX := Lib.hid (And.intro hx hok)
  obtain ⟨U, rk, re, hU⟩ : ∃ U rk re, V.bind m n node = (U, rk, re) := ⟨_, _, _, rfl⟩
  rw [hU] at hub ⊢
  simp only at hub ⊢
  have HU := Lib.hid (And.intro hU hub)
  clear hx hok hub hU
  go_enter Try.func32, Try.ntmps32
  go_upto_region 1 with (fail)
  obtain ⟨wB, hwB⟩ : ∃ wB, wB = w.alloc (.cells #[.int .i64 m, .int .i64 n] 49) := ⟨_, rfl⟩
  have W0 := boxes1 w (.cells #[.int .i64 m, .int .i64 n] 49)
  rw [← hwB] at W0
  rw [← hwB]
  have zB := W0.2.2
  have HB := Lib.hid W0
  clear hwB W0
  replace c0 := HB.out.1.cell c0 (fun q => q)
  have d0 := cell_blk HB.out.2.1 0
  simp only [List.getElem?_toArray, List.getElem?_cons_zero, List.getElem?_cons_succ] at d0
  go_cut [9] (fun s9 wx => s9 = .bool ok ∧ Keep wB wx (fun _ => False))
  case first =>
    have hM := HT.out.2.1.keep HB.out.1 (fun q => q)
    have l := mlookA hM HX.out.1 HX.out.2
    have n1 := World.new_ne wB _ c0
    have n2 := World.new_ne wB _ d0
    go_region_held3 (fun w' => (w'.cell? ⟨tb, 0, none⟩ = some (.map (some mb)) ∧ w'.cell? ⟨w.heap.size, 0, none⟩ = some (.int .i64 m)) ∧ MapAt w' mb kInt (liveV V.live) ∧ (Instr.lookup 96 (.map (some mb)) (.int .i64 m) true).run Try.prog w' = .ok (.tuple #[.agg #[.int .i64 x.top, .int .i64 x.am, .int .i64 x.an], .bool ok]) w')
      ((go_split_ands; refine ⟨⟨?_, ?_⟩, ?_, ?_⟩ <;> first
         | (refine MapAt.keep hM (S := fun _ => False) ?_ (fun q => q); repeat (first | exact Keep.refl _ _ | refine Keep.drewNew ?_ | refine Keep.allocNew ?_ _))
         | (refine mlookA (MapAt.keep hM (S := fun _ => False) ?_ (fun q => q)) HX.out.1 HX.out.2; repeat (first | exact Keep.refl _ _ | refine Keep.drewNew ?_ | refine Keep.allocNew ?_ _))
         | go_keep)) (fail)
    all_goals go_wp2
    all_goals go_meet
    all_goals
      refine ⟨rfl, ?_⟩
      repeat (first | exact Keep.refl _ _ | refine Keep.drewNew ?_ | refine Keep.allocNew ?_ _)
  case rest =>
    obtain ⟨rfl, k1⟩ := hcut
    have kC := HB.out.1.aside k1
    have e1 := k1.get HB.out.2.1 (fun q => q)
    have q0 := cell_blk e1 0
    have q1 := cell_blk e1 1
    simp only [List.getElem?_toArray, List.getElem?_cons_zero, List.getElem?_cons_succ] at q0 q1
    have hov := mover_c (H.out.aside kC) m n
    have HC := Lib.hid (And.intro kC e1)
    clear k1 e1 kC c0 d0 zB
    have fin : ∀ (rk' re' : Int) w', Hid (V.bind m n node = (V, rk', re')) → Keep w w' (fun _ => False) → Ending.returned (.tuple #[.int .i64 rk', .int .i64 re']) = Ending.returned (.tuple #[.int .i64 rk, .int .i64 re]) ∧ ∃ S', TableAt w' tb S' U ∧ TurnM w S w' S' := fun rk' re' w' hbd k => by
      have e := HU.out.1.symm.trans hbd.out
      simp only [Prod.mk.injEq] at e
      obtain ⟨rfl, rfl, rfl⟩ := e
      exact ⟨rfl, HS.out w' k⟩
    have HF := Lib.hid fin
    clear fin
    cases ok with
    | false =>
      have HBD := Lib.hid (show V.bind m n node = (V, 0, 1) by
        unfold MountV.bind
        rw [if_pos (by have := HX.out.2; simpa using this)])
      clear hov
      go_wp2
      go_ret2
      exact HF.out 0 1 _ HBD HC.out.1
    | true =>
      have hg : ¬ aget V.live m = none := fun q => by have := HX.out.2; rw [q] at this; simp at this
      cases ho : V.over m n with
      | some y =>
        have HBD := Lib.hid (show V.bind m n node = (V, 0, 15) by
          unfold MountV.bind
          rw [if_neg hg, if_pos (by rw [ho]; rfl)])
        have he : overA V m n = (y.1, true) := by unfold overA; rw [ho]
        rw [he] at hov
        clear hg ho he
        go_wp2_with (
          go_at_call 55
          refine hov.mono ?_
          rintro e w2 ⟨rfl, hk2⟩
          have N := Lib.hid hk2
          clear hk2 hov)
        go_ret2
        exact HF.out 0 15 _ HBD (HC.out.1.aside N.out)
      | none =>
        have he : overA V m n = (0, false) := by unfold overA; rw [ho]
        rw [he] at hov
        have hll : (liveV V.live).length = V.live.length := by simp [liveV]
        have hl8 := H.out.ok.most
        by_cases h8 : 8 ≤ V.live.length
        · have HBD := Lib.hid (show V.bind m n node = (V, 0, 13) by
            unfold MountV.bind
            rw [if_neg hg, if_neg (by rw [ho]; simp), if_pos h8])
          have g8 : (8 : Int) ≤ ((liveV V.live).length : Int) := by rw [hll]; omega
          clear hg ho he hll hl8 h8
          go_wp2_with (first
            | (go_at_call 55
               refine hov.mono ?_
               rintro e w2 ⟨rfl, hk2⟩
               have k3 := HC.out.1.aside hk2
               have c2 : w2.cell? ⟨tb, 0, none⟩ = some (.map (some mb)) := by rw [cell_blk (k3.get HT.out.1 (fun q => q))]; rfl
               have N := Lib.hid k3
               clear hk2 hov k3)
            | (at_len; refine law_len rfl _ _ rfl tMnt rfl (HT.out.2.1.keep N.out (fun q => q)) ?_))
          go_ret2
          exact HF.out 0 13 _ HBD N.out
        · have HBD := Lib.hid (show V.bind m n node = (⟨V.made + 1, V.turns + 1, V.live ++ [(V.made + 1, ⟨node, m, n⟩)]⟩, V.made + 1, 0) by
            unfold MountV.bind
            rw [if_neg hg, if_neg (by rw [ho]; simp), if_neg h8])
          have g8 : ¬ (8 : Int) ≤ ((liveV V.live).length : Int) := by rw [hll]; omega
          obtain ⟨ht0, ht1⟩ := ht
          have hnew : V.made + 1 ∉ V.live.map Prod.fst := fun q => by
            obtain ⟨z, hz, e⟩ := List.mem_map.1 q
            have := (H.out.ok.range z hz).2
            omega
          have HN := Lib.hid hnew
          clear hg ho he hll hl8 h8 hnew
          have g5 : IntKind.i64.wrap (V.made + 1) = V.made + 1 := IntWalk.i64_in _ (by omega)
          go_upto_region 11 with (first
            | (go_at_call 55
               refine hov.mono ?_
               rintro e w2 ⟨rfl, hk2⟩
               have k3 := HC.out.1.aside hk2
               have b3 := k3.get HT.out.1 (fun q => q)
               have c2 : w2.cell? ⟨tb, 0, none⟩ = some (.map (some mb)) := by rw [cell_blk b3]; rfl
               have c3 : w2.cell? ⟨tb, 1, none⟩ = some (.int .i64 V.made) := by rw [cell_blk b3]; rfl
               have c4 : w2.cell? ⟨tb, 2, none⟩ = some (.int .i64 V.turns) := by rw [cell_blk b3]; rfl
               have f3 := free_blk b3 1
               have f4 := free_blk b3 2
               have N := Lib.hid (And.intro k3 (And.intro b3 (hk2.get HC.out.2 (fun q => q))))
               clear hk2 hov k3 b3)
            | (at_len; refine law_len rfl _ _ rfl tMnt rfl (HT.out.2.1.keep N.out.1 (fun q => q)) ?_))
          have s1 := heap_setCell_eq (off := 1) (Value.int .i64 (V.made + 1)) N.out.2.1
          have s2 := heap_setCell_eq (off := 2) (Value.int .i64 (V.turns + 1)) s1
          have kN : Keep w2 ((w2.setCell ⟨tb, 1, none⟩ (.int .i64 (V.made + 1))).setCell ⟨tb, 2, none⟩ (.int .i64 (V.turns + 1))) (fun b => b = tb) := (Keep.setCell _ _ _).trans (Keep.setCell _ _ _) (fun b q => .inl q)
          generalize (w2.setCell ⟨tb, 1, none⟩ (.int .i64 (V.made + 1))).setCell ⟨tb, 2, none⟩ (.int .i64 (V.turns + 1)) = wN at *
          simp only [List.setIfInBounds_toArray, List.set_cons_succ, List.set_cons_zero] at s2
          have hpl : w.heap.size ≠ tb := by omega
          have bp := kN.get N.out.2.2 hpl
          have d0 := cell_blk s2 0
          have d1 := cell_blk s2 1
          have p0 := cell_blk bp 0
          have p1 := cell_blk bp 1
          simp only [List.getElem?_toArray, List.getElem?_cons_zero, List.getElem?_cons_succ] at d0 d1 p0 p1
          have NN := Lib.hid (And.intro s2 (And.intro kN ((HT.out.2.1.keep N.out.1 (fun q => q)).keep kN (fun q => HT.out.2.2.2.2 q.symm))))
          clear s1 s2 kN bp c2 c3 c4 f3 f4 q0 q1
          go_still_tail 11, (by kernel_rfl)
          change wpList _ _ _ _ _ wN.drew
          have MQ := Lib.hid (NN.out.2.2.keep (Keep.drew wN (fun _ => False)) (fun q => q))
          refine law_update rfl _ _ _ _ rfl kMnt tMnt rfl MQ.out (V.made + 1) rfl ?_
          intro w3 hM3 hk3
          simp only [go_sem] at hM3
          have e3 := liveV_snoc V.live (V.made + 1) ⟨node, m, n⟩ HN.out
          have k4 : Keep wN w3 (fun b => b = mb) := (Keep.drew wN (fun _ => False)).mono (fun _ q => q.elim) |>.trans hk3 (fun b q => .inl q)
          have b3 := k4.get NN.out.1 (fun q => HT.out.2.2.2.2 q)
          have c5 : w3.cell? ⟨tb, 1, none⟩ = some (.int .i64 (V.made + 1)) := by rw [cell_blk b3]; rfl
          have N3 := Lib.hid (And.intro hM3 (And.intro k4 (And.intro b3 e3)))
          clear hM3 hk3 k4 b3 e3 d0 d1 p0 p1
          go_wp2
          go_ret2
          have e := HU.out.1.symm.trans HBD.out
          simp only [Prod.mk.injEq] at e
          obtain ⟨rfl, rfl, rfl⟩ := e
          have kk : Keep w w3 (fun b => b = tb ∨ b = mb) := ((N.out.1.mono (fun _ q => q.elim)).trans NN.out.2.1 (fun b q => .inl (.inl q))).trans N3.out.2.1 (fun b q => .inl (.inr q))
          refine ⟨rfl, S, ⟨HU.out.2, ⟨mb, N3.out.2.2.1, ?_, HT.out.2.2.1, HT.out.2.2.2.1, HT.out.2.2.2.2⟩, fun b q => Nat.lt_of_lt_of_le (H.out.lt b q) kk.size⟩, kk.mono (fun b q => ?_), fun b q => .inl q⟩
          · rw [← N3.out.2.2.2]
            exact N3.out.1
          · rcases q with q | q
            · rw [q]; exact HT.out.2.2.1
            · rw [q]; exact HT.out.2.2.2.1

end Go.Proofs.Ytemoickagefjmaa
