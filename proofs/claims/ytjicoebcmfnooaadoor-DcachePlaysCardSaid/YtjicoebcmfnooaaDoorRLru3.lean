/-
  The document's list: Use.
-/
import Derived.Test.YtjicoebcmfnooaaDoorRLru2
import Derived.Test.YtjicoebcmfnooaaDoorLruOrder0
namespace Go.Proofs.YtjicoebcmfnooaaDoor
open Go Go.RowKit
set_option linter.unusedSectionVars false
set_option linter.unusedSimpArgs false
set_option linter.unusedVariables false

/-! ### the plain law -/

theorem adel_at {U : List Pair} (hn : (U.map Prod.fst).Nodup) {k : Nat} {x : Pair} (hx : U[k]? = some x) : adel U x.1 = U.eraseIdx k := by
  obtain ⟨j, _, hj2, hj3, hj4⟩ := idx_some (pget_of_mem hn (List.mem_of_getElem? hx))
  have hjk : j = k := by
    have e1 : (U.map Prod.fst)[j]? = some x.1 := by rw [List.getElem?_map, hj2]; rfl
    have e2 : (U.map Prod.fst)[k]? = some x.1 := by rw [List.getElem?_map, hx]; rfl
    exact (List.getElem?_inj (by rw [List.length_map]; exact hj3) hn).1 (e1.trans e2.symm)
  rw [← hj4, hjk]

theorem take_loose {U : List Pair} {k : Nat} (h : ∀ y ∈ U.take k, y.2 ≠ 0) : looseL U = looseL (U.drop k) := by
  unfold looseL
  have e : U.filter (fun x => decide (x.2 = 0)) = (U.drop k).filter (fun x => decide (x.2 = 0)) := by
    conv => lhs; rw [← List.take_append_drop k U]
    rw [List.filter_append, List.filter_eq_nil_iff.2 (fun y hy => by simpa using h y hy), List.nil_append]
  rw [e]

theorem use_found {A : List Pair} {key : ByteArray} {p0 : Int} {k : Nat} {x : Pair} (hn : ((A ++ [(key, p0)]).map Prod.fst).Nodup) (hx : (A ++ [(key, p0)])[k]? = some x) (hk : k < A.length) (h0 : x.2 = 0) (h : ∀ y ∈ (A ++ [(key, p0)]).take k, y.2 ≠ 0) :
    (looseL (A ++ [(key, p0)])).find? (fun s => decide (s ≠ key)) = some x.1 := by
  have hl := (List.getElem?_eq_some_iff.1 hx).1
  rw [take_loose h, List.drop_eq_getElem_cons hl]
  have e : (A ++ [(key, p0)])[k] = x := (List.getElem?_eq_some_iff.1 hx).2
  rw [e]
  have hne : x.1 ≠ key := by
    rw [List.map_append, List.nodup_append] at hn
    intro q
    have hm : x.1 ∈ A.map Prod.fst := by
      rw [List.getElem?_append_left hk] at hx
      exact List.mem_map_of_mem (List.mem_of_getElem? hx)
    exact hn.2.2 x.1 hm key (by simp) q
  unfold looseL
  simp [List.filter_cons, h0, hne]

theorem use_none {A : List Pair} {key : ByteArray} {p0 : Int} (h : ∀ y ∈ (A ++ [(key, p0)]).take A.length, y.2 ≠ 0) : (looseL (A ++ [(key, p0)])).find? (fun s => decide (s ≠ key)) = none := by
  rw [take_loose h, List.drop_left]
  unfold looseL
  by_cases e : p0 = 0
  · subst e; simp
  · simp [List.filter_cons, e]

/-! ### the walk -/

structure UseR (w wx : World) (rb : Nat) (S S' : Nat → Prop) (most : Int) (L : List Pair) (e : Pair) : Prop where
  list : RefL wx rb S' most L
  turn : Turn w S wx S'
  b0 : wx.heap[w.heap.size]? = some (.cells #[.string e.1, .int .i64 e.2] 85 (0, 0))
  n0 : ¬ S' w.heap.size

theorem item_field (s : ByteArray) (p : Int) (w : World) : (Instr.field 85 (.agg #[.string s, .int .i64 p]) 0).run Tryd.prog w = .ok (.string s) w := by kernel_rfl

set_option maxRecDepth 100000 in
set_option maxHeartbeats 8000000 in
theorem ruse_c {w : World} {rb : Nat} {S : Nat → Prop} {most : Int} {L : List Pair} (h : RefL w rb S most L) (hl : L.length ≤ 1000) (hn : (L.map Prod.fst).Nodup) (key : ByteArray) :
    Calls Tryd.prog 33 #[.pointer (some ⟨rb, 0, none⟩), .string key] w fun r w' => r = .returned (.tuple #[.string (useE most L key).2.1, .bool (useE most L key).2.2]) ∧ ∃ S', RefL w' rb S' most (useE most L key).1 ∧ Turn w S w' S' := by
  have hf := rfind_c h (by omega) key
  have h0 : UseR w (w.alloc (.cells #[.string key, .int .i64 0] 85)) rb S S most L (key, 0) := by
    have k0 := Keep.alloc w (.cells #[.string key, .int .i64 0] 85) (fun _ => False)
    exact ⟨h.aside k0, ⟨k0.mono (fun _ q => q.elim), fun b q => .inl q⟩, heap_alloc_eq _ _, fun q => by have := h.lt _ q; omega⟩
  have H0 := Lib.hid h0
  have hbd : idxT L key ≤ 100000 := by
    cases hg : aget L key with
    | none => rw [idx_none hg]; omega
    | some p => obtain ⟨k, h1, _, h3, _⟩ := idx_some hg; rw [h1]; omega
  clear h h0
  generalize hz : idxT L key = z at *
  have HZ := Lib.hid hz
  clear hz
  go_enter Tryd.func33, Tryd.ntmps33
  go_upto_if 15 with (
    go_at_call 46
    refine hf.mono ?_
    rintro e w6 ⟨rfl, rfl⟩
    clear hf)
  obtain ⟨wb, hwb⟩ : ∃ wb, wb = w6.alloc (.cells #[.string key, .int .i64 0] 85) := ⟨_, rfl⟩
  rw [← hwb] at H0 ⊢
  clear hwb
  go_cut [] from 15 to 18 (fun wx => ∃ S', UseR w6 wx rb S S' most (adel L key) (key, (aget L key).getD 0))
  case first =>
    cases hg : aget L key with
    | none =>
      have hz0 : z = -1 := by rw [← HZ.out, idx_none hg]
      subst hz0
      have HA := Lib.hid (And.intro (adel_none hg) hg)
      clear hg
      go_wp2
      go_meet
      case rel => exact ⟨S, by rw [HA.out.1]; simpa [HA.out.2] using H0.out⟩
    | some p =>
      obtain ⟨k, h1, h2, h3, h4⟩ := idx_some hg
      have hz0 : z = k := by rw [← HZ.out, h1]
      subst hz0
      have hge : (0 : Int) ≤ (k : Int) := by omega
      have ho := out_c H0.out.list (by omega) h2
      have HG := Lib.hid (And.intro hg h4)
      have f0 := free_blk H0.out.b0 0
      have f1 := free_blk H0.out.b0 1
      clear hg h1 h2 h4
      go_wp2_with (
        go_at_call 47
        refine ho.mono ?_
        rintro e w3 ⟨rfl, S3, hL3, hT3⟩
        have b3 := hT3.keep.get H0.out.b0 H0.out.n0
        have f2 := free_blk b3 0
        have f3 := free_blk b3 1
        have e2 := cell_blk b3 0
        have e3 := cell_blk b3 1
        simp only [List.getElem?_toArray, List.getElem?_cons_zero, List.getElem?_cons_succ] at e2 e3
        have N3 := Lib.hid (And.intro hL3 (And.intro hT3 b3))
        clear ho hL3 hT3 b3)
      go_meet
      case rel =>
        have ks := ((Keep.setCell w3 ⟨w6.heap.size, 0, none⟩ (.string key)).trans (Keep.setCell _ ⟨w6.heap.size, 1, none⟩ (.int .i64 p)) (fun b q => .inl q))
        have hb0 := lt_of_blk H0.out.b0
        have hnS : ∀ b, S3 b → ¬ b = w6.heap.size := fun b q e => by
          rcases N3.out.2.1.new b q with z | z
          · exact H0.out.n0 (e ▸ z)
          · omega
        refine ⟨S3, ⟨by rw [← HG.out.2]; exact N3.out.1.keep ks hnS, ?_, ?_, fun q => hnS _ q rfl⟩⟩
        · exact ⟨((H0.out.turn.trans N3.out.2.1).keep).trans ks (fun b q => .inr (by rw [show b = w6.heap.size from q]; exact Nat.le_refl _)), (H0.out.turn.trans N3.out.2.1).new⟩
        · have := heap_setCell_eq (.int .i64 p) (off := 1) (heap_setCell_eq (.string key) (off := 0) N3.out.2.2)
          rw [HG.out.1]
          exact this
  case rest =>
    obtain ⟨S1, hU⟩ := hcut
    obtain ⟨v, hb, hr, hS, hlb⟩ := hU.list.ex
    obtain ⟨sa, cap, rfl, hcap⟩ := rows_val2 hr
    have hlen : (adel L key).length ≤ 1000 := by have := (adel_sub L key).length_le; omega
    generalize hp0 : (aget L key).getD 0 = p0 at *
    have HP0 := Lib.hid hp0
    clear hp0
    have hnd : ((adel L key ++ [(key, p0)]).map Prod.fst).Nodup := by
      rw [List.map_append]
      exact List.nodup_append.2 ⟨adel_nodup hn key, by simp, fun a ha b hb e => by
        have hb' : b = key := by simpa using hb
        rw [e, hb'] at ha
        exact ent_aget_none hn key ha⟩
    generalize hA : adel L key = A at *
    have HA := Lib.hid hA
    clear hA
    obtain ⟨n, hnA⟩ : ∃ n, n = A.length := ⟨_, rfl⟩
    rw [← hnA] at hr hb hcap hlen hS
    have HC := Lib.hid (And.intro hU (And.intro hb (And.intro hr (And.intro hS (And.intro hlb (And.intro hnA hnd))))))
    have c1 : wc.cell? ⟨rb, 1, none⟩ = some (.slice sa n cap) := by rw [cell_blk hb]; rfl
    have f1 : wc.frozen? ⟨rb, 1, none⟩ = false := free_blk hb _
    have c4 := cell_blk hU.b0 0
    have c5 := cell_blk hU.b0 1
    simp only [List.getElem?_toArray, List.getElem?_cons_zero, List.getElem?_cons_succ] at c4 c5
    clear hU hb hr hS hlb hnA hnd H0
    obtain ⟨ti, ti1, ti2, ti3, ti4⟩ := item_info
    have HI := Lib.hid (And.intro ti1 (And.intro ti2 (And.intro ti3 ti4)))
    clear ti1 ti2 ti3 ti4
    go_upto_region 6 with (fail)
    go_cut [] from 19 to 28 (fun wx => ∃ S', RefL wx rb S' most (A ++ [(key, p0)]) ∧ Turn w6 S wx S')
    case first =>
      have K0 : Keep wc (World.drew (wc.alloc (.cells #[.string key, .int .i64 p0] 85))) (fun _ => False) := (Keep.alloc wc _ (fun _ => False)).trans (Keep.drew _ (fun _ => False)) (fun _ q => q.elim)
      have R0 := rows_keep HC.out.2.2.1 K0 (fun _ _ q => q)
      have RR := Lib.hid (And.intro K0 (And.intro R0 (cells_new wc [.string key, .int .i64 p0] 85)))
      have c1' := K0.cell c1 (fun q => q)
      simp only [World.cell?_drew] at c1'
      clear K0 R0
      go_region_law (
        (refine step_append_row rfl _ _ _ (by rfl) Tryd.underlying78 HI.out.1 HI.out.2.1 HI.out.2.2.1 HI.out.2.2.2 item_cells (by omega) (by rfl) RR.out.2.1 [.string key, .int .i64 p0] (by rfl) rfl (.inr ⟨_, rfl, RR.out.2.2⟩) (by simp [Value.oneCell']) (by omega) (n + 1) rfl _ rfl ?_
         intro sa2 cap2 w2 ho hk hf2
         have B2 := hk.get (RR.out.1.get HC.out.2.1 (fun q => q)) (fun e => (HC.out.2.2.2.1 _ e.symm).2 rfl)
         have d0 : w2.cell? ⟨rb, 1, none⟩ = some (.slice sa n cap) := by rw [cell_blk B2]; rfl
         have d1 : w2.frozen? ⟨rb, 1, none⟩ = false := free_blk B2 _
         have N := Lib.hid (And.intro ho (And.intro ((RR.out.1.mono (T := fun b => some b = (Value.slice sa n cap).ownBlock) (fun _ q => q.elim)).trans hk (fun b q => .inl q)) hf2))
         clear ho hk hf2 B2))
      all_goals go_wp2
      all_goals go_meet
      all_goals (
        have hz := RR.out.1.size
        obtain ⟨S2, r1, r2⟩ := ref_row HC.out.1.list N.out.2.1 (fun b q => HC.out.2.2.2.1 b q.symm) (T' := A ++ [(key, p0)]) (n := n + 1) (v := .slice sa2 (n + 1) cap2) (by simp [← HC.out.2.2.2.2.2.1]) (by rw [flat_append]; exact N.out.1) (fun b q => (N.out.2.2 b q).imp (HC.out.2.2.2.1 b) (fun z => by rw [z]; exact hz))
        exact ⟨S2, r1, HC.out.1.turn.trans r2⟩)
    case rest =>
      obtain ⟨S', hR', hT'⟩ := hcut
      have hul : used L key = A ++ [(key, p0)] := by unfold used; rw [HP0.out, HA.out]
      have hln : (A ++ [(key, p0)]).length = n + 1 := by simp [← HC.out.2.2.2.2.2.1]
      have HUL := Lib.hid (And.intro hul (And.intro HC.out.2.2.2.2.2.2 HC.out.2.2.2.2.2.1))
      clear c1 f1 c4 c5 hul HC HI
      obtain ⟨v1, hb1, hr1, hS1, hlb1⟩ := hR'.ex
      obtain ⟨sa1, cap1, rfl, hcap1⟩ := rows_val2 hr1
      rw [hln] at hb1 hr1 hcap1
      have V := Lib.hid (And.intro hR' (And.intro hT' (And.intro hb1 (And.intro hr1 hln))))
      have c1 : wc.cell? ⟨rb, 1, none⟩ = some (.slice sa1 (n + 1) cap1) := by rw [cell_blk hb1]; rfl
      have c2 : wc.cell? ⟨rb, 0, none⟩ = some (.int .i64 most) := by rw [cell_blk hb1]; rfl
      clear hR' hT' hb1 hr1 hS1 hlb1 hln
      by_cases hle : (n : Int) + 1 ≤ most
      · have HUN := Lib.hid (show useE most L key = (A ++ [(key, p0)], ByteArray.empty, false) by unfold useE; rw [HUL.out.1, if_pos (by rw [V.out.2.2.2.2]; omega)])
        go_wp2
        go_quiet (fail)
        go_wp2
        go_ret2
        rw [HUN.out]
        exact ⟨rfl, S', V.out.1.aside (drewN_keep _ _ _), V.out.2.1.trans (Turn.drewN _ _ _)⟩
      · have hle' : ¬ (n : Int) + 1 ≤ most := hle
        go_wp2
        go_quiet (fail)
        obtain ⟨wq, hwq⟩ : ∃ wq, wq = wc.drewN nq := ⟨_, rfl⟩
        rw [← hwq]
        have c3 : wq.cell? ⟨rb, 1, none⟩ = some (.slice sa1 (n + 1) cap1) := by rw [hwq]; exact c1
        have Q := Lib.hid (show RefL wq rb S' most (A ++ [(key, p0)]) ∧ Turn w6 S wq S' ∧ wq.ownsRow 0 85 2 (.slice sa1 (n + 1) cap1) (n + 1) (flat entV (A ++ [(key, p0)])) from by
          rw [hwq]
          exact ⟨V.out.1.aside (drewN_keep _ _ _), V.out.2.1.trans (Turn.drewN _ _ _), rows_keep V.out.2.2.2.1 (drewN_keep _ (fun _ => False) _) (fun _ _ q => q)⟩)
        clear hwq c1 c2
        go_wp2
        go_loopg [8] n (fun g s8 wr => ∃ k : Nat, s8 = .int .i64 k ∧ k + g = n ∧ (∀ y ∈ (A ++ [(key, p0)]).take k, y.2 ≠ 0) ∧ wr = wq)
        case atStart => exact ⟨0, rfl, by omega, by simp, rfl⟩
        case round =>
          obtain ⟨k, rfl, hk, hne, rfl⟩ := hrel
          have NE := Lib.hid hne
          clear hne
          by_cases hlt : k < n
          · have hlt' : (k : Int) < (n : Int) := by omega
            obtain ⟨g, rfl, _, _, _⟩ := rows_some Q.out.2.2 (by omega)
            obtain ⟨x, hx⟩ : ∃ x, (A ++ [(key, p0)])[k]? = some x := ⟨_, List.getElem?_eq_getElem (by rw [V.out.2.2.2.2]; omega)⟩
            have c4 : wr.cell? ⟨g, k * 2 + 1, none⟩ = some (.int .i64 x.2) := (rows_cell Q.out.2.2 (by rw [flat_get entV 2 entV_len hx (by omega)]; rfl)).1
            by_cases h0 : x.2 = 0
            · have ho := out_c Q.out.1 (by rw [V.out.2.2.2.2]; omega) hx
              have HF := Lib.hid (show useE most L key = ((A ++ [(key, p0)]).eraseIdx k, x.1, true) by
                unfold useE
                rw [HUL.out.1, if_neg (by rw [V.out.2.2.2.2]; omega), use_found HUL.out.2.1 hx (by rw [← HUL.out.2.2]; exact hlt) h0 NE.out]
                simp only
                rw [adel_at HUL.out.2.1 hx])
              rw [h0] at c4
              clear hx h0
              have hfd := item_field
              go_wp2_with fail
              refine ho.mono ?_
              rintro e w3 ⟨rfl, S3, hL3, hT3⟩
              have N3 := Lib.hid (And.intro hL3 hT3)
              clear ho hL3 hT3
              go_wp2
              go_ret2
              rw [HF.out]
              exact ⟨rfl, S3, N3.out.1, Q.out.2.1.trans N3.out.2⟩
            · have g0 : (x.2 == 0) = false := by simpa using h0
              have HX := Lib.hid (And.intro hx h0)
              clear hx h0
              go_wp2
              go_roundg (n - (k + 1))
              case measure => omega
              case rel =>
                refine ⟨k + 1, rfl, by omega, ?_, rfl⟩
                intro y hy
                rw [List.take_add_one, HX.out.1] at hy
                rcases List.mem_append.1 hy with hy | hy
                · exact NE.out y hy
                · simp at hy; subst hy; exact HX.out.2
          · have hlt' : ¬ (k : Int) < (n : Int) := by omega
            have hkn : k = n := by omega
            have HF := Lib.hid (show useE most L key = (A ++ [(key, p0)], ByteArray.empty, false) by
              unfold useE
              rw [HUL.out.1, if_neg (by rw [V.out.2.2.2.2]; omega), use_none (by rw [← HUL.out.2.2, ← hkn]; exact NE.out)])
            clear hkn
            go_wp2
            refine bodyPost_ret (v := .tuple #[.string ByteArray.empty, .bool false]) (by simp [results, Tryd.results33, go_sem]; try rfl) rfl ?_
            rw [HF.out]
            exact ⟨rfl, S', Q.out.1, Q.out.2.1⟩

end Go.Proofs.YtjicoebcmfnooaaDoor
