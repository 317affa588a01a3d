/-
  Parts of the walk's proof: TreeW10. (joined by pack.py)
-/
import Derived.Test.YtoanccechefclaaGreatDoorK09
set_option linter.unusedSectionVars false
set_option linter.unusedSimpArgs false
set_option linter.unusedVariables false
namespace Go.Proofs.YtoanccechefclaaGreatDoor
open Go Go.RowKit
set_option maxRecDepth 100000
theorem size_list (x : ByteArray) : x.size = 0 ↔ x.toList.isEmpty = true := by
  rw [List.isEmpty_iff, ByteArray.toList_eq, ← List.length_eq_zero_iff]
  exact Iff.rfl
theorem add_get (T : TreeV) (kind mode uid gid : Int) (text : ByteArray) : aget (T.add kind mode uid gid text).all (T.made + 1) = some ⟨kind, mode, uid, gid, [], 0, 0, 0, text, if kind = 2 then T.pool.made + 1 else 0⟩ := by
  unfold TreeV.add
  rw [aget_aset, if_pos rfl]
theorem give_get {T : TreeV} {d n : Int} {dx x : NodeV} {k : ByteArray} (hd : aget T.all d = some dx) (hx : aget T.all n = some x) : aget (T.give d k n).all n = some { x with links := x.links + 1, up := if x.kind = 1 then d else x.up } := by
  unfold TreeV.give
  rw [hd, hx]
  show aget (aset _ n _) n = _
  rw [aget_aset, if_pos rfl]
set_option maxHeartbeats 1600000 in
theorem tmake_c {w : World} {tb : Nat} {s : TShape} {T : TreeV} {bl : Int} (h : TreeIn w tb s T) (hg : T.good bl) (hs : T.small 900000) {r : Bool} {k : ByteArray} (hr : RightIs k r) (d : Int) (st : TreeV.StatV) (text : ByteArray) :
    Calls Tryz.prog 33 #[.pointer (some ⟨tb, 0, none⟩), .int .i64 d, .string k, .agg (statC st), .string text] w fun e w' =>
      e = .returned (.tuple #[.int .i64 (T.make r d k st.kind (maskV st.mode) st.uid st.gid text).2.1, .int .i64 (T.make r d k st.kind (maskV st.mode) st.uid st.gid text).2.2]) ∧ ∃ s', TreeIn w' tb s' (T.make r d k st.kind (maskV st.mode) st.uid st.gid text).1 ∧ TurnT w s w' s' := by
  obtain ⟨U, v1, v2, hU⟩ : ∃ U v1 v2, T.make r d k st.kind (maskV st.mode) st.uid st.gid text = (U, v1, v2) := ⟨_, _, _, rfl⟩
  rw [hU]
  obtain ⟨wA, hwA⟩ : ∃ wA, wA = w.alloc (.cells (statC st) 36) := ⟨_, rfl⟩
  have ka := Keep.alloc w (.cells (statC st) 36) (fun _ => False)
  have aa := heap_alloc_eq w (.cells (statC st) 36)
  rw [← hwA] at ka aa
  have hA := h.aside ka
  have hS : StatAt wA w.heap.size st := ⟨aa⟩
  have same : ∀ w', Keep wA w' (fun _ => False) → ∃ s', TreeIn w' tb s' T ∧ TurnT w s w' s' := fun w' q => ⟨s, hA.aside q, TurnT.aside (ka.aside q)⟩
  have fin : ∀ w' v1' v2', Keep wA w' (fun _ => False) → Hid (T.make r d k st.kind (maskV st.mode) st.uid st.gid text = (T, v1', v2')) → (Ending.returned (.tuple #[.int .i64 v1', .int .i64 v2']) = Ending.returned (.tuple #[.int .i64 v1, .int .i64 v2])) ∧ ∃ s', TreeIn w' tb s' U ∧ TurnT w s w' s' := fun w' v1' v2' z q => by
    have e := hU.symm.trans q.out
    simp only [Prod.mk.injEq] at e
    obtain ⟨rfl, rfl, rfl⟩ := e
    exact ⟨rfl, same _ z⟩
  have HF := Lib.hid fin
  have HU := Lib.hid hU
  have hd := tdir_c hA d
  obtain ⟨-, e1, -, -, -, -, -⟩ := hS.cells
  have H := Lib.hid (And.intro h (And.intro hg (And.intro hs (And.intro hA (And.intro hS (And.intro ka (And.intro hwA hr)))))))
  simp only
  clear h hg hs hA hS hr same fin hU ka aa hwA
  unfold statC
  go_enter Tryz.func33, Tryz.ntmps33
  go_upto_region 1 with (fail)
  rw [show w.alloc (.cells #[.int .i64 st.node, .int .i64 st.kind, .int .i64 st.mode, .int .i64 st.uid, .int .i64 st.gid, .int .i64 st.links, .int .i64 st.size] 36) = wA from H.out.2.2.2.2.2.2.1.symm]
  cases hx : T.dir d with
  | none =>
    have HX := Lib.hid (show T.make r d k st.kind (maskV st.mode) st.uid st.gid text = (T, 0, 1) by unfold TreeV.make; simp only [hx])
    rw [isDir_not hx] at hd
    simp only [Bool.false_eq_true, if_false] at hd
    clear hx
    go_wp2_with (
      go_at_call 64
      refine hd.mono ?_
      rintro e w1 ⟨rfl, rfl⟩
      clear hd)
    go_ret2
    exact HF.out _ _ _ (Keep.refl _ _) HX
  | some dx =>
    rw [isDir_eq hx] at hd
    simp only [if_true] at hd
    have hri := H.out.2.2.2.2.2.2.2
    by_cases hbad : r = false ∨ st.kind < 1 ∨ 3 < st.kind ∨ (text.size ≠ 0 ∧ st.kind ≠ 3)
    · have HX := Lib.hid (show T.make r d k st.kind (maskV st.mode) st.uid st.gid text = (T, 0, 1) by unfold TreeV.make; simp only [hx]; rw [if_pos hbad])
      clear hx
      cases r with
      | false =>
        clear hbad
        go_wp2_with (first
          | (go_at_call 64
             refine hd.mono ?_
             rintro e w1 ⟨rfl, rfl⟩
             clear hd)
          | (go_at_call 65
             refine (hri _).mono ?_
             rintro e w1 ⟨rfl, rfl⟩))
        go_ret2
        exact HF.out _ _ _ (Keep.refl _ _) HX
      | true =>
        simp only [Bool.true_eq_false, false_or] at hbad
        by_cases q1 : st.kind < 1
        · clear hbad
          go_wp2_with (first
            | (go_at_call 64
               refine hd.mono ?_
               rintro e w1 ⟨rfl, rfl⟩
               clear hd)
            | (go_at_call 65
               refine (hri _).mono ?_
               rintro e w1 ⟨rfl, rfl⟩))
          go_ret2
          exact HF.out _ _ _ (Keep.refl _ _) HX
        · by_cases q2 : 3 < st.kind
          · clear hbad
            go_wp2_with (first
              | (go_at_call 64
                 refine hd.mono ?_
                 rintro e w1 ⟨rfl, rfl⟩
                 clear hd)
              | (go_at_call 65
                 refine (hri _).mono ?_
                 rintro e w1 ⟨rfl, rfl⟩))
            go_ret2
            exact HF.out _ _ _ (Keep.refl _ _) HX
          · obtain ⟨q3, q4⟩ : text.size ≠ 0 ∧ st.kind ≠ 3 := by
              rcases hbad with z | z | z
              · exact absurd z q1
              · exact absurd z q2
              · exact z
            have q3' : text.toList.isEmpty = false := by
              cases hq : text.toList.isEmpty with
              | false => rfl
              | true => exact absurd ((size_list text).2 hq) q3
            have g4 : (st.kind != 3) = true := by simpa using q4
            clear hbad q3
            go_wp2_with (first
              | (go_at_call 64
                 refine hd.mono ?_
                 rintro e w1 ⟨rfl, rfl⟩
                 clear hd)
              | (go_at_call 65
                 refine (hri _).mono ?_
                 rintro e w1 ⟨rfl, rfl⟩))
            go_ret2
            exact HF.out _ _ _ (Keep.refl _ _) HX
    · have hok : r = true ∧ 1 ≤ st.kind ∧ st.kind ≤ 3 ∧ (text.toList.isEmpty = true ∨ st.kind = 3) := by
        simp only [not_or] at hbad
        obtain ⟨z1, z2, z3, z4⟩ := hbad
        refine ⟨by simpa using z1, by omega, by omega, ?_⟩
        by_cases z : st.kind = 3
        · exact .inr z
        · left
          rw [← size_list]
          exact Classical.byContradiction fun y => z4 ⟨y, z⟩
      obtain ⟨rfl, q1, q2, q3⟩ := hok
      obtain ⟨hdg, hdk⟩ := TreeV.dir_some hx
      have hf := tfree_c H.out.2.2.2.1 hdg hdk k
      by_cases hf0 : TreeV.free d dx k = 0
      · obtain ⟨hfk, hfn⟩ := free_zero hf0
        rw [hf0] at hf
        have hdl := (H.out.2.2.1.node hdg).2.2
        have hdr := tdirs_c H.out.2.2.2.1 hdg hdk (by omega)
        by_cases hml : st.kind = 1 ∧ 16 ≤ T.dirs d dx
        · have HX := Lib.hid (show T.make true d k st.kind (maskV st.mode) st.uid st.gid text = (T, 0, 44) by unfold TreeV.make; simp only [hx]; rw [if_neg hbad, if_neg (fun q => q hf0), if_pos hml])
          obtain ⟨m1, m2⟩ := hml
          simp only [m1] at e1
          have g3 : text.toList.isEmpty = true := by
            rcases q3 with z | z
            · exact z
            · omega
          generalize T.dirs d dx = dn at *
          clear hx hbad hdg hdk hf0 hfk hfn hdl q3 q1 q2
          go_wp2_with (first
            | (go_at_call 64
               refine hd.mono ?_
               rintro e w1 ⟨rfl, rfl⟩
               clear hd)
            | (go_at_call 65
               refine (hri _).mono ?_
               rintro e w1 ⟨rfl, rfl⟩)
            | (go_at_call 66
               refine hf.mono ?_
               rintro e w1 ⟨rfl, rfl⟩
               clear hf)
            | (go_at_call 56
               refine hdr.mono ?_
               rintro e w2 ⟨rfl, k2⟩
               have K2 := Lib.hid k2
               clear hdr k2))
          go_ret2
          exact HF.out _ _ _ K2.out HX
        · have hb1 := Lib.hid (show ¬ (true = false ∨ st.kind < 1 ∨ 3 < st.kind ∨ (text.size ≠ 0 ∧ st.kind ≠ 3)) from hbad)
          have hb2 := Lib.hid (show ¬ (TreeV.free d dx k ≠ 0) from fun q => q hf0)
          have hb3 := Lib.hid hml
          have hb4 := Lib.hid (And.intro hx (And.intro hdg (And.intro hdk hdl)))
          have hkinds : (st.kind = 1 ∧ text.toList.isEmpty = true ∧ ¬ 16 ≤ T.dirs d dx) ∨ ((st.kind == 1) = false ∧ text.toList.isEmpty = true) ∨ (st.kind = 3 ∧ text.toList.isEmpty = false) := by
            by_cases z1 : st.kind = 1
            · left
              refine ⟨z1, ?_, fun q => hml ⟨z1, q⟩⟩
              rcases q3 with z | z
              · exact z
              · omega
            · right
              cases z2 : text.toList.isEmpty with
              | true => exact .inl ⟨by simpa using z1, rfl⟩
              | false =>
                right
                rcases q3 with z | z
                · rw [z2] at z; cases z
                · exact ⟨z, rfl⟩
          have he1 := Lib.hid e1
          clear hx hbad hdg hdk hf0 hfk hfn hdl q3 hml
          have hdn : ∃ dn, T.dirs d dx = dn := ⟨_, rfl⟩
          rcases hkinds with ⟨m1, m2, m3⟩ | ⟨m1, m2⟩ | ⟨m1, m2⟩
          · simp only [m1] at e1
            go_upto_region 9 with (first
              | (go_at_call 64
                 refine hd.mono ?_
                 rintro e w1 ⟨rfl, rfl⟩
                 clear hd)
              | (go_at_call 65
                 refine (hri _).mono ?_
                 rintro e w1 ⟨rfl, rfl⟩)
              | (go_at_call 66
                 refine hf.mono ?_
                 rintro e w1 ⟨rfl, rfl⟩
                 clear hf)
              | (go_at_call 56
                 refine hdr.mono ?_
                 rintro e w2 ⟨rfl, k2⟩
                 have K2 := Lib.hid k2
                 clear hdr k2))
            have HK := Lib.hid (show st.kind = 1 from m1)
            clear m1 m2 m3 e1
            have h2 := H.out.2.2.2.1.aside K2.out
            have hS2 : StatAt w2 w.heap.size st := ⟨(K2.out).get H.out.2.2.2.2.1.blk (fun q => q)⟩
            have ca := h2.hcells.all
            have cm := h2.hcells.most
            have hlen := len_run (P := Tryz.prog) tNodes h2.all.drew 3
            rw [nodesV_len s T.all] at hlen
            have hD := h2.aside (Keep.drew w2 (fun _ => False))
            have hKw : Keep w w2.drew (fun _ => False) := (H.out.2.2.2.2.2.1.aside (K2.out)).drewNew
            obtain ⟨y0, y1, y2, y3, y4, y5, y6⟩ := hS2.cells
            by_cases hroom : T.most ≤ (T.all.length : Int)
            · have HX := Lib.hid (show T.make true d k st.kind (maskV st.mode) st.uid st.gid text = (T, 0, 43) by unfold TreeV.make; simp only [hb4.out.1]; rw [if_neg hb1.out, if_neg hb2.out, if_neg hb3.out, if_pos hroom])
              generalize (T.all.length : Int) = len at *
              clear h2 hS2 hD hKw
              go_region
              go_wp2
              go_ret2
              exact HF.out _ _ _ (Keep.drewNew (K2.out)) HX
            · have HX := Lib.hid (show T.make true d k st.kind (maskV st.mode) st.uid st.gid text = ((T.add st.kind (maskV st.mode) st.uid st.gid text).give d k (T.made + 1), T.made + 1, 0) by unfold TreeV.make; simp only [hb4.out.1]; rw [if_neg hb1.out, if_neg hb2.out, if_neg hb3.out, if_neg hroom])
              have hadd := tadd_c hD H.out.2.1.pool ⟨H.out.2.2.1.made.1, by have := H.out.2.2.1.made.2; omega⟩ (by have := H.out.2.2.1.pool; omega) (fun x hx => (H.out.2.1.ok.range x hx).2) st text
              unfold statC at hadd
              have D := Lib.hid hKw
              clear hKw hD
              generalize (T.all.length : Int) = len at *
              clear h2 hS2
              go_region
              go_wp2_with (first
                | (go_at_call 67
                   refine hadd.mono ?_
                   rintro e w3 ⟨s3, rfl, i1, i2, i3⟩
                   have hfresh : d ≠ T.made + 1 := fun q => by have := (H.out.2.1.ok.range _ (aget_memN hb4.out.2.1)).2; simp only at this; omega
                   have hd2 : aget (T.add st.kind (maskV st.mode) st.uid st.gid text).all d = some dx := by
                     unfold TreeV.add
                     rw [aget_aset, if_neg (fun q => hfresh q.symm)]
                     exact hb4.out.2.1
                   have hn2 := add_get T st.kind (maskV st.mode) st.uid st.gid text
                   have hgv := tgive_c i1 hd2 hb4.out.2.2.1 hn2 hfresh ⟨H.out.2.2.1.turns.1, by have := H.out.2.2.1.turns.2; show T.turns ≤ _; omega⟩ ⟨Int.le_refl _, show (0 : Int) ≤ 1000000 by decide⟩ k
                   rw [(i2 d hfresh).1] at hgv
                   have N := Lib.hid (And.intro i1 (And.intro i3 (And.intro hd2 (And.intro hn2 hfresh))))
                   clear hadd i1 i2 i3 hfresh hd2 hn2)
                | (go_at_call 68
                   refine hgv.mono ?_
                   rintro e w4 ⟨⟨v, rfl⟩, j1, j2⟩
                   have c9 := (j1.cells (give_get N.out.2.2.1 N.out.2.2.2.1)).node
                   have M := Lib.hid (And.intro j1 j2)
                   clear hgv j1 j2))
              go_ret2
              have e := HU.out.symm.trans HX.out
              simp only [Prod.mk.injEq] at e
              obtain ⟨rfl, rfl, rfl⟩ := e
              exact ⟨rfl, s3, M.out.1, ((TurnT.aside D.out).trans N.out.2.1).trans (TurnT.same M.out.2)⟩
          · clear hdr
            go_upto_region 9 with (first
              | (go_at_call 64
                 refine hd.mono ?_
                 rintro e w1 ⟨rfl, rfl⟩
                 clear hd)
              | (go_at_call 65
                 refine (hri _).mono ?_
                 rintro e w1 ⟨rfl, rfl⟩)
              | (go_at_call 66
                 refine hf.mono ?_
                 rintro e w1 ⟨rfl, rfl⟩
                 clear hf)
              | (go_at_call 56
                 refine hdr.mono ?_
                 rintro e w2 ⟨rfl, k2⟩
                 have K2 := Lib.hid k2
                 clear hdr k2))
            have h2 := H.out.2.2.2.1.aside (Keep.refl wA (fun _ => False))
            have hS2 : StatAt wA w.heap.size st := ⟨((Keep.refl wA (fun _ => False))).get H.out.2.2.2.2.1.blk (fun q => q)⟩
            have ca := h2.hcells.all
            have cm := h2.hcells.most
            have hlen := len_run (P := Tryz.prog) tNodes h2.all.drew 3
            rw [nodesV_len s T.all] at hlen
            have hD := h2.aside (Keep.drew wA (fun _ => False))
            have hKw : Keep w wA.drew (fun _ => False) := (H.out.2.2.2.2.2.1.aside ((Keep.refl wA (fun _ => False)))).drewNew
            obtain ⟨y0, y1, y2, y3, y4, y5, y6⟩ := hS2.cells
            by_cases hroom : T.most ≤ (T.all.length : Int)
            · have HX := Lib.hid (show T.make true d k st.kind (maskV st.mode) st.uid st.gid text = (T, 0, 43) by unfold TreeV.make; simp only [hb4.out.1]; rw [if_neg hb1.out, if_neg hb2.out, if_neg hb3.out, if_pos hroom])
              generalize (T.all.length : Int) = len at *
              clear h2 hS2 hD hKw
              go_region
              go_wp2
              go_ret2
              exact HF.out _ _ _ (Keep.drewNew ((Keep.refl wA (fun _ => False)))) HX
            · have HX := Lib.hid (show T.make true d k st.kind (maskV st.mode) st.uid st.gid text = ((T.add st.kind (maskV st.mode) st.uid st.gid text).give d k (T.made + 1), T.made + 1, 0) by unfold TreeV.make; simp only [hb4.out.1]; rw [if_neg hb1.out, if_neg hb2.out, if_neg hb3.out, if_neg hroom])
              have hadd := tadd_c hD H.out.2.1.pool ⟨H.out.2.2.1.made.1, by have := H.out.2.2.1.made.2; omega⟩ (by have := H.out.2.2.1.pool; omega) (fun x hx => (H.out.2.1.ok.range x hx).2) st text
              unfold statC at hadd
              have D := Lib.hid hKw
              clear hKw hD
              generalize (T.all.length : Int) = len at *
              clear h2 hS2
              go_region
              go_wp2_with (first
                | (go_at_call 67
                   refine hadd.mono ?_
                   rintro e w3 ⟨s3, rfl, i1, i2, i3⟩
                   have hfresh : d ≠ T.made + 1 := fun q => by have := (H.out.2.1.ok.range _ (aget_memN hb4.out.2.1)).2; simp only at this; omega
                   have hd2 : aget (T.add st.kind (maskV st.mode) st.uid st.gid text).all d = some dx := by
                     unfold TreeV.add
                     rw [aget_aset, if_neg (fun q => hfresh q.symm)]
                     exact hb4.out.2.1
                   have hn2 := add_get T st.kind (maskV st.mode) st.uid st.gid text
                   have hgv := tgive_c i1 hd2 hb4.out.2.2.1 hn2 hfresh ⟨H.out.2.2.1.turns.1, by have := H.out.2.2.1.turns.2; show T.turns ≤ _; omega⟩ ⟨Int.le_refl _, show (0 : Int) ≤ 1000000 by decide⟩ k
                   rw [(i2 d hfresh).1] at hgv
                   have N := Lib.hid (And.intro i1 (And.intro i3 (And.intro hd2 (And.intro hn2 hfresh))))
                   clear hadd i1 i2 i3 hfresh hd2 hn2)
                | (go_at_call 68
                   refine hgv.mono ?_
                   rintro e w4 ⟨⟨v, rfl⟩, j1, j2⟩
                   have c9 := (j1.cells (give_get N.out.2.2.1 N.out.2.2.2.1)).node
                   have M := Lib.hid (And.intro j1 j2)
                   clear hgv j1 j2))
              go_ret2
              have e := HU.out.symm.trans HX.out
              simp only [Prod.mk.injEq] at e
              obtain ⟨rfl, rfl, rfl⟩ := e
              exact ⟨rfl, s3, M.out.1, ((TurnT.aside D.out).trans N.out.2.1).trans (TurnT.same M.out.2)⟩
          · simp only [m1] at e1
            go_upto_region 9 with (first
              | (go_at_call 64
                 refine hd.mono ?_
                 rintro e w1 ⟨rfl, rfl⟩
                 clear hd)
              | (go_at_call 65
                 refine (hri _).mono ?_
                 rintro e w1 ⟨rfl, rfl⟩)
              | (go_at_call 66
                 refine hf.mono ?_
                 rintro e w1 ⟨rfl, rfl⟩
                 clear hf)
              | (go_at_call 56
                 refine hdr.mono ?_
                 rintro e w2 ⟨rfl, k2⟩
                 have K2 := Lib.hid k2
                 clear hdr k2))
            clear e1 m1 m2
            have h2 := H.out.2.2.2.1.aside (Keep.refl wA (fun _ => False))
            have hS2 : StatAt wA w.heap.size st := ⟨((Keep.refl wA (fun _ => False))).get H.out.2.2.2.2.1.blk (fun q => q)⟩
            have ca := h2.hcells.all
            have cm := h2.hcells.most
            have hlen := len_run (P := Tryz.prog) tNodes h2.all.drew 3
            rw [nodesV_len s T.all] at hlen
            have hD := h2.aside (Keep.drew wA (fun _ => False))
            have hKw : Keep w wA.drew (fun _ => False) := (H.out.2.2.2.2.2.1.aside ((Keep.refl wA (fun _ => False)))).drewNew
            obtain ⟨y0, y1, y2, y3, y4, y5, y6⟩ := hS2.cells
            by_cases hroom : T.most ≤ (T.all.length : Int)
            · have HX := Lib.hid (show T.make true d k st.kind (maskV st.mode) st.uid st.gid text = (T, 0, 43) by unfold TreeV.make; simp only [hb4.out.1]; rw [if_neg hb1.out, if_neg hb2.out, if_neg hb3.out, if_pos hroom])
              generalize (T.all.length : Int) = len at *
              clear h2 hS2 hD hKw
              go_region
              go_wp2
              go_ret2
              exact HF.out _ _ _ (Keep.drewNew ((Keep.refl wA (fun _ => False)))) HX
            · have HX := Lib.hid (show T.make true d k st.kind (maskV st.mode) st.uid st.gid text = ((T.add st.kind (maskV st.mode) st.uid st.gid text).give d k (T.made + 1), T.made + 1, 0) by unfold TreeV.make; simp only [hb4.out.1]; rw [if_neg hb1.out, if_neg hb2.out, if_neg hb3.out, if_neg hroom])
              have hadd := tadd_c hD H.out.2.1.pool ⟨H.out.2.2.1.made.1, by have := H.out.2.2.1.made.2; omega⟩ (by have := H.out.2.2.1.pool; omega) (fun x hx => (H.out.2.1.ok.range x hx).2) st text
              unfold statC at hadd
              have D := Lib.hid hKw
              clear hKw hD
              generalize (T.all.length : Int) = len at *
              clear h2 hS2
              go_region
              go_wp2_with (first
                | (go_at_call 67
                   refine hadd.mono ?_
                   rintro e w3 ⟨s3, rfl, i1, i2, i3⟩
                   have hfresh : d ≠ T.made + 1 := fun q => by have := (H.out.2.1.ok.range _ (aget_memN hb4.out.2.1)).2; simp only at this; omega
                   have hd2 : aget (T.add st.kind (maskV st.mode) st.uid st.gid text).all d = some dx := by
                     unfold TreeV.add
                     rw [aget_aset, if_neg (fun q => hfresh q.symm)]
                     exact hb4.out.2.1
                   have hn2 := add_get T st.kind (maskV st.mode) st.uid st.gid text
                   have hgv := tgive_c i1 hd2 hb4.out.2.2.1 hn2 hfresh ⟨H.out.2.2.1.turns.1, by have := H.out.2.2.1.turns.2; show T.turns ≤ _; omega⟩ ⟨Int.le_refl _, show (0 : Int) ≤ 1000000 by decide⟩ k
                   rw [(i2 d hfresh).1] at hgv
                   have N := Lib.hid (And.intro i1 (And.intro i3 (And.intro hd2 (And.intro hn2 hfresh))))
                   clear hadd i1 i2 i3 hfresh hd2 hn2)
                | (go_at_call 68
                   refine hgv.mono ?_
                   rintro e w4 ⟨⟨v, rfl⟩, j1, j2⟩
                   have c9 := (j1.cells (give_get N.out.2.2.1 N.out.2.2.2.1)).node
                   have M := Lib.hid (And.intro j1 j2)
                   clear hgv j1 j2))
              go_ret2
              have e := HU.out.symm.trans HX.out
              simp only [Prod.mk.injEq] at e
              obtain ⟨rfl, rfl, rfl⟩ := e
              exact ⟨rfl, s3, M.out.1, ((TurnT.aside D.out).trans N.out.2.1).trans (TurnT.same M.out.2)⟩
      · have HX := Lib.hid (show T.make true d k st.kind (maskV st.mode) st.uid st.gid text = (T, 0, TreeV.free d dx k) by unfold TreeV.make; simp only [hx]; rw [if_neg hbad, if_pos hf0])
        have g2 : (TreeV.free d dx k != 0) = true := by simpa using hf0
        generalize TreeV.free d dx k = fr at *
        clear hx hbad hdg hdk hf0
        rcases q3 with g3 | g3
        · go_wp2_with (first
            | (go_at_call 64
               refine hd.mono ?_
               rintro e w1 ⟨rfl, rfl⟩
               clear hd)
            | (go_at_call 65
               refine (hri _).mono ?_
               rintro e w1 ⟨rfl, rfl⟩)
            | (go_at_call 66
               refine hf.mono ?_
               rintro e w1 ⟨rfl, rfl⟩
               clear hf))
          go_ret2
          exact HF.out _ _ _ (Keep.refl _ _) HX
        · simp only [g3] at e1
          cases g5 : text.toList.isEmpty
          all_goals
            go_wp2_with (first
              | (go_at_call 64
                 refine hd.mono ?_
                 rintro e w1 ⟨rfl, rfl⟩
                 clear hd)
              | (go_at_call 65
                 refine (hri _).mono ?_
                 rintro e w1 ⟨rfl, rfl⟩)
              | (go_at_call 66
                 refine hf.mono ?_
                 rintro e w1 ⟨rfl, rfl⟩
                 clear hf))
            go_ret2
            exact HF.out _ _ _ (Keep.refl _ _) HX
end Go.Proofs.YtoanccechefclaaGreatDoor
