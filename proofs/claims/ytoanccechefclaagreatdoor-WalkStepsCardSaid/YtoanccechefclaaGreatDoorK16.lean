/-
  Parts of the walk's proof: TreeWs. (joined by pack.py)
-/
import Derived.Test.YtoanccechefclaaGreatDoorK01
import Derived.Test.YtoanccechefclaaGreatDoorK06
import Derived.Test.YtoanccechefclaaGreatDoorK08
import Derived.Test.YtoanccechefclaaGreatDoorK09
import Derived.Test.YtoanccechefclaaGreatDoorK13
set_option linter.unusedSectionVars false
set_option linter.unusedSimpArgs false
set_option linter.unusedVariables false
namespace Go.Proofs.YtoanccechefclaaGreatDoor
open Go Go.RowKit
set_option maxRecDepth 100000
theorem kid_pos {T : TreeV} (h : T.ok) {d n : Int} {dx x : NodeV} {k : ByteArray} (hd : T.dir d = some dx) (hk : aget dx.names k = some n) (hx : aget T.all n = some x) : 0 < x.links := by
  have hl := h.links _ (aget_memN hx)
  simp only at hl
  have hpos : namesOf T.all n ≠ 0 := fun q => namesOf_zero q _ (aget_memN (TreeV.dir_some hd).1) _ (aget_memS hk) rfl
  omega
theorem TreeIn.loseName {w w2 : World} {tb : Nat} {s : TShape} {T : TreeV} (h : TreeIn w tb s T) {d n : Int} {dx x : NodeV} {k : ByteArray} (hd : aget T.all d = some dx) (hdk : dx.kind = 1) (hx : aget T.all n = some x) (hne : d ≠ n)
    (K : Keep w w2 (fun b => b = s.nm d)) (hM : MapAt w2 (s.nm d) kStr (namesV (adel dx.names k))) :
    (w2.cell? ⟨s.na n, 9, none⟩ = some (.int .i64 x.links) ∧ w2.frozen? ⟨s.na n, 9, none⟩ = false) ∧ TreeIn (w2.setCell ⟨s.na n, 9, none⟩ (.int .i64 (x.links - 1))) tb s (T.loseName d k n) ∧ Keep w (w2.setCell ⟨s.na n, 9, none⟩ (.int .i64 (x.links - 1))) s.has := by
  have h2 := h.setNames hd hdk K hM
  have hn2 : aget (T.set d { dx with names := adel dx.names k }).all n = some x := by
    show aget (aset T.all d _) n = some x
    rw [aget_aset, if_neg hne]
    exact hx
  have s3 := heap_setCell_eq (off := 9) (Value.int .i64 (x.links - 1)) (h2.node_at hn2)
  have h3 := h2.setNode (x' := { x with links := x.links - 1 }) hn2 rfl rfl (Keep.setCell w2 ⟨s.na n, 9, none⟩ (.int .i64 (x.links - 1))) (by simpa [nodeC, namesB] using s3)
  have eL : (T.set d { dx with names := adel dx.names k }).set n { x with links := x.links - 1 } = T.loseName d k n := by
    unfold TreeV.loseName
    rw [hd, hx]
    rfl
  rw [eL] at h3
  exact ⟨⟨(h2.cells hn2).links, free_blk (h2.node_at hn2) 9⟩, h3, (K.mono (fun b q => by rw [q]; exact has_of (h.tnames hd hdk))).trans (Keep.setCell _ _ _) (fun b q => .inl (by rw [show b = s.na n from q]; exact has_of (h.tnode hx)))⟩
theorem lose_get {T : TreeV} {d e n : Int} {dx ex x : NodeV} {k : ByteArray} (hd : aget T.all d = some dx) (hx : aget T.all n = some x) (he : aget T.all e = some ex) (hek : ex.kind = 1) (hne : e ≠ n) :
    aget (T.loseName d k n).all n = some { x with links := x.links - 1 } ∧ ∃ ex', aget (T.loseName d k n).all e = some ex' ∧ ex'.kind = 1 := by
  have hget : ∀ m, aget (T.loseName d k n).all m = if n = m then some { x with links := x.links - 1 } else if d = m then some { dx with names := adel dx.names k } else aget T.all m := by
    intro m
    unfold TreeV.loseName
    rw [hd, hx]
    simp only
    rw [aget_aset, aget_aset]
  refine ⟨by rw [hget, if_pos rfl], ?_⟩
  by_cases q : d = e
  · rw [q, he] at hd
    have e1 := Option.some.inj hd
    subst e1
    exact ⟨{ ex with names := adel ex.names k }, by rw [hget, if_neg (fun z => hne z.symm), if_pos q], hek⟩
  · exact ⟨ex, by rw [hget, if_neg (fun z => hne z.symm), if_neg q]; exact he, hek⟩
theorem lose_turns (T : TreeV) (d n : Int) (k : ByteArray) : (T.loseName d k n).turns = T.turns := by unfold TreeV.loseName; split <;> rfl
theorem overS_move {T : TreeV} {n m : Int} {x y : NodeV} (hx : aget T.all n = some x) (hy : aget T.all m = some y) :
    (T.isDir n = decide (x.kind = 1)) ∧ (T.isDir m = decide (y.kind = 1)) := by
  constructor
  · unfold TreeV.isDir TreeV.dir
    rw [hx]
    by_cases k : x.kind = 1 <;> simp [Option.filter, k]
  · unfold TreeV.isDir TreeV.dir
    rw [hy]
    by_cases k : y.kind = 1 <;> simp [Option.filter, k]
theorem move_some {T : TreeV} {d e n m : Int} {dx ex x y : NodeV} {k z : ByteArray} (hd : T.dir d = some dx) (he : T.dir e = some ex) (hk : aget dx.names k = some n) (hen : TreeV.named e ex = true) (hc : ¬ (T.isDir n = true ∧ (n = e ∨ T.within e n = true)))
    (hz : aget ex.names z = some m) (hmn : m ≠ n) (hx : aget T.all n = some x) (hy : aget T.all m = some y) :
    T.move true d k e z = if overS x y = 0 then (((T.take e z m).loseName d k n).give e z n, 0) else (T, overS x y) := by
  obtain ⟨i1, i2⟩ := overS_move hx hy
  unfold TreeV.move overS
  rw [hd, he]
  simp only [Bool.true_eq_false, if_false]
  rw [hk]
  simp only
  rw [if_neg (by rw [hen]; simp), if_neg hc, hz]
  simp only
  rw [if_neg hmn, i1, i2, hy]
  by_cases k1 : x.kind = 1
  · by_cases k2 : y.kind = 1
    · by_cases k3 : y.names = []
      · simp [k1, k2, k3]
      · have k3' : y.names.isEmpty = false := by cases q : y.names with | nil => exact absurd q k3 | cons a b => rfl
        simp [k1, k2, k3, k3']
    · simp [k1, k2]
  · by_cases k2 : y.kind = 1
    · simp [k1, k2]
    · simp [k1, k2]
theorem move_none {T : TreeV} {d e n : Int} {dx ex x : NodeV} {k z : ByteArray} (hd : T.dir d = some dx) (he : T.dir e = some ex) (hk : aget dx.names k = some n) (hen : TreeV.named e ex = true) (hc : ¬ (T.isDir n = true ∧ (n = e ∨ T.within e n = true)))
    (hz : aget ex.names z = none) (hx : aget T.all n = some x) :
    T.move true d k e z = if (if x.kind = 1 ∧ d ≠ e ∧ 16 ≤ T.dirs e ex then (44 : Int) else 0) = 0 then ((T.loseName d k n).give e z n, 0) else (T, 44) := by
  obtain ⟨i1, -⟩ := overS_move hx hx
  unfold TreeV.move
  rw [hd, he]
  simp only [Bool.true_eq_false, if_false]
  rw [hk]
  simp only
  rw [if_neg (by rw [hen]; simp), if_neg hc, hz]
  simp only
  rw [i1]
  by_cases q : x.kind = 1 ∧ d ≠ e ∧ 16 ≤ T.dirs e ex
  · rw [if_pos q, if_pos (by simpa using q)]
    simp
  · rw [if_neg q, if_neg (by simpa using q)]
    simp
end Go.Proofs.YtoanccechefclaaGreatDoor
namespace Go.Proofs.YtoanccechefclaaGreatDoor
open Go Go.RowKit
set_option maxRecDepth 100000
set_option maxHeartbeats 1600000 in
theorem tmove_c {w : World} {tb : Nat} {s : TShape} {T : TreeV} {bl : Int} (h : TreeIn w tb s T) (hg : T.good bl) (hs : T.small 900000) {r : Bool} {z : ByteArray} (hr : RightIs z r) (d : Int) (k : ByteArray) (e : Int) :
    Calls Tryz.prog 34 #[.pointer (some ⟨tb, 0, none⟩), .int .i64 d, .string k, .int .i64 e, .string z] w fun a w' => a = .returned (.int .i64 (T.move r d k e z).2) ∧ ∃ s', TreeIn w' tb s' (T.move r d k e z).1 ∧ TurnT w s w' s' := by
  obtain ⟨U, v, hU⟩ : ∃ U v, T.move r d k e z = (U, v) := ⟨_, _, rfl⟩
  rw [hU]
  have fin : ∀ w' v', Keep w w' (fun _ => False) → Hid (T.move r d k e z = (T, v')) → (Ending.returned (.int .i64 v') = Ending.returned (.int .i64 v)) ∧ ∃ s', TreeIn w' tb s' U ∧ TurnT w s w' s' := fun w' v' K q => by
    have e := hU.symm.trans q.out
    simp only [Prod.mk.injEq] at e
    obtain ⟨rfl, rfl⟩ := e
    exact ⟨rfl, s, h.aside K, TurnT.aside K⟩
  have HF := Lib.hid fin
  have HU := Lib.hid hU
  have hd := tdir_c h d
  have he := tdir_c h e
  have hri := hr
  have H := Lib.hid (And.intro h (And.intro hg hs))
  obtain ⟨pd, hpd⟩ : ∃ pd, (if T.isDir d then Value.pointer (some ⟨s.na d, 0, none⟩) else .pointer none) = pd := ⟨_, rfl⟩
  obtain ⟨pe, hpe⟩ : ∃ pe, (if T.isDir e then Value.pointer (some ⟨s.na e, 0, none⟩) else .pointer none) = pe := ⟨_, rfl⟩
  rw [hpd] at hd
  rw [hpe] at he
  simp only
  clear fin hU h hg hs hr
  go_enter Tryz.func34, Tryz.ntmps34
  cases hdx : T.dir d with
  | none =>
    rw [isDir_not hdx] at hpd
    simp only [Bool.false_eq_true, if_false] at hpd
    subst hpd
    have HX := Lib.hid (show T.move r d k e z = (T, 1) by unfold TreeV.move; simp only [hdx])
    clear hdx hpe
    go_wp2_with (first
      | (go_at_call 64
         refine hd.mono ?_
         rintro e' w1 ⟨rfl, rfl⟩
         clear hd)
      | (go_at_call 64
         refine he.mono ?_
         rintro e' w1 ⟨rfl, rfl⟩
         clear he)
      | (go_at_call 65
         refine (hri _).mono ?_
         rintro e' w1 ⟨rfl, rfl⟩)
      | (go_at_call 69
         refine hnm.mono ?_
         rintro e' w1 ⟨rfl, rfl⟩
         clear hnm)
      | (go_at_call 64
         refine hdn.mono ?_
         rintro e' w1 ⟨rfl, rfl⟩
         clear hdn)
      | (go_at_call 70
         refine hwi.mono ?_
         rintro e' w1 ⟨rfl, rfl⟩
         clear hwi))
    go_ret
    exact HF.out _ _ (Keep.refl _ _) HX
  | some dx =>
    rw [isDir_eq hdx] at hpd
    simp only [if_true] at hpd
    subst hpd
    cases hex : T.dir e with
    | none =>
      rw [isDir_not hex] at hpe
      simp only [Bool.false_eq_true, if_false] at hpe
      subst hpe
      have HX := Lib.hid (show T.move r d k e z = (T, 1) by unfold TreeV.move; simp only [hdx, hex])
      clear hdx hex
      go_wp2_with (first
        | (go_at_call 64
           refine hd.mono ?_
           rintro e' w1 ⟨rfl, rfl⟩
           clear hd)
        | (go_at_call 64
           refine he.mono ?_
           rintro e' w1 ⟨rfl, rfl⟩
           clear he)
        | (go_at_call 65
           refine (hri _).mono ?_
           rintro e' w1 ⟨rfl, rfl⟩)
        | (go_at_call 69
           refine hnm.mono ?_
           rintro e' w1 ⟨rfl, rfl⟩
           clear hnm)
        | (go_at_call 64
           refine hdn.mono ?_
           rintro e' w1 ⟨rfl, rfl⟩
           clear hdn)
        | (go_at_call 70
           refine hwi.mono ?_
           rintro e' w1 ⟨rfl, rfl⟩
           clear hwi))
      go_ret
      exact HF.out _ _ (Keep.refl _ _) HX
    | some ex =>
      rw [isDir_eq hex] at hpe
      simp only [if_true] at hpe
      subst hpe
      cases r with
      | false =>
        have HX := Lib.hid (show T.move false d k e z = (T, 1) by unfold TreeV.move; simp only [hdx, hex, if_true])
        clear hdx hex
        go_wp2_with (first
          | (go_at_call 64
             refine hd.mono ?_
             rintro e' w1 ⟨rfl, rfl⟩
             clear hd)
          | (go_at_call 64
             refine he.mono ?_
             rintro e' w1 ⟨rfl, rfl⟩
             clear he)
          | (go_at_call 65
             refine (hri _).mono ?_
             rintro e' w1 ⟨rfl, rfl⟩)
          | (go_at_call 69
             refine hnm.mono ?_
             rintro e' w1 ⟨rfl, rfl⟩
             clear hnm)
          | (go_at_call 64
             refine hdn.mono ?_
             rintro e' w1 ⟨rfl, rfl⟩
             clear hdn)
          | (go_at_call 70
             refine hwi.mono ?_
             rintro e' w1 ⟨rfl, rfl⟩
             clear hwi))
        go_ret
        exact HF.out _ _ (Keep.refl _ _) HX
      | true =>
        have hdd := Lib.hid hdx
        have hee := Lib.hid hex
        have hdg := Lib.hid (TreeV.dir_some hdx).1
        have hdk := Lib.hid (TreeV.dir_some hdx).2
        have heg := Lib.hid (TreeV.dir_some hex).1
        have hek := Lib.hid (TreeV.dir_some hex).2
        clear hdx hex
        have c1 := (H.out.1.cells hdg.out).names
        unfold namesB at c1
        rw [if_pos hdk.out] at c1
        have l := names_look (H.out.1.names_at hdg.out hdk.out) k true
        simp only [if_true] at l
        have hnm := tnamed_c H.out.1 heg.out
        cases hk : aget dx.names k with
        | none =>
          rw [hk] at l
          simp only [Option.getD_none, Option.isSome_none] at l
          have HX := Lib.hid (show T.move true d k e z = (T, 32) by unfold TreeV.move; simp only [hdd.out, hee.out, hk, Bool.true_eq_false, if_false])
          clear hk
          go_wp2_with (first
            | (go_at_call 64
               refine hd.mono ?_
               rintro e' w1 ⟨rfl, rfl⟩
               clear hd)
            | (go_at_call 64
               refine he.mono ?_
               rintro e' w1 ⟨rfl, rfl⟩
               clear he)
            | (go_at_call 65
               refine (hri _).mono ?_
               rintro e' w1 ⟨rfl, rfl⟩)
            | (go_at_call 69
               refine hnm.mono ?_
               rintro e' w1 ⟨rfl, rfl⟩
               clear hnm)
            | (go_at_call 64
               refine hdn.mono ?_
               rintro e' w1 ⟨rfl, rfl⟩
               clear hdn)
            | (go_at_call 70
               refine hwi.mono ?_
               rintro e' w1 ⟨rfl, rfl⟩
               clear hwi))
          go_ret
          exact HF.out _ _ (Keep.refl _ _) HX
        | some n =>
          rw [hk] at l
          simp only [Option.getD_some, Option.isSome_some] at l
          have hkk := Lib.hid hk
          clear hk
          cases hnb : TreeV.named e ex with
          | false =>
            rw [hnb] at hnm
            have HX := Lib.hid (show T.move true d k e z = (T, 32) by unfold TreeV.move; simp only [hdd.out, hee.out, hkk.out, hnb, Bool.true_eq_false, if_false, if_true])
            clear hnb
            go_wp2_with (first
              | (go_at_call 64
                 refine hd.mono ?_
                 rintro e' w1 ⟨rfl, rfl⟩
                 clear hd)
              | (go_at_call 64
                 refine he.mono ?_
                 rintro e' w1 ⟨rfl, rfl⟩
                 clear he)
              | (go_at_call 65
                 refine (hri _).mono ?_
                 rintro e' w1 ⟨rfl, rfl⟩)
              | (go_at_call 69
                 refine hnm.mono ?_
                 rintro e' w1 ⟨rfl, rfl⟩
                 clear hnm)
              | (go_at_call 64
                 refine hdn.mono ?_
                 rintro e' w1 ⟨rfl, rfl⟩
                 clear hdn)
              | (go_at_call 70
                 refine hwi.mono ?_
                 rintro e' w1 ⟨rfl, rfl⟩
                 clear hwi))
            go_ret
            exact HF.out _ _ (Keep.refl _ _) HX
          | true =>
            rw [hnb] at hnm
            have hnmt := Lib.hid hnb
            clear hnb
            obtain ⟨x, hx⟩ := H.out.2.1.ok.kid hdd.out hkk.out
            have hdn := tdir_c H.out.1 n
            have hwi := twithin_c H.out.1 H.out.2.1.ok e n
            by_cases hc : T.isDir n = true ∧ (n = e ∨ T.within e n = true)
            · have HX := Lib.hid (show T.move true d k e z = (T, 39) by unfold TreeV.move; simp only [hdd.out, hee.out, hkk.out, hnmt.out, Bool.true_eq_false, if_false]; rw [if_pos hc])
              obtain ⟨hc1, hc2⟩ := hc
              rw [hc1] at hdn
              simp only [if_true] at hdn
              by_cases hne : n = e
              · have g1 : (n == e) = true := by simpa using hne
                clear hc1 hc2 hx hne
                go_wp2_with (first
                  | (go_at_call 64
                     refine hd.mono ?_
                     rintro e' w1 ⟨rfl, rfl⟩
                     clear hd)
                  | (go_at_call 64
                     refine he.mono ?_
                     rintro e' w1 ⟨rfl, rfl⟩
                     clear he)
                  | (go_at_call 65
                     refine (hri _).mono ?_
                     rintro e' w1 ⟨rfl, rfl⟩)
                  | (go_at_call 69
                     refine hnm.mono ?_
                     rintro e' w1 ⟨rfl, rfl⟩
                     clear hnm)
                  | (go_at_call 64
                     refine hdn.mono ?_
                     rintro e' w1 ⟨rfl, rfl⟩
                     clear hdn)
                  | (go_at_call 70
                     refine hwi.mono ?_
                     rintro e' w1 ⟨rfl, rfl⟩
                     clear hwi))
                go_ret
                exact HF.out _ _ (Keep.refl _ _) HX
              · have g1 : (n == e) = false := by simpa using hne
                have hw := hc2.resolve_left hne
                rw [hw] at hwi
                clear hc1 hc2 hx hne hw
                go_wp2_with (first
                  | (go_at_call 64
                     refine hd.mono ?_
                     rintro e' w1 ⟨rfl, rfl⟩
                     clear hd)
                  | (go_at_call 64
                     refine he.mono ?_
                     rintro e' w1 ⟨rfl, rfl⟩
                     clear he)
                  | (go_at_call 65
                     refine (hri _).mono ?_
                     rintro e' w1 ⟨rfl, rfl⟩)
                  | (go_at_call 69
                     refine hnm.mono ?_
                     rintro e' w1 ⟨rfl, rfl⟩
                     clear hnm)
                  | (go_at_call 64
                     refine hdn.mono ?_
                     rintro e' w1 ⟨rfl, rfl⟩
                     clear hdn)
                  | (go_at_call 70
                     refine hwi.mono ?_
                     rintro e' w1 ⟨rfl, rfl⟩
                     clear hwi))
                go_ret
                exact HF.out _ _ (Keep.refl _ _) HX
            · obtain ⟨hen', -⟩ := H.out.2.1.ok.not_below hee.out hx hc
              have hen := Lib.hid hen'
              have hne := Lib.hid (H.out.2.1.ok.kid_ne hdd.out hkk.out)
              have HL := Lib.hid (show 0 ≤ x.links - 1 ∧ x.links - 1 ≤ 1000000 by
                have h1 := kid_pos H.out.2.1.ok hdd.out hkk.out hx
                have h2 := (H.out.2.2.node hx).2.1
                omega)
              have HT := Lib.hid (show 0 ≤ T.turns ∧ T.turns ≤ 1000000 by have := H.out.2.2.turns; omega)
              cases hi : T.isDir n with
              | true =>
                rw [hi] at hdn
                simp only [if_true] at hdn
                have hw : T.within e n = false := by
                  cases q : T.within e n with
                  | false => rfl
                  | true => exact absurd ⟨hi, .inr q⟩ hc
                rw [hw] at hwi
                have g1 : (n == e) = false := by
                  cases q : (n == e) with
                  | false => rfl
                  | true => exact absurd ⟨hi, .inl (by simpa using q)⟩ hc
                have hc := Lib.hid hc
                have hx := Lib.hid hx
                clear hi hw hen'
                go_upto_region 9 with (first
                  | (go_at_call 64
                     refine hd.mono ?_
                     rintro e' w1 ⟨rfl, rfl⟩
                     clear hd)
                  | (go_at_call 64
                     refine he.mono ?_
                     rintro e' w1 ⟨rfl, rfl⟩
                     clear he)
                  | (go_at_call 65
                     refine (hri _).mono ?_
                     rintro e' w1 ⟨rfl, rfl⟩)
                  | (go_at_call 69
                     refine hnm.mono ?_
                     rintro e' w1 ⟨rfl, rfl⟩
                     clear hnm)
                  | (go_at_call 64
                     refine hdn.mono ?_
                     rintro e' w1 ⟨rfl, rfl⟩
                     clear hdn)
                  | (go_at_call 70
                     refine hwi.mono ?_
                     rintro e' w1 ⟨rfl, rfl⟩
                     clear hwi))
                clear g1 c1 l
                have hD := H.out.1.aside (Keep.drew w (fun _ => False))
                have kD : Keep w w.drew (fun _ => False) := Keep.drew w (fun _ => False)
                have ca := hD.hcells.all
                have ce := (hD.cells heg.out).names
                unfold namesB at ce
                rw [if_pos hek.out] at ce
                have lx := look_some hD hx.out
                have lz := names_look (hD.names_at heg.out hek.out) z false
                simp only [Bool.false_eq_true, if_false] at lz
                cases hz : aget ex.names z with
                | none =>
                  rw [hz] at lz
                  simp only [Option.getD_none] at lz
                  have ly := look_none hD (n := 0) (by
                    cases q : aget T.all 0 with
                    | none => rfl
                    | some y => have := (H.out.2.1.ok.range _ (aget_memN q)).1; simp only at this; omega)
                  have hov := tover_none hD hx.out hdg.out heg.out hek.out (by have := (H.out.2.2.node heg.out).2.2; omega)
                  have HX0 := Lib.hid (move_none hdd.out hee.out hkk.out hnmt.out hc.out hz hx.out)
                  obtain ⟨ov, hov0⟩ : ∃ ov : Int, (if x.kind = 1 ∧ d ≠ e ∧ 16 ≤ T.dirs e ex then (44 : Int) else 0) = ov := ⟨_, rfl⟩
                  rw [hov0] at hov
                  have HO := Lib.hid hov0
                  have hcd := (hD.cells hdg.out).names
                  unfold namesB at hcd
                  rw [if_pos hdk.out] at hcd
                  have Z0 := Lib.hid (And.intro hD (And.intro kD hcd))
                  clear hD kD hz hov0 hcd
                  by_cases ho0 : ov = 0
                  · subst ho0
                    go_region
                    go_wp2_with (first
                      | (go_at_call 71
                         refine hov.mono ?_
                         rintro e' w4 ⟨rfl, k4⟩
                         have cd := k4.cell Z0.out.2.2 (fun q => q)
                         have Z := Lib.hid (And.intro (Z0.out.1.aside k4) (And.intro hdg.out (And.intro hx.out (And.intro heg.out HT.out))))
                         have Z4 := Lib.hid (Z0.out.2.1.aside k4)
                         clear hov k4)
                      | (at_delete
                         obtain ⟨B0, clk, hB0⟩ := Z.out.1.names_at Z.out.2.1 hdk.out
                         refine law_delete rfl _ _ _ _ rfl kNames tNames rfl hB0 k rfl ?_
                         intro w5 B1 q1 q2 q3
                         obtain ⟨⟨c3, f3⟩, h5, k5⟩ := Z.out.1.loseName Z.out.2.1 hdk.out Z.out.2.2.1 hne.out q3 (by rw [← namesV_adel]; exact ⟨_, _, q1⟩)
                         obtain ⟨l1, ex', l2, l3⟩ := lose_get (k := k) Z.out.2.1 Z.out.2.2.1 Z.out.2.2.2.1 hek.out hen.out
                         have hgv := tgive_c h5 l2 l3 l1 hen.out (by rw [lose_turns]; exact Z.out.2.2.2.2) HL.out z
                         have Z5 := Lib.hid k5
                         obtain ⟨hl0, hl1⟩ := HL.out
                         clear q1 q2 q3 hB0 h5 k5 l1 l2 l3)
                      | (go_at_call 68
                         refine hgv.mono ?_
                         rintro e' w6 ⟨⟨v6, rfl⟩, i1, i2⟩
                         have N := Lib.hid (And.intro i1 i2)
                         clear hgv i1 i2))
                    go_ret
                    have e0 := HU.out.symm.trans (HX0.out.trans (by rw [HO.out, if_pos rfl]))
                    simp only [Prod.mk.injEq] at e0
                    obtain ⟨rfl, rfl⟩ := e0
                    exact ⟨rfl, s, N.out.1, TurnT.same ((Z4.out.mono (fun _ q => q.elim)).trans (Z5.out.trans N.out.2 (fun b q => .inl q)) (fun b q => .inl q))⟩
                  · have g1 : (ov != 0) = true := by simpa using ho0
                    have HX := Lib.hid (show T.move true d k e z = (T, ov) by
                      rw [HX0.out, HO.out, if_neg ho0]
                      have := HO.out
                      split at this
                      · rw [← this]
                      · exact absurd this.symm ho0)
                    clear ho0
                    go_region
                    go_wp2_with (
                      go_at_call 71
                      refine hov.mono ?_
                      rintro e' w4 ⟨rfl, k4⟩
                      have Z4 := Lib.hid (Z0.out.2.1.aside k4)
                      clear hov k4)
                    go_ret
                    exact HF.out _ _ Z4.out HX
                | some m =>
                  rw [hz] at lz
                  simp only [Option.getD_some] at lz
                  obtain ⟨y, hy⟩ := H.out.2.1.ok.kid hee.out hz
                  have ly := look_some hD hy
                  by_cases hmn : m = n
                  · have HX := Lib.hid (show T.move true d k e z = (T, 0) by
                      unfold TreeV.move
                      rw [hdd.out, hee.out]
                      simp only [Bool.true_eq_false, if_false]
                      rw [hkk.out]
                      simp only
                      rw [if_neg (by rw [hnmt.out]; simp), if_neg hc.out, hz]
                      simp only
                      rw [if_pos hmn])
                    subst hmn
                    have g1 := nptr_eql_same w.drew (s.na m)
                    have Z0 := Lib.hid kD
                    clear hD kD hz hy
                    go_region
                    go_wp2
                    go_ret
                    exact HF.out _ _ Z0.out HX
                  · have g1 := nptr_eql_other (w := w.drew) (tag_ne (hD.tnode hx.out) (hD.tnode hy) (by simpa using fun q => hmn q.symm)) (hD.node_at hx.out) (hD.node_at hy)
                    have hov := tover_some hD hx.out hy (.pointer (some ⟨s.na d, 0, none⟩)) (.pointer (some ⟨s.na e, 0, none⟩))
                    have HX0 := Lib.hid (move_some hdd.out hee.out hkk.out hnmt.out hc.out hz hmn hx.out hy)
                    have hem := H.out.2.1.ok.kid_ne hee.out hz
                    have hyl := kid_links H.out.2.1.ok H.out.2.2 hy
                    have HY := Lib.hid (And.intro hz (And.intro hmn (And.intro hy (And.intro hem hyl))))
                    have hcd := (hD.cells hdg.out).names
                    unfold namesB at hcd
                    rw [if_pos hdk.out] at hcd
                    have Z0 := Lib.hid (And.intro hD (And.intro kD hcd))
                    clear hD kD hz hmn hy hem hyl hcd
                    by_cases ho0 : overS x y = 0
                    · rw [ho0] at hov
                      have hO := Lib.hid ho0
                      clear ho0
                      go_region
                      go_wp2_with (first
                        | (go_at_call 71
                           refine hov.mono ?_
                           rintro e' w4 ⟨rfl, k4⟩
                           have Z4 := Lib.hid (Z0.out.2.1.aside k4)
                           have htk := ttake_c (Z0.out.1.aside k4) H.out.2.1.pool heg.out hek.out HY.out.1 HY.out.2.2.1 HY.out.2.2.2.1 ⟨H.out.2.2.turns.1, H.out.2.2.turns.2⟩ ⟨HY.out.2.2.2.2.1, by have := HY.out.2.2.2.2.2; omega⟩
                           clear hov k4)
                        | (go_at_call 72
                           refine htk.mono ?_
                           rintro e' w4 ⟨⟨v4, rfl⟩, ⟨ma', pb', na', nm', tag'⟩, i1, i2, i3, i4⟩
                           simp only at i2 i3
                           subst i2 i3
                           have hyn : y.names = [] := by
                             have q := hO.out
                             unfold overS at q
                             by_cases k1 : y.kind = 1
                             · by_cases k2 : y.names = []
                               · exact k2
                               · exfalso
                                 split at q
                                 · cases q
                                 · split at q
                                   · cases q
                                   · rw [if_pos ⟨k1, k2⟩] at q; cases q
                             · exact H.out.2.1.ok.leaf _ (aget_memN HY.out.2.2.1) k1
                           have hmd : m ≠ d := fun q => by
                             have q1 := HY.out.2.2.1
                             rw [q, hdg.out] at q1
                             have q2 := hkk.out
                             rw [Option.some.inj q1, hyn] at q2
                             cases q2
                           have gd := take_get (z := z) (k := d) H.out.2.1.ok.nodup heg.out HY.out.2.2.1 hmd
                           have gn := take_get (z := z) (k := n) H.out.2.1.ok.nodup heg.out HY.out.2.2.1 HY.out.2.1
                           have ge := take_get (z := z) (k := e) H.out.2.1.ok.nodup heg.out HY.out.2.2.1 (fun q => HY.out.2.2.2.1 q.symm)
                           rw [if_pos rfl] at ge
                           rw [if_neg hen.out, hx.out] at gn
                           obtain ⟨dx1, gd1, gd2⟩ : ∃ dx1, aget (T.take e z m).all d = some dx1 ∧ dx1.kind = 1 := by
                             by_cases q : e = d
                             · exact ⟨{ ex with names := adel ex.names z }, by rw [gd, if_pos q], hek.out⟩
                             · exact ⟨dx, by rw [gd, if_neg q, hdg.out], hdk.out⟩
                           have ht1 := (H.out.2.2.take e m z).turns
                           have hdk := Lib.hid gd2
                           have hek := Lib.hid (show ({ ex with names := adel ex.names z } : NodeV).kind = 1 from hek.out)
                           have Z := Lib.hid (And.intro i1 (And.intro gd1 (And.intro gn (And.intro ge (show 0 ≤ (T.take e z m).turns ∧ (T.take e z m).turns ≤ 1000000 by omega)))))
                           have cd := (i1.cells gd1).names
                           unfold namesB at cd
                           rw [if_pos gd2] at cd
                           simp only at cd
                           have ZT := Lib.hid i4
                           clear htk i1 i4 hyn hmd gd gn ge gd1 gd2 ht1)
                        | (at_delete
                           obtain ⟨B0, clk, hB0⟩ := Z.out.1.names_at Z.out.2.1 hdk.out
                           refine law_delete rfl _ _ _ _ rfl kNames tNames rfl hB0 k rfl ?_
                           intro w5 B1 q1 q2 q3
                           obtain ⟨⟨c3, f3⟩, h5, k5⟩ := Z.out.1.loseName Z.out.2.1 hdk.out Z.out.2.2.1 hne.out q3 (by rw [← namesV_adel]; exact ⟨_, _, q1⟩)
                           obtain ⟨l1, ex', l2, l3⟩ := lose_get (k := k) Z.out.2.1 Z.out.2.2.1 Z.out.2.2.2.1 hek.out hen.out
                           have hgv := tgive_c h5 l2 l3 l1 hen.out (by rw [lose_turns]; exact Z.out.2.2.2.2) HL.out z
                           have Z5 := Lib.hid k5
                           obtain ⟨hl0, hl1⟩ := HL.out
                           clear q1 q2 q3 hB0 h5 k5 l1 l2 l3)
                        | (go_at_call 68
                           refine hgv.mono ?_
                           rintro e' w6 ⟨⟨v6, rfl⟩, i1, i2⟩
                           have N := Lib.hid (And.intro i1 i2)
                           clear hgv i1 i2))
                      go_ret
                      have e0 := HU.out.symm.trans (HX0.out.trans (by rw [if_pos hO.out]))
                      simp only [Prod.mk.injEq] at e0
                      obtain ⟨rfl, rfl⟩ := e0
                      exact ⟨rfl, _, N.out.1, ((TurnT.aside Z4.out).trans ZT.out).trans (TurnT.same (Z5.out.trans N.out.2 (fun b q => .inl q)))⟩
                    · have g2 : (overS x y != 0) = true := by simpa using ho0
                      have HX := Lib.hid (show T.move true d k e z = (T, overS x y) by rw [HX0.out, if_neg ho0])
                      clear ho0
                      generalize overS x y = ov at *
                      go_region
                      go_wp2_with (
                        go_at_call 71
                        refine hov.mono ?_
                        rintro e' w4 ⟨rfl, k4⟩
                        have Z4 := Lib.hid (Z0.out.2.1.aside k4)
                        clear hov k4)
                      go_ret
                      exact HF.out _ _ Z4.out HX
              | false =>
                rw [hi] at hdn
                simp only [Bool.false_eq_true, if_false] at hdn
                have hc := Lib.hid hc
                have hx := Lib.hid hx
                clear hi hen' hwi
                go_upto_region 9 with (first
                  | (go_at_call 64
                     refine hd.mono ?_
                     rintro e' w1 ⟨rfl, rfl⟩
                     clear hd)
                  | (go_at_call 64
                     refine he.mono ?_
                     rintro e' w1 ⟨rfl, rfl⟩
                     clear he)
                  | (go_at_call 65
                     refine (hri _).mono ?_
                     rintro e' w1 ⟨rfl, rfl⟩)
                  | (go_at_call 69
                     refine hnm.mono ?_
                     rintro e' w1 ⟨rfl, rfl⟩
                     clear hnm)
                  | (go_at_call 64
                     refine hdn.mono ?_
                     rintro e' w1 ⟨rfl, rfl⟩
                     clear hdn)
                  | (go_at_call 70
                     refine hwi.mono ?_
                     rintro e' w1 ⟨rfl, rfl⟩
                     clear hwi))
                clear c1 l
                have hD := H.out.1.aside (Keep.drew w (fun _ => False))
                have kD : Keep w w.drew (fun _ => False) := Keep.drew w (fun _ => False)
                have ca := hD.hcells.all
                have ce := (hD.cells heg.out).names
                unfold namesB at ce
                rw [if_pos hek.out] at ce
                have lx := look_some hD hx.out
                have lz := names_look (hD.names_at heg.out hek.out) z false
                simp only [Bool.false_eq_true, if_false] at lz
                cases hz : aget ex.names z with
                | none =>
                  rw [hz] at lz
                  simp only [Option.getD_none] at lz
                  have ly := look_none hD (n := 0) (by
                    cases q : aget T.all 0 with
                    | none => rfl
                    | some y => have := (H.out.2.1.ok.range _ (aget_memN q)).1; simp only at this; omega)
                  have hov := tover_none hD hx.out hdg.out heg.out hek.out (by have := (H.out.2.2.node heg.out).2.2; omega)
                  have HX0 := Lib.hid (move_none hdd.out hee.out hkk.out hnmt.out hc.out hz hx.out)
                  obtain ⟨ov, hov0⟩ : ∃ ov : Int, (if x.kind = 1 ∧ d ≠ e ∧ 16 ≤ T.dirs e ex then (44 : Int) else 0) = ov := ⟨_, rfl⟩
                  rw [hov0] at hov
                  have HO := Lib.hid hov0
                  have hcd := (hD.cells hdg.out).names
                  unfold namesB at hcd
                  rw [if_pos hdk.out] at hcd
                  have Z0 := Lib.hid (And.intro hD (And.intro kD hcd))
                  clear hD kD hz hov0 hcd
                  by_cases ho0 : ov = 0
                  · subst ho0
                    go_region
                    go_wp2_with (first
                      | (go_at_call 71
                         refine hov.mono ?_
                         rintro e' w4 ⟨rfl, k4⟩
                         have cd := k4.cell Z0.out.2.2 (fun q => q)
                         have Z := Lib.hid (And.intro (Z0.out.1.aside k4) (And.intro hdg.out (And.intro hx.out (And.intro heg.out HT.out))))
                         have Z4 := Lib.hid (Z0.out.2.1.aside k4)
                         clear hov k4)
                      | (at_delete
                         obtain ⟨B0, clk, hB0⟩ := Z.out.1.names_at Z.out.2.1 hdk.out
                         refine law_delete rfl _ _ _ _ rfl kNames tNames rfl hB0 k rfl ?_
                         intro w5 B1 q1 q2 q3
                         obtain ⟨⟨c3, f3⟩, h5, k5⟩ := Z.out.1.loseName Z.out.2.1 hdk.out Z.out.2.2.1 hne.out q3 (by rw [← namesV_adel]; exact ⟨_, _, q1⟩)
                         obtain ⟨l1, ex', l2, l3⟩ := lose_get (k := k) Z.out.2.1 Z.out.2.2.1 Z.out.2.2.2.1 hek.out hen.out
                         have hgv := tgive_c h5 l2 l3 l1 hen.out (by rw [lose_turns]; exact Z.out.2.2.2.2) HL.out z
                         have Z5 := Lib.hid k5
                         obtain ⟨hl0, hl1⟩ := HL.out
                         clear q1 q2 q3 hB0 h5 k5 l1 l2 l3)
                      | (go_at_call 68
                         refine hgv.mono ?_
                         rintro e' w6 ⟨⟨v6, rfl⟩, i1, i2⟩
                         have N := Lib.hid (And.intro i1 i2)
                         clear hgv i1 i2))
                    go_ret
                    have e0 := HU.out.symm.trans (HX0.out.trans (by rw [HO.out, if_pos rfl]))
                    simp only [Prod.mk.injEq] at e0
                    obtain ⟨rfl, rfl⟩ := e0
                    exact ⟨rfl, s, N.out.1, TurnT.same ((Z4.out.mono (fun _ q => q.elim)).trans (Z5.out.trans N.out.2 (fun b q => .inl q)) (fun b q => .inl q))⟩
                  · have g1 : (ov != 0) = true := by simpa using ho0
                    have HX := Lib.hid (show T.move true d k e z = (T, ov) by
                      rw [HX0.out, HO.out, if_neg ho0]
                      have := HO.out
                      split at this
                      · rw [← this]
                      · exact absurd this.symm ho0)
                    clear ho0
                    go_region
                    go_wp2_with (
                      go_at_call 71
                      refine hov.mono ?_
                      rintro e' w4 ⟨rfl, k4⟩
                      have Z4 := Lib.hid (Z0.out.2.1.aside k4)
                      clear hov k4)
                    go_ret
                    exact HF.out _ _ Z4.out HX
                | some m =>
                  rw [hz] at lz
                  simp only [Option.getD_some] at lz
                  obtain ⟨y, hy⟩ := H.out.2.1.ok.kid hee.out hz
                  have ly := look_some hD hy
                  by_cases hmn : m = n
                  · have HX := Lib.hid (show T.move true d k e z = (T, 0) by
                      unfold TreeV.move
                      rw [hdd.out, hee.out]
                      simp only [Bool.true_eq_false, if_false]
                      rw [hkk.out]
                      simp only
                      rw [if_neg (by rw [hnmt.out]; simp), if_neg hc.out, hz]
                      simp only
                      rw [if_pos hmn])
                    subst hmn
                    have g1 := nptr_eql_same w.drew (s.na m)
                    have Z0 := Lib.hid kD
                    clear hD kD hz hy
                    go_region
                    go_wp2
                    go_ret
                    exact HF.out _ _ Z0.out HX
                  · have g1 := nptr_eql_other (w := w.drew) (tag_ne (hD.tnode hx.out) (hD.tnode hy) (by simpa using fun q => hmn q.symm)) (hD.node_at hx.out) (hD.node_at hy)
                    have hov := tover_some hD hx.out hy (.pointer (some ⟨s.na d, 0, none⟩)) (.pointer (some ⟨s.na e, 0, none⟩))
                    have HX0 := Lib.hid (move_some hdd.out hee.out hkk.out hnmt.out hc.out hz hmn hx.out hy)
                    have hem := H.out.2.1.ok.kid_ne hee.out hz
                    have hyl := kid_links H.out.2.1.ok H.out.2.2 hy
                    have HY := Lib.hid (And.intro hz (And.intro hmn (And.intro hy (And.intro hem hyl))))
                    have hcd := (hD.cells hdg.out).names
                    unfold namesB at hcd
                    rw [if_pos hdk.out] at hcd
                    have Z0 := Lib.hid (And.intro hD (And.intro kD hcd))
                    clear hD kD hz hmn hy hem hyl hcd
                    by_cases ho0 : overS x y = 0
                    · rw [ho0] at hov
                      have hO := Lib.hid ho0
                      clear ho0
                      go_region
                      go_wp2_with (first
                        | (go_at_call 71
                           refine hov.mono ?_
                           rintro e' w4 ⟨rfl, k4⟩
                           have Z4 := Lib.hid (Z0.out.2.1.aside k4)
                           have htk := ttake_c (Z0.out.1.aside k4) H.out.2.1.pool heg.out hek.out HY.out.1 HY.out.2.2.1 HY.out.2.2.2.1 ⟨H.out.2.2.turns.1, H.out.2.2.turns.2⟩ ⟨HY.out.2.2.2.2.1, by have := HY.out.2.2.2.2.2; omega⟩
                           clear hov k4)
                        | (go_at_call 72
                           refine htk.mono ?_
                           rintro e' w4 ⟨⟨v4, rfl⟩, ⟨ma', pb', na', nm', tag'⟩, i1, i2, i3, i4⟩
                           simp only at i2 i3
                           subst i2 i3
                           have hyn : y.names = [] := by
                             have q := hO.out
                             unfold overS at q
                             by_cases k1 : y.kind = 1
                             · by_cases k2 : y.names = []
                               · exact k2
                               · exfalso
                                 split at q
                                 · cases q
                                 · split at q
                                   · cases q
                                   · rw [if_pos ⟨k1, k2⟩] at q; cases q
                             · exact H.out.2.1.ok.leaf _ (aget_memN HY.out.2.2.1) k1
                           have hmd : m ≠ d := fun q => by
                             have q1 := HY.out.2.2.1
                             rw [q, hdg.out] at q1
                             have q2 := hkk.out
                             rw [Option.some.inj q1, hyn] at q2
                             cases q2
                           have gd := take_get (z := z) (k := d) H.out.2.1.ok.nodup heg.out HY.out.2.2.1 hmd
                           have gn := take_get (z := z) (k := n) H.out.2.1.ok.nodup heg.out HY.out.2.2.1 HY.out.2.1
                           have ge := take_get (z := z) (k := e) H.out.2.1.ok.nodup heg.out HY.out.2.2.1 (fun q => HY.out.2.2.2.1 q.symm)
                           rw [if_pos rfl] at ge
                           rw [if_neg hen.out, hx.out] at gn
                           obtain ⟨dx1, gd1, gd2⟩ : ∃ dx1, aget (T.take e z m).all d = some dx1 ∧ dx1.kind = 1 := by
                             by_cases q : e = d
                             · exact ⟨{ ex with names := adel ex.names z }, by rw [gd, if_pos q], hek.out⟩
                             · exact ⟨dx, by rw [gd, if_neg q, hdg.out], hdk.out⟩
                           have ht1 := (H.out.2.2.take e m z).turns
                           have hdk := Lib.hid gd2
                           have hek := Lib.hid (show ({ ex with names := adel ex.names z } : NodeV).kind = 1 from hek.out)
                           have Z := Lib.hid (And.intro i1 (And.intro gd1 (And.intro gn (And.intro ge (show 0 ≤ (T.take e z m).turns ∧ (T.take e z m).turns ≤ 1000000 by omega)))))
                           have cd := (i1.cells gd1).names
                           unfold namesB at cd
                           rw [if_pos gd2] at cd
                           simp only at cd
                           have ZT := Lib.hid i4
                           clear htk i1 i4 hyn hmd gd gn ge gd1 gd2 ht1)
                        | (at_delete
                           obtain ⟨B0, clk, hB0⟩ := Z.out.1.names_at Z.out.2.1 hdk.out
                           refine law_delete rfl _ _ _ _ rfl kNames tNames rfl hB0 k rfl ?_
                           intro w5 B1 q1 q2 q3
                           obtain ⟨⟨c3, f3⟩, h5, k5⟩ := Z.out.1.loseName Z.out.2.1 hdk.out Z.out.2.2.1 hne.out q3 (by rw [← namesV_adel]; exact ⟨_, _, q1⟩)
                           obtain ⟨l1, ex', l2, l3⟩ := lose_get (k := k) Z.out.2.1 Z.out.2.2.1 Z.out.2.2.2.1 hek.out hen.out
                           have hgv := tgive_c h5 l2 l3 l1 hen.out (by rw [lose_turns]; exact Z.out.2.2.2.2) HL.out z
                           have Z5 := Lib.hid k5
                           obtain ⟨hl0, hl1⟩ := HL.out
                           clear q1 q2 q3 hB0 h5 k5 l1 l2 l3)
                        | (go_at_call 68
                           refine hgv.mono ?_
                           rintro e' w6 ⟨⟨v6, rfl⟩, i1, i2⟩
                           have N := Lib.hid (And.intro i1 i2)
                           clear hgv i1 i2))
                      go_ret
                      have e0 := HU.out.symm.trans (HX0.out.trans (by rw [if_pos hO.out]))
                      simp only [Prod.mk.injEq] at e0
                      obtain ⟨rfl, rfl⟩ := e0
                      exact ⟨rfl, _, N.out.1, ((TurnT.aside Z4.out).trans ZT.out).trans (TurnT.same (Z5.out.trans N.out.2 (fun b q => .inl q)))⟩
                    · have g2 : (overS x y != 0) = true := by simpa using ho0
                      have HX := Lib.hid (show T.move true d k e z = (T, overS x y) by rw [HX0.out, if_neg ho0])
                      clear ho0
                      generalize overS x y = ov at *
                      go_region
                      go_wp2_with (
                        go_at_call 71
                        refine hov.mono ?_
                        rintro e' w4 ⟨rfl, k4⟩
                        have Z4 := Lib.hid (Z0.out.2.1.aside k4)
                        clear hov k4)
                      go_ret
                      exact HF.out _ _ Z4.out HX
end Go.Proofs.YtoanccechefclaaGreatDoor
namespace Go.Proofs.YtoanccechefclaaGreatDoor
open Go Go.RowKit
set_option maxRecDepth 100000
set_option maxHeartbeats 1600000 in
theorem thold_c {w : World} {tb : Nat} {s : TShape} {T : TreeV} {bl : Int} (h : TreeIn w tb s T) (hg : T.good bl) (hs : T.small 900000) (n : Int) :
    Calls Tryz.prog 92 #[.pointer (some ⟨tb, 0, none⟩), .int .i64 n] w fun e w' => e = .returned (.int .i64 (T.hold n).2) ∧ ∃ s', TreeIn w' tb s' (T.hold n).1 ∧ TurnT w s w' s' := by
  have c0 := h.hcells.all
  cases hx : aget T.all n with
  | none =>
    rw [show T.hold n = (T, 1) by unfold TreeV.hold; rw [hx]]
    have l := look_none h hx
    have H := Lib.hid h
    clear h hx hg hs
    go_enter Tryz.func92, Tryz.ntmps92
    go_wp2
    go_ret
    exact ⟨rfl, s, H.out, TurnT.same (Keep.refl _ _)⟩
  | some x =>
    rw [show T.hold n = (T.set n { x with holds := x.holds + 1 }, 0) by unfold TreeV.hold; rw [hx]]
    have l := look_some h hx
    have c1 := (h.cells hx).holds
    have f1 := h.nodeFree hx 10
    have h1 := (hs.node hx).1
    have h0 := hg.ok.holds _ (aget_memN hx)
    simp only at h0
    have H := Lib.hid (And.intro h hx)
    clear h hx hg hs
    go_enter Tryz.func92, Tryz.ntmps92
    go_wp2
    go_ret
    have s3 := heap_setCell_eq (off := 10) (Value.int .i64 (x.holds + 1)) (H.out.1.node_at H.out.2)
    refine ⟨rfl, s, H.out.1.setNode H.out.2 rfl rfl (Keep.setCell _ _ _) ?_, TurnT.same ((Keep.setCell _ _ _).mono (fun b q => by rw [show b = s.na n from q]; exact has_of (H.out.1.tnode H.out.2)))⟩
    simpa [nodeC, namesB] using s3
end Go.Proofs.YtoanccechefclaaGreatDoor
namespace Go.Proofs.YtoanccechefclaaGreatDoor
open Go Go.RowKit
set_option maxRecDepth 100000
theorem mask_root : maskV 493 = 493 := by decide
open Classical in
noncomputable def newS (w1 : World) (pb : Nat) (S : Nat → Prop) : TShape :=
  ⟨w1.heap.size, pb, fun _ => 0, fun _ => 0, fun c => if c = w1.heap.size + 1 then some .tree else if c = w1.heap.size then some .all else if S c then some .pool else none⟩
open Classical in
set_option maxHeartbeats 1600000 in
theorem tnew_c (w : World) (n b : Int) (hn : 1 ≤ n ∧ n ≤ 64) (hb : 0 ≤ b ∧ b ≤ 256) :
    Calls Tryz.prog 36 #[.int .i64 n, .int .i64 b] w fun e w' => ∃ tb s, e = .returned (.tuple #[.pointer (some ⟨tb, 0, none⟩), .int .i64 0]) ∧ TreeIn w' tb s (TreeV.new n b) ∧ Keep w w' (fun _ => False) ∧ ∀ c, s.has c → w.heap.size ≤ c := by
  have hnew := new_c w b hb.1 hb.2
  have hmm := @run_makeMap Tryz.prog
  obtain ⟨hn1, hn2⟩ := hn
  have HB := Lib.hid hb
  clear hb
  go_enter Tryz.func36, Tryz.ntmps36
  go_upto_region 5 with (
    go_at_call 73
    refine hnew.mono ?_
    rintro e w1 ⟨pb, S, rfl, hP, hT⟩
    have P := Lib.hid (And.intro hP hT)
    unfold ptr
    clear hP hT hnew)
  obtain ⟨w2, hw2⟩ : ∃ w2, w2 = (w1.alloc (.map #[] 0)).alloc (.cells #[.int .i64 n, .pointer (some ⟨pb, 0, none⟩), .map (some w1.heap.size), .int .i64 0, .int .i64 0] 111) := ⟨_, rfl⟩
  obtain ⟨k2, b1, b2, z2⟩ := boxes2 w1 (.map #[] 0) (.cells #[.int .i64 n, .pointer (some ⟨pb, 0, none⟩), .map (some w1.heap.size), .int .i64 0, .int .i64 0] 111)
  rw [← hw2] at k2 b1 b2 z2 ⊢
  clear hw2
  have h2 : TreeIn w2 (w1.heap.size + 1) (newS w1 pb S) ⟨n, 0, 0, [], ⟨b, 0, []⟩⟩ := by
    have hlt : ∀ c, S c → c < w1.heap.size := fun c q => P.out.1.lt q
    have e : (fun c => (newS w1 pb S).tag c = some TTag.pool) = S := by
      funext c
      apply propext
      show (if c = w1.heap.size + 1 then some TTag.tree else if c = w1.heap.size then some TTag.all else if S c then some TTag.pool else none) = some TTag.pool ↔ S c
      refine ⟨fun q => ?_, fun q => ?_⟩
      · split at q
        · cases q
        · split at q
          · cases q
          · split at q
            · assumption
            · cases q
      · have := hlt c q
        rw [if_neg (by omega), if_neg (by omega), if_pos q]
    refine ⟨b2, MapAt.made b1, by simp, by simp, ?_, ?_, ?_, by simp, by simp, fun c g q => ?_⟩
    · rw [e]
      exact P.out.1.keep k2 (fun _ _ q => q)
    · show (if w1.heap.size + 1 = w1.heap.size + 1 then some TTag.tree else _) = _
      rw [if_pos rfl]
    · show (if w1.heap.size = w1.heap.size + 1 then some TTag.tree else if w1.heap.size = w1.heap.size then some TTag.all else _) = _
      rw [if_neg (by omega), if_pos rfl]
    · have q' : (if c = w1.heap.size + 1 then some TTag.tree else if c = w1.heap.size then some TTag.all else if S c then some TTag.pool else none) = some g := q
      split at q'
      · omega
      · split at q'
        · omega
        · split at q'
          · rename_i z
            have := hlt c z
            omega
          · cases q'
  have kw2 : Keep w w2 (fun _ => False) := P.out.2.keep.trans k2 (fun _ q => q.elim)
  have hnewS : ∀ c, (newS w1 pb S).has c → w.heap.size ≤ c := fun c q => by
    have hz := P.out.2.keep.size
    by_cases q1 : c = w1.heap.size + 1
    · omega
    · by_cases q2 : c = w1.heap.size
      · omega
      · by_cases q3 : S c
        · rcases P.out.2.new c q3 with z | z
          · exact z.elim
          · exact z
        · exfalso
          apply q
          show (if c = w1.heap.size + 1 then some TTag.tree else if c = w1.heap.size then some TTag.all else if S c then some TTag.pool else none) = none
          rw [if_neg q1, if_neg q2, if_neg q3]
  have hadd := tadd_c h2 (PoolV.new_ok HB.out.1 HB.out.2) ⟨by show (0:Int) ≤ 0; decide, by show (0:Int) ≤ 1000000; decide⟩ (by show (0:Int) ≤ 1000000; decide) (by simp) ⟨0, 1, 493, 0, 0, 0, 0⟩ ByteArray.empty
  unfold statC at hadd
  have D := Lib.hid (And.intro kw2 hnewS)
  clear h2 kw2 hnewS k2 b1 b2
  go_wp2_with (
    go_at_call 67
    refine hadd.mono ?_
    rintro e w3 ⟨s3, rfl, i1, i2, i3⟩
    have hx3 := add_get ⟨n, 0, 0, [], ⟨b, 0, []⟩⟩ 1 (maskV 493) 0 0 ByteArray.empty
    have c8 := (i1.cells hx3).up
    have f8 := i1.nodeFree hx3 8
    have N := Lib.hid (And.intro i1 (And.intro i3 hx3))
    clear hadd i1 i2 i3 hx3
    obtain ⟨nb, hnb⟩ : ∃ nb, s3.na ((⟨n, 0, 0, [], ⟨b, 0, []⟩⟩ : TreeV).made + 1) = nb := ⟨_, rfl⟩
    rw [hnb] at c8 f8 ⊢
    have HNB := Lib.hid hnb
    clear hnb)
  go_ret2
  have hnb := HNB.out
  subst hnb
  have s8 := heap_setCell_eq (off := 8) (Value.int .i64 1) (N.out.1.node_at N.out.2.2)
  have h4 := N.out.1.setNode (x' := ⟨1, maskV 493, 0, 0, [], 1, 0, 0, ByteArray.empty, 0⟩) N.out.2.2 rfl rfl (Keep.setCell _ _ _) (by simpa [nodeC, namesB] using s8)
  refine ⟨w1.heap.size + 1, s3, rfl, ?_, ?_, fun c q => ?_⟩
  · have e : ((⟨n, 0, 0, [], ⟨b, 0, []⟩⟩ : TreeV).add 1 (maskV 493) 0 0 ByteArray.empty).set ((⟨n, 0, 0, [], ⟨b, 0, []⟩⟩ : TreeV).made + 1) ⟨1, maskV 493, 0, 0, [], 1, 0, 0, ByteArray.empty, 0⟩ = TreeV.new n b := by
      rw [mask_root]
      rfl
    rw [e] at h4
    exact h4
  · exact (D.out.1.trans N.out.2.1.keep (fun b q => .inr (D.out.2 b q))).setNew _ _ (by
      have := N.out.1.tnode N.out.2.2
      rcases N.out.2.1.new _ (has_of this) with z | z
      · exact D.out.2 _ z
      · have := D.out.1.size; exact Nat.le_trans this z)
  · rcases N.out.2.1.new c q with z | z
    · exact D.out.2 c z
    · have := D.out.1.size; exact Nat.le_trans this z
end Go.Proofs.YtoanccechefclaaGreatDoor
namespace Go.Proofs.YtoanccechefclaaGreatDoor
open Go Go.RowKit
set_option maxRecDepth 100000
end Go.Proofs.YtoanccechefclaaGreatDoor
namespace Go.Proofs.YtoanccechefclaaGreatDoor
open Go Go.RowKit
set_option maxRecDepth 100000
set_option maxHeartbeats 1600000 in
theorem tsetmode_c {w : World} {tb : Nat} {s : TShape} {T : TreeV} (h : TreeIn w tb s T) (hs : T.small 900000) (n : Int) (m : Int) :
    Calls Tryz.prog 46 #[.pointer (some ⟨tb, 0, none⟩), .int .i64 n, .int .i64 m] w fun e w' => e = .returned (.int .i64 (T.setMode n (maskV m)).2) ∧ ∃ s', TreeIn w' tb s' (T.setMode n (maskV m)).1 ∧ TurnT w s w' s' := by
  have c0 := h.hcells.all
  cases hx : aget T.all n with
  | none =>
    rw [show T.setMode n (maskV m) = (T, 1) by unfold TreeV.setMode; rw [hx]]
    have l := look_none h hx
    have H := Lib.hid h
    clear h hx hs
    go_enter Tryz.func46, Tryz.ntmps46
    go_wp2
    go_ret
    exact ⟨rfl, s, H.out, TurnT.same (Keep.refl _ _)⟩
  | some x =>
    rw [show T.setMode n (maskV m) = ({ T.set n { x with mode := maskV m } with turns := T.turns + 1 }, 0) by unfold TreeV.setMode; rw [hx]]
    have l := look_some h hx
    have c1 := h.hcells.turns
    have f1 := h.headFree 4
    have t0 := hs.turns
    have H := Lib.hid (And.intro h hx)
    have hk := fun U => cmask_c U m
    generalize maskV m = mm at *
    clear h hx hs
    go_enter Tryz.func46, Tryz.ntmps46
    go_upto_region 5 with (fail)
    obtain ⟨w1, hw1⟩ : ∃ w1, w1 = w.setCell ⟨tb, 4, none⟩ (.int .i64 (T.turns + 1)) := ⟨_, rfl⟩
    have s1 := heap_setCell_eq (off := 4) (Value.int .i64 (T.turns + 1)) H.out.1.head
    have k1 := Keep.setCell w ⟨tb, 4, none⟩ (.int .i64 (T.turns + 1))
    rw [← hw1] at s1 k1 ⊢
    have h1 := H.out.1.setHead k1 (t := T.turns + 1) (by simpa using s1)
    have hx1 : aget ({ T with turns := T.turns + 1 } : TreeV).all n = some x := H.out.2
    have e0 := (h1.cells hx1).mode
    have g0 := h1.nodeFree hx1 2
    have H1 := Lib.hid (And.intro h1 (And.intro k1 hx1))
    clear hw1 s1 k1 h1 hx1 c0 c1 f1 l
    go_wp2_with (
      go_at_call 88
      refine (hk _).mono ?_
      rintro e w2 ⟨rfl, rfl⟩
      clear hk)
    go_ret
    have s3 := heap_setCell_eq (off := 2) (Value.int .i64 mm) (H1.out.1.node_at H1.out.2.2)
    have ks : Keep w1 (w1.setCell ⟨s.na n, 2, none⟩ (.int .i64 mm)) (fun b => b = s.na n) := Keep.setCell _ _ _
    refine ⟨rfl, s, H1.out.1.setNode H1.out.2.2 rfl rfl ks ?_, TurnT.same ((H1.out.2.1.mono (fun b q => by rw [show b = tb from q]; exact has_of H.out.1.tTree)).trans (ks.mono (fun b q => by rw [show b = s.na n from q]; exact has_of (H.out.1.tnode H.out.2))) (fun b q => .inl q))⟩
    simpa [nodeC, namesB] using s3
set_option maxHeartbeats 1600000 in
theorem tsetowner_c {w : World} {tb : Nat} {s : TShape} {T : TreeV} (h : TreeIn w tb s T) (hs : T.small 900000) (n : Int) (u g : Int) :
    Calls Tryz.prog 51 #[.pointer (some ⟨tb, 0, none⟩), .int .i64 n, .int .i64 u, .int .i64 g] w fun e w' => e = .returned (.int .i64 (T.setOwner n u g).2) ∧ ∃ s', TreeIn w' tb s' (T.setOwner n u g).1 ∧ TurnT w s w' s' := by
  have c0 := h.hcells.all
  cases hx : aget T.all n with
  | none =>
    rw [show T.setOwner n u g = (T, 1) by unfold TreeV.setOwner; rw [hx]]
    have l := look_none h hx
    have H := Lib.hid h
    clear h hx hs
    go_enter Tryz.func51, Tryz.ntmps51
    go_wp2
    go_ret
    exact ⟨rfl, s, H.out, TurnT.same (Keep.refl _ _)⟩
  | some x =>
    rw [show T.setOwner n u g = ({ T.set n { x with uid := u, gid := g } with turns := T.turns + 1 }, 0) by unfold TreeV.setOwner; rw [hx]]
    have l := look_some h hx
    have c1 := h.hcells.turns
    have f1 := h.headFree 4
    have t0 := hs.turns
    have H := Lib.hid (And.intro h hx)
    clear h hx hs
    go_enter Tryz.func51, Tryz.ntmps51
    go_upto_region 5 with (fail)
    obtain ⟨w1, hw1⟩ : ∃ w1, w1 = w.setCell ⟨tb, 4, none⟩ (.int .i64 (T.turns + 1)) := ⟨_, rfl⟩
    have s1 := heap_setCell_eq (off := 4) (Value.int .i64 (T.turns + 1)) H.out.1.head
    have k1 := Keep.setCell w ⟨tb, 4, none⟩ (.int .i64 (T.turns + 1))
    rw [← hw1] at s1 k1 ⊢
    have h1 := H.out.1.setHead k1 (t := T.turns + 1) (by simpa using s1)
    have hx1 : aget ({ T with turns := T.turns + 1 } : TreeV).all n = some x := H.out.2
    have e0 := (h1.cells hx1).uid
    have g0 := h1.nodeFree hx1 3
    have e1 := (h1.cells hx1).gid
    have g1 := h1.nodeFree hx1 4
    have H1 := Lib.hid (And.intro h1 (And.intro k1 hx1))
    clear hw1 s1 k1 h1 hx1 c0 c1 f1 l
    go_wp2
    go_ret
    have s3 := heap_setCell_eq (off := 4) (Value.int .i64 g) (heap_setCell_eq (off := 3) (Value.int .i64 u) (H1.out.1.node_at H1.out.2.2))
    have ks : Keep w1 ((w1.setCell ⟨s.na n, 3, none⟩ (.int .i64 u)).setCell ⟨s.na n, 4, none⟩ (.int .i64 g)) (fun b => b = s.na n) := (Keep.setCell _ _ _).trans (Keep.setCell _ _ _) (fun b q => .inl q)
    refine ⟨rfl, s, H1.out.1.setNode H1.out.2.2 rfl rfl ks ?_, TurnT.same ((H1.out.2.1.mono (fun b q => by rw [show b = tb from q]; exact has_of H.out.1.tTree)).trans (ks.mono (fun b q => by rw [show b = s.na n from q]; exact has_of (H.out.1.tnode H.out.2))) (fun b q => .inl q))⟩
    simpa [nodeC, namesB] using s3
end Go.Proofs.YtoanccechefclaaGreatDoor
