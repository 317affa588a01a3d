/-
  Parts of the walk's proof: RTe. (joined by pack.py)
-/
import Derived.Test.YtoanccechefclaaGreatDoorK14
import Derived.Test.YtoanccechefclaaGreatDoorK16
set_option linter.unusedSectionVars false
set_option linter.unusedSimpArgs false
set_option linter.unusedVariables false
namespace Go.Proofs.YtoanccechefclaaGreatDoor
open Go Go.RowKit
set_option maxRecDepth 100000
theorem aext {α : Type} : ∀ {L M : List (Int × α)}, L.map Prod.fst = M.map Prod.fst → (L.map Prod.fst).Nodup → (∀ k, aget L k = aget M k) → L = M
  | [], [], _, _, _ => rfl
  | [], _ :: _, h, _, _ => by simp at h
  | _ :: _, [], h, _, _ => by simp at h
  | (a, u) :: L, (b, v) :: M, h, hn, hg => by
    simp only [List.map_cons, List.cons.injEq] at h
    obtain ⟨rfl, h2⟩ := h
    simp only [List.map_cons, List.nodup_cons] at hn
    have h0 := hg a
    simp only [aget, if_true, Option.some.injEq] at h0
    subst h0
    rw [aext h2 hn.2 (fun k => by
      by_cases q : a = k
      · subst q
        cases h1 : aget L a with
        | some w => exact absurd (List.mem_map_of_mem (f := Prod.fst) (aget_memN h1)) hn.1
        | none =>
          cases h3 : aget M a with
          | none => rfl
          | some w => exact absurd (List.mem_map_of_mem (f := Prod.fst) (aget_memN h3)) (by rw [← h2]; exact hn.1)
      · have := hg k
        simp only [aget, if_neg q] at this
        exact this)]
theorem give_mostR (T : TreeV) (d n : Int) (s : ByteArray) : (T.give d s n).most = T.most := by unfold TreeV.give; split <;> rfl
theorem lose_mostR (T : TreeV) (d n : Int) (s : ByteArray) : (T.loseName d s n).most = T.most := by unfold TreeV.loseName; split <;> rfl
theorem lose_keys {T : TreeV} {d n : Int} {dx x : NodeV} {k : ByteArray} (hd : aget T.all d = some dx) (hx : aget T.all n = some x) : (T.loseName d k n).all.map Prod.fst = T.all.map Prod.fst := by
  unfold TreeV.loseName
  rw [hd, hx]
  simp only
  by_cases q : d = n
  · subst q
    rw [aset_keys (u := { dx with names := adel dx.names k }) (by rw [aget_aset, if_pos rfl]), aset_keys hd]
  · rw [aset_keys (u := x) (by rw [aget_aset, if_neg q]; exact hx), aset_keys hd]
theorem give_keys {T : TreeV} {d n : Int} {dx x : NodeV} {k : ByteArray} (hd : aget T.all d = some dx) (hx : aget T.all n = some x) : (T.give d k n).all.map Prod.fst = T.all.map Prod.fst := by
  unfold TreeV.give
  rw [hd, hx]
  simp only
  by_cases q : d = n
  · subst q
    rw [aset_keys (u := { dx with names := aset dx.names k d }) (by rw [aget_aset, if_pos rfl]), aset_keys hd]
  · rw [aset_keys (u := x) (by rw [aget_aset, if_neg q]; exact hx), aset_keys hd]
theorem move_end {T : TreeV} (hn : (T.all.map Prod.fst).Nodup) {d e n : Int} {dx ex x : NodeV} {k z : ByteArray} (hd : aget T.all d = some dx) (he : aget T.all e = some ex) (hx : aget T.all n = some x) (hdn : d ≠ n) (hen : e ≠ n) (h0 : 0 ≤ x.holds)
    {T2 T3 T4 : TreeV} (e2 : T2 = T.set n { x with holds := x.holds + 1 }) (e3 : T3 = T2.take d k n) (e4 : T4 = T3.give e z n) :
    ∃ ex3 x4, aget T3.all e = some ex3 ∧ aget T3.all n = some { x with holds := x.holds + 1, links := x.links - 1 } ∧ (d ≠ e → ex3 = ex) ∧ (d = e → ex3 = { dx with names := adel dx.names k }) ∧ aget T4.all n = some x4 ∧ x4.holds = x.holds + 1 ∧ T3.made = T.made ∧ T3.all.map Prod.fst = T.all.map Prod.fst ∧
      (T4.set n { x4 with holds := x4.holds - 1 }).all = ((T.loseName d k n).give e z n).all ∧ (T4.set n { x4 with holds := x4.holds - 1 }).most = ((T.loseName d k n).give e z n).most ∧ (T4.set n { x4 with holds := x4.holds - 1 }).made = ((T.loseName d k n).give e z n).made ∧ (T4.set n { x4 with holds := x4.holds - 1 }).pool = ((T.loseName d k n).give e z n).pool := by
  have g2 : ∀ m, aget T2.all m = if n = m then some { x with holds := x.holds + 1 } else aget T.all m := fun m => by rw [e2, set_get]
  have hd2 : aget T2.all d = some dx := by rw [g2, if_neg (fun q => hdn q.symm)]; exact hd
  have hx2 : aget T2.all n = some { x with holds := x.holds + 1 } := by rw [g2, if_pos rfl]
  have k2 : T2.all.map Prod.fst = T.all.map Prod.fst := by rw [e2]; exact aset_keys hx
  have f3 : T3 = { T2.loseName d k n with turns := T2.turns + 1 } := by
    rw [e3]
    unfold TreeV.take TreeV.drop
    simp only
    rw [lose_all T2 hd2 hx2, if_pos rfl]
    simp only
    rw [if_pos (.inr (.inr (by show 0 < x.holds + 1; omega)))]
  have g3 : ∀ m, aget T3.all m = if n = m then some { x with holds := x.holds + 1, links := x.links - 1 } else if d = m then some { dx with names := adel dx.names k } else aget T2.all m := fun m => by rw [f3]; exact lose_all T2 hd2 hx2 m
  have k3 : T3.all.map Prod.fst = T.all.map Prod.fst := by rw [f3, ← k2]; exact lose_keys hd2 hx2
  obtain ⟨ex3, he3, hne3, heq3⟩ : ∃ ex3, aget T3.all e = some ex3 ∧ (d ≠ e → ex3 = ex) ∧ (d = e → ex3 = { dx with names := adel dx.names k }) := by
    rw [g3, if_neg (fun q => hen q.symm)]
    by_cases q : d = e
    · rw [if_pos q]; exact ⟨_, rfl, fun y => absurd q y, fun _ => rfl⟩
    · rw [if_neg q, g2, if_neg (fun y => hen y.symm)]; exact ⟨ex, he, fun _ => rfl, fun y => absurd y q⟩
  have hx3 : aget T3.all n = some { x with holds := x.holds + 1, links := x.links - 1 } := by rw [g3, if_pos rfl]
  have g4 := give_all T3 (k := z) he3 hx3
  have k4 : (T3.give e z n).all.map Prod.fst = T.all.map Prod.fst := by rw [give_keys he3 hx3]; exact k3
  have hx4 : aget T4.all n = some { x with holds := x.holds + 1, links := x.links - 1 + 1, up := if x.kind = 1 then e else x.up } := by rw [e4, g4, if_pos rfl]
  -- the other way
  have gl := lose_all T (k := k) hd hx
  have kl := lose_keys (k := k) hd hx
  have hxl : aget (T.loseName d k n).all n = some { x with links := x.links - 1 } := by rw [gl, if_pos rfl]
  obtain ⟨exl, hel⟩ : ∃ exl, aget (T.loseName d k n).all e = some exl := by
    rw [gl, if_neg (fun q => hen q.symm)]
    by_cases q : d = e
    · rw [if_pos q]; exact ⟨_, rfl⟩
    · rw [if_neg q]; exact ⟨_, he⟩
  have hee : exl = ex3 := by
    rw [gl, if_neg (fun q => hen q.symm)] at hel
    rw [g3, if_neg (fun q => hen q.symm)] at he3
    by_cases q : d = e
    · rw [if_pos q] at hel he3; rw [hel] at he3; exact Option.some.inj he3
    · rw [if_neg q] at hel he3; rw [g2, if_neg (fun y => hen y.symm), hel] at he3; exact Option.some.inj he3
  have gg := give_all (T.loseName d k n) (k := z) hel hxl
  have kg := give_keys (k := z) hel hxl
  refine ⟨ex3, _, he3, hx3, hne3, heq3, hx4, rfl, by rw [f3, e2]; unfold TreeV.loseName; split <;> rfl, k3, ?_, ?_, ?_, ?_⟩
  · have ks : (T4.set n { { x with holds := x.holds + 1, links := x.links - 1 + 1, up := if x.kind = 1 then e else x.up } with holds := (x.holds + 1) - 1 }).all.map Prod.fst = T.all.map Prod.fst := by
      rw [← k4, ← e4]; exact aset_keys hx4
    refine aext (by rw [kg, kl]; exact ks) (by rw [show (T4.set n _).all.map Prod.fst = T.all.map Prod.fst from ks]; exact hn) (fun m => ?_)
    rw [set_get, gg]
    by_cases q : n = m
    · rw [if_pos q, if_pos q]
      simp only [show x.holds + 1 - 1 = x.holds by omega]
    · rw [if_neg q, if_neg q, e4, g4, if_neg q, gl, if_neg q, g3, if_neg q, g2, if_neg q, hee]
  · show T4.most = _
    rw [e4, give_mostR, give_mostR, f3]
    show (T2.loseName d k n).most = _
    rw [lose_mostR, lose_mostR, e2]
    rfl
  · show T4.made = _
    rw [e4]
    unfold TreeV.give
    rw [he3, hx3, hel, hxl]
    simp only
    rw [f3]
    show (T2.loseName d k n).made = _
    unfold TreeV.loseName
    rw [hd2, hx2, hd, hx, e2]
    rfl
  · show T4.pool = _
    rw [e4]
    unfold TreeV.give
    rw [he3, hx3, hel, hxl]
    simp only
    rw [f3]
    show (T2.loseName d k n).pool = _
    unfold TreeV.loseName
    rw [hd2, hx2, hd, hx, e2]
    rfl
structure MvA (w : World) (s : RShape) (wv : World) (tb : Nat) (s1 : RShape) (bl : Int) (T1 : TreeV) (d e n : Int) (dx ex x : NodeV) (k z : ByteArray) : Prop where
  tab : RTreeIn wv tb s1 bl T1
  up : RUp s1.up T1
  good : T1.good bl
  small : T1.small 850000
  hd : T1.dir d = some dx
  hk : aget dx.names k = some n
  hx : aget T1.all n = some x
  he : T1.dir e = some ex
  hen : e ≠ n
  hz : aget ex.names z = none
  turn : TurnR w s wv s1
  na : s1.na = s.na
def mvT2 (T1 : TreeV) (n : Int) (x : NodeV) : TreeV := T1.set n { x with holds := x.holds + 1 }
def mvT3 (T1 : TreeV) (d n : Int) (k : ByteArray) (x : NodeV) : TreeV := (mvT2 T1 n x).take d k n
def mvT4 (T1 : TreeV) (d e n : Int) (k z : ByteArray) (x : NodeV) : TreeV := (mvT3 T1 d n k x).give e z n
theorem RTreeIn.cell2 {w : World} {tb : Nat} {s : RShape} {bl : Int} {T : TreeV} (h : RTreeIn w tb s bl T) (hu : RUp s.up T) {n : Int} {x : NodeV} (hx : aget T.all n = some x) (v : Int) :
    RTreeIn (w.setCell ⟨s.na n, 11, none⟩ (.int .i64 v)) tb (s.turned n (s.up n) (s.ev n)) bl (T.set n { x with holds := v }) ∧ RUp (s.turned n (s.up n) (s.ev n)).up (T.set n { x with holds := v }) ∧ TurnR w s (w.setCell ⟨s.na n, 11, none⟩ (.int .i64 v)) (s.turned n (s.up n) (s.ev n)) := by
  have ks := Keep.setCell w ⟨s.na n, 11, none⟩ (.int .i64 v)
  have z1 := heap_setCell_eq (off := 11) (Value.int .i64 v) (h.node_at hx)
  obtain ⟨h1, t1⟩ := h.setNodeT hx (x' := { x with holds := v }) (v := s.ev n) (u := s.up n) ks (by simpa [rnodeC] using z1) (rows_keep (h.ents_at (x := x) hx) ks (fun b q e => rtag_ne (h.tents hx b q) (h.tnode hx) (by simp) e)) (fun b q => .inl q)
  exact ⟨h1, by rw [turned_up]; exact hu.set hx rfl rfl rfl, t1⟩
structure MvB (w : World) (s : RShape) (w3 : World) (tb : Nat) (bl : Int) (T1 : TreeV) (d e n : Int) (dx ex x : NodeV) (k z : ByteArray) (T3 : TreeV) : Prop where
  ok : ∃ s3, RTreeIn w3 tb s3 bl T3 ∧ RUp s3.up T3 ∧ TurnR w s w3 s3 ∧ s3.na = s.na
section
variable {w wv : World} {s s1 : RShape} {tb : Nat} {bl : Int} {T1 : TreeV} {d e n : Int} {dx ex x : NodeV} {k z : ByteArray} (A : MvA w s wv tb s1 bl T1 d e n dx ex x k z)
include A
theorem MvA.dn : d ≠ n := A.good.ok.kid_ne A.hd A.hk
theorem MvA.h0 : 0 ≤ x.holds := A.good.ok.holds _ (aget_memN A.hx)
theorem MvA.ends : ∃ ex3 x4, aget (mvT3 T1 d n k x).all e = some ex3 ∧ aget (mvT3 T1 d n k x).all n = some { x with holds := x.holds + 1, links := x.links - 1 } ∧ (d ≠ e → ex3 = ex) ∧ (d = e → ex3 = { dx with names := adel dx.names k }) ∧ aget (mvT4 T1 d e n k z x).all n = some x4 ∧ x4.holds = x.holds + 1 ∧ (mvT3 T1 d n k x).made = T1.made ∧ (mvT3 T1 d n k x).all.map Prod.fst = T1.all.map Prod.fst ∧
      ((mvT4 T1 d e n k z x).set n { x4 with holds := x4.holds - 1 }).all = ((T1.loseName d k n).give e z n).all ∧ ((mvT4 T1 d e n k z x).set n { x4 with holds := x4.holds - 1 }).most = ((T1.loseName d k n).give e z n).most ∧ ((mvT4 T1 d e n k z x).set n { x4 with holds := x4.holds - 1 }).made = ((T1.loseName d k n).give e z n).made ∧ ((mvT4 T1 d e n k z x).set n { x4 with holds := x4.holds - 1 }).pool = ((T1.loseName d k n).give e z n).pool :=
  move_end A.good.ok.nodup (TreeV.dir_some A.hd).1 (TreeV.dir_some A.he).1 A.hx A.dn A.hen A.h0 rfl rfl rfl
theorem mv_out : Calls Tryz.prog 86 #[.pointer (some ⟨tb, 0, none⟩), .int .i64 d, .string k] (wv.setCell ⟨s.na n, 11, none⟩ (.int .i64 (x.holds + 1))) fun a w3 => (∃ v, a = .returned v) ∧ MvB w s w3 tb bl T1 d e n dx ex x k z (mvT3 T1 d n k x) := by
  obtain ⟨h2, u2, t2⟩ := A.tab.cell2 A.up A.hx (x.holds + 1)
  rw [A.na] at h2 t2
  have hdg := (TreeV.dir_some A.hd).1
  have hr1 := TreeV.rng_of A.good.ok A.small (by decide)
  have hd2 : aget (mvT2 T1 n x).all d = some dx := by unfold mvT2; rw [set_get, if_neg (fun q => A.dn q.symm)]; exact hdg
  have hx2 : aget (mvT2 T1 n x).all n = some { x with holds := x.holds + 1 } := by unfold mvT2; rw [set_get, if_pos rfl]
  have hlk := kid_links A.good.ok A.small A.hx
  have hl := (A.small.node hdg).2.2
  have hm := aget_memN hdg
  have hn1 := (A.good.ok.kids _ hm _ (aget_memS A.hk)).1
  refine (rout_c h2 (hr1.set A.hx _) (by have := A.small.pool; show T1.pool.made ≤ _; omega) hd2 hx2 A.dn (A.good.ok.once _ hm) (by omega) A.hk ⟨hlk.1, by show x.links ≤ _; omega⟩).mono ?_
  rintro a w3 ⟨hv, s3, r1, r2, r3, r4⟩
  have hdt : mvT3 T1 d n k x = { ((mvT2 T1 n x).loseName d k n).drop n with turns := (mvT3 T1 d n k x).turns } := by
    unfold mvT3 TreeV.take TreeV.drop
    simp only
    cases aget ((mvT2 T1 n x).loseName d k n).all n with
    | none => rfl
    | some y => simp only; split <;> rfl
  refine ⟨hv, ⟨s3, by rw [hdt]; exact r1.turned _, ?_, A.turn.trans (t2.trans r4), by rw [r2]; exact A.na⟩⟩
  rw [hdt, r3]
  exact ((u2.lose hd2 hx2 A.dn hn1 (fun q => A.good.ok.single _ (aget_memN A.hx) q)).drop n (lose_nodup h2.nodup hd2 hx2)).turned _
theorem mv_put {w3 : World} (B : MvB w s w3 tb bl T1 d e n dx ex x k z (mvT3 T1 d n k x)) :
    Calls Tryz.prog 83 #[.pointer (some ⟨tb, 0, none⟩), .int .i64 e, .string z, .int .i64 n] w3 fun a w4 => (∃ v, a = .returned v) ∧ MvB w s w4 tb bl T1 d e n dx ex x k z (mvT4 T1 d e n k z x) := by
  obtain ⟨s3, h3, u3, t3, n3⟩ := B.ok
  obtain ⟨ex3, x4, he3, hx3, hne3, heq3, hx4, hh4, hm3, hk3, -⟩ := A.ends
  have hr1 := TreeV.rng_of A.good.ok A.small (by decide)
  have heg := (TreeV.dir_some A.he).1
  have hdg := (TreeV.dir_some A.hd).1
  have hr3 : (mvT3 T1 d n k x).rng := by
    refine ⟨by rw [hm3]; exact hr1.1, fun y hy => ?_⟩
    have : y.1 ∈ T1.all.map Prod.fst := by rw [← hk3]; exact List.mem_map_of_mem (f := Prod.fst) hy
    obtain ⟨y', hy', e'⟩ := List.mem_map.1 this
    rw [← e', hm3]
    exact hr1.2 y' hy'
  have hlp := kid_pos A.good.ok A.hd A.hk A.hx
  have hlk := (A.small.node A.hx).2.1
  have hex : (ex3.names.map Prod.fst).Nodup ∧ ex3.names.length ≤ 1000000 ∧ aget ex3.names z = none := by
    by_cases q : d = e
    · rw [heq3 q]
      have hde : dx = ex := by
        have := A.hd
        rw [q, A.he] at this
        exact (Option.some.inj this).symm
      have hkz : k ≠ z := fun y => by
        have h1 := A.hk
        rw [y, hde, A.hz] at h1
        cases h1
      have hl := (A.small.node hdg).2.2
      have hs := adel_sub dx.names k
      refine ⟨(A.good.ok.once _ (aget_memN hdg)).sublist (hs.map _), by have := hs.length_le; simp only; omega, ?_⟩
      simp only
      rw [aget_adel_ne hkz, hde]
      exact A.hz
    · rw [hne3 q]
      have hl := (A.small.node heg).2.2
      exact ⟨A.good.ok.once _ (aget_memN heg), by omega, A.hz⟩
  refine (rput_c h3 hr3 he3 hx3 A.hen hex.1 hex.2.1 hex.2.2 ⟨by show 0 ≤ x.links - 1; omega, by show x.links - 1 ≤ _; omega⟩).mono ?_
  rintro a w4 ⟨hv, s4, r1, r2, r3, r4⟩
  refine ⟨hv, ⟨s4, r1, ?_, t3.trans r4, by rw [r2, n3]⟩⟩
  rw [r3]
  exact u3.give he3 hx3 A.hen (by show 0 ≤ x.links - 1; omega)
theorem mv_cell {w4 : World} (B : MvB w s w4 tb bl T1 d e n dx ex x k z (mvT4 T1 d e n k z x)) : w4.cell? ⟨s.na n, 11, none⟩ = some (.int .i64 (x.holds + 1)) ∧ w4.frozen? ⟨s.na n, 11, none⟩ = false := by
  obtain ⟨s4, h4, -, -, n4⟩ := B.ok
  obtain ⟨ex3, x4, -, -, -, -, hx4, hh4, -⟩ := A.ends
  have c := (h4.cells hx4).holds
  have f := h4.nodeFree hx4 11
  rw [n4] at c f
  rw [hh4] at c
  exact ⟨c, f⟩
theorem mv_fin {w4 : World} (B : MvB w s w4 tb bl T1 d e n dx ex x k z (mvT4 T1 d e n k z x)) : RTo w s tb bl ((T1.loseName d k n).give e z n) (w4.setCell ⟨s.na n, 11, none⟩ (.int .i64 x.holds)) := by
  obtain ⟨s4, h4, u4, t4, n4⟩ := B.ok
  obtain ⟨ex3, x4, -, -, -, -, hx4, hh4, -, -, g1, g2, g3, g4⟩ := A.ends
  obtain ⟨h5, u5, t5⟩ := h4.cell2 u4 hx4 (x4.holds - 1)
  rw [n4, show x4.holds - 1 = x.holds by omega] at h5 t5
  rw [show x4.holds - 1 = x.holds by omega] at u5 g1 g2 g3 g4
  have he : (T1.loseName d k n).give e z n = { (mvT4 T1 d e n k z x).set n { x4 with holds := x.holds } with turns := ((T1.loseName d k n).give e z n).turns } := by
    rw [show (T1.loseName d k n).give e z n = ⟨((T1.loseName d k n).give e z n).most, ((T1.loseName d k n).give e z n).made, ((T1.loseName d k n).give e z n).turns, ((T1.loseName d k n).give e z n).all, ((T1.loseName d k n).give e z n).pool⟩ from rfl, ← g1, ← g2, ← g3, ← g4]
  exact ⟨_, by rw [he]; exact h5.turned _, by rw [he]; exact u5.turned _, t4.trans t5⟩
end
theorem rtakeN_c {w : World} {tb : Nat} {s : RShape} {bl : Int} {T : TreeV} (h : RTreeIn w tb s bl T) (hu : RUp s.up T) (hg : T.good bl) (hs : T.small 900000) {d n : Int} {dx : NodeV} {k : ByteArray} (hd : T.dir d = some dx) (hk : aget dx.names k = some n) :
    Calls Tryz.prog 86 #[.pointer (some ⟨tb, 0, none⟩), .int .i64 d, .string k] w fun e w' => (∃ v, e = .returned v) ∧ ∃ s', RTreeIn w' tb s' bl (T.take d k n) ∧ RUp s'.up (T.take d k n) ∧ TurnR w s w' s' ∧ s'.na = s.na := by
  have hr := TreeV.rng_of hg.ok hs (by decide)
  obtain ⟨x, hx⟩ := hg.ok.kid hd hk
  have hdg := (TreeV.dir_some hd).1
  have hne := hg.ok.kid_ne hd hk
  have hm := aget_memN hdg
  have hn1 := (hg.ok.kids _ hm _ (aget_memS hk)).1
  have hlk := kid_links hg.ok hs hx
  have hl := (hs.node hdg).2.2
  refine (rout_c h hr (by have := hs.pool; omega) hdg hx hne (hg.ok.once _ hm) (by omega) hk ⟨hlk.1, by omega⟩).mono ?_
  rintro e w' ⟨hv, s', r1, r2, r3, r4⟩
  have hdt : T.take d k n = { (T.loseName d k n).drop n with turns := (T.take d k n).turns } := by
    unfold TreeV.take
    unfold TreeV.drop
    simp only
    cases aget (T.loseName d k n).all n with
    | none => rfl
    | some y => simp only; split <;> rfl
  refine ⟨hv, s', by rw [hdt]; exact r1.turned _, ?_, r4, r2⟩
  rw [hdt, r3]
  exact ((hu.lose hdg hx hne hn1 (fun q => hg.ok.single _ (aget_memN hx) q)).drop n (lose_nodup hg.ok.nodup hdg hx)).turned _
theorem take_all {T : TreeV} (hn : (T.all.map Prod.fst).Nodup) {e m : Int} {ex y : NodeV} {z : ByteArray} (he : aget T.all e = some ex) (hy : aget T.all m = some y) {j : Int} (hj : m ≠ j) : aget (T.take e z m).all j = if e = j then some { ex with names := adel ex.names z } else aget T.all j := by
  have hl := lose_all T (k := z) he hy
  have hln := lose_nodup (k := z) hn he hy
  unfold TreeV.take TreeV.drop
  simp only
  cases hq : aget (T.loseName e z m).all m with
  | none =>
    simp only
    rw [hl, if_neg hj]
  | some y' =>
    simp only
    split
    · simp only
      rw [hl, if_neg hj]
    · simp only
      rw [aget_adelI hln, if_neg hj, hl, if_neg hj]
end Go.Proofs.YtoanccechefclaaGreatDoor
namespace Go.Proofs.YtoanccechefclaaGreatDoor
open Go Go.RowKit
set_option maxRecDepth 100000
set_option maxHeartbeats 80000000 in
theorem rtmove_c {w : World} {tb : Nat} {s : RShape} {bl : Int} {T : TreeV} (h : RTreeIn w tb s bl T) (hu : RUp s.up T) (hg : T.good bl) (hs : T.small 800000) {z : ByteArray} {r : Bool} (hrr : RRightIs z r) (d : Int) (k : ByteArray) (e : Int) :
    Calls Tryz.prog 45 #[.pointer (some ⟨tb, 0, none⟩), .int .i64 d, .string k, .int .i64 e, .string z] w fun a w' => a = .returned (.int .i64 (T.move r d k e z).2) ∧ RTo w s tb bl (T.move r d k e z).1 w' := by
  have hs9 : T.small 900000 := hs.mono (by decide)
  have hr := TreeV.rng_of hg.ok hs9 (by decide)
  have hups := hu.ups hg.ok.nodup
  have hri := hrr w
  have H := Lib.hid (And.intro h hu)
  cases hd : T.dir d with
  | none =>
    have hdd := rtdir_n h hr hd
    rw [show T.move r d k e z = (T, 1) by unfold TreeV.move; rw [hd]]
    clear h hu hg hs hs9 hr hups hrr hri hd
    as_aux_lemma =>
      go_enter Tryz.func45, Tryz.ntmps45
      go_wp2_with (first
        | (go_at_call 75
           refine hdd.mono ?_
           rintro e w1 ⟨rfl, rfl⟩
           clear hdd))
      go_ret
      exact ⟨rfl, s, H.out.1, H.out.2, TurnR.same (Keep.refl _ _)⟩
  | some dx =>
    have hdd := rtdir_s h hr hd
    have hdg := (TreeV.dir_some hd).1
    cases he : T.dir e with
    | none =>
      have hde := rtdir_n h hr he
      rw [show T.move r d k e z = (T, 1) by unfold TreeV.move; rw [hd, he]]
      clear h hu hg hs hs9 hr hups hrr hri hd he hdg
      as_aux_lemma =>
        go_enter Tryz.func45, Tryz.ntmps45
        go_wp2_with (first
          | (go_at_call 75
             refine hdd.mono ?_
             rintro e w1 ⟨rfl, rfl⟩
             clear hdd)
          | (go_at_call 75
             refine hde.mono ?_
             rintro e w1 ⟨rfl, rfl⟩
             clear hde))
        go_ret
        exact ⟨rfl, s, H.out.1, H.out.2, TurnR.same (Keep.refl _ _)⟩
    | some ex =>
      have hde := rtdir_s h hr he
      have heg := (TreeV.dir_some he).1
      cases r with
      | false =>
        rw [show T.move false d k e z = (T, 1) by unfold TreeV.move; rw [hd, he]; rfl]
        clear h hu hg hs hs9 hr hups hrr hd he hdg heg
        as_aux_lemma =>
          go_enter Tryz.func45, Tryz.ntmps45
          go_wp2_with (first
            | (go_at_call 75
               refine hdd.mono ?_
               rintro e w1 ⟨rfl, rfl⟩
               clear hdd)
            | (go_at_call 75
               refine hde.mono ?_
               rintro e w1 ⟨rfl, rfl⟩
               clear hde)
            | (go_at_call 76
               refine hri.mono ?_
               rintro e w1 ⟨rfl, rfl⟩
               clear hri))
          go_ret
          exact ⟨rfl, s, H.out.1, H.out.2, TurnR.same (Keep.refl _ _)⟩
      | true =>
        have hsm : ∀ y ∈ T.all, y.2.names.length ≤ 1000000 := fun y hy => by have := (hs9.nodes y hy).2.2; omega
        have hf1 := rtfind_c h hr hg.ok.once hsm d k
        have hfe : T.find d k = match aget dx.names k with | none => (0, false) | some n => (n, true) := by unfold TreeV.find; rw [hd]; rfl
        cases hk : aget dx.names k with
        | none =>
          rw [hk] at hfe
          rw [hfe] at hf1
          rw [show T.move true d k e z = (T, 32) by unfold TreeV.move; rw [hd, he]; simp only [hk]; rfl]
          clear h hu hg hs hs9 hr hups hrr hd he hdg heg hk hfe hsm
          as_aux_lemma =>
            go_enter Tryz.func45, Tryz.ntmps45
            go_wp2_with (first
              | (go_at_call 75
                 refine hdd.mono ?_
                 rintro e w1 ⟨rfl, rfl⟩
                 clear hdd)
              | (go_at_call 75
                 refine hde.mono ?_
                 rintro e w1 ⟨rfl, rfl⟩
                 clear hde)
              | (go_at_call 76
                 refine hri.mono ?_
                 rintro e w1 ⟨rfl, rfl⟩
                 clear hri)
              | (go_at_call 85
                 refine hf1.mono ?_
                 rintro e w2 ⟨rfl, k2⟩
                 have K2 := Lib.hid k2
                 clear hf1 k2))
            go_ret
            exact ⟨rfl, s, H.out.1.aside K2.out, H.out.2, TurnR.aside K2.out⟩
        | some n =>
          rw [hk] at hfe
          rw [hfe] at hf1
          obtain ⟨x, hx⟩ := hg.ok.kid hd hk
          have hdn := hg.ok.kid_ne hd hk
          have hgo := fun w' (K : Keep w w' (fun _ => False)) => rgone_c (h.aside K) hr heg (kid_links hg.ok hs9 heg).1
          have hat := fun w' (K : Keep w w' (fun _ => False)) => rtat_s (h.aside K) hr hx
          have hwi := fun w' (K : Keep w w' (fun _ => False)) => rtwithin_c (h.aside K) hr hg.ok hups e n
          have hf2 := fun w' (K : Keep w w' (fun _ => False)) => rtfind_c (h.aside K) hr hg.ok.once hsm e z
          have hck := fun w' (K : Keep w w' (fun _ => False)) => ((h.aside K).cells hx).kind
          have hli := fun w' (K : Keep w w' (fun _ => False)) => rlinks_c (h.aside K) hr hg.ok heg (hsm _ (aget_memN heg))
          have hlo : T.linksOf e ex = T.dirs e ex := by unfold TreeV.linksOf; rw [if_pos (TreeV.dir_some he).2]
          simp only [hlo] at hli
          have hfe2 : T.find e z = match aget ex.names z with | none => (0, false) | some m => (m, true) := by unfold TreeV.find; rw [he]; rfl
          cases hnm : TreeV.named e ex with
          | false =>
            simp only [hnm, Bool.not_false] at hgo
            rw [show T.move true d k e z = (T, 32) by unfold TreeV.move; rw [hd, he]; simp only [hk]; simp [hnm]]
            clear h hu hg hs hs9 hr hups hrr hd he hdg heg hk hfe hsm hat hwi hf2 hck hli hlo hfe2 hdn hx
            as_aux_lemma =>
              go_enter Tryz.func45, Tryz.ntmps45
              go_wp2_with (first
                | (go_at_call 75
                   refine hdd.mono ?_
                   rintro e w1 ⟨rfl, rfl⟩
                   clear hdd)
                | (go_at_call 75
                   refine hde.mono ?_
                   rintro e w1 ⟨rfl, rfl⟩
                   clear hde)
                | (go_at_call 76
                   refine hri.mono ?_
                   rintro e w1 ⟨rfl, rfl⟩
                   clear hri)
                | (go_at_call 85
                   refine hf1.mono ?_
                   rintro e w2 ⟨rfl, k2⟩
                   have K2 := Lib.hid k2
                   have hgo2 := hgo _ k2
                   clear hf1 k2)
                | (go_at_call 78
                   refine hgo2.mono ?_
                   rintro e w1 ⟨rfl, rfl⟩
                   clear hgo2))
              go_ret
              exact ⟨rfl, s, H.out.1.aside K2.out, H.out.2, TurnR.aside K2.out⟩
          | true =>
            simp only [hnm, Bool.not_true] at hgo
            have hisd : T.isDir n = decide (x.kind = 1) := by
              unfold TreeV.isDir TreeV.dir
              rw [hx]
              by_cases q : x.kind = 1 <;> simp [q]
            by_cases hin : T.isDir n = true ∧ (n = e ∨ T.within e n = true)
            · rw [show T.move true d k e z = (T, 39) by unfold TreeV.move; rw [hd, he]; simp only [hk, hnm, Bool.true_eq_false, if_false]; rw [if_pos hin]]
              obtain ⟨h1, h2⟩ := hin
              have hk1 : x.kind = 1 := by rw [hisd] at h1; simpa using h1
              simp only [hk1] at hck
              by_cases hne : n = e
              · have g2 : (e == n) = true := by simpa using hne.symm
                clear h hu hg hs hs9 hr hups hrr hd he hdg heg hk hfe hsm hwi hf2 hli hlo hfe2 hdn hx hisd hk1 h1 h2 hne hnm
                as_aux_lemma =>
                  go_enter Tryz.func45, Tryz.ntmps45
                  go_wp2_with (first
                    | (go_at_call 75
                       refine hdd.mono ?_
                       rintro e w1 ⟨rfl, rfl⟩
                       clear hdd)
                    | (go_at_call 75
                       refine hde.mono ?_
                       rintro e w1 ⟨rfl, rfl⟩
                       clear hde)
                    | (go_at_call 76
                       refine hri.mono ?_
                       rintro e w1 ⟨rfl, rfl⟩
                       clear hri)
                    | (go_at_call 85
                       refine hf1.mono ?_
                       rintro e w2 ⟨rfl, k2⟩
                       have K2 := Lib.hid k2
                       have hgo2 := hgo _ k2
                       have hat2 := hat _ k2
                       have c1 := hck _ k2
                       clear hf1 k2)
                    | (go_at_call 78
                       refine hgo2.mono ?_
                       rintro e w1 ⟨rfl, rfl⟩
                       clear hgo2)
                    | (go_at_call 84
                       refine hat2.mono ?_
                       rintro e w1 ⟨rfl, rfl⟩
                       clear hat2))
                  go_ret
                  exact ⟨rfl, s, H.out.1.aside K2.out, H.out.2, TurnR.aside K2.out⟩
              · have g2 : (e == n) = false := by simpa using fun q => hne q.symm
                have hwt : T.within e n = true := by rcases h2 with q | q; exact absurd q hne; exact q
                simp only [hwt] at hwi
                clear h hu hg hs hs9 hr hups hrr hd he hdg heg hk hfe hsm hf2 hli hlo hfe2 hdn hx hisd hk1 h1 h2 hne hwt hnm
                as_aux_lemma =>
                  go_enter Tryz.func45, Tryz.ntmps45
                  go_wp2_with (first
                    | (go_at_call 75
                       refine hdd.mono ?_
                       rintro e w1 ⟨rfl, rfl⟩
                       clear hdd)
                    | (go_at_call 75
                       refine hde.mono ?_
                       rintro e w1 ⟨rfl, rfl⟩
                       clear hde)
                    | (go_at_call 76
                       refine hri.mono ?_
                       rintro e w1 ⟨rfl, rfl⟩
                       clear hri)
                    | (go_at_call 85
                       refine hf1.mono ?_
                       rintro e w2 ⟨rfl, k2⟩
                       have K2 := Lib.hid k2
                       have hgo2 := hgo _ k2
                       have hat2 := hat _ k2
                       have c1 := hck _ k2
                       have hwi2 := hwi _ k2
                       clear hf1 k2)
                    | (go_at_call 78
                       refine hgo2.mono ?_
                       rintro e w1 ⟨rfl, rfl⟩
                       clear hgo2)
                    | (go_at_call 84
                       refine hat2.mono ?_
                       rintro e w1 ⟨rfl, rfl⟩
                       clear hat2)
                    | (go_at_call 87
                       refine hwi2.mono ?_
                       rintro e w1 ⟨rfl, rfl⟩
                       clear hwi2))
                  go_ret
                  exact ⟨rfl, s, H.out.1.aside K2.out, H.out.2, TurnR.aside K2.out⟩
            · have hen : e ≠ n := fun q => by
                apply hin
                refine ⟨?_, .inl q.symm⟩
                rw [← q, isDir_eq he]
              have g2 : (e == n) = false := by simpa using hen
              have hwf : x.kind = 1 → T.within e n = false := fun q => by
                cases hq : T.within e n with
                | false => rfl
                | true => exact absurd ⟨by rw [hisd]; simpa using q, .inr hq⟩ hin
              cases hz : aget ex.names z with
              | none =>
                rw [hz] at hfe2
                simp only [hfe2] at hf2
                have hmv := move_none hd he hk hnm hin hz hx
                by_cases hk1 : x.kind = 1
                · simp only [hk1] at hck
                  have hwt := hwf hk1
                  simp only [hwt] at hwi
                  by_cases hde2 : d = e
                  · have g3 : (d != e) = false := by simpa using hde2
                    rw [if_neg (show ¬ (x.kind = 1 ∧ d ≠ e ∧ 16 ≤ T.dirs e ex) from fun q => q.2.1 hde2), if_pos rfl] at hmv
                    rw [hmv]
                    have A : MvA w s w tb s bl T d e n dx ex x k z := ⟨h, hu, hg, hs.mono (by decide), hd, hk, hx, he, hen, hz, TurnR.same (Keep.refl _ _), rfl⟩
                    clear h hu hg hs hs9 hr hups hrr hd he hdg heg hk hfe hsm hli hlo hfe2 hdn hisd hin hwf hk1 hmv hwt hnm hde2 hz
                    as_aux_lemma =>
                      have AH := Lib.hid A
                      clear A
                      go_enter Tryz.func45, Tryz.ntmps45
                      go_upto_region 25 with (first
                        | (go_at_call 75
                           refine hdd.mono ?_
                           rintro e w1 ⟨rfl, rfl⟩
                           clear hdd)
                        | (go_at_call 75
                           refine hde.mono ?_
                           rintro e w1 ⟨rfl, rfl⟩
                           clear hde)
                        | (go_at_call 76
                           refine hri.mono ?_
                           rintro e w1 ⟨rfl, rfl⟩
                           clear hri)
                        | (go_at_call 85
                           refine hf1.mono ?_
                           rintro e w2 ⟨rfl, k2⟩
                           have K2 := Lib.hid k2
                           have hgo2 := hgo _ k2
                           have hat2 := hat _ k2
                           have c1 := hck _ k2
                           have hwi2 := hwi _ k2
                           have hf22 := hf2 _ k2
                           clear hf1 k2)
                        | (go_at_call 78
                           refine hgo2.mono ?_
                           rintro e w1 ⟨rfl, rfl⟩
                           clear hgo2)
                        | (go_at_call 84
                           refine hat2.mono ?_
                           rintro e w1 ⟨rfl, rfl⟩
                           clear hat2)
                        | (go_at_call 87
                           refine hwi2.mono ?_
                           rintro e w1 ⟨rfl, rfl⟩
                           clear hwi2)
                        | (go_at_call 85
                           refine hf22.mono ?_
                           rintro e w3 ⟨rfl, k3⟩
                           have K3 := Lib.hid (K2.out.trans k3 (fun _ q => q.elim))
                           clear hf22 k3))
                      have A3 : MvA w s w3 tb s bl T d e n dx ex x k z := by
                        have q := AH.out
                        exact ⟨q.tab.aside K3.out, q.up, q.good, q.small, q.hd, q.hk, q.hx, q.he, q.hen, q.hz, TurnR.aside K3.out, rfl⟩
                      have hh0 := A3.h0
                      have hh1 := (A3.small.node A3.hx).1
                      have ch := (A3.tab.cells A3.hx).holds
                      have fh := A3.tab.nodeFree A3.hx 11
                      rw [A3.na] at ch fh
                      have hmo := mv_out A3
                      have AA := Lib.hid A3
                      clear A3
                      generalize hnb : s.na n = nb at *
                      go_wp2_with (first
                        | (go_at_call 86
                           refine hmo.mono ?_
                           rintro e w5 ⟨⟨v5, rfl⟩, b5⟩
                           have hmp := mv_put AA.out b5
                           clear hmo b5 ch fh)
                        | (go_at_call 83
                           refine hmp.mono ?_
                           rintro e w6 ⟨⟨v6, rfl⟩, b6⟩
                           have hc6 := mv_cell AA.out b6
                           rw [hnb] at hc6
                           obtain ⟨c6, f6⟩ := hc6
                           have hfin := mv_fin AA.out b6
                           rw [hnb] at hfin
                           have FI := Lib.hid hfin
                           clear hmp b6 hfin))
                      go_ret
                      refine ⟨rfl, ?_⟩
                      have hr := FI.out
                      exact hr
                  · have g3 : (d != e) = true := by simpa using hde2
                    by_cases h16 : 16 ≤ T.dirs e ex
                    · rw [if_pos (show x.kind = 1 ∧ d ≠ e ∧ 16 ≤ T.dirs e ex from ⟨hk1, hde2, h16⟩), if_neg (by decide)] at hmv
                      rw [hmv]
                      generalize T.dirs e ex = dn at *
                      clear h hu hg hs hs9 hr hups hrr hd he hdg heg hk hfe hsm hlo hfe2 hdn hx hisd hin hwf hk1 hmv hwt hnm hde2 hz
                      as_aux_lemma =>
                        go_enter Tryz.func45, Tryz.ntmps45
                        go_wp2_with (first
                          | (go_at_call 75
                             refine hdd.mono ?_
                             rintro e w1 ⟨rfl, rfl⟩
                             clear hdd)
                          | (go_at_call 75
                             refine hde.mono ?_
                             rintro e w1 ⟨rfl, rfl⟩
                             clear hde)
                          | (go_at_call 76
                             refine hri.mono ?_
                             rintro e w1 ⟨rfl, rfl⟩
                             clear hri)
                          | (go_at_call 85
                             refine hf1.mono ?_
                             rintro e w2 ⟨rfl, k2⟩
                             have K2 := Lib.hid k2
                             have hgo2 := hgo _ k2
                             have hat2 := hat _ k2
                             have c1 := hck _ k2
                             have hwi2 := hwi _ k2
                             have hf22 := hf2 _ k2
                             clear hf1 k2)
                          | (go_at_call 78
                             refine hgo2.mono ?_
                             rintro e w1 ⟨rfl, rfl⟩
                             clear hgo2)
                          | (go_at_call 84
                             refine hat2.mono ?_
                             rintro e w1 ⟨rfl, rfl⟩
                             clear hat2)
                          | (go_at_call 87
                             refine hwi2.mono ?_
                             rintro e w1 ⟨rfl, rfl⟩
                             clear hwi2)
                          | (go_at_call 85
                             refine hf22.mono ?_
                             rintro e w3 ⟨rfl, k3⟩
                             have K3 := Lib.hid (K2.out.trans k3 (fun _ q => q.elim))
                             have hli3 := hli _ K3.out
                             clear hf22 k3)
                          | (go_at_call 79
                             refine hli3.mono ?_
                             rintro e w1 ⟨rfl, rfl⟩
                             clear hli3))
                        go_ret
                        exact ⟨rfl, s, H.out.1.aside K3.out, H.out.2, TurnR.aside K3.out⟩
                    · rw [if_neg (show ¬ (x.kind = 1 ∧ d ≠ e ∧ 16 ≤ T.dirs e ex) from fun q => h16 q.2.2), if_pos rfl] at hmv
                      rw [hmv]
                      have A : MvA w s w tb s bl T d e n dx ex x k z := ⟨h, hu, hg, hs.mono (by decide), hd, hk, hx, he, hen, hz, TurnR.same (Keep.refl _ _), rfl⟩
                      generalize T.dirs e ex = dn at *
                      clear h hu hg hs hs9 hr hups hrr hd he hdg heg hk hfe hsm hlo hfe2 hdn hx hisd hin hwf hk1 hmv hwt hnm hde2 hz
                      as_aux_lemma =>
                        have AH := Lib.hid A
                        clear A
                        go_enter Tryz.func45, Tryz.ntmps45
                        go_upto_region 25 with (first
                          | (go_at_call 75
                             refine hdd.mono ?_
                             rintro e w1 ⟨rfl, rfl⟩
                             clear hdd)
                          | (go_at_call 75
                             refine hde.mono ?_
                             rintro e w1 ⟨rfl, rfl⟩
                             clear hde)
                          | (go_at_call 76
                             refine hri.mono ?_
                             rintro e w1 ⟨rfl, rfl⟩
                             clear hri)
                          | (go_at_call 85
                             refine hf1.mono ?_
                             rintro e w2 ⟨rfl, k2⟩
                             have K2 := Lib.hid k2
                             have hgo2 := hgo _ k2
                             have hat2 := hat _ k2
                             have c1 := hck _ k2
                             have hwi2 := hwi _ k2
                             have hf22 := hf2 _ k2
                             clear hf1 k2)
                          | (go_at_call 78
                             refine hgo2.mono ?_
                             rintro e w1 ⟨rfl, rfl⟩
                             clear hgo2)
                          | (go_at_call 84
                             refine hat2.mono ?_
                             rintro e w1 ⟨rfl, rfl⟩
                             clear hat2)
                          | (go_at_call 87
                             refine hwi2.mono ?_
                             rintro e w1 ⟨rfl, rfl⟩
                             clear hwi2)
                          | (go_at_call 85
                             refine hf22.mono ?_
                             rintro e w3 ⟨rfl, k3⟩
                             have K3 := Lib.hid (K2.out.trans k3 (fun _ q => q.elim))
                             have hli3 := hli _ K3.out
                             clear hf22 k3)
                          | (go_at_call 79
                             refine hli3.mono ?_
                             rintro e w1 ⟨rfl, rfl⟩
                             clear hli3))
                        have A3 : MvA w s w3 tb s bl T d e n dx ex x k z := by
                          have q := AH.out
                          exact ⟨q.tab.aside K3.out, q.up, q.good, q.small, q.hd, q.hk, q.hx, q.he, q.hen, q.hz, TurnR.aside K3.out, rfl⟩
                        have hh0 := A3.h0
                        have hh1 := (A3.small.node A3.hx).1
                        have ch := (A3.tab.cells A3.hx).holds
                        have fh := A3.tab.nodeFree A3.hx 11
                        rw [A3.na] at ch fh
                        have hmo := mv_out A3
                        have AA := Lib.hid A3
                        clear A3
                        generalize hnb : s.na n = nb at *
                        go_wp2_with (first
                          | (go_at_call 86
                             refine hmo.mono ?_
                             rintro e w5 ⟨⟨v5, rfl⟩, b5⟩
                             have hmp := mv_put AA.out b5
                             clear hmo b5 ch fh)
                          | (go_at_call 83
                             refine hmp.mono ?_
                             rintro e w6 ⟨⟨v6, rfl⟩, b6⟩
                             have hc6 := mv_cell AA.out b6
                             rw [hnb] at hc6
                             obtain ⟨c6, f6⟩ := hc6
                             have hfin := mv_fin AA.out b6
                             rw [hnb] at hfin
                             have FI := Lib.hid hfin
                             clear hmp b6 hfin))
                        go_ret
                        refine ⟨rfl, ?_⟩
                        have hr := FI.out
                        exact hr
                · have gk : (x.kind == 1) = false := by simpa using hk1
                  rw [if_neg (show ¬ (x.kind = 1 ∧ d ≠ e ∧ 16 ≤ T.dirs e ex) from fun q => hk1 q.1), if_pos rfl] at hmv
                  rw [hmv]
                  have A : MvA w s w tb s bl T d e n dx ex x k z := ⟨h, hu, hg, hs.mono (by decide), hd, hk, hx, he, hen, hz, TurnR.same (Keep.refl _ _), rfl⟩
                  clear h hu hg hs hs9 hr hups hrr hd he hdg heg hk hfe hsm hli hlo hfe2 hdn hisd hin hwf hk1 hmv hnm hz
                  as_aux_lemma =>
                    have AH := Lib.hid A
                    clear A
                    go_enter Tryz.func45, Tryz.ntmps45
                    go_upto_region 25 with (first
                      | (go_at_call 75
                         refine hdd.mono ?_
                         rintro e w1 ⟨rfl, rfl⟩
                         clear hdd)
                      | (go_at_call 75
                         refine hde.mono ?_
                         rintro e w1 ⟨rfl, rfl⟩
                         clear hde)
                      | (go_at_call 76
                         refine hri.mono ?_
                         rintro e w1 ⟨rfl, rfl⟩
                         clear hri)
                      | (go_at_call 85
                         refine hf1.mono ?_
                         rintro e w2 ⟨rfl, k2⟩
                         have K2 := Lib.hid k2
                         have hgo2 := hgo _ k2
                         have hat2 := hat _ k2
                         have c1 := hck _ k2
                         have hwi2 := hwi _ k2
                         have hf22 := hf2 _ k2
                         clear hf1 k2)
                      | (go_at_call 78
                         refine hgo2.mono ?_
                         rintro e w1 ⟨rfl, rfl⟩
                         clear hgo2)
                      | (go_at_call 84
                         refine hat2.mono ?_
                         rintro e w1 ⟨rfl, rfl⟩
                         clear hat2)
                      | (go_at_call 87
                         refine hwi2.mono ?_
                         rintro e w1 ⟨rfl, rfl⟩
                         clear hwi2)
                      | (go_at_call 85
                         refine hf22.mono ?_
                         rintro e w3 ⟨rfl, k3⟩
                         have K3 := Lib.hid (K2.out.trans k3 (fun _ q => q.elim))
                         clear hf22 k3))
                    have A3 : MvA w s w3 tb s bl T d e n dx ex x k z := by
                      have q := AH.out
                      exact ⟨q.tab.aside K3.out, q.up, q.good, q.small, q.hd, q.hk, q.hx, q.he, q.hen, q.hz, TurnR.aside K3.out, rfl⟩
                    have hh0 := A3.h0
                    have hh1 := (A3.small.node A3.hx).1
                    have ch := (A3.tab.cells A3.hx).holds
                    have fh := A3.tab.nodeFree A3.hx 11
                    rw [A3.na] at ch fh
                    have hmo := mv_out A3
                    have AA := Lib.hid A3
                    clear A3
                    generalize hnb : s.na n = nb at *
                    go_wp2_with (first
                      | (go_at_call 86
                         refine hmo.mono ?_
                         rintro e w5 ⟨⟨v5, rfl⟩, b5⟩
                         have hmp := mv_put AA.out b5
                         clear hmo b5 ch fh)
                      | (go_at_call 83
                         refine hmp.mono ?_
                         rintro e w6 ⟨⟨v6, rfl⟩, b6⟩
                         have hc6 := mv_cell AA.out b6
                         rw [hnb] at hc6
                         obtain ⟨c6, f6⟩ := hc6
                         have hfin := mv_fin AA.out b6
                         rw [hnb] at hfin
                         have FI := Lib.hid hfin
                         clear hmp b6 hfin))
                    go_ret
                    refine ⟨rfl, ?_⟩
                    have hr := FI.out
                    exact hr
              | some m =>
                rw [hz] at hfe2
                simp only [hfe2] at hf2
                by_cases hmn : m = n
                · have hz' : aget ex.names z = some n := by rw [hz, hmn]
                  have g3 : (m == n) = true := by simpa using hmn
                  have hmv : T.move true d k e z = (T, 0) := by unfold TreeV.move; rw [hd, he]; simp only [hk, hnm, Bool.true_eq_false, if_false]; rw [if_neg hin, hz']; simp only [if_true]
                  rw [hmv]
                  by_cases hk1 : x.kind = 1
                  · simp only [hk1] at hck
                    have hwt := hwf hk1
                    simp only [hwt] at hwi
                    clear h hu hg hs hs9 hr hups hrr hd he hdg heg hk hfe hsm hli hlo hfe2 hdn hx hisd hin hwf hk1 hmv hnm hz hz' hmn
                    as_aux_lemma =>
                      go_enter Tryz.func45, Tryz.ntmps45
                      go_wp2_with (first
                        | (go_at_call 75
                           refine hdd.mono ?_
                           rintro e w1 ⟨rfl, rfl⟩
                           clear hdd)
                        | (go_at_call 75
                           refine hde.mono ?_
                           rintro e w1 ⟨rfl, rfl⟩
                           clear hde)
                        | (go_at_call 76
                           refine hri.mono ?_
                           rintro e w1 ⟨rfl, rfl⟩
                           clear hri)
                        | (go_at_call 85
                           refine hf1.mono ?_
                           rintro e w2 ⟨rfl, k2⟩
                           have K2 := Lib.hid k2
                           have hgo2 := hgo _ k2
                           have hat2 := hat _ k2
                           have c1 := hck _ k2
                           have hwi2 := hwi _ k2
                           have hf22 := hf2 _ k2
                           clear hf1 k2)
                        | (go_at_call 78
                           refine hgo2.mono ?_
                           rintro e w1 ⟨rfl, rfl⟩
                           clear hgo2)
                        | (go_at_call 84
                           refine hat2.mono ?_
                           rintro e w1 ⟨rfl, rfl⟩
                           clear hat2)
                        | (go_at_call 87
                           refine hwi2.mono ?_
                           rintro e w1 ⟨rfl, rfl⟩
                           clear hwi2)
                        | (go_at_call 85
                           refine hf22.mono ?_
                           rintro e w3 ⟨rfl, k3⟩
                           have K3 := Lib.hid (K2.out.trans k3 (fun _ q => q.elim))
                           clear hf22 k3))
                      go_ret
                      exact ⟨rfl, s, H.out.1.aside K3.out, H.out.2, TurnR.aside K3.out⟩
                  · have gk : (x.kind == 1) = false := by simpa using hk1
                    clear h hu hg hs hs9 hr hups hrr hd he hdg heg hk hfe hsm hli hlo hfe2 hdn hx hisd hin hwf hk1 hmv hnm hz hz' hmn
                    as_aux_lemma =>
                      go_enter Tryz.func45, Tryz.ntmps45
                      go_wp2_with (first
                        | (go_at_call 75
                           refine hdd.mono ?_
                           rintro e w1 ⟨rfl, rfl⟩
                           clear hdd)
                        | (go_at_call 75
                           refine hde.mono ?_
                           rintro e w1 ⟨rfl, rfl⟩
                           clear hde)
                        | (go_at_call 76
                           refine hri.mono ?_
                           rintro e w1 ⟨rfl, rfl⟩
                           clear hri)
                        | (go_at_call 85
                           refine hf1.mono ?_
                           rintro e w2 ⟨rfl, k2⟩
                           have K2 := Lib.hid k2
                           have hgo2 := hgo _ k2
                           have hat2 := hat _ k2
                           have c1 := hck _ k2
                           have hwi2 := hwi _ k2
                           have hf22 := hf2 _ k2
                           clear hf1 k2)
                        | (go_at_call 78
                           refine hgo2.mono ?_
                           rintro e w1 ⟨rfl, rfl⟩
                           clear hgo2)
                        | (go_at_call 84
                           refine hat2.mono ?_
                           rintro e w1 ⟨rfl, rfl⟩
                           clear hat2)
                        | (go_at_call 87
                           refine hwi2.mono ?_
                           rintro e w1 ⟨rfl, rfl⟩
                           clear hwi2)
                        | (go_at_call 85
                           refine hf22.mono ?_
                           rintro e w3 ⟨rfl, k3⟩
                           have K3 := Lib.hid (K2.out.trans k3 (fun _ q => q.elim))
                           clear hf22 k3))
                      go_ret
                      exact ⟨rfl, s, H.out.1.aside K3.out, H.out.2, TurnR.aside K3.out⟩
                · have g3 : (m == n) = false := by simpa using hmn
                  obtain ⟨y, hy⟩ := hg.ok.kid he hz
                  have hmv := move_some hd he hk hnm hin hz hmn hx hy
                  have hatm := fun w' (K : Keep w w' (fun _ => False)) => rtat_s (h.aside K) hr hy
                  have hcm := fun w' (K : Keep w w' (fun _ => False)) => ((h.aside K).cells hy).kind
                  obtain ⟨ya, yc, hyv, hyc⟩ := rows_val2 (h.ents_at hy)
                  have hcy := fun w' (K : Keep w w' (fun _ => False)) => ((h.aside K).cells hy).ents
                  simp only [hyv] at hcy
                  have hyl := hsm _ (aget_memN hy)
                  simp only at hyl
                  by_cases hov : overS x y = 0
                  · rw [if_pos hov] at hmv
                    rw [hmv]
                    have hyn : y.names = [] := by
                      by_cases q : y.kind = 1
                      · unfold overS at hov
                        by_cases q1 : x.kind = 1
                        · rw [if_neg (fun a => a.2 q), if_neg (fun a => a.2 q1)] at hov
                          by_cases q2 : y.names = []
                          · exact q2
                          · rw [if_pos ⟨q, q2⟩] at hov; cases hov
                        · rw [if_neg (fun a => q1 a.1), if_pos ⟨q, q1⟩] at hov; cases hov
                      · exact hg.ok.leaf _ (aget_memN hy) q
                    have hyl0 : y.names.length = 0 := by rw [hyn]; rfl
                    simp only [hyl0] at hcy
                    have hways : (x.kind = 1 ∧ y.kind = 1) ∨ ((x.kind == 1) = false ∧ (y.kind == 1) = false) := by
                      unfold overS at hov
                      by_cases q1 : x.kind = 1
                      · by_cases q2 : y.kind = 1
                        · exact .inl ⟨q1, q2⟩
                        · rw [if_pos ⟨q1, q2⟩] at hov; cases hov
                      · by_cases q2 : y.kind = 1
                        · rw [if_neg (fun a => q1 a.1), if_pos ⟨q2, q1⟩] at hov; cases hov
                        · exact .inr ⟨by simpa using q1, by simpa using q2⟩
                    have hpt : T.part e z = (T.take e z m, 0) := by unfold TreeV.part; rw [he]; simp only [hz, hy]; rw [if_neg (by simpa using hyn)]
                    have htk := fun w' (K : Keep w w' (fun _ => False)) => rtakeN_c (h.aside K) hu hg hs9 he hz
                    have hg1 : (T.take e z m).good bl := by have := hg.part e z; rw [hpt] at this; exact this
                    have hs1 : (T.take e z m).small 850000 := by have := hs.part e z; rw [hpt] at this; exact this.mono (by decide)
                    have hdm : d ≠ m := fun q => by
                      rw [← q, hdg] at hy
                      cases hy
                      rw [hyn] at hk
                      cases hk
                    have hem := hg.ok.kid_ne he hz
                    have hta := fun {j : Int} (hj : m ≠ j) => take_all hg.ok.nodup (z := z) heg hy hj
                    have hMA : ∀ (wv : World) (s1 : RShape), RTreeIn wv tb s1 bl (T.take e z m) → RUp s1.up (T.take e z m) → TurnR w s wv s1 → s1.na = s.na → ∃ dx1 ex1, MvA w s wv tb s1 bl (T.take e z m) d e n dx1 ex1 x k z := by
                      intro wv s1 r1 r2 r3 r4
                      have hx1 : aget (T.take e z m).all n = some x := by rw [hta hmn, if_neg hen]; exact hx
                      have he1 : aget (T.take e z m).all e = some { ex with names := adel ex.names z } := by rw [hta (fun q => hem q.symm), if_pos rfl]
                      have hez : aget (adel ex.names z) z = none := aget_adel_eq (hg.ok.once _ (aget_memN heg))
                      by_cases hde2 : d = e
                      · have hdx : dx = ex := by rw [hde2, he] at hd; exact (Option.some.inj hd).symm
                        have hkz : z ≠ k := fun q => by rw [q, ← hdx, hk] at hz; exact hmn (Option.some.inj hz).symm
                        refine ⟨{ ex with names := adel ex.names z }, { ex with names := adel ex.names z }, r1, r2, hg1, hs1, ?_, ?_, hx1, TreeV.dir_of he1 (TreeV.dir_some he).2, hen, hez, r3, r4⟩
                        · rw [hde2]; exact TreeV.dir_of he1 (TreeV.dir_some he).2
                        · show aget (adel ex.names z) k = some n
                          rw [aget_adel_ne hkz, ← hdx]; exact hk
                      · have hd1 : aget (T.take e z m).all d = some dx := by rw [hta (fun q => hdm q.symm), if_neg (fun q => hde2 q.symm)]; exact hdg
                        exact ⟨dx, { ex with names := adel ex.names z }, r1, r2, hg1, hs1, TreeV.dir_of hd1 (TreeV.dir_some hd).2, hk, hx1, TreeV.dir_of he1 (TreeV.dir_some he).2, hen, hez, r3, r4⟩
                    have MA := Lib.hid hMA
                    rcases hways with ⟨q1, q2⟩ | ⟨q1, q2⟩
                    · have hwt := hwf q1
                      simp only [hwt] at hwi
                      simp only [q1] at hck
                      simp only [q2] at hcm
                      by_cases hde2 : d = e
                      · have gde : (d != e) = false := by simpa using hde2
                        clear h hu hg hs hs9 hr hups hrr hd he hdg heg hk hfe hsm hli hlo hfe2 hdn hisd hin hwf hmv hnm hz hmn hy hyv hyc hyl hyl0 hyn hov hpt hg1 hs1 hdm hem hta hMA hde2
                        as_aux_lemma =>
                          go_enter Tryz.func45, Tryz.ntmps45
                          go_upto_region 25 with (first
                            | (go_at_call 75
                               refine hdd.mono ?_
                               rintro e w1 ⟨rfl, rfl⟩
                               clear hdd)
                            | (go_at_call 75
                               refine hde.mono ?_
                               rintro e w1 ⟨rfl, rfl⟩
                               clear hde)
                            | (go_at_call 76
                               refine hri.mono ?_
                               rintro e w1 ⟨rfl, rfl⟩
                               clear hri)
                            | (go_at_call 85
                               refine hf1.mono ?_
                               rintro e w2 ⟨rfl, k2⟩
                               have K2 := Lib.hid k2
                               have hgo2 := hgo _ k2
                               have hat2 := hat _ k2
                               have c1 := hck _ k2
                               have hwi2 := hwi _ k2
                               have hf22 := hf2 _ k2
                               clear hf1 k2)
                            | (go_at_call 78
                               refine hgo2.mono ?_
                               rintro e w1 ⟨rfl, rfl⟩
                               clear hgo2)
                            | (go_at_call 84
                               refine hat2.mono ?_
                               rintro e w1 ⟨rfl, rfl⟩
                               clear hat2)
                            | (go_at_call 87
                               refine hwi2.mono ?_
                               rintro e w1 ⟨rfl, rfl⟩
                               clear hwi2)
                            | (go_at_call 85
                               refine hf22.mono ?_
                               rintro e w3 ⟨rfl, k3⟩
                               have K3 := Lib.hid (K2.out.trans k3 (fun _ q => q.elim))
                               have hatm3 := hatm _ K3.out
                               have cm := hcm _ K3.out
                               have cy := hcy _ K3.out
                               have htk3 := htk _ K3.out
                               clear hf22 k3)
                            | (go_at_call 84
                               refine hatm3.mono ?_
                               rintro e w1 ⟨rfl, rfl⟩
                               clear hatm3)
                            | (go_at_call 86
                               refine htk3.mono ?_
                               rintro e w4 ⟨⟨v4, rfl⟩, r4⟩
                               have R4 := Lib.hid r4
                               clear htk3 r4 cm cy))
                          obtain ⟨s1, r1, r2, r3, r4⟩ := R4.out
                          obtain ⟨dx1, ex1, A3⟩ := MA.out w4 s1 r1 r2 ((TurnR.aside K3.out).trans r3) r4
                          have hh0 := A3.h0
                          have hh1 := (A3.small.node A3.hx).1
                          have ch := (A3.tab.cells A3.hx).holds
                          have fh := A3.tab.nodeFree A3.hx 11
                          rw [A3.na] at ch fh
                          have hmo := mv_out A3
                          have AA := Lib.hid A3
                          clear r1 r2 r3 r4
                          clear A3
                          generalize hnb : s.na n = nb at *
                          go_wp2_with (first
                            | (go_at_call 86
                               refine hmo.mono ?_
                               rintro e w5 ⟨⟨v5, rfl⟩, b5⟩
                               have hmp := mv_put AA.out b5
                               clear hmo b5 ch fh)
                            | (go_at_call 83
                               refine hmp.mono ?_
                               rintro e w6 ⟨⟨v6, rfl⟩, b6⟩
                               have hc6 := mv_cell AA.out b6
                               rw [hnb] at hc6
                               obtain ⟨c6, f6⟩ := hc6
                               have hfin := mv_fin AA.out b6
                               rw [hnb] at hfin
                               have FI := Lib.hid hfin
                               clear hmp b6 hfin))
                          go_ret
                          refine ⟨rfl, ?_⟩
                          have hr := FI.out
                          exact hr
                      · have gde : (d != e) = true := by simpa using hde2
                        clear h hu hg hs hs9 hr hups hrr hd he hdg heg hk hfe hsm hli hlo hfe2 hdn hisd hin hwf hmv hnm hz hmn hy hyv hyc hyl hyl0 hyn hov hpt hg1 hs1 hdm hem hta hMA hde2
                        as_aux_lemma =>
                          go_enter Tryz.func45, Tryz.ntmps45
                          go_upto_region 25 with (first
                            | (go_at_call 75
                               refine hdd.mono ?_
                               rintro e w1 ⟨rfl, rfl⟩
                               clear hdd)
                            | (go_at_call 75
                               refine hde.mono ?_
                               rintro e w1 ⟨rfl, rfl⟩
                               clear hde)
                            | (go_at_call 76
                               refine hri.mono ?_
                               rintro e w1 ⟨rfl, rfl⟩
                               clear hri)
                            | (go_at_call 85
                               refine hf1.mono ?_
                               rintro e w2 ⟨rfl, k2⟩
                               have K2 := Lib.hid k2
                               have hgo2 := hgo _ k2
                               have hat2 := hat _ k2
                               have c1 := hck _ k2
                               have hwi2 := hwi _ k2
                               have hf22 := hf2 _ k2
                               clear hf1 k2)
                            | (go_at_call 78
                               refine hgo2.mono ?_
                               rintro e w1 ⟨rfl, rfl⟩
                               clear hgo2)
                            | (go_at_call 84
                               refine hat2.mono ?_
                               rintro e w1 ⟨rfl, rfl⟩
                               clear hat2)
                            | (go_at_call 87
                               refine hwi2.mono ?_
                               rintro e w1 ⟨rfl, rfl⟩
                               clear hwi2)
                            | (go_at_call 85
                               refine hf22.mono ?_
                               rintro e w3 ⟨rfl, k3⟩
                               have K3 := Lib.hid (K2.out.trans k3 (fun _ q => q.elim))
                               have hatm3 := hatm _ K3.out
                               have cm := hcm _ K3.out
                               have cy := hcy _ K3.out
                               have htk3 := htk _ K3.out
                               clear hf22 k3)
                            | (go_at_call 84
                               refine hatm3.mono ?_
                               rintro e w1 ⟨rfl, rfl⟩
                               clear hatm3)
                            | (go_at_call 86
                               refine htk3.mono ?_
                               rintro e w4 ⟨⟨v4, rfl⟩, r4⟩
                               have R4 := Lib.hid r4
                               clear htk3 r4 cm cy))
                          obtain ⟨s1, r1, r2, r3, r4⟩ := R4.out
                          obtain ⟨dx1, ex1, A3⟩ := MA.out w4 s1 r1 r2 ((TurnR.aside K3.out).trans r3) r4
                          have hh0 := A3.h0
                          have hh1 := (A3.small.node A3.hx).1
                          have ch := (A3.tab.cells A3.hx).holds
                          have fh := A3.tab.nodeFree A3.hx 11
                          rw [A3.na] at ch fh
                          have hmo := mv_out A3
                          have AA := Lib.hid A3
                          clear r1 r2 r3 r4
                          clear A3
                          generalize hnb : s.na n = nb at *
                          go_wp2_with (first
                            | (go_at_call 86
                               refine hmo.mono ?_
                               rintro e w5 ⟨⟨v5, rfl⟩, b5⟩
                               have hmp := mv_put AA.out b5
                               clear hmo b5 ch fh)
                            | (go_at_call 83
                               refine hmp.mono ?_
                               rintro e w6 ⟨⟨v6, rfl⟩, b6⟩
                               have hc6 := mv_cell AA.out b6
                               rw [hnb] at hc6
                               obtain ⟨c6, f6⟩ := hc6
                               have hfin := mv_fin AA.out b6
                               rw [hnb] at hfin
                               have FI := Lib.hid hfin
                               clear hmp b6 hfin))
                          go_ret
                          refine ⟨rfl, ?_⟩
                          have hr := FI.out
                          exact hr
                    · have q1' := q1
                      clear h hu hg hs hs9 hr hups hrr hd he hdg heg hk hfe hsm hli hlo hfe2 hdn hisd hin hwf hmv hnm hz hmn hy hyv hyc hyl hyl0 hyn hov hpt hg1 hs1 hdm hem hta hMA
                      as_aux_lemma =>
                        go_enter Tryz.func45, Tryz.ntmps45
                        go_upto_region 25 with (first
                          | (go_at_call 75
                             refine hdd.mono ?_
                             rintro e w1 ⟨rfl, rfl⟩
                             clear hdd)
                          | (go_at_call 75
                             refine hde.mono ?_
                             rintro e w1 ⟨rfl, rfl⟩
                             clear hde)
                          | (go_at_call 76
                             refine hri.mono ?_
                             rintro e w1 ⟨rfl, rfl⟩
                             clear hri)
                          | (go_at_call 85
                             refine hf1.mono ?_
                             rintro e w2 ⟨rfl, k2⟩
                             have K2 := Lib.hid k2
                             have hgo2 := hgo _ k2
                             have hat2 := hat _ k2
                             have c1 := hck _ k2
                             have hwi2 := hwi _ k2
                             have hf22 := hf2 _ k2
                             clear hf1 k2)
                          | (go_at_call 78
                             refine hgo2.mono ?_
                             rintro e w1 ⟨rfl, rfl⟩
                             clear hgo2)
                          | (go_at_call 84
                             refine hat2.mono ?_
                             rintro e w1 ⟨rfl, rfl⟩
                             clear hat2)
                          | (go_at_call 87
                             refine hwi2.mono ?_
                             rintro e w1 ⟨rfl, rfl⟩
                             clear hwi2)
                          | (go_at_call 85
                             refine hf22.mono ?_
                             rintro e w3 ⟨rfl, k3⟩
                             have K3 := Lib.hid (K2.out.trans k3 (fun _ q => q.elim))
                             have hatm3 := hatm _ K3.out
                             have cm := hcm _ K3.out
                             have cy := hcy _ K3.out
                             have htk3 := htk _ K3.out
                             clear hf22 k3)
                          | (go_at_call 84
                             refine hatm3.mono ?_
                             rintro e w1 ⟨rfl, rfl⟩
                             clear hatm3)
                          | (go_at_call 86
                             refine htk3.mono ?_
                             rintro e w4 ⟨⟨v4, rfl⟩, r4⟩
                             have R4 := Lib.hid r4
                             clear htk3 r4 cm cy))
                        obtain ⟨s1, r1, r2, r3, r4⟩ := R4.out
                        obtain ⟨dx1, ex1, A3⟩ := MA.out w4 s1 r1 r2 ((TurnR.aside K3.out).trans r3) r4
                        have hh0 := A3.h0
                        have hh1 := (A3.small.node A3.hx).1
                        have ch := (A3.tab.cells A3.hx).holds
                        have fh := A3.tab.nodeFree A3.hx 11
                        rw [A3.na] at ch fh
                        have hmo := mv_out A3
                        have AA := Lib.hid A3
                        clear r1 r2 r3 r4
                        clear A3
                        generalize hnb : s.na n = nb at *
                        go_wp2_with (first
                          | (go_at_call 86
                             refine hmo.mono ?_
                             rintro e w5 ⟨⟨v5, rfl⟩, b5⟩
                             have hmp := mv_put AA.out b5
                             clear hmo b5 ch fh)
                          | (go_at_call 83
                             refine hmp.mono ?_
                             rintro e w6 ⟨⟨v6, rfl⟩, b6⟩
                             have hc6 := mv_cell AA.out b6
                             rw [hnb] at hc6
                             obtain ⟨c6, f6⟩ := hc6
                             have hfin := mv_fin AA.out b6
                             rw [hnb] at hfin
                             have FI := Lib.hid hfin
                             clear hmp b6 hfin))
                        go_ret
                        refine ⟨rfl, ?_⟩
                        have hr := FI.out
                        exact hr
                  · rw [if_neg hov] at hmv
                    rw [hmv]
                    have hways : (x.kind = 1 ∧ (y.kind == 1) = false ∧ (y.kind != 1) = true ∧ overS x y = 37) ∨ ((x.kind == 1) = false ∧ y.kind = 1 ∧ overS x y = 38) ∨ (x.kind = 1 ∧ y.kind = 1 ∧ 0 < y.names.length ∧ overS x y = 47) := by
                      unfold overS at hov ⊢
                      by_cases q1 : x.kind = 1
                      · by_cases q2 : y.kind = 1
                        · rw [if_neg (fun a => a.2 q2), if_neg (fun a => a.2 q1)] at hov ⊢
                          by_cases q3 : y.names = []
                          · rw [if_neg (fun a => a.2 q3)] at hov; exact absurd rfl hov
                          · rw [if_pos ⟨q2, q3⟩]; exact .inr (.inr ⟨q1, q2, List.length_pos_iff.2 q3, rfl⟩)
                        · rw [if_pos ⟨q1, q2⟩]; exact .inl ⟨q1, by simpa using q2, by simpa using q2, rfl⟩
                      · by_cases q2 : y.kind = 1
                        · rw [if_neg (fun a => q1 a.1), if_pos ⟨q2, q1⟩]; exact .inr (.inl ⟨by simpa using q1, q2, rfl⟩)
                        · rw [if_neg (fun a => q1 a.1), if_neg (fun a => q2 a.1), if_neg (fun a => q2 a.1)] at hov; exact absurd rfl hov
                    generalize y.names.length = yl at *
                    rcases hways with ⟨q1, q2, q3, q4⟩ | ⟨q1, q2, q4⟩ | ⟨q1, q2, q3, q4⟩
                    · rw [q4]
                      have hwt := hwf q1
                      simp only [hwt] at hwi
                      simp only [q1] at hck
                      clear h hu hg hs hs9 hr hups hrr hd he hdg heg hk hfe hsm hli hlo hfe2 hdn hx hisd hin hwf hmv hnm hz hmn hy hyv hov q4
                      as_aux_lemma =>
                        go_enter Tryz.func45, Tryz.ntmps45
                        go_wp2_with (first
                          | (go_at_call 75
                             refine hdd.mono ?_
                             rintro e w1 ⟨rfl, rfl⟩
                             clear hdd)
                          | (go_at_call 75
                             refine hde.mono ?_
                             rintro e w1 ⟨rfl, rfl⟩
                             clear hde)
                          | (go_at_call 76
                             refine hri.mono ?_
                             rintro e w1 ⟨rfl, rfl⟩
                             clear hri)
                          | (go_at_call 85
                             refine hf1.mono ?_
                             rintro e w2 ⟨rfl, k2⟩
                             have K2 := Lib.hid k2
                             have hgo2 := hgo _ k2
                             have hat2 := hat _ k2
                             have c1 := hck _ k2
                             have hwi2 := hwi _ k2
                             have hf22 := hf2 _ k2
                             clear hf1 k2)
                          | (go_at_call 78
                             refine hgo2.mono ?_
                             rintro e w1 ⟨rfl, rfl⟩
                             clear hgo2)
                          | (go_at_call 84
                             refine hat2.mono ?_
                             rintro e w1 ⟨rfl, rfl⟩
                             clear hat2)
                          | (go_at_call 87
                             refine hwi2.mono ?_
                             rintro e w1 ⟨rfl, rfl⟩
                             clear hwi2)
                          | (go_at_call 85
                             refine hf22.mono ?_
                             rintro e w3 ⟨rfl, k3⟩
                             have K3 := Lib.hid (K2.out.trans k3 (fun _ q => q.elim))
                             have hatm3 := hatm _ K3.out
                             have cm := hcm _ K3.out
                             have cy := hcy _ K3.out
                             clear hf22 k3)
                          | (go_at_call 84
                             refine hatm3.mono ?_
                             rintro e w1 ⟨rfl, rfl⟩
                             clear hatm3))
                        go_ret
                        exact ⟨rfl, s, H.out.1.aside K3.out, H.out.2, TurnR.aside K3.out⟩
                    · rw [q4]
                      simp only [q2] at hcm
                      clear h hu hg hs hs9 hr hups hrr hd he hdg heg hk hfe hsm hli hlo hfe2 hdn hx hisd hin hwf hmv hnm hz hmn hy hyv hov q4
                      as_aux_lemma =>
                        go_enter Tryz.func45, Tryz.ntmps45
                        go_wp2_with (first
                          | (go_at_call 75
                             refine hdd.mono ?_
                             rintro e w1 ⟨rfl, rfl⟩
                             clear hdd)
                          | (go_at_call 75
                             refine hde.mono ?_
                             rintro e w1 ⟨rfl, rfl⟩
                             clear hde)
                          | (go_at_call 76
                             refine hri.mono ?_
                             rintro e w1 ⟨rfl, rfl⟩
                             clear hri)
                          | (go_at_call 85
                             refine hf1.mono ?_
                             rintro e w2 ⟨rfl, k2⟩
                             have K2 := Lib.hid k2
                             have hgo2 := hgo _ k2
                             have hat2 := hat _ k2
                             have c1 := hck _ k2
                             have hwi2 := hwi _ k2
                             have hf22 := hf2 _ k2
                             clear hf1 k2)
                          | (go_at_call 78
                             refine hgo2.mono ?_
                             rintro e w1 ⟨rfl, rfl⟩
                             clear hgo2)
                          | (go_at_call 84
                             refine hat2.mono ?_
                             rintro e w1 ⟨rfl, rfl⟩
                             clear hat2)
                          | (go_at_call 87
                             refine hwi2.mono ?_
                             rintro e w1 ⟨rfl, rfl⟩
                             clear hwi2)
                          | (go_at_call 85
                             refine hf22.mono ?_
                             rintro e w3 ⟨rfl, k3⟩
                             have K3 := Lib.hid (K2.out.trans k3 (fun _ q => q.elim))
                             have hatm3 := hatm _ K3.out
                             have cm := hcm _ K3.out
                             have cy := hcy _ K3.out
                             clear hf22 k3)
                          | (go_at_call 84
                             refine hatm3.mono ?_
                             rintro e w1 ⟨rfl, rfl⟩
                             clear hatm3))
                        go_ret
                        exact ⟨rfl, s, H.out.1.aside K3.out, H.out.2, TurnR.aside K3.out⟩
                    · rw [q4]
                      have hwt := hwf q1
                      simp only [hwt] at hwi
                      simp only [q1] at hck
                      simp only [q2] at hcm
                      clear h hu hg hs hs9 hr hups hrr hd he hdg heg hk hfe hsm hli hlo hfe2 hdn hx hisd hin hwf hmv hnm hz hmn hy hyv hov q4
                      as_aux_lemma =>
                        go_enter Tryz.func45, Tryz.ntmps45
                        go_wp2_with (first
                          | (go_at_call 75
                             refine hdd.mono ?_
                             rintro e w1 ⟨rfl, rfl⟩
                             clear hdd)
                          | (go_at_call 75
                             refine hde.mono ?_
                             rintro e w1 ⟨rfl, rfl⟩
                             clear hde)
                          | (go_at_call 76
                             refine hri.mono ?_
                             rintro e w1 ⟨rfl, rfl⟩
                             clear hri)
                          | (go_at_call 85
                             refine hf1.mono ?_
                             rintro e w2 ⟨rfl, k2⟩
                             have K2 := Lib.hid k2
                             have hgo2 := hgo _ k2
                             have hat2 := hat _ k2
                             have c1 := hck _ k2
                             have hwi2 := hwi _ k2
                             have hf22 := hf2 _ k2
                             clear hf1 k2)
                          | (go_at_call 78
                             refine hgo2.mono ?_
                             rintro e w1 ⟨rfl, rfl⟩
                             clear hgo2)
                          | (go_at_call 84
                             refine hat2.mono ?_
                             rintro e w1 ⟨rfl, rfl⟩
                             clear hat2)
                          | (go_at_call 87
                             refine hwi2.mono ?_
                             rintro e w1 ⟨rfl, rfl⟩
                             clear hwi2)
                          | (go_at_call 85
                             refine hf22.mono ?_
                             rintro e w3 ⟨rfl, k3⟩
                             have K3 := Lib.hid (K2.out.trans k3 (fun _ q => q.elim))
                             have hatm3 := hatm _ K3.out
                             have cm := hcm _ K3.out
                             have cy := hcy _ K3.out
                             clear hf22 k3)
                          | (go_at_call 84
                             refine hatm3.mono ?_
                             rintro e w1 ⟨rfl, rfl⟩
                             clear hatm3))
                        go_ret
                        exact ⟨rfl, s, H.out.1.aside K3.out, H.out.2, TurnR.aside K3.out⟩
end Go.Proofs.YtoanccechefclaaGreatDoor
