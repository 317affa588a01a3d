/-
  A move that is done is undone by the move back.
-/
import Derived.Test.YtnjfcedkfobbcaaGreatTreeP
namespace Go.Proofs.YtnjfcedkfobbcaaGreat
open Go Go.RowKit
set_option linter.unusedSectionVars false
set_option linter.unusedSimpArgs false
set_option linter.unusedVariables false

theorem adel_perm {l : List (ByteArray × Int)} {s : ByteArray} {n : Int} (h : aget l s = some n) : l.Perm ((s, n) :: adel l s) := by
  induction l with
  | nil => cases h
  | cons x r ih =>
    obtain ⟨a, u⟩ := x
    simp only [aget] at h
    simp only [adel]
    split at h
    · rename_i e
      cases h
      rw [if_pos e, e]
    · rename_i e
      rw [if_neg e]
      exact ((ih h).cons _).trans (List.Perm.swap ..)
theorem aset_perm {l : List (ByteArray × Int)} {s : ByteArray} (n : Int) (h : aget l s = none) : (aset l s n).Perm ((s, n) :: l) := by
  rw [aset_new _ _ _ (aget_out h)]
  exact List.perm_append_singleton ..

theorem Sub.rank_le {T : TreeV} (h : T.ok) {rank : Int → Nat} (hr : ∀ x ∈ T.all, ∀ e ∈ x.2.names, T.isDir e.2 = true → rank x.1 < rank e.2) {n m : Int} (hs : Sub T n m) (hd : T.isDir m = true) : rank n ≤ rank m := by
  induction hs with
  | refl => exact Nat.le_refl _
  | step hs hm he ih =>
    rename_i m y e
    have hk : y.kind = 1 := by
      cases Classical.em (y.kind = 1) with
      | inl q => exact q
      | inr q =>
        have := h.leaf _ (aget_memN hm) q
        simp only at this
        rw [this] at he
        cases he
    have h1 := ih (by unfold TreeV.isDir; rw [TreeV.dir_of hm hk]; rfl)
    have h2 := hr _ (aget_memN hm) e he hd
    simp only at h2
    omega

theorem TreeV.okBut.within_sub {T : TreeV} (h : T.ok) (d : Int) : ∀ (k : Nat) (n : Int), T.withinF k n d = true → Sub T d n
  | 0, _, hw => by cases hw
  | k + 1, n, hw => by
    simp only [TreeV.withinF] at hw
    split at hw
    · cases hw
    · rename_i hc
      simp only [not_or] at hc
      obtain ⟨c1, c2⟩ := hc
      cases hd : T.dir n with
      | none => rw [hd] at c1; exact absurd rfl c1
      | some x =>
        have hn : TreeV.named n x = true := by
          cases hnm : TreeV.named n x with
          | true => rfl
          | false =>
            exfalso
            apply c2
            unfold TreeV.upOf
            rw [hd]
            simp only
            rw [hnm]
            rfl
        have hn1 : n ≠ 1 := by
          intro e
          apply c2
          unfold TreeV.upOf
          rw [hd]
          simp only
          rw [if_pos hn, e]
          exact h.rootUp _ (e ▸ (TreeV.dir_some hd).1)
        obtain ⟨hu, y, hy, e, he, hem⟩ := h.up_edge hd hn hn1
        have hyg := (TreeV.dir_some hy).1
        split at hw
        · rename_i q
          rw [hu] at q
          rw [q] at hyg
          rw [← hem]
          exact Sub.step .refl hyg he
        · rw [hu] at hw
          have := TreeV.okBut.within_sub h d k x.up hw
          rw [← hem]
          exact Sub.step this hyg he

/-- What a node is when a name was moved. -/
theorem moved_get {T : TreeV} {d e n : Int} {dx x ex' : NodeV} {s z : ByteArray} (hd : aget T.all d = some dx) (hx : aget T.all n = some x) (hde : d ≠ n) (hen : e ≠ n)
    (he : aget (T.loseName d s n).all e = some ex') (m : Int) :
    aget ((T.loseName d s n).give e z n).all m = if n = m then some { x with links := x.links - 1 + 1, up := if x.kind = 1 then e else x.up } else if e = m then some { ex' with names := aset ex'.names z n } else if d = m then some { dx with names := adel dx.names s } else aget T.all m := by
  have hget : ∀ m, aget (T.loseName d s n).all m = if n = m then some { x with links := x.links - 1 } else if d = m then some { dx with names := adel dx.names s } else aget T.all m := by
    intro m
    unfold TreeV.loseName
    rw [hd, hx]
    simp only
    rw [aget_aset, aget_aset]
  have hnx : aget (T.loseName d s n).all n = some { x with links := x.links - 1 } := by rw [hget, if_pos rfl]
  unfold TreeV.give
  rw [he, hnx]
  simp only
  rw [aget_aset, aget_aset, hget]
  by_cases q1 : n = m
  · rw [if_pos q1, if_pos q1]
  · rw [if_neg q1, if_neg q1]
    split <;> rfl

theorem mem_asetS {L : List (ByteArray × Int)} {k : ByteArray} {v : Int} {x : ByteArray × Int} (h : x ∈ aset L k v) : x = (k, v) ∨ x ∈ L := by
  induction L with
  | nil =>
    simp only [aset, List.mem_cons, List.not_mem_nil, or_false] at h
    exact .inl h
  | cons y r ih =>
    obtain ⟨a, u⟩ := y
    simp only [aset] at h
    split at h
    · rename_i e
      rcases List.mem_cons.1 h with q | q
      · exact .inl (by rw [q, e])
      · exact .inr (List.mem_cons_of_mem _ q)
    · rcases List.mem_cons.1 h with q | q
      · exact .inr (by rw [q]; exact List.mem_cons_self ..)
      · rcases ih q with z | z
        · exact .inl z
        · exact .inr (List.mem_cons_of_mem _ z)

theorem rank_moved2 {U : TreeV} {rank : Int → Nat} (hr : ∀ x ∈ U.all, ∀ e ∈ x.2.names, U.isDir e.2 = true → rank x.1 < rank e.2) (hnd : (U.all.map Prod.fst).Nodup) {n d : Int} (hs : ¬ Sub U n d) :
    ∃ rank' : Int → Nat, (∀ x ∈ U.all, ∀ e ∈ x.2.names, U.isDir e.2 = true → rank' x.1 < rank' e.2) ∧ rank' d < rank' n ∧ rank n ≤ rank' n ∧ ∀ m, ¬ Sub U n m → rank' m = rank m := by
  classical
  refine ⟨fun m => if Sub U n m then rank m + rank d + 1 else rank m, fun x hx e he hd => ?_, ?_, ?_, fun m hm => by simp only; rw [if_neg hm]⟩
  · have h1 := hr x hx e he hd
    simp only
    by_cases q : Sub U n x.1
    · rw [if_pos q, if_pos (Sub.step q (aget_ofN hnd hx) he)]
      omega
    · rw [if_neg q]
      split <;> omega
  · simp only
    rw [if_neg hs, if_pos Sub.refl]
    omega
  · simp only
    rw [if_pos Sub.refl]
    omega

theorem stat_same {T V : TreeV} (hi : ∀ k, V.isDir k = T.isDir k) {m : Int} {y : NodeV} {L : List (ByteArray × Int)} (hy : aget T.all m = some y) (hk : y.kind = 1) (hv : aget V.all m = some { y with names := L }) (hp : L.Perm y.names) : V.stat m = T.stat m := by
  have e1 : (List.filter (fun e : ByteArray × Int => V.isDir e.2) L).length = (List.filter (fun e : ByteArray × Int => T.isDir e.2) y.names).length := by
    have : (fun e : ByteArray × Int => V.isDir e.2) = (fun e => T.isDir e.2) := by funext e; exact hi e.2
    rw [this]
    exact (hp.filter _).length_eq
  unfold TreeV.stat
  rw [hy, hv]
  simp only [TreeV.statOf, hk, if_true, TreeV.dirs, TreeV.named, e1, hp.length_eq]
  rfl

/-- The move back. -/
structure Undone (T : TreeV) (d : Int) (s : ByteArray) (e : Int) (z : ByteArray) : Prop where
  found : (T.find d s).2 = true
  there : (T.move true d s e z).1.find e z = T.find d s
  gone : ((T.move true d s e z).1.find d s).2 = false
  back : ((T.move true d s e z).1.move true e z d s).2 = 0
  again : ((T.move true d s e z).1.move true e z d s).1.find d s = T.find d s
  statD : ((T.move true d s e z).1.move true e z d s).1.stat d = T.stat d
  statE : ((T.move true d s e z).1.move true e z d s).1.stat e = T.stat e

theorem aget_isDir {T U : TreeV} (h : ∀ m, (aget U.all m).map NodeV.kind = (aget T.all m).map NodeV.kind) (k : Int) : U.isDir k = T.isDir k := isDir_same (h k)

set_option maxHeartbeats 1600000 in
theorem undone {T : TreeV} (h : T.ok) (hs3 : ∀ x ∈ T.all, x.2.names.length ≤ 3) {d e : Int} {s z : ByteArray} (hm : (T.move true d s e z).2 = 0) (hz0 : (T.find e z).2 = false) : Undone T d s e z := by
  have hU := h.move true d s e z
  obtain ⟨U, hUe⟩ : ∃ U, (T.move true d s e z).1 = U := ⟨_, rfl⟩
  unfold TreeV.move at hm
  have hUe' := hUe
  unfold TreeV.move at hUe'
  cases hd : T.dir d with
  | none => rw [hd] at hm; cases hm
  | some dx =>
    cases he : T.dir e with
    | none => rw [hd, he] at hm; cases hm
    | some ex =>
      rw [hd, he] at hm hUe'
      simp only [Bool.true_eq_false, if_false] at hm hUe'
      cases hs : aget dx.names s with
      | none => rw [hs] at hm; cases hm
      | some n =>
        rw [hs] at hm hUe'
        simp only at hm hUe'
        have hz : aget ex.names z = none := by
          unfold TreeV.find at hz0
          rw [he] at hz0
          simp only at hz0
          cases hq : aget ex.names z with
          | none => rfl
          | some m => rw [hq] at hz0; cases hz0
        rw [hz] at hm hUe'
        simp only at hm hUe'
        by_cases hen : TreeV.named e ex = false
        · rw [if_pos hen] at hm; cases hm
        rw [if_neg hen] at hm hUe'
        by_cases hc : T.isDir n = true ∧ (n = e ∨ T.within e n = true)
        · rw [if_pos hc] at hm; cases hm
        rw [if_neg hc] at hm hUe'
        by_cases hc2 : T.isDir n = true ∧ d ≠ e ∧ 16 ≤ T.dirs e ex
        · rw [if_pos hc2] at hm; cases hm
        rw [if_neg hc2] at hm hUe'
        simp only at hUe'
        clear hm
        obtain ⟨x, hx⟩ := h.kid hd hs
        obtain ⟨hne, hsub⟩ := h.not_below he hx hc
        have hdn := h.kid_ne hd hs
        obtain ⟨hdg, hdk⟩ := TreeV.dir_some hd
        obtain ⟨heg, hek⟩ := TreeV.dir_some he
        have hsz : d = e → s ≠ z := by
          rintro rfl rfl
          rw [heg] at hdg
          cases hdg
          rw [hz] at hs
          cases hs
        -- what U is
        obtain ⟨ex', hex', hexk, hexn, hexz, hexl⟩ : ∃ ex', aget (T.loseName d s n).all e = some ex' ∧ ex'.kind = 1 ∧ ex'.names = (if d = e then adel ex.names s else ex.names) ∧ aget ex'.names z = none ∧ ex' = { ex with names := ex'.names } := by
          have hget : aget (T.loseName d s n).all e = if d = e then some { dx with names := adel dx.names s } else aget T.all e := by
            unfold TreeV.loseName
            rw [hdg, hx]
            simp only
            rw [aget_aset, if_neg (fun q => hne q.symm), aget_aset]
          by_cases q : d = e
          · rw [if_pos q] at hget
            have : dx = ex := by rw [q, heg] at hdg; exact (Option.some.inj hdg).symm
            subst this
            exact ⟨_, hget, hdk, by rw [if_pos q], aget_adel_none hz, rfl⟩
          · rw [if_neg q] at hget
            exact ⟨ex, by rw [hget]; exact heg, hek, by rw [if_neg q], hz, rfl⟩
        have gU := moved_get hdg hx hdn hne hex' (z := z)
        rw [hUe'] at gU
        have kU : ∀ m, (aget U.all m).map NodeV.kind = (aget T.all m).map NodeV.kind := by
          intro m
          rw [gU]
          split
          · rename_i q; rw [← q, hx]; rfl
          · split
            · rename_i q; rw [← q, heg]; simp only [Option.map_some, hexk, hek]
            · split
              · rename_i q; rw [← q, hdg]; rfl
              · rfl
        have iU := aget_isDir kU
        have gUe := gU e
        rw [if_neg (fun q => hne q.symm), if_pos rfl] at gUe
        obtain ⟨dxU, gUd, hdUk, hdUn, hdUl, hdUlen⟩ : ∃ dxU, aget U.all d = some dxU ∧ dxU.kind = 1 ∧ aget dxU.names s = none ∧ dxU = { dx with names := dxU.names } ∧ dxU.names.length ≤ 4 := by
          have l3 := hs3 _ (aget_memN hdg)
          simp only at l3
          have hadel := (adel_perm hs).length_eq
          simp only [List.length_cons] at hadel
          by_cases q : d = e
          · have : dx = ex := by rw [q, heg] at hdg; exact (Option.some.inj hdg).symm
            subst this
            rw [if_pos q] at hexn
            refine ⟨{ ex' with names := aset ex'.names z n }, by rw [q]; exact gUe, hexk, ?_, ?_, ?_⟩
            · simp only
              rw [hexn, aget_aset, if_neg (fun k => hsz q k.symm), aget_adel_eq (h.once _ (aget_memN hdg))]
            · rw [hexl]
            · simp only
              rw [(aset_perm n hexz).length_eq, hexn]
              simp only [List.length_cons]
              omega
          · have g := gU d
            rw [if_neg (fun k => hdn k.symm), if_neg (fun k => q k.symm), if_pos rfl] at g
            exact ⟨_, g, hdk, aget_adel_eq (h.once _ (aget_memN hdg)), rfl, by simp only; omega⟩
        have gUn := gU n
        rw [if_pos rfl] at gUn
        have hdnm : TreeV.named d dx = true := by
          cases q : TreeV.named d dx with
          | true => rfl
          | false =>
            have hp : d ≠ 0 := by have := (h.range _ (aget_memN hdg)).1; simp only at this; omega
            have := h.bare _ (aget_memN hdg) hp hdk q
            simp only at this
            rw [this] at hs
            cases hs
        have hdnU : ¬ TreeV.named d dxU = false := by
          rw [hdUl]
          unfold TreeV.named at hdnm ⊢
          simp only at hdnm ⊢
          rw [hdnm]
          simp
        -- d is not below n
        have hbelow : ¬ (U.isDir n = true ∧ (n = d ∨ U.within d n = true)) := by
          rintro ⟨b1, b2⟩
          rw [iU] at b1
          rcases b2 with b2 | b2
          · exact hdn b2.symm
          have hxk : x.kind = 1 := by
            obtain ⟨x', hx'⟩ := Option.isSome_iff_exists.1 (show (T.dir n).isSome = true from b1)
            have := TreeV.dir_some hx'
            rw [hx] at this
            rw [Option.some.inj this.1]
            exact this.2
          obtain ⟨rank, hr⟩ := h.deep
          have hr1 := hr _ (aget_memN hdg) _ (aget_memS hs) b1
          simp only at hr1
          obtain ⟨U0, hU0⟩ : ∃ U0, T.loseName d s n = U0 := ⟨_, rfl⟩
          have hok0 := h.loseName hd hs hx
          have gm : ∀ m, aget U0.all m = if n = m then some { x with links := x.links - 1 } else if d = m then some { dx with names := adel dx.names s } else aget T.all m := by
            intro m
            rw [← hU0]
            unfold TreeV.loseName
            rw [hdg, hx]
            simp only
            rw [aget_aset, aget_aset]
          rw [hU0] at hok0 hex'
          have i0 : ∀ k, U0.isDir k = T.isDir k := aget_isDir fun m => by
            rw [gm]
            split
            · rename_i q; rw [← q, hx]; rfl
            · split
              · rename_i q; rw [← q, hdg]; rfl
              · rfl
          have f0 : Fewer T U0 := by rw [← hU0]; exact loseName_fewer
          have hr0 : ∀ y ∈ U0.all, ∀ f ∈ y.2.names, U0.isDir f.2 = true → rank y.1 < rank f.2 := by
            intro y hy f hf hfd
            obtain ⟨y0, k1, -, k2⟩ := f0 _ _ (aget_ofN hok0.nodup hy)
            rw [i0] at hfd
            exact hr _ (aget_memN k1) f (k2 f hf) hfd
          have hs0 : ¬ Sub U0 n e := fun q => hsub hxk (q.fewer f0)
          obtain ⟨rank', r1, r2, r3, r4⟩ := rank_moved2 hr0 hok0.nodup hs0
          have hsd : ¬ Sub U0 n d := by
            intro q
            have := Sub.rank_le h hr (q.fewer f0) (by unfold TreeV.isDir; rw [hd]; rfl)
            omega
          have hrU : ∀ y ∈ U.all, ∀ f ∈ y.2.names, U.isDir f.2 = true → rank' y.1 < rank' f.2 := by
            intro y hy f hf hfd
            rw [hUe] at hU
            have gy := aget_ofN hU.nodup hy
            rw [gU] at gy
            rw [iU, ← i0] at hfd
            split at gy
            · rename_i q
              rw [← q]
              have hyv := (Option.some.inj gy)
              rw [← hyv] at hf
              refine r1 (n, { x with links := x.links - 1 }) (aget_memN (by rw [gm, if_pos rfl])) f hf hfd
            · split at gy
              · rename_i q
                have hyv := (Option.some.inj gy)
                rw [← hyv] at hf
                rw [← q]
                rcases mem_asetS hf with z1 | z1
                · rw [z1]; exact r2
                · exact r1 (e, ex') (aget_memN hex') f z1 hfd
              · rename_i q1 q2
                refine r1 (y.1, y.2) (aget_memN ?_) f hf hfd
                rw [gm, if_neg q1]
                exact gy
          unfold TreeV.within at b2
          split at b2
          · cases b2
          · rw [hUe] at hU
            have hsn := hU.within_sub n _ d b2
            have := Sub.rank_le hU hrU hsn (by rw [iU]; unfold TreeV.isDir; rw [hd]; rfl)
            rw [r4 d hsd] at this
            omega
        have h16 : ¬ (U.isDir n = true ∧ e ≠ d ∧ 16 ≤ U.dirs d dxU) := by
          rintro ⟨-, -, q⟩
          unfold TreeV.dirs at q
          have := List.length_filter_le (fun f : ByteArray × Int => U.isDir f.2) dxU.names
          split at q <;> omega
        obtain ⟨V, hV⟩ : ∃ V, (U.loseName e z n).give d s n = V := ⟨_, rfl⟩
        have hexzn : aget (aset ex'.names z n) z = some n := by rw [aget_aset, if_pos rfl]
        have hmv : U.move true e z d s = (V, 0) := by
          unfold TreeV.move
          rw [TreeV.dir_of gUe hexk, TreeV.dir_of gUd hdUk]
          simp only [Bool.true_eq_false, if_false]
          rw [hexzn]
          simp only
          rw [if_neg hdnU, if_neg hbelow, hdUn]
          simp only
          rw [if_neg h16, hV]
        -- what V is
        obtain ⟨dx2, hdx2, hdx2k, hdx2n, hdx2l⟩ : ∃ dx2, aget (U.loseName e z n).all d = some dx2 ∧ dx2.kind = 1 ∧ dx2.names = (if e = d then adel (aset ex'.names z n) z else dxU.names) ∧ dx2 = { dxU with names := dx2.names } := by
          have hget : aget (U.loseName e z n).all d = if e = d then some { ex' with names := adel (aset ex'.names z n) z } else aget U.all d := by
            unfold TreeV.loseName
            rw [gUe, gUn]
            simp only
            rw [aget_aset, if_neg (fun q => hdn q.symm), aget_aset]
          by_cases q : e = d
          · rw [if_pos q] at hget
            refine ⟨{ ex' with names := adel (aset ex'.names z n) z }, hget, hexk, by rw [if_pos q], ?_⟩
            rw [q, gUd] at gUe
            rw [Option.some.inj gUe]
          · rw [if_neg q] at hget
            exact ⟨dxU, by rw [hget]; exact gUd, hdUk, by rw [if_neg q], rfl⟩
        have gV := moved_get gUe gUn hne hdn hdx2 (z := s)
        rw [hV] at gV
        have kV : ∀ m, (aget V.all m).map NodeV.kind = (aget T.all m).map NodeV.kind := by
          intro m
          rw [gV]
          split
          · rename_i q; rw [← q, hx]; rfl
          · split
            · rename_i q; rw [← q, hdg]; simp only [Option.map_some, hdx2k, hdk]
            · split
              · rename_i q; rw [← q, heg]; simp only [Option.map_some, hexk, hek]
              · exact kU m
        have iV := aget_isDir kV
        have hback : (adel (aset ex'.names z n) z).Perm ex'.names := by
          have p1 := adel_perm hexzn
          exact (p1.symm.trans (aset_perm n hexz)).cons_inv
        have gVd := gV d
        rw [if_neg (fun q => hdn q.symm), if_pos rfl] at gVd
        have hdx2s : aget dx2.names s = none := by
          rw [hdx2n]
          split
          · rename_i q
            rw [if_pos q.symm] at hexn
            rw [aget_adel_ne (fun k => hsz q.symm k.symm), aget_aset, if_neg (fun k => hsz q.symm k.symm), hexn]
            have : dx = ex := by rw [q, hdg] at heg; exact Option.some.inj heg
            subst this
            exact aget_adel_eq (h.once _ (aget_memN hdg))
          · exact hdUn
        have pD : (aset dx2.names s n).Perm dx.names := by
          refine (aset_perm n hdx2s).trans ?_
          refine List.Perm.trans ?_ (adel_perm hs).symm
          refine List.Perm.cons _ ?_
          rw [hdx2n]
          split
          · rename_i q
            refine hback.trans ?_
            rw [hexn, if_pos q.symm]
            have : dx = ex := by rw [q, hdg] at heg; exact Option.some.inj heg
            subst this
            exact List.Perm.refl _
          · rename_i q
            have g := gU d
            rw [if_neg (fun k => hdn k.symm), if_neg q, if_pos rfl, gUd] at g
            rw [Option.some.inj g]
        have sD : V.stat d = T.stat d := by
          refine stat_same iV hdg hdk (L := aset dx2.names s n) ?_ pD
          rw [gVd, hdx2l, hdUl]
        have sE : V.stat e = T.stat e := by
          by_cases q : e = d
          · rw [q]; exact sD
          · have g := gV e
            rw [if_neg (fun k => hne k.symm), if_neg (fun k => q k.symm), if_pos rfl] at g
            refine stat_same iV heg hek (L := adel (aset ex'.names z n) z) ?_ ?_
            · rw [g, hexl]
            · refine hback.trans ?_
              rw [hexn, if_neg (fun k => q k.symm)]
        have fT : T.find d s = (n, true) := by unfold TreeV.find; rw [hd]; simp only; rw [hs]
        have fU : U.find e z = (n, true) := by unfold TreeV.find; rw [TreeV.dir_of gUe hexk]; simp only; rw [hexzn]
        have fV : V.find d s = (n, true) := by unfold TreeV.find; rw [TreeV.dir_of gVd hdx2k]; simp only; rw [aget_aset, if_pos rfl]
        have fG : (U.find d s).2 = false := by unfold TreeV.find; rw [TreeV.dir_of gUd hdUk]; simp only; rw [hdUn]
        rw [← hUe] at fU fG hmv
        have hb : ((T.move true d s e z).1.move true e z d s).1 = V := by rw [hmv]
        exact ⟨by rw [fT], by rw [fU, fT], fG, by rw [hmv], by rw [hb, fV, fT], by rw [hb]; exact sD, by rw [hb]; exact sE⟩

end Go.Proofs.YtnjfcedkfobbcaaGreat
