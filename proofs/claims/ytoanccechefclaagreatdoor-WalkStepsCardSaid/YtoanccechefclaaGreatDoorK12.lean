/-
  Parts of the walk's proof: RTc. (joined by pack.py)
-/
import Derived.Deep.RegionLaw
import Derived.Deep.CutRange
import Derived.Deep.CutBlock
import Derived.Deep.DeepCutAuto
import Derived.StillTailTactics
import Derived.Test.YtoanccechefclaaGreatDoorK11
set_option linter.unusedSectionVars false
set_option linter.unusedSimpArgs false
set_option linter.unusedVariables false
namespace Go.Proofs.YtoanccechefclaaGreatDoor
open Go Go.RowKit
set_option maxRecDepth 100000
theorem RTreeIn.setNodeT {w w' : World} {tb : Nat} {s : RShape} {bl : Int} {T : TreeV} (h : RTreeIn w tb s bl T) {n : Int} {x x' : NodeV} (hx : aget T.all n = some x) {v : Value} {u : Int} (K : Keep w w' (fun b => b = s.na n)) (hc : w'.heap[s.na n]? = some (.cells (rnodeC n x' u v) 148 (0, 0)))
    (he : w'.ownsRow 0 200 2 v x'.names.length (flat entC (entsOf x'.names))) (hv : ∀ b, v.ownBlock = some b → (s.ev n).ownBlock = some b ∨ w.heap.size ≤ b) :
    RTreeIn w' tb (s.turned n u v) bl (T.set n x') ∧ TurnR w s w' (s.turned n u v) := by
  obtain ⟨h1, h2⟩ := h.setNode hx K hc he (fun b q => (hv b q).imp id (fun z => by
    cases hg : s.tag b with
    | none => rfl
    | some g => have := h.lt b g hg; omega))
  refine ⟨h1, K.mono (fun b q => by rw [q]; exact rhas_of (h.tnode hx)), fun b q => ?_⟩
  rcases h2 b q with z | z
  · exact .inl z
  · exact (hv b z).imp (fun y => rhas_of (h.tents hx b y)) id
theorem TreeV.rng.set {T : TreeV} (h : T.rng) {n : Int} {x : NodeV} (hx : aget T.all n = some x) (x' : NodeV) : (T.set n x').rng := by
  refine ⟨h.1, fun y hy => ?_⟩
  rcases mem_aset_any hy with q | q
  · rw [q]; exact h.2 (n, x) (aget_memN hx)
  · exact h.2 y q
theorem set_get {T : TreeV} (n : Int) (x' : NodeV) (m : Int) : aget (T.set n x').all m = if n = m then some x' else aget T.all m := aget_aset ..
set_option maxHeartbeats 1000000 in
theorem rreap_c {w : World} {tb : Nat} {s : RShape} {bl : Int} {T : TreeV} (h : RTreeIn w tb s bl T) (hr : T.rng) (hpm : T.pool.made ≤ 1000000) {n : Int} {x : NodeV} (hx : aget T.all n = some x) :
    Calls Tryz.prog 115 #[.pointer (some ⟨tb, 0, none⟩), .int .i64 n] w fun e w' => (∃ v, e = .returned v) ∧ ∃ s', RTreeIn w' tb s' bl (T.drop n) ∧ s'.na = s.na ∧ s'.up = s.up ∧ TurnR w s w' s' := by
  have ha := rtat_s h hr hx
  obtain ⟨c0, c1, c2, c3, c4, c5, c6, c7, c8, c9, c10, c11, c12⟩ := h.cells hx
  unfold TreeV.drop
  rw [hx]
  dsimp only
  by_cases hq : TreeV.named n x = true ∨ 0 < x.links ∨ 0 < x.holds
  · rw [if_pos hq]
    unfold TreeV.named at hq
    simp only [Bool.or_eq_true, decide_eq_true_eq] at hq
    have H := Lib.hid h
    clear h hr hx hpm
    by_cases h1 : n = 1
    · subst h1
      clear hq
      go_enter Tryz.func115, Tryz.ntmps115
      go_wp2_with (
        go_at_call 84
        refine ha.mono ?_
        rintro e w1 ⟨rfl, rfl⟩
        clear ha)
      refine bodyPost_ret (results_none rfl _ _ _) rfl ?_
      exact ⟨⟨_, rfl⟩, s, H.out, rfl, rfl, TurnR.same (Keep.refl _ _)⟩
    · have g1 : (n == 1) = false := by simpa using h1
      by_cases h2 : 0 < x.links
      · clear hq
        go_enter Tryz.func115, Tryz.ntmps115
        go_wp2_with (
          go_at_call 84
          refine ha.mono ?_
          rintro e w1 ⟨rfl, rfl⟩
          clear ha)
        refine bodyPost_ret (results_none rfl _ _ _) rfl ?_
        exact ⟨⟨_, rfl⟩, s, H.out, rfl, rfl, TurnR.same (Keep.refl _ _)⟩
      · have h3 : 0 < x.holds := by omega
        clear hq
        go_enter Tryz.func115, Tryz.ntmps115
        go_wp2_with (
          go_at_call 84
          refine ha.mono ?_
          rintro e w1 ⟨rfl, rfl⟩
          clear ha)
        refine bodyPost_ret (results_none rfl _ _ _) rfl ?_
        exact ⟨⟨_, rfl⟩, s, H.out, rfl, rfl, TurnR.same (Keep.refl _ _)⟩
  · rw [if_neg hq]
    unfold TreeV.named at hq
    simp only [Bool.or_eq_true, decide_eq_true_eq, not_or] at hq
    obtain ⟨⟨q1, q2⟩, -, q3⟩ := hq
    have g1 : (n == 1) = false := by simpa using q1
    have hrn := hr.2 _ (aget_memN hx)
    simp only at hrn
    obtain ⟨i, rfl⟩ : ∃ i : Nat, n = (i : Int) + 1 := ⟨(n - 1).toNat, by omega⟩
    obtain ⟨m, hm⟩ : ∃ m : Nat, T.made.toNat = m := ⟨_, rfl⟩
    have him : i < m := by omega
    have hm6 : m ≤ 1000000 := by have := hr.1; omega
    -- what stands behind the drop
    have key : ∀ (w2 : World) (s2 : RShape) (V : PoolV), RTreeIn w2 tb s2 bl { T with pool := V } → s2.rv = s.rv → ∃ sa cap, s.rv = .slice sa m cap ∧ w2.cell? ⟨tb, 2, none⟩ = some (.slice sa m cap) ∧ ∃ g, sa = some ⟨g, 0, none⟩ ∧ w2.frozen? ⟨g, i, none⟩ = false ∧ (∃ v, w2.cell? ⟨g, i, none⟩ = some v) ∧
        RTreeIn (w2.setCell ⟨g, i, none⟩ (.pointer none)) tb s2 bl { T with pool := V, all := adel T.all ((i : Int) + 1) } ∧ Keep w2 (w2.setCell ⟨g, i, none⟩ (.pointer none)) s2.has := by
      intro w2 s2 V h2 hrv
      obtain ⟨sa, cap, hv, hc⟩ := rows_val2 h2.rows
      have hrow := h2.rows
      have c2 := h2.hrows
      rw [hv] at hrow c2
      simp only [hm] at hrow c2 hv
      obtain ⟨g, rfl, -, -, -⟩ := rows_some hrow (by omega)
      have hcell := rows_cell hrow (rslots_get { T with pool := V } s2.na (i := i) (by simp only; omega))
      have ks := Keep.setCell w2 ⟨g, i, none⟩ (.pointer none)
      have hown : s2.rv.ownBlock = some g := by rw [hv]; rfl
      refine ⟨_, cap, by rw [← hrv, hv], c2, g, rfl, hcell.2, ⟨_, hcell.1⟩, ?_, ks.mono fun b q => by rw [show b = g from q]; exact rhas_of (h2.tRows g hown)⟩
      have := h2.delNode (i := i) (by simp only; omega) (ks.mono fun b q => by rw [show b = g from q]; exact hown) (by
        have := rows_set hrow i (.pointer none)
        rw [hv]
        simp only [hm]
        exact this)
      exact this
    by_cases hk2 : x.kind = 2
    · rw [hk2] at c1
      have hpool := h.pool
      have hdr := fun w' (K : Keep w w' (fun _ => False)) => rpdrop_c (h.aside K).pool hpm x.file
      have p1 := h.hpool
      rw [if_pos hk2]
      have hcell : ∀ (w2 : World) (s2 : RShape) (V : PoolV), RTreeIn w2 tb s2 bl { T with pool := V } → s2.na = s.na → w2.cell? ⟨s.na ((i : Int) + 1), 12, none⟩ = some (.int .i64 x.file) := fun w2 s2 V h2 e => by
        have := (h2.cells (n := (i : Int) + 1) (x := x) hx).file
        rw [e] at this
        exact this
      have H := Lib.hid (And.intro h (And.intro key hcell))
      have hlt1 := h.lt _ _ (h.tnode hx)
      generalize s.na ((i : Int) + 1) = nb at *
      clear h hr hx hpm hk2 hrn hpool key hcell c0 c2 c3 c4 c5 c6 c7 c8 c9
      go_enter Tryz.func115, Tryz.ntmps115
      go_upto_region 3 with (
        go_at_call 84
        refine ha.mono ?_
        rintro e w1 ⟨rfl, rfl⟩
        clear ha)
      go_region_held3 (fun w' => w'.cell? ⟨tb, 1, none⟩ = some (.pointer (some ⟨s.pb, 0, none⟩)) ∧ w'.cell? ⟨nb, 12, none⟩ = some (.int .i64 x.file)) (go_keep) (first
        | (go_at_call 134
           refine (hdr _ ?_).mono ?_
           · first | exact Keep.refl _ _ | exact Keep.drew _ _ | exact drewN_keep _ _ _
           rintro e w2 ⟨rfl, P, hP, hT⟩
           have hsp := (H.out.1.aside (Keep.drew w (fun _ => False))).setPool hP hT
           have HS := Lib.hid hsp
           obtain ⟨sa, cap, e1, e2, g, rfl, e3, ⟨v, e4⟩, e5, e6⟩ := H.out.2.1 w2 _ _ hsp.1 rfl
           have p1' : w2.cell? ⟨tb, 1, none⟩ = some (.pointer (some ⟨s.pb, 0, none⟩)) := hsp.1.hpool
           have p2' := H.out.2.2 w2 _ _ hsp.1 rfl
           have HE := Lib.hid (And.intro e5 e6)
           clear hP hT hsp hdr e1 e5 e6))
      go_wp2
      go_end0
      exact ⟨⟨_, rfl⟩, _, HE.out.1.turned _, rfl, rfl, ((TurnR.aside (Keep.drew w (fun _ => False))).trans HS.out.2).trans (TurnR.same HE.out.2)⟩
    · have g2 : (x.kind == 2) = false := by simpa using hk2
      rw [if_neg hk2]
      obtain ⟨sa, cap, e1, e2, g, rfl, e3, ⟨v, e4⟩, e5, e6⟩ := key w s T.pool h rfl
      have HE := Lib.hid (And.intro e5 e6)
      generalize s.na ((i : Int) + 1) = nb at *
      clear h hr hx hpm hrn key hk2 e1 e5 e6 c0 c2 c3 c4 c5 c6 c7 c8 c9
      go_enter Tryz.func115, Tryz.ntmps115
      go_wp2_with (
        go_at_call 84
        refine ha.mono ?_
        rintro e w1 ⟨rfl, rfl⟩
        clear ha)
      go_end0
      exact ⟨⟨_, rfl⟩, s, (HE.out.1).turned _, rfl, rfl, TurnR.same HE.out.2⟩
theorem entry_info : ∃ i, Tryz.prog.info? 200 = some i ∧ i.zero = some (.agg #[.string ByteArray.empty, .int .i64 0]) ∧ i.size = 2 ∧ i.bytes ≤ 64 := by
  have h : (Tryz.prog.info? 200).map (fun i => (i.zero, i.size, i.bytes)) = some (some (.agg #[.string ByteArray.empty, .int .i64 0]), 2, 24) := by kernel_rfl
  cases hh : Tryz.prog.info? 200 with
  | none => rw [hh] at h; simp at h
  | some i =>
    rw [hh] at h
    simp only [Option.map_some, Option.some.injEq, Prod.mk.injEq] at h
    exact ⟨i, rfl, h.1, h.2.1, by omega⟩
theorem entry_cells : (Value.agg #[.string ByteArray.empty, .int .i64 0]).cells.size = 2 := by kernel_rfl
theorem take_someR {α : Type} {l : List α} {n j : Nat} {u : α} (h : (l.take n)[j]? = some u) : l[j]? = some u := by
  by_cases hj : j < n
  · rwa [List.getElem?_take_of_lt hj] at h
  · rw [List.getElem?_eq_none (by rw [List.length_take]; omega)] at h; simp at h
theorem entC_one (l : List (ByteArray × Int)) : ∀ u ∈ flat entC l, u.oneCell' = true := by
  intro u hu
  unfold flat at hu
  obtain ⟨e, -, he⟩ := List.mem_flatMap.1 hu
  simp only [entC, List.mem_cons, List.not_mem_nil, or_false] at he
  rcases he with rfl | rfl <;> rfl
structure OutRow (w w3 : World) (L : List (ByteArray × Int)) (k n : Nat) (v : Value) : Prop where
  row : w3.ownsRow 0 200 2 v (n - 1) (flat entC (L.take k) ++ flat entC (L.drop (k + 1)))
  keep : Keep w w3 (fun _ => False)
  new : ∀ b, v.ownBlock = some b → w.heap.size ≤ b
set_option maxHeartbeats 4000000 in
theorem rout_c {w : World} {tb : Nat} {s : RShape} {bl : Int} {T : TreeV} (h : RTreeIn w tb s bl T) (hr : T.rng) (hpm : T.pool.made ≤ 1000000) {d n : Int} {dx x : NodeV} {key : ByteArray} (hd : aget T.all d = some dx) (hx : aget T.all n = some x) (hne : d ≠ n)
    (hon : (dx.names.map Prod.fst).Nodup) (hl : dx.names.length ≤ 1000000) (hk : aget dx.names key = some n) (hlk : 0 ≤ x.links ∧ x.links ≤ 1000000) :
    Calls Tryz.prog 86 #[.pointer (some ⟨tb, 0, none⟩), .int .i64 d, .string key] w fun e w' => (∃ v, e = .returned v) ∧ ∃ s', RTreeIn w' tb s' bl ((T.loseName d key n).drop n) ∧ s'.na = s.na ∧ s'.up = (fun m => if m = n ∧ x.kind = 1 then n else s.up m) ∧ TurnR w s w' s' := by
  have ha := rtat_s h hr hd
  have hf := rfind_c h hd hl key
  obtain ⟨k, hi, hie⟩ := idxE_some hon hk
  rw [hi] at hf
  obtain ⟨sa, cap, hev, hc⟩ := rows_val2 (h.ents_at hd)
  have hnode := h.node_at hd
  have he := h.ents_at hd
  rw [hev] at hnode he
  have hlen := ents_len dx.names
  have hklt : k < dx.names.length := by rw [← hlen]; exact (List.getElem?_eq_some_iff.1 hie).1
  obtain ⟨g, rfl, -, -, hgl⟩ := rows_some he (by omega)
  have c8 := (rCells hnode).ents
  have f8 := free_blk hnode 8
  have d1 : w.cell? ⟨g, k * 2 + 1, none⟩ = some (.int .i64 n) := (rows_cell he (by rw [flat_get entC 2 entC_len hie (by omega)]; rfl)).1
  have hsp := ents_out hon hk hie
  have hdne : s.na d < w.heap.size := h.lt _ _ (h.tnode hd)
  have HO := Lib.hid (And.intro h (And.intro hr (And.intro hd (And.intro hx (And.intro hk hsp)))))
  have HE := Lib.hid (And.intro he (And.intro hlen hnode))
  generalize hL : entsOf dx.names = L at *
  obtain ⟨ln, hln⟩ : ∃ ln, ln = dx.names.length := ⟨_, rfl⟩
  rw [← hln] at HE c8 hc hl hklt
  obtain ⟨nb, hnb⟩ : ∃ nb, nb = s.na d := ⟨_, rfl⟩
  rw [← hnb] at HE c8 f8 ha hf hdne
  have HN := Lib.hid (And.intro hln (And.intro hnb hev))
  obtain ⟨pi, pi1, pi2, pi3, pi4⟩ := entry_info
  have PI := Lib.hid (And.intro pi1 (And.intro pi2 (And.intro pi3 pi4)))
  clear h hr hd hx hk hie hi hev he hlen hnode hsp hL hln hnb pi1 pi2 pi3 pi4 hon
  have b1 : (k : Int) < (ln : Int) := by omega
  have b2 : (k : Int) ≤ (ln : Int) := by omega
  have b3 : (k : Int) ≤ (cap : Int) := by omega
  have b4 : (k : Int) + 1 ≤ (ln : Int) := by omega
  have b5 : (k : Int) + 1 ≤ (cap : Int) := by omega
  have b6 : (0 : Int) ≤ (k : Int) := by omega
  have b7 : (0 : Int) ≤ (k : Int) + 1 := by omega
  go_enter Tryz.func86, Tryz.ntmps86
  go_upto_region 3 with (first
    | (go_at_call 84
       refine ha.mono ?_
       rintro e w1 ⟨rfl, rfl⟩
       clear ha)
    | (go_at_call 77
       refine hf.mono ?_
       rintro e w1 ⟨rfl, rfl⟩
       clear hf))
  go_cut [] (fun wc => ∃ w3 v, OutRow w w3 L k ln v ∧ wc = w3.setCell ⟨nb, 8, none⟩ v)
  case first =>
    have hc8 : (w.alloc (.cells #[] 200)).cell? ⟨nb, 8, none⟩ = some (.slice (some ⟨g, 0, none⟩) ln cap) := (Keep.alloc w _ (fun _ => False)).cell c8 (fun q => q)
    have b8 : ((k : Int) + 1).toNat = k + 1 := by omega
    have b9 : IntKind.i64.wrap ((k : Int) + 1) = (k : Int) + 1 := IntWalk.i64_in _ (by omega)
    have R0 : ∀ w2, Keep w w2 (fun _ => False) → w2.ownsRow 0 200 2 (.slice (some ⟨g, 0, none⟩) ln cap) ln (flat entC L) := fun w2 K => rows_keep HE.out.1 K (fun _ _ q => q)
    have R1 : ∀ w2, Keep w w2 (fun _ => False) → k = 0 ∨ ∃ ad, some (⟨g, 0, none⟩ : Addr) = some ad ∧ ∀ j u, (flat entC (L.take k))[j]? = some u → w2.cell? (ad.add j) = some u := fun w2 K => .inr ⟨_, rfl, rows_read (R0 w2 K) 0 (fun j u hj => by
      rw [Nat.zero_add]
      rw [flat_take entC 2 entC_len] at hj
      exact take_someR hj)⟩
    have R2 : (flat entC (L.take k)).length = k * 2 := by rw [flat_len entC 2 entC_len, List.length_take, HE.out.2.1]; omega
    have K0 : Keep w (World.drew (w.alloc (.cells #[] 200))) (fun _ => False) := (Keep.alloc w _ (fun _ => False)).trans (Keep.drew _ (fun _ => False)) (fun _ q => q.elim)
    have E0 : (World.drew (w.alloc (.cells #[] 200))).ownsRow 0 200 2 (.slice (some ⟨w.heap.size, 0, none⟩) 0 0) 0 [] := rows_empty (heap_alloc_eq w _)
    have R3 : (flat entC (L.drop (k + 1))).length = (ln - (k + 1)) * 2 := by rw [flat_len entC 2 entC_len, List.length_drop, HE.out.2.1]
    have R4 : ∀ w2, Keep w w2 (fun _ => False) → ln - (k + 1) = 0 ∨ ∃ ad, (if cap = k + 1 then some (⟨g, 0, none⟩ : Addr) else some ⟨g, (k + 1) * 2, none⟩) = some ad ∧ ∀ j u, (flat entC (L.drop (k + 1)))[j]? = some u → w2.cell? (ad.add j) = some u := fun w2 K => by
      by_cases q : cap = k + 1
      · left; omega
      · right
        rw [if_neg q]
        exact ⟨_, rfl, rows_read (R0 w2 K) _ (fun j u hj => by
          rw [flat_drop entC 2 entC_len, List.getElem?_drop] at hj
          exact hj)⟩
    have RR := Lib.hid (And.intro R1 (And.intro R2 (And.intro K0 (And.intro E0 (And.intro R3 R4)))))
    clear R0 R1 R2 R3 R4 K0 E0
    go_region_law
      (first
        | (refine step_append_row rfl _ _ _ (by rfl) Tryz.underlying146 PI.out.1 PI.out.2.1 PI.out.2.2.1 PI.out.2.2.2 entry_cells (by omega) (by rfl) RR.out.2.2.2.1 (flat entC (L.take k)) (by rfl) RR.out.2.1 (RR.out.1 _ RR.out.2.2.1) (entC_one _) (by omega) k (by omega) (flat entC (L.take k)) rfl ?_
           intro sa2 cap2 w2 ho hk2 hf2
           have d0 : w2.cell? ⟨nb, 8, none⟩ = some (.slice (some ⟨g, 0, none⟩) ln cap) := hk2.cell (RR.out.2.2.1.cell c8 (fun q => q)) (fun e => by
             have h6 : nb = w.heap.size := by simpa [Value.ownBlock] using e
             omega)
           have K2 : Keep w w2 (fun _ => False) := RR.out.2.2.1.trans hk2 (fun b q => .inr (by
             have h6 : b = w.heap.size := by simpa [Value.ownBlock] using q
             omega))
           have F2 : ∀ b, (Value.slice sa2 k cap2).ownBlock = some b → w.heap.size ≤ b := fun b q => by
             rcases hf2 b q with q | q
             · have h6 : w.heap.size = b := by simpa [Value.ownBlock] using q
               omega
             · rw [q]; exact RR.out.2.2.1.size
           have N := Lib.hid (And.intro ho (And.intro K2 F2))
           clear ho hk2 hf2 K2 F2)
        | (refine step_append_row rfl _ _ _ (by rfl) Tryz.underlying146 PI.out.1 PI.out.2.1 PI.out.2.2.1 PI.out.2.2.2 entry_cells (by omega) (by rfl) N.out.1 (flat entC (L.drop (k + 1))) (by rfl) RR.out.2.2.2.2.1 (RR.out.2.2.2.2.2 _ N.out.2.1) (entC_one _) (by omega) (ln - 1) (by omega) _ rfl ?_
           intro sa3 cap3 w3 ho3 hk3 hf3
           have d3 : w3.cell? ⟨nb, 8, none⟩ = some (.slice (some ⟨g, 0, none⟩) ln cap) := hk3.cell (N.out.2.1.cell c8 (fun q => q)) (fun e => by
             have h6 := N.out.2.2 _ e.symm
             omega)
           have g3 : w3.frozen? ⟨nb, 8, none⟩ = false := free_blk (hk3.get (N.out.2.1.get HE.out.2.2 (fun q => q)) (fun e => by
             have h6 := N.out.2.2 _ e.symm
             omega)) _
           have K3 : Keep w w3 (fun _ => False) := N.out.2.1.trans hk3 (fun b q => .inr (N.out.2.2 _ q.symm))
           have F3 : ∀ b, (Value.slice sa3 (ln - 1) cap3).ownBlock = some b → w.heap.size ≤ b := fun b q => by
             rcases hf3 b q with q | q
             · exact N.out.2.2 _ q
             · rw [q]; exact N.out.2.1.size
           have N3 : Hid (OutRow w w3 L k ln (.slice sa3 (ln - 1) cap3)) := Lib.hid ⟨ho3, K3, F3⟩
           clear ho3 hk3 hf3 K3 F3))
    all_goals go_wp2
    all_goals
      go_meet
      case rel => exact ⟨w3, _, N3.out, rfl⟩
  case rest =>
    obtain ⟨w3, v, hO, hcw⟩ := hcut
    obtain ⟨h, hr, hd, hx, hk, hsp⟩ := HO.out
    obtain ⟨hln, hnb, hev⟩ := HN.out
    have hvn : ∀ b, v.ownBlock = some b → b ≠ nb := fun b q => by have := hO.new b q; omega
    have ks : Keep w3 wc (fun b => b = nb) := by rw [hcw]; exact Keep.setCell _ _ _
    have hc1 : wc.heap[s.na d]? = some (.cells (rnodeC d { dx with names := adel dx.names key } (s.up d) v) 148 (0, 0)) := by
      have := heap_setCell_eq (off := 8) v (hO.keep.get HE.out.2.2 (fun q => q))
      rw [hcw, ← hnb]
      simpa [rnodeC] using this
    have hal : (adel dx.names key).length = ln - 1 := by
      rw [← ents_len, ← hsp, List.length_append, List.length_take, List.length_drop, HE.out.2.1]
      omega
    have he1 : wc.ownsRow 0 200 2 v (adel dx.names key).length (flat entC (entsOf (adel dx.names key))) := by
      rw [hal, ← hsp, flat_append]
      exact rows_keep hO.row ks (fun b q => hvn b q)
    obtain ⟨h1, t1⟩ := h.setNodeT hd (x' := { dx with names := adel dx.names key }) (v := v) (u := s.up d) ((hO.keep.mono (fun _ q => q.elim)).trans ks (fun b q => .inl (by rw [← hnb]; exact q))) hc1 he1 (fun b q => .inr (hO.new b q))
    have hr1 := hr.set hd { dx with names := adel dx.names key }
    have hx1 : aget (T.set d { dx with names := adel dx.names key }).all n = some x := by rw [set_get, if_neg hne]; exact hx
    have ha1 := rtat_s h1 hr1 hx1
    have hT2 : T.loseName d key n = (T.set d { dx with names := adel dx.names key }).set n { x with links := x.links - 1 } := by
      unfold TreeV.loseName
      rw [hd, hx]
      rfl
    have hev2 : (s.turned d (s.up d) v).ev n = s.ev n := by show (if n = d then v else s.ev n) = _; rw [if_neg (fun q => hne q.symm)]
    have hup2 : ∀ m, (s.turned d (s.up d) v).up m = s.up m := fun m => by
      show (if m = d then s.up d else s.up m) = _
      split
      · rename_i e; rw [e]
      · rfl
    have hn1 := h1.node_at hx1
    have he2 := h1.ents_at hx1
    rw [hev2, hup2] at hn1
    rw [hev2] at he2
    have hna : (s.turned d (s.up d) v).na n = s.na n := rfl
    rw [hna] at ha1 hn1
    obtain ⟨c0, c1, c2, c3, c4, c5, c6, c7, c8', c9, c10, c11, c12⟩ := rCells hn1
    have f9 := free_blk hn1 9
    have f10 := free_blk hn1 10
    -- what stands at the end
    have fin : ∀ (wy : World) (u : Int), Keep wc wy (fun b => b = s.na n) → wy.heap[s.na n]? = some (.cells (rnodeC n { x with links := x.links - 1 } u (s.ev n)) 148 (0, 0)) →
        ∃ s2, RTreeIn wy tb s2 bl (T.loseName d key n) ∧ s2.na = s.na ∧ s2.up = (fun m => if m = n then u else s.up m) ∧ TurnR w s wy s2 := by
      intro wy u K hc
      obtain ⟨h2, t2⟩ := h1.setNodeT hx1 (x' := { x with links := x.links - 1 }) (v := s.ev n) (u := u) K hc (rows_keep he2 K (fun b q e => by
        have := h.tents hx b q
        have := rtag_ne this (h.tnode hx) (by simp)
        exact this e)) (fun b q => .inl (by rw [hev2]; exact q))
      refine ⟨(s.turned d (s.up d) v).turned n u (s.ev n), by rw [hT2]; exact h2, rfl, ?_, t1.trans t2⟩
      funext m
      show (if m = n then u else (s.turned d (s.up d) v).up m) = _
      rw [hup2]
    have hr2 : (T.loseName d key n).rng := by rw [hT2]; exact hr1.set hx1 _
    have hx2 : aget (T.loseName d key n).all n = some { x with links := x.links - 1 } := by rw [hT2, set_get, if_pos rfl]
    have hpm2 : (T.loseName d key n).pool.made ≤ 1000000 := by rw [hT2]; exact hpm
    have F := Lib.hid (And.intro fin (And.intro hr2 (And.intro hx2 hpm2)))
    have F2 := Lib.hid hn1
    clear fin hr2 hx2 hpm2 h hr hd hx hk hsp hln hnb hev hvn ks hc1 hal he1 h1 t1 hr1 hx1 hT2 hev2 hup2 hn1 he2 hna HO HN HE PI hO hcw c8 f8 d1 c0 c2 c3 c4 c5 c6 c7 c8' c11 c12 b1 b2 b3 b4 b5 b6 b7
    generalize hxb : s.na n = xb at *
    by_cases hxk : x.kind = 1
    · rw [hxk] at c1
      go_upto_region 8 with (
        go_at_call 84
        refine ha1.mono ?_
        rintro e w4 ⟨rfl, rfl⟩
        clear ha1)
      obtain ⟨wy, hwy⟩ : ∃ wy, wy = (wc.setCell ⟨xb, 10, none⟩ (.int .i64 (x.links - 1))).setCell ⟨xb, 9, none⟩ (.int .i64 n) := ⟨_, rfl⟩
      have K : Keep wc wy (fun b => b = xb) := by rw [hwy]; exact (Keep.setCell _ _ _).trans (Keep.setCell _ _ _) (fun b q => .inl q)
      have z1 := heap_setCell_eq (off := 10) (Value.int .i64 (x.links - 1)) F2.out
      have z2 := heap_setCell_eq (off := 9) (Value.int .i64 n) z1
      rw [← hwy] at z2 ⊢
      obtain ⟨s2, g1, g2, g3, g4⟩ := F.out.1 wy n K (by simpa [rnodeC] using z2)
      have hrp := rreap_c g1 F.out.2.1 F.out.2.2.2 F.out.2.2.1
      have G := Lib.hid (And.intro g2 (And.intro g3 (And.intro g4 hxk)))
      clear hwy K z1 z2 g1 g2 g3 g4 c1 c9 c10 f9 f10 hxk
      go_wp2_with (
        go_at_call 115
        refine hrp.mono ?_
        rintro e w5 ⟨⟨v5, rfl⟩, s5, r1, r2, r3, r4⟩
        have R := Lib.hid (And.intro r1 (And.intro r2 (And.intro r3 r4)))
        clear hrp r1 r2 r3 r4)
      go_end0
      refine ⟨⟨_, rfl⟩, s5, R.out.1, by rw [R.out.2.1, G.out.1], ?_, G.out.2.2.1.trans R.out.2.2.2⟩
      rw [R.out.2.2.1, G.out.2.1]
      funext m
      by_cases q : m = n
      · rw [if_pos q, if_pos ⟨q, G.out.2.2.2⟩]
      · rw [if_neg q, if_neg (fun z => q z.1)]
    · have gk : (x.kind == 1) = false := by simpa using hxk
      go_upto_region 8 with (
        go_at_call 84
        refine ha1.mono ?_
        rintro e w4 ⟨rfl, rfl⟩
        clear ha1)
      obtain ⟨wy, hwy⟩ : ∃ wy, wy = wc.setCell ⟨xb, 10, none⟩ (.int .i64 (x.links - 1)) := ⟨_, rfl⟩
      have K : Keep wc wy (fun b => b = xb) := by rw [hwy]; exact Keep.setCell _ _ _
      have z1 := heap_setCell_eq (off := 10) (Value.int .i64 (x.links - 1)) F2.out
      rw [← hwy] at z1 ⊢
      obtain ⟨s2, g1, g2, g3, g4⟩ := F.out.1 wy (s.up n) K (by simpa [rnodeC] using z1)
      have hrp := rreap_c g1 F.out.2.1 F.out.2.2.2 F.out.2.2.1
      have G := Lib.hid (And.intro g2 (And.intro g3 (And.intro g4 hxk)))
      clear hwy K z1 g1 g2 g3 g4 c1 c9 c10 f9 f10 hxk
      go_wp2_with (
        go_at_call 115
        refine hrp.mono ?_
        rintro e w5 ⟨⟨v5, rfl⟩, s5, r1, r2, r3, r4⟩
        have R := Lib.hid (And.intro r1 (And.intro r2 (And.intro r3 r4)))
        clear hrp r1 r2 r3 r4)
      go_end0
      refine ⟨⟨_, rfl⟩, s5, R.out.1, by rw [R.out.2.1, G.out.1], ?_, G.out.2.2.1.trans R.out.2.2.2⟩
      rw [R.out.2.2.1, G.out.2.1]
      funext m
      by_cases q : m = n
      · rw [if_pos q, if_neg (fun z => G.out.2.2.2 z.2), q]
      · rw [if_neg q, if_neg (fun z => q z.1)]
end Go.Proofs.YtoanccechefclaaGreatDoor
namespace Go.Proofs.YtoanccechefclaaGreatDoor
open Go Go.RowKit Go.Sort
set_option maxRecDepth 100000
theorem gtR_spell (a b : ByteArray) : (Op.bytesLess a.toList b.toList || a.toList == b.toList) = leL (bl a) (bl b) := by
  rw [ByteArray.toList_eq, ByteArray.toList_eq, bytesLess_eq]
  unfold leL
  rw [Bool.eq_iff_iff]
  simp only [Bool.or_eq_true, decide_eq_true_eq, beq_iff_eq]
  constructor
  · rintro (h | h)
    · exact List.le_of_lt h
    · rw [show bl a = bl b from h]; exact List.le_refl _
  · intro h
    by_cases e : bl a = bl b
    · exact .inr e
    · exact .inl (Classical.byContradiction fun q => e (List.le_antisymm h (List.not_lt.1 q)))
theorem gt_run (a b : ByteArray) (r : Bool) (h : (Op.bytesLess a.toList b.toList || a.toList == b.toList) = !r) (W : World) : (binOp .gtr 9 (.string a) (.string b)).run Tryz.prog W = .ok (.bool r) W := by
  have : (binOp .gtr 9 (.string a) (.string b)).run Tryz.prog W = .ok (.bool (!(Op.bytesLess a.toList b.toList || a.toList == b.toList))) W := by kernel_rfl
  rw [this, h, Bool.not_not]
theorem leS_of_gt {a b : ByteArray} (h : leL (bl a) (bl b) = false) : leS b a := by
  have := leL_total (bl b) (bl a)
  rw [h, Bool.or_false] at this
  exact this
def putAt (L : List (ByteArray × Int)) (e : ByteArray × Int) (k : Nat) : List (ByteArray × Int) := L.take k ++ e :: L.drop k
theorem putAt_len (L : List (ByteArray × Int)) (e : ByteArray × Int) {k : Nat} (hk : k ≤ L.length) : (putAt L e k).length = L.length + 1 := by
  unfold putAt
  rw [List.length_append, List.length_cons, List.length_take, List.length_drop]
  omega
theorem putAt_all (L : List (ByteArray × Int)) (e : ByteArray × Int) : putAt L e L.length = L ++ [e] := by
  unfold putAt
  rw [List.take_length, List.drop_length]
theorem putAt_at (L : List (ByteArray × Int)) (e : ByteArray × Int) {k : Nat} (hk : k ≤ L.length) : (putAt L e k)[k]? = some e := by
  unfold putAt
  rw [List.getElem?_append_right (by rw [List.length_take]; omega), List.length_take, Nat.min_eq_left hk, Nat.sub_self]
  rfl
theorem putAt_before {L : List (ByteArray × Int)} (e : ByteArray × Int) {i : Nat} {x : ByteArray × Int} (hx : L[i]? = some x) : (putAt L e (i + 1))[i]? = some x := by
  have hi := (List.getElem?_eq_some_iff.1 hx).1
  unfold putAt
  rw [List.getElem?_append_left (by rw [List.length_take]; omega), List.getElem?_take_of_lt (by omega)]
  exact hx
theorem putAt_swap {L : List (ByteArray × Int)} (e : ByteArray × Int) {i : Nat} {x : ByteArray × Int} (hx : L[i]? = some x) : ((putAt L e (i + 1)).set i e).set (i + 1) x = putAt L e i := by
  have hi := (List.getElem?_eq_some_iff.1 hx).1
  apply List.ext_getElem?
  intro j
  rw [List.getElem?_set, List.getElem?_set, List.length_set, putAt_len L e (show i + 1 ≤ L.length by omega)]
  unfold putAt
  by_cases h1 : i + 1 = j
  · subst h1
    rw [if_pos rfl, if_pos (by omega), List.getElem?_append_right (by rw [List.length_take]; omega), List.length_take, Nat.min_eq_left (by omega), show i + 1 - i = 0 + 1 by omega, List.getElem?_cons_succ, List.getElem?_drop]
    rw [Nat.add_zero]
    exact hx.symm
  · rw [if_neg h1]
    by_cases h2 : i = j
    · subst h2
      rw [if_pos rfl, if_pos (by omega), List.getElem?_append_right (by rw [List.length_take]; omega), List.length_take, Nat.min_eq_left (by omega), Nat.sub_self]
      rfl
    · rw [if_neg h2]
      by_cases h3 : j < i
      · rw [List.getElem?_append_left (by rw [List.length_take]; omega), List.getElem?_append_left (by rw [List.length_take]; omega), List.getElem?_take_of_lt (by omega), List.getElem?_take_of_lt (by omega)]
      · rw [List.getElem?_append_right (by rw [List.length_take]; omega), List.getElem?_append_right (by rw [List.length_take]; omega), List.length_take, List.length_take, Nat.min_eq_left (by omega), Nat.min_eq_left (by omega)]
        obtain ⟨q, rfl⟩ : ∃ q, j = i + 2 + q := ⟨j - (i + 2), by omega⟩
        rw [show i + 2 + q - (i + 1) = q + 1 by omega, show i + 2 + q - i = q + 1 + 1 by omega, List.getElem?_cons_succ, List.getElem?_cons_succ, List.getElem?_drop, List.getElem?_drop]
        congr 1
        omega
theorem flat_swap {R : List (ByteArray × Int)} {i : Nat} {e f : ByteArray × Int} (he : R[i]? = some e) (hf : R[i + 1]? = some f) :
    ((((flat entC R).set (i * 2) (.string f.1)).set (i * 2 + 1) (.int .i64 f.2)).set ((i + 1) * 2) (.string e.1)).set ((i + 1) * 2 + 1) (.int .i64 e.2) = flat entC ((R.set i f).set (i + 1) e) := by
  have hl := (List.getElem?_eq_some_iff.1 hf).1
  have s1 : (entC e).set 0 (.string f.1) = entC (f.1, e.2) := rfl
  have s2 : (entC (f.1, e.2)).set 1 (.int .i64 f.2) = entC f := rfl
  have s3 : (entC f).set 0 (.string e.1) = entC (e.1, f.2) := rfl
  have s4 : (entC (e.1, f.2)).set 1 (.int .i64 e.2) = entC e := rfl
  have h2 : (R.set i (f.1, e.2))[i]? = some (f.1, e.2) := by rw [List.getElem?_set, if_pos rfl, if_pos (by omega)]
  have h3 : (R.set i f)[i + 1]? = some f := by rw [List.getElem?_set, if_neg (by omega)]; exact hf
  have h4 : ((R.set i f).set (i + 1) (e.1, f.2))[i + 1]? = some (e.1, f.2) := by rw [List.getElem?_set, if_pos rfl, if_pos (by rw [List.length_set]; omega)]
  have e1 := flat_set entC 2 entC_len he (show 0 < 2 by omega) s1
  have e2 := flat_set entC 2 entC_len h2 (show 1 < 2 by omega) s2
  have e3 := flat_set entC 2 entC_len h3 (show 0 < 2 by omega) s3
  have e4 := flat_set entC 2 entC_len h4 (show 1 < 2 by omega) s4
  rw [List.set_set] at e2 e4
  rw [Nat.add_zero] at e1 e3
  rw [e1, e2, e3, e4]
theorem keep_set (w w1 : World) (q a : Nat) (v : Value) (h : Keep w w1 (fun x => x = q)) : Keep w (w1.setCell ⟨q, a, none⟩ v) (fun x => x = q) := h.trans (Keep.setCell w1 ⟨q, a, none⟩ v) (fun b z => .inl z)
theorem keep4 (w : World) (q a b c d : Nat) (v1 v2 v3 v4 : Value) : Keep w ((((w.setCell ⟨q, a, none⟩ v1).setCell ⟨q, b, none⟩ v2).setCell ⟨q, c, none⟩ v3).setCell ⟨q, d, none⟩ v4) (fun x => x = q) :=
  keep_set _ _ _ _ _ (keep_set _ _ _ _ _ (keep_set _ _ _ _ _ (Keep.setCell w ⟨q, a, none⟩ v1)))
structure PutRow (w wr : World) (nb : Nat) (L : List (ByteArray × Int)) (e : ByteArray × Int) (k n : Nat) (C : Value → Obj) (q cap : Nat) : Prop where
  row : wr.ownsRow 0 200 2 (.slice (some ⟨q, 0, none⟩) n cap) n (flat entC (putAt L e k))
  keep : Keep w wr (fun b => b = nb)
  box : wr.heap[nb]? = some (C (.slice (some ⟨q, 0, none⟩) n cap))
  new : w.heap.size ≤ q
set_option maxHeartbeats 4000000 in
theorem rput_c {w : World} {tb : Nat} {s : RShape} {bl : Int} {T : TreeV} (h : RTreeIn w tb s bl T) (hr : T.rng) {d n : Int} {dx x : NodeV} {key : ByteArray} (hd : aget T.all d = some dx) (hx : aget T.all n = some x) (hne : d ≠ n)
    (hon : (dx.names.map Prod.fst).Nodup) (hl : dx.names.length ≤ 1000000) (hk : aget dx.names key = none) (hlk : 0 ≤ x.links ∧ x.links ≤ 1000000) :
    Calls Tryz.prog 83 #[.pointer (some ⟨tb, 0, none⟩), .int .i64 d, .string key, .int .i64 n] w fun e w' => (∃ v, e = .returned v) ∧ ∃ s', RTreeIn w' tb s' bl (T.give d key n) ∧ s'.na = s.na ∧ s'.up = (fun m => if m = n ∧ x.kind = 1 then d else s.up m) ∧ TurnR w s w' s' := by
  have ha := rtat_s h hr hd
  obtain ⟨sa, cap, hev, hc⟩ := rows_val2 (h.ents_at hd)
  have hnode := h.node_at hd
  have he := h.ents_at hd
  rw [hev] at hnode he
  have hlen := ents_len dx.names
  have hdne : s.na d < w.heap.size := h.lt _ _ (h.tnode hd)
  have hput : ∀ k, k ≤ dx.names.length → (∀ e ∈ (entsOf dx.names).drop k, leS key e.1) → (∀ i e, k = i + 1 → (entsOf dx.names)[i]? = some e → leS e.1 key) → putAt (entsOf dx.names) (key, n) k = entsOf (aset dx.names key n) := fun k h0 h1 h2 => ents_put hon n hk h0 h1 h2
  have hasl : (aset dx.names key n).length = dx.names.length + 1 := by rw [aset_new _ _ _ (aget_out hk)]; simp
  have HO := Lib.hid (And.intro h (And.intro hr (And.intro hd (And.intro hx (And.intro hput hasl)))))
  have HE := Lib.hid (And.intro he (And.intro hlen hnode))
  generalize hL : entsOf dx.names = L at *
  obtain ⟨ln, hln⟩ : ∃ ln, ln = dx.names.length := ⟨_, rfl⟩
  rw [← hln] at HE hc hl
  obtain ⟨nb, hnb⟩ : ∃ nb, nb = s.na d := ⟨_, rfl⟩
  rw [← hnb] at HE ha hdne
  have HN := Lib.hid (And.intro hln (And.intro hnb hev))
  obtain ⟨pi, pi1, pi2, pi3, pi4⟩ := entry_info
  have PI := Lib.hid (And.intro pi1 (And.intro pi2 (And.intro pi3 pi4)))
  have c8 := (rCells HE.out.2.2).ents
  have ca : (w.alloc (.cells #[] 200)).cell? ⟨nb, 8, none⟩ = some (.slice sa ln cap) := (Keep.alloc w _ (fun _ => False)).cell c8 (fun q => q)
  have E0 : (w.alloc (.cells #[] 200)).ownsRow 0 200 2 (.slice (some ⟨w.heap.size, 0, none⟩) 0 0) 0 [] := rows_empty (heap_alloc_eq w _)
  have E1 : (flat entC L).length = ln * 2 := by rw [flat_len entC 2 entC_len, HE.out.2.1]
  have ER : (w.alloc (.cells #[] 200)).ownsRow 0 200 2 (.slice sa ln cap) ln (flat entC L) := rows_keep HE.out.1 (Keep.alloc w _ (fun _ => False)) (fun _ _ q => q)
  have E2 : ln = 0 ∨ ∃ ad, sa = some ad ∧ ∀ j u, (flat entC L)[j]? = some u → (w.alloc (.cells #[] 200)).cell? (ad.add j) = some u := by
    rcases Nat.eq_zero_or_pos ln with q | q
    · exact .inl q
    · right
      obtain ⟨g, rfl, -, -, -⟩ := rows_some ER q
      exact ⟨_, rfl, rows_read ER 0 (fun j u hj => by rw [Nat.zero_add]; exact hj)⟩
  have EE := Lib.hid (And.intro E0 (And.intro E1 E2))
  clear h hr hd hx hk hev he hlen hnode hput hL hln hnb pi1 pi2 pi3 pi4 hon hasl E0 E1 E2 ER
  go_enter Tryz.func83, Tryz.ntmps83
  go_upto_region 2 with (first
    | (go_at_call 84
       refine ha.mono ?_
       rintro e w1 ⟨rfl, rfl⟩
       clear ha)
    | (at_builtin
       refine law_append_row (v := .slice (some ⟨w.heap.size, 0, none⟩) 0 0) rfl _ _ _ rfl Tryz.underlying146 PI.out.1 PI.out.2.1 PI.out.2.2.1 PI.out.2.2.2 entry_cells (by omega) rfl EE.out.1 (flat entC L) rfl EE.out.2.1 EE.out.2.2 (entC_one _) (by omega) ?_
       intro sa2 cap2 w2 r1 r2 r3
       rw [Nat.zero_add] at r1 r3
       have k2 : Keep w w2 (fun _ => False) := (Keep.alloc w (.cells #[] 200) (fun _ => False)).trans r2 (fun b q => .inr (by
         have h6 : b = w.heap.size := by simpa [Value.ownBlock] using q
         omega))
       have F2 : ∀ b, (Value.slice sa2 ln cap2).ownBlock = some b → w.heap.size ≤ b := fun b q => by
         rcases r3 b q with z | z
         · have h6 : w.heap.size = b := by simpa [Value.ownBlock] using z
           omega
         · rw [z]; simp
       have cb : ∀ o, (w2.alloc o).cell? ⟨nb, 8, none⟩ = some (.slice sa ln cap) := fun o => (k2.aside (Keep.alloc w2 o (fun _ => False))).cell c8 (fun q => q)
       have G2 : (w2.alloc (.cells #[.string key, .int .i64 n] 200)).ownsRow 0 200 2 (.slice sa2 ln cap2) ln (flat entC L) := rows_keep r1 (Keep.alloc w2 _ (fun _ => False)) (fun _ _ q => q)
       have G3 := cells_new w2 [.string key, .int .i64 n] 200
       have N2 := Lib.hid (And.intro G2 (And.intro k2 (And.intro F2 G3)))
       clear r1 r2 r3 k2 F2 G2 G3 ca)
    | (at_builtin
       go_must (refine law_append_row (v := .slice sa2 ln cap2) rfl _ _ _ rfl Tryz.underlying146 PI.out.1 PI.out.2.1 PI.out.2.2.1 PI.out.2.2.2 entry_cells (by omega) rfl N2.out.1 [.string key, .int .i64 n] rfl rfl (.inr ⟨_, rfl, N2.out.2.2.2⟩) (entC_one [(key, n)]) (by omega) ?_)
       intro sa3 cap3 w3 r1 r2 r3
       obtain ⟨q, rfl, -, -, hql⟩ := rows_some r1 (by omega)
       have k3 : Keep w w3 (fun _ => False) := (N2.out.2.1.aside (Keep.alloc w2 (.cells #[.string key, .int .i64 n] 200) (fun _ => False))).trans r2 (fun b z => .inr (N2.out.2.2.1 b z.symm))
       have F3 : w.heap.size ≤ q := by
         rcases r3 q rfl with z | z
         · exact N2.out.2.2.1 _ z
         · rw [z]; have := N2.out.2.1.size; simp; omega
       have b3 := k3.get HE.out.2.2 (fun e => e)
       have d3 := (rCells b3).ents
       have g3 := free_blk b3 8
       have hw3 : PutRow w (w3.setCell ⟨nb, 8, none⟩ (.slice (some ⟨q, 0, none⟩) (ln + 1) cap3)) nb L (key, n) ln (ln + 1) (fun v => .cells (rnodeC d dx (s.up d) v) 148 (0, 0)) q cap3 := by
         have ks := Keep.setCell w3 ⟨nb, 8, none⟩ (.slice (some ⟨q, 0, none⟩) (ln + 1) cap3)
         refine ⟨?_, (k3.mono (fun _ z => z.elim)).trans ks (fun b z => .inl z), ?_, F3⟩
         · have e : putAt L (key, n) ln = L ++ [(key, n)] := by rw [← HE.out.2.1]; exact putAt_all _ _
           rw [e, flat_append]
           exact rows_keep r1 ks (fun b z e => by cases z; have e' : q = nb := e; omega)
         · have := heap_setCell_eq (off := 8) (Value.slice (some ⟨q, 0, none⟩) (ln + 1) cap3) b3
           simpa [rnodeC] using this
       have P3 := Lib.hid hw3
       clear r1 r2 r3 k3 F3 b3 hw3 cb))
  obtain ⟨wz, hwz⟩ : ∃ wz, wz = w3.setCell ⟨nb, 8, none⟩ (.slice (some ⟨q, 0, none⟩) (ln + 1) cap3) := ⟨_, rfl⟩
  rw [← hwz] at P3 ⊢
  have e8 := (rCells P3.out.box).ents
  clear hwz d3 g3 c8 hql
  go_upto_block 0 with (fail)
  go_cut [] (fun wx => ∃ k, PutRow w wx nb L (key, n) k (ln + 1) (fun v => .cells (rnodeC d dx (s.up d) v) 148 (0, 0)) q cap3 ∧ putAt L (key, n) k = entsOf (aset dx.names key n))
  case first =>
    go_wp2_with fail
    go_loopg [9] ln (fun g s9 wr => s9 = .int .i64 g ∧ g ≤ ln ∧ (∀ e ∈ L.drop g, leS key e.1) ∧ PutRow w wr nb L (key, n) g (ln + 1) (fun v => .cells (rnodeC d dx (s.up d) v) 148 (0, 0)) q cap3)
    case atStart => exact ⟨rfl, Nat.le_refl _, (fun e he => by rw [List.drop_of_length_le (by rw [HE.out.2.1]; exact Nat.le_refl _)] at he; cases he), P3.out⟩
    case round =>
      obtain ⟨rfl, hgl, hdr, hP⟩ := hrel
      have P := Lib.hid (And.intro hP hdr)
      have y8 := (rCells hP.box).ents
      clear hdr e8
      cases gk with
      | zero =>
        have hfin := HO.out.2.2.2.2.1 0 (by omega) P.out.2 (fun i e q => by omega)
        have F := Lib.hid (And.intro hP hfin)
        clear hP hfin y8
        rw [show ((0 : Nat) : Int) = 0 from rfl]
        go_upto_region 3 with (fail)
        go_quiet (fail)
        go_wp2
        go_meet
        case rel => exact ⟨0, ⟨F.out.1.row.1, F.out.1.row.2⟩ |> fun r => ⟨rows_keep r (drewN_keep _ (fun _ => False) _) (fun _ _ q => q), F.out.1.keep.trans (drewN_keep _ (fun _ => False) _) (fun _ q => q.elim), F.out.1.box, F.out.1.new⟩, F.out.2⟩
      | succ i =>
        obtain ⟨e, he⟩ : ∃ e, L[i]? = some e := ⟨_, List.getElem?_eq_getElem (by rw [HE.out.2.1]; omega)⟩
        have hL := HE.out.2.1
        have z1 : wr.cell? ⟨q, i * 2, none⟩ = some (.string e.1) := (rows_cell hP.row (by rw [← Nat.add_zero (i * 2), flat_get entC 2 entC_len (putAt_before (key, n) he) (by omega)]; rfl)).1
        have z1' : wr.cell? ⟨q, i * 2 + 1, none⟩ = some (.int .i64 e.2) := (rows_cell hP.row (by rw [flat_get entC 2 entC_len (putAt_before (key, n) he) (by omega)]; rfl)).1
        have z2 : wr.cell? ⟨q, (i + 1) * 2, none⟩ = some (.string key) := (rows_cell hP.row (by rw [← Nat.add_zero ((i + 1) * 2), flat_get entC 2 entC_len (putAt_at L (key, n) (show i + 1 ≤ L.length by omega)) (by omega)]; rfl)).1
        have z2' : wr.cell? ⟨q, (i + 1) * 2 + 1, none⟩ = some (.int .i64 n) := (rows_cell hP.row (by rw [flat_get entC 2 entC_len (putAt_at L (key, n) (show i + 1 ≤ L.length by omega)) (by omega)]; rfl)).1
        have f6 : decide ((i : Int) + 1 > 0) = true := decide_eq_true (by omega)
        have f7 : decide ((0 : Int) < (i : Int) + 1) = true := decide_eq_true (by omega)
        have g8 : (i : Int) + 1 < (ln : Int) + 1 := by omega
        have g10 : (i : Int) < (ln : Int) + 1 := by omega
        have g7 : i < ln + 1 := by omega
        have gx : (0 : Int) ≤ (i : Int) + 1 := by omega
        have gy : ((i : Int) + 1).toNat = i + 1 := by omega
        have gw : IntKind.i64.wrap (i : Int) = (i : Int) := IntWalk.i64_in _ (by omega)
        have HX := Lib.hid (And.intro he hL)
        clear he hL hP
        rw [show ((i + 1 : Nat) : Int) = (i : Int) + 1 from rfl]
        obtain ⟨b, hb⟩ : ∃ b, (Op.bytesLess e.1.toList key.toList || e.1.toList == key.toList) = b := ⟨_, rfl⟩
        have HB := Lib.hid hb
        have hB2 := HB.out
        rw [gtR_spell] at hB2
        cases b with
        | true =>
          have hfin := HO.out.2.2.2.2.1 (i + 1) (by have := HN.out.1; omega) P.out.2 (fun i' e' q1 q2 => by
            obtain rfl : i = i' := Nat.succ.inj q1
            rw [HX.out.1] at q2
            cases q2
            exact hB2)
          have F := Lib.hid (And.intro P.out.1 hfin)
          have hgr := fun W => gt_run e.1 key false hb W
          clear hB2 hfin hb
          go_upto_region 3 with (fail)
          go_quiet (fail)
          go_wp2
          go_meet
          case rel => exact ⟨i + 1, ⟨rows_keep F.out.1.row (drewN_keep _ (fun _ => False) _) (fun _ _ q => q), F.out.1.keep.trans (drewN_keep _ (fun _ => False) _) (fun _ q => q.elim), F.out.1.box, F.out.1.new⟩, F.out.2⟩
        | false =>
          have hle : leS key e.1 := leS_of_gt hB2
          have HLE := Lib.hid hle
          have hgr := fun W => gt_run e.1 key true hb W
          clear hB2 hle hb
          go_upto_region 3 with (fail)
          go_quiet (fail)
          go_upto_region 5 with (fail)
          have hpz : PutRow w (wr.drewN nq) nb L (key, n) (i + 1) (ln + 1) (fun v => .cells (rnodeC d dx (s.up d) v) 148 (0, 0)) q cap3 :=
            ⟨rows_keep P.out.1.row (drewN_keep _ (fun _ => False) _) (fun _ _ q => q), P.out.1.keep.trans (drewN_keep _ (fun _ => False) _) (fun _ q => q.elim), P.out.1.box, P.out.1.new⟩
          generalize wr.drewN nq = wq at hpz ⊢
          have hL := HX.out.2
          have hc1 := rows_cell hpz.row (by rw [← Nat.add_zero (i * 2), flat_get entC 2 entC_len (putAt_before (key, n) HX.out.1) (by omega)]; rfl : (flat entC (putAt L (key, n) (i + 1)))[i * 2]? = some (.string e.1))
          have hc2 := rows_cell hpz.row (by rw [flat_get entC 2 entC_len (putAt_before (key, n) HX.out.1) (by omega)]; rfl : (flat entC (putAt L (key, n) (i + 1)))[i * 2 + 1]? = some (.int .i64 e.2))
          have hc3 := rows_cell hpz.row (by rw [← Nat.add_zero ((i + 1) * 2), flat_get entC 2 entC_len (putAt_at L (key, n) (show i + 1 ≤ L.length by omega)) (by omega)]; rfl : (flat entC (putAt L (key, n) (i + 1)))[(i + 1) * 2]? = some (.string key))
          have hc4 := rows_cell hpz.row (by rw [flat_get entC 2 entC_len (putAt_at L (key, n) (show i + 1 ≤ L.length by omega)) (by omega)]; rfl : (flat entC (putAt L (key, n) (i + 1)))[(i + 1) * 2 + 1]? = some (.int .i64 n))
          obtain ⟨x1, fx1⟩ := hc1
          obtain ⟨x2, fx2⟩ := hc2
          obtain ⟨x3, fx3⟩ := hc3
          obtain ⟨x4, fx4⟩ := hc4
          have x8 := (rCells hpz.box).ents
          have PZ := Lib.hid hpz
          clear hpz hL z1 z1' z2 z2' y8 hgr
          go_region
          obtain ⟨wS, hwS⟩ : ∃ wS, wS = (((wq.setCell ⟨q, i * 2, none⟩ (.string key)).setCell ⟨q, i * 2 + 1, none⟩ (.int .i64 n)).setCell ⟨q, (i + 1) * 2, none⟩ (.string e.1)).setCell ⟨q, (i + 1) * 2 + 1, none⟩ (.int .i64 e.2) := ⟨_, rfl⟩
          have kS : Keep wq wS (fun b => b = q) := by rw [hwS]; exact keep4 wq q (i * 2) (i * 2 + 1) ((i + 1) * 2) ((i + 1) * 2 + 1) _ _ _ _
          have hS : PutRow w wS nb L (key, n) i (ln + 1) (fun v => .cells (rnodeC d dx (s.up d) v) 148 (0, 0)) q cap3 := by
            have r4 := rows_set (rows_set (rows_set (rows_set PZ.out.row (i * 2) (.string key)) (i * 2 + 1) (.int .i64 n)) ((i + 1) * 2) (.string e.1)) ((i + 1) * 2 + 1) (.int .i64 e.2)
            have hL := HX.out.2
            have h1 := putAt_before (key, n) HX.out.1
            have h2 := putAt_at L (key, n) (show i + 1 ≤ L.length by omega)
            have e1 := flat_swap h1 h2
            simp only at e1
            rw [e1, putAt_swap (key, n) HX.out.1, ← hwS] at r4
            refine ⟨r4, PZ.out.keep.trans kS (fun b z => .inr (by rw [z]; exact PZ.out.new)), kS.get PZ.out.box (fun z => by have := PZ.out.new; omega), PZ.out.new⟩
          rw [← hwS]
          have S := Lib.hid hS
          clear hwS kS hS x1 fx1 x2 fx2 x3 fx3 x4 fx4 x8
          go_wp2
          go_roundg i
          case measure => omega
          case rel =>
            refine ⟨rfl, by omega, ?_, ⟨rows_keep S.out.row (Keep.drew _ (fun _ => False)) (fun _ _ z => z), S.out.keep.aside (Keep.drew _ _), S.out.box, S.out.new⟩⟩
            intro e' he'
            have hi := (List.getElem?_eq_some_iff.1 HX.out.1)
            obtain ⟨h1, h2⟩ := hi
            have hdc : L.drop i = e :: L.drop (i + 1) := by rw [List.drop_eq_getElem_cons h1, h2]
            rw [hdc] at he'
            rcases List.mem_cons.1 he' with z | z
            · rw [z]; exact HLE.out
            · exact P.out.2 e' z
  case rest =>
    obtain ⟨k, hP, hpe⟩ := hcut
    obtain ⟨h, hr, hd, hx, -, hasl⟩ := HO.out
    obtain ⟨hln, hnb, hev⟩ := HN.out
    have hc1 : wc.heap[s.na d]? = some (.cells (rnodeC d { dx with names := aset dx.names key n } (s.up d) (.slice (some ⟨q, 0, none⟩) (ln + 1) cap3)) 148 (0, 0)) := by
      rw [← hnb]
      exact hP.box
    have he1 : wc.ownsRow 0 200 2 (.slice (some ⟨q, 0, none⟩) (ln + 1) cap3) (aset dx.names key n).length (flat entC (entsOf (aset dx.names key n))) := by
      rw [hasl, ← hln, ← hpe]
      exact hP.row
    obtain ⟨h1, t1⟩ := h.setNodeT hd (x' := { dx with names := aset dx.names key n }) (v := .slice (some ⟨q, 0, none⟩) (ln + 1) cap3) (u := s.up d) (hP.keep.mono (fun b z => by rw [← hnb]; exact z)) hc1 he1 (fun b z => by cases z; exact .inr hP.new)
    generalize (Value.slice (some ⟨q, 0, none⟩) (ln + 1) cap3) = v at h1 t1
    have hr1 := hr.set hd { dx with names := aset dx.names key n }
    have hx1 : aget (T.set d { dx with names := aset dx.names key n }).all n = some x := by rw [set_get, if_neg hne]; exact hx
    have ha1 := rtat_s h1 hr1 hx1
    have hT2 : T.give d key n = { (T.set d { dx with names := aset dx.names key n }).set n { x with links := x.links + 1, up := if x.kind = 1 then d else x.up } with turns := T.turns + 1 } := by
      unfold TreeV.give
      rw [hd, hx]
      rfl
    have hev2 : (s.turned d (s.up d) v).ev n = s.ev n := by show (if n = d then v else s.ev n) = _; rw [if_neg (fun z => hne z.symm)]
    have hup2 : ∀ m, (s.turned d (s.up d) v).up m = s.up m := fun m => by
      show (if m = d then s.up d else s.up m) = _
      split
      · rename_i e; rw [e]
      · rfl
    have hn1 := h1.node_at hx1
    have he2 := h1.ents_at hx1
    rw [hev2, hup2] at hn1
    rw [hev2] at he2
    have hna : (s.turned d (s.up d) v).na n = s.na n := rfl
    rw [hna] at ha1 hn1
    obtain ⟨c0, c1, c2, c3, c4, c5, c6, c7, c8', c9, c10, c11, c12⟩ := rCells hn1
    have f9 := free_blk hn1 9
    have f10 := free_blk hn1 10
    have fin : ∀ (wy : World) (u : Int), Keep wc wy (fun b => b = s.na n) → wy.heap[s.na n]? = some (.cells (rnodeC n { x with links := x.links + 1, up := if x.kind = 1 then d else x.up } u (s.ev n)) 148 (0, 0)) →
        ∃ s2, RTreeIn wy tb s2 bl (T.give d key n) ∧ s2.na = s.na ∧ s2.up = (fun m => if m = n then u else s.up m) ∧ TurnR w s wy s2 := by
      intro wy u K hc
      obtain ⟨h2, t2⟩ := h1.setNodeT hx1 (x' := { x with links := x.links + 1, up := if x.kind = 1 then d else x.up }) (v := s.ev n) (u := u) K hc (rows_keep he2 K (fun b z e => by
        have := h.tents hx b z
        have := rtag_ne this (h.tnode hx) (by simp)
        exact this e)) (fun b z => .inl (by rw [hev2]; exact z))
      refine ⟨(s.turned d (s.up d) v).turned n u (s.ev n), by rw [hT2]; exact h2.turned _, rfl, ?_, t1.trans t2⟩
      funext m
      show (if m = n then u else (s.turned d (s.up d) v).up m) = _
      rw [hup2]
    have F := Lib.hid fin
    have F2 := Lib.hid hn1
    clear fin h hr hd hx hln hnb hev hc1 hasl he1 h1 t1 hr1 hx1 hT2 hev2 hup2 hn1 he2 hna HO HN HE PI hP hpe c0 c2 c3 c4 c5 c6 c7 c8' c11 c12 e8 P3
    generalize hxb : s.na n = xb at *
    by_cases hxk : x.kind = 1
    · rw [hxk] at c1
      have XK := Lib.hid hxk
      clear hxk
      go_wp2_with (
        go_at_call 84
        refine ha1.mono ?_
        rintro e w4 ⟨rfl, rfl⟩
        clear ha1)
      obtain ⟨wy, hwy⟩ : ∃ wy, wy = (wc.setCell ⟨xb, 10, none⟩ (.int .i64 (x.links + 1))).setCell ⟨xb, 9, none⟩ (.int .i64 d) := ⟨_, rfl⟩
      have K : Keep wc wy (fun b => b = xb) := by rw [hwy]; exact (Keep.setCell _ _ _).trans (Keep.setCell _ _ _) (fun b z => .inl z)
      have z1 := heap_setCell_eq (off := 10) (Value.int .i64 (x.links + 1)) F2.out
      have z2 := heap_setCell_eq (off := 9) (Value.int .i64 d) z1
      rw [← hwy] at z2 ⊢
      obtain ⟨s2, g1, g2, g3, g4⟩ := F.out wy d K (by simpa [rnodeC] using z2)
      go_end0
      refine ⟨⟨_, rfl⟩, s2, g1, g2, ?_, g4⟩
      rw [g3]
      funext m
      by_cases z : m = n
      · rw [if_pos z, if_pos ⟨z, XK.out⟩]
      · rw [if_neg z, if_neg (fun y => z y.1)]
    · have gk : (x.kind == 1) = false := by simpa using hxk
      have XK := Lib.hid hxk
      clear hxk
      go_wp2_with (
        go_at_call 84
        refine ha1.mono ?_
        rintro e w4 ⟨rfl, rfl⟩
        clear ha1)
      obtain ⟨wy, hwy⟩ : ∃ wy, wy = wc.setCell ⟨xb, 10, none⟩ (.int .i64 (x.links + 1)) := ⟨_, rfl⟩
      have K : Keep wc wy (fun b => b = xb) := by rw [hwy]; exact Keep.setCell _ _ _
      have z1 := heap_setCell_eq (off := 10) (Value.int .i64 (x.links + 1)) F2.out
      rw [← hwy] at z1 ⊢
      obtain ⟨s2, g1, g2, g3, g4⟩ := F.out wy (s.up n) K (by simpa [rnodeC] using z1)
      go_end0
      refine ⟨⟨_, rfl⟩, s2, g1, g2, ?_, g4⟩
      rw [g3]
      funext m
      by_cases z : m = n
      · rw [if_pos z, if_neg (fun y => XK.out y.2), z]
      · rw [if_neg z, if_neg (fun y => z y.1)]
end Go.Proofs.YtoanccechefclaaGreatDoor
namespace Go.Proofs.YtoanccechefclaaGreatDoor
open Go Go.RowKit
set_option maxRecDepth 100000
def RUp (up : Int → Int) (T : TreeV) : Prop := ∀ m y, aget T.all m = some y → y.kind = 1 → up m = if TreeV.named m y then y.up else m
theorem RUp.ups {s : RShape} {T : TreeV} (h : RUp s.up T) (hn : (T.all.map Prod.fst).Nodup) : RUps s T := by
  intro x hx hk
  have hg := aget_ofN hn hx
  rw [h x.1 x.2 hg hk]
  unfold TreeV.upOf
  rw [TreeV.dir_of hg hk]
theorem RUp.set {up : Int → Int} {T : TreeV} (h : RUp up T) {n : Int} {x x' : NodeV} (hx : aget T.all n = some x) (hk : x'.kind = x.kind) (hl : x'.links = x.links) (hu : x'.up = x.up) : RUp up (T.set n x') := by
  intro m y hy hyk
  rw [set_get] at hy
  by_cases q : n = m
  · rw [if_pos q] at hy
    cases hy
    subst q
    rw [h n x hx (by rw [← hk]; exact hyk)]
    unfold TreeV.named
    rw [hl, hu]
  · rw [if_neg q] at hy
    exact h m y hy hyk
theorem RUp.drop {up : Int → Int} {T : TreeV} (h : RUp up T) (n : Int) (hn : (T.all.map Prod.fst).Nodup) : RUp up (T.drop n) := by
  intro m y hy hyk
  refine h m y ?_ hyk
  unfold TreeV.drop at hy
  cases hx : aget T.all n with
  | none => rw [hx] at hy; exact hy
  | some x =>
    rw [hx] at hy
    dsimp only at hy
    split at hy
    · exact hy
    · simp only at hy
      rw [aget_adelI hn] at hy
      split at hy
      · cases hy
      · exact hy
theorem give_all (T : TreeV) {d n : Int} {dx x : NodeV} {k : ByteArray} (hd : aget T.all d = some dx) (hx : aget T.all n = some x) (m : Int) :
    aget (T.give d k n).all m = if n = m then some { x with links := x.links + 1, up := if x.kind = 1 then d else x.up } else if d = m then some { dx with names := aset dx.names k n } else aget T.all m := by
  unfold TreeV.give
  rw [hd, hx]
  simp only
  rw [aget_aset, aget_aset]
theorem lose_all (T : TreeV) {d n : Int} {dx x : NodeV} {k : ByteArray} (hd : aget T.all d = some dx) (hx : aget T.all n = some x) (m : Int) :
    aget (T.loseName d k n).all m = if n = m then some { x with links := x.links - 1 } else if d = m then some { dx with names := adel dx.names k } else aget T.all m := by
  unfold TreeV.loseName
  rw [hd, hx]
  simp only
  rw [aget_aset, aget_aset]
theorem RUp.give {up : Int → Int} {T : TreeV} (h : RUp up T) {d n : Int} {dx x : NodeV} {k : ByteArray} (hd : aget T.all d = some dx) (hx : aget T.all n = some x) (hne : d ≠ n) (hl : 0 ≤ x.links) : RUp (fun m => if m = n ∧ x.kind = 1 then d else up m) (T.give d k n) := by
  intro m y hy hyk
  rw [give_all T hd hx] at hy
  by_cases q : n = m
  · rw [if_pos q] at hy
    cases hy
    subst q
    simp only at hyk ⊢
    rw [if_pos (by simpa using hyk)]
    unfold TreeV.named
    simp only [show 0 < x.links + 1 by omega, decide_true, Bool.or_true, if_true, hyk]
  · rw [if_neg q] at hy
    simp only
    rw [if_neg (fun z => q z.1.symm)]
    by_cases q2 : d = m
    · rw [if_pos q2] at hy
      cases hy
      subst q2
      rw [h d dx hd hyk]
      rfl
    · rw [if_neg q2] at hy
      exact h m y hy hyk
theorem RUp.lose {up : Int → Int} {T : TreeV} (h : RUp up T) {d n : Int} {dx x : NodeV} {k : ByteArray} (hd : aget T.all d = some dx) (hx : aget T.all n = some x) (hne : d ≠ n) (hn1 : n ≠ 1) (hl : x.kind = 1 → x.links ≤ 1) : RUp (fun m => if m = n ∧ x.kind = 1 then n else up m) (T.loseName d k n) := by
  intro m y hy hyk
  rw [lose_all T hd hx] at hy
  by_cases q : n = m
  · rw [if_pos q] at hy
    cases hy
    subst q
    simp only at hyk ⊢
    rw [if_pos (by simpa using hyk)]
    unfold TreeV.named
    have := hl hyk
    simp only [hn1, decide_false, Bool.false_or, show ¬ 0 < x.links - 1 by omega, Bool.false_eq_true, if_false]
  · rw [if_neg q] at hy
    simp only
    rw [if_neg (fun z => q z.1.symm)]
    by_cases q2 : d = m
    · rw [if_pos q2] at hy
      cases hy
      subst q2
      rw [h d dx hd hyk]
      rfl
    · rw [if_neg q2] at hy
      exact h m y hy hyk
theorem RUp.turned {up : Int → Int} {T : TreeV} (h : RUp up T) (t : Int) : RUp up { T with turns := t } := h
theorem lose_nodup {T : TreeV} (hn : (T.all.map Prod.fst).Nodup) {d n : Int} {dx x : NodeV} {k : ByteArray} (hd : aget T.all d = some dx) (hx : aget T.all n = some x) : ((T.loseName d k n).all.map Prod.fst).Nodup := by
  have : (T.loseName d k n).all.map Prod.fst = T.all.map Prod.fst := by
    unfold TreeV.loseName
    rw [hd, hx]
    simp only
    by_cases q : d = n
    · subst q
      rw [aset_keys (u := { dx with names := adel dx.names k }) (by rw [aget_aset, if_pos rfl]), aset_keys hd]
    · rw [aset_keys (u := x) (by rw [aget_aset, if_neg q]; exact hx), aset_keys hd]
  rw [this]
  exact hn
theorem turned_up (s : RShape) (n : Int) (v : Value) : (s.turned n (s.up n) v).up = s.up := by
  funext m
  show (if m = n then s.up n else s.up m) = _
  split
  · rename_i e; rw [e]
  · rfl
def RTo (w : World) (s : RShape) (tb : Nat) (bl : Int) (T' : TreeV) (w' : World) : Prop := ∃ s', RTreeIn w' tb s' bl T' ∧ RUp s'.up T' ∧ TurnR w s w' s'
theorem RTo.same {w : World} {s : RShape} {tb : Nat} {bl : Int} {T : TreeV} (h : RTreeIn w tb s bl T) (hu : RUp s.up T) : RTo w s tb bl T w := ⟨s, h, hu, TurnR.same (Keep.refl _ _)⟩
theorem rmask_c (w : World) (m : Int) : Calls Tryz.prog 81 #[.int .i64 m] w fun e w' => e = .returned (.int .i64 (maskV m)) ∧ w = w' := by
  go_enter Tryz.func81, Tryz.ntmps81
  go_wp2
  go_ret
  exact ⟨rfl, rfl⟩
theorem RTreeIn.cell1 {w : World} {tb : Nat} {s : RShape} {bl : Int} {T : TreeV} (h : RTreeIn w tb s bl T) (hu : RUp s.up T) {n : Int} {x x' : NodeV} (hx : aget T.all n = some x) {i : Nat} {v : Value} (hk : x'.kind = x.kind) (hl : x'.links = x.links) (hup : x'.up = x.up) (hnm : x'.names = x.names)
    (hc : (rnodeC n x (s.up n) (s.ev n)).setIfInBounds i v = rnodeC n x' (s.up n) (s.ev n)) : RTo w s tb bl (T.set n x') (w.setCell ⟨s.na n, i, none⟩ v) := by
  have ks := Keep.setCell w ⟨s.na n, i, none⟩ v
  have z1 := heap_setCell_eq (off := i) v (h.node_at hx)
  rw [hc] at z1
  obtain ⟨h1, t1⟩ := h.setNodeT hx (x' := x') (v := s.ev n) (u := s.up n) ks z1 (by rw [hnm]; exact rows_keep (h.ents_at hx) ks (fun b q e => rtag_ne (h.tents hx b q) (h.tnode hx) (by simp) e)) (fun b q => .inl q)
  exact ⟨_, h1, by rw [turned_up]; exact hu.set hx hk hl hup, t1⟩
section
variable {w : World} {tb : Nat} {s : RShape} {bl : Int} {T : TreeV} (h : RTreeIn w tb s bl T) (hu : RUp s.up T) (hg : T.good bl) (hs : T.small 900000)
include h hu hg hs
theorem rhold_c (n : Int) : Calls Tryz.prog 93 #[.pointer (some ⟨tb, 0, none⟩), .int .i64 n] w fun e w' => e = .returned (.int .i64 (T.hold n).2) ∧ RTo w s tb bl (T.hold n).1 w' := by
  have hr := TreeV.rng_of hg.ok hs (by decide)
  cases hx : aget T.all n with
  | none =>
    rw [show T.hold n = (T, 1) by unfold TreeV.hold; rw [hx]]
    have ha := rtat_n h hr hx
    have H := Lib.hid (And.intro h hu)
    clear h hu hx hg hs hr
    go_enter Tryz.func93, Tryz.ntmps93
    go_wp2_with (
      go_at_call 84
      refine ha.mono ?_
      rintro e w1 ⟨rfl, rfl⟩
      clear ha)
    go_ret
    exact ⟨rfl, RTo.same H.out.1 H.out.2⟩
  | some x =>
    rw [show T.hold n = (T.set n { x with holds := x.holds + 1 }, 0) by unfold TreeV.hold; rw [hx]]
    have ha := rtat_s h hr hx
    have c1 := (h.cells hx).holds
    have f1 := h.nodeFree hx 11
    have h1 := (hs.node hx).1
    have h0 := hg.ok.holds _ (aget_memN hx)
    simp only at h0
    have H := Lib.hid (h.cell1 hu hx (x' := { x with holds := x.holds + 1 }) (i := 11) (v := .int .i64 (x.holds + 1)) rfl rfl rfl rfl (by simp [rnodeC]))
    clear h hu hx hg hs hr
    go_enter Tryz.func93, Tryz.ntmps93
    go_wp2_with (
      go_at_call 84
      refine ha.mono ?_
      rintro e w1 ⟨rfl, rfl⟩
      clear ha)
    go_ret
    exact ⟨rfl, H.out⟩
theorem rsetmode_c (n m : Int) : Calls Tryz.prog 47 #[.pointer (some ⟨tb, 0, none⟩), .int .i64 n, .int .i64 m] w fun e w' => e = .returned (.int .i64 (T.setMode n (maskV m)).2) ∧ RTo w s tb bl (T.setMode n (maskV m)).1 w' := by
  have hr := TreeV.rng_of hg.ok hs (by decide)
  cases hx : aget T.all n with
  | none =>
    rw [show T.setMode n (maskV m) = (T, 1) by unfold TreeV.setMode; rw [hx]]
    have ha := rtat_n h hr hx
    have H := Lib.hid (And.intro h hu)
    clear h hu hx hg hs hr
    go_enter Tryz.func47, Tryz.ntmps47
    go_wp2_with (
      go_at_call 84
      refine ha.mono ?_
      rintro e w1 ⟨rfl, rfl⟩
      clear ha)
    go_ret
    exact ⟨rfl, RTo.same H.out.1 H.out.2⟩
  | some x =>
    rw [show T.setMode n (maskV m) = ({ T.set n { x with mode := maskV m } with turns := T.turns + 1 }, 0) by unfold TreeV.setMode; rw [hx]]
    have ha := rtat_s h hr hx
    have c1 := (h.cells hx).mode
    have f1 := h.nodeFree hx 2
    have hc := h.cell1 hu hx (x' := { x with mode := maskV m }) (i := 2) (v := .int .i64 (maskV m)) rfl rfl rfl rfl (by simp [rnodeC])
    have hk := rmask_c w m
    have H := Lib.hid hc
    clear h hu hx hg hs hr hc
    generalize maskV m = mm at *
    go_enter Tryz.func47, Tryz.ntmps47
    go_wp2_with (first
      | (go_at_call 84
         refine ha.mono ?_
         rintro e w1 ⟨rfl, rfl⟩
         clear ha)
      | (go_at_call 81
         refine hk.mono ?_
         rintro e w1 ⟨rfl, rfl⟩
         clear hk))
    go_ret
    obtain ⟨s', r1, r2, r3⟩ := H.out
    exact ⟨rfl, s', r1.turned _, r2, r3⟩
theorem rsetowner_c (n u g : Int) : Calls Tryz.prog 52 #[.pointer (some ⟨tb, 0, none⟩), .int .i64 n, .int .i64 u, .int .i64 g] w fun e w' => e = .returned (.int .i64 (T.setOwner n u g).2) ∧ RTo w s tb bl (T.setOwner n u g).1 w' := by
  have hr := TreeV.rng_of hg.ok hs (by decide)
  cases hx : aget T.all n with
  | none =>
    rw [show T.setOwner n u g = (T, 1) by unfold TreeV.setOwner; rw [hx]]
    have ha := rtat_n h hr hx
    have H := Lib.hid (And.intro h hu)
    clear h hu hx hg hs hr
    go_enter Tryz.func52, Tryz.ntmps52
    go_wp2_with (
      go_at_call 84
      refine ha.mono ?_
      rintro e w1 ⟨rfl, rfl⟩
      clear ha)
    go_ret
    exact ⟨rfl, RTo.same H.out.1 H.out.2⟩
  | some x =>
    rw [show T.setOwner n u g = ({ T.set n { x with uid := u, gid := g } with turns := T.turns + 1 }, 0) by unfold TreeV.setOwner; rw [hx]]
    have ha := rtat_s h hr hx
    have c1 := (h.cells hx).uid
    have c2 := (h.cells hx).gid
    have f1 := h.nodeFree hx 3
    have f2 := h.nodeFree hx 4
    have ks : Keep w ((w.setCell ⟨s.na n, 3, none⟩ (.int .i64 u)).setCell ⟨s.na n, 4, none⟩ (.int .i64 g)) (fun b => b = s.na n) := keep_set _ _ _ _ _ (Keep.setCell w ⟨s.na n, 3, none⟩ (.int .i64 u))
    have z1 := heap_setCell_eq (off := 4) (Value.int .i64 g) (heap_setCell_eq (off := 3) (Value.int .i64 u) (h.node_at hx))
    obtain ⟨h1, t1⟩ := h.setNodeT hx (x' := { x with uid := u, gid := g }) (v := s.ev n) (u := s.up n) ks (by simpa [rnodeC] using z1) (rows_keep (h.ents_at (x := x) hx) ks (fun b q e => rtag_ne (h.tents hx b q) (h.tnode hx) (by simp) e)) (fun b q => .inl q)
    have H := Lib.hid (And.intro h1 (And.intro (show RUp (s.turned n (s.up n) (s.ev n)).up (T.set n { x with uid := u, gid := g }) by rw [turned_up]; exact hu.set hx rfl rfl rfl) t1))
    clear h hu hx hg hs hr ks z1 h1 t1
    go_enter Tryz.func52, Tryz.ntmps52
    go_wp2_with (
      go_at_call 84
      refine ha.mono ?_
      rintro e w1 ⟨rfl, rfl⟩
      clear ha)
    go_ret
    exact ⟨rfl, _, H.out.1.turned _, H.out.2.1, H.out.2.2⟩
theorem rtake_c {d n : Int} {dx : NodeV} {k : ByteArray} (hd : T.dir d = some dx) (hk : aget dx.names k = some n) :
    Calls Tryz.prog 86 #[.pointer (some ⟨tb, 0, none⟩), .int .i64 d, .string k] w fun e w' => (∃ v, e = .returned v) ∧ RTo w s tb bl (T.take d k n) w' := by
  have hr := TreeV.rng_of hg.ok hs (by decide)
  obtain ⟨x, hx⟩ := hg.ok.kid hd hk
  have hdg := (TreeV.dir_some hd).1
  have hne := hg.ok.kid_ne hd hk
  have hm := aget_memN hdg
  have hn1 := (hg.ok.kids _ hm _ (aget_memS hk)).1
  have hlk := kid_links hg.ok hs hx
  have hl := (hs.node hdg).2.2
  refine (rout_c h hr (by have := hs.pool; omega) hdg hx hne (hg.ok.once _ hm) (by omega) hk ⟨hlk.1, by omega⟩).mono ?_
  rintro e w' ⟨hv, s', r1, r2, r3, r4⟩
  have hdt : T.take d k n = { (T.loseName d k n).drop n with turns := (T.take d k n).turns } := by
    unfold TreeV.take
    unfold TreeV.drop
    simp only
    cases aget (T.loseName d k n).all n with
    | none => rfl
    | some y => simp only; split <;> rfl
  refine ⟨hv, s', by rw [hdt]; exact r1.turned _, ?_, r4⟩
  rw [hdt, r3]
  exact ((hu.lose hdg hx hne hn1 (fun q => hg.ok.single _ (aget_memN hx) q)).drop n (lose_nodup hg.ok.nodup hdg hx)).turned _
theorem rpart_c (d : Int) (k : ByteArray) : Calls Tryz.prog 44 #[.pointer (some ⟨tb, 0, none⟩), .int .i64 d, .string k] w fun e w' => e = .returned (.int .i64 (T.part d k).2) ∧ RTo w s tb bl (T.part d k).1 w' := by
  have hr := TreeV.rng_of hg.ok hs (by decide)
  cases hx : T.dir d with
  | none =>
    rw [show T.part d k = (T, 1) by unfold TreeV.part; simp only [hx]]
    have hd := rtdir_n h hr hx
    have H := Lib.hid (And.intro h hu)
    clear h hu hx hg hs hr
    go_enter Tryz.func44, Tryz.ntmps44
    go_wp2_with (
      go_at_call 75
      refine hd.mono ?_
      rintro e w1 ⟨rfl, rfl⟩
      clear hd)
    go_ret
    exact ⟨rfl, RTo.same H.out.1 H.out.2⟩
  | some dx =>
    have hd := rtdir_s h hr hx
    have hdg := (TreeV.dir_some hx).1
    have hf := rtfind_c h hr hg.ok.once (fun y hy => by have := (hs.nodes y hy).2.2; omega) d k
    have hfe : T.find d k = match aget dx.names k with | none => (0, false) | some n => (n, true) := by unfold TreeV.find; rw [hx]; rfl
    cases hk : aget dx.names k with
    | none =>
      rw [hk] at hfe
      rw [hfe] at hf
      rw [show T.part d k = (T, 32) by unfold TreeV.part; simp only [hx, hk]]
      have H := Lib.hid (And.intro h hu)
      clear h hu hx hg hs hr hk hfe hdg
      go_enter Tryz.func44, Tryz.ntmps44
      go_wp2_with (first
        | (go_at_call 75
           refine hd.mono ?_
           rintro e w1 ⟨rfl, rfl⟩
           clear hd)
        | (go_at_call 85
           refine hf.mono ?_
           rintro e w2 ⟨rfl, k2⟩
           have K2 := Lib.hid k2
           clear hf k2))
      go_ret
      exact ⟨rfl, s, H.out.1.aside K2.out, H.out.2, TurnR.aside K2.out⟩
    | some n =>
      rw [hk] at hfe
      rw [hfe] at hf
      obtain ⟨y, hy⟩ := hg.ok.kid hx hk
      have hay := fun w' (K : Keep w w' (fun _ => False)) => rtat_s (h.aside K) hr hy
      obtain ⟨ea, ec, hev, hc⟩ := rows_val2 (h.ents_at hy)
      have hc8 := h.node_at hy
      rw [hev] at hc8
      have hl6 := (hs.node hy).2.2
      have htk := fun w' (K : Keep w w' (fun _ => False)) => rtake_c (h.aside K) hu hg hs hx hk
      by_cases hn : y.names = []
      · rw [show T.part d k = (T.take d k n, 0) by unfold TreeV.part; simp only [hx, hk, hy]; rw [if_neg (by simpa using hn)]]
        have hln : y.names.length = 0 := by rw [hn]; rfl
        rw [hln] at hc8 hc
        have H8 := Lib.hid hc8
        generalize s.na n = nb at *
        clear h hu hx hg hs hr hk hfe hdg hy hev hn hln hc8 hl6
        go_enter Tryz.func44, Tryz.ntmps44
        go_wp2_with (first
          | (go_at_call 75
             refine hd.mono ?_
             rintro e w1 ⟨rfl, rfl⟩
             clear hd)
          | (go_at_call 85
             refine hf.mono ?_
             rintro e w2 ⟨rfl, k2⟩
             have K2 := Lib.hid k2
             have c8 := (rCells (k2.get H8.out (fun q => q))).ents
             have hay2 := hay _ k2
             clear hf k2 hay)
          | (go_at_call 84
             refine hay2.mono ?_
             rintro e w3 ⟨rfl, rfl⟩
             clear hay2)
          | (go_at_call 86
             refine (htk _ K2.out).mono ?_
             rintro e w4 ⟨⟨v4, rfl⟩, r4⟩
             have R4 := Lib.hid r4
             clear htk r4 c8))
        go_ret
        obtain ⟨s', r1, r2, r3⟩ := R4.out
        exact ⟨rfl, s', r1, r2, (TurnR.aside K2.out).trans r3⟩
      · rw [show T.part d k = (T, 47) by unfold TreeV.part; simp only [hx, hk, hy]; rw [if_pos hn]]
        have hln : 0 < y.names.length := List.length_pos_iff.2 hn
        have H8 := Lib.hid hc8
        have H := Lib.hid (And.intro h hu)
        generalize y.names.length = yl at *
        generalize s.na n = nb at *
        clear h hu hx hg hs hr hk hfe hdg hy hev hn hc8 htk
        go_enter Tryz.func44, Tryz.ntmps44
        go_wp2_with (first
          | (go_at_call 75
             refine hd.mono ?_
             rintro e w1 ⟨rfl, rfl⟩
             clear hd)
          | (go_at_call 85
             refine hf.mono ?_
             rintro e w2 ⟨rfl, k2⟩
             have K2 := Lib.hid k2
             have c8 := (rCells (k2.get H8.out (fun q => q))).ents
             have hay2 := hay _ k2
             clear hf k2 hay)
          | (go_at_call 84
             refine hay2.mono ?_
             rintro e w3 ⟨rfl, rfl⟩
             clear hay2))
        go_ret
        exact ⟨rfl, s, H.out.1.aside K2.out, H.out.2, TurnR.aside K2.out⟩
end
end Go.Proofs.YtoanccechefclaaGreatDoor
namespace Go.Proofs.YtoanccechefclaaGreatDoor
open Go Go.RowKit
set_option maxRecDepth 100000
def RRightIs (k : ByteArray) (r : Bool) : Prop := ∀ U : World, Calls Tryz.prog 76 #[.string k] U fun e w' => e = .returned (.bool r) ∧ U = w'
theorem find_none {w : World} {tb : Nat} {s : RShape} {bl : Int} {T : TreeV} (h : RTreeIn w tb s bl T) {n : Int} {x : NodeV} (hx : aget T.all n = some x) (ho : (x.names.map Prod.fst).Nodup) (hl : x.names.length ≤ 1000000) {k : ByteArray} (hk : aget x.names k = none) :
    Calls Tryz.prog 77 #[.pointer (some ⟨s.na n, 0, none⟩), .string k] w fun e w' => e = .returned (.int .i64 (-1)) ∧ w = w' := by
  have := rfind_c h hx hl k
  rw [idxE_none ho hk] at this
  exact this
theorem find_some {w : World} {tb : Nat} {s : RShape} {bl : Int} {T : TreeV} (h : RTreeIn w tb s bl T) {n : Int} {x : NodeV} (hx : aget T.all n = some x) (ho : (x.names.map Prod.fst).Nodup) (hl : x.names.length ≤ 1000000) {k : ByteArray} {m : Int} (hk : aget x.names k = some m) :
    ∃ i : Nat, i ≤ 1000000 ∧ Calls Tryz.prog 77 #[.pointer (some ⟨s.na n, 0, none⟩), .string k] w fun e w' => e = .returned (.int .i64 i) ∧ w = w' := by
  have := rfind_c h hx hl k
  obtain ⟨i, hi, hie⟩ := idxE_some ho hk
  rw [hi] at this
  have hlt := (List.getElem?_eq_some_iff.1 hie).1
  rw [ents_len] at hlt
  exact ⟨i, by omega, this⟩
section
variable {w : World} {tb : Nat} {s : RShape} {bl : Int} {T : TreeV} (h : RTreeIn w tb s bl T) (hu : RUp s.up T) (hg : T.good bl) (hs : T.small 900000)
include h hu hg hs
theorem rgive_c {d n : Int} {dx x : NodeV} {k : ByteArray} (hd : T.dir d = some dx) (hk : aget dx.names k = none) (hx : aget T.all n = some x) (hne : d ≠ n) :
    Calls Tryz.prog 83 #[.pointer (some ⟨tb, 0, none⟩), .int .i64 d, .string k, .int .i64 n] w fun e w' => (∃ v, e = .returned v) ∧ RTo w s tb bl (T.give d k n) w' := by
  have hr := TreeV.rng_of hg.ok hs (by decide)
  have hdg := (TreeV.dir_some hd).1
  have hlk := kid_links hg.ok hs hx
  have hl := (hs.node hdg).2.2
  refine (rput_c h hr hdg hx hne (hg.ok.once _ (aget_memN hdg)) (by omega) hk ⟨hlk.1, by omega⟩).mono ?_
  rintro e w' ⟨hv, s', r1, r2, r3, r4⟩
  exact ⟨hv, s', r1, by rw [r3]; exact hu.give hdg hx hne hlk.1, r4⟩
set_option maxHeartbeats 2000000 in
theorem rjoin_c {k : ByteArray} {r : Bool} (hrr : RRightIs k r) (d n : Int) : Calls Tryz.prog 42 #[.pointer (some ⟨tb, 0, none⟩), .int .i64 d, .string k, .int .i64 n] w fun e w' => e = .returned (.int .i64 (T.join r d k n).2) ∧ RTo w s tb bl (T.join r d k n).1 w' := by
  have hr := TreeV.rng_of hg.ok hs (by decide)
  have hri := hrr w
  have hra := rtat_c h hr n
  cases hd : T.dir d with
  | none =>
    rw [show T.join r d k n = (T, 1) by unfold TreeV.join; rw [hd]]
    have hdd := rtdir_n h hr hd
    have H := Lib.hid (And.intro h hu)
    generalize rslot T s.na n = sv at *
    clear h hu hg hs hr hd hrr hri
    go_enter Tryz.func42, Tryz.ntmps42
    go_wp2_with (first
      | (go_at_call 75
         refine hdd.mono ?_
         rintro e w1 ⟨rfl, rfl⟩
         clear hdd)
      | (go_at_call 84
         refine hra.mono ?_
         rintro e w1 ⟨rfl, rfl⟩
         clear hra))
    go_ret
    exact ⟨rfl, RTo.same H.out.1 H.out.2⟩
  | some dx =>
    have hdd := rtdir_s h hr hd
    have hdg := (TreeV.dir_some hd).1
    cases hx : aget T.all n with
    | none =>
      rw [show T.join r d k n = (T, 1) by unfold TreeV.join; rw [hd, hx]]
      rw [rslot_none hx] at hra
      have H := Lib.hid (And.intro h hu)
      clear h hu hg hs hr hd hrr hri hx hdg
      go_enter Tryz.func42, Tryz.ntmps42
      go_wp2_with (first
        | (go_at_call 75
           refine hdd.mono ?_
           rintro e w1 ⟨rfl, rfl⟩
           clear hdd)
        | (go_at_call 84
           refine hra.mono ?_
           rintro e w1 ⟨rfl, rfl⟩
           clear hra))
      go_ret
      exact ⟨rfl, RTo.same H.out.1 H.out.2⟩
    | some x =>
      rw [rslot_some hx] at hra
      have c1 := (h.cells hx).kind
      have c10 := (h.cells hx).links
      have hlk := kid_links hg.ok hs hx
      have hdl := kid_links hg.ok hs hdg
      have hl6 := (hs.node hdg).2.2
      have hon := hg.ok.once _ (aget_memN hdg)
      have hjn : T.join r d k n = if x.kind = 1 ∨ r = false then (T, 1) else if TreeV.free d dx k ≠ 0 then (T, TreeV.free d dx k) else if 16 ≤ x.links then (T, 44) else (T.give d k n, 0) := by unfold TreeV.join; rw [hd, hx]
      have H := Lib.hid (And.intro h hu)
      by_cases hk1 : x.kind = 1 ∨ r = false
      · rw [hjn, if_pos hk1]
        clear h hu hg hs hr hd hrr hdg hjn hon
        cases r with
        | false =>
          clear hk1
          go_enter Tryz.func42, Tryz.ntmps42
          go_wp2_with (first
            | (go_at_call 75
               refine hdd.mono ?_
               rintro e w1 ⟨rfl, rfl⟩
               clear hdd)
            | (go_at_call 84
               refine hra.mono ?_
               rintro e w1 ⟨rfl, rfl⟩
               clear hra)
            | (go_at_call 76
               refine hri.mono ?_
               rintro e w1 ⟨rfl, rfl⟩
               clear hri))
          go_ret
          exact ⟨rfl, RTo.same H.out.1 H.out.2⟩
        | true =>
          have hk2 : x.kind = 1 := by rcases hk1 with q | q; exact q; cases q
          rw [hk2] at c1
          clear hk1 hk2 hx
          go_enter Tryz.func42, Tryz.ntmps42
          go_wp2_with (first
            | (go_at_call 75
               refine hdd.mono ?_
               rintro e w1 ⟨rfl, rfl⟩
               clear hdd)
            | (go_at_call 84
               refine hra.mono ?_
               rintro e w1 ⟨rfl, rfl⟩
               clear hra)
            | (go_at_call 76
               refine hri.mono ?_
               rintro e w1 ⟨rfl, rfl⟩
               clear hri))
          go_ret
          exact ⟨rfl, RTo.same H.out.1 H.out.2⟩
      · rw [hjn, if_neg hk1]
        have hr1 : r = true := by cases r; exact absurd (.inr rfl) hk1; rfl
        subst hr1
        have g1 : (x.kind == 1) = false := by simp only [not_or] at hk1; simpa using hk1.1
        have hne : d ≠ n := fun q => by
          subst q
          have := (TreeV.dir_some hd).2
          rw [hdg] at hx
          cases hx
          simp [this] at hk1
        cases hk : aget dx.names k with
        | some m =>
          have hfr : TreeV.free d dx k = 35 := by unfold TreeV.free; rw [hk]; rfl
          rw [hfr, if_pos (by decide)]
          obtain ⟨i, hi, hf⟩ := find_some h hdg hon (by omega) hk
          have hi0 : (0 : Int) ≤ (i : Int) := by omega
          clear h hu hg hs hr hd hrr hdg hjn hon hk1 hk hfr hx hne
          go_enter Tryz.func42, Tryz.ntmps42
          go_wp2_with (first
            | (go_at_call 75
               refine hdd.mono ?_
               rintro e w1 ⟨rfl, rfl⟩
               clear hdd)
            | (go_at_call 84
               refine hra.mono ?_
               rintro e w1 ⟨rfl, rfl⟩
               clear hra)
            | (go_at_call 76
               refine hri.mono ?_
               rintro e w1 ⟨rfl, rfl⟩
               clear hri)
            | (go_at_call 77
               refine hf.mono ?_
               rintro e w1 ⟨rfl, rfl⟩
               clear hf))
          go_ret
          exact ⟨rfl, RTo.same H.out.1 H.out.2⟩
        | none =>
          have hf := find_none h hdg hon (by omega) hk
          have hgo := rgone_c h hr hdg hdl.1
          have hfr : TreeV.free d dx k = if TreeV.named d dx then 0 else 32 := by unfold TreeV.free; rw [hk]; rfl
          cases hnm : TreeV.named d dx with
          | false =>
            rw [hnm] at hgo hfr
            simp only [Bool.false_eq_true, if_false, Bool.not_false] at hfr hgo
            rw [hfr, if_pos (by decide)]
            clear h hu hg hs hr hd hrr hdg hjn hon hk1 hk hfr hx hne hnm
            go_enter Tryz.func42, Tryz.ntmps42
            go_wp2_with (first
              | (go_at_call 75
                 refine hdd.mono ?_
                 rintro e w1 ⟨rfl, rfl⟩
                 clear hdd)
              | (go_at_call 84
                 refine hra.mono ?_
                 rintro e w1 ⟨rfl, rfl⟩
                 clear hra)
              | (go_at_call 76
                 refine hri.mono ?_
                 rintro e w1 ⟨rfl, rfl⟩
                 clear hri)
              | (go_at_call 77
                 refine hf.mono ?_
                 rintro e w1 ⟨rfl, rfl⟩
                 clear hf)
              | (go_at_call 78
                 refine hgo.mono ?_
                 rintro e w1 ⟨rfl, rfl⟩
                 clear hgo))
            go_ret
            exact ⟨rfl, RTo.same H.out.1 H.out.2⟩
          | true =>
            rw [hnm] at hgo hfr
            simp only [if_true, Bool.not_true] at hfr hgo
            rw [hfr, if_neg (by decide)]
            by_cases h16 : 16 ≤ x.links
            · rw [if_pos h16]
              clear h hu hg hs hr hd hrr hdg hjn hon hk1 hk hfr hx hne hnm
              go_enter Tryz.func42, Tryz.ntmps42
              go_wp2_with (first
                | (go_at_call 75
                   refine hdd.mono ?_
                   rintro e w1 ⟨rfl, rfl⟩
                   clear hdd)
                | (go_at_call 84
                   refine hra.mono ?_
                   rintro e w1 ⟨rfl, rfl⟩
                   clear hra)
                | (go_at_call 76
                   refine hri.mono ?_
                   rintro e w1 ⟨rfl, rfl⟩
                   clear hri)
                | (go_at_call 77
                   refine hf.mono ?_
                   rintro e w1 ⟨rfl, rfl⟩
                   clear hf)
                | (go_at_call 78
                   refine hgo.mono ?_
                   rintro e w1 ⟨rfl, rfl⟩
                   clear hgo))
              go_ret
              exact ⟨rfl, RTo.same H.out.1 H.out.2⟩
            · rw [if_neg h16]
              have hp := rgive_c h hu hg hs hd hk hx hne
              clear h hu hg hs hr hd hrr hdg hjn hon hk1 hk hfr hx hne hnm
              go_enter Tryz.func42, Tryz.ntmps42
              go_wp2_with (first
                | (go_at_call 75
                   refine hdd.mono ?_
                   rintro e w1 ⟨rfl, rfl⟩
                   clear hdd)
                | (go_at_call 84
                   refine hra.mono ?_
                   rintro e w1 ⟨rfl, rfl⟩
                   clear hra)
                | (go_at_call 76
                   refine hri.mono ?_
                   rintro e w1 ⟨rfl, rfl⟩
                   clear hri)
                | (go_at_call 77
                   refine hf.mono ?_
                   rintro e w1 ⟨rfl, rfl⟩
                   clear hf)
                | (go_at_call 78
                   refine hgo.mono ?_
                   rintro e w1 ⟨rfl, rfl⟩
                   clear hgo)
                | (go_at_call 83
                   refine hp.mono ?_
                   rintro e w4 ⟨⟨v4, rfl⟩, r4⟩
                   have R4 := Lib.hid r4
                   clear hp r4))
              go_ret
              exact ⟨rfl, R4.out⟩
end
end Go.Proofs.YtoanccechefclaaGreatDoor
