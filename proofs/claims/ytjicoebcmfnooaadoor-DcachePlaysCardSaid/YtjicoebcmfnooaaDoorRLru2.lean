/-
  The document's list: out, Drop, Use.
-/
import Derived.Test.YtjicoebcmfnooaaDoorRLru1
import Derived.Deep.RegionLaw
import Derived.Deep.CutRange
import Derived.Deep.CutBlock
import Derived.Deep.DeepCutAuto
namespace Go.Proofs.YtjicoebcmfnooaaDoor
open Go Go.RowKit
set_option linter.unusedSectionVars false
set_option linter.unusedSimpArgs false
set_option linter.unusedVariables false

theorem item_info : ∃ i, Tryd.prog.info? 85 = some i ∧ i.zero = some (.agg #[.string ByteArray.empty, .int .i64 0]) ∧ i.size = 2 ∧ i.bytes ≤ 64 := by
  have h : (Tryd.prog.info? 85).map (fun i => (i.zero, i.size, i.bytes)) = some (some (.agg #[.string ByteArray.empty, .int .i64 0]), 2, 24) := by kernel_rfl
  cases hh : Tryd.prog.info? 85 with
  | none => rw [hh] at h; simp at h
  | some i =>
    rw [hh] at h
    simp only [Option.map_some, Option.some.injEq, Prod.mk.injEq] at h
    exact ⟨i, rfl, h.1, h.2.1, by omega⟩

theorem item_cells : (Value.agg #[.string ByteArray.empty, .int .i64 0]).cells.size = 2 := by kernel_rfl

theorem take_some {α : Type} {l : List α} {n j : Nat} {u : α} (h : (l.take n)[j]? = some u) : l[j]? = some u := by
  by_cases hj : j < n
  · rwa [List.getElem?_take_of_lt hj] at h
  · rw [List.getElem?_eq_none (by rw [List.length_take]; omega)] at h; simp at h

/-- The list's row is another one now. -/
theorem ref_row {w w2 : World} {rb : Nat} {S U : Nat → Prop} {most : Int} {T T' : List Pair} (h : RefL w rb S most T) (K : Keep w w2 U) (hU : ∀ b, U b → S b ∧ b ≠ rb) {v : Value} {n : Nat} (hn : T'.length = n) (ho : w2.ownsRow 0 85 2 v n (flat entV T'))
    (hb : ∀ b, v.ownBlock = some b → (S b ∧ b ≠ rb) ∨ w.heap.size ≤ b) : ∃ S', RefL (w2.setCell ⟨rb, 1, none⟩ v) rb S' most T' ∧ Turn w S (w2.setCell ⟨rb, 1, none⟩ v) S' := by
  subst hn
  obtain ⟨v0, h1, h2, h3, h4⟩ := h.ex
  have hr := h.lt _ h4
  have hne : ∀ b, v.ownBlock = some b → b ≠ rb := fun b q => by
    rcases hb b q with q | q
    · exact q.2
    · omega
  have B : w2.heap[rb]? = some (.cells #[.int .i64 most, v0] 80 (0, 0)) := K.get h1 (fun q => (hU _ q).2 rfl)
  refine ⟨fun b => S b ∨ v.ownBlock = some b, ⟨⟨v, heap_setCell_eq (off := 1) _ B, rows_keep ho (Keep.setCell _ _ _) hne, fun b q => ⟨.inr q, hne b q⟩, .inl h4⟩, fun b q => ?_⟩, ⟨(K.mono fun b q => (hU b q).1).trans (Keep.setCell _ _ _) (fun b q => .inl (by rw [show b = rb from q]; exact h4)), fun b q => ?_⟩⟩
  · have hs : (w2.setCell ⟨rb, 1, none⟩ v).heap.size = w2.heap.size := by simp
    rw [hs]
    rcases q with q | q
    · exact Nat.lt_of_lt_of_le (h.lt b q) K.size
    · rcases rows_val ho with ⟨rfl, _⟩ | ⟨g, cap, rfl, _, h5, h6⟩
      · simp [Value.ownBlock] at q
      · rw [h5] at q; cases q; exact h6
  · rcases q with q | q
    · exact .inl q
    · exact (hb b q).imp (fun z => z.1) id

set_option maxHeartbeats 4000000 in
theorem out_c {w : World} {rb : Nat} {S : Nat → Prop} {most : Int} {T : List Pair} (h : RefL w rb S most T) (hl : T.length ≤ 100000) {k : Nat} {x : Pair} (hx : T[k]? = some x) :
    Calls Tryd.prog 47 #[.pointer (some ⟨rb, 0, none⟩), .int .i64 k] w fun r w' => r = .returned (.agg #[.string x.1, .int .i64 x.2]) ∧ ∃ S', RefL w' rb S' most (T.eraseIdx k) ∧ Turn w S w' S' := by
  have hlt := (List.getElem?_eq_some_iff.1 hx).1
  obtain ⟨sv, h1, h2, h3, h4⟩ := h.ex
  obtain ⟨sa, cap, rfl, hc⟩ := rows_val2 h2
  obtain ⟨g, rfl, _, _, hgl⟩ := rows_some h2 (by omega)
  obtain ⟨n, hn⟩ : ∃ n, n = T.length := ⟨_, rfl⟩
  rw [← hn] at h1 h2 h3 hc hl hlt
  have c0 : ∀ o, (w.alloc o).cell? ⟨rb, 1, none⟩ = some (.slice (some ⟨g, 0, none⟩) n cap) := fun o => (Keep.alloc w o (fun _ => False)).cell (by rw [cell_blk h1]; rfl) (fun q => q)
  have c1 : ∀ o, (w.alloc o).cell? ⟨g, k * 2, none⟩ = some (.string x.1) := fun o => (Keep.alloc w o (fun _ => False)).cell (rows_cell h2 (by rw [← Nat.add_zero (k * 2), flat_get entV 2 entV_len hx (by omega)]; rfl)).1 (fun q => q)
  have c2 : ∀ o, (w.alloc o).cell? ⟨g, k * 2 + 1, none⟩ = some (.int .i64 x.2) := fun o => (Keep.alloc w o (fun _ => False)).cell (rows_cell h2 (by rw [flat_get entV 2 entV_len hx (by omega)]; rfl)).1 (fun q => q)
  obtain ⟨pi, pi1, pi2, pi3, pi4⟩ := item_info
  have hrw := h.lt _ h4
  have PI := Lib.hid (And.intro pi1 (And.intro pi2 (And.intro pi3 pi4)))
  have A := Lib.hid (And.intro h (And.intro h1 (And.intro h2 (And.intro h3 h4))))
  have HX := Lib.hid (And.intro hx hn)
  clear h h1 h2 h3 h4 pi1 pi2 pi3 pi4 hx hn hrw
  have b1 : (k : Int) < (n : Int) := by omega
  have b2 : (k : Int) ≤ (n : Int) := by omega
  have b3 : (k : Int) ≤ (cap : Int) := by omega
  have b4 : (k : Int) + 1 ≤ (n : Int) := by omega
  have b5 : (k : Int) + 1 ≤ (cap : Int) := by omega
  have b6 : (0 : Int) ≤ (k : Int) := by omega
  have b7 : (0 : Int) ≤ (k : Int) + 1 := by omega
  go_enter Tryd.func47, Tryd.ntmps47
  go_wp2_with fail
  obtain ⟨wa, hwa⟩ : ∃ wa, wa = (w.alloc (.cells #[.string { data := #[] }, .int .i64 0] 85)).alloc (.cells #[.string x.1, .int .i64 x.2] 85) := ⟨_, rfl⟩
  have W : Keep w wa (fun _ => False) ∧ wa.heap[w.heap.size]? = some (.cells #[.string { data := #[] }, .int .i64 0] 85 (0, 0)) ∧ wa.heap[w.heap.size + 1]? = some (.cells #[.string x.1, .int .i64 x.2] 85 (0, 0)) ∧ wa.heap.size = w.heap.size + 1 + 1 := by
    rw [hwa]
    clear hwa
    have k1 := Keep.alloc w (.cells #[.string { data := #[] }, .int .i64 0] 85) (fun _ => False)
    have g1 := heap_alloc_eq w (.cells #[.string { data := #[] }, .int .i64 0] 85)
    have z1 : (w.alloc (.cells #[.string { data := #[] }, .int .i64 0] 85)).heap.size = w.heap.size + 1 := by simp
    generalize w.alloc (.cells #[.string { data := #[] }, .int .i64 0] 85) = w1 at *
    have k2 := Keep.alloc w1 (.cells #[.string x.1, .int .i64 x.2] 85) (fun _ => False)
    have g2 := heap_alloc_eq w1 (.cells #[.string x.1, .int .i64 x.2] 85)
    have z2 : (w1.alloc (.cells #[.string x.1, .int .i64 x.2] 85)).heap.size = w1.heap.size + 1 := by simp
    rw [z1] at g2 z2
    exact ⟨k1.trans k2 (fun _ q => q.elim), k2.get g1 (fun q => q), g2, z2⟩
  rw [← hwa]
  clear hwa
  have W := Lib.hid W
  have ha1 := W.out.1.get A.out.2.1 (fun q => q)
  have hra := A.out.1.aside W.out.1
  have c0a : wa.cell? ⟨rb, 1, none⟩ = some (.slice (some ⟨g, 0, none⟩) n cap) := by rw [cell_blk ha1]; rfl
  have cna : (wa.alloc (.cells #[] 85)).cell? ⟨rb, 1, none⟩ = some (.slice (some ⟨g, 0, none⟩) n cap) := by
    rw [cell_blk ((Keep.alloc wa _ (fun _ => False)).get ha1 (fun q => q))]; rfl
  have f0a : wa.frozen? ⟨rb, 1, none⟩ = false := free_blk ha1 _
  have RA := Lib.hid (And.intro hra ha1)
  clear hra ha1 c0 c1 c2
  have b8 : ((k : Int) + 1).toNat = k + 1 := by omega
  have b9 : IntKind.i64.wrap ((k : Int) + 1) = (k : Int) + 1 := IntWalk.i64_in _ (by omega)
  rcases Nat.eq_or_lt_of_le (show k + 1 ≤ cap by omega) with hcap | hcap
  · have hn1 : n = k + 1 ∨ n ≠ k + 1 := by omega
    clear hn1
    have R0 : ∀ w2, Keep wa w2 (fun _ => False) → w2.ownsRow 0 85 2 (.slice (some ⟨g, 0, none⟩) n cap) n (flat entV T) := fun w2 K => rows_keep A.out.2.2.1 (W.out.1.trans K (fun _ q => q.elim)) (fun _ _ q => q)
    have R1 : ∀ w2, Keep wa w2 (fun _ => False) → k = 0 ∨ ∃ ad, some (⟨g, 0, none⟩ : Addr) = some ad ∧ ∀ j u, (flat entV (T.take k))[j]? = some u → w2.cell? (ad.add j) = some u := fun w2 K => .inr ⟨_, rfl, rows_read (R0 w2 K) 0 (fun j u hj => by
      rw [Nat.zero_add]
      rw [flat_take entV 2 entV_len] at hj
      exact take_some hj)⟩
    have R2 : (flat entV (T.take k)).length = k * 2 := by rw [flat_len entV 2 entV_len, List.length_take, ← HX.out.2]; omega
    have K0 : Keep wa (World.drew (wa.alloc (.cells #[] 85))) (fun _ => False) := (Keep.alloc wa _ (fun _ => False)).trans (Keep.drew _ (fun _ => False)) (fun _ q => q.elim)
    have E0 : (World.drew (wa.alloc (.cells #[] 85))).ownsRow 0 85 2 (.slice (some ⟨w.heap.size + 1 + 1, 0, none⟩) 0 0) 0 [] := by rw [← W.out.2.2.2]; exact rows_empty (heap_alloc_eq wa _)
    have R3 : (flat entV (T.drop (k + 1))).length = 0 * 2 := by rw [flat_len entV 2 entV_len, List.length_drop, ← HX.out.2]; omega
    have R4 : ∀ w2, Keep wa w2 (fun _ => False) → 0 = 0 ∨ ∃ ad, some (⟨g, 0, none⟩ : Addr) = some ad ∧ ∀ j u, (flat entV (T.drop (k + 1)))[j]? = some u → w2.cell? (ad.add j) = some u := fun w2 K => .inl rfl
    have RR := Lib.hid (And.intro R0 (And.intro R1 (And.intro R2 (And.intro K0 (And.intro E0 (And.intro R3 R4))))))
    clear R0 R1 R2 R3 R4 K0 E0
    go_region_law
      (first
        | (refine step_append_row rfl _ _ _ (by rfl) Tryd.underlying78 PI.out.1 PI.out.2.1 PI.out.2.2.1 PI.out.2.2.2 item_cells (by omega) (by rfl) RR.out.2.2.2.2.1 (flat entV (T.take k)) (by rfl) RR.out.2.2.1 (RR.out.2.1 _ RR.out.2.2.2.1) (ent_one _) (by omega) k (by omega) (flat entV (T.take k)) rfl ?_
           intro sa2 cap2 w2 ho hk hf2
           have B2 := hk.get (RR.out.2.2.2.1.get RA.out.2 (fun q => q)) (fun e => by
             have h5 := RA.out.1.lt _ A.out.2.2.2.2
             have h6 : rb = w.heap.size + 1 + 1 := by simpa [Value.ownBlock] using e
             have hq := W.out.2.2.2
             omega)
           have d0 : w2.cell? ⟨rb, 1, none⟩ = some (.slice (some ⟨g, 0, none⟩) n cap) := by rw [cell_blk B2]; rfl
           have K2 : Keep wa w2 (fun _ => False) := RR.out.2.2.2.1.trans hk (fun b q => .inr (by
             have h6 : b = w.heap.size + 1 + 1 := by simpa [Value.ownBlock] using q
             have hq := W.out.2.2.2
             omega))
           have F2 : ∀ b, (Value.slice sa2 k cap2).ownBlock = some b → wa.heap.size ≤ b := fun b q => by
             rcases hf2 b q with q | q
             · have h6 : w.heap.size + 1 + 1 = b := by simpa [Value.ownBlock] using q
               have hq := W.out.2.2.2
               omega
             · rw [q]; exact RR.out.2.2.2.1.size
           have N := Lib.hid (And.intro ho (And.intro K2 (And.intro F2 B2)))
           clear ho hk hf2 K2 F2 B2)
        | (refine step_append_row rfl _ _ _ (by rfl) Tryd.underlying78 PI.out.1 PI.out.2.1 PI.out.2.2.1 PI.out.2.2.2 item_cells (by omega) (by rfl) N.out.1 (flat entV (T.drop (k + 1))) (by rfl) RR.out.2.2.2.2.2.1 (.inl rfl) (ent_one _) (by omega) (n - 1) (by omega) _ rfl ?_
           intro sa3 cap3 w3 ho3 hk3 hf3
           have B3 := hk3.get N.out.2.2.2 (fun e => by
             have h5 := RA.out.1.lt _ A.out.2.2.2.2
             have h6 := N.out.2.2.1 _ e.symm
             omega)
           have d3 : w3.cell? ⟨rb, 1, none⟩ = some (.slice (some ⟨g, 0, none⟩) n cap) := by rw [cell_blk B3]; rfl
           have g3 : w3.frozen? ⟨rb, 1, none⟩ = false := free_blk B3 _
           have K3 : Keep wa w3 (fun _ => False) := N.out.2.1.trans hk3 (fun b q => .inr (N.out.2.2.1 _ q.symm))
           have F3 : ∀ b, (Value.slice sa3 (n - 1) cap3).ownBlock = some b → wa.heap.size ≤ b := fun b q => by
             rcases hf3 b q with q | q
             · exact N.out.2.2.1 _ q
             · rw [q]; exact N.out.2.1.size
           have N3 := Lib.hid (And.intro ho3 (And.intro K3 F3))
           clear ho3 hk3 hf3 K3 F3 B3))
    all_goals
      obtain ⟨wz, hwz⟩ : ∃ wz, wz = w3.setCell ⟨rb, 1, none⟩ (.slice sa3 (n - 1) cap3) := ⟨_, rfl⟩
      rw [← hwz]
      have hne1 : ¬ w.heap.size = rb := fun e => by have := A.out.1.lt _ A.out.2.2.2.2; omega
      have hne2 : ¬ w.heap.size + 1 = rb := fun e => by have := A.out.1.lt _ A.out.2.2.2.2; omega
      have kz : Keep w3 wz (fun b => b = rb) := by rw [hwz]; exact Keep.setCell _ _ _
      have z4 := kz.get (N3.out.2.1.get W.out.2.1 (fun q => q)) hne1
      have z5 := kz.get (N3.out.2.1.get W.out.2.2.1 (fun q => q)) hne2
      have y1 := cell_blk z5 0
      have y2 := cell_blk z5 1
      have y3 := cell_blk z4 0
      have y4 := cell_blk z4 1
      have y5 := free_blk z4 0
      have y6 := free_blk z4 1
      simp only [List.getElem?_toArray, List.getElem?_cons_zero, List.getElem?_cons_succ] at y1 y2 y3 y4
      have HZ := Lib.hid (And.intro hwz z4)
      clear hwz hne1 hne2 kz z4 z5 d3 g3
      go_wp2
      obtain ⟨wf, hwf⟩ : ∃ wf, wf = (wz.setCell ⟨w.heap.size, 0, none⟩ (.string x.1)).setCell ⟨w.heap.size, 1, none⟩ (.int .i64 x.2) := ⟨_, rfl⟩
      have zf : wf.heap[w.heap.size]? = some (.cells #[.string x.1, .int .i64 x.2] 85 (0, 0)) := by
        rw [hwf]
        exact heap_setCell_eq (.int .i64 x.2) (off := 1) (heap_setCell_eq (.string x.1) (off := 0) HZ.out.2)
      have x1 : wf.cell? ⟨w.heap.size, 0, none⟩ = some (.string x.1) := by rw [cell_blk zf]; rfl
      have x2 : wf.cell? ⟨w.heap.size, 1, none⟩ = some (.int .i64 x.2) := by rw [cell_blk zf]; rfl
      rw [← hwf]
      refine bodyPost_ret (v := .agg #[.string x.1, .int .i64 x.2]) (by simp [results, Tryd.results47, go_sem, x1, x2]) rfl ⟨rfl, ?_⟩
      rw [hwf]
      clear x1 x2 zf hwf
      obtain ⟨ho3, K3, F3⟩ := N3.out
      have hlen3 : (T.eraseIdx k).length = n - 1 := by rw [List.length_eraseIdx, ← HX.out.2, if_pos hlt]
      obtain ⟨S', r1, r2⟩ := ref_row RA.out.1 K3 (fun b q => q.elim) (v := .slice sa3 (n - 1) cap3) hlen3 (by rw [List.eraseIdx_eq_take_drop_succ, flat_append]; exact ho3) (fun b q => .inr (F3 b q))
      rw [← HZ.out.1] at r1 r2
      have ks := ((Keep.setCell wz ⟨w.heap.size, 0, none⟩ (.string x.1)).trans (Keep.setCell _ ⟨w.heap.size, 1, none⟩ (.int .i64 x.2)) (fun b q => .inl q))
      have hnS : ∀ b, S' b → ¬ b = w.heap.size := fun b q e => by
        rcases r2.new b q with z | z
        · have := A.out.1.lt b z; omega
        · have := W.out.2.2.2; omega
      exact ⟨S', r1.keep ks hnS, ⟨((W.out.1.mono (T := S) (fun _ q => q.elim)).trans r2.keep (fun b q => .inl q)).trans ks (fun b q => .inr (by rw [show b = w.heap.size from q]; exact Nat.le_refl _)), fun b q => (r2.new b q).imp id (fun z => by have := W.out.2.2.2; omega)⟩⟩
  · have hcap2 : ¬ cap = k + 1 := by omega
    clear hcap
    have R0 : ∀ w2, Keep wa w2 (fun _ => False) → w2.ownsRow 0 85 2 (.slice (some ⟨g, 0, none⟩) n cap) n (flat entV T) := fun w2 K => rows_keep A.out.2.2.1 (W.out.1.trans K (fun _ q => q.elim)) (fun _ _ q => q)
    have R1 : ∀ w2, Keep wa w2 (fun _ => False) → k = 0 ∨ ∃ ad, some (⟨g, 0, none⟩ : Addr) = some ad ∧ ∀ j u, (flat entV (T.take k))[j]? = some u → w2.cell? (ad.add j) = some u := fun w2 K => .inr ⟨_, rfl, rows_read (R0 w2 K) 0 (fun j u hj => by
      rw [Nat.zero_add]
      rw [flat_take entV 2 entV_len] at hj
      exact take_some hj)⟩
    have R2 : (flat entV (T.take k)).length = k * 2 := by rw [flat_len entV 2 entV_len, List.length_take, ← HX.out.2]; omega
    have K0 : Keep wa (World.drew (wa.alloc (.cells #[] 85))) (fun _ => False) := (Keep.alloc wa _ (fun _ => False)).trans (Keep.drew _ (fun _ => False)) (fun _ q => q.elim)
    have E0 : (World.drew (wa.alloc (.cells #[] 85))).ownsRow 0 85 2 (.slice (some ⟨w.heap.size + 1 + 1, 0, none⟩) 0 0) 0 [] := by rw [← W.out.2.2.2]; exact rows_empty (heap_alloc_eq wa _)
    have R3 : (flat entV (T.drop (k + 1))).length = (n - (k + 1)) * 2 := by rw [flat_len entV 2 entV_len, List.length_drop, ← HX.out.2]
    have R4 : ∀ w2, Keep wa w2 (fun _ => False) → n - (k + 1) = 0 ∨ ∃ ad, some (⟨g, (k + 1) * 2, none⟩ : Addr) = some ad ∧ ∀ j u, (flat entV (T.drop (k + 1)))[j]? = some u → w2.cell? (ad.add j) = some u := fun w2 K => .inr ⟨_, rfl, rows_read (R0 w2 K) _ (fun j u hj => by
      rw [flat_drop entV 2 entV_len, List.getElem?_drop] at hj
      exact hj)⟩
    have RR := Lib.hid (And.intro R0 (And.intro R1 (And.intro R2 (And.intro K0 (And.intro E0 (And.intro R3 R4))))))
    clear R0 R1 R2 R3 R4 K0 E0
    go_region_law
      (first
        | (refine step_append_row rfl _ _ _ (by rfl) Tryd.underlying78 PI.out.1 PI.out.2.1 PI.out.2.2.1 PI.out.2.2.2 item_cells (by omega) (by rfl) RR.out.2.2.2.2.1 (flat entV (T.take k)) (by rfl) RR.out.2.2.1 (RR.out.2.1 _ RR.out.2.2.2.1) (ent_one _) (by omega) k (by omega) (flat entV (T.take k)) rfl ?_
           intro sa2 cap2 w2 ho hk hf2
           have B2 := hk.get (RR.out.2.2.2.1.get RA.out.2 (fun q => q)) (fun e => by
             have h5 := RA.out.1.lt _ A.out.2.2.2.2
             have h6 : rb = w.heap.size + 1 + 1 := by simpa [Value.ownBlock] using e
             have hq := W.out.2.2.2
             omega)
           have d0 : w2.cell? ⟨rb, 1, none⟩ = some (.slice (some ⟨g, 0, none⟩) n cap) := by rw [cell_blk B2]; rfl
           have K2 : Keep wa w2 (fun _ => False) := RR.out.2.2.2.1.trans hk (fun b q => .inr (by
             have h6 : b = w.heap.size + 1 + 1 := by simpa [Value.ownBlock] using q
             have hq := W.out.2.2.2
             omega))
           have F2 : ∀ b, (Value.slice sa2 k cap2).ownBlock = some b → wa.heap.size ≤ b := fun b q => by
             rcases hf2 b q with q | q
             · have h6 : w.heap.size + 1 + 1 = b := by simpa [Value.ownBlock] using q
               have hq := W.out.2.2.2
               omega
             · rw [q]; exact RR.out.2.2.2.1.size
           have N := Lib.hid (And.intro ho (And.intro K2 (And.intro F2 B2)))
           clear ho hk hf2 K2 F2 B2)
        | (refine step_append_row rfl _ _ _ (by rfl) Tryd.underlying78 PI.out.1 PI.out.2.1 PI.out.2.2.1 PI.out.2.2.2 item_cells (by omega) (by rfl) N.out.1 (flat entV (T.drop (k + 1))) (by rfl) RR.out.2.2.2.2.2.1 (RR.out.2.2.2.2.2.2 _ N.out.2.1) (ent_one _) (by omega) (n - 1) (by omega) _ rfl ?_
           intro sa3 cap3 w3 ho3 hk3 hf3
           have B3 := hk3.get N.out.2.2.2 (fun e => by
             have h5 := RA.out.1.lt _ A.out.2.2.2.2
             have h6 := N.out.2.2.1 _ e.symm
             omega)
           have d3 : w3.cell? ⟨rb, 1, none⟩ = some (.slice (some ⟨g, 0, none⟩) n cap) := by rw [cell_blk B3]; rfl
           have g3 : w3.frozen? ⟨rb, 1, none⟩ = false := free_blk B3 _
           have K3 : Keep wa w3 (fun _ => False) := N.out.2.1.trans hk3 (fun b q => .inr (N.out.2.2.1 _ q.symm))
           have F3 : ∀ b, (Value.slice sa3 (n - 1) cap3).ownBlock = some b → wa.heap.size ≤ b := fun b q => by
             rcases hf3 b q with q | q
             · exact N.out.2.2.1 _ q
             · rw [q]; exact N.out.2.1.size
           have N3 := Lib.hid (And.intro ho3 (And.intro K3 F3))
           clear ho3 hk3 hf3 K3 F3 B3))
    all_goals
      obtain ⟨wz, hwz⟩ : ∃ wz, wz = w3.setCell ⟨rb, 1, none⟩ (.slice sa3 (n - 1) cap3) := ⟨_, rfl⟩
      rw [← hwz]
      have hne1 : ¬ w.heap.size = rb := fun e => by have := A.out.1.lt _ A.out.2.2.2.2; omega
      have hne2 : ¬ w.heap.size + 1 = rb := fun e => by have := A.out.1.lt _ A.out.2.2.2.2; omega
      have kz : Keep w3 wz (fun b => b = rb) := by rw [hwz]; exact Keep.setCell _ _ _
      have z4 := kz.get (N3.out.2.1.get W.out.2.1 (fun q => q)) hne1
      have z5 := kz.get (N3.out.2.1.get W.out.2.2.1 (fun q => q)) hne2
      have y1 := cell_blk z5 0
      have y2 := cell_blk z5 1
      have y3 := cell_blk z4 0
      have y4 := cell_blk z4 1
      have y5 := free_blk z4 0
      have y6 := free_blk z4 1
      simp only [List.getElem?_toArray, List.getElem?_cons_zero, List.getElem?_cons_succ] at y1 y2 y3 y4
      have HZ := Lib.hid (And.intro hwz z4)
      clear hwz hne1 hne2 kz z4 z5 d3 g3
      go_wp2
      obtain ⟨wf, hwf⟩ : ∃ wf, wf = (wz.setCell ⟨w.heap.size, 0, none⟩ (.string x.1)).setCell ⟨w.heap.size, 1, none⟩ (.int .i64 x.2) := ⟨_, rfl⟩
      have zf : wf.heap[w.heap.size]? = some (.cells #[.string x.1, .int .i64 x.2] 85 (0, 0)) := by
        rw [hwf]
        exact heap_setCell_eq (.int .i64 x.2) (off := 1) (heap_setCell_eq (.string x.1) (off := 0) HZ.out.2)
      have x1 : wf.cell? ⟨w.heap.size, 0, none⟩ = some (.string x.1) := by rw [cell_blk zf]; rfl
      have x2 : wf.cell? ⟨w.heap.size, 1, none⟩ = some (.int .i64 x.2) := by rw [cell_blk zf]; rfl
      rw [← hwf]
      refine bodyPost_ret (v := .agg #[.string x.1, .int .i64 x.2]) (by simp [results, Tryd.results47, go_sem, x1, x2]) rfl ⟨rfl, ?_⟩
      rw [hwf]
      clear x1 x2 zf hwf
      obtain ⟨ho3, K3, F3⟩ := N3.out
      have hlen3 : (T.eraseIdx k).length = n - 1 := by rw [List.length_eraseIdx, ← HX.out.2, if_pos hlt]
      obtain ⟨S', r1, r2⟩ := ref_row RA.out.1 K3 (fun b q => q.elim) (v := .slice sa3 (n - 1) cap3) hlen3 (by rw [List.eraseIdx_eq_take_drop_succ, flat_append]; exact ho3) (fun b q => .inr (F3 b q))
      rw [← HZ.out.1] at r1 r2
      have ks := ((Keep.setCell wz ⟨w.heap.size, 0, none⟩ (.string x.1)).trans (Keep.setCell _ ⟨w.heap.size, 1, none⟩ (.int .i64 x.2)) (fun b q => .inl q))
      have hnS : ∀ b, S' b → ¬ b = w.heap.size := fun b q e => by
        rcases r2.new b q with z | z
        · have := A.out.1.lt b z; omega
        · have := W.out.2.2.2; omega
      exact ⟨S', r1.keep ks hnS, ⟨((W.out.1.mono (T := S) (fun _ q => q.elim)).trans r2.keep (fun b q => .inl q)).trans ks (fun b q => .inr (by rw [show b = w.heap.size from q]; exact Nat.le_refl _)), fun b q => (r2.new b q).imp id (fun z => by have := W.out.2.2.2; omega)⟩⟩

theorem rdrop_c {w : World} {rb : Nat} {S : Nat → Prop} {most : Int} {T : List Pair} (h : RefL w rb S most T) (hl : T.length ≤ 100000) (key : ByteArray) :
    Calls Tryd.prog 35 #[.pointer (some ⟨rb, 0, none⟩), .string key] w fun r w' => r = .returned (.bool (aget T key).isSome) ∧ ∃ S', RefL w' rb S' most (adel T key) ∧ Turn w S w' S' := by
  have hf := rfind_c h (by omega) key
  cases hg : aget T key with
  | none =>
    rw [idx_none hg] at hf
    have H := Lib.hid (And.intro h (adel_none hg))
    clear hg h
    go_enter Tryd.func35, Tryd.ntmps35
    go_wp2_with (
      go_at_call 46
      refine hf.mono ?_
      rintro e w2 ⟨rfl, rfl⟩
      clear hf)
    go_ret
    exact ⟨rfl, S, by rw [H.out.2]; exact H.out.1, Turn.refl _ _⟩
  | some p =>
    obtain ⟨k, h1, h2, h3, h4⟩ := idx_some hg
    rw [h1] at hf
    have ho := out_c h hl h2
    have H4 := Lib.hid h4
    clear hg h1 h2 h4 h
    have hge : ¬ (k : Int) < 0 := by omega
    go_enter Tryd.func35, Tryd.ntmps35
    go_wp2_with (first
      | (go_at_call 46
         refine hf.mono ?_
         rintro e w2 ⟨rfl, rfl⟩
         clear hf)
      | (go_at_call 47
         refine ho.mono ?_
         rintro e w3 ⟨rfl, S3, hL3, hT3⟩
         have N3 := Lib.hid (And.intro hL3 hT3)
         clear ho hL3 hT3))
    go_ret
    exact ⟨rfl, S3, by rw [← H4.out]; exact N3.out.1, N3.out.2⟩

end Go.Proofs.YtjicoebcmfnooaaDoor
