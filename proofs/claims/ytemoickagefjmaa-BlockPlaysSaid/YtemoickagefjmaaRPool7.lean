/-
  The document's pool: Cut.
-/
import Derived.Test.YtemoickagefjmaaRPool6
namespace Go.Proofs.Ytemoickagefjmaa
open Go Go.RowKit
set_option linter.unusedSectionVars false
set_option linter.unusedSimpArgs false
set_option linter.unusedVariables false
set_option maxRecDepth 100000
attribute [local go_sem] Oper.semAt_some

set_option maxHeartbeats 4000000 in
theorem rcut_c {w : World} {rb : Nat} {S : Nat → Prop} {n : Int} {V : PoolV} (h : RPoolAt w rb S n V) (hm : V.made ≤ 1000000) (f size : Int) :
    Calls Try.prog 23 #[.pointer (some ⟨rb, 0, none⟩), .int .i64 f, .int .i64 size] w fun r w' => r = .returned (.int .i64 (V.cut f size).2) ∧ ∃ S', RPoolAt w' rb S' n (V.cut f size).1 ∧ Turn w S w' S' := by
  obtain ⟨v, xa, fs, h1, h2, h3, h4, h5, h6, h7⟩ := h.ex
  have ho := rof_c h1 h2 h.ok hm f
  have hoc := h.ok.cut f size
  unfold PoolV.cut at hoc ⊢
  cases hg : aget V.files f with
  | none =>
    rw [slot_none hg] at ho
    have H := Lib.hid h
    clear h h1 h2 h3 h4 h5 h6 h7 hg hm hoc
    go_enter Try.func23, Try.ntmps23
    go_wp2_with (
      go_at_call 51
      refine ho.mono ?_
      rintro e w2 ⟨rfl, hw⟩
      subst hw
      clear ho)
    go_ret
    exact ⟨rfl, S, H.out, Turn.refl _ _⟩
  | some F =>
    rw [slot_some hg] at ho
    rw [hg] at hoc
    dsimp only at hoc ⊢
    by_cases g1 : size < 0
    · rw [if_pos g1]
      have H := Lib.hid h
      clear h h1 h2 h3 h4 h5 h6 h7 hg hm hoc
      go_enter Try.func23, Try.ntmps23
      go_wp2_with (
        go_at_call 51
        refine ho.mono ?_
        rintro e w2 ⟨rfl, hw⟩
        subst hw
        clear ho)
      go_ret
      exact ⟨rfl, S, H.out, Turn.refl _ _⟩
    · by_cases g2 : 1024 < size
      · rw [if_neg g1, if_pos g2]
        have H := Lib.hid h
        clear h h1 h2 h3 h4 h5 h6 h7 hg hm hoc
        go_enter Try.func23, Try.ntmps23
        go_wp2_with (
          go_at_call 51
          refine ho.mono ?_
          rintro e w2 ⟨rfl, hw⟩
          subst hw
          clear ho)
        go_ret
        exact ⟨rfl, S, H.out, Turn.refl _ _⟩
      · rw [if_neg g1, if_neg g2] at hoc ⊢
        have hF := h5 _ (aget_mem hg)
        obtain ⟨v0, hx0⟩ := RFlux.start hF
        have hok := hF.ok
        have hzr := hF.zero
        have hflt := hF.lt
        simp only at hx0 hok hzr hflt
        obtain ⟨s, hs⟩ : ∃ s : Nat, s = F.size.toNat := ⟨_, rfl⟩
        have hss : F.size = s := by have := hok.1; omega
        have hs24 : s ≤ 1024 := by have := hok.2.1; omega
        rw [← hs] at hx0
        obtain ⟨z, rfl⟩ : ∃ z : Nat, size = z := ⟨size.toNat, by omega⟩
        have H := Lib.hid (And.intro h (And.intro h1 (And.intro h2 (And.intro h3 (And.intro h4 (And.intro h5 (And.intro h6 h7)))))))
        have HF := Lib.hid (And.intro hok (And.intro hzr (And.intro hflt (And.intro hss (And.intro hg hoc)))))
        have X0 := Lib.hid hx0
        obtain ⟨bi, bi1, bi2, bi3, bi4⟩ := by_info
        have BI := Lib.hid (And.intro bi1 (And.intro bi2 (And.intro bi3 bi4)))
        have hz24 : z ≤ 1024 := by omega
        obtain ⟨xb, hxb⟩ : ∃ xb, xb = xa f := ⟨_, rfl⟩
        rw [← hxb] at ho X0
        have HXB := Lib.hid hxb
        obtain ⟨fx, hfx⟩ : ∃ fx, fx = fs f := ⟨_, rfl⟩
        rw [← hfx] at X0
        have HFX := Lib.hid hfx
        have HFIN := Lib.hid (show ∀ (wr : World) (v' : Value) (K : List Int), RFlux w fx xb wr v' K z F.byte → (∀ j : Nat, j < 64 → ((j : Int) ∈ K ↔ (j : Int) ∈ F.keys ∧ (j : Int) * 16 < z)) → ∃ S', RPoolAt wr rb S' n { V with left := V.left + (F.keys.length - (F.cut z).keys.length), files := aset V.files f (F.cut z) } ∧ Turn w S wr S' from by
          intro wr v' K hX hK
          obtain ⟨G, q1, q2⟩ := hX.fin (by rw [hfx]; exact hflt) (FileV.cut_ok hok (by omega) (by omega)) (cut_zero F z) rfl (fun i hi => by
            show F.byte i = if (i : Int) < (z : Int) then F.byte i else 0
            rw [if_pos (by omega)]) (fun i hi => by
            rw [hK i hi]
            unfold FileV.cut
            simp only [List.mem_filter, decide_eq_true_eq])
          rw [hxb] at q1
          exact rpool_file h hg h1 h2 h3 h4 h5 h6 h7 hX.keep (fun b q => by rw [← hfx]; exact q) q1 (fun b q => by rw [← hfx]; exact q2 b q) hoc)
        clear h h1 h2 h3 h4 h5 h6 h7 hg hm hoc hF hx0 hok hzr hflt hs hss bi1 bi2 bi3 bi4 hxb hfx g2
        go_enter Try.func23, Try.ntmps23
        go_wp2_with (
          go_at_call 51
          refine ho.mono ?_
          rintro e w2 ⟨rfl, hw⟩
          subst hw
          clear ho)
        go_loopg [] (z - s) (fun g wr => ∃ (m : Nat) (v : Value), s ≤ m ∧ m + g = max s z ∧ RFlux w2 fx xb wr v F.keys m F.byte)
        case atStart => exact ⟨s, v0, Nat.le_refl _, by omega, X0.out⟩
        case round =>
          obtain ⟨m, v, hsm, hmg, hX⟩ := hrel
          obtain ⟨wo, hwo⟩ : ∃ wo, wo = wr := ⟨_, rfl⟩
          subst hwo
          obtain ⟨sa, cap, hv, hcap⟩ := rows_val2 hX.row
          subst hv
          have X := Lib.hid hX
          have d0 : wo.cell? ⟨xb, 0, none⟩ = some (.slice sa m cap) := by rw [cell_blk hX.blk]; rfl
          have hgr := Lib.hid (show rowL m F.byte ++ [.int .u8 0] = rowL (m + 1) F.byte from rowL_grow HF.out.2.1 (by rw [HF.out.2.2.2.1]; omega))
          clear hX
          by_cases hl : m < z
          · have hl' : (m : Int) < (z : Int) := by omega
            have hm24 : m ≤ 1024 := by omega
            go_wp2_with (
              at_builtin
              refine law_append_row rfl _ _ _ rfl Try.underlying30 BI.out.1 BI.out.2.1 BI.out.2.2.1 BI.out.2.2.2 by_cells (by decide) rfl (rows_keep X.out.row (Keep.alloc wo _ (fun _ => False)) (fun _ _ q => q)) [.int .u8 0] rfl rfl (.inr ⟨_, rfl, cells_new wo [.int .u8 0] _⟩) (fun u hu => by rw [List.mem_singleton.1 hu]; rfl) (by omega) ?_
              intro sa8 cap8 w8 r1 r2 r3
              have ka := Keep.alloc wo (.cells #[.int .u8 0] 5) (fun _ => False)
              have k8 : Keep wo w8 (fun b => (Value.slice sa m cap).ownBlock = some b) := (ka.mono (T := fun b => (Value.slice sa m cap).ownBlock = some b) (fun _ q => q.elim)).trans r2 (fun b q => .inl q.symm)
              have f8 : ∀ b, (Value.slice sa8 (m + 1) cap8).ownBlock = some b → (Value.slice sa m cap).ownBlock = some b ∨ wo.heap.size ≤ b := fun b q => (r3 b q).imp id (fun z => by rw [z]; exact ka.size)
              have B8 := k8.get X.out.blk (fun q => (X.out.own _ q).2 rfl)
              have d1 : w8.cell? ⟨xb, 0, none⟩ = some (.slice sa m cap) := by rw [cell_blk B8]; rfl
              have g0 : w8.frozen? ⟨xb, 0, none⟩ = false := free_blk B8 _
              have N8 := Lib.hid (And.intro r1 (And.intro k8 f8))
              clear r1 r2 r3 ka k8 f8 B8)
            go_roundg (max s z - (m + 1))
            case measure => omega
            case rel => exact ⟨m + 1, .slice sa8 (m + 1) cap8, by omega, by omega, X.out.turn N8.out.2.1 (by rw [← hgr.out]; exact N8.out.1) N8.out.2.2⟩
          · have hl' : ¬ (m : Int) < (z : Int) := by omega
            have hzm : z ≤ m := by omega
            have hrd : (z = 0 ∧ sa = none) ∨ ∃ g, sa = some ⟨g, 0, none⟩ := by
              rcases rows_val X.out.row with ⟨e, e2⟩ | ⟨g, cp, e, _⟩
              · cases e; exact .inl ⟨by omega, rfl⟩
              · cases e; exact .inr ⟨g, rfl⟩
            have hread : z = 0 ∨ ∃ ad, sa = some ad ∧ ∀ j u, (rowL z F.byte)[j]? = some u → (wo.alloc (.cells #[] 5)).cell? (ad.add j) = some u := by
              rcases hrd with ⟨e, _⟩ | ⟨g, rfl⟩
              · exact .inl e
              · refine .inr ⟨_, rfl, rows_read (rows_keep X.out.row (Keep.alloc wo _ (fun _ => False)) (fun _ _ q => q)) 0 (fun j u hj => ?_)⟩
                rw [Nat.zero_add]
                have hj2 : j < z := by
                  have := (List.getElem?_eq_some_iff.1 hj).1
                  rwa [rowL_len] at this
                rw [rowL_get _ hj2] at hj
                rw [rowL_get _ (show j < m by omega)]
                exact hj
            have HE := Lib.hid (And.intro (rows_empty (sz := 1) (heap_alloc_eq wo (.cells #[] 5))) (And.intro hread (show ∀ u ∈ rowL z F.byte, oneC u = true from fun u hu => by
              unfold rowL at hu
              obtain ⟨i, _, rfl⟩ := List.mem_map.1 hu
              rfl)))
            have hone : ∀ u ∈ rowL z F.byte, u.oneCell' = true := fun u hu => by
              unfold rowL at hu
              obtain ⟨i, _, rfl⟩ := List.mem_map.1 hu
              rfl
            have HO := Lib.hid hone
            have ka := Keep.alloc wo (.cells #[] 5) (fun _ => False)
            have HKA := Lib.hid ka
            have d9 := ka.cell d0 (fun q => q)
            have dBa := ka.get X.out.blk (fun q => q)
            have HBA := Lib.hid dBa
            clear dBa
            have g3 : (z : Int) ≤ (m : Int) := by omega
            have g4 : (z : Int) ≤ (cap : Int) := by omega
            clear hread hone ka hgr
            rcases rows_val X.out.row with ⟨e, e2⟩ | ⟨g, cp, e, _⟩
            · cases e
              have hz0 : z = 0 := by omega
              subst hz0
              clear hzm hl hl' g3 g4 hrd hsm
              go_upto_region 11 with (
                at_builtin
                (refine law_append_row rfl _ _ _ rfl Try.underlying30 BI.out.1 BI.out.2.1 BI.out.2.2.1 BI.out.2.2.2 by_cells (by decide) rfl HE.out.1 (rowL 0 F.byte) rfl (by rw [rowL_len, Nat.mul_one]) HE.out.2.1 HO.out (by omega) ?_)
                intro sa8 cap8 w8 r1 r2 r3
                simp only [Nat.zero_add, List.nil_append] at r1 r3 ⊢
                have B8 := r2.get HBA.out (fun e => by
                  have e' : some xb = (Value.slice (some ⟨wo.heap.size, 0, none⟩) 0 0).ownBlock := e
                  have h6 : xb = wo.heap.size := by simpa [Value.ownBlock] using e'
                  have := lt_of_blk X.out.blk
                  omega)
                have d1 : w8.cell? ⟨xb, 0, none⟩ = some (.slice none 0 0) := by rw [cell_blk B8]; rfl
                have g0 : w8.frozen? ⟨xb, 0, none⟩ = false := free_blk B8 _
                have N8 := Lib.hid (And.intro r1 (And.intro r2 r3))
                clear r1 r2 r3 B8)
              obtain ⟨wz, hwz⟩ : ∃ wz, wz = w8.setCell ⟨xb, 0, none⟩ (.slice sa8 0 cap8) := ⟨_, rfl⟩
              rw [← hwz]
              have hX2 : RFlux w2 fx xb wz (.slice sa8 0 cap8) F.keys 0 F.byte := by
                rw [hwz]
                refine X.out.turn ((HKA.out.mono (fun _ q => q.elim)).trans N8.out.2.1 (fun b q => .inr ?_)) N8.out.1 (fun b q => ?_)
                · have e' : some b = (Value.slice (some ⟨wo.heap.size, 0, none⟩) 0 0).ownBlock := q
                  have h6 : b = wo.heap.size := by simpa [Value.ownBlock] using e'
                  omega
                · rcases N8.out.2.2 b q with q | q
                  · have e' : some b = (Value.slice (some ⟨wo.heap.size, 0, none⟩) 0 0).ownBlock := q.symm
                    have h6 : b = wo.heap.size := by simpa [Value.ownBlock] using e'
                    exact .inr (by omega)
                  · rw [q]; exact .inr HKA.out.size
              have X2 := Lib.hid hX2
              clear hwz hX2 d0 d1 d9 g0
              go_wp2
              go_loopg [8] 64 (fun g s8 wr => ∃ (i : Nat) (K : List Int), s8 = .int .i64 i ∧ i + g = 64 ∧ RFlux w2 fx xb wr (.slice sa8 0 cap8) K 0 F.byte ∧ ∀ j : Nat, j < 64 → ((j : Int) ∈ K ↔ (j : Int) ∈ F.keys ∧ (j < i → (j : Int) * 16 < ((0 : Nat) : Int))))
              case atStart => exact ⟨0, F.keys, rfl, by omega, X2.out, fun j _ => ⟨fun q => ⟨q, fun z => by omega⟩, fun q => q.1⟩⟩
              case round =>
                obtain ⟨i, K, rfl, hi, hX3, hK3⟩ := hrel
                obtain ⟨wp, hwp⟩ : ∃ wp, wp = wr := ⟨_, rfl⟩
                subst hwp
                have X3 := Lib.hid (And.intro hX3 hK3)
                by_cases hl3 : i < 64
                · have hl4 : (i : Int) < 64 := by omega
                  have c5 : wp.cell? ⟨xb, 1 + i, none⟩ = some (.bool (decide ((i : Int) ∈ K))) := by
                    rw [cell_blk hX3.blk, Nat.add_comm]
                    simpa using hasL_get K hl3
                  have c6 : wp.frozen? ⟨xb, 1 + i, none⟩ = false := free_blk hX3.blk _
                  obtain ⟨bo, hbo⟩ : ∃ bo, bo = decide ((i : Int) ∈ K) := ⟨_, rfl⟩
                  rw [← hbo] at c5
                  clear hX3 hK3 hbo
                  by_cases hz : ((0 : Nat) : Int) ≤ (i : Int) * 16
                  · have HZ := Lib.hid hz
                    simp only [Int.natCast_zero, Int.ofNat_zero] at hz
                    go_wp2
                    go_roundg (64 - (i + 1))
                    case measure => omega
                    case rel =>
                      refine ⟨i + 1, K.filter (fun k => decide (k ≠ (i : Int))), by go_num, by omega, X3.out.1.has i hl3 false (by simp) (fun j hj hne => ?_), fun j hj => ?_⟩
                      · simp only [List.mem_filter, decide_eq_true_eq]
                        exact ⟨fun q => ⟨q, by omega⟩, fun q => q.1⟩
                      · have hz9 := HZ.out
                        simp only [List.mem_filter, decide_eq_true_eq]
                        rw [X3.out.2 j hj]
                        constructor
                        · rintro ⟨⟨q1, q2⟩, q3⟩
                          exact ⟨q1, fun q4 => q2 (by omega)⟩
                        · rintro ⟨q1, q2⟩
                          refine ⟨⟨q1, fun q4 => q2 (by omega)⟩, fun e => ?_⟩
                          have := q2 (by omega)
                          omega
                  · have HZ := Lib.hid hz
                    simp only [Int.natCast_zero, Int.ofNat_zero] at hz
                    go_wp2
                    go_roundg (64 - (i + 1))
                    case measure => omega
                    case rel =>
                      refine ⟨i + 1, K, by go_num, by omega, X3.out.1, fun j hj => ?_⟩
                      have hz9 := HZ.out
                      rw [X3.out.2 j hj]
                      constructor
                      · rintro ⟨q1, q2⟩
                        refine ⟨q1, fun q4 => ?_⟩
                        by_cases e : j < i
                        · exact q2 e
                        · omega
                      · rintro ⟨q1, q2⟩
                        exact ⟨q1, fun q4 => q2 (by omega)⟩
                · have hl4 : ¬ (i : Int) < 64 := by omega
                  clear hX3 hK3
                  go_wp2
                  go_ret
                  refine ⟨rfl, HFIN.out wp _ K X3.out.1 (fun j hj => ?_)⟩
                  rw [X3.out.2 j hj]
                  exact ⟨fun q => ⟨q.1, q.2 (by omega)⟩, fun q => ⟨q.1, fun _ => q.2⟩⟩
            · obtain rfl : sa = some ⟨g, 0, none⟩ := by cases e; rfl
              clear hrd e
              go_upto_region 11 with (
                at_builtin
                (refine law_append_row rfl _ _ _ rfl Try.underlying30 BI.out.1 BI.out.2.1 BI.out.2.2.1 BI.out.2.2.2 by_cells (by decide) rfl HE.out.1 (rowL z F.byte) rfl (by rw [rowL_len, Nat.mul_one]) HE.out.2.1 HO.out (by omega) ?_)
                intro sa8 cap8 w8 r1 r2 r3
                simp only [Nat.zero_add, List.nil_append] at r1 r3 ⊢
                have B8 := r2.get HBA.out (fun e => by
                  have e' : some xb = (Value.slice (some ⟨wo.heap.size, 0, none⟩) 0 0).ownBlock := e
                  have h6 : xb = wo.heap.size := by simpa [Value.ownBlock] using e'
                  have := lt_of_blk X.out.blk
                  omega)
                have d1 : w8.cell? ⟨xb, 0, none⟩ = some (.slice (some ⟨g, 0, none⟩) m cap) := by rw [cell_blk B8]; rfl
                have g0 : w8.frozen? ⟨xb, 0, none⟩ = false := free_blk B8 _
                have N8 := Lib.hid (And.intro r1 (And.intro r2 r3))
                clear r1 r2 r3 B8)
              obtain ⟨wz, hwz⟩ : ∃ wz, wz = w8.setCell ⟨xb, 0, none⟩ (.slice sa8 z cap8) := ⟨_, rfl⟩
              rw [← hwz]
              have hX2 : RFlux w2 fx xb wz (.slice sa8 z cap8) F.keys z F.byte := by
                rw [hwz]
                refine X.out.turn ((HKA.out.mono (fun _ q => q.elim)).trans N8.out.2.1 (fun b q => .inr ?_)) N8.out.1 (fun b q => ?_)
                · have e' : some b = (Value.slice (some ⟨wo.heap.size, 0, none⟩) 0 0).ownBlock := q
                  have h6 : b = wo.heap.size := by simpa [Value.ownBlock] using e'
                  omega
                · rcases N8.out.2.2 b q with q | q
                  · have e' : some b = (Value.slice (some ⟨wo.heap.size, 0, none⟩) 0 0).ownBlock := q.symm
                    have h6 : b = wo.heap.size := by simpa [Value.ownBlock] using e'
                    exact .inr (by omega)
                  · rw [q]; exact .inr HKA.out.size
              have X2 := Lib.hid hX2
              clear hwz hX2 d0 d1 d9 g0
              go_wp2
              go_loopg [8] 64 (fun g s8 wr => ∃ (i : Nat) (K : List Int), s8 = .int .i64 i ∧ i + g = 64 ∧ RFlux w2 fx xb wr (.slice sa8 z cap8) K z F.byte ∧ ∀ j : Nat, j < 64 → ((j : Int) ∈ K ↔ (j : Int) ∈ F.keys ∧ (j < i → (j : Int) * 16 < ((z : Nat) : Int))))
              case atStart => exact ⟨0, F.keys, rfl, by omega, X2.out, fun j _ => ⟨fun q => ⟨q, fun z => by omega⟩, fun q => q.1⟩⟩
              case round =>
                obtain ⟨i, K, rfl, hi, hX3, hK3⟩ := hrel
                obtain ⟨wp, hwp⟩ : ∃ wp, wp = wr := ⟨_, rfl⟩
                subst hwp
                have X3 := Lib.hid (And.intro hX3 hK3)
                by_cases hl3 : i < 64
                · have hl4 : (i : Int) < 64 := by omega
                  have c5 : wp.cell? ⟨xb, 1 + i, none⟩ = some (.bool (decide ((i : Int) ∈ K))) := by
                    rw [cell_blk hX3.blk, Nat.add_comm]
                    simpa using hasL_get K hl3
                  have c6 : wp.frozen? ⟨xb, 1 + i, none⟩ = false := free_blk hX3.blk _
                  obtain ⟨bo, hbo⟩ : ∃ bo, bo = decide ((i : Int) ∈ K) := ⟨_, rfl⟩
                  rw [← hbo] at c5
                  clear hX3 hK3 hbo
                  by_cases hz : ((z : Nat) : Int) ≤ (i : Int) * 16
                  · have HZ := Lib.hid hz
                    go_wp2
                    go_roundg (64 - (i + 1))
                    case measure => omega
                    case rel =>
                      refine ⟨i + 1, K.filter (fun k => decide (k ≠ (i : Int))), by go_num, by omega, X3.out.1.has i hl3 false (by simp) (fun j hj hne => ?_), fun j hj => ?_⟩
                      · simp only [List.mem_filter, decide_eq_true_eq]
                        exact ⟨fun q => ⟨q, by omega⟩, fun q => q.1⟩
                      · have hz9 := HZ.out
                        simp only [List.mem_filter, decide_eq_true_eq]
                        rw [X3.out.2 j hj]
                        constructor
                        · rintro ⟨⟨q1, q2⟩, q3⟩
                          exact ⟨q1, fun q4 => q2 (by omega)⟩
                        · rintro ⟨q1, q2⟩
                          refine ⟨⟨q1, fun q4 => q2 (by omega)⟩, fun e => ?_⟩
                          have := q2 (by omega)
                          omega
                  · have HZ := Lib.hid hz
                    go_wp2
                    go_roundg (64 - (i + 1))
                    case measure => omega
                    case rel =>
                      refine ⟨i + 1, K, by go_num, by omega, X3.out.1, fun j hj => ?_⟩
                      have hz9 := HZ.out
                      rw [X3.out.2 j hj]
                      constructor
                      · rintro ⟨q1, q2⟩
                        refine ⟨q1, fun q4 => ?_⟩
                        by_cases e : j < i
                        · exact q2 e
                        · omega
                      · rintro ⟨q1, q2⟩
                        exact ⟨q1, fun q4 => q2 (by omega)⟩
                · have hl4 : ¬ (i : Int) < 64 := by omega
                  clear hX3 hK3
                  go_wp2
                  go_ret
                  refine ⟨rfl, HFIN.out wp _ K X3.out.1 (fun j hj => ?_)⟩
                  rw [X3.out.2 j hj]
                  exact ⟨fun q => ⟨q.1, q.2 (by omega)⟩, fun q => ⟨q.1, fun _ => q.2⟩⟩

end Go.Proofs.Ytemoickagefjmaa
