/-
  The document's pool: Write.
-/
import Derived.Test.YtemoickagefjmaaRPool7
namespace Go.Proofs.Ytemoickagefjmaa
open Go Go.RowKit
set_option linter.unusedSectionVars false
set_option linter.unusedSimpArgs false
set_option linter.unusedVariables false
set_option maxRecDepth 100000
attribute [local go_sem] Oper.semAt_some

set_option maxHeartbeats 4000000 in
theorem rwrite_c {w : World} {rb : Nat} {S : Nat → Prop} {n : Int} {V : PoolV} (h : RPoolAt w rb S n V) (hm : V.made ≤ 1000000) (f p : Int) {vb : Value} {l : List Int} (hb : BytesIn w vb l S) (hlen : l.length ≤ maxLen) :
    Calls Try.prog 20 #[.pointer (some ⟨rb, 0, none⟩), .int .i64 f, .int .i64 p, vb] w fun r w' => r = .returned (.int .i64 (V.write f p l).2) ∧ ∃ S', RPoolAt w' rb S' n (V.write f p l).1 ∧ Turn w S w' S' := by
  obtain ⟨v, xa, fs, h1, h2, h3, h4, h5, h6, h7⟩ := h.ex
  have ho := rof_c h1 h2 h.ok hm f
  have hoc := h.ok.write f p (fun c hc => hb.1 c hc)
  have hle := rLeft_c h hm
  have HB := Lib.hid hb
  obtain ⟨hb1, ba, bcap, rfl, hb3⟩ := hb
  unfold maxLen at hlen
  unfold PoolV.write at hoc ⊢
  have H := Lib.hid h
  cases hg : aget V.files f with
  | none =>
    rw [slot_none hg] at ho
    clear h h1 h2 h3 h4 h5 h6 h7 hg hm hoc hb1 hb3 hle
    go_enter Try.func20, Try.ntmps20
    go_wp2_with (
      go_at_call 51
      refine ho.mono ?_
      rintro e w2 ⟨rfl, hw⟩
      subst hw
      clear ho)
    go_ret
    exact ⟨rfl, S, H.out, Turn.refl _ _⟩
  | some F =>
    rw [slot_some hg] at ho
    rw [hg] at hoc
    dsimp only at hoc ⊢
    by_cases g1 : p < 0
    · rw [if_pos g1]
      clear h h1 h2 h3 h4 h5 h6 h7 hg hm hoc hb1 hb3 hle
      go_enter Try.func20, Try.ntmps20
      go_wp2_with (
        go_at_call 51
        refine ho.mono ?_
        rintro e w2 ⟨rfl, hw⟩
        subst hw
        clear ho)
      go_ret
      exact ⟨rfl, S, H.out, Turn.refl _ _⟩
    · rw [if_neg g1] at hoc ⊢
      by_cases g2 : l = []
      · rw [if_pos g2]
        subst g2
        clear h h1 h2 h3 h4 h5 h6 h7 hg hm hoc hb1 hb3 hle
        have g3 : (([] : List Int).length : Int) = 0 := rfl
        go_enter Try.func20, Try.ntmps20
        go_wp2_with (
          go_at_call 51
          refine ho.mono ?_
          rintro e w2 ⟨rfl, hw⟩
          subst hw
          clear ho)
        go_ret
        exact ⟨rfl, S, H.out, Turn.refl _ _⟩
      · rw [if_neg g2] at hoc ⊢
        obtain ⟨L, hL⟩ : ∃ L, L = l.length := ⟨_, rfl⟩
        have hL1 : 1 ≤ L := by
          rw [hL]
          cases l with
          | nil => exact absurd rfl g2
          | cons a r => simp
        rw [← hL] at hoc hlen ⊢
        have hl0 : ¬ (L : Int) = 0 := by omega
        by_cases g3 : 1024 < L ∨ 1024 - (L : Int) < p
        · rw [if_pos g3]
          have g4 : 1024 < p ∨ (¬ 1024 < p ∧ 1024 - p < (L : Int)) := by omega
          clear h h1 h2 h3 h4 h5 h6 h7 hg hm hoc hb1 hb3 hle g3 g2 hL
          rcases g4 with g4 | ⟨g4, g5⟩
          all_goals
            go_enter Try.func20, Try.ntmps20
            go_wp2_with (
              go_at_call 51
              refine ho.mono ?_
              rintro e w2 ⟨rfl, hw⟩
              subst hw
              clear ho)
            go_ret
            exact ⟨rfl, S, H.out, Turn.refl _ _⟩
        · rw [if_neg g3] at hoc ⊢
          obtain ⟨q, rfl⟩ : ∃ q : Nat, p = q := ⟨p.toNat, by omega⟩
          have g4 : ¬ 1024 < (q : Int) := by omega
          have g5 : ¬ 1024 - (q : Int) < (L : Int) := by omega
          have hqL : q + L ≤ 1024 := by omega
          have hF := h5 _ (aget_mem hg)
          obtain ⟨v0, hx0⟩ := RFlux.start hF
          have hok := hF.ok
          have hzr := hF.zero
          have hflt := hF.lt
          simp only at hx0 hok hzr hflt
          obtain ⟨s, hs⟩ : ∃ s : Nat, s = F.size.toNat := ⟨_, rfl⟩
          have hss : F.size = s := by have := hok.1; omega
          have hs24 : s ≤ 1024 := by have := hok.2.1; omega
          rw [← hs] at hx0
          obtain ⟨xb, hxb⟩ : ∃ xb, xb = xa f := ⟨_, rfl⟩
          rw [← hxb] at ho hx0
          have HXB := Lib.hid hxb
          have cells : ∀ i : Nat, i < 64 → w.cell? ⟨xb, 1 + i, none⟩ = some (.bool (decide ((i : Int) ∈ F.keys))) := fun i hi => by
            rw [cell_blk hx0.blk, Nat.add_comm]
            simpa using hasL_get F.keys hi
          have HCL := Lib.hid cells
          obtain ⟨lk, hlk⟩ : ∃ lk : Nat, lk = cnt F ((q : Int) / 16) (((q : Int) + L - 1) / 16 + 1 - (q : Int) / 16).toNat := ⟨_, rfl⟩
          have hlacks : F.lacks q (q + L) = lk := by rw [hlk]; rfl
          rw [hlacks] at hoc ⊢
          by_cases g6 : V.left < (lk : Int)
          · rw [if_pos g6]
            have HLK := Lib.hid hlk
            have HP := Lib.hid (And.intro h (And.intro h1 (And.intro h2 (And.intro h3 (And.intro h4 (And.intro h5 (And.intro h6 h7)))))))
            have HF := Lib.hid (And.intro hok (And.intro hzr (And.intro hflt (And.intro hss (And.intro hg (And.intro hoc (And.intro hx0 hL)))))))
            have hlf0 := h.ok.left
            obtain ⟨bi, bi1, bi2, bi3, bi4⟩ := by_info
            have BI := Lib.hid (And.intro bi1 (And.intro bi2 (And.intro bi3 bi4)))
            clear h h1 h2 h3 h4 h5 h6 h7 hg hm hF hx0 hok hzr hflt hs hss hb1 hb3 cells hlk hlacks g3 g2 hL hxb bi1 bi2 bi3 bi4 hoc
            go_enter Try.func20, Try.ntmps20
            go_wp2_with (
              go_at_call 51
              refine ho.mono ?_
              rintro e w2 ⟨rfl, hw⟩
              subst hw
              clear ho)
            go_loopg [10, 11] ((q + L - 1) / 16 + 1 - q / 16) (fun g s10 s11 wr => ∃ k : Nat, s11 = .int .i64 k ∧ k + g = (q + L - 1) / 16 + 1 ∧ q / 16 ≤ k ∧ s10 = .int .i64 (cnt F ((q : Int) / 16) (k - q / 16)) ∧ wr = w2)
            case atStart => exact ⟨q / 16, by congr 1, by omega, Nat.le_refl _, by rw [Nat.sub_self]; rfl, rfl⟩
            case round =>
              obtain ⟨k, rfl, hk, hqk, rfl, rfl⟩ := hrel
              have hc := cnt_le F ((q : Int) / 16) (k - q / 16)
              by_cases hl : k ≤ (q + L - 1) / 16
              · have hl1 : (k : Int) ≤ ((q : Int) + (L : Int) - 1) / 16 := by omega
                have c5 := HCL.out k (by omega)
                have hs := cnt_succ F ((q : Int) / 16) (k - q / 16)
                rw [show (q : Int) / 16 + ((k - q / 16 : Nat) : Int) = k by omega, show k - q / 16 + 1 = k + 1 - q / 16 by omega] at hs
                obtain ⟨cc, hcc⟩ : ∃ cc, cc = cnt F ((q : Int) / 16) (k - q / 16) := ⟨_, rfl⟩
                rw [← hcc] at hc hs ⊢
                clear hcc
                by_cases hm : (k : Int) ∈ F.keys
                · rw [if_pos hm] at hs
                  have e1 : decide ((k : Int) ∈ F.keys) = true := by simpa using hm
                  rw [e1] at c5
                  have HS := Lib.hid hs
                  clear hs hm e1
                  go_wp2
                  go_roundg ((q + L - 1) / 16 + 1 - (k + 1))
                  case measure => omega
                  case rel => exact ⟨k + 1, by go_num, by omega, by omega, by rw [HS.out]; rfl, rfl⟩
                · rw [if_neg hm] at hs
                  have e1 : decide ((k : Int) ∈ F.keys) = false := by simpa using hm
                  rw [e1] at c5
                  have HS := Lib.hid hs
                  clear hs hm e1
                  go_wp2
                  go_roundg ((q + L - 1) / 16 + 1 - (k + 1))
                  case measure => omega
                  case rel => exact ⟨k + 1, by go_num, by omega, by omega, by rw [HS.out]; go_num, rfl⟩
              · have hl1 : ¬ (k : Int) ≤ ((q : Int) + (L : Int) - 1) / 16 := by omega
                have hkk : cnt F ((q : Int) / 16) (k - q / 16) = lk := by rw [HLK.out]; congr 1; omega
                rw [hkk]
                clear hc hkk
                go_wp2_with (
                  go_at_call 29
                  refine hle.mono ?_
                  rintro e w3 ⟨rfl, hw⟩
                  subst hw
                  clear hle)
                go_ret
                exact ⟨rfl, S, H.out, Turn.refl _ _⟩
          · rw [if_neg g6] at hoc ⊢
            obtain ⟨fx, hfx⟩ : ∃ fx, fx = fs f := ⟨_, rfl⟩
            rw [← hfx] at hx0 hflt
            have HFIN := Lib.hid (show ∀ (wr : World) (v' : Value), RFlux w fx xb wr v' (F.puts q l).keys (max s (q + L)) (F.puts q l).byte → ∃ S', RPoolAt wr rb S' n { V with left := V.left - lk, files := aset V.files f { F.puts q l with size := max F.size (q + L) } } ∧ Turn w S wr S' from by
              intro wr v' hX
              have hokF := hoc.files _ (mem_aset_of V.files f { F.puts q l with size := max F.size (q + L) })
              have hzw := write_zero hzr q l
              rw [← hL] at hzw
              obtain ⟨G, z1, z2⟩ := hX.fin hflt hokF hzw (show max F.size ((q : Int) + L) = ((max s (q + L) : Nat) : Int) by omega) (fun i hi => rfl) (fun i hi => Iff.rfl)
              rw [hxb] at z1
              exact rpool_file h hg h1 h2 h3 h4 h5 h6 h7 hX.keep (fun b q => by rw [← hfx]; exact q) z1 (fun b q => by rw [← hfx]; exact z2 b q) hoc)
            have hfxS : ∀ b, fx b → S b := fun b z => (h6 _ (aget_mem hg) b (by rw [← hfx]; exact z)).1
            have HFX := Lib.hid hfxS
            have HLK := Lib.hid hlk
            have HP := Lib.hid (And.intro h (And.intro h1 (And.intro h2 (And.intro h3 (And.intro h4 (And.intro h5 (And.intro h6 h7)))))))
            have HF := Lib.hid (And.intro hok (And.intro hzr (And.intro hflt (And.intro hss (And.intro hg (And.intro hoc (And.intro hx0 hL)))))))
            have X0 := Lib.hid hx0
            have hlf0 := h.ok.left
            obtain ⟨bi, bi1, bi2, bi3, bi4⟩ := by_info
            have BI := Lib.hid (And.intro bi1 (And.intro bi2 (And.intro bi3 bi4)))
            clear hfx hfxS h h1 h2 h3 h4 h5 h6 h7 hg hm hF hx0 hok hzr hflt hs hss hb1 hb3 cells hlk hlacks g3 g2 hL hxb bi1 bi2 bi3 bi4 hoc
            go_enter Try.func20, Try.ntmps20
            go_wp2_with (
              go_at_call 51
              refine ho.mono ?_
              rintro e w2 ⟨rfl, hw⟩
              subst hw
              clear ho)
            go_loopg [10, 11] ((q + L - 1) / 16 + 1 - q / 16) (fun g s10 s11 wr => ∃ k : Nat, s11 = .int .i64 k ∧ k + g = (q + L - 1) / 16 + 1 ∧ q / 16 ≤ k ∧ s10 = .int .i64 (cnt F ((q : Int) / 16) (k - q / 16)) ∧ wr = w2)
            case atStart => exact ⟨q / 16, by congr 1, by omega, Nat.le_refl _, by rw [Nat.sub_self]; rfl, rfl⟩
            case round =>
              obtain ⟨k, rfl, hk, hqk, rfl, rfl⟩ := hrel
              have hc := cnt_le F ((q : Int) / 16) (k - q / 16)
              by_cases hl : k ≤ (q + L - 1) / 16
              · have hl1 : (k : Int) ≤ ((q : Int) + (L : Int) - 1) / 16 := by omega
                have c5 := HCL.out k (by omega)
                have hs := cnt_succ F ((q : Int) / 16) (k - q / 16)
                rw [show (q : Int) / 16 + ((k - q / 16 : Nat) : Int) = k by omega, show k - q / 16 + 1 = k + 1 - q / 16 by omega] at hs
                obtain ⟨cc, hcc⟩ : ∃ cc, cc = cnt F ((q : Int) / 16) (k - q / 16) := ⟨_, rfl⟩
                rw [← hcc] at hc hs ⊢
                clear hcc
                by_cases hm : (k : Int) ∈ F.keys
                · rw [if_pos hm] at hs
                  have e1 : decide ((k : Int) ∈ F.keys) = true := by simpa using hm
                  rw [e1] at c5
                  have HS := Lib.hid hs
                  clear hs hm e1
                  go_wp2
                  go_roundg ((q + L - 1) / 16 + 1 - (k + 1))
                  case measure => omega
                  case rel => exact ⟨k + 1, by go_num, by omega, by omega, by rw [HS.out]; rfl, rfl⟩
                · rw [if_neg hm] at hs
                  have e1 : decide ((k : Int) ∈ F.keys) = false := by simpa using hm
                  rw [e1] at c5
                  have HS := Lib.hid hs
                  clear hs hm e1
                  go_wp2
                  go_roundg ((q + L - 1) / 16 + 1 - (k + 1))
                  case measure => omega
                  case rel => exact ⟨k + 1, by go_num, by omega, by omega, by rw [HS.out]; go_num, rfl⟩
              · have hl1 : ¬ (k : Int) ≤ ((q : Int) + (L : Int) - 1) / 16 := by omega
                have hkk : cnt F ((q : Int) / 16) (k - q / 16) = lk := by rw [HLK.out]; congr 1; omega
                rw [hkk]
                clear hc hkk
                go_upto_region 18 with (
                  go_at_call 29
                  refine hle.mono ?_
                  rintro e w3 ⟨rfl, hw⟩
                  subst hw
                  clear hle)
                have X0' := X0.out
                go_loopg [] (q + L - s) (fun g wr => ∃ (m : Nat) (v : Value), s ≤ m ∧ m + g = max s (q + L) ∧ RFlux w3 fx xb wr v F.keys m F.byte)
                case atStart => exact ⟨s, v0, Nat.le_refl _, by omega, X0'⟩
                case round =>
                  obtain ⟨m, v, hsm, hmg, hX⟩ := hrel
                  obtain ⟨wo, hwo⟩ : ∃ wo, wo = wr := ⟨_, rfl⟩
                  subst hwo
                  obtain ⟨sa, cap, hv, hcap⟩ := rows_val2 hX.row
                  subst hv
                  have X := Lib.hid hX
                  have d0 : wo.cell? ⟨xb, 0, none⟩ = some (.slice sa m cap) := by rw [cell_blk hX.blk]; rfl
                  have hgr := Lib.hid (show rowL m F.byte ++ [.int .u8 0] = rowL (m + 1) F.byte from rowL_grow HF.out.2.1 (by rw [HF.out.2.2.2.1]; omega))
                  clear hX X0'
                  by_cases hlg : m < q + L
                  · have hl' : (m : Int) < (q : Int) + (L : Int) := by omega
                    have hm24 : m ≤ 1024 := by omega
                    go_wp2_with (
                      at_builtin
                      refine law_append_row rfl _ _ _ rfl Try.underlying30 BI.out.1 BI.out.2.1 BI.out.2.2.1 BI.out.2.2.2 by_cells (by decide) rfl (rows_keep X.out.row (Keep.alloc wo _ (fun _ => False)) (fun _ _ q => q)) [.int .u8 0] rfl rfl (.inr ⟨_, rfl, cells_new wo [.int .u8 0] _⟩) (fun u hu => by rw [List.mem_singleton.1 hu]; rfl) (by omega) ?_
                      intro sa8 cap8 w8 r1 r2 r3
                      have ka := Keep.alloc wo (.cells #[.int .u8 0] 5) (fun _ => False)
                      have k8 : Keep wo w8 (fun b => (Value.slice sa m cap).ownBlock = some b) := (ka.mono (T := fun b => (Value.slice sa m cap).ownBlock = some b) (fun _ q => q.elim)).trans r2 (fun b q => .inl q.symm)
                      have f8 : ∀ b, (Value.slice sa8 (m + 1) cap8).ownBlock = some b → (Value.slice sa m cap).ownBlock = some b ∨ wo.heap.size ≤ b := fun b q => (r3 b q).imp id (fun z => by rw [z]; exact ka.size)
                      have B8 := k8.get X.out.blk (fun q => (X.out.own _ q).2 rfl)
                      have d1 : w8.cell? ⟨xb, 0, none⟩ = some (.slice sa m cap) := by rw [cell_blk B8]; rfl
                      have g0 : w8.frozen? ⟨xb, 0, none⟩ = false := free_blk B8 _
                      have N8 := Lib.hid (And.intro r1 (And.intro k8 f8))
                      clear r1 r2 r3 ka k8 f8 B8)
                    go_roundg (max s (q + L) - (m + 1))
                    case measure => omega
                    case rel => exact ⟨m + 1, .slice sa8 (m + 1) cap8, by omega, by omega, X.out.turn N8.out.2.1 (by rw [← hgr.out]; exact N8.out.1) N8.out.2.2⟩
                  · have hl' : ¬ (m : Int) < (q : Int) + (L : Int) := by omega
                    have hmx : max s (q + L) = m := by omega
                    rw [hmx] at HFIN
                    obtain ⟨g, rfl⟩ : ∃ g, sa = some ⟨g, 0, none⟩ := by
                      obtain ⟨g, e, _⟩ := rows_some X.out.row (by omega)
                      exact ⟨g, e⟩
                    have hm1 : q + L ≤ m := by omega
                    have hm24 : m ≤ 1024 := by omega
                    clear hmx hgr
                    go_wp2
                    go_loopg [12] L (fun g' s12 wr => ∃ i : Nat, s12 = .int .i64 i ∧ i + g' = L ∧ RFlux w3 fx xb wr (.slice (some ⟨g, 0, none⟩) m cap) (F.puts q (l.take i)).keys m (F.puts q (l.take i)).byte)
                    case atStart => exact ⟨0, rfl, by omega, X.out⟩
                    case round =>
                      obtain ⟨i, rfl, hi, hY⟩ := hrel
                      obtain ⟨wp, hwp⟩ : ∃ wp, wp = wr := ⟨_, rfl⟩
                      subst hwp
                      have Y := Lib.hid hY
                      by_cases hlt : i < L
                      · have hlt' : (i : Int) < (L : Int) := by omega
                        have hLl := HF.out.2.2.2.2.2.2.2
                        obtain ⟨_, a', cap', e', h3'⟩ := HB.out.keep hY.keep HFX.out
                        simp only [Value.slice.injEq] at e'
                        obtain ⟨rfl, -, rfl⟩ := e'
                        rcases h3' with h3' | ⟨b0, off0, rfl, hnD, hcell⟩
                        · rw [h3'] at hLl; simp at hLl; omega
                        · have d5 := hcell i (by omega)
                          obtain ⟨c, hc⟩ : ∃ c, c = l.getD i 0 := ⟨_, rfl⟩
                          rw [← hc] at d5
                          have d6 : wp.cell? ⟨xb, 0, none⟩ = some (.slice (some ⟨g, 0, none⟩) m cap) := by rw [cell_blk hY.blk]; rfl
                          have hrc := rows_cell hY.row (rowL_get (F.puts q (l.take i)).byte (i := q + i) (by omega))
                          have d7 := hrc.1
                          have d8 := hrc.2
                          have htk : l.take (i + 1) = l.take i ++ [c] := by
                            rw [List.take_add_one, hc, List.getD_eq_getElem?_getD]
                            cases hq : l[i]? with
                            | none => rw [List.getElem?_eq_none_iff] at hq; omega
                            | some c' => rfl
                          have hpt : F.puts q (l.take (i + 1)) = (F.puts q (l.take i)).put ((q : Int) + i) c := by
                            rw [htk, FileV.puts_snoc, List.length_take, Nat.min_eq_left (by omega)]
                          have HPT := Lib.hid hpt
                          have k6 : (q + i) / 16 < 64 := by omega
                          generalize hcb : (F.puts q (l.take i)).byte ((q + i : Nat) : Int) = cb at d7
                          have hb1 : (q : Int) + (i : Int) < (m : Int) := by omega
                          have hb2 : ¬ (q : Int) + (i : Int) < 0 := by omega
                          have hb3 : ((q : Int) + (i : Int)).toNat = q + i := by omega
                          have hb4 : q + i < m := by omega
                          have hb5 : ¬ ((q : Int) + (i : Int) < 0 ∨ (m : Int) ≤ (q : Int) + (i : Int)) := by omega
                          clear hY hcell hrc htk hpt hc hcb hLl
                          go_upto_region 23 with (fail)
                          go_still_tail 11, (by kernel_rfl)
                          obtain ⟨wq, hwq⟩ : ∃ wq, wq = wp.drew := ⟨_, rfl⟩
                          change wpList _ _ _ _ _ wp.drew
                          rw [← hwq]
                          have hYq : RFlux w3 fx xb wq (.slice (some ⟨g, 0, none⟩) m cap) (F.puts q (l.take i)).keys m (F.puts q (l.take i)).byte := by rw [hwq]; exact Y.out.aside (Keep.drew wp (fun _ => False))
                          have hrc := rows_cell hYq.row (rowL_get (F.puts q (l.take i)).byte (i := q + i) (by omega))
                          have d9 := hrc.1
                          have d10 := hrc.2
                          have hzz := hYq.byte (q + i) c
                          have hzb : (wq.setCell ⟨g, q + i, none⟩ (.int .u8 c)).cell? ⟨xb, 1 + (q + i) / 16, none⟩ = some (.bool (decide ((((q + i) / 16 : Nat) : Int) ∈ (F.puts q (l.take i)).keys))) := by
                            rw [cell_blk hzz.blk, Nat.add_comm]
                            simpa using hasL_get (F.puts q (l.take i)).keys k6
                          have hzf : (wq.setCell ⟨g, q + i, none⟩ (.int .u8 c)).frozen? ⟨xb, 1 + (q + i) / 16, none⟩ = false := free_blk hzz.blk _
                          have ZZ := Lib.hid hzz
                          generalize hcb : (F.puts q (l.take i)).byte ((q + i : Nat) : Int) = cb2 at d9
                          generalize hdb : decide ((((q + i) / 16 : Nat) : Int) ∈ (F.puts q (l.take i)).keys) = db at hzb
                          clear hYq hrc hzz hwq hcb hdb d5 d6 d7 d8
                          go_wp2
                          go_roundg (L - (i + 1))
                          case measure => omega
                          case rel =>
                            refine ⟨i + 1, by go_num, by omega, ?_⟩
                            rw [HPT.out, put_byte]
                            have hpi : (((q + i) / 16 : Nat) : Int) = ((q : Int) + i) / 16 := by omega
                            have hf := ZZ.out.has (J := ((F.puts q (l.take i)).put ((q : Int) + i) c).keys) ((q + i) / 16) k6 true (by
                              rw [decide_eq_true_eq, put_keys, FileV.mem_addKey, hpi]
                              exact .inr rfl) (fun j hj hne => by
                              rw [put_keys, FileV.mem_addKey]
                              exact ⟨fun z => .inl z, fun z => z.elim id (fun z => absurd (by omega : j = (q + i) / 16) hne)⟩)
                            rw [show ((q + i : Nat) : Int) = (q : Int) + (i : Int) from by omega] at hf
                            exact hf
                      · have hlt' : ¬ (i : Int) < (L : Int) := by omega
                        have hLl := HF.out.2.2.2.2.2.2.2
                        have hti : l.take i = l := List.take_of_length_le (by omega)
                        rw [hti] at Y
                        clear hY hti hLl
                        go_wp2
                        go_ret
                        exact ⟨rfl, HFIN.out wp _ Y.out⟩

end Go.Proofs.Ytemoickagefjmaa
