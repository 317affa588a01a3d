/-
  The document's pool: Read.
-/
import Derived.Test.YtemoickagefjmaaRPool5
namespace Go.Proofs.Ytemoickagefjmaa
open Go Go.RowKit
set_option linter.unusedSectionVars false
set_option linter.unusedSimpArgs false
set_option linter.unusedVariables false
set_option maxRecDepth 100000
attribute [local go_sem] Oper.semAt_some

theorem by_info : ∃ i, Try.prog.info? 5 = some i ∧ i.zero = some (.int .u8 0) ∧ i.size = 1 ∧ i.bytes ≤ 64 := by
  have h : (Try.prog.info? 5).map (fun i => (i.zero, i.size, i.bytes)) = some (some (.int .u8 0), 1, 1) := by kernel_rfl
  cases hh : Try.prog.info? 5 with
  | none => rw [hh] at h; simp at h
  | some i =>
    rw [hh] at h
    simp only [Option.map_some, Option.some.injEq, Prod.mk.injEq] at h
    exact ⟨i, rfl, h.1, h.2.1, by omega⟩
theorem by_cells : (Value.int .u8 0).cells.size = 1 := rfl

/-- What Read lays. -/
def RRead (w w' : World) (v : Value) (l : List Int) : Prop := w'.ownsRow 0 5 1 v l.length (l.map (Value.int .u8)) ∧ (∀ b, v.ownBlock = some b → w.heap.size ≤ b) ∧ Keep w w' (fun _ => False)

theorem rread_nil {w w' : World} (k : Keep w w' (fun _ => False)) : RRead w w' (.slice none 0 0) [] := ⟨rows_nil _ _ _, fun b q => by simp [Value.ownBlock] at q, k⟩

set_option maxHeartbeats 2000000 in
theorem rread_c {w : World} {rb : Nat} {S : Nat → Prop} {n : Int} {V : PoolV} (h : RPoolAt w rb S n V) (hm : V.made ≤ 1000000) (f p k : Int) :
    Calls Try.prog 17 #[.pointer (some ⟨rb, 0, none⟩), .int .i64 f, .int .i64 p, .int .i64 k] w fun r w' => ∃ v, r = .returned (.tuple #[v, .int .i64 (V.read f p k).2]) ∧ RRead w w' v (V.read f p k).1 := by
  obtain ⟨v, xa, fs, h1, h2, h3, h4, h5, h6, h7⟩ := h.ex
  have ho := rof_c h1 h2 h.ok hm f
  unfold PoolV.read
  cases hg : aget V.files f with
  | none =>
    rw [slot_none hg] at ho
    clear h h1 h2 h3 h4 h5 h6 h7 hg hm
    go_enter Try.func17, Try.ntmps17
    go_wp2_with (
      go_at_call 51
      refine ho.mono ?_
      rintro e w2 ⟨rfl, hw⟩
      subst hw
      clear ho)
    go_ret2
    exact ⟨_, rfl, rread_nil (Keep.refl _ _)⟩
  | some F =>
    rw [slot_some hg] at ho
    have hF := h5 _ (aget_mem hg)
    obtain ⟨u, k1, k2, k3, k4⟩ := hF.ex
    have hok := hF.ok
    simp only at k1 k2 hok
    generalize xa f = xb at *
    obtain ⟨s, hs⟩ : ∃ s : Nat, s = F.size.toNat := ⟨_, rfl⟩
    have hss : F.size = s := by have := hok.1; omega
    have hs24 : s ≤ 1024 := by have := hok.2.1; omega
    rw [← hs] at k2
    obtain ⟨sa, cap, rfl, hc⟩ := rows_val2 k2
    have c0 : w.cell? ⟨xb, 0, none⟩ = some (.slice sa s cap) := by rw [cell_blk k1]; rfl
    have HR := Lib.hid k2
    dsimp only
    clear h h1 h2 h3 h4 h5 h6 h7 hg hm hF k1 k2 k3 k4 hs hok
    by_cases hneg : p < 0 ∨ k < 0
    · rw [if_pos hneg]
      have hn2 : p < 0 ∨ (¬ p < 0 ∧ k < 0) := by omega
      clear hneg hss
      rcases hn2 with g1 | ⟨g1, g2⟩
      all_goals
        go_enter Try.func17, Try.ntmps17
        go_wp2_with (
          go_at_call 51
          refine ho.mono ?_
          rintro e w2 ⟨rfl, hw⟩
          subst hw
          clear ho)
        go_ret2
        exact ⟨_, rfl, rread_nil (Keep.refl _ _)⟩
    · rw [if_neg hneg]
      have g1 : ¬ p < 0 := by omega
      have g2 : ¬ k < 0 := by omega
      obtain ⟨q, rfl⟩ : ∃ q : Nat, p = q := ⟨p.toNat, by omega⟩
      obtain ⟨N, hN⟩ : ∃ N : Nat, N = (if F.size ≤ (q : Int) then 0 else (min k (F.size - q)).toNat) := ⟨_, rfl⟩
      have hres : (if F.size ≤ (q : Int) then (([] : List Int), (0 : Int)) else (F.read q k, 0)) = ((List.range N).map (fun (i : Nat) => F.byte ((q : Int) + i)), 0) := by
        rw [hN]
        by_cases e : F.size ≤ (q : Int)
        · rw [if_pos e, if_pos e]; rfl
        · rw [if_neg e, if_neg e]; rfl
      rw [hres]
      have hNin : ∀ i : Nat, i < N → (i : Int) < k ∧ (q : Int) < s ∧ (i : Int) < (s : Int) - q := fun i hi => by
        rw [hN] at hi
        split at hi <;> omega
      have hNout : ¬ (N : Int) < k ∨ ((N : Int) < k ∧ ¬ (q : Int) < s) ∨ ((N : Int) < k ∧ (q : Int) < s ∧ ¬ (N : Int) < (s : Int) - q) := by
        rw [hN]
        split <;> omega
      have hN24 : N ≤ 1024 := by rw [hN]; split <;> omega
      have HN := Lib.hid (And.intro hNin hNout)
      obtain ⟨bi, bi1, bi2, bi3, bi4⟩ := by_info
      have BI := Lib.hid (And.intro bi1 (And.intro bi2 (And.intro bi3 bi4)))
      clear hneg hres hNin hNout hN bi1 bi2 bi3 bi4 hss
      go_enter Try.func17, Try.ntmps17
      go_wp2_with (
        go_at_call 51
        refine ho.mono ?_
        rintro e w2 ⟨rfl, hw⟩
        subst hw
        clear ho)
      go_loopg [11, 12] N (fun g s11 s12 wr => ∃ i : Nat, s12 = .int .i64 i ∧ i + g = N ∧ wr.ownsRow 0 5 1 s11 i (rowL i (fun z => F.byte ((q : Int) + z))) ∧ (∀ b, s11.ownBlock = some b → w2.heap.size ≤ b) ∧ Keep w2 wr (fun _ => False))
      case atStart => exact ⟨0, rfl, by omega, rows_nil _ _ _, fun b q => by simp [Value.ownBlock] at q, Keep.refl _ _⟩
      case round =>
        obtain ⟨i, rfl, hi, hr, hn, hK⟩ := hrel
        obtain ⟨wo, hwo⟩ : ∃ wo, wo = wr := ⟨_, rfl⟩
        subst hwo
        obtain ⟨a9, cap9, hs9, hcap9⟩ := rows_val2 hr
        subst hs9
        have E := Lib.hid (And.intro hr (And.intro hn hK))
        have d0 : wo.cell? ⟨xb, 0, none⟩ = some (.slice sa s cap) := hK.cell c0 (fun q => q)
        by_cases hl : i < N
        · obtain ⟨n1, n2, n3⟩ := HN.out.1 i hl
          have hrow := rows_keep HR.out hK (fun _ _ q => q)
          obtain ⟨g, rfl, -, -, -⟩ := rows_some hrow (by omega)
          have d1 : wo.cell? ⟨g, q + i, none⟩ = some (.int .u8 (F.byte ((q : Int) + i))) := by
            have := (rows_cell hrow (rowL_get F.byte (i := q + i) (by omega))).1
            rw [this]
            congr 2
          have hsn := Lib.hid (rowL_snoc i (fun z => F.byte ((q : Int) + z)))
          obtain ⟨c, hcc⟩ : ∃ c, c = F.byte ((q : Int) + i) := ⟨_, rfl⟩
          rw [← hcc] at d1
          have HC := Lib.hid hcc
          have hq24 : q + i ≤ 1024 := by omega
          clear hr hn hK hrow hcc
          go_wp2_with (
            at_builtin
            refine law_append_row rfl _ _ _ rfl Try.underlying30 BI.out.1 BI.out.2.1 BI.out.2.2.1 BI.out.2.2.2 by_cells (by decide) rfl (rows_keep E.out.1 (Keep.alloc wo _ (fun _ => False)) (fun _ _ q => q)) [.int .u8 c] rfl rfl (.inr ⟨_, rfl, cells_new wo [.int .u8 c] _⟩) (fun u hu => by rw [List.mem_singleton.1 hu]; rfl) (by omega) ?_
            intro sa8 cap8 w8 r1 r2 r3
            have ka := Keep.alloc wo (.cells #[.int .u8 c] 5) (fun _ => False)
            have k8 : Keep w2 w8 (fun _ => False) := (E.out.2.2.trans ka (fun _ q => q.elim)).trans r2 (fun b q => .inr (E.out.2.1 b q.symm))
            have f8 : ∀ b, (Value.slice sa8 (i + 1) cap8).ownBlock = some b → w2.heap.size ≤ b := fun b q => by
              rcases r3 b q with z | z
              · exact E.out.2.1 b z
              · have h1 := ka.size
                have h2 := E.out.2.2.size
                have h3 : (wo.alloc (.cells #[.int .u8 c] 5)).heap.size = b := z.symm
                omega
            have N8 := Lib.hid (And.intro r1 (And.intro k8 f8))
            clear r1 r2 r3 ka k8 f8)
          go_roundg (N - (i + 1))
          case measure => omega
          case rel => exact ⟨i + 1, by go_num, by omega, by rw [hsn.out, ← HC.out]; exact N8.out.1, N8.out.2.2, N8.out.2.1⟩
        · have hiN : i = N := by omega
          have hout := HN.out.2
          rw [← hiN] at hout
          have HI := Lib.hid hiN
          clear hr hn hK hiN hl
          rcases hout with n1 | ⟨n1, n2⟩ | ⟨n1, n2, n3⟩
          all_goals
            go_wp2
            go_ret2
            refine ⟨_, rfl, ?_, E.out.2.1, E.out.2.2⟩
            rw [← HI.out, List.length_map, List.length_range, List.map_map]
            exact E.out.1

end Go.Proofs.Ytemoickagefjmaa
