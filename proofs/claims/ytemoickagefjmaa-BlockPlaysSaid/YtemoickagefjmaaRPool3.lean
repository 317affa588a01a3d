/-
  The document's pool: Used, Size, Left.
-/
import Derived.Test.YtemoickagefjmaaRPool2
namespace Go.Proofs.Ytemoickagefjmaa
open Go Go.RowKit
set_option linter.unusedSectionVars false
set_option linter.unusedSimpArgs false
set_option linter.unusedVariables false
set_option maxRecDepth 100000
attribute [local go_sem] Oper.semAt_some

theorem slot_none {V : PoolV} {xa : Int → Nat} {f : Int} (h : aget V.files f = none) : slotV V xa f = .pointer none := by
  unfold slotV; rw [h]; rfl
theorem slot_some {V : PoolV} {xa : Int → Nat} {f : Int} {F : FileV} (h : aget V.files f = some F) : slotV V xa f = .pointer (some ⟨xa f, 0, none⟩) := by
  unfold slotV; rw [h]; rfl

theorem rUsed_c {w : World} {rb : Nat} {S : Nat → Prop} {n : Int} {V : PoolV} (h : RPoolAt w rb S n V) (hm : V.made ≤ 1000000) (f : Int) :
    Calls Try.prog 27 #[.pointer (some ⟨rb, 0, none⟩), .int .i64 f] w fun r w' => r = .returned (.int .i64 (V.used f)) ∧ w' = w := by
  obtain ⟨v, xa, fs, h1, h2, h3, h4, h5, h6, h7⟩ := h.ex
  have ho := rof_c h1 h2 h.ok hm f
  unfold PoolV.used
  cases hg : aget V.files f with
  | none =>
    rw [slot_none hg] at ho
    clear h h1 h2 h3 h4 h5 h6 h7 hg hm
    go_enter Try.func27, Try.ntmps27
    go_wp2_with (
      go_at_call 51
      refine ho.mono ?_
      rintro e w2 ⟨rfl, hw⟩
      subst hw
      clear ho)
    go_ret
    exact ⟨rfl, rfl⟩
  | some F =>
    rw [slot_some hg] at ho
    have hu := rused_c (h5 _ (aget_mem hg))
    clear h h1 h2 h3 h4 h5 h6 h7 hg hm
    go_enter Try.func27, Try.ntmps27
    go_wp2_with (first
      | (go_at_call 51
         refine ho.mono ?_
         rintro e w2 ⟨rfl, hw⟩
         subst hw
         clear ho)
      | (go_at_call 54
         refine hu.mono ?_
         rintro e w3 ⟨rfl, hw⟩
         subst hw
         clear hu))
    go_ret
    exact ⟨rfl, rfl⟩

theorem rSize_c {w : World} {rb : Nat} {S : Nat → Prop} {n : Int} {V : PoolV} (h : RPoolAt w rb S n V) (hm : V.made ≤ 1000000) (f : Int) :
    Calls Try.prog 25 #[.pointer (some ⟨rb, 0, none⟩), .int .i64 f] w fun r w' => r = .returned (.int .i64 (V.size f)) ∧ w' = w := by
  obtain ⟨v, xa, fs, h1, h2, h3, h4, h5, h6, h7⟩ := h.ex
  have ho := rof_c h1 h2 h.ok hm f
  unfold PoolV.size
  cases hg : aget V.files f with
  | none =>
    rw [slot_none hg] at ho
    clear h h1 h2 h3 h4 h5 h6 h7 hg hm
    go_enter Try.func25, Try.ntmps25
    go_wp2_with (
      go_at_call 51
      refine ho.mono ?_
      rintro e w2 ⟨rfl, hw⟩
      subst hw
      clear ho)
    go_ret
    exact ⟨rfl, rfl⟩
  | some F =>
    rw [slot_some hg] at ho
    have hF := h5 _ (aget_mem hg)
    obtain ⟨u, k1, k2, k3, k4⟩ := hF.ex
    obtain ⟨sa, cap, rfl, hc⟩ := rows_val2 k2
    have hs0 := hF.ok.1
    simp only at k1 k2 hc hs0
    obtain ⟨s, hs⟩ : ∃ s : Nat, s = F.size.toNat := ⟨_, rfl⟩
    have hss : F.size = s := by omega
    rw [← hs] at k1 hc
    have c0 : w.cell? ⟨xa f, 0, none⟩ = some (.slice sa s cap) := by rw [cell_blk k1]; rfl
    dsimp only
    rw [hss]
    clear h h1 h2 h3 h4 h5 h6 h7 hg hm hF k1 k2 k3 k4 hs hss hs0
    go_enter Try.func25, Try.ntmps25
    go_wp2_with (
      go_at_call 51
      refine ho.mono ?_
      rintro e w2 ⟨rfl, hw⟩
      subst hw
      clear ho)
    go_ret
    exact ⟨rfl, rfl⟩

theorem usedOf_bd {V : PoolV} {n : Int} (h : V.ok n) (k : Int) : 0 ≤ usedOf V.files k ∧ usedOf V.files k ≤ 64 := by
  unfold usedOf
  cases hg : aget V.files k with
  | none => simp
  | some F =>
    have hF := h.files _ (aget_mem hg)
    have e := cntK_all hF
    have := cntK_le F.keys 64
    simp only at e
    dsimp only
    omega

theorem sumTo_bd {V : PoolV} {n : Int} (h : V.ok n) : ∀ i : Nat, 0 ≤ sumTo (usedOf V.files) i ∧ sumTo (usedOf V.files) i ≤ 64 * i
  | 0 => by simp [sumTo]
  | i + 1 => by
    have h1 := sumTo_bd h i
    have h2 := usedOf_bd h ((i : Int) + 1)
    show 0 ≤ sumTo (usedOf V.files) i + usedOf V.files _ ∧ sumTo (usedOf V.files) i + usedOf V.files _ ≤ _
    have e : (((i + 1 : Nat)) : Int) = (i : Int) + 1 := by omega
    first | rw [e] | skip
    omega

set_option maxHeartbeats 1000000 in
theorem rLeft_c {w : World} {rb : Nat} {S : Nat → Prop} {n : Int} {V : PoolV} (h : RPoolAt w rb S n V) (hm : V.made ≤ 1000000) :
    Calls Try.prog 29 #[.pointer (some ⟨rb, 0, none⟩)] w fun r w' => r = .returned (.int .i64 V.left) ∧ w' = w := by
  obtain ⟨v, xa, fs, h1, h2, h3, h4, h5, h6, h7⟩ := h.ex
  obtain ⟨sa, cap, rfl, hc⟩ := rows_val2 h2
  obtain ⟨m, hmm⟩ : ∃ m : Nat, m = V.made.toNat := ⟨_, rfl⟩
  have hmi : V.made = m := by have := h.ok.made0; omega
  have hsum := sum_used m V.files (fun x hx => by rw [← hmi]; exact h.ok.keys x hx) h.ok.nodup
  have htot := h.ok.sum
  unfold PoolV.total at htot
  rw [← hsum] at htot
  rw [← hmm] at h1 h2 hc
  have c0 : w.cell? ⟨rb, 0, none⟩ = some (.int .i64 n) := by rw [cell_blk h1]; rfl
  have c1 : w.cell? ⟨rb, 1, none⟩ = some (.slice sa m cap) := by rw [cell_blk h1]; rfl
  have hm6 : m ≤ 1000000 := by omega
  have hn := h.ok.most
  have hl0 := h.ok.left
  have H := Lib.hid (And.intro h.ok (And.intro h2 (And.intro h5 hmm)))
  have HT := Lib.hid htot
  have hbm := sumTo_bd h.ok m
  have hn0 : 0 ≤ n := by omega
  clear h h1 h2 h3 h4 h5 h6 h7 hm hmm hmi hsum htot hl0 hbm
  go_enter Try.func29, Try.ntmps29
  go_wp2
  go_loopg [3, 4] m (fun g s3 s4 wr => ∃ i : Nat, s4 = .int .i64 i ∧ s3 = .int .i64 (n - sumTo (usedOf V.files) i) ∧ i + g = m ∧ wr = w)
  case atStart => exact ⟨0, rfl, by simp [sumTo], by omega, rfl⟩
  case round =>
    obtain ⟨i, rfl, rfl, hi, rfl⟩ := hrel
    have hb := sumTo_bd H.out.1 i
    have hu := usedOf_bd H.out.1 ((i : Int) + 1)
    have HS := Lib.hid (show sumTo (usedOf V.files) (i + 1) = sumTo (usedOf V.files) i + usedOf V.files ((i : Int) + 1) from by
      show sumTo (usedOf V.files) i + usedOf V.files _ = _
      congr 2 <;> omega)
    generalize hx : sumTo (usedOf V.files) i = x at *
    have HX := Lib.hid hx
    clear hx
    by_cases hl : i < m
    · have hl' : (i : Int) < (m : Int) := by omega
      obtain ⟨g, rfl, -, -, -⟩ := rows_some H.out.2.1 (by omega)
      have c2 : wr.cell? ⟨g, i, none⟩ = some (slotV V xa ((i : Int) + 1)) := (rows_cell H.out.2.1 (slotsL_get V xa (i := i) (by rw [← H.out.2.2.2]; exact hl))).1
      cases hg : aget V.files ((i : Int) + 1) with
      | none =>
        rw [slot_none hg] at c2
        have HU := Lib.hid (show usedOf V.files ((i : Int) + 1) = 0 by unfold usedOf; rw [hg])
        clear hg hu
        go_wp2
        go_roundg (m - (i + 1))
        case measure => omega
        case rel => exact ⟨i + 1, by go_num, by rw [HS.out, HU.out]; congr 1; omega, by omega, rfl⟩
      | some F =>
        rw [slot_some hg] at c2
        have hus := rused_c (H.out.2.2.1 _ (aget_mem hg))
        have huq : usedOf V.files ((i : Int) + 1) = F.keys.length := by unfold usedOf; rw [hg]
        rw [huq] at hu
        have HU := Lib.hid huq
        generalize xa ((i : Int) + 1) = xb at *
        obtain ⟨q, hq⟩ : ∃ q : Nat, q = F.keys.length := ⟨_, rfl⟩
        simp only at hus
        rw [← hq] at hu hus
        have HQ := Lib.hid hq
        clear hg huq hq
        go_wp2_with (
          go_at_call 54
          refine hus.mono ?_
          rintro e w3 ⟨rfl, hw⟩
          subst hw
          clear hus)
        go_roundg (m - (i + 1))
        case measure => omega
        case rel => exact ⟨i + 1, by go_num, by rw [HS.out, HU.out, ← HQ.out]; congr 1; omega, by omega, rfl⟩
    · have hl' : ¬ (i : Int) < (m : Int) := by omega
      have him : i = m := by omega
      have HI := Lib.hid him
      clear him hu
      go_wp2
      go_ret
      have ht := HT.out
      rw [← HI.out, HX.out] at ht
      exact ⟨by rw [show V.left = n - x by omega]; rfl, rfl⟩

end Go.Proofs.Ytemoickagefjmaa
