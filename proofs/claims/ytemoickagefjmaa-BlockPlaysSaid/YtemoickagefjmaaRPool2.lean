/-
  The document's pool: of, used, Used, Size, Left.
-/
import Derived.Test.YtemoickagefjmaaRPool1
namespace Go.Proofs.Ytemoickagefjmaa
open Go Go.RowKit
set_option linter.unusedSectionVars false
set_option linter.unusedSimpArgs false
set_option linter.unusedVariables false
set_option maxRecDepth 100000
attribute [local go_sem] Oper.semAt_some

theorem rof_c {w : World} {rb : Nat} {n : Int} {V : PoolV} {v : Value} {xa : Int → Nat} (h1 : w.heap[rb]? = some (.cells #[.int .i64 n, v] 81 (0, 0))) (h2 : w.ownsRow 0 86 1 v V.made.toNat (slotsL V xa)) (hok : V.ok n) (hm : V.made ≤ 1000000) (f : Int) :
    Calls Try.prog 51 #[.pointer (some ⟨rb, 0, none⟩), .int .i64 f] w fun r w' => r = .returned (slotV V xa f) ∧ w' = w := by
  obtain ⟨sa, cap, rfl, hc⟩ := rows_val2 h2
  obtain ⟨m, hmm⟩ : ∃ m : Nat, m = V.made.toNat := ⟨_, rfl⟩
  have hmi : V.made = m := by have := hok.made0; omega
  have hkeys := hok.keys
  rw [← hmm] at h1 h2 hc
  have c0 : w.cell? ⟨rb, 1, none⟩ = some (.slice sa m cap) := by rw [cell_blk h1]; rfl
  have hm6 : m ≤ 1000000 := by omega
  by_cases hf : 1 ≤ f ∧ f ≤ m
  · obtain ⟨i, rfl⟩ : ∃ i : Nat, f = (i : Int) + 1 := ⟨(f - 1).toNat, by omega⟩
    obtain ⟨g, rfl, -, -, -⟩ := rows_some h2 (by omega)
    have c1 : w.cell? ⟨g, i, none⟩ = some (slotV V xa ((i : Int) + 1)) := (rows_cell h2 (slotsL_get V xa (i := i) (by omega))).1
    generalize slotV V xa ((i : Int) + 1) = sv at *
    have g1 : ¬ (i : Int) + 1 < 1 := by omega
    have g2 : ¬ (m : Int) < (i : Int) + 1 := by omega
    have g3 : i < m := by omega
    clear h1 h2 hok hmm hmi hkeys hf hm
    go_enter Try.func51, Try.ntmps51
    go_wp2
    go_ret
    exact ⟨rfl, rfl⟩
  · have hs : slotV V xa f = .pointer none := by
      unfold slotV
      rw [if_neg]
      intro hx
      cases hg : aget V.files f with
      | none => rw [hg] at hx; simp at hx
      | some F =>
        have := hkeys _ (aget_mem hg)
        simp only at this
        omega
    rw [hs]
    by_cases g1 : f < 1
    · clear h1 h2 hok hmm hmi hkeys hf hm hs
      go_enter Try.func51, Try.ntmps51
      go_wp2
      go_ret
      exact ⟨rfl, rfl⟩
    · have g2 : (m : Int) < f := by omega
      clear h1 h2 hok hmm hmi hkeys hf hm hs
      go_enter Try.func51, Try.ntmps51
      go_wp2
      go_ret
      exact ⟨rfl, rfl⟩

theorem rused_c {w : World} {xb : Nat} {S : Nat → Prop} {F : FileV} (h : RFileAt w xb S F) :
    Calls Try.prog 54 #[.pointer (some ⟨xb, 0, none⟩)] w fun r w' => r = .returned (.int .i64 F.keys.length) ∧ w' = w := by
  obtain ⟨v, h1, h2, h3, h4⟩ := h.ex
  have hall := cntK_all h.ok
  have cells : ∀ i : Nat, i < 64 → w.cell? ⟨xb, 1 + i, none⟩ = some (.bool (decide ((i : Int) ∈ F.keys))) := fun i hi => by
    rw [cell_blk h1, Nat.add_comm]
    simpa using hasL_get F.keys hi
  generalize F.keys = K at *
  have HC := Lib.hid (And.intro cells hall)
  clear h h1 h2 h3 h4 cells hall
  go_enter Try.func54, Try.ntmps54
  go_wp2
  go_loopg [3, 4] 64 (fun g s3 s4 wr => ∃ i : Nat, s4 = .int .i64 i ∧ s3 = .int .i64 (cntK K i) ∧ i + g = 64 ∧ wr = w)
  case atStart => exact ⟨0, rfl, rfl, by omega, rfl⟩
  case round =>
    obtain ⟨i, rfl, rfl, hi, rfl⟩ := hrel
    by_cases hl : i < 64
    · have hl' : (i : Int) < 64 := by omega
      have c1 := HC.out.1 i hl
      have hs := Lib.hid (cntK_succ K i)
      have hle := cntK_le K i
      obtain ⟨q, hq⟩ : ∃ q, q = cntK K i := ⟨_, rfl⟩
      rw [← hq] at hle ⊢
      have HQ := Lib.hid hq
      clear hq
      by_cases hk : (i : Int) ∈ K
      · have e1 : decide ((i : Int) ∈ K) = true := by simpa using hk
        rw [e1] at c1
        have HK := Lib.hid hk
        clear hk e1
        go_wp2
        go_roundg (64 - (i + 1))
        case measure => omega
        case rel => exact ⟨i + 1, by go_num, by rw [hs.out, if_pos HK.out, ← HQ.out]; go_num, by omega, rfl⟩
      · have e1 : decide ((i : Int) ∈ K) = false := by simpa using hk
        rw [e1] at c1
        have HK := Lib.hid hk
        clear hk e1
        go_wp2
        go_roundg (64 - (i + 1))
        case measure => omega
        case rel => exact ⟨i + 1, by go_num, by rw [hs.out, if_neg HK.out, ← HQ.out]; rfl, by omega, rfl⟩
    · have hl' : ¬ (i : Int) < 64 := by omega
      have hi64 : i = 64 := by omega
      have HI := Lib.hid hi64
      clear hi64
      go_wp2
      go_ret
      refine ⟨?_, rfl⟩
      rw [← HC.out.2, ← HI.out]
      rfl

end Go.Proofs.Ytemoickagefjmaa
