/-
  A list's rows of entries; slices.Delete at them.
-/
import Derived.Test.YtjicoebcmfnooaaDoorChecked
import Derived.Test.YtjicoebcmfnooaaDoorClears
import Derived.Test.YtjicoebcmfnooaaDoorLists
import Derived.WalkMore
import Derived.Deep.LoopGhost
import Derived.BigQuiet
namespace Go.Proofs.YtjicoebcmfnooaaDoor
open Go Go.RowKit
set_option linter.unusedSectionVars false
set_option linter.unusedSimpArgs false
set_option linter.unusedVariables false

/-- A key, how often it is pinned. -/
abbrev Ent := ByteArray × Int
def entV (x : Ent) : List Value := [.string x.1, .int .i64 x.2]
theorem entV_len (x : Ent) : (entV x).length = 2 := rfl

theorem ent_info : ∃ i, Tryd.prog.info? 72 = some i ∧ i.zero = some (.agg #[.string ByteArray.empty, .int .i64 0]) ∧ i.size = 2 ∧ i.bytes ≤ 64 := by
  have h : (Tryd.prog.info? 72).map (fun i => (i.zero, i.size, i.bytes)) = some (some (.agg #[.string ByteArray.empty, .int .i64 0]), 2, 24) := by kernel_rfl
  cases hh : Tryd.prog.info? 72 with
  | none => rw [hh] at h; simp at h
  | some i =>
    rw [hh] at h
    simp only [Option.map_some, Option.some.injEq, Prod.mk.injEq] at h
    exact ⟨i, rfl, h.1, h.2.1, by omega⟩

theorem ent_zero (w : World) : (zeroValue 72).run Tryd.prog w = .ok (.agg #[.string ByteArray.empty, .int .i64 0]) w := by kernel_rfl

theorem take_drop_flat {α : Type} (l : List α) (k : Nat) (hk : k < l.length) : l.take k ++ l.drop (k + 1) = l.eraseIdx k := by
  rw [List.eraseIdx_eq_take_drop_succ]

set_option maxRecDepth 10000 in
set_option maxHeartbeats 2000000 in
theorem del_c {w : World} {g cap p i : Nat} {xs : List Value} (h : w.ownsRow 0 72 2 (.slice (some ⟨g, 0, none⟩) (p + 1) cap) (p + 1) xs) (hi : i < p + 1) (hone : ∀ u ∈ xs, u.oneCell' = true) :
    Calls Tryd.prog 39 #[.slice (some ⟨g, 0, none⟩) (p + 1) cap, .int .i64 i, .int .i64 ((i : Int) + 1)] w fun r w' => r = .returned (.slice (some ⟨g, 0, none⟩) p cap) ∧
      w'.ownsRow 0 72 2 (.slice (some ⟨g, 0, none⟩) p cap) p (xs.take (i * 2) ++ xs.drop ((i + 1) * 2)) ∧ Keep w w' (fun b => b = g) := by
  obtain ⟨cur, hb, hnc, hcap, hcs, hxs⟩ := rows_block h
  have hm : cap ≤ 9223372036854775807 := by unfold maxLen at hcap; omega
  have hlen : xs.length = (p + 1) * 2 := h.1
  have HB := Lib.hid (And.intro hlen h)
  obtain ⟨ti, ti1, ti2, ti3, ti4⟩ := ent_info
  have HI := Lib.hid (And.intro ti1 ti3)
  clear ti1 ti2 ti3 ti4 hb hcs hxs hlen h
  have g1 : (i : Int) < (p : Int) + 1 := by omega
  have g2 : (p : Int) + 1 ≤ (cap : Int) := by omega
  have g3 : ((i : Int) == (i : Int) + 1) = false := by simp; omega
  go_enter Tryd.func39, Tryd.ntmps39
  go_wp2
  have q1 : i ≤ cap := by omega
  have q2 : i + 1 ≤ p + 1 := by omega
  have q4 : (0 : Int) ≤ (i : Int) + 1 := by omega
  have q5 : (i : Int) + 1 ≤ (p : Int) + 1 := by omega
  have q6 : (i : Int) ≤ (i : Int) + 1 := by omega
  have q7 : i ≤ p := by omega
  have hdr := Lib.hid (rows_keep (h := HB.out.2) (Keep.drew w (fun _ => False)) (fun _ _ q => q))
  have htk : (w.drew).ownsRow 0 72 2 (.slice (some ⟨g, 0, none⟩) i cap) i (xs.take (i * 2)) := by
    obtain ⟨cur, hb, _, hcap2, hcs, hxs⟩ := rows_block hdr.out
    refine rows_mk hb q1 hcap2 hcs ?_
    rw [← hxs, List.take_take, Nat.min_eq_left (by omega)]
  have HT := Lib.hid htk
  clear htk
  have hfin : ∀ w1 : World, w1.ownsRow 0 72 2 (.slice (some ⟨g, 0, none⟩) p cap) p (xs.take (i * 2) ++ xs.drop ((i + 1) * 2)) → Keep w.drew w1 (fun b => b = g) →
      ∃ c, w1.heap[g]? = some (.cells c 72 (0, 0)) ∧ p * 2 + 2 * 1 ≤ c.size ∧ ∀ w2 vs, vs.length = 2 * 1 → w2.heap[g]? = some (.cells (setRange c (p * 2) vs) 72 (0, 0)) → Keep w1 w2 (fun b => b = g) →
        w2.ownsRow 0 72 2 (.slice (some ⟨g, 0, none⟩) p cap) p (xs.take (i * 2) ++ xs.drop ((i + 1) * 2)) ∧ Keep w w2 (fun b => b = g) := by
    intro w1 hr1 hk1
    obtain ⟨c, hb, _, hcap2, hcs, hxs⟩ := rows_block hr1
    have hpc : (p + 1) * 2 ≤ cap * 2 := Nat.mul_le_mul_right _ (by omega)
    refine ⟨c, hb, by omega, fun w2 vs hvs hb2 hk2 => ⟨rows_mk hb2 (by omega) hcap2 (by rw [setRange_size]; exact hcs) ?_, ((Keep.drew w _).trans hk1 (fun b q => .inl q)).trans hk2 (fun b q => .inl q)⟩⟩
    rw [← hxs]
    apply List.ext_getElem?
    intro j
    rw [List.getElem?_take, List.getElem?_take]
    by_cases hj : j < p * 2
    · rw [if_pos hj, if_pos hj, Array.getElem?_toList, Array.getElem?_toList, setRange_get _ _ _ _ (by omega), if_neg (by omega)]
    · rw [if_neg hj, if_neg hj]
  have HF := Lib.hid hfin
  clear hfin
  by_cases hroom : cap = i + 1
  · obtain rfl : p = i := by omega
    subst hroom
    go_region_law (
      (refine step_append_in rfl _ _ _ rfl 72 Tryd.underlying67 HI.out.1 HI.out.2 HT.out rfl ⟨g, 0, none⟩ 0 _ [] rfl rfl (fun j u q => by simp at q) (fun u q => by simp at q) (by omega) p rfl ?_
       intro w1 hr1 hk1))
    have HR := Lib.hid (HF.out w1 (by rw [List.drop_eq_nil_of_le (by rw [HB.out.1]; exact Nat.le_refl _)]; exact hr1) hk1)
    clear hr1 hk1
    obtain ⟨c, hb, hc, hfin⟩ := HR.out
    have HC := Lib.hid (And.intro hb (And.intro hc hfin))
    clear hb hc hfin
    go_wp2_with (
      refine law_clear_any rfl (.tmp 31) 67 72 rfl Tryd.underlying67 ent_zero (by simp [Value.cells, oneC]) rfl rfl (by omega) HC.out.1 HC.out.2.1 ?_
      intro w2 vs hv hb2 hk2
      have HE := Lib.hid (HC.out.2.2 w2 vs hv hb2 hk2)
      clear hv hb2 hk2)
    go_ret
    exact ⟨rfl, HE.out.1, HE.out.2⟩
  · have q3 : ¬ cap = i + 1 := hroom
    go_region_law (
      (refine step_append_in rfl _ _ _ rfl 72 Tryd.underlying67 HI.out.1 HI.out.2 HT.out rfl ⟨g, (i + 1) * 2, none⟩ (p - i) _ (xs.drop ((i + 1) * 2)) rfl (by rw [List.length_drop, HB.out.1]; omega) (rows_read hdr.out _ (fun j u q => by rw [List.getElem?_drop] at q; exact q)) (fun u q => hone u (List.mem_of_mem_drop q)) (by omega) p (by omega) ?_
       intro w1 hr1 hk1))
    have HR := Lib.hid (HF.out w1 hr1 hk1)
    clear hr1 hk1
    obtain ⟨c, hb, hc, hfin⟩ := HR.out
    have HC := Lib.hid (And.intro hb (And.intro hc hfin))
    clear hb hc hfin
    go_wp2_with (
      refine law_clear_any rfl (.tmp 31) 67 72 rfl Tryd.underlying67 ent_zero (by simp [Value.cells, oneC]) rfl rfl (by omega) HC.out.1 HC.out.2.1 ?_
      intro w2 vs hv hb2 hk2
      have HE := Lib.hid (HC.out.2.2 w2 vs hv hb2 hk2)
      clear hv hb2 hk2)
    go_ret
    exact ⟨rfl, HE.out.1, HE.out.2⟩

end Go.Proofs.YtjicoebcmfnooaaDoor
