/-
  The document's pool: Make.
-/
import Derived.Test.YtemoickagefjmaaRPool4
namespace Go.Proofs.Ytemoickagefjmaa
open Go Go.RowKit
set_option linter.unusedSectionVars false
set_option linter.unusedSimpArgs false
set_option linter.unusedVariables false
set_option maxRecDepth 100000
attribute [local go_sem] Oper.semAt_some

theorem pf_info : ∃ i, Try.prog.info? 86 = some i ∧ i.zero = some (.pointer none) ∧ i.size = 1 ∧ i.bytes ≤ 64 := by
  have h : (Try.prog.info? 86).map (fun i => (i.zero, i.size, i.bytes)) = some (some (.pointer none), 1, 8) := by kernel_rfl
  cases hh : Try.prog.info? 86 with
  | none => rw [hh] at h; simp at h
  | some i =>
    rw [hh] at h
    simp only [Option.map_some, Option.some.injEq, Prod.mk.injEq] at h
    exact ⟨i, rfl, h.1, h.2.1, by omega⟩
theorem pf_cells : (Value.pointer none).cells.size = 1 := rfl

theorem zero_file : Try.zeroCells89 = (.slice none 0 0 :: hasL []).toArray := by kernel_rfl

theorem slotsL_file {V : PoolV} {n : Int} (h : V.ok n) (xa : Int → Nat) (xb : Nat) : slotsL V.file (fun k => if k = V.made + 1 then xb else xa k) = slotsL V xa ++ [.pointer (some ⟨xb, 0, none⟩)] := by
  obtain ⟨m, hm⟩ : ∃ m : Nat, V.made = m := ⟨V.made.toNat, by have := h.made0; omega⟩
  have hnone : aget V.files (V.made + 1) = none := aget_notin fun q => by
    obtain ⟨x, hx, e⟩ := List.mem_map.1 q
    have := h.keys x hx
    omega
  have hset : V.file.files = V.files ++ [(V.made + 1, FileV.empty)] := aset_new _ _ _ (fun q => by
    obtain ⟨x, hx, e⟩ := List.mem_map.1 q
    have := h.keys x hx
    omega)
  have hget : ∀ k, aget (V.files ++ [(V.made + 1, FileV.empty)]) k = match aget V.files k with | some F => some F | none => if V.made + 1 = k then some FileV.empty else none := by
    intro k
    induction V.files with
    | nil => simp [aget]
    | cons z r ih =>
      obtain ⟨a, u⟩ := z
      simp only [List.cons_append, aget]
      by_cases e : a = k
      · rw [if_pos e, if_pos e]
      · rw [if_neg e, if_neg e, ih]
  have e1 : V.file.made.toNat = m + 1 := by show (V.made + 1).toNat = _; omega
  have e2 : V.made.toNat = m := by omega
  unfold slotsL
  rw [e1, e2, List.range_succ, List.map_append]
  congr 1
  · apply List.map_congr_left
    intro i hi
    have hi' := List.mem_range.1 hi
    unfold slotV
    rw [hset, hget]
    have hne : ¬ (V.made + 1 = (i : Int) + 1) := by omega
    have hne2 : ¬ ((i : Int) + 1 = V.made + 1) := by omega
    cases aget V.files ((i : Int) + 1) with
    | some F => simp only [Option.isSome_some, if_true, hne2, if_false]
    | none => simp only [hne, if_false, Option.isSome_none, Bool.false_eq_true]
  · simp only [List.map_cons, List.map_nil]
    unfold slotV
    rw [hset, hget, show ((m : Int) + 1) = V.made + 1 by omega, hnone]
    simp only [if_true, Option.isSome_some]
    rfl

set_option maxHeartbeats 1000000 in
theorem rmake_c {w : World} {rb : Nat} {S : Nat → Prop} {n : Int} {V : PoolV} (h : RPoolAt w rb S n V) (hm : V.made ≤ 1000000) :
    Calls Try.prog 13 #[.pointer (some ⟨rb, 0, none⟩)] w fun r w' => r = .returned (.int .i64 (V.made + 1)) ∧ ∃ S', RPoolAt w' rb S' n V.file ∧ Turn w S w' S' := by
  obtain ⟨v, xa, fs, h1, h2, h3, h4, h5, h6, h7⟩ := h.ex
  obtain ⟨sa, cap, rfl, hc⟩ := rows_val2 h2
  obtain ⟨m, hmm⟩ : ∃ m : Nat, m = V.made.toNat := ⟨_, rfl⟩
  have hmi : V.made = m := by have := h.ok.made0; omega
  rw [← hmm] at h1 h2 h3 h6 hc
  have c0 : w.cell? ⟨rb, 1, none⟩ = some (.slice sa m cap) := by rw [cell_blk h1]; rfl
  have hm6 : m ≤ 1000000 := by omega
  obtain ⟨pi, pi1, pi2, pi3, pi4⟩ := pf_info
  have PI := Lib.hid (And.intro pi1 (And.intro pi2 (And.intro pi3 pi4)))
  have ka := Keep.alloc w (.cells Try.zeroCells89 89) (fun _ => False)
  have ga := heap_alloc_eq w (.cells Try.zeroCells89 89)
  have za : (w.alloc (.cells Try.zeroCells89 89)).heap.size = w.heap.size + 1 := by simp
  have kb := Keep.alloc (w.alloc (.cells Try.zeroCells89 89)) (.cells #[.pointer (some ⟨w.heap.size, 0, none⟩)] 86) (fun _ => False)
  have hnew := cells_new (w.alloc (.cells Try.zeroCells89 89)) [.pointer (some ⟨w.heap.size, 0, none⟩)] 86
  rw [za] at hnew
  have kab := ka.trans kb (fun _ q => q.elim)
  have hrow := rows_keep h2 kab (fun _ _ q => q)
  have gb := kb.get ga (fun q => q)
  have bb := kab.get h1 (fun q => q)
  have hsz : w.heap.size + 1 ≤ ((w.alloc (.cells Try.zeroCells89 89)).alloc (.cells #[.pointer (some ⟨w.heap.size, 0, none⟩)] 86)).heap.size := by have := kb.size; omega
  have H := Lib.hid (And.intro h (And.intro h1 (And.intro h2 (And.intro h3 (And.intro h4 (And.intro h5 (And.intro h6 h7)))))))
  have HM := Lib.hid (And.intro hmm hmi)
  have HA := Lib.hid (And.intro hnew (And.intro kab (And.intro hrow (And.intro gb (And.intro bb hsz)))))
  rw [hmi]
  clear h h1 h2 h3 h4 h5 h6 h7 hmm hmi pi1 pi2 pi3 pi4 hm ka ga za kb hnew kab hrow gb bb hsz
  go_enter Try.func13, Try.ntmps13
  go_upto_region 2 with (
    at_builtin
    refine law_append_row rfl _ _ _ rfl Try.underlying79 PI.out.1 PI.out.2.1 PI.out.2.2.1 PI.out.2.2.2 pf_cells (by decide) rfl HA.out.2.2.1 [.pointer (some ⟨w.heap.size, 0, none⟩)] rfl rfl (.inr ⟨_, rfl, HA.out.1⟩) (fun u hu => by rw [List.mem_singleton.1 hu]; rfl) (by omega) ?_
    intro sa8 cap8 w8 r1 r2 r3
    have B8 := r2.get HA.out.2.2.2.2.1 (fun e => (H.out.2.2.2.1 rb e.symm).2 rfl)
    have d0 : w8.cell? ⟨rb, 1, none⟩ = some (.slice sa m cap) := by rw [cell_blk B8]; rfl
    have g0 : w8.frozen? ⟨rb, 1, none⟩ = false := free_blk B8 _
    have r2' : Keep w w8 (fun b => some b = (Value.slice sa m cap).ownBlock) := (HA.out.2.1.mono (T := fun b => some b = (Value.slice sa m cap).ownBlock) (fun _ q => q.elim)).trans r2 (fun b q => .inl q)
    have gz : w8.heap[w.heap.size]? = some (.cells Try.zeroCells89 89 (0, 0)) := r2.get HA.out.2.2.2.1 (fun e => by have := H.out.1.lt _ (H.out.2.2.2.1 _ e.symm).1; omega)
    have hs8 : w.heap.size + 1 ≤ w8.heap.size := Nat.le_trans HA.out.2.2.2.2.2 r2.size
    have r3' : ∀ b, (Value.slice sa8 (m + 1) cap8).ownBlock = some b → (Value.slice sa m cap).ownBlock = some b ∨ w.heap.size + 1 ≤ b := fun b q => (r3 b q).imp id (fun z => by rw [z]; exact HA.out.2.2.2.2.2)
    have N8 := Lib.hid (And.intro r1 (And.intro r2' (And.intro r3' (And.intro B8 (And.intro gz hs8)))))
    clear r2' r3' gz hs8
    clear r1 r2 r3 B8)
  obtain ⟨wz, hwz⟩ : ∃ wz, wz = w8.setCell ⟨rb, 1, none⟩ (.slice sa8 (m + 1) cap8) := ⟨_, rfl⟩
  rw [← hwz]
  have hz1 : wz.heap[rb]? = some (.cells #[.int .i64 n, .slice sa8 (m + 1) cap8] 81 (0, 0)) := by
    rw [hwz]
    exact heap_setCell_eq (off := 1) (.slice sa8 (m + 1) cap8) N8.out.2.2.2.1
  have e1 : wz.cell? ⟨rb, 1, none⟩ = some (.slice sa8 (m + 1) cap8) := by rw [cell_blk hz1]; rfl
  have HZ := Lib.hid (And.intro hwz hz1)
  clear hwz hz1 d0 g0 c0
  go_wp2
  go_ret
  refine ⟨rfl, ?_⟩
  obtain ⟨h, h1, h2, h3, h4, h5, h6, h7⟩ := H.out
  obtain ⟨r1, r2, r3, B8, gz, hs8⟩ := N8.out
  have kz : Keep w8 wz (fun b => b = rb) := by rw [HZ.out.1]; exact Keep.setCell _ _ _
  have hrb := h.lt _ h4
  have hm1 : V.made + 1 = (m : Int) + 1 := by rw [HM.out.2]
  have hne : ∀ x ∈ V.files, ¬ x.1 = V.made + 1 := fun x hx e => by have := h.ok.keys x hx; omega
  have hset : V.file.files = V.files ++ [(V.made + 1, FileV.empty)] := aset_new _ _ _ (fun q => by
    obtain ⟨x, hx, e⟩ := List.mem_map.1 q
    exact hne x hx e)
  have hown : ∀ b, (Value.slice sa8 (m + 1) cap8).ownBlock = some b → b ≠ rb ∧ b ≠ w.heap.size := fun b q => by
    rcases r3 b q with z | z
    · have := h3 b z
      exact ⟨this.2, fun e => by have := h.lt _ this.1; omega⟩
    · exact ⟨by omega, by omega⟩
  have hrw := rows_keep r1 kz (fun b q e => (hown b q).1 e)
  have gz2 := kz.get gz (fun e => by omega)
  have hin : ∀ x, x ∈ V.file.files → (x ∈ V.files ∧ ¬ x.1 = V.made + 1) ∨ x = (V.made + 1, FileV.empty) := fun x hx => by
    rw [hset] at hx
    rcases List.mem_append.1 hx with hx | hx
    · exact .inl ⟨hx, hne x hx⟩
    · exact .inr (List.mem_singleton.1 hx)
  have kwz : Keep w wz (fun b => some b = (Value.slice sa m cap).ownBlock ∨ b = rb) := (r2.mono (fun b q => .inl q)).trans kz (fun b q => .inl (.inr q))
  refine ⟨fun b => S b ∨ b = w.heap.size ∨ (Value.slice sa8 (m + 1) cap8).ownBlock = some b, ⟨h.ok.file, ⟨.slice sa8 (m + 1) cap8, fun k => if k = V.made + 1 then w.heap.size else xa k, fun k => if k = V.made + 1 then (fun b => b = w.heap.size) else fs k, HZ.out.2, ?_, fun b q => ⟨.inr (.inr q), (hown b q).1⟩, .inl h4, fun x hx => ?_, fun x hx b q => ?_, fun x hx y hy hxy b q z => ?_⟩, fun b q => ?_⟩, ⟨kwz.mono fun b q => ?_, fun b q => ?_⟩⟩
  · have e : V.file.made.toNat = m + 1 := by show (V.made + 1).toNat = _; omega
    rw [e, slotsL_file h.ok]
    exact hrw
  · rcases hin x hx with ⟨hx, hn⟩ | rfl
    · simp only [if_neg hn]
      refine (h5 x hx).keep kwz (fun b q e => ?_)
      have := h6 x hx b q
      rcases e with e | e
      · exact this.2.2 e.symm
      · exact this.2.1 e
    · simp only [if_true]
      rw [zero_file] at gz2
      exact ⟨FileV.empty_ok, fun _ _ => rfl, ⟨.slice none 0 0, gz2, rows_nil _ _ _, fun b q => by simp [Value.ownBlock] at q, rfl⟩, fun b q => by rw [show b = w.heap.size from q]; exact lt_of_blk gz2⟩
  · rcases hin x hx with ⟨hx, hn⟩ | rfl
    · simp only [if_neg hn] at q
      have := h6 x hx b q
      refine ⟨.inl this.1, this.2.1, fun e => ?_⟩
      rcases r3 b e with z | z
      · exact this.2.2 z
      · have := h.lt _ this.1; omega
    · simp only [if_true] at q
      exact ⟨.inr (.inl q), by omega, fun e => (hown b e).2 q⟩
  · rcases hin x hx with ⟨hx, hn⟩ | rfl
    · simp only [if_neg hn] at q
      rcases hin y hy with ⟨hy, hn2⟩ | rfl
      · simp only [if_neg hn2] at z
        exact h7 x hx y hy hxy b q z
      · simp only [if_true] at z
        have := h.lt _ (h6 x hx b q).1
        omega
    · simp only [if_true] at q
      rcases hin y hy with ⟨hy, hn2⟩ | rfl
      · simp only [if_neg hn2] at z
        have := h.lt _ (h6 y hy b z).1
        omega
      · exact hxy rfl
  · rcases q with q | q | q
    · exact Nat.lt_of_lt_of_le (h.lt b q) kwz.size
    · rw [q]; exact lt_of_blk gz2
    · rcases rows_val hrw with ⟨e, _⟩ | ⟨g, cp, e, _, e5, e6⟩
      · rw [e] at q; simp [Value.ownBlock] at q
      · rw [e5] at q; cases q; exact e6
  · rcases q with q | q
    · exact (h3 b q.symm).1
    · rw [q]; exact h4
  · rcases q with q | q | q
    · exact .inl q
    · exact .inr (by omega)
    · rcases r3 b q with z | z
      · exact .inl (h3 b z).1
      · exact .inr (by omega)

end Go.Proofs.Ytemoickagefjmaa
