/-
  The contracts of the calls of a pool that turn it.
-/
import Derived.Test.YtnjfcedkfobbcaaGreatBlock
import Derived.RegionTactic
import Derived.BigRegion
namespace Go.Proofs.YtnjfcedkfobbcaaGreat
open Go Go.RowKit
set_option linter.unusedSectionVars false
set_option linter.unusedSimpArgs false
set_option linter.unusedVariables false
set_option maxRecDepth 100000

theorem aset_map_const {α : Type} (L : List (Int × α)) (g : Int → Value) (f : Int) (v : α) (h : f ∈ L.map Prod.fst) : (aset L f v).map (fun x => (x.1, g x.1)) = L.map (fun x => (x.1, g x.1)) := by
  induction L with
  | nil => simp at h
  | cons x r ih =>
    obtain ⟨a, u⟩ := x
    simp only [aset]
    by_cases ha : a = f
    · rw [if_pos ha]; rfl
    · rw [if_neg ha]
      simp only [List.map_cons, List.mem_cons] at h ⊢
      rw [ih (h.resolve_left (fun e => ha e.symm))]

theorem mem_aset {α : Type} {L : List (Int × α)} {f : Int} {v : α} {x : Int × α} (hn : (L.map Prod.fst).Nodup) (h : x ∈ aset L f v) : x = (f, v) ∨ (x ∈ L ∧ x.1 ≠ f) := by
  induction L with
  | nil => simp [aset] at h; exact .inl h
  | cons y r ih =>
    obtain ⟨a, u⟩ := y
    simp only [List.map_cons, List.nodup_cons] at hn
    simp only [aset] at h
    by_cases ha : a = f
    · rw [if_pos ha] at h
      subst ha
      rcases List.mem_cons.1 h with h | h
      · exact .inl h
      · refine .inr ⟨List.mem_cons_of_mem _ h, fun e => hn.1 ?_⟩
        exact e ▸ List.mem_map_of_mem h
    · rw [if_neg ha] at h
      rcases List.mem_cons.1 h with h | h
      · exact .inr ⟨by simp [h], by rw [h]; exact ha⟩
      · rcases ih hn.2 h with q | q
        · exact .inl q
        · exact .inr ⟨List.mem_cons_of_mem _ q.1, q.2⟩

theorem mem_aset_of {α : Type} (L : List (Int × α)) (f : Int) (v : α) : (f, v) ∈ aset L f v := by
  induction L with
  | nil => simp [aset]
  | cons y r ih =>
    obtain ⟨a, u⟩ := y
    simp only [aset]
    split
    · rename_i h; subst h; simp
    · exact List.mem_cons_of_mem _ ih

theorem mem_aset_other {α : Type} {L : List (Int × α)} {f : Int} {v : α} {x : Int × α} (h : x ∈ L) (hx : x.1 ≠ f) : x ∈ aset L f v := by
  induction L with
  | nil => simp at h
  | cons y r ih =>
    obtain ⟨a, u⟩ := y
    simp only [aset]
    split
    · rename_i ha
      rcases List.mem_cons.1 h with h | h
      · subst h; exact absurd ha hx
      · exact List.mem_cons_of_mem _ h
    · rcases List.mem_cons.1 h with h | h
      · rw [h]; exact List.mem_cons_self
      · exact List.mem_cons_of_mem _ (ih h)

theorem mem_adel {α : Type} {L : List (Int × α)} {f : Int} {x : Int × α} (hn : (L.map Prod.fst).Nodup) (h : x ∈ adel L f) : x ∈ L ∧ x.1 ≠ f := by
  induction L with
  | nil => simp [adel] at h
  | cons y r ih =>
    obtain ⟨a, u⟩ := y
    simp only [List.map_cons, List.nodup_cons] at hn
    simp only [adel] at h
    by_cases ha : a = f
    · rw [if_pos ha] at h
      subst ha
      exact ⟨List.mem_cons_of_mem _ h, fun e => hn.1 (e ▸ List.mem_map_of_mem h)⟩
    · rw [if_neg ha] at h
      rcases List.mem_cons.1 h with h | h
      · exact ⟨by simp [h], by rw [h]; exact ha⟩
      · exact ⟨List.mem_cons_of_mem _ (ih hn.2 h).1, (ih hn.2 h).2⟩

theorem adel_map {α : Type} (L : List (Int × α)) (g : Int → Value) (f : Int) : (adel L f).map (fun x => (x.1, g x.1)) = adel (L.map (fun x => (x.1, g x.1))) f := by
  induction L with
  | nil => rfl
  | cons x r ih =>
    obtain ⟨a, u⟩ := x
    simp only [adel, List.map_cons]
    split
    · rfl
    · rw [List.map_cons, ih]

/-- One file of a pool has turned, and how many blocks are left. -/
theorem pool_turn {w w' : World} {pb mf : Nat} {S T : Nat → Prop} {V : PoolV} {xa : Int → Nat} {fs : Int → Nat → Prop} {f l' : Int} {F F' : FileV}
    (h2 : MapAt w mf kInt (V.files.map fun x => (x.1, ptr (xa x.1))))
    (h3 : ∀ x ∈ V.files, FileAt w (xa x.1) (fs x.1) x.2)
    (h4 : ∀ x ∈ V.files, ¬ fs x.1 pb ∧ ¬ fs x.1 mf)
    (h5 : ∀ x ∈ V.files, ∀ y ∈ V.files, x.1 ≠ y.1 → ∀ b, fs x.1 b → ¬ fs y.1 b)
    (h6 : ∀ b, S b ↔ b = pb ∨ b = mf ∨ ∃ x ∈ V.files, fs x.1 b)
    (hne : pb ≠ mf) (hpb : pb < w.heap.size)
    (hg : aget V.files f = some F) (k : Keep w w' (fun b => b = pb ∨ fs f b))
    (hp : w'.heap[pb]? = some (.cells #[.int .i64 l', .map (some mf), .int .i64 V.made] 96 (0, 0)))
    (hF : FileAt w' (xa f) T F') (hT : ∀ b, T b → fs f b ∨ w.heap.size ≤ b) :
    ∃ S', PoolAt w' pb S' { V with left := l', files := aset V.files f F' } ∧ Turn w S w' S' := by
  have hmem := aget_mem hg
  have hnd : (V.files.map Prod.fst).Nodup := by
    have := h2.nodup
    simpa [List.map_map, Function.comp_def] using this
  have hf : f ∈ V.files.map Prod.fst := List.mem_map_of_mem (f := Prod.fst) hmem
  have hmf := h2.lt
  have hmfs := (h4 _ hmem).2
  refine ⟨fun b => b = pb ∨ b = mf ∨ ∃ x ∈ aset V.files f F', (if x.1 = f then T b else fs x.1 b), ⟨mf, xa, fun x b => if x = f then T b else fs x b, hp, ?_, ?_, ?_, ?_, fun b => Iff.rfl⟩, ⟨?_, ?_⟩⟩
  · show MapAt w' mf kInt ((aset V.files f F').map fun x => (x.1, ptr (xa x.1)))
    rw [aset_map_const V.files (fun x => ptr (xa x)) f F' hf]
    exact h2.keep k (fun q => q.elim (fun e => hne e.symm) hmfs)
  · intro x hx
    rcases mem_aset hnd hx with rfl | ⟨hx, hxf⟩
    · simpa using hF
    · have := (h3 x hx).keep k (fun b hb q => q.elim (fun e => (h4 x hx).1 (e ▸ hb)) (fun q => h5 x hx _ hmem hxf b hb q))
      simpa [hxf] using this
  · intro x hx
    rcases mem_aset hnd hx with rfl | ⟨hx, hxf⟩
    · simp only [if_true]
      exact ⟨fun q => (hT _ q).elim (h4 _ hmem).1 (fun q => by omega), fun q => (hT _ q).elim hmfs (fun q => by omega)⟩
    · simp only [hxf, if_false]; exact h4 x hx
  · intro x hx y hy hxy b
    rcases mem_aset hnd hx with rfl | ⟨hx, hxf⟩ <;> rcases mem_aset hnd hy with rfl | ⟨hy, hyf⟩
    · exact absurd rfl hxy
    · simp only [if_true, hyf, if_false]
      intro q r
      rcases hT _ q with q | q
      · exact h5 _ hmem y hy (fun e => hyf e.symm) b q r
      · have := (h3 y hy).lt r; omega
    · simp only [if_true, hxf, if_false]
      intro q r
      rcases hT _ r with r | r
      · exact h5 x hx _ hmem hxf b q r
      · have := (h3 x hx).lt q; omega
    · simp only [hxf, hyf, if_false]; exact h5 x hx y hy hxy b
  · refine k.mono ?_
    rintro b (rfl | q)
    · exact (h6 _).2 (.inl rfl)
    · exact (h6 _).2 (.inr (.inr ⟨_, hmem, q⟩))
  · rintro b (rfl | rfl | ⟨x, hx, q⟩)
    · exact .inl ((h6 _).2 (.inl rfl))
    · exact .inl ((h6 _).2 (.inr (.inl rfl)))
    · rcases mem_aset hnd hx with rfl | ⟨hx, hxf⟩
      · simp only [if_true] at q
        rcases hT _ q with q | q
        · exact .inl ((h6 _).2 (.inr (.inr ⟨_, hmem, q⟩)))
        · exact .inr q
      · simp only [hxf, if_false] at q
        exact .inl ((h6 _).2 (.inr (.inr ⟨x, hx, q⟩)))

/-! ### New -/
theorem new_c (w : World) (n : Int) (h0 : 0 ≤ n) (h1 : n ≤ 256) :
    Calls Tryz.prog 11 #[.int .i64 n] w fun e w' => ∃ pb S, e = .returned (.tuple #[ptr pb, .int .i64 0]) ∧ PoolAt w' pb S ⟨n, 0, []⟩ ∧ Turn w (fun _ => False) w' S := by
  have hmm := @run_makeMap Tryz.prog
  go_enter Tryz.func11, Tryz.ntmps11
  go_wp2
  go_ret2
  refine ⟨w.heap.size + 1, fun b => b = w.heap.size + 1 ∨ b = w.heap.size, rfl, ⟨w.heap.size, fun _ => 0, fun _ _ => False, ?_, ?_, by simp, by simp, by simp, by simp⟩, ⟨?_, ?_⟩⟩
  · have := heap_alloc_eq (w.alloc (.map #[] 0)) (.cells #[.int .i64 n, .map (some w.heap.size), .int .i64 0] 96)
    simpa using this
  · refine MapAt.made ?_
    have h := heap_alloc_eq w (.map #[] 0)
    exact (Keep.alloc (w.alloc (.map #[] 0)) _ (fun _ => False)).get h (fun q => q)
  · exact (Keep.alloc w (.map #[] 0) _).trans (Keep.alloc _ _ (fun _ => False)) (fun b q => .inl q)
  · rintro b (h | h) <;> subst h <;> right <;> omega

theorem new_bad_c (w : World) (n : Int) (h : n < 0 ∨ 256 < n) :
    Calls Tryz.prog 11 #[.int .i64 n] w fun e w' => e = .returned (.tuple #[.pointer none, .int .i64 1]) ∧ w = w' := by
  rcases h with h | h
  · go_enter Tryz.func11, Tryz.ntmps11
    go_wp2
    go_ret2
    exact ⟨rfl, rfl⟩
  · have h' : ¬ n < 0 := by omega
    go_enter Tryz.func11, Tryz.ntmps11
    go_wp2
    go_ret2
    exact ⟨rfl, rfl⟩

/-! ### lacks -/
def cnt (F : FileV) (a : Int) (j : Nat) : Nat := (((List.range j).map fun (i : Nat) => a + i).filter (fun k => !decide (k ∈ F.keys))).length

theorem cnt_succ (F : FileV) (a : Int) (j : Nat) : cnt F a (j + 1) = cnt F a j + if a + j ∈ F.keys then 0 else 1 := by
  unfold cnt
  rw [List.range_succ, List.map_append, List.filter_append, List.length_append]
  by_cases h : a + (j : Int) ∈ F.keys <;> simp [h]

theorem cnt_le (F : FileV) (a : Int) (j : Nat) : cnt F a j ≤ j := by
  unfold cnt
  have := List.length_filter_le (fun k => !decide (k ∈ F.keys)) ((List.range j).map fun (i : Nat) => a + i)
  simpa using this

theorem blocks_look {w : World} {bm : Nat} {keys : List Int} {ad : Int → Nat} (h : MapAt w bm kInt (keys.map fun k => (k, ptr (ad k)))) (k : Int) :
    (Instr.lookup 125 (.map (some bm)) (.int .i64 k) false).run Tryz.prog w = .ok (if k ∈ keys then ptr (ad k) else .pointer none) w := by
  have l := lookup_run (P := Tryz.prog) kFiles tBlocks zBlock h k false
  simp only [Bool.false_eq_true, if_false, aget_keys keys (fun k => ptr (ad k)), kInt] at l
  rw [l]
  split <;> rfl

set_option maxHeartbeats 400000 in
theorem lacks_c {w : World} {xb : Nat} {S : Nat → Prop} {F : FileV} (h : FileAt w xb S F) (p e : Int) (h0 : 0 ≤ p) (h1 : p < e) (h2 : e ≤ 1024) :
    Calls Tryz.prog 94 #[ptr xb, .int .i64 p, .int .i64 e] w fun r w' => r = .returned (.int .i64 (F.lacks p e)) ∧ w = w' := by
  obtain ⟨hok, bm, ad, g1, g2, g3, g4, g5⟩ := h
  have c1 : w.cell? ⟨xb, 1, none⟩ = some (.map (some bm)) := by rw [cell_blk g1]; rfl
  have hl := Lib.hid (blocks_look g2)
  clear g1 g2 g3 g4 g5 hok
  unfold ptr at *
  have e1 : 0 ≤ e - 1 := by omega
  go_enter Tryz.func94, Tryz.ntmps94
  go_wp2
  go_loop [7, 8] (fun n k => ∃ j : Nat, (j : Int) ≤ (e - 1) / 16 + 1 - p / 16 ∧ k = .int .i64 (p / 16 + j) ∧ n = .int .i64 (cnt F (p / 16) j)) (fun _ k => ((e - 1) / 16 + 1 - intOf k).toNat)
  case atStart => exact ⟨0, by omega, by simp, by simp [cnt]⟩
  case round =>
    obtain ⟨j, hj, rfl, rfl⟩ := hrel
    have hc := cnt_le F (p / 16) j
    by_cases hlt : p / 16 + j ≤ (e - 1) / 16
    · have hs := cnt_succ F (p / 16) j
      have hk := hl.out (p / 16 + j)
      by_cases hm : p / 16 + (j : Int) ∈ F.keys
      · rw [if_pos hm] at hk hs
        have hs' := Lib.hid hs
        clear hs hm
        go_wp2
        go_round
        case rel => exact ⟨j + 1, by omega, by go_num, by rw [hs'.out]; rfl⟩
        case measure => simp [intOf]; omega
      · rw [if_neg hm] at hk hs
        have hs' := Lib.hid hs
        clear hs hm
        go_wp2
        go_round
        case rel => exact ⟨j + 1, by omega, by go_num, by rw [hs'.out]; go_num⟩
        case measure => simp [intOf]; omega
    · go_wp2
      go_ret
      refine ⟨?_, rfl⟩
      unfold FileV.lacks span
      have : ((e - 1) / 16 + 1 - p / 16).toNat = j := by omega
      rw [this]; rfl

end Go.Proofs.YtnjfcedkfobbcaaGreat
