/-
  The contracts of File, Drop, Cut.
-/
import Derived.Test.YtnjfcedkfobbcaaGreatBlock5
import Derived.StillTailTactics
import Derived.Deep.QuietTactic
namespace Go.Proofs.YtnjfcedkfobbcaaGreat
open Go Go.RowKit
set_option linter.unusedSectionVars false
set_option linter.unusedSimpArgs false
set_option linter.unusedVariables false
set_option maxRecDepth 100000

theorem keys_len {F : FileV} (h : F.ok) : F.keys.length ≤ 64 := by
  have hp : F.keys.Perm ((span 0 63).filter fun k => decide (k ∈ F.keys)) := by
    rw [List.perm_ext_iff_of_nodup h.2.2.1 ((span_nodup _ _).filter _)]
    intro x
    rw [List.mem_filter, mem_span]
    constructor
    · intro hx; have := h.2.2.2.1 x hx; exact ⟨by omega, by simpa using hx⟩
    · intro hx; simpa using hx.2
  have h1 := hp.length_eq
  have h2 := List.length_filter_le (fun k => decide (k ∈ F.keys)) (span 0 63)
  have h3 : (span 0 63).length = 64 := by simp [span]
  omega

theorem pb_ne {w : World} {pb mf : Nat} {c : Array Value} {T : TypeId} {fr : Nat × Nat} {L : List (Int × Value)} (h1 : w.heap[pb]? = some (.cells c T fr)) (h2 : MapAt w mf kInt L) : mf ≠ pb := by
  rintro rfl
  obtain ⟨B, cl, hB⟩ := h2
  have := hB.2.1
  rw [h1] at this
  simp at this

set_option maxHeartbeats 1000000 in
theorem drop_ok {w : World} {pb : Nat} {S : Nat → Prop} {V : PoolV} (h : PoolAt w pb S V) (f : Int) {F : FileV} (hg : aget V.files f = some F) (q0 : 0 ≤ V.left) (q1 : V.left ≤ 256) :
    Calls Tryz.prog 92 #[ptr pb, .int .i64 f] w fun r w' => r = .returned (.int .i64 0) ∧
      ∃ S', PoolAt w' pb S' { V with left := V.left + F.keys.length, files := adel V.files f } ∧ Turn w S w' S' := by
  obtain ⟨mf, xa, fs, h1, h2, h3, h4, h5, h6⟩ := h
  have c1 : w.cell? ⟨pb, 1, none⟩ = some (.map (some mf)) := by rw [cell_blk h1]; rfl
  have c0 : w.cell? ⟨pb, 0, none⟩ = some (.int .i64 V.left) := by rw [cell_blk h1]; rfl
  have f0 : w.frozen? ⟨pb, 0, none⟩ = false := free_blk h1 0
  have lk := pool_look (pb := pb) h2 f
  rw [hg] at lk
  have hF := h3 _ (aget_mem hg)
  obtain ⟨hok, bm, ad, g1, g2, g3, g4, g5⟩ := hF
  have cx : w.cell? ⟨xa f, 1, none⟩ = some (.map (some bm)) := by rw [cell_blk g1]; rfl
  have hlen := len_run (P := Tryz.prog) tBlocks g2.drew 3
  simp only [List.length_map] at hlen
  have hkl : F.keys.length ≤ 64 := keys_len hok
  have H := Lib.hid (And.intro h1 (And.intro h2 (And.intro h3 (And.intro h4 (And.intro h5 h6)))))
  have Hg := Lib.hid hg
  clear h1 h2 h3 h4 h5 h6 hg g1 g2 g3 g4 g5 hok
  unfold ptr at *
  go_enter Tryz.func92, Tryz.ntmps92
  go_wp2
  go_region
  go_wp2_with (
    at_delete
    obtain ⟨B, cl, hB⟩ := H.out.2.1.keep ((Keep.setCell w ⟨pb, 0, none⟩ (.int .i64 (V.left + (F.keys.length : Int)))).trans (Keep.drew _ (fun b => b = pb)) (fun b q => .inl q)) (pb_ne H.out.1 H.out.2.1)
    refine law_delete rfl _ _ _ _ rfl kFiles tFiles rfl hB f rfl ?_
    intro w1 B' hB1 hB2 hk1
    have HB := Lib.hid (And.intro hB1 hk1)
    clear hB hB1 hB2 hk1)
  go_ret
  obtain ⟨hB1, hk1⟩ := HB.out
  obtain ⟨h1, h2, h3, h4, h5, h6⟩ := H.out
  have hnd : (V.files.map Prod.fst).Nodup := by
    have := h2.nodup
    simpa [List.map_map, Function.comp_def] using this
  have hk0 : Keep w (w.setCell ⟨pb, 0, none⟩ (.int .i64 (V.left + (F.keys.length : Int)))).drew (fun b => b = pb) := (Keep.setCell _ _ _).trans (Keep.drew _ (fun b => b = pb)) (fun b q => .inl q)
  have hne := pb_ne h1 h2
  have hk : Keep w w1 (fun b => b = pb ∨ b = mf) := (hk0.mono (fun b q => .inl q)).trans hk1 (fun b q => .inl (.inr q))
  refine ⟨rfl, fun b => b = pb ∨ b = mf ∨ ∃ x ∈ adel V.files f, fs x.1 b, ⟨mf, xa, fs, ?_, ?_, ?_, ?_, ?_, fun b => Iff.rfl⟩, ⟨hk.mono ?_, ?_⟩⟩
  · refine hk1.get ?_ (fun e => hne e.symm)
    exact heap_setCell_eq _ h1
  · have e : (adel V.files f).map (fun x => (x.1, ptr (xa x.1))) = adel (V.files.map fun x => (x.1, ptr (xa x.1))) f := adel_map _ (fun k => ptr (xa k)) f
    show MapAt w1 mf kInt ((adel V.files f).map fun x => (x.1, ptr (xa x.1)))
    rw [e]
    exact ⟨B', cl, hB1⟩
  · intro x hx
    have hx' := mem_adel hnd hx
    refine (h3 x hx'.1).keep hk ?_
    rintro b q (rfl | rfl)
    · exact (h4 x hx'.1).1 q
    · exact (h4 x hx'.1).2 q
  · exact fun x hx => h4 x (mem_adel hnd hx).1
  · exact fun x hx y hy => h5 x (mem_adel hnd hx).1 y (mem_adel hnd hy).1
  · rintro b (rfl | rfl)
    · exact (h6 _).2 (.inl rfl)
    · exact (h6 _).2 (.inr (.inl rfl))
  · rintro b (q | q | ⟨x, hx, q⟩)
    · exact .inl ((h6 _).2 (.inl q))
    · exact .inl ((h6 _).2 (.inr (.inl q)))
    · exact .inl ((h6 _).2 (.inr (.inr ⟨x, (mem_adel hnd hx).1, q⟩)))

theorem drop_none {w : World} {pb : Nat} {S : Nat → Prop} {V : PoolV} (h : PoolAt w pb S V) (f : Int) (hg : aget V.files f = none) :
    Calls Tryz.prog 92 #[ptr pb, .int .i64 f] w fun r w' => r = .returned (.int .i64 1) ∧ w = w' := by
  obtain ⟨mf, xa, fs, h1, h2, h3, h4, h5, h6⟩ := h
  have c1 : w.cell? ⟨pb, 1, none⟩ = some (.map (some mf)) := by rw [cell_blk h1]; rfl
  have lk := pool_look (pb := pb) h2 f
  rw [hg] at lk
  clear h1 h2 h3 h4 h5 h6 hg
  unfold ptr at *
  go_enter Tryz.func92, Tryz.ntmps92
  go_wp2
  go_ret
  exact ⟨rfl, rfl⟩

set_option maxHeartbeats 1000000 in
theorem file_c {w : World} {pb : Nat} {S : Nat → Prop} {V : PoolV} (h : PoolAt w pb S V) (q0 : 0 ≤ V.made) (q1 : V.made ≤ 1073741824) (q2 : ∀ x ∈ V.files, x.1 ≤ V.made) :
    Calls Tryz.prog 53 #[ptr pb] w fun r w' => r = .returned (.int .i64 (V.made + 1)) ∧ ∃ S', PoolAt w' pb S' V.file ∧ Turn w S w' S' := by
  obtain ⟨mf, xa, fs, h1, h2, h3, h4, h5, h6⟩ := h
  have c1 : w.cell? ⟨pb, 1, none⟩ = some (.map (some mf)) := by rw [cell_blk h1]; rfl
  have c2 : w.cell? ⟨pb, 2, none⟩ = some (.int .i64 V.made) := by rw [cell_blk h1]; rfl
  have f2 : w.frozen? ⟨pb, 2, none⟩ = false := free_blk h1 2
  have hmm := @run_makeMap Tryz.prog
  have hpl := lt_of_blk h1
  obtain ⟨w1, hup, hm1, hk1⟩ := update_run (P := Tryz.prog) (w := (((w.setCell ⟨pb, 2, none⟩ (.int .i64 (V.made + 1))).alloc (.map #[] 0)).alloc (.cells #[.int .i64 0, .map (some w.heap.size)] 127)).drew)
    kFiles tFiles (((h2.keep (Keep.setCell w ⟨pb, 2, none⟩ _) (pb_ne h1 h2)).keep (Keep.alloc _ _ (fun _ => False)) (fun q => q)).keep (Keep.alloc _ _ (fun _ => False)) (fun q => q)).drew (V.made + 1) (ptr (w.heap.size + 1))
  unfold kInt at hup
  have hne := pb_ne h1 h2
  have hmf := h2.lt
  have hpb1 : w1.heap[pb]? = some (.cells #[.int .i64 V.left, .map (some mf), .int .i64 (V.made + 1)] 96 (0, 0)) := by
    refine hk1.get ?_ (fun e => hne e.symm)
    refine (Keep.drew _ (fun _ => False)).get ?_ (fun q => q)
    refine (Keep.alloc _ _ (fun _ => False)).get ?_ (fun q => q)
    refine (Keep.alloc _ _ (fun _ => False)).get ?_ (fun q => q)
    exact heap_setCell_eq _ h1
  have hx1 : w1.heap[w.heap.size + 1]? = some (.cells #[.int .i64 0, .map (some w.heap.size)] 127 (0, 0)) := by
    refine hk1.get ?_ (by omega)
    refine (Keep.drew _ (fun _ => False)).get ?_ (fun q => q)
    have := heap_alloc_eq ((w.setCell ⟨pb, 2, none⟩ (.int .i64 (V.made + 1))).alloc (.map #[] 0)) (.cells #[.int .i64 0, .map (some w.heap.size)] 127)
    simpa using this
  have hb1 : w1.heap[w.heap.size]? = some (.map #[] 0) := by
    refine hk1.get ?_ (by omega)
    refine (Keep.drew _ (fun _ => False)).get ?_ (fun q => q)
    refine (Keep.alloc _ _ (fun _ => False)).get ?_ (fun q => q)
    have := heap_alloc_eq (w.setCell ⟨pb, 2, none⟩ (.int .i64 (V.made + 1))) (.map #[] 0)
    simpa using this
  have c3 : w1.cell? ⟨pb, 2, none⟩ = some (.int .i64 (V.made + 1)) := by rw [cell_blk hpb1]; rfl
  have hk : Keep w w1 (fun b => b = pb ∨ b = mf) :=
    ((((Keep.setCell w ⟨pb, 2, none⟩ (.int .i64 (V.made + 1))).mono (T := fun b => b = pb ∨ b = mf) (fun b q => .inl q)).trans (Keep.alloc _ (.map #[] 0) (fun _ => False)) (fun b q => q.elim)).trans ((Keep.alloc _ _ (fun _ => False)).trans (Keep.drew _ (fun _ => False)) (fun b q => q.elim)) (fun b q => q.elim)).trans hk1 (fun b q => .inl (.inr q))
  have H := Lib.hid (And.intro h1 (And.intro h2 (And.intro h3 (And.intro h4 (And.intro h5 (And.intro h6 (And.intro hm1 (And.intro hk1 (And.intro hpb1 (And.intro hx1 (And.intro hb1 hk)))))))))))
  have Hne := Lib.hid hne
  have Q2 := Lib.hid q2
  clear h1 h2 h3 h4 h5 h6 hm1 hk1 hpb1 hx1 hb1 hk hne q2
  unfold ptr at *
  go_enter Tryz.func53, Tryz.ntmps53
  go_wp2
  go_region
  go_wp2
  go_ret
  obtain ⟨h1, h2, h3, h4, h5, h6, hm1, hk1, hpb1, hx1, hb1, hk⟩ := H.out
  have hne := Hne.out
  have hnew : V.made + 1 ∉ V.files.map Prod.fst := by
    intro hq
    obtain ⟨x, hx, e⟩ := List.mem_map.1 hq
    have := Q2.out x hx
    omega
  have hfile : V.file = { V with made := V.made + 1, files := V.files ++ [(V.made + 1, FileV.empty)] } := by
    unfold PoolV.file
    rw [aset_new _ _ _ hnew]
  have hxk : ∀ x ∈ V.files, x.1 ≠ V.made + 1 := fun x hx => by have := Q2.out x hx; omega
  have hltx : ∀ x ∈ V.files, ∀ b, fs x.1 b → b < w.heap.size := fun x hx b q => (h3 x hx).lt q
  refine ⟨rfl, fun b => b = pb ∨ b = mf ∨ ∃ x ∈ V.files ++ [(V.made + 1, FileV.empty)], (if x.1 = V.made + 1 then (b = w.heap.size + 1 ∨ b = w.heap.size) else fs x.1 b), ?_, ⟨hk.mono ?_, ?_⟩⟩
  · rw [hfile]
    refine ⟨mf, fun k => if k = V.made + 1 then w.heap.size + 1 else xa k, fun k b => if k = V.made + 1 then (b = w.heap.size + 1 ∨ b = w.heap.size) else fs k b, hpb1, ?_, ?_, ?_, ?_, fun b => Iff.rfl⟩
    · have e : (V.files ++ [(V.made + 1, FileV.empty)]).map (fun x => (x.1, ptr (if x.1 = V.made + 1 then w.heap.size + 1 else xa x.1))) = aset (V.files.map fun x => (x.1, ptr (xa x.1))) (V.made + 1) (ptr (w.heap.size + 1)) := by
        rw [aset_new _ _ _ (by simpa [List.map_map, Function.comp_def] using hnew), List.map_append]
        congr 1
        · exact List.map_congr_left (fun x hx => by rw [if_neg (hxk x hx)])
        · simp
      show MapAt w1 mf kInt ((V.files ++ [(V.made + 1, FileV.empty)]).map fun x => (x.1, ptr (if x.1 = V.made + 1 then w.heap.size + 1 else xa x.1)))
      rw [e]; exact hm1
    · intro x hx
      rcases List.mem_append.1 hx with hx | hx
      · simp only [hxk x hx, if_false]
        refine (h3 x hx).keep hk ?_
        rintro b q (rfl | rfl)
        · exact (h4 x hx).1 q
        · exact (h4 x hx).2 q
      · simp only [List.mem_singleton] at hx
        subst hx
        simp only [if_true]
        exact ⟨FileV.empty_ok, w.heap.size, fun _ => 0, hx1, by simpa [FileV.empty] using MapAt.made hb1, by simp [FileV.empty], by simp [FileV.empty], fun b => by simp [FileV.empty]⟩
    · intro x hx
      rcases List.mem_append.1 hx with hx | hx
      · simp only [hxk x hx, if_false]; exact h4 x hx
      · simp only [List.mem_singleton] at hx
        subst hx
        simp only [if_true]
        omega
    · intro x hx y hy hxy b
      rcases List.mem_append.1 hx with hx | hx <;> rcases List.mem_append.1 hy with hy | hy
      · simp only [hxk x hx, hxk y hy, if_false]; exact h5 x hx y hy hxy b
      · simp only [List.mem_singleton] at hy
        subst hy
        simp only [hxk x hx, if_false, if_true]
        intro q r
        have := hltx x hx b q
        omega
      · simp only [List.mem_singleton] at hx
        subst hx
        simp only [hxk y hy, if_false, if_true]
        intro q r
        have := hltx y hy b r
        omega
      · simp only [List.mem_singleton] at hx hy
        subst hx; subst hy
        exact absurd rfl hxy
  · rintro b (rfl | rfl)
    · exact (h6 _).2 (.inl rfl)
    · exact (h6 _).2 (.inr (.inl rfl))
  · rintro b (q | q | ⟨x, hx, q⟩)
    · exact .inl ((h6 _).2 (.inl q))
    · exact .inl ((h6 _).2 (.inr (.inl q)))
    · rcases List.mem_append.1 hx with hx | hx
      · simp only [hxk x hx, if_false] at q
        exact .inl ((h6 _).2 (.inr (.inr ⟨x, hx, q⟩)))
      · simp only [List.mem_singleton] at hx
        subst hx
        simp only [if_true] at q
        right; omega

end Go.Proofs.YtnjfcedkfobbcaaGreat
