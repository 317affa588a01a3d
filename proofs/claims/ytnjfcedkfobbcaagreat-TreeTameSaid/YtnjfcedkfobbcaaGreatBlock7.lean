/-
  The contract of Cut.
-/
import Derived.Test.YtnjfcedkfobbcaaGreatBlock6
import Derived.Deep.LoopGhost
namespace Go.Proofs.YtnjfcedkfobbcaaGreat
open Go Go.RowKit
set_option linter.unusedSectionVars false
set_option linter.unusedSimpArgs false
set_option linter.unusedVariables false
set_option maxRecDepth 100000

theorem cut_bad {w : World} {pb : Nat} {S : Nat → Prop} {V : PoolV} (h : PoolAt w pb S V) (f s e : Int)
    (hq : (aget V.files f = none ∧ e = 1) ∨ ∃ F, aget V.files f = some F ∧ ((s < 0 ∧ e = 39) ∨ (1024 < s ∧ e = 42))) :
    Calls Tryz.prog 80 #[ptr pb, .int .i64 f, .int .i64 s] w fun r w' => r = .returned (.int .i64 e) ∧ w = w' := by
  obtain ⟨mf, xa, fs, h1, h2, h3, h4, h5, h6⟩ := h
  have c1 : w.cell? ⟨pb, 1, none⟩ = some (.map (some mf)) := by rw [cell_blk h1]; rfl
  have lk := pool_look (pb := pb) h2 f
  rcases hq with ⟨hg, rfl⟩ | ⟨F, hg, hq⟩
  · rw [hg] at lk
    clear h1 h2 h3 h4 h5 h6 hg
    unfold ptr at *
    go_enter Tryz.func80, Tryz.ntmps80
    go_wp2
    go_ret
    exact ⟨rfl, rfl⟩
  · rw [hg] at lk
    clear h1 h2 h3 h4 h5 h6 hg
    unfold ptr at *
    rcases hq with ⟨q1, rfl⟩ | ⟨q1, rfl⟩
    · go_enter Tryz.func80, Tryz.ntmps80
      go_wp2
      go_ret
      exact ⟨rfl, rfl⟩
    · have q1' : ¬ s < 0 := by omega
      go_enter Tryz.func80, Tryz.ntmps80
      go_wp2
      go_ret
      exact ⟨rfl, rfl⟩

/-- A file of which the blocks at the places D have been gone through by Cut. -/
def FileV.cutD (F : FileV) (s : Int) (D : List Int) : FileV :=
  { size := F.size, keys := F.keys.filter (fun k => !(decide (k ∈ D) && decide (s ≤ k * 16))), byte := fun p => if p / 16 ∈ D ∧ s ≤ p then 0 else F.byte p }

theorem FileV.cutD_nil (F : FileV) (s : Int) : F.cutD s [] = F := by
  have e : F.keys.filter (fun k => !(decide (k ∈ ([] : List Int)) && decide (s ≤ k * 16))) = F.keys := List.filter_eq_self.2 (fun k _ => by simp)
  have e2 : (fun p => if p / 16 ∈ ([] : List Int) ∧ s ≤ p then 0 else F.byte p) = F.byte := by funext p; simp
  unfold FileV.cutD
  rw [e, e2]

theorem FileV.mem_cutD (F : FileV) (s : Int) (D : List Int) (k : Int) : k ∈ (F.cutD s D).keys ↔ k ∈ F.keys ∧ ¬ (k ∈ D ∧ s ≤ k * 16) := by
  unfold FileV.cutD
  simp only [List.mem_filter, Bool.not_eq_true', Bool.and_eq_false_iff, decide_eq_false_iff_not]
  constructor
  · rintro ⟨h1, h2⟩; exact ⟨h1, fun q => h2.elim (fun z => z q.1) (fun z => z q.2)⟩
  · rintro ⟨h1, h2⟩
    refine ⟨h1, ?_⟩
    by_cases hk : k ∈ D
    · exact .inr (fun q => h2 ⟨hk, q⟩)
    · exact .inl hk

theorem FileV.cutD_ok {F : FileV} (h : F.ok) (s : Int) (D : List Int) : (F.cutD s D).ok := by
  obtain ⟨a, a', b, c, d, e⟩ := h
  refine ⟨a, a', b.filter _, fun k hk => c k ((F.mem_cutD s D k).1 hk).1, ?_, ?_⟩
  · intro p hp
    show (if p / 16 ∈ D ∧ s ≤ p then 0 else F.byte p) = 0
    split
    · rfl
    · rename_i hn
      refine d p (fun q => hp ((F.mem_cutD s D _).2 ⟨q, fun z => hn ⟨z.1, by omega⟩⟩))
  · intro p
    show 0 ≤ (if p / 16 ∈ D ∧ s ≤ p then 0 else F.byte p) ∧ (if p / 16 ∈ D ∧ s ≤ p then 0 else F.byte p) < 256
    split
    · omega
    · exact e p

/-- A block that goes. -/
theorem FileV.cutD_drop {F : FileV} (h : F.ok) (s : Int) (D : List Int) (k : Int) (hk : k ∈ F.keys) (hD : k ∉ D) (hs : s ≤ k * 16) (g : Int → Value) :
    ((F.cutD s (k :: D)).keys.map fun k => (k, g k)) = adel ((F.cutD s D).keys.map fun k => (k, g k)) k ∧ ((F.cutD s (k :: D)).keys.length : Int) = (F.cutD s D).keys.length - 1 := by
  have hmem : k ∈ (F.cutD s D).keys := (F.mem_cutD s D k).2 ⟨hk, fun q => hD q.1⟩
  have hnd : (F.cutD s D).keys.Nodup := (FileV.cutD_ok h s D).2.2.1
  have e : (F.cutD s (k :: D)).keys = (F.cutD s D).keys.filter (fun j => !decide (j = k)) := by
    unfold FileV.cutD
    simp only [List.filter_filter]
    refine List.filter_congr (fun j hj => ?_)
    rw [Bool.eq_iff_iff]
    simp only [List.mem_cons, Bool.not_eq_true', Bool.and_eq_true, Bool.and_eq_false_iff, decide_eq_false_iff_not]
    by_cases hj : j = k
    · subst hj; simp [hs]
    · simp [hj]
  rw [e]
  generalize (F.cutD s D).keys = K at hmem hnd
  clear e
  induction K with
  | nil => simp at hmem
  | cons x r ih =>
    simp only [List.nodup_cons] at hnd
    by_cases hx : x = k
    · subst hx
      have hr : r.filter (fun j => !decide (j = x)) = r := by
        refine List.filter_eq_self.2 (fun j hj => ?_)
        have : j ≠ x := fun e => hnd.1 (e ▸ hj)
        simp [this]
      simp [adel, hr]
    · have hm : k ∈ r := (List.mem_cons.1 hmem).resolve_left (fun e => hx e.symm)
      obtain ⟨i1, i2⟩ := ih hm hnd.2
      simp only [List.filter_cons, hx, decide_false, Bool.not_false, if_true, List.map_cons, adel, if_false, i1, List.length_cons, true_and]
      omega

/-- A block that stays, its end cleared. -/
theorem FileV.cutD_stay {F : FileV} (s : Int) (D : List Int) (k : Int) (hs : ¬ s ≤ k * 16) : (F.cutD s (k :: D)).keys = (F.cutD s D).keys := by
  unfold FileV.cutD
  refine List.filter_congr (fun j hj => ?_)
  rw [Bool.eq_iff_iff]
  simp only [List.mem_cons, Bool.not_eq_true', Bool.and_eq_false_iff, decide_eq_false_iff_not]
  by_cases hj : j = k
  · subst hj; simp [hs]
  · simp [hj]

theorem FileV.cutD_row {F : FileV} (s : Int) (D : List Int) (k j : Int) (h : j ≠ k) : rowOf (F.cutD s (k :: D)).byte j = rowOf (F.cutD s D).byte j := by
  refine rowOf_same (fun i hi => ?_)
  show (if _ then _ else _) = if _ then _ else _
  have e : (16 * j + (i : Int)) / 16 = j := by omega
  simp only [e, List.mem_cons, h, false_or]

theorem FileV.cutD_row_whole {F : FileV} (s : Int) (D : List Int) (k : Int) (h : k * 16 + 16 ≤ s) : rowOf (F.cutD s (k :: D)).byte k = rowOf (F.cutD s D).byte k := by
  refine rowOf_same (fun i hi => ?_)
  show (if _ then _ else _) = if _ then _ else _
  rw [if_neg (by omega), if_neg (by omega)]

theorem FileV.cutD_row_part {F : FileV} (s : Int) (D : List Int) (k : Int) (keep : Nat) (h : (keep : Int) = s - k * 16) (h0 : 0 < keep) (h1 : keep < 16) (hD : k ∉ D) :
    setRange (rowOf (F.cutD s D).byte k) keep (List.replicate (16 - keep) (.int .u8 0)) = rowOf (F.cutD s (k :: D)).byte k := by
  apply Array.ext_getElem?
  intro i
  have hz : (rowOf (F.cutD s D).byte k).size = 16 := by simp [rowOf]
  rw [setRange_get _ _ _ _ (by simp [hz]; omega)]
  by_cases hi : i < 16
  · rw [rowOf_get _ _ _ hi]
    have e : (16 * k + (i : Int)) / 16 = k := by omega
    by_cases hk : keep ≤ i
    · rw [if_pos (by simp; omega), rowOf_get _ _ _ hi]
      have h2 : (F.cutD s (k :: D)).byte (16 * k + (i : Int)) = 0 := by
        show (if _ then _ else _) = (0 : Int)
        rw [if_pos ⟨by rw [e]; simp, by omega⟩]
      rw [h2, List.getElem?_replicate, if_pos (by omega)]
    · rw [if_neg (by simp; omega), rowOf_get _ _ _ hi]
      have h2 : (F.cutD s (k :: D)).byte (16 * k + (i : Int)) = (F.cutD s D).byte (16 * k + (i : Int)) := by
        show (if _ then _ else _) = if _ then _ else _
        rw [if_neg (by omega), if_neg (by omega)]
      rw [h2]
  · rw [if_neg (by simp; omega), Array.getElem?_eq_none (by simp [rowOf]; omega), Array.getElem?_eq_none (by simp [rowOf]; omega)]

/-- When all have come. -/
theorem FileV.cutD_all {F : FileV} (h : F.ok) (s : Int) (D : List Int) (hD : ∀ k ∈ (F.cutD s D).keys, k ∈ D) (hDF : ∀ k ∈ D, k ∈ F.keys) : { F.cutD s D with size := s } = F.cut s := by
  have hall : ∀ k ∈ F.keys, k ∈ D := by
    intro k hk
    by_cases hq : k ∈ (F.cutD s D).keys
    · exact hD k hq
    · by_cases hd : k ∈ D
      · exact hd
      · exact absurd ((F.mem_cutD s D k).2 ⟨hk, fun z => hd z.1⟩) hq
  have e1 : (F.cutD s D).keys = F.keys.filter (fun k => decide (k * 16 < s)) := by
    unfold FileV.cutD
    refine List.filter_congr (fun k hk => ?_)
    simp only [hall k hk, decide_true, Bool.true_and]
    rw [Bool.eq_iff_iff]
    simp
  have e2 : (F.cutD s D).byte = fun p => if p < s then F.byte p else 0 := by
    funext p
    show (if p / 16 ∈ D ∧ s ≤ p then 0 else F.byte p) = if p < s then F.byte p else 0
    by_cases hp : p < s
    · rw [if_pos hp, if_neg (by omega)]
    · rw [if_neg hp]
      split
      · rfl
      · rename_i hn
        exact h.2.2.2.2.1 p (fun q => hn ⟨hall _ q, by omega⟩)
  unfold FileV.cut
  show FileV.mk s (F.cutD s D).keys (F.cutD s D).byte = _
  rw [e1, e2]

/-- What holds at the head of a round of Cut. -/
structure CutAt (w wr : World) (pb mf xb bm it : Nat) (fsf : Nat → Prop) (ad : Int → Nat) (V : PoolV) (F : FileV) (s : Int) (D : List Int) (B : List Nat) (c : Nat) : Prop where
  sub : ∀ k ∈ D, k ∈ F.keys
  pool : wr.heap[pb]? = some (.cells #[.int .i64 (V.left + (F.keys.length - (F.cutD s D).keys.length)), .map (some mf), .int .i64 V.made] 96 (0, 0))
  file : wr.heap[xb]? = some (.cells #[.int .i64 F.size, .map (some bm)] 127 (0, 0))
  map : MapAtB wr bm kInt ((F.cutD s D).keys.map fun k => (k, ptr (ad k))) B c
  rows : ∀ k ∈ (F.cutD s D).keys, wr.heap[ad k]? = some (.cells (rowOf (F.cutD s D).byte k) 134 (0, 0))
  iter : IterAt wr it bm ((F.cutD s D).keys.map fun k => (k, ptr (ad k))) B D
  keep : Keep w wr (fun b => b = pb ∨ fsf b)

theorem ndone_lt (F : FileV) (D : List Int) (k : Int) (hk : k ∈ F.keys) (hD : k ∉ D) : (F.keys.filter (fun j => !decide (j ∈ k :: D))).length < (F.keys.filter (fun j => !decide (j ∈ D))).length := by
  have h1 : F.keys.filter (fun j => !decide (j ∈ k :: D)) = (F.keys.filter (fun j => !decide (j ∈ D))).filter (fun j => !decide (j = k)) := by
    rw [List.filter_filter]
    refine List.filter_congr (fun j _ => ?_)
    rw [Bool.eq_iff_iff]
    simp [not_or]
  rw [h1]
  have hm : k ∈ F.keys.filter (fun j => !decide (j ∈ D)) := by simp [hk, hD]
  generalize F.keys.filter (fun j => !decide (j ∈ D)) = K at hm
  induction K with
  | nil => simp at hm
  | cons x r ih =>
    by_cases hx : x = k
    · subst hx
      have := List.length_filter_le (fun j => !decide (j = x)) r
      simp; omega
    · have hm' : k ∈ r := (List.mem_cons.1 hm).resolve_left (fun e => hx e.symm)
      have := ih hm'
      simp [hx]; simpa using this

set_option maxHeartbeats 1000000 in
theorem cut_ok {w : World} {pb : Nat} {S : Nat → Prop} {V : PoolV} (h : PoolAt w pb S V) (f s : Int) {F : FileV} (hg : aget V.files f = some F) (q0 : 0 ≤ V.left) (q1 : V.left ≤ 4096) (q2 : 0 ≤ s) (q3 : s ≤ 1024) :
    Calls Tryz.prog 80 #[ptr pb, .int .i64 f, .int .i64 s] w fun r w' => r = .returned (.int .i64 0) ∧
      ∃ S', PoolAt w' pb S' { V with left := V.left + (F.keys.length - (F.cut s).keys.length), files := aset V.files f (F.cut s) } ∧ Turn w S w' S' := by
  obtain ⟨mf, xa, fs, h1, h2, h3, h4, h5, h6⟩ := h
  have c1 : w.cell? ⟨pb, 1, none⟩ = some (.map (some mf)) := by rw [cell_blk h1]; rfl
  have lk := pool_look (pb := pb) h2 f
  rw [hg] at lk
  have hF := h3 _ (aget_mem hg)
  have hfile := h4 _ (aget_mem hg)
  obtain ⟨hok, bm, ad, g1, g2, g3, g4, g5⟩ := hF
  have cx : w.cell? ⟨xa f, 1, none⟩ = some (.map (some bm)) := by rw [cell_blk g1]; rfl
  obtain ⟨B0, cl0, hB0⟩ := g2
  have hap := Lib.hid (FileAt.apart g1 ⟨B0, cl0, hB0⟩ g3)
  have G := Lib.hid (And.intro hok (And.intro g1 (And.intro hB0 (And.intro g3 (And.intro g4 g5)))))
  have hkl := keys_len hok
  have H := Lib.hid (And.intro h1 (And.intro h2 (And.intro h3 (And.intro h4 (And.intro h5 h6)))))
  have Hg := Lib.hid hg
  have Hfile := Lib.hid hfile
  have q2' : ¬ s < 0 := by omega
  have q3' : ¬ 1024 < s := by omega
  obtain ⟨i0, hi, hs⟩ : ∃ i, Tryz.prog.info? 5 = some i ∧ i.size = 1 := by
    have := u8_infoB
    cases hh : Tryz.prog.info? 5 with
    | none => rw [hh] at this; simp at this
    | some i => rw [hh] at this; simp at this; exact ⟨i, rfl, this.1⟩
  have HI := Lib.hid (And.intro hi hs)
  clear hi hs
  clear h1 h2 h3 h4 h5 h6 hg g1 g3 g4 g5 hok hfile hB0
  unfold ptr at *
  go_enter Tryz.func80, Tryz.ntmps80
  go_wp2_with (
    at_range
    refine law_range rfl _ _ rfl tBlocks rfl G.out.2.2.1 ?_
    intro w1 it hit hi1 hm1 hk1 hil
    have I := Lib.hid (And.intro hit (And.intro hi1 (And.intro hm1 (And.intro hk1 hil))))
    clear hit hi1 hm1 hk1 hil)
  go_loopg [] ((F.keys.filter (fun k => !decide (k ∈ ([] : List Int)))).length) (fun n wr => ∃ D B c, n = (F.keys.filter (fun k => !decide (k ∈ D))).length ∧ CutAt w wr pb mf (xa f) bm it (fs f) ad V F s D B c)
  case atStart =>
    obtain ⟨hit, hi1, hm1, hk1, hil⟩ := I.out
    obtain ⟨hok, g1, hB0, g3, g4, g5⟩ := G.out
    refine ⟨[], B0, cl0, rfl, ⟨by simp, ?_, hk1.get g1 (fun q => q), ?_, ?_, ?_, hk1.mono (fun b q => q.elim)⟩⟩
    · rw [FileV.cutD_nil, hk1.get H.out.1 (fun q => q)]
      congr 3; simp
    · rw [FileV.cutD_nil]; exact hm1
    · rw [FileV.cutD_nil]; exact fun k hk => hk1.get (g3 k hk) (fun q => q)
    · rw [FileV.cutD_nil]; exact hi1
  case round =>
    obtain ⟨D, B, c, hn, hC⟩ := hrel
    have HN := Lib.hid hn
    have HC := Lib.hid hC
    clear hn hC
    have hitb : it ≠ bm := by
      obtain ⟨hit, _⟩ := I.out
      have := lt_of_blk G.out.2.2.1.2.1
      omega
    have hns : ∀ b, (b = pb ∨ fs f b) → b ≠ it := by
      obtain ⟨hit, _⟩ := I.out
      have h1 := lt_of_blk H.out.1
      have h2 := H.out.2.2.1 _ (aget_mem Hg.out)
      rintro b (rfl | q) e
      · omega
      · have := h2.lt q; omega
    have HNs := Lib.hid hns
    have hxs : fs f (xa f) := (G.out.2.2.2.2.2 _).2 (.inl rfl)
    have hbs : fs f bm := (G.out.2.2.2.2.2 _).2 (.inr (.inl rfl))
    clear hns
    go_wp2_with (first
      | (at_next
         refine law_next rfl _ rfl rfl HC.out.map HC.out.iter hitb ?_ ?_)
      | (intro w1 hall hk1
         have cz : w1.cell? ⟨xa f, 0, none⟩ = some (.int .i64 F.size) := by rw [cell_blk (hk1.get HC.out.file (HNs.out _ (.inr hxs)))]; rfl
         have fz : w1.frozen? ⟨xa f, 0, none⟩ = false := free_blk (hk1.get HC.out.file (HNs.out _ (.inr hxs))) 0
         have A := Lib.hid (And.intro hall hk1)
         have case1 := 1
         clear hall hk1)
      | (intro w1 x hx hxD hen hm1 hi1 hk1
         obtain ⟨k, hk, rfl⟩ := List.mem_map.1 hx
         have hkF := ((F.mem_cutD s D k).1 hk).1
         have hkb := G.out.1.2.2.2.1 k hkF
         have c0 : w1.cell? ⟨pb, 0, none⟩ = some (.int .i64 (V.left + (F.keys.length - (F.cutD s D).keys.length))) := by rw [cell_blk (hk1.get HC.out.pool (HNs.out _ (.inl rfl)))]; rfl
         have f0 : w1.frozen? ⟨pb, 0, none⟩ = false := free_blk (hk1.get HC.out.pool (HNs.out _ (.inl rfl))) 0
         have cy : w1.cell? ⟨xa f, 1, none⟩ = some (.map (some bm)) := by rw [cell_blk (hk1.get HC.out.file (HNs.out _ (.inr hxs)))]; rfl
         have hlen := keys_len (FileV.cutD_ok G.out.1 s D)
         have A := Lib.hid (And.intro hk (And.intro hxD (And.intro hm1 (And.intro hi1 (And.intro hk1 hkF)))))
         clear hx hk hxD hm1 hi1 hk1 hkF
         unfold kInt ptr at hen
         rcases (by omega : s ≤ k * 16 ∨ (¬ s ≤ k * 16 ∧ s - k * 16 < 16) ∨ (¬ s ≤ k * 16 ∧ ¬ s - k * 16 < 16)) with hs | ⟨hs, hs2⟩ | ⟨hs, hs2⟩)
      | (refine law_slice_arr rfl (.tmp 60) (.tmp 61) 134 5 rfl Tryz.underlying134 HI.out.1 HI.out.2 rfl rfl (s - k * 16).toNat (by omega) (by omega) (by omega) ?_)
      | (refine law_clear rfl (.tmp 62) 33 5 rfl Tryz.underlying33 u8_zero rfl rfl rfl (by omega) (A.out.2.2.2.2.1.get (HC.out.rows k A.out.1) (HNs.out _ (.inr ((G.out.2.2.2.2.2 _).2 (.inr (.inr ⟨k, A.out.2.2.2.2.2, rfl⟩)))))) (by simp [rowOf]; omega) ?_
         intro w2 hr2 hk2
         have A2 := Lib.hid (And.intro hr2 hk2)
         clear hr2 hk2)
      | (at_delete
         refine law_delete rfl _ _ _ _ rfl kFiles tBlocks rfl A.out.2.2.1 k rfl ?_
         intro w2 B2 hm2 hs2 hk2
         have hpb := hk2.get (A.out.2.2.2.2.1.get HC.out.pool (HNs.out _ (.inl rfl))) (fun e => Hfile.out.1 (by rw [e]; exact hbs))
         have c0' : w2.cell? ⟨pb, 0, none⟩ = some (.int .i64 (V.left + (F.keys.length - (F.cutD s D).keys.length))) := by rw [cell_blk hpb]; rfl
         have f0' : w2.frozen? ⟨pb, 0, none⟩ = false := free_blk hpb 0
         have A2 := Lib.hid (And.intro hm2 (And.intro hs2 (And.intro hk2 hpb)))
         clear hm2 hs2 hk2 hpb))
    -- over
    · go_ret
      obtain ⟨hall, hk1⟩ := A.out
      have C := HC.out
      obtain ⟨h1, h2, h3, h4, h5, h6⟩ := H.out
      have hcut : { F.cutD s D with size := s } = F.cut s := FileV.cutD_all G.out.1 s D (fun k hk => hall (k, ptr (ad k)) (List.mem_map.2 ⟨k, hk, rfl⟩)) C.sub
      have hlen : (F.cut s).keys.length = (F.cutD s D).keys.length := by rw [← hcut]
      have hin : ∀ j ∈ F.keys, fs f (ad j) := fun j hj => (G.out.2.2.2.2.2 _).2 (.inr (.inr ⟨j, hj, rfl⟩))
      have hsub : ∀ j ∈ (F.cutD s D).keys, j ∈ F.keys := fun j hj => ((F.mem_cutD s D j).1 hj).1
      have hok := FileV.cutD_ok G.out.1 s D
      have hnew := FileAt.resize (S := fun b => b = xa f ∨ b = bm ∨ ∃ k ∈ (F.cutD s D).keys, b = ad k) hok (hk1.get C.file (HNs.out _ (.inr hxs))) (MapAt.keep ⟨B, c, C.map⟩ hk1 (HNs.out _ (.inr hbs)))
        (fun j hj => hk1.get (C.rows j hj) (HNs.out _ (.inr (hin j (hsub j hj))))) (fun j hj i hi e => G.out.2.2.2.2.1 j (hsub j hj) i (hsub i hi) e) (fun b => Iff.rfl) q2 q3
      rw [hcut] at hnew
      rw [hlen]
      refine ⟨rfl, pool_turn h2 h3 h4 h5 h6 (fun e => pb_ne h1 h2 e.symm) (lt_of_blk h1) Hg.out ?_ ?_ hnew ?_⟩
      · refine (C.keep.trans hk1 ?_).trans (Keep.setCell _ _ _) ?_
        · intro b q
          right
          have := I.out.1
          have q' : b = it := q
          omega
        · rintro b rfl
          exact .inl (.inr hxs)
      · rw [heap_setCell_ne _ _ _ (fun e => Hfile.out.1 (by rw [show pb = xa f from e]; exact hxs))]
        exact hk1.get C.pool (HNs.out _ (.inl rfl))
      · rintro b (rfl | rfl | ⟨k, hk, rfl⟩)
        · exact .inl hxs
        · exact .inl hbs
        · exact .inl (hin k (hsub k hk))
    -- a block goes
    · obtain ⟨hk, hxD, hm1, hi1, hk1, hkF⟩ := A.out
      obtain ⟨hm2, hs2, hk2, hpb⟩ := A2.out
      have C := HC.out
      have hdrop := FileV.cutD_drop G.out.1 s D k hkF hxD hs (fun k => ptr (ad k))
      have hadk : ∀ j ∈ F.keys, ad j ≠ pb ∧ ad j ≠ bm ∧ ad j ≠ xa f ∧ ad j ≠ it := by
        intro j hj
        have hfj : fs f (ad j) := (G.out.2.2.2.2.2 _).2 (.inr (.inr ⟨j, hj, rfl⟩))
        exact ⟨fun e => Hfile.out.1 (e ▸ hfj), (hap.out.2 j hj).2, (hap.out.2 j hj).1, HNs.out _ (.inr hfj)⟩
      have hpbm : bm ≠ pb := fun e => Hfile.out.1 (e ▸ hbs)
      have hpxa : xa f ≠ pb := fun e => Hfile.out.1 (e ▸ hxs)
      have ks := Keep.setCell w2 ⟨pb, 0, none⟩ (.int .i64 (V.left + ((F.keys.length : Int) - (F.cutD s D).keys.length) + 1))
      have hip : it ≠ pb := fun e => HNs.out pb (.inl rfl) e.symm
      go_roundg ((F.keys.filter (fun j => !decide (j ∈ k :: D))).length)
      case measure => rw [HN.out]; exact ndone_lt F D k hkF hxD
      case rel =>
        refine ⟨k :: D, B2, c, rfl, ⟨fun j hj => (List.mem_cons.1 hj).elim (fun e => e ▸ hkF) (C.sub j), ?_, ?_, ?_, ?_, ?_, ?_⟩⟩
        · have e : V.left + ((F.keys.length : Int) - (F.cutD s (k :: D)).keys.length) = V.left + ((F.keys.length : Int) - (F.cutD s D).keys.length) + 1 := by rw [hdrop.2]; omega
          rw [e]
          exact heap_setCell_eq _ hpb
        · exact ks.get (hk2.get (hk1.get C.file (HNs.out _ (.inr hxs))) hap.out.1) hpxa
        · rw [hdrop.1]; exact hm2.keep ks hpbm
        · intro j hj
          have hj' := (F.mem_cutD s (k :: D) j).1 hj
          have hjk : j ≠ k := fun e => hj'.2 ⟨by simp [e], by rw [e]; exact hs⟩
          have hjD : j ∈ (F.cutD s D).keys := (F.mem_cutD s D j).2 ⟨hj'.1, fun q => hj'.2 ⟨List.mem_cons_of_mem _ q.1, q.2⟩⟩
          rw [FileV.cutD_row s D k j hjk]
          have hh := hadk j hj'.1
          exact ks.get (hk2.get (hk1.get (C.rows j hjD) hh.2.2.2) hh.2.1) hh.1
        · rw [hdrop.1]
          exact ((hi1.sub' (hm2.1.trans (by simp)) hs2).keep hk2 hitb).keep ks hip
        · refine ((C.keep.trans hk1 ?_).trans hk2 (fun b q => .inl (.inr (q ▸ hbs)))).trans ks (fun b q => .inl (.inl q))
          intro b q
          right
          have := I.out.1
          have q' : b = it := q
          omega
    -- a block whose end is cleared
    · obtain ⟨hk, hxD, hm1, hi1, hk1, hkF⟩ := A.out
      obtain ⟨hr2, hk2⟩ := A2.out
      have C := HC.out
      have hkeys := F.cutD_stay s D k (by omega)
      have hin : ∀ j ∈ F.keys, fs f (ad j) := fun j hj => (G.out.2.2.2.2.2 _).2 (.inr (.inr ⟨j, hj, rfl⟩))
      have hpad : pb ≠ ad k := fun e => Hfile.out.1 (by rw [e]; exact hin k hkF)
      go_roundg ((F.keys.filter (fun j => !decide (j ∈ k :: D))).length)
      case measure => rw [HN.out]; exact ndone_lt F D k hkF hxD
      case rel =>
        refine ⟨k :: D, B, c, rfl, ⟨fun j hj => (List.mem_cons.1 hj).elim (fun e => e ▸ hkF) (C.sub j), ?_, ?_, ?_, ?_, ?_, ?_⟩⟩
        · rw [hkeys]; exact hk2.get (hk1.get C.pool (HNs.out _ (.inl rfl))) hpad
        · exact hk2.get (hk1.get C.file (HNs.out _ (.inr hxs))) (fun e => (hap.out.2 k hkF).1 e.symm)
        · rw [hkeys]; exact hm1.keep hk2 (fun e => (hap.out.2 k hkF).2 e.symm)
        · intro j hj
          rw [hkeys] at hj
          have hjF := ((F.mem_cutD s D j).1 hj).1
          by_cases e : j = k
          · subst e
            rw [hr2, FileV.cutD_row_part s D j (s - j * 16).toNat (by omega) (by omega) (by omega) hxD]
          · rw [FileV.cutD_row s D k j e]
            exact hk2.get (hk1.get (C.rows j hj) (HNs.out _ (.inr (hin j hjF)))) (fun q => e (G.out.2.2.2.2.1 j hjF k hkF q))
        · rw [hkeys]; exact hi1.keep hk2 (fun e => HNs.out _ (.inr (hin k hkF)) e.symm)
        · refine (C.keep.trans hk1 ?_).trans hk2 (fun b q => .inl (.inr (q ▸ hin k hkF)))
          intro b q
          right
          have := I.out.1
          have q' : b = it := q
          omega
    -- a whole block stays
    · obtain ⟨hk, hxD, hm1, hi1, hk1, hkF⟩ := A.out
      have C := HC.out
      have hkeys := F.cutD_stay s D k (by omega)
      have hin : ∀ j ∈ F.keys, fs f (ad j) := fun j hj => (G.out.2.2.2.2.2 _).2 (.inr (.inr ⟨j, hj, rfl⟩))
      go_roundg ((F.keys.filter (fun j => !decide (j ∈ k :: D))).length)
      case measure => rw [HN.out]; exact ndone_lt F D k hkF hxD
      case rel =>
        refine ⟨k :: D, B, c, rfl, ⟨fun j hj => (List.mem_cons.1 hj).elim (fun e => e ▸ hkF) (C.sub j), ?_, ?_, ?_, ?_, ?_, ?_⟩⟩
        · rw [hkeys]; exact hk1.get C.pool (HNs.out _ (.inl rfl))
        · exact hk1.get C.file (HNs.out _ (.inr hxs))
        · rw [hkeys]; exact hm1
        · intro j hj
          rw [hkeys] at hj
          have hjF := ((F.mem_cutD s D j).1 hj).1
          have hrow : rowOf (F.cutD s (k :: D)).byte j = rowOf (F.cutD s D).byte j := by
            by_cases e : j = k
            · subst e; exact FileV.cutD_row_whole s D j (by omega)
            · exact FileV.cutD_row s D k j e
          rw [hrow]
          exact hk1.get (C.rows j hj) (HNs.out _ (.inr (hin j hjF)))
        · rw [hkeys]; exact hi1
        · refine C.keep.trans hk1 ?_
          intro b q
          right
          have := I.out.1
          have q' : b = it := q
          omega

end Go.Proofs.YtnjfcedkfobbcaaGreat
