/-
  A pool that is in order; each call's contract in one word.
-/
import Derived.Test.YtnjfcedkfobbcaaGreatBlock7
namespace Go.Proofs.YtnjfcedkfobbcaaGreat
open Go Go.RowKit
set_option linter.unusedSectionVars false
set_option linter.unusedSimpArgs false
set_option linter.unusedVariables false
set_option maxRecDepth 100000

def PoolV.total (V : PoolV) : Int := (V.files.map fun x => (x.2.keys.length : Int)).sum

structure PoolV.ok (V : PoolV) (n : Int) : Prop where
  left : 0 ≤ V.left
  sum : V.left + V.total = n
  most : n ≤ 256
  made0 : 0 ≤ V.made
  keys : ∀ x ∈ V.files, 1 ≤ x.1 ∧ x.1 ≤ V.made
  nodup : (V.files.map Prod.fst).Nodup
  files : ∀ x ∈ V.files, x.2.ok

theorem total_nonneg (L : List (Int × FileV)) : 0 ≤ (L.map fun x => (x.2.keys.length : Int)).sum := by
  induction L with
  | nil => simp
  | cons x r ih => simp only [List.map_cons, List.sum_cons]; omega

theorem PoolV.ok.left_le {V : PoolV} {n : Int} (h : V.ok n) : V.left ≤ 256 := by
  have h1 := h.sum
  have h2 := h.most
  have h3 : 0 ≤ V.total := total_nonneg V.files
  omega

theorem sum_aset (L : List (Int × FileV)) (f : Int) (F F' : FileV) (h : aget L f = some F) :
    ((aset L f F').map fun x => (x.2.keys.length : Int)).sum = (L.map fun x => (x.2.keys.length : Int)).sum - F.keys.length + F'.keys.length := by
  induction L with
  | nil => simp [aget] at h
  | cons x r ih =>
    obtain ⟨a, u⟩ := x
    simp only [aget] at h
    by_cases ha : a = f
    · rw [if_pos ha] at h
      simp at h; subst h
      simp only [aset, ha, if_true, List.map_cons, List.sum_cons]
      omega
    · rw [if_neg ha] at h
      simp only [aset, ha, if_false, List.map_cons, List.sum_cons, ih h]
      omega

theorem sum_adel (L : List (Int × FileV)) (f : Int) (F : FileV) (h : aget L f = some F) :
    ((adel L f).map fun x => (x.2.keys.length : Int)).sum = (L.map fun x => (x.2.keys.length : Int)).sum - F.keys.length := by
  induction L with
  | nil => simp [aget] at h
  | cons x r ih =>
    obtain ⟨a, u⟩ := x
    simp only [aget] at h
    by_cases ha : a = f
    · rw [if_pos ha] at h
      simp at h; subst h
      simp only [adel, ha, if_true, List.map_cons, List.sum_cons]
      omega
    · rw [if_neg ha] at h
      simp only [adel, ha, if_false, List.map_cons, List.sum_cons, ih h]
      omega

theorem PoolV.ok.aset {V : PoolV} {n : Int} (h : V.ok n) {f l : Int} {F F' : FileV} (hg : aget V.files f = some F) (hF : F'.ok) (hl : l = V.left + F.keys.length - F'.keys.length) (h0 : 0 ≤ l) : PoolV.ok { V with left := l, files := aset V.files f F' } n := by
  have hm := aget_mem hg
  have hs := sum_aset V.files f F F' hg
  refine ⟨h0, ?_, h.most, h.made0, ?_, ?_, ?_⟩
  · have := h.sum
    unfold PoolV.total at *
    show l + _ = n
    rw [hs]; omega
  · intro x hx
    rcases mem_aset h.nodup hx with rfl | ⟨hx, _⟩
    · exact h.keys (f, F) hm
    · exact h.keys _ hx
  · show ((Go.Proofs.YtnjfcedkfobbcaaGreat.aset V.files f F').map Prod.fst).Nodup
    rw [aset_fst _ _ _ (List.mem_map_of_mem (f := Prod.fst) hm)]; exact h.nodup
  · intro x hx
    rcases mem_aset h.nodup hx with rfl | ⟨hx, _⟩
    · exact hF
    · exact h.files _ hx

theorem PoolV.new_ok {n : Int} (h0 : 0 ≤ n) (h1 : n ≤ 256) : PoolV.ok ⟨n, 0, []⟩ n :=
  ⟨h0, by simp [PoolV.total], h1, by simp, by simp, by simp, by simp⟩

theorem PoolV.ok.file {V : PoolV} {n : Int} (h : V.ok n) : V.file.ok n := by
  have hnew : V.made + 1 ∉ V.files.map Prod.fst := by
    intro hq
    obtain ⟨x, hx, e⟩ := List.mem_map.1 hq
    have := (h.keys x hx).2
    omega
  have hf : V.file = { V with made := V.made + 1, files := V.files ++ [(V.made + 1, FileV.empty)] } := by
    unfold PoolV.file; rw [aset_new _ _ _ hnew]
  rw [hf]
  have h1 := h.made0
  refine ⟨h.left, ?_, h.most, by show 0 ≤ V.made + 1; omega, ?_, ?_, ?_⟩
  · have := h.sum
    unfold PoolV.total at *
    simp [FileV.empty]; omega
  · intro x hx
    rcases List.mem_append.1 hx with hx | hx
    · have := h.keys x hx
      exact ⟨this.1, by show x.1 ≤ V.made + 1; omega⟩
    · simp at hx; subst hx; exact ⟨by show 1 ≤ V.made + 1; omega, by show V.made + 1 ≤ V.made + 1; omega⟩
  · simp only [List.map_append, List.map_cons, List.map_nil]
    exact List.nodup_append.2 ⟨h.nodup, by simp, fun a ha b hb e => by simp at hb; subst hb; exact hnew (e ▸ ha)⟩
  · intro x hx
    rcases List.mem_append.1 hx with hx | hx
    · exact h.files x hx
    · simp at hx; subst hx; exact FileV.empty_ok

theorem PoolV.ok.drop {V : PoolV} {n : Int} (h : V.ok n) (f : Int) : (V.drop f).1.ok n := by
  unfold PoolV.drop
  cases hg : aget V.files f with
  | none => exact h
  | some F =>
    have hs := sum_adel V.files f F hg
    refine ⟨by have := h.left; show 0 ≤ V.left + _; omega, ?_, h.most, h.made0, fun x hx => h.keys x (mem_adel h.nodup hx).1, ?_, fun x hx => h.files x (mem_adel h.nodup hx).1⟩
    · have := h.sum
      unfold PoolV.total at *
      show V.left + _ + _ = n
      rw [hs]; omega
    · exact h.nodup.sublist ((adel_sub _ _).map _)

theorem FileV.write_ok {F : FileV} (h : F.ok) {p : Int} {l : List Int} (h0 : 0 ≤ p) (h1 : p + l.length ≤ 1024) (hl : ∀ c ∈ l, 0 ≤ c ∧ c < 256) : FileV.ok { F.puts p l with size := max F.size (p + l.length) } := by
  have hp := FileV.puts_ok l h h0 h1 hl
  have hs := h.2.1
  have hs0 := h.1
  exact ⟨by show 0 ≤ max F.size (p + l.length); omega, by show max F.size (p + l.length) ≤ 1024; omega, hp.2.2⟩

theorem PoolV.ok.write {V : PoolV} {n : Int} (h : V.ok n) (f p : Int) {l : List Int} (hl : ∀ c ∈ l, 0 ≤ c ∧ c < 256) : (V.write f p l).1.ok n := by
  unfold PoolV.write
  cases hg : aget V.files f with
  | none => exact h
  | some F =>
    show (if _ then _ else _ : PoolV × Int).1.ok n
    split
    · exact h
    · split
      · exact h
      · split
        · exact h
        · split
          · exact h
          · rename_i h1 h2 h3 h4
            have hF := h.files _ (aget_mem hg)
            have hlen : p + l.length ≤ 1024 := by omega
            have := FileV.puts_len F p l hF (by omega) hlen hl h2
            exact h.aset hg (FileV.write_ok hF (by omega) hlen hl) (by show _ = V.left + F.keys.length - (F.puts p l).keys.length; omega) (by omega)

theorem FileV.cut_ok {F : FileV} (h : F.ok) {s : Int} (h0 : 0 ≤ s) (h1 : s ≤ 1024) : (F.cut s).ok := by
  refine ⟨h0, h1, h.2.2.1.filter _, fun k hk => h.2.2.2.1 k (List.mem_filter.1 hk).1, ?_, ?_⟩
  · intro p hp
    show (if p < s then F.byte p else 0) = 0
    split
    · rename_i hlt
      refine h.2.2.2.2.1 p (fun q => hp (List.mem_filter.2 ⟨q, ?_⟩))
      simp; omega
    · rfl
  · intro p
    show 0 ≤ (if p < s then F.byte p else 0) ∧ (if p < s then F.byte p else 0) < 256
    split
    · exact h.2.2.2.2.2 p
    · omega

theorem PoolV.ok.cut {V : PoolV} {n : Int} (h : V.ok n) (f s : Int) : (V.cut f s).1.ok n := by
  unfold PoolV.cut
  cases hg : aget V.files f with
  | none => exact h
  | some F =>
    show (if _ then _ else _ : PoolV × Int).1.ok n
    split
    · exact h
    · split
      · exact h
      · have hF := h.files _ (aget_mem hg)
        have hle := List.length_filter_le (fun k => decide (k * 16 < s)) F.keys
        have h0 := h.left
        refine h.aset hg (FileV.cut_ok hF (by omega) (by omega)) (by omega) ?_
        show 0 ≤ V.left + ((F.keys.length : Int) - (F.keys.filter fun k => decide (k * 16 < s)).length)
        omega

theorem write_c {w : World} {pb : Nat} {S : Nat → Prop} {V : PoolV} {n : Int} (h : PoolAt w pb S V) (hV : V.ok n) (f p : Int) {v : Value} {l : List Int} (hb : BytesIn w v l S) (hlen : l.length ≤ maxLen) :
    Calls Tryz.prog 76 #[ptr pb, .int .i64 f, .int .i64 p, v] w fun r w' => r = .returned (.int .i64 (V.write f p l).2) ∧ ∃ S', PoolAt w' pb S' (V.write f p l).1 ∧ Turn w S w' S' := by
  obtain ⟨hl, a, cap, rfl, hc⟩ := hb
  have same : ∀ r w' e, (r = Ending.returned (.int .i64 e) ∧ w = w') → (r = .returned (.int .i64 e) ∧ ∃ S', PoolAt w' pb S' V ∧ Turn w S w' S') := by
    rintro r w' e ⟨h1, rfl⟩
    exact ⟨h1, S, h, Keep.refl _ _, fun b q => .inl q⟩
  unfold PoolV.write
  cases hg : aget V.files f with
  | none => exact (write_none h f p _ hg).mono fun r w' q => same r w' 1 q
  | some F =>
    dsimp only
    by_cases h1 : p < 0
    · rw [if_pos h1]
      exact (write_bad h f p a l.length cap hlen hg 39 (.inl ⟨h1, rfl⟩)).mono fun r w' q => same r w' 39 q
    · rw [if_neg h1]
      by_cases h2 : l = []
      · rw [if_pos h2]
        exact (write_bad h f p a l.length cap hlen hg 0 (.inr (.inl ⟨by omega, by simp [h2], rfl⟩))).mono fun r w' q => same r w' 0 q
      · rw [if_neg h2]
        have hpos : 0 < l.length := List.length_pos_iff.2 h2
        by_cases h3 : 1024 < l.length ∨ 1024 - (l.length : Int) < p
        · rw [if_pos h3]
          refine (write_bad h f p a l.length cap hlen hg 42 ?_).mono fun r w' q => same r w' 42 q
          by_cases h4 : 1024 < l.length
          · exact .inr (.inr (.inl ⟨by omega, h4, rfl⟩))
          · exact .inr (.inr (.inr ⟨by omega, hpos, by omega, h3.resolve_left h4, rfl⟩))
        · rw [if_neg h3]
          by_cases h4 : V.left < F.lacks p (p + l.length)
          · rw [if_pos h4]
            exact (write_full h f p a l.length cap hg (by omega) hpos (by omega) h4).mono fun r w' q => same r w' 43 q
          · rw [if_neg h4]
            rcases hc with hc | ⟨b, off, rfl, hb, hc⟩
            · exact absurd hc h2
            · exact write_ok h f p l b off cap hg hb hc hl hV.left hV.left_le (by omega) hpos (by omega) (by omega)

theorem read_c {w : World} {pb : Nat} {S : Nat → Prop} {V : PoolV} (h : PoolAt w pb S V) (f p n : Int) :
    Calls Tryz.prog 87 #[ptr pb, .int .i64 f, .int .i64 p, .int .i64 n] w fun r w' => ∃ v, r = .returned (.tuple #[v, .int .i64 (V.read f p n).2]) ∧ BytesNew w' v (V.read f p n).1 w.heap.size ∧ Keep w w' (fun _ => False) := by
  have same : ∀ r w' e, (r = Ending.returned (.tuple #[.slice none 0 0, .int .i64 e]) ∧ w = w') → ∃ v, r = .returned (.tuple #[v, .int .i64 e]) ∧ BytesNew w' v [] w.heap.size ∧ Keep w w' (fun _ => False) := by
    rintro r w' e ⟨h1, rfl⟩
    exact ⟨_, h1, .inl ⟨rfl, rfl⟩, Keep.refl _ _⟩
  unfold PoolV.read
  cases hg : aget V.files f with
  | none => exact (read_bad h f p n 1 (.inl ⟨hg, rfl⟩)).mono fun r w' q => same r w' 1 q
  | some F =>
    dsimp only
    by_cases h1 : p < 0 ∨ n < 0
    · rw [if_pos h1]
      refine (read_bad h f p n 39 (.inr ⟨F, hg, ?_⟩)).mono fun r w' q => same r w' 39 q
      by_cases h2 : p < 0
      · exact .inl ⟨h2, rfl⟩
      · exact .inr (.inl ⟨by omega, h1.resolve_left h2, rfl⟩)
    · rw [if_neg h1]
      by_cases h2 : F.size ≤ p
      · rw [if_pos h2]
        exact (read_bad h f p n 0 (.inr ⟨F, hg, .inr (.inr ⟨by omega, by omega, h2, rfl⟩)⟩)).mono fun r w' q => same r w' 0 q
      · rw [if_neg h2]
        exact read_ok h f p n hg (by omega) (by omega) (by omega)

theorem drop_c {w : World} {pb : Nat} {S : Nat → Prop} {V : PoolV} {n : Int} (h : PoolAt w pb S V) (hV : V.ok n) (f : Int) :
    Calls Tryz.prog 92 #[ptr pb, .int .i64 f] w fun r w' => r = .returned (.int .i64 (V.drop f).2) ∧ ∃ S', PoolAt w' pb S' (V.drop f).1 ∧ Turn w S w' S' := by
  unfold PoolV.drop
  cases hg : aget V.files f with
  | none => exact (drop_none h f hg).mono fun r w' ⟨q, e⟩ => ⟨q, S, e ▸ h, e ▸ Keep.refl _ _, fun b q => .inl q⟩
  | some F => exact drop_ok h f hg hV.left hV.left_le

theorem cut_c {w : World} {pb : Nat} {S : Nat → Prop} {V : PoolV} {n : Int} (h : PoolAt w pb S V) (hV : V.ok n) (f s : Int) :
    Calls Tryz.prog 80 #[ptr pb, .int .i64 f, .int .i64 s] w fun r w' => r = .returned (.int .i64 (V.cut f s).2) ∧ ∃ S', PoolAt w' pb S' (V.cut f s).1 ∧ Turn w S w' S' := by
  have same : ∀ r w' e, (r = Ending.returned (.int .i64 e) ∧ w = w') → (r = .returned (.int .i64 e) ∧ ∃ S', PoolAt w' pb S' V ∧ Turn w S w' S') := by
    rintro r w' e ⟨h1, rfl⟩
    exact ⟨h1, S, h, Keep.refl _ _, fun b q => .inl q⟩
  unfold PoolV.cut
  cases hg : aget V.files f with
  | none => exact (cut_bad h f s 1 (.inl ⟨hg, rfl⟩)).mono fun r w' q => same r w' 1 q
  | some F =>
    dsimp only
    by_cases h1 : s < 0
    · rw [if_pos h1]
      exact (cut_bad h f s 39 (.inr ⟨F, hg, .inl ⟨h1, rfl⟩⟩)).mono fun r w' q => same r w' 39 q
    · rw [if_neg h1]
      by_cases h2 : 1024 < s
      · rw [if_pos h2]
        exact (cut_bad h f s 42 (.inr ⟨F, hg, .inr ⟨h2, rfl⟩⟩)).mono fun r w' q => same r w' 42 q
      · rw [if_neg h2]
        exact cut_ok h f s hg hV.left (by have := hV.left_le; omega) (by omega) (by omega)

theorem file_cc {w : World} {pb : Nat} {S : Nat → Prop} {V : PoolV} {n : Int} (h : PoolAt w pb S V) (hV : V.ok n) (hm : V.made ≤ 1073741824) :
    Calls Tryz.prog 53 #[ptr pb] w fun r w' => r = .returned (.int .i64 (V.made + 1)) ∧ ∃ S', PoolAt w' pb S' V.file ∧ Turn w S w' S' :=
  file_c h hV.made0 hm (fun x hx => (hV.keys x hx).2)

end Go.Proofs.YtnjfcedkfobbcaaGreat
