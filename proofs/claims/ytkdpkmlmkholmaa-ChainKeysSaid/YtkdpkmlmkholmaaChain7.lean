/-
  The document's table: a row of pairs; find, Put, Drop, Get, In.
-/
import Derived.Test.YtkdpkmlmkholmaaChain6
import Derived.Test.YtkdpkmlmkholmaaHeaps
import Derived.Deep.RegionLaw
namespace Go.Proofs.Ytkdpkmlmkholmaa
open Go Go.RowKit
set_option linter.unusedSectionVars false
set_option linter.unusedSimpArgs false
set_option linter.unusedVariables false

def pairV (x : Pair) : List Value := [.string x.1, .int .i64 x.2]
theorem pairV_len (x : Pair) : (pairV x).length = 2 := rfl

/-- The document's table in memory. -/
structure RefAt (w : World) (rb : Nat) (S : Nat → Prop) (T : List Pair) : Prop where
  ex : ∃ v, w.heap[rb]? = some (.cells #[v] 61 (0, 0)) ∧ w.ownsRow 0 69 2 v T.length (flat pairV T) ∧ (∀ b, v.ownBlock = some b → S b ∧ b ≠ rb) ∧ S rb
  lt : ∀ b, S b → b < w.heap.size
  len : T.length ≤ 64

theorem RefAt.keep {w w' : World} {rb : Nat} {S U : Nat → Prop} {T : List Pair} (h : RefAt w rb S T) (K : Keep w w' U) (hU : ∀ b, S b → ¬ U b) : RefAt w' rb S T := by
  obtain ⟨v, h1, h2, h3, h4⟩ := h.ex
  exact ⟨⟨v, K.get h1 (hU _ h4), rows_keep h2 K (fun b q => hU b (h3 b q).1), h3, h4⟩, fun b q => Nat.lt_of_lt_of_le (h.lt b q) K.size, h.len⟩

theorem RefAt.drewN {w : World} {rb : Nat} {S : Nat → Prop} {T : List Pair} (h : RefAt w rb S T) (q : Nat) : RefAt (w.drewN q) rb S T := h.keep (Turn.drewN w (fun _ => False) q).keep (fun _ _ z => z)

/-- Where a key stands. -/
def atT (T : List Pair) (key : ByteArray) : Option Nat := T.findIdx? (fun x => decide (x.1 = key))

theorem atT_some {T : List Pair} {key : ByteArray} {v : Int} (h : aget T key = some v) : ∃ k, atT T key = some k ∧ T[k]? = some (key, v) ∧ T.take k ++ T.drop (k + 1) = adel T key ∧ k < T.length := by
  induction T with
  | nil => simp [aget] at h
  | cons x r ih =>
    obtain ⟨a, u⟩ := x
    simp only [aget] at h
    unfold atT
    by_cases e : a = key
    · subst e
      simp only [if_true, Option.some.injEq] at h
      subst h
      exact ⟨0, by simp [List.findIdx?_cons], rfl, by simp [adel], by simp⟩
    · simp only [e, if_false] at h
      obtain ⟨k, h1, h2, h3, h4⟩ := ih h
      unfold atT at h1
      exact ⟨k + 1, by simp [List.findIdx?_cons, e, h1], h2, by simp [adel, e, h3], by simp; omega⟩

theorem atT_none {T : List Pair} {key : ByteArray} (h : aget T key = none) : atT T key = none := by
  unfold atT
  rw [List.findIdx?_eq_none_iff]
  intro x hx
  simp [pget_none h x hx]

def idxT (T : List Pair) (key : ByteArray) : Int := match atT T key with | some k => (k : Int) | none => -1

theorem idx_found {T : List Pair} {key : ByteArray} {k : Nat} {x : Pair} (hx : T[k]? = some x) (he : x.1 = key) (hne : ∀ y ∈ T.take k, y.1 ≠ key) : idxT T key = k := by
  unfold idxT
  have : atT T key = some k := by
    unfold atT
    rw [List.findIdx?_eq_some_iff_getElem]
    obtain ⟨hl, hx'⟩ := List.getElem?_eq_some_iff.1 hx
    refine ⟨hl, by rw [hx']; simp [he], fun j hj => ?_⟩
    have := hne (T[j]'(by omega)) (List.mem_take_iff_getElem.2 ⟨j, by omega, rfl⟩)
    simp [this]
  rw [this]

theorem idx_out {T : List Pair} {key : ByteArray} (hne : ∀ y ∈ T, y.1 ≠ key) : idxT T key = -1 := by
  unfold idxT
  have : atT T key = none := by
    unfold atT
    rw [List.findIdx?_eq_none_iff]
    intro x hx
    simp [hne x hx]
  rw [this]

set_option maxHeartbeats 1000000 in
theorem rfind_c {w : World} {rb : Nat} {S : Nat → Prop} {T : List Pair} (h : RefAt w rb S T) (key : ByteArray) :
    Calls Try.prog 30 #[.pointer (some ⟨rb, 0, none⟩), .string key] w fun r w' => r = .returned (.int .i64 (idxT T key)) ∧ w' = w := by
  obtain ⟨v, h1, h2, h3, h4⟩ := h.ex
  have hl := h.len
  obtain ⟨sa, cap, rfl, hc⟩ := rows_val2 h2
  have c0 : w.cell? ⟨rb, 0, none⟩ = some (.slice sa T.length cap) := by rw [cell_blk h1]; rfl
  have H := Lib.hid h2
  generalize hz : idxT T key = z
  have HZ := Lib.hid hz
  generalize hn : T.length = n at *
  have HN := Lib.hid hn
  clear h h1 h2 h3 h4 hn hz
  go_enter Try.func30, Try.ntmps30
  go_wp2
  go_loopg [5] n (fun g s3 wr => ∃ k : Nat, s3 = .int .i64 k ∧ k + g = n ∧ (∀ x ∈ T.take k, x.1 ≠ key) ∧ wr = w)
  case atStart => exact ⟨0, rfl, by omega, by simp, rfl⟩
  case round =>
    obtain ⟨k, rfl, hk, hne, rfl⟩ := hrel
    by_cases hlt : k < n
    · obtain ⟨g, rfl, _, _, _⟩ := rows_some H.out (by omega)
      obtain ⟨x, hx⟩ : ∃ x, T[k]? = some x := ⟨_, List.getElem?_eq_getElem (by rw [HN.out]; exact hlt)⟩
      have c1 : wr.cell? ⟨g, k * 2, none⟩ = some (.string x.1) := (rows_cell H.out (by rw [← Nat.add_zero (k * 2), flat_get pairV 2 pairV_len hx (by omega)]; rfl)).1
      have hlt' : (k : Int) < (n : Int) := by omega
      have NE := Lib.hid hne
      have HX := Lib.hid hx
      clear hne hx
      by_cases he : x.1 = key
      · have HE := Lib.hid he
        go_wp2
        go_ret
        exact ⟨by rw [← HZ.out, idx_found HX.out HE.out NE.out]; rfl, rfl⟩
      · have g1 : (x.1.toList == key.toList) = false := str_ne he
        have HE := Lib.hid he
        go_wp2
        go_roundg (n - (k + 1))
        case measure => omega
        case rel =>
          refine ⟨k + 1, rfl, by omega, ?_, rfl⟩
          intro y hy
          rw [List.take_add_one, HX.out] at hy
          rcases List.mem_append.1 hy with hy | hy
          · exact NE.out y hy
          · simp at hy; subst hy; exact HE.out
    · have hlt' : ¬ (k : Int) < (n : Int) := by omega
      have NE := Lib.hid hne
      clear hne
      go_wp2
      go_ret
      have e : idxT T key = -1 := idx_out fun y hy => NE.out y (by rw [List.take_of_length_le (by rw [HN.out]; omega)]; exact hy)
      exact ⟨by rw [← HZ.out, e]; rfl, rfl⟩

theorem idx_some {T : List Pair} {key : ByteArray} {v : Int} (h : aget T key = some v) : ∃ k : Nat, idxT T key = k ∧ T[k]? = some (key, v) ∧ T.take k ++ T.drop (k + 1) = adel T key ∧ k < T.length := by
  obtain ⟨k, h1, h2⟩ := atT_some h
  exact ⟨k, by unfold idxT; rw [h1], h2⟩

theorem idx_none {T : List Pair} {key : ByteArray} (h : aget T key = none) : idxT T key = -1 := by
  unfold idxT; rw [atT_none h]

theorem rget_c {w : World} {rb : Nat} {S : Nat → Prop} {T : List Pair} (h : RefAt w rb S T) (key : ByteArray) :
    Calls Try.prog 17 #[.pointer (some ⟨rb, 0, none⟩), .string key] w fun r w' => r = .returned (.tuple #[.int .i64 ((aget T key).getD 0), .bool (aget T key).isSome]) ∧ ∃ q, w' = w.drewN q := by
  have hf := rfind_c h key
  obtain ⟨v, h1, h2, h3, h4⟩ := h.ex
  have hl := h.len
  obtain ⟨sa, cap, rfl, hc⟩ := rows_val2 h2
  have c0 : w.cell? ⟨rb, 0, none⟩ = some (.slice sa T.length cap) := by rw [cell_blk h1]; rfl
  cases hg : aget T key with
  | none =>
    rw [idx_none hg] at hf
    clear h h1 h2 h3 h4 hg hc c0
    go_enter Try.func17, Try.ntmps17
    go_wp2_with (
      go_at_call 30
      refine hf.mono ?_
      rintro e w1 ⟨rfl, rfl⟩)
    go_ret2
    exact ⟨rfl, 0, rfl⟩
  | some u =>
    obtain ⟨k, hk, hx, _, hlt⟩ := idx_some hg
    rw [hk] at hf
    obtain ⟨g, rfl, _, _, _⟩ := rows_some h2 (by omega)
    have c1 : w.cell? ⟨g, k * 2 + 1, none⟩ = some (.int .i64 u) := (rows_cell h2 (by rw [flat_get pairV 2 pairV_len hx (by omega)]; rfl)).1
    have hlt' : (k : Int) < (T.length : Int) := by omega
    generalize T.length = n at *
    clear h h1 h2 h3 h4 hg hx hk
    go_enter Try.func17, Try.ntmps17
    go_wp2_with (
      go_at_call 30
      refine hf.mono ?_
      rintro e w1 ⟨rfl, rfl⟩)
    go_ret2
    exact ⟨rfl, 0, rfl⟩

theorem pair_zero : ∀ w, (zeroValue 69).run Try.prog w = .ok (.agg #[.string ByteArray.empty, .int .i64 0]) w := Try.zeroValue69

theorem pair_info : ∃ i, Try.prog.info? 69 = some i ∧ i.zero = some (.agg #[.string ByteArray.empty, .int .i64 0]) ∧ i.size = 2 ∧ i.bytes ≤ 64 := by
  have h : (Try.prog.info? 69).map (fun i => (i.zero, i.size, i.bytes)) = some (some (.agg #[.string ByteArray.empty, .int .i64 0]), 2, 24) := by kernel_rfl
  cases hh : Try.prog.info? 69 with
  | none => rw [hh] at h; simp at h
  | some i =>
    rw [hh] at h
    simp only [Option.map_some, Option.some.injEq, Prod.mk.injEq] at h
    exact ⟨i, rfl, h.1, h.2.1, by omega⟩

theorem pair_cells : (Value.agg #[.string ByteArray.empty, .int .i64 0]).cells.size = 2 := by kernel_rfl

theorem pairV_one (T : List Pair) : ∀ u ∈ flat pairV T, u.oneCell' = true := by
  intro u hu
  obtain ⟨x, _, hx⟩ := List.mem_flatMap.1 hu
  simp only [pairV, List.mem_cons, List.mem_nil_iff, or_false] at hx
  rcases hx with rfl | rfl <;> rfl

theorem rnew_c (w : World) : Calls Try.prog 9 #[] w fun r w' => ∃ rb S, r = .returned (.pointer (some ⟨rb, 0, none⟩)) ∧ RefAt w' rb S [] ∧ Turn w (fun _ => False) w' S ∧ ∀ b, S b → w.heap.size ≤ b := by
  go_enter Try.func9, Try.ntmps9
  go_wp2
  go_ret
  refine ⟨w.heap.size, fun b => b = w.heap.size, rfl, ⟨⟨.slice none 0 0, heap_alloc_eq _ _, rows_nil _ _ _, fun b q => by simp [Value.ownBlock] at q, rfl⟩, ?_, by simp⟩, ⟨Keep.alloc _ _ _, fun b q => .inr (by omega)⟩, fun b q => by omega⟩
  intro b hb
  show b < (w.heap.push _).size
  rw [Array.size_push]
  omega

/-- The table's row is another one now. -/
theorem ref_world {w w2 : World} {rb : Nat} {S U : Nat → Prop} {T T' : List Pair} (h : RefAt w rb S T) (K : Keep w w2 U) (hU : ∀ b, U b → S b ∧ b ≠ rb) {v : Value} (ho : w2.ownsRow 0 69 2 v T'.length (flat pairV T'))
    (hb : ∀ b, v.ownBlock = some b → (S b ∧ b ≠ rb) ∨ w.heap.size ≤ b) (hl : T'.length ≤ 64) : ∃ S', RefAt (w2.setCell ⟨rb, 0, none⟩ v) rb S' T' ∧ Turn w S (w2.setCell ⟨rb, 0, none⟩ v) S' := by
  obtain ⟨v0, h1, h2, h3, h4⟩ := h.ex
  have hr := h.lt _ h4
  have hne : ∀ b, v.ownBlock = some b → b ≠ rb := fun b q => by
    rcases hb b q with q | q
    · exact q.2
    · omega
  have B : w2.heap[rb]? = some (.cells #[v0] 61 (0, 0)) := K.get h1 (fun q => (hU _ q).2 rfl)
  refine ⟨fun b => S b ∨ v.ownBlock = some b, ⟨⟨v, heap_setCell_eq _ B, rows_keep ho (Keep.setCell _ _ _) hne, fun b q => ⟨.inr q, hne b q⟩, .inl h4⟩, fun b q => ?_, hl⟩, ⟨(K.mono fun b q => (hU b q).1).trans (Keep.setCell _ _ _) (fun b q => .inl (by rw [show b = rb from q]; exact h4)), fun b q => ?_⟩⟩
  · have hs : (w2.setCell ⟨rb, 0, none⟩ v).heap.size = w2.heap.size := by simp
    rw [hs]
    rcases q with q | q
    · exact Nat.lt_of_lt_of_le (h.lt b q) K.size
    · rcases rows_val ho with ⟨rfl, _⟩ | ⟨g, cap, rfl, _, h5, h6⟩
      · simp [Value.ownBlock] at q
      · rw [h5] at q; cases q; exact h6
  · rcases q with q | q
    · exact .inl q
    · exact (hb b q).imp (fun z => z.1) id

set_option maxHeartbeats 1000000 in
theorem rput_new {w : World} {rb : Nat} {S : Nat → Prop} {T : List Pair} (h : RefAt w rb S T) (key : ByteArray) (v : Int) (hg : aget T key = none) (hl : T.length < 64) :
    Calls Try.prog 13 #[.pointer (some ⟨rb, 0, none⟩), .string key, .int .i64 v] w fun r w' => r = .returned (.int .i64 0) ∧ ∃ S', RefAt w' rb S' (T ++ [(key, v)]) ∧ Turn w S w' S' := by
  have hf := rfind_c h key
  rw [idx_none hg] at hf
  obtain ⟨sv, h1, h2, h3, h4⟩ := h.ex
  obtain ⟨sa, cap, rfl, hc⟩ := rows_val2 h2
  have c0 : w.cell? ⟨rb, 0, none⟩ = some (.slice sa T.length cap) := by rw [cell_blk h1]; rfl
  obtain ⟨pi, pi1, pi2, pi3, pi4⟩ := pair_info
  have hl' : ¬ (64 : Int) ≤ (T.length : Int) := by omega
  have f0 : w.frozen? ⟨rb, 0, none⟩ = false := free_blk h1 _
  have A := Lib.hid (And.intro h (And.intro h1 (And.intro h2 (And.intro h3 (And.intro h4 (And.intro pi1 (And.intro pi2 (And.intro pi3 pi4))))))))
  clear h h1 h2 h3 h4 pi1 pi2 pi3 pi4 hg
  go_enter Try.func13, Try.ntmps13
  go_wp2_with (first
    | (go_at_call 30
       refine hf.mono ?_
       rintro e w1 ⟨rfl, rfl⟩)
    | (at_builtin
       refine law_append_row rfl _ _ _ rfl Try.underlying59 A.out.2.2.2.2.2.1 A.out.2.2.2.2.2.2.1 A.out.2.2.2.2.2.2.2.1 A.out.2.2.2.2.2.2.2.2 pair_cells (by omega) rfl (rows_keep A.out.2.2.1 (Keep.alloc _ _ (fun _ => False)) (fun _ _ q => q)) (pairV (key, v)) rfl rfl (.inr ⟨_, rfl, cells_new _ _ _⟩) (pairV_one [(key, v)]) (by omega) ?_
       intro sa2 cap2 w2 ho hk hf2
       have N := Lib.hid (And.intro ho (And.intro hk hf2))
       have B2 : w2.heap[rb]? = some (.cells #[.slice sa T.length cap] 61 (0, 0)) := hk.get ((Keep.alloc _ _ (fun _ => False)).get A.out.2.1 (fun q => q)) (fun e => (A.out.2.2.2.1 _ e.symm).2 rfl)
       have d0 : w2.cell? ⟨rb, 0, none⟩ = some (.slice sa T.length cap) := by rw [cell_blk B2]; rfl
       have g0 : w2.frozen? ⟨rb, 0, none⟩ = false := free_blk B2 _
       have B := Lib.hid B2
       clear B2 ho hk hf2))
  go_ret
  obtain ⟨h, h1, h2, h3, h4, _⟩ := A.out
  obtain ⟨ho, hk, hf2⟩ := N.out
  have hsz : w1.heap.size < w2.heap.size := by
    have := hk.size
    simp at this
    omega
  refine ⟨rfl, ref_world h ((Keep.alloc _ _ _).trans hk (fun b q => .inl q)) (fun b q => h3 b q.symm) (by rw [flat_append]; simpa [flat, pairV] using ho) (fun b q => ?_) (by simp; omega)⟩
  rcases hf2 b q with q | q
  · exact .inl (h3 b q)
  · right; rw [q]; simp

theorem rput_c {w : World} {rb : Nat} {S : Nat → Prop} {T : List Pair} (h : RefAt w rb S T) (key : ByteArray) (v : Int) :
    Calls Try.prog 13 #[.pointer (some ⟨rb, 0, none⟩), .string key, .int .i64 v] w fun r w' => r = .returned (.int .i64 (putT T key v).2) ∧ ∃ S', RefAt w' rb S' (putT T key v).1 ∧ Turn w S w' S' := by
  unfold putT
  cases hg : aget T key with
  | some u =>
    obtain ⟨k, hk, _⟩ := idx_some hg
    have hf := rfind_c h key
    rw [hk] at hf
    refine Calls.mono (R := fun r w' => r = .returned (.int .i64 15) ∧ w' = w) ?_ ?_
    · clear h hg hk
      go_enter Try.func13, Try.ntmps13
      go_wp2_with (
        go_at_call 30
        refine hf.mono ?_
        rintro e w1 ⟨rfl, rfl⟩)
      go_ret
      exact ⟨rfl, rfl⟩
    · rintro e w' ⟨rfl, rfl⟩
      exact ⟨rfl, S, h, Turn.refl _ _⟩
  | none =>
    by_cases hl : 64 ≤ T.length
    · have hf := rfind_c h key
      rw [idx_none hg] at hf
      simp only [hl, if_true]
      refine Calls.mono (R := fun r w' => r = .returned (.int .i64 13) ∧ w' = w) ?_ ?_
      · obtain ⟨sv, h1, h2, h3, h4⟩ := h.ex
        obtain ⟨sa, cap, rfl, hc⟩ := rows_val2 h2
        have c0 : w.cell? ⟨rb, 0, none⟩ = some (.slice sa T.length cap) := by rw [cell_blk h1]; rfl
        have hl' : (64 : Int) ≤ (T.length : Int) := by omega
        clear h hg h1 h2 h3 h4
        go_enter Try.func13, Try.ntmps13
        go_wp2_with (
          go_at_call 30
          refine hf.mono ?_
          rintro e w1 ⟨rfl, rfl⟩)
        go_ret
        exact ⟨rfl, rfl⟩
      · rintro e w' ⟨rfl, rfl⟩
        exact ⟨rfl, S, h, Turn.refl _ _⟩
    · simp only [hl, if_false]
      exact rput_new h key v hg (by omega)

theorem take_some {α : Type} {l : List α} {n j : Nat} {u : α} (h : (l.take n)[j]? = some u) : l[j]? = some u := by
  by_cases hj : j < n
  · rwa [List.getElem?_take_of_lt hj] at h
  · rw [List.getElem?_eq_none (by rw [List.length_take]; omega)] at h; simp at h

set_option maxHeartbeats 2000000 in
theorem rdrop_some {w : World} {rb : Nat} {S : Nat → Prop} {T : List Pair} (h : RefAt w rb S T) (key : ByteArray) {v : Int} (hg : aget T key = some v) :
    Calls Try.prog 11 #[.pointer (some ⟨rb, 0, none⟩), .string key] w fun r w' => r = .returned (.tuple #[.int .i64 v, .int .i64 0]) ∧ ∃ S', RefAt w' rb S' (adel T key) ∧ Turn w S w' S' := by
  have hf := rfind_c h key
  obtain ⟨k, hk, hx, hd, hlt⟩ := idx_some hg
  rw [hk] at hf
  obtain ⟨sv, h1, h2, h3, h4⟩ := h.ex
  obtain ⟨sa, cap, rfl, hc⟩ := rows_val2 h2
  obtain ⟨g, rfl, _, _, hgl⟩ := rows_some h2 (by omega)
  have hlen := h.len
  have c0 : w.cell? ⟨rb, 0, none⟩ = some (.slice (some ⟨g, 0, none⟩) T.length cap) := by rw [cell_blk h1]; rfl
  have c1 : w.cell? ⟨g, k * 2 + 1, none⟩ = some (.int .i64 v) := (rows_cell h2 (by rw [flat_get pairV 2 pairV_len hx (by omega)]; rfl)).1
  have cn : (w.alloc (.cells #[] 69)).cell? ⟨rb, 0, none⟩ = some (.slice (some ⟨g, 0, none⟩) T.length cap) := by
    rw [cell_blk ((Keep.alloc w _ (fun _ => False)).get h1 (fun q => q))]; rfl
  obtain ⟨pi, pi1, pi2, pi3, pi4⟩ := pair_info
  have f0 : w.frozen? ⟨rb, 0, none⟩ = false := free_blk h1 _
  have A := Lib.hid (And.intro h (And.intro h1 (And.intro h2 (And.intro h3 (And.intro h4 (And.intro pi1 (And.intro pi2 (And.intro pi3 pi4))))))))
  have HD := Lib.hid (And.intro hd (And.intro hx (And.intro (rfl : T.length = T.length) hlen)))
  clear h h1 h2 h3 h4 pi1 pi2 pi3 pi4 hg hk hd hx
  have b1 : (k : Int) < (T.length : Int) := by omega
  have b2 : (k : Int) ≤ (T.length : Int) := by omega
  have b3 : (k : Int) ≤ (cap : Int) := by omega
  have b4 : (k : Int) + 1 ≤ (T.length : Int) := by omega
  have b5 : (k : Int) + 1 ≤ (cap : Int) := by omega
  have b6 : (0 : Int) ≤ (k : Int) := by omega
  have b7 : (0 : Int) ≤ (k : Int) + 1 := by omega
  have b8 : ((k : Int) + 1).toNat = k + 1 := by omega
  have b9 : IntKind.i64.wrap ((k : Int) + 1) = (k : Int) + 1 := IntWalk.i64_in _ (by omega)
  rcases Nat.eq_or_lt_of_le (show k + 1 ≤ cap by omega) with hcap | hcap
  · go_enter Try.func11, Try.ntmps11
    go_wp2_with (first
      | (go_at_call 30
         refine hf.mono ?_
         rintro e w1 ⟨rfl, rfl⟩)
      | fail)
    have R0 : ∀ w2, Keep w1 w2 (fun _ => False) → w2.ownsRow 0 69 2 (.slice (some ⟨g, 0, none⟩) T.length cap) T.length (flat pairV T) := fun w2 K => rows_keep A.out.2.2.1 K (fun _ _ q => q)
    have R1 : ∀ w2, Keep w1 w2 (fun _ => False) → k = 0 ∨ ∃ ad, some (⟨g, 0, none⟩ : Addr) = some ad ∧ ∀ j u, (flat pairV (T.take k))[j]? = some u → w2.cell? (ad.add j) = some u := fun w2 K => .inr ⟨_, rfl, rows_read (R0 w2 K) 0 (fun j u hj => by
      rw [Nat.zero_add]
      rw [flat_take pairV 2 pairV_len] at hj
      exact take_some hj)⟩
    have R2 : (flat pairV (T.take k)).length = k * 2 := by rw [flat_len pairV 2 pairV_len, List.length_take]; omega
    have K0 : Keep w1 (World.drew (w1.alloc (.cells #[] 69))) (fun _ => False) := (Keep.alloc w1 _ (fun _ => False)).trans (Keep.drew _ (fun _ => False)) (fun _ q => q.elim)
    have E0 : (World.drew (w1.alloc (.cells #[] 69))).ownsRow 0 69 2 (.slice (some ⟨w1.heap.size, 0, none⟩) 0 0) 0 [] := rows_empty (heap_alloc_eq w1 _)
    have hn : T.length = k + 1 := by omega
    have R3 : (flat pairV (T.drop (k + 1))).length = 0 * 2 := by rw [flat_len pairV 2 pairV_len, List.length_drop]; omega
    have R4 : ∀ w2, Keep w1 w2 (fun _ => False) → 0 = 0 ∨ ∃ ad, some (⟨g, 0, none⟩ : Addr) = some ad ∧ ∀ j u, (flat pairV (T.drop (k + 1)))[j]? = some u → w2.cell? (ad.add j) = some u := fun w2 K => .inl rfl
    have RR := Lib.hid (And.intro R0 (And.intro R1 (And.intro R2 (And.intro K0 (And.intro E0 (And.intro R3 R4))))))
    have hk64 : k ≤ 64 := by have := HD.out.2.2.2; omega
    have hT64 : T.length ≤ 64 := HD.out.2.2.2
    clear R0 R1 R2 R3 R4 K0 E0
    go_region_law
      (first
        | (refine step_append_row rfl _ _ _ (by rfl) Try.underlying59 A.out.2.2.2.2.2.1 A.out.2.2.2.2.2.2.1 A.out.2.2.2.2.2.2.2.1 A.out.2.2.2.2.2.2.2.2 pair_cells (by omega) (by rfl) RR.out.2.2.2.2.1 (flat pairV (T.take k)) (by rfl) RR.out.2.2.1 (RR.out.2.1 _ RR.out.2.2.2.1) (pairV_one _) (by omega) k (by omega) (flat pairV (T.take k)) rfl ?_
           intro sa2 cap2 w2 ho hk hf2
           have B2 := hk.get (RR.out.2.2.2.1.get A.out.2.1 (fun q => q)) (fun e => by
             have h5 := A.out.1.lt _ A.out.2.2.2.2.1
             have h6 : rb = w1.heap.size := by simpa [Value.ownBlock] using e
             omega)
           have d0 : w2.cell? ⟨rb, 0, none⟩ = some (.slice (some ⟨g, 0, none⟩) T.length cap) := by rw [cell_blk B2]; rfl
           have K2 : Keep w1 w2 (fun _ => False) := RR.out.2.2.2.1.trans hk (fun b q => .inr (by
             have h6 : b = w1.heap.size := by simpa [Value.ownBlock] using q
             omega))
           have F2 : ∀ b, (Value.slice sa2 k cap2).ownBlock = some b → w1.heap.size ≤ b := fun b q => by
             rcases hf2 b q with q | q
             · have h6 : w1.heap.size = b := by simpa [Value.ownBlock] using q
               omega
             · rw [q]; exact RR.out.2.2.2.1.size
           have N := Lib.hid (And.intro ho (And.intro K2 (And.intro F2 B2)))
           clear ho hk hf2 K2 F2 B2)
        | (refine step_append_row rfl _ _ _ (by rfl) Try.underlying59 A.out.2.2.2.2.2.1 A.out.2.2.2.2.2.2.1 A.out.2.2.2.2.2.2.2.1 A.out.2.2.2.2.2.2.2.2 pair_cells (by omega) (by rfl) N.out.1 (flat pairV (T.drop (k + 1))) (by rfl) RR.out.2.2.2.2.2.1 (.inl rfl) (pairV_one _) (by omega) (T.length - 1) (by omega) _ rfl ?_
           intro sa3 cap3 w3 ho3 hk3 hf3
           have B3 := hk3.get N.out.2.2.2 (fun e => by
             have h5 := A.out.1.lt _ A.out.2.2.2.2.1
             have h6 := N.out.2.2.1 _ e.symm
             omega)
           have d3 : w3.cell? ⟨rb, 0, none⟩ = some (.slice (some ⟨g, 0, none⟩) T.length cap) := by rw [cell_blk B3]; rfl
           have g3 : w3.frozen? ⟨rb, 0, none⟩ = false := free_blk B3 _
           have K3 : Keep w1 w3 (fun _ => False) := N.out.2.1.trans hk3 (fun b q => .inr (N.out.2.2.1 _ q.symm))
           have F3 : ∀ b, (Value.slice sa3 (T.length - 1) cap3).ownBlock = some b → w1.heap.size ≤ b := fun b q => by
             rcases hf3 b q with q | q
             · exact N.out.2.2.1 _ q
             · rw [q]; exact N.out.2.1.size
           have N3 := Lib.hid (And.intro ho3 (And.intro K3 F3))
           clear ho3 hk3 hf3 K3 F3 B3))
    all_goals go_wp2
    all_goals go_ret2
    all_goals (
      try (rw [show cap - 1 = T.length - 1 by omega])
      obtain ⟨ho3, K3, F3⟩ := N3.out
      have hlen3 : (adel T key).length = T.length - 1 := by rw [← HD.out.1]; simp; omega
      exact ⟨rfl, ref_world A.out.1 K3 (fun b q => q.elim) (by rw [hlen3, ← HD.out.1, flat_append]; exact ho3) (fun b q => .inr (F3 b q)) (by omega)⟩)
  · have hcap2 : ¬ cap = k + 1 := by omega
    clear hcap
    go_enter Try.func11, Try.ntmps11
    go_wp2_with (first
      | (go_at_call 30
         refine hf.mono ?_
         rintro e w1 ⟨rfl, rfl⟩)
      | fail)
    have R0 : ∀ w2, Keep w1 w2 (fun _ => False) → w2.ownsRow 0 69 2 (.slice (some ⟨g, 0, none⟩) T.length (cap)) T.length (flat pairV T) := fun w2 K => rows_keep A.out.2.2.1 K (fun _ _ q => q)
    have R1 : ∀ w2, Keep w1 w2 (fun _ => False) → k = 0 ∨ ∃ ad, some (⟨g, 0, none⟩ : Addr) = some ad ∧ ∀ j u, (flat pairV (T.take k))[j]? = some u → w2.cell? (ad.add j) = some u := fun w2 K => .inr ⟨_, rfl, rows_read (R0 w2 K) 0 (fun j u hj => by
      rw [Nat.zero_add]
      rw [flat_take pairV 2 pairV_len] at hj
      exact take_some hj)⟩
    have R2 : (flat pairV (T.take k)).length = k * 2 := by rw [flat_len pairV 2 pairV_len, List.length_take]; omega
    have K0 : Keep w1 (World.drew (w1.alloc (.cells #[] 69))) (fun _ => False) := (Keep.alloc w1 _ (fun _ => False)).trans (Keep.drew _ (fun _ => False)) (fun _ q => q.elim)
    have E0 : (World.drew (w1.alloc (.cells #[] 69))).ownsRow 0 69 2 (.slice (some ⟨w1.heap.size, 0, none⟩) 0 0) 0 [] := rows_empty (heap_alloc_eq w1 _)
    have R3 : (flat pairV (T.drop (k + 1))).length = (T.length - (k + 1)) * 2 := by rw [flat_len pairV 2 pairV_len, List.length_drop]
    have R4 : ∀ w2, Keep w1 w2 (fun _ => False) → T.length - (k + 1) = 0 ∨ ∃ ad, some (⟨g, (k + 1) * 2, none⟩ : Addr) = some ad ∧ ∀ j u, (flat pairV (T.drop (k + 1)))[j]? = some u → w2.cell? (ad.add j) = some u := fun w2 K => .inr ⟨_, rfl, rows_read (R0 w2 K) _ (fun j u hj => by
      rw [flat_drop pairV 2 pairV_len, List.getElem?_drop] at hj
      exact hj)⟩
    have RR := Lib.hid (And.intro R0 (And.intro R1 (And.intro R2 (And.intro K0 (And.intro E0 (And.intro R3 R4))))))
    have hk64 : k ≤ 64 := by have := HD.out.2.2.2; omega
    have hT64 : T.length ≤ 64 := HD.out.2.2.2
    clear R0 R1 R2 R3 R4 K0 E0
    go_region_law
      (first
        | (refine step_append_row rfl _ _ _ (by rfl) Try.underlying59 A.out.2.2.2.2.2.1 A.out.2.2.2.2.2.2.1 A.out.2.2.2.2.2.2.2.1 A.out.2.2.2.2.2.2.2.2 pair_cells (by omega) (by rfl) RR.out.2.2.2.2.1 (flat pairV (T.take k)) (by rfl) RR.out.2.2.1 (RR.out.2.1 _ RR.out.2.2.2.1) (pairV_one _) (by omega) k (by omega) (flat pairV (T.take k)) rfl ?_
           intro sa2 cap2 w2 ho hk hf2
           have B2 := hk.get (RR.out.2.2.2.1.get A.out.2.1 (fun q => q)) (fun e => by
             have h5 := A.out.1.lt _ A.out.2.2.2.2.1
             have h6 : rb = w1.heap.size := by simpa [Value.ownBlock] using e
             omega)
           have d0 : w2.cell? ⟨rb, 0, none⟩ = some (.slice (some ⟨g, 0, none⟩) T.length (cap)) := by rw [cell_blk B2]; rfl
           have K2 : Keep w1 w2 (fun _ => False) := RR.out.2.2.2.1.trans hk (fun b q => .inr (by
             have h6 : b = w1.heap.size := by simpa [Value.ownBlock] using q
             omega))
           have F2 : ∀ b, (Value.slice sa2 k cap2).ownBlock = some b → w1.heap.size ≤ b := fun b q => by
             rcases hf2 b q with q | q
             · have h6 : w1.heap.size = b := by simpa [Value.ownBlock] using q
               omega
             · rw [q]; exact RR.out.2.2.2.1.size
           have N := Lib.hid (And.intro ho (And.intro K2 (And.intro F2 B2)))
           clear ho hk hf2 K2 F2 B2)
        | (refine step_append_row rfl _ _ _ (by rfl) Try.underlying59 A.out.2.2.2.2.2.1 A.out.2.2.2.2.2.2.1 A.out.2.2.2.2.2.2.2.1 A.out.2.2.2.2.2.2.2.2 pair_cells (by omega) (by rfl) N.out.1 (flat pairV (T.drop (k + 1))) (by rfl) RR.out.2.2.2.2.2.1 (RR.out.2.2.2.2.2.2 _ N.out.2.1) (pairV_one _) (by omega) (T.length - 1) (by omega) _ rfl ?_
           intro sa3 cap3 w3 ho3 hk3 hf3
           have B3 := hk3.get N.out.2.2.2 (fun e => by
             have h5 := A.out.1.lt _ A.out.2.2.2.2.1
             have h6 := N.out.2.2.1 _ e.symm
             omega)
           have d3 : w3.cell? ⟨rb, 0, none⟩ = some (.slice (some ⟨g, 0, none⟩) T.length (cap)) := by rw [cell_blk B3]; rfl
           have g3 : w3.frozen? ⟨rb, 0, none⟩ = false := free_blk B3 _
           have K3 : Keep w1 w3 (fun _ => False) := N.out.2.1.trans hk3 (fun b q => .inr (N.out.2.2.1 _ q.symm))
           have F3 : ∀ b, (Value.slice sa3 (T.length - 1) cap3).ownBlock = some b → w1.heap.size ≤ b := fun b q => by
             rcases hf3 b q with q | q
             · exact N.out.2.2.1 _ q
             · rw [q]; exact N.out.2.1.size
           have N3 := Lib.hid (And.intro ho3 (And.intro K3 F3))
           clear ho3 hk3 hf3 K3 F3 B3))
    all_goals go_wp2
    all_goals go_ret2
    all_goals (
      try (rw [show cap - 1 = T.length - 1 by omega])
      obtain ⟨ho3, K3, F3⟩ := N3.out
      have hlen3 : (adel T key).length = T.length - 1 := by rw [← HD.out.1]; simp; omega
      exact ⟨rfl, ref_world A.out.1 K3 (fun b q => q.elim) (by rw [hlen3, ← HD.out.1, flat_append]; exact ho3) (fun b q => .inr (F3 b q)) (by omega)⟩)

end Go.Proofs.Ytkdpkmlmkholmaa
