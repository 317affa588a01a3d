/-
  The contract of Read.
-/
import Derived.Test.YtnjfcedkfobbcaaGreatBlock4
namespace Go.Proofs.YtnjfcedkfobbcaaGreat
open Go Go.RowKit
set_option linter.unusedSectionVars false
set_option linter.unusedSimpArgs false
set_option linter.unusedVariables false
set_option maxRecDepth 100000

/-- v holds the bytes l, in new memory of its own. -/
def BytesNew (w : World) (v : Value) (l : List Int) (B : Nat) : Prop :=
  (l = [] ∧ v = .slice none 0 0) ∨ ∃ b, B ≤ b ∧ v = .slice (some ⟨b, 0, none⟩) l.length l.length ∧ w.heap[b]? = some (.cells (l.map (Value.int .u8)).toArray 5 (0, 0))

theorem read_bad {w : World} {pb : Nat} {S : Nat → Prop} {V : PoolV} (h : PoolAt w pb S V) (f p n e : Int)
    (hq : (aget V.files f = none ∧ e = 1) ∨ ∃ F, aget V.files f = some F ∧ ((p < 0 ∧ e = 39) ∨ (0 ≤ p ∧ n < 0 ∧ e = 39) ∨ (0 ≤ p ∧ 0 ≤ n ∧ F.size ≤ p ∧ e = 0))) :
    Calls Tryz.prog 87 #[ptr pb, .int .i64 f, .int .i64 p, .int .i64 n] w fun r w' => r = .returned (.tuple #[.slice none 0 0, .int .i64 e]) ∧ w = w' := by
  obtain ⟨mf, xa, fs, h1, h2, h3, h4, h5, h6⟩ := h
  have c1 : w.cell? ⟨pb, 1, none⟩ = some (.map (some mf)) := by rw [cell_blk h1]; rfl
  have lk := pool_look (pb := pb) h2 f
  rcases hq with ⟨hg, rfl⟩ | ⟨F, hg, hq⟩
  · rw [hg] at lk
    clear h1 h2 h3 h4 h5 h6 hg
    unfold ptr at *
    go_enter Tryz.func87, Tryz.ntmps87
    go_wp2
    go_ret2
    exact ⟨rfl, rfl⟩
  · rw [hg] at lk
    obtain ⟨hok, bm, ad, g1, g2, g3, g4, g5⟩ := h3 _ (aget_mem hg)
    have cz : w.cell? ⟨xa f, 0, none⟩ = some (.int .i64 F.size) := by rw [cell_blk g1]; rfl
    clear h1 h2 h3 h4 h5 h6 hg g1 g2 g3 g4 g5 hok
    unfold ptr at *
    rcases hq with ⟨q1, rfl⟩ | ⟨q1, q2, rfl⟩ | ⟨q1, q2, q3, rfl⟩
    · go_enter Tryz.func87, Tryz.ntmps87
      go_wp2
      go_ret2
      exact ⟨rfl, rfl⟩
    · have q1' : ¬ p < 0 := by omega
      go_enter Tryz.func87, Tryz.ntmps87
      go_wp2
      go_ret2
      exact ⟨rfl, rfl⟩
    · have q1' : ¬ p < 0 := by omega
      have q2' : ¬ n < 0 := by omega
      go_enter Tryz.func87, Tryz.ntmps87
      go_wp2
      go_ret2
      exact ⟨rfl, rfl⟩

def halfRead (F : FileV) (p : Int) (m j : Nat) : Array Value := ((List.range m).map fun i => Value.int .u8 (if i < j then F.byte (p + i) else 0)).toArray

theorem halfRead_zero (F : FileV) (p : Int) (m : Nat) : halfRead F p m 0 = Array.replicate m (.int .u8 0) := by
  apply Array.ext
  · simp [halfRead]
  · intro i h1 h2; simp [halfRead]

theorem halfRead_step (F : FileV) (p : Int) (m j : Nat) (h : j < m) : (halfRead F p m j).setIfInBounds j (.int .u8 (F.byte (p + j))) = halfRead F p m (j + 1) := by
  apply Array.ext_getElem?
  intro i
  rw [Array.getElem?_setIfInBounds]
  by_cases hi : i < m
  · by_cases e : j = i
    · subst e; simp [halfRead, hi]
    · rw [if_neg e]
      simp only [halfRead, List.getElem?_toArray, List.getElem?_map, List.getElem?_range hi, Option.map_some]
      have : i < j ↔ i < j + 1 := by omega
      simp [this]
  · rw [if_neg (by omega)]
    simp [halfRead, hi]

theorem halfRead_skip (F : FileV) (p : Int) (m j : Nat) (h : F.byte (p + j) = 0) : halfRead F p m j = halfRead F p m (j + 1) := by
  apply Array.ext_getElem?
  intro i
  by_cases hi : i < m
  · simp only [halfRead, List.getElem?_toArray, List.getElem?_map, List.getElem?_range hi, Option.map_some]
    by_cases e : i = j
    · subst e; simp [h]
    · have : i < j ↔ i < j + 1 := by omega
      simp [this]
  · simp [halfRead, hi]

theorem halfRead_full (F : FileV) (p : Int) (m : Nat) : halfRead F p m m = (((List.range m).map fun (i : Nat) => F.byte (p + i)).map (Value.int .u8)).toArray := by
  apply Array.ext_getElem?
  intro i
  by_cases hi : i < m
  · simp [halfRead, hi]
  · simp [halfRead, hi]

theorem u8_zero (w : World) : (zeroValue 5).run Tryz.prog w = .ok (.int .u8 0) w := by kernel_rfl
theorem u8_infoB : (Tryz.prog.info? 5).map (fun i => (i.size, i.bytes)) = some (1, 1) := by kernel_rfl

set_option maxHeartbeats 1000000 in
theorem read_ok {w : World} {pb : Nat} {S : Nat → Prop} {V : PoolV} (h : PoolAt w pb S V) (f p n : Int) {F : FileV} (hg : aget V.files f = some F) (q1 : 0 ≤ p) (q2 : 0 ≤ n) (q3 : p < F.size) :
    Calls Tryz.prog 87 #[ptr pb, .int .i64 f, .int .i64 p, .int .i64 n] w fun r w' => ∃ v, r = .returned (.tuple #[v, .int .i64 0]) ∧ BytesNew w' v (F.read p n) w.heap.size ∧ Keep w w' (fun _ => False) := by
  obtain ⟨mf, xa, fs, h1, h2, h3, h4, h5, h6⟩ := h
  have c1 : w.cell? ⟨pb, 1, none⟩ = some (.map (some mf)) := by rw [cell_blk h1]; rfl
  have lk := pool_look (pb := pb) h2 f
  rw [hg] at lk
  have hF := h3 _ (aget_mem hg)
  obtain ⟨hok, bm, ad, g1, g2, g3, g4, g5⟩ := hF
  have cz : w.cell? ⟨xa f, 0, none⟩ = some (.int .i64 F.size) := by rw [cell_blk g1]; rfl
  have q4 : F.size ≤ 1024 := hok.2.1
  have q1' : ¬ p < 0 := by omega
  have q2' : ¬ n < 0 := by omega
  obtain ⟨i0, hi, hs⟩ : ∃ i, Tryz.prog.info? 5 = some i ∧ (i.size, i.bytes) = (1, 1) := by
    have := u8_infoB
    cases hh : Tryz.prog.info? 5 with
    | none => rw [hh] at this; simp at this
    | some i => rw [hh] at this; exact ⟨i, rfl, by simpa using this⟩
  have hs1 : i0.size = 1 := congrArg Prod.fst hs
  have hs2 : i0.bytes ≤ 64 := by have : i0.bytes = 1 := congrArg Prod.snd hs; omega
  have G := Lib.hid (And.intro hok (And.intro g1 (And.intro g2 (And.intro g3 (And.intro g4 g5)))))
  have HI := Lib.hid (And.intro hi (And.intro hs1 hs2))
  clear h1 h2 h3 h4 h5 h6 hg g1 g2 g3 g4 g5 hok hi hs hs1 hs2
  unfold ptr at *
  obtain ⟨m, hmm⟩ : ∃ m : Nat, (m : Int) = min n (F.size - p) := ⟨(min n (F.size - p)).toNat, by omega⟩
  have Hm := Lib.hid hmm
  have hm5 : m ≤ 1024 := by omega
  clear hmm
  by_cases hm : n ≤ F.size - p
  all_goals
    go_enter Tryz.func87, Tryz.ntmps87
    go_wp2_with (
      at_make
      refine law_make rfl _ _ _ rfl Tryz.underlying33 u8_zero rfl HI.out.1 HI.out.2.1 HI.out.2.2 rfl m (by have := Hm.out; omega) (by omega) ?_
      intro w1 nb hnb hn1 hk1
      have Hnb := Lib.hid hnb
      clear hnb
      have N1 := Lib.hid hn1
      clear hn1)
    go_loopw [48] (fun i wr => ∃ j : Nat, j ≤ m ∧ i = .int .i64 j ∧ wr.heap[nb]? = some (.cells (halfRead F p m j) 5 (0, 0)) ∧ Keep w wr (fun _ => False)) (fun i _ => m - (intOf i).toNat)
    case atStart => exact ⟨0, by omega, by simp, by rw [halfRead_zero]; exact N1.out, hk1⟩
    case round =>
      obtain ⟨j, hj, rfl, hnj, hK⟩ := hrel
      have nf : ∀ b, b < w.heap.size → b ≠ nb := fun b hb e => by have := Hnb.out; omega
      have cx : wr.cell? ⟨xa f, 1, none⟩ = some (.map (some bm)) := by rw [cell_blk (hK.get G.out.2.1 (fun q => q))]; rfl
      by_cases hlt : j < m
      · have hm9 := Hm.out
        have hpm : p + j < 1024 := by omega
        clear hm9
        have look := blocks_look (G.out.2.2.1.keep hK (fun q => q)) ((p + j) / 16)
        by_cases hk : (p + (j : Int)) / 16 ∈ F.keys
        · rw [if_pos hk] at look
          have gb := hK.get (G.out.2.2.2.1 _ hk) (fun q => q)
          have cs : wr.cell? ⟨ad ((p + j) / 16), ((p + (j : Int)) % 16).toNat, none⟩ = some (.int .u8 (F.byte (p + j))) := by
            rw [cell_blk gb, rowOf_get _ _ _ (by omega)]
            congr 3; omega
          have co : wr.cell? ⟨nb, j, none⟩ = some (.int .u8 0) := by
            rw [cell_blk hnj]
            simp [halfRead, hlt]
          have fo : wr.frozen? ⟨nb, j, none⟩ = false := free_blk hnj _
          have G2 := Lib.hid (And.intro hnj hK)
          clear hnj hK hk gb nf
          unfold ptr at *
          go_wp2
          go_roundw
          case measure => simp [intOf]; omega
          case rel =>
            obtain ⟨hnj, hK⟩ := G2.out
            refine ⟨j + 1, by omega, by go_num, ?_, hK.trans (Keep.setCell _ _ _) (fun b e => .inr (by have := Hnb.out; have e' : b = nb := e; omega))⟩
            rw [heap_setCell_eq _ hnj, halfRead_step F p m j hlt]
        · rw [if_neg hk] at look
          have hz := Lib.hid (G.out.1.2.2.2.2.1 (p + j) hk)
          have G2 := Lib.hid (And.intro hnj hK)
          clear hnj hK hk nf
          go_wp2
          go_roundw
          case measure => simp [intOf]; omega
          case rel =>
            obtain ⟨hnj, hK⟩ := G2.out
            refine ⟨j + 1, by omega, by go_num, ?_, hK⟩
            rw [← halfRead_skip F p m j hz.out]; exact hnj
      · have e : j = m := by omega
        subst e
        have G2 := Lib.hid (And.intro hnj hK)
        clear hnj hK nf
        go_wp2
        go_ret2
        obtain ⟨hnj, hK⟩ := G2.out
        refine ⟨.slice (some ⟨nb, 0, none⟩) j j, rfl, .inr ⟨nb, by have := Hnb.out; omega, ?_, ?_⟩, hK⟩
        · have hl : (F.read p n).length = j := by unfold FileV.read; have := Hm.out; simp; omega
          rw [hl]
        · rw [hnj, halfRead_full]
          have hl : (min n (F.size - p)).toNat = j := by have := Hm.out; omega
          unfold FileV.read
          rw [hl]

end Go.Proofs.YtnjfcedkfobbcaaGreat
