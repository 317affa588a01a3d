/-
  warrenlaw7.long; a row of bytes that is filled.
-/
import Derived.Test.YtlbekofkhjkniaaDoorNKnown
import Derived.Test.YtlbekofkhjkniaaDoorWithin
namespace Go.Proofs.YtlbekofkhjkniaaDoor
open Go Go.RowKit Go.Shelf
set_option linter.unusedSectionVars false
set_option linter.unusedSimpArgs false
set_option linter.unusedVariables false
attribute [local go_sem] Oper.semAt_some

def byV (c : UInt8) : Value := .int .u8 c.toNat

/-- A block that holds these bytes. -/
def ByAt (w : World) (b : Nat) (l : Bl) : Prop := w.heap[b]? = some (.cells (l.map byV).toArray 5 (0, 0))

theorem ByAt.cell {w : World} {b : Nat} {l : Bl} (h : ByAt w b l) {i : Nat} {c : UInt8} (hi : l[i]? = some c) : w.cell? ⟨b, i, none⟩ = some (byV c) := by
  rw [cell_blk h]
  simp [hi]

theorem ByAt.free {w : World} {b : Nat} {l : Bl} (h : ByAt w b l) (i : Nat) : w.frozen? ⟨b, i, none⟩ = false := free_blk h i

theorem ByAt.set {w : World} {b : Nat} {l : Bl} (h : ByAt w b l) (i : Nat) (c : UInt8) : ByAt (w.setCell ⟨b, i, none⟩ (byV c)) b (l.set i c) := by
  unfold ByAt
  rw [heap_setCell_eq _ h]
  simp [List.map_set]

theorem ByAt.keep {w w' : World} {b : Nat} {l : Bl} {S : Nat → Prop} (h : ByAt w b l) (k : Keep w w' S) (hn : ¬ S b) : ByAt w' b l := k.get h hn

theorem ByAt.bytes {w : World} {b : Nat} {l : Bl} (h : ByAt w b l) {n cap : Nat} (hn : n = l.length) : BytesIn w (.slice (some ⟨b, 0, none⟩) n cap) (l.map fun c => (c.toNat : Int)) (fun _ => False) := by
  subst hn
  refine ⟨fun c hc => ?_, _, cap, by rw [List.length_map], .inr ⟨b, 0, rfl, fun q => q, fun i hi => ?_⟩⟩
  · obtain ⟨u, _, rfl⟩ := List.mem_map.1 hc
    have := u.toNat_lt
    omega
  · rw [List.length_map] at hi
    rw [Nat.zero_add, h.cell (List.getElem?_eq_getElem hi)]
    simp [byV, hi]

theorem str_txB (l : Bl) : strOfNums (l.map fun c => (c.toNat : Int)) = txB l := by
  unfold strOfNums txB
  rw [List.map_map]
  congr 2
  refine (List.map_congr_left (fun c _ => ?_)).trans (List.map_id _)
  simp

theorem fill_set (z : UInt8) {n k : Nat} (hk : k < n) : (List.replicate k z ++ List.replicate (n - k) 0).set k z = List.replicate (k + 1) z ++ List.replicate (n - (k + 1)) 0 := by
  rw [List.set_append_right (h := by simp), List.length_replicate, Nat.sub_self]
  obtain ⟨m, hm⟩ : ∃ m, n - k = m + 1 := ⟨n - k - 1, by omega⟩
  rw [hm, show n - (k + 1) = m by omega, List.replicate_succ, List.set_cons_zero, List.replicate_succ' (n := k)]
  simp

theorem fill_at (z : UInt8) {n k : Nat} (hk : k < n) : (List.replicate k z ++ List.replicate (n - k) 0)[k]? = some (0 : UInt8) := by
  rw [List.getElem?_append_right (by simp), List.length_replicate, Nat.sub_self, List.getElem?_replicate, if_pos (by omega)]

theorem fill_zero {w : World} {b n : Nat} (h : w.heap[b]? = some (.cells (Array.replicate n (.int .u8 0)) 5 (0, 0))) (z : UInt8) : ByAt w b (List.replicate 0 z ++ List.replicate (n - 0) 0) := by
  unfold ByAt
  rw [h]
  simp [byV]

theorem u8_info : ∃ i, Tryd.prog.info? 5 = some i ∧ i.size = 1 ∧ i.bytes ≤ 64 := by
  refine ⟨_, rfl, ?_, ?_⟩
  · kernel_rfl
  · decide +kernel

theorem u8_zero (w : World) : (zeroValue 5).run Tryd.prog w = .ok (.int .u8 0) w := Tryd.zeroValue5 w

set_option maxRecDepth 100000 in
theorem long_c (n : Nat) (hn : n ≤ 1000000) (w : World) :
    Calls Tryd.prog 14 #[.int .i64 n] w fun r w' => r = .returned (.string (txB (List.replicate n 120))) ∧ Keep w w' (fun _ => False) := by
  obtain ⟨ti, ti1, ti2, ti3⟩ := u8_info
  have HI := Lib.hid (And.intro ti1 (And.intro ti2 ti3))
  clear ti1 ti2 ti3
  have hz := u8_zero
  go_enter Tryd.func14, Tryd.ntmps14
  go_wp2_with (
    refine law_make rfl _ _ _ rfl Tryd.underlying35 hz rfl HI.out.1 HI.out.2.1 HI.out.2.2 rfl n rfl (by omega) ?_
    intro w1 b hb hb1 hk1
    have B := Lib.hid (And.intro hb (And.intro hb1 hk1))
    clear hb hb1 hk1)
  go_loopg [4] n (fun g s4 wr => ∃ k : Nat, s4 = .int .i64 k ∧ k + g = n ∧ ByAt wr b (List.replicate k 120 ++ List.replicate (n - k) 0) ∧ Keep w wr (fun _ => False))
  case atStart => exact ⟨0, rfl, by omega, fill_zero B.out.2.1 120, B.out.2.2⟩
  case round =>
    obtain ⟨k, rfl, hk, hb, hkk⟩ := hrel
    by_cases hlt : k < n
    · have g1 : (k : Int) < (n : Int) := by omega
      have c1 : wr.cell? ⟨b, k, none⟩ = some (.int .u8 0) := hb.cell (fill_at 120 hlt)
      have f1 := hb.free k
      have R := Lib.hid (And.intro hb hkk)
      clear hb hkk
      go_wp2
      go_roundg (n - (k + 1))
      case measure => omega
      case rel =>
        refine ⟨k + 1, rfl, by omega, ?_, R.out.2.trans (Keep.setCell wr _ _) (fun x q => .inr (by have q' : x = b := q; have := B.out.1; omega))⟩
        rw [← fill_set 120 hlt]
        exact R.out.1.set k 120
    · have g1 : ¬ (k : Int) < (n : Int) := by omega
      have hkn : k = n := by omega
      have hb2 : ByAt wr b (List.replicate n 120) := by rw [hkn, Nat.sub_self] at hb; simpa using hb
      have R := Lib.hid (And.intro hb2 hkk)
      clear hb hkk hb2 hkn
      go_wp2_with (
        refine law_str rfl _ _ _ rfl Tryd.underlying35 Tryd.underlying5 Tryd.underlying9 rfl (R.out.1.bytes (by simp)) ?_
        rw [str_txB])
      go_ret
      exact ⟨rfl, R.out.2⟩

end Go.Proofs.YtlbekofkhjkniaaDoor
