/-
  The program's reader (call): take.
-/
import Derived.Test.YtdbkkfhneafeiaaDoorBSr
import Derived.Test.YtdbkkfhneafeiaaDoorCode0
import Derived.Test.YtdbkkfhneafeiaaDoorChecked
import Derived.WalkMore
import Derived.Deep.LoopGhost
import Derived.Deep.QuietTactic
import Derived.BigQuiet
namespace Go.Proofs.YtdbkkfhneafeiaaDoor
open Go Go.RowKit
set_option linter.unusedSectionVars false
set_option linter.unusedSimpArgs false
set_option linter.unusedVariables false

/-- A reader in memory: what it reads, where it stands, whether there was enough. -/
structure OrAt (w : World) (rb : Nat) (v : Value) (b : Bs) (p : Nat) (sh : Bool) : Prop where
  cell : w.heap[rb]? = some (.cells #[v, .int .i64 p, .bool sh] 57 (0, 0))
  src : BSr w v b
  sep : b ≠ [] → Clear v (fun x => x = rb)
  le : p ≤ b.length

theorem OrAt.aside {w w' : World} {rb : Nat} {v : Value} {b : Bs} {p : Nat} {sh : Bool} (h : OrAt w rb v b p sh) (k : Keep w w' (fun _ => False)) : OrAt w' rb v b p sh :=
  ⟨k.get h.cell (fun q => q), h.src.aside k, h.sep, h.le⟩

/-- The reader's cells are others now. -/
theorem OrAt.set {w w1 : World} {rb : Nat} {v : Value} {b : Bs} {p : Nat} {sh : Bool} (h : OrAt w rb v b p sh) (k : Keep w w1 (fun x => x = rb)) {q : Nat} {sh' : Bool} (hq : q ≤ b.length) (hc : w1.heap[rb]? = some (.cells #[v, .int .i64 q, .bool sh'] 57 (0, 0))) : OrAt w1 rb v b q sh' :=
  ⟨hc, h.src.set k h.sep, h.sep, hq⟩

theorem OrAt.moved {w wq : World} {rb : Nat} {v : Value} {b : Bs} {p : Nat} {sh : Bool} (h : OrAt w rb v b p sh) (k : Keep w wq (fun _ => False)) {q : Int} {m : Nat} (hqm : q = (m : Int)) (hm : m ≤ b.length) :
    OrAt (wq.setCell ⟨rb, 1, none⟩ (.int .i64 q)) rb v b m sh ∧ Keep w (wq.setCell ⟨rb, 1, none⟩ (.int .i64 q)) (fun x => x = rb) := by
  subst hqm
  have kk := (k.mono (T := fun x => x = rb) (fun _ q => q.elim)).trans (Keep.setCell wq ⟨rb, 1, none⟩ (.int .i64 m)) (fun x q => .inl q)
  exact ⟨h.set kk hm (heap_setCell_eq (off := 1) _ (k.get h.cell (fun q => q))), kk⟩

theorem OrAt.short {w wq : World} {rb : Nat} {v : Value} {b : Bs} {p : Nat} {sh : Bool} (h : OrAt w rb v b p sh) (k : Keep w wq (fun _ => False)) :
    OrAt (wq.setCell ⟨rb, 2, none⟩ (.bool true)) rb v b p true ∧ Keep w (wq.setCell ⟨rb, 2, none⟩ (.bool true)) (fun x => x = rb) := by
  have kk := (k.mono (T := fun x => x = rb) (fun _ q => q.elim)).trans (Keep.setCell wq ⟨rb, 2, none⟩ (.bool true)) (fun x q => .inl q)
  exact ⟨h.set kk h.le (heap_setCell_eq (off := 2) _ (k.get h.cell (fun q => q))), kk⟩


set_option maxHeartbeats 2000000 in
theorem otake_ok {w : World} {rb : Nat} {v : Value} {b : Bs} {p : Nat} (h : OrAt w rb v b p false) (n : Nat) (hn : p + n ≤ b.length) (hb0 : b ≠ []) :
    Calls Tryd.prog 26 #[.pointer (some ⟨rb, 0, none⟩), .int .i64 n] w fun r w' => ∃ sv, r = .returned sv ∧ BSl w' sv ((b.drop p).take n) ∧ Clear sv (fun x => x = rb) ∧ OrAt w' rb v b (p + n) false ∧ Keep w w' (fun x => x = rb) := by
  have H := Lib.hid h
  have c0 := cell_blk h.cell 0
  have c1 := cell_blk h.cell 1
  have c2 := cell_blk h.cell 2
  have f1 := free_blk h.cell 1
  simp only [List.getElem?_toArray, List.getElem?_cons_zero, List.getElem?_cons_succ] at c0 c1 c2
  have hbs := h.src.bsl hb0
  have HB0 := Lib.hid hbs
  have HS0 := Lib.hid (h.sep hb0)
  rcases hbs with ⟨rfl, rfl⟩ | ⟨blk, off, cap, rfl, h1, h2, h3, h4⟩
  · exact absurd rfl hb0
  · unfold maxLen at h2
    generalize hl : b.length = len at *
    have HL := Lib.hid (And.intro hl h4)
    clear h h4 hl hb0
    have g1 : (p : Int) + (n : Int) ≤ (len : Int) := by omega
    have g2 : (p : Int) + (n : Int) ≤ (cap : Int) := by omega
    have g3 : (p : Int) ≤ (p : Int) + (n : Int) := by omega
    have g4 : ¬ (len : Int) - (p : Int) < (n : Int) := by omega
    have g5 : (0 : Int) ≤ (p : Int) := by omega
    have g6 : IntKind.i64.wrap ((p : Int) + (n : Int)) = (p : Int) + (n : Int) := IntWalk.i64_in _ (by omega)
    have g7 : (0 : Int) ≤ (p : Int) + (n : Int) := by omega
    have g8 : ((p : Int) + (n : Int)).toNat = p + n := by omega
    have g9 : IntKind.i64.wrap ((len : Int) - (p : Int)) = (len : Int) - (p : Int) := IntWalk.i64_in _ (by omega)
    have g10 : IntKind.i64.wrap ((p : Int) + (n : Int) - (n : Int)) = (p : Int) := by rw [show (p : Int) + (n : Int) - (n : Int) = p by omega]; exact IntWalk.i64_in _ (by omega)
    by_cases hcp : cap = p
    · obtain rfl : n = 0 := by omega
      subst hcp
      go_enter Tryd.func26, Tryd.ntmps26
      go_wp2
      go_quiet (fail)
      go_wp2
      go_quiet (fail)
      go_wp2
      go_ret
      obtain ⟨r1, r2⟩ := H.out.moved (drewN_keep w (fun _ => False) _) (q := (cap : Int)) (m := cap + 0) (by omega) (by rw [HL.out.1]; omega)
      refine ⟨_, rfl, ?_, ?_, r1.aside (drewN_keep _ _ _), r2.trans (drewN_keep _ (fun _ => False) _) (fun _ q => q.elim)⟩
      · have hs := HB0.out.part (i := cap) (n := 0) (by rw [HL.out.1]; omega) (off' := off) (.inr rfl)
        rw [Nat.sub_self] at hs
        exact hs.keep (r2.trans (drewN_keep _ (fun _ => False) _) (fun _ q => q.elim)) (fun x q => HS0.out x q)
      · intro x q
        exact HS0.out x q
    · go_enter Tryd.func26, Tryd.ntmps26
      go_wp2
      go_quiet (fail)
      go_wp2
      go_quiet (fail)
      go_wp2
      go_ret
      obtain ⟨r1, r2⟩ := H.out.moved (drewN_keep w (fun _ => False) _) (q := (p : Int) + (n : Int)) (m := p + n) (by omega) (by rw [HL.out.1]; omega)
      refine ⟨_, rfl, ?_, ?_, r1.aside (drewN_keep _ _ _), r2.trans (drewN_keep _ (fun _ => False) _) (fun _ q => q.elim)⟩
      · have hs := HB0.out.part (i := p) (n := n) (by rw [HL.out.1]; omega) (off' := off + p) (.inl rfl)
        exact hs.keep (r2.trans (drewN_keep _ (fun _ => False) _) (fun _ q => q.elim)) (fun x q => HS0.out x q)
      · intro x q
        exact HS0.out x q

def zeros (m : Nat) : Bs := List.replicate m 0

theorem bsl_zeros (w : World) (e : TypeId) (m : Nat) (hm : m ≤ 4) {k : Nat} (hk : w.heap.size = k) : BSl (w.alloc (.cells (((zeros m).map u8V).toArray) e)) (.slice (some ⟨k, 0, none⟩) m m) (zeros m) := by
  subst hk
  have hz : (zeros m).length = m := by unfold zeros; simp
  refine .inr ⟨w.heap.size, 0, m, by rw [hz], by rw [hz]; exact Nat.le_refl _, by unfold maxLen; omega, by simp, fun i u hi => ?_⟩
  rw [Nat.zero_add, cell_blk (heap_alloc_eq w _)]
  simp [hi]

theorem mk_zeros (m : Nat) (hm : m ≤ 4) (w : World) : (Instr.makeSlice 22 (.int .i64 (m : Int)) (.int .i64 (m : Int))).run Tryd.prog w = .ok (.slice (some ⟨w.heap.size, 0, none⟩) m m) (w.alloc (.cells (((zeros m).map u8V).toArray) 5)) := by
  rcases (show m = 0 ∨ m = 1 ∨ m = 2 ∨ m = 3 ∨ m = 4 by omega) with rfl | rfl | rfl | rfl | rfl <;> kernel_rfl

set_option maxHeartbeats 4000000 in
theorem otake_no {w : World} {rb : Nat} {v : Value} {b : Bs} {p : Nat} {sh : Bool} (h : OrAt w rb v b p sh) (n : Nat) (hn : n ≤ 1000000) (hno : sh = false → b.length < p + n) :
    Calls Tryd.prog 26 #[.pointer (some ⟨rb, 0, none⟩), .int .i64 n] w fun r w' => ∃ sv, r = .returned sv ∧ BSl w' sv (zeros (min n 4)) ∧ Clear sv (fun x => x = rb) ∧ OrAt w' rb v b p true ∧ Keep w w' (fun x => x = rb) := by
  have H := Lib.hid h
  have c0 := cell_blk h.cell 0
  have c1 := cell_blk h.cell 1
  have c2 := cell_blk h.cell 2
  have f2 := free_blk h.cell 2
  simp only [List.getElem?_toArray, List.getElem?_cons_zero, List.getElem?_cons_succ] at c0 c1 c2
  obtain ⟨a, cap, rfl, hlc, hcm⟩ := h.src.valr
  have hle := h.le
  unfold maxLen at hcm
  generalize hl : b.length = len at *
  have hrb := lt_of_blk h.cell
  have HL := Lib.hid hrb
  clear h hl hrb
  by_cases hn4 : (n : Int) ≤ 4
  · have hmk := mk_zeros n (by omega)
    rw [show min n 4 = n by omega]
    cases sh with
    | true =>
      clear hno
      go_enter Tryd.func26, Tryd.ntmps26
      go_wp2
      go_quiet (fail)
      go_wp2
      go_ret
      obtain ⟨r1, r2⟩ := H.out.short (drewN_keep w (fun _ => False) _)
      exact ⟨_, rfl, bsl_zeros _ 5 n (by omega) (by simp), (fun x q e => by simp [Value.ownBlock] at q; have := HL.out; omega), r1.aside (Keep.alloc _ _ _), r2.trans (Keep.alloc _ _ (fun _ => False)) (fun _ q => q.elim)⟩
    | false =>
      have g4 : (len : Int) - (p : Int) < (n : Int) := by have := hno rfl; omega
      have g9 : IntKind.i64.wrap ((len : Int) - (p : Int)) = (len : Int) - (p : Int) := IntWalk.i64_in _ (by omega)
      clear hno
      go_enter Tryd.func26, Tryd.ntmps26
      go_wp2
      go_quiet (fail)
      go_wp2
      go_ret
      obtain ⟨r1, r2⟩ := H.out.short (drewN_keep w (fun _ => False) _)
      exact ⟨_, rfl, bsl_zeros _ 5 n (by omega) (by simp), (fun x q e => by simp [Value.ownBlock] at q; have := HL.out; omega), r1.aside (Keep.alloc _ _ _), r2.trans (Keep.alloc _ _ (fun _ => False)) (fun _ q => q.elim)⟩
  · have hn5 : 4 < (n : Int) := by omega
    have hmk : ∀ w, (Instr.makeSlice 22 (.int .i64 4) (.int .i64 4)).run Tryd.prog w = .ok (.slice (some ⟨w.heap.size, 0, none⟩) 4 4) (w.alloc (.cells (((zeros 4).map u8V).toArray) 5)) := mk_zeros 4 (by omega)
    rw [show min n 4 = 4 by omega]
    cases sh with
    | true =>
      clear hno
      go_enter Tryd.func26, Tryd.ntmps26
      go_wp2
      go_quiet (fail)
      go_wp2
      go_ret
      obtain ⟨r1, r2⟩ := H.out.short (drewN_keep w (fun _ => False) _)
      exact ⟨_, rfl, bsl_zeros _ 5 4 (by omega) (by simp), (fun x q e => by simp [Value.ownBlock] at q; have := HL.out; omega), r1.aside (Keep.alloc _ _ _), r2.trans (Keep.alloc _ _ (fun _ => False)) (fun _ q => q.elim)⟩
    | false =>
      have g4 : (len : Int) - (p : Int) < (n : Int) := by have := hno rfl; omega
      have g9 : IntKind.i64.wrap ((len : Int) - (p : Int)) = (len : Int) - (p : Int) := IntWalk.i64_in _ (by omega)
      clear hno
      go_enter Tryd.func26, Tryd.ntmps26
      go_wp2
      go_quiet (fail)
      go_wp2
      go_ret
      obtain ⟨r1, r2⟩ := H.out.short (drewN_keep w (fun _ => False) _)
      exact ⟨_, rfl, bsl_zeros _ 5 4 (by omega) (by simp), (fun x q e => by simp [Value.ownBlock] at q; have := HL.out; omega), r1.aside (Keep.alloc _ _ _), r2.trans (Keep.alloc _ _ (fun _ => False)) (fun _ q => q.elim)⟩

end Go.Proofs.YtdbkkfhneafeiaaDoor
