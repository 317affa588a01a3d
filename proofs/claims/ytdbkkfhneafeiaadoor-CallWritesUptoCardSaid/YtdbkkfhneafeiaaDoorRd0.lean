/-
  The document's reader (warrenref16): take.
-/
import Derived.Test.YtdbkkfhneafeiaaDoorBSr
import Derived.Test.YtdbkkfhneafeiaaDoorB8
import Derived.Test.YtdbkkfhneafeiaaDoorChecked
import Derived.WalkMore
import Derived.Deep.LoopGhost
import Derived.Deep.QuietTactic
import Derived.BigQuiet
namespace Go.Proofs.YtdbkkfhneafeiaaDoor
open Go Go.RowKit
set_option linter.unusedSectionVars false
set_option linter.unusedSimpArgs false
set_option linter.unusedVariables false

/-- A reader in memory: what it reads, where it stands, whether there was enough. -/
structure RdAt (w : World) (rb : Nat) (v : Value) (b : Bs) (p : Nat) (ok : Bool) : Prop where
  cell : w.heap[rb]? = some (.cells #[v, .int .i64 p, .bool ok] 69 (0, 0))
  src : BSr w v b
  sep : b ≠ [] → Clear v (fun x => x = rb)
  le : p ≤ b.length

theorem RdAt.aside {w w' : World} {rb : Nat} {v : Value} {b : Bs} {p : Nat} {ok : Bool} (h : RdAt w rb v b p ok) (k : Keep w w' (fun _ => False)) : RdAt w' rb v b p ok :=
  ⟨k.get h.cell (fun q => q), h.src.aside k, h.sep, h.le⟩

/-- The reader's cells are others now. -/
theorem RdAt.set {w w1 : World} {rb : Nat} {v : Value} {b : Bs} {p : Nat} {ok : Bool} (h : RdAt w rb v b p ok) (k : Keep w w1 (fun x => x = rb)) {q : Nat} {ok' : Bool} (hq : q ≤ b.length) (hc : w1.heap[rb]? = some (.cells #[v, .int .i64 q, .bool ok'] 69 (0, 0))) : RdAt w1 rb v b q ok' :=
  ⟨hc, h.src.set k h.sep, h.sep, hq⟩

theorem RdAt.moved {w wq : World} {rb : Nat} {v : Value} {b : Bs} {p : Nat} {ok : Bool} (h : RdAt w rb v b p ok) (k : Keep w wq (fun _ => False)) {q : Int} {m : Nat} (hqm : q = (m : Int)) (hm : m ≤ b.length) :
    RdAt (wq.setCell ⟨rb, 1, none⟩ (.int .i64 q)) rb v b m ok ∧ Keep w (wq.setCell ⟨rb, 1, none⟩ (.int .i64 q)) (fun x => x = rb) := by
  subst hqm
  have kk := (k.mono (T := fun x => x = rb) (fun _ q => q.elim)).trans (Keep.setCell wq ⟨rb, 1, none⟩ (.int .i64 m)) (fun x q => .inl q)
  exact ⟨h.set kk hm (heap_setCell_eq (off := 1) _ (k.get h.cell (fun q => q))), kk⟩

theorem RdAt.short {w wq : World} {rb : Nat} {v : Value} {b : Bs} {p : Nat} {ok : Bool} (h : RdAt w rb v b p ok) (k : Keep w wq (fun _ => False)) :
    RdAt (wq.setCell ⟨rb, 2, none⟩ (.bool false)) rb v b p false ∧ Keep w (wq.setCell ⟨rb, 2, none⟩ (.bool false)) (fun x => x = rb) := by
  have kk := (k.mono (T := fun x => x = rb) (fun _ q => q.elim)).trans (Keep.setCell wq ⟨rb, 2, none⟩ (.bool false)) (fun x q => .inl q)
  exact ⟨h.set kk h.le (heap_setCell_eq (off := 2) _ (k.get h.cell (fun q => q))), kk⟩

set_option maxHeartbeats 1000000 in
theorem rtake_ok {w : World} {rb : Nat} {v : Value} {b : Bs} {p : Nat} (h : RdAt w rb v b p true) (n : Nat) (hn : p + n ≤ b.length) (hb0 : b ≠ []) :
    Calls Tryd.prog 29 #[.pointer (some ⟨rb, 0, none⟩), .int .i64 n] w fun r w' => ∃ sv, r = .returned sv ∧ BSl w' sv ((b.drop p).take n) ∧ Clear sv (fun x => x = rb) ∧ RdAt w' rb v b (p + n) true ∧ Keep w w' (fun x => x = rb) := by
  have H := Lib.hid h
  have c0 := cell_blk h.cell 0
  have c1 := cell_blk h.cell 1
  have c2 := cell_blk h.cell 2
  have f1 := free_blk h.cell 1
  simp only [List.getElem?_toArray, List.getElem?_cons_zero, List.getElem?_cons_succ] at c0 c1 c2
  have hbs := h.src.bsl hb0
  have HB0 := Lib.hid hbs
  have HS0 := Lib.hid (h.sep hb0)
  rcases hbs with ⟨rfl, rfl⟩ | ⟨blk, off, cap, rfl, h1, h2, h3, h4⟩
  · exact absurd rfl hb0
  · unfold maxLen at h2
    generalize hl : b.length = len at *
    have HL := Lib.hid (And.intro hl h4)
    clear h h4 hl hb0
    have g1 : (p : Int) + (n : Int) ≤ (len : Int) := by omega
    have g2 : (p : Int) + (n : Int) ≤ (cap : Int) := by omega
    have g3 : (p : Int) ≤ (p : Int) + (n : Int) := by omega
    have g4 : ¬ (len : Int) - (p : Int) < (n : Int) := by omega
    have g5 : (0 : Int) ≤ (p : Int) := by omega
    have g6 : IntKind.i64.wrap ((p : Int) + (n : Int)) = (p : Int) + (n : Int) := IntWalk.i64_in _ (by omega)
    have g7 : (0 : Int) ≤ (p : Int) + (n : Int) := by omega
    have g8 : ((p : Int) + (n : Int)).toNat = p + n := by omega
    have g9 : IntKind.i64.wrap ((len : Int) - (p : Int)) = (len : Int) - (p : Int) := IntWalk.i64_in _ (by omega)
    by_cases hcp : cap = p
    · obtain rfl : n = 0 := by omega
      subst hcp
      go_enter Tryd.func29, Tryd.ntmps29
      go_wp2
      go_quiet (fail)
      go_wp2
      go_quiet (fail)
      go_wp2
      go_ret
      obtain ⟨r1, r2⟩ := H.out.moved (drewN_keep w (fun _ => False) _) (q := (cap : Int)) (m := cap + 0) (by omega) (by rw [HL.out.1]; omega)
      refine ⟨_, rfl, ?_, ?_, r1, r2⟩
      · have hs := HB0.out.part (i := cap) (n := 0) (by rw [HL.out.1]; omega) (off' := off) (.inr rfl)
        rw [Nat.sub_self] at hs
        exact hs.keep r2 (fun x q => HS0.out x q)
      · intro x q
        exact HS0.out x q
    · go_enter Tryd.func29, Tryd.ntmps29
      go_wp2
      go_quiet (fail)
      go_wp2
      go_quiet (fail)
      go_wp2
      go_ret
      obtain ⟨r1, r2⟩ := H.out.moved (drewN_keep w (fun _ => False) _) (q := (p : Int) + (n : Int)) (m := p + n) (by omega) (by rw [HL.out.1]; omega)
      refine ⟨_, rfl, ?_, ?_, r1, r2⟩
      · have hs := HB0.out.part (i := p) (n := n) (by rw [HL.out.1]; omega) (off' := off + p) (.inl rfl)
        exact hs.keep r2 (fun x q => HS0.out x q)
      · intro x q
        exact HS0.out x q

theorem bsl_empty (w : World) (e : TypeId) {m : Nat} (hm : w.heap.size = m) : BSl (w.alloc (.cells #[] e)) (.slice (some ⟨m, 0, none⟩) 0 0) [] :=
  .inr ⟨m, 0, 0, rfl, Nat.le_refl _, Nat.zero_le _, by simp; omega, fun i u h => by simp at h⟩

set_option maxHeartbeats 1000000 in
theorem rtake_no {w : World} {rb : Nat} {v : Value} {b : Bs} {p : Nat} {ok : Bool} (h : RdAt w rb v b p ok) (n : Nat) (hn : n ≤ 1000000) (hno : ok = true → b.length < p + n) :
    Calls Tryd.prog 29 #[.pointer (some ⟨rb, 0, none⟩), .int .i64 n] w fun r w' => ∃ sv, r = .returned sv ∧ BSl w' sv [] ∧ Clear sv (fun x => x = rb) ∧ RdAt w' rb v b p false ∧ Keep w w' (fun x => x = rb) := by
  have H := Lib.hid h
  have c0 := cell_blk h.cell 0
  have c1 := cell_blk h.cell 1
  have c2 := cell_blk h.cell 2
  have f2 := free_blk h.cell 2
  simp only [List.getElem?_toArray, List.getElem?_cons_zero, List.getElem?_cons_succ] at c0 c1 c2
  obtain ⟨a, cap, rfl, hlc, hcm⟩ := h.src.valr
  have hle := h.le
  unfold maxLen at hcm
  generalize hl : b.length = len at *
  have hrb := lt_of_blk h.cell
  have HL := Lib.hid hrb
  clear h hl hrb
  cases ok with
  | false =>
    clear hno
    have hmk : ∀ w, (Instr.makeSlice 22 (.int .i64 0) (.int .i64 0)).run Tryd.prog w = .ok (.slice (some ⟨w.heap.size, 0, none⟩) 0 0) (w.alloc (.cells #[] 5)) := fun _ => by kernel_rfl
    go_enter Tryd.func29, Tryd.ntmps29
    go_wp2
    go_quiet (fail)
    go_wp2
    go_ret
    obtain ⟨r1, r2⟩ := H.out.short (drewN_keep w (fun _ => False) _)
    refine ⟨_, rfl, bsl_empty _ _ (by simp), (fun x q e => by simp [Value.ownBlock] at q; have := HL.out; omega), r1.aside (Keep.alloc _ _ _), r2.trans (Keep.alloc _ _ (fun _ => False)) (fun _ q => q.elim)⟩
  | true =>
    have g4 : (len : Int) - (p : Int) < (n : Int) := by have := hno rfl; omega
    have g9 : IntKind.i64.wrap ((len : Int) - (p : Int)) = (len : Int) - (p : Int) := IntWalk.i64_in _ (by omega)
    clear hno
    have hmk : ∀ w, (Instr.makeSlice 22 (.int .i64 0) (.int .i64 0)).run Tryd.prog w = .ok (.slice (some ⟨w.heap.size, 0, none⟩) 0 0) (w.alloc (.cells #[] 5)) := fun _ => by kernel_rfl
    go_enter Tryd.func29, Tryd.ntmps29
    go_wp2
    go_quiet (fail)
    go_wp2
    go_ret
    obtain ⟨r1, r2⟩ := H.out.short (drewN_keep w (fun _ => False) _)
    refine ⟨_, rfl, bsl_empty _ _ (by simp), (fun x q e => by simp [Value.ownBlock] at q; have := HL.out; omega), r1.aside (Keep.alloc _ _ _), r2.trans (Keep.alloc _ _ (fun _ => False)) (fun _ q => q.elim)⟩

end Go.Proofs.YtdbkkfhneafeiaaDoor
