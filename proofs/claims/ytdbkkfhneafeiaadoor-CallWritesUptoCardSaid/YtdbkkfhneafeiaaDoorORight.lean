/-
  Why a call may not be written: the program's word (call.Right).
-/
import Derived.Test.YtdbkkfhneafeiaaDoorNums
namespace Go.Proofs.YtdbkkfhneafeiaaDoor
open Go Go.RowKit Go.Shelf
set_option linter.unusedSectionVars false
set_option linter.unusedSimpArgs false
set_option linter.unusedVariables false
attribute [local go_sem] Oper.semAt_some

def CallV.num (c : CallV) : Nat → Int
  | 0 => c.fd
  | 1 => c.flags
  | 2 => c.mode
  | 3 => c.n
  | _ => c.m

theorem num_at (c : CallV) (dv : Value) (x : Fin 5) : (callC c dv).toArray[x.val + 3]? = some (.int .i64 (c.num x.val)) := by
  obtain ⟨x, hx⟩ := x
  rcases (show x = 0 ∨ x = 1 ∨ x = 2 ∨ x = 3 ∨ x = 4 by omega) with rfl | rfl | rfl | rfl | rfl <;> rfl

theorem smalls_five {c : CallV} (h : ∀ x ∈ five, smallB (c.num x.val) = true) : c.smalls = true := by
  have h0 := h f0 (by decide)
  have h1 := h f1 (by decide)
  have h2 := h f2 (by decide)
  have h3 := h f3 (by decide)
  have h4 := h f4 (by decide)
  simp only [f0, f1, f2, f3, f4, CallV.num] at h0 h1 h2 h3 h4
  unfold CallV.smalls
  simp only [h0, h1, h2, h3, h4, Bool.and_self]

theorem smalls_not {c : CallV} {x : Fin 5} (h : smallB (c.num x.val) = false) : c.smalls = false := by
  cases q : c.smalls with
  | false => rfl
  | true =>
    obtain ⟨s1, s2, s3, s4, s5⟩ : smallB c.fd = true ∧ smallB c.flags = true ∧ smallB c.mode = true ∧ smallB c.n = true ∧ smallB c.m = true := by
      unfold CallV.smalls at q
      simp only [Bool.and_eq_true] at q
      exact ⟨q.1.1.1.1, q.1.1.1.2, q.1.1.2, q.1.2, q.2⟩
    exfalso
    obtain ⟨x, hx⟩ := x
    rcases (show x = 0 ∨ x = 1 ∨ x = 2 ∨ x = 3 ∨ x = 4 by omega) with rfl | rfl | rfl | rfl | rfl <;> simp_all [CallV.num]

/-- Right on its way: the call's box, the result's. -/
structure RiW (w W : World) (c : CallV) (dv : Value) (r : Int) : Prop where
  keep : Keep w W (fun _ => False)
  box : W.heap[w.heap.size]? = some (.cells (callC c dv).toArray 24 (0, 0))
  res : W.heap[w.heap.size + 1]? = some (.cells #[.int .i64 r] 29 (0, 0))

theorem RiW.far {w W W' : World} {c : CallV} {dv : Value} {r : Int} (h : RiW w W c dv r) (k : Keep W W' (fun b => w.heap.size ≤ b ∧ ∃ o, W.heap[b]? = some o ∧ o.isCells = false)) : RiW w W' c dv r :=
  ⟨h.keep.trans k (fun b q => .inr q.1), k.get h.box (fun q => not_cells h.box q.2), k.get h.res (fun q => not_cells h.res q.2)⟩

theorem RiW.set {w W : World} {c : CallV} {dv : Value} {r : Int} (h : RiW w W c dv r) (r' : Int) : RiW w (W.setCell ⟨w.heap.size + 1, 0, none⟩ (.int .i64 r')) c dv r' := by
  have k := Keep.setCell W ⟨w.heap.size + 1, 0, none⟩ (.int .i64 r')
  exact ⟨h.keep.trans k (fun b q => .inr (by have q' : b = w.heap.size + 1 := q; omega)), k.get h.box (fun q => by have q' : w.heap.size = w.heap.size + 1 := q; omega), heap_setCell_eq (off := 0) _ h.res⟩

theorem RiW.mark {w W W' : World} {c : CallV} {dv : Value} {r : Int} {D : Nat} (h : RiW w W c dv r) (hD : w.heap.size + 1 < D) (k : Keep W W' (fun b => b = D)) : RiW w W' c dv r :=
  ⟨h.keep.trans k (fun b q => .inr (by have q' : b = D := q; omega)), k.get h.box (fun q => by have q' : w.heap.size = D := q; omega), k.get h.res (fun q => by have q' : w.heap.size + 1 = D := q; omega)⟩

set_option maxRecDepth 100000 in
set_option maxHeartbeats 4000000 in
theorem oright_c (c : CallV) (a : Option Addr) (cap : Nat) (w : World) (hl : c.path.size ≤ 9223372036854775807 ∧ c.to.size ≤ 9223372036854775807 ∧ c.data.length ≤ 9223372036854775807) :
    Calls Tryd.prog 19 #[callA c (.slice a c.data.length cap)] w fun r w' => r = .returned (.int .i64 c.right) ∧ Keep w w' (fun _ => False) := by
  obtain ⟨hl1, hl2, hl3⟩ := hl
  obtain ⟨R, hR⟩ : ∃ R, R = c.right := ⟨_, rfl⟩
  have H1 := Lib.hid (fun q => hR.trans (right_op (c := c) q))
  have H2 := Lib.hid (fun q => hR.trans (right_small (c := c) q))
  have H3 := Lib.hid (fun q1 q2 q3 q4 => hR.trans (right_long (c := c) q1 q2 q3 q4))
  have H4 := Lib.hid (fun q1 q2 q3 q4 q5 q6 => hR.trans (right_ok (c := c) q1 q2 q3 q4 q5 q6))
  rw [← hR]
  clear hR
  have hw0 : ∀ v : Value, ∃ wL, wL = ((w.alloc (.cells (callC c v).toArray 24)).alloc (.cells #[.int .i64 0] 29)).alloc (.cells #[.pointer (some ⟨w.heap.size, 0, none⟩)] 63) ∧ RiW w wL c v 0 ∧ wL.heap[w.heap.size + 1 + 1]? = some (.cells #[.pointer (some ⟨w.heap.size, 0, none⟩)] 63 (0, 0)) ∧ wL.heap.size = w.heap.size + 1 + 1 + 1 := fun v => by
    refine ⟨_, rfl, ?_⟩
    have k1 := Keep.alloc w (.cells (callC c v).toArray 24) (fun _ => False)
    have g1 := heap_alloc_eq w (.cells (callC c v).toArray 24)
    have z1 : (w.alloc (.cells (callC c v).toArray 24)).heap.size = w.heap.size + 1 := by simp
    generalize w.alloc (.cells (callC c v).toArray 24) = w1 at *
    have k2 := Keep.alloc w1 (.cells #[.int .i64 0] 29) (fun _ => False)
    have g2 := heap_alloc_eq w1 (.cells #[.int .i64 0] 29)
    have z2 : (w1.alloc (.cells #[.int .i64 0] 29)).heap.size = w1.heap.size + 1 := by simp
    generalize w1.alloc (.cells #[.int .i64 0] 29) = w2 at *
    have k3 := Keep.alloc w2 (.cells #[.pointer (some ⟨w.heap.size, 0, none⟩)] 63) (fun _ => False)
    have g3 := heap_alloc_eq w2 (.cells #[.pointer (some ⟨w.heap.size, 0, none⟩)] 63)
    have z3 : (w2.alloc (.cells #[.pointer (some ⟨w.heap.size, 0, none⟩)] 63)).heap.size = w2.heap.size + 1 := by simp
    rw [z1] at g2 z2; rw [z2] at g3 z3
    have k23 := k2.trans k3 (fun _ q => q.elim)
    exact ⟨⟨k1.trans k23 (fun _ q => q.elim), k23.get g1 (fun q => q), k3.get g2 (fun q => q)⟩, g3, z3⟩
  obtain ⟨wL, hwL, W1, hb, hsz⟩ := hw0 (.slice a c.data.length cap)
  clear hw0
  have HW1 := Lib.hid W1
  have HB := Lib.hid hb
  have HS := Lib.hid hsz
  have hnum := num_at c (.slice a c.data.length cap)
  simp only [callC] at hwL
  have HN := Lib.hid hnum
  clear W1 hnum hb hsz
  unfold callA
  refine calls_marks Tryd.func19 rfl ?_
  simp only [Tryd.ntmps19, List.size_toArray, List.length_cons, List.length_nil, Nat.reduceAdd, Nat.reduceSub, Array.replicate_succ, Array.replicate_zero, List.push_toArray, List.append_toArray, List.nil_append, List.cons_append]
  by_cases h1 : c.op < 1
  · have K1 : ∀ o1 o2, Keep w ((w.alloc o1).alloc o2) (fun _ => False) := fun o1 o2 => (Keep.alloc w o1 (fun _ => False)).trans (Keep.alloc _ o2 (fun _ => False)) (fun _ q => q.elim)
    go_wp2
    refine leaves_none ⟨.int .i64 1, by simp [results, Tryd.results19, go_sem]; try rfl, by rw [H1.out (.inl h1)], K1 _ _⟩
  by_cases h2 : 20 < c.op
  · have K1 : ∀ o1 o2, Keep w ((w.alloc o1).alloc o2) (fun _ => False) := fun o1 o2 => (Keep.alloc w o1 (fun _ => False)).trans (Keep.alloc _ o2 (fun _ => False)) (fun _ q => q.elim)
    go_wp2
    refine leaves_none ⟨.int .i64 1, by simp [results, Tryd.results19, go_sem]; try rfl, by rw [H1.out (.inr h2)], K1 _ _⟩
  go_wp2_with (
    go_at_call 28
    refine (numbers_c _ _).mono ?_
    rintro e w11 ⟨rfl, rfl⟩)
  rw [← hwL]
  clear hwL
  have hsz := HS.out
  refine wp_range2 (α := Fin 5) (e1 := fun x => nameOf x.val) (e2 := fun x => Value.pointer (some ⟨w.heap.size, x.val + 3, none⟩)) (j := 4) (gf := 44) (lb := #[.pointer (some ⟨w.heap.size + 1 + 1, 0, none⟩)]) rfl (enters_of Tryd.func44 (by kernel_rfl) rfl)
    (nums_stops 8 (by omega) (w.heap.size + 1 + 1) w.heap.size wL HB.out) (by omega)
    (fun pre W => RiW w W c (.slice a c.data.length cap) 0 ∧ ∀ x ∈ pre, smallB (c.num x.val) = true)
    (fun cd pre W => cd = .ret ∧ RiW w W c (.slice a c.data.length cap) 1 ∧ ∃ x : Fin 5, smallB (c.num x.val) = false)
    (own_of fun s W W' h k => ⟨h.1.far (k.mono fun b q => ⟨by omega, q.2⟩), h.2⟩)
    (fun cd => own_of fun s W W' h k => ⟨h.1, h.2.1.far (k.mono fun b q => ⟨by omega, q.2⟩), h.2.2⟩)
    ⟨HW1.out, by simp⟩ ?assign ?body ?done ?stop
  case assign =>
    intro l x W K hK
    gi_wp2
    exact hK
  case body =>
    rintro l pre x W ⟨hW, hpre⟩ hlt
    have hn1 : 1 ≤ 7 := by omega
    simp only [List.setIfInBounds_toArray, List.set_cons_succ, List.set_cons_zero]
    have c0 : W.cell? ⟨w.heap.size, x.val + 3, none⟩ = some (.int .i64 (c.num x.val)) := by rw [cell_blk hW.box]; exact HN.out x
    have c1 := cell_blk hW.res 0
    have f1 := free_blk hW.res 0
    simp only [List.getElem?_toArray, List.getElem?_cons_zero, List.getElem?_cons_succ] at c1
    have D := Lib.hid (And.intro hW hpre)
    clear hW hpre hlt
    obtain ⟨z, hz⟩ : ∃ z, z = c.num x.val := ⟨_, rfl⟩
    rw [← hz] at c0
    have HZ := Lib.hid hz
    clear hz
    by_cases g1 : z < -2147483648
    · gi_wp2
      exact ⟨keepsFrom_of (Keep.setCell W ⟨w.heap.size + 1, 0, none⟩ (.int .i64 1)) (fun b q => by have q' : b = w.heap.size + 1 := q; omega), rfl, D.out.1.set 1, x, by rw [← HZ.out]; unfold smallB; exact decide_eq_false (by omega)⟩
    · by_cases g2 : 2147483647 < z
      · gi_wp2
        exact ⟨keepsFrom_of (Keep.setCell W ⟨w.heap.size + 1, 0, none⟩ (.int .i64 1)) (fun b q => by have q' : b = w.heap.size + 1 := q; omega), rfl, D.out.1.set 1, x, by rw [← HZ.out]; unfold smallB; exact decide_eq_false (by omega)⟩
      · gi_wp2
        exact ⟨KeepsFrom.refl _ _, Kq.refl _ _, D.out.1, fun y q => by
          rcases List.mem_append.1 q with q | q
          · exact D.out.2 y q
          · rw [List.mem_singleton.1 q, ← HZ.out]; unfold smallB; exact decide_eq_true (by omega)⟩
  case done =>
    rintro D xs W hD rfl ⟨hW, hxs⟩ hK
    have hsm := smalls_five hxs
    have hK2 : ∀ r : Int, (W.setCell ⟨w.heap.size + 1, 0, none⟩ (.int .i64 r)).heap[D]? = some (.deferred (some [])) := fun r => (Keep.setCell W ⟨w.heap.size + 1, 0, none⟩ (.int .i64 r)).get hK (fun q => by have q' : D = w.heap.size + 1 := q; omega)
    have d1 := cell_blk hW.box 1
    have d2 := cell_blk hW.box 2
    have d8 := cell_blk hW.box 8
    have f1 := free_blk hW.res 0
    have c1 := cell_blk hW.res 0
    unfold callC at d1 d2 d8
    simp only [List.getElem?_toArray, List.getElem?_cons_zero, List.getElem?_cons_succ] at d1 d2 d8 c1
    have E := Lib.hid (And.intro hW (And.intro hsm hK2))
    have hend : ∀ r : Int, ∀ T : Array Value, T.getD 2 undef = .pointer (some ⟨w.heap.size + 1, 0, none⟩) → R = r → LeavesInM Fence.wide 9 Tryd.prog Tryd.f19 T (fun r w' => r = .returned (.int .i64 R) ∧ Keep w w' (fun _ => False)) [{ target := .collected D, args := #[] }] .returning (W.setCell ⟨w.heap.size + 1, 0, none⟩ (.int .i64 r)) := fun r T hT hr => by
      refine leaves_mark (E.out.2.2 r) (fun w' kk => ?_)
      have hE := (E.out.1.set r).mark (by omega) kk
      refine ⟨.int .i64 r, ?_, by rw [hr], hE.keep⟩
      have y0 : w'.cell? ⟨w.heap.size + 1, 0, none⟩ = some (.int .i64 r) := by rw [cell_blk hE.res]; rfl
      have hT2 : T[2]?.getD undef = .pointer (some ⟨w.heap.size + 1, 0, none⟩) := by simpa using hT
      simp [results, Tryd.results19, go_sem, hT2, y0]
      try rfl
    have HE := Lib.hid hend
    clear hW hxs hK hsm hK2 hend
    by_cases g1 : 5000 < c.path.size
    · have g1' : (5000 : Int) < (c.path.size : Int) := by omega
      go_wp2
      exact HE.out 3 _ rfl (H3.out h1 h2 E.out.2.1 (.inl g1))
    · have g1' : ¬ (5000 : Int) < (c.path.size : Int) := by omega
      by_cases g2 : 5000 < c.to.size
      · have g2' : (5000 : Int) < (c.to.size : Int) := by omega
        go_wp2
        exact HE.out 3 _ rfl (H3.out h1 h2 E.out.2.1 (.inr (.inl g2)))
      · have g2' : ¬ (5000 : Int) < (c.to.size : Int) := by omega
        by_cases g3 : 2000 < c.data.length
        · have g3' : (2000 : Int) < (c.data.length : Int) := by omega
          go_wp2
          exact HE.out 3 _ rfl (H3.out h1 h2 E.out.2.1 (.inr (.inr g3)))
        · have g3' : ¬ (2000 : Int) < (c.data.length : Int) := by omega
          go_wp2
          exact HE.out 0 _ rfl (H4.out h1 h2 E.out.2.1 g1 g2 g3)
  case stop =>
    rintro D cd pre W hD hpre ⟨rfl, hW, x, hx⟩ hK
    have hsm := smalls_not hx
    have E := Lib.hid (And.intro hW (And.intro hsm hK))
    go_wp2
    refine leaves_mark E.out.2.2 (fun w' kk => ?_)
    have hE := E.out.1.mark (by omega) kk
    refine ⟨.int .i64 1, ?_, by rw [H2.out E.out.2.1], hE.keep⟩
    have y0 : w'.cell? ⟨w.heap.size + 1, 0, none⟩ = some (.int .i64 1) := by rw [cell_blk hE.res]; rfl
    simp [results, Tryd.results19, go_sem, y0]
    try rfl

end Go.Proofs.YtdbkkfhneafeiaaDoor
