/-
  A look at a chain: Look, Step, Found, Steps.
-/
import Derived.Test.YtkdpkmlmkholmaaChain5
import Derived.WalkMore
namespace Go.Proofs.Ytkdpkmlmkholmaa
open Go Go.RowKit
set_option linter.unusedSectionVars false
set_option linter.unusedSimpArgs false
set_option linter.unusedVariables false

structure LookV where
  over : Bool
  found : Bool
  v : Int
  steps : Int

/-- A look in memory, at o. -/
def LookAt (w : World) (lb : Nat) (key : ByteArray) (o : Option Nat) (V : LookV) : Prop :=
  w.heap[lb]? = some (.cells #[.string key, pnt o, .bool V.over, .bool V.found, .int .i64 V.v, .int .i64 V.steps] 71 (0, 0))

theorem found_c {w : World} {lb : Nat} {key : ByteArray} {o : Option Nat} {V : LookV} (h : LookAt w lb key o V) :
    Calls Try.prog 19 #[.pointer (some ⟨lb, 0, none⟩)] w fun r w' => r = .returned (.tuple #[.int .i64 V.v, .bool V.found]) ∧ ∃ q, w' = w.drewN q := by
  have c3 : w.cell? ⟨lb, 3, none⟩ = some (.bool V.found) := by rw [cell_blk h]; rfl
  have c4 : w.cell? ⟨lb, 4, none⟩ = some (.int .i64 V.v) := by rw [cell_blk h]; rfl
  clear h
  go_enter Try.func19, Try.ntmps19
  go_wp2
  go_quiet (fail)
  go_wp2
  go_ret2
  exact ⟨rfl, _, rfl⟩

theorem steps_c {w : World} {lb : Nat} {key : ByteArray} {o : Option Nat} {V : LookV} (h : LookAt w lb key o V) :
    Calls Try.prog 20 #[.pointer (some ⟨lb, 0, none⟩)] w fun r w' => r = .returned (.int .i64 V.steps) ∧ w' = w := by
  have c5 : w.cell? ⟨lb, 5, none⟩ = some (.int .i64 V.steps) := by rw [cell_blk h]; rfl
  clear h
  go_enter Try.func20, Try.ntmps20
  go_wp2
  go_ret
  exact ⟨rfl, rfl⟩

theorem look_c {w : World} {tb : Nat} {S : Nat → Prop} {m : Nat} {T : List Pair} (h : TabAt w tb S m T) (key : ByteArray) (hs : key.size ≤ 9223372036854775807) :
    Calls Try.prog 16 #[.pointer (some ⟨tb, 0, none⟩), .string key] w fun r w' => ∃ lb o P, r = .returned (.pointer (some ⟨lb, 0, none⟩)) ∧ w.heap.size ≤ lb ∧ Keep w w' (fun _ => False) ∧ LookAt w' lb key o ⟨false, false, 0, 0⟩ ∧ Seg w' o P ∧ P.map Prod.snd = chainOf T m (bucket m key) ∧ ∀ x ∈ P, S x.1 := by
  obtain ⟨cb, hd, Ls, hm, hseg, hv, s1, s2, s3⟩ := h.ex
  have hb := bucket_lt key h.m1
  have hc := chain_c hm h.m1 h.m64 key hs
  have ch := hm.head hb
  have A := Lib.hid (And.intro (hseg _ hb) (And.intro (hv _ hb) (s3 _ hb)))
  clear hm hseg hv s1 s2 s3 h
  generalize bucket m key = i at *
  unfold pnt at ch
  clear hb
  go_enter Try.func16, Try.ntmps16
  go_wp2_with (
    go_at_call 31
    refine hc.mono ?_
    rintro e w2 ⟨rfl, q2, hw2⟩
    have ch' : w2.cell? ⟨cb, i, none⟩ = some (.pointer ((hd i).map fun b => ⟨b, 0, none⟩)) := by rw [hw2]; exact ch
    have E2 := Lib.hid (show w2.heap = w.heap ∧ Keep w w2 (fun _ => False) from by rw [hw2]; exact ⟨rfl, (Turn.drewN w _ _).keep⟩)
    clear hw2)
  go_ret
  have K := E2.out.2.trans (Keep.alloc w2 (.cells #[.string key, .pointer ((hd i).map fun b => ⟨b, 0, none⟩), .bool false, .bool false, .int .i64 0, .int .i64 0] 71) (fun _ => False)) (fun b q => q.elim)
  refine ⟨w2.heap.size, hd i, Ls i, rfl, by rw [E2.out.1]; exact Nat.le_refl _, K, heap_alloc_eq _ _, A.out.1.keep K (fun _ _ q => q), A.out.2.1, A.out.2.2⟩

theorem step_over {w : World} {lb : Nat} {key : ByteArray} {o : Option Nat} {V : LookV} (h : LookAt w lb key o V) (hv : V.over = true) :
    Calls Try.prog 18 #[.pointer (some ⟨lb, 0, none⟩)] w fun r w' => r = .returned (.bool true) ∧ w' = w := by
  have c2 : w.cell? ⟨lb, 2, none⟩ = some (.bool true) := by rw [cell_blk h, ← hv]; rfl
  clear h
  go_enter Try.func18, Try.ntmps18
  go_wp2
  go_step3
  go_wp2
  go_step3
  go_wp2
  go_loopg [] 1 (fun g wr => wr = w)
  case atStart => exact rfl
  case round =>
    obtain rfl := hrel
    go_wp2
    rw [Exit.noGoto_ret]
    go_ret
    exact ⟨rfl, rfl⟩

theorem step_nil {w : World} {lb : Nat} {key : ByteArray} {V : LookV} (h : LookAt w lb key none V) (hv : V.over = false) (h0 : 0 ≤ V.steps) (h1 : V.steps < 1000000) :
    Calls Try.prog 18 #[.pointer (some ⟨lb, 0, none⟩)] w fun r w' => r = .returned (.bool true) ∧ LookAt w' lb key none { V with over := true, steps := V.steps + 1 } ∧ Keep w w' (fun b => b = lb) := by
  have c1 : w.cell? ⟨lb, 1, none⟩ = some (.pointer none) := by rw [cell_blk h]; rfl
  have c2 : w.cell? ⟨lb, 2, none⟩ = some (.bool false) := by rw [cell_blk h, ← hv]; rfl
  have c5 : w.cell? ⟨lb, 5, none⟩ = some (.int .i64 V.steps) := by rw [cell_blk h]; rfl
  have f2 : w.frozen? ⟨lb, 2, none⟩ = false := free_blk h _
  have f5 : w.frozen? ⟨lb, 5, none⟩ = false := free_blk h _
  have H := Lib.hid h
  clear h
  go_enter Try.func18, Try.ntmps18
  go_wp2
  go_step3
  go_wp2
  go_step3
  go_wp2
  go_loopg [] 1 (fun g wr => (g = 1 ∧ wr = w) ∨ (g = 0 ∧ LookAt wr lb key none { V with over := true, steps := V.steps + 1 } ∧ Keep w wr (fun b => b = lb)))
  case atStart => exact .inl ⟨rfl, rfl⟩
  case round =>
    rcases hrel with ⟨rfl, rfl⟩ | ⟨rfl, q1, q2⟩
    · go_wp2
      go_roundg 0
      case measure => omega
      case rel =>
        refine .inr ⟨rfl, ?_, ?_⟩
        · have := heap_setCell_eq (.bool true) (off := 2) (heap_setCell_eq (.int .i64 (V.steps + 1)) (off := 5) H.out)
          exact this
        · exact (Keep.setCell _ _ _).trans (Keep.setCell _ _ _) (fun b q => .inl q)
    · have c2' : wr.cell? ⟨lb, 2, none⟩ = some (.bool true) := by rw [cell_blk q1]; rfl
      have Q := Lib.hid (And.intro q1 q2)
      clear q1 q2
      go_wp2
      rw [Exit.noGoto_ret]
      go_ret
      exact ⟨rfl, Q.out⟩

theorem step_found {w : World} {lb : Nat} {key : ByteArray} {o : Option Nat} {V : LookV} (h : LookAt w lb key o V) (hv : V.over = false) (h0 : 0 ≤ V.steps) (h1 : V.steps < 1000000) {x : Nat × Pair} {P : List (Nat × Pair)} (hP : Seg w o (x :: P)) (hk : x.2.1 = key) :
    Calls Try.prog 18 #[.pointer (some ⟨lb, 0, none⟩)] w fun r w' => r = .returned (.bool true) ∧ LookAt w' lb key o { over := true, found := true, v := x.2.2, steps := V.steps + 1 } ∧ Keep w w' (fun b => b = lb) := by
  obtain ⟨rfl, o', hx, hr⟩ := hP
  obtain ⟨xb, xk, xv⟩ := x
  simp only at hk hx hr
  subst hk
  have c0 : w.cell? ⟨lb, 0, none⟩ = some (.string xk) := by rw [cell_blk h]; rfl
  have c1 : w.cell? ⟨lb, 1, none⟩ = some (.pointer (some ⟨xb, 0, none⟩)) := by rw [cell_blk h]; rfl
  have c2 : w.cell? ⟨lb, 2, none⟩ = some (.bool false) := by rw [cell_blk h, ← hv]; rfl
  have c5 : w.cell? ⟨lb, 5, none⟩ = some (.int .i64 V.steps) := by rw [cell_blk h]; rfl
  have c3 : w.cell? ⟨lb, 3, none⟩ = some (.bool V.found) := by rw [cell_blk h]; rfl
  have c4 : w.cell? ⟨lb, 4, none⟩ = some (.int .i64 V.v) := by rw [cell_blk h]; rfl
  have x0 : w.cell? ⟨xb, 0, none⟩ = some (.string xk) := by rw [cell_blk hx]; rfl
  have x1 : w.cell? ⟨xb, 1, none⟩ = some (.int .i64 xv) := by rw [cell_blk hx]; rfl
  have f2 : w.frozen? ⟨lb, 2, none⟩ = false := free_blk h _
  have f3 : w.frozen? ⟨lb, 3, none⟩ = false := free_blk h _
  have f4 : w.frozen? ⟨lb, 4, none⟩ = false := free_blk h _
  have f5 : w.frozen? ⟨lb, 5, none⟩ = false := free_blk h _
  have hne : xb ≠ lb := by
    rintro rfl
    have := hx.symm.trans h
    simp at this
  have H := Lib.hid (And.intro h hx)
  clear h hx hr
  go_enter Try.func18, Try.ntmps18
  go_wp2
  go_step3
  go_wp2
  go_step3
  go_wp2
  go_loopg [] 1 (fun g wr => (g = 1 ∧ wr = w) ∨ (g = 0 ∧ LookAt wr lb xk (some xb) { over := true, found := true, v := xv, steps := V.steps + 1 } ∧ Keep w wr (fun b => b = lb)))
  case atStart => exact .inl ⟨rfl, rfl⟩
  case round =>
    rcases hrel with ⟨rfl, rfl⟩ | ⟨rfl, q1, q2⟩
    · go_wp2
      go_quiet (fail)
      obtain ⟨w2, hw2⟩ : ∃ w2, w2 = (wr.setCell ⟨lb, 5, none⟩ (.int .i64 (V.steps + 1))).drewN nq := ⟨_, rfl⟩
      rw [← hw2]
      have B2 : w2.heap[lb]? = some (.cells #[.string xk, pnt (some xb), .bool V.over, .bool V.found, .int .i64 V.v, .int .i64 (V.steps + 1)] 71 (0, 0)) := by rw [hw2]; exact heap_setCell_eq _ H.out.1
      have X2 : w2.heap[xb]? = some (.cells #[.string xk, .int .i64 xv, pnt o'] 66 (0, 0)) := by rw [hw2]; exact (heap_setCell_ne _ _ _ hne).trans H.out.2
      have K2 := Lib.hid (show Keep wr w2 (fun b => b = lb) from by rw [hw2]; exact (Keep.setCell _ _ _).trans (Turn.drewN _ _ _).keep (fun b q => .inl q))
      clear hw2
      have d0 : w2.cell? ⟨lb, 0, none⟩ = some (.string xk) := by rw [cell_blk B2]; rfl
      have d1 : w2.cell? ⟨lb, 1, none⟩ = some (.pointer (some ⟨xb, 0, none⟩)) := by rw [cell_blk B2]; rfl
      have d2 : w2.cell? ⟨lb, 2, none⟩ = some (.bool V.over) := by rw [cell_blk B2]; rfl
      have d3 : w2.cell? ⟨lb, 3, none⟩ = some (.bool V.found) := by rw [cell_blk B2]; rfl
      have d4 : w2.cell? ⟨lb, 4, none⟩ = some (.int .i64 V.v) := by rw [cell_blk B2]; rfl
      have e1 : w2.cell? ⟨xb, 1, none⟩ = some (.int .i64 xv) := by rw [cell_blk X2]; rfl
      have k2 : w2.frozen? ⟨lb, 2, none⟩ = false := free_blk B2 _
      have k3 : w2.frozen? ⟨lb, 3, none⟩ = false := free_blk B2 _
      have k4 : w2.frozen? ⟨lb, 4, none⟩ = false := free_blk B2 _
      have B2' := Lib.hid B2
      clear B2 X2 c0 c1 c2 c3 c4 c5 f2 f3 f4 f5 x0 x1
      go_wp2
      go_roundg 0
      case measure => omega
      case rel =>
        refine .inr ⟨rfl, ?_, ?_⟩
        · have := heap_setCell_eq (.int .i64 xv) (off := 4) (heap_setCell_eq (.bool true) (off := 3) (heap_setCell_eq (.bool true) (off := 2) B2'.out))
          exact this
        · exact ((K2.out.trans (Keep.setCell _ _ _) (fun b q => .inl q)).trans (Keep.setCell _ _ _) (fun b q => .inl q)).trans (Keep.setCell _ _ _) (fun b q => .inl q)
    · have c2' : wr.cell? ⟨lb, 2, none⟩ = some (.bool true) := by rw [cell_blk q1]; rfl
      have Q := Lib.hid (And.intro q1 q2)
      clear q1 q2
      go_wp2
      rw [Exit.noGoto_ret]
      go_ret
      exact ⟨rfl, Q.out⟩

theorem LookAt.apart {w : World} {lb : Nat} {key : ByteArray} {o o' : Option Nat} {V : LookV} (h : LookAt w lb key o V) {P : List (Nat × Pair)} (hP : Seg w o' P) : ∀ y ∈ P, y.1 ≠ lb := by
  rintro y hy rfl
  obtain ⟨o', hx⟩ := hP.at y hy
  have := hx.symm.trans h
  simp at this

theorem step_go {w : World} {lb : Nat} {key : ByteArray} {o : Option Nat} {V : LookV} (h : LookAt w lb key o V) (hv : V.over = false) (h0 : 0 ≤ V.steps) (h1 : V.steps < 1000000) {x : Nat × Pair} {P : List (Nat × Pair)} (hP : Seg w o (x :: P)) (hk : x.2.1 ≠ key) :
    Calls Try.prog 18 #[.pointer (some ⟨lb, 0, none⟩)] w fun r w' => r = .returned (.bool false) ∧ ∃ o', LookAt w' lb key o' { V with steps := V.steps + 1 } ∧ Seg w' o' P ∧ Keep w w' (fun b => b = lb) := by
  obtain ⟨rfl, o', hx, hr⟩ := hP
  obtain ⟨xb, xk, xv⟩ := x
  simp only at hk hx hr
  have c0 : w.cell? ⟨lb, 0, none⟩ = some (.string key) := by rw [cell_blk h]; rfl
  have c1 : w.cell? ⟨lb, 1, none⟩ = some (.pointer (some ⟨xb, 0, none⟩)) := by rw [cell_blk h]; rfl
  have c2 : w.cell? ⟨lb, 2, none⟩ = some (.bool false) := by rw [cell_blk h, ← hv]; rfl
  have c5 : w.cell? ⟨lb, 5, none⟩ = some (.int .i64 V.steps) := by rw [cell_blk h]; rfl
  have x0 : w.cell? ⟨xb, 0, none⟩ = some (.string xk) := by rw [cell_blk hx]; rfl
  have x2 : w.cell? ⟨xb, 2, none⟩ = some (.pointer (o'.map fun b => ⟨b, 0, none⟩)) := by rw [cell_blk hx]; rfl
  have f1 : w.frozen? ⟨lb, 1, none⟩ = false := free_blk h _
  have f5 : w.frozen? ⟨lb, 5, none⟩ = false := free_blk h _
  have hne : xb ≠ lb := by
    rintro rfl
    have := hx.symm.trans h
    simp at this
  have g1 : (xk.toList == key.toList) = false := str_ne hk
  have H := Lib.hid (And.intro h (And.intro hx (And.intro hr hv)))
  have H2 := Lib.hid (h.apart hr)
  clear h hx hr hk
  go_enter Try.func18, Try.ntmps18
  go_wp2
  go_step3
  go_wp2
  go_step3
  go_wp2
  go_loopg [] 1 (fun g wr => wr = w)
  case atStart => exact rfl
  case round =>
    obtain rfl := hrel
    go_wp2
    go_quiet (fail)
    obtain ⟨w2, hw2⟩ : ∃ w2, w2 = (wr.setCell ⟨lb, 5, none⟩ (.int .i64 (V.steps + 1))).drewN nq := ⟨_, rfl⟩
    rw [← hw2]
    have B2 : w2.heap[lb]? = some (.cells #[.string key, pnt (some xb), .bool V.over, .bool V.found, .int .i64 V.v, .int .i64 (V.steps + 1)] 71 (0, 0)) := by rw [hw2]; exact heap_setCell_eq _ H.out.1
    have X2 : w2.heap[xb]? = some (.cells #[.string xk, .int .i64 xv, pnt o'] 66 (0, 0)) := by rw [hw2]; exact (heap_setCell_ne _ _ _ hne).trans H.out.2.1
    have K2 := Lib.hid (show Keep wr w2 (fun b => b = lb) from by rw [hw2]; exact (Keep.setCell _ _ _).trans (Turn.drewN _ _ _).keep (fun b q => .inl q))
    clear hw2
    have d1 : w2.cell? ⟨lb, 1, none⟩ = some (.pointer (some ⟨xb, 0, none⟩)) := by rw [cell_blk B2]; rfl
    have d2 : w2.cell? ⟨lb, 2, none⟩ = some (.bool false) := by rw [cell_blk B2, ← H.out.2.2.2]; rfl
    have e2 : w2.cell? ⟨xb, 2, none⟩ = some (.pointer (o'.map fun b => ⟨b, 0, none⟩)) := by rw [cell_blk X2]; rfl
    have k1 : w2.frozen? ⟨lb, 1, none⟩ = false := free_blk B2 _
    have B2' := Lib.hid B2
    clear B2 X2 c0 c1 c2 c5 f1 f5 x0 x2
    go_wp2
    rw [Exit.noGoto_ret]
    go_ret
    have K := K2.out.trans (Keep.setCell w2 ⟨lb, 1, none⟩ (.pointer (o'.map fun b => ⟨b, 0, none⟩))) (fun b q => .inl q)
    refine ⟨rfl, o', ?_, H.out.2.2.1.keep K ?_, K⟩
    · have := heap_setCell_eq (.pointer (o'.map fun b => ⟨b, 0, none⟩)) (off := 1) B2'.out
      exact this
    · intro b hb e
      subst e
      exact H2.out b hb rfl

end Go.Proofs.Ytkdpkmlmkholmaa
