/-
  The numbers of a call, handed on one by one; a range over a function with two loop variables.
-/
import Derived.Test.YtdbkkfhneafeiaaDoorRight0
import Derived.Test.YtdbkkfhneafeiaaDoorRanges
namespace Go.Proofs.YtdbkkfhneafeiaaDoor
open Go Go.RowKit Go.Shelf
set_option linter.unusedSectionVars false
set_option linter.unusedSimpArgs false
set_option linter.unusedVariables false
attribute [local go_sem] Oper.semAt_some

/-- What a block of cells holds stays. -/
def Kq (q : Nat) (A B : World) : Prop := ∀ o, A.heap[q]? = some o → o.isCells = true → B.heap[q]? = some o

theorem Kq.refl (q : Nat) (A : World) : Kq q A A := fun _ h _ => h
theorem Kq.trans {q : Nat} {A B C : World} (h : Kq q A B) (k : Kq q B C) : Kq q A C := fun o ho hc => k o (h o ho hc) hc
theorem Kq.of {q : Nat} {A B : World} {S : Nat → Prop} (k : Keep A B S) (h : ¬ S q) : Kq q A B := fun o ho _ => k.get ho h
theorem Kq.back {q : Nat} {w : World} (hq : q < w.heap.size) (W : World) (l : Nat) (o o' : Obj) (hl : w.heap.size ≤ l) (h : W.heap[l]? = some o) (_ : o.isCells = false) (_ : o.isWalk = false) : Kq q W (W.putObj l o') := fun x hx _ =>
  ((grownBy_putObj' W l o').block q (lt_of_blk hx) (fun e => by simp at e; omega)).trans hx

/-- 'for _, j = range f': p, q: where yield's arguments lie, j: the loop variable (the second). -/
theorem wp_range2 {α : Type} {P : Program} {g : Operand} {p q j : Tmp} {assign body : Code} {Q : Exit → Act → World → Prop} {a : Act} {w : World}
    {gf : Nat} {lb : Array Value} (hg : a.eval g = .func (.func gf) #[] lb) (eg : ∀ args w, (callFunc gf args).run P w = .ok (.enter gf args) w)
    {e1 e2 : α → Value} {q0 : Nat} {S Sp : List α → Prop} {N : Nat} (hseq : SeqStopsK Fence.wide 8 P gf lb (fun x => #[e1 x, e2 x]) (Kq q0) S Sp N w) (hq0 : q0 < w.heap.size)
    (I : List α → World → Prop) (Ix : Code → List α → World → Prop) (hI : OwnFrom w.heap.size I) (hIx : ∀ c, OwnFrom w.heap.size (Ix c)) (h0 : I [] w)
    (hassign : ∀ (l : Nat) (x : α) (W : World) (K : Act → World → Prop), K { tmps := ((a.tmps.setIfInBounds p (e1 x)).setIfInBounds q (e2 x)).setIfInBounds j (e2 x), defers := [] } W →
      assign.wpIn (Fence.wide.inRound l) 7 P (Exit.then K (fun _ _ _ => False)) { tmps := (a.tmps.setIfInBounds p (e1 x)).setIfInBounds q (e2 x), defers := [] } W)
    (hbody : ∀ (l : Nat) (pre : List α) (x : α) (W : World), I pre W → pre.length < N → body.wpIn (Fence.wide.inRound l) 7 P (ownPostG w.heap.size (Kq q0) I Ix (pre ++ [x]) W) { tmps := ((a.tmps.setIfInBounds p (e1 x)).setIfInBounds q (e2 x)).setIfInBounds j (e2 x), defers := [] } W)
    (hdone : ∀ (D : Nat) (xs : List α) (W : World), w.heap.size ≤ D → S xs → I xs W → W.heap[D]? = some (.deferred (some [])) → Q .normal { a with defers := { target := .collected D, args := #[] } :: a.defers } W)
    (hstop : ∀ (D : Nat) (c : Code) (pre : List α) (W : World), w.heap.size ≤ D → Sp pre → Ix c pre W → W.heap[D]? = some (.deferred (some [])) → c.wp P Q { a with defers := { target := .collected D, args := #[] } :: a.defers } W) :
    (Code.rangeFunc g #[p, q] assign body).wp P Q a w :=
  (wpIn_wide (n := 9)).1 (wpIn_rangeFunc_ownG (F := Fence.wide) rfl (by omega) hg trivial eg hseq Kq.trans (Kq.back hq0) (Below.refl _ _) (fun _ => rfl) I Ix hI hIx h0 (fun x => { tmps := ((a.tmps.setIfInBounds p (e1 x)).setIfInBounds q (e2 x)).setIfInBounds j (e2 x), defers := [] })
    (fun l x W K hK => by have h := hassign l x W K hK; simpa using h) hbody hdone (fun D c pre W h1 h2 h3 h4 => wpIn_wide.2 (hstop D c pre W h1 h2 h3 h4)))

def nameOf : Nat → Value
  | 0 => .string { data := #[102, 100, 61] }
  | 1 => .string { data := #[102, 108, 97, 103, 115, 61] }
  | 2 => .string { data := #[109, 111, 100, 101, 61] }
  | 3 => .string { data := #[110, 61] }
  | _ => .string { data := #[109, 61] }

def f0 : Fin 5 := ⟨0, by decide⟩
def f1 : Fin 5 := ⟨1, by decide⟩
def f2 : Fin 5 := ⟨2, by decide⟩
def f3 : Fin 5 := ⟨3, by decide⟩
def f4 : Fin 5 := ⟨4, by decide⟩
def five : List (Fin 5) := [f0, f1, f2, f3, f4]

set_option maxRecDepth 100000 in
set_option maxHeartbeats 2000000 in
theorem nums1_in (n : Nat) (hn : 1 ≤ n) (l bl cb : Nat) (o : Obj) (ho : o = .cells #[.pointer (some ⟨cb, 0, none⟩)] 63 (0, 0)) (B : Nat) (J Jx : List (Fin 5) → World → Prop) (hJ : AbidesFrom B J)
    (hY : ∀ pre x W, J pre W → pre.length < 5 → YieldAt Fence.wide (n - 1) Tryd.prog l #[nameOf x.val, .pointer (some ⟨cb, x.val + 3, none⟩)] W fun e W' =>
      (e = .returned (.bool true) ∧ J (pre ++ [x]) W' ∧ Kq bl W W') ∨ (e = .returned (.bool false) ∧ Jx (pre ++ [x]) W'))
    (W : World) (hb0 : W.heap[bl]? = some o) (h0 : J [] W) :
    CallsIn Fence.wide n Tryd.prog 44 #[.func (.yield l) #[] #[], .pointer (some ⟨bl, 0, none⟩)] W fun e W' => (∃ v, e = .returned v) ∧
      ((∃ ys, ys = five ∧ J ys W') ∨ (∃ pre, pre <+: five ∧ Jx pre W')) := by
  have hoc : o.isCells = true := by rw [ho]; rfl
  have hcl : ∀ {U : World}, U.heap[bl]? = some o → U.cell? ⟨bl, 0, none⟩ = some (.pointer (some ⟨cb, 0, none⟩)) := fun h => by rw [ho] at h; rw [cell_blk h]; rfl
  have hbl := hcl hb0
  refine callsIn_of_wp Tryd.func44 rfl trivial ?_ rfl
  simp only [Tryd.ntmps44, List.size_toArray, List.length_cons, List.length_nil, Nat.reduceAdd, Nat.reduceSub, Array.replicate_succ, Array.replicate_zero, List.push_toArray, List.append_toArray, List.nil_append, List.cons_append]
  obtain ⟨fn, tmps, assign, body, hy, hR⟩ := hY [] f0 W h0 (by decide)
  simp only [List.nil_append, List.cons_append] at hR
  simp only [f0, f1, f2, f3, f4, nameOf, Nat.zero_add, Nat.reduceAdd] at hy
  gi_wp2
  refine hR.mono ?_
  rintro e W1 (⟨rfl, hJ1, hk1⟩ | ⟨rfl, hJ1⟩)
  rotate_left
  · clear hR hy
    gi_wp2
    repeat (refine ⟨fun _ h => (by cases h), ?_⟩; gi_wp2)
    go_end0
    exact ⟨⟨_, rfl⟩, .inr ⟨_, by decide, hJ1⟩⟩
  clear hR hy
  have hb1 := hk1 _ hb0 hoc
  have hbl1 := hcl hb1
  obtain ⟨fn, tmps, assign, body, hy, hR⟩ := hY [f0] f1 W1 hJ1 (by decide)
  simp only [List.nil_append, List.cons_append] at hR
  simp only [f0, f1, f2, f3, f4, nameOf, Nat.zero_add, Nat.reduceAdd] at hy
  gi_wp2
  refine hR.mono ?_
  rintro e W2 (⟨rfl, hJ2, hk2⟩ | ⟨rfl, hJ2⟩)
  rotate_left
  · clear hR hy
    gi_wp2
    repeat (refine ⟨fun _ h => (by cases h), ?_⟩; gi_wp2)
    go_end0
    exact ⟨⟨_, rfl⟩, .inr ⟨_, by decide, hJ2⟩⟩
  clear hR hy
  have hb2 := hk2 _ hb1 hoc
  have hbl2 := hcl hb2
  obtain ⟨fn, tmps, assign, body, hy, hR⟩ := hY [f0, f1] f2 W2 hJ2 (by decide)
  simp only [List.nil_append, List.cons_append] at hR
  simp only [f0, f1, f2, f3, f4, nameOf, Nat.zero_add, Nat.reduceAdd] at hy
  gi_wp2
  refine hR.mono ?_
  rintro e W3 (⟨rfl, hJ3, hk3⟩ | ⟨rfl, hJ3⟩)
  rotate_left
  · clear hR hy
    gi_wp2
    repeat (refine ⟨fun _ h => (by cases h), ?_⟩; gi_wp2)
    go_end0
    exact ⟨⟨_, rfl⟩, .inr ⟨_, by decide, hJ3⟩⟩
  clear hR hy
  have hb3 := hk3 _ hb2 hoc
  have hbl3 := hcl hb3
  obtain ⟨fn, tmps, assign, body, hy, hR⟩ := hY [f0, f1, f2] f3 W3 hJ3 (by decide)
  simp only [List.nil_append, List.cons_append] at hR
  simp only [f0, f1, f2, f3, f4, nameOf, Nat.zero_add, Nat.reduceAdd] at hy
  gi_wp2
  refine hR.mono ?_
  rintro e W4 (⟨rfl, hJ4, hk4⟩ | ⟨rfl, hJ4⟩)
  rotate_left
  · clear hR hy
    gi_wp2
    repeat (refine ⟨fun _ h => (by cases h), ?_⟩; gi_wp2)
    go_end0
    exact ⟨⟨_, rfl⟩, .inr ⟨_, by decide, hJ4⟩⟩
  clear hR hy
  have hb4 := hk4 _ hb3 hoc
  have hbl4 := hcl hb4
  obtain ⟨fn, tmps, assign, body, hy, hR⟩ := hY [f0, f1, f2, f3] f4 W4 hJ4 (by decide)
  simp only [List.nil_append, List.cons_append] at hR
  simp only [f0, f1, f2, f3, f4, nameOf, Nat.zero_add, Nat.reduceAdd] at hy
  gi_wp2
  refine hR.mono ?_
  rintro e W5 (⟨rfl, hJ5, hk5⟩ | ⟨rfl, hJ5⟩)
  rotate_left
  · clear hR hy
    gi_wp2
    repeat (refine ⟨fun _ h => (by cases h), ?_⟩; gi_wp2)
    go_end0
    exact ⟨⟨_, rfl⟩, .inr ⟨_, by decide, hJ5⟩⟩
  clear hR hy
  gi_wp2
  go_end0
  exact ⟨⟨_, rfl⟩, .inl ⟨_, rfl, hJ5⟩⟩

theorem nums_stops (n : Nat) (hn : 1 ≤ n) (bl cb : Nat) (w : World) (hbl : w.heap[bl]? = some (.cells #[.pointer (some ⟨cb, 0, none⟩)] 63 (0, 0))) :
    SeqStopsK Fence.wide n Tryd.prog 44 #[.pointer (some ⟨bl, 0, none⟩)] (fun x : Fin 5 => #[nameOf x.val, Value.pointer (some ⟨cb, x.val + 3, none⟩)]) (Kq bl) (fun ys => ys = five) (fun pre => pre <+: five) 5 w := fun l J Jx W hW hJ _ hY h0 =>
  nums1_in n hn l bl cb _ rfl _ J Jx hJ hY W ((Keep.of_below hW).get hbl (fun q => by have := lt_of_blk hbl; omega)) h0

theorem numbers_c (w : World) (cb : Nat) :
    Calls Tryd.prog 28 #[.pointer (some ⟨cb, 0, none⟩)] w fun r w' => r = .returned (.func (.func 44) #[] #[.pointer (some ⟨w.heap.size, 0, none⟩)]) ∧ w' = w.alloc (.cells #[.pointer (some ⟨cb, 0, none⟩)] 63) := by
  go_enter Tryd.func28, Tryd.ntmps28
  go_wp2
  go_ret
  exact ⟨rfl, rfl⟩

end Go.Proofs.YtdbkkfhneafeiaaDoor
