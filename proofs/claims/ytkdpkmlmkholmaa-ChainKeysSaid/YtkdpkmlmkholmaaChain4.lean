/-
  Drop.
-/
import Derived.Test.YtkdpkmlmkholmaaChain3
namespace Go.Proofs.Ytkdpkmlmkholmaa
open Go Go.RowKit
set_option linter.unusedSectionVars false
set_option linter.unusedSimpArgs false
set_option linter.unusedVariables false

def dropT (T : List Pair) (key : ByteArray) : List Pair × Int × Int :=
  match aget T key with
  | none => (T, 0, 14)
  | some v => (adel T key, v, 0)

def other (key : ByteArray) (x : Pair) : Bool := decide (x.1 ≠ key)

theorem adel_filter {T : List Pair} (hn : (T.map Prod.fst).Nodup) (key : ByteArray) : adel T key = T.filter (other key) := by
  induction T with
  | nil => rfl
  | cons x r ih =>
    obtain ⟨a, u⟩ := x
    simp only [List.map_cons, List.nodup_cons] at hn
    simp only [adel, List.filter_cons, other]
    by_cases h : a = key
    · subst h
      simp only [if_true, ne_eq, not_true, decide_false, Bool.false_eq_true, if_false]
      symm
      rw [List.filter_eq_self]
      intro y hy
      have : y.1 ≠ a := fun e => hn.1 (by rw [← e]; exact List.mem_map_of_mem (f := Prod.fst) hy)
      simp [other, this]
    · simp only [h, if_false, ne_eq, not_false_eq_true, decide_true, if_true, ih hn.2]

theorem chainOf_del {T : List Pair} (hn : (T.map Prod.fst).Nodup) (m i : Nat) (key : ByteArray) : chainOf (adel T key) m i = (chainOf T m i).filter (other key) := by
  rw [adel_filter hn]
  unfold chainOf
  rw [List.filter_reverse, List.filter_filter, List.filter_filter]
  congr 1
  apply List.filter_congr
  intro x _
  rw [Bool.and_comm]

theorem adel_len {T : List Pair} {key : ByteArray} {v : Int} (h : aget T key = some v) : (adel T key).length + 1 = T.length := by
  induction T with
  | nil => simp [aget] at h
  | cons x r ih =>
    obtain ⟨a, u⟩ := x
    simp only [aget] at h
    simp only [adel]
    by_cases e : a = key
    · simp [e]
    · simp only [e, if_false] at h ⊢
      simp [ih h]

/-- One link is passed by. -/
theorem seg_cut {w w3 : World} {z x : Nat × Pair} {rest : List (Nat × Pair)} {o' : Option Nat} {U : Nat → Prop} (hz : w.heap[z.1]? = some (.cells #[.string z.2.1, .int .i64 z.2.2, pnt (some x.1)] 66 (0, 0)))
    (hx : Seg w (some x.1) (x :: rest)) (hr : Seg w o' rest) (hz3 : w3.heap[z.1]? = some (.cells #[.string z.2.1, .int .i64 z.2.2, pnt o'] 66 (0, 0)))
    (K : Keep w w3 (fun b => b = z.1 ∨ U b)) (hU : ∀ o P, Seg w o P → ∀ y ∈ P, ¬ U y.1) :
    ∀ (P : List (Nat × Pair)) (o : Option Nat), Seg w o P → ∃ P', Seg w3 o P' ∧ ((z ∈ P ∧ ∃ p r, P = p ++ x :: r ∧ P' = p ++ r) ∨ (z ∉ P ∧ P' = P))
  | [], o, h => ⟨[], h, .inr ⟨by simp, rfl⟩⟩
  | y :: r, o, h => by
    have h' := h
    obtain ⟨h1, o1, h2, h3⟩ := h
    by_cases e : y.1 = z.1
    · rw [e, hz] at h2
      simp only [Option.some.injEq, Obj.cells.injEq, Array.mk.injEq, List.cons.injEq, and_true, Value.string.injEq, Value.int.injEq, true_and] at h2
      obtain ⟨e1, e2, e3⟩ := h2
      have ho := pnt_inj e3
      rw [← ho] at h3
      have hrr := Seg.det h3 hx
      have hyz : y = z := by
        obtain ⟨a, b, c⟩ := y
        obtain ⟨a', b', c'⟩ := z
        simp at e e1 e2
        simp [e, e1, e2]
      subst hyz
      subst hrr
      refine ⟨y :: rest, ⟨h1, o', hz3, hr.keep K (fun q hq => ?_)⟩, .inl ⟨by simp, [y], rest, rfl, rfl⟩⟩
      rintro (q1 | q1)
      · have hn := Seg.nodup h'
        simp only [List.map_cons, List.nodup_cons, List.mem_cons, not_or] at hn
        exact hn.1.2 (by rw [← q1]; exact List.mem_map_of_mem (f := Prod.fst) hq)
      · exact hU _ _ hr q hq q1
    · obtain ⟨P', hs, hc⟩ := seg_cut hz hx hr hz3 K hU r o1 h3
      refine ⟨y :: P', ⟨h1, o1, K.get h2 (fun q => q.elim e (hU _ _ h' y (by simp))), hs⟩, ?_⟩
      rcases hc with ⟨hm, p, t, rfl, rfl⟩ | ⟨hm, rfl⟩
      · exact .inl ⟨by simp [hm], y :: p, t, rfl, rfl⟩
      · refine .inr ⟨fun q => ?_, rfl⟩
        rcases List.mem_cons.1 q with rfl | q
        · exact e rfl
        · exact hm q

theorem drop_none {w : World} {tb : Nat} {S : Nat → Prop} {m : Nat} {T : List Pair} (h : TabAt w tb S m T) (key : ByteArray) (hs : key.size ≤ 9223372036854775807) (hg : aget T key = none) :
    Calls Try.prog 10 #[.pointer (some ⟨tb, 0, none⟩), .string key] w fun r w' => r = .returned (.tuple #[.int .i64 0, .int .i64 14]) ∧ ∃ q, w' = w.drewN q := by
  obtain ⟨cb, hd, Ls, hm, hseg, hv, s1, s2, s3⟩ := h.ex
  have hb := bucket_lt key h.m1
  have hf := find_none hm h.m1 h.m64 key hs (hseg _ hb) (hv _ hb) hg
  clear hm hseg hv s1 s2 s3 hg h hb
  go_enter Try.func10, Try.ntmps10
  go_wp2_with (
    go_at_call 29
    refine hf.mono ?_
    rintro e w1 ⟨rfl, q, rfl⟩)
  go_ret2
  exact ⟨rfl, q, rfl⟩

/-- The walk of a Drop that finds its key. -/
theorem drop_walk {w : World} {tb cb m : Nat} {T : List Pair} (key : ByteArray) (v : Int) (hl : T.length ≤ 64) (hl0 : 1 ≤ T.length)
    {R : Option Nat → Nat × Pair → Nat → Nat → Prop}
    (hf : Calls Try.prog 29 #[.pointer (some ⟨tb, 0, none⟩), .string key] w fun r w' => ∃ o x pb po, r = .returned (.pointer (some ⟨pb, po, none⟩)) ∧ R o x pb po ∧ (∃ q, w' = w.drewN q) ∧
      w.cell? ⟨pb, po, none⟩ = some (.pointer (some ⟨x.1, 0, none⟩)) ∧ w.frozen? ⟨pb, po, none⟩ = false ∧ w.cell? ⟨x.1, 1, none⟩ = some (.int .i64 v) ∧ w.cell? ⟨x.1, 2, none⟩ = some (.pointer (o.map fun b => ⟨b, 0, none⟩)) ∧ x.1 ≠ pb ∧ tb ≠ pb ∧ x.1 ≠ tb)
    (c1 : w.cell? ⟨tb, 1, none⟩ = some (.int .i64 T.length)) (f1 : w.frozen? ⟨tb, 1, none⟩ = false) :
    Calls Try.prog 10 #[.pointer (some ⟨tb, 0, none⟩), .string key] w fun r w' => r = .returned (.tuple #[.int .i64 v, .int .i64 0]) ∧ ∃ o x pb po, R o x pb po ∧ ∃ w2, w2.heap = w.heap ∧ Keep w w2 (fun _ => False) ∧
      w' = (w2.setCell ⟨pb, po, none⟩ (.pointer (o.map fun b => ⟨b, 0, none⟩))).setCell ⟨tb, 1, none⟩ (.int .i64 (T.length - 1)) := by
  go_enter Try.func10, Try.ntmps10
  go_wp2_with (
    go_at_call 29
    refine hf.mono ?_
    rintro e w1 ⟨o, x, pb, po, rfl, hR, ⟨q, hw1⟩, a1, a2, a3, a4, n1, n2, n3⟩
    have b1 : w1.cell? ⟨pb, po, none⟩ = some (.pointer (some ⟨x.1, 0, none⟩)) := by rw [hw1]; exact a1
    have b2 : w1.frozen? ⟨pb, po, none⟩ = false := by rw [hw1]; exact a2
    have b3 : w1.cell? ⟨x.1, 1, none⟩ = some (.int .i64 v) := by rw [hw1]; exact a3
    have b4 : w1.cell? ⟨x.1, 2, none⟩ = some (.pointer (o.map fun b => ⟨b, 0, none⟩)) := by rw [hw1]; exact a4
    have b5 : w1.cell? ⟨tb, 1, none⟩ = some (.int .i64 T.length) := by rw [hw1]; exact c1
    have b6 : w1.frozen? ⟨tb, 1, none⟩ = false := by rw [hw1]; exact f1
    have m1 : pb ≠ x.1 := fun e => n1 e.symm
    have m2 : pb ≠ tb := fun e => n2 e.symm
    have m3 : tb ≠ x.1 := fun e => n3 e.symm
    have E := Lib.hid (show R o x pb po ∧ w1.heap = w.heap ∧ Keep w w1 (fun _ => False) from by rw [hw1]; exact ⟨hR, rfl, (Turn.drewN w _ _).keep⟩)
    clear hw1 a1 a2 a3 a4 hR)
  go_ret2
  exact ⟨rfl, o, x, pb, po, E.out.1, w1, E.out.2.1, E.out.2.2, rfl⟩

end Go.Proofs.Ytkdpkmlmkholmaa
