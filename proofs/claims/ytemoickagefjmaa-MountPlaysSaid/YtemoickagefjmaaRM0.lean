/-
  The document's mounts: its rows, plainly and in memory; is, over.
-/
import Derived.Test.YtemoickagefjmaaMountLaw
import Derived.Deep.QuietTactic
import Derived.BigQuiet
namespace Go.Proofs.Ytemoickagefjmaa
open Go Go.RowKit Go.Shelf
set_option linter.unusedSectionVars false
set_option linter.unusedSimpArgs false
set_option linter.unusedVariables false
set_option maxRecDepth 100000
attribute [local go_sem] Oper.semAt_some

structure RowM where
  am : Int
  an : Int
  node : Int
  live : Bool
def RowM.val (r : RowM) : MntV := ⟨r.node, r.am, r.an⟩
def rowC (r : RowM) : List Value := [.int .i64 r.am, .int .i64 r.an, .int .i64 r.node, .bool r.live]
theorem rowC_len (r : RowM) : (rowC r).length = 4 := rfl

/-- The rows that live, with their numbers. -/
def liveF : Nat → List RowM → List Mnt
  | _, [] => []
  | i, r :: l => (if r.live then [((i : Int), r.val)] else []) ++ liveF (i + 1) l

theorem liveF_append : ∀ (a : List RowM) (i : Nat) (b : List RowM), liveF i (a ++ b) = liveF i a ++ liveF (i + a.length) b
  | [], i, b => by simp [liveF]
  | r :: a, i, b => by
    simp only [List.cons_append, liveF, liveF_append a (i + 1) b, List.append_assoc, List.length_cons]
    rw [show i + 1 + a.length = i + (a.length + 1) by omega]
theorem liveF_snoc (a : List RowM) (r : RowM) : liveF 0 (a ++ [r]) = liveF 0 a ++ if r.live then [((a.length : Int), r.val)] else [] := by
  rw [liveF_append]
  simp [liveF]
theorem mem_liveF : ∀ (l : List RowM) (i : Nat) (x : Mnt), x ∈ liveF i l ↔ ∃ (j : Nat) (r : RowM), l[j]? = some r ∧ r.live = true ∧ x = (((i + j : Nat) : Int), r.val)
  | [], i, x => by simp [liveF]
  | r :: l, i, x => by
    simp only [liveF, List.mem_append, mem_liveF l]
    constructor
    · rintro (h | ⟨j, r', h1, h2, h3⟩)
      · split at h
        · rename_i hl
          rw [List.mem_singleton.1 h]
          exact ⟨0, r, rfl, hl, rfl⟩
        · cases h
      · exact ⟨j + 1, r', by simpa using h1, h2, by rw [h3, show i + 1 + j = i + (j + 1) by omega]⟩
    · rintro ⟨j, r', h1, h2, h3⟩
      cases j with
      | zero =>
        simp at h1
        subst h1
        left
        rw [if_pos h2, h3]
        simp
      | succ j => exact .inr ⟨j, r', by simpa using h1, h2, by rw [h3, show i + 1 + j = i + (j + 1) by omega]⟩
theorem liveF_ge (l : List RowM) (i : Nat) (x : Mnt) (h : x ∈ liveF i l) : (i : Int) ≤ x.1 ∧ x.1 < (i + l.length : Nat) := by
  obtain ⟨j, r, h1, _, rfl⟩ := (mem_liveF l i x).1 h
  have := (List.getElem?_eq_some_iff.1 h1).1
  simp only
  omega
theorem liveF_adel : ∀ (l : List RowM) (i j : Nat) (r : RowM), l[j]? = some r → r.live = true → adel (liveF i l) ((i + j : Nat) : Int) = liveF i (l.set j { r with live := false })
  | [], i, j, r, h, _ => by simp at h
  | q :: l, i, 0, r, h, hr => by
    simp at h
    subst h
    simp only [liveF, hr, if_true, List.cons_append, List.nil_append, List.set_cons_zero, Bool.false_eq_true, if_false]
    simp [adel]
  | q :: l, i, j + 1, r, h, hr => by
    have ih := liveF_adel l (i + 1) j r (by simpa using h) hr
    rw [show i + 1 + j = i + (j + 1) by omega] at ih
    simp only [liveF, List.set_cons_succ]
    rw [← ih]
    by_cases hq : q.live = true
    · simp only [hq, if_true, List.cons_append, List.nil_append, adel]
      rw [if_neg (by omega)]
    · simp only [hq, if_false, List.nil_append]; rfl

/-- The document's table at block rb. -/
structure RTableAt (w : World) (rb : Nat) (R : Nat → Prop) (V : MountV) : Prop where
  ok : V.ok
  ex : ∃ (v : Value) (rows : List RowM), w.heap[rb]? = some (.cells #[v] 112 (0, 0)) ∧ w.ownsRow 0 109 4 v rows.length (flat rowC rows) ∧ (∀ b, v.ownBlock = some b → R b ∧ b ≠ rb) ∧ R rb ∧ (rows.length : Int) = V.made + 1 ∧ V.live = liveF 0 rows
  lt : ∀ b, R b → b < w.heap.size

theorem RTableAt.keep {w w' : World} {rb : Nat} {R U : Nat → Prop} {V : MountV} (h : RTableAt w rb R V) (K : Keep w w' U) (hU : ∀ b, R b → ¬ U b) : RTableAt w' rb R V := by
  obtain ⟨v, rows, h1, h2, h3, h4, h5, h6⟩ := h.ex
  exact ⟨h.ok, ⟨v, rows, K.get h1 (hU _ h4), rows_keep h2 K (fun b q => hU b (h3 b q).1), h3, h4, h5, h6⟩, fun b q => Nat.lt_of_lt_of_le (h.lt b q) K.size⟩
theorem RTableAt.aside {w w' : World} {rb : Nat} {R : Nat → Prop} {V : MountV} (h : RTableAt w rb R V) (K : Keep w w' (fun _ => False)) : RTableAt w' rb R V := h.keep K (fun _ _ q => q)

theorem row_get {V : MountV} (h : V.ok) {rows : List RowM} (hl : V.live = liveF 0 rows) {j : Nat} {r : RowM} (hj : rows[j]? = some r) : aget V.live (j : Int) = if r.live then some r.val else none := by
  cases hr : r.live with
  | true =>
    simp only [if_true]
    refine aget_of_memM h.nodup ?_
    rw [hl, mem_liveF]
    exact ⟨j, r, hj, hr, by simp⟩
  | false =>
    simp only [Bool.false_eq_true, if_false]
    rw [aget_noneM]
    intro q
    obtain ⟨x, hx, e⟩ := List.mem_map.1 q
    rw [hl, mem_liveF] at hx
    obtain ⟨j', r', h1, h2, rfl⟩ := hx
    simp only at e
    have : j' = j := by omega
    subst this
    rw [hj] at h1
    cases h1
    rw [hr] at h2
    cases h2
theorem row_out {V : MountV} {rows : List RowM} (hl : V.live = liveF 0 rows) {m : Int} (hm : m < 0 ∨ (rows.length : Int) ≤ m) : aget V.live m = none := by
  rw [aget_noneM]
  intro q
  obtain ⟨x, hx, e⟩ := List.mem_map.1 q
  rw [hl] at hx
  have := liveF_ge _ _ _ hx
  omega

set_option maxHeartbeats 2000000 in
theorem ris_c {w : World} {rb : Nat} {R : Nat → Prop} {V : MountV} (h : RTableAt w rb R V) (hm : V.made ≤ 1000000) (m : Int) :
    Calls Try.prog 59 #[.pointer (some ⟨rb, 0, none⟩), .int .i64 m] w fun e w' => e = .returned (.bool (aget V.live m).isSome) ∧ w' = w := by
  obtain ⟨v, rows, h1, h2, h3, h4, h5, h6⟩ := h.ex
  obtain ⟨sa, cap, rfl, hc⟩ := rows_val2 h2
  have c0 : w.cell? ⟨rb, 0, none⟩ = some (.slice sa rows.length cap) := by rw [cell_blk h1]; rfl
  have hok := h.ok
  have H := Lib.hid (And.intro h2 (And.intro h6 hok))
  by_cases hin : 0 ≤ m ∧ m < (rows.length : Int)
  · obtain ⟨g1, g2⟩ := hin
    obtain ⟨r, hr⟩ : ∃ r, rows[m.toNat]? = some r := ⟨_, List.getElem?_eq_getElem (by omega)⟩
    obtain ⟨j, hj⟩ : ∃ j : Nat, m = j := ⟨m.toNat, by omega⟩
    subst hj
    simp only [Int.toNat_natCast] at hr
    have hg := row_get hok h6 hr
    obtain ⟨g, rfl, _, _, _⟩ := rows_some h2 (by omega)
    have c1 : w.cell? ⟨g, j * 4 + 3, none⟩ = some (.bool r.live) := (rows_cell h2 (by rw [flat_get rowC 4 rowC_len hr (by omega)]; rfl)).1
    have hs : (aget V.live (j : Int)).isSome = r.live := by rw [hg]; cases r.live <;> rfl
    rw [hs]
    generalize r.live = lv at *
    generalize hn : rows.length = n at *
    clear h h1 h2 h3 h4 h5 h6 hr hg hs hok hn H
    go_enter Try.func59, Try.ntmps59
    go_wp2
    go_ret
    exact ⟨rfl, rfl⟩
  · have hg := row_out h6 (m := m) (by omega)
    rw [hg]
    generalize hn : rows.length = n at *
    clear h h1 h2 h3 h4 h5 h6 hg hok hn H
    by_cases g1 : 0 ≤ m
    · have g2 : ¬ m < (n : Int) := fun q => hin ⟨g1, q⟩
      clear hin
      go_enter Try.func59, Try.ntmps59
      go_wp2
      go_ret
      exact ⟨rfl, rfl⟩
    · clear hin
      go_enter Try.func59, Try.ntmps59
      go_wp2
      go_ret
      exact ⟨rfl, rfl⟩

end Go.Proofs.Ytemoickagefjmaa
