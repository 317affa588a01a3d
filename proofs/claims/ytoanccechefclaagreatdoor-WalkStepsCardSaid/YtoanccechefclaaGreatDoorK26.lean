/-
  Parts of the walk's proof: WalkP, WalkL, WalkA. (joined by pack.py)
-/
import Derived.Lib.AppendZerosOnto
import Derived.Lib.QuoteBits
import Derived.Deep.LoopGhost
import Derived.Deep.DeepCutAuto
import Derived.Deep.CutRange
import Derived.Deep.CutBlock
import Derived.Test.YtoanccechefclaaGreatDoorK03
import Derived.Test.YtoanccechefclaaGreatDoorK04
import Derived.Test.YtoanccechefclaaGreatDoorK06
import Derived.Test.YtoanccechefclaaGreatDoorK19
import Derived.Test.YtoanccechefclaaGreatDoorK21
import Derived.Test.YtoanccechefclaaGreatDoorK25
set_option linter.unusedSectionVars false
set_option linter.unusedSimpArgs false
set_option linter.unusedVariables false
namespace Go.Proofs.YtoanccechefclaaGreatDoor
open Go Go.RowKit
def blOf (b : ByteArray) : Bl := b.data.toList
theorem txB_blOf (b : ByteArray) : txB (blOf b) = b := by
  obtain ⟨⟨l⟩⟩ := b
  rfl
structure CredV where
  uid : Int
  gid : Int
def mayX (c : CredV) (s : TreeV.StatV) : Bool := c.uid == 0 || (if c.uid = s.uid then s.mode / 64 else if c.gid = s.gid then s.mode / 8 else s.mode) % 2 == 1
structure FoundV where
  dm : Int
  dn : Int
  last : ByteArray
  am : Int
  an : Int
  has : Bool
  slash : Bool
def FoundV.zero : FoundV := ⟨0, 0, ⟨#[]⟩, 0, 0, false, false⟩
structure WkE where
  T : TreeV
  M : MountV
  c : CredV
  rm : Int
  rn : Int
  follow : Bool
structure WkV where
  m : Int
  n : Int
  left : List Bl
  slash : Bool
  links : Int
  steps : Int
  f : FoundV
def WkV.here (w : WkV) : WkV := { w with f := ⟨w.m, w.n, ⟨#[]⟩, w.m, w.n, true, false⟩ }
def wupF (E : WkE) : Nat → Int → Int → (Int × Int) × Bool
  | 0, m, n => ((m, n), false)
  | k + 1, m, n =>
    match E.M.up m n with
    | (_, _, false) => ((m, n), false)
    | (pm, pn, true) => if E.M.down pm pn = (E.rm, E.rn) then ((E.rm, E.rn), true) else wupF E k pm pn
def wupEnd (E : WkE) : (Int × Int) × Bool → Int × Int
  | (p, true) => p
  | (p, false) => E.M.down p.1 (E.T.upOf p.2)
def wup (E : WkE) (m n : Int) : Int × Int :=
  if (m, n) = (E.rm, E.rn) then (m, n) else wupEnd E (wupF E E.M.live.length m n)
def wlink (E : WkE) (w : WkV) (dm dn : Int) (text : Bl) : Int × WkV :=
  if 40 ≤ w.links then (46, w) else
  if text = [] then (32, { w with links := w.links + 1 }) else
  if 4096 < text.length + (writeP false w.slash w.left).length then (45, { w with links := w.links + 1 }) else
  if (readP text).2 ≠ 0 then ((readP text).2, { w with links := w.links + 1 }) else
  (0, WkV.here { w with links := w.links + 1, m := if (readP text).1.1 then E.rm else dm, n := if (readP text).1.1 then E.rn else dn, slash := if w.left = [] then w.slash || (readP text).1.2.1 else w.slash, left := (readP text).1.2.2 ++ w.left })
def wpart (E : WkE) (w : WkV) (s : Bl) (r : List Bl) : Bool × Int × WkV :=
  let w1 : WkV := { w with left := r, steps := w.steps + 1 }
  let st := (E.T.stat w.n).1
  if st.kind ≠ 1 then (true, 37, w1) else
  if mayX E.c st = false then (true, 34, w1) else
  if s = [46] then (false, 0, w1.here) else
  if s = [46, 46] then (false, 0, WkV.here { w1 with m := (wup E w.m w.n).1, n := (wup E w.m w.n).2 }) else
  match E.T.find w.n (txB s) with
  | (_, false) => if r ≠ [] then (true, 32, w1) else (true, 0, { w1 with f := ⟨w.m, w.n, txB s, 0, 0, false, w.slash⟩ })
  | (n, true) =>
    let q := E.M.down w.m n
    let w2 : WkV := { w1 with m := q.1, n := q.2 }
    if (E.T.stat q.2).1.kind = 3 ∧ (r ≠ [] ∨ E.follow = true ∨ w.slash = true) then
      match wlink E w2 w.m w.n (blOf (E.T.textOf q.2)) with
      | (e, w3) => (decide (e ≠ 0), e, w3)
    else (false, 0, { w2 with f := ⟨w.m, w.n, txB s, q.1, q.2, true, false⟩ })
def wend (E : WkE) (w : WkV) : FoundV × Int := if w.slash = true ∧ (E.T.stat w.n).1.kind ≠ 1 then (FoundV.zero, 37) else ({ w.f with slash := w.slash }, 0)
def wrank (w : WkV) : Nat := (40 - w.links).toNat * 5000 + w.left.length
theorem wpart_rank {E : WkE} {w w' : WkV} {s : Bl} {r : List Bl} {e : Int} (hl : w.left = s :: r) (h0 : 0 ≤ w.links) (hp : ∀ t : Bl, (readP t).1.2.2.length ≤ 4096) (h : wpart E w s r = (false, e, w')) : wrank w' < wrank w ∧ 0 ≤ w'.links := by
  unfold wrank
  rw [hl]
  simp only [List.length_cons]
  unfold wpart at h
  simp only at h
  split at h
  · simp at h
  split at h
  · simp at h
  split at h
  · simp only [Prod.mk.injEq, true_and] at h
    obtain ⟨-, rfl⟩ := h
    exact ⟨by simp [WkV.here], h0⟩
  split at h
  · simp only [Prod.mk.injEq, true_and] at h
    obtain ⟨-, rfl⟩ := h
    exact ⟨by simp [WkV.here], h0⟩
  split at h
  · split at h <;> simp at h
  · rename_i nn hfind
    split at h
    · unfold wlink at h
      simp only at h
      split at h
      · simp at h
      · rename_i h40
        split at h
        · simp at h
        · split at h
          · simp at h
          · split at h
            · rename_i hne
              simp only [Prod.mk.injEq, decide_eq_false_iff_not] at h
              exact absurd hne h.1
            · simp only [Prod.mk.injEq] at h
              obtain ⟨-, -, rfl⟩ := h
              refine ⟨?_, by show 0 ≤ w.links + 1; omega⟩
              have := hp (blOf (E.T.textOf (E.M.down w.m nn).2))
              simp only [WkV.here, List.length_append]
              omega
    · simp only [Prod.mk.injEq, true_and] at h
      obtain ⟨-, rfl⟩ := h
      exact ⟨by simp, h0⟩
inductive KV where
  | on (v : WkV)
  | off (f : FoundV) (e n : Int)
def kput : Bool × Int × WkV → KV
  | (true, e, v') => .off (if e = 0 then v'.f else FoundV.zero) e v'.steps
  | (false, _, v') => .on v'
def kpart (E : WkE) (v : WkV) : KV :=
  match v.left with
  | [] => .off (wend E v).1 (wend E v).2 v.steps
  | s :: r => kput (wpart E v s r)
def krun (E : WkE) : Nat → WkV → FoundV × Int × Int
  | 0, v => (FoundV.zero, 0, v.steps)
  | k + 1, v => match kpart E v with
    | .off f e n => (f, e, n)
    | .on v' => krun E k v'
def kfin (E : WkE) (v : WkV) : FoundV × Int × Int := krun E (wrank v + 1) v
theorem parts_len (l : Bl) : (parts l).length ≤ l.length := by
  have h := parts_sum l (List.Sublist.refl _)
  have h2 : ∀ L : List Bl, (∀ p ∈ L, p ≠ []) → L ≠ [] → L.length * 2 ≤ (L.map List.length).sum + L.length := by
    intro L
    induction L with
    | nil => simp
    | cons x r ih =>
      intro hx _
      have h1 : 0 < x.length := List.length_pos_iff.2 (hx x (by simp))
      by_cases hr : r = []
      · subst hr
        simp
        omega
      · have h3 := ih (fun p hp => hx p (List.mem_cons_of_mem _ hp)) hr
        simp only [List.map_cons, List.sum_cons, List.length_cons]
        omega
  by_cases h0 : parts l = []
  · rw [h0]; simp
  · have h4 := h2 (parts l) (fun p hp => (parts_mem hp).1) h0
    have h5 : l ≠ [] := fun e => h0 (by rw [e]; rfl)
    have h6 := List.length_pos_iff.2 h5
    have h7 := List.length_pos_iff.2 h0
    omega
theorem readP_len (l : Bl) : (readP l).1.2.2.length ≤ 4096 := by
  unfold readP
  split
  · simp
  · split
    · simp
    · split
      · simp
      · split
        · simp
        · have := parts_len l
          simp only
          omega
theorem kpart_rank {E : WkE} {v v' : WkV} (h0 : 0 ≤ v.links) (h : kpart E v = .on v') : wrank v' < wrank v ∧ 0 ≤ v'.links := by
  unfold kpart kput at h
  split at h
  · simp at h
  · rename_i s r hl
    split at h
    · simp at h
    · rename_i b e w' hp
      simp only [KV.on.injEq] at h
      subst h
      exact wpart_rank hl h0 readP_len hp
theorem krun_eq {E : WkE} : ∀ (a b : Nat) (u : WkV), 0 ≤ u.links → wrank u < a → wrank u < b → krun E a u = krun E b u := by
  intro a
  induction a with
  | zero => intro b u _ q; omega
  | succ a iha =>
    intro b u hu qa qb
    obtain ⟨b, rfl⟩ : ∃ c, b = c + 1 := ⟨b - 1, by omega⟩
    simp only [krun]
    cases hq : kpart E u with
    | off f e n => rfl
    | on u' =>
      obtain ⟨g1, g2⟩ := kpart_rank hu hq
      exact iha b u' g2 (by omega) (by omega)
theorem kfin_on {E : WkE} {v v' : WkV} (h0 : 0 ≤ v.links) (h : kpart E v = .on v') : kfin E v = kfin E v' := by
  obtain ⟨h1, h2⟩ := kpart_rank h0 h
  show krun E (wrank v + 1) v = _
  simp only [krun, h]
  exact krun_eq _ _ _ h2 h1 (Nat.lt_succ_self _)
theorem kfin_off {E : WkE} {v : WkV} {f : FoundV} {e n : Int} (h : kpart E v = .off f e n) : kfin E v = (f, e, n) := by
  show krun E (wrank v + 1) v = _
  simp only [krun, h]
def placeP (T : TreeV) (M : MountV) (m n : Int) : Bool := (T.stat n).2 && (M.root_ m).2
def wkE (T : TreeV) (M : MountV) (c : CredV) (follow : Bool) : WkE := ⟨T, M, c, (M.down 0 1).1, (M.down 0 1).2, follow⟩
def wstart (E : WkE) (fm fn : Int) (p : Bool × Bool × List Bl) : WkV :=
  WkV.here ⟨if p.1 then E.rm else (E.M.down fm fn).1, if p.1 then E.rn else (E.M.down fm fn).2, p.2.2, p.2.1, 0, 0, FoundV.zero⟩
def kbegin (E : WkE) (fm fn : Int) (path : Bl) : KV :=
  if placeP E.T E.M 0 1 = false ∨ placeP E.T E.M fm fn = false then .off FoundV.zero 1 0
  else if (readP path).2 ≠ 0 then .off FoundV.zero (readP path).2 0
  else .on (wstart E fm fn (readP path).1)
def kend (E : WkE) : KV → FoundV × Int × Int
  | .on v => kfin E v
  | .off f e n => (f, e, n)
def walkP (E : WkE) (fm fn : Int) (path : Bl) : FoundV × Int × Int := kend E (kbegin E fm fn path)
def wtL (l : List Bl) : Nat := (l.map List.length).sum + l.length
theorem wtL_append (a b : List Bl) : wtL (a ++ b) = wtL a + wtL b := by
  unfold wtL
  simp only [List.map_append, List.sum_append, List.length_append]
  omega
theorem writeP_le (slash : Bool) (ps : List Bl) : (writeP false slash ps).length ≤ wtL ps + 1 := by
  unfold writeP
  have := join_le ps
  rw [List.length_append, List.length_append]
  unfold wtL
  have h2 : (if slash && !ps.isEmpty then [(47 : UInt8)] else []).length ≤ 1 := by split <;> simp
  simp only [Bool.false_eq_true, if_false, List.length_nil]
  omega
theorem readP_wtL (l : Bl) : wtL (readP l).1.2.2 ≤ 4097 := readP_sum l (List.Sublist.refl _)
structure WkV.fine (v : WkV) : Prop where
  l0 : 0 ≤ v.links
  l1 : v.links ≤ 40
  s0 : 0 ≤ v.steps
  sum : v.steps + (wtL v.left : Int) ≤ 5000 * (v.links + 1)
theorem WkV.fine.len {v : WkV} (h : v.fine) : v.left.length ≤ 300000 ∧ v.steps ≤ 300000 ∧ wtL v.left ≤ 300000 := by
  have h1 := h.l0
  have h2 := h.l1
  have h3 := h.s0
  have h4 := h.sum
  have h5 : v.left.length ≤ wtL v.left := by unfold wtL; omega
  omega
theorem wstart_fine (E : WkE) (fm fn : Int) (l : Bl) : (wstart E fm fn (readP l).1).fine := by
  refine ⟨Int.le_refl 0, show (0 : Int) ≤ 40 by decide, Int.le_refl 0, ?_⟩
  show (0 : Int) + (wtL (readP l).1.2.2 : Int) ≤ 5000 * (0 + 1)
  have := readP_wtL l
  omega
theorem wlink_fine {E : WkE} {w : WkV} {dm dn : Int} {t : Bl} (h : w.fine) : (wlink E w dm dn t).2.fine := by
  have l0 := h.l0
  have l1 := h.l1
  have s0 := h.s0
  have sm := h.sum
  unfold wlink
  split
  · exact h
  · rename_i h40
    have h1 : 0 ≤ w.links + 1 := by omega
    have h2 : w.links + 1 ≤ 40 := by omega
    have h3 : w.steps + (wtL w.left : Int) ≤ 5000 * (w.links + 1 + 1) := by omega
    split
    · exact ⟨h1, h2, s0, h3⟩
    · split
      · exact ⟨h1, h2, s0, h3⟩
      · split
        · exact ⟨h1, h2, s0, h3⟩
        · refine ⟨h1, h2, s0, ?_⟩
          show w.steps + (wtL ((readP t).1.2.2 ++ w.left) : Int) ≤ 5000 * (w.links + 1 + 1)
          have := readP_wtL t
          rw [wtL_append]
          omega
end Go.Proofs.YtoanccechefclaaGreatDoor
namespace Go.Proofs.YtoanccechefclaaGreatDoor
open Go Go.RowKit
section cases
variable {E : WkE} {w : WkV} {s : Bl} {r : List Bl}
def WkV.next (w : WkV) (r : List Bl) : WkV := { w with left := r, steps := w.steps + 1 }
def wcome (E : WkE) (w : WkV) (s : Bl) (r : List Bl) (n : Int) : Bool × Int × WkV :=
  if (E.T.stat (E.M.down w.m n).2).1.kind = 3 ∧ (r ≠ [] ∨ E.follow = true ∨ w.slash = true) then
    (decide ((wlink E { w.next r with m := (E.M.down w.m n).1, n := (E.M.down w.m n).2 } w.m w.n (blOf (E.T.textOf (E.M.down w.m n).2))).1 ≠ 0), (wlink E { w.next r with m := (E.M.down w.m n).1, n := (E.M.down w.m n).2 } w.m w.n (blOf (E.T.textOf (E.M.down w.m n).2))).1,
      (wlink E { w.next r with m := (E.M.down w.m n).1, n := (E.M.down w.m n).2 } w.m w.n (blOf (E.T.textOf (E.M.down w.m n).2))).2)
  else (false, 0, { w.next r with m := (E.M.down w.m n).1, n := (E.M.down w.m n).2, f := ⟨w.m, w.n, txB s, (E.M.down w.m n).1, (E.M.down w.m n).2, true, false⟩ })
theorem wpart_1 (h : (E.T.stat w.n).1.kind ≠ 1) : wpart E w s r = (true, 37, w.next r) := by
  unfold wpart
  simp only [h, ne_eq, not_false_eq_true, if_true]
  rfl
theorem wpart_2 (h : (E.T.stat w.n).1.kind = 1) (h2 : mayX E.c (E.T.stat w.n).1 = false) : wpart E w s r = (true, 34, w.next r) := by
  unfold wpart
  simp only [h, h2, ne_eq, not_true_eq_false, if_false, if_true]
  rfl
theorem wpart_3 (h : (E.T.stat w.n).1.kind = 1) (h2 : mayX E.c (E.T.stat w.n).1 = true) (h3 : s = [46]) : wpart E w s r = (false, 0, (w.next r).here) := by
  unfold wpart
  simp only [h, h2, h3, ne_eq, not_true_eq_false, if_false, if_true, Bool.true_eq_false]
  rfl
theorem wpart_4 (h : (E.T.stat w.n).1.kind = 1) (h2 : mayX E.c (E.T.stat w.n).1 = true) (h3 : s = [46, 46]) : wpart E w s r = (false, 0, WkV.here { w.next r with m := (wup E w.m w.n).1, n := (wup E w.m w.n).2 }) := by
  unfold wpart
  rw [h3]
  simp only [h, h2, ne_eq, not_true_eq_false, if_false, if_true, Bool.true_eq_false]
  rw [if_neg (by simp)]
  rfl
theorem wpart_5 (h : (E.T.stat w.n).1.kind = 1) (h2 : mayX E.c (E.T.stat w.n).1 = true) (h3 : s ≠ [46]) (h4 : s ≠ [46, 46]) {n : Int} (h5 : E.T.find w.n (txB s) = (n, false)) :
    wpart E w s r = if r ≠ [] then (true, 32, w.next r) else (true, 0, { w.next r with f := ⟨w.m, w.n, txB s, 0, 0, false, w.slash⟩ }) := by
  unfold wpart
  simp only [h, h2, h3, h4, h5, ne_eq, not_true_eq_false, if_false, if_true, Bool.true_eq_false]
  rfl
theorem wpart_6 (h : (E.T.stat w.n).1.kind = 1) (h2 : mayX E.c (E.T.stat w.n).1 = true) (h3 : s ≠ [46]) (h4 : s ≠ [46, 46]) {n : Int} (h5 : E.T.find w.n (txB s) = (n, true)) : wpart E w s r = wcome E w s r n := by
  unfold wpart wcome
  simp only [h, h2, h3, h4, h5, ne_eq, not_true_eq_false, if_false, Bool.true_eq_false]
  rfl
theorem wpart_by (E : WkE) (w : WkV) (s : Bl) (r : List Bl) (Q : Prop)
    (c1 : (E.T.stat w.n).1.kind ≠ 1 → Q)
    (c2 : (E.T.stat w.n).1.kind = 1 → mayX E.c (E.T.stat w.n).1 = false → Q)
    (c3 : (E.T.stat w.n).1.kind = 1 → mayX E.c (E.T.stat w.n).1 = true → s = [46] → Q)
    (c4 : (E.T.stat w.n).1.kind = 1 → mayX E.c (E.T.stat w.n).1 = true → s = [46, 46] → Q)
    (c5 : (E.T.stat w.n).1.kind = 1 → mayX E.c (E.T.stat w.n).1 = true → s ≠ [46] → s ≠ [46, 46] → ∀ n, E.T.find w.n (txB s) = (n, false) → Q)
    (c6 : (E.T.stat w.n).1.kind = 1 → mayX E.c (E.T.stat w.n).1 = true → s ≠ [46] → s ≠ [46, 46] → ∀ n, E.T.find w.n (txB s) = (n, true) → Q) : Q := by
  by_cases h : (E.T.stat w.n).1.kind = 1
  · cases h2 : mayX E.c (E.T.stat w.n).1 with
    | false => exact c2 h h2
    | true =>
      by_cases h3 : s = [46]
      · exact c3 h h2 h3
      · by_cases h4 : s = [46, 46]
        · exact c4 h h2 h4
        · obtain ⟨n, b, hf⟩ : ∃ n b, E.T.find w.n (txB s) = (n, b) := ⟨_, _, rfl⟩
          cases b with
          | false => exact c5 h h2 h3 h4 n hf
          | true => exact c6 h h2 h3 h4 n hf
  · exact c1 h
end cases
theorem wpart_fine {E : WkE} {w : WkV} {s : Bl} {r : List Bl} (h : w.fine) (hl : w.left = s :: r) : (wpart E w s r).2.2.fine := by
  have hs := h.sum
  have h0 := h.s0
  have hw : wtL w.left = s.length + 1 + wtL r := by rw [hl]; unfold wtL; simp only [List.map_cons, List.sum_cons, List.length_cons]; omega
  have hn : (w.next r).fine := ⟨h.l0, h.l1, by show 0 ≤ w.steps + 1; omega, by show w.steps + 1 + (wtL r : Int) ≤ 5000 * (w.links + 1); omega⟩
  refine wpart_by E w s r _ ?_ ?_ ?_ ?_ ?_ ?_
  · intro h1; rw [wpart_1 h1]; exact hn
  · intro h1 h2; rw [wpart_2 h1 h2]; exact hn
  · intro h1 h2 h3; rw [wpart_3 h1 h2 h3]; exact ⟨hn.l0, hn.l1, hn.s0, hn.sum⟩
  · intro h1 h2 h3; rw [wpart_4 h1 h2 h3]; exact ⟨hn.l0, hn.l1, hn.s0, hn.sum⟩
  · intro h1 h2 h3 h4 n h5
    rw [wpart_5 h1 h2 h3 h4 h5]
    split
    · exact hn
    · exact ⟨hn.l0, hn.l1, hn.s0, hn.sum⟩
  · intro h1 h2 h3 h4 n h5
    rw [wpart_6 h1 h2 h3 h4 h5]
    unfold wcome
    split
    · exact wlink_fine (w := { w.next r with m := (E.M.down w.m n).1, n := (E.M.down w.m n).2 }) ⟨hn.l0, hn.l1, hn.s0, hn.sum⟩
    · exact ⟨hn.l0, hn.l1, hn.s0, hn.sum⟩
theorem kfin_rec {E : WkE} (P : WkV → Prop) (h : ∀ v, 0 ≤ v.links → (∀ v', kpart E v = .on v' → P v') → P v) : ∀ v, 0 ≤ v.links → P v := by
  have key : ∀ k v, wrank v < k → 0 ≤ v.links → P v := by
    intro k
    induction k with
    | zero => intro v q; omega
    | succ k ih =>
      intro v q h0
      exact h v h0 fun v' hp => by
        obtain ⟨h1, h2⟩ := kpart_rank h0 hp
        exact ih v' (by omega) h2
  exact fun v h0 => key _ v (Nat.lt_succ_self _) h0
def TextOk (l : Bl) : Prop := l.length ≤ 9 ∧ (parts l).length ≤ 4
theorem readP_few (l : Bl) : (readP l).1.2.2.length ≤ (parts l).length := by
  rcases readP_parts l with e | ⟨e, _⟩
  · rw [e]; simp
  · rw [e]; exact Nat.le_refl _
theorem wlink_steps {E : WkE} {w : WkV} {dm dn : Int} {t : Bl} (ht : (parts t).length ≤ 4) (h0 : 0 ≤ w.links) :
    (wlink E w dm dn t).2.steps = w.steps ∧ 0 ≤ (wlink E w dm dn t).2.links ∧ (wlink E w dm dn t).2.left.length + (40 - (wlink E w dm dn t).2.links).toNat * 4 ≤ w.left.length + (40 - w.links).toNat * 4 := by
  unfold wlink
  split
  · exact ⟨rfl, h0, Nat.le_refl _⟩
  · split
    · refine ⟨rfl, by show 0 ≤ w.links + 1; omega, ?_⟩
      show w.left.length + (40 - (w.links + 1)).toNat * 4 ≤ _
      omega
    · split
      · refine ⟨rfl, by show 0 ≤ w.links + 1; omega, ?_⟩
        show w.left.length + (40 - (w.links + 1)).toNat * 4 ≤ _
        omega
      · split
        · refine ⟨rfl, by show 0 ≤ w.links + 1; omega, ?_⟩
          show w.left.length + (40 - (w.links + 1)).toNat * 4 ≤ _
          omega
        · refine ⟨rfl, by show 0 ≤ w.links + 1; omega, ?_⟩
          show ((readP t).1.2.2 ++ w.left).length + (40 - (w.links + 1)).toNat * 4 ≤ _
          have := readP_few t
          rw [List.length_append]
          omega
theorem wpart_steps {E : WkE} (hT : ∀ n, TextOk (blOf (E.T.textOf n))) (w : WkV) (s : Bl) (r : List Bl) (h0 : 0 ≤ w.links) :
    (wpart E w s r).2.2.steps = w.steps + 1 ∧ 0 ≤ (wpart E w s r).2.2.links ∧ (wpart E w s r).2.2.left.length + (40 - (wpart E w s r).2.2.links).toNat * 4 ≤ r.length + (40 - w.links).toNat * 4 := by
  refine wpart_by E w s r _ ?_ ?_ ?_ ?_ ?_ ?_
  · intro h1; rw [wpart_1 h1]; exact ⟨rfl, h0, Nat.le_refl _⟩
  · intro h1 h2; rw [wpart_2 h1 h2]; exact ⟨rfl, h0, Nat.le_refl _⟩
  · intro h1 h2 h3; rw [wpart_3 h1 h2 h3]; exact ⟨rfl, h0, Nat.le_refl _⟩
  · intro h1 h2 h3; rw [wpart_4 h1 h2 h3]; exact ⟨rfl, h0, Nat.le_refl _⟩
  · intro h1 h2 h3 h4 n h5
    rw [wpart_5 h1 h2 h3 h4 h5]
    split
    · exact ⟨rfl, h0, Nat.le_refl _⟩
    · exact ⟨rfl, h0, Nat.le_refl _⟩
  · intro h1 h2 h3 h4 n h5
    rw [wpart_6 h1 h2 h3 h4 h5]
    unfold wcome
    split
    · exact wlink_steps (w := { w.next r with m := (E.M.down w.m n).1, n := (E.M.down w.m n).2 }) (hT _).2 h0
    · exact ⟨rfl, h0, Nat.le_refl _⟩
theorem kfin_steps {E : WkE} (hT : ∀ n, TextOk (blOf (E.T.textOf n))) : ∀ v, 0 ≤ v.links → v.steps ≤ (kfin E v).2.2 ∧ (kfin E v).2.2 ≤ v.steps + v.left.length + (40 - v.links).toNat * 4 ∧ ((kfin E v).2.1 = 32 → v.steps < (kfin E v).2.2) := by
  refine kfin_rec (E := E) _ ?_
  intro v h0 ih
  cases hp : kpart E v with
  | off f e n =>
    rw [kfin_off hp]
    unfold kpart kput at hp
    split at hp
    · rename_i hl
      simp only [KV.off.injEq] at hp
      obtain ⟨-, he, rfl⟩ := hp
      refine ⟨Int.le_refl _, by simp only; omega, fun q => ?_⟩
      exfalso
      have q' : e = 32 := q
      rw [q'] at he
      unfold wend at he
      split at he
      · exact absurd (show (37 : Int) = 32 from he) (by decide)
      · exact absurd (show (0 : Int) = 32 from he) (by decide)
    · rename_i s r hl
      have hs := wpart_steps hT v s r h0
      split at hp
      · rename_i e' v' hw
        rw [hw] at hs
        simp only [KV.off.injEq] at hp
        obtain ⟨-, rfl, rfl⟩ := hp
        rw [hl, List.length_cons]
        simp only at hs ⊢
        omega
      · simp at hp
  | on v' =>
    rw [kfin_on h0 hp]
    have hi := ih v' hp
    unfold kpart kput at hp
    split at hp
    · simp at hp
    · rename_i s r hl
      have hs := wpart_steps hT v s r h0
      split at hp
      · simp at hp
      · rename_i e' v'' hw
        rw [hw] at hs
        simp only [KV.on.injEq] at hp
        subst hp
        rw [hl, List.length_cons]
        simp only at hs
        omega
theorem walkP_steps {E : WkE} (hT : ∀ n, TextOk (blOf (E.T.textOf n))) (fm fn : Int) (path : Bl) :
    0 ≤ (walkP E fm fn path).2.2 ∧ (walkP E fm fn path).2.2 ≤ path.length + 1 + 40 * 12 ∧ ((walkP E fm fn path).2.1 = 32 → path = [] ∨ 0 < (walkP E fm fn path).2.2) := by
  unfold walkP kbegin
  split
  · exact ⟨Int.le_refl _, by show (0 : Int) ≤ _; omega, fun q => absurd (show (1 : Int) = 32 from q) (by decide)⟩
  · split
    · refine ⟨Int.le_refl _, by show (0 : Int) ≤ _; omega, fun q => .inl ?_⟩
      have q' : (readP path).2 = 32 := q
      rw [readP_eq] at q'
      split at q'
      · assumption
      · split at q'
        · simp at q'
        · split at q'
          · simp at q'
          · split at q' <;> simp at q'
    · obtain ⟨h1, h2, h3⟩ := kfin_steps hT (wstart E fm fn (readP path).1) (Int.le_refl 0)
      have h4 : (wstart E fm fn (readP path).1).steps = 0 := rfl
      have h5 : (wstart E fm fn (readP path).1).left = (readP path).1.2.2 := rfl
      have h6 : (wstart E fm fn (readP path).1).links = 0 := rfl
      rw [h4, h5, h6] at h2
      rw [h4] at h1 h3
      have h7 := readP_few path
      have h8 := parts_len path
      refine ⟨h1, ?_, fun q => .inr (h3 q)⟩
      show (kfin E _).2.2 ≤ _
      omega
end Go.Proofs.YtoanccechefclaaGreatDoor
namespace Go.Proofs.YtoanccechefclaaGreatDoor
open Go Go.RowKit Go.Shelf
set_option maxRecDepth 100000
attribute [local go_sem] Oper.semAt_some
def foundC (f : FoundV) : Array Value := #[.int .i64 f.dm, .int .i64 f.dn, .string f.last, .int .i64 f.am, .int .i64 f.an, .bool f.has, .bool f.slash]
theorem may_bits (x : Int) : (bits BinOp.and IntKind.i64 (bits BinOp.andNot IntKind.i64 1 x) 7 == 0) = (x % 2 == 1) := by
  have h1 : bits BinOp.andNot IntKind.i64 1 x = ((1 - x % 2 : Int)) := by
    show IntKind.i64.wrap ((BitVec.ofInt 64 ((1 : Nat) : Int) &&& ~~~BitVec.ofInt 64 x).toNat : Int) = _
    rw [BitVec.toNat_and, BitVec.toNat_not, ofInt_u64 1 (by omega), Nat.one_and_eq_mod_two, BitVec.toNat_ofInt]
    have h2 := Int.emod_nonneg x (b := ((2 ^ 64 : Nat) : Int)) (by decide)
    have h3 := Int.emod_lt_of_pos x (b := ((2 ^ 64 : Nat) : Int)) (by decide)
    have h4 : (x % ((2 ^ 64 : Nat) : Int)) % 2 = x % 2 := Int.emod_emod_of_dvd x (by decide)
    have h5 : (2 ^ 64 : Nat) = 18446744073709551616 := by decide
    rw [h5] at h2 h3 h4
    rw [Lib.wrap_i64_small _ (by omega), h5]
    omega
  rw [h1]
  rcases (by omega : x % 2 = 0 ∨ x % 2 = 1) with h | h <;> rw [h] <;> decide +kernel
set_option maxHeartbeats 1000000 in
theorem may_c (c : CredV) (s : TreeV.StatV) (w : World) :
    Calls Tryz.prog 123 #[.agg #[.int .i64 c.uid, .int .i64 c.gid], .agg (statC s), .int .i64 1] w fun e w' => e = .returned (.bool (mayX c s)) ∧ Keep w w' (fun _ => False) := by
  unfold statC
  have kk := (boxes2 w (.cells #[.int .i64 c.uid, .int .i64 c.gid] 24) (.cells #[.int .i64 s.node, .int .i64 s.kind, .int .i64 s.mode, .int .i64 s.uid, .int .i64 s.gid, .int .i64 s.links, .int .i64 s.size] 36)).1
  obtain ⟨r, hr⟩ : ∃ r, mayX c s = r := ⟨_, rfl⟩
  rw [hr]
  unfold mayX at hr
  have K := Lib.hid kk
  clear kk
  by_cases h0 : c.uid = 0
  · rw [h0] at hr
    simp at hr
    go_enter Tryz.func123, Tryz.ntmps123
    go_wp2
    go_ret
    have k := K.out
    rw [h0] at k
    exact ⟨by rw [← hr]; rfl, k⟩
  · have g0 : (c.uid == 0) = false := by simpa using h0
    rw [g0, Bool.false_or] at hr
    by_cases h1 : c.uid = s.uid
    · rw [if_pos h1, ← may_bits] at hr
      have HR := Lib.hid hr
      clear hr
      go_enter Tryz.func123, Tryz.ntmps123
      go_wp2
      go_ret
      have k := K.out
      rw [h1] at k
      exact ⟨by rw [← HR.out]; rfl, k⟩
    · rw [if_neg h1] at hr
      by_cases h2 : c.gid = s.gid
      · rw [if_pos h2, ← may_bits] at hr
        have HR := Lib.hid hr
        clear hr
        go_enter Tryz.func123, Tryz.ntmps123
        go_wp2
        go_ret
        have k := K.out
        rw [h2] at k
        exact ⟨by rw [← HR.out]; rfl, k⟩
      · rw [if_neg h2, ← may_bits] at hr
        have HR := Lib.hid hr
        clear hr
        go_enter Tryz.func123, Tryz.ntmps123
        go_wp2
        go_ret
        exact ⟨by rw [← HR.out]; rfl, K.out⟩
def sets (w : World) (b : Nat) : List (Nat × Value) → World
  | [] => w
  | (i, v) :: r => sets (w.setCell ⟨b, i, none⟩ v) b r
def setAll (c : Array Value) : List (Nat × Value) → Array Value
  | [] => c
  | (i, v) :: r => setAll (c.setIfInBounds i v) r
theorem sets_at {b : Nat} {t : TypeId} {fr : Nat × Nat} : ∀ (l : List (Nat × Value)) {w : World} {c : Array Value}, w.heap[b]? = some (.cells c t fr) → (sets w b l).heap[b]? = some (.cells (setAll c l) t fr)
  | [], _, _, h => h
  | (i, v) :: r, _, _, h => sets_at r (heap_setCell_eq (off := i) v h)
theorem sets_keep {b : Nat} : ∀ (l : List (Nat × Value)) (w : World), Keep w (sets w b l) (fun x => x = b)
  | [], w => Keep.refl w _
  | (i, v) :: r, w => (Keep.setCell w ⟨b, i, none⟩ v).trans (sets_keep r _) (fun _ q => .inl q)
def wkC (tb mb : Nat) (E : WkE) (v : WkV) (lv : Value) : Array Value :=
  #[.pointer (some ⟨tb, 0, none⟩), .pointer (some ⟨mb, 0, none⟩), .int .i64 E.c.uid, .int .i64 E.c.gid, .int .i64 E.rm, .int .i64 E.rn, .bool E.follow, .int .i64 v.m, .int .i64 v.n, lv, .bool v.slash, .int .i64 v.links, .int .i64 v.steps,
    .int .i64 v.f.dm, .int .i64 v.f.dn, .string v.f.last, .int .i64 v.f.am, .int .i64 v.f.an, .bool v.f.has, .bool v.f.slash]
structure WkAt (w : World) (wb tb mb : Nat) (E : WkE) (v : WkV) : Prop where
  ex : ∃ a cap, w.heap[wb]? = some (.cells (wkC tb mb E v (.slice a v.left.length cap)) 168 (0, 0)) ∧ ListIn w (.slice a v.left.length cap) (v.left.map txV) ∧ Clear (.slice a v.left.length cap) (fun b => b = wb) ∧ v.left.length ≤ cap ∧ cap ≤ maxLen
theorem WkAt.lt {w : World} {wb tb mb : Nat} {E : WkE} {v : WkV} (h : WkAt w wb tb mb E v) : wb < w.heap.size := by
  obtain ⟨a, cap, h1, _⟩ := h.ex
  exact lt_of_blk h1
theorem WkAt.old {w w' : World} {wb tb mb : Nat} {E : WkE} {v : WkV} (h : WkAt w wb tb mb E v) (K : Keep w w' (fun b => w.heap.size ≤ b)) : WkAt w' wb tb mb E v := by
  have hl := h.lt
  obtain ⟨a, cap, h1, h2, h3, h4⟩ := h.ex
  exact ⟨a, cap, K.get h1 (by omega), h2.old K, h3, h4⟩
theorem WkAt.aside {w w' : World} {wb tb mb : Nat} {E : WkE} {v : WkV} (h : WkAt w wb tb mb E v) (K : Keep w w' (fun _ => False)) : WkAt w' wb tb mb E v := h.old (K.mono (fun _ q => q.elim))
structure WkCells (w : World) (wb tb mb : Nat) (E : WkE) (v : WkV) (lv : Value) : Prop where
  t : w.cell? ⟨wb, 0, none⟩ = some (.pointer (some ⟨tb, 0, none⟩))
  m : w.cell? ⟨wb, 1, none⟩ = some (.pointer (some ⟨mb, 0, none⟩))
  c2 : w.cell? ⟨wb, 2, none⟩ = some (.int .i64 E.c.uid)
  c3 : w.cell? ⟨wb, 3, none⟩ = some (.int .i64 E.c.gid)
  c4 : w.cell? ⟨wb, 4, none⟩ = some (.int .i64 E.rm)
  c5 : w.cell? ⟨wb, 5, none⟩ = some (.int .i64 E.rn)
  c6 : w.cell? ⟨wb, 6, none⟩ = some (.bool E.follow)
  c7 : w.cell? ⟨wb, 7, none⟩ = some (.int .i64 v.m)
  c8 : w.cell? ⟨wb, 8, none⟩ = some (.int .i64 v.n)
  c9 : w.cell? ⟨wb, 9, none⟩ = some lv
  c10 : w.cell? ⟨wb, 10, none⟩ = some (.bool v.slash)
  c11 : w.cell? ⟨wb, 11, none⟩ = some (.int .i64 v.links)
  c12 : w.cell? ⟨wb, 12, none⟩ = some (.int .i64 v.steps)
  c13 : w.cell? ⟨wb, 13, none⟩ = some (.int .i64 v.f.dm)
  c14 : w.cell? ⟨wb, 14, none⟩ = some (.int .i64 v.f.dn)
  c15 : w.cell? ⟨wb, 15, none⟩ = some (.string v.f.last)
  c16 : w.cell? ⟨wb, 16, none⟩ = some (.int .i64 v.f.am)
  c17 : w.cell? ⟨wb, 17, none⟩ = some (.int .i64 v.f.an)
  c18 : w.cell? ⟨wb, 18, none⟩ = some (.bool v.f.has)
  c19 : w.cell? ⟨wb, 19, none⟩ = some (.bool v.f.slash)
theorem wkCells {w : World} {wb tb mb : Nat} {E : WkE} {v : WkV} {lv : Value} (h : w.heap[wb]? = some (.cells (wkC tb mb E v lv) 168 (0, 0))) : WkCells w wb tb mb E v lv := by
  constructor <;> (rw [cell_blk h]; rfl)
set_option maxHeartbeats 2000000 in
theorem here_c {w : World} {wb tb mb : Nat} {E : WkE} {v : WkV} (h : WkAt w wb tb mb E v) :
    Calls Tryz.prog 101 #[.pointer (some ⟨wb, 0, none⟩)] w fun e w' => (∃ u, e = .returned u) ∧ WkAt w' wb tb mb E v.here ∧ Keep w w' (fun b => b = wb) := by
  obtain ⟨la, lc, h1, h2, h3, h4⟩ := h.ex
  obtain ⟨t0, t1, t2, t3, t4, t5, t6, t7, t8, t9, t10, t11, t12, t13, t14, t15, t16, t17, t18, t19⟩ := wkCells h1
  have f13 := free_blk h1 13
  have f14 := free_blk h1 14
  have f15 := free_blk h1 15
  have f16 := free_blk h1 16
  have f17 := free_blk h1 17
  have f18 := free_blk h1 18
  have f19 := free_blk h1 19
  have H := Lib.hid (And.intro h1 (And.intro h2 (And.intro h3 h4)))
  clear h h1 h2 h3 h4
  go_enter Tryz.func101, Tryz.ntmps101
  go_region
  go_end0
  have s := sets_at [(13, .int .i64 v.m), (14, .int .i64 v.n), (15, .string ⟨#[]⟩), (16, .int .i64 v.m), (17, .int .i64 v.n), (18, .bool true), (19, .bool false)] H.out.1
  have K := sets_keep (b := wb) [(13, .int .i64 v.m), (14, .int .i64 v.n), (15, .string ⟨#[]⟩), (16, .int .i64 v.m), (17, .int .i64 v.n), (18, .bool true), (19, .bool false)] w
  simp only [sets] at s K
  generalize (((((((w.setCell ⟨wb, 13, none⟩ (.int .i64 v.m)).setCell ⟨wb, 14, none⟩ (.int .i64 v.n)).setCell ⟨wb, 15, none⟩ (.string ⟨#[]⟩)).setCell ⟨wb, 16, none⟩ (.int .i64 v.m)).setCell ⟨wb, 17, none⟩ (.int .i64 v.n)).setCell ⟨wb, 18, none⟩ (.bool true)).setCell ⟨wb, 19, none⟩ (.bool false)) = W at *
  have K2 := K.drewNew
  exact ⟨⟨_, rfl⟩, ⟨la, lc, (Keep.drew _ (fun _ => False)).get (by simpa [setAll, wkC, WkV.here] using s) (fun q => q), H.out.2.1.keep K2 H.out.2.2.1, H.out.2.2⟩, K2⟩
def kbC (wb : Nat) (over : Bool) (f : FoundV) (e : Int) : Array Value :=
  #[.pointer (some ⟨wb, 0, none⟩), .bool over, .int .i64 f.dm, .int .i64 f.dn, .string f.last, .int .i64 f.am, .int .i64 f.an, .bool f.has, .bool f.slash, .int .i64 e]
set_option maxHeartbeats 2000000 in
theorem end_c {w : World} {kb wb : Nat} (h : w.heap[kb]? = some (.cells (kbC wb false FoundV.zero 0) 166 (0, 0))) (f : FoundV) (e : Int) :
    Calls Tryz.prog 103 #[.pointer (some ⟨kb, 0, none⟩), .agg (foundC f), .int .i64 e] w fun r w' => r = .returned (.bool true) ∧ w'.heap[kb]? = some (.cells (kbC wb true (if e = 0 then f else FoundV.zero) e) 166 (0, 0)) ∧ Keep w w' (fun b => b = kb) := by
  have f1 := free_blk h 1
  have f2 := free_blk h 2
  have f3 := free_blk h 3
  have f4 := free_blk h 4
  have f5 := free_blk h 5
  have f6 := free_blk h 6
  have f7 := free_blk h 7
  have f8 := free_blk h 8
  have f9 := free_blk h 9
  have t := cell_blk h
  have t1 := t 1
  have t2 := t 2
  have t3 := t 3
  have t4 := t 4
  have t5 := t 5
  have t6 := t 6
  have t7 := t 7
  have t8 := t 8
  have t9 := t 9
  simp only [kbC, List.getElem?_toArray, List.getElem?_cons_zero, List.getElem?_cons_succ] at t1 t2 t3 t4 t5 t6 t7 t8 t9
  have hlt := lt_of_blk h
  have hne : ¬ kb = w.heap.size := by omega
  have H := Lib.hid h
  clear h t
  unfold foundC
  by_cases he : e = 0
  · subst he
    go_enter Tryz.func103, Tryz.ntmps103
    go_wp2
    go_ret
    have s := sets_at [(1, .bool true), (9, .int .i64 0), (2, .int .i64 f.dm), (3, .int .i64 f.dn), (4, .string f.last), (5, .int .i64 f.am), (6, .int .i64 f.an), (7, .bool f.has), (8, .bool f.slash)] H.out
    have K := sets_keep (b := kb) [(1, .bool true), (9, .int .i64 0), (2, .int .i64 f.dm), (3, .int .i64 f.dn), (4, .string f.last), (5, .int .i64 f.am), (6, .int .i64 f.an), (7, .bool f.has), (8, .bool f.slash)] w
    simp only [sets] at s K
    exact ⟨rfl, (Keep.alloc _ _ (fun _ => False)).get (by simpa [setAll, kbC] using s) (fun q => q), K.allocNew _⟩
  · have g1 : (e == 0) = false := by simpa using he
    go_enter Tryz.func103, Tryz.ntmps103
    go_wp2
    go_ret
    have s := sets_at [(1, .bool true), (9, .int .i64 e)] H.out
    have K := sets_keep (b := kb) [(1, .bool true), (9, .int .i64 e)] w
    simp only [sets] at s K
    exact ⟨rfl, (Keep.alloc _ _ (fun _ => False)).get (by simpa [setAll, kbC, he] using s) (fun q => q), K.allocNew _⟩
theorem str_slice : Tryz.prog.underlying 79 = some (.slice 9) := Tryz.underlying79
set_option maxHeartbeats 2000000 in
theorem grow_c (w : World) (n : Nat) (h1 : n ≤ 1000000) :
    Calls Tryz.prog 154 #[.slice none 0 0, .int .i64 n] w fun e w' => ∃ v, e = .returned v ∧ Made w w' 9 v [] := by
  by_cases h0 : n = 0
  · subst h0
    go_enter Tryz.func154, Tryz.ntmps154
    go_wp2
    go_ret
    exact ⟨_, rfl, Made.nil _ _⟩
  · have g1 : ¬ (n : Int) < 0 := by omega
    have g2 : (0 : Int) < (n : Int) := by omega
    obtain ⟨i, hi, hz, hs, hb⟩ := str_info
    have hrun := fun ty => Lib.run_append_grow_zeros w 79 3 ty 9 i (.string ByteArray.empty) .i64 .i64 str_slice Tryz.underlying3 hi hz none 0 0 [] (by rw [hs]; exact run_firstCells_none w.drew 1 0 0 0) n (by omega) (by omega) (by omega) (by omega) (by
      have : n * i.bytes ≤ 1000000 * 64 := Nat.mul_le_mul h1 hb
      omega) (by
      have h2 := Go.growslice_fits (need := 0 + n) (old := 0) (bytes := i.bytes) (by omega) (by
        have : (0 + n) * i.bytes ≤ 1000000 * 64 := Nat.mul_le_mul (by omega) hb
        omega)
      exact h2)
    simp only [Nat.zero_add] at hrun
    have hG := grownCap_ge w n 0 9
    have hGm := grownCap_le_maxLen w n 0 9 (by unfold maxLen; omega)
    generalize grownCap w n 0 9 = G at *
    have hG63 : G ≤ 9223372036854775807 := by unfold maxLen at hGm; omega
    have HG := Lib.hid (And.intro hG hGm)
    clear hG hGm hi hz hs hb
    go_enter Tryz.func154, Tryz.ntmps154
    go_wp2_with (at_builtin; refine Lib.wpList_append_run _ rfl _ _ _ _ rfl _ _ rfl rfl _ _ (hrun _) ?_)
    go_ret
    refine ⟨_, rfl, ⟨⟨rfl, .inr ⟨w.heap.size, G, _, rfl, Nat.zero_le _, (Keep.drew _ (fun _ => False)).get (heap_alloc_eq w _) (fun q => q), Nat.zero_le _, HG.out.2, ?_, by simp⟩⟩, (Keep.alloc w _ _).drewNew, fun b q => by simp [Value.ownBlock] at q; omega⟩⟩
    have hle := HG.out.1
    rw [Array.size_append, size_zeroCells, size_zeroCells]
    simp
    omega
theorem ListIn.adds {w : World} {sa : Option Addr} {m c : Nat} {xs : List Value} (h : ListIn w (.slice sa m c) xs) : m = xs.length ∧ (m = 0 ∨ ∃ ad, sa = Option.some ad ∧ ∀ j u, xs[j]? = Option.some u → w.cell? (ad.add j) = Option.some u) := by
  obtain ⟨a', c', e, h⟩ := h
  cases e
  refine ⟨rfl, ?_⟩
  rcases h with rfl | ⟨b, off, rfl, h1, h2⟩
  · exact .inl rfl
  · refine .inr ⟨_, rfl, fun j u hj => ?_⟩
    have h3 := h2 j u hj
    unfold Addr.add
    split
    · rename_i h0; subst h0; exact h3
    · exact h3
section
variable {P : Program} {w : World} {ops : Array Oper} {rest : List Oper} {o : Oper} {a : Act} {Q : Exit → Act → World → Prop}
theorem law_made (hg : o.guard = none) (s x : Operand) (t : TypeId) (ho : o.op = .call { callee := .builtin .append, args := #[s, x], argTypes := #[t, t] })
    {e : TypeId} {i : TypeInfo} {z : Value} (ht : P.underlying t = some (.slice e)) (hi : P.info? e = some i) (hz : i.zero = some z) (hsize : i.size = 1) (hby : i.bytes ≤ 64) (hzs : z.cells.size = 1)
    {w0 : World} {v : Value} {xs : List Value} (hs : a.eval s = v) (hm : Made w0 w e v xs) {y : Value} (news : List Value) (hx : a.eval x = y) (hl : ListIn w y news) (h1 : ∀ u ∈ news, u.oneCell' = true) (h63 : xs.length + news.length ≤ 1099511627776)
    (hK : ∀ v' w', Made w0 w' e v' (xs ++ news) → Keep w w' (fun b => some b = v.ownBlock) → wpList P ops Q rest (a.put o.dst v') w') : wpList P ops Q (o :: rest) a w := by
  obtain ⟨sa, c, rfl⟩ := hl.val
  refine law_append_row hg s x t ho ht hi hz hsize hby hzs (by decide) hs hm.row news hx (by rw [Nat.mul_one]) hl.adds.2 h1 h63 (fun sa' cap' w' h2 h3 h4 => hK _ _ ⟨?_, ?_, ?_⟩ h3)
  · rw [List.length_append]; exact h2
  · exact hm.keep.trans h3 (fun b q => .inr (hm.new b q.symm))
  · intro b q
    rcases h4 b q with h | h
    · exact hm.new b h
    · have := hm.keep.size; omega
end
theorem concat_c {w : World} {g : Nat} {va vb : Value} {ps qs : List Bl} (h0 : w.cell? ⟨g, 0, none⟩ = some va) (h1 : w.cell? ⟨g, 1, none⟩ = some vb) (ha : ListIn w va (ps.map txV)) (hb : ListIn w vb (qs.map txV)) (hl : ps.length + qs.length ≤ 1000000) :
    Calls Tryz.prog 143 #[.slice (some ⟨g, 0, none⟩) 2 2] w fun e w' => ∃ v, e = .returned v ∧ Made w w' 9 v ((ps ++ qs).map txV) := by
  obtain ⟨aa, ac, rfl⟩ := ha.val
  obtain ⟨ba, bc, rfl⟩ := hb.val
  obtain ⟨n, hn⟩ : ∃ n, (ps.map txV).length = n := ⟨_, rfl⟩
  obtain ⟨m, hm⟩ : ∃ m, (qs.map txV).length = m := ⟨_, rfl⟩
  rw [hn] at ha h0
  rw [hm] at hb h1
  have hnm : n + m ≤ 1000000 := by rw [← hn, ← hm, List.length_map, List.length_map]; exact hl
  have hgr := fun W => grow_c W (n + m) hnm
  have HN := Lib.hid (And.intro hn (And.intro hm (And.intro ha hb)))
  clear hn hm ha hb hl
  go_enter Tryz.func143, Tryz.ntmps143
  go_wp2_with fail
  go_loopg [3, 11] 2 (fun gg s3 s11 wr => w = wr ∧ ((gg = 2 ∧ s3 = .int .i64 0 ∧ s11 = .int .i64 0) ∨ (gg = 1 ∧ s3 = .int .i64 n ∧ s11 = .int .i64 1) ∨ (gg = 0 ∧ s3 = .int .i64 (n + m : Nat) ∧ s11 = .int .i64 2)))
  case atStart => exact ⟨rfl, .inl ⟨rfl, rfl, rfl⟩⟩
  case round =>
    obtain ⟨rfl, hrel⟩ := hrel
    have g1 : ¬ (n : Int) < 0 := by omega
    have g2 : ¬ ((n : Int) + (m : Int)) < 0 := by omega
    rcases hrel with ⟨rfl, rfl, rfl⟩ | ⟨rfl, rfl, rfl⟩ | ⟨rfl, rfl, rfl⟩
    · go_wp2
      go_roundg 1
      case measure => omega
      case rel => exact ⟨rfl, .inr (.inl ⟨rfl, rfl, rfl⟩)⟩
    · go_wp2
      go_roundg 0
      case measure => omega
      case rel => exact ⟨rfl, .inr (.inr ⟨rfl, by rw [Int.natCast_add], rfl⟩)⟩
    · go_wp2_with (
        go_at_call 154
        refine (hgr _).mono ?_
        rintro e w1 ⟨v1, rfl, m1⟩
        have M1 := Lib.hid m1
        clear m1 hgr)
      have K1 := M1.out.keep
      have hgw := World.block_lt_of_cell? w _ h0
      simp only at hgw
      obtain ⟨ti, ti1, ti2, ti3, ti4⟩ := str_info
      have HI := Lib.hid (And.intro ti1 (And.intro ti2 (And.intro ti3 ti4)))
      clear ti1 ti2 ti3 ti4
      go_loopg [6, 27] 2 (fun gg s6 s27 wr => (gg = 2 ∧ Made w wr 9 s6 [] ∧ s27 = .int .i64 0) ∨ (gg = 1 ∧ Made w wr 9 s6 (ps.map txV) ∧ s27 = .int .i64 1) ∨ (gg = 0 ∧ Made w wr 9 s6 (ps.map txV ++ qs.map txV) ∧ s27 = .int .i64 2))
      case atStart => exact .inl ⟨rfl, M1.out, rfl⟩
      case round =>
        rcases hrel with ⟨rfl, hr, rfl⟩ | ⟨rfl, hr, rfl⟩ | ⟨rfl, hr, rfl⟩
        · have c0 := hr.keep.cell h0 (fun q => q)
          have R := Lib.hid hr
          clear hr
          go_wp2_with (
            at_builtin
            refine law_made rfl _ _ _ rfl str_slice HI.out.1 HI.out.2.1 HI.out.2.2.1 HI.out.2.2.2 rfl rfl R.out (ps.map txV) rfl (HN.out.2.2.1.aside R.out.keep) ?_ ?_ ?_
            · intro u hu
              obtain ⟨y, _, rfl⟩ := List.mem_map.1 hu
              rfl
            · have := HN.out.1; simp only [List.length_nil]; omega
            intro v2 w2 m2 k2
            have M2 := Lib.hid m2
            clear m2 k2)
          go_roundg 1
          case measure => omega
          case rel => exact .inr (.inl ⟨rfl, M2.out, rfl⟩)
        · have c0 := hr.keep.cell h1 (fun q => q)
          have R := Lib.hid hr
          clear hr
          go_wp2_with (
            at_builtin
            refine law_made rfl _ _ _ rfl str_slice HI.out.1 HI.out.2.1 HI.out.2.2.1 HI.out.2.2.2 rfl rfl R.out (qs.map txV) rfl (HN.out.2.2.2.aside R.out.keep) ?_ ?_ ?_
            · intro u hu
              obtain ⟨y, _, rfl⟩ := List.mem_map.1 hu
              rfl
            · have := HN.out.1; have := HN.out.2.1; omega
            intro v2 w2 m2 k2
            have M2 := Lib.hid m2
            clear m2 k2)
          go_roundg 0
          case measure => omega
          case rel => exact .inr (.inr ⟨rfl, M2.out, rfl⟩)
        · have R := Lib.hid hr
          clear hr
          go_wp2
          go_ret
          exact ⟨_, rfl, by rw [List.map_append]; exact R.out⟩
end Go.Proofs.YtoanccechefclaaGreatDoor
