/-
  All keys of a table, in order: Table.Keys, Table.Len.
-/
import Derived.Test.YtkdpkmlmkholmaaSortS
import Derived.Test.YtkdpkmlmkholmaaChain2
import Derived.Deep.LoopGhost
namespace Go.Proofs.Ytkdpkmlmkholmaa
open Go Go.RowKit
set_option linter.unusedSectionVars false
set_option linter.unusedSimpArgs false
set_option linter.unusedVariables false

theorem str_info : ∃ i, Try.prog.info? 9 = some i ∧ i.zero = some (.string ByteArray.empty) ∧ i.size = 1 ∧ i.bytes ≤ 64 := by
  have h : (Try.prog.info? 9).map (fun i => (i.zero, i.size, i.bytes)) = some (some (.string ByteArray.empty), 1, 16) := by kernel_rfl
  cases hh : Try.prog.info? 9 with
  | none => rw [hh] at h; simp at h
  | some i =>
    rw [hh] at h
    simp only [Option.map_some, Option.some.injEq, Prod.mk.injEq] at h
    exact ⟨i, rfl, h.1, h.2.1, by omega⟩

/-- The keys of the first chains. -/
def outs (T : List Pair) (m k : Nat) : List ByteArray := (List.range k).flatMap fun i => (chainOf T m i).map Prod.fst

theorem outs_succ (T : List Pair) (m k : Nat) : outs T m (k + 1) = outs T m k ++ (chainOf T m k).map Prod.fst := by
  unfold outs
  rw [List.range_succ, List.flatMap_append]
  simp

theorem bucket_split (T : List Pair) (m : Nat) : ∀ k, (outs T m k).Perm ((T.filter fun x => decide (0 ≤ hashOf x.1 % m ∧ hashOf x.1 % m < k)).map Prod.fst) := by
  intro k
  induction k with
  | zero =>
    have : (T.filter fun x => decide (0 ≤ hashOf x.1 % m ∧ hashOf x.1 % m < (0 : Nat))) = [] := by
      rw [List.filter_eq_nil_iff]
      intro x _
      simp only [decide_eq_true_eq]
      omega
    rw [this]
    simp [outs]
  | succ k ih =>
    rw [outs_succ]
    have h1 : ((chainOf T m k).map Prod.fst).Perm ((T.filter (inChain m k)).map Prod.fst) := by
      unfold chainOf
      exact (List.reverse_perm _).map _
    refine (ih.append h1).trans ?_
    rw [← List.map_append]
    refine List.Perm.map _ ?_
    clear ih h1
    induction T with
    | nil => simp
    | cons x r ih =>
      simp only [List.filter_cons]
      by_cases hx : hashOf x.1 % m = k
      · have a1 : inChain m k x = true := by unfold inChain; simp [hx]
        have a2 : decide (0 ≤ hashOf x.1 % m ∧ hashOf x.1 % m < (k : Nat)) = false := by simp; omega
        have a3 : decide (0 ≤ hashOf x.1 % m ∧ hashOf x.1 % m < ((k + 1 : Nat) : Int)) = true := by simp; omega
        rw [a1, a2, a3]
        simp only [if_true, Bool.false_eq_true, if_false]
        exact List.perm_middle.trans (List.Perm.cons _ ih)
      · have a1 : inChain m k x = false := by unfold inChain; simp [hx]
        rw [a1]
        by_cases hy : 0 ≤ hashOf x.1 % m ∧ hashOf x.1 % m < (k : Nat)
        · have a2 : decide (0 ≤ hashOf x.1 % m ∧ hashOf x.1 % m < (k : Nat)) = true := by simpa using hy
          have a3 : decide (0 ≤ hashOf x.1 % m ∧ hashOf x.1 % m < ((k + 1 : Nat) : Int)) = true := by simp; omega
          rw [a2, a3]
          simp only [if_true, Bool.false_eq_true, if_false, List.cons_append]
          exact List.Perm.cons _ ih
        · have a2 : decide (0 ≤ hashOf x.1 % m ∧ hashOf x.1 % m < (k : Nat)) = false := by simpa using hy
          have a3 : decide (0 ≤ hashOf x.1 % m ∧ hashOf x.1 % m < ((k + 1 : Nat) : Int)) = false := by simp; omega
          rw [a2, a3]
          simp only [Bool.false_eq_true, if_false]
          exact ih

theorem outs_all (T : List Pair) (m : Nat) (hm : 1 ≤ m) : (outs T m m).Perm (T.map Prod.fst) := by
  refine (bucket_split T m m).trans ?_
  have : (T.filter fun x => decide (0 ≤ hashOf x.1 % m ∧ hashOf x.1 % m < m)) = T := by
    rw [List.filter_eq_self]
    intro x _
    simp only [decide_eq_true_eq]
    exact ⟨Int.emod_nonneg _ (by omega), Int.emod_lt_of_pos _ (by omega)⟩
  rw [this]

theorem sortS_congr {a b : List ByteArray} (h : a.Perm b) : sortS a = sortS b := sortS_eq (sortS_sorted b) ((sortS_perm b).trans h.symm)

theorem outs_le (T : List Pair) (m k : Nat) (hk : k ≤ m) : (outs T m k).length ≤ T.length := by
  have h := (bucket_split T m k).length_eq
  rw [h, List.length_map]
  exact List.length_filter_le _ _

theorem len_c {w : World} {tb : Nat} {S : Nat → Prop} {m : Nat} {T : List Pair} (h : TabAt w tb S m T) :
    Calls Try.prog 22 #[.pointer (some ⟨tb, 0, none⟩)] w fun r w' => r = .returned (.int .i64 T.length) ∧ w' = w := by
  obtain ⟨cb, hd, Ls, hm, _⟩ := h.ex
  have c1 : w.cell? ⟨tb, 1, none⟩ = some (.int .i64 T.length) := by rw [cell_blk hm.t]; rfl
  clear hm h
  go_enter Try.func22, Try.ntmps22
  go_wp2
  go_ret
  exact ⟨rfl, rfl⟩

set_option maxHeartbeats 1000000 in
theorem keys_c {w : World} {tb : Nat} {S : Nat → Prop} {m : Nat} {T : List Pair} (h : TabAt w tb S m T) :
    Calls Try.prog 23 #[.pointer (some ⟨tb, 0, none⟩)] w fun r w' => ∃ v, r = .returned v ∧ Made w w' 9 v ((sortS (T.map Prod.fst)).map Value.string) := by
  obtain ⟨cb, hd, Ls, hm, hseg, hv, s1, s2, s3⟩ := h.ex
  have hlen := h.len
  have h1 := h.m1
  have h64 := h.m64
  have c0 : w.cell? ⟨tb, 0, none⟩ = some (.slice (some ⟨cb, 0, none⟩) m m) := by rw [cell_blk hm.t]; rfl
  have HM := Lib.hid (And.intro hm (And.intro hseg hv))
  have hfin := Lib.hid (sortS_congr (outs_all T m h1))
  have hle := Lib.hid (fun k (hk : k ≤ m) => outs_le T m k hk)
  obtain ⟨ti, ti1, ti2, ti3, ti4⟩ := str_info
  have HI := Lib.hid (And.intro ti1 (And.intro ti2 (And.intro ti3 ti4)))
  have hz1 : (Value.string ByteArray.empty).cells.size = 1 := rfl
  clear ti1 ti2 ti3 ti4 hm hseg hv h s1 s2 s3
  go_enter Try.func23, Try.ntmps23
  go_wp2
  go_loopg [3, 5, 11] m (fun g s3 s5 s11 wr => ∃ k : Nat, s11 = .int .i64 k ∧ k + g = m ∧ Made w wr 9 s3 ((outs T m k).map Value.string))
  case atStart => exact ⟨0, rfl, by omega, Made.nil _ _⟩
  case round =>
    obtain ⟨k, rfl, hk, hM⟩ := hrel
    have M := Lib.hid hM
    clear hM
    obtain ⟨wo, rfl⟩ : ∃ wo : World, wo = wr := ⟨_, rfl⟩
    by_cases hlt : k < m
    · have hlt' : (k : Int) < (m : Int) := by omega
      have ch : wo.cell? ⟨cb, k, none⟩ = some (pnt (hd k)) := M.out.keep.cell (HM.out.1.head hlt) (fun q => q)
      have cs := Lib.hid (outs_succ T m k)
      obtain ⟨L, hL⟩ : ∃ L, L = Ls k := ⟨_, rfl⟩
      have hS : Seg w (hd k) L ∧ L.map Prod.snd = chainOf T m k := by rw [hL]; exact ⟨HM.out.2.1 k hlt, HM.out.2.2 k hlt⟩
      have HS := Lib.hid hS
      clear hL hS
      go_wp2
      go_loopg [3, 5] L.length (fun g s3 s5 wr => ∃ (o : Option Nat) (dn : List ByteArray) (rs : List (Nat × Pair)), s5 = pnt o ∧ Seg w o rs ∧ g = rs.length ∧ (chainOf T m k).map Prod.fst = dn ++ rs.map (fun x => x.2.1) ∧ Made w wr 9 s3 ((outs T m k ++ dn).map Value.string))
      case atStart =>
        refine ⟨hd k, [], L, rfl, HS.out.1, rfl, ?_, by simpa using M.out⟩
        rw [← HS.out.2, List.map_map, List.nil_append]
        rfl
      case round =>
        obtain ⟨o, dn, rs, rfl, hsg, rfl, hdn, hM⟩ := hrel
        have D := Lib.hid (And.intro hdn hM)
        have hll : (outs T m k ++ dn).length ≤ 64 := by
          have e1 := hle.out (k + 1) (by omega)
          rw [cs.out, hdn] at e1
          simp only [List.length_append] at e1 ⊢
          omega
        clear hdn hM
        cases rs with
        | nil =>
          obtain rfl : o = none := hsg
          unfold pnt
          go_wp2
          go_roundg (m - (k + 1))
          case measure => omega
          case rel =>
            refine ⟨k + 1, rfl, by omega, ?_⟩
            have := D.out
            rw [cs.out, this.1]
            simpa using this.2
        | cons x r =>
          obtain ⟨rfl, o', hx, hr⟩ := hsg
          obtain ⟨xb, xk, xv⟩ := x
          simp only at hx hr
          have hxr := D.out.2.keep.get hx (fun q => q)
          have x0 : wr.cell? ⟨xb, 0, none⟩ = some (.string xk) := by rw [cell_blk hxr]; rfl
          obtain ⟨a3, cap3, rfl⟩ := D.out.2.val
          have X := Lib.hid (And.intro hx hr)
          clear hx hxr
          unfold pnt
          go_wp2_with (
            at_builtin
            refine law_push rfl _ _ _ rfl Try.underlying50 HI.out.1 HI.out.2.1 HI.out.2.2.1 HI.out.2.2.2 hz1 D.out.2 rfl (.string xk) rfl rfl rfl (by rw [List.length_map]; omega) ?_
            intro a8 cap8 w8 hM8 _ _
            have M8 := Lib.hid hM8
            have x2 : w8.cell? ⟨xb, 2, none⟩ = some (pnt o') := by rw [cell_blk (hM8.keep.get X.out.1 (fun q => q))]; rfl
            unfold pnt at x2
            clear hM8)
          go_roundg r.length
          case measure => simp
          case rel =>
            refine ⟨o', dn ++ [xk], r, rfl, X.out.2, rfl, ?_, ?_⟩
            · rw [D.out.1]; simp
            · simpa using M8.out
    · have hlt' : ¬ (k : Int) < (m : Int) := by omega
      obtain rfl : k = m := by omega
      have MK := M.out
      have hll : (outs T k k).length ≤ 64 := by have := hle.out k (by omega); omega
      have hso := sort_c (w := wo) (l := outs T k k) (by have h := MK.row; rw [List.length_map] at h; exact h) (by omega)
      clear MK
      go_wp2_with (
        go_at_call 32
        refine hso.mono ?_
        rintro e w9 ⟨rfl, q1, q2⟩
        have Q := Lib.hid (And.intro q1 q2)
        clear hso q1 q2)
      go_ret
      refine ⟨_, rfl, ?_⟩
      obtain ⟨q1, q2⟩ := Q.out
      rw [hfin.out] at q1
      refine ⟨?_, M.out.keep.trans q2 (fun b q => .inr (M.out.new b q)), M.out.new⟩
      rw [List.length_map, ← hfin.out, sortS_len, hfin.out]
      exact q1

end Go.Proofs.Ytkdpkmlmkholmaa
