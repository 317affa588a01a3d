/-
  The document's table: all keys in order, by putting each in its place.
-/
import Derived.Test.YtkdpkmlmkholmaaKeys
import Derived.Test.YtkdpkmlmkholmaaChain7
import Derived.WalkLawsBesides
import Derived.RegionTactic
import Derived.Deep.LoopGhost
import Derived.Deep.QuietTactic
import Derived.BigQuiet
import Derived.StillTailTactics
import Derived.Sort.Walk0
namespace Go.Proofs.Ytkdpkmlmkholmaa
open Go Go.RowKit Go.Sort
set_option linter.unusedSectionVars false
set_option linter.unusedSimpArgs false
set_option linter.unusedVariables false

theorem gt_spell (a b : ByteArray) : (Op.bytesLess a.toList b.toList || a.toList == b.toList) = leL (bl a) (bl b) := by
  rw [ByteArray.toList_eq, ByteArray.toList_eq, bytesLess_eq]
  unfold leL
  rw [Bool.eq_iff_iff]
  simp only [Bool.or_eq_true, decide_eq_true_eq, beq_iff_eq]
  constructor
  · rintro (h | h)
    · exact List.le_of_lt h
    · rw [show bl a = bl b from h]; exact List.le_refl _
  · intro h
    by_cases e : bl a = bl b
    · exact .inr e
    · exact .inl (Classical.byContradiction fun q => e (List.le_antisymm h (List.not_lt.1 q)))

/-- How far the new one has come: ahead of it a, behind it b. -/
structure Goes (L : List ByteArray) (x : ByteArray) (a b : List ByteArray) : Prop where
  all : a ++ b = L
  big : ∀ y ∈ b, leS x y

theorem leS_of_not {x y : ByteArray} (h : leL (bl y) (bl x) = false) : leS x y := by
  have := leL_total (bl x) (bl y)
  rw [h, Bool.or_false] at this
  exact this

theorem Goes.step {L : List ByteArray} {x y : ByteArray} {a b : List ByteArray} (h : Goes L x (a ++ [y]) b) (hy : leL (bl y) (bl x) = false) : Goes L x a (y :: b) :=
  ⟨by rw [← h.all]; simp, fun z hz => by
    rcases List.mem_cons.1 hz with rfl | hz
    · exact leS_of_not hy
    · exact h.big z hz⟩

theorem Goes.fin {T : List ByteArray} {x : ByteArray} {a b : List ByteArray} (h : Goes (sortS T) x a b) (hy : ∀ y a', a = a' ++ [y] → leL (bl y) (bl x) = true) : sortS (T ++ [x]) = a ++ x :: b := by
  have hs := sortS_sorted T
  rw [← h.all, List.pairwise_append] at hs
  obtain ⟨h1, h2, h3⟩ := hs
  apply sortS_eq
  · rw [List.pairwise_append]
    refine ⟨h1, List.pairwise_cons.2 ⟨h.big, h2⟩, fun y hy' z hz => ?_⟩
    have hyx : leS y x := by
      rcases List.eq_nil_or_concat a with rfl | ⟨a', u, rfl⟩
      · simp at hy'
      · rw [List.concat_eq_append] at *
        have hu := hy u a' rfl
        rcases List.mem_append.1 hy' with q | q
        · have := (List.pairwise_append.1 h1).2.2 y q u (by simp)
          exact leL_trans _ _ _ this hu
        · simp at q; subst q; exact hu
    rcases List.mem_cons.1 hz with rfl | hz
    · exact hyx
    · exact leL_trans _ _ _ hyx (h.big z hz)
  · refine List.perm_middle.trans ?_
    refine (List.Perm.cons _ (by rw [h.all])).trans ?_
    exact (List.Perm.cons x (sortS_perm T)).trans (List.perm_append_singleton x T).symm

theorem rlen_c {w : World} {rb : Nat} {S : Nat → Prop} {T : List Pair} (h : RefAt w rb S T) :
    Calls Try.prog 26 #[.pointer (some ⟨rb, 0, none⟩)] w fun r w' => r = .returned (.int .i64 T.length) ∧ w' = w := by
  obtain ⟨v, h1, h2, h3, h4⟩ := h.ex
  have hl := h.len
  obtain ⟨sa, cap, rfl, hc⟩ := rows_val2 h2
  have c0 : w.cell? ⟨rb, 0, none⟩ = some (.slice sa T.length cap) := by rw [cell_blk h1]; rfl
  clear h1 h2 h3 h4 h
  go_enter Try.func26, Try.ntmps26
  go_wp2
  go_ret
  exact ⟨rfl, rfl⟩

set_option maxHeartbeats 2000000 in
theorem rkeys_c {w : World} {rb : Nat} {S : Nat → Prop} {T : List Pair} (h : RefAt w rb S T) :
    Calls Try.prog 28 #[.pointer (some ⟨rb, 0, none⟩)] w fun r w' => ∃ v, r = .returned v ∧ Made w w' 9 v ((sortS (T.map Prod.fst)).map Value.string) := by
  obtain ⟨v, h1, h2, h3, h4⟩ := h.ex
  have hl := h.len
  obtain ⟨sa, cap, rfl, hc⟩ := rows_val2 h2
  have c0 : w.cell? ⟨rb, 0, none⟩ = some (.slice sa T.length cap) := by rw [cell_blk h1]; rfl
  have H := Lib.hid h2
  generalize hn : T.length = n at *
  have HN := Lib.hid hn
  obtain ⟨ti, ti1, ti2, ti3, ti4⟩ := str_info
  have HI := Lib.hid (And.intro ti1 (And.intro ti2 (And.intro ti3 ti4)))
  have hz1 : (Value.string ByteArray.empty).cells.size = 1 := rfl
  clear ti1 ti2 ti3 ti4 h h1 h2 h3 h4 hn
  have hc0 := Lib.hid c0
  clear c0
  go_enter Try.func28, Try.ntmps28
  go_wp2
  go_loopg [3, 4, 5] n (fun g s3 s4 s5 wr => ∃ k : Nat, s4 = .int .i64 k ∧ k + g = n ∧ Made w wr 9 s3 ((sortS ((T.take k).map Prod.fst)).map Value.string))
  case atStart => exact ⟨0, rfl, by omega, by simpa [sortS] using Made.nil w 9⟩
  case round =>
    obtain ⟨k, rfl, hk, hM⟩ := hrel
    have M := Lib.hid hM
    have c0 : wr.cell? ⟨rb, 0, none⟩ = some (.slice sa n cap) := hM.keep.cell hc0.out (fun q => q)
    clear hM
    obtain ⟨wo, rfl⟩ : ∃ wo : World, wo = wr := ⟨_, rfl⟩
    by_cases hlt : k < n
    · have hlt' : (k : Int) < (n : Int) := by omega
      obtain ⟨g, rfl, _, _, _⟩ := rows_some H.out (by omega)
      obtain ⟨x, hx⟩ : ∃ x, T[k]? = some x := ⟨_, List.getElem?_eq_getElem (by rw [HN.out]; exact hlt)⟩
      have x0 : wo.cell? ⟨g, k * 2, none⟩ = some (.string x.1) := M.out.keep.cell (rows_cell H.out (by rw [← Nat.add_zero (k * 2), flat_get pairV 2 pairV_len hx (by omega)]; rfl)).1 (fun q => q)
      have hsl : (sortS ((T.take k).map Prod.fst)).length = k := by rw [sortS_len, List.length_map, List.length_take, HN.out]; omega
      have HX := Lib.hid (And.intro hx hsl)
      have hll : ((sortS ((T.take k).map Prod.fst)).map Value.string).length = k := by rw [List.length_map, hsl]
      obtain ⟨a3, cap3, rfl⟩ : ∃ a3 cap3, u3 = Value.slice a3 k cap3 := M.out.valn hll
      have HL := Lib.hid hll
      clear hx hll hsl
      go_wp2_with (
        at_builtin
        refine law_push rfl _ _ _ rfl Try.underlying50 HI.out.1 HI.out.2.1 HI.out.2.2.1 HI.out.2.2.2 hz1 M.out rfl (.string x.1) rfl rfl HL.out (by omega) ?_
        intro a8 cap8 w8 hM8 _ _
        have M8 := Lib.hid hM8
        clear hM8)
      go_loopg [5] k (fun g s5 wr => ∃ (a b : List ByteArray), s5 = .int .i64 g ∧ a.length = g ∧ Goes (sortS ((T.take k).map Prod.fst)) x.1 a b ∧ Made w wr 9 (.slice a8 (k + 1) cap8) ((a ++ x.1 :: b).map Value.string))
      case atStart =>
        refine ⟨sortS ((T.take k).map Prod.fst), [], rfl, HX.out.2, ⟨by simp, by simp⟩, by simpa using M8.out⟩
      case round =>
        obtain ⟨a, b, rfl, hg, hgo, hM⟩ := hrel
        have D := Lib.hid (And.intro hgo (And.intro hM hg))
        have hgk : gk ≤ k := by
          have h1 := congrArg List.length hgo.all
          rw [List.length_append, HX.out.2] at h1
          omega
        have hlen : ((a ++ x.1 :: b).map Value.string).length = k + 1 := by
          have h1 := congrArg List.length hgo.all
          rw [List.length_append, HX.out.2] at h1
          simp; omega
        have hrow := hM.row
        rw [hlen] at hrow
        have HR := Lib.hid (And.intro hrow hlen)
        obtain ⟨g8, rfl, _, hcap8, _⟩ := rows_some hrow (by omega)
        clear hgo hM hg hrow hlen
        have hnext : (∀ y a', a = a' ++ [y] → leL (bl y) (bl x.1) = true) → Made w wr 9 (.slice (some ⟨g8, 0, none⟩) (k + 1) cap8) ((sortS ((T.take (k + 1)).map Prod.fst)).map Value.string) := by
          intro q
          have e := D.out.1.fin q
          rw [List.take_add_one, HX.out.1, List.map_append]
          simp only [Option.toList_some, List.map_cons, List.map_nil]
          rw [e]
          exact D.out.2.1
        have HN2 := Lib.hid hnext
        clear hnext
        cases gk with
        | zero =>
          obtain rfl : a = [] := List.length_eq_zero_iff.1 D.out.2.2
          have g0 : decide (((0 : Nat) : Int) > 0) = false := by simp
          go_wp2
          go_quiet (fail)
          go_wp2
          go_roundg (n - (k + 1))
          case measure => omega
          case rel => exact ⟨k + 1, rfl, by omega, (HN2.out (fun y a' q => by simp at q)).aside (drewN_keep _ _ _)⟩
        | succ p =>
          obtain ⟨a', y, rfl⟩ : ∃ a' y, a = a' ++ [y] := by
            rcases List.eq_nil_or_concat a with rfl | ⟨a', u, rfl⟩
            · have := D.out.2.2; simp at this
            · exact ⟨a', u, List.concat_eq_append⟩
          have ha' : a'.length = p := by have := D.out.2.2; simp at this; omega
          have HA := Lib.hid ha'
          have i1 : ((a' ++ [y]) ++ x.1 :: b)[p]? = some y := by rw [List.append_assoc, List.getElem?_append_right (by omega), ha']; simp
          have i2 : ((a' ++ [y]) ++ x.1 :: b)[p + 1]? = some x.1 := by simp [ha']
          obtain ⟨y1, y2⟩ := rows_cell HR.out.1 (mapGet (f := Value.string) i1)
          obtain ⟨y3, y4⟩ := rows_cell HR.out.1 (mapGet (f := Value.string) i2)
          clear i1 i2 ha'
          have g0 : decide (((p + 1 : Nat) : Int) > 0) = true := decide_eq_true (by omega)
          have hp : (p : Int) + 1 < (k + 1 : Nat) := by omega
          cases hc : leL (bl y) (bl x.1) with
          | true =>
            have HC := Lib.hid hc
            rw [← gt_spell] at hc
            go_wp2
            go_quiet (fail)
            go_wp2
            go_roundg (n - (k + 1))
            case measure => omega
            case rel =>
              exact ⟨k + 1, rfl, by omega, (HN2.out (fun y2 a2 q => by
                obtain ⟨_, q⟩ := List.append_inj' q rfl
                simp at q; rw [← q]; exact HC.out)).aside (drewN_keep _ _ _)⟩
          | false =>
            have HC := Lib.hid hc
            rw [← gt_spell] at hc
            go_wp2
            go_quiet (fail)
            go_wp2
            go_region
            go_wp2
            go_roundg p
            case measure => omega
            case rel =>
              refine ⟨a', y :: b, rfl, HA.out, D.out.1.step HC.out, ?_⟩
              have h9 := ((D.out.2.1.aside (drewN_keep wr (fun _ => False) (nq + 1))).set p (.string x.1)).set (p + 1) (.string y)
              have e : ((((a' ++ [y] ++ x.1 :: b).map Value.string).set p (.string x.1)).set (p + 1) (.string y)) = (a' ++ x.1 :: y :: b).map Value.string := by
                have hp := HA.out
                simp [List.set_append, hp]
              rw [e] at h9
              exact h9
    · have hlt' : ¬ (k : Int) < (n : Int) := by omega
      go_wp2
      go_ret
      have hMM := M.out
      rw [List.take_of_length_le (by rw [HN.out]; omega)] at hMM
      exact ⟨_, rfl, hMM⟩

end Go.Proofs.Ytkdpkmlmkholmaa
