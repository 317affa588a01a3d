/-
  name.Dots, name.Right. (NRights: NRight, RNRight)
-/
import Derived.Test.YtnjfcedkfobbcaaGreatSplit
import Derived.Test.YtnjfcedkfobbcaaGreatShelf
import Derived.Lib.Join
import Derived.Deep.LoopGhost

/-! name.Dots, name.Right. -/
namespace Go.Proofs.YtnjfcedkfobbcaaGreat
open Go Go.RowKit Go.Shelf
set_option linter.unusedSectionVars false
set_option linter.unusedSimpArgs false
set_option linter.unusedVariables false
attribute [local go_sem] Oper.semAt_some

def dotsP (l : Bl) : Bool := decide (l = [46] ∨ l = [46, 46])

/-- Whether a name may be made. -/
def rightP (l : Bl) : Bool := decide (l ≠ [] ∧ l.length ≤ 255 ∧ Lib.indexByte l 47 < 0 ∧ Lib.indexByte l 0 < 0 ∧ ¬ (l = [46] ∨ l = [46, 46]))

theorem txB_inj {l m : Bl} : txB l = txB m ↔ l = m := by
  constructor
  · intro h
    have h2 := congrArg (fun x : ByteArray => x.data.toList) h
    simpa [txB] using h2
  · rintro rfl; rfl

theorem txB_toList (l : Bl) : (txB l).toList = l := by rw [ByteArray.toList_eq]; rfl

set_option maxRecDepth 100000 in
theorem dots_c (l : Bl) (w : World) :
    Calls Tryz.prog 90 #[.string (txB l)] w fun e w' => e = .returned (.bool (dotsP l)) ∧ w' = w := by
  have e3 : dotsP l = (decide ((txB l).toList = [46]) || decide ((txB l).toList = [46, 46])) := by unfold dotsP; rw [txB_toList]; simp
  rw [e3]
  clear e3
  by_cases h1 : (txB l).toList = [46]
  · go_enter Tryz.func90, Tryz.ntmps90
    go_wp2
    go_ret
    simp [h1]
  · by_cases h2 : (txB l).toList = [46, 46]
    all_goals
      go_enter Tryz.func90, Tryz.ntmps90
      go_wp2
      go_ret
      simp [h1, h2]

set_option maxRecDepth 100000 in
set_option maxHeartbeats 1000000 in
theorem right_c (l : Bl) (w : World) :
    Calls Tryz.prog 55 #[.string (txB l)] w fun e w' => e = .returned (.bool (rightP l)) ∧ w' = w := by
  have i1 := fun U => Tryz.strings_IndexByte (txB l) 47 U
  have i2 := fun U => Tryz.strings_IndexByte (txB l) 0 U
  have hd := fun U => dots_c l U
  rw [txB_list] at i1 i2
  rw [show ((47 : Int).toNat.toUInt8) = (47 : UInt8) from rfl] at i1
  rw [show ((0 : Int).toNat.toUInt8) = (0 : UInt8) from rfl] at i2
  have hr : rightP l = (decide (¬ (txB l).toList = []) && decide ((txB l).size ≤ 255) && decide (Lib.indexByte l 47 < 0) && decide (Lib.indexByte l 0 < 0) && !dotsP l) := by
    rw [txB_toList, txB_size]
    unfold rightP dotsP
    by_cases a1 : l = [] <;> by_cases a2 : l.length ≤ 255 <;> by_cases a3 : Lib.indexByte l 47 < 0 <;> by_cases a4 : Lib.indexByte l 0 < 0 <;> by_cases a5 : l = [46] <;> by_cases a6 : l = [46, 46] <;> simp [a1, a2, a3, a4, a5, a6]
  generalize Lib.indexByte l 47 = x1 at *
  generalize Lib.indexByte l 0 = x2 at *
  generalize dotsP l = d at *
  rw [hr]
  clear hr
  generalize hL : (txB l).toList = L at *
  have HL := Lib.hid hL
  clear hL
  by_cases a1 : (txB l).toList = []
  · have e0 : L = [] := by rw [← HL.out]; exact a1
    go_enter Tryz.func55, Tryz.ntmps55
    go_wp2
    go_ret
    simp [e0]
  · have e0 : (txB l).toList.isEmpty = false := by rw [List.isEmpty_eq_false_iff]; exact a1
    have e1 : L ≠ [] := by rw [← HL.out]; exact a1
    have H1 := Lib.hid e1
    clear e1
    by_cases a2 : (txB l).size ≤ 255
    · by_cases a3 : x1 < 0
      · by_cases a4 : x2 < 0
        all_goals
          go_enter Tryz.func55, Tryz.ntmps55
          go_wp2_with (
            first
            | (go_at_call 89; first | (refine (i1 _).mono ?_; rintro e w1 ⟨rfl, rfl⟩) | (refine (i2 _).mono ?_; rintro e w1 ⟨rfl, rfl⟩))
            | (go_at_call 90; refine (hd _).mono ?_; rintro e w1 ⟨rfl, rfl⟩))
          go_ret
          simp [H1.out, a2, a3, a4]
          try (intros; omega)
      · go_enter Tryz.func55, Tryz.ntmps55
        go_wp2_with (
          go_at_call 89
          refine (i1 _).mono ?_
          rintro e w1 ⟨rfl, rfl⟩)
        go_ret
        simp [H1.out, a2, a3]
        try (intros; omega)
    · go_enter Tryz.func55, Tryz.ntmps55
      go_wp2
      go_ret
      simp [H1.out, a2]


end Go.Proofs.YtnjfcedkfobbcaaGreat

/-! The document's Right at a tree's keys. -/
namespace Go.Proofs.YtnjfcedkfobbcaaGreat
open Go Go.RowKit Go.Shelf
set_option linter.unusedSectionVars false
set_option linter.unusedSimpArgs false
set_option linter.unusedVariables false
attribute [local go_sem] Oper.semAt_some

theorem ixr_iff {l : Bl} {c : UInt8} : 0 ≤ Lib.indexByte l c ↔ c ∈ l := by
  have hge := Lib.indexByte_ge l c
  constructor
  · intro h
    obtain ⟨o, ho⟩ : ∃ o : Nat, Lib.indexByte l c = o := ⟨(Lib.indexByte l c).toNat, by omega⟩
    exact List.mem_of_getElem? (Lib.indexByte_some ho).1
  · intro h
    by_cases hn : Lib.indexByte l c = -1
    · obtain ⟨k, hk⟩ := List.getElem?_of_mem h
      exact absurd hk (Lib.indexByte_none hn k)
    · omega

theorem ixr_lt {l : Bl} {c : UInt8} : Lib.indexByte l c < 0 ↔ c ∉ l := by
  rw [← ixr_iff]; omega

set_option maxRecDepth 100000 in
theorem rdots_c (l : Bl) (w : World) :
    Calls Tryz.prog 91 #[.string (txB l)] w fun e w' => e = .returned (.bool (dotsP l)) ∧ w' = w := by
  have e3 : dotsP l = (decide ((txB l).toList = [46]) || decide ((txB l).toList = [46, 46])) := by unfold dotsP; rw [txB_toList]; simp
  rw [e3]
  clear e3
  by_cases h1 : (txB l).toList = [46]
  · go_enter Tryz.func91, Tryz.ntmps91
    go_wp2
    go_ret
    simp [h1]
  · by_cases h2 : (txB l).toList = [46, 46]
    all_goals
      go_enter Tryz.func91, Tryz.ntmps91
      go_wp2
      go_ret
      simp [h1, h2]

theorem byte_at {X : ByteArray} {l : Bl} (hX : X = txB l) {k : Nat} (h : k < X.size) : ∃ u : UInt8, l[k]? = some u ∧ (X[k]'h).toNat = u.toNat := by
  subst hX
  have hk : k < l.length := by rw [← txB_size]; exact h
  exact ⟨l[k], List.getElem?_eq_getElem hk, rfl⟩

theorem take_notin {l : Bl} {k : Nat} {u c : UInt8} (h : l[k]? = some u) (h0 : c ∉ l.take k) (hc : ¬ c = u) : c ∉ l.take (k + 1) := by
  rw [List.take_add_one, h]
  simp only [Option.toList_some, List.mem_append, List.mem_singleton, not_or]
  exact ⟨h0, hc⟩

theorem right_zero {l : Bl} (h : 0 ∈ l ∨ 47 ∈ l) : rightP l = false := by
  unfold rightP
  rw [decide_eq_false_iff_not]
  rintro ⟨_, _, a, b, _⟩
  rcases h with h | h
  · exact ixr_lt.1 b h
  · exact ixr_lt.1 a h

theorem right_rest {l : Bl} (h0 : 0 ∉ l) (h47 : 47 ∉ l) : rightP l = (decide (1 ≤ l.length) && decide (l.length ≤ 255) && !dotsP l) := by
  unfold rightP dotsP
  have a := ixr_lt.2 h0
  have b := ixr_lt.2 h47
  have c : (l ≠ []) = (1 ≤ l.length) := by
    rw [ne_eq, ← List.length_eq_zero_iff]
    apply propext
    omega
  simp only [c]
  by_cases a1 : 1 ≤ l.length <;> by_cases a2 : l.length ≤ 255 <;> by_cases a5 : l = [46] <;> by_cases a6 : l = [46, 46] <;> simp [a1, a2, a5, a6, a, b]

set_option maxRecDepth 100000 in
set_option maxHeartbeats 2000000 in
theorem rright_c (l : Bl) (w : World) (hl : l.length ≤ 1000000) :
    Calls Tryz.prog 60 #[.string (txB l)] w fun e w' => e = .returned (.bool (rightP l)) ∧ w' = w := by
  obtain ⟨n, hn⟩ : ∃ n, n = l.length := ⟨_, rfl⟩
  have hd := fun U => rdots_c l U
  obtain ⟨X, hX⟩ : ∃ X, X = txB l := ⟨_, rfl⟩
  have hXs : X.size = n := by rw [hX, txB_size, hn]
  rw [← hX] at hd ⊢
  have HX := Lib.hid (And.intro hX hn)
  rw [← hn] at hl
  clear hX hn
  obtain ⟨res, hres⟩ : ∃ res, res = rightP l := ⟨_, rfl⟩
  rw [← hres]
  have HR := Lib.hid hres
  clear hres
  obtain ⟨dd, hdd⟩ : ∃ dd, dd = dotsP l := ⟨_, rfl⟩
  rw [← hdd] at hd
  have HD := Lib.hid hdd
  clear hdd
  go_enter Tryz.func60, Tryz.ntmps60
  go_wp2
  go_loopg [3] n (fun g s3 wr => ∃ k : Nat, s3 = .int .i64 k ∧ k + g = n ∧ 0 ∉ l.take k ∧ 47 ∉ l.take k ∧ wr = w)
  case atStart => exact ⟨0, rfl, by omega, by simp, by simp, rfl⟩
  case round =>
    obtain ⟨k, rfl, hk, h0, h47, rfl⟩ := hrel
    have T := Lib.hid (And.intro h0 h47)
    clear h0 h47
    by_cases hlk : k < n
    · have g3 : (k : Int) < (n : Int) := by omega
      have hlt : k < X.size := by omega
      obtain ⟨u, hu, hc⟩ := byte_at HX.out.1 hlt
      have HU := Lib.hid hu
      clear hu
      by_cases u0 : u = 0
      · subst u0
        have hc : (X[k]'hlt).toNat = 0 := hc
        go_wp2
        go_ret
        refine ⟨?_, rfl⟩
        rw [HR.out, right_zero (.inl (List.mem_of_getElem? HU.out))]
        rfl
      · by_cases u47 : u = 47
        · subst u47
          have hc : (X[k]'hlt).toNat = 47 := hc
          go_wp2
          go_ret
          refine ⟨?_, rfl⟩
          rw [HR.out, right_zero (.inr (List.mem_of_getElem? HU.out))]
          rfl
        · obtain ⟨c, hcc⟩ : ∃ c, c = u.toNat := ⟨_, rfl⟩
          rw [← hcc] at hc
          have c0 : ¬ c = 0 := fun e => u0 (UInt8.toNat_inj.1 (by rw [← hcc, e]; rfl))
          have c47 : ¬ c = 47 := fun e => u47 (UInt8.toNat_inj.1 (by rw [← hcc, e]; rfl))
          have b0 : ((c : Int) == 0) = false := by simp [c0]
          have b47 : ((c : Int) == 47) = false := by simp; omega
          have HT := Lib.hid (show 0 ∉ l.take (k + 1) ∧ 47 ∉ l.take (k + 1) by
            have := take_notin HU.out T.out.1 (fun e => u0 e.symm)
            exact ⟨this, take_notin HU.out T.out.2 (fun e => u47 e.symm)⟩)
          clear hcc u0 u47
          go_wp2
          go_roundg (n - (k + 1))
          case measure => omega
          case rel => exact ⟨k + 1, rfl, by omega, HT.out.1, HT.out.2, rfl⟩
    · have g3 : ¬ (k : Int) < (n : Int) := by omega
      have hk2 : l.take k = l := List.take_of_length_le (by rw [← HX.out.2]; omega)
      rw [hk2] at T
      have hr := right_rest T.out.1 T.out.2
      rw [← HX.out.2, ← HD.out, ← HR.out] at hr
      have HF := Lib.hid hr
      clear hr hk2
      by_cases n0 : 1 ≤ n
      · by_cases n1 : n ≤ 255
        · go_wp2_with (
            go_at_call 91
            refine (hd _).mono ?_
            rintro e w9 ⟨rfl, rfl⟩)
          go_ret
          refine ⟨?_, rfl⟩
          rw [HF.out]
          simp [n0, n1]
        · go_wp2
          go_ret
          refine ⟨?_, rfl⟩
          rw [HF.out]
          simp [n0, n1]
      · go_wp2
        go_ret
        refine ⟨?_, rfl⟩
        rw [HF.out]
        simp [n0]

end Go.Proofs.YtnjfcedkfobbcaaGreat
