/-
  name.Write, Dots, Right.
-/
import Derived.Test.YtlbekofkhjkniaaDoorRead
import Derived.Lib.Join
namespace Go.Proofs.YtlbekofkhjkniaaDoor
open Go Go.RowKit Go.Shelf
set_option linter.unusedSectionVars false
set_option linter.unusedSimpArgs false
set_option linter.unusedVariables false
attribute [local go_sem] Oper.semAt_some

/-- What a path is written as. -/
def writeP (root slash : Bool) (ps : List Bl) : Bl := (if root then [47] else []) ++ (Lib.join ps [47] ++ if slash && !ps.isEmpty then [47] else [])

def dotsP (l : Bl) : Bool := decide (l = [46] ∨ l = [46, 46])

/-- Whether a name may be made. -/
def rightP (l : Bl) : Bool := decide (l ≠ [] ∧ l.length ≤ 255 ∧ Lib.indexByte l 47 < 0 ∧ Lib.indexByte l 0 < 0 ∧ ¬ (l = [46] ∨ l = [46, 46]))

theorem txB_cons (l : Bl) : (⟨#[47]⟩ : ByteArray) ++ txB l = txB (47 :: l) := by
  apply ByteArray.ext
  simp [txB]

theorem txB_snoc (l : Bl) : txB l ++ (⟨#[47]⟩ : ByteArray) = txB (l ++ [47]) := by
  apply ByteArray.ext
  simp [txB]

theorem txB_append (l m : Bl) : txB l ++ txB m = txB (l ++ m) := by
  apply ByteArray.ext
  simp [txB]

theorem txB_inj {l m : Bl} : txB l = txB m ↔ l = m := by
  constructor
  · intro h
    have h2 := congrArg (fun x : ByteArray => x.data.toList) h
    simpa [txB] using h2
  · rintro rfl; rfl

theorem txB_nil : txB [] = ⟨#[]⟩ := rfl

theorem txB_toList (l : Bl) : (txB l).toList = l := by rw [ByteArray.toList_eq]; rfl

theorem txs_list (ps : List Bl) : (ps.map txB).map (·.data.toList) = ps := by
  rw [List.map_map]
  exact List.map_id'' (fun _ => rfl) ps

theorem join_c {v : Value} {ps : List Bl} {w : World} (h : w.ownsRow 0 9 1 v ps.length (ps.map fun p => .string (txB p))) (hn : ps.length ≤ 1000000000) (hl : (Lib.join ps [47]).length ≤ 1000000000) :
    Calls Tryd.prog 25 #[v, .string ⟨#[47]⟩] w fun e w' => e = .returned (.string (txB (Lib.join ps [47]))) ∧ Below w.heap.size w w' := by
  obtain ⟨sa, cap, rfl, hcap⟩ := rows_val2 h
  rcases rows_val h with ⟨e1, e2⟩ | ⟨g, cp, e1, h3, _, h4⟩
  · have e3 : ps = [] := List.length_eq_zero_iff.1 (by simpa using e2)
    subst e3
    refine (Tryd.strings_Join_none sa cap ⟨#[47]⟩ w).mono ?_
    rintro e w' ⟨rfl, rfl⟩
    exact ⟨rfl, Below.refl _ _⟩
  · cases e1
    have hc : ∀ (j : Nat) x, (ps.map txB)[j]? = some x → w.cell? ⟨g, 0 + j, none⟩ = some (.string x) := fun j x hx => by
      rw [List.getElem?_map, Option.map_eq_some_iff] at hx
      obtain ⟨y, hy, rfl⟩ := hx
      rw [Nat.zero_add]
      exact (rows_cell h (mapGet (f := fun p => Value.string (txB p)) hy)).1
    have hj := Tryd.strings_Join g 0 cap (ps.map txB) ⟨#[47]⟩ w hc h4 (by rw [List.length_map]; omega) (by rw [List.length_map]; exact hcap) (by rw [txs_list]; exact Nat.le_trans hl (by omega))
    rw [txs_list, List.length_map] at hj
    exact hj

set_option maxRecDepth 100000 in
theorem write_c {root slash : Bool} {v : Value} {ps : List Bl} {w : World} (h : w.ownsRow 0 9 1 v ps.length (ps.map fun p => .string (txB p))) (hn : ps.length ≤ 1000000000) (hl : (Lib.join ps [47]).length ≤ 1000000000) :
    Calls Tryd.prog 21 #[.agg #[.bool root, .bool slash, v]] w fun e w' => e = .returned (.string (txB (writeP root slash ps))) ∧ Keep w w' (fun _ => False) := by
  obtain ⟨W, hW⟩ : ∃ W, W = w.alloc (.cells #[.bool root, .bool slash, v] 28) := ⟨_, rfl⟩
  have k1 := Keep.alloc w (.cells #[.bool root, .bool slash, v] 28) (fun _ => False)
  have a1 := heap_alloc_eq w (.cells #[.bool root, .bool slash, v] 28)
  rw [← hW] at k1 a1
  have hj := join_c (rows_keep h k1 (fun _ _ q => q)) hn hl
  obtain ⟨sa, cap, rfl, hcap⟩ := rows_val2 h
  rw [hW] at hj
  have hlW := lt_of_blk a1
  obtain ⟨js, hjs⟩ : ∃ js, js = Lib.join ps [47] := ⟨_, rfl⟩
  rw [← hjs] at hj
  have HJ := Lib.hid hjs
  have HW := Lib.hid hW
  have D := Lib.hid (And.intro k1 (And.intro a1 hlW))
  have HR := Lib.hid (show ∀ m : Bl, m = (if root then [47] else []) ++ (js ++ if slash && !ps.isEmpty then [47] else []) → m = writeP root slash ps from fun m hm => by rw [hm, hjs]; rfl)
  generalize hpn : ps.length = pn at *
  have hne : ps.isEmpty = decide (pn = 0) := by rw [← hpn]; cases ps <;> simp
  clear hjs hW k1 a1 hlW h
  have HE := Lib.hid hne
  clear hne hpn
  have go : ∀ w1, Below W.heap.size W w1 → Keep w w1 (fun _ => False) ∧ w1.cell? ⟨w.heap.size, 0, none⟩ = some (.bool root) ∧ w1.cell? ⟨w.heap.size, 1, none⟩ = some (.bool slash) ∧ w1.cell? ⟨w.heap.size, 2, none⟩ = some (.slice sa pn cap) := by
    intro w1 hb
    have k := Keep.of_below hb
    have a := k.get D.out.2.1 (by have := D.out.2.2; omega)
    have hz := D.out.1.size
    refine ⟨D.out.1.trans k (fun b q => .inr (by omega)), ?_, ?_, ?_⟩ <;> rw [cell_blk a] <;> rfl
  have GO := Lib.hid go
  clear go
  have hp0 : pn = 0 ∨ 0 < pn := Nat.eq_zero_or_pos pn
  go_enter Tryd.func21, Tryd.ntmps21
  have g1 : ¬ 9223372036854775807 < 1 + (txB js).size := by rw [txB_size, HJ.out]; omega
  have g2 : ¬ 9223372036854775807 < (txB js).size + 1 := by rw [txB_size, HJ.out]; omega
  have g3 : ¬ 9223372036854775807 < 1 + (txB js).size + 1 := by rw [txB_size, HJ.out]; omega
  cases root <;> cases slash <;> rcases hp0 with h0 | h0
  all_goals
    first | (have g0 : ¬ 0 < pn := by omega) | (have g0 : 0 < pn := by omega)
    clear h0
    go_wp2_with (
      go_at_call 25
      refine hj.mono ?_
      rintro e w1 ⟨rfl, hb⟩
      rw [← HW.out] at hb
      obtain ⟨kw, b0, b1, b2⟩ := GO.out w1 hb
      have KW := Lib.hid kw
      clear kw hb)
    go_ret
    refine ⟨?_, KW.out⟩
    refine congrArg (fun z => Ending.returned (Value.string z)) ?_
    try simp only [txB_cons, txB_snoc]
    refine congrArg txB (HR.out _ ?_)
    rw [HE.out]
    simp
    try omega

theorem eqB (l m : Bl) : ((txB l).toList == (txB m).toList) = decide (l = m) := by
  rw [txB_toList, txB_toList]
  by_cases h : l = m
  · subst h; simp
  · simp [h]

set_option maxRecDepth 100000 in
theorem dots_c (l : Bl) (w : World) :
    Calls Tryd.prog 16 #[.string (txB l)] w fun e w' => e = .returned (.bool (dotsP l)) ∧ w' = w := by
  have e3 : dotsP l = (decide ((txB l).toList = [46]) || decide ((txB l).toList = [46, 46])) := by unfold dotsP; rw [txB_toList]; simp
  rw [e3]
  clear e3
  by_cases h1 : (txB l).toList = [46]
  · go_enter Tryd.func16, Tryd.ntmps16
    go_wp2
    go_ret
    simp [h1]
  · by_cases h2 : (txB l).toList = [46, 46]
    all_goals
      go_enter Tryd.func16, Tryd.ntmps16
      go_wp2
      go_ret
      simp [h1, h2]

set_option maxRecDepth 100000 in
set_option maxHeartbeats 1000000 in
theorem right_c (l : Bl) (w : World) :
    Calls Tryd.prog 15 #[.string (txB l)] w fun e w' => e = .returned (.bool (rightP l)) ∧ w' = w := by
  have i1 := fun U => Tryd.strings_IndexByte (txB l) 47 U
  have i2 := fun U => Tryd.strings_IndexByte (txB l) 0 U
  have hd := fun U => dots_c l U
  rw [txB_list] at i1 i2
  rw [show ((47 : Int).toNat.toUInt8) = (47 : UInt8) from rfl] at i1
  rw [show ((0 : Int).toNat.toUInt8) = (0 : UInt8) from rfl] at i2
  have hr : rightP l = (decide (¬ (txB l).toList = []) && decide ((txB l).size ≤ 255) && decide (Lib.indexByte l 47 < 0) && decide (Lib.indexByte l 0 < 0) && !dotsP l) := by
    rw [txB_toList, txB_size]
    unfold rightP dotsP
    by_cases a1 : l = [] <;> by_cases a2 : l.length ≤ 255 <;> by_cases a3 : Lib.indexByte l 47 < 0 <;> by_cases a4 : Lib.indexByte l 0 < 0 <;> by_cases a5 : l = [46] <;> by_cases a6 : l = [46, 46] <;> simp [a1, a2, a3, a4, a5, a6]
  generalize Lib.indexByte l 47 = x1 at *
  generalize Lib.indexByte l 0 = x2 at *
  generalize dotsP l = d at *
  rw [hr]
  clear hr
  generalize hL : (txB l).toList = L at *
  have HL := Lib.hid hL
  clear hL
  by_cases a1 : (txB l).toList = []
  · have e0 : L = [] := by rw [← HL.out]; exact a1
    go_enter Tryd.func15, Tryd.ntmps15
    go_wp2
    go_ret
    simp [e0]
  · have e0 : (txB l).toList.isEmpty = false := by rw [List.isEmpty_eq_false_iff]; exact a1
    have e1 : L ≠ [] := by rw [← HL.out]; exact a1
    have H1 := Lib.hid e1
    clear e1
    by_cases a2 : (txB l).size ≤ 255
    · by_cases a3 : x1 < 0
      · by_cases a4 : x2 < 0
        all_goals
          go_enter Tryd.func15, Tryd.ntmps15
          go_wp2_with (
            first
            | (go_at_call 23; first | (refine (i1 _).mono ?_; rintro e w1 ⟨rfl, rfl⟩) | (refine (i2 _).mono ?_; rintro e w1 ⟨rfl, rfl⟩))
            | (go_at_call 16; refine (hd _).mono ?_; rintro e w1 ⟨rfl, rfl⟩))
          go_ret
          simp [H1.out, a2, a3, a4]
          try (intros; omega)
      · go_enter Tryd.func15, Tryd.ntmps15
        go_wp2_with (
          go_at_call 23
          refine (i1 _).mono ?_
          rintro e w1 ⟨rfl, rfl⟩)
        go_ret
        simp [H1.out, a2, a3]
        try (intros; omega)
    · go_enter Tryd.func15, Tryd.ntmps15
      go_wp2
      go_ret
      simp [H1.out, a2]

end Go.Proofs.YtlbekofkhjkniaaDoor
