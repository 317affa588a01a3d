/-
  Parts of the walk's proof: Split, NRights. (joined by pack.py)
-/
import Derived.LoopIn
import Derived.Lib.Join
import Derived.Deep.LoopGhost
import Derived.Test.YtoanccechefclaaGreatDoorK05
import Derived.Test.YtoanccechefclaaGreatDoorK07
import Derived.Test.YtoanccechefclaaGreatDoorK14
set_option linter.unusedSectionVars false
set_option linter.unusedSimpArgs false
set_option linter.unusedVariables false
namespace Go.Proofs.YtoanccechefclaaGreatDoor
open Go Go.RowKit Go.Shelf
attribute [local go_sem] Oper.semAt_some
def txB (l : Bl) : ByteArray := ⟨l.toArray⟩
theorem txB_size (l : Bl) : (txB l).size = l.length := by simp [txB, ByteArray.size]
theorem txB_list (l : Bl) : (txB l).data.toList = l := rfl
def Kb (b1 b2 b3 : Nat) (W W' : World) : Prop := W'.heap[b1]? = W.heap[b1]? ∧ W'.heap[b2]? = W.heap[b2]? ∧ W'.heap[b3]? = W.heap[b3]?
def leftS (bx : Nat) (W : World) : Nat := match W.cell? ⟨bx, 0, none⟩ with | some (.string s) => s.size | _ => 0
structure SplW (W : World) (bp bx bv : Nat) (r : Bl) : Prop where
  sep : W.heap[bp]? = some (.cells #[.string ⟨#[47]⟩] 9 (0, 0))
  str : W.heap[bx]? = some (.cells #[.string (txB r)] 9 (0, 0))
  sav : W.heap[bv]? = some (.cells #[.int .i64 0] 3 (0, 0))
  ne : bx ≠ bp ∧ bx ≠ bv
theorem SplW.kb {W U : World} {bp bx bv : Nat} {r : Bl} (h : SplW W bp bx bv r) (k : Kb bp bx bv W U) : SplW U bp bx bv r := ⟨k.1.trans h.sep, k.2.1.trans h.str, k.2.2.trans h.sav, h.ne⟩
theorem txB_take (r : Bl) (i : Nat) : (txB r).extract 0 i = txB (r.take i) := by
  apply ByteArray.ext
  simp [txB]
theorem txB_drop (r : Bl) (i : Nat) : (txB r).extract i (txB r).size = txB (r.drop i) := by
  apply ByteArray.ext
  rw [txB_size]
  simp only [txB, ByteArray.data_extract, List.extract_toArray, List.extract_eq_take_drop]
  rw [List.take_of_length_le (by rw [List.length_drop]; omega)]
theorem SplW.set {W : World} {bp bx bv : Nat} {r : Bl} (h : SplW W bp bx bv r) (r' : Bl) : SplW (W.setCell ⟨bx, 0, none⟩ (.string (txB r'))) bp bx bv r' ∧ leftS bx (W.setCell ⟨bx, 0, none⟩ (.string (txB r'))) = r'.length := by
  have k := Keep.setCell W ⟨bx, 0, none⟩ (.string (txB r'))
  have hb := heap_setCell_eq (off := 0) (.string (txB r')) h.str
  refine ⟨⟨k.get h.sep (fun q => h.ne.1 (Eq.symm q)), hb, k.get h.sav (fun q => h.ne.2 (Eq.symm q)), h.ne⟩, ?_⟩
  unfold leftS
  rw [cell_blk hb]
  simp [txB_size]
theorem SplW.left {W : World} {bp bx bv : Nat} {r : Bl} (h : SplW W bp bx bv r) : leftS bx W = r.length := by
  unfold leftS
  rw [cell_blk h.str]
  simp [txB_size]
set_option maxRecDepth 100000 in
set_option maxHeartbeats 2000000 in
theorem split1_in (l bp bx bv : Nat) (s : Bl) (hs : s.length ≤ 1000000) (B : Nat) (J Jx : List ByteArray → World → Prop) (hJ : AbidesX B (fun b => b = bx) J)
    (W : World) (hY : ∀ pre x U, J pre U → W.heap.size + 0 ≤ U.heap.size → pre.length ≤ 1000000 → YieldAt Fence.wide 7 Tryz.prog l #[.string x] U fun e U' => (e = .returned (.bool true) ∧ J (pre ++ [x]) U' ∧ Kb bp bx bv U U' ∧ U.heap.size ≤ U'.heap.size) ∨ (e = .returned (.bool false) ∧ Jx (pre ++ [x]) U' ∧ Kb bp bx bv U U'))
    (hW : SplW W bp bx bv s) (h0 : J [] W) :
    CallsIn Fence.wide 8 Tryz.prog 166 #[.func (.yield l) #[] #[], .pointer (some ⟨bp, 0, none⟩), .pointer (some ⟨bx, 0, none⟩), .pointer (some ⟨bv, 0, none⟩)] W fun e U => (∃ v, e = .returned v) ∧
      ((∃ xs, xs = (pieces s).map txB ∧ J xs U) ∨ (∃ pre, pre <+: (pieces s).map txB ∧ Jx pre U)) := by
  have c1 : W.cell? ⟨bp, 0, none⟩ = some (.string ⟨#[47]⟩) := by rw [cell_blk hW.sep]; rfl
  have H := Lib.hid hW
  clear hW
  refine callsIn_of_wp Tryz.func166 rfl trivial ?_ rfl
  simp only [Tryz.ntmps166, List.size_toArray, List.length_cons, List.length_nil, Nat.reduceAdd, Nat.reduceSub, Array.replicate_succ, Array.replicate_zero, List.push_toArray, List.append_toArray, List.nil_append, List.cons_append]
  gi_wp2
  gi_loopw [7, 8] (fun _ _ wr => ∃ (r : Bl) (pre : List Bl), SplW wr bp bx bv r ∧ J (pre.map txB) wr ∧ pre ++ pieces r = pieces s ∧ r.length ≤ s.length ∧ W.heap.size ≤ wr.heap.size) (fun _ _ wr => leftS bx wr)
  case atStart => exact ⟨s, [], H.out, h0, rfl, Nat.le_refl _, Nat.le_refl _⟩
  case round =>
    obtain ⟨r, pre, hS, hj, hp, hl, hwz⟩ := hrel
    have hpl : (pre.map txB).length ≤ 1000000 := by
      rw [List.length_map]
      have h1 := pieces_sum s
      have h2 : (pre ++ pieces r).length = (pieces s).length := by rw [hp]
      rw [List.length_append] at h2
      have h3 := List.length_pos_iff.2 (pieces_ne r)
      omega
    have d1 : wr.cell? ⟨bp, 0, none⟩ = some (.string ⟨#[47]⟩) := by rw [cell_blk hS.sep]; rfl
    have d2 : wr.cell? ⟨bx, 0, none⟩ = some (.string (txB r)) := by rw [cell_blk hS.str]; rfl
    have d3 : wr.cell? ⟨bv, 0, none⟩ = some (.int .i64 0) := by rw [cell_blk hS.sav]; rfl
    have hix := Tryz.strings_Index_one (txB r) 47 wr
    rw [txB_list] at hix
    obtain ⟨ix, hx⟩ : ∃ ix, ix = Lib.indexByte r 47 := ⟨_, rfl⟩
    rw [← hx] at hix
    have HX := Lib.hid hx
    have HL := Lib.hid hS.left
    clear hx
    by_cases hneg : ix < 0
    · have hp2 := pieces_none (l := r) (by rw [← HX.out]; exact hneg)
      obtain ⟨fn, tmps, assign, body, hy, hR⟩ := hY (pre.map txB) (txB r) wr hj (by omega) hpl
      have hfin : (pre ++ [r]).map txB = (pieces s).map txB := by rw [← hp, hp2]
      gi_wp2_with (
        refine ⟨trivial, ?_⟩
        gi_at_call 168
        refine (CallsIn.mono (callsIn_wide.2 hix)) ?_
        rintro e1 U ⟨rfl, hU⟩
        subst hU)
      refine hR.mono ?_
      rintro e U (⟨rfl, hj2, hk2, hz2⟩ | ⟨rfl, hx2, -⟩)
      · gi_wp2
        go_end0
        exact ⟨⟨_, rfl⟩, .inl ⟨_, rfl, by rw [← hfin, List.map_append]; exact hj2⟩⟩
      · gi_wp2
        go_end0
        exact ⟨⟨_, rfl⟩, .inr ⟨_, by rw [← hfin, List.map_append]; exact List.prefix_rfl, hx2⟩⟩
    · obtain ⟨i, rfl⟩ : ∃ i : Nat, ix = (i : Int) := ⟨ix.toNat, by omega⟩
      obtain ⟨hp2, hil⟩ := pieces_some HX.out.symm
      have g1 : ¬ (i : Int) < 0 := by omega
      obtain ⟨fn, tmps, assign, body, hy, hR⟩ := hY (pre.map txB) ((txB r).extract 0 i) wr hj (by omega) hpl
      have g3 : (i : Int) ≤ ((txB r).size : Int) := by rw [txB_size]; omega
      have g4 : IntKind.i64.wrap ((i : Int) + 1) = ((i + 1 : Nat) : Int) := by rw [IntWalk.i64_in _ (by omega)]; omega
      have g5 : ((i + 1 : Nat) : Int) ≤ ((txB r).size : Int) := by rw [txB_size]; omega
      gi_wp2_with (
        refine ⟨trivial, ?_⟩
        gi_at_call 168
        refine (CallsIn.mono (callsIn_wide.2 hix)) ?_
        rintro e1 U ⟨rfl, hU⟩
        subst hU)
      refine hR.mono ?_
      rintro e U (⟨rfl, hj2, hk2, hz2⟩ | ⟨rfl, hx2, -⟩)
      · have hS2 := hS.kb hk2
        have q1 : U.cell? ⟨bp, 0, none⟩ = some (.string ⟨#[47]⟩) := by rw [cell_blk hS2.sep]; rfl
        have q2 : U.cell? ⟨bx, 0, none⟩ = some (.string (txB r)) := by rw [cell_blk hS2.str]; rfl
        have f2 : U.frozen? ⟨bx, 0, none⟩ = false := free_blk hS2.str 0
        have D := Lib.hid (And.intro hS2 (And.intro hj2 hk2))
        clear hS2 hj2 hk2 hR hy hS hj
        gi_wp2
        go_roundw
        case rel =>
          rw [txB_drop]
          refine ⟨r.drop (i + 1), pre ++ [r.take i], (D.out.1.set _).1, hJ _ _ _ ?_ ((Keep.setCell U ⟨bx, 0, none⟩ (.string (txB (r.drop (i + 1))))).mono fun b q => .inl q), by rw [← hp, hp2, List.append_assoc]; rfl, by rw [List.length_drop]; omega, by have h1 := (Keep.setCell U ⟨bx, 0, none⟩ (.string (txB (r.drop (i + 1))))).size; omega⟩
          have h := D.out.2.1
          rw [txB_take] at h
          rw [List.map_append]
          exact h
        case measure =>
          rw [txB_drop, (D.out.1.set _).2, HL.out, List.length_drop]
          omega
      · gi_wp2
        refine bodyPost_ret (results_none rfl _ _ _) rfl ?_
        refine ⟨⟨_, rfl⟩, .inr ⟨_, ?_, hx2⟩⟩
        rw [txB_take, ← hp, hp2, List.map_append, List.map_cons]
        exact ⟨(pieces (r.drop (i + 1))).map txB, by simp⟩
theorem split_seq (bp bx bv : Nat) (s : Bl) (hs : s.length ≤ 1000000) (w : World) (hW : SplW w bp bx bv s) (hb : bp < w.heap.size ∧ bx < w.heap.size ∧ bv < w.heap.size) :
    SeqC 8 Tryz.prog 166 #[.pointer (some ⟨bp, 0, none⟩), .pointer (some ⟨bx, 0, none⟩), .pointer (some ⟨bv, 0, none⟩)] (fun x : ByteArray => Value.string x) (fun _ b => b = bx) 0 (fun _ => Kb bp bx bv)
      (fun xs => xs = (pieces s).map txB) (fun pre => pre <+: (pieces s).map txB) w := fun l J Jx W hB hJ hJx hY h0 => by
  have k := Keep.of_below hB
  refine split1_in l bp bx bv s hs _ J Jx hJ W hY ⟨k.get hW.sep ?_, k.get hW.str ?_, k.get hW.sav ?_, hW.ne⟩ h0 <;> (intro q; omega)
theorem split_c (w : World) (s : ByteArray) :
    Calls Tryz.prog 140 #[.string s, .string ⟨#[47]⟩] w fun r w' => r = .returned (.func (.func 166) #[] #[.pointer (some ⟨w.heap.size + 1, 0, none⟩), .pointer (some ⟨w.heap.size, 0, none⟩), .pointer (some ⟨w.heap.size + 1 + 1, 0, none⟩)]) ∧
      w' = ((w.alloc (.cells #[.string s] 9)).alloc (.cells #[.string ⟨#[47]⟩] 9)).alloc (.cells #[.int .i64 0] 3) := by
  have h1 : Calls Tryz.prog 152 #[.string s, .string ⟨#[47]⟩, .int .i64 0] w fun r w' => r = .returned (.func (.func 166) #[] #[.pointer (some ⟨w.heap.size + 1, 0, none⟩), .pointer (some ⟨w.heap.size, 0, none⟩), .pointer (some ⟨w.heap.size + 1 + 1, 0, none⟩)]) ∧
      w' = ((w.alloc (.cells #[.string s] 9)).alloc (.cells #[.string ⟨#[47]⟩] 9)).alloc (.cells #[.int .i64 0] 3) := by
    go_enter Tryz.func152, Tryz.ntmps152
    go_wp2
    go_ret
    exact ⟨rfl, rfl⟩
  go_enter Tryz.func140, Tryz.ntmps140
  go_wp2_with (
    go_at_call 152
    refine h1.mono ?_
    rintro e w' ⟨rfl, rfl⟩)
  go_ret
  exact ⟨rfl, rfl⟩
end Go.Proofs.YtoanccechefclaaGreatDoor
namespace Go.Proofs.YtoanccechefclaaGreatDoor
open Go Go.RowKit Go.Shelf
attribute [local go_sem] Oper.semAt_some
def dotsP (l : Bl) : Bool := decide (l = [46] ∨ l = [46, 46])
def rightP (l : Bl) : Bool := decide (l ≠ [] ∧ l.length ≤ 255 ∧ Lib.indexByte l 47 < 0 ∧ Lib.indexByte l 0 < 0 ∧ ¬ (l = [46] ∨ l = [46, 46]))
theorem txB_toList (l : Bl) : (txB l).toList = l := by rw [ByteArray.toList_eq]; rfl
set_option maxRecDepth 100000 in
theorem dots_c (l : Bl) (w : World) :
    Calls Tryz.prog 109 #[.string (txB l)] w fun e w' => e = .returned (.bool (dotsP l)) ∧ w' = w := by
  have e3 : dotsP l = (decide ((txB l).toList = [46]) || decide ((txB l).toList = [46, 46])) := by unfold dotsP; rw [txB_toList]; simp
  rw [e3]
  clear e3
  by_cases h1 : (txB l).toList = [46]
  · go_enter Tryz.func109, Tryz.ntmps109
    go_wp2
    go_ret
    simp [h1]
  · by_cases h2 : (txB l).toList = [46, 46]
    all_goals
      go_enter Tryz.func109, Tryz.ntmps109
      go_wp2
      go_ret
      simp [h1, h2]
set_option maxRecDepth 100000 in
set_option maxHeartbeats 1000000 in
theorem right_c (l : Bl) (w : World) :
    Calls Tryz.prog 65 #[.string (txB l)] w fun e w' => e = .returned (.bool (rightP l)) ∧ w' = w := by
  have i1 := fun U => Tryz.strings_IndexByte (txB l) 47 U
  have i2 := fun U => Tryz.strings_IndexByte (txB l) 0 U
  have hd := fun U => dots_c l U
  rw [txB_list] at i1 i2
  rw [show ((47 : Int).toNat.toUInt8) = (47 : UInt8) from rfl] at i1
  rw [show ((0 : Int).toNat.toUInt8) = (0 : UInt8) from rfl] at i2
  have hr : rightP l = (decide (¬ (txB l).toList = []) && decide ((txB l).size ≤ 255) && decide (Lib.indexByte l 47 < 0) && decide (Lib.indexByte l 0 < 0) && !dotsP l) := by
    rw [txB_toList, txB_size]
    unfold rightP dotsP
    by_cases a1 : l = [] <;> by_cases a2 : l.length ≤ 255 <;> by_cases a3 : Lib.indexByte l 47 < 0 <;> by_cases a4 : Lib.indexByte l 0 < 0 <;> by_cases a5 : l = [46] <;> by_cases a6 : l = [46, 46] <;> simp [a1, a2, a3, a4, a5, a6]
  generalize Lib.indexByte l 47 = x1 at *
  generalize Lib.indexByte l 0 = x2 at *
  generalize dotsP l = d at *
  rw [hr]
  clear hr
  generalize hL : (txB l).toList = L at *
  have HL := Lib.hid hL
  clear hL
  by_cases a1 : (txB l).toList = []
  · have e0 : L = [] := by rw [← HL.out]; exact a1
    go_enter Tryz.func65, Tryz.ntmps65
    go_wp2
    go_ret
    simp [e0]
  · have e0 : (txB l).toList.isEmpty = false := by rw [List.isEmpty_eq_false_iff]; exact a1
    have e1 : L ≠ [] := by rw [← HL.out]; exact a1
    have H1 := Lib.hid e1
    clear e1
    by_cases a2 : (txB l).size ≤ 255
    · by_cases a3 : x1 < 0
      · by_cases a4 : x2 < 0
        all_goals
          go_enter Tryz.func65, Tryz.ntmps65
          go_wp2_with (
            first
            | (go_at_call 108; first | (refine (i1 _).mono ?_; rintro e w1 ⟨rfl, rfl⟩) | (refine (i2 _).mono ?_; rintro e w1 ⟨rfl, rfl⟩))
            | (go_at_call 109; refine (hd _).mono ?_; rintro e w1 ⟨rfl, rfl⟩))
          go_ret
          simp [H1.out, a2, a3, a4]
          try (intros; omega)
      · go_enter Tryz.func65, Tryz.ntmps65
        go_wp2_with (
          go_at_call 108
          refine (i1 _).mono ?_
          rintro e w1 ⟨rfl, rfl⟩)
        go_ret
        simp [H1.out, a2, a3]
        try (intros; omega)
    · go_enter Tryz.func65, Tryz.ntmps65
      go_wp2
      go_ret
      simp [H1.out, a2]
end Go.Proofs.YtoanccechefclaaGreatDoor
namespace Go.Proofs.YtoanccechefclaaGreatDoor
open Go Go.RowKit Go.Shelf
attribute [local go_sem] Oper.semAt_some
theorem ixr_iff {l : Bl} {c : UInt8} : 0 ≤ Lib.indexByte l c ↔ c ∈ l := by
  have hge := Lib.indexByte_ge l c
  constructor
  · intro h
    obtain ⟨o, ho⟩ : ∃ o : Nat, Lib.indexByte l c = o := ⟨(Lib.indexByte l c).toNat, by omega⟩
    exact List.mem_of_getElem? (Lib.indexByte_some ho).1
  · intro h
    by_cases hn : Lib.indexByte l c = -1
    · obtain ⟨k, hk⟩ := List.getElem?_of_mem h
      exact absurd hk (Lib.indexByte_none hn k)
    · omega
theorem ixr_lt {l : Bl} {c : UInt8} : Lib.indexByte l c < 0 ↔ c ∉ l := by
  rw [← ixr_iff]; omega
set_option maxRecDepth 100000 in
theorem rdots_c (l : Bl) (w : World) :
    Calls Tryz.prog 113 #[.string (txB l)] w fun e w' => e = .returned (.bool (dotsP l)) ∧ w' = w := by
  have e3 : dotsP l = (decide ((txB l).toList = [46]) || decide ((txB l).toList = [46, 46])) := by unfold dotsP; rw [txB_toList]; simp
  rw [e3]
  clear e3
  by_cases h1 : (txB l).toList = [46]
  · go_enter Tryz.func113, Tryz.ntmps113
    go_wp2
    go_ret
    simp [h1]
  · by_cases h2 : (txB l).toList = [46, 46]
    all_goals
      go_enter Tryz.func113, Tryz.ntmps113
      go_wp2
      go_ret
      simp [h1, h2]
theorem byte_at {X : ByteArray} {l : Bl} (hX : X = txB l) {k : Nat} (h : k < X.size) : ∃ u : UInt8, l[k]? = some u ∧ (X[k]'h).toNat = u.toNat := by
  subst hX
  have hk : k < l.length := by rw [← txB_size]; exact h
  exact ⟨l[k], List.getElem?_eq_getElem hk, rfl⟩
theorem take_notin {l : Bl} {k : Nat} {u c : UInt8} (h : l[k]? = some u) (h0 : c ∉ l.take k) (hc : ¬ c = u) : c ∉ l.take (k + 1) := by
  rw [List.take_add_one, h]
  simp only [Option.toList_some, List.mem_append, List.mem_singleton, not_or]
  exact ⟨h0, hc⟩
theorem right_zero {l : Bl} (h : 0 ∈ l ∨ 47 ∈ l) : rightP l = false := by
  unfold rightP
  rw [decide_eq_false_iff_not]
  rintro ⟨_, _, a, b, _⟩
  rcases h with h | h
  · exact ixr_lt.1 b h
  · exact ixr_lt.1 a h
theorem right_rest {l : Bl} (h0 : 0 ∉ l) (h47 : 47 ∉ l) : rightP l = (decide (1 ≤ l.length) && decide (l.length ≤ 255) && !dotsP l) := by
  unfold rightP dotsP
  have a := ixr_lt.2 h0
  have b := ixr_lt.2 h47
  have c : (l ≠ []) = (1 ≤ l.length) := by
    rw [ne_eq, ← List.length_eq_zero_iff]
    apply propext
    omega
  simp only [c]
  by_cases a1 : 1 ≤ l.length <;> by_cases a2 : l.length ≤ 255 <;> by_cases a5 : l = [46] <;> by_cases a6 : l = [46, 46] <;> simp [a1, a2, a5, a6, a, b]
set_option maxRecDepth 100000 in
set_option maxHeartbeats 2000000 in
theorem rright_c (l : Bl) (w : World) (hl : l.length ≤ 1000000) :
    Calls Tryz.prog 76 #[.string (txB l)] w fun e w' => e = .returned (.bool (rightP l)) ∧ w' = w := by
  obtain ⟨n, hn⟩ : ∃ n, n = l.length := ⟨_, rfl⟩
  have hd := fun U => rdots_c l U
  obtain ⟨X, hX⟩ : ∃ X, X = txB l := ⟨_, rfl⟩
  have hXs : X.size = n := by rw [hX, txB_size, hn]
  rw [← hX] at hd ⊢
  have HX := Lib.hid (And.intro hX hn)
  rw [← hn] at hl
  clear hX hn
  obtain ⟨res, hres⟩ : ∃ res, res = rightP l := ⟨_, rfl⟩
  rw [← hres]
  have HR := Lib.hid hres
  clear hres
  obtain ⟨dd, hdd⟩ : ∃ dd, dd = dotsP l := ⟨_, rfl⟩
  rw [← hdd] at hd
  have HD := Lib.hid hdd
  clear hdd
  go_enter Tryz.func76, Tryz.ntmps76
  go_wp2
  go_loopg [3] n (fun g s3 wr => ∃ k : Nat, s3 = .int .i64 k ∧ k + g = n ∧ 0 ∉ l.take k ∧ 47 ∉ l.take k ∧ wr = w)
  case atStart => exact ⟨0, rfl, by omega, by simp, by simp, rfl⟩
  case round =>
    obtain ⟨k, rfl, hk, h0, h47, rfl⟩ := hrel
    have T := Lib.hid (And.intro h0 h47)
    clear h0 h47
    by_cases hlk : k < n
    · have g3 : (k : Int) < (n : Int) := by omega
      have hlt : k < X.size := by omega
      obtain ⟨u, hu, hc⟩ := byte_at HX.out.1 hlt
      have HU := Lib.hid hu
      clear hu
      by_cases u0 : u = 0
      · subst u0
        have hc : (X[k]'hlt).toNat = 0 := hc
        go_wp2
        go_ret
        refine ⟨?_, rfl⟩
        rw [HR.out, right_zero (.inl (List.mem_of_getElem? HU.out))]
        rfl
      · by_cases u47 : u = 47
        · subst u47
          have hc : (X[k]'hlt).toNat = 47 := hc
          go_wp2
          go_ret
          refine ⟨?_, rfl⟩
          rw [HR.out, right_zero (.inr (List.mem_of_getElem? HU.out))]
          rfl
        · obtain ⟨c, hcc⟩ : ∃ c, c = u.toNat := ⟨_, rfl⟩
          rw [← hcc] at hc
          have c0 : ¬ c = 0 := fun e => u0 (UInt8.toNat_inj.1 (by rw [← hcc, e]; rfl))
          have c47 : ¬ c = 47 := fun e => u47 (UInt8.toNat_inj.1 (by rw [← hcc, e]; rfl))
          have b0 : ((c : Int) == 0) = false := by simp [c0]
          have b47 : ((c : Int) == 47) = false := by simp; omega
          have HT := Lib.hid (show 0 ∉ l.take (k + 1) ∧ 47 ∉ l.take (k + 1) by
            have := take_notin HU.out T.out.1 (fun e => u0 e.symm)
            exact ⟨this, take_notin HU.out T.out.2 (fun e => u47 e.symm)⟩)
          clear hcc u0 u47
          go_wp2
          go_roundg (n - (k + 1))
          case measure => omega
          case rel => exact ⟨k + 1, rfl, by omega, HT.out.1, HT.out.2, rfl⟩
    · have g3 : ¬ (k : Int) < (n : Int) := by omega
      have hk2 : l.take k = l := List.take_of_length_le (by rw [← HX.out.2]; omega)
      rw [hk2] at T
      have hr := right_rest T.out.1 T.out.2
      rw [← HX.out.2, ← HD.out, ← HR.out] at hr
      have HF := Lib.hid hr
      clear hr hk2
      by_cases n0 : 1 ≤ n
      · by_cases n1 : n ≤ 255
        · go_wp2_with (
            go_at_call 113
            refine (hd _).mono ?_
            rintro e w9 ⟨rfl, rfl⟩)
          go_ret
          refine ⟨?_, rfl⟩
          rw [HF.out]
          simp [n0, n1]
        · go_wp2
          go_ret
          refine ⟨?_, rfl⟩
          rw [HF.out]
          simp [n0, n1]
      · go_wp2
        go_ret
        refine ⟨?_, rfl⟩
        rw [HF.out]
        simp [n0]
end Go.Proofs.YtoanccechefclaaGreatDoor
