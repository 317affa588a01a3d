/-
  The document's Read of a path.
-/
import Derived.Test.YtlbekofkhjkniaaDoorRName1
import Derived.Deep.LoopGhost
import Derived.Deep.RegionHeld3
import Derived.BigRegion
namespace Go.Proofs.YtlbekofkhjkniaaDoor
open Go Go.RowKit Go.Shelf
set_option linter.unusedSectionVars false
set_option linter.unusedSimpArgs false
set_option linter.unusedVariables false
attribute [local go_sem] Oper.semAt_some

/-- A path in memory, its parts laid so far. -/
def HoldP (t : TypeId) (w : World) (b : Nat) (r1 r2 : Bool) (v : Value) (xs : List Value) (U : World) : Prop :=
  Keep w U (fun _ => False) ∧ U.heap[b]? = some (.cells #[.bool r1, .bool r2, v] t (0, 0)) ∧ U.ownsRow 0 9 1 v xs.length xs ∧ ∀ c, v.ownBlock = some c → b < c

theorem HoldP.push {t : TypeId} {w wr w8 : World} {b : Nat} {r1 r2 : Bool} {v v8 y : Value} {xs : List Value} (hI : HoldP t w b r1 r2 v xs wr) (hb : w.heap.size ≤ b) (K8 : Keep wr w8 (fun c => v.ownBlock = some c)) {q3 : Nat} (hq : xs.length = q3)
    (h8 : w8.ownsRow 0 9 1 v8 (q3 + 1) (xs ++ [y])) (hf : ∀ c, v8.ownBlock = some c → v.ownBlock = some c ∨ wr.heap.size ≤ c) : HoldP t w b r1 r2 v8 (xs ++ [y]) (w8.setCell ⟨b, 2, none⟩ v8) := by
  subst hq
  obtain ⟨k, h1, h2, h3⟩ := hI
  have hlt := lt_of_blk h1
  have b8 := K8.get h1 (fun q => by have := h3 b q; omega)
  have ks := Keep.setCell w8 ⟨b, 2, none⟩ v8
  have own8 : ∀ c, v8.ownBlock = some c → b < c := fun c q => by
    rcases hf c q with z | z
    · exact h3 c z
    · omega
  refine ⟨(k.trans K8 (fun c q => .inr (by have := h3 c q; omega))).trans ks (fun c q => .inr (by have q' : c = b := q; omega)), heap_setCell_eq (off := 2) v8 b8, ?_, own8⟩
  rw [List.length_append, List.length_singleton]
  exact rows_keep h8 ks (fun c q z => by have := own8 c q; have z' : c = b := z; omega)

/-! ### cutting at slashes, byte by byte -/

def SplitI (l : Bl) (P : List Bl) (fr i : Nat) : Prop := fr ≤ i ∧ (i ≤ l.length ∨ fr = i) ∧ parts l = P ++ parts (l.drop fr) ∧ 47 ∉ (l.drop fr).take (i - fr)

theorem SplitI.nil (l : Bl) : SplitI l [] 0 0 := ⟨Nat.le_refl _, .inl (Nat.zero_le _), by simp, by simp⟩

theorem SplitI.step {l : Bl} {P : List Bl} {fr i : Nat} (h : SplitI l P fr i) {u : UInt8} (hu : l[i]? = some u) (h47 : ¬ u = 47) : SplitI l P fr (i + 1) := by
  obtain ⟨h1, h2, h3, h4⟩ := h
  have hi : i < l.length := (List.getElem?_eq_some_iff.1 hu).1
  refine ⟨by omega, .inl (by omega), h3, ?_⟩
  rw [show i + 1 - fr = i - fr + 1 from by omega]
  refine take_notin (u := u) ?_ h4 (fun e => h47 e.symm)
  rw [List.getElem?_drop, show fr + (i - fr) = i from by omega, hu]

theorem SplitI.cut {l : Bl} {P : List Bl} {fr i : Nat} (h : SplitI l P fr i) (hi : i ≤ l.length) (hs : l[i]? = some 47 ∨ i = l.length) : SplitI l (P ++ if fr < i then [(l.drop fr).take (i - fr)] else []) (i + 1) (i + 1) := by
  obtain ⟨h1, h2, h3, h4⟩ := h
  refine ⟨Nat.le_refl _, .inr rfl, ?_, by simp⟩
  have hx : parts ((l.drop fr).take (i - fr)) = if fr < i then [(l.drop fr).take (i - fr)] else [] := by
    split
    · refine parts_free h4 (fun e => ?_)
      have := congrArg List.length e
      rw [List.length_take, List.length_drop, List.length_nil] at this
      omega
    · rw [show i - fr = 0 from by omega, List.take_zero]; rfl
  have hd : parts (l.drop fr) = parts ((l.drop fr).take (i - fr)) ++ parts (l.drop (i + 1)) := by
    rcases hs with hs | hs
    · have e : l.drop fr = (l.drop fr).take (i - fr) ++ 47 :: l.drop (i + 1) := by
        have e1 := (List.take_append_drop (i - fr) (l.drop fr)).symm
        rw [List.drop_drop, show fr + (i - fr) = i from by omega] at e1
        have hil : i < l.length := (List.getElem?_eq_some_iff.1 hs).1
        have e2 : l.drop i = 47 :: l.drop (i + 1) := by
          rw [List.drop_eq_getElem_cons hil]
          rw [List.getElem?_eq_getElem hil] at hs
          rw [Option.some.inj hs]
        rw [e2] at e1
        exact e1
      conv => lhs; rw [e]
      rw [parts_append]
    · rw [List.take_of_length_le (by rw [List.length_drop]; omega), List.drop_of_length_le (show l.length ≤ i + 1 by omega), parts_nil, List.append_nil]
  rw [h3, hd, hx, List.append_assoc]

theorem SplitI.done {l : Bl} {P : List Bl} {fr : Nat} (h : SplitI l P fr (l.length + 1)) : parts l = P := by
  obtain ⟨h1, h2, h3, h4⟩ := h
  have e : fr = l.length + 1 := by omega
  rw [h3, e, List.drop_of_length_le (by omega), parts_nil, List.append_nil]

theorem extract_txB (l : Bl) (a b : Nat) : (txB l).extract a b = txB ((l.drop a).take (b - a)) := by
  apply ByteArray.ext
  rw [ByteArray.data_extract]
  show (l.toArray).extract a b = ((l.drop a).take (b - a)).toArray
  apply Array.ext'
  simp

theorem at_eqX {X : ByteArray} {s : Bl} (hX : X = txB s) {i : Nat} (h : i < X.size) : (((X[i]'h).toNat : Int) == 47) = decide (s[i]? = some 47) := by
  subst hX
  exact at_eq s i h

theorem rread_res {W : World} {b2 : Nat} {r1 r2 : Bool} {v : Value} {e : Int} {T : Array Value} (z2 : W.heap[b2]? = some (.cells #[.bool r1, .bool r2, v] 38 (0, 0)))
    (h2 : T.getD 2 undef = .pointer (some ⟨b2, 0, none⟩)) (h3 : T.getD 3 undef = .int .i64 e) : (results Tryd.f17 T).run Tryd.prog W = .ok (.tuple #[.agg #[.bool r1, .bool r2, v], .int .i64 e]) W := by
  have y0 : W.cell? ⟨b2, 0, none⟩ = some (.bool r1) := by rw [cell_blk z2]; rfl
  have y1 : W.cell? ⟨b2, 1, none⟩ = some (.bool r2) := by rw [cell_blk z2]; rfl
  have y2 : W.cell? ⟨b2, 2, none⟩ = some v := by rw [cell_blk z2]; rfl
  have h2' : T[2]?.getD undef = .pointer (some ⟨b2, 0, none⟩) := by simpa using h2
  have h3' : T[3]?.getD undef = .int .i64 e := by simpa using h3
  simp [results, Tryd.results17, go_sem, h2', h3', y0, y1, y2]

set_option maxRecDepth 100000 in
set_option maxHeartbeats 4000000 in
theorem rread_c (s : Bl) (w : World) (hs : s.length ≤ 1000000) :
    Calls Tryd.prog 17 #[.string (txB s)] w fun r w' => ∃ v, r = .returned (.tuple #[.agg #[.bool (readP s).1.1, .bool (readP s).1.2.1, v], .int .i64 (readP s).2]) ∧ w'.ownsRow 0 9 1 v (readP s).1.2.2.length ((readP s).1.2.2.map txV) ∧ Keep w w' (fun _ => False) := by
  have hrq := readP_eq s
  generalize readP s = R at *
  have HRQ := Lib.hid hrq
  clear hrq
  obtain ⟨n, hn⟩ : ∃ n, n = s.length := ⟨_, rfl⟩
  obtain ⟨X, hX⟩ : ∃ X, X = txB s := ⟨_, rfl⟩
  have hXs : X.size = n := by rw [hX, txB_size, hn]
  have hXl : X.toList = s := by rw [hX, txB_toList]
  rw [← hX]
  have HX := Lib.hid (And.intro hX hn)
  rw [← hn] at hs
  clear hX hn
  obtain ⟨W0, hW0⟩ : ∃ W0, W0 = w.alloc (.cells #[.bool false, .bool false, .slice none 0 0] 38) := ⟨_, rfl⟩
  have k0 := Keep.alloc w (.cells #[.bool false, .bool false, .slice none 0 0] 38) (fun _ => False)
  have b0 := heap_alloc_eq w (.cells #[.bool false, .bool false, .slice none 0 0] 38)
  rw [← hW0] at k0 b0
  have hz0 : W0.heap.size = w.heap.size + 1 := by rw [hW0]; simp
  have HW := Lib.hid (And.intro hW0 (And.intro k0 (And.intro b0 hz0)))
  clear hW0 k0 b0 hz0
  go_enter Tryd.func17, Tryd.ntmps17
  go_upto_region 1 with (fail)
  rw [← HW.out.1]
  by_cases h0 : s = []
  · have e0 : X.toList.isEmpty = true := by rw [hXl, h0]; rfl
    have H0 := Lib.hid (show R = ((false, false, []), 32) by rw [HRQ.out, if_pos h0])
    have b0 := HW.out.2.2.1
    have c0 := cell_blk b0 0
    have c1 := cell_blk b0 1
    have c2 := cell_blk b0 2
    have f0 := free_blk b0 0
    have f1 := free_blk b0 1
    have f2 := free_blk b0 2
    simp only [List.getElem?_toArray, List.getElem?_cons_zero, List.getElem?_cons_succ] at c0 c1 c2
    have s1 := heap_setCell_eq (off := 0) (Value.bool false) b0
    have s2 := heap_setCell_eq (off := 1) (Value.bool false) s1
    have s3 := heap_setCell_eq (off := 2) (Value.slice none 0 0) s2
    have k3 := ((Keep.setCell W0 ⟨w.heap.size, 0, none⟩ (.bool false)).trans (Keep.setCell _ ⟨w.heap.size, 1, none⟩ (.bool false)) (fun b q => .inl q)).trans (Keep.setCell _ ⟨w.heap.size, 2, none⟩ (.slice none 0 0)) (fun b q => .inl q)
    have DD := Lib.hid (And.intro s3 (HW.out.2.1.trans k3 (fun b q => .inr (by have q' : b = w.heap.size := q; omega))))
    clear h0 hXl b0 s1 s2 s3 k3
    go_wp2
    refine bodyPost_ret (rread_res (b2 := w.heap.size) DD.out.1 rfl rfl) rfl ?_
    rw [H0.out]
    exact ⟨_, rfl, rows_nil _ _ _, DD.out.2⟩
  · have e0 : ¬ X.toList = [] := by rw [hXl]; exact h0
    have e0' : X.toList.isEmpty = false := by rw [List.isEmpty_eq_false_iff]; exact e0
    by_cases h1 : 4096 < s.length
    · have g1 : (4096 : Int) < (n : Int) := by have := HX.out.2; omega
      have H0 := Lib.hid (show R = ((false, false, []), 45) by rw [HRQ.out, if_neg h0, if_pos h1])
      have b0 := HW.out.2.2.1
      have c0 := cell_blk b0 0
      have c1 := cell_blk b0 1
      have c2 := cell_blk b0 2
      have f0 := free_blk b0 0
      have f1 := free_blk b0 1
      have f2 := free_blk b0 2
      simp only [List.getElem?_toArray, List.getElem?_cons_zero, List.getElem?_cons_succ] at c0 c1 c2
      have s1 := heap_setCell_eq (off := 0) (Value.bool false) b0
      have s2 := heap_setCell_eq (off := 1) (Value.bool false) s1
      have s3 := heap_setCell_eq (off := 2) (Value.slice none 0 0) s2
      have k3 := ((Keep.setCell W0 ⟨w.heap.size, 0, none⟩ (.bool false)).trans (Keep.setCell _ ⟨w.heap.size, 1, none⟩ (.bool false)) (fun b q => .inl q)).trans (Keep.setCell _ ⟨w.heap.size, 2, none⟩ (.slice none 0 0)) (fun b q => .inl q)
      have DD := Lib.hid (And.intro s3 (HW.out.2.1.trans k3 (fun b q => .inr (by have q' : b = w.heap.size := q; omega))))
      clear h0 h1 hXl b0 s1 s2 s3 k3
      go_wp2
      refine bodyPost_ret (rread_res (b2 := w.heap.size) DD.out.1 rfl rfl) rfl ?_
      rw [H0.out]
      exact ⟨_, rfl, rows_nil _ _ _, DD.out.2⟩
    · have g1 : ¬ (4096 : Int) < (n : Int) := by have := HX.out.2; omega
      have n4 : n ≤ 4096 := by omega
      have HRQ2 := Lib.hid (show R = if 0 ∈ s then ((false, false, []), 39) else if ∃ p ∈ parts s, 255 < p.length then ((false, false, []), 45) else ((decide (s.head? = some 47), decide (s.getLast? = some 47), parts s), 0) by rw [HRQ.out, if_neg h0, if_neg h1])
      have HS := Lib.hid (And.intro h0 h1)
      have hn0 : 0 < n := by
        have := HX.out.2
        rcases Nat.eq_zero_or_pos s.length with h | h
        · exact absurd (List.length_eq_zero_iff.1 h) h0
        · omega
      clear h0 h1 hXl HRQ
      go_wp2
      go_loopg [4] n (fun g s4 wr => ∃ k : Nat, s4 = .int .i64 k ∧ k + g = n ∧ 0 ∉ s.take k ∧ wr = W0)
      case atStart => exact ⟨0, rfl, by omega, by simp, rfl⟩
      case round =>
        obtain ⟨k, rfl, hk, hz, rfl⟩ := hrel
        have T := Lib.hid hz
        clear hz
        by_cases hlk : k < n
        · have g3 : (k : Int) < (n : Int) := by omega
          have hlt : k < X.size := by omega
          obtain ⟨u, hu, hc⟩ := byte_at HX.out.1 hlt
          have HU := Lib.hid hu
          clear hu
          by_cases u0 : u = 0
          · subst u0
            have hc : (X[k]'hlt).toNat = 0 := hc
            have H0 := Lib.hid (show R = ((false, false, []), 39) by rw [HRQ2.out, if_pos (List.mem_of_getElem? HU.out)])
            have b0 := HW.out.2.2.1
            have c0 := cell_blk b0 0
            have c1 := cell_blk b0 1
            have c2 := cell_blk b0 2
            have f0 := free_blk b0 0
            have f1 := free_blk b0 1
            have f2 := free_blk b0 2
            simp only [List.getElem?_toArray, List.getElem?_cons_zero, List.getElem?_cons_succ] at c0 c1 c2
            have s1 := heap_setCell_eq (off := 0) (Value.bool false) b0
            have s2 := heap_setCell_eq (off := 1) (Value.bool false) s1
            have s3 := heap_setCell_eq (off := 2) (Value.slice none 0 0) s2
            have k3 := ((Keep.setCell wr ⟨w.heap.size, 0, none⟩ (.bool false)).trans (Keep.setCell _ ⟨w.heap.size, 1, none⟩ (.bool false)) (fun b q => .inl q)).trans (Keep.setCell _ ⟨w.heap.size, 2, none⟩ (.slice none 0 0)) (fun b q => .inl q)
            have DD := Lib.hid (And.intro s3 (HW.out.2.1.trans k3 (fun b q => .inr (by have q' : b = w.heap.size := q; omega))))
            clear b0 s1 s2 s3 k3
            go_wp2
            refine bodyPost_ret (rread_res (b2 := w.heap.size) DD.out.1 rfl rfl) rfl ?_
            rw [H0.out]
            exact ⟨_, rfl, rows_nil _ _ _, DD.out.2⟩
          · obtain ⟨c, hcc⟩ : ∃ c, c = u.toNat := ⟨_, rfl⟩
            rw [← hcc] at hc
            have c0 : ¬ c = 0 := fun e => u0 (UInt8.toNat_inj.1 (by rw [← hcc, e]; rfl))
            have b0 : ((c : Int) == 0) = false := by simp [c0]
            have HT := Lib.hid (take_notin HU.out T.out (fun e => u0 e.symm))
            clear hcc u0
            go_wp2
            go_roundg (n - (k + 1))
            case measure => omega
            case rel => exact ⟨k + 1, rfl, by omega, HT.out, rfl⟩
        · have g3 : ¬ (k : Int) < (n : Int) := by omega
          obtain ⟨W0, hwr⟩ : ∃ W0, W0 = wr := ⟨_, rfl⟩
          subst hwr
          have hk2 : s.take k = s := List.take_of_length_le (by rw [← HX.out.2]; omega)
          rw [hk2] at T
          have HRQ3 := Lib.hid (show R = if ∃ p ∈ parts s, 255 < p.length then ((false, false, []), 45) else ((decide (s.head? = some 47), decide (s.getLast? = some 47), parts s), 0) by rw [HRQ2.out, if_neg T.out])
          clear hk2
          go_upto_region 10 with (fail)
          have g3 : (0 : Int) < (n : Int) := by omega
          have g4 : IntKind.i64.wrap ((n : Int) - 1) = (n : Int) - 1 := IntWalk.i64_in _ (by omega)
          have g5 : (0 : Int) ≤ (n : Int) - 1 := by omega
          have g6 : (n : Int) - 1 < (n : Int) := by omega
          have g7 : ((n : Int) - 1).toNat = n - 1 := by omega
          have g8 : (1 : Int) ≤ (n : Int) := by omega
          have g9 : 1 ≤ n := hn0
          obtain ⟨r1, hr1⟩ : ∃ r1 : Bool, r1 = (((X[0]'(by omega)).toNat : Int) == 47) := ⟨_, rfl⟩
          obtain ⟨r2, hr2⟩ : ∃ r2 : Bool, r2 = (((X[n - 1]'(by omega)).toNat : Int) == 47) := ⟨_, rfl⟩
          have HR := Lib.hid (And.intro hr1 hr2)
          clear hr1 hr2
          go_region
          rw [← HR.out.1, ← HR.out.2]
          obtain ⟨W1, hW1⟩ : ∃ W1, W1 = (W0.alloc (.cells #[.bool r1, .bool r2, .slice none 0 0] 38)).drew := ⟨_, rfl⟩
          have hP : HoldP 38 W0 W0.heap.size r1 r2 (.slice none 0 0) [] W1 := by
            rw [hW1]
            exact ⟨(Keep.alloc _ _ _).trans (Keep.drew _ _) (fun _ q => q), (Keep.drew _ (fun _ => False)).get (heap_alloc_eq W0 _) (fun q => q), rows_nil _ _ _, fun c q => by simp [Value.ownBlock] at q⟩
          rw [← hW1]
          have hr1 : r1 = decide (s.head? = some 47) := by rw [HR.out.1, at_eqX HX.out.1, List.head?_eq_getElem?]
          have hr2 : r2 = decide (s.getLast? = some 47) := by rw [HR.out.2, at_eqX HX.out.1, List.getLast?_eq_getElem?, ← HX.out.2]
          have HQ := Lib.hid (show R = if ∃ p ∈ parts s, 255 < p.length then ((false, false, []), 45) else ((r1, r2, parts s), 0) by rw [HRQ3.out, ← hr1, ← hr2])
          have HP := Lib.hid hP
          clear hP hW1 hr1 hr2 HR HRQ2 HRQ3
          go_wp2
          go_loopg [6, 7] (n + 1) (fun g s6 s7 wr => ∃ (fr i : Nat) (P : List Bl) (v : Value), s6 = .int .i64 fr ∧ s7 = .int .i64 i ∧ i + g = n + 1 ∧ SplitI s P fr i ∧ HoldP 38 W0 W0.heap.size r1 r2 v (P.map txV) wr)
          case atStart => exact ⟨0, 0, [], _, rfl, rfl, by omega, SplitI.nil _, HP.out⟩
          case round =>
            obtain ⟨fr, i, P, v, rfl, rfl, hi, hS, hI⟩ := hrel
            obtain ⟨q3, hq3⟩ : ∃ q3, (P.map txV).length = q3 := ⟨_, rfl⟩
            have hrow := hI.2.2.1
            rw [hq3] at hrow
            obtain ⟨a5, c5, rfl, hc5⟩ := rows_val2 hrow
            clear hrow hc5
            have hb := hI.2.1
            have e0 := cell_blk hb 0
            have e1 := cell_blk hb 1
            have e2 := cell_blk hb 2
            have fz := free_blk hb 2
            simp only [List.getElem?_toArray, List.getElem?_cons_zero, List.getElem?_cons_succ] at e0 e1 e2
            have HI := Lib.hid hI
            have HSp := Lib.hid hS
            have HQ3 := Lib.hid hq3
            clear hI hb hq3
            obtain ⟨W2, hwr⟩ : ∃ W2, W2 = wr := ⟨_, rfl⟩
            subst hwr
            have hfi := hS.1
            clear hS
            by_cases hle : i ≤ n
            · have g3 : (i : Int) ≤ (n : Int) := by omega
              by_cases hA : i < n ∧ ¬ s[i]? = some 47
              · obtain ⟨hlt0, h47⟩ := hA
                have g4 : (i : Int) < (n : Int) := by omega
                have hlt : i < X.size := by omega
                obtain ⟨u, hu, hc⟩ := byte_at HX.out.1 hlt
                have u47 : ¬ u = 47 := fun e => h47 (by rw [hu, e])
                obtain ⟨c, hcc⟩ : ∃ c, c = u.toNat := ⟨_, rfl⟩
                rw [← hcc] at hc
                have c47 : ¬ c = 47 := fun e => u47 (UInt8.toNat_inj.1 (by rw [← hcc, e]; rfl))
                have b47 : ((c : Int) == 47) = false := by simp; omega
                have b47' : ((c : Int) != 47) = true := by simp; omega
                have HT := Lib.hid (HSp.out.step hu u47)
                clear hcc u47 hu h47
                go_wp2
                go_roundg (n + 1 - (i + 1))
                case measure => omega
                case rel => exact ⟨fr, i + 1, P, _, rfl, rfl, by omega, HT.out, HI.out⟩
              · have hst : s[i]? = some 47 ∨ i = s.length := by
                  by_cases h : s[i]? = some 47
                  · exact .inl h
                  · right
                    have := HX.out.2
                    by_cases h2 : i < n
                    · exact absurd ⟨h2, h⟩ hA
                    · omega
                have HCut := Lib.hid (HSp.out.cut (by have := HX.out.2; omega) hst)
                by_cases hin : i < n
                · have hlt : i < X.size := by omega
                  have g4 : (i : Int) < (n : Int) := by omega
                  obtain ⟨u, hu, hc⟩ := byte_at HX.out.1 hlt
                  have u47 : u = 47 := by
                    rcases hst with h | h
                    · rw [h] at hu; exact (Option.some.inj hu).symm
                    · have := HX.out.2; omega
                  subst u47
                  have hc : (X[i]'hlt).toNat = 47 := hc
                  clear hu hst hA
                  go_upto_if 55 with (fail)
                  by_cases hfr : fr < i
                  · have g5 : (fr : Int) < (i : Int) := by omega
                    have g6 : (fr : Int) ≤ (i : Int) := by omega
                    have g7 : fr ≤ i := by omega
                    have g8 : (i : Int) ≤ (n : Int) := by omega
                    have hcu := HCut.out
                    rw [if_pos hfr] at hcu
                    have HCu := Lib.hid hcu
                    clear hcu
                    obtain ⟨ti, ti1, ti2, ti3, ti4⟩ := str_info
                    have hz1 : (Value.string ByteArray.empty).cells.size = 1 := rfl
                    have ka : Keep W2 (World.drew (W2.alloc (.cells #[.string (X.extract fr i)] 9))) (fun _ => False) := (Keep.alloc _ _ _).trans (Keep.drew _ _) (fun _ q => q)
                    have ra := rows_keep HI.out.2.2.1 ka (fun _ _ q => q)
                    rw [HQ3.out] at ra
                    have cn : ∀ j u, [Value.string (X.extract fr i)][j]? = some u → (World.drew (W2.alloc (.cells #[.string (X.extract fr i)] 9))).cell? ((⟨W2.heap.size, 0, none⟩ : Addr).add j) = some u := fun j u hj => cells_new W2 [.string (X.extract fr i)] 9 j u hj
                    have za : (World.drew (W2.alloc (.cells #[.string (X.extract fr i)] 9))).heap.size = W2.heap.size + 1 := by show (W2.alloc (.cells #[.string (X.extract fr i)] 9)).heap.size = _; simp
                    have e2a := (Keep.alloc W2 (.cells #[.string (X.extract fr i)] 9) (fun _ => False)).cell e2 (fun q => q)
                    have e2d := ka.cell e2 (fun q => q)
                    have hb1 := lt_of_blk HI.out.2.1
                    have q5 : q3 ≤ 5000 := by
                      have h1 := HSp.out.2.2.1
                      have h2 := parts_sum s (List.Sublist.refl _)
                      have h3 := HQ3.out
                      rw [List.length_map] at h3
                      have h4 := HX.out.2
                      rw [h1, List.map_append, List.length_append] at h2
                      omega
                    have hxe : txV ((s.drop fr).take (i - fr)) = .string (X.extract fr i) := by rw [HX.out.1, extract_txB]
                    have RA := Lib.hid (And.intro ra (And.intro cn (And.intro ka (And.intro za (And.intro ti1 (And.intro ti2 (And.intro ti3 (And.intro ti4 hxe))))))))
                    clear ra cn ka za ti1 ti2 ti3 ti4 e0 e1 hxe
                    go_upto_region 17 with (fail)
                    go_region_law (first
                      | (refine step_append_row rfl _ _ _ (by rfl) Tryd.underlying26 RA.out.2.2.2.2.1 RA.out.2.2.2.2.2.1 RA.out.2.2.2.2.2.2.1 RA.out.2.2.2.2.2.2.2.1 hz1 (by omega) (by rfl) RA.out.1 [.string (X.extract fr i)] (by rfl) rfl (.inr ⟨_, rfl, RA.out.2.1⟩) (fun u hu => by rw [List.mem_singleton.1 hu]; rfl) (by omega) (q3 + 1) rfl (P.map txV ++ [txV ((s.drop fr).take (i - fr))]) (by rw [RA.out.2.2.2.2.2.2.2.2]) ?_
                         intro a8 c8 w8 h8 k8 f8
                         have K8 : Keep W2 w8 (fun c => (Value.slice a5 q3 c5).ownBlock = some c) := (RA.out.2.2.1.mono (fun _ q => q.elim)).trans k8 (fun c q => .inl q.symm)
                         have B8 := K8.get HI.out.2.1 (fun q => by have := HI.out.2.2.2 _ q; omega)
                         have d8 : w8.cell? ⟨W0.heap.size, 2, none⟩ = some (.slice a5 q3 c5) := by rw [cell_blk B8]; rfl
                         have fr8 : w8.frozen? ⟨W0.heap.size, 2, none⟩ = false := free_blk B8 _
                         have F8 : ∀ c, (Value.slice a8 (q3 + 1) c8).ownBlock = some c → (Value.slice a5 q3 c5).ownBlock = some c ∨ W2.heap.size ≤ c := fun c q => by
                           rcases f8 c q with z | z
                           · exact .inl z
                           · right; rw [z, RA.out.2.2.2.1]; omega
                         have N8 := Lib.hid (HoldP.push HI.out (Nat.le_refl _) K8 HQ3.out h8 F8)
                         clear h8 k8 f8 K8 B8 F8))
                    all_goals
                      obtain ⟨wz, hwz⟩ : ∃ wz, wz = w8.setCell ⟨W0.heap.size, 2, none⟩ (.slice a8 (q3 + 1) c8) := ⟨_, rfl⟩
                      rw [← hwz] at N8 ⊢
                      clear hwz d8 fr8
                      go_wp2
                      go_roundg (n + 1 - (i + 1))
                      case measure => omega
                      case rel => exact ⟨i + 1, i + 1, P ++ [(s.drop fr).take (i - fr)], _, rfl, rfl, by omega, HCu.out, by rw [List.map_append]; exact N8.out⟩
                  · have g5 : ¬ (fr : Int) < (i : Int) := by omega
                    have hcu := HCut.out
                    rw [if_neg hfr, List.append_nil] at hcu
                    have HCu := Lib.hid hcu
                    clear hcu
                    go_wp2
                    go_roundg (n + 1 - (i + 1))
                    case measure => omega
                    case rel => exact ⟨i + 1, i + 1, P, _, rfl, rfl, by omega, HCu.out, HI.out⟩
                · have g4 : ¬ (i : Int) < (n : Int) := by omega
                  clear hst hA
                  go_upto_if 55 with (fail)
                  by_cases hfr : fr < i
                  · have g5 : (fr : Int) < (i : Int) := by omega
                    have g6 : (fr : Int) ≤ (i : Int) := by omega
                    have g7 : fr ≤ i := by omega
                    have g8 : (i : Int) ≤ (n : Int) := by omega
                    have hcu := HCut.out
                    rw [if_pos hfr] at hcu
                    have HCu := Lib.hid hcu
                    clear hcu
                    obtain ⟨ti, ti1, ti2, ti3, ti4⟩ := str_info
                    have hz1 : (Value.string ByteArray.empty).cells.size = 1 := rfl
                    have ka : Keep W2 (World.drew (W2.alloc (.cells #[.string (X.extract fr i)] 9))) (fun _ => False) := (Keep.alloc _ _ _).trans (Keep.drew _ _) (fun _ q => q)
                    have ra := rows_keep HI.out.2.2.1 ka (fun _ _ q => q)
                    rw [HQ3.out] at ra
                    have cn : ∀ j u, [Value.string (X.extract fr i)][j]? = some u → (World.drew (W2.alloc (.cells #[.string (X.extract fr i)] 9))).cell? ((⟨W2.heap.size, 0, none⟩ : Addr).add j) = some u := fun j u hj => cells_new W2 [.string (X.extract fr i)] 9 j u hj
                    have za : (World.drew (W2.alloc (.cells #[.string (X.extract fr i)] 9))).heap.size = W2.heap.size + 1 := by show (W2.alloc (.cells #[.string (X.extract fr i)] 9)).heap.size = _; simp
                    have e2a := (Keep.alloc W2 (.cells #[.string (X.extract fr i)] 9) (fun _ => False)).cell e2 (fun q => q)
                    have e2d := ka.cell e2 (fun q => q)
                    have hb1 := lt_of_blk HI.out.2.1
                    have q5 : q3 ≤ 5000 := by
                      have h1 := HSp.out.2.2.1
                      have h2 := parts_sum s (List.Sublist.refl _)
                      have h3 := HQ3.out
                      rw [List.length_map] at h3
                      have h4 := HX.out.2
                      rw [h1, List.map_append, List.length_append] at h2
                      omega
                    have hxe : txV ((s.drop fr).take (i - fr)) = .string (X.extract fr i) := by rw [HX.out.1, extract_txB]
                    have RA := Lib.hid (And.intro ra (And.intro cn (And.intro ka (And.intro za (And.intro ti1 (And.intro ti2 (And.intro ti3 (And.intro ti4 hxe))))))))
                    clear ra cn ka za ti1 ti2 ti3 ti4 e0 e1 hxe
                    go_upto_region 17 with (fail)
                    go_region_law (first
                      | (refine step_append_row rfl _ _ _ (by rfl) Tryd.underlying26 RA.out.2.2.2.2.1 RA.out.2.2.2.2.2.1 RA.out.2.2.2.2.2.2.1 RA.out.2.2.2.2.2.2.2.1 hz1 (by omega) (by rfl) RA.out.1 [.string (X.extract fr i)] (by rfl) rfl (.inr ⟨_, rfl, RA.out.2.1⟩) (fun u hu => by rw [List.mem_singleton.1 hu]; rfl) (by omega) (q3 + 1) rfl (P.map txV ++ [txV ((s.drop fr).take (i - fr))]) (by rw [RA.out.2.2.2.2.2.2.2.2]) ?_
                         intro a8 c8 w8 h8 k8 f8
                         have K8 : Keep W2 w8 (fun c => (Value.slice a5 q3 c5).ownBlock = some c) := (RA.out.2.2.1.mono (fun _ q => q.elim)).trans k8 (fun c q => .inl q.symm)
                         have B8 := K8.get HI.out.2.1 (fun q => by have := HI.out.2.2.2 _ q; omega)
                         have d8 : w8.cell? ⟨W0.heap.size, 2, none⟩ = some (.slice a5 q3 c5) := by rw [cell_blk B8]; rfl
                         have fr8 : w8.frozen? ⟨W0.heap.size, 2, none⟩ = false := free_blk B8 _
                         have F8 : ∀ c, (Value.slice a8 (q3 + 1) c8).ownBlock = some c → (Value.slice a5 q3 c5).ownBlock = some c ∨ W2.heap.size ≤ c := fun c q => by
                           rcases f8 c q with z | z
                           · exact .inl z
                           · right; rw [z, RA.out.2.2.2.1]; omega
                         have N8 := Lib.hid (HoldP.push HI.out (Nat.le_refl _) K8 HQ3.out h8 F8)
                         clear h8 k8 f8 K8 B8 F8))
                    all_goals
                      obtain ⟨wz, hwz⟩ : ∃ wz, wz = w8.setCell ⟨W0.heap.size, 2, none⟩ (.slice a8 (q3 + 1) c8) := ⟨_, rfl⟩
                      rw [← hwz] at N8 ⊢
                      clear hwz d8 fr8
                      go_wp2
                      go_roundg (n + 1 - (i + 1))
                      case measure => omega
                      case rel => exact ⟨i + 1, i + 1, P ++ [(s.drop fr).take (i - fr)], _, rfl, rfl, by omega, HCu.out, by rw [List.map_append]; exact N8.out⟩
                  · have g5 : ¬ (fr : Int) < (i : Int) := by omega
                    have hcu := HCut.out
                    rw [if_neg hfr, List.append_nil] at hcu
                    have HCu := Lib.hid hcu
                    clear hcu
                    go_wp2
                    go_roundg (n + 1 - (i + 1))
                    case measure => omega
                    case rel => exact ⟨i + 1, i + 1, P, _, rfl, rfl, by omega, HCu.out, HI.out⟩
            · have g3 : ¬ (i : Int) ≤ (n : Int) := by omega
              have hin : i = s.length + 1 := by have := HX.out.2; omega
              have hPs : parts s = P := by
                have h := HSp.out
                rw [hin] at h
                exact h.done
              have HPs := Lib.hid hPs
              clear hin hPs
              have hql : q3 = P.length := by rw [← HQ3.out, List.length_map]
              have HQL := Lib.hid hql
              have hqn : q3 ≤ 5000 := by
                have h1 := parts_sum s (List.Sublist.refl _)
                have h2 := HX.out.2
                rw [HPs.out] at h1
                omega
              clear hql
              have HQ2 := HQ
              go_wp2
              go_loopg [8] q3 (fun g s8 wr => ∃ j : Nat, s8 = .int .i64 j ∧ j + g = q3 ∧ (∀ p ∈ P.take j, p.length ≤ 255) ∧ wr = W2)
              case atStart => exact ⟨0, rfl, by omega, by simp, rfl⟩
              case round =>
                obtain ⟨j, rfl, hj, hT, rfl⟩ := hrel
                have T3 := Lib.hid hT
                clear hT
                by_cases hjq : j < q3
                · have g3 : (j : Int) < (q3 : Int) := by omega
                  obtain ⟨y, hy⟩ : ∃ y, P[j]? = some y := ⟨_, List.getElem?_eq_getElem (by rw [← HQL.out]; exact hjq)⟩
                  have hrow := HI.out.2.2.1
                  rw [HQ3.out] at hrow
                  obtain ⟨bo, rfl, -, -, hbo⟩ := rows_some hrow (by omega)
                  have hcy := (rows_cell hrow (mapGet (f := txV) hy)).1
                  obtain ⟨Y, hY⟩ : ∃ Y, Y = txB y := ⟨_, rfl⟩
                  have hys : Y.size = y.length := by rw [hY, txB_size]
                  rw [show txV y = .string Y from by rw [hY]] at hcy
                  have HY := Lib.hid (And.intro hY hy)
                  clear hY hy hrow
                  by_cases hbig : 255 < y.length
                  · have g4 : (255 : Int) < (Y.size : Int) := by omega
                    have H0 := Lib.hid (show R = ((false, false, []), 45) by rw [HQ.out, if_pos ⟨y, by rw [HPs.out]; exact List.mem_of_getElem? HY.out.2, hbig⟩])
                    have kb := HI.out.1
                    have b0 := kb.get HW.out.2.2.1 (fun q => q)
                    have c0 := cell_blk b0 0
                    have c1 := cell_blk b0 1
                    have c2 := cell_blk b0 2
                    have f0 := free_blk b0 0
                    have f1 := free_blk b0 1
                    have f2 := free_blk b0 2
                    simp only [List.getElem?_toArray, List.getElem?_cons_zero, List.getElem?_cons_succ] at c0 c1 c2
                    have s1 := heap_setCell_eq (off := 0) (Value.bool false) b0
                    have s2 := heap_setCell_eq (off := 1) (Value.bool false) s1
                    have s3 := heap_setCell_eq (off := 2) (Value.slice none 0 0) s2
                    have k3 := ((Keep.setCell wr ⟨w.heap.size, 0, none⟩ (.bool false)).trans (Keep.setCell _ ⟨w.heap.size, 1, none⟩ (.bool false)) (fun b q => .inl q)).trans (Keep.setCell _ ⟨w.heap.size, 2, none⟩ (.slice none 0 0)) (fun b q => .inl q)
                    have DD := Lib.hid (And.intro s3 ((HW.out.2.1.trans kb (fun _ q => q.elim)).trans k3 (fun b q => .inr (by have q' : b = w.heap.size := q; omega))))
                    clear b0 s1 s2 s3 k3 kb hys hbig
                    go_wp2
                    refine bodyPost_ret (rread_res (b2 := w.heap.size) DD.out.1 rfl rfl) rfl ?_
                    rw [H0.out]
                    exact ⟨_, rfl, rows_nil _ _ _, DD.out.2⟩
                  · have g4 : ¬ (255 : Int) < (Y.size : Int) := by omega
                    have HT := Lib.hid (show ∀ p ∈ P.take (j + 1), p.length ≤ 255 from fun p hp => by
                      rw [List.take_add_one, HY.out.2] at hp
                      rcases List.mem_append.1 hp with h | h
                      · exact T3.out p h
                      · simp at h; rw [h]; omega)
                    clear hys hbig
                    go_wp2
                    go_roundg (q3 - (j + 1))
                    case measure => omega
                    case rel => exact ⟨j + 1, rfl, by omega, HT.out, rfl⟩
                · have g3 : ¬ (j : Int) < (q3 : Int) := by omega
                  have hk3 : P.take j = P := List.take_of_length_le (by rw [← HQL.out]; omega)
                  rw [hk3] at T3
                  have H0 := Lib.hid (show R = ((r1, r2, P), 0) by
                    rw [HQ.out, if_neg, HPs.out]
                    rintro ⟨p, hp, hpl⟩
                    rw [HPs.out] at hp
                    have := T3.out p hp
                    omega)
                  have kb := HI.out.1
                  have b0 := kb.get HW.out.2.2.1 (fun q => q)
                  have c0 := cell_blk b0 0
                  have c1 := cell_blk b0 1
                  have c2 := cell_blk b0 2
                  have f0 := free_blk b0 0
                  have f1 := free_blk b0 1
                  have f2 := free_blk b0 2
                  simp only [List.getElem?_toArray, List.getElem?_cons_zero, List.getElem?_cons_succ] at c0 c1 c2
                  have s1 := heap_setCell_eq (off := 0) (Value.bool r1) b0
                  have s2 := heap_setCell_eq (off := 1) (Value.bool r2) s1
                  have s3 := heap_setCell_eq (off := 2) (Value.slice a5 q3 c5) s2
                  have k3 := ((Keep.setCell wr ⟨w.heap.size, 0, none⟩ (.bool r1)).trans (Keep.setCell _ ⟨w.heap.size, 1, none⟩ (.bool r2)) (fun b q => .inl q)).trans (Keep.setCell _ ⟨w.heap.size, 2, none⟩ (.slice a5 q3 c5)) (fun b q => .inl q)
                  have hrow := HI.out.2.2.1
                  rw [HQ3.out, HQL.out] at hrow
                  have hrow2 := rows_keep hrow k3 (fun b q z => by
                    have h1 := HI.out.2.2.2 b (by rw [HQL.out]; exact q)
                    have z' : b = w.heap.size := z
                    have h2 := HW.out.2.2.2
                    omega)
                  rw [← HQL.out] at hrow2
                  have DD := Lib.hid (And.intro s3 (And.intro ((HW.out.2.1.trans kb (fun _ q => q.elim)).trans k3 (fun b q => .inr (by have q' : b = w.heap.size := q; omega))) hrow2))
                  clear b0 s1 s2 s3 k3 kb hk3 hrow hrow2
                  go_wp2
                  refine bodyPost_ret (rread_res (b2 := w.heap.size) DD.out.1 rfl rfl) rfl ?_
                  rw [H0.out]
                  refine ⟨_, rfl, ?_, DD.out.2.1⟩
                  have h := DD.out.2.2
                  rw [HQL.out] at h ⊢
                  exact h

end Go.Proofs.YtlbekofkhjkniaaDoor
