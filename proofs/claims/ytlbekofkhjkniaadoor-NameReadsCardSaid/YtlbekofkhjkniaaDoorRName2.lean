/-
  The document's Write of a path.
-/
import Derived.Test.YtlbekofkhjkniaaDoorName4
import Derived.Deep.LoopGhost
import Derived.Deep.Cut
import Derived.Deep.CutRange
namespace Go.Proofs.YtlbekofkhjkniaaDoor
open Go Go.RowKit Go.Shelf
set_option linter.unusedSectionVars false
set_option linter.unusedSimpArgs false
set_option linter.unusedVariables false
attribute [local go_sem] Oper.semAt_some

theorem pathS_take {ps : List Bl} (root : Bool) (k : Nat) {B : Nat} (h : (ps.map List.length).sum + ps.length ≤ B) : (pathS 0 root (ps.take k)).length ≤ B + 1 := by
  unfold pathS headS
  rw [List.length_append]
  have e : barP 0 = [47] := rfl
  rw [e]
  have h1 := join_le (ps.take k)
  have h2 := sub_sum (List.take_sublist k ps)
  have h3 : (if root = true then [(47 : UInt8)] else []).length ≤ 1 := by split <;> simp
  omega

theorem write_path (root slash : Bool) (ps : List Bl) : pathS 0 root ps ++ (if slash && !ps.isEmpty then [47] else []) = writeP root slash ps := by
  unfold pathS writeP headS
  rw [show barP 0 = [47] from rfl]
  simp

set_option maxRecDepth 100000 in
set_option maxHeartbeats 4000000 in
theorem rwrite_c {root slash : Bool} {v : Value} {ps : List Bl} {w : World} (h : w.ownsRow 0 9 1 v ps.length (ps.map txV)) (hs : (ps.map List.length).sum + ps.length ≤ 1000000) :
    Calls Tryd.prog 22 #[.agg #[.bool root, .bool slash, v]] w fun e w' => e = .returned (.string (txB (writeP root slash ps))) ∧ Keep w w' (fun _ => False) := by
  obtain ⟨a, cap, rfl, hcap⟩ := rows_val2 h
  obtain ⟨n, hn⟩ : ∃ n, ps.length = n := ⟨_, rfl⟩
  rw [hn] at h hcap ⊢
  have hn9 : n ≤ 1000000 := by omega
  obtain ⟨res, hres⟩ : ∃ res, res = txB (writeP root slash ps) := ⟨_, rfl⟩
  rw [← hres]
  have HR := Lib.hid hres
  obtain ⟨W, hW⟩ : ∃ W, W = w.alloc (.cells #[.bool root, .bool slash, .slice a n cap] 38) := ⟨_, rfl⟩
  have k1 := Keep.alloc w (.cells #[.bool root, .bool slash, .slice a n cap] 38) (fun _ => False)
  have b1 := heap_alloc_eq w (.cells #[.bool root, .bool slash, .slice a n cap] 38)
  rw [← hW] at k1 b1
  have hr := rows_keep h k1 (fun _ _ q => q)
  have c0 := cell_blk b1 0
  have c1 := cell_blk b1 1
  have c2 := cell_blk b1 2
  simp only [List.getElem?_toArray, List.getElem?_cons_zero, List.getElem?_cons_succ] at c0 c1 c2
  have D := Lib.hid (And.intro hr (And.intro k1 (And.intro hn (And.intro hs hW))))
  clear hr k1 hn hs b1 h hres
  go_enter Tryd.func22, Tryd.ntmps22
  go_upto_region 1 with (fail)
  rw [← hW]
  clear hW
  go_upto_if 6 with (fail)
  go_cut [3] from 5 (fun s wc => s = .string (txB (headS root)) ∧ W = wc)
  case first =>
    cases root
    all_goals
      go_wp2
      go_meet
      case rel => exact ⟨rfl, rfl⟩
  case rest =>
    obtain ⟨rfl, rfl⟩ := hcut
    go_wp2
    go_loopg [3, 4] n (fun g s3 s4 wr => ∃ k : Nat, s4 = .int .i64 k ∧ k + g = n ∧ s3 = .string (txB (pathS 0 root (ps.take k))) ∧ wr = W)
    case atStart => exact ⟨0, rfl, by omega, by rw [List.take_zero, pathS_nil], rfl⟩
    case round =>
      obtain ⟨k, rfl, hk, rfl, rfl⟩ := hrel
      have hsm := pathS_take root k D.out.2.2.2.1
      obtain ⟨X, hX⟩ : ∃ X, X = txB (pathS 0 root (ps.take k)) := ⟨_, rfl⟩
      rw [← hX]
      have hXl : X.size ≤ 1000001 := by rw [hX, txB_size]; exact hsm
      have HX := Lib.hid hX
      clear hX hsm
      by_cases hlk : k < n
      · have g3 : (k : Int) < (n : Int) := by omega
        obtain ⟨y, hy⟩ : ∃ y, ps[k]? = some y := ⟨_, List.getElem?_eq_getElem (by rw [D.out.2.2.1]; exact hlk)⟩
        obtain ⟨bo, rfl, -, -, hbo⟩ := rows_some D.out.1 (by omega)
        have hcy := (rows_cell D.out.1 (mapGet (f := txV) hy)).1
        obtain ⟨Y, hY⟩ : ∃ Y, Y = txB y := ⟨_, rfl⟩
        have hyl : Y.size ≤ 1000000 := by
          have h1 := sub_sum (ps := [y]) (qs := ps) (List.singleton_sublist.2 (List.mem_of_getElem? hy))
          have h2 := D.out.2.2.2.1
          rw [hY, txB_size]
          simp at h1
          omega
        rw [show txV y = .string Y from by rw [hY]] at hcy
        obtain ⟨X2, hX2⟩ : ∃ X2, X2 = txB (pathS 0 root (ps.take k) ++ barS 0 (ps.take k)) := ⟨_, rfl⟩
        have hX2l : X2.size ≤ 1000002 := by
          have e : (barS 0 (ps.take k)).length ≤ 1 := by
            unfold barS
            split
            · simp
            · rw [barP_len]; omega
          have h3 : X.size = (pathS 0 root (ps.take k)).length := by rw [HX.out, txB_size]
          rw [hX2, txB_size, List.length_append]
          omega
        have g5 : ¬ 9223372036854775807 < X.size + 1 := by omega
        have g6 : ¬ 9223372036854775807 < X2.size + Y.size := by omega
        have HY := Lib.hid (show txB (pathS 0 root (ps.take (k + 1))) = X2 ++ Y by
          rw [hX2, hY, txB_append, pathS_snoc, List.take_add_one, hy]
          rfl)
        have HX2 := Lib.hid hX2
        clear hX2 hX2l hXl hyl hY hy
        go_upto_if 15 with (fail)
        go_cut [3] from 7 to 24 (fun s wc => s = .string X2 ∧ wr = wc)
        case first =>
          by_cases h0 : k = 0
          · have g7 : ¬ (0 : Int) < (k : Int) := by omega
            subst h0
            go_wp2
            go_meet
            case rel => exact ⟨by rw [HX.out, HX2.out]; simp [barS], rfl⟩
          · have g7 : (0 : Int) < (k : Int) := by omega
            have g8 : 0 < k := by omega
            have hne : ps.take k ≠ [] := fun e => by
              have := congrArg List.length e
              rw [List.length_take, D.out.2.2.1, List.length_nil] at this
              omega
            have HN := Lib.hid hne
            clear hne
            go_wp2
            go_meet
            case rel => exact ⟨by rw [HX.out, HX2.out, barS, if_neg HN.out]; exact congrArg Value.string (txB_snoc _), rfl⟩
        case rest =>
          obtain ⟨rfl, rfl⟩ := hcut
          go_wp2
          go_roundg (n - (k + 1))
          case measure => omega
          case rel => exact ⟨k + 1, rfl, by omega, by rw [HY.out], rfl⟩
      · have g3 : ¬ (k : Int) < (n : Int) := by omega
        have hk2 : ps.take k = ps := List.take_of_length_le (by rw [D.out.2.2.1]; omega)
        rw [hk2] at HX
        have hw := write_path root slash ps
        have hie : ps.isEmpty = decide (n = 0) := by rw [← D.out.2.2.1]; cases ps <;> simp
        rw [hie] at hw
        have HW := Lib.hid hw
        clear hw hie hk2
        have g5 : ¬ 9223372036854775807 < X.size + 1 := by omega
        have hp0 : n = 0 ∨ 0 < n := Nat.eq_zero_or_pos n
        cases slash
        · go_wp2
          go_ret
          refine ⟨?_, D.out.2.1⟩
          rw [HR.out, ← HW.out, HX.out]
          simp
        · rcases hp0 with h0 | h0
          · have g7 : ¬ (0 : Int) < (n : Int) := by omega
            subst h0
            go_wp2
            go_ret
            refine ⟨?_, D.out.2.1⟩
            rw [HR.out, ← HW.out, HX.out]
            simp
          · have g7 : (0 : Int) < (n : Int) := by omega
            have g8 : ¬ n = 0 := by omega
            go_wp2
            go_ret
            refine ⟨?_, D.out.2.1⟩
            rw [HR.out, ← HW.out, HX.out, txB_snoc]
            simp [g8]

end Go.Proofs.YtlbekofkhjkniaaDoor
