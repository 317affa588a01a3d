/-
  call.shown.
-/
import Derived.Test.YtdbkkfhneafeiaaDoorSay0
import Derived.Test.YtdbkkfhneafeiaaDoorOEnc0
import Derived.Test.YtdbkkfhneafeiaaDoorLists
import Derived.Test.YtdbkkfhneafeiaaDoorShelf
import Derived.BigRegion
import Derived.Deep.RegionHeld3
import Derived.Deep.LoopGhost
import Derived.Deep.Cut
import Derived.Deep.CutRange
namespace Go.Proofs.YtdbkkfhneafeiaaDoor
open Go Go.RowKit Go.Shelf
set_option linter.unusedSectionVars false
set_option linter.unusedSimpArgs false
set_option linter.unusedVariables false
attribute [local go_sem] Oper.semAt_some

theorem byte_atS {X : ByteArray} {l : Bs} (hX : X = strB l) {k : Nat} (h : k < X.size) : ∃ u : UInt8, l[k]? = some u ∧ (X[k]'h).toNat = u.toNat := by
  subst hX
  have hk : k < l.length := h
  exact ⟨l[k], List.getElem?_eq_getElem hk, rfl⟩

theorem rows_bsl {w : World} {v : Value} {l : Bs} {n : Nat} (h : w.ownsRow 0 5 1 v (l.map u8V).length (l.map u8V)) (hn : (l.map u8V).length = n) : BSl w v l := by
  rw [List.length_map] at h
  rcases rows_val h with ⟨rfl, h0⟩ | ⟨g, cap, rfl, hc, _, hg⟩
  · exact .inl ⟨rfl, List.length_eq_zero_iff.1 h0⟩
  · refine .inr ⟨g, 0, cap, rfl, hc, ?_, hg, fun i u hi => ?_⟩
    · rcases h.2 with ⟨e, _⟩ | ⟨g', cap', cur, e, _, _, _, hcm, _⟩
      · cases e
      · cases e; exact hcm
    · rw [Nat.zero_add]
      exact (rows_cell h (mapGet (f := u8V) hi)).1

theorem and15 : ∀ c : Fin 256, bits BinOp.and IntKind.u8 ((c.val : Nat) : Int) 15 = ((c.val % 16 : Nat) : Int) := by decide +kernel

def digT : ByteArray := { data := #[48, 49, 50, 51, 52, 53, 54, 55, 56, 57, 97, 98, 99, 100, 101, 102] }

theorem dig_at : ∀ p : Fin 16, (digT[p.val]'(by show p.val < 16; exact p.isLt)).toNat = (digC p.val).toNat := by decide +kernel

set_option maxRecDepth 100000 in
set_option maxHeartbeats 2000000 in
theorem shown_c (s : Bs) (w : World) (hs : s.length ≤ 1000000000) :
    Calls Tryd.prog 39 #[.string (strB s)] w fun e w' => e = .returned (.string (strB (shownP s))) ∧ Keep w w' (fun _ => False) := by
  obtain ⟨n, hn⟩ : ∃ n, n = s.length := ⟨_, rfl⟩
  obtain ⟨X, hX⟩ : ∃ X, X = strB s := ⟨_, rfl⟩
  have hXs : X.size = n := by rw [hX, strB_size, hn]
  rw [← hX]
  have HX := Lib.hid (And.intro hX hn)
  rw [← hn] at hs
  clear hX hn
  obtain ⟨ti, ti1, ti2, ti3, ti4⟩ := u8_info
  have HI := Lib.hid (And.intro ti1 (And.intro ti2 (And.intro ti3 (show ti.bytes ≤ 64 by omega))))
  clear ti1 ti2 ti3 ti4
  have hz1 : (Value.int .u8 0).cells.size = 1 := rfl
  go_enter Tryd.func39, Tryd.ntmps39
  go_wp2
  go_loopg [3, 8] n (fun g s3 s8 wr => ∃ k : Nat, s8 = .int .i64 k ∧ k + g = n ∧ Made w wr 5 s3 ((shownP (s.take k)).map u8V))
  case atStart => exact ⟨0, rfl, by omega, Made.nil w 5⟩
  case round =>
    obtain ⟨k, rfl, hk, hM⟩ := hrel
    obtain ⟨q3, hq3⟩ : ∃ q3, ((shownP (s.take k)).map u8V).length = q3 := ⟨_, rfl⟩
    have hqs : q3 ≤ 3000000000 := by
      have h := shownP_len (s.take k)
      rw [List.length_take] at h
      have := HX.out.2
      rw [← hq3, List.length_map]
      omega
    have M := Lib.hid hM
    obtain ⟨a3, cap3, rfl⟩ := hM.valn hq3
    have HQ3 := Lib.hid hq3
    clear hM hq3
    by_cases hlk : k < n
    · have g3 : (k : Int) < (n : Int) := by omega
      have hlt : k < X.size := by omega
      obtain ⟨u, hu, hc⟩ := byte_atS HX.out.1 hlt
      have HF := Lib.hid (shownP_snoc s k hu)
      obtain ⟨c, hcc⟩ : ∃ c, c = u.toNat := ⟨_, rfl⟩
      have c256 : c < 256 := by rw [hcc]; exact u.toNat_lt
      rw [← hcc] at hc
      have HC := Lib.hid hcc
      clear hcc hu
      by_cases hp : 32 < c ∧ c < 127 ∧ ¬ c = 37
      · obtain ⟨h1, h2, h3⟩ := hp
        have b1 : (32 : Int) < (c : Int) := by omega
        have b2 : (c : Int) < 127 := by omega
        have b3 : ((c : Int) != 37) = true := by simp; omega
        have HS1 := Lib.hid (show shown1 u = [u] by unfold shown1; rw [if_pos (by rw [← HC.out]; exact ⟨h1, h2, h3⟩)])
        go_wp2_with (
          at_builtin
          refine law_push rfl _ _ _ rfl Tryd.underlying22 HI.out.1 HI.out.2.1 HI.out.2.2.1 HI.out.2.2.2 hz1 M.out rfl (.int .u8 (c : Int)) rfl rfl HQ3.out (by omega) ?_
          intro a8 cap8 w8 hM8 _ _
          have M8 := Lib.hid hM8
          clear hM8)
        go_roundg (n - (k + 1))
        case measure => omega
        case rel => exact ⟨k + 1, rfl, by omega, by rw [HF.out, HS1.out, List.map_append]; have := M8.out; rw [HC.out] at this; exact this⟩
      · have HS1 := Lib.hid (show shown1 u = [37, digC (c / 16), digC (c % 16)] by unfold shown1; rw [if_neg (by rw [← HC.out]; exact hp), HC.out])
        have hp' : c ≤ 32 ∨ (32 < c ∧ 127 ≤ c) ∨ (32 < c ∧ c < 127 ∧ c = 37) := by omega
        rcases hp' with hp' | ⟨hp1, hp2⟩ | ⟨hp1, hp2, hp3⟩
        all_goals
          try (have b1 : ¬ (32 : Int) < (c : Int) := by omega)
          try (have b1 : (32 : Int) < (c : Int) := by omega)
          try (have b2 : ¬ (c : Int) < 127 := by omega)
          try (have b2 : (c : Int) < 127 := by omega)
          try (have b3 : ((c : Int) != 37) = false := by simp; omega)
          clear hp
          try clear hp3
          go_upto_region 8 with (fail)
          obtain ⟨p, hp⟩ : ∃ p, p = c / 16 := ⟨_, rfl⟩
          obtain ⟨q, hq⟩ : ∃ q, q = c % 16 := ⟨_, rfl⟩
          have hp16 : p < 16 := by omega
          have hq16 : q < 16 := by omega
          have e1 : (c : Int) / 16 = (p : Int) := by omega
          have e2 : bits BinOp.and IntKind.u8 (c : Int) 15 = (q : Int) := by rw [hq]; exact and15 ⟨c, c256⟩
          have f1 : (p : Int) < 16 := by omega
          have f2 : (q : Int) < 16 := by omega
          obtain ⟨d1, hd1⟩ : ∃ d1, d1 = (digC p).toNat := ⟨_, rfl⟩
          obtain ⟨d2, hd2⟩ : ∃ d2, d2 = (digC q).toNat := ⟨_, rfl⟩
          have i1 : (({ data := #[48, 49, 50, 51, 52, 53, 54, 55, 56, 57, 97, 98, 99, 100, 101, 102] } : ByteArray)[p]'hp16).toNat = d1 := by rw [hd1]; exact dig_at ⟨p, hp16⟩
          have i2 : (({ data := #[48, 49, 50, 51, 52, 53, 54, 55, 56, 57, 97, 98, 99, 100, 101, 102] } : ByteArray)[q]'hq16).toNat = d2 := by rw [hd2]; exact dig_at ⟨q, hq16⟩
          have HV := Lib.hid (show (shown1 u).map u8V = [.int .u8 37, .int .u8 (d1 : Int), .int .u8 (d2 : Int)] by rw [HS1.out, ← hp, ← hq, hd1, hd2]; rfl)
          have ka : Keep wr (World.drew (wr.alloc (.cells #[.int .u8 37, .int .u8 (d1 : Int), .int .u8 (d2 : Int)] 5))) (fun _ => False) := (Keep.alloc _ _ _).trans (Keep.drew _ _) (fun _ q => q)
          have ra := rows_keep M.out.row ka (fun _ _ q => q)
          rw [HQ3.out] at ra
          have RA := Lib.hid (And.intro ra ka)
          clear hp hq hd1 hd2 ra ka
          go_region_law (first
            | (refine step_append_row rfl _ _ _ (by rfl) Tryd.underlying22 HI.out.1 HI.out.2.1 HI.out.2.2.1 HI.out.2.2.2 hz1 (by omega) (by rfl) RA.out.1 [.int .u8 37, .int .u8 (d1 : Int), .int .u8 (d2 : Int)] (by rfl) rfl (.inr ⟨_, rfl, fun j u hj => cells_new wr [.int .u8 37, .int .u8 (d1 : Int), .int .u8 (d2 : Int)] 5 j u hj⟩) (fun u hu => by simp only [List.mem_cons, List.not_mem_nil, or_false] at hu; rcases hu with rfl | rfl | rfl <;> rfl) (by omega) (q3 + 3) rfl ((shownP (s.take (k + 1))).map u8V) (by rw [HF.out, List.map_append, HV.out]) ?_
               intro a8 cap8 w8 h8 k8 f8
               have M8 : Hid (Made w w8 5 (.slice a8 (q3 + 3) cap8) ((shownP (s.take (k + 1))).map u8V)) := Lib.hid (by
                 have hlen : ((shownP (s.take (k + 1))).map u8V).length = q3 + 3 := by rw [HF.out, List.map_append, HV.out, List.length_append, HQ3.out]; rfl
                 refine ⟨by rw [hlen]; exact h8, (M.out.keep.trans RA.out.2 (fun _ q => q.elim)).trans k8 (fun b q => .inr (M.out.new b q.symm)), fun b q => ?_⟩
                 rcases f8 b q with z | z
                 · exact M.out.new b z
                 · rw [z]; exact Nat.le_trans M.out.keep.size RA.out.2.size)
               clear h8 k8 f8))
          all_goals
            go_wp2
            go_roundg (n - (k + 1))
            case measure => omega
            case rel => exact ⟨k + 1, rfl, by omega, M8.out⟩
    · have g3 : ¬ (k : Int) < (n : Int) := by omega
      have hk2 : s.take k = s := List.take_of_length_le (by rw [← HX.out.2]; omega)
      rw [hk2] at M HQ3
      have hcv := str_of (P := Tryd.prog) 22 9 Tryd.underlying22 Tryd.underlying5 Tryd.underlying9 (rows_bsl M.out.row HQ3.out)
      have HK := Lib.hid M.out.keep
      clear hk2
      go_wp2
      go_ret
      exact ⟨rfl, HK.out⟩

end Go.Proofs.YtdbkkfhneafeiaaDoor
