/-
  LruLen: as long as nothing is pinned a list has as many keys as were used, unlike, up to its most: the last ones.
-/
import Derived.Test.YtfmdhbcniabpiaaLruLen0
import Derived.Test.YtfmdhbcniabpiaaSameS
import Derived.Test.YtfmdhbcniabpiaaArgs
import Derived.Test.YtfmdhbcniabpiaaWithin
import Derived.Deep.CutRange
import Derived.Deep.CutBlock
import Derived.Deep.DeepCutAuto
namespace Go.Proofs.Ytfmdhbcniabpiaa
open Go Go.RowKit
set_option linter.unusedSectionVars false
set_option linter.unusedSimpArgs false
set_option linter.unusedVariables false

/-- The list, and the order that the law keeps of it. -/
structure LenW (w wx : World) (lb : Nat) (S : Nat → Prop) (m : Int) (L : List Pair) (v : Value) : Prop where
  list : ListAt wx lb S m L
  keep : Keep w wx (fun _ => False)
  new : ∀ b, S b → w.heap.size ≤ b
  ord : ListIn wx v ((L.map Prod.fst).map Value.string)
  ordS : ∀ b, v.ownBlock = some b → ¬ S b ∧ b < wx.heap.size
  plain : plainL L
  len : (L.length : Int) ≤ m

set_option maxRecDepth 100000 in
set_option maxHeartbeats 8000000 in
theorem len_walk (n : Int) (a2 : Option Addr) (l2 c2 : Nat) (ks : List ByteArray) (w : World) (hn : (Lit.int .i64 n).wf = true) (h2 : StrsIs w a2 l2 c2 ks) :
    Calls Try.prog 3 #[.int .i64 n, .slice a2 l2 c2] w fun r w' => r = .returned (.bool true) ∧ Below w.heap.size w w' := by
  have H := Lib.hid h2
  have hl2 : l2 ≤ 9223372036854775807 := by have e2 := h2.2.1; unfold maxLen at e2; omega
  have HK := Lib.hid h2.1
  clear h2 hn
  go_enter Try.func3, Try.ntmps3
  go_wp2_with fail
  refine (within_c _ _ 0 9 (by omega) (by omega) (by omega)).mono ?_
  rintro e w1 ⟨m0, hm0, hm1, rfl, rfl⟩
  obtain ⟨m, rfl⟩ : ∃ m : Nat, m0 = (m : Int) := ⟨m0.toNat, by omega⟩
  have hnew := new_c w (1 + m) (by omega) (by omega)
  go_wp2_with fail
  refine hnew.mono ?_
  rintro e w2 ⟨lb, S1, rfl, hL1, hT1⟩
  have B1 : LenW w w2 lb S1 (1 + m) [] (.slice none 0 0) := ⟨hL1, hT1.keep, fun b q => (hT1.new b q).elim (fun z => z.elim) id, ⟨none, 0, rfl, .inl rfl⟩, fun b q => by simp [Value.ownBlock] at q, fun x hx => by simp at hx, by simp; omega⟩
  have BB := Lib.hid B1
  clear hL1 hT1 hnew B1
  obtain ⟨ti, ti1, ti2, ti3, ti4⟩ := str_info
  have HI := Lib.hid (And.intro ti1 (And.intro ti2 (And.intro ti3 ti4)))
  have hz1 : (Value.string ByteArray.empty).cells.size = 1 := rfl
  clear ti1 ti2 ti3 ti4
  go_upto_block 0 with (fail)
  go_cut [7, 8] from 9 to 93 (fun s7 s8 wx => ∃ S L a c, s7 = .slice a L.length c ∧ LenW w wx lb S (1 + m) L (.slice a L.length c))
  case first =>
    go_wp2_with fail
    go_loopg [7, 8] 60 (fun g s7 s8 wr => ∃ (j : Nat) (S : Nat → Prop) (L : List Pair) (a : Option Addr) (c : Nat), j ≤ 60 ∧ g = 60 - j ∧ s8 = .int .i64 j ∧ s7 = .slice a L.length c ∧ LenW w wr lb S (1 + m) L (.slice a L.length c))
    case atStart => exact ⟨0, S1, [], none, 0, by omega, rfl, rfl, rfl, BB.out⟩
    case round =>
      obtain ⟨j, S, L, a, c, hj, rfl, rfl, rfl, hB⟩ := hrel
      have B := Lib.hid hB
      have hL10 : L.length ≤ 10 := by have := hB.len; omega
      have hnd := Lib.hid hB.list.nodup
      have hus := use_c hB.list (by omega)
      have husp := Lib.hid (use_plain (m := 1 + (m : Int)) hB.plain hB.list.nodup (by omega))
      clear hB
      by_cases hlt : j < l2
      · by_cases hlt2 : j < 60
        · have g1 : (j : Int) < (l2 : Int) := by omega
          have g2 : (j : Int) < 60 := by omega
          obtain ⟨x, hx⟩ : ∃ x, ks[j]? = some x := ⟨_, List.getElem?_eq_getElem (by rw [HK.out]; exact hlt)⟩
          obtain ⟨b, off, rfl, _, hf⟩ := H.out.2.2.1.some (by rw [List.length_map, HK.out]; omega)
          have hcx := Lib.hid (hf j _ (mapGet hx))
          have c1 : wr.cell? ⟨b, off + j, none⟩ = some (.string x) := B.out.keep.cell hcx.out (fun q => q)
          have hu := hus x
          clear hus hf hx
          obtain ⟨wo, rfl⟩ : ∃ wo : World, wo = wr := ⟨_, rfl⟩
          obtain ⟨U, gs, ok, hue⟩ : ∃ U gs ok, useE (1 + (m : Int)) L x = (U, gs, ok) := ⟨_, _, _, rfl⟩
          rw [hue] at hu
          have HUE := Lib.hid hue
          clear hue
          go_upto_block 2 with (
            go_at_call 10
            refine hu.mono ?_
            rintro e w3 ⟨rfl, S3, hL3, hT3⟩
            have N3 := Lib.hid (And.intro hL3 hT3)
            clear hu hL3 hT3)
          have ord3 := Lib.hid (B.out.ord.keep N3.out.2.keep (fun b q => (B.out.ordS b q).1))
          obtain ⟨O, hO⟩ : ∃ O, O = L.map Prod.fst := ⟨_, rfl⟩
          have hOl : O.length = L.length := by rw [hO, List.length_map]
          rw [← hO] at ord3
          have HO := Lib.hid (And.intro hO hOl)
          clear hO hOl c1
          generalize hLn : L.length = ln at *
          have HLn := Lib.hid hLn
          clear hLn
          go_cut [11, 12] from 46 to 67 (fun s11 s12 wx => Made w3 wx 9 s11 ((O.filter (fun s => decide (s ≠ x))).map Value.string))
          case first =>
            go_wp2_with fail
            go_loopg [11, 12] ln (fun g s11 s12 wr => ∃ k : Nat, s12 = .int .i64 k ∧ k + g = ln ∧ Made w3 wr 9 s11 (((O.take k).filter (fun s => decide (s ≠ x))).map Value.string))
            case atStart => exact ⟨0, rfl, by omega, by simpa using Made.nil w3 9⟩
            case round =>
              obtain ⟨k, rfl, hk, hM⟩ := hrel
              have hMl : (((O.take k).filter (fun s => decide (s ≠ x))).map Value.string).length ≤ 10 := by
                rw [List.length_map]
                have h1 := List.length_filter_le (fun s => decide (s ≠ x)) (O.take k)
                rw [List.length_take] at h1
                have := HO.out.2
                omega
              obtain ⟨q3, hq3⟩ : ∃ q3, (((O.take k).filter (fun s => decide (s ≠ x))).map Value.string).length = q3 := ⟨_, rfl⟩
              have M := Lib.hid hM
              obtain ⟨a3, cap3, rfl⟩ := hM.valn hq3
              rw [hq3] at hMl
              have HQ3 := Lib.hid hq3
              clear hM hq3
              by_cases hlk : k < ln
              · have g3 : (k : Int) < (ln : Int) := by omega
                obtain ⟨y, hy⟩ : ∃ y, O[k]? = some y := ⟨_, List.getElem?_eq_getElem (by rw [HO.out.2]; exact hlk)⟩
                obtain ⟨bo, oo, rfl, _, hfo⟩ := ord3.out.some (by rw [List.length_map, HO.out.2]; omega)
                have hcy := Lib.hid (hfo k _ (mapGet hy))
                have k3 := M.out.keep
                have c1 : wr.cell? ⟨b, off + j, none⟩ = some (.string x) := k3.cell (((B.out.keep.trans N3.out.2.keep (fun b q => .inr (B.out.new b q)))).cell hcx.out (fun q => q)) (fun q => q)
                have c2 : wr.cell? ⟨bo, oo + k, none⟩ = some (.string y) := k3.cell hcy.out (fun q => q)
                have HY := Lib.hid (show O.take (k + 1) = O.take k ++ [y] by rw [List.take_add_one, hy]; rfl)
                clear hfo hy k3
                by_cases he : y = x
                · subst he
                  have g4 : (y.toList == y.toList) = true := by simp
                  go_wp2
                  go_quiet (fail)
                  go_wp2
                  go_roundg (ln - (k + 1))
                  case measure => omega
                  case rel => exact ⟨k + 1, rfl, by omega, by rw [HY.out]; simpa using M.out.aside (drewN_keep _ (fun _ => False) _)⟩
                · have g4 : (y.toList == x.toList) = false := streq he
                  have HE := Lib.hid he
                  clear he
                  go_wp2
                  go_quiet (fail)
                  obtain ⟨wq, hwq⟩ : ∃ wq, wq = wr.drewN nq := ⟨_, rfl⟩
                  rw [← hwq]
                  have c3 : wq.cell? ⟨bo, oo + k, none⟩ = some (.string y) := by rw [hwq]; exact c2
                  have Mq := Lib.hid (show Made w3 wq 9 _ _ from by rw [hwq]; exact M.out.aside (drewN_keep _ (fun _ => False) _))
                  clear hwq c1 c2
                  go_wp2_with (
                    at_builtin
                    refine law_push rfl _ _ _ rfl Try.underlying22 HI.out.1 HI.out.2.1 HI.out.2.2.1 HI.out.2.2.2 hz1 Mq.out rfl (.string y) rfl rfl HQ3.out (by omega) ?_
                    intro a8 cap8 w8 hM8 _ _
                    have M8 := Lib.hid hM8
                    clear hM8)
                  go_roundg (ln - (k + 1))
                  case measure => omega
                  case rel => exact ⟨k + 1, rfl, by omega, by rw [HY.out]; simpa [HE.out] using M8.out⟩
              · have g3 : ¬ (k : Int) < (ln : Int) := by omega
                have MF := Lib.hid (show Made w3 wr 9 (.slice a3 q3 cap3) ((O.filter (fun s => decide (s ≠ x))).map Value.string) from by
                  have := M.out
                  rw [List.take_of_length_le (by rw [HO.out.2]; omega)] at this
                  exact this)
                go_wp2
                go_meet
                case rel => exact MF.out
          case rest =>
            have hM := hcut
            clear hcut
            have hO2 : O.filter (fun s => decide (s ≠ x)) = (adel L x).map Prod.fst := by rw [HO.out.1, adel_map hnd.out x]
            rw [hO2] at hM
            have hal : ((adel L x).map Prod.fst).length ≤ 10 := by rw [List.length_map]; have := (adel_sub L x).length_le; have := HLn.out; omega
            obtain ⟨nx, hnx⟩ : ∃ nx, (((adel L x).map Prod.fst).map Value.string).length = nx := ⟨_, rfl⟩
            obtain ⟨a3, cap3, rfl⟩ := hM.valn hnx
            have hnx2 : (used L x).length = nx + 1 := by rw [← hnx]; unfold used; simp
            have hnx3 : nx ≤ 10 := by rw [← hnx, List.length_map]; exact hal
            have M := Lib.hid (And.intro hM (And.intro hnx hnx2))
            have c1 : wc.cell? ⟨b, off + j, none⟩ = some (.string x) := hM.keep.cell (((B.out.keep.trans N3.out.2.keep (fun b q => .inr (B.out.new b q)))).cell hcx.out (fun q => q)) (fun q => q)
            clear hM hO2 hal hnx hnx2
            have hlist : ∀ w', Keep w3 w' (fun _ => False) → ∀ U2, U2 = U → ListAt w' lb S3 (1 + (m : Int)) U2 := fun w' K' U2 e => by rw [e]; exact N3.out.1.aside K'
            have HLI := Lib.hid hlist
            clear hlist
            rcases husp.out x with ⟨h1, h2⟩ | ⟨h1, y, r, h2, h3⟩
            · have hh := HUE.out
              rw [h2] at hh
              simp only [Prod.mk.injEq] at hh
              obtain ⟨hU, rfl, rfl⟩ := hh
              have HU := Lib.hid hU
              have hcmp : (nx : Int) + 1 ≤ 1 + (m : Int) := by have := M.out.2.2; omega
              have H1 := Lib.hid h1
              clear h1 h2 hU
              go_wp2_with (
              at_builtin
              refine law_push rfl _ _ _ rfl Try.underlying22 HI.out.1 HI.out.2.1 HI.out.2.2.1 HI.out.2.2.2 hz1 M.out.1 rfl (.string x) rfl rfl M.out.2.1 (by omega) ?_
              intro a8 cap8 w8 hM8 _ _
              have hr8 := hM8.row
              have hl8 : (((adel L x).map Prod.fst).map Value.string ++ [Value.string x]).length = nx + 1 := by rw [List.length_append, M.out.2.1]; rfl
              rw [hl8] at hr8
              obtain ⟨g8, rfl, _, hc8, hg8⟩ := rows_some hr8 (by omega)
              obtain ⟨cur8, _, _, hm8, _, _⟩ := rows_block hr8
              have hm9 : cap8 ≤ 9223372036854775807 := by unfold maxLen at hm8; omega
              have M8 := Lib.hid hM8
              have e8 : ((adel L x).map Prod.fst).map Value.string ++ [Value.string x] = ((used L x).map Prod.fst).map Value.string := by unfold used; simp
              have hM9 := hM8
              rw [e8] at hM9
              have M9 := Lib.hid hM9
              clear hM8 hM9 hr8 hl8 hm8 e8)
              go_roundg (60 - (j + 1))
              case measure => omega
              case rel =>
                refine ⟨j + 1, S3, used L x, some ⟨g8, 0, none⟩, cap8, by omega, rfl, rfl, by rw [M.out.2.2], ?_⟩
                rw [M.out.2.2]
                refine ⟨HLI.out _ M9.out.keep _ HU.out, (B.out.keep.trans N3.out.2.keep (fun b q => .inr (B.out.new b q))).trans M9.out.keep (fun _ q => q.elim), fun b q => (N3.out.2.new b q).elim (B.out.new b) (fun z => by have := B.out.keep.size; omega), M9.out.list, fun b q => ⟨fun z => by have := M9.out.new b q; have := N3.out.1.lt b z; omega, M9.out.lt b q⟩, plain_used B.out.plain x, H1.out⟩
            · have hh := HUE.out
              rw [h3] at hh
              simp only [Prod.mk.injEq] at hh
              obtain ⟨hU, rfl, rfl⟩ := hh
              have HU := Lib.hid (And.intro hU h2)
              have hcmp : 1 + (m : Int) < (nx : Int) + 1 := by have := M.out.2.2; omega
              have hnx0 : 1 ≤ nx := by omega
              have gg : (y.1.toList == y.1.toList) = true := by simp
              have hrl := Lib.hid (show r.length = nx by have := M.out.2.2; rw [h2] at this; simpa using this)
              have hpl := Lib.hid (show plainL r from fun z hz => plain_used B.out.plain x z (by rw [h2]; simp [hz]))
              clear h1 h2 h3 hU
              go_wp2_with (
              at_builtin
              refine law_push rfl _ _ _ rfl Try.underlying22 HI.out.1 HI.out.2.1 HI.out.2.2.1 HI.out.2.2.2 hz1 M.out.1 rfl (.string x) rfl rfl M.out.2.1 (by omega) ?_
              intro a8 cap8 w8 hM8 _ _
              have hr8 := hM8.row
              have hl8 : (((adel L x).map Prod.fst).map Value.string ++ [Value.string x]).length = nx + 1 := by rw [List.length_append, M.out.2.1]; rfl
              rw [hl8] at hr8
              obtain ⟨g8, rfl, _, hc8, hg8⟩ := rows_some hr8 (by omega)
              obtain ⟨cur8, _, _, hm8, _, _⟩ := rows_block hr8
              have hm9 : cap8 ≤ 9223372036854775807 := by unfold maxLen at hm8; omega
              have M8 := Lib.hid hM8
              have e8 : ((adel L x).map Prod.fst).map Value.string ++ [Value.string x] = ((used L x).map Prod.fst).map Value.string := by unfold used; simp
              have hM9 := hM8
              rw [e8] at hM9
              have M9 := Lib.hid hM9
              clear hM8 hM9 hr8 hl8 hm8 e8
              have hcells := M9.out.list
              rw [HU.out.2] at hcells
              obtain ⟨bq, oq, hbq, _, hcq⟩ := hcells.some (by simp)
              simp only [Option.some.injEq, Addr.mk.injEq, and_true] at hbq
              obtain ⟨rfl, rfl⟩ := hbq
              have d0 : w8.cell? ⟨g8, 0, none⟩ = some (.string y.1) := hcq 0 _ rfl
              have HCQ := Lib.hid hcq
              have z1 : (1 : Int) ≤ (nx : Int) + 1 := by omega
              have z2 : (nx : Int) + 1 ≤ (cap8 : Int) := by omega
              have z3 : ¬ cap8 = 1 := by omega
              clear hcells hcq)
              go_roundg (60 - (j + 1))
              case measure => omega
              case rel =>
                refine ⟨j + 1, S3, r, some ⟨g8, 1, none⟩, cap8 - 1, by omega, rfl, rfl, by rw [hrl.out], ?_⟩
                rw [hrl.out]
                have hown : ∀ b, (Value.slice (some ⟨g8, 1, none⟩) nx (cap8 - 1)).ownBlock = some b → (Value.slice (some ⟨g8, 0, none⟩) (nx + 1) cap8).ownBlock = some b := fun b q => q
                refine ⟨HLI.out _ M9.out.keep _ HU.out.1, (B.out.keep.trans N3.out.2.keep (fun b q => .inr (B.out.new b q))).trans M9.out.keep (fun _ q => q.elim), fun b q => (N3.out.2.new b q).elim (B.out.new b) (fun z => by have := B.out.keep.size; omega), ?_, fun b q => ⟨fun z => by have := M9.out.new b (hown b q); have := N3.out.1.lt b z; omega, M9.out.lt b (hown b q)⟩, hpl.out, by
                  rw [hrl.out]
                  have h1 := (adel_sub L x).length_le
                  have h2 := B.out.len
                  have h3 := M.out.2.1
                  simp only [List.length_map] at h3
                  omega⟩
                refine ⟨some ⟨g8, 1, none⟩, cap8 - 1, by simp [hrl.out], .inr ⟨g8, 1, rfl, M9.out.lt g8 rfl, fun i u hi => ?_⟩⟩
                have := HCQ.out (i + 1) u (by simpa using hi)
                rw [Nat.zero_add] at this
                rw [Nat.add_comm 1 i]
                exact this
        · have g1 : (j : Int) < (l2 : Int) := by omega
          have g2 : ¬ (j : Int) < 60 := by omega
          go_wp2
          go_meet
          case rel => exact ⟨S, L, a, c, rfl, B.out⟩
      · have g1 : ¬ (j : Int) < (l2 : Int) := by omega
        go_wp2
        go_meet
        case rel => exact ⟨S, L, a, c, rfl, B.out⟩
  case rest =>
    obtain ⟨S, L, a, c, rfl, hB⟩ := hcut
    have B := Lib.hid hB
    have hL10 : L.length ≤ 10 := by have := hB.len; omega
    have hlen := len_c hB.list
    have hold := oldest_c hB.list (by omega) (1 + m)
    have hfi : firsts L (1 + m) = L.map Prod.fst := by unfold firsts; exact List.take_of_length_le (by rw [List.length_map]; have := hB.len; omega)
    rw [hfi] at hold
    have hll : ((L.map Prod.fst).map Value.string).length = L.length := by simp
    have HLL := Lib.hid hll
    clear hB hfi hll
    go_wp2_with (first
      | (go_at_call 11
         refine hlen.mono ?_
         rintro e w8 ⟨rfl, hw8⟩
         obtain rfl : wc = w8 := hw8.symm
         clear hlen)
      | (go_at_call 13
         refine hold.mono ?_
         rintro e w9 ⟨v9, rfl, hM9⟩
         obtain ⟨a9, cap9, rfl⟩ := hM9.valn HLL.out
         have hsm := same_c hM9.list (B.out.ord.aside hM9.keep) (by rw [List.length_map]; omega) (by rw [List.length_map]; omega)
         rw [decide_eq_true (rfl : L.map Prod.fst = L.map Prod.fst)] at hsm
         have M9 := Lib.hid hM9
         clear hold hM9)
      | (go_at_call 12
         refine hsm.mono ?_
         rintro e w11 ⟨rfl, q11, hw11⟩
         have M11 := Lib.hid (show Keep w9 w11 (fun _ => False) from by rw [hw11]; exact drewN_keep _ _ _)
         clear hsm hw11)
      | (go_at_call 14
         refine (known_c _).mono ?_
         rintro e w12 ⟨rfl, hk12⟩
         have M12 := Lib.hid hk12
         clear hk12))
    go_ret
    refine ⟨rfl, ?_⟩
    exact (((B.out.keep.trans M9.out.keep (fun _ q => q.elim)).trans M11.out (fun _ q => q.elim)).trans M12.out (fun _ q => q.elim)).below (Nat.le_refl _) (fun _ q => q.elim)

end Go.Proofs.Ytfmdhbcniabpiaa
