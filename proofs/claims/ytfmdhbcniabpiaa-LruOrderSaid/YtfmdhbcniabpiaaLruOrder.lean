/-
  LruOrder: keys that are used one behind the other leave in that order; pinned ones stay.
-/
import Derived.Test.YtfmdhbcniabpiaaLruOrder0
import Derived.Test.YtfmdhbcniabpiaaSameS
import Derived.Test.YtfmdhbcniabpiaaArgs
import Derived.Test.YtfmdhbcniabpiaaWithin
import Derived.Deep.CutRange
import Derived.Deep.CutBlock
import Derived.Deep.DeepCutAuto
namespace Go.Proofs.Ytfmdhbcniabpiaa
open Go Go.RowKit
set_option linter.unusedSectionVars false
set_option linter.unusedSimpArgs false
set_option linter.unusedVariables false

/-- The list, and the order that the law keeps of it. -/
structure OrdW (w wx : World) (lb : Nat) (S : Nat → Prop) (m : Int) (L : List Pair) (v : Value) : Prop where
  list : ListAt wx lb S m L
  keep : Keep w wx (fun _ => False)
  new : ∀ b, S b → w.heap.size ≤ b
  ord : ListIn wx v ((L.map Prod.fst).map Value.string)
  ordS : ∀ b, v.ownBlock = some b → ¬ S b ∧ b < wx.heap.size
  plain : plainL L
  len : (L.length : Int) ≤ m

/-- The third loop: which keys are to go (v13), which are to stay (v14). -/
structure Ord3 (w wB wr : World) (lb : Nat) (S : Nat → Prop) (bs : List Bool) (L : List Pair) (k n : Nat) (v13 v14 : Value) : Prop where
  list : ListAt wr lb S 64 (pinL bs L k)
  keep : Keep wB wr S
  m13 : Made w wr 9 v13 ((parts n ((pinL bs L k).take k)).1.map Value.string)
  m14 : Made w wr 9 v14 ((parts n ((pinL bs L k).take k)).2.map Value.string)
  own13 : ∀ b, v13.ownBlock = some b → ¬ S b ∧ wB.heap.size ≤ b
  own14 : ∀ b, v14.ownBlock = some b → ¬ S b ∧ wB.heap.size ≤ b
  apart : ∀ b, v13.ownBlock = some b → ¬ v14.ownBlock = some b

section
variable {w wB wr w5 w8 : World} {lb : Nat} {S : Nat → Prop} {bs : List Bool} {L : List Pair} {k n : Nat} {v13 v14 v' : Value} {G T : List ByteArray}

/-- A key stays: the list may have turned (w5) before it was told (w8). -/
theorem Ord3.stay {s : ByteArray} (h : Ord3 w wB wr lb S bs L k n v13 v14) (hL : ListAt w5 lb S 64 (pinL bs L (k + 1))) (k5 : Keep wr w5 S) (e : parts n ((pinL bs L (k + 1)).take (k + 1)) = (G, T ++ [s]))
    (m13 : Made w wr 9 v13 (G.map Value.string)) (m14 : Made w w8 9 v' ((T ++ [s]).map Value.string)) (k8 : Keep w5 w8 (fun b => v14.ownBlock = some b)) (o8 : ∀ b, v'.ownBlock = some b → v14.ownBlock = some b ∨ w5.heap.size ≤ b)
    (hS : ∀ b, S b → w.heap.size ≤ b) : Ord3 w wB w8 lb S bs L (k + 1) n v13 v' := by
  have hz := k5.size
  have hzB := h.keep.size
  refine ⟨hL.keep k8 (fun b q z => (h.own14 b z).1 q), (h.keep.trans k5 (fun b q => .inl q)).trans k8 (fun b q => .inr (h.own14 b q).2), ?_, by rw [e]; exact m14, h.own13, fun b q => ?_, fun b q z => ?_⟩
  · rw [e]
    exact (m13.turn k5 (fun b q => (h.own13 b q).1) hS).turn k8 (fun b q z => h.apart b q z) (fun b q => h.m14.new b q)
  · rcases o8 b q with z | z
    · exact h.own14 b z
    · exact ⟨fun y => by have := hL.lt b y; omega, by omega⟩
  · rcases o8 b z with y | y
    · exact h.apart b q y
    · have := m13.lt b q; omega

/-- A key is to go. -/
theorem Ord3.go {s : ByteArray} (h : Ord3 w wB wr lb S bs L k n v13 v14) (hp : pinL bs L (k + 1) = pinL bs L k) (e : parts n ((pinL bs L (k + 1)).take (k + 1)) = (G ++ [s], T))
    (m14 : Made w wr 9 v14 (T.map Value.string)) (m13 : Made w w8 9 v' ((G ++ [s]).map Value.string)) (k8 : Keep wr w8 (fun b => v13.ownBlock = some b)) (o8 : ∀ b, v'.ownBlock = some b → v13.ownBlock = some b ∨ wr.heap.size ≤ b) :
    Ord3 w wB w8 lb S bs L (k + 1) n v' v14 := by
  have hzB := h.keep.size
  refine ⟨by rw [hp]; exact h.list.keep k8 (fun b q z => (h.own13 b z).1 q), h.keep.trans k8 (fun b q => .inr (h.own13 b q).2), by rw [e]; exact m13, ?_, fun b q => ?_, h.own14, fun b q z => ?_⟩
  · rw [e]
    exact m14.turn k8 (fun b q z => h.apart b z q) (fun b q => h.m13.new b q)
  · rcases o8 b q with z | z
    · exact h.own13 b z
    · exact ⟨fun y => by have := h.list.lt b y; omega, by omega⟩
  · rcases o8 b q with y | y
    · exact h.apart b y z
    · have := m14.lt b z; omega
end

set_option maxRecDepth 100000 in
set_option maxHeartbeats 16000000 in
theorem order_walk (a2 : Option Addr) (l2 c2 : Nat) (ks : List ByteArray) (a3 : Option Addr) (l3 c3 : Nat) (bs : List Bool) (n : Int) (w : World) (h2 : StrsIs w a2 l2 c2 ks) (h3 : BoolsIs w a3 l3 c3 bs) (_hn : (Lit.int .i64 n).wf = true) :
    Calls Try.prog 5 #[.slice a2 l2 c2, .slice a3 l3 c3, .int .i64 n] w fun r w' => r = .returned (.bool true) ∧ Below w.heap.size w w' := by
  have H := Lib.hid h2
  have H3 := Lib.hid h3
  have hl2 : l2 ≤ 9223372036854775807 := by have e2 := h2.2.1; unfold maxLen at e2; omega
  have hl3 : l3 ≤ 9223372036854775807 := by have e2 := h3.2.1; unfold maxLen at e2; omega
  have HK := Lib.hid h2.1
  clear h2 h3
  obtain ⟨m, hm⟩ : ∃ m : Nat, m = 63 := ⟨63, rfl⟩
  go_enter Try.func5, Try.ntmps5
  have hnew := new_c w 64 (by omega) (by omega)
  go_wp2_with fail
  refine hnew.mono ?_
  rintro e w2 ⟨lb, S1, rfl, hL1, hT1⟩
  have B1 : OrdW w w2 lb S1 64 [] (.slice none 0 0) := ⟨hL1, hT1.keep, fun b q => (hT1.new b q).elim (fun z => z.elim) id, ⟨none, 0, rfl, .inl rfl⟩, fun b q => by simp [Value.ownBlock] at q, fun x hx => by simp at hx, by simp⟩
  have BB := Lib.hid B1
  clear hL1 hT1 hnew B1
  obtain ⟨ti, ti1, ti2, ti3, ti4⟩ := str_info
  have HI := Lib.hid (And.intro ti1 (And.intro ti2 (And.intro ti3 ti4)))
  have hz1 : (Value.string ByteArray.empty).cells.size = 1 := rfl
  clear ti1 ti2 ti3 ti4
  go_upto_block 0 with (fail)
  go_cut [9, 10] from 11 to 71 (fun s9 s10 wx => ∃ S L a c, s9 = .slice a L.length c ∧ L.length ≤ 50 ∧ OrdW w wx lb S 64 L (.slice a L.length c))
  case first =>
    go_wp2_with fail
    go_loopg [9, 10] 50 (fun g s9 s10 wr => ∃ (j : Nat) (S : Nat → Prop) (L : List Pair) (a : Option Addr) (c : Nat), j ≤ 50 ∧ g = 50 - j ∧ s10 = .int .i64 j ∧ s9 = .slice a L.length c ∧ L.length ≤ j ∧ OrdW w wr lb S 64 L (.slice a L.length c))
    case atStart => exact ⟨0, S1, [], none, 0, by omega, rfl, rfl, rfl, by simp, BB.out⟩
    case round =>
      obtain ⟨j, S, L, a, c, hj, rfl, rfl, rfl, hLj, hB⟩ := hrel
      have B := Lib.hid hB
      have hL10 : L.length ≤ 50 := by omega
      have hnd := Lib.hid hB.list.nodup
      have hus := use_c hB.list (by omega)
      have husp := Lib.hid (use_plain (m := 64) hB.plain hB.list.nodup (by omega))
      clear hB
      by_cases hlt : j < l2
      · by_cases hlt2 : j < 50
        · have g1 : (j : Int) < (l2 : Int) := by omega
          have g2 : (j : Int) < 50 := by omega
          obtain ⟨x, hx⟩ : ∃ x, ks[j]? = some x := ⟨_, List.getElem?_eq_getElem (by rw [HK.out]; exact hlt)⟩
          obtain ⟨b, off, rfl, _, hf⟩ := H.out.2.2.1.some (by rw [List.length_map, HK.out]; omega)
          have hcx := Lib.hid (hf j _ (mapGet hx))
          have c1 : wr.cell? ⟨b, off + j, none⟩ = some (.string x) := B.out.keep.cell hcx.out (fun q => q)
          have hu := hus x
          clear hus hf hx
          obtain ⟨wo, rfl⟩ : ∃ wo : World, wo = wr := ⟨_, rfl⟩
          obtain ⟨U, gs, ok, hue⟩ : ∃ U gs ok, useE 64 L x = (U, gs, ok) := ⟨_, _, _, rfl⟩
          rw [hue] at hu
          have HUE := Lib.hid hue
          clear hue
          go_upto_block 2 with (
            go_at_call 10
            refine hu.mono ?_
            rintro e w3 ⟨rfl, S3, hL3, hT3⟩
            have N3 := Lib.hid (And.intro hL3 hT3)
            clear hu hL3 hT3)
          have ord3 := Lib.hid (B.out.ord.keep N3.out.2.keep (fun b q => (B.out.ordS b q).1))
          obtain ⟨O, hO⟩ : ∃ O, O = L.map Prod.fst := ⟨_, rfl⟩
          have hOl : O.length = L.length := by rw [hO, List.length_map]
          rw [← hO] at ord3
          have HO := Lib.hid (And.intro hO hOl)
          clear hO hOl c1
          generalize hLn : L.length = ln at *
          have HLn := Lib.hid hLn
          clear hLn
          go_cut [11, 12] from 43 to 64 (fun s11 s12 wx => Made w3 wx 9 s11 ((O.filter (fun s => decide (s ≠ x))).map Value.string))
          case first =>
            go_wp2_with fail
            go_loopg [11, 12] ln (fun g s11 s12 wr => ∃ k : Nat, s12 = .int .i64 k ∧ k + g = ln ∧ Made w3 wr 9 s11 (((O.take k).filter (fun s => decide (s ≠ x))).map Value.string))
            case atStart => exact ⟨0, rfl, by omega, by simpa using Made.nil w3 9⟩
            case round =>
              obtain ⟨k, rfl, hk, hM⟩ := hrel
              have hMl : (((O.take k).filter (fun s => decide (s ≠ x))).map Value.string).length ≤ 50 := by
                rw [List.length_map]
                have h1 := List.length_filter_le (fun s => decide (s ≠ x)) (O.take k)
                rw [List.length_take] at h1
                have := HO.out.2
                omega
              obtain ⟨q3, hq3⟩ : ∃ q3, (((O.take k).filter (fun s => decide (s ≠ x))).map Value.string).length = q3 := ⟨_, rfl⟩
              have M := Lib.hid hM
              obtain ⟨a3, cap3, rfl⟩ := hM.valn hq3
              rw [hq3] at hMl
              have HQ3 := Lib.hid hq3
              clear hM hq3
              by_cases hlk : k < ln
              · have g3 : (k : Int) < (ln : Int) := by omega
                obtain ⟨y, hy⟩ : ∃ y, O[k]? = some y := ⟨_, List.getElem?_eq_getElem (by rw [HO.out.2]; exact hlk)⟩
                obtain ⟨bo, oo, rfl, _, hfo⟩ := ord3.out.some (by rw [List.length_map, HO.out.2]; omega)
                have hcy := Lib.hid (hfo k _ (mapGet hy))
                have k3 := M.out.keep
                have c1 : wr.cell? ⟨b, off + j, none⟩ = some (.string x) := k3.cell (((B.out.keep.trans N3.out.2.keep (fun b q => .inr (B.out.new b q)))).cell hcx.out (fun q => q)) (fun q => q)
                have c2 : wr.cell? ⟨bo, oo + k, none⟩ = some (.string y) := k3.cell hcy.out (fun q => q)
                have HY := Lib.hid (show O.take (k + 1) = O.take k ++ [y] by rw [List.take_add_one, hy]; rfl)
                clear hfo hy k3
                by_cases he : y = x
                · subst he
                  have g4 : (y.toList == y.toList) = true := by simp
                  go_wp2
                  go_quiet (fail)
                  go_wp2
                  go_roundg (ln - (k + 1))
                  case measure => omega
                  case rel => exact ⟨k + 1, rfl, by omega, by rw [HY.out]; simpa using M.out.aside (drewN_keep _ (fun _ => False) _)⟩
                · have g4 : (y.toList == x.toList) = false := streq he
                  have HE := Lib.hid he
                  clear he
                  go_wp2
                  go_quiet (fail)
                  obtain ⟨wq, hwq⟩ : ∃ wq, wq = wr.drewN nq := ⟨_, rfl⟩
                  rw [← hwq]
                  have c3 : wq.cell? ⟨bo, oo + k, none⟩ = some (.string y) := by rw [hwq]; exact c2
                  have Mq := Lib.hid (show Made w3 wq 9 _ _ from by rw [hwq]; exact M.out.aside (drewN_keep _ (fun _ => False) _))
                  clear hwq c1 c2
                  go_wp2_with (
                    at_builtin
                    refine law_push rfl _ _ _ rfl Try.underlying22 HI.out.1 HI.out.2.1 HI.out.2.2.1 HI.out.2.2.2 hz1 Mq.out rfl (.string y) rfl rfl HQ3.out (by omega) ?_
                    intro a8 cap8 w8 hM8 _ _
                    have M8 := Lib.hid hM8
                    clear hM8)
                  go_roundg (ln - (k + 1))
                  case measure => omega
                  case rel => exact ⟨k + 1, rfl, by omega, by rw [HY.out]; simpa [HE.out] using M8.out⟩
              · have g3 : ¬ (k : Int) < (ln : Int) := by omega
                have MF := Lib.hid (show Made w3 wr 9 (.slice a3 q3 cap3) ((O.filter (fun s => decide (s ≠ x))).map Value.string) from by
                  have := M.out
                  rw [List.take_of_length_le (by rw [HO.out.2]; omega)] at this
                  exact this)
                go_wp2
                go_meet
                case rel => exact MF.out
          case rest =>
            have hM := hcut
            clear hcut
            have hO2 : O.filter (fun s => decide (s ≠ x)) = (adel L x).map Prod.fst := by rw [HO.out.1, adel_map hnd.out x]
            rw [hO2] at hM
            have hal : ((adel L x).map Prod.fst).length ≤ 50 := by rw [List.length_map]; have := (adel_sub L x).length_le; have := HLn.out; omega
            obtain ⟨nx, hnx⟩ : ∃ nx, (((adel L x).map Prod.fst).map Value.string).length = nx := ⟨_, rfl⟩
            obtain ⟨a3, cap3, rfl⟩ := hM.valn hnx
            have hnx2 : (used L x).length = nx + 1 := by rw [← hnx]; unfold used; simp
            have hnx3 : nx ≤ 50 := by rw [← hnx, List.length_map]; exact hal
            have M := Lib.hid (And.intro hM (And.intro hnx hnx2))
            have c1 : wc.cell? ⟨b, off + j, none⟩ = some (.string x) := hM.keep.cell (((B.out.keep.trans N3.out.2.keep (fun b q => .inr (B.out.new b q)))).cell hcx.out (fun q => q)) (fun q => q)
            clear hM hO2 hal hnx hnx2
            have hlist : ∀ w', Keep w3 w' (fun _ => False) → ∀ U2, U2 = U → ListAt w' lb S3 64 U2 := fun w' K' U2 e => by rw [e]; exact N3.out.1.aside K'
            have HLI := Lib.hid hlist
            clear hlist
            rcases husp.out x with ⟨h1, h2⟩ | ⟨h1, y, r, h2, h3⟩
            · have hh := HUE.out
              rw [h2] at hh
              simp only [Prod.mk.injEq] at hh
              obtain ⟨hU, rfl, rfl⟩ := hh
              have HU := Lib.hid hU
              have H1 := Lib.hid h1
              clear h1 h2 hU
              go_wp2_with (
              at_builtin
              refine law_push rfl _ _ _ rfl Try.underlying22 HI.out.1 HI.out.2.1 HI.out.2.2.1 HI.out.2.2.2 hz1 M.out.1 rfl (.string x) rfl rfl M.out.2.1 (by omega) ?_
              intro a8 cap8 w8 hM8 _ _
              have hr8 := hM8.row
              have hl8 : (((adel L x).map Prod.fst).map Value.string ++ [Value.string x]).length = nx + 1 := by rw [List.length_append, M.out.2.1]; rfl
              rw [hl8] at hr8
              obtain ⟨g8, rfl, _, hc8, hg8⟩ := rows_some hr8 (by omega)
              obtain ⟨cur8, _, _, hm8, _, _⟩ := rows_block hr8
              have hm9 : cap8 ≤ 9223372036854775807 := by unfold maxLen at hm8; omega
              have M8 := Lib.hid hM8
              have e8 : ((adel L x).map Prod.fst).map Value.string ++ [Value.string x] = ((used L x).map Prod.fst).map Value.string := by unfold used; simp
              have hM9 := hM8
              rw [e8] at hM9
              have M9 := Lib.hid hM9
              clear hM8 hM9 hr8 hl8 hm8 e8)
              go_roundg (50 - (j + 1))
              case measure => omega
              case rel =>
                refine ⟨j + 1, S3, used L x, some ⟨g8, 0, none⟩, cap8, by omega, rfl, rfl, by rw [M.out.2.2], by have := M.out.2.2; have h1 := M.out.2.1; simp only [List.length_map] at h1; have := (adel_sub L x).length_le; have := HLn.out; omega, ?_⟩
                rw [M.out.2.2]
                refine ⟨HLI.out _ M9.out.keep _ HU.out, (B.out.keep.trans N3.out.2.keep (fun b q => .inr (B.out.new b q))).trans M9.out.keep (fun _ q => q.elim), fun b q => (N3.out.2.new b q).elim (B.out.new b) (fun z => by have := B.out.keep.size; omega), M9.out.list, fun b q => ⟨fun z => by have := M9.out.new b q; have := N3.out.1.lt b z; omega, M9.out.lt b q⟩, plain_used B.out.plain x, H1.out⟩
            · exfalso
              have := M.out.2.2
              omega
        · have g1 : (j : Int) < (l2 : Int) := by omega
          have g2 : ¬ (j : Int) < 50 := by omega
          go_wp2
          go_meet
          case rel => exact ⟨S, L, a, c, rfl, hL10, B.out⟩
      · have g1 : ¬ (j : Int) < (l2 : Int) := by omega
        go_wp2
        go_meet
        case rel => exact ⟨S, L, a, c, rfl, hL10, B.out⟩
  case rest =>
    obtain ⟨S, L, a, c, rfl, hL50, hB⟩ := hcut
    have B := Lib.hid hB
    clear hB
    generalize hLn : L.length = ln at *
    have HLn := Lib.hid hLn
    clear hLn
    go_wp2_with fail
    refine (within_c _ _ 0 60 (by omega) (by omega) (by omega)).mono ?_
    rintro e w1 ⟨n0, hn0, hn1, rfl, rfl⟩
    obtain ⟨nn, rfl⟩ : ∃ nn : Nat, n0 = (nn : Int) := ⟨n0.toNat, by omega⟩
    have hB0 : Ord3 w wc wc lb S bs L 0 nn (.slice none 0 0) (.slice none 0 0) := by
      refine ⟨by rw [pinL_zero bs B.out.plain]; exact B.out.list, Keep.refl _ _, ?_, ?_, fun b q => by simp [Value.ownBlock] at q, fun b q => by simp [Value.ownBlock] at q, fun b q => by simp [Value.ownBlock] at q⟩
      · exact ⟨rows_nil _ _ _, B.out.keep, fun b q => by simp [Value.ownBlock] at q⟩
      · exact ⟨rows_nil _ _ _, B.out.keep, fun b q => by simp [Value.ownBlock] at q⟩
    have HB0 := Lib.hid hB0
    clear hB0
    go_wp2_with fail
    go_loopg [13, 14, 15, 16] ln (fun g s13 s14 s15 _ wr => ∃ k : Nat, s15 = .int .i64 k ∧ k + g = ln ∧ Ord3 w wc wr lb S bs L k nn s13 s14)
    case atStart => exact ⟨0, rfl, by omega, HB0.out⟩
    case round =>
      obtain ⟨k, rfl, hk, hO⟩ := hrel
      have D := Lib.hid hO
      obtain ⟨G, hG⟩ : ∃ G, G = (parts nn ((pinL bs L k).take k)).1 := ⟨_, rfl⟩
      obtain ⟨T, hT⟩ : ∃ T, T = (parts nn ((pinL bs L k).take k)).2 := ⟨_, rfl⟩
      have hpl := parts_len nn ((pinL bs L k).take k)
      rw [← hG, ← hT, List.length_take, pinL_len, HLn.out] at hpl
      obtain ⟨gl, hgl⟩ : ∃ gl, (G.map Value.string).length = gl := ⟨_, rfl⟩
      obtain ⟨tl, htl⟩ : ∃ tl, (T.map Value.string).length = tl := ⟨_, rfl⟩
      have hm1 := hO.m13
      have hm2 := hO.m14
      rw [← hG] at hm1
      rw [← hT] at hm2
      obtain ⟨a13, cap13, rfl⟩ := hm1.valn hgl
      obtain ⟨a14, cap14, rfl⟩ := hm2.valn htl
      have HM := Lib.hid (And.intro hm1 hm2)
      have HGT := Lib.hid (And.intro hG hT)
      have hpl2 : gl + tl ≤ 50 := by rw [← hgl, ← htl, List.length_map, List.length_map]; omega
      have HG := Lib.hid hgl
      have HT := Lib.hid htl
      have hgl2 : G.length = gl := by rw [← hgl, List.length_map]
      have HG2 := Lib.hid hgl2
      clear hO hG hT hpl hm1 hm2 hgl htl hgl2
      by_cases hlt : k < ln
      · have hlt' : (k : Int) < (ln : Int) := by omega
        obtain ⟨x, hx⟩ : ∃ x, L[k]? = some x := ⟨_, List.getElem?_eq_getElem (by rw [HLn.out]; exact hlt)⟩
        have hxO : (L.map Prod.fst)[k]? = some x.1 := by rw [List.getElem?_map, hx]; rfl
        have hln : ((L.map Prod.fst).map Value.string).length = ln := by rw [List.length_map, List.length_map, HLn.out]
        obtain ⟨bo, oo, rfl, hbo, hfo⟩ := B.out.ord.some (by rw [hln]; omega)
        have hboS : ¬ S bo := (B.out.ordS bo rfl).1
        have hcy := Lib.hid (hfo k _ (mapGet hxO))
        have c1 : wr.cell? ⟨bo, oo + k, none⟩ = some (.string x.1) := D.out.keep.cell hcy.out hboS
        have hps := Lib.hid (parts_step (bs := bs) nn hx)
        have HX := Lib.hid hx
        have HS := Lib.hid hboS
        clear hfo hxO hln hx hboS
        by_cases hp : bs.getD k false = true
        · have hk3 : k < l3 := by
            rw [← H3.out.1]
            rcases Nat.lt_or_ge k bs.length with q | q
            · exact q
            · rw [List.getD_eq_getElem?_getD, List.getElem?_eq_none q] at hp; simp at hp
          have g3 : (k : Int) < (l3 : Int) := by omega
          have hb3 : bs[k]? = some true := by
            have hkb : k < bs.length := by rw [H3.out.1]; exact hk3
            rw [List.getD_eq_getElem?_getD, List.getElem?_eq_getElem hkb] at hp
            rw [List.getElem?_eq_getElem hkb]
            simpa using hp
          obtain ⟨b3, o3, rfl, hb3lt, hf3⟩ := H3.out.2.2.some (by rw [List.length_map, H3.out.1]; omega)
          have c3 : wr.cell? ⟨b3, o3 + k, none⟩ = some (.bool true) := (B.out.keep.trans D.out.keep (fun b q => .inr (B.out.new b q))).cell (hf3 k _ (mapGet hb3)) (fun q => q)
          have hpin := Pin_c D.out.list (by rw [pinL_len, HLn.out]; omega) x.1 (pinL_bd bs L k x.1)
          rw [pinL_pin B.out.list.nodup HX.out hp] at hpin
          have HP := Lib.hid hp
          clear hf3 hb3 hp
          obtain ⟨ww, rfl⟩ : ∃ ww : World, ww = wr := ⟨_, rfl⟩
          go_wp2_with (first
            | (go_at_call 15
               refine hpin.mono ?_
               rintro e w5 ⟨rfl, q1, q2⟩
               have c5 : w5.cell? ⟨bo, oo + k, none⟩ = some (.string x.1) := q2.cell c1 HS.out
               have P5 := Lib.hid (And.intro q1 q2)
               have M5 := Lib.hid (HM.out.2.turn q2 (fun b z => (D.out.own14 b z).1) (fun b z => B.out.new b z))
               clear hpin q1 q2 c1 c3)
            | (at_builtin
               refine law_push rfl _ _ _ rfl Try.underlying22 HI.out.1 HI.out.2.1 HI.out.2.2.1 HI.out.2.2.2 hz1 M5.out rfl (.string x.1) rfl rfl HT.out (by omega) ?_
               intro a8 cap8 w8 hM8 hk8 ho8
               have M8 := Lib.hid (And.intro hM8 (And.intro hk8 ho8))
               clear hM8 hk8 ho8))
          go_roundg (ln - (k + 1))
          case measure => omega
          case rel =>
            refine ⟨k + 1, rfl, by omega, ?_⟩
            have e1 : parts nn ((pinL bs L (k + 1)).take (k + 1)) = (G, T ++ [x.1]) := by rw [hps.out, if_neg (fun q => by rw [HP.out] at q; exact absurd q.1 (by simp)), ← HGT.out.1, ← HGT.out.2]
            exact D.out.stay P5.out.1 P5.out.2 e1 HM.out.1 (by simpa using M8.out.1) M8.out.2.1 M8.out.2.2 B.out.new
        · have hp' : bs.getD k false = false := by simpa using hp
          clear hp
          have hskip := Lib.hid (pinL_skip L hp')
          have HP := Lib.hid hp'
          have hb3 : k < l3 → bs[k]? = some false := by
            intro hk3
            have hkb : k < bs.length := by rw [H3.out.1]; exact hk3
            rw [List.getD_eq_getElem?_getD, List.getElem?_eq_getElem hkb] at hp'
            rw [List.getElem?_eq_getElem hkb]
            simpa using hp'
          clear hp'
          by_cases hk3 : k < l3
          · have g3 : (k : Int) < (l3 : Int) := by omega
            obtain ⟨b3, o3, rfl, hb3lt, hf3⟩ := H3.out.2.2.some (by rw [List.length_map, H3.out.1]; omega)
            have c3 : wr.cell? ⟨b3, o3 + k, none⟩ = some (.bool false) := (B.out.keep.trans D.out.keep (fun b q => .inr (B.out.new b q))).cell (hf3 k _ (mapGet (hb3 hk3))) (fun q => q)
            clear hf3 hb3
            by_cases hge : nn ≤ gl
            · have hge' : (nn : Int) ≤ (gl : Int) := by omega
              go_wp2_with (
                at_builtin
                refine law_push rfl _ _ _ rfl Try.underlying22 HI.out.1 HI.out.2.1 HI.out.2.2.1 HI.out.2.2.2 hz1 HM.out.2 rfl (.string x.1) rfl rfl HT.out (by omega) ?_
                intro a8 cap8 w8 hM8 hk8 ho8
                have M8 := Lib.hid (And.intro hM8 (And.intro hk8 ho8))
                clear hM8 hk8 ho8)
              go_roundg (ln - (k + 1))
              case measure => omega
              case rel =>
                refine ⟨k + 1, rfl, by omega, ?_⟩
                have e1 : parts nn ((pinL bs L (k + 1)).take (k + 1)) = (G, T ++ [x.1]) := by rw [hps.out, if_neg (fun q => by have := q.2; rw [← HGT.out.1, HG2.out] at this; omega), ← HGT.out.1, ← HGT.out.2]
                exact D.out.stay (by rw [hskip.out]; exact D.out.list) (Keep.refl _ _) e1 HM.out.1 (by simpa using M8.out.1) M8.out.2.1 M8.out.2.2 B.out.new
            · have hge' : ¬ (nn : Int) ≤ (gl : Int) := by omega
              go_wp2_with (
                at_builtin
                refine law_push rfl _ _ _ rfl Try.underlying22 HI.out.1 HI.out.2.1 HI.out.2.2.1 HI.out.2.2.2 hz1 HM.out.1 rfl (.string x.1) rfl rfl HG.out (by omega) ?_
                intro a8 cap8 w8 hM8 hk8 ho8
                have M8 := Lib.hid (And.intro hM8 (And.intro hk8 ho8))
                clear hM8 hk8 ho8)
              go_roundg (ln - (k + 1))
              case measure => omega
              case rel =>
                refine ⟨k + 1, rfl, by omega, ?_⟩
                have e1 : parts nn ((pinL bs L (k + 1)).take (k + 1)) = (G ++ [x.1], T) := by rw [hps.out, if_pos ⟨HP.out, by rw [← HGT.out.1, HG2.out]; omega⟩, ← HGT.out.1, ← HGT.out.2]
                exact D.out.go hskip.out e1 HM.out.2 (by simpa using M8.out.1) M8.out.2.1 M8.out.2.2
          · have g3 : ¬ (k : Int) < (l3 : Int) := by omega
            clear hb3
            by_cases hge : nn ≤ gl
            · have hge' : (nn : Int) ≤ (gl : Int) := by omega
              go_wp2_with (
                at_builtin
                refine law_push rfl _ _ _ rfl Try.underlying22 HI.out.1 HI.out.2.1 HI.out.2.2.1 HI.out.2.2.2 hz1 HM.out.2 rfl (.string x.1) rfl rfl HT.out (by omega) ?_
                intro a8 cap8 w8 hM8 hk8 ho8
                have M8 := Lib.hid (And.intro hM8 (And.intro hk8 ho8))
                clear hM8 hk8 ho8)
              go_roundg (ln - (k + 1))
              case measure => omega
              case rel =>
                refine ⟨k + 1, rfl, by omega, ?_⟩
                have e1 : parts nn ((pinL bs L (k + 1)).take (k + 1)) = (G, T ++ [x.1]) := by rw [hps.out, if_neg (fun q => by have := q.2; rw [← HGT.out.1, HG2.out] at this; omega), ← HGT.out.1, ← HGT.out.2]
                exact D.out.stay (by rw [hskip.out]; exact D.out.list) (Keep.refl _ _) e1 HM.out.1 (by simpa using M8.out.1) M8.out.2.1 M8.out.2.2 B.out.new
            · have hge' : ¬ (nn : Int) ≤ (gl : Int) := by omega
              go_wp2_with (
                at_builtin
                refine law_push rfl _ _ _ rfl Try.underlying22 HI.out.1 HI.out.2.1 HI.out.2.2.1 HI.out.2.2.2 hz1 HM.out.1 rfl (.string x.1) rfl rfl HG.out (by omega) ?_
                intro a8 cap8 w8 hM8 hk8 ho8
                have M8 := Lib.hid (And.intro hM8 (And.intro hk8 ho8))
                clear hM8 hk8 ho8)
              go_roundg (ln - (k + 1))
              case measure => omega
              case rel =>
                refine ⟨k + 1, rfl, by omega, ?_⟩
                have e1 : parts nn ((pinL bs L (k + 1)).take (k + 1)) = (G ++ [x.1], T) := by rw [hps.out, if_pos ⟨HP.out, by rw [← HGT.out.1, HG2.out]; omega⟩, ← HGT.out.1, ← HGT.out.2]
                exact D.out.go hskip.out e1 HM.out.2 (by simpa using M8.out.1) M8.out.2.1 M8.out.2.2
      · have hlt' : ¬ (k : Int) < (ln : Int) := by omega
        obtain ⟨P, hP⟩ : ∃ P, P = pinL bs L k := ⟨_, rfl⟩
        have hPk : P.take k = P := List.take_of_length_le (by rw [hP, pinL_len, HLn.out]; omega)
        have hPf : P.map Prod.fst = L.map Prod.fst := by rw [hP]; exact pinL_fst bs L k
        have hPl : P.length = ln := by rw [hP, pinL_len, HLn.out]
        have hnd : (P.map Prod.fst).Nodup := by rw [hPf]; exact B.out.list.nodup
        have hGg : G = gone P nn := by rw [HGT.out.1, ← hP, hPk, parts_gone]; rfl
        have hTg : (dropAll P G).map Prod.fst = T := by rw [dropAll_filter _ hnd, HGT.out.2, ← hP, hPk, parts_stay nn P hnd, HGT.out.1, ← hP, hPk]
        have hli := D.out.list
        rw [← hP] at hli
        have ho1 := oldest_c hli (by omega) 100
        have hf1 : firsts P 100 = L.map Prod.fst := by unfold firsts; rw [hPf]; exact List.take_of_length_le (by rw [List.length_map, HLn.out]; show ln ≤ 100; omega)
        rw [hf1] at ho1
        have hlO : ((L.map Prod.fst).map Value.string).length = ln := by rw [List.length_map, List.length_map, HLn.out]
        have hlO2 : (L.map Prod.fst).length = ln := by rw [List.length_map, HLn.out]
        have hTl : T.length ≤ 50 := by rw [← List.length_map (f := Value.string), HT.out]; omega
        have hdl : (dropAll P G).length = T.length := by rw [← hTg, List.length_map]
        have ho3 : firsts (dropAll P G) 100 = T := by unfold firsts; rw [hTg]; exact List.take_of_length_le (by show T.length ≤ 100; omega)
        have F := Lib.hid (And.intro hli (And.intro hGg (And.intro hlO (And.intro hPl (And.intro hlO2 (And.intro hTl (And.intro hdl ho3)))))))
        clear hP hPk hPf hPl hnd hGg hTg hli hf1 hlO hlO2 hTl hdl ho3
        obtain ⟨ww, rfl⟩ : ∃ ww : World, ww = wr := ⟨_, rfl⟩
        go_wp2_with fail
        refine ho1.mono ?_
        rintro e w9 ⟨v9, rfl, hM9⟩
        obtain ⟨a9, cap9, rfl⟩ := hM9.valn F.out.2.2.1
        have hsm1 := same_c hM9.list ((B.out.ord.keep D.out.keep (fun b q => (B.out.ordS b q).1)).aside hM9.keep) (by have := F.out.2.2.2.2.1; omega) (by have := F.out.2.2.2.2.1; omega)
        rw [decide_eq_true (rfl : L.map Prod.fst = L.map Prod.fst)] at hsm1
        have M9 := Lib.hid hM9
        clear ho1 hM9
        go_wp2_with fail
        refine hsm1.mono ?_
        rintro e w10 ⟨rfl, q10, hw10⟩
        have hk10 : Keep ww w10 (fun _ => False) := M9.out.keep.trans (by rw [hw10]; exact drewN_keep _ (fun _ => False) _) (fun _ q => False.elim q)
        have hsh := shrink_c (F.out.1.aside hk10) (by have := F.out.2.2.2.1; omega) nn
        rw [← F.out.2.1] at hsh
        have M10 := Lib.hid hk10
        clear hsm1 hw10 hk10
        go_wp2_with fail
        refine hsh.mono ?_
        rintro e w11 ⟨v11, rfl, hL11, hk11, hr11, hn11⟩
        obtain ⟨a11, cap11, rfl, _⟩ := rows_val2 hr11
        have hGr := (HM.out.1.list.aside M10.out).keep hk11 (fun b q => (D.out.own13 b q).1)
        have hTr := (HM.out.2.list.aside M10.out).keep hk11 (fun b q => (D.out.own14 b q).1)
        have hsm2 := same_c (ListIn.of_own hr11) hGr (by have := HG2.out; omega) (by have := HG2.out; omega)
        rw [decide_eq_true (rfl : G = G)] at hsm2
        have M11 := Lib.hid (And.intro hL11 (And.intro hk11 hTr))
        clear hsh hL11 hk11 hr11 hn11 hGr hTr
        go_wp2_with fail
        refine hsm2.mono ?_
        rintro e w12 ⟨rfl, q12, hw12⟩
        have hk12 : Keep w11 w12 (fun _ => False) := by rw [hw12]; exact drewN_keep _ _ _
        have ho2 := oldest_c (M11.out.1.aside hk12) (by have := F.out.2.2.2.2.2.2.1; have := F.out.2.2.2.2.2.1; omega) 100
        rw [F.out.2.2.2.2.2.2.2] at ho2
        have M12 := Lib.hid (And.intro hk12 (And.intro M11.out.1 (M11.out.2.2.aside hk12)))
        clear hsm2 hw12 hk12
        go_wp2_with fail
        refine ho2.mono ?_
        rintro e w13 ⟨v13, rfl, hM13⟩
        obtain ⟨a13, cap13, rfl⟩ := hM13.valn HT.out
        have hsm3 := same_c hM13.list (M12.out.2.2.aside hM13.keep) (by have := F.out.2.2.2.2.2.1; omega) (by have := F.out.2.2.2.2.2.1; omega)
        rw [decide_eq_true (rfl : T = T)] at hsm3
        have M13 := Lib.hid hM13
        clear ho2 hM13
        go_wp2_with fail
        refine hsm3.mono ?_
        rintro e w14 ⟨rfl, q14, hw14⟩
        have M14 := Lib.hid (show Keep w13 w14 (fun _ => False) from by rw [hw14]; exact drewN_keep _ _ _)
        clear hsm3 hw14
        go_wp2_with fail
        refine (known_c _).mono ?_
        rintro e w15 ⟨rfl, hk15⟩
        have M15 := Lib.hid hk15
        clear hk15
        go_wp2
        go_ret
        refine ⟨rfl, ?_⟩
        have kS : Keep w w11 (fun b => w.heap.size ≤ b) := (((B.out.keep.mono (T := fun b => w.heap.size ≤ b) (fun _ q => q.elim)).trans D.out.keep (fun b q => .inl (B.out.new b q))).trans M10.out (fun _ q => q.elim)).trans M11.out.2.1 (fun b q => .inl (B.out.new b q))
        exact ((((kS.trans M12.out.1 (fun _ q => q.elim)).trans M13.out.keep (fun _ q => q.elim)).trans M14.out (fun _ q => q.elim)).trans M15.out (fun _ q => q.elim)).below (Nat.le_refl _) (fun _ q => q)

end Go.Proofs.Ytfmdhbcniabpiaa
