/-
  BlockSum: what is left and what all files have make the pool, whatever was written, cut, dropped or refused.
-/
import Derived.Test.YthlldbgcfohmcaaBlockL2
import Derived.Deep.CutRange
import Derived.Deep.CutBlock
namespace Go.Proofs.Ythlldbgcfohmcaa
open Go Go.RowKit
set_option linter.unusedSectionVars false
set_option linter.unusedSimpArgs false
set_option linter.unusedVariables false

def asks : List FieldKind := [.int .i64, .int .i64, .int .i64, .int .i64, .bytes]

/-- One ask, where it lies. -/
structure AskAt (w : World) (b o : Nat) (k f t c : Int) (sa : Option Addr) (m sc : Nat) : Prop where
  c0 : w.cell? ⟨b, o, none⟩ = some (.int .i64 k)
  c1 : w.cell? ⟨b, o + 1, none⟩ = some (.int .i64 f)
  c2 : w.cell? ⟨b, o + 2, none⟩ = some (.int .i64 t)
  c3 : w.cell? ⟨b, o + 3, none⟩ = some (.int .i64 c)
  c4 : w.cell? ⟨b, o + 4, none⟩ = some (.slice sa m sc)

theorem AskAt.keep {w w' : World} {b o : Nat} {k f t c : Int} {sa : Option Addr} {m sc : Nat} (h : AskAt w b o k f t c sa m sc) (K : Keep w w' (fun _ => False)) : AskAt w' b o k f t c sa m sc :=
  ⟨K.cell h.c0 (fun q => q), K.cell h.c1 (fun q => q), K.cell h.c2 (fun q => q), K.cell h.c3 (fun q => q), K.cell h.c4 (fun q => q)⟩

theorem asks_at {w : World} {a : Option Addr} {len cap : Nat} (h : StructsIs asks w a len cap) (h0 : 0 < len) :
    ∃ b off, a = some ⟨b, off, none⟩ ∧ ∀ i, i < len → ∃ k f t c sa m sc zs, AskAt w b (off + i * 5) k f t c sa m sc ∧ RowIs w sa m sc zs := by
  rcases h with ⟨_, h1, _⟩ | ⟨x, rfl, _, _, h3⟩
  · omega
  · obtain ⟨b, off, sp⟩ := x
    have e : ∀ n, w.cell? (Addr.add ⟨b, off, none⟩ n) = w.cell? ⟨b, off + n, none⟩ := by
      intro n
      unfold Addr.add
      split
      · rename_i h0; subst h0; rfl
      · rfl
    have hsp : sp = none := by
      obtain ⟨v, hv, _⟩ := h3 0 h0 0 (.int .i64) rfl
      cases sp with
      | none => rfl
      | some q =>
        rw [show 0 * asks.length + 0 = 0 from rfl] at hv
        simp only [Addr.add, if_true] at hv
        unfold World.cell? at hv
        split at hv <;> simp at hv
    subst hsp
    refine ⟨b, off, rfl, fun i hi => ?_⟩
    obtain ⟨v0, c0, k, rfl, _⟩ := h3 i hi 0 (.int .i64) rfl
    obtain ⟨v1, c1, f, rfl, _⟩ := h3 i hi 1 (.int .i64) rfl
    obtain ⟨v2, c2, t, rfl, _⟩ := h3 i hi 2 (.int .i64) rfl
    obtain ⟨v3, c3, c, rfl, _⟩ := h3 i hi 3 (.int .i64) rfl
    obtain ⟨v4, c4, sa, m, sc, zs, rfl, hr⟩ := h3 i hi 4 .bytes rfl
    rw [e] at c0 c1 c2 c3 c4
    exact ⟨k, f, t, c, sa, m, sc, zs, ⟨c0, by rw [← Nat.add_assoc] at c1; exact c1, by rw [← Nat.add_assoc] at c2; exact c2, by rw [← Nat.add_assoc] at c3; exact c3, by rw [← Nat.add_assoc] at c4; exact c4⟩, hr⟩

/-- The ask in a box of its own, beside the pool. -/
structure Boxed (w : World) (S : Nat → Prop) (nb : Nat) (k f t c : Int) (v : Value) : Prop where
  box : w.heap[nb]? = some (.cells #[.int .i64 k, .int .i64 f, .int .i64 t, .int .i64 c, v] 45 (0, 0))
  apart : ¬ S nb

theorem Boxed.turn {w w' : World} {S S' : Nat → Prop} {nb : Nat} {k f t c : Int} {v : Value} (h : Boxed w S nb k f t c v) (T : Turn w S w' S') : Boxed w' S' nb k f t c v :=
  ⟨T.keep.get h.box h.apart, fun q => (T.new _ q).elim h.apart (fun z => by
    have := (Array.getElem?_eq_some_iff.1 h.box).1
    omega)⟩

set_option maxRecDepth 100000 in
set_option maxHeartbeats 1000000 in
theorem sum_walk (x : Int) (a : Option Addr) (len cap : Nat) (w : World) (h : StructsIs asks w a len cap) :
    Calls Try.prog 10 #[.int .i64 x, .slice a len cap] w fun r w' => r = .returned (.bool true) ∧ Below w.heap.size w w' := by
  have hcap := h.cap
  have hlen : len ≤ 9223372036854775807 := by have := hcap.1; have := hcap.2; unfold maxLen at this; omega
  have H := Lib.hid h
  clear h hcap
  go_enter Try.func10, Try.ntmps10
  go_wp2_with (first
    | (go_at_call 16
       refine (within_c _ _ 0 40 (by omega) (by omega) (by omega)).mono ?_
       rintro e w1 ⟨n, hn0, hn1, rfl, rfl⟩)
    | (go_at_call 11
       refine (new_c _ n (by omega) (by omega)).mono ?_
       rintro e w1 ⟨pb, S1, rfl, hp1, ht1⟩
       have C1 := Lib.hid (Cur.made (Keep.refl w _) hp1 ht1 (PoolV.new_ok (by omega) (by omega)))
       clear hp1 ht1
       unfold ptr))
  go_loopg [7, 8] 60 (fun g f i wr => ∃ (j : Nat) (S : Nat → Prop) (V : PoolV), j ≤ 60 ∧ g = 60 - j ∧ f = .int .i64 V.made ∧ i = .int .i64 j ∧ Cur w wr pb S V n ∧ V.fit ∧ V.made ≤ 6 ∧ 0 ≤ V.made)
  case atStart => exact ⟨0, S1, ⟨n, 0, []⟩, by omega, rfl, rfl, by simp, C1.out, PoolV.fit_new n, by simp, by simp⟩
  case round =>
    obtain ⟨j, S, V, hj, rfl, rfl, rfl, hC, hfit, hm6, hm0⟩ := hrel
    have C := Lib.hid (And.intro hC hfit)
    clear hC hfit
    by_cases hlt : j < len
    · by_cases hlt6 : j < 60
      · obtain ⟨b, off, rfl, hat⟩ := asks_at H.out (by omega)
        obtain ⟨k, f, t, c, sa, m, sc, zs, hA, hR⟩ := hat j hlt
        have hA' := hA.keep C.out.1.keep
        have hB := Lib.hid (hR.bytes (min m 200) (Nat.min_le_left _ _))
        have hsc := hR.cap
        have hscm := hsc.2.1
        have hscl := hsc.1
        unfold maxLen at hscm
        obtain ⟨c0, c1, c2, c3, c4⟩ := hA'
        clear hat hA hR hsc
        obtain ⟨wo, rfl⟩ : ∃ wo : World, wo = wr := ⟨_, rfl⟩
        go_upto_if 43 with (fail)
        go_cut [] from 26 to 125 (fun wx => ∃ m' : Nat, m' = min m 200 ∧ Boxed wx S wo.heap.size k f t c (.slice sa m' sc) ∧ Keep wo wx (fun _ => False))
        case first =>
          by_cases h2 : 200 < m
          · go_wp2
            go_meet
            case rel =>
              refine ⟨200, by omega, ⟨heap_alloc_eq _ _, fun q => by have := C.out.1.pool.lt q; omega⟩, Keep.alloc wo _ _⟩
          · go_wp2
            go_meet
            case rel =>
              refine ⟨m, by omega, ⟨heap_alloc_eq _ _, fun q => by have := C.out.1.pool.lt q; omega⟩, Keep.alloc wo _ _⟩
        case rest =>
          obtain ⟨m', hm', hbox, hkx⟩ := hcut
          subst hm'
          have D0 := Lib.hid (And.intro hbox (And.intro (C.out.1.step hkx) C.out.2))
          have d0 : wc.cell? ⟨wo.heap.size, 0, none⟩ = some (.int .i64 k) := by rw [cell_blk hbox.box]; rfl
          have d1 : wc.cell? ⟨wo.heap.size, 1, none⟩ = some (.int .i64 f) := by rw [cell_blk hbox.box]; rfl
          clear hbox hkx c0 c1 c2 c3 c4
          go_upto_region 12 with (fail)
          go_cut [58] from 26 to 125 (fun s wx => ∃ t : Bool, s = .bool t ∧ (t = false → 1 ≤ V.made) ∧ (t = true → V.made ≤ 5) ∧ wx = wc)
          case first =>
            by_cases h1 : V.made = 0
            · have g1 : (V.made == 0) = true := by simpa using h1
              go_wp2
              go_meet
              case rel => exact ⟨true, rfl, by simp, by omega, rfl⟩
            · have g1 : (V.made == 0) = false := by simpa using h1
              by_cases h2 : k = 1
              · have g2 : (k == 1) = true := by simpa using h2
                by_cases h3 : V.made < 6
                all_goals
                  go_wp2
                  go_meet
                  case rel => exact ⟨_, rfl, by omega, by first | omega | simp [h3], rfl⟩
              · have g2 : (k == 1) = false := by simpa using h2
                go_wp2
                go_meet
                case rel => exact ⟨false, rfl, by omega, by simp, rfl⟩
          case rest =>
            obtain ⟨q, rfl, hq0, hq1, rfl⟩ := hcut
            go_upto_if 58 with (fail)
            go_cut [7] from 26 to 125 (fun s wx => ∃ (S' : Nat → Prop) (V' : PoolV), s = .int .i64 V'.made ∧ 1 ≤ V'.made ∧ V'.made ≤ 6 ∧ Cur w wx pb S' V' n ∧ V'.fit ∧ Boxed wx S' wo.heap.size k f t c (.slice sa (min m 200) sc))
            case first =>
              cases q
              · go_wp2
                go_meet
                case rel => exact ⟨S, V, rfl, hq0 (by trivial), hm6, D0.out.2.1, D0.out.2.2, D0.out.1⟩
              · go_wp2_with (
                  go_at_call 12
                  refine (file_cc D0.out.2.1.pool D0.out.2.1.ok (by omega)).mono ?_
                  rintro e w3 ⟨rfl, S2, hp3, ht3⟩
                  have D3 := Lib.hid (And.intro (D0.out.2.1.turn hp3 ht3 D0.out.2.1.ok.file) (D0.out.1.turn ht3))
                  clear hp3 ht3)
                go_meet
                case rel =>
                  have := hq1 (by trivial)
                  exact ⟨S2, V.file, rfl, by show 1 ≤ V.made + 1; omega, by show V.made + 1 ≤ 6; omega, D3.out.1, PoolV.fit.file D0.out.2.1.ok D0.out.2.2, D3.out.2⟩
            case rest =>
              obtain ⟨S', V', rfl, hv1, hv6, hC', hfit', hbox⟩ := hcut
              have d0 : wc.cell? ⟨wo.heap.size, 0, none⟩ = some (.int .i64 k) := by rw [cell_blk hbox.box]; rfl
              have d1 : wc.cell? ⟨wo.heap.size, 1, none⟩ = some (.int .i64 f) := by rw [cell_blk hbox.box]; rfl
              have d2 : wc.cell? ⟨wo.heap.size, 2, none⟩ = some (.int .i64 t) := by rw [cell_blk hbox.box]; rfl
              have d3 : wc.cell? ⟨wo.heap.size, 3, none⟩ = some (.int .i64 c) := by rw [cell_blk hbox.box]; rfl
              have d4 : wc.cell? ⟨wo.heap.size, 4, none⟩ = some (.slice sa (min m 200) sc) := by rw [cell_blk hbox.box]; rfl
              have D1 := Lib.hid (And.intro hbox (And.intro hC' hfit'))
              clear hbox hC' hfit' D0 hq0 hq1 q
              go_upto_block 2 with (
                go_at_call 16
                refine (within_c _ _ 0 _ (by omega) (by omega) (by omega)).mono ?_
                rintro e w4 ⟨y, hy0, hy1, rfl, rfl⟩)
              go_cut [] from 26 to 125 (fun wx => ∃ (S2 : Nat → Prop) (V2 : PoolV), V2.made = V'.made ∧ Cur w wx pb S2 V2 n ∧ V2.fit)
              case first =>
                by_cases k4 : k = 4
                · subst k4
                  go_wp2_with (
                    go_at_call 13
                    refine (write_c (l := zs.take (min m 200)) D1.out.2.1.pool D1.out.2.1.ok _ t (D1.out.2.1.bytes hB.out.2) (by rw [hB.out.1]; unfold maxLen; omega)).mono ?_
                    rintro e w5 ⟨rfl, S3, hp5, ht5⟩
                    have D5 := Lib.hid (And.intro hp5 ht5)
                    clear hp5 ht5)
                  go_meet
                  case rel => exact ⟨S3, _, PoolV.write_made _ _ _ _, D1.out.2.1.turn D5.out.1 D5.out.2 (D1.out.2.1.ok.write _ _ hB.out.2.1), PoolV.fit.write D1.out.2.1.ok D1.out.2.2 _ _ _⟩
                · have g4 : (k == 4) = false := by simpa using k4
                  by_cases k5 : k = 5
                  · subst k5
                    go_wp2_with (
                      go_at_call 21
                      refine (cut_c D1.out.2.1.pool D1.out.2.1.ok _ c).mono ?_
                      rintro e w5 ⟨rfl, S3, hp5, ht5⟩
                      have D5 := Lib.hid (And.intro hp5 ht5)
                      clear hp5 ht5)
                    go_meet
                    case rel => exact ⟨S3, _, PoolV.cut_made _ _ _, D1.out.2.1.turn D5.out.1 D5.out.2 (D1.out.2.1.ok.cut _ _), PoolV.fit.cut D1.out.2.1.ok D1.out.2.2 _ _⟩
                  · have g5 : (k == 5) = false := by simpa using k5
                    by_cases k2 : k = 2
                    · subst k2
                      go_wp2_with (
                        go_at_call 20
                        refine (drop_c D1.out.2.1.pool D1.out.2.1.ok _).mono ?_
                        rintro e w5 ⟨rfl, S3, hp5, ht5⟩
                        have D5 := Lib.hid (And.intro hp5 ht5)
                        clear hp5 ht5)
                      go_meet
                      case rel => exact ⟨S3, _, PoolV.drop_made _ _, D1.out.2.1.turn D5.out.1 D5.out.2 (D1.out.2.1.ok.drop _), PoolV.fit.drop D1.out.2.1.ok D1.out.2.2 _⟩
                    · have g2 : (k == 2) = false := by simpa using k2
                      go_wp2
                      go_meet
                      case rel => exact ⟨S', V', rfl, D1.out.2.1, D1.out.2.2⟩
              case rest =>
                obtain ⟨S2, V2, hmade, hC2, hfit2⟩ := hcut
                have M := Lib.hid hmade
                have D2 := Lib.hid (And.intro hC2 hfit2)
                clear hmade hC2 hfit2 d0 d1 d2 d3 d4
                go_wp2_with (
                  go_at_call 19
                  refine (left_c D2.out.1.pool).mono ?_
                  rintro e w6 ⟨rfl, rfl⟩)
                go_loopg [11, 12] (V'.made.toNat) (fun g s i wq => ∃ q : Nat, (q : Int) ≤ V'.made ∧ g = V'.made.toNat - q ∧ i = .int .i64 (q + 1) ∧ s = .int .i64 (V2.left + sumTo V2.used q) ∧ wq = wc)
                case atStart => exact ⟨0, by omega, by omega, rfl, by simp [sumTo], rfl⟩
                case round =>
                  obtain ⟨q, hq, rfl, rfl, rfl, rfl⟩ := hrel
                  have hu := PoolV.used_fit D2.out.1.ok D2.out.2 (q + 1)
                  have hs := sumTo_used D2.out.1.ok D2.out.2 q
                  have hl0 := D2.out.1.ok.left
                  have hl1 := D2.out.1.ok.left_le
                  obtain ⟨hu0, hu1, hz0, hz1, huz⟩ := hu
                  obtain ⟨hs0, hs1⟩ := hs
                  by_cases hle : (q : Int) + 1 ≤ V'.made
                  · have g1 : (decide (V2.used (q + 1) < 0)) = false := decide_eq_false (by omega)
                    go_wp2_with (first
                      | (go_at_call 18
                         refine (used_c D2.out.1.pool _).mono ?_
                         rintro e w6 ⟨rfl, rfl⟩)
                      | (go_at_call 17
                         refine (size_c D2.out.1.pool _).mono ?_
                         rintro e w6 ⟨rfl, rfl⟩))
                    go_roundg (V'.made.toNat - (q + 1))
                    case measure => omega
                    case rel => exact ⟨q + 1, by omega, rfl, by go_num, by simp only [sumTo, Int.add_assoc], rfl⟩
                  · have hqm : V2.made = (q : Int) := by rw [M.out]; omega
                    have hsum := PoolV.sum_used D2.out.1.ok q hqm
                    have g1 : (V2.left + sumTo V2.used q == n) = true := by simpa using hsum
                    go_wp2_with (first
                      | (go_at_call 19
                         refine (left_c D2.out.1.pool).mono ?_
                         rintro e w6 ⟨rfl, rfl⟩))
                    go_roundg (60 - (j + 1))
                    case measure => omega
                    case rel => exact ⟨j + 1, S2, V2, by omega, rfl, by rw [M.out], by go_num, D2.out.1, D2.out.2, by rw [M.out]; omega, by rw [M.out]; omega⟩
      · go_wp2_with (
          go_at_call 15
          refine (known_c _).mono ?_
          rintro e w9 ⟨rfl, hk9⟩)
        go_ret
        exact ⟨rfl, (C.out.1.step hk9).below⟩
    · go_wp2_with (
        go_at_call 15
        refine (known_c _).mono ?_
        rintro e w9 ⟨rfl, hk9⟩)
      go_ret
      exact ⟨rfl, (C.out.1.step hk9).below⟩

theorem sum_row (x : Int) (a : Option Addr) (len cap : Nat) (w : World) (_ : (Lit.int .i64 x).wf = true) (h : StructsIs [.int .i64, .int .i64, .int .i64, .int .i64, .bytes] w a len cap) :
    Calls Try.prog 10 #[.int .i64 x, .slice a len cap] w fun r w' => r = .returned (.bool true) ∧ Below w.heap.size w w' := sum_walk x a len cap w h

end Go.Proofs.Ythlldbgcfohmcaa
