/-
  ChainKeys: keys are there as they were put, in order, in whichever chains they lie.
-/
import Derived.Test.YtkdpkmlmkholmaaChainA
import Derived.Test.YtkdpkmlmkholmaaRKeys
import Derived.Test.YtkdpkmlmkholmaaSameS
import Derived.Test.YtkdpkmlmkholmaaArgs
import Derived.Test.YtkdpkmlmkholmaaWithin
import Derived.Deep.CutRange
import Derived.IntWalk
import Derived.Deep.CutBlock
import Derived.Deep.RegionHeld3
import Derived.StillTailTactics
import Derived.Deep.DeepCutAuto
namespace Go.Proofs.Ytkdpkmlmkholmaa
open Go Go.RowKit
set_option linter.unusedSectionVars false
set_option linter.unusedSimpArgs false
set_option linter.unusedVariables false

/-- Two tables side by side. -/
structure Two (w0 w : World) (tb ub m n : Nat) (S U : Nat → Prop) (T T2 : List Pair) : Prop where
  keep : Keep w0 w (fun _ => False)
  one : TabAt w tb S m T
  two : TabAt w ub U n T2
  su : ∀ b, S b → ¬ U b
  s0 : ∀ b, S b → w0.heap.size ≤ b
  u0 : ∀ b, U b → w0.heap.size ≤ b

section
variable {w0 w w' : World} {tb ub m n : Nat} {S U S' : Nat → Prop} {T T2 T' : List Pair}

theorem Two.first (h : Two w0 w tb ub m n S U T T2) (ht : TabAt w' tb S' m T') (k : Turn w S w' S') : Two w0 w' tb ub m n S' U T' T2 :=
  ⟨h.keep.trans k.keep (fun b q => .inr (h.s0 b q)), ht, h.two.keep k.keep (fun b q z => h.su b z q), fun b q z => (k.new b q).elim (fun y => h.su b y z) (fun y => by have := h.two.lt b z; omega),
    fun b q => (k.new b q).elim (h.s0 b) (fun y => by have := h.keep.size; omega), h.u0⟩

theorem Two.second (h : Two w0 w tb ub m n S U T T2) (ht : TabAt w' ub S' n T') (k : Turn w U w' S') : Two w0 w' tb ub m n S S' T T' :=
  ⟨h.keep.trans k.keep (fun b q => .inr (h.u0 b q)), h.one.keep k.keep (fun b q z => h.su b q z), ht, fun b q z => (k.new b z).elim (fun y => h.su b q y) (fun y => by have := h.one.lt b q; omega),
    h.s0, fun b q => (k.new b q).elim (h.u0 b) (fun y => by have := h.keep.size; omega)⟩

theorem Two.aside (h : Two w0 w tb ub m n S U T T2) (k : Keep w w' (fun _ => False)) : Two w0 w' tb ub m n S U T T2 :=
  ⟨h.keep.trans k (fun _ q => q.elim), h.one.keep k (fun _ _ q => q), h.two.keep k (fun _ _ q => q), h.su, h.s0, h.u0⟩

theorem put_first (h : Two w0 w tb ub m n S U T T2) (s : ByteArray) (u : Int) (hs : s.size ≤ 9223372036854775807) (w' : World) (K : Keep w w' (fun _ => False)) :
    Calls Try.prog 12 #[.pointer (some ⟨tb, 0, none⟩), .string s, .int .i64 u] w' fun e w4 => e = .returned (.int .i64 (putT T s u).2) ∧ ∃ S', Two w0 w4 tb ub m n S' U (putT T s u).1 T2 := by
  refine (put_c (h.one.keep K (fun _ _ q => q)) s u hs).mono ?_
  rintro e w4 ⟨rfl, S', hT', hK', _⟩
  exact ⟨rfl, S', (h.aside K).first hT' hK'⟩

theorem put_second (h : Two w0 w tb ub m n S U T T2) (s : ByteArray) (u : Int) (hs : s.size ≤ 9223372036854775807) (w' : World) (K : Keep w w' (fun _ => False)) :
    Calls Try.prog 12 #[.pointer (some ⟨ub, 0, none⟩), .string s, .int .i64 u] w' fun e w4 => e = .returned (.int .i64 (putT T2 s u).2) ∧ ∃ S', Two w0 w4 tb ub m n S S' T (putT T2 s u).1 := by
  refine (put_c (h.two.keep K (fun _ _ q => q)) s u hs).mono ?_
  rintro e w4 ⟨rfl, S', hT', hK', _⟩
  exact ⟨rfl, S', (h.aside K).second hT' hK'⟩

theorem drop_first (h : Two w0 w tb ub m n S U T T2) (s : ByteArray) (hs : s.size ≤ 9223372036854775807) :
    Calls Try.prog 10 #[.pointer (some ⟨tb, 0, none⟩), .string s] w fun e w4 => e = .returned (.tuple #[.int .i64 (dropT T s).2.1, .int .i64 (dropT T s).2.2]) ∧ ∃ S', Two w0 w4 tb ub m n S' U (dropT T s).1 T2 := by
  refine (drop_c h.one s hs).mono ?_
  rintro e w4 ⟨rfl, S', hT', hK', _⟩
  exact ⟨rfl, S', h.first hT' hK'⟩

theorem drop_second (h : Two w0 w tb ub m n S U T T2) (s : ByteArray) (hs : s.size ≤ 9223372036854775807) :
    Calls Try.prog 10 #[.pointer (some ⟨ub, 0, none⟩), .string s] w fun e w4 => e = .returned (.tuple #[.int .i64 (dropT T2 s).2.1, .int .i64 (dropT T2 s).2.2]) ∧ ∃ S', Two w0 w4 tb ub m n S S' T (dropT T2 s).1 := by
  refine (drop_c h.two s hs).mono ?_
  rintro e w4 ⟨rfl, S', hT', hK', _⟩
  exact ⟨rfl, S', h.second hT' hK'⟩
end

/-- Each number tells where the key was among those that were put. -/
def From (ks : List ByteArray) (T : List Pair) : Prop := ∀ x ∈ T, x.1.size ≤ 9223372036854775807 ∧ ∃ p : Nat, x.2 = p ∧ ks[p]? = some x.1

theorem From.put {ks : List ByteArray} {T : List Pair} (h : From ks T) {j : Nat} {x : ByteArray} (hj : ks[j]? = some x) (hs : x.size ≤ 9223372036854775807) : From ks (putT T x j).1 := by
  unfold putT
  cases aget T x with
  | some u => exact h
  | none =>
    by_cases hl : 64 ≤ T.length
    · simp only [hl, if_true]; exact h
    · simp only [hl, if_false]
      intro y hy
      rcases List.mem_append.1 hy with hy | hy
      · exact h y hy
      · simp at hy; subst hy; exact ⟨hs, j, rfl, hj⟩

theorem From.drop {ks : List ByteArray} {T : List Pair} (h : From ks T) (x : ByteArray) : From ks (dropT T x).1 := by
  unfold dropT
  cases aget T x with
  | none => exact h
  | some u => exact fun y hy => h y ((adel_sub T x).subset hy)

theorem sorted_lt {l : List ByteArray} (hs : l.Pairwise leS) (hn : l.Nodup) {i : Nat} {a b : ByteArray} (ha : l[i]? = some a) (hb : l[i + 1]? = some b) : Op.bytesLess a.toList b.toList = true := by
  obtain ⟨h1, h2⟩ := List.getElem?_eq_some_iff.1 ha
  obtain ⟨h3, h4⟩ := List.getElem?_eq_some_iff.1 hb
  have hle := List.pairwise_iff_getElem.1 hs i (i + 1) h1 h3 (by omega)
  have hne := List.pairwise_iff_getElem.1 hn i (i + 1) h1 h3 (by omega)
  rw [h2, h4] at hle hne
  unfold leS at hle
  rw [← gt_spell] at hle
  rcases Bool.or_eq_true _ _ ▸ hle with q | q
  · exact q
  · exfalso
    rw [streq hne] at q
    simp at q

set_option maxRecDepth 100000 in
set_option maxHeartbeats 8000000 in
theorem keys_walk (a b : Int) (a2 : Option Addr) (l2 c2 : Nat) (ks : List ByteArray) (a3 : Option Addr) (l3 c3 : Nat) (ds : List Bool) (w : World) (ha : (Lit.int .i64 a).wf = true) (hb : (Lit.int .i64 b).wf = true) (h2 : StrsIs w a2 l2 c2 ks) (h3 : BoolsIs w a3 l3 c3 ds) :
    Calls Try.prog 6 #[.int .i64 a, .int .i64 b, .slice a2 l2 c2, .slice a3 l3 c3] w fun r w' => r = .returned (.bool true) ∧ Below w.heap.size w w' := by
  have H := Lib.hid (And.intro h2 h3)
  have hl2 : l2 ≤ 9223372036854775807 := by have e2 := h2.2.1; unfold maxLen at e2; omega
  have hl3 : l3 ≤ 9223372036854775807 := by have e2 := h3.2.1; unfold maxLen at e2; omega
  have HK := Lib.hid h2.1
  have HD := Lib.hid h3.1
  clear h2 h3 ha hb
  go_enter Try.func6, Try.ntmps6
  go_wp2_with fail
  refine (within_c _ _ 0 63 (by omega) (by omega) (by omega)).mono ?_
  rintro e w1 ⟨m0, hm0, hm1, rfl, rfl⟩
  obtain ⟨m, rfl⟩ : ∃ m : Nat, m0 = (m : Int) := ⟨m0.toNat, by omega⟩
  have hnew := new_c w (1 + m) (by omega) (by omega)
  go_wp2_with fail
  refine hnew.mono ?_
  rintro e w2 ⟨tb, S1, rfl, hT1, hK1⟩
  have B1 := Lib.hid (And.intro hT1 hK1)
  clear hT1 hK1 hnew
  go_wp2_with fail
  refine (within_c _ _ 0 63 (by omega) (by omega) (by omega)).mono ?_
  rintro e w3 ⟨n0, hn0, hn1, rfl, rfl⟩
  obtain ⟨n, rfl⟩ : ∃ m : Nat, n0 = (m : Int) := ⟨n0.toNat, by omega⟩
  have hnew := new_c w2 (1 + n) (by omega) (by omega)
  go_wp2_with fail
  refine hnew.mono ?_
  rintro e w4 ⟨ub, U1, rfl, hT1, hK1⟩
  have B2 : Two w w4 tb ub (1 + m) (1 + n) S1 U1 [] [] := by
    obtain ⟨q1, q2⟩ := B1.out
    have hsz := q2.keep.size
    refine ⟨q2.keep.trans hK1.keep (fun _ q => q.elim), q1.keep hK1.keep (fun _ _ q => q), hT1, fun b q z => ?_, fun b q => (q2.new b q).elim (fun z => z.elim) id, fun b q => (hK1.new b q).elim (fun z => z.elim) (fun z => by omega)⟩
    have := q1.lt b q
    rcases hK1.new b z with y | y
    · exact y
    · omega
  have BB := Lib.hid B2
  clear hT1 hK1 hnew B2
  go_upto_block 0 with (fail)
  go_cut [] from 13 to 114 (fun wx => ∃ S U T, Two w wx tb ub (1 + m) (1 + n) S U T T ∧ From ks T)
  case first =>
    go_wp2_with fail
    go_loopg [13] 60 (fun g s12 wr => ∃ (j : Nat) (S U : Nat → Prop) (T : List Pair), j ≤ 60 ∧ g = 60 - j ∧ s12 = .int .i64 j ∧ Two w wr tb ub (1 + m) (1 + n) S U T T ∧ From ks T)
    case atStart => exact ⟨0, S1, U1, [], by omega, rfl, rfl, BB.out, fun x hx => by simp at hx⟩
    case round =>
      obtain ⟨j, S, U, T, hj, rfl, rfl, hB, hF⟩ := hrel
      have B := Lib.hid (And.intro hB hF)
      clear hB hF
      by_cases hlt : j < l2
      · by_cases hlt2 : j < 60
        · have g1 : (j : Int) < (l2 : Int) := by omega
          have g2 : (j : Int) < 60 := by omega
          obtain ⟨x, hx⟩ : ∃ x, ks[j]? = some x := ⟨_, List.getElem?_eq_getElem (by rw [HK.out]; exact hlt)⟩
          obtain ⟨y, hy⟩ : ∃ x, ks[j / 2]? = some x := ⟨_, List.getElem?_eq_getElem (by rw [HK.out]; omega)⟩
          obtain ⟨b, off, rfl, _, hf⟩ := H.out.1.2.2.1.some (by rw [List.length_map, HK.out]; omega)
          have hcx := Lib.hid (hf j _ (mapGet hx))
          have hcy := Lib.hid (hf (j / 2) _ (mapGet hy))
          have c1 : wr.cell? ⟨b, off + j, none⟩ = some (.string x) := B.out.1.keep.cell hcx.out (fun q => q)
          have hsx : x.size ≤ 9223372036854775807 := H.out.1.2.2.2 x (List.mem_of_getElem? hx)
          have hsy : y.size ≤ 9223372036854775807 := H.out.1.2.2.2 y (List.mem_of_getElem? hy)
          have hF1 := Lib.hid (B.out.2.put hx hsx)
          have hpt := put_first B.out.1 x j hsx
          generalize hpr : (putT T x j).2 = pr at *
          have HPR := Lib.hid hpr
          have h0' : (pr != pr) = false := by simp
          clear hf hx hy hpr
          obtain ⟨T1, hT1⟩ : ∃ T1, T1 = (putT T x j).1 := ⟨_, rfl⟩
          rw [← hT1] at hpt hF1
          have HT1 := Lib.hid hT1
          clear hT1
          have hput2 : ∀ (w' : World) (S' : Nat → Prop), Two w w' tb ub (1 + m) (1 + n) S' U T1 T → ∀ w'', Keep w' w'' (fun _ => False) → Calls Try.prog 12 #[.pointer (some ⟨ub, 0, none⟩), .string x, .int .i64 j] w'' fun e w4 => e = .returned (.int .i64 pr) ∧ ∃ U', Two w w4 tb ub (1 + m) (1 + n) S' U' T1 T1 := by
            intro w' S' h w'' K
            have := put_second h x j hsx w'' K
            rw [HPR.out, ← HT1.out] at this
            exact this
          have HP2 := Lib.hid hput2
          clear hput2
          obtain ⟨pv, pe, hdr⟩ : ∃ pv pe, (dropT T1 y).2 = (pv, pe) := ⟨_, _, rfl⟩
          have HDR := Lib.hid hdr
          have h1' : (pv != pv) = false := by simp
          have h2' : (pe != pe) = false := by simp
          clear hdr
          have hd : (j < l3 ∧ ds[j]? = some true) ∨ (j < l3 ∧ ds[j]? = some false) ∨ ¬ j < l3 := by
            by_cases q : j < l3
            · obtain ⟨d, hd⟩ : ∃ d, ds[j]? = some d := ⟨_, List.getElem?_eq_getElem (by rw [HD.out]; exact q)⟩
              cases d
              · exact .inr (.inl ⟨q, hd⟩)
              · exact .inl ⟨q, hd⟩
            · exact .inr (.inr q)
          rcases hd with ⟨q1, q2⟩ | ⟨q1, q2⟩ | q1
          · obtain ⟨b3, o3, rfl, _, hf3⟩ := H.out.2.2.2.some (by rw [List.length_map, HD.out]; omega)
            have HC := Lib.hid (hf3 j _ (mapGet q2))
            have g3 : (j : Int) < (l3 : Int) := by omega
            clear hf3 q2
            go_wp2
            go_region_held3 (fun w' => w'.cell? ⟨b, off + j, none⟩ = some (.string x)) (go_keep) (first
              | (go_at_call_of 12 tb
                 refine (hpt _ ?_).mono ?_
                 · first | exact Keep.refl _ _ | exact Keep.drew _ _ | exact drewN_keep _ _ _
                 rintro e w4 ⟨rfl, S', hB4⟩
                 have N1 := Lib.hid hB4
                 have i1 := N1.out.keep.cell hcx.out (fun q => q)
                 have hrp := HP2.out _ _ N1.out
                 clear hpt hB4)
              | (go_at_call_of 12 ub
                 refine (hrp _ ?_).mono ?_
                 · first | exact Keep.refl _ _ | exact Keep.drew _ _ | exact drewN_keep _ _ _
                 rintro e w5 ⟨rfl, U', hB5⟩
                 have N2 := Lib.hid hB5
                 have i2 := N2.out.keep.cell hcx.out (fun q => q)
                 have i3 := N2.out.keep.cell HC.out (fun q => q)
                 have i4 := N2.out.keep.cell hcy.out (fun q => q)
                 have hd1 := drop_first N2.out y hsy
                 rw [HDR.out] at hd1
                 clear hrp hB5))
            go_wp2_with fail
            refine hd1.mono ?_
            rintro e w6 ⟨rfl, S6, hB6⟩
            have N3 := Lib.hid hB6
            have i5 := N3.out.keep.cell hcy.out (fun q => q)
            have hd2 := drop_second N3.out y hsy
            rw [HDR.out] at hd2
            clear hd1 hB6
            go_wp2_with fail
            refine hd2.mono ?_
            rintro e w7 ⟨rfl, U7, hB7⟩
            have N4 := Lib.hid hB7
            clear hd2 hB7
            go_wp2
            go_roundg (60 - (j + 1))
            case measure => omega
            case rel => exact ⟨j + 1, _, _, _, by omega, rfl, rfl, N4.out, hF1.out.drop y⟩
          · obtain ⟨b3, o3, rfl, _, hf3⟩ := H.out.2.2.2.some (by rw [List.length_map, HD.out]; omega)
            have HC := Lib.hid (hf3 j _ (mapGet q2))
            have g3 : (j : Int) < (l3 : Int) := by omega
            clear hf3 q2
            go_wp2
            go_region_held3 (fun w' => w'.cell? ⟨b, off + j, none⟩ = some (.string x)) (go_keep) (first
              | (go_at_call_of 12 tb
                 refine (hpt _ ?_).mono ?_
                 · first | exact Keep.refl _ _ | exact Keep.drew _ _ | exact drewN_keep _ _ _
                 rintro e w4 ⟨rfl, S', hB4⟩
                 have N1 := Lib.hid hB4
                 have i1 := N1.out.keep.cell hcx.out (fun q => q)
                 have hrp := HP2.out _ _ N1.out
                 clear hpt hB4)
              | (go_at_call_of 12 ub
                 refine (hrp _ ?_).mono ?_
                 · first | exact Keep.refl _ _ | exact Keep.drew _ _ | exact drewN_keep _ _ _
                 rintro e w5 ⟨rfl, U', hB5⟩
                 have N2 := Lib.hid hB5
                 have i2 := N2.out.keep.cell hcx.out (fun q => q)
                 have i3 := N2.out.keep.cell HC.out (fun q => q)
                 clear hrp hB5))
            go_wp2
            go_roundg (60 - (j + 1))
            case measure => omega
            case rel => exact ⟨j + 1, _, _, _, by omega, rfl, rfl, N2.out, hF1.out⟩
          · have g3 : ¬ (j : Int) < (l3 : Int) := by omega
            go_wp2
            go_region_held3 (fun w' => w'.cell? ⟨b, off + j, none⟩ = some (.string x)) (go_keep) (first
              | (go_at_call_of 12 tb
                 refine (hpt _ ?_).mono ?_
                 · first | exact Keep.refl _ _ | exact Keep.drew _ _ | exact drewN_keep _ _ _
                 rintro e w4 ⟨rfl, S', hB4⟩
                 have N1 := Lib.hid hB4
                 have i1 := N1.out.keep.cell hcx.out (fun q => q)
                 have hrp := HP2.out _ _ N1.out
                 clear hpt hB4)
              | (go_at_call_of 12 ub
                 refine (hrp _ ?_).mono ?_
                 · first | exact Keep.refl _ _ | exact Keep.drew _ _ | exact drewN_keep _ _ _
                 rintro e w5 ⟨rfl, U', hB5⟩
                 have N2 := Lib.hid hB5
                 have i2 := N2.out.keep.cell hcx.out (fun q => q)
                 clear hrp hB5))
            go_wp2
            go_roundg (60 - (j + 1))
            case measure => omega
            case rel => exact ⟨j + 1, _, _, _, by omega, rfl, rfl, N2.out, hF1.out⟩
        · have g1 : (j : Int) < (l2 : Int) := by omega
          have g2 : ¬ (j : Int) < 60 := by omega
          go_wp2
          go_meet
          case rel => exact ⟨S, U, T, B.out⟩
      · have g1 : ¬ (j : Int) < (l2 : Int) := by omega
        go_wp2
        go_meet
        case rel => exact ⟨S, U, T, B.out⟩
  case rest =>
    obtain ⟨S, U, T, hB, hF⟩ := hcut
    have B := Lib.hid (And.intro hB hF)
    have hk1 := keys_c hB.one
    have hlen1 : ((sortS (T.map Prod.fst)).map Value.string).length = T.length := by rw [List.length_map, sortS_len, List.length_map]
    have hT64 := hB.one.len
    obtain ⟨L, hL⟩ : ∃ L, L = sortS (T.map Prod.fst) := ⟨_, rfl⟩
    rw [← hL] at hk1 hlen1
    have HL := Lib.hid (And.intro hL hlen1)
    generalize hln : T.length = ln at *
    have HLN := Lib.hid hln
    clear hB hF hlen1 hL hln
    go_upto_block 2 with (
      go_at_call 23
      refine hk1.mono ?_
      rintro e w9 ⟨v9, rfl, hM9⟩
      obtain ⟨a9, cap9, rfl⟩ := hM9.valn HL.out.2
      have M9 := Lib.hid hM9
      clear hk1 hM9)
    go_cut [] from 19 to 188 (fun wx => Keep w9 wx (fun _ => False))
    case first =>
      go_wp2_with fail
      go_loopg [19] ln (fun g s19 wr => ∃ j : Nat, j ≤ ln ∧ g = ln - j ∧ s19 = .int .i64 j ∧ Keep w9 wr (fun _ => False))
      case atStart => exact ⟨0, by omega, rfl, rfl, Keep.refl _ _⟩
      case round =>
        obtain ⟨j, hj, rfl, rfl, hK⟩ := hrel
        have K := Lib.hid hK
        clear hK
        by_cases hlt : j < ln
        · have g1 : (j : Int) < (ln : Int) := by omega
          have hLl : L.length = ln := by have := HL.out.2; rwa [List.length_map] at this
          obtain ⟨x, hx⟩ : ∃ x, L[j]? = some x := ⟨_, List.getElem?_eq_getElem (by rw [hLl]; exact hlt)⟩
          have hB := M9.out.keep
          have hmem : x ∈ T.map Prod.fst := by
            have h1 := List.mem_of_getElem? hx
            rw [HL.out.1] at h1
            exact (sortS_perm _).mem_iff.1 h1
          obtain ⟨⟨x', vv⟩, hxm, rfl⟩ := List.mem_map.1 hmem
          simp only at hx hmem
          obtain ⟨hsz, p, hvp, hkp⟩ := B.out.2 _ hxm
          simp only at hsz hvp hkp
          subst hvp
          have hget := pget_of_mem B.out.1.one.nodup hxm
          have hpl : p < l2 := by rw [← HK.out]; exact (List.getElem?_eq_some_iff.1 hkp).1
          obtain ⟨g9, o9, rfl, _, hf9⟩ := M9.out.list.some (by rw [HL.out.2]; omega)
          obtain ⟨b, off, rfl, _, hf⟩ := H.out.1.2.2.1.some (by rw [List.length_map, HK.out]; omega)
          have hc1 := Lib.hid (hf9 j _ (mapGet hx))
          have hc2 := Lib.hid (hf p _ (mapGet hkp))
          have c1 : wr.cell? ⟨g9, o9 + j, none⟩ = some (.string x') := K.out.cell hc1.out (fun q => q)
          have hgt := get_c ((B.out.1.aside (M9.out.keep)).aside K.out).one x' hsz
          rw [hget] at hgt
          simp only [Option.getD_some, Option.isSome_some] at hgt
          have hgu : ∀ w', Keep wr w' (fun _ => False) → Calls Try.prog 25 #[.pointer (some ⟨ub, 0, none⟩), .string x'] w' fun r w'' => r = .returned (.tuple #[.int .i64 p, .bool true]) ∧ Keep w' w'' (fun _ => False) := by
            intro w' K'
            have := get_c (((B.out.1.aside (M9.out.keep)).aside K.out).aside K').two x' hsz
            rw [hget] at this
            exact this
          have HG := Lib.hid hgu
          have f1 : ((p : Int) != (p : Int)) = false := by simp
          have f2 : decide ((p : Int) < 0) = false := decide_eq_false (by omega)
          have f3 : decide ((p : Int) ≥ (l2 : Int)) = false := decide_eq_false (by omega)
          have f4 : (x'.toList == x'.toList) = true := by simp
          have f5 : (p : Int) < (l2 : Int) := by omega
          have f9 : decide (l2 ≤ p) = false := decide_eq_false (by omega)
          have hnd : L.Nodup := by rw [HL.out.1]; exact (sortS_perm _).nodup_iff.2 B.out.1.one.nodup
          have hsd : L.Pairwise leS := by rw [HL.out.1]; exact sortS_sorted _
          have hcase : (∃ x0, j ≠ 0 ∧ w9.cell? ⟨g9, o9 + (j - 1), none⟩ = some (.string x0) ∧ Op.bytesLess x0.toList x'.toList = true) ∨ j = 0 := by
            rcases Nat.eq_zero_or_pos j with q | q
            · exact .inr q
            · obtain ⟨x0, h0⟩ : ∃ x, L[j - 1]? = some x := ⟨_, List.getElem?_eq_getElem (by rw [hLl]; omega)⟩
              exact .inl ⟨x0, by omega, hf9 (j - 1) _ (mapGet h0), sorted_lt hsd hnd h0 (by rw [show j - 1 + 1 = j from by omega]; exact hx)⟩
          clear hgu hf9 hf hx hmem hxm hkp hget hnd hsd hB
          rcases hcase with ⟨x0, q1, q2, q3⟩ | hj0
          · obtain ⟨i, rfl⟩ : ∃ i, j = i + 1 := ⟨j - 1, by omega⟩
            have HC0 := Lib.hid q2
            have f6 : decide ((i : Int) + 1 > 0) = true := decide_eq_true (by omega)
            have f7 : decide ((0 : Int) < (i : Int) + 1) = true := decide_eq_true (by omega)
            simp only [Nat.add_sub_cancel] at HC0
            have g8 : (i : Int) + 1 < (ln : Int) := by omega
            have g10 : (i : Int) < (ln : Int) := by omega
            have g7 : i < ln := by omega
            have gx : (0 : Int) ≤ (i : Int) + 1 := by omega
            have gy : ((i : Int) + 1).toNat = i + 1 := by omega
            have gw : IntKind.i64.wrap (i : Int) = (i : Int) := IntWalk.i64_in _ (by omega)
            clear q2
            go_wp2_with fail
            refine hgt.mono ?_
            rintro e w10 ⟨rfl, hk10⟩
            have N1 := Lib.hid hk10
            have i1 := N1.out.cell (K.out.cell hc1.out (fun q => q)) (fun q => q)
            have hg2 := HG.out _ N1.out
            clear hgt hk10
            go_wp2_with fail
            refine hg2.mono ?_
            rintro e w11 ⟨rfl, hk11⟩
            have N2 := Lib.hid (K.out.trans (N1.out.trans hk11 (fun _ q => q.elim)) (fun _ q => q.elim))
            have i2 := N2.out.cell hc1.out (fun q => q)
            have i3 := N2.out.cell HC0.out (fun q => q)
            have i4 := (M9.out.keep.trans N2.out (fun _ q => q.elim)).cell (B.out.1.keep.cell hc2.out (fun q => q)) (fun q => q)
            clear hg2 hk11
            go_wp2
            go_quiet (fail)
            go_wp2
            go_roundg (ln - ((i + 1) + 1))
            case measure => omega
            case rel => exact ⟨(i + 1) + 1, by omega, rfl, rfl, N2.out.trans (drewN_keep _ (fun _ => False) _) (fun _ q => q.elim)⟩
          · subst hj0
            simp only [Nat.add_zero] at c1 hc1
            go_wp2_with fail
            refine hgt.mono ?_
            rintro e w10 ⟨rfl, hk10⟩
            have N1 := Lib.hid hk10
            have i1 := N1.out.cell (K.out.cell hc1.out (fun q => q)) (fun q => q)
            have hg2 := HG.out _ N1.out
            clear hgt hk10
            go_wp2_with fail
            refine hg2.mono ?_
            rintro e w11 ⟨rfl, hk11⟩
            have N2 := Lib.hid (K.out.trans (N1.out.trans hk11 (fun _ q => q.elim)) (fun _ q => q.elim))
            have i2 := N2.out.cell hc1.out (fun q => q)
            have i4 := (M9.out.keep.trans N2.out (fun _ q => q.elim)).cell (B.out.1.keep.cell hc2.out (fun q => q)) (fun q => q)
            clear hg2 hk11
            go_wp2
            go_quiet (fail)
            go_wp2
            go_roundg (ln - (0 + 1))
            case measure => omega
            case rel => exact ⟨0 + 1, by omega, rfl, rfl, N2.out.trans (drewN_keep _ (fun _ => False) _) (fun _ q => q.elim)⟩
        · have g1 : ¬ (j : Int) < (ln : Int) := by omega
          go_wp2
          go_meet
          case rel => exact K.out
    case rest =>
      have K9 := Lib.hid hcut
      clear hcut
      have hk2 := keys_c ((B.out.1.aside M9.out.keep).aside K9.out).two
      rw [← HL.out.1] at hk2
      go_wp2_with (first
        | (go_at_call 23
           refine hk2.mono ?_
           rintro e w10 ⟨v10, rfl, hM10⟩
           obtain ⟨a10, cap10, rfl⟩ := hM10.valn HL.out.2
           have hsm := same_c ((M9.out.aside K9.out).aside hM10.keep).list hM10.list (by have := HL.out.2; rw [List.length_map] at this; omega) (by have := HL.out.2; rw [List.length_map] at this; omega)
           rw [decide_eq_true (rfl : L = L)] at hsm
           have M10 := Lib.hid hM10
           clear hk2 hM10)
        | (go_at_call 27
           refine hsm.mono ?_
           rintro e w11 ⟨rfl, q11, hw11⟩
           have M11 := Lib.hid (show Keep w10 w11 (fun _ => False) from by rw [hw11]; exact drewN_keep _ _ _)
           have hlen := len_c ((((B.out.1.aside M9.out.keep).aside K9.out).aside M10.out.keep).aside M11.out).one
           rw [HLN.out] at hlen
           clear hsm hw11)
        | (go_at_call 22
           refine hlen.mono ?_
           rintro e w12 ⟨rfl, hw12⟩
           obtain rfl : w11 = w12 := hw12.symm
           clear hlen)
        | (go_at_call 21
           refine (known_c _).mono ?_
           rintro e w13 ⟨rfl, hk13⟩
           have M13 := Lib.hid hk13
           clear hk13))
      go_ret
      refine ⟨rfl, ?_⟩
      exact (((((B.out.1.keep.trans M9.out.keep (fun _ q => q.elim)).trans K9.out (fun _ q => q.elim)).trans M10.out.keep (fun _ q => q.elim)).trans M11.out (fun _ q => q.elim)).trans M13.out (fun _ q => q.elim)).below (Nat.le_refl _) (fun _ q => q.elim)

end Go.Proofs.Ytkdpkmlmkholmaa
