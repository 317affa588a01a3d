/-
  ScriptBack: a script that is written is read as itself; what is read of bytes that may be is written and read as itself.
-/
import Derived.Test.YtmokbgihpfnmbaaItemsCat
import Derived.Below
import Derived.Deep.Cut
namespace Go.Proofs.Ytmokbgihpfnmbaa
open Go Go.RowKit
set_option linter.unusedSectionVars false
set_option linter.unusedSimpArgs false
set_option linter.unusedVariables false

theorem right_lens {i : ItemV} (h : i.right = 0) : Lens i := by
  obtain ⟨_, h1, h2⟩ := right_parts h
  by_cases hk : i.kind = 1
  · have hc := (h1 hk).2
    unfold CallV.right at hc
    split at hc
    · simp at hc
    · split at hc
      · simp at hc
      · rename_i h3
        unfold Lens
        omega
  · have hc := (h2 hk).2
    unfold Lens
    rw [hc]
    decide

theorem ItemsX.at {w : World} {a : Option Addr} {xs : List ItemD} (h : ItemsX w a xs) {k : Nat} {x : ItemD} (hx : xs[k]? = some x) : ∃ b off, a = some ⟨b, off, none⟩ ∧ ∀ j u, (pairC x)[j]? = some u → w.cell? ⟨b, off + k * 12 + j, none⟩ = some u := by
  have hk := (List.getElem?_eq_some_iff.1 hx).1
  rcases h.cells with h0 | ⟨b, off, e, hb, hc⟩
  · omega
  · refine ⟨b, off, e, fun j u hj => ?_⟩
    rw [Nat.add_assoc]
    refine hc _ u ?_
    have hj12 : j < 12 := by
      have := (List.getElem?_eq_some_iff.1 hj).1
      rw [pairC_len] at this
      exact this
    rw [flat_get pairC 12 pairC_len hx hj12]
    exact hj

def kindB (x : ItemD) : Bool := decide (x.1.kind ≠ 0)

theorem filt_step {xs : List ItemD} {k : Nat} {x : ItemD} (hx : xs[k]? = some x) : (xs.take (k + 1)).filter kindB = if x.1.kind ≠ 0 then (xs.take k).filter kindB ++ [x] else (xs.take k).filter kindB := by
  rw [List.take_add_one, hx, Option.toList_some, List.filter_append]
  by_cases h : x.1.kind = 0
  · rw [if_neg (by simpa using h), List.filter_cons_of_neg (by simp [kindB, h])]
    simp
  · rw [if_pos h, List.filter_cons_of_pos (by simp [kindB, h])]
    simp

theorem filt_map (xs : List ItemD) : (xs.filter kindB).map Prod.fst = (xs.map Prod.fst).filter fun i => decide (i.kind ≠ 0) := by
  rw [List.filter_map]; rfl

/-- What has been gathered. -/
structure SGW (w wr : World) (v : Value) (xs : List ItemD) : Prop where
  keep : Keep w wr (fun _ => False)
  own : wr.ownsRow 0 39 12 v xs.length (flat pairC xs)
  new : ∀ b, v.ownBlock = some b → w.heap.size ≤ b

set_option maxRecDepth 100000 in
set_option maxHeartbeats 8000000 in
theorem back_walk (a : Option Addr) (len cap : Nat) (a1 : Option Addr) (len1 cap1 : Nat) (z1 : List Int) (W : World) (h0 : ∃ L, ItemsIn W (.slice a len cap) L ∧ L.length = len ∧ ∀ i ∈ L, Lens i) (h1 : RowIs W a1 len1 cap1 z1) :
    Calls Try.prog 6 #[.slice a len cap, .slice a1 len1 cap1] W fun r w' => r = .returned (.bool true) ∧ Below W.heap.size W w' := by
  obtain ⟨L0, hI, hlen, hlens⟩ := h0
  obtain ⟨b, hb0, hbm, hbr⟩ := bsr_of_row h1
  obtain ⟨_, _, hv, hlc, hcm⟩ := hI.val
  simp only [Value.slice.injEq] at hv
  obtain ⟨-, -, rfl⟩ := hv
  rw [hlen] at hlc
  unfold maxLen at hcm hbm
  obtain ⟨L, hL⟩ : ∃ L, L = L0.take 40 := ⟨_, rfl⟩
  have hn : L.length = min len 40 := by rw [hL, List.length_take]; omega
  have hIt : ItemsIn W (.slice a L.length cap) L := by
    have h := hI.take (j := L.length) (by omega)
    have e : L0.take L.length = L0.take 40 := by rw [List.take_eq_take_iff]; omega
    rw [e, ← hL] at h
    exact h
  have hs := senc_c hIt (fun i hi => hlens i (by rw [hL] at hi; exact List.mem_of_mem_take hi))
  have H := Lib.hid hIt
  have HB := Lib.hid hbr
  have Hn := Lib.hid hn
  clear hI hlens hL hIt hlen hn hbr h1 hb0
  go_enter Try.func6, Try.ntmps6
  go_upto_if 14 with (fail)
  go_cut [0] from 12 (fun s wc => s = .slice a L.length cap ∧ W = wc)
  case first =>
    by_cases h5 : 40 < len
    all_goals
      go_wp2
      go_meet
      case rel => exact ⟨by rw [Hn.out]; congr 1; omega, rfl⟩
  case rest =>
    obtain ⟨rfl, rfl⟩ := hcut
    obtain ⟨E, hE⟩ : ∃ E, E = encS L := ⟨_, rfl⟩
    rw [← hE] at hs
    have HE := Lib.hid hE
    clear hE
    go_upto_region 4 with (
      go_at_call 17
      refine hs.mono ?_
      rintro e w1 ⟨v1, rfl, q1, q2, -⟩
      obtain ⟨a2, n2, cap2, rfl, rfl⟩ := q1.val
      have N1 := Lib.hid (And.intro q1.bsl q2)
      clear hs q1 q2)
    go_cut [6, 30] from 22 (fun s6 s wc => s = .bool false ∧ RowKit.Hid (Keep W wc (fun _ => False)))
    case first =>
      by_cases hz : E.2 = 0
      · have hEB : encS L = (E.1, 0) := by rw [← HE.out, ← hz]
        have hd := sdec_c N1.out.1
        rw [decS_back hEB] at hd
        have e1 : (E.2 == 0) = true := by rw [hz]; rfl
        clear hz hEB
        go_wp2_with (first
          | (go_at_call 13
             refine hd.mono ?_
             rintro e w2 ⟨u2, rfl, q1, q2⟩
             have hki := kitems_c q1 (H.out.aside (N1.out.2.trans q2 (fun _ q => q.elim)))
             obtain ⟨a3, cap3, rfl, -, -⟩ := q1.val
             have N2 := Lib.hid (N1.out.2.trans q2 (fun _ q => q.elim))
             clear q1 q2 hd)
          | (go_at_call 12
             refine hki.mono ?_
             rintro e w3 ⟨rfl, k3⟩))
        go_meet
        case rel => exact ⟨rfl, Lib.hid (N2.out.trans k3 (fun _ q => q.elim))⟩
      · have e1 : (E.2 == 0) = false := by simpa using hz
        go_wp2
        go_meet
        case rel => exact ⟨rfl, Lib.hid N1.out.2⟩
    case rest =>
      obtain ⟨rfl, N3⟩ := hcut
      have hd := sdec_r (HB.out.aside N3.out)
      obtain ⟨M, hM⟩ : ∃ M, M = decS 1024 b := ⟨_, rfl⟩
      rw [← hM] at hd
      have hM1 := (decS_len b 1024).1
      rw [← hM] at hM1
      have HM := Lib.hid hM
      clear hM
      go_wp2_with (
        go_at_call 13
        refine hd.mono ?_
        rintro e w4 ⟨u4, rfl, q1, q2⟩
        obtain ⟨a4, cap4, rfl, hc4, hm4⟩ := q1.val
        obtain ⟨xs, hx1, hx2⟩ := q1.ex
        have hxl : xs.length = M.length := by rw [← hx1, List.length_map]
        have N4 := Lib.hid (And.intro hx2 (And.intro hx1 (And.intro (N3.out.trans q2 (fun _ q => q.elim)) hxl)))
        clear q1 q2 hd hx1 hx2 hxl)
      generalize hml : M.length = n at *
      have Hml := Lib.hid hml
      clear hml
      go_loopg [7, 9] n (fun g s7 s9 wr => ∃ k : Nat, s9 = .int .i64 k ∧ k + g = n ∧ SGW w4 wr s7 ((xs.take k).filter kindB))
      case atStart => exact ⟨0, rfl, by omega, ⟨Keep.refl _ _, rows_nil _ _ _, fun b q => by simp [Value.ownBlock] at q⟩⟩
      case round =>
        obtain ⟨k, rfl, hk, hW⟩ := hrel
        obtain ⟨sa, cp, rfl, hcp⟩ := rows_val2 hW.own
        generalize hgl : ((xs.take k).filter kindB).length = gl at *
        have Hgl := Lib.hid hgl
        have hgk : gl ≤ k := by
          have h1 := List.length_filter_le kindB (xs.take k)
          have h2 := List.length_take_le k xs
          omega
        clear hgl
        by_cases hlt : k < n
        · have hlt' : (k : Int) < (n : Int) := by omega
          have hki : IntKind.i64.wrap ((k : Int) + 1) = (k : Int) + 1 := IntWalk.i64_in _ (by omega)
          obtain ⟨x, hx⟩ : ∃ x, xs[k]? = some x := ⟨_, List.getElem?_eq_getElem (by have := N4.out.2.2.2; omega)⟩
          have hst := filt_step hx
          obtain ⟨b4, o4, rfl, hc⟩ := (N4.out.1.aside hW.keep).at hx
          have hmem : x.1 ∈ M := by rw [← N4.out.2.1]; exact List.mem_map_of_mem (List.mem_of_getElem? hx)
          have hR := fun q : x.1.kind ≠ 0 => decS_right b 1024 x.1 (by rw [← HM.out]; exact hmem) q
          obtain ⟨da, dcap, e1⟩ := (N4.out.1.good x (List.mem_of_getElem? hx)).1
          have hpx := rfl (a := pairC x)
          obtain ⟨⟨ik, ith, inn, ⟨op, path, tt, fd, fl, md, n2, m2, dat⟩⟩, dv⟩ := x
          simp only at e1
          subst e1
          have u0 := hc 0 _ rfl
          have u1 := hc 1 _ rfl
          have u2 := hc 2 _ rfl
          have u3 := hc 3 _ rfl
          have u4 := hc 4 _ rfl
          have u5 := hc 5 _ rfl
          have u6 := hc 6 _ rfl
          have u7 := hc 7 _ rfl
          have u8 := hc 8 _ rfl
          have u9 := hc 9 _ rfl
          have u10 := hc 10 _ rfl
          have u11 := hc 11 _ rfl
          simp only [Nat.add_zero] at u0
          have D := Lib.hid (And.intro hst hW)
          have HR := Lib.hid hR
          clear hc hst hW hR hmem hx hpx
          by_cases hk0 : ik = 0
          · have hk1 : (ik != 0) = false := by rw [hk0]; rfl
            go_wp2
            go_roundg (n - (k + 1))
            case measure => omega
            case rel =>
              refine ⟨k + 1, by rw [Int.natCast_add]; rfl, by omega, ?_⟩
              rw [D.out.1, if_neg (by simpa using hk0)]
              exact D.out.2
          · have hk1 : (ik != 0) = true := by simpa using hk0
            have hr0 := HR.out hk0
            have hr := fun U => sright_c ⟨ik, ith, inn, ⟨op, path, tt, fd, fl, md, n2, m2, dat⟩⟩ da dcap U (right_lens hr0)
            rw [hr0] at hr
            simp only [itemA, itemC, callC, callA] at hr
            obtain ⟨tj, tj1, tj2, tj3, tj4⟩ := item_info
            have HJ := Lib.hid (And.intro tj1 (And.intro tj2 (And.intro tj3 tj4)))
            have HJ1 := Lib.hid (show (gl + 1) * tj.bytes ≤ 1099511627776 * 64 by
              have : (gl + 1) * tj.bytes ≤ 1025 * 128 := Nat.mul_le_mul (by omega) tj4
              omega)
            clear tj1 tj2 tj3 tj4 hr0
            have HO := Lib.hid (show wr.ownsRow 0 39 12 (.slice sa gl cp) gl (flat pairC ((xs.take k).filter kindB)) by
              have h := D.out.2.own
              rw [Hgl.out] at h
              exact h)
            go_wp2_with (first
              | (go_at_call 18
                 refine (hr _).mono ?_
                 rintro e w5 ⟨rfl, k5⟩
                 have z0 := k5.cell u0 (fun q => q)
                 have z1 := k5.cell u1 (fun q => q)
                 have z2 := k5.cell u2 (fun q => q)
                 have z3 := k5.cell u3 (fun q => q)
                 have z4 := k5.cell u4 (fun q => q)
                 have z5 := k5.cell u5 (fun q => q)
                 have z6 := k5.cell u6 (fun q => q)
                 have z7 := k5.cell u7 (fun q => q)
                 have z8 := k5.cell u8 (fun q => q)
                 have z9 := k5.cell u9 (fun q => q)
                 have z10 := k5.cell u10 (fun q => q)
                 have z11 := k5.cell u11 (fun q => q)
                 clear hr u0 u1 u2 u3 u4 u5 u6 u7 u8 u9 u10 u11)
              | (at_builtin
                 refine wpList_plain rfl (fun K hK => wp_append_rowB (v := .slice sa gl cp) _ _ _ rfl Try.underlying23 HJ.out.1 HJ.out.2.1 HJ.out.2.2.1 rfl (by decide) rfl (rows_keep HO.out (k5.trans (Keep.alloc w5 _ (fun _ => False)) (fun _ q => q.elim)) (fun _ _ z => z)) [.int .i64 ik, .int .i64 ith, .int .i64 inn, .int .i64 op, .string path, .string tt, .int .i64 fd, .int .i64 fl, .int .i64 md, .int .i64 n2, .int .i64 m2, .slice da dat.length dcap] rfl rfl (.inr ⟨_, rfl, cells_new w5 _ _⟩) (by intro u hu; simp at hu; rcases hu with rfl | rfl | rfl | rfl | rfl | rfl | rfl | rfl | rfl | rfl | rfl | rfl <;> rfl) (by omega) HJ1.out (fun sa6 cap6 w6 r1 r2 r3 => hK _ _ ?_))
                 have N6 := Lib.hid (And.intro r1 (fresh2 (v := .slice sa gl cp) ((D.out.2.keep.trans k5 (fun _ q => q.elim)).trans (Keep.alloc w5 _ (fun _ => False)) (fun _ q => q.elim)) (fun b q => D.out.2.new b q) r2 r3))
                 clear r1 r2 r3))
            go_roundg (n - (k + 1))
            case measure => omega
            case rel =>
              refine ⟨k + 1, by rw [Int.natCast_add]; rfl, by omega, ?_⟩
              rw [D.out.1, if_pos hk0]
              refine ⟨N6.out.2.1, ?_, N6.out.2.2⟩
              rw [List.length_append, Hgl.out, flat_append]
              exact N6.out.1
        · have hlt' : ¬ (k : Int) < (n : Int) := by omega
          obtain ⟨G, hG⟩ : ∃ G, G = (decS 1024 b).filter (fun i => decide (i.kind ≠ 0)) := ⟨_, rfl⟩
          have hgm : ((xs.take k).filter kindB).map Prod.fst = G := by
            rw [filt_map, hG, List.take_of_length_le (by have := N4.out.2.2.2; omega), N4.out.2.1, HM.out]
          have hGl : G.length = gl := by rw [← hgm, List.length_map, Hgl.out]
          have hown := hW.own
          rw [Hgl.out] at hown
          have hin := items_of_row hown Hgl.out.symm (fun x hx => (N4.out.1.aside hW.keep).good x (List.mem_of_mem_take (List.mem_filter.1 hx).1))
          rw [hgm] at hin
          have hgr : ∀ i ∈ G, i.right = 0 := fun i hi => by
            rw [hG] at hi
            obtain ⟨h1, h2⟩ := List.mem_filter.1 hi
            exact decS_right b 1024 i h1 (of_decide_eq_true h2)
          have hs2 := senc_c hin (fun i hi => right_lens (hgr i hi))
          have hgb := good_back b 1024 (Nat.le_refl _)
          rw [← hG] at hgb
          have hdb := decS_back hgb
          rw [hgb] at hs2
          obtain ⟨Y, hY⟩ : ∃ Y, Y = G.flatMap ItemV.enc := ⟨_, rfl⟩
          rw [← hY] at hs2 hdb
          simp only at hs2
          have D := Lib.hid (And.intro hin (And.intro (N4.out.2.2.1.trans hW.keep (fun _ q => q.elim)) hdb))
          clear hG hgm hGl hown hin hgr hgb hdb hY hW
          go_wp2_with (first
            | (go_at_call 17
               refine hs2.mono ?_
               rintro e w6 ⟨v6, rfl, q1, q2, -⟩
               obtain ⟨a6, n6, cap6, rfl, rfl⟩ := q1.val
               have hd7 := sdec_c q1.bsl
               rw [D.out.2.2] at hd7
               have N6 := Lib.hid q2
               clear q1 q2 hs2)
            | (go_at_call 13
               refine hd7.mono ?_
               rintro e w7 ⟨u7, rfl, q1, q2⟩
               have hk7 := kitems_c q1 (D.out.1.aside (N6.out.trans q2 (fun _ q => q.elim)))
               obtain ⟨a7, cap7, rfl, -, -⟩ := q1.val
               have N7 := Lib.hid (D.out.2.1.trans (N6.out.trans q2 (fun _ q => q.elim)) (fun _ q => q.elim))
               clear q1 q2 hd7)
            | (go_at_call 12
               refine hk7.mono ?_
               rintro e w8 ⟨rfl, k8⟩
               clear hk7)
            | (go_at_call 16
               refine (known_c _).mono ?_
               rintro e w9 ⟨rfl, k9⟩))
          go_ret
          exact ⟨rfl, Keep.below (N7.out.trans (k8.trans k9 (fun _ q => q.elim)) (fun _ q => q.elim)) (Nat.le_refl _) (fun b q => q.elim)⟩

end Go.Proofs.Ytmokbgihpfnmbaa
