/-
  DcacheLast: the walk.
-/
import Derived.Test.YtjicoebcmfnooaaDoorD4
import Derived.Deep.CutRange
import Derived.Deep.CutBlock
import Derived.Deep.DeepCutAuto
import Derived.StillTailTactics
import Derived.Deep.LoopGhost
import Derived.Below
namespace Go.Proofs.YtjicoebcmfnooaaDoor
open Go Go.RowKit Go.Shelf
set_option linter.unusedSectionVars false
set_option linter.unusedSimpArgs false
set_option linter.unusedVariables false
set_option maxRecDepth 100000
attribute [local go_sem] Oper.semAt_some

theorem ba_ne {a b : ByteArray} (h : a ≠ b) : (a.toList == b.toList) = false := by
  simp only [beq_eq_false_iff_ne]
  intro e
  apply h
  rw [ByteArray.toList_eq, ByteArray.toList_eq] at e
  apply ByteArray.ext
  exact Array.toList_inj.1 e

set_option maxHeartbeats 8000000 in
theorem last_walk (x : Int) (a : Option Addr) (len cap : Nat) (rows : List AskD) (W : World) (hp : Pw W) (hx0 : -9223372036854775808 ≤ x) (hx1 : x ≤ 9223372036854775807) (hI : AsksIn W a len cap rows) :
    Calls Tryd.prog 3 #[.int .i64 x, .slice a len cap] W fun r w' => r = .returned (.bool true) ∧ Below W.heap.size W w' := by
  obtain ⟨hrl, hlc, hcm, hfine, hrow⟩ := hI
  unfold maxLen at hcm
  have HI := Lib.hid (And.intro hrl (And.intro hfine hrow))
  have HP := Lib.hid hp
  clear hrl hfine hrow hp
  go_enter Tryd.func3, Tryd.ntmps3
  go_upto_if 16 with (fail)
  go_cut [0] from 15 (fun s wc => (∃ y : Int, s = .int .i64 y ∧ 0 ≤ y ∧ y ≤ 9223372036854775807) ∧ W = wc)
  case first =>
    by_cases hn : x < 0
    · go_wp2
      go_meet
      case rel => exact ⟨⟨_, rfl, by omega, by omega⟩, rfl⟩
    · go_wp2
      go_meet
      case rel => exact ⟨⟨x, rfl, by omega, by omega⟩, rfl⟩
  case rest =>
    obtain ⟨⟨y, rfl, hy0, hy1⟩, rfl⟩ := hcut
    obtain ⟨m, hm⟩ : ∃ m, m = 1 + y % 8 := ⟨_, rfl⟩
    have hm1 : 1 ≤ m := by omega
    have hm2 : m ≤ 8 := by omega
    have hn := dnew_c W m (by omega) (by omega)
    go_upto_region 4 with (fail)
    rw [← hm]
    clear hm hy0 hy1
    go_upto_region 7 with (
      go_at_call 7
      refine hn.mono ?_
      rintro e w1 ⟨cb, S1, rfl, hL1, hT1⟩
      have B1 := Lib.hid (CurD.made (Keep.refl W _) hL1 hT1)
      clear hL1 hT1 hn)
    go_wp2
    go_loopg [7] (min len 80) (fun g s7 wr => ∃ (i : Nat) (S : Nat → Prop) (A : Mem), s7 = .int .i64 i ∧ i + g = min len 80 ∧ CurD W wr cb S m A ∧ Rem (rows.take i) A)
    case atStart => exact ⟨0, S1, [], rfl, by omega, B1.out, fun x v q => by simp [aget] at q⟩
    case round =>
      obtain ⟨i, S, A, rfl, hi, hC, hR⟩ := hrel
      have D0 := Lib.hid (And.intro hC hR)
      clear hC hR
      obtain ⟨wo, hwo⟩ : ∃ wo, wo = wr := ⟨_, rfl⟩
      subst hwo
      obtain ⟨gi, hgi⟩ : ∃ gi, gi = gk := ⟨_, rfl⟩
      subst hgi
      by_cases hlt : i < len ∧ i < 80
      · obtain ⟨hlt1, hlt2⟩ := hlt
        have hi1 : (i : Int) < (len : Int) := by omega
        have hi2 : (i : Int) < 80 := by omega
        obtain ⟨b, off, rfl, hcell⟩ := HI.out.2.2 (by omega)
        have hir : i < rows.length := by rw [HI.out.1]; exact hlt1
        obtain ⟨xx, hxx⟩ : ∃ x, rows[i]? = some x := ⟨_, List.getElem?_eq_getElem hir⟩
        have hfx := HI.out.2.1 xx (List.mem_of_getElem? hxx)
        have HC := Lib.hid hcell
        obtain ⟨q0, q1, q2, q3⟩ := hcell i xx hxx
        have e0 := D0.out.1.keep.cell q0 (fun q => q)
        have e1 := D0.out.1.keep.cell q1 (fun q => q)
        have e2 := D0.out.1.keep.cell q2 (fun q => q)
        have e3 := D0.out.1.keep.cell q3 (fun q => q)
        have htk : rows.take (i + 1) = rows.take i ++ [xx] := by
          rw [List.take_succ_eq_append_getElem hir]
          congr 2
          rw [List.getElem?_eq_getElem hir] at hxx
          exact Option.some.inj hxx
        have HX := Lib.hid (And.intro hxx (And.intro hfx htk))
        clear hcell q0 q1 q2 q3 hxx hfx htk
        obtain ⟨xk, xd, xn, xs⟩ := xx
        simp only at e0 e1 e2 e3
        obtain ⟨w2, hw2⟩ : ∃ w2, w2 = wo.alloc (.cells #[.int .i64 xk, .int .i64 xd, .int .i64 xn, .string xs] 28) := ⟨_, rfl⟩
        have k2 := Keep.alloc wo (.cells #[.int .i64 xk, .int .i64 xd, .int .i64 xn, .string xs] 28) (fun _ => False)
        have b2 := heap_alloc_eq wo (.cells #[.int .i64 xk, .int .i64 xd, .int .i64 xn, .string xs] 28)
        rw [← hw2] at k2 b2
        obtain ⟨nb, hnb⟩ : ∃ nb, nb = wo.heap.size := ⟨_, rfl⟩
        rw [← hnb] at b2
        go_upto_region 11 with (fail)
        rw [← hw2, ← hnb]
        have hbw : W.heap.size ≤ nb := by rw [hnb]; exact D0.out.1.keep.size
        have hCw := D0.out.1.aside k2
        have hnS : ¬ S nb := fun q => by have := D0.out.1.cache.lt nb q; omega
        have hput := dput_c hCw.cache (HP.out.keep hCw.keep) xd xs xn HX.out.2.1
        have f0 := cell_blk b2 0
        have f1 := cell_blk b2 1
        have f2 := cell_blk b2 2
        have f3 := cell_blk b2 3
        simp only [List.getElem?_toArray, List.getElem?_cons_zero, List.getElem?_cons_succ] at f0 f1 f2 f3
        have D1 := Lib.hid (And.intro hCw (And.intro b2 hnS))
        clear hw2 hnb k2 b2 hCw hnS e0 e1 e2 e3
        go_upto_if 58 with (
          go_at_call 8
          refine hput.mono ?_
          rintro e w3 ⟨rfl, S3, hL3, hT3⟩
          have hC3 := D1.out.1.turn hL3 hT3
          have b3 := hT3.keep.get D1.out.2.1 D1.out.2.2
          have g0 := cell_blk b3 0
          have g1 := cell_blk b3 1
          have g3 := cell_blk b3 3
          simp only [List.getElem?_toArray, List.getElem?_cons_zero, List.getElem?_cons_succ] at g0 g1 g3
          have hdrop := ddrop_c hL3 (HP.out.keep hC3.keep) xd xs HX.out.2.1
          have D3 := Lib.hid hC3
          clear hput hL3 hT3 hC3 b3)
        go_cut [] from 34 to 156 (fun wx => ∃ (S2 : Nat → Prop) (A2 : Mem), CurD W wx cb S2 m A2 ∧ Rem (rows.take (i + 1)) A2)
        case first =>
          by_cases hk : xk = 3
          · subst hk
            go_wp2_with (
              go_at_call 9
              refine hdrop.mono ?_
              rintro e w4 ⟨rfl, S4, hL4, hT4⟩
              have D4 := Lib.hid (D3.out.turn hL4 hT4)
              clear hdrop hL4 hT4)
            go_meet
            case rel => exact ⟨S4, _, D4.out, by rw [HX.out.2.2]; exact D0.out.2.gone D0.out.1.cache.ok ⟨3, xd, xn, xs⟩⟩
          · have hkb : (xk == 3) = false := by simpa using hk
            go_wp2
            go_meet
            case rel => exact ⟨S3, _, D3.out, by rw [HX.out.2.2]; exact D0.out.2.stay D0.out.1.cache.ok.nodup ⟨xk, xd, xn, xs⟩ hk⟩
        case rest =>
          obtain ⟨S2, A2, hC2, hR2⟩ := hcut
          have D5 := Lib.hid (And.intro hC2 hR2)
          clear hC2 hR2 f0 f1 f2 f3 D1
          go_wp2
          go_loopg [9] (i + 1) (fun g s9 wr => ∃ (k : Int) (S : Nat → Prop) (A : Mem), s9 = .int .i64 k ∧ k + 1 = g ∧ k ≤ i ∧ CurD W wr cb S m A ∧ Rem (rows.take (i + 1)) A)
          case atStart => exact ⟨i, S2, A2, rfl, by omega, by omega, D5.out.1, D5.out.2⟩
          case round =>
            obtain ⟨k', S6, A6, rfl, hk, hki, hC6, hR6⟩ := hrel
            have D6 := Lib.hid (And.intro hC6 hR6)
            clear hC6 hR6
            obtain ⟨wp, hwp⟩ : ∃ wp, wp = wr := ⟨_, rfl⟩
            subst hwp
            obtain ⟨gp, hgp⟩ : ∃ gp, gp = gk := ⟨_, rfl⟩
            subst hgp
            by_cases hk0 : 0 ≤ k'
            · obtain ⟨k, rfl⟩ : ∃ k : Nat, k' = (k : Int) := ⟨k'.toNat, by omega⟩
              have hk1 : (k : Int) < (len : Int) := by omega
              have hk2 : k < len := by omega
              obtain ⟨yy, hy⟩ : ∃ y, rows[k]? = some y := ⟨_, List.getElem?_eq_getElem (by rw [HI.out.1]; exact hk2)⟩
              have hfy := HI.out.2.1 yy (List.mem_of_getElem? hy)
              obtain ⟨p0, p1, p2, p3⟩ := HC.out k yy hy
              have r1 := D6.out.1.keep.cell p1 (fun q => q)
              have r3 := D6.out.1.keep.cell p3 (fun q => q)
              have HY := Lib.hid (And.intro hy (And.intro hfy (And.intro p1 p3)))
              clear p0 p1 p2 p3 hy hfy
              obtain ⟨yk, yd, yn, ys⟩ := yy
              simp only at r1 r3
              have hCq := D6.out.1.aside (Keep.drew wp (fun _ => False))
              have SD : wp.drew.cell? ⟨b, off + k * 4 + 1, none⟩ = some (.int .i64 yd) ∧ wp.drew.cell? ⟨b, off + k * 4 + 3, none⟩ = some (.string ys) := ⟨hCq.keep.cell HY.out.2.2.1 (fun q => q), hCq.keep.cell HY.out.2.2.2 (fun q => q)⟩
              have hget := dget_c hCq.cache (HP.out.keep hCq.keep) yd ys HY.out.2.1
              obtain ⟨A8, av, bv, hgt⟩ : ∃ A8 av bv, getA A6 (yd, ys) = (A8, av, bv) := ⟨_, _, _, rfl⟩
              have hsay := get_says D6.out.2 (yd, ys) hgt
              have hR8 := D6.out.2.get D6.out.1.cache.ok.nodup (yd, ys)
              rw [hgt] at hget hR8
              have HS := Lib.hid (And.intro hsay (And.intro hR8 hCq))
              clear hsay hR8 hgt hCq
              simp only at hget
              go_upto_region 17 with (fail)
              (go_region_held3 (fun w' => w'.cell? ⟨b, off + k * 4 + 1, none⟩ = some (.int .i64 yd) ∧ w'.cell? ⟨b, off + k * 4 + 3, none⟩ = some (.string ys)) (first | exact SD | exact S8' | fail) (first
                | (go_at_call 10
                   (with_reducible refine hget.mono ?_)
                   rintro e w8 ⟨rfl, S8, hL8, hT8⟩
                   have hD8 := HS.out.2.2.turn hL8 hT8
                   have S8' : w8.cell? ⟨b, off + k * 4 + 1, none⟩ = some (.int .i64 yd) ∧ w8.cell? ⟨b, off + k * 4 + 3, none⟩ = some (.string ys) := ⟨hD8.keep.cell HY.out.2.2.1 (fun q => q), hD8.keep.cell HY.out.2.2.2 (fun q => q)⟩
                   have D8 := Lib.hid hD8
                   clear hget hL8 hT8 hD8)))
              clear r1 r3 SD S8'
              go_wp2
              go_loopg [12, 13] (i + 1 - k) (fun g s12 s13 wr => ∃ (q j : Nat) (z : AskD), s12 = .int .i64 q ∧ s13 = .int .i64 j ∧ k ≤ j ∧ j + g = i + 1 ∧ q ≤ i ∧ rows[q]? = some z ∧ z.nm = (yd, ys) ∧ (∀ m t, q < m → m < j → rows[m]? = some t → t.nm ≠ (yd, ys)) ∧ CurD W wr cb S8 m A8)
              case atStart => exact ⟨k, k, ⟨yk, yd, yn, ys⟩, rfl, rfl, by omega, by omega, by omega, HY.out.1, rfl, by omega, D8.out⟩
              case round =>
                obtain ⟨q, j, z, rfl, rfl, hkj, hj, hqi, hz, hznm, hall, hC9⟩ := hrel
                have D9 := Lib.hid (And.intro hC9 (And.intro hz (And.intro hznm hall)))
                clear hC9 hz hznm hall
                by_cases hji : j ≤ i
                · have hj1 : (j : Int) ≤ (i : Int) := by omega
                  have hj2 : (j : Int) < (len : Int) := by omega
                  have hj3 : j < len := by omega
                  obtain ⟨tt, ht⟩ : ∃ y, rows[j]? = some y := ⟨_, List.getElem?_eq_getElem (by rw [HI.out.1]; exact hj3)⟩
                  obtain ⟨p0, p1, p2, p3⟩ := HC.out j tt ht
                  have u1 := D9.out.1.keep.cell p1 (fun q => q)
                  have u3 := D9.out.1.keep.cell p3 (fun q => q)
                  clear p0 p1 p2 p3
                  obtain ⟨p0, p1, p2, p3⟩ := HC.out k _ HY.out.1
                  have v1 := D9.out.1.keep.cell p1 (fun q => q)
                  have v3 := D9.out.1.keep.cell p3 (fun q => q)
                  have HT := Lib.hid ht
                  clear p0 p1 p2 p3 ht
                  obtain ⟨tk, td, tn, ts⟩ := tt
                  simp only at u1 u3 v1 v3
                  by_cases hd : td = yd
                  · have hdb : (td == yd) = true := by simpa using hd
                    have HD := Lib.hid hd
                    clear hd
                    by_cases hs : ts = ys
                    · have hsb : (ts.toList == ys.toList) = true := by simp [hs]
                      have HSS := Lib.hid hs
                      clear hs
                      go_upto_region 22 with (fail)
                      go_quiet (fail)
                      go_wp2
                      go_roundg (i + 1 - (j + 1))
                      case measure => omega
                      case rel => exact ⟨j, j + 1, ⟨tk, td, tn, ts⟩, rfl, by go_num, by omega, by omega, hji, HT.out, by show (td, ts) = _; rw [HD.out, HSS.out], by omega, D9.out.1.aside (drewN_keep _ _ _)⟩
                    · have hsb : (ts.toList == ys.toList) = false := ba_ne hs
                      have HSS := Lib.hid hs
                      clear hs
                      go_upto_region 22 with (fail)
                      go_quiet (fail)
                      go_wp2
                      go_roundg (i + 1 - (j + 1))
                      case measure => omega
                      case rel =>
                        refine ⟨q, j + 1, z, rfl, by go_num, by omega, by omega, hqi, D9.out.2.1, D9.out.2.2.1, ?_, D9.out.1.aside (drewN_keep _ _ _)⟩
                        intro m' t h1 h2 h3
                        by_cases e : m' = j
                        · subst e
                          rw [HT.out] at h3
                          cases h3
                          exact fun e => HSS.out (congrArg Prod.snd e)
                        · exact D9.out.2.2.2 m' t h1 (by omega) h3
                  · have hdb : (td == yd) = false := by simpa using hd
                    have HD := Lib.hid hd
                    clear hd
                    go_upto_region 22 with (fail)
                    go_quiet (fail)
                    go_wp2
                    go_roundg (i + 1 - (j + 1))
                    case measure => omega
                    case rel =>
                      refine ⟨q, j + 1, z, rfl, by go_num, by omega, by omega, hqi, D9.out.2.1, D9.out.2.2.1, ?_, D9.out.1.aside (drewN_keep _ _ _)⟩
                      intro m' t h1 h2 h3
                      by_cases e : m' = j
                      · subst e
                        rw [HT.out] at h3
                        cases h3
                        exact fun e => HD.out (congrArg Prod.fst e)
                      · exact D9.out.2.2.2 m' t h1 (by omega) h3
                · have hj1 : ¬ (j : Int) ≤ (i : Int) := by omega
                  have hq1 : (q : Int) < (len : Int) := by omega
                  have hq2 : q < len := by omega
                  obtain ⟨p0, p1, p2, p3⟩ := HC.out q z D9.out.2.1
                  have u0 := D9.out.1.keep.cell p0 (fun q => q)
                  have u2 := D9.out.1.keep.cell p2 (fun q => q)
                  clear p0 p1 p2 p3
                  have hjj : j = i + 1 := by omega
                  have hlast : lastOf (rows.take (i + 1)) (yd, ys) = some z := by
                    rw [← hjj]
                    exact lastOf_newest (x := ⟨yk, yd, yn, ys⟩) HY.out.1 D9.out.2.1 D9.out.2.2.1 D9.out.2.2.2 (by omega) (by omega)
                  have hfin : ∀ z', lastOf (rows.take (i + 1)) (yd, ys) = some z' → z' = z := fun z' h => by rw [hlast] at h; exact (Option.some.inj h).symm
                  have HF := Lib.hid hfin
                  clear hfin hlast hjj
                  obtain ⟨zk, zd, zn, zs⟩ := z
                  simp only at u0 u2
                  rcases HS.out.1 with ⟨rfl, rfl⟩ | ⟨z', hz', hzk, ⟨hzn, rfl, rfl⟩ | ⟨hzn, rfl, rfl⟩⟩
                  · by_cases hk3 : zk = 3
                    · have hkb : (zk == 3) = true := by simpa using hk3
                      clear hk3
                      go_wp2
                      go_roundg k
                      case measure => omega
                      case rel => exact ⟨(k : Int) - 1, S8, A8, rfl, by omega, by omega, D9.out.1, HS.out.2.1⟩
                    · have hkb : (zk == 3) = false := by simpa using hk3
                      clear hk3
                      go_wp2
                      go_roundg k
                      case measure => omega
                      case rel => exact ⟨(k : Int) - 1, S8, A8, rfl, by omega, by omega, D9.out.1, HS.out.2.1⟩
                  · obtain rfl := HF.out z' hz'
                    have hkb : (zk == 3) = false := by simpa using hzk
                    have hzn' : zn ≤ 0 := hzn
                    have hzn2 : ¬ 0 < zn := by omega
                    clear hz' hzk hzn
                    go_wp2
                    go_roundg k
                    case measure => omega
                    case rel => exact ⟨(k : Int) - 1, S8, A8, rfl, by omega, by omega, D9.out.1, HS.out.2.1⟩
                  · obtain rfl := HF.out z' hz'
                    have hkb : (zk == 3) = false := by simpa using hzk
                    have hzn' : ¬ zn ≤ 0 := by have h : 0 < zn := hzn; omega
                    have hnb : (zn != zn) = false := by simp
                    clear hz' hzk hzn
                    simp only at HS D8 D9 ⊢
                    go_wp2
                    go_roundg k
                    case measure => omega
                    case rel => exact ⟨(k : Int) - 1, S8, A8, rfl, by omega, by omega, D9.out.1, HS.out.2.1⟩
            · have hgt : ¬ m < (A6.length : Int) := by have := D6.out.1.cache.ok.len; omega
              go_wp2_with (
                go_at_call 11
                refine (dlen_c D6.out.1.cache).mono ?_
                rintro e w7 ⟨rfl, rfl⟩)
              go_roundg (min len 80 - (i + 1))
              case measure => omega
              case rel => exact ⟨i + 1, S6, A6, by go_num, by omega, D6.out.1, D6.out.2⟩
      · by_cases hl1 : i < len
        · have hi1 : (i : Int) < (len : Int) := by omega
          have hi2 : ¬ (i : Int) < 80 := by omega
          clear hlt
          go_wp2_with (
            go_at_call 12
            refine (knownD_c _ (HP.out.keep D0.out.1.keep)).mono ?_
            rintro e w8 ⟨rfl, k8⟩
            have N8 := Lib.hid (D0.out.1.aside k8)
            clear k8)
          go_ret
          exact ⟨rfl, N8.out.below⟩
        · have hi1 : ¬ (i : Int) < (len : Int) := by omega
          clear hlt
          go_wp2_with (
            go_at_call 12
            refine (knownD_c _ (HP.out.keep D0.out.1.keep)).mono ?_
            rintro e w8 ⟨rfl, k8⟩
            have N8 := Lib.hid (D0.out.1.aside k8)
            clear k8)
          go_ret
          exact ⟨rfl, N8.out.below⟩

end Go.Proofs.YtjicoebcmfnooaaDoor
