/-
  ScriptWrites: scripts are written, or refused, as the document says.
-/
import Derived.Test.YtmokbgihpfnmbaaItemsCat
import Derived.Test.YtmokbgihpfnmbaaRSEnc
import Derived.Deep.RegionHeld3
import Derived.Below
import Derived.Deep.Cut
namespace Go.Proofs.Ytmokbgihpfnmbaa
open Go Go.RowKit
set_option linter.unusedSectionVars false
set_option linter.unusedSimpArgs false
set_option linter.unusedVariables false

set_option maxRecDepth 100000 in
set_option maxHeartbeats 8000000 in
theorem writes_walk (a : Option Addr) (len cap : Nat) (W : World) (h0 : ∃ L, ItemsIn W (.slice a len cap) L ∧ L.length = len ∧ ∀ i ∈ L, Lens i) :
    Calls Try.prog 5 #[.slice a len cap] W fun r w' => r = .returned (.bool true) ∧ Below W.heap.size W w' := by
  obtain ⟨L0, hI, hlen, hlens⟩ := h0
  obtain ⟨_, _, hv, hlc, hcm⟩ := hI.val
  simp only [Value.slice.injEq] at hv
  obtain ⟨-, -, rfl⟩ := hv
  rw [hlen] at hlc
  unfold maxLen at hcm
  obtain ⟨L, hL⟩ : ∃ L, L = L0.take 40 := ⟨_, rfl⟩
  have hn0 : L.length = min len 40 := by rw [hL, List.length_take]; omega
  have hIt : ItemsIn W (.slice a L.length cap) L := by
    have h := hI.take (j := L.length) (by omega)
    have e : L0.take L.length = L0.take 40 := by rw [List.take_eq_take_iff]; omega
    rw [e, ← hL] at h
    exact h
  have hls : ∀ i ∈ L, Lens i := fun i hi => hlens i (by rw [hL] at hi; exact List.mem_of_mem_take hi)
  have hlc2 : L.length ≤ cap := by omega
  obtain ⟨xs, hx1, hx2⟩ := hIt.ex
  have hxl : xs.length = L.length := by rw [← hx1, List.length_map]
  have H := Lib.hid (And.intro hIt (And.intro hls (And.intro hx2 (And.intro hx1 hxl))))
  have Hn := Lib.hid hn0
  clear hI hlens hL hIt hlen hn0 hls hx1 hx2 hxl
  go_enter Try.func5, Try.ntmps5
  go_upto_if 10 with (fail)
  go_cut [0] from 8 (fun s wc => s = .slice a L.length cap ∧ W = wc)
  case first =>
    by_cases h5 : 40 < len
    all_goals
      go_wp2
      go_meet
      case rel => exact ⟨by rw [Hn.out]; congr 1; omega, rfl⟩
  case rest =>
    obtain ⟨rfl, rfl⟩ := hcut
    generalize hml : L.length = n at *
    have Hml := Lib.hid hml
    clear hml
    go_wp2
    go_loopg [3] n (fun g s3 wr => ∃ k : Nat, s3 = .int .i64 k ∧ k + g = n ∧ Keep W wr (fun _ => False))
    case atStart => exact ⟨0, rfl, by omega, Keep.refl _ _⟩
    case round =>
      obtain ⟨k, rfl, hk, hW⟩ := hrel
      by_cases hlt : k < n
      · have hlt' : (k : Int) < (n : Int) := by omega
        have hki : IntKind.i64.wrap ((k : Int) + 1) = (k : Int) + 1 := IntWalk.i64_in _ (by omega)
        obtain ⟨x, hx⟩ : ∃ x, xs[k]? = some x := ⟨_, List.getElem?_eq_getElem (by have := H.out.2.2.2.2; omega)⟩
        obtain ⟨b4, o4, rfl, hc⟩ := H.out.2.2.1.at hx
        have hmem : x.1 ∈ L := by rw [← H.out.2.2.2.1]; exact List.mem_map_of_mem (List.mem_of_getElem? hx)
        have hle := H.out.2.1 x.1 hmem
        obtain ⟨da, dcap, e1⟩ := (H.out.2.2.1.good x (List.mem_of_getElem? hx)).1
        have hr1 := fun U => sright_c x.1 da dcap U hle
        have hr2 := fun U => rsright_c x.1 da dcap U hle
        obtain ⟨R, hR⟩ : ∃ R, R = x.1.right := ⟨_, rfl⟩
        rw [← hR] at hr1 hr2
        clear hR hmem hle hx
        obtain ⟨⟨ik, ith, inn, ⟨op, path, tt, fd, fl, md, n2, m2, dat⟩⟩, dv⟩ := x
        simp only at e1
        subst e1
        simp only [itemA, itemC, callC, callA] at hr1 hr2
        have hcs : ∀ U, Keep W U (fun _ => False) → U.cell? ⟨b4, o4 + k * 12, none⟩ = some (.int .i64 ik) ∧ U.cell? ⟨b4, o4 + k * 12 + 1, none⟩ = some (.int .i64 ith) ∧ U.cell? ⟨b4, o4 + k * 12 + 2, none⟩ = some (.int .i64 inn) ∧ U.cell? ⟨b4, o4 + k * 12 + 3, none⟩ = some (.int .i64 op) ∧ U.cell? ⟨b4, o4 + k * 12 + 4, none⟩ = some (.string path) ∧ U.cell? ⟨b4, o4 + k * 12 + 5, none⟩ = some (.string tt) ∧ U.cell? ⟨b4, o4 + k * 12 + 6, none⟩ = some (.int .i64 fd) ∧ U.cell? ⟨b4, o4 + k * 12 + 7, none⟩ = some (.int .i64 fl) ∧ U.cell? ⟨b4, o4 + k * 12 + 8, none⟩ = some (.int .i64 md) ∧ U.cell? ⟨b4, o4 + k * 12 + 9, none⟩ = some (.int .i64 n2) ∧ U.cell? ⟨b4, o4 + k * 12 + 10, none⟩ = some (.int .i64 m2) ∧ U.cell? ⟨b4, o4 + k * 12 + 11, none⟩ = some (.slice da dat.length dcap) := fun U kk => by
          refine ⟨kk.cell (hc 0 _ rfl) (fun q => q), kk.cell (hc 1 _ rfl) (fun q => q), kk.cell (hc 2 _ rfl) (fun q => q), kk.cell (hc 3 _ rfl) (fun q => q), kk.cell (hc 4 _ rfl) (fun q => q), kk.cell (hc 5 _ rfl) (fun q => q), kk.cell (hc 6 _ rfl) (fun q => q), kk.cell (hc 7 _ rfl) (fun q => q), kk.cell (hc 8 _ rfl) (fun q => q), kk.cell (hc 9 _ rfl) (fun q => q), kk.cell (hc 10 _ rfl) (fun q => q), kk.cell (hc 11 _ rfl) (fun q => q)⟩
        have HC := Lib.hid hcs
        obtain ⟨u0, u1, u2, u3, u4, u5, u6, u7, u8, u9, u10, u11⟩ := hcs _ hW
        have KD : Keep W wr.drew (fun _ => False) := hW.trans (Keep.drew _ (fun _ => False)) (fun _ q => q.elim)
        have SD := HC.out _ KD
        clear hc hcs
        go_wp2
        (go_region_held3 (fun w' => w'.cell? ⟨b4, o4 + k * 12, none⟩ = some (.int .i64 ik) ∧ w'.cell? ⟨b4, o4 + k * 12 + 1, none⟩ = some (.int .i64 ith) ∧ w'.cell? ⟨b4, o4 + k * 12 + 2, none⟩ = some (.int .i64 inn) ∧ w'.cell? ⟨b4, o4 + k * 12 + 3, none⟩ = some (.int .i64 op) ∧ w'.cell? ⟨b4, o4 + k * 12 + 4, none⟩ = some (.string path) ∧ w'.cell? ⟨b4, o4 + k * 12 + 5, none⟩ = some (.string tt) ∧ w'.cell? ⟨b4, o4 + k * 12 + 6, none⟩ = some (.int .i64 fd) ∧ w'.cell? ⟨b4, o4 + k * 12 + 7, none⟩ = some (.int .i64 fl) ∧ w'.cell? ⟨b4, o4 + k * 12 + 8, none⟩ = some (.int .i64 md) ∧ w'.cell? ⟨b4, o4 + k * 12 + 9, none⟩ = some (.int .i64 n2) ∧ w'.cell? ⟨b4, o4 + k * 12 + 10, none⟩ = some (.int .i64 m2) ∧ w'.cell? ⟨b4, o4 + k * 12 + 11, none⟩ = some (.slice da dat.length dcap)) (first | exact SD | exact SK18 | exact SK19 | fail) (first
            | (go_at_call 18
               (with_reducible refine (hr1 _).mono ?_)
               rintro e wK18 ⟨rfl, hK18⟩
               have K18 := (show Keep W wK18 (fun _ => False) from by first | exact KD.trans hK18 (fun _ q => q.elim) | exact K19.trans hK18 (fun _ q => q.elim))
               have SK18 := HC.out _ K18
               obtain ⟨k18z0, k18z1, k18z2, k18z3, k18z4, k18z5, k18z6, k18z7, k18z8, k18z9, k18z10, k18z11⟩ := HC.out _ K18
               clear hK18)
            | (go_at_call 19
               (with_reducible refine (hr2 _).mono ?_)
               rintro e wK19 ⟨rfl, hK19⟩
               have K19 := (show Keep W wK19 (fun _ => False) from by first | exact KD.trans hK19 (fun _ q => q.elim) | exact K18.trans hK19 (fun _ q => q.elim))
               have SK19 := HC.out _ K19
               obtain ⟨k19z0, k19z1, k19z2, k19z3, k19z4, k19z5, k19z6, k19z7, k19z8, k19z9, k19z10, k19z11⟩ := HC.out _ K19
               clear hK19)))
        all_goals
          go_wp2
          go_roundg (n - (k + 1))
          case measure => omega
          case rel => exact ⟨k + 1, by rw [Int.natCast_add]; rfl, by omega, by first | exact K19 | exact K18⟩
      · have hlt' : ¬ (k : Int) < (n : Int) := by omega
        have hs1 := senc_c (H.out.1.aside hW) H.out.2.1
        obtain ⟨B, hB⟩ : ∃ B, B = (encS L).1 := ⟨_, rfl⟩
        obtain ⟨R, hR⟩ : ∃ R, R = (encS L).2 := ⟨_, rfl⟩
        rw [← hB, ← hR] at hs1
        have HBR := Lib.hid (And.intro hB hR)
        clear hB hR
        go_wp2_with (first
          | (go_at_call 17
             refine hs1.mono ?_
             rintro e w6 ⟨v6, rfl, q1, q2, -⟩
             obtain ⟨a6, n6, cap6, rfl, rfl⟩ := q1.val
             have hs2 := rsenc_c (H.out.1.aside (hW.trans q2 (fun _ q => q.elim))) H.out.2.1
             rw [← HBR.out.1, ← HBR.out.2] at hs2
             have N6 := Lib.hid (And.intro q1.bsl (hW.trans q2 (fun _ q => q.elim)))
             clear q1 q2 hs1)
          | (go_at_call 9
             refine hs2.mono ?_
             rintro e w7 ⟨v7, rfl, q1, q2, -⟩
             obtain ⟨a7, n7, cap7, rfl, rfl⟩ := q1.val
             have hc1 := str_of (P := Try.prog) 22 9 Try.underlying22 Try.underlying5 Try.underlying9 (N6.out.1.aside q2)
             have hc2 := str_of (P := Try.prog) 22 9 Try.underlying22 Try.underlying5 Try.underlying9 q1.bsl
             have N7 := Lib.hid (N6.out.2.trans q2 (fun _ q => q.elim))
             clear q1 q2 hs2)
          | (go_at_call 16
             refine (known_c _).mono ?_
             rintro e w8 ⟨rfl, k8⟩))
        go_ret
        exact ⟨rfl, Keep.below (N7.out.trans k8 (fun _ q => q.elim)) (Nat.le_refl _) (fun b q => q.elim)⟩

end Go.Proofs.Ytmokbgihpfnmbaa
