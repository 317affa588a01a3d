/-
  Scripts are written as the document says (Encode).
-/
import Derived.Test.YtmokbgihpfnmbaaRSRight
import Derived.Test.YtmokbgihpfnmbaaREnc
import Derived.Test.YtmokbgihpfnmbaaSEnc
import Derived.Test.YtmokbgihpfnmbaaItemsCat
namespace Go.Proofs.Ytmokbgihpfnmbaa
open Go Go.RowKit
set_option linter.unusedSectionVars false
set_option linter.unusedSimpArgs false
set_option linter.unusedVariables false

set_option maxRecDepth 100000 in
set_option maxHeartbeats 8000000 in
theorem rsenc_c {w : World} {v : Value} {L : List ItemV} (h : ItemsIn w v L) (hL : ∀ i ∈ L, Lens i) :
    Calls Try.prog 9 #[v] w fun r w' => ∃ v', r = .returned (.tuple #[v', .int .i64 (encS L).2]) ∧ OwnB w' v' (encS L).1 ∧ Keep w w' (fun _ => False) ∧ ∀ b, v'.ownBlock = some b → w.heap.size ≤ b := by
  obtain ⟨a, cap, rfl, hc, hm⟩ := h.val
  have H := Lib.hid (And.intro h hL)
  obtain ⟨ti, ti1, ti2, ti3, ti4⟩ := u8_info
  have HI := Lib.hid (And.intro ti1 (And.intro ti2 (And.intro ti3 ti4)))
  clear h hL ti1 ti2 ti3 ti4
  generalize hn : L.length = n at *
  have HN := Lib.hid hn
  unfold maxLen at hm
  obtain ⟨E, hE⟩ : ∃ E, E = encS L := ⟨_, rfl⟩
  rw [← hE]
  have HE := Lib.hid hE
  clear hn hE
  by_cases hmany : 1024 < n
  · have g1 : (1024 : Int) < (n : Int) := by omega
    go_enter Try.func9, Try.ntmps9
    go_wp2
    refine bodyPost_ret (results_tmp2 rfl _ _ _) rfl ⟨.slice none 0 0, ?_, ?_, Keep.refl _ _, fun b q => by simp [Value.ownBlock] at q⟩
    · have : E = ([], 4) := by rw [HE.out]; unfold encS; rw [if_pos (by rw [HN.out]; exact hmany)]
      rw [this]; rfl
    · have : E = ([], 4) := by rw [HE.out]; unfold encS; rw [if_pos (by rw [HN.out]; exact hmany)]
      rw [this]; exact rows_nil _ _ _
  have g1 : ¬ (1024 : Int) < (n : Int) := by omega
  have HES := Lib.hid (show E = encL [] (L.drop 0) from by rw [HE.out]; unfold encS; rw [if_neg (by rw [HN.out]; exact hmany)]; rfl)
  go_enter Try.func9, Try.ntmps9
  go_wp2
  go_loopg [4, 5, 6, 7, 8] n (fun g s4 s5 _ _ _ wr => ∃ (k : Nat) (acc : Bs), s5 = .int .i64 k ∧ k + g = n ∧ SEW w wr s4 acc ∧ E = encL acc (L.drop k) ∧ acc.length ≤ k * 20000)
  case atStart => exact ⟨0, [], rfl, by omega, ⟨Keep.refl _ _, rows_nil _ _ _, fun b q => by simp [Value.ownBlock] at q⟩, HES.out, by simp⟩
  case round =>
    obtain ⟨k, acc, rfl, hk, hW, hEE, hal⟩ := hrel
    obtain ⟨sa, m, cp, rfl, hm2⟩ := hW.own.val
    subst hm2
    by_cases hlt : k < n
    · have hlt' : (k : Int) < (n : Int) := by omega
      have hki : IntKind.i64.wrap ((k : Int) + 1) = (k : Int) + 1 := IntWalk.i64_in _ (by omega)
      obtain ⟨b, off, x, rfl, hx, hg, hc⟩ := H.out.1.at (i := k) (by rw [HN.out]; exact hlt)
      obtain ⟨i, dv⟩ := x
      obtain ⟨⟨da, dcap, e1⟩, hB⟩ := hg
      simp only at hx e1 hB
      subst e1
      have hlen := H.out.2 i (List.mem_of_getElem? hx)
      have hr := fun U => rsright_c i da dcap U hlen
      have hst := encL_step (acc := acc) hx
      rw [← hEE] at hst
      have hen := fun (U : World) (kk : Keep w U (fun _ => False)) => renc_c i.call da dcap (hB.aside kk) hlen
      obtain ⟨R, hR⟩ : ∃ R, R = i.right := ⟨_, rfl⟩
      rw [← hR] at hr hst
      have HR := Lib.hid (And.intro hR (And.intro hst hx))
      have HW := Lib.hid (And.intro hW hEE)
      have HO := Lib.hid (show wr.ownsRow 0 5 1 (.slice sa acc.length cp) acc.length (acc.map u8V) from hW.own)
      have hp := fun q : R = 0 => right_parts (hR.symm.trans q)
      have hel := fun q : R = 0 => enc_len (hR.symm.trans q)
      clear hR hst hx hlen hEE hB
      obtain ⟨ie, hie⟩ : ∃ ie, ie = i.enc := ⟨_, rfl⟩
      rw [← hie] at hel
      have HIE := Lib.hid hie
      obtain ⟨kind, th, nn, ⟨op, path, tt, fd, fl, md, n2, m2, dat⟩⟩ := i
      simp only [itemA, itemC, callC, callA] at hr hen
      have u0 := (hW.keep).cell (hc 0 _ rfl) (fun q => q)
      have u1 := (hW.keep).cell (hc 1 _ rfl) (fun q => q)
      have u2 := (hW.keep).cell (hc 2 _ rfl) (fun q => q)
      have u3 := (hW.keep).cell (hc 3 _ rfl) (fun q => q)
      have u4 := (hW.keep).cell (hc 4 _ rfl) (fun q => q)
      have u5 := (hW.keep).cell (hc 5 _ rfl) (fun q => q)
      have u6 := (hW.keep).cell (hc 6 _ rfl) (fun q => q)
      have u7 := (hW.keep).cell (hc 7 _ rfl) (fun q => q)
      have u8 := (hW.keep).cell (hc 8 _ rfl) (fun q => q)
      have u9 := (hW.keep).cell (hc 9 _ rfl) (fun q => q)
      have u10 := (hW.keep).cell (hc 10 _ rfl) (fun q => q)
      have u11 := (hW.keep).cell (hc 11 _ rfl) (fun q => q)
      simp only [Nat.add_zero] at u0
      clear hie hW
      by_cases hz : R = 0
      · subst hz
        have hpp := hp rfl
        have hal2 := hel rfl
        simp only at hpp
        obtain ⟨⟨p1, p2, p3, p4, p5, p6⟩, hp1, hp2⟩ := hpp
        have hkw : IntKind.u8.wrap kind = kind := by rw [wrap_u8_mod]; omega
        have HP := Lib.hid (And.intro hp1 hp2)
        clear hp hp1 hp2 hel
        by_cases hk1 : kind = 1
        · have hcr := (HP.out.1 hk1)
          have hke : ie.length = 2 + (CallV.enc ⟨op, path, tt, fd, fl, md, n2, m2, dat⟩).length ∧ (acc ++ ie).map u8V = acc.map u8V ++ [.int .u8 1] ++ [.int .u8 th] ++ (CallV.enc ⟨op, path, tt, fd, fl, md, n2, m2, dat⟩).map u8V := by
            rw [HIE.out]
            unfold ItemV.enc
            simp only
            rw [if_pos hk1, hk1]
            refine ⟨by simp only [List.length_cons]; omega, ?_⟩
            rw [List.map_append, List.map_cons, List.map_cons]
            have e1 : u8V (byte (1 : Int).toNat) = .int .u8 1 := by kernel_rfl
            have e2 : u8V (byte th.toNat) = .int .u8 th := by unfold u8V; rw [byte_toNat, show ((th.toNat % 256 : Nat) : Int) = th by omega]
            rw [e1, e2]
            simp
          have hthw : IntKind.u8.wrap th = th := by rw [wrap_u8_mod]; omega
          have HC := Lib.hid hcr.2
          have HKE := Lib.hid hke
          have hn3b : (CallV.enc ⟨op, path, tt, fd, fl, md, n2, m2, dat⟩).length ≤ 20000 := by omega
          have HHc := Lib.hid hc
          clear hcr hke hkw
          subst hk1
          go_wp2_with (first
          | (go_at_call 19
             refine (hr _).mono ?_
             rintro e w1 ⟨rfl, h1⟩
             have K1 := HW.out.1.keep.trans h1 (fun _ q => q.elim)
             have d0 := (K1).cell (hc 0 _ rfl) (fun q => q)
             have d1 := (K1).cell (hc 1 _ rfl) (fun q => q)
             have d2 := (K1).cell (hc 2 _ rfl) (fun q => q)
             have d3 := (K1).cell (hc 3 _ rfl) (fun q => q)
             have d4 := (K1).cell (hc 4 _ rfl) (fun q => q)
             have d5 := (K1).cell (hc 5 _ rfl) (fun q => q)
             have d6 := (K1).cell (hc 6 _ rfl) (fun q => q)
             have d7 := (K1).cell (hc 7 _ rfl) (fun q => q)
             have d8 := (K1).cell (hc 8 _ rfl) (fun q => q)
             have d9 := (K1).cell (hc 9 _ rfl) (fun q => q)
             have d10 := (K1).cell (hc 10 _ rfl) (fun q => q)
             have d11 := (K1).cell (hc 11 _ rfl) (fun q => q)
             simp only [Nat.add_zero] at d0
             have H1 := Lib.hid (And.intro h1 K1)
             clear h1 K1 hr u0 u1 u2 u3 u4 u5 u6 u7 u8 u9 u10 u11)
          | (at_builtin
             refine law_append_row (v := .slice sa acc.length cp) rfl _ _ _ rfl Try.underlying22 HI.out.1 HI.out.2.1 HI.out.2.2.1 (by rw [HI.out.2.2.2]; decide) rfl (by decide) rfl (rows_keep HO.out (H1.out.1.trans (Keep.alloc w1 _ (fun _ => False)) (fun _ q => q.elim)) (fun _ _ z => z)) [.int .u8 1] rfl (by simp) (.inr ⟨_, rfl, cells_new w1 _ _⟩) (by intro u hu; rw [List.mem_singleton.1 hu]; rfl) (by omega) ?_
             intro sa1 cp1 wA r1 r2 r3
             have r4 := fresh2 (v := .slice sa acc.length cp) (H1.out.2.trans (Keep.alloc w1 _ (fun _ => False)) (fun _ q => q.elim)) HW.out.1.new r2 r3
             have f0 := (r4.1).cell (hc 0 _ rfl) (fun q => q)
             have f1 := (r4.1).cell (hc 1 _ rfl) (fun q => q)
             have f2 := (r4.1).cell (hc 2 _ rfl) (fun q => q)
             have f3 := (r4.1).cell (hc 3 _ rfl) (fun q => q)
             have f4 := (r4.1).cell (hc 4 _ rfl) (fun q => q)
             have f5 := (r4.1).cell (hc 5 _ rfl) (fun q => q)
             have f6 := (r4.1).cell (hc 6 _ rfl) (fun q => q)
             have f7 := (r4.1).cell (hc 7 _ rfl) (fun q => q)
             have f8 := (r4.1).cell (hc 8 _ rfl) (fun q => q)
             have f9 := (r4.1).cell (hc 9 _ rfl) (fun q => q)
             have f10 := (r4.1).cell (hc 10 _ rfl) (fun q => q)
             have f11 := (r4.1).cell (hc 11 _ rfl) (fun q => q)
             simp only [Nat.add_zero] at f0
             have NA := Lib.hid (And.intro r1 r4)
             clear r1 r2 r3 r4 d0 d1 d2 d3 d4 d5 d6 d7 d8 d9 d10 d11)
          | (go_at_call 20
             refine (hen wA NA.out.2.1).mono ?_
             rintro e wC ⟨v2, rfl, q1, q2, q3⟩
             rw [if_pos HC.out] at q1
             obtain ⟨a2, n3, cp2, rfl, rfl⟩ := q1.val
             have K1 := NA.out.2.1.trans q2 (fun _ q => q.elim)
             have g0 := (K1).cell (hc 0 _ rfl) (fun q => q)
             have g1 := (K1).cell (hc 1 _ rfl) (fun q => q)
             have g2 := (K1).cell (hc 2 _ rfl) (fun q => q)
             have g3 := (K1).cell (hc 3 _ rfl) (fun q => q)
             have g4 := (K1).cell (hc 4 _ rfl) (fun q => q)
             have g5 := (K1).cell (hc 5 _ rfl) (fun q => q)
             have g6 := (K1).cell (hc 6 _ rfl) (fun q => q)
             have g7 := (K1).cell (hc 7 _ rfl) (fun q => q)
             have g8 := (K1).cell (hc 8 _ rfl) (fun q => q)
             have g9 := (K1).cell (hc 9 _ rfl) (fun q => q)
             have g10 := (K1).cell (hc 10 _ rfl) (fun q => q)
             have g11 := (K1).cell (hc 11 _ rfl) (fun q => q)
             simp only [Nat.add_zero] at g0
             have NC := Lib.hid (And.intro q1 (And.intro q2 (And.intro q3 K1)))
             clear q1 q2 q3 K1 hen f0 f1 f2 f3 f4 f5 f6 f7 f8 f9 f10 f11)
          | (at_builtin
             refine law_append_row (v := .slice sa1 (acc.length + 1) cp1) rfl _ _ _ rfl Try.underlying22 HI.out.1 HI.out.2.1 HI.out.2.2.1 (by rw [HI.out.2.2.2]; decide) rfl (by decide) rfl (rows_keep NA.out.1 (NC.out.2.1.trans (Keep.alloc wC _ (fun _ => False)) (fun _ q => q.elim)) (fun _ _ z => z)) [.int .u8 th] rfl (by simp) (.inr ⟨_, rfl, cells_new wC _ _⟩) (by intro u hu; rw [List.mem_singleton.1 hu]; rfl) (by omega) ?_
             intro sa3 cp3 wD r1 r2 r3
             have r4 := fresh2 (v := .slice sa1 (acc.length + 1) cp1) (NC.out.2.2.2.trans (Keep.alloc wC _ (fun _ => False)) (fun _ q => q.elim)) NA.out.2.2 r2 r3
             have hx := (NC.out.1.keep (Keep.alloc wC (.cells #[.int .u8 th] 5) (fun _ => False)) (fun _ _ z => z)).keep r2 (fun b q z => by
               have h1 := NC.out.2.2.1 b q
               have h2 := own_lt NA.out.1 b z.symm
               omega)
             have ND := Lib.hid (And.intro r1 (And.intro r4 hx.bsl.news))
             clear r1 r2 r3 r4 hx g0 g1 g2 g3 g4 g5 g6 g7 g8 g9 g10 g11)
          | (at_builtin
             refine law_append_row (v := .slice sa3 (acc.length + 1 + 1) cp3) rfl _ _ _ rfl Try.underlying22 HI.out.1 HI.out.2.1 HI.out.2.2.1 (by rw [HI.out.2.2.2]; decide) rfl (by decide) rfl ND.out.1 ((CallV.enc ⟨op, path, tt, fd, fl, md, n2, m2, dat⟩).map u8V) rfl (by simp) ND.out.2.2 (u8_one _) (by omega) ?_
             intro sa4 cp4 wE r1 r2 r3
             have r4 := fresh2 (v := .slice sa3 (acc.length + 1 + 1) cp3) ND.out.2.1.1 ND.out.2.1.2 r2 r3
             have NE := Lib.hid (And.intro r1 r4)
             clear r1 r2 r3 r4))
          go_roundg (n - (k + 1))
          case measure => omega
          case rel => exact ⟨k + 1, acc ++ ie, by rw [Int.natCast_add]; rfl, by omega, ⟨NE.out.2.1, rows_own NE.out.1 (by rw [List.length_append, HKE.out.1]; omega) HKE.out.2.symm, NE.out.2.2⟩, by rw [HR.out.2.1, if_pos trivial, HIE.out], by rw [List.length_append]; omega⟩
        · have g3 : (kind == 1) = false := by simpa using hk1
          have g5 : IntKind.u8.wrap nn = nn % 256 := wrap_u8_mod nn
          have hkv : (acc ++ ie).map u8V = acc.map u8V ++ [.int .u8 kind] ++ [.int .u8 (nn / 256), .int .u8 (nn % 256)] := by
            rw [HIE.out]
            unfold ItemV.enc
            simp only
            rw [if_neg hk1, List.map_append, List.map_cons, be2_vals, show ((nn.toNat : Nat) : Int) = nn by omega, show nn / 256 % 256 = nn / 256 by omega]
            unfold u8V
            rw [byte_toNat, show ((kind.toNat % 256 : Nat) : Int) = kind by omega]
            simp
          have hil : ie.length = 3 := by
            rw [HIE.out]
            unfold ItemV.enc
            simp only
            rw [if_neg hk1]
            rfl
          have HKV := Lib.hid hkv
          clear hkv hen
          go_wp2_with (first
          | (go_at_call 19
             refine (hr _).mono ?_
             rintro e w1 ⟨rfl, h1⟩
             have K1 := HW.out.1.keep.trans h1 (fun _ q => q.elim)
             have d0 := (K1).cell (hc 0 _ rfl) (fun q => q)
             have d1 := (K1).cell (hc 1 _ rfl) (fun q => q)
             have d2 := (K1).cell (hc 2 _ rfl) (fun q => q)
             have d3 := (K1).cell (hc 3 _ rfl) (fun q => q)
             have d4 := (K1).cell (hc 4 _ rfl) (fun q => q)
             have d5 := (K1).cell (hc 5 _ rfl) (fun q => q)
             have d6 := (K1).cell (hc 6 _ rfl) (fun q => q)
             have d7 := (K1).cell (hc 7 _ rfl) (fun q => q)
             have d8 := (K1).cell (hc 8 _ rfl) (fun q => q)
             have d9 := (K1).cell (hc 9 _ rfl) (fun q => q)
             have d10 := (K1).cell (hc 10 _ rfl) (fun q => q)
             have d11 := (K1).cell (hc 11 _ rfl) (fun q => q)
             simp only [Nat.add_zero] at d0
             have H1 := Lib.hid (And.intro h1 K1)
             clear h1 K1 hr u0 u1 u2 u3 u4 u5 u6 u7 u8 u9 u10 u11)
          | (at_builtin
             refine law_append_row (v := .slice sa acc.length cp) rfl _ _ _ rfl Try.underlying22 HI.out.1 HI.out.2.1 HI.out.2.2.1 (by rw [HI.out.2.2.2]; decide) rfl (by decide) rfl (rows_keep HO.out (H1.out.1.trans (Keep.alloc w1 _ (fun _ => False)) (fun _ q => q.elim)) (fun _ _ z => z)) [.int .u8 kind] rfl (by simp) (.inr ⟨_, rfl, cells_new w1 _ _⟩) (by intro u hu; rw [List.mem_singleton.1 hu]; rfl) (by omega) ?_
             intro sa1 cp1 wA r1 r2 r3
             have r4 := fresh2 (v := .slice sa acc.length cp) (H1.out.2.trans (Keep.alloc w1 _ (fun _ => False)) (fun _ q => q.elim)) HW.out.1.new r2 r3
             have f0 := (r4.1).cell (hc 0 _ rfl) (fun q => q)
             have f1 := (r4.1).cell (hc 1 _ rfl) (fun q => q)
             have f2 := (r4.1).cell (hc 2 _ rfl) (fun q => q)
             have f3 := (r4.1).cell (hc 3 _ rfl) (fun q => q)
             have f4 := (r4.1).cell (hc 4 _ rfl) (fun q => q)
             have f5 := (r4.1).cell (hc 5 _ rfl) (fun q => q)
             have f6 := (r4.1).cell (hc 6 _ rfl) (fun q => q)
             have f7 := (r4.1).cell (hc 7 _ rfl) (fun q => q)
             have f8 := (r4.1).cell (hc 8 _ rfl) (fun q => q)
             have f9 := (r4.1).cell (hc 9 _ rfl) (fun q => q)
             have f10 := (r4.1).cell (hc 10 _ rfl) (fun q => q)
             have f11 := (r4.1).cell (hc 11 _ rfl) (fun q => q)
             simp only [Nat.add_zero] at f0
             have NA := Lib.hid (And.intro r1 r4)
             clear r1 r2 r3 r4 d0 d1 d2 d3 d4 d5 d6 d7 d8 d9 d10 d11))
          have hnd : IntKind.u8.wrap (nn / 256) = nn / 256 := by rw [wrap_u8_mod]; omega
          have hkA : Keep wA (wA.alloc (.cells #[.int .u8 (nn / 256), .int .u8 (nn % 256)] 5)).drew (fun _ => False) := (Keep.alloc wA _ (fun _ => False)).trans (Keep.drew _ (fun _ => False)) (fun _ q => q.elim)
          have hrA := rows_keep NA.out.1 hkA (fun _ _ z => z)
          have hcn := cells_new wA [.int .u8 (nn / 256), .int .u8 (nn % 256)] 5
          have HA := Lib.hid (And.intro hkA (And.intro hrA hcn))
          clear hkA hrA hcn
          go_region_held3 (fun w' => w'.cell? ⟨b, off + k * 12 + 2, none⟩ = some (.int .i64 nn)) (go_keep) (first
            | (refine step_append_row (v := .slice sa1 (acc.length + 1) cp1) rfl _ _ _ (by rfl) Try.underlying22 HI.out.1 HI.out.2.1 HI.out.2.2.1 (by rw [HI.out.2.2.2]; decide) rfl (by decide) (by rfl) HA.out.2.1 [.int .u8 (nn / 256), .int .u8 (nn % 256)] (by rfl) (by simp) (.inr ⟨_, rfl, HA.out.2.2⟩) (by intro u hu; simp at hu; rcases hu with rfl | rfl <;> rfl) (by omega) (acc.length + 1 + 2) rfl _ rfl ?_
               intro sa2 cp2 wB r1 r2 r3
               have r4 := fresh2 (v := .slice sa1 (acc.length + 1) cp1) (NA.out.2.1.trans HA.out.1 (fun _ q => q.elim)) NA.out.2.2 r2 r3
               have z2 := r4.1.cell (hc 2 _ rfl) (fun q => q)
               have NB := Lib.hid (And.intro r1 r4)
               clear r1 r2 r3 r4))
          go_wp2
          go_roundg (n - (k + 1))
          case measure => omega
          case rel => exact ⟨k + 1, acc ++ ie, by rw [Int.natCast_add]; rfl, by omega, ⟨NB.out.2.1, rows_own NB.out.1 (by rw [List.length_append, hil]) HKV.out.symm, NB.out.2.2⟩, by rw [HR.out.2.1, if_pos trivial, HIE.out], by rw [List.length_append]; omega⟩
      · have g0 : (R != 0) = true := by simpa using hz
        have HZ := Lib.hid hz
        clear hz hen hp hel
        go_wp2_with (first
          | (go_at_call 19
             refine (hr _).mono ?_
             rintro e w1 ⟨rfl, h1⟩
             have K1 := HW.out.1.keep.trans h1 (fun _ q => q.elim)
             have d0 := (K1).cell (hc 0 _ rfl) (fun q => q)
             have d1 := (K1).cell (hc 1 _ rfl) (fun q => q)
             have d2 := (K1).cell (hc 2 _ rfl) (fun q => q)
             have d3 := (K1).cell (hc 3 _ rfl) (fun q => q)
             have d4 := (K1).cell (hc 4 _ rfl) (fun q => q)
             have d5 := (K1).cell (hc 5 _ rfl) (fun q => q)
             have d6 := (K1).cell (hc 6 _ rfl) (fun q => q)
             have d7 := (K1).cell (hc 7 _ rfl) (fun q => q)
             have d8 := (K1).cell (hc 8 _ rfl) (fun q => q)
             have d9 := (K1).cell (hc 9 _ rfl) (fun q => q)
             have d10 := (K1).cell (hc 10 _ rfl) (fun q => q)
             have d11 := (K1).cell (hc 11 _ rfl) (fun q => q)
             simp only [Nat.add_zero] at d0
             have H1 := Lib.hid (And.intro h1 K1)
             clear h1 K1 hr u0 u1 u2 u3 u4 u5 u6 u7 u8 u9 u10 u11))
        refine bodyPost_ret (results_tmp2 rfl _ _ _) rfl ⟨.slice none 0 0, ?_, ?_, H1.out.2, fun b q => by simp [Value.ownBlock] at q⟩
        · have : E = ([], R) := by rw [HR.out.2.1, if_neg HZ.out]
          rw [this]; rfl
        · have : E = ([], R) := by rw [HR.out.2.1, if_neg HZ.out]
          rw [this]; exact rows_nil _ _ _
    · have hlt' : ¬ (k : Int) < (n : Int) := by omega
      have hd : L.drop k = [] := List.drop_eq_nil_of_le (by rw [HN.out]; omega)
      rw [hd] at hEE
      have HEE := Lib.hid hEE
      clear hEE hd
      go_wp2
      refine bodyPost_ret (results_tmp2 rfl _ _ _) rfl ⟨.slice sa acc.length cp, ?_, ?_, hW.keep, hW.new⟩
      · rw [HEE.out]; rfl
      · rw [HEE.out]; exact hW.own

end Go.Proofs.Ytmokbgihpfnmbaa
