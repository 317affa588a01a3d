/-
  Scripts are written (script.Encode).
-/
import Derived.Test.YtmokbgihpfnmbaaSameI
import Derived.Test.YtmokbgihpfnmbaaSRight
import Derived.Test.YtmokbgihpfnmbaaOEnc
namespace Go.Proofs.Ytmokbgihpfnmbaa
open Go Go.RowKit
set_option linter.unusedSectionVars false
set_option linter.unusedSimpArgs false
set_option linter.unusedVariables false

theorem wrap_u8_mod (n : Int) : IntKind.u8.wrap n = n % 256 := by
  unfold IntKind.wrap
  simp only [IntKind.signed, IntKind.bits, Bool.false_and, Bool.false_eq_true, if_false]
  rfl

/-- Lengths that may be. -/
def Lens (i : ItemV) : Prop := i.call.path.size ≤ 9223372036854775807 ∧ i.call.to.size ≤ 9223372036854775807 ∧ i.call.data.length ≤ 9223372036854775807

theorem encL_step {L : List ItemV} {k : Nat} {i : ItemV} {acc : Bs} (hi : L[k]? = some i) : encL acc (L.drop k) = if i.right = 0 then encL (acc ++ i.enc) (L.drop (k + 1)) else ([], i.right) := by
  obtain ⟨hk, hh⟩ := List.getElem?_eq_some_iff.1 hi
  rw [List.drop_eq_getElem_cons hk, hh, encL]

theorem enc_len {i : ItemV} (h : i.right = 0) : i.enc.length ≤ 20000 := by
  obtain ⟨_, h1, h2⟩ := right_parts h
  unfold ItemV.enc
  split
  · rename_i q
    obtain ⟨_, hr⟩ := h1 q
    have hf := enc_length i.call
    simp only [List.length_cons]
    have : i.call.path.size ≤ 5000 ∧ i.call.to.size ≤ 5000 ∧ i.call.data.length ≤ 2000 := by
      unfold CallV.right at hr
      split at hr
      · simp at hr
      · split at hr
        · simp at hr
        · omega
    omega
  · simp [be2]

/-- What has been written is the writer's own, and new. -/
structure SEW (w wr : World) (v : Value) (acc : Bs) : Prop where
  keep : Keep w wr (fun _ => False)
  own : OwnB wr v acc
  new : ∀ b, v.ownBlock = some b → w.heap.size ≤ b

set_option maxRecDepth 100000 in
set_option maxHeartbeats 8000000 in
theorem senc_c {w : World} {v : Value} {L : List ItemV} (h : ItemsIn w v L) (hL : ∀ i ∈ L, Lens i) :
    Calls Try.prog 17 #[v] w fun r w' => ∃ v', r = .returned (.tuple #[v', .int .i64 (encS L).2]) ∧ OwnB w' v' (encS L).1 ∧ Keep w w' (fun _ => False) ∧ ∀ b, v'.ownBlock = some b → w.heap.size ≤ b := by
  obtain ⟨a, cap, rfl, hc, hm⟩ := h.val
  have H := Lib.hid (And.intro h hL)
  have hS : Hid (∀ acc : Bs, True) := Lib.hid (fun _ => trivial)
  obtain ⟨ti, ti1, ti2, ti3, ti4⟩ := u8_info
  have HI := Lib.hid (And.intro ti1 (And.intro ti2 (And.intro ti3 ti4)))
  clear h hL ti1 ti2 ti3 ti4
  generalize hn : L.length = n at *
  have HN := Lib.hid hn
  unfold maxLen at hm
  obtain ⟨E, hE⟩ : ∃ E, E = encS L := ⟨_, rfl⟩
  rw [← hE]
  have HE := Lib.hid hE
  clear hn hE
  by_cases hmany : 1024 < n
  · have g1 : (1024 : Int) < (n : Int) := by omega
    go_enter Try.func17, Try.ntmps17
    go_wp2
    refine bodyPost_ret (results_tmp2 rfl _ _ _) rfl ⟨.slice none 0 0, ?_, ?_, Keep.refl _ _, fun b q => by simp [Value.ownBlock] at q⟩
    · have : E = ([], 4) := by rw [HE.out]; unfold encS; rw [if_pos (by rw [HN.out]; exact hmany)]
      rw [this]; rfl
    · have : E = ([], 4) := by rw [HE.out]; unfold encS; rw [if_pos (by rw [HN.out]; exact hmany)]
      rw [this]; exact rows_nil _ _ _
  have g1 : ¬ (1024 : Int) < (n : Int) := by omega
  have HES := Lib.hid (show E = encL [] (L.drop 0) from by rw [HE.out]; unfold encS; rw [if_neg (by rw [HN.out]; exact hmany)]; rfl)
  go_enter Try.func17, Try.ntmps17
  go_wp2
  go_loopg [4, 6, 7, 8, 9, 15] n (fun g s4 _ _ _ _ s15 wr => ∃ (k : Nat) (acc : Bs), s15 = .int .i64 k ∧ k + g = n ∧ SEW w wr s4 acc ∧ E = encL acc (L.drop k) ∧ acc.length ≤ k * 20000)
  case atStart => exact ⟨0, [], rfl, by omega, ⟨Keep.refl _ _, rows_nil _ _ _, fun b q => by simp [Value.ownBlock] at q⟩, HES.out, by simp⟩
  case round =>
    obtain ⟨k, acc, rfl, hk, hW, hEE, hal⟩ := hrel
    obtain ⟨sa, m, cp, rfl, hm2⟩ := hW.own.val
    subst hm2
    by_cases hlt : k < n
    · have hlt' : (k : Int) < (n : Int) := by omega
      have hki : IntKind.i64.wrap ((k : Int) + 1) = (k : Int) + 1 := IntWalk.i64_in _ (by omega)
      obtain ⟨b, off, x, rfl, hx, hg, hc⟩ := H.out.1.at (i := k) (by rw [HN.out]; exact hlt)
      obtain ⟨i, dv⟩ := x
      obtain ⟨⟨da, dcap, e1⟩, hB⟩ := hg
      simp only at hx e1 hB
      subst e1
      have hlen := H.out.2 i (List.mem_of_getElem? hx)
      have hr := fun U => sright_c i da dcap U hlen
      have hst := encL_step (acc := acc) hx
      rw [← hEE] at hst
      have hen := fun (U : World) (kk : Keep w U (fun _ => False)) => oenc_c i.call da dcap (hB.aside kk) hlen
      obtain ⟨R, hR⟩ : ∃ R, R = i.right := ⟨_, rfl⟩
      rw [← hR] at hr hst
      have HR := Lib.hid (And.intro hR (And.intro hst hx))
      have HW := Lib.hid (And.intro hW hEE)
      have HO := Lib.hid (show wr.ownsRow 0 5 1 (.slice sa acc.length cp) acc.length (acc.map u8V) from hW.own)
      have hp := fun q : R = 0 => right_parts (hR.symm.trans q)
      have hel := fun q : R = 0 => enc_len (hR.symm.trans q)
      have hen0 := hen
      clear hR hst hx hlen hEE hB hen0
      obtain ⟨ie, hie⟩ : ∃ ie, ie = i.enc := ⟨_, rfl⟩
      rw [← hie] at hel
      have HIE := Lib.hid hie
      obtain ⟨kind, th, nn, ⟨op, path, tt, fd, fl, md, n2, m2, dat⟩⟩ := i
      simp only [itemA, itemC, callC, callA] at hr hen
      have u0 := hW.keep.cell (hc 0 _ rfl) (fun q => q)
      have u1 := hW.keep.cell (hc 1 _ rfl) (fun q => q)
      have u2 := hW.keep.cell (hc 2 _ rfl) (fun q => q)
      have u3 := hW.keep.cell (hc 3 _ rfl) (fun q => q)
      have u4 := hW.keep.cell (hc 4 _ rfl) (fun q => q)
      have u5 := hW.keep.cell (hc 5 _ rfl) (fun q => q)
      have u6 := hW.keep.cell (hc 6 _ rfl) (fun q => q)
      have u7 := hW.keep.cell (hc 7 _ rfl) (fun q => q)
      have u8 := hW.keep.cell (hc 8 _ rfl) (fun q => q)
      have u9 := hW.keep.cell (hc 9 _ rfl) (fun q => q)
      have u10 := hW.keep.cell (hc 10 _ rfl) (fun q => q)
      have u11 := hW.keep.cell (hc 11 _ rfl) (fun q => q)
      simp only [Nat.add_zero] at u0
      clear hc hie hW
      by_cases hz : R = 0
      · subst hz
        have hpp := hp rfl
        have hal2 := hel rfl
        simp only at hpp
        obtain ⟨⟨p1, p2, p3, p4, p5, p6⟩, hp1, hp2⟩ := hpp
        have hkw : IntKind.u8.wrap kind = kind := by rw [wrap_u8_mod]; omega
        have HP := Lib.hid (And.intro hp1 hp2)
        clear hp hp1 hp2 hel
        by_cases hk1 : kind = 1
        · have hcr := (HP.out.1 hk1)
          have hke : ie.length = 2 + (CallV.enc ⟨op, path, tt, fd, fl, md, n2, m2, dat⟩).length ∧ (acc ++ ie).map u8V = acc.map u8V ++ [.int .u8 1] ++ [.int .u8 th] ++ (CallV.enc ⟨op, path, tt, fd, fl, md, n2, m2, dat⟩).map u8V := by
            rw [HIE.out]
            unfold ItemV.enc
            simp only
            rw [if_pos hk1, hk1]
            refine ⟨by simp only [List.length_cons]; omega, ?_⟩
            rw [List.map_append, List.map_cons, List.map_cons]
            have e1 : u8V (byte (1 : Int).toNat) = .int .u8 1 := by kernel_rfl
            have e2 : u8V (byte th.toNat) = .int .u8 th := by unfold u8V; rw [byte_toNat, show ((th.toNat % 256 : Nat) : Int) = th by omega]
            rw [e1, e2]
            simp
          have hthw : IntKind.u8.wrap th = th := by rw [wrap_u8_mod]; omega
          have HC := Lib.hid hcr.2
          have HKE := Lib.hid hke
          have hn3b : (CallV.enc ⟨op, path, tt, fd, fl, md, n2, m2, dat⟩).length ≤ 20000 := by omega
          have HN3 := Lib.hid hn3b
          clear hcr hke hkw
          subst hk1
          go_wp2_with (first
          | (
           go_at_call 18
           refine (hr _).mono ?_
           rintro e w1 ⟨rfl, h1⟩
           have hb1 := h1.get (heap_alloc_eq wr _) (fun q => q)
           have d0 := cell_blk hb1 0
           have d1 := cell_blk hb1 1
           have d2 := cell_blk hb1 2
           have d3 := cell_blk hb1 3
           have d4 := cell_blk hb1 4
           have d5 := cell_blk hb1 5
           have d6 := cell_blk hb1 6
           have d7 := cell_blk hb1 7
           have d8 := cell_blk hb1 8
           have d9 := cell_blk hb1 9
           have d10 := cell_blk hb1 10
           have d11 := cell_blk hb1 11
           simp only [List.getElem?_toArray, List.getElem?_cons_zero, List.getElem?_cons_succ] at d0 d1 d2 d3 d4 d5 d6 d7 d8 d9 d10 d11
           have W1 := Lib.hid (And.intro ((Keep.alloc wr _ (fun _ => False)).trans h1 (fun _ q => q.elim)) hb1)
           clear h1 hb1 hr)
          | (
           at_builtin
           refine law_append_row rfl _ _ _ rfl Try.underlying22 HI.out.1 HI.out.2.1 HI.out.2.2.1 (by rw [HI.out.2.2.2]; decide) rfl (by decide) rfl (rows_keep HO.out (W1.out.1.trans (Keep.alloc w1 (.cells #[.int .u8 1] 5) (fun _ => False)) (fun _ q => q.elim)) (fun _ _ z => z)) [.int .u8 1] rfl rfl (.inr ⟨_, rfl, cells_new _ _ _⟩) (by intro u hu; rw [List.mem_singleton.1 hu]; rfl) (by omega) ?_
           intro sa1 cp1 wA r1 r2 r3
           have hb2 := r2.get ((Keep.alloc w1 (.cells #[.int .u8 1] 5) (fun _ => False)).get W1.out.2 (fun q => q)) (fun q => by have := HW.out.1.own.lt _ q.symm; omega)
           have f0 := cell_blk hb2 0
           have f1 := cell_blk hb2 1
           have f2 := cell_blk hb2 2
           have f3 := cell_blk hb2 3
           have f4 := cell_blk hb2 4
           have f5 := cell_blk hb2 5
           have f6 := cell_blk hb2 6
           have f7 := cell_blk hb2 7
           have f8 := cell_blk hb2 8
           have f9 := cell_blk hb2 9
           have f10 := cell_blk hb2 10
           have f11 := cell_blk hb2 11
           simp only [List.getElem?_toArray, List.getElem?_cons_zero, List.getElem?_cons_succ] at f0 f1 f2 f3 f4 f5 f6 f7 f8 f9 f10 f11
           have NA := Lib.hid (And.intro r1 (And.intro r2 (And.intro r3 hb2)))
           clear r1 r2 r3 hb2 d0 d1 d2 d3 d4 d5 d6 d7 d8 d9 d10 d11)
          | (
           go_at_call 26
           refine (hen wA (((HW.out.1.keep.trans W1.out.1 (fun _ q => q.elim)).trans (Keep.alloc w1 (.cells #[.int .u8 1] 5) (fun _ => False)) (fun _ q => q.elim)).trans NA.out.2.1 (fun b q => .inr (HW.out.1.new b q.symm)))).mono ?_
           rintro e wC ⟨v2, rfl, q1, q2, q3⟩
           rw [if_pos HC.out] at q1
           obtain ⟨a2, n3, cp2, rfl, hn3⟩ := q1.val
           have hrw : wC.ownsRow 0 5 1 (.slice a2 n3 cp2) n3 ((CallV.enc ⟨op, path, tt, fd, fl, md, n2, m2, dat⟩).map u8V) := by rw [hn3]; rw [hn3] at q1; exact q1
           obtain ⟨g, rfl, -, -, -⟩ := rows_some hrw (by rw [hn3, enc_length]; omega)
           have hb3 := q2.get NA.out.2.2.2 (fun q => q)
           have g1' := cell_blk hb3 1
           simp only [List.getElem?_toArray, List.getElem?_cons_zero, List.getElem?_cons_succ] at g1'
           have NC := Lib.hid (And.intro hrw (And.intro q2 (And.intro q3 (And.intro hn3 hb3))))
           clear q1 q2 q3 hn3 hrw hb3 hen f0 f1 f2 f3 f4 f5 f6 f7 f8 f9 f10 f11)
          | (
           at_builtin
           refine law_append_row rfl _ _ _ rfl Try.underlying22 HI.out.1 HI.out.2.1 HI.out.2.2.1 (by rw [HI.out.2.2.2]; decide) rfl (by decide) rfl (rows_keep NA.out.1 (NC.out.2.1.trans (Keep.alloc wC (.cells #[.int .u8 th] 5) (fun _ => False)) (fun _ q => q.elim)) (fun _ _ z => z)) [.int .u8 th] rfl rfl (.inr ⟨_, rfl, cells_new _ _ _⟩) (by intro u hu; rw [List.mem_singleton.1 hu]; rfl) (by omega) ?_
           intro sa3 cp3 wD r1 r2 r3
           have hrD := rows_keep (rows_keep NC.out.1 (Keep.alloc wC (.cells #[.int .u8 th] 5) (fun _ => False)) (fun _ _ z => z)) r2 (fun b q z => by
             have h1 := NC.out.2.2.1 b q
             have h2 := own_lt NA.out.1 b z.symm
             omega)
           have ND := Lib.hid (And.intro r1 (And.intro r2 (And.intro r3 hrD)))
           clear r1 r2 r3 hrD g1')
          | (
           at_builtin
           refine law_append_row rfl _ _ _ rfl Try.underlying22 HI.out.1 HI.out.2.1 HI.out.2.2.1 (by rw [HI.out.2.2.2]; decide) rfl (by decide) rfl ND.out.1 ((CallV.enc ⟨op, path, tt, fd, fl, md, n2, m2, dat⟩).map u8V) rfl (by rw [List.length_map, NC.out.2.2.2.1]; omega) (.inr ⟨_, rfl, rows_read ND.out.2.2.2 0 (fun j u hj => by rw [Nat.zero_add]; exact hj)⟩) (bytes_one _) (by have := NC.out.2.2.2.1; omega) ?_
           intro sa4 cp4 wE r1 r2 r3
           have NE := Lib.hid (And.intro r1 (And.intro r2 r3))
           clear r1 r2 r3))
          have kA1 := Keep.alloc w1 (.cells #[.int .u8 1] 5) (fun _ => False)
          have kA2 := Keep.alloc wC (.cells #[.int .u8 th] 5) (fun _ => False)
          have hzz1 : (w1.alloc (.cells #[.int .u8 1] 5)).heap.size = w1.heap.size + 1 := by simp
          have hzz2 : (wC.alloc (.cells #[.int .u8 th] 5)).heap.size = wC.heap.size + 1 := by simp
          have s1 := W1.out.1.size
          have s0 := HW.out.1.keep.size
          have sA := NA.out.2.1.size
          have sC := NC.out.2.1.size
          have sD := ND.out.2.1.size
          have nA : ∀ b, (Value.slice sa1 (acc.length + 1) cp1).ownBlock = some b → w.heap.size ≤ b := fun b q => by
            rcases NA.out.2.2.1 b q with z | z
            · exact HW.out.1.new b z
            · omega
          have nD : ∀ b, (Value.slice sa3 (acc.length + 1 + 1) cp3).ownBlock = some b → w.heap.size ≤ b := fun b q => by
            rcases ND.out.2.2.1 b q with z | z
            · exact nA b z
            · omega
          have nE : ∀ b, (Value.slice sa4 (acc.length + 1 + 1 + n3) cp4).ownBlock = some b → w.heap.size ≤ b := fun b q => by
            rcases NE.out.2.2 b q with z | z
            · exact nD b z
            · omega
          have kF : Keep w wE (fun _ => False) := ((((((HW.out.1.keep.trans W1.out.1 (fun _ q => q.elim)).trans kA1 (fun _ q => q.elim)).trans NA.out.2.1 (fun b q => .inr (HW.out.1.new b q.symm))).trans NC.out.2.1 (fun _ q => q.elim)).trans kA2 (fun _ q => q.elim)).trans ND.out.2.1 (fun b q => .inr (nA b q.symm))).trans NE.out.2.1 (fun b q => .inr (nD b q.symm))
          have hl3 := NC.out.2.2.2.1
          go_roundg (n - (k + 1))
          case measure => omega
          case rel => exact ⟨k + 1, acc ++ ie, by rw [Int.natCast_add]; rfl, by omega, ⟨kF, rows_own NE.out.1 (by rw [List.length_append, HKE.out.1, hl3]; omega) HKE.out.2.symm, nE⟩, by rw [HR.out.2.1, if_pos trivial, HIE.out], by rw [List.length_append]; omega⟩
        · have hk1' : (kind != 1) = true := by simpa using hk1
          have hnd : IntKind.u8.wrap (nn / 256) = nn / 256 := by rw [wrap_u8_mod]; omega
          have hnm : IntKind.u8.wrap nn = nn % 256 := wrap_u8_mod nn
          go_wp2_with (first
          | (
           go_at_call 18
           refine (hr _).mono ?_
           rintro e w1 ⟨rfl, h1⟩
           have hb1 := h1.get (heap_alloc_eq wr _) (fun q => q)
           have d0 := cell_blk hb1 0
           have d1 := cell_blk hb1 1
           have d2 := cell_blk hb1 2
           have d3 := cell_blk hb1 3
           have d4 := cell_blk hb1 4
           have d5 := cell_blk hb1 5
           have d6 := cell_blk hb1 6
           have d7 := cell_blk hb1 7
           have d8 := cell_blk hb1 8
           have d9 := cell_blk hb1 9
           have d10 := cell_blk hb1 10
           have d11 := cell_blk hb1 11
           simp only [List.getElem?_toArray, List.getElem?_cons_zero, List.getElem?_cons_succ] at d0 d1 d2 d3 d4 d5 d6 d7 d8 d9 d10 d11
           have W1 := Lib.hid (And.intro ((Keep.alloc wr _ (fun _ => False)).trans h1 (fun _ q => q.elim)) hb1)
           clear h1 hb1 hr)
          | (
           at_builtin
           refine law_append_row rfl _ _ _ rfl Try.underlying22 HI.out.1 HI.out.2.1 HI.out.2.2.1 (by rw [HI.out.2.2.2]; decide) rfl (by decide) rfl (rows_keep HO.out (W1.out.1.trans (Keep.alloc w1 (.cells #[.int .u8 kind] 5) (fun _ => False)) (fun _ q => q.elim)) (fun _ _ z => z)) [.int .u8 kind] rfl rfl (.inr ⟨_, rfl, cells_new _ _ _⟩) (by intro u hu; rw [List.mem_singleton.1 hu]; rfl) (by omega) ?_
           intro sa1 cp1 wA r1 r2 r3
           have hb2 := r2.get ((Keep.alloc w1 (.cells #[.int .u8 kind] 5) (fun _ => False)).get W1.out.2 (fun q => q)) (fun q => by have := HW.out.1.own.lt _ q.symm; omega)
           have f0 := cell_blk hb2 0
           have f1 := cell_blk hb2 1
           have f2 := cell_blk hb2 2
           have f3 := cell_blk hb2 3
           have f4 := cell_blk hb2 4
           have f5 := cell_blk hb2 5
           have f6 := cell_blk hb2 6
           have f7 := cell_blk hb2 7
           have f8 := cell_blk hb2 8
           have f9 := cell_blk hb2 9
           have f10 := cell_blk hb2 10
           have f11 := cell_blk hb2 11
           simp only [List.getElem?_toArray, List.getElem?_cons_zero, List.getElem?_cons_succ] at f0 f1 f2 f3 f4 f5 f6 f7 f8 f9 f10 f11
           have NA := Lib.hid (And.intro r1 (And.intro r2 (And.intro r3 hb2)))
           clear r1 r2 r3 hb2 d0 d1 d2 d3 d4 d5 d6 d7 d8 d9 d10 d11)
          | (
           at_builtin
           refine law_append_row rfl _ _ _ rfl Try.underlying22 HI.out.1 HI.out.2.1 HI.out.2.2.1 (by rw [HI.out.2.2.2]; decide) rfl (by decide) rfl (rows_keep NA.out.1 (Keep.alloc wA (.cells #[.int .u8 (nn / 256), .int .u8 (nn % 256)] 5) (fun _ => False)) (fun _ _ z => z)) [.int .u8 (nn / 256), .int .u8 (nn % 256)] rfl rfl (.inr ⟨_, rfl, cells_new _ _ _⟩) (by intro u hu; simp at hu; rcases hu with rfl | rfl <;> rfl) (by omega) ?_
           intro sa2 cp2 wB r1 r2 r3
           have NB := Lib.hid (And.intro r1 (And.intro r2 r3))
           clear r1 r2 r3))
          have hkv : (acc ++ ie).map u8V = acc.map u8V ++ [.int .u8 kind] ++ [.int .u8 (nn / 256), .int .u8 (nn % 256)] := by
            rw [HIE.out]
            unfold ItemV.enc
            simp only
            rw [if_neg hk1, List.map_append, List.map_cons, be2_vals, show ((nn.toNat : Nat) : Int) = nn by omega, show nn / 256 % 256 = nn / 256 by omega]
            unfold u8V
            rw [byte_toNat, show ((kind.toNat % 256 : Nat) : Int) = kind by omega]
            simp
          have hil : ie.length = 3 := by
            rw [HIE.out]
            unfold ItemV.enc
            simp only
            rw [if_neg hk1]
            rfl
          have kA1 := Keep.alloc w1 (.cells #[.int .u8 kind] 5) (fun _ => False)
          have kA2 := Keep.alloc wA (.cells #[.int .u8 (nn / 256), .int .u8 (nn % 256)] 5) (fun _ => False)
          have hzz1 : (w1.alloc (.cells #[.int .u8 kind] 5)).heap.size = w1.heap.size + 1 := by simp
          have hzz2 : (wA.alloc (.cells #[.int .u8 (nn / 256), .int .u8 (nn % 256)] 5)).heap.size = wA.heap.size + 1 := by simp
          have s1 := W1.out.1.size
          have s0 := HW.out.1.keep.size
          have sA := NA.out.2.1.size
          have nA : ∀ b, (Value.slice sa1 (acc.length + 1) cp1).ownBlock = some b → w.heap.size ≤ b := fun b q => by
            rcases NA.out.2.2.1 b q with z | z
            · exact HW.out.1.new b z
            · omega
          have nB : ∀ b, (Value.slice sa2 (acc.length + 1 + 2) cp2).ownBlock = some b → w.heap.size ≤ b := fun b q => by
            rcases NB.out.2.2 b q with z | z
            · exact nA b z
            · omega
          have kF : Keep w wB (fun _ => False) := ((((HW.out.1.keep.trans W1.out.1 (fun _ q => q.elim)).trans kA1 (fun _ q => q.elim)).trans NA.out.2.1 (fun b q => .inr (HW.out.1.new b q.symm))).trans kA2 (fun _ q => q.elim)).trans NB.out.2.1 (fun b q => .inr (nA b q.symm))
          go_roundg (n - (k + 1))
          case measure => omega
          case rel => exact ⟨k + 1, acc ++ ie, by rw [Int.natCast_add]; rfl, by omega, ⟨kF, rows_own NB.out.1 (by rw [List.length_append, hil]) hkv.symm, nB⟩, by rw [HR.out.2.1, if_pos trivial, HIE.out], by rw [List.length_append]; omega⟩
      · have g0 : (R != 0) = true := by simpa using hz
        have HZ := Lib.hid hz
        clear hz hen hp hel
        go_wp2_with (
           go_at_call 18
           refine (hr _).mono ?_
           rintro e w1 ⟨rfl, h1⟩
           have hb1 := h1.get (heap_alloc_eq wr _) (fun q => q)
           have d0 := cell_blk hb1 0
           have d1 := cell_blk hb1 1
           have d2 := cell_blk hb1 2
           have d3 := cell_blk hb1 3
           have d4 := cell_blk hb1 4
           have d5 := cell_blk hb1 5
           have d6 := cell_blk hb1 6
           have d7 := cell_blk hb1 7
           have d8 := cell_blk hb1 8
           have d9 := cell_blk hb1 9
           have d10 := cell_blk hb1 10
           have d11 := cell_blk hb1 11
           simp only [List.getElem?_toArray, List.getElem?_cons_zero, List.getElem?_cons_succ] at d0 d1 d2 d3 d4 d5 d6 d7 d8 d9 d10 d11
           have W1 := Lib.hid (And.intro ((Keep.alloc wr _ (fun _ => False)).trans h1 (fun _ q => q.elim)) hb1)
           clear h1 hb1 hr)
        refine bodyPost_ret (results_tmp2 rfl _ _ _) rfl ⟨.slice none 0 0, ?_, ?_, HW.out.1.keep.trans W1.out.1 (fun _ q => q.elim), fun b q => by simp [Value.ownBlock] at q⟩
        · have : E = ([], R) := by rw [HR.out.2.1, if_neg HZ.out]
          rw [this]; rfl
        · have : E = ([], R) := by rw [HR.out.2.1, if_neg HZ.out]
          rw [this]; exact rows_nil _ _ _
    · have hlt' : ¬ (k : Int) < (n : Int) := by omega
      have hd : L.drop k = [] := List.drop_eq_nil_of_le (by rw [HN.out]; omega)
      rw [hd] at hEE
      have HEE := Lib.hid hEE
      clear hEE hd
      go_wp2
      refine bodyPost_ret (results_tmp2 rfl _ _ _) rfl ⟨.slice sa acc.length cp, ?_, ?_, hW.keep, hW.new⟩
      · rw [HEE.out]; rfl
      · rw [HEE.out]; exact hW.own

end Go.Proofs.Ytmokbgihpfnmbaa
