/-
  ScriptCuts: bytes that are cut off give the first items.
-/
import Derived.Test.YtmokbgihpfnmbaaItemsP
import Derived.Test.YtmokbgihpfnmbaaWithin
import Derived.Deep.RegionHeld3
import Derived.Below
namespace Go.Proofs.Ytmokbgihpfnmbaa
open Go Go.RowKit
set_option linter.unusedSectionVars false
set_option linter.unusedSimpArgs false
set_option linter.unusedVariables false

theorem ItemsIn.take {w : World} {a : Option Addr} {n cap : Nat} {L : List ItemV} (h : ItemsIn w (.slice a n cap) L) {j : Nat} (hj : j ≤ L.length) : ItemsIn w (.slice a j cap) (L.take j) := by
  obtain ⟨xs, h1, h2, a', cap', h3, h4, h5, h6⟩ := h
  simp only [Value.slice.injEq] at h3
  obtain ⟨rfl, _, rfl⟩ := h3
  have hl : (L.take j).length = j := by rw [List.length_take]; omega
  refine ⟨xs.take j, by rw [List.map_take, h1], fun x hx => h2 x (List.mem_of_mem_take hx), a, cap, by rw [hl], by rw [hl]; omega, h5, ?_⟩
  rcases h6 with h6 | ⟨b, off, e, hb, hc⟩
  · left; rw [h6]; simp
  · refine .inr ⟨b, off, e, hb, fun i u hi => hc i u ?_⟩
    rw [flat_take pairC 12 pairC_len] at hi
    exact take_get hi

theorem cuts_len {L : List ItemV} {B : Bs} (hr : ∀ i ∈ L, i.right = 0) (hl : L.length ≤ 20) (hB : B = L.flatMap ItemV.enc) : B.length ≤ 400000 := by
  have : ∀ M : List ItemV, (∀ i ∈ M, i.right = 0) → (M.flatMap ItemV.enc).length ≤ M.length * 20000 := by
    intro M
    induction M with
    | nil => intro _; simp
    | cons i M ih =>
      intro h
      rw [List.flatMap_cons, List.length_append, List.length_cons]
      have := ih (fun j hj => h j (List.mem_cons_of_mem _ hj))
      have := enc_len (h i (List.mem_cons_self ..))
      omega
  have := this L hr
  rw [hB]
  omega

/-- What the cut bytes are read as, as the law asks. -/
theorem cuts_say {L : List ItemV} (hr : ∀ i ∈ L, i.right = 0) (hl : L.length ≤ 20) {k : Nat} (hk : k ≤ (L.flatMap ItemV.enc).length) :
    ∃ (M : List ItemV) (j : Nat), decS 1024 ((L.flatMap ItemV.enc).take k) = M ∧ j ≤ L.length ∧ M.length ≤ j + 1 ∧ M.take j = L.take j ∧ (k < (L.flatMap ItemV.enc).length ∨ j = L.length) ∧
      ((M.length = j ∧ ∀ i, M[j - 1]? = some i → i.kind ≠ 0) ∨ (M.length = j + 1 ∧ ∀ i, M[j]? = some i → i.kind = 0)) := by
  have hkind : ∀ i ∈ L, i.kind ≠ 0 := fun i hi => by have := (right_parts (hr i hi)).1; omega
  by_cases hke : k = (L.flatMap ItemV.enc).length
  · have h := decS_encs hr 1024 [] (by omega)
    rw [List.append_nil, decS_nil, List.append_nil] at h
    refine ⟨L, L.length, by rw [hke, List.take_length]; exact h, Nat.le_refl _, by omega, rfl, .inr rfl, .inl ⟨rfl, fun i hi => hkind i (List.mem_of_getElem? hi)⟩⟩
  · rcases decS_cut hr 1024 k (by omega) hk with ⟨h1, _⟩ | ⟨n, h1, h2 | h2⟩
    · exact absurd h1 hke
    · have hn : (L.take n).length = n := by rw [List.length_take]; omega
      refine ⟨_, n, h2, by omega, by omega, by rw [List.take_take, Nat.min_self], .inl (by omega), .inl ⟨hn, fun i hi => hkind i (List.mem_of_mem_take (List.mem_of_getElem? hi))⟩⟩
    · have hn : (L.take n).length = n := by rw [List.length_take]; omega
      refine ⟨_, n, h2, by omega, by rw [List.length_append, hn]; simp, ?_, .inl (by omega), .inr ⟨by rw [List.length_append, hn]; rfl, fun i hi => ?_⟩⟩
      · rw [List.take_append_of_le_length (by omega), List.take_take, Nat.min_self]
      · rw [List.getElem?_append_right (by omega), hn, Nat.sub_self] at hi
        simp at hi
        rw [← hi]; rfl

set_option maxRecDepth 100000 in
set_option maxHeartbeats 8000000 in
theorem cuts_walk (a : Option Addr) (len cap : Nat) (cut : Int) (W : World) (h0 : ∃ L, ItemsIn W (.slice a len cap) L ∧ L.length = len ∧ ∀ i ∈ L, Lens i) (hcut0 : (Lit.int .i64 cut).wf = true) :
    Calls Try.prog 7 #[.slice a len cap, .int .i64 cut] W fun r w' => r = .returned (.bool true) ∧ Below W.heap.size W w' := by
  obtain ⟨L0, hI, hlen, hlens⟩ := h0
  obtain ⟨_, _, hv, hlc, hcm⟩ := hI.val
  simp only [Value.slice.injEq] at hv
  obtain ⟨-, -, rfl⟩ := hv
  rw [hlen] at hlc
  unfold maxLen at hcm
  obtain ⟨L, hL⟩ : ∃ L, L = L0.take 20 := ⟨_, rfl⟩
  have hn : L.length = min len 20 := by rw [hL, List.length_take]; omega
  have hIt : ItemsIn W (.slice a L.length cap) L := by
    have h := hI.take (j := L.length) (by omega)
    have e : L0.take L.length = L0.take 20 := by rw [List.take_eq_take_iff]; omega
    rw [e, ← hL] at h
    exact h
  have hl20 : L.length ≤ 20 := by omega
  have hlc2 : L.length ≤ cap := by omega
  have hs := senc_c hIt (fun i hi => hlens i (by rw [hL] at hi; exact List.mem_of_mem_take hi))
  have H := Lib.hid hIt
  have Hn := Lib.hid hn
  clear hI hlens hL hIt hlen hn
  go_enter Try.func7, Try.ntmps7
  go_upto_if 12 with (fail)
  go_cut [0] from 10 (fun s wc => s = .slice a L.length cap ∧ W = wc)
  case first =>
    by_cases h5 : 20 < len
    all_goals
      go_wp2
      go_meet
      case rel => exact ⟨by rw [Hn.out]; congr 1; omega, rfl⟩
  case rest =>
    obtain ⟨rfl, rfl⟩ := hcut
    obtain ⟨E, hE⟩ : ∃ E, E = encS L := ⟨_, rfl⟩
    rw [← hE] at hs
    have HE := Lib.hid hE
    clear hE
    by_cases hz : E.2 = 0
    · have hEB : encS L = (E.1, 0) := by rw [← HE.out, ← hz]
      obtain ⟨_, hright, hB⟩ := encS_inv hEB
      obtain ⟨B, hBB⟩ : ∃ B, B = E.1 := ⟨_, rfl⟩
      rw [hz, ← hBB] at hs
      rw [← hBB] at hB
      have HB := Lib.hid (And.intro hright hB)
      have hBl : B.length ≤ 400000 := cuts_len hright (by omega) hB
      clear hEB hright hB hBB hz
      go_wp2_with fail
      refine hs.mono ?_
      rintro e w1 ⟨v1, rfl, q1, q2, -⟩
      obtain ⟨a1, n1, cap1, rfl, rfl⟩ := q1.val
      have N1 := Lib.hid (And.intro q1 q2)
      clear hs q1 q2
      go_wp2_with fail
      have hwi := within_c w1 cut 0 (B.length : Int) (Int.le_refl _) (Int.natCast_nonneg _) (by omega)
      refine hwi.mono ?_
      rintro e w2 ⟨m, hm0, hm1, rfl, rfl⟩
      obtain ⟨k, rfl⟩ : ∃ k : Nat, m = (k : Int) := ⟨m.toNat, by omega⟩
      clear hwi
      have hkB : k ≤ B.length := by omega
      have hsay := cuts_say HB.out.1 (by omega) (k := k) (by rw [← HB.out.2]; exact hkB)
      rw [← HB.out.2] at hsay
      obtain ⟨M, j, hM, hj1, hj2, hj3, hj4, hj5⟩ := hsay
      have HS := Lib.hid (And.intro hM (And.intro hj1 (And.intro hj2 (And.intro hj3 (And.intro hj4 hj5)))))
      clear hM hj1 hj2 hj3 hj4 hj5
      go_upto_region 7 with (fail)
      go_cut [8] from 27 (fun s w3 => ∃ a3 cap3, s = .slice a3 M.length cap3 ∧ M.length ≤ cap3 ∧ cap3 ≤ maxLen ∧ RowKit.Hid (ItemsIn w3 s M ∧ Keep W w3 (fun _ => False)))
      case first =>
        rcases rows_val N1.out.1 with ⟨hnil, hB0⟩ | ⟨g, cp, hsome, hcp, -, hg⟩
        · simp only [Value.slice.injEq] at hnil
          obtain ⟨rfl, hl0, rfl⟩ := hnil
          have hBn : B = [] := List.length_eq_zero_iff.1 hl0
          subst hBn
          have hk0 : k = 0 := by simpa using hkB
          subst hk0
          have hdec := sdec_c (BSl.nil w1)
          have e0 : decS 1024 [] = M := by rw [← HS.out.1]; rfl
          rw [e0] at hdec
          go_wp2_with fail
          refine hdec.mono ?_
          rintro e w3 ⟨v3, rfl, q1, q2⟩
          obtain ⟨a3, cap3, rfl, hc3, hm3⟩ := q1.val
          have N3 := Lib.hid (And.intro q1 (N1.out.2.trans q2 (fun _ q => q.elim)))
          clear hdec q1 q2
          go_wp2
          go_meet
          case rel => exact ⟨_, _, rfl, hc3, hm3, N3⟩
        · simp only [Value.slice.injEq] at hsome
          obtain ⟨rfl, -, rfl⟩ := hsome
          have hcm1 : cap1 ≤ maxLen := by
            rcases N1.out.1.2 with ⟨e, _⟩ | ⟨g', cp', cur, e, _, _, _, hcm', _⟩
            · cases e
            · simp only [Value.slice.injEq] at e; rw [e.2.2]; exact hcm'
          have hbk : BSl w1 (.slice (some ⟨g, 0, none⟩) k cap1) (B.take k) := by
            refine .inr ⟨g, 0, cap1, by rw [List.length_take, Nat.min_eq_left hkB], by rw [List.length_take]; omega, hcm1, hg, fun i u hi => ?_⟩
            rw [Nat.zero_add]
            exact (rows_cell N1.out.1 (mapGet (f := u8V) (take_get hi))).1
          have hdec := sdec_c hbk
          rw [HS.out.1] at hdec
          have gk : (k : Int) ≤ (cap1 : Int) := by omega
          clear hbk hcm1
          go_wp2_with fail
          refine hdec.mono ?_
          rintro e w3 ⟨v3, rfl, q1, q2⟩
          obtain ⟨a3, cap3, rfl, hc3, hm3⟩ := q1.val
          have N3 := Lib.hid (And.intro q1 (N1.out.2.trans q2 (fun _ q => q.elim)))
          clear hdec q1 q2
          go_wp2
          go_meet
          case rel => exact ⟨_, _, rfl, hc3, hm3, N3⟩
      case rest =>
        obtain ⟨a3, cap3, rfl, hc3, hm3, N3⟩ := hcut
        obtain ⟨w3, hw3⟩ : ∃ w3, w3 = wc := ⟨_, rfl⟩
        subst hw3
        unfold maxLen at hm3
        go_upto_region 9 with (fail)
        go_cut [43] from 33 (fun s wc => s = .bool (decide (M.length = j + 1)) ∧ w3 = wc)
        case first =>
          rcases HS.out.2.2.2.2.2 with ⟨hml, hkk⟩ | ⟨hml, hkk⟩
          · by_cases hj0 : j = 0
            · have hM0 : M = [] := List.length_eq_zero_iff.1 (by omega)
              subst hM0
              go_wp2
              go_meet
              case rel => exact ⟨by simp [hj0], rfl⟩
            · obtain ⟨j', rfl⟩ : ∃ j', j = j' + 1 := ⟨j - 1, by omega⟩
              have hq := N3.out.1
              obtain ⟨b3, o3, x3, rfl, hx3, -, c3⟩ := hq.at (i := j') (by omega)
              have hk0 := hkk _ hx3
              have z3 := c3 0 _ rfl
              simp only [Nat.add_zero] at z3
              have hjj := HS.out.2.1
              have e1 : IntKind.i64.wrap ((M.length : Int) - 1) = (j' : Int) := by rw [show (M.length : Int) - 1 = j' by omega]; exact IntWalk.i64_in _ (by omega)
              have e2 : (0 : Int) < (M.length : Int) := by omega
              have e4 : (j' : Int) < (M.length : Int) := by omega
              have e5 : (x3.1.kind == 0) = false := by simpa using hk0
              clear c3 hq hx3
              go_wp2
              go_meet
              case rel => exact ⟨by simp [hml], rfl⟩
          · have hq := N3.out.1
            obtain ⟨b3, o3, x3, rfl, hx3, -, c3⟩ := hq.at (i := j) (by omega)
            have hk0 := hkk _ hx3
            have z3 := c3 0 _ rfl
            rw [hk0] at z3
            simp only [Nat.add_zero] at z3
            have hjj := HS.out.2.1
            have e1 : IntKind.i64.wrap ((M.length : Int) - 1) = (j : Int) := by rw [show (M.length : Int) - 1 = j by omega]; exact IntWalk.i64_in _ (by omega)
            have e2 : (0 : Int) < (M.length : Int) := by omega
            have e4 : (j : Int) < (M.length : Int) := by omega
            clear c3 hq hx3
            go_wp2
            go_meet
            case rel => exact ⟨by simp [hml], rfl⟩
        case rest =>
          obtain ⟨rfl, rfl⟩ := hcut
          have hjL := HS.out.2.1
          have hMj := HS.out.2.2.1
          have hjM : j ≤ M.length := by rcases HS.out.2.2.2.2.2 with ⟨h, _⟩ | ⟨h, _⟩ <;> omega
          go_upto_if 43 with (fail)
          go_cut [9] from 43 (fun s wc => s = .int .i64 (j : Int) ∧ w3 = wc)
          case first =>
            by_cases hq : M.length = j + 1
            · have e1 : IntKind.i64.wrap ((M.length : Int) - 1) = (j : Int) := by rw [show (M.length : Int) - 1 = j by omega]; exact IntWalk.i64_in _ (by omega)
              have e2 : decide (M.length = j + 1) = true := decide_eq_true hq
              rw [e2]
              clear hq e2
              go_wp2
              go_meet
              case rel => exact ⟨rfl, rfl⟩
            · have e2 : decide (M.length = j + 1) = false := decide_eq_false hq
              have Hq := Lib.hid (show M.length = j by omega)
              rw [e2]
              clear hq e2
              go_wp2
              go_meet
              case rel => exact ⟨by rw [Hq.out], rfl⟩
          case rest =>
            obtain ⟨rfl, rfl⟩ := hcut
            have hIm := N3.out.1.take (j := j) hjM
            have hIl := (H.out.take (j := j) hjL).aside N3.out.2
            rw [HS.out.2.2.2.1] at hIm
            have hki := fun (U : World) (kk : Keep w3 U (fun _ => False)) => kitems_c (hIm.aside kk) (hIl.aside kk)
            have f1 : (j : Int) ≤ (L.length : Int) := by omega
            have f2 : IntKind.i64.wrap ((j : Int) + 1) = (j : Int) + 1 := IntWalk.i64_in _ (by omega)
            have f3 : (M.length : Int) ≤ (j : Int) + 1 := by omega
            have f4 : (j : Int) ≤ (cap3 : Int) := by omega
            have f5 : (j : Int) ≤ (cap : Int) := by omega
            clear hIm hIl hMj hjM
            by_cases hkl : k < B.length
            · have f6 : (k : Int) < (B.length : Int) := by omega
              have f7 : decide ((k : Int) < (B.length : Int)) = true := decide_eq_true f6
              have f8 : decide (k < B.length) = true := decide_eq_true hkl
              go_wp2
              refine wp_region_held_drew (S := fun _ => True) (by kernel_rfl) trivial (fun _ => ?_)
              refine wpAnyH_take (i := 0) (v := ?_) rfl (by kernel_rfl) (by kernel_rfl) (by kernel_rfl) (fun _ _ _ h => h) (Or.inl ⟨by rfl, ?_⟩) trivial ?_
              rotate_left
              · intro w _; go_simp; try with_reducible rfl
              try simp only [Act.put, List.setIfInBounds_toArray, List.set_cons_zero, List.set_cons_succ, List.getElem_toArray, List.getElem_cons_zero, List.getElem_cons_succ]
              refine wpAnyH_take (i := 1) (v := ?_) rfl (by kernel_rfl) (by kernel_rfl) (by kernel_rfl) (fun _ _ _ h => h) (Or.inl ⟨by rfl, ?_⟩) trivial ?_
              rotate_left
              · intro w _; go_simp; try with_reducible rfl
              try simp only [Act.put, List.setIfInBounds_toArray, List.set_cons_zero, List.set_cons_succ, List.getElem_toArray, List.getElem_cons_zero, List.getElem_cons_succ]
              refine wpAnyH_take (i := 2) (v := ?_) rfl (by kernel_rfl) (by kernel_rfl) (by kernel_rfl) (fun _ _ _ h => h) (Or.inl ⟨by rfl, ?_⟩) trivial ?_
              rotate_left
              · intro w _; go_simp; try with_reducible rfl
              try simp only [Act.put, List.setIfInBounds_toArray, List.set_cons_zero, List.set_cons_succ, List.getElem_toArray, List.getElem_cons_zero, List.getElem_cons_succ]
              refine wpAnyH_take (i := 3) (v := ?_) rfl (by kernel_rfl) (by kernel_rfl) (by kernel_rfl) (fun _ _ _ h => h) (Or.inl ⟨by rfl, ?_⟩) trivial ?_
              rotate_left
              · intro w _; go_simp; try with_reducible rfl
              try simp only [Act.put, List.setIfInBounds_toArray, List.set_cons_zero, List.set_cons_succ, List.getElem_toArray, List.getElem_cons_zero, List.getElem_cons_succ]
              refine wpAnyH_take (i := 4) (v := ?_) rfl (by kernel_rfl) (by kernel_rfl) (by kernel_rfl) (fun _ _ _ h => h) (Or.inl ⟨by rfl, ?_⟩) trivial ?_
              rotate_left
              · intro w _; go_simp; try with_reducible rfl
              try simp only [Act.put, List.setIfInBounds_toArray, List.set_cons_zero, List.set_cons_succ, List.getElem_toArray, List.getElem_cons_zero, List.getElem_cons_succ]
              refine wpAnyH_take (i := 5) (v := ?_) rfl (by kernel_rfl) (by kernel_rfl) (by kernel_rfl) (fun _ _ _ h => h) (Or.inl ⟨by rfl, ?_⟩) trivial ?_
              rotate_left
              · intro w _; go_simp; try with_reducible rfl
              try simp only [Act.put, List.setIfInBounds_toArray, List.set_cons_zero, List.set_cons_succ, List.getElem_toArray, List.getElem_cons_zero, List.getElem_cons_succ]
              refine wpAnyH_take (i := 6) (v := ?_) rfl (by kernel_rfl) (by kernel_rfl) (by kernel_rfl) (fun _ _ _ h => h) (Or.inl ⟨by rfl, ?_⟩) trivial ?_
              rotate_left
              · intro w _; go_simp; try with_reducible rfl
              try simp only [Act.put, List.setIfInBounds_toArray, List.set_cons_zero, List.set_cons_succ, List.getElem_toArray, List.getElem_cons_zero, List.getElem_cons_succ]
              refine wpAnyH_take (i := 7) (v := ?_) rfl (by kernel_rfl) (by kernel_rfl) (by kernel_rfl) (fun _ _ _ h => h) (Or.inl ⟨by rfl, ?_⟩) trivial ?_
              rotate_left
              · intro w _; go_simp; try with_reducible rfl
              try simp only [Act.put, List.setIfInBounds_toArray, List.set_cons_zero, List.set_cons_succ, List.getElem_toArray, List.getElem_cons_zero, List.getElem_cons_succ]
              refine wpAnyH_take (i := 8) (v := ?_) rfl (by kernel_rfl) (by kernel_rfl) (by kernel_rfl) (fun _ _ _ h => h) (Or.inl ⟨by rfl, ?_⟩) trivial ?_
              rotate_left
              · intro w _; go_simp; try with_reducible rfl
              try simp only [Act.put, List.setIfInBounds_toArray, List.set_cons_zero, List.set_cons_succ, List.getElem_toArray, List.getElem_cons_zero, List.getElem_cons_succ]
              refine wpAnyH_take (i := 9) (v := ?_) rfl (by kernel_rfl) (by kernel_rfl) (by kernel_rfl) (fun _ _ _ h => h) (Or.inl ⟨by rfl, ?_⟩) trivial ?_
              rotate_left
              · intro w _; go_simp; try with_reducible rfl
              try simp only [Act.put, List.setIfInBounds_toArray, List.set_cons_zero, List.set_cons_succ, List.getElem_toArray, List.getElem_cons_zero, List.getElem_cons_succ]
              refine wpAnyH_take (i := 10) (v := ?_) rfl (by kernel_rfl) (by kernel_rfl) (by kernel_rfl) (fun _ _ _ h => h) (Or.inl ⟨by rfl, ?_⟩) trivial ?_
              rotate_left
              · intro w _; go_simp; try with_reducible rfl
              try simp only [Act.put, List.setIfInBounds_toArray, List.set_cons_zero, List.set_cons_succ, List.getElem_toArray, List.getElem_cons_zero, List.getElem_cons_succ]
              refine wpAnyH_take (i := 11) (v := ?_) rfl (by kernel_rfl) (by kernel_rfl) (by kernel_rfl) (fun _ _ _ h => h) (Or.inl ⟨by rfl, ?_⟩) trivial ?_
              rotate_left
              · intro w _; go_simp; try with_reducible rfl
              try simp only [Act.put, List.setIfInBounds_toArray, List.set_cons_zero, List.set_cons_succ, List.getElem_toArray, List.getElem_cons_zero, List.getElem_cons_succ]
              refine wpAnyH_take (i := 12) (v := ?_) rfl (by kernel_rfl) (by kernel_rfl) (by kernel_rfl) (fun _ _ _ h => h) (Or.inl ⟨by rfl, ?_⟩) trivial ?_
              rotate_left
              · intro w _; go_simp; try with_reducible rfl
              try simp only [Act.put, List.setIfInBounds_toArray, List.set_cons_zero, List.set_cons_succ, List.getElem_toArray, List.getElem_cons_zero, List.getElem_cons_succ]
              refine wpAnyH_take (i := 13) (v := ?_) rfl (by kernel_rfl) (by kernel_rfl) (by kernel_rfl) (fun _ _ _ h => h) (Or.inl ⟨by rfl, ?_⟩) trivial ?_
              rotate_left
              · intro w _; go_simp; try with_reducible rfl
              try simp only [Act.put, List.setIfInBounds_toArray, List.set_cons_zero, List.set_cons_succ, List.getElem_toArray, List.getElem_cons_zero, List.getElem_cons_succ]
              refine wpAnyH_take (i := 14) (v := ?_) rfl (by kernel_rfl) (by kernel_rfl) (by kernel_rfl) (fun _ _ _ h => h) (Or.inl ⟨by rfl, ?_⟩) trivial ?_
              rotate_left
              · intro w _; go_simp; try with_reducible rfl
              try simp only [Act.put, List.setIfInBounds_toArray, List.set_cons_zero, List.set_cons_succ, List.getElem_toArray, List.getElem_cons_zero, List.getElem_cons_succ]
              refine wpAnyH_take (i := 15) (v := ?_) rfl (by kernel_rfl) (by kernel_rfl) (by kernel_rfl) (fun _ _ _ h => h) (Or.inl ⟨by rfl, ?_⟩) trivial ?_
              rotate_left
              · intro w _; go_simp; try with_reducible rfl
              try simp only [Act.put, List.setIfInBounds_toArray, List.set_cons_zero, List.set_cons_succ, List.getElem_toArray, List.getElem_cons_zero, List.getElem_cons_succ]
              refine wpAnyH_take (i := 16) (v := ?_) rfl (by kernel_rfl) (by kernel_rfl) (by kernel_rfl) (fun _ _ _ h => h) (Or.inl ⟨by rfl, ?_⟩) trivial ?_
              rotate_left
              · intro w _; go_simp; try with_reducible rfl
              try simp only [Act.put, List.setIfInBounds_toArray, List.set_cons_zero, List.set_cons_succ, List.getElem_toArray, List.getElem_cons_zero, List.getElem_cons_succ]
              refine wpAnyH_take (i := 17) (v := ?_) rfl (by kernel_rfl) (by kernel_rfl) (by kernel_rfl) (fun _ _ _ h => h) (Or.inl ⟨by rfl, ?_⟩) trivial ?_
              rotate_left
              · intro w _; go_simp; try with_reducible rfl
              try simp only [Act.put, List.setIfInBounds_toArray, List.set_cons_zero, List.set_cons_succ, List.getElem_toArray, List.getElem_cons_zero, List.getElem_cons_succ]
              refine wpAnyH_ready (rs := [18]) (by kernel_rfl) (by simp) ?_
              refine AllReadyH.cons rfl (fun K hK => ?_) AllReadyH.nil
              go_simp
              refine (hki _ (by first | exact Keep.refl _ _ | exact Keep.drew _ _ | exact drewN_keep _ _ _)).mono ?_
              rintro e w4 ⟨rfl, q4⟩
              refine hK.out _ _ trivial (fun _ => ?_)
              clear hK K
              try simp only [Act.put, List.setIfInBounds_toArray, List.set_cons_zero, List.set_cons_succ, List.getElem_toArray, List.getElem_cons_zero, List.getElem_cons_succ]
              refine wpAnyH_take (i := 19) (v := ?_) rfl (by kernel_rfl) (by kernel_rfl) (by kernel_rfl) (fun _ _ _ h => h) (Or.inl ⟨by rfl, ?_⟩) trivial ?_
              rotate_left
              · intro w _; go_simp; try with_reducible rfl
              try simp only [Act.put, List.setIfInBounds_toArray, List.set_cons_zero, List.set_cons_succ, List.getElem_toArray, List.getElem_cons_zero, List.getElem_cons_succ]
              refine wpAnyH_take (i := 20) (v := ?_) rfl (by kernel_rfl) (by kernel_rfl) (by kernel_rfl) (fun _ _ _ h => h) (Or.inl ⟨by rfl, ?_⟩) trivial ?_
              rotate_left
              · intro w _; go_simp; try with_reducible rfl
              try simp only [Act.put, List.setIfInBounds_toArray, List.set_cons_zero, List.set_cons_succ, List.getElem_toArray, List.getElem_cons_zero, List.getElem_cons_succ]
              refine wpAnyH_take (i := 21) (v := ?_) rfl (by kernel_rfl) (by kernel_rfl) (by kernel_rfl) (fun _ _ _ h => h) (Or.inl ⟨by rfl, ?_⟩) trivial ?_
              rotate_left
              · intro w _; go_simp; try with_reducible rfl
              try simp only [Act.put, List.setIfInBounds_toArray, List.set_cons_zero, List.set_cons_succ, List.getElem_toArray, List.getElem_cons_zero, List.getElem_cons_succ]
              refine wpAnyH_take (i := 22) (v := ?_) rfl (by kernel_rfl) (by kernel_rfl) (by kernel_rfl) (fun _ _ _ h => h) (Or.inl ⟨by rfl, ?_⟩) trivial ?_
              rotate_left
              · intro w _; go_simp; try with_reducible rfl
              try simp only [Act.put, List.setIfInBounds_toArray, List.set_cons_zero, List.set_cons_succ, List.getElem_toArray, List.getElem_cons_zero, List.getElem_cons_succ]
              refine wpAnyH_take (i := 23) (v := ?_) rfl (by kernel_rfl) (by kernel_rfl) (by kernel_rfl) (fun _ _ _ h => h) (Or.inl ⟨by rfl, ?_⟩) trivial ?_
              rotate_left
              · intro w _; go_simp; try with_reducible rfl
              try simp only [Act.put, List.setIfInBounds_toArray, List.set_cons_zero, List.set_cons_succ, List.getElem_toArray, List.getElem_cons_zero, List.getElem_cons_succ]
              refine wpAnyH_take (i := 24) (v := ?_) rfl (by kernel_rfl) (by kernel_rfl) (by kernel_rfl) (fun _ _ _ h => h) (Or.inl ⟨by rfl, ?_⟩) trivial ?_
              rotate_left
              · intro w _; go_simp; try with_reducible rfl
              try simp only [Act.put, List.setIfInBounds_toArray, List.set_cons_zero, List.set_cons_succ, List.getElem_toArray, List.getElem_cons_zero, List.getElem_cons_succ]
              refine wpAnyH_take (i := 25) (v := ?_) rfl (by kernel_rfl) (by kernel_rfl) (by kernel_rfl) (fun _ _ _ h => h) (Or.inl ⟨by rfl, ?_⟩) trivial ?_
              rotate_left
              · intro w _; go_simp; try with_reducible rfl
              try simp only [Act.put, List.setIfInBounds_toArray, List.set_cons_zero, List.set_cons_succ, List.getElem_toArray, List.getElem_cons_zero, List.getElem_cons_succ]
              refine wpAnyH_take (i := 26) (v := undef) rfl (by kernel_rfl) (by kernel_rfl) (by kernel_rfl) (fun _ _ _ h => h) (Or.inr ⟨by rfl, rfl⟩) trivial ?_
              try simp only [Act.put, List.setIfInBounds_toArray, List.set_cons_zero, List.set_cons_succ, List.getElem_toArray, List.getElem_cons_zero, List.getElem_cons_succ]
              refine wpAnyH_take (i := 27) (v := undef) rfl (by kernel_rfl) (by kernel_rfl) (by kernel_rfl) (fun _ _ _ h => h) (Or.inr ⟨by rfl, rfl⟩) trivial ?_
              try simp only [Act.put, List.setIfInBounds_toArray, List.set_cons_zero, List.set_cons_succ, List.getElem_toArray, List.getElem_cons_zero, List.getElem_cons_succ]
              refine wpAnyH_take (i := 28) (v := undef) rfl (by kernel_rfl) (by kernel_rfl) (by kernel_rfl) (fun _ _ _ h => h) (Or.inr ⟨by rfl, rfl⟩) trivial ?_
              try simp only [Act.put, List.setIfInBounds_toArray, List.set_cons_zero, List.set_cons_succ, List.getElem_toArray, List.getElem_cons_zero, List.getElem_cons_succ]
              refine wpAnyH_take (i := 29) (v := undef) rfl (by kernel_rfl) (by kernel_rfl) (by kernel_rfl) (fun _ _ _ h => h) (Or.inr ⟨by rfl, rfl⟩) trivial ?_
              try simp only [Act.put, List.setIfInBounds_toArray, List.set_cons_zero, List.set_cons_succ, List.getElem_toArray, List.getElem_cons_zero, List.getElem_cons_succ]
              refine wpAnyH_take (i := 30) (v := ?_) rfl (by kernel_rfl) (by kernel_rfl) (by kernel_rfl) (fun _ _ _ h => h) (Or.inl ⟨by rfl, ?_⟩) trivial ?_
              rotate_left
              · intro w _; go_simp; try with_reducible rfl
              try simp only [Act.put, List.setIfInBounds_toArray, List.set_cons_zero, List.set_cons_succ, List.getElem_toArray, List.getElem_cons_zero, List.getElem_cons_succ]
              refine wpAnyH_take (i := 31) (v := ?_) rfl (by kernel_rfl) (by kernel_rfl) (by kernel_rfl) (fun _ _ _ h => h) (Or.inl ⟨by rfl, ?_⟩) trivial ?_
              rotate_left
              · intro w _; go_simp; try with_reducible rfl
              try simp only [Act.put, List.setIfInBounds_toArray, List.set_cons_zero, List.set_cons_succ, List.getElem_toArray, List.getElem_cons_zero, List.getElem_cons_succ]
              refine wpAnyH_take (i := 32) (v := ?_) rfl (by kernel_rfl) (by kernel_rfl) (by kernel_rfl) (fun _ _ _ h => h) (Or.inl ⟨by rfl, ?_⟩) trivial ?_
              rotate_left
              · intro w _; go_simp; try with_reducible rfl
              try simp only [Act.put, List.setIfInBounds_toArray, List.set_cons_zero, List.set_cons_succ, List.getElem_toArray, List.getElem_cons_zero, List.getElem_cons_succ]
              refine wpAnyH_ready (rs := [33]) (by kernel_rfl) (by simp) ?_
              refine AllReadyH.cons rfl (fun K hK => ?_) AllReadyH.nil
              go_simp
              refine (known_c _).mono ?_
              rintro e w5 ⟨rfl, q5⟩
              refine hK.out _ _ trivial (fun _ => ?_)
              clear hK K
              try simp only [Act.put, List.setIfInBounds_toArray, List.set_cons_zero, List.set_cons_succ, List.getElem_toArray, List.getElem_cons_zero, List.getElem_cons_succ]
              refine wpAnyH_take (i := 34) (v := ?_) rfl (by kernel_rfl) (by kernel_rfl) (by kernel_rfl) (fun _ _ _ h => h) (Or.inl ⟨by rfl, ?_⟩) trivial ?_
              rotate_left
              · intro w _; go_simp; try with_reducible rfl
              try simp only [Act.put, List.setIfInBounds_toArray, List.set_cons_zero, List.set_cons_succ, List.getElem_toArray, List.getElem_cons_zero, List.getElem_cons_succ]
              refine wpAnyH_take (i := 35) (v := ?_) rfl (by kernel_rfl) (by kernel_rfl) (by kernel_rfl) (fun _ _ _ h => h) (Or.inl ⟨by rfl, ?_⟩) trivial ?_
              rotate_left
              · intro w _; go_simp; try with_reducible rfl
              try simp only [Act.put, List.setIfInBounds_toArray, List.set_cons_zero, List.set_cons_succ, List.getElem_toArray, List.getElem_cons_zero, List.getElem_cons_succ]
              refine wpAnyH_done (by kernel_rfl) ?_ _
              go_wp2
              go_ret
              exact ⟨rfl, Keep.below (N3.out.2.trans ((Keep.drew w3 (fun _ => False)).trans (q4.trans q5 (fun _ q => q.elim)) (fun _ q => q.elim)) (fun _ q => q.elim)) (Nat.le_refl _) (fun b q => q.elim)⟩
            · have hjl : j = L.length := by rcases HS.out.2.2.2.2.1 with h | h; exact absurd h hkl; exact h
              subst hjl
              have g4 : L.length ≤ cap3 := by omega
              have g5 : L.length ≤ cap := by omega
              have f6 : ¬ (k : Int) < (B.length : Int) := by omega
              have f7 : decide ((k : Int) < (B.length : Int)) = false := decide_eq_false f6
              have f8 : decide (k < B.length) = false := decide_eq_false hkl
              go_wp2
              refine wp_region_held_drew (S := fun _ => True) (by kernel_rfl) trivial (fun _ => ?_)
              refine wpAnyH_take (i := 0) (v := ?_) rfl (by kernel_rfl) (by kernel_rfl) (by kernel_rfl) (fun _ _ _ h => h) (Or.inl ⟨by rfl, ?_⟩) trivial ?_
              rotate_left
              · intro w _; go_simp; try with_reducible rfl
              try simp only [Act.put, List.setIfInBounds_toArray, List.set_cons_zero, List.set_cons_succ, List.getElem_toArray, List.getElem_cons_zero, List.getElem_cons_succ]
              refine wpAnyH_take (i := 1) (v := ?_) rfl (by kernel_rfl) (by kernel_rfl) (by kernel_rfl) (fun _ _ _ h => h) (Or.inl ⟨by rfl, ?_⟩) trivial ?_
              rotate_left
              · intro w _; go_simp; try with_reducible rfl
              try simp only [Act.put, List.setIfInBounds_toArray, List.set_cons_zero, List.set_cons_succ, List.getElem_toArray, List.getElem_cons_zero, List.getElem_cons_succ]
              refine wpAnyH_take (i := 2) (v := ?_) rfl (by kernel_rfl) (by kernel_rfl) (by kernel_rfl) (fun _ _ _ h => h) (Or.inl ⟨by rfl, ?_⟩) trivial ?_
              rotate_left
              · intro w _; go_simp; try with_reducible rfl
              try simp only [Act.put, List.setIfInBounds_toArray, List.set_cons_zero, List.set_cons_succ, List.getElem_toArray, List.getElem_cons_zero, List.getElem_cons_succ]
              refine wpAnyH_take (i := 3) (v := ?_) rfl (by kernel_rfl) (by kernel_rfl) (by kernel_rfl) (fun _ _ _ h => h) (Or.inl ⟨by rfl, ?_⟩) trivial ?_
              rotate_left
              · intro w _; go_simp; try with_reducible rfl
              try simp only [Act.put, List.setIfInBounds_toArray, List.set_cons_zero, List.set_cons_succ, List.getElem_toArray, List.getElem_cons_zero, List.getElem_cons_succ]
              refine wpAnyH_take (i := 4) (v := ?_) rfl (by kernel_rfl) (by kernel_rfl) (by kernel_rfl) (fun _ _ _ h => h) (Or.inl ⟨by rfl, ?_⟩) trivial ?_
              rotate_left
              · intro w _; go_simp; try with_reducible rfl
              try simp only [Act.put, List.setIfInBounds_toArray, List.set_cons_zero, List.set_cons_succ, List.getElem_toArray, List.getElem_cons_zero, List.getElem_cons_succ]
              refine wpAnyH_take (i := 5) (v := ?_) rfl (by kernel_rfl) (by kernel_rfl) (by kernel_rfl) (fun _ _ _ h => h) (Or.inl ⟨by rfl, ?_⟩) trivial ?_
              rotate_left
              · intro w _; go_simp; try with_reducible rfl
              try simp only [Act.put, List.setIfInBounds_toArray, List.set_cons_zero, List.set_cons_succ, List.getElem_toArray, List.getElem_cons_zero, List.getElem_cons_succ]
              refine wpAnyH_take (i := 6) (v := ?_) rfl (by kernel_rfl) (by kernel_rfl) (by kernel_rfl) (fun _ _ _ h => h) (Or.inl ⟨by rfl, ?_⟩) trivial ?_
              rotate_left
              · intro w _; go_simp; try with_reducible rfl
              try simp only [Act.put, List.setIfInBounds_toArray, List.set_cons_zero, List.set_cons_succ, List.getElem_toArray, List.getElem_cons_zero, List.getElem_cons_succ]
              refine wpAnyH_take (i := 7) (v := ?_) rfl (by kernel_rfl) (by kernel_rfl) (by kernel_rfl) (fun _ _ _ h => h) (Or.inl ⟨by rfl, ?_⟩) trivial ?_
              rotate_left
              · intro w _; go_simp; try with_reducible rfl
              try simp only [Act.put, List.setIfInBounds_toArray, List.set_cons_zero, List.set_cons_succ, List.getElem_toArray, List.getElem_cons_zero, List.getElem_cons_succ]
              refine wpAnyH_take (i := 8) (v := ?_) rfl (by kernel_rfl) (by kernel_rfl) (by kernel_rfl) (fun _ _ _ h => h) (Or.inl ⟨by rfl, ?_⟩) trivial ?_
              rotate_left
              · intro w _; go_simp; try with_reducible rfl
              try simp only [Act.put, List.setIfInBounds_toArray, List.set_cons_zero, List.set_cons_succ, List.getElem_toArray, List.getElem_cons_zero, List.getElem_cons_succ]
              refine wpAnyH_take (i := 9) (v := ?_) rfl (by kernel_rfl) (by kernel_rfl) (by kernel_rfl) (fun _ _ _ h => h) (Or.inl ⟨by rfl, ?_⟩) trivial ?_
              rotate_left
              · intro w _; go_simp; try with_reducible rfl
              try simp only [Act.put, List.setIfInBounds_toArray, List.set_cons_zero, List.set_cons_succ, List.getElem_toArray, List.getElem_cons_zero, List.getElem_cons_succ]
              refine wpAnyH_take (i := 10) (v := ?_) rfl (by kernel_rfl) (by kernel_rfl) (by kernel_rfl) (fun _ _ _ h => h) (Or.inl ⟨by rfl, ?_⟩) trivial ?_
              rotate_left
              · intro w _; go_simp; try with_reducible rfl
              try simp only [Act.put, List.setIfInBounds_toArray, List.set_cons_zero, List.set_cons_succ, List.getElem_toArray, List.getElem_cons_zero, List.getElem_cons_succ]
              refine wpAnyH_take (i := 11) (v := ?_) rfl (by kernel_rfl) (by kernel_rfl) (by kernel_rfl) (fun _ _ _ h => h) (Or.inl ⟨by rfl, ?_⟩) trivial ?_
              rotate_left
              · intro w _; go_simp; try with_reducible rfl
              try simp only [Act.put, List.setIfInBounds_toArray, List.set_cons_zero, List.set_cons_succ, List.getElem_toArray, List.getElem_cons_zero, List.getElem_cons_succ]
              refine wpAnyH_take (i := 12) (v := ?_) rfl (by kernel_rfl) (by kernel_rfl) (by kernel_rfl) (fun _ _ _ h => h) (Or.inl ⟨by rfl, ?_⟩) trivial ?_
              rotate_left
              · intro w _; go_simp; try with_reducible rfl
              try simp only [Act.put, List.setIfInBounds_toArray, List.set_cons_zero, List.set_cons_succ, List.getElem_toArray, List.getElem_cons_zero, List.getElem_cons_succ]
              refine wpAnyH_take (i := 13) (v := ?_) rfl (by kernel_rfl) (by kernel_rfl) (by kernel_rfl) (fun _ _ _ h => h) (Or.inl ⟨by rfl, ?_⟩) trivial ?_
              rotate_left
              · intro w _; go_simp; try with_reducible rfl
              try simp only [Act.put, List.setIfInBounds_toArray, List.set_cons_zero, List.set_cons_succ, List.getElem_toArray, List.getElem_cons_zero, List.getElem_cons_succ]
              refine wpAnyH_take (i := 14) (v := ?_) rfl (by kernel_rfl) (by kernel_rfl) (by kernel_rfl) (fun _ _ _ h => h) (Or.inl ⟨by rfl, ?_⟩) trivial ?_
              rotate_left
              · intro w _; go_simp; try with_reducible rfl
              try simp only [Act.put, List.setIfInBounds_toArray, List.set_cons_zero, List.set_cons_succ, List.getElem_toArray, List.getElem_cons_zero, List.getElem_cons_succ]
              refine wpAnyH_take (i := 15) (v := ?_) rfl (by kernel_rfl) (by kernel_rfl) (by kernel_rfl) (fun _ _ _ h => h) (Or.inl ⟨by rfl, ?_⟩) trivial ?_
              rotate_left
              · intro w _; go_simp; try with_reducible rfl
              try simp only [Act.put, List.setIfInBounds_toArray, List.set_cons_zero, List.set_cons_succ, List.getElem_toArray, List.getElem_cons_zero, List.getElem_cons_succ]
              refine wpAnyH_take (i := 16) (v := ?_) rfl (by kernel_rfl) (by kernel_rfl) (by kernel_rfl) (fun _ _ _ h => h) (Or.inl ⟨by rfl, ?_⟩) trivial ?_
              rotate_left
              · intro w _; go_simp; try with_reducible rfl
              try simp only [Act.put, List.setIfInBounds_toArray, List.set_cons_zero, List.set_cons_succ, List.getElem_toArray, List.getElem_cons_zero, List.getElem_cons_succ]
              refine wpAnyH_take (i := 17) (v := ?_) rfl (by kernel_rfl) (by kernel_rfl) (by kernel_rfl) (fun _ _ _ h => h) (Or.inl ⟨by rfl, ?_⟩) trivial ?_
              rotate_left
              · intro w _; go_simp; try with_reducible rfl
              try simp only [Act.put, List.setIfInBounds_toArray, List.set_cons_zero, List.set_cons_succ, List.getElem_toArray, List.getElem_cons_zero, List.getElem_cons_succ]
              refine wpAnyH_ready (rs := [18]) (by kernel_rfl) (by simp) ?_
              refine AllReadyH.cons rfl (fun K hK => ?_) AllReadyH.nil
              go_simp
              refine (hki _ (by first | exact Keep.refl _ _ | exact Keep.drew _ _ | exact drewN_keep _ _ _)).mono ?_
              rintro e w4 ⟨rfl, q4⟩
              refine hK.out _ _ trivial (fun _ => ?_)
              clear hK K
              try simp only [Act.put, List.setIfInBounds_toArray, List.set_cons_zero, List.set_cons_succ, List.getElem_toArray, List.getElem_cons_zero, List.getElem_cons_succ]
              refine wpAnyH_take (i := 19) (v := ?_) rfl (by kernel_rfl) (by kernel_rfl) (by kernel_rfl) (fun _ _ _ h => h) (Or.inl ⟨by rfl, ?_⟩) trivial ?_
              rotate_left
              · intro w _; go_simp; try with_reducible rfl
              try simp only [Act.put, List.setIfInBounds_toArray, List.set_cons_zero, List.set_cons_succ, List.getElem_toArray, List.getElem_cons_zero, List.getElem_cons_succ]
              refine wpAnyH_take (i := 20) (v := ?_) rfl (by kernel_rfl) (by kernel_rfl) (by kernel_rfl) (fun _ _ _ h => h) (Or.inl ⟨by rfl, ?_⟩) trivial ?_
              rotate_left
              · intro w _; go_simp; try with_reducible rfl
              try simp only [Act.put, List.setIfInBounds_toArray, List.set_cons_zero, List.set_cons_succ, List.getElem_toArray, List.getElem_cons_zero, List.getElem_cons_succ]
              refine wpAnyH_take (i := 21) (v := ?_) rfl (by kernel_rfl) (by kernel_rfl) (by kernel_rfl) (fun _ _ _ h => h) (Or.inl ⟨by rfl, ?_⟩) trivial ?_
              rotate_left
              · intro w _; go_simp; try with_reducible rfl
              try simp only [Act.put, List.setIfInBounds_toArray, List.set_cons_zero, List.set_cons_succ, List.getElem_toArray, List.getElem_cons_zero, List.getElem_cons_succ]
              refine wpAnyH_take (i := 22) (v := ?_) rfl (by kernel_rfl) (by kernel_rfl) (by kernel_rfl) (fun _ _ _ h => h) (Or.inl ⟨by rfl, ?_⟩) trivial ?_
              rotate_left
              · intro w _; go_simp; try with_reducible rfl
              try simp only [Act.put, List.setIfInBounds_toArray, List.set_cons_zero, List.set_cons_succ, List.getElem_toArray, List.getElem_cons_zero, List.getElem_cons_succ]
              refine wpAnyH_take (i := 23) (v := ?_) rfl (by kernel_rfl) (by kernel_rfl) (by kernel_rfl) (fun _ _ _ h => h) (Or.inl ⟨by rfl, ?_⟩) trivial ?_
              rotate_left
              · intro w _; go_simp; try with_reducible rfl
              try simp only [Act.put, List.setIfInBounds_toArray, List.set_cons_zero, List.set_cons_succ, List.getElem_toArray, List.getElem_cons_zero, List.getElem_cons_succ]
              refine wpAnyH_take (i := 24) (v := ?_) rfl (by kernel_rfl) (by kernel_rfl) (by kernel_rfl) (fun _ _ _ h => h) (Or.inl ⟨by rfl, ?_⟩) trivial ?_
              rotate_left
              · intro w _; go_simp; try with_reducible rfl
              try simp only [Act.put, List.setIfInBounds_toArray, List.set_cons_zero, List.set_cons_succ, List.getElem_toArray, List.getElem_cons_zero, List.getElem_cons_succ]
              refine wpAnyH_take (i := 25) (v := ?_) rfl (by kernel_rfl) (by kernel_rfl) (by kernel_rfl) (fun _ _ _ h => h) (Or.inl ⟨by rfl, ?_⟩) trivial ?_
              rotate_left
              · intro w _; go_simp; try with_reducible rfl
              try simp only [Act.put, List.setIfInBounds_toArray, List.set_cons_zero, List.set_cons_succ, List.getElem_toArray, List.getElem_cons_zero, List.getElem_cons_succ]
              refine wpAnyH_take (i := 26) (v := ?_) rfl (by kernel_rfl) (by kernel_rfl) (by kernel_rfl) (fun _ _ _ h => h) (Or.inl ⟨by rfl, ?_⟩) trivial ?_
              rotate_left
              · intro w _; go_simp; try with_reducible rfl
              try simp only [Act.put, List.setIfInBounds_toArray, List.set_cons_zero, List.set_cons_succ, List.getElem_toArray, List.getElem_cons_zero, List.getElem_cons_succ]
              refine wpAnyH_take (i := 27) (v := ?_) rfl (by kernel_rfl) (by kernel_rfl) (by kernel_rfl) (fun _ _ _ h => h) (Or.inl ⟨by rfl, ?_⟩) trivial ?_
              rotate_left
              · intro w _; go_simp; try with_reducible rfl
              try simp only [Act.put, List.setIfInBounds_toArray, List.set_cons_zero, List.set_cons_succ, List.getElem_toArray, List.getElem_cons_zero, List.getElem_cons_succ]
              refine wpAnyH_take (i := 28) (v := ?_) rfl (by kernel_rfl) (by kernel_rfl) (by kernel_rfl) (fun _ _ _ h => h) (Or.inl ⟨by rfl, ?_⟩) trivial ?_
              rotate_left
              · intro w _; go_simp; try with_reducible rfl
              try simp only [Act.put, List.setIfInBounds_toArray, List.set_cons_zero, List.set_cons_succ, List.getElem_toArray, List.getElem_cons_zero, List.getElem_cons_succ]
              refine wpAnyH_take (i := 29) (v := ?_) rfl (by kernel_rfl) (by kernel_rfl) (by kernel_rfl) (fun _ _ _ h => h) (Or.inl ⟨by rfl, ?_⟩) trivial ?_
              rotate_left
              · intro w _; go_simp; try with_reducible rfl
              try simp only [Act.put, List.setIfInBounds_toArray, List.set_cons_zero, List.set_cons_succ, List.getElem_toArray, List.getElem_cons_zero, List.getElem_cons_succ]
              refine wpAnyH_take (i := 30) (v := ?_) rfl (by kernel_rfl) (by kernel_rfl) (by kernel_rfl) (fun _ _ _ h => h) (Or.inl ⟨by rfl, ?_⟩) trivial ?_
              rotate_left
              · intro w _; go_simp; try with_reducible rfl
              try simp only [Act.put, List.setIfInBounds_toArray, List.set_cons_zero, List.set_cons_succ, List.getElem_toArray, List.getElem_cons_zero, List.getElem_cons_succ]
              refine wpAnyH_take (i := 31) (v := ?_) rfl (by kernel_rfl) (by kernel_rfl) (by kernel_rfl) (fun _ _ _ h => h) (Or.inl ⟨by rfl, ?_⟩) trivial ?_
              rotate_left
              · intro w _; go_simp; try with_reducible rfl
              try simp only [Act.put, List.setIfInBounds_toArray, List.set_cons_zero, List.set_cons_succ, List.getElem_toArray, List.getElem_cons_zero, List.getElem_cons_succ]
              refine wpAnyH_take (i := 32) (v := ?_) rfl (by kernel_rfl) (by kernel_rfl) (by kernel_rfl) (fun _ _ _ h => h) (Or.inl ⟨by rfl, ?_⟩) trivial ?_
              rotate_left
              · intro w _; go_simp; try with_reducible rfl
              try simp only [Act.put, List.setIfInBounds_toArray, List.set_cons_zero, List.set_cons_succ, List.getElem_toArray, List.getElem_cons_zero, List.getElem_cons_succ]
              refine wpAnyH_ready (rs := [33]) (by kernel_rfl) (by simp) ?_
              refine AllReadyH.cons rfl (fun K hK => ?_) AllReadyH.nil
              go_simp
              refine (known_c _).mono ?_
              rintro e w5 ⟨rfl, q5⟩
              refine hK.out _ _ trivial (fun _ => ?_)
              clear hK K
              try simp only [Act.put, List.setIfInBounds_toArray, List.set_cons_zero, List.set_cons_succ, List.getElem_toArray, List.getElem_cons_zero, List.getElem_cons_succ]
              refine wpAnyH_take (i := 34) (v := ?_) rfl (by kernel_rfl) (by kernel_rfl) (by kernel_rfl) (fun _ _ _ h => h) (Or.inl ⟨by rfl, ?_⟩) trivial ?_
              rotate_left
              · intro w _; go_simp; try with_reducible rfl
              try simp only [Act.put, List.setIfInBounds_toArray, List.set_cons_zero, List.set_cons_succ, List.getElem_toArray, List.getElem_cons_zero, List.getElem_cons_succ]
              refine wpAnyH_take (i := 35) (v := ?_) rfl (by kernel_rfl) (by kernel_rfl) (by kernel_rfl) (fun _ _ _ h => h) (Or.inl ⟨by rfl, ?_⟩) trivial ?_
              rotate_left
              · intro w _; go_simp; try with_reducible rfl
              try simp only [Act.put, List.setIfInBounds_toArray, List.set_cons_zero, List.set_cons_succ, List.getElem_toArray, List.getElem_cons_zero, List.getElem_cons_succ]
              refine wpAnyH_done (by kernel_rfl) ?_ _
              go_wp2
              go_ret
              exact ⟨rfl, Keep.below (N3.out.2.trans ((Keep.drew w3 (fun _ => False)).trans (q4.trans q5 (fun _ q => q.elim)) (fun _ q => q.elim)) (fun _ q => q.elim)) (Nat.le_refl _) (fun b q => q.elim)⟩
    · go_wp2_with fail
      refine hs.mono ?_
      rintro e w1 ⟨v1, rfl, q1, q2, -⟩
      have e1 : (E.2 == 0) = false := by simpa using hz
      go_wp2_with (first
        | (go_at_call 16
           refine (known_c _).mono ?_
           rintro e w5 ⟨rfl, q5⟩))
      go_ret
      exact ⟨rfl, Keep.below (q2.trans q5 (fun _ q => q.elim)) (Nat.le_refl _) (fun b q => q.elim)⟩

end Go.Proofs.Ytmokbgihpfnmbaa
