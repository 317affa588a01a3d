/-
  ScriptNumbers: chapter 17's runs.
-/
import Derived.Test.YtmokbgihpfnmbaaSKnown
import Derived.Laws.MakeOwn
import Derived.Laws.OwnMore
import Derived.Below
namespace Go.Proofs.Ytmokbgihpfnmbaa
open Go Go.RowKit
set_option linter.unusedSectionVars false
set_option linter.unusedSimpArgs false
set_option linter.unusedVariables false

theorem senc_many (w : World) (a : Option Addr) (n cap : Nat) (h : 1024 < n) (hc : n ≤ cap) (hm : cap ≤ 9223372036854775807) :
    Calls Try.prog 17 #[.slice a n cap] w fun r w' => r = .returned (.tuple #[.slice none 0 0, .int .i64 4]) ∧ w' = w := by
  have g1 : (1024 : Int) < (n : Int) := by omega
  go_enter Try.func17, Try.ntmps17
  go_wp2
  exact bodyPost_ret (results_tmp2 rfl _ _ _) rfl ⟨rfl, rfl⟩

section
variable {P : Program} {w : World} {ops : Array Oper} {rest : List Oper} {o : Oper} {a : Act} {Q : Exit → Act → World → Prop}
theorem law_mk (hg : o.guard = none) (l : Operand) (t : TypeId) (hop : o.op = .makeSlice t l l) {x v : Value} {w' : World} (hl : a.eval l = x) (hrun : (Instr.makeSlice t x x).run P w = .ok v w') (hK : wpList P ops Q rest (a.put o.dst v) w') : wpList P ops Q (o :: rest) a w := by
  refine wpList_plain hg fun K' hK' => ?_
  unfold Oper.wp
  simp only [execOp, hop, hl, Sem.run_bind, hrun, Result.andThen_ok, Sem.run_pure, Oper.upon_value]
  exact hK' _ _ hK
end

theorem decS_zeros (m : Nat) : ∀ n, m ≤ n → (decS m (List.replicate n 0)).length = m := by
  induction m with
  | zero => intro n _; rfl
  | succ m ih =>
    intro n h
    obtain ⟨k, rfl⟩ : ∃ k, n = k + 1 := ⟨n - 1, by omega⟩
    rw [decS, if_neg (by simp), List.replicate_succ, one_out (.inl (by decide))]
    simp only [List.length_cons, List.drop_succ_cons, List.drop_zero]
    rw [if_neg (by decide), ih k (by omega)]

abbrev callR : CallV := ⟨2, ⟨#[]⟩, ⟨#[]⟩, 0, 0, 0, 0, 0, []⟩
abbrev callM : CallV := ⟨1, ⟨#[]⟩, ⟨#[]⟩, 0, 0, 0, 0, 0, []⟩
abbrev b35 : Bs := [2, 1, 2, 3, 0, 0, 1, 7, 2, 0, 0, 0, 0, 0, 0, 0, 0, 0, 0, 0, 0, 0, 0, 0, 0, 0, 0, 0, 0, 0, 0, 0, 0, 0, 0]
abbrev xs1 : List ItemD := [((⟨2, 0, 258, CallV.none⟩ : ItemV), .slice none 0 0), (⟨3, 0, 0, CallV.none⟩, .slice none 0 0), (⟨1, 7, 0, callR⟩, .slice none 0 0)]

theorem sn1 : encS (xs1.map Prod.fst) = (b35, 0) := by kernel_rfl
theorem sn2 : ItemV.right ⟨2, 1, 0, CallV.none⟩ = 1 := by kernel_rfl
theorem sn3 : ItemV.right ⟨1, 0, 1, callM⟩ = 1 := by kernel_rfl
theorem sn4 : ItemV.right ⟨2, 0, 65536, CallV.none⟩ = 1 := by kernel_rfl
theorem sn5 : ItemV.right ⟨1, 0, 0, CallV.none⟩ = 1 := by kernel_rfl
theorem sn6 : encS [ItemV.none] = ([], 1) := by kernel_rfl
theorem sn7 : decS 1024 [3, 0] = [ItemV.none] := by kernel_rfl

theorem lens0 (i : ItemV) (h1 : i.call.path.size = 0) (h2 : i.call.to.size = 0) (h3 : i.call.data.length = 0) : Lens i := by
  unfold Lens; omega

set_option maxRecDepth 100000 in
set_option maxHeartbeats 8000000 in
theorem numbers_walk (w : World) : Calls Try.prog 4 #[] w fun r w' => r = .returned (.bool true) ∧ Below w.heap.size w w' := by
  have hs1 := senc_c (items_lit w xs1 (fun x hx => by simp [xs1] at hx; rcases hx with rfl | rfl | rfl <;> exact goodD_none _ _ rfl) rfl (m := 3) rfl (by decide) rfl) (fun i hi => by simp [xs1] at hi; rcases hi with rfl | rfl | rfl <;> exact lens0 _ rfl rfl rfl)
  rw [sn1] at hs1
  have hr1 := fun U => sright_c ⟨2, 1, 0, CallV.none⟩ none 0 U (lens0 _ rfl rfl rfl)
  have hr2 := fun U => sright_c ⟨1, 0, 1, callM⟩ none 0 U (lens0 _ rfl rfl rfl)
  have hr3 := fun U => sright_c ⟨2, 0, 65536, CallV.none⟩ none 0 U (lens0 _ rfl rfl rfl)
  have hr4 := fun U => sright_c ⟨1, 0, 0, CallV.none⟩ none 0 U (lens0 _ rfl rfl rfl)
  rw [sn2] at hr1
  rw [sn3] at hr2
  rw [sn4] at hr3
  rw [sn5] at hr4
  have hs3 := fun (U : World) (g : Nat) (hg : g = U.heap.size) => senc_c (items_lit U [(ItemV.none, .slice none 0 0)] (fun x hx => by simp at hx; subst hx; exact goodD_none _ _ rfl) rfl (m := 1) rfl (by decide) hg) (fun i hi => by simp at hi; subst hi; exact lens0 _ rfl rfl rfl)
  have sn6' : encS ([(ItemV.none, Value.slice none 0 0)].map Prod.fst) = ([], 1) := sn6
  rw [sn6'] at hs3
  have hd2 := fun U => sdec_c (bsl_lit U [3, 0] (cs := #[.int .u8 3, .int .u8 0]) rfl (m := 2) rfl (by decide) rfl)
  rw [sn7] at hd2
  have hz2000 : madeCells #[Value.int .u8 0] 2000 = ((List.replicate 2000 (0 : UInt8)).map u8V).toArray := by
    apply Array.toList_inj.1
    rw [toList_madeCells_one]
    simp [u8V]
  have hd1 := fun U => sdec_c (bsl_lit U (List.replicate 2000 0) (cs := madeCells #[Value.int .u8 0] 2000) hz2000 (m := 2000) (by simp) (by simp) rfl)
  obtain ⟨L8, hL8, hl8⟩ : ∃ L, decS 1024 (List.replicate 2000 0) = L ∧ L.length = 1024 := ⟨_, rfl, decS_zeros 1024 2000 (by omega)⟩
  rw [hL8] at hd1
  clear hL8
  obtain ⟨ui, ui1, ui2, ui3, ui4⟩ := u8_info
  obtain ⟨ti, ti1, ti2, ti3, ti4⟩ := item_info
  have hmk2 : ∀ U : World, (Instr.makeSlice 22 (.int .i64 2000) (.int .i64 2000)).run Try.prog U = .ok (.slice (some ⟨U.heap.size, 0, none⟩) 2000 2000) (U.alloc (.cells (madeCells #[.int .u8 0] 2000) 5)) := fun U => by
    have h := run_makeSlice (P := Try.prog) (w := U) 22 5 ui _ Try.underlying22 ui1 ui2 .i64 .i64 2000 2000 (by decide) (by decide) (by rw [ui3]; decide) (by rw [ui4]; decide) (by decide)
    rw [ui3] at h
    exact h
  have hmk1 : ∀ U : World, (Instr.makeSlice 23 (.int .i64 1025) (.int .i64 1025)).run Try.prog U = .ok (.slice (some ⟨U.heap.size, 0, none⟩) 1025 1025) (U.alloc (.cells (madeCells (itemA ItemV.none (.slice none 0 0)).cells 12300) 39)) := fun U => by
    have h := run_makeSlice (P := Try.prog) (w := U) 23 39 ti _ Try.underlying23 ti1 ti2 .i64 .i64 1025 1025 (by decide) (by decide) (by rw [ti3]; decide) (by omega) (by decide)
    rw [ti3] at h
    exact h
  have HMK := Lib.hid (And.intro hmk1 hmk2)
  clear hmk1 hmk2 ui1 ui2 ui3 ui4 ti1 ti2 ti3 ti4 hz2000
  generalize madeCells (itemA ItemV.none (.slice none 0 0)).cells 12300 = M1 at *
  generalize hM2 : madeCells #[Value.int .u8 0] 2000 = M2 at *
  clear hM2
  go_enter Try.func4, Try.ntmps4
  go_wp2_with fail
  refine hs1.mono ?_
  rintro e w1 ⟨v1, rfl, q1, q2, -⟩
  obtain ⟨a1, n1, cap1, rfl, hn1⟩ := q1.val
  obtain rfl : n1 = 35 := hn1
  obtain ⟨g, rfl, -, hcap1, -⟩ := rows_some q1 (by decide)
  have K1 := (Keep.alloc w _ (fun _ => False)).trans q2 (fun _ q => q.elim)
  have R1 := Lib.hid (And.intro q1 K1)
  clear hs1 q1 q2 K1
  go_wp2_with fail
  refine (hr1 _).mono ?_
  rintro e w2 ⟨rfl, k2⟩
  go_wp2_with fail
  refine (hr2 _).mono ?_
  rintro e w3 ⟨rfl, k3⟩
  go_wp2_with fail
  refine (hr3 _).mono ?_
  rintro e w4 ⟨rfl, k4⟩
  go_wp2_with fail
  refine (hr4 _).mono ?_
  rintro e w5 ⟨rfl, k5⟩
  have K5 := ((k2.trans k3 (fun _ q => q.elim)).trans k4 (fun _ q => q.elim)).trans k5 (fun _ q => q.elim)
  have R5 := Lib.hid K5
  clear hr1 hr2 hr3 hr4 k2 k3 k4 k5 K5
  go_wp2_with (
    refine law_mk rfl _ _ rfl rfl (HMK.out.1 _) ?_)
  refine (senc_many _ _ 1025 1025 (by omega) (by omega) (by omega)).mono ?_
  rintro e w6 ⟨rfl, rfl⟩
  go_wp2_with fail
  have k6 : Keep w5 (w5.alloc (.cells M1 39)) (fun _ => False) := Keep.alloc _ _ _
  refine (hs3 (w5.alloc (.cells M1 39)) (w5.heap.size + 1) (by simp)).mono ?_
  rintro e w7 ⟨v7, rfl, q1, q2, -⟩
  obtain ⟨a7, n7, cap7, rfl, -⟩ := q1.val
  have K7 := (k6.trans (Keep.alloc _ _ (fun _ => False)) (fun _ q => q.elim)).trans q2 (fun _ q => q.elim)
  have R7 := Lib.hid K7
  clear hs3 q1 q2 K7 k6
  go_wp2_with (
    refine law_mk rfl _ _ rfl rfl (HMK.out.2 _) ?_)
  refine (hd1 _).mono ?_
  rintro e w8 ⟨v8, rfl, q1, q2⟩
  obtain ⟨a8, cap8, hv8, -, -⟩ := q1.val
  rw [hl8] at hv8
  subst hv8
  have K8 := (Keep.alloc _ _ (fun _ => False)).trans q2 (fun _ q => q.elim)
  have R8 := Lib.hid K8
  clear hd1 q1 q2 K8
  go_wp2_with fail
  refine (hd2 _).mono ?_
  rintro e w9 ⟨v9, rfl, q1, q2⟩
  obtain ⟨a9, cap9, rfl, -, -⟩ := q1.val
  obtain ⟨b9, o9, x9, rfl, hx9, -, c9⟩ := q1.at (i := 0) (by decide)
  obtain ⟨i9, d9⟩ := x9
  simp only [List.getElem?_cons_zero, Option.some.injEq] at hx9
  subst hx9
  have z9 := c9 0 _ rfl
  simp only [Nat.zero_mul, Nat.add_zero] at z9
  have K9 := (Keep.alloc _ _ (fun _ => False)).trans q2 (fun _ q => q.elim)
  have KK := (R5.out.trans R7.out (fun _ q => q.elim)).trans (R8.out.trans K9 (fun _ q => q.elim)) (fun _ q => q.elim)
  have m1 := KK.cell (rows_cell R1.out.1 (j := 1) (u := .int .u8 1) rfl).1 (fun q => q)
  have m2 := KK.cell (rows_cell R1.out.1 (j := 2) (u := .int .u8 2) rfl).1 (fun q => q)
  have m7 := KK.cell (rows_cell R1.out.1 (j := 7) (u := .int .u8 7) rfl).1 (fun q => q)
  have R9 := Lib.hid (R1.out.2.trans KK (fun _ q => q.elim))
  clear hd2 q1 q2 K9 KK c9
  go_wp2_with (
    go_at_call 16
    refine (known_c _).mono ?_
    rintro e w10 ⟨rfl, k10⟩)
  go_ret
  exact ⟨rfl, Keep.below (R9.out.trans k10 (fun _ q => q.elim)) (Nat.le_refl _) (fun b q => q.elim)⟩

end Go.Proofs.Ytmokbgihpfnmbaa
