/-
  Some of chapter 16's runs (known).
-/
import Derived.Test.YtdbkkfhneafeiaaDoorShow0
import Derived.Test.YtdbkkfhneafeiaaDoorODec
namespace Go.Proofs.YtdbkkfhneafeiaaDoor
open Go Go.RowKit Go.Shelf
set_option linter.unusedSectionVars false
set_option linter.unusedSimpArgs false
set_option linter.unusedVariables false
set_option maxRecDepth 100000
attribute [local go_sem] Oper.semAt_some

def callK : CallV := ⟨1, ⟨#[47, 97, 32, 98]⟩, ⟨#[]⟩, 0, 0, 5, 0, 0, []⟩

theorem itoa5 : Lib.itoa 5 = [53] := by
  have h : Lib.itoa 5 = Lib.decDigits 5 := rfl
  rw [h, Lib.decDigits_one (by omega)]
  rfl
theorem itoa3 : Lib.itoa 3 = [51] := by
  have h : Lib.itoa 3 = Lib.decDigits 3 := rfl
  rw [h, Lib.decDigits_one (by omega)]
  rfl
theorem itoa32 : Lib.itoa 32 = [51, 50] := by
  have h : Lib.itoa 32 = Lib.decDigits 32 := rfl
  rw [h, Lib.decDigits_two (by omega) (by omega)]
  rfl

theorem textK : textP callK = [109, 107, 100, 105, 114, 32, 47, 97, 37, 50, 48, 98, 32, 109, 111, 100, 101, 61, 53] := by
  have h : textP callK = Lib.join [[109, 107, 100, 105, 114], [47, 97, 37, 50, 48, 98], [109, 111, 100, 101, 61] ++ Lib.itoa 5] [32] := rfl
  rw [h, itoa5]
  decide +kernel

theorem showK1 : Lib.join (showL 32 0 [] 0 0 0 0 0 0 0) [32] = [101, 114, 114, 111, 114, 32, 51, 50] := by
  have h : showL 32 0 [] 0 0 0 0 0 0 0 = [[101, 114, 114, 111, 114], Lib.itoa 32] := rfl
  rw [h, itoa32]
  decide +kernel

theorem showK2 : Lib.join (showL 0 3 [] 0 0 0 0 0 0 0) [32] = [111, 107, 32, 110, 61, 51] := by
  have h : showL 0 3 [] 0 0 0 0 0 0 0 = [[111, 107], [110, 61] ++ Lib.itoa 3] := rfl
  rw [h, itoa3]
  decide +kernel

set_option maxHeartbeats 4000000 in
theorem known_c (w : World) (ht : Tabs w) : Calls Tryd.prog 16 #[] w fun r w' => r = .returned (.bool true) ∧ Keep w w' (fun _ => False) := by
  have h1 : Calls Tryd.prog 12 #[.slice none 0 0] w fun r w' => ∃ (c : CallV) (v : Value), (∃ a cap, v = .slice a c.data.length cap) ∧ r = .returned (.tuple #[callA c v, .int .i64 0, .int .i64 10]) ∧ Keep w w' (fun _ => False) := by
    refine (odec_c (BSl.nil w)).mono ?_
    rintro e w' ⟨a, cap, rfl, -, k, -⟩
    exact ⟨_, _, ⟨a, cap, rfl⟩, rfl, k⟩
  have h2 : ∀ U, Tabs U → Calls Tryd.prog 17 #[.agg #[.int .i64 1, .string ⟨#[47, 97, 32, 98]⟩, .string ⟨#[]⟩, .int .i64 0, .int .i64 0, .int .i64 5, .int .i64 0, .int .i64 0, .slice none 0 0]] U fun r w' => r = .returned (.string ⟨#[109, 107, 100, 105, 114, 32, 47, 97, 37, 50, 48, 98, 32, 109, 111, 100, 101, 61, 53]⟩) ∧ Keep U w' (fun _ => False) := fun U t => by
    have h := text_c callK none 0 U t (.inl (BSl.nil U)) (by decide) (by decide)
    rw [textK] at h
    exact h
  have h3 : ∀ U, Tabs U → Calls Tryd.prog 20 #[.agg #[.int .i64 32, .int .i64 0, .slice none 0 0, .slice none 0 0, .int .i64 0, .int .i64 0, .int .i64 0, .int .i64 0, .int .i64 0, .int .i64 0, .int .i64 0]] U fun r w' => r = .returned (.string ⟨#[101, 114, 114, 111, 114, 32, 51, 50]⟩) ∧ Keep U w' (fun _ => False) := fun U t => by
    have h := show0_c 32 0 [] 0 0 0 0 0 0 0 none 0 U t (.inl (BSl.nil U)) (by decide) (by decide)
    rw [showK1] at h
    exact h
  have h4 : ∀ U, Tabs U → Calls Tryd.prog 20 #[.agg #[.int .i64 0, .int .i64 3, .slice none 0 0, .slice none 0 0, .int .i64 0, .int .i64 0, .int .i64 0, .int .i64 0, .int .i64 0, .int .i64 0, .int .i64 0]] U fun r w' => r = .returned (.string ⟨#[111, 107, 32, 110, 61, 51]⟩) ∧ Keep U w' (fun _ => False) := fun U t => by
    have h := show0_c 0 3 [] 0 0 0 0 0 0 0 none 0 U t (.inl (BSl.nil U)) (by decide) (by decide)
    rw [showK2] at h
    exact h
  have HT := Lib.hid ht
  clear ht
  go_enter Tryd.func16, Tryd.ntmps16
  go_wp2_with (first
    | (go_at_call 12
       with_reducible refine h1.mono ?_
       rintro e w1 ⟨c, v, ⟨a, cap, rfl⟩, rfl, hk1⟩
       unfold callA
       have k2 := fun o => hk1.trans (Keep.alloc w1 o (fun _ => False)) (fun _ q => q.elim)
       have K1 := Lib.hid k2
       clear hk1 k2)
    | (go_at_call 17
       refine (h2 _ (HT.out.keep (K1.out _))).mono ?_
       rintro e w2 ⟨rfl, hk2⟩
       have K2 := Lib.hid ((K1.out _).trans hk2 (fun _ q => q.elim))
       clear hk2)
    | (go_at_call 20
       with_reducible refine (h3 _ (HT.out.keep K2.out)).mono ?_
       rintro e w3 ⟨rfl, hk3⟩
       have K3 := Lib.hid (K2.out.trans hk3 (fun _ q => q.elim))
       clear hk3)
    | (go_at_call 20
       with_reducible refine (h4 _ (HT.out.keep K3.out)).mono ?_
       rintro e w4 ⟨rfl, hk4⟩
       have K4 := Lib.hid (K3.out.trans hk4 (fun _ q => q.elim))
       clear hk4))
  go_ret
  exact ⟨rfl, K4.out⟩

end Go.Proofs.YtdbkkfhneafeiaaDoor
