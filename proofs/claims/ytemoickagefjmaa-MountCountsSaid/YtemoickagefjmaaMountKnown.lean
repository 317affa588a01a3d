/-
  What the statements of layer 11 share: a table under way; known; the closed sentence.
-/
import Derived.Test.YtemoickagefjmaaMountBind
import Derived.Test.YtemoickagefjmaaMountCov
import Derived.Test.YtemoickagefjmaaSameN
import Derived.Test.YtemoickagefjmaaWithin
import Derived.Below
import Derived.Outline
namespace Go.Proofs.Ytemoickagefjmaa
open Go Go.RowKit Go.Shelf
set_option linter.unusedSectionVars false
set_option linter.unusedSimpArgs false
set_option linter.unusedVariables false
set_option maxRecDepth 100000

/-- A table that the walk has made. -/
structure MCur (W w : World) (tb : Nat) (S : Nat → Prop) (V : MountV) : Prop where
  tab : TableAt w tb S V
  keep : Keep W w (fun _ => False)
  new : ∀ b, S b → W.heap.size ≤ b

section
variable {W w w' : World} {tb : Nat} {S S' : Nat → Prop} {V V' : MountV}
theorem MCur.made (hk : Keep W w (fun _ => False)) (hp : TableAt w' tb S V) (ht : TurnM w (fun _ => False) w' S) : MCur W w' tb S V :=
  ⟨hp, hk.aside ht.keep, fun b q => (ht.new b q).elim (fun z => z.elim) (fun z => by have := hk.size; omega)⟩
theorem MCur.turn (c : MCur W w tb S V) (hp : TableAt w' tb S' V') (ht : TurnM w S w' S') : MCur W w' tb S' V' :=
  ⟨hp, c.keep.trans ht.keep (fun b q => .inr (c.new b q)), fun b q => (ht.new b q).elim (c.new b) (fun z => by have := c.keep.size; omega)⟩
theorem MCur.step (c : MCur W w tb S V) (hk : Keep w w' (fun _ => False)) : MCur W w' tb S V := ⟨c.tab.aside hk, c.keep.aside hk, c.new⟩
theorem MCur.below (c : MCur W w tb S V) : Below W.heap.size W w := c.keep.below (Nat.le_refl _) (fun b q => q.elim)
end

def K0 : MountV := MountV.new 1
def K1 : MountV := ⟨1, 1, [(0, ⟨1, 0, 0⟩), (1, ⟨5, 0, 2⟩)]⟩

theorem k1_bind : K0.bind 0 2 5 = (K1, 1, 0) := rfl
theorem k2_bind : K1.bind 0 2 6 = (K1, 0, 15) := rfl
theorem k1_up : K1.up 1 5 = (0, 2, true) := rfl
theorem k1_down : K1.down 0 2 = (1, 5) := rfl

set_option maxHeartbeats 2000000 in
theorem mknown_c (w : World) : Calls Try.prog 35 #[] w fun r w' => r = .returned (.bool true) ∧ Keep w w' (fun _ => False) := by
  have hnew := mnew_c w 1
  go_enter Try.func35, Try.ntmps35
  go_wp2_with (first
    | (go_at_call 30
       refine hnew.mono ?_
       rintro e w1 ⟨tb, S1, rfl, hp, ht⟩
       have C1 := Lib.hid (MCur.made (Keep.refl w _) hp ht)
       have h1 := mbind_c (V := K0) hp ⟨by decide, by decide⟩ (by decide) 0 2 5
       rw [k1_bind] at h1
       clear hp ht hnew)
    | (go_at_call 32
       refine h1.mono ?_
       rintro e w2 ⟨rfl, S2, hp, ht⟩
       have C2 := Lib.hid (C1.out.turn hp ht)
       have h2 := mbind_c (V := K1) hp ⟨by decide, by decide⟩ (by decide) 0 2 6
       rw [k2_bind] at h2
       clear hp ht h1)
    | (go_at_call 32
       refine h2.mono ?_
       rintro e w3 ⟨rfl, S3, hp, ht⟩
       have C3 := Lib.hid (C2.out.turn hp ht)
       have h3 := mup_c (V := K1) hp 1 5
       rw [k1_up] at h3
       clear hp ht h2)
    | (go_at_call 34
       refine h3.mono ?_
       rintro e w4 ⟨rfl, hk⟩
       have C4 := Lib.hid (C3.out.step hk)
       have c8 := fun w' (K : Keep w4 w' (fun _ => False)) => mdown_c (C4.out.step K).tab 0 2
       rw [k1_down] at c8
       clear hk h3)
    | (go_at_call 37
       refine (c8 _ (Keep.alloc _ _ _)).mono ?_
       rintro e w5 ⟨rfl, hk⟩
       have C5 := Lib.hid ((C4.out.step (Keep.alloc _ _ _)).step hk)
       have b9 := hk.get (heap_alloc_eq w4 _) (fun q => q)
       have p0 := cell_blk b9 0
       have p1 := cell_blk b9 1
       simp only [List.getElem?_toArray, List.getElem?_cons_zero, List.getElem?_cons_succ] at p0 p1
       clear hk c8 b9))
  go_ret
  exact ⟨rfl, C5.out.keep⟩

end Go.Proofs.Ytemoickagefjmaa
