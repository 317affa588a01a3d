/-
  MountNumbers: chapter 11's runs.
-/
import Derived.Test.YtemoickagefjmaaMountKnown
import Derived.Deep.CutRange
import Derived.Deep.CutBlock
import Derived.Deep.DeepCutAuto
namespace Go.Proofs.Ytemoickagefjmaa
open Go Go.RowKit Go.Shelf
set_option linter.unusedSectionVars false
set_option linter.unusedSimpArgs false
set_option linter.unusedVariables false
set_option maxRecDepth 100000

def K2 : MountV := ⟨2, 2, [(0, ⟨1, 0, 0⟩), (1, ⟨5, 0, 2⟩), (2, ⟨6, 1, 5⟩)]⟩
def KJ (j : Nat) : MountV := ⟨2 + j, 2 + j, K2.live ++ (List.range j).map fun (i : Nat) => ((3 + i : Int), (⟨3, 0, 10 + i⟩ : MntV))⟩
def K8 : MountV := ⟨7, 8, [(0, ⟨1, 0, 0⟩), (1, ⟨5, 0, 2⟩), (3, ⟨3, 0, 10⟩), (4, ⟨3, 0, 11⟩), (5, ⟨3, 0, 12⟩), (6, ⟨3, 0, 13⟩), (7, ⟨3, 0, 14⟩)]⟩
def K9 : MountV := ⟨8, 9, [(0, ⟨1, 0, 0⟩), (1, ⟨5, 0, 2⟩), (3, ⟨3, 0, 10⟩), (4, ⟨3, 0, 11⟩), (5, ⟨3, 0, 12⟩), (6, ⟨3, 0, 13⟩), (7, ⟨3, 0, 14⟩), (8, ⟨3, 0, 30⟩)]⟩

theorem n_a : K0.unbind 0 = (K0, 1) := rfl
theorem n_2 : K1.bind 1 5 6 = (K2, 2, 0) := rfl
theorem n_b : K2.unbind 1 = (K2, 15) := by unfold MountV.unbind; rw [if_neg (by decide), if_pos (by decide)]
theorem n_d : K2.down 0 2 = (2, 6) := rfl
theorem n_c : K2.bind 9 0 1 = (K2, 0, 1) := rfl
theorem n_none : K2.root_ 9 = (0, false) := rfl
theorem n_top : K2.root_ 2 = (6, true) := rfl
theorem n_j {j : Nat} (h : j < 5) : (KJ j).bind 0 (10 + j) 3 = (KJ (j + 1), (3 : Int) + j, 0) := by
  have : j = 0 ∨ j = 1 ∨ j = 2 ∨ j = 3 ∨ j = 4 := by omega
  rcases this with rfl | rfl | rfl | rfl | rfl <;> rfl
theorem n_full : (KJ 5).bind 0 30 3 = (KJ 5, 0, 13) := rfl
theorem n_e : (KJ 5).unbind 2 = (K8, 0) := by unfold MountV.unbind; rw [if_neg (by decide), if_neg (by decide)]; rfl
theorem n_n : K8.bind 0 30 3 = (K9, 8, 0) := rfl
theorem n_cov : K9.covered 30 = true := rfl
theorem n_cov2 : K9.covered 31 = false := rfl
theorem n_abv : K9.above 0 = [1, 3, 4, 5, 6, 7, 8] := rfl

/-- A box of a walk's own beside the table. -/
structure MBox (W w : World) (tb : Nat) (S : Nat → Prop) (V : MountV) (xb : Nat) (o : Obj) : Prop where
  cur : MCur W w tb S V
  box : w.heap[xb]? = some o
  ns : ¬ S xb
section
variable {W w w' : World} {tb xb : Nat} {S S' : Nat → Prop} {V V' : MountV} {o : Obj}
theorem MBox.turn (c : MBox W w tb S V xb o) (hp : TableAt w' tb S' V') (ht : TurnM w S w' S') : MBox W w' tb S' V' xb o :=
  ⟨c.cur.turn hp ht, ht.keep.get c.box c.ns, fun q => (ht.new _ q).elim c.ns (fun z => by have := lt_of_blk c.box; omega)⟩
theorem MBox.step (c : MBox W w tb S V xb o) (hk : Keep w w' (fun _ => False)) : MBox W w' tb S V xb o := ⟨c.cur.step hk, hk.get c.box (fun q => q), c.ns⟩
theorem MBox.alloc (c : MCur W w tb S V) : MBox W (w.alloc o) tb S V w.heap.size o :=
  ⟨c.step (Keep.alloc _ _ _), heap_alloc_eq w o, fun q => Nat.lt_irrefl _ (c.tab.lt _ q)⟩
theorem MBox.set2 {a b : Value} {t : TypeId} (c : MBox W w tb S V xb (.cells #[a, b] t (0, 0))) (hx : W.heap.size ≤ xb) (x y : Value) : MBox W ((w.setCell ⟨xb, 0, none⟩ x).setCell ⟨xb, 1, none⟩ y) tb S V xb (.cells #[x, y] t (0, 0)) := by
  have s1 := heap_setCell_eq (off := 0) x c.box
  have s2 := heap_setCell_eq (off := 1) y s1
  have k : Keep w ((w.setCell ⟨xb, 0, none⟩ x).setCell ⟨xb, 1, none⟩ y) (fun b => b = xb) := (Keep.setCell _ _ _).trans (Keep.setCell _ _ _) (fun b q => .inl q)
  exact ⟨⟨c.cur.tab.keep k (fun b q z => c.ns (by rw [show xb = b from z.symm]; exact q)), c.cur.keep.trans k (fun b q => .inr (by omega)), c.cur.new⟩, by simpa using s2, c.ns⟩
/-- Beside a store elsewhere. -/
theorem MBox.beside {U : Nat → Prop} (c : MBox W w tb S V xb o) (k : Keep w w' U) (hU : ∀ b, U b → W.heap.size ≤ b ∧ ¬ S b ∧ b ≠ xb) : MBox W w' tb S V xb o :=
  ⟨⟨c.cur.tab.keep k (fun b q z => (hU b z).2.1 q), c.cur.keep.trans k (fun b q => .inr (hU b q).1), c.cur.new⟩, k.get c.box (fun q => (hU _ q).2.2 rfl), c.ns⟩
end

theorem listIn_blk {w : World} {g : Nat} {xs : List Value} {t : TypeId} {fr : Nat × Nat} (h : w.heap[g]? = some (.cells xs.toArray t fr)) (cap : Nat) : ListIn w (.slice (some ⟨g, 0, none⟩) xs.length cap) xs :=
  ⟨_, cap, rfl, .inr ⟨g, 0, rfl, lt_of_blk h, fun i u hi => by rw [Nat.zero_add, cell_blk h]; simpa using hi⟩⟩

set_option maxHeartbeats 4000000 in
theorem mnumbers_walk (w : World) : Calls Try.prog 7 #[] w fun r w' => r = .returned (.bool true) ∧ Below w.heap.size w w' := by
  have hnew := mnew_c w 1
  go_enter Try.func7, Try.ntmps7
  go_upto_block 0 with (first
    | (go_at_call 30
       refine hnew.mono ?_
       rintro e w1 ⟨tb, S1, rfl, hp, ht⟩
       have C1 := Lib.hid (MCur.made (Keep.refl w _) hp ht)
       have h1 := munbind_c (V := K0) hp ⟨by decide, by decide⟩ 0
       rw [n_a] at h1
       clear hp ht hnew)
    | (go_at_call 36
       refine h1.mono ?_
       rintro e w2 ⟨rfl, S2, hp, ht⟩
       have C2 := Lib.hid (C1.out.turn hp ht)
       have h2 := mbind_c (V := K0) hp ⟨by decide, by decide⟩ (by decide) 0 2 5
       rw [k1_bind] at h2
       clear hp ht h1)
    | (go_at_call 32
       refine h2.mono ?_
       rintro e w3 ⟨rfl, S3, hp, ht⟩
       have C3 := Lib.hid (C2.out.turn hp ht)
       have h3 := mbind_c (V := K1) hp ⟨by decide, by decide⟩ (by decide) 1 5 6
       rw [n_2] at h3
       clear hp ht h2)
    | (go_at_call 32
       refine h3.mono ?_
       rintro e w4 ⟨rfl, S4, hp, ht⟩
       have C4 := Lib.hid (C3.out.turn hp ht)
       have h4 := munbind_c (V := K2) hp ⟨by decide, by decide⟩ 1
       rw [n_b] at h4
       clear hp ht h3)
    | (go_at_call 36
       refine h4.mono ?_
       rintro e w5 ⟨rfl, S5, hp, ht⟩
       have C5 := Lib.hid (C4.out.turn hp ht)
       have h5 := mdown_c (V := K2) hp 0 2
       rw [n_d] at h5
       clear hp ht h4)
    | (go_at_call 37
       refine h5.mono ?_
       rintro e w6 ⟨rfl, hk⟩
       have C6 := Lib.hid (MBox.alloc (o := .cells #[.int .i64 2, .int .i64 6] 49 (0, 0)) (C5.out.step hk))
       have h6 := mbind_c (V := K2) C6.out.cur.tab ⟨by decide, by decide⟩ (by decide) 9 0 1
       rw [n_c] at h6
       clear hk h5)
    | (go_at_call 32
       refine h6.mono ?_
       rintro e w7 ⟨rfl, S7, hp, ht⟩
       have C7 := Lib.hid (C6.out.turn hp ht)
       have h7 := mroot_c (V := K2) hp 9
       rw [n_none] at h7
       clear hp ht h6)
    | (go_at_call 38
       refine h7.mono ?_
       rintro e w8 ⟨rfl, hk⟩
       have C8 := Lib.hid (C7.out.step hk)
       have h8 := mroot_c (V := K2) C8.out.cur.tab 2
       rw [n_top] at h8
       clear hk h7)
    | (go_at_call 38
       refine h8.mono ?_
       rintro e w9 ⟨rfl, hk⟩
       have C9 := Lib.hid (C8.out.step hk)
       clear hk h8))
  go_cut [] (fun wx => ∃ S, MBox w wx tb S (KJ 5) w6.heap.size (.cells #[.int .i64 2, .int .i64 6] 49 (0, 0)))
  case first =>
    go_wp2_with fail
    go_loopg [11] 5 (fun g s11 wr => ∃ (j : Nat) (S : Nat → Prop), j ≤ 5 ∧ g = 5 - j ∧ s11 = .int .i64 j ∧ MBox w wr tb S (KJ j) w6.heap.size (.cells #[.int .i64 2, .int .i64 6] 49 (0, 0)))
    case atStart => exact ⟨0, _, by omega, rfl, rfl, C9.out⟩
    case round =>
      obtain ⟨j, S, hj, rfl, rfl, hB⟩ := hrel
      have B := Lib.hid hB
      clear hB
      by_cases hlt : j < 5
      · have g1 : (j : Int) < 5 := by omega
        have hb := mbind_c B.out.cur.tab ⟨by show (0 : Int) ≤ 2 + j; omega, by show (2 : Int) + j ≤ 1000000; omega⟩ (by show (2 : Int) + j ≤ 1000000; omega) 0 (10 + j) 3
        rw [n_j hlt] at hb
        obtain ⟨wo, rfl⟩ : ∃ wo : World, wo = wr := ⟨_, rfl⟩
        go_wp2_with (
          go_at_call 32
          refine hb.mono ?_
          rintro e w2 ⟨rfl, S2, hp, ht⟩
          have B2 := Lib.hid (B.out.turn hp ht)
          clear hp ht hb)
        go_roundg (5 - (j + 1))
        case measure => omega
        case rel => exact ⟨j + 1, S2, by omega, rfl, by go_num, B2.out⟩
      · have g1 : ¬ (j : Int) < 5 := by omega
        obtain rfl : j = 5 := by omega
        go_wp2
        go_meet
        case rel => exact ⟨_, B.out⟩
  case rest =>
    obtain ⟨S, hB⟩ := hcut
    have B := Lib.hid hB
    have h1 := mbind_c (V := KJ 5) hB.cur.tab ⟨by decide, by decide⟩ (by decide) 0 30 3
    rw [n_full] at h1
    clear hB
    go_wp2_with (first
      | (go_at_call 32
         refine h1.mono ?_
         rintro e w10 ⟨rfl, S10, hp, ht⟩
         have D1 := Lib.hid (B.out.turn hp ht)
         have h2 := munbind_c (V := KJ 5) hp ⟨by decide, by decide⟩ 2
         rw [n_e] at h2
         clear hp ht h1)
      | (go_at_call 36
         refine h2.mono ?_
         rintro e w11 ⟨rfl, S11, hp, ht⟩
         have D2 := Lib.hid (D1.out.turn hp ht)
         have h3 := mbind_c (V := K8) hp ⟨by decide, by decide⟩ (by decide) 0 30 3
         rw [n_n] at h3
         clear hp ht h2)
      | (go_at_call 32
         refine h3.mono ?_
         rintro e w12 ⟨rfl, S12, hp, ht⟩
         go_must (have D3 := Lib.hid (D2.out.turn hp ht))
         go_must (have p0 : w12.cell? ⟨w6.heap.size, 0, none⟩ = some (.int .i64 2) := by rw [cell_blk D3.out.box]; rfl)
         have p1 : w12.cell? ⟨w6.heap.size, 1, none⟩ = some (.int .i64 6) := by rw [cell_blk D3.out.box]; rfl
         go_must (have h4 := mcov_c (V := K9) hp 30)
         go_must (rw [n_cov] at h4)
         clear hp ht h3)
      | (go_at_call 40
         refine h4.mono ?_
         rintro e w13 ⟨rfl, hk⟩
         have D4 := Lib.hid (D3.out.step hk)
         have h5 := mcov_c (V := K9) D4.out.cur.tab 31
         rw [n_cov2] at h5
         clear hk h4)
      | (go_at_call 40
         refine h5.mono ?_
         rintro e w14 ⟨rfl, hk⟩
         have D5 := Lib.hid (D4.out.step hk)
         have h6 := mabv_c (V := K9) D5.out.cur.tab 0
         rw [n_abv] at h6
         clear hk h5)
      | (go_at_call 39
         refine h6.mono ?_
         rintro e w15 ⟨v, rfl, q1, q2, q3⟩
         have D6 := Lib.hid (And.intro (D5.out.step q2) q1)
         obtain ⟨sa, cap, rfl, hcap⟩ := rows_val2 q1
         have ka := boxes1 w15 (.cells (([1, 3, 4, 5, 6, 7, 8] : List Int).map (Value.int .i64)).toArray 3)
         have h7 := isame_c (a := [1, 3, 4, 5, 6, 7, 8]) (b := [1, 3, 4, 5, 6, 7, 8]) ((ListIn.of_own q1).aside ka.1) (listIn_blk ka.2.1 7) (by decide) (by decide)
         clear q1 q2 q3 h6 ka)
      | (go_at_call 41
         refine h7.mono ?_
         rintro e w16 ⟨rfl, q, hw⟩
         have D7 := Lib.hid ((D6.out.1.step (Keep.alloc _ _ _)).step (hw ▸ drewN_keep _ _ q))
         clear hw h7)
      | (go_at_call 35
         refine (mknown_c _).mono ?_
         rintro e w17 ⟨rfl, hk⟩
         have D8 := Lib.hid (D7.out.step hk)
         clear hk))
    go_ret
    exact ⟨by simp, D8.out.cur.below⟩

end Go.Proofs.Ytemoickagefjmaa
