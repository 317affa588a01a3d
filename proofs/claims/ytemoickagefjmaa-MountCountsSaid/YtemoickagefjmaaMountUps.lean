/-
  MountUps: Up of a mount's top leads to where it lies.
-/
import Derived.Test.YtemoickagefjmaaMountLaw
namespace Go.Proofs.Ytemoickagefjmaa
open Go Go.RowKit Go.Shelf
set_option linter.unusedSectionVars false
set_option linter.unusedSimpArgs false
set_option linter.unusedVariables false
set_option maxRecDepth 100000

theorem MountV.bind_ways (V : MountV) (m n node : Int) :
    (∃ e : Int, V.bind m n node = (V, 0, e) ∧ e ≠ 0) ∨ V.bind m n node = (⟨V.made + 1, V.turns + 1, V.live ++ [(V.made + 1, ⟨node, m, n⟩)]⟩, V.made + 1, 0) := by
  unfold MountV.bind
  split
  · exact .inl ⟨1, rfl, by decide⟩
  · split
    · exact .inl ⟨15, rfl, by decide⟩
    · split
      · exact .inl ⟨13, rfl, by decide⟩
      · exact .inr rfl

theorem MountV.up_top {V : MountV} (h : V.ok) {x : Mnt} (hx : x ∈ V.live) (h0 : 0 < x.1) : V.up x.1 x.2.top = (x.2.am, x.2.an, true) := by
  have hg : aget V.live x.1 = some x.2 := aget_of_memM h.nodup hx
  unfold MountV.up
  rw [hg]
  dsimp only
  rw [if_neg (by omega)]
theorem MountV.up_not {V : MountV} (h : V.ok) {x : Mnt} (hx : x ∈ V.live) {n : Int} (hn : x.2.top ≠ n) : V.up x.1 n = (x.1, n, false) := by
  have hg : aget V.live x.1 = some x.2 := aget_of_memM h.nodup hx
  unfold MountV.up
  rw [hg]
  dsimp only
  rw [if_pos (.inr hn)]
theorem MountV.up_zero (V : MountV) (n : Int) : V.up 0 n = (0, n, false) := by
  unfold MountV.up
  cases aget V.live 0 with
  | none => rfl
  | some x => simp

/-- What the law's arrays tell of the live mounts. -/
def Agree (V : MountV) (A B N : Nat → Int) : Prop := ∀ x ∈ V.live, 0 < x.1 → A x.1.toNat = x.2.am ∧ B x.1.toNat = x.2.an ∧ N x.1.toNat = x.2.top

theorem Agree.more {V : MountV} {A B N : Nat → Int} (h : Agree V A B N) (ok : V.ok) {k : Nat} (hk : V.made + 1 = k) (m n nd : Int) (t : Int) :
    Agree ⟨V.made + 1, t, V.live ++ [(V.made + 1, ⟨nd, m, n⟩)]⟩ (fun i => if i = k then m else A i) (fun i => if i = k then n else B i) (fun i => if i = k then nd else N i) := by
  intro x hx h0
  rcases List.mem_append.1 hx with hx | hx
  · have := ok.range x hx
    simp only [if_neg (show ¬ x.1.toNat = k by omega)]
    exact h x hx h0
  · simp only [List.mem_cons, List.not_mem_nil, or_false] at hx
    subst hx
    have : (V.made + 1).toNat = k := by omega
    simp [this]

/-- The two arrays. -/
def ArrsAt (w : World) (ba bn : Nat) (A B N : Nat → Int) : Prop :=
  ∃ arr brr, w.heap[ba]? = some (.cells arr 52 (0, 0)) ∧ w.heap[bn]? = some (.cells brr 53 (0, 0)) ∧
    ∀ i, i < 50 → arr[i * 2]? = some (.int .i64 (A i)) ∧ arr[i * 2 + 1]? = some (.int .i64 (B i)) ∧ brr[i]? = some (.int .i64 (N i))

theorem ArrsAt.keep {w w' : World} {U : Nat → Prop} {ba bn : Nat} {A B N : Nat → Int} (h : ArrsAt w ba bn A B N) (K : Keep w w' U) (h1 : ¬ U ba) (h2 : ¬ U bn) : ArrsAt w' ba bn A B N := by
  obtain ⟨arr, brr, a1, a2, a3⟩ := h
  exact ⟨arr, brr, K.get a1 h1, K.get a2 h2, a3⟩

theorem ArrsAt.cells {w : World} {ba bn : Nat} {A B N : Nat → Int} (h : ArrsAt w ba bn A B N) (i : Nat) (hi : i < 50) :
    w.cell? ⟨ba, i * 2, none⟩ = some (.int .i64 (A i)) ∧ w.cell? ⟨ba, i * 2 + 1, none⟩ = some (.int .i64 (B i)) ∧ w.cell? ⟨bn, i, none⟩ = some (.int .i64 (N i)) := by
  obtain ⟨arr, brr, a1, a2, a3⟩ := h
  rw [cell_blk a1, cell_blk a1, cell_blk a2]
  exact a3 i hi

theorem ArrsAt.free {w : World} {ba bn : Nat} {A B N : Nat → Int} (h : ArrsAt w ba bn A B N) (i : Nat) : w.frozen? ⟨ba, i, none⟩ = false ∧ w.frozen? ⟨bn, i, none⟩ = false := by
  obtain ⟨arr, brr, a1, a2, a3⟩ := h
  exact ⟨free_blk a1 _, free_blk a2 _⟩

theorem ArrsAt.set {w : World} {ba bn : Nat} {A B N : Nat → Int} (h : ArrsAt w ba bn A B N) (hne : ba ≠ bn) {k : Nat} (hk : k < 50) (m n nd : Int) :
    ArrsAt (((w.setCell ⟨ba, k * 2, none⟩ (.int .i64 m)).setCell ⟨ba, k * 2 + 1, none⟩ (.int .i64 n)).setCell ⟨bn, k, none⟩ (.int .i64 nd)) ba bn (fun i => if i = k then m else A i) (fun i => if i = k then n else B i) (fun i => if i = k then nd else N i) := by
  obtain ⟨arr, brr, a1, a2, a3⟩ := h
  have s1 := heap_setCell_eq (off := k * 2) (Value.int .i64 m) a1
  have s2 := heap_setCell_eq (off := k * 2 + 1) (Value.int .i64 n) s1
  have t1 := (Keep.setCell w ⟨ba, k * 2, none⟩ (Value.int .i64 m)).get a2 (fun q => hne q.symm)
  have t2 := (Keep.setCell (w.setCell ⟨ba, k * 2, none⟩ (Value.int .i64 m)) ⟨ba, k * 2 + 1, none⟩ (Value.int .i64 n)).get t1 (fun q => hne q.symm)
  have t3 := heap_setCell_eq (off := k) (Value.int .i64 nd) t2
  have s3 := (Keep.setCell ((w.setCell ⟨ba, k * 2, none⟩ (Value.int .i64 m)).setCell ⟨ba, k * 2 + 1, none⟩ (Value.int .i64 n)) ⟨bn, k, none⟩ (Value.int .i64 nd)).get s2 (fun q => hne q)
  refine ⟨_, _, s3, t3, fun i hi => ?_⟩
  obtain ⟨b1, b2, b3⟩ := a3 i hi
  obtain ⟨c1, c2, c3⟩ := a3 k hk
  have d1 : k * 2 < arr.size := (Array.getElem?_eq_some_iff.1 c1).1
  have d2 : k * 2 + 1 < arr.size := (Array.getElem?_eq_some_iff.1 c2).1
  have d3 : k < brr.size := (Array.getElem?_eq_some_iff.1 c3).1
  by_cases q : i = k
  · subst q
    simp [Array.getElem?_setIfInBounds, d1, d2, d3]
  · simp only [Array.getElem?_setIfInBounds, if_neg q, if_neg (show ¬ k * 2 + 1 = i * 2 by omega), if_neg (show ¬ k * 2 = i * 2 by omega), if_neg (show ¬ k * 2 + 1 = i * 2 + 1 by omega), if_neg (show ¬ k * 2 = i * 2 + 1 by omega), if_neg (show ¬ k = i by omega)]
    exact ⟨b1, b2, b3⟩

/-- A number with its last bit turned is another. -/
theorem xor1_ne {n : Int} : bits .xor .i64 n 1 ≠ n := by
  intro e
  have hw : ∀ r : BitVec 64, BitVec.ofInt 64 (IntKind.wrap .i64 r.toNat) = r := by
    intro r
    apply BitVec.eq_of_toInt_eq
    have := r.isLt
    rw [BitVec.toInt_ofInt, IntKind.wrap_i64, BitVec.toInt_eq_toNat_bmod]
    simp only [Int.bmod_def]
    omega
  have e2 : BitVec.ofInt 64 n ^^^ BitVec.ofInt 64 1 = BitVec.ofInt 64 n := by
    have := congrArg (BitVec.ofInt 64) e
    rw [show bits .xor .i64 n 1 = IntKind.wrap .i64 (BitVec.ofInt 64 n ^^^ BitVec.ofInt 64 1).toNat from rfl, hw] at this
    exact this
  have e3 := congrArg (fun r => BitVec.ofInt 64 n ^^^ r) e2
  simp only [← BitVec.xor_assoc, BitVec.xor_self, BitVec.zero_xor] at e3
  exact absurd e3 (by decide)

abbrev plc (a b : Int) : Obj := .cells #[.int .i64 a, .int .i64 b] 49 (0, 0)

/-- All that the law holds. -/
structure UB (W w : World) (tb ba bn : Nat) (S : Nat → Prop) (V : MountV) (A B N : Nat → Int) (pm pn : Int) : Prop where
  box : MBox W w tb S V W.heap.size (plc pm pn)
  arrs : ArrsAt w ba bn A B N
  agree : Agree V A B N
  na : ¬ S ba
  nb : ¬ S bn
  ne : ba ≠ bn
  la : W.heap.size < ba
  lb : W.heap.size < bn

section
variable {W w w' : World} {tb ba bn : Nat} {S S' : Nat → Prop} {V V' : MountV} {A B N : Nat → Int} {pm pn : Int}
theorem UB.step (h : UB W w tb ba bn S V A B N pm pn) (k : Keep w w' (fun _ => False)) : UB W w' tb ba bn S V A B N pm pn :=
  ⟨h.box.step k, h.arrs.keep k (fun q => q) (fun q => q), h.agree, h.na, h.nb, h.ne, h.la, h.lb⟩
theorem UB.lts (h : UB W w tb ba bn S V A B N pm pn) : ba < w.heap.size ∧ bn < w.heap.size := by
  obtain ⟨arr, brr, a1, a2, a3⟩ := h.arrs
  exact ⟨lt_of_blk a1, lt_of_blk a2⟩
/-- A call of Bind that changed nothing. -/
theorem UB.turn (h : UB W w tb ba bn S V A B N pm pn) (hp : TableAt w' tb S' V) (ht : TurnM w S w' S') : UB W w' tb ba bn S' V A B N pm pn := by
  have hl := h.lts
  exact ⟨h.box.turn hp ht, h.arrs.keep ht.keep h.na h.nb, h.agree, fun q => (ht.new _ q).elim h.na (fun z => by omega), fun q => (ht.new _ q).elim h.nb (fun z => by omega), h.ne, h.la, h.lb⟩
/-- A call of Bind that made a mount, and the law's two stores. -/
theorem UB.more (h : UB W w tb ba bn S V A B N pm pn) {k : Nat} (hk : V.made + 1 = k) (hk50 : k < 50) {m n nd t : Int} (hp : TableAt w' tb S' ⟨V.made + 1, t, V.live ++ [(V.made + 1, ⟨nd, m, n⟩)]⟩) (ht : TurnM w S w' S') :
    UB W (((w'.setCell ⟨ba, k * 2, none⟩ (.int .i64 m)).setCell ⟨ba, k * 2 + 1, none⟩ (.int .i64 n)).setCell ⟨bn, k, none⟩ (.int .i64 nd)) tb ba bn S' ⟨V.made + 1, t, V.live ++ [(V.made + 1, ⟨nd, m, n⟩)]⟩
      (fun i => if i = k then m else A i) (fun i => if i = k then n else B i) (fun i => if i = k then nd else N i) pm pn := by
  have hl := h.lts
  have na : ¬ S' ba := fun q => (ht.new _ q).elim h.na (fun z => by omega)
  have nb : ¬ S' bn := fun q => (ht.new _ q).elim h.nb (fun z => by omega)
  have k1 := Keep.setCell w' ⟨ba, k * 2, none⟩ (Value.int .i64 m)
  have k2 := Keep.setCell (w'.setCell ⟨ba, k * 2, none⟩ (Value.int .i64 m)) ⟨ba, k * 2 + 1, none⟩ (Value.int .i64 n)
  have k3 := Keep.setCell ((w'.setCell ⟨ba, k * 2, none⟩ (Value.int .i64 m)).setCell ⟨ba, k * 2 + 1, none⟩ (Value.int .i64 n)) ⟨bn, k, none⟩ (Value.int .i64 nd)
  have ks : Keep w' (((w'.setCell ⟨ba, k * 2, none⟩ (.int .i64 m)).setCell ⟨ba, k * 2 + 1, none⟩ (.int .i64 n)).setCell ⟨bn, k, none⟩ (.int .i64 nd)) (fun b => b = ba ∨ b = bn) :=
    ((k1.mono (T := fun b => b = ba ∨ b = bn) (fun b q => .inl q)).trans k2 (fun b q => .inl (.inl q))).trans k3 (fun b q => .inl (.inr q))
  have hla := h.la
  have hlb := h.lb
  refine ⟨(h.box.turn hp ht).beside ks ?_, (h.arrs.keep ht.keep h.na h.nb).set h.ne hk50 m n nd, h.agree.more h.box.cur.tab.ok hk m n nd t, na, nb, h.ne, h.la, h.lb⟩
  rintro b (rfl | rfl)
  · exact ⟨by omega, na, by omega⟩
  · exact ⟨by omega, nb, by omega⟩
end

theorem zeroPlaces : Try.zeroCells52 = (List.replicate 100 (Value.int .i64 0)).toArray := by kernel_rfl

set_option maxHeartbeats 2000000 in
theorem mups_walk (a : Option Addr) (len cap : Nat) (pm pn : Int) (w : World) (h : StructsIs asksM w a len cap) (hz : ∀ z ∈ [pm, pn], (Lit.int .i64 z).wf = true) :
    Calls Try.prog 4 #[.slice a len cap, .agg #[.int .i64 pm, .int .i64 pn]] w fun r w' => r = .returned (.bool true) ∧ Below w.heap.size w w' := by
  have hcap := h.cap
  have hlen : len ≤ 9223372036854775807 := by have := hcap.1; have := hcap.2; unfold maxLen at this; omega
  have H := Lib.hid h
  clear h hcap hz
  go_enter Try.func4, Try.ntmps4
  go_upto_block 0 with (
    go_at_call 30
    refine (mnew_c _ 1).mono ?_
    rintro e w2 ⟨tb, S1, rfl, hp, ht⟩
    have k0 := boxes1 w (.cells #[.int .i64 pm, .int .i64 pn] 49)
    have hsz := k0.2.2
    have C1 := Lib.hid (show MBox w w2 tb S1 (MountV.new 1) w.heap.size (plc pm pn) from ⟨MCur.made k0.1 hp ht, ht.keep.get k0.2.1 (fun q => q), fun q => by
      have := (ht.new _ q).elim (fun z => z.elim) id
      omega⟩)
    clear hp ht k0 hsz)
  obtain ⟨wz, hwz⟩ : ∃ wz, wz = (w2.alloc (.cells Try.zeroCells52 52)).alloc (.cells #[.int .i64 0, .int .i64 0, .int .i64 0, .int .i64 0, .int .i64 0, .int .i64 0, .int .i64 0, .int .i64 0, .int .i64 0, .int .i64 0, .int .i64 0, .int .i64 0, .int .i64 0, .int .i64 0, .int .i64 0, .int .i64 0, .int .i64 0, .int .i64 0, .int .i64 0, .int .i64 0, .int .i64 0, .int .i64 0, .int .i64 0, .int .i64 0, .int .i64 0, .int .i64 0, .int .i64 0, .int .i64 0, .int .i64 0, .int .i64 0, .int .i64 0, .int .i64 0, .int .i64 0, .int .i64 0, .int .i64 0, .int .i64 0, .int .i64 0, .int .i64 0, .int .i64 0, .int .i64 0, .int .i64 0, .int .i64 0, .int .i64 0, .int .i64 0, .int .i64 0, .int .i64 0, .int .i64 0, .int .i64 0, .int .i64 0, .int .i64 0] 53) := ⟨_, rfl⟩
  have kz := boxes2 w2 (.cells Try.zeroCells52 52) (.cells (List.replicate 50 (Value.int .i64 0)).toArray 53)
  have hbz := lt_of_blk C1.out.box
  have hU1 : UB w wz tb w2.heap.size (w2.heap.size + 1) S1 (MountV.new 1) (fun _ => 0) (fun _ => 0) (fun _ => 0) pm pn := by
    rw [hwz]
    refine ⟨C1.out.step kz.1, ⟨_, _, kz.2.1, kz.2.2.1, fun i hi => ?_⟩, fun x hx h0 => ?_, fun q => Nat.lt_irrefl _ (C1.out.cur.tab.lt _ q), fun q => ?_, by omega, by omega, by omega⟩
    · rw [zeroPlaces]
      simp only [List.getElem?_toArray, List.getElem?_replicate, if_pos (show i * 2 < 100 by omega), if_pos (show i * 2 + 1 < 100 by omega), if_pos hi, and_self]
    · simp only [MountV.new, List.mem_cons, List.not_mem_nil, or_false] at hx
      subst hx
      exact absurd h0 (by decide)
    · have := C1.out.cur.tab.lt _ q
      omega
  rw [← hwz]
  have U1 := Lib.hid hU1
  generalize w2.heap.size = ba at *
  generalize hbn : ba + 1 = bn at *
  clear hwz kz hbz hU1 C1 hbn
  go_cut [] (fun wx => ∃ S V A B N, UB w wx tb ba bn S V A B N pm pn ∧ V.made ≤ 30)
  case first =>
    go_wp2_with fail
    go_loopg [8] 30 (fun g s8 wr => ∃ (j : Nat) (S : Nat → Prop) (V : MountV) (A B N : Nat → Int), j ≤ 30 ∧ g = 30 - j ∧ s8 = .int .i64 j ∧ UB w wr tb ba bn S V A B N pm pn ∧ V.made ≤ j ∧ 0 ≤ V.turns ∧ V.turns ≤ j)
    case atStart => exact ⟨0, S1, _, _, _, _, by omega, rfl, rfl, U1.out, by simp [MountV.new], by simp [MountV.new], by simp [MountV.new]⟩
    case round =>
      obtain ⟨j, S, V, A, B, N, hj, rfl, rfl, hB, hm1, ht0, ht1⟩ := hrel
      have hm0 := hB.box.cur.tab.ok.made0
      have U := Lib.hid hB
      clear hB U1
      by_cases hlt : j < len
      · by_cases hlt2 : j < 30
        · have g3 : (j : Int) < (len : Int) := by omega
          have g4 : (j : Int) < 30 := by omega
          have g5 : (0 : Int) ≤ (j : Int) := by omega
          obtain ⟨b, off, rfl, hblt, hat⟩ := asksM_at H.out (by omega)
          obtain ⟨k, m, nd, am, an, hA, -⟩ := hat j hlt
          have HA := Lib.hid hA
          obtain ⟨c0, c1, c2, c3, c4⟩ := hA.keep U.out.box.cur.keep
          clear hat hA
          obtain ⟨wo, rfl⟩ : ∃ wo : World, wo = wr := ⟨_, rfl⟩
          go_upto_region 9 with (fail)
          go_cut [9] (fun s9 wx => ∃ nb x y, s9 = .pointer (some ⟨nb, 0, none⟩) ∧ Keep wo wx (fun _ => False) ∧ wx.heap[nb]? = some (plc x y) ∧ wo.heap.size ≤ nb)
          case first =>
            have n1 := World.new_ne wo _ c3
            go_region_held3 (fun w' => w'.cell? ⟨b, off + j * 5 + 3, none⟩ = some (.int .i64 am) ∧ w'.cell? ⟨b, off + j * 5 + 4, none⟩ = some (.int .i64 an)) (go_keep) (
              (go_at_call 31
               refine (within_c _ _ 0 5 (by omega) (by omega) (by omega)).mono ?_
               rintro e w4 ⟨y, hy0, hy1, rfl, rfl⟩))
            all_goals go_wp2
            all_goals go_meet
            all_goals
              refine ⟨_, _, _, rfl, ?_, heap_alloc_eq wo _, Nat.le_refl _⟩
              repeat (first | exact Keep.refl _ _ | refine Keep.drewNew ?_ | refine Keep.allocNew ?_ _)
          case rest =>
            obtain ⟨nb, x, y, rfl, k9, b9, hnb⟩ := hcut
            obtain ⟨d0, d1, d2, d3, d4⟩ := (HA.out.keep U.out.box.cur.keep).keep k9
            have e0 := cell_blk b9 0
            have e1 := cell_blk b9 1
            simp only [List.getElem?_toArray, List.getElem?_cons_zero, List.getElem?_cons_succ] at e0 e1
            have U1 := Lib.hid (U.out.step k9)
            have hbind := fun w' (K : Keep wc w' (fun _ => False)) => mbind_c (U1.out.step K).box.cur.tab ⟨ht0, by omega⟩ (by omega) x y nd
            have hbz := lt_of_blk b9
            have HN := Lib.hid (And.intro b9 (show ¬ S nb from fun q => by have := U.out.box.cur.tab.lt _ q; omega))
            clear k9 c0 c1 c2 c3 c4 U
            go_upto_region 10 with (fail)
            go_cut [10, 11] (fun s10 s11 wx => ∃ wy S5 V5 rn re, V.bind x y nd = (V5, rn, re) ∧ s10 = .int .i64 rn ∧ s11 = .int .i64 re ∧ Keep wc wy (fun _ => False) ∧ TableAt wx tb S5 V5 ∧ TurnM wy S wx S5)
            case first =>
              go_region_held3 (fun w' => (w'.cell? ⟨nb, 0, none⟩ = some (.int .i64 x) ∧ w'.cell? ⟨nb, 1, none⟩ = some (.int .i64 y)) ∧ w'.cell? ⟨b, off + j * 5 + 2, none⟩ = some (.int .i64 nd)) (go_keep) (
                (go_at_call 32
                 refine (hbind _ ?_).mono ?_
                 · first | exact Keep.refl _ _ | exact Keep.drew _ _ | exact drewN_keep _ _ _
                 rintro e w5 ⟨rfl, S5, hp5, ht5⟩
                 have q0 := ht5.keep.cell (show wc.drew.cell? ⟨nb, 0, none⟩ = _ from e0) HN.out.2
                 have q1 := ht5.keep.cell (show wc.drew.cell? ⟨nb, 1, none⟩ = _ from e1) HN.out.2
                 have q2 := (HA.out.keep ((U1.out.step (Keep.drew _ _)).box.turn hp5 ht5).cur.keep).c2))
              all_goals go_wp2
              all_goals go_meet
              all_goals exact ⟨_, _, _, _, _, rfl, rfl, rfl, Keep.drew _ _, hp5, ht5⟩
            case rest =>
              obtain ⟨wy, S5, V5, rn, re, hb5, rfl, rfl, ky, hp5, ht5⟩ := hcut
              rcases V.bind_ways x y nd with ⟨er, hbe, her⟩ | hbe
              · rw [hbe] at hb5
                obtain ⟨rfl, rfl, rfl⟩ := Prod.mk.injEq _ _ _ _ ▸ hb5
                have U2 := Lib.hid ((U1.out.step ky).turn hp5 ht5)
                have g59 : (re == 0) = false := by simpa using her
                clear hp5 ht5 hbe ky
                go_wp2
                go_roundg (30 - (j + 1))
                case measure => omega
                case rel => exact ⟨j + 1, S5, _, A, B, N, by omega, rfl, by go_num, U2.out, by omega, by omega, by omega⟩
              · rw [hbe] at hb5
                obtain ⟨rfl, rfl, rfl⟩ := Prod.mk.injEq _ _ _ _ ▸ hb5
                obtain ⟨kk, hkk⟩ : ∃ kk : Nat, V.made + 1 = kk := ⟨(V.made + 1).toNat, by omega⟩
                have hk50 : kk < 50 := by omega
                have ul := (U1.out.step ky).lts
                have na : ¬ S ba := U1.out.na
                have b9x := ht5.keep.get (ky.get HN.out.1 (fun q => q)) HN.out.2
                have p0 : wc.cell? ⟨nb, 0, none⟩ = some (.int .i64 x) := by rw [cell_blk b9x]; rfl
                have p1 : wc.cell? ⟨nb, 1, none⟩ = some (.int .i64 y) := by rw [cell_blk b9x]; rfl
                have hAr := (U1.out.step ky).arrs.keep ht5.keep U1.out.na U1.out.nb
                obtain ⟨x0, x1, x2⟩ := hAr.cells kk hk50
                have f0 := (hAr.free (kk * 2)).1
                have f1 := (hAr.free (kk * 2 + 1)).1
                have f2 := (hAr.free kk).2
                have U2 := Lib.hid (U1.out.step ky)
                have HT := Lib.hid (And.intro hp5 ht5)
                rw [show Value.int .i64 (V.made + 1) = Value.int .i64 (kk : Int) by rw [hkk]]
                have g61 : ¬ (kk : Int) < 1 := by omega
                have g64 : ¬ (50 : Int) ≤ (kk : Int) := by omega
                have g65 : (0 : Int) ≤ (kk : Int) := by omega
                have g66 : (kk : Int) < 50 := by omega
                obtain ⟨arr, brr, a1, a2, a3⟩ := hAr
                have kS : Keep wc ((wc.setCell ⟨ba, kk * 2, none⟩ (.int .i64 x)).setCell ⟨ba, kk * 2 + 1, none⟩ (.int .i64 y)) (fun b => b = ba) :=
                  (Keep.setCell wc ⟨ba, kk * 2, none⟩ (Value.int .i64 x)).trans (Keep.setCell _ ⟨ba, kk * 2 + 1, none⟩ (Value.int .i64 y)) (fun b q => .inl q)
                have hbl : b < ba := Nat.lt_trans hblt U2.out.la
                have z2 := kS.cell (HA.out.keep (U2.out.box.turn hp5 ht5).cur.keep).c2 (fun q => by omega)
                have zn := kS.get a2 (fun q => U2.out.ne q.symm)
                have z3 := kS.cell x2 (fun q => U2.out.ne q.symm)
                have z4 := free_blk zn kk
                clear hp5 ht5 kS a1 a2 a3 zn
                go_wp2
                go_roundg (30 - (j + 1))
                case measure => omega
                case rel => exact ⟨j + 1, S5, _, _, _, _, by omega, rfl, by go_num, U2.out.more hkk hk50 HT.out.1 HT.out.2, by show V.made + 1 ≤ _; omega, by show 0 ≤ V.turns + 1; omega, by show V.turns + 1 ≤ _; omega⟩
        · have g3 : (j : Int) < (len : Int) := by omega
          have g4 : ¬ (j : Int) < 30 := by omega
          go_wp2
          go_meet
          case rel => exact ⟨S, V, A, B, N, U.out, by omega⟩
      · have g3 : ¬ (j : Int) < (len : Int) := by omega
        go_wp2
        go_meet
        case rel => exact ⟨S, V, A, B, N, U.out, by omega⟩
  case rest =>
    obtain ⟨S, V, A, B, N, hU, hm⟩ := hcut
    have hl := mlist_c hU.box.cur.tab
    have hmost := hU.box.cur.tab.ok.most
    have U := Lib.hid hU
    clear hU U1
    have hll : V.list.length ≤ 8 := by unfold MountV.list; rw [List.length_map]; exact hmost
    go_upto_block 2 with (
      go_at_call 33
      refine hl.mono ?_
      rintro e w6 ⟨v, rfl, ho, k6, hv⟩
      obtain ⟨sa, cp, rfl, hcp⟩ := rows_val2 ho
      have L6 := Lib.hid (ListIn.of_own ho)
      have U6 := Lib.hid (U.out.step k6)
      clear ho k6 hv hl)
    have hn8 : V.list.length ≤ 9223372036854775807 := by omega
    go_wp2_with fail
    go_loopg [13] V.list.length (fun g s13 wr => ∃ j : Nat, j + g = V.list.length ∧ s13 = .int .i64 j ∧ UB w wr tb ba bn S V A B N pm pn ∧ Keep w6 wr (fun _ => False))
    case atStart => exact ⟨0, by omega, rfl, U6.out, Keep.refl _ _⟩
    case round =>
      obtain ⟨j, hjg, rfl, hB, hk⟩ := hrel
      have UJ := Lib.hid (And.intro hB hk)
      have HJ := Lib.hid hjg
      clear hB hk hjg
      obtain ⟨wo, rfl⟩ : ∃ wo : World, wo = wr := ⟨_, rfl⟩
      by_cases hlt : j < V.list.length
      · have g81 : (j : Int) < (V.list.length : Int) := by omega
        have g82 : (0 : Int) ≤ (j : Int) := by omega
        obtain ⟨b1, o1, hsa, hb1, f1⟩ := L6.out.some (by rw [List.length_map]; omega)
        cases hsa
        obtain ⟨x, hx, hxe⟩ : ∃ x ∈ V.live, V.list[j]? = some x.1 := by
          have h1 := List.getElem?_eq_getElem hlt
          have h2 : V.list[j] ∈ V.list := List.getElem_mem hlt
          unfold MountV.list at h2
          obtain ⟨x, hx, he⟩ := List.mem_map.1 h2
          exact ⟨x, hx, h1.trans (congrArg some he.symm)⟩
        have hr := UJ.out.1.box.cur.tab.ok.range x hx
        obtain ⟨kk, hkk⟩ : ∃ kk : Nat, x.1 = kk := ⟨x.1.toNat, by omega⟩
        have hk50 : kk < 50 := by omega
        have c1 : wo.cell? ⟨b1, o1 + j, none⟩ = some (.int .i64 (kk : Int)) := UJ.out.2.cell (f1 j _ (mapGet (by rw [hxe, hkk]))) (fun q => q)
        by_cases hz : kk = 0
        · subst hz
          have g88 : (((0 : Nat) : Int) == 0) = true := rfl
          go_wp2
          go_roundg (V.list.length - (j + 1))
          case measure => have := HJ.out; omega
          case rel => exact ⟨j + 1, by have := HJ.out; omega, by go_num, UJ.out.1, UJ.out.2⟩
        · have g88 : ((kk : Int) == 0) = false := by simp; omega
          have g65 : (0 : Int) ≤ (kk : Int) := by omega
          have g66 : (kk : Int) < 50 := by omega
          obtain ⟨a1, a2, a3⟩ := UJ.out.1.agree x hx (by omega)
          have hu1 := MountV.up_top UJ.out.1.box.cur.tab.ok hx (by omega)
          have htk : x.1.toNat = kk := by omega
          rw [htk] at a1 a2 a3
          rw [← a1, ← a2, ← a3, hkk] at hu1
          obtain ⟨z, hz0⟩ : ∃ z, bits .xor .i64 (N kk) 1 = z := ⟨_, rfl⟩
          have hzn : x.2.top ≠ z := by rw [← a3, ← hz0]; exact fun q => xor1_ne q.symm
          have hu2 := MountV.up_not UJ.out.1.box.cur.tab.ok hx hzn
          rw [hkk] at hu2
          have hv1 := fun w' (K : Keep wo w' (fun _ => False)) => (mup_c (UJ.out.1.step K).box.cur.tab kk (N kk)).mono fun e w2 (h : _ ∧ _) => And.intro h.1 (And.intro h.2 (K.aside h.2))
          have hv2 := fun w1 (K1 : Keep wo w1 (fun _ => False)) w' (K : Keep w1 w' (fun _ => False)) => (mup_c ((UJ.out.1.step K1).step K).box.cur.tab kk z).mono fun e w2 (h : _ ∧ _) => And.intro h.1 (And.intro h.2 (K.aside h.2))
          rw [hu1] at hv1
          rw [hu2] at hv2
          simp only at hv1 hv2
          have hC := UJ.out.1.arrs.cells kk hk50
          have CC := Lib.hid hC
          obtain ⟨x0, x1, x2⟩ := hC
          have C1 := Lib.hid c1
          clear f1 hx hxe hr a1 a2 a3 hu1 hzn hu2 htk hkk
          have n1 := World.new_ne wo _ c1
          have n2 := World.new_ne wo _ x2
          go_upto_region 21 with (fail)
          go_cut [14, 15] (fun s14 s15 wx => ∃ nb, s14 = .pointer (some ⟨nb, 0, none⟩) ∧ s15 = .bool true ∧ Keep wo wx (fun _ => False) ∧ wx.heap[nb]? = some (plc (A kk) (B kk)))
          case first =>
            go_region_held3 (fun w' => w'.cell? ⟨b1, o1 + j, none⟩ = some (.int .i64 (kk : Int)) ∧ w'.cell? ⟨bn, kk, none⟩ = some (.int .i64 (N kk))) (go_keep) (
              (go_at_call 34
               refine (hv1 _ ?_).mono ?_
               · repeat (first | exact Keep.refl _ _ | exact Keep.drew _ _ | refine Keep.allocNew ?_ _ | refine Keep.drewNew ?_)
               rintro e w7 ⟨rfl, k7, kw⟩
               have q0 := kw.cell C1.out (fun q => q)
               have q1 := kw.cell CC.out.2.2 (fun q => q)
               try (have z0 : w7.heap[wo.heap.size]? = some (plc 0 0) := k7.get (heap_alloc_eq wo.drew _) (fun q => q))
               try (have zc0 : w7.cell? ⟨wo.heap.size, 0, none⟩ = some (.int .i64 0) := by rw [cell_blk z0]; rfl)
               try (have zc1 : w7.cell? ⟨wo.heap.size, 1, none⟩ = some (.int .i64 0) := by rw [cell_blk z0]; rfl)
               try (have zf0 := free_blk z0 0)
               try (have zf1 := free_blk z0 1)))
            all_goals go_wp2
            all_goals go_meet
            all_goals first
              | exact ⟨_, rfl, rfl, kw.aside (Keep.alloc w7 _ _), heap_alloc_eq w7 _⟩
              | (have s1 := heap_setCell_eq (off := 0) (Value.int .i64 (A kk)) z0
                 have s2 := heap_setCell_eq (off := 1) (Value.int .i64 (B kk)) s1
                 exact ⟨_, rfl, rfl, (kw.setNew ⟨wo.heap.size, 0, none⟩ _ (Nat.le_refl _)).setNew ⟨wo.heap.size, 1, none⟩ _ (Nat.le_refl _), s2⟩)
          case rest =>
            obtain ⟨nb, rfl, rfl, k21, b21⟩ := hcut
            have hv2' := hv2 wc k21
            have c1' := k21.cell C1.out (fun q => q)
            have x2' := k21.cell CC.out.2.2 (fun q => q)
            have K21 := Lib.hid (And.intro k21 b21)
            clear k21 b21 c1 x0 x1 x2 hv1 hv2
            have n1 := World.new_ne wc _ c1'
            have n2 := World.new_ne wc _ x2'
            go_upto_region 22 with (fail)
            go_cut [16, 17] (fun s16 s17 wx => ∃ nc, s16 = .pointer (some ⟨nc, 0, none⟩) ∧ s17 = .bool false ∧ Keep wc wx (fun _ => False) ∧ wx.heap[nc]? = some (plc kk z))
            case first =>
              go_region_held3 (fun w' => w'.cell? ⟨b1, o1 + j, none⟩ = some (.int .i64 (kk : Int)) ∧ w'.cell? ⟨bn, kk, none⟩ = some (.int .i64 (N kk))) (go_keep) (
                (go_at_call 34
                 refine (hv2' _ ?_).mono ?_
                 · repeat (first | exact Keep.refl _ _ | exact Keep.drew _ _ | refine Keep.allocNew ?_ _ | refine Keep.drewNew ?_)
                 rintro e w7 ⟨rfl, k7, kw⟩
                 have q0 := kw.cell c1' (fun q => q)
                 have q1 := kw.cell x2' (fun q => q)
                 try (have z0 : w7.heap[wc.heap.size]? = some (plc 0 0) := k7.get (heap_alloc_eq wc.drew _) (fun q => q))
                 try (have zc0 : w7.cell? ⟨wc.heap.size, 0, none⟩ = some (.int .i64 0) := by rw [cell_blk z0]; rfl)
                 try (have zc1 : w7.cell? ⟨wc.heap.size, 1, none⟩ = some (.int .i64 0) := by rw [cell_blk z0]; rfl)
                 try (have zf0 := free_blk z0 0)
                 try (have zf1 := free_blk z0 1)))
              all_goals go_wp2
              all_goals go_meet
              all_goals first
                | exact ⟨_, rfl, rfl, kw.aside (Keep.alloc w7 _ _), heap_alloc_eq w7 _⟩
                | (have s1 := heap_setCell_eq (off := 0) (Value.int .i64 (kk : Int)) z0
                   have s2 := heap_setCell_eq (off := 1) (Value.int .i64 z) s1
                   exact ⟨_, rfl, rfl, (kw.setNew ⟨wc.heap.size, 0, none⟩ _ (Nat.le_refl _)).setNew ⟨wc.heap.size, 1, none⟩ _ (Nat.le_refl _), s2⟩)
            case rest =>
              obtain ⟨nc, rfl, rfl, k22, b22⟩ := hcut
              have kE := K21.out.1.aside k22
              have UE := Lib.hid (And.intro (UJ.out.1.step kE) (UJ.out.2.aside kE))
              have bnb := k22.get K21.out.2 (fun q => q)
              have q0 : wc.cell? ⟨nb, 0, none⟩ = some (.int .i64 (A kk)) := by rw [cell_blk bnb]; rfl
              have q1 : wc.cell? ⟨nb, 1, none⟩ = some (.int .i64 (B kk)) := by rw [cell_blk bnb]; rfl
              have q2 : wc.cell? ⟨nc, 0, none⟩ = some (.int .i64 kk) := by rw [cell_blk b22]; rfl
              have q3 : wc.cell? ⟨nc, 1, none⟩ = some (.int .i64 z) := by rw [cell_blk b22]; rfl
              have q4 := kE.cell C1.out (fun q => q)
              have q5 := kE.cell CC.out.1 (fun q => q)
              have q6 := kE.cell CC.out.2.1 (fun q => q)
              have q7 := kE.cell CC.out.2.2 (fun q => q)
              clear kE bnb b22 k22 hv2' c1' x2' n1 n2
              go_wp2
              go_quiet (fail)
              go_wp2
              go_roundg (V.list.length - (j + 1))
              case measure => have := HJ.out; omega
              case rel => exact ⟨j + 1, by have := HJ.out; omega, by go_num, UE.out.1.step (drewN_keep _ _ _), UE.out.2.aside (drewN_keep _ _ _)⟩
      · have g81 : ¬ (j : Int) < (V.list.length : Int) := by omega
        have bp := UJ.out.1.box.box
        have p0 : wo.cell? ⟨w.heap.size, 0, none⟩ = some (.int .i64 pm) := by rw [cell_blk bp]; rfl
        have p1 : wo.cell? ⟨w.heap.size, 1, none⟩ = some (.int .i64 pn) := by rw [cell_blk bp]; rfl
        have pf := free_blk bp 0
        have hsz := lt_of_blk bp
        go_upto_region 26 with (fail)
        obtain ⟨wS, hwS⟩ : ∃ wS, wS = wo.setCell ⟨w.heap.size, 0, none⟩ (.int .i64 0) := ⟨_, rfl⟩
        rw [← hwS]
        have kS := Keep.setCell wo ⟨w.heap.size, 0, none⟩ (Value.int .i64 0)
        have bS := heap_setCell_eq (off := 0) (Value.int .i64 0) bp
        rw [← hwS] at kS bS
        have hT : TableAt wS tb S V := UJ.out.1.box.cur.tab.keep kS (fun b q z => UJ.out.1.box.ns (by rw [show w.heap.size = b from z.symm]; exact q))
        have kw : Keep w wS (fun _ => False) := UJ.out.1.box.cur.keep.trans kS (fun b q => .inr (by have : b = w.heap.size := q; omega))
        have r0 : wS.cell? ⟨w.heap.size, 0, none⟩ = some (.int .i64 0) := by rw [cell_blk bS]; rfl
        have r1 : wS.cell? ⟨w.heap.size, 1, none⟩ = some (.int .i64 pn) := by rw [cell_blk bS]; rfl
        have hu := mup_c hT 0 pn
        rw [MountV.up_zero] at hu
        simp only at hu
        have KW := Lib.hid kw
        clear hT kw kS bS bp hwS p0 p1 pf
        go_wp2_with (first
          | (go_at_call 34
             refine hu.mono ?_
             rintro e w7 ⟨rfl, k7⟩
             have k8 := k7.aside (Keep.alloc w7 (.cells #[.int .i64 0, .int .i64 pn] 49) (fun _ => False))
             have t0 := k8.cell r0 (fun q => q)
             have t1 := k8.cell r1 (fun q => q)
             have K8 := Lib.hid (KW.out.aside k8)
             clear k7 k8 hu)
          | (go_at_call 35
             refine (mknown_c _).mono ?_
             rintro e w9 ⟨rfl, hk9⟩
             have M9 := Lib.hid (K8.out.aside hk9)
             clear hk9))
        go_ret
        exact ⟨by simp, M9.out.below (Nat.le_refl _) (fun _ q => q.elim)⟩

end Go.Proofs.Ytemoickagefjmaa
