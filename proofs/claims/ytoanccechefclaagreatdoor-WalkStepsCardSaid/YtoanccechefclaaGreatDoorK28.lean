/-
  Parts of the walk's proof: WalkB. (joined by pack.py)
-/
import Derived.Test.YtoanccechefclaaGreatDoorK26
set_option linter.unusedSectionVars false
set_option linter.unusedSimpArgs false
set_option linter.unusedVariables false
namespace Go.Proofs.YtoanccechefclaaGreatDoor
open Go Go.RowKit Go.Shelf
set_option maxRecDepth 100000
attribute [local go_sem] Oper.semAt_some
structure EnvAt (w : World) (tb mb : Nat) (s : TShape) (S : Nat → Prop) (E : WkE) : Prop where
  tree : TreeIn w tb s E.T
  small : E.T.small 1000000
  tab : TableAt w mb S E.M
theorem EnvAt.keep {w w' : World} {tb mb : Nat} {s : TShape} {S U : Nat → Prop} {E : WkE} (h : EnvAt w tb mb s S E) (K : Keep w w' U) (h1 : ∀ b, s.has b → ¬ U b) (h2 : ∀ b, S b → ¬ U b) : EnvAt w' tb mb s S E :=
  ⟨h.tree.keep K h1, h.small, h.tab.keep K h2⟩
theorem EnvAt.aside {w w' : World} {tb mb : Nat} {s : TShape} {S : Nat → Prop} {E : WkE} (h : EnvAt w tb mb s S E) (K : Keep w w' (fun _ => False)) : EnvAt w' tb mb s S E := h.keep K (fun _ _ q => q) (fun _ _ q => q)
structure WkW (w : World) (wb tb mb : Nat) (s : TShape) (S : Nat → Prop) (E : WkE) (v : WkV) : Prop where
  env : EnvAt w tb mb s S E
  wk : WkAt w wb tb mb E v
  n1 : ¬ s.has wb
  n2 : ¬ S wb
theorem WkW.turn {w w' : World} {wb tb mb : Nat} {s : TShape} {S : Nat → Prop} {E : WkE} {v v' : WkV} (h : WkW w wb tb mb s S E v) (K : Keep w w' (fun b => b = wb)) (h2 : WkAt w' wb tb mb E v') : WkW w' wb tb mb s S E v' :=
  ⟨h.env.keep K (fun b q z => h.n1 (by rw [← show b = wb from z]; exact q)) (fun b q z => h.n2 (by rw [← show b = wb from z]; exact q)), h2, h.n1, h.n2⟩
theorem WkW.aside {w w' : World} {wb tb mb : Nat} {s : TShape} {S : Nat → Prop} {E : WkE} {v : WkV} (h : WkW w wb tb mb s S E v) (K : Keep w w' (fun _ => False)) : WkW w' wb tb mb s S E v :=
  ⟨h.env.aside K, h.wk.aside K, h.n1, h.n2⟩
def mbelow (V : MountV) (m : Int) : Nat := (V.live.filter fun x => decide (x.1 < m)).length
theorem mbelow_le (V : MountV) (m : Int) : mbelow V m ≤ V.live.length := List.length_filter_le _ _
theorem mbelow_lt {V : MountV} (h : V.ok) {m n a b : Int} (hu : V.up m n = (a, b, true)) : mbelow V a < mbelow V m := by
  unfold MountV.up at hu
  cases hg : aget V.live m with
  | none => rw [hg] at hu; simp at hu
  | some x =>
    rw [hg] at hu
    simp only at hu
    split at hu
    · simp at hu
    · rename_i hz
      simp only [Prod.mk.injEq] at hu
      obtain ⟨rfl, -, -⟩ := hu
      have h1 := h.range _ (aget_memM hg)
      obtain ⟨h2, h3⟩ := h.at_ _ (aget_memM hg) (by simp only at h1 ⊢; omega)
      simp only at h2
      unfold mbelow
      obtain ⟨y, hy, e⟩ := List.mem_map.1 h3
      simp only at e
      have hsub : (V.live.filter fun z => decide (z.1 < x.am)).length = ((V.live.filter fun z => decide (z.1 < m)).filter fun z => decide (z.1 < x.am)).length := by
        rw [List.filter_filter]
        congr 1
        apply List.filter_congr
        intro z _
        by_cases q : z.1 < x.am
        · simp [q, show z.1 < m by omega]
        · simp [q]
      rw [hsub]
      exact List.length_filter_lt_length_iff_exists.2 ⟨y, List.mem_filter.2 ⟨hy, by simp; omega⟩, by simp; omega⟩
theorem wupF_more {E : WkE} (h : E.M.ok) : ∀ (k : Nat) (m n : Int), mbelow E.M m ≤ k → wupF E k m n = wupF E (mbelow E.M m) m n
  | 0, m, n, hk => by rw [show mbelow E.M m = 0 by omega]
  | k + 1, m, n, hk => by
    obtain ⟨a, b, c, hu⟩ : ∃ a b c, E.M.up m n = (a, b, c) := ⟨_, _, _, rfl⟩
    cases c with
    | false =>
      have h1 : ∀ j, wupF E j m n = ((m, n), false) := fun j => by
        cases j with
        | zero => rfl
        | succ j => simp only [wupF, hu]
      rw [h1, h1]
    | true =>
      have hl := mbelow_lt h hu
      obtain ⟨r, hr⟩ : ∃ r, mbelow E.M m = r + 1 := ⟨mbelow E.M m - 1, by omega⟩
      rw [hr]
      simp only [wupF, hu]
      rw [wupF_more h k a b (by omega), wupF_more h r a b (by omega)]
  termination_by k => k
theorem wupF_step {E : WkE} (h : E.M.ok) {m n a b : Int} (hu : E.M.up m n = (a, b, true)) : wupF E (mbelow E.M m) m n = if E.M.down a b = (E.rm, E.rn) then ((E.rm, E.rn), true) else wupF E (mbelow E.M a) a b := by
  have hl := mbelow_lt h hu
  obtain ⟨r, hr⟩ : ∃ r, mbelow E.M m = r + 1 := ⟨mbelow E.M m - 1, by omega⟩
  rw [hr]
  simp only [wupF, hu]
  rw [wupF_more h r a b (by omega)]
theorem wupF_stop {E : WkE} {m n a b : Int} (hu : E.M.up m n = (a, b, false)) (k : Nat) : wupF E k m n = ((m, n), false) := by
  cases k with
  | zero => rfl
  | succ k => simp only [wupF, hu]
def plV (a b : Int) : Value := .agg #[.int .i64 a, .int .i64 b]
theorem place_eq (a b c d : Int) (W : World) : (binOp .eql 38 (.agg #[.int .i64 a, .int .i64 b]) (.agg #[.int .i64 c, .int .i64 d])).run Tryz.prog W = .ok (.bool (decide ((a, b) = (c, d)))) W := by
  by_cases h1 : a = c <;> by_cases h2 : b = d <;> simp [go_sem, h1, h2]
def plO (a b : Int) : Obj := .cells #[.int .i64 a, .int .i64 b] 38 (0, 0)
theorem plO_cells {w : World} {nb : Nat} {a b : Int} (h : w.heap[nb]? = some (plO a b)) : w.cell? ⟨nb, 0, none⟩ = some (.int .i64 a) ∧ w.cell? ⟨nb, 1, none⟩ = some (.int .i64 b) ∧ w.frozen? ⟨nb, 0, none⟩ = false ∧ w.frozen? ⟨nb, 1, none⟩ = false :=
  ⟨by rw [cell_blk h]; rfl, by rw [cell_blk h]; rfl, free_blk h 0, free_blk h 1⟩
theorem mup_k {w : World} {mb : Nat} {S : Nat → Prop} {V : MountV} (h : TableAt w mb S V) {m n a b : Int} {c : Bool} (hu : V.up m n = (a, b, c)) : ∀ w1, Keep w w1 (fun _ => False) →
    Calls Tryz.prog 141 #[.pointer (some ⟨mb, 0, none⟩), .agg #[.int .i64 m, .int .i64 n]] w1 fun e w' => e = .returned (.tuple #[.agg #[.int .i64 a, .int .i64 b], .bool c]) ∧ Keep w1 w' (fun _ => False) ∧ Keep w w' (fun _ => False) := by
  intro w1 K
  have h1 := mup_c (h.aside K) m n
  rw [hu] at h1
  refine h1.mono ?_
  rintro e w2 ⟨rfl, k⟩
  exact ⟨rfl, k, K.aside k⟩
theorem mdown_k {w : World} {mb : Nat} {S : Nat → Prop} {V : MountV} (h : TableAt w mb S V) {m n a b : Int} (hu : V.down m n = (a, b)) : ∀ w1, Keep w w1 (fun _ => False) →
    Calls Tryz.prog 21 #[.pointer (some ⟨mb, 0, none⟩), .agg #[.int .i64 m, .int .i64 n]] w1 fun e w' => e = .returned (.agg #[.int .i64 a, .int .i64 b]) ∧ Keep w1 w' (fun _ => False) ∧ Keep w w' (fun _ => False) := by
  intro w1 K
  have h1 := mdown_c (h.aside K) m n
  rw [hu] at h1
  refine h1.mono ?_
  rintro e w2 ⟨rfl, k⟩
  exact ⟨rfl, k, K.aside k⟩
theorem WkAt.setAt {w : World} {wb tb mb : Nat} {E : WkE} {v : WkV} (h : WkAt w wb tb mb E v) (a b : Int) :
    WkAt ((w.setCell ⟨wb, 7, none⟩ (.int .i64 a)).setCell ⟨wb, 8, none⟩ (.int .i64 b)) wb tb mb E { v with m := a, n := b } ∧ Keep w ((w.setCell ⟨wb, 7, none⟩ (.int .i64 a)).setCell ⟨wb, 8, none⟩ (.int .i64 b)) (fun x => x = wb) := by
  obtain ⟨la, lc, h1, h2, h3, h4⟩ := h.ex
  have s := sets_at [(7, .int .i64 a), (8, .int .i64 b)] h1
  have K := sets_keep (b := wb) [(7, .int .i64 a), (8, .int .i64 b)] w
  simp only [sets] at s K
  exact ⟨⟨la, lc, by simpa [setAll, wkC] using s, h2.keep K h3, h3, h4⟩, K⟩
set_option maxHeartbeats 8000000 in
theorem up_c {w : World} {wb tb mb : Nat} {s : TShape} {S : Nat → Prop} {E : WkE} {v : WkV} (h : WkW w wb tb mb s S E v) :
    Calls Tryz.prog 124 #[.pointer (some ⟨wb, 0, none⟩)] w fun e w' => (∃ u, e = .returned u) ∧ WkAt w' wb tb mb E { v with m := (wup E v.m v.n).1, n := (wup E v.m v.n).2 } ∧ Keep w w' (fun b => b = wb) := by
  obtain ⟨la, lc, h1, h2, h3, h4⟩ := h.wk.ex
  obtain ⟨t0, t1, t2, t3, t4, t5, t6, t7, t8, t9, t10, t11, t12, t13, t14, t15, t16, t17, t18, t19⟩ := wkCells h1
  have H := Lib.hid h
  clear h h1 h2 h3 h4
  by_cases hroot : (v.m, v.n) = (E.rm, E.rn)
  · have e1 : v.m = E.rm := congrArg Prod.fst hroot
    have e2 : v.n = E.rn := congrArg Prod.snd hroot
    have hw : wup E v.m v.n = (v.m, v.n) := by unfold wup; rw [if_pos hroot]
    rw [hw]
    have hpe := place_eq v.m v.n E.rm E.rn
    rw [decide_eq_true hroot] at hpe
    clear hroot hw e1 e2
    go_enter Tryz.func124, Tryz.ntmps124
    go_upto_region 0 with (fail)
    go_region
    go_wp2
    refine bodyPost_ret (results_none rfl _ _ _) rfl ?_
    have k := Keep.drew w (fun _ => False)
    exact ⟨⟨_, rfl⟩, H.out.wk.aside k, k.mono (fun _ q => q.elim)⟩
  · have hw : wup E v.m v.n = wupEnd E (wupF E (mbelow E.M v.m) v.m v.n) := by
      unfold wup
      rw [if_neg hroot, wupF_more H.out.env.tab.ok _ _ _ (mbelow_le E.M v.m)]
    have HW := Lib.hid hw
    have hpe := place_eq v.m v.n E.rm E.rn
    rw [decide_eq_false hroot] at hpe
    obtain ⟨a, b, c, hu⟩ : ∃ a b c, E.M.up v.m v.n = (a, b, c) := ⟨_, _, _, rfl⟩
    have HU := Lib.hid hu
    obtain ⟨R, hR⟩ : ∃ R, wup E v.m v.n = R := ⟨_, rfl⟩
    rw [hR] at HW
    rw [hR]
    clear hroot hw hR
    go_enter Tryz.func124, Tryz.ntmps124
    go_upto_region 0 with (fail)
    go_region
    go_upto_region 1 with (fail)
    obtain ⟨W0, hW0⟩ : ∃ W0, W0 = w.drew := ⟨_, rfl⟩
    have k0 : Keep w W0 (fun _ => False) := by rw [hW0]; exact Keep.drew _ _
    rw [← hW0]
    clear hW0
    replace t0 := k0.cell t0 (fun q => q)
    replace t1 := k0.cell t1 (fun q => q)
    replace t4 := k0.cell t4 (fun q => q)
    replace t5 := k0.cell t5 (fun q => q)
    replace t7 := k0.cell t7 (fun q => q)
    replace t8 := k0.cell t8 (fun q => q)
    have hv1 := mup_k (H.out.env.aside k0).tab hu
    clear hu
    have K0 := Lib.hid k0
    clear k0 t2 t3 t6 t9 t10 t11 t12 t13 t14 t15 t16 t17 t18 t19
    have n0 := World.new_ne W0 _ t0
    have n1 := World.new_ne W0 _ t1
    have n7 := World.new_ne W0 _ t7
    have n8 := World.new_ne W0 _ t8
    go_cut [2, 3] (fun s2 s3 wx => ∃ nb, s2 = .pointer (some ⟨nb, 0, none⟩) ∧ s3 = .bool c ∧ Keep w wx (fun _ => False) ∧ wx.heap[nb]? = some (plO a b) ∧ w.heap.size ≤ nb)
    case first =>
      go_region_held3 (fun w' => w'.cell? ⟨wb, 1, none⟩ = some (.pointer (some ⟨mb, 0, none⟩)) ∧ w'.cell? ⟨wb, 7, none⟩ = some (.int .i64 v.m) ∧ w'.cell? ⟨wb, 8, none⟩ = some (.int .i64 v.n)) (go_keep) (
        (go_at_call 141
         refine (hv1 _ ?_).mono ?_
         · repeat (first | exact Keep.refl _ _ | exact Keep.drew _ _ | refine Keep.allocNew ?_ _ | refine Keep.drewNew ?_)
         rintro e w7 ⟨rfl, k7, kw⟩
         have q0 := kw.cell t1 (fun q => q)
         have q1 := kw.cell t7 (fun q => q)
         have q2 := kw.cell t8 (fun q => q)
         try (have z0 : w7.heap[W0.heap.size]? = some (plO 0 0) := k7.get (heap_alloc_eq W0.drew _) (fun q => q))
         try (have zc0 : w7.cell? ⟨W0.heap.size, 0, none⟩ = some (.int .i64 0) := by rw [cell_blk z0]; rfl)
         try (have zc1 : w7.cell? ⟨W0.heap.size, 1, none⟩ = some (.int .i64 0) := by rw [cell_blk z0]; rfl)
         try (have zf0 := free_blk z0 0)
         try (have zf1 := free_blk z0 1)))
      all_goals go_wp2
      all_goals go_meet
      all_goals first
        | exact ⟨_, rfl, rfl, K0.out.aside (kw.aside (Keep.alloc w7 _ _)), heap_alloc_eq w7 _, by have := K0.out.size; have := kw.size; omega⟩
        | (have s := sets_at [(0, .int .i64 a), (1, .int .i64 b)] z0
           have k := sets_keep (b := W0.heap.size) [(0, .int .i64 a), (1, .int .i64 b)] w7
           simp only [sets] at s k
           exact ⟨_, rfl, rfl, (K0.out.aside kw).trans k (fun x q => .inr (by have := K0.out.size; omega)), by simpa [setAll, plO] using s, K0.out.size⟩)
    case rest =>
      obtain ⟨nb, rfl, rfl, k1, b1, hnb⟩ := hcut
      clear hv1 t0 t1 t4 t5 t7 t8 n0 n1 n7 n8 hpe
      have A0 : Hid (Keep w wc (fun b => b = wb) ∧ WkAt wc wb tb mb E v ∧ wc.heap[nb]? = some (plO a b) ∧ w.heap.size ≤ nb) := Lib.hid ⟨k1.mono (fun _ q => q.elim), H.out.wk.aside k1, b1, hnb⟩
      clear k1 b1 hnb
      go_wp2_with fail
      go_loopg [2, 3] (mbelow E.M v.m) (fun g s2 s3 wr => ∃ m n nb a b c, s2 = .pointer (some ⟨nb, 0, none⟩) ∧ s3 = .bool c ∧ E.M.up m n = (a, b, c) ∧ g = mbelow E.M m ∧ wupF E (mbelow E.M m) m n = wupF E (mbelow E.M v.m) v.m v.n ∧
        Keep w wr (fun b => b = wb) ∧ WkAt wr wb tb mb E { v with m := m, n := n } ∧ wr.heap[nb]? = some (plO a b) ∧ w.heap.size ≤ nb)
      case atStart => exact ⟨v.m, v.n, nb, a, b, c, rfl, rfl, HU.out, rfl, rfl, A0.out⟩
      case round =>
        clear A0 HU K0
        obtain ⟨m, n, nb, a, b, c, rfl, rfl, hu, rfl, hwu, hk, hat, hb, hnb⟩ := hrel
        obtain ⟨wo, hwo⟩ : ∃ wo : World, wo = wr := ⟨_, rfl⟩
        subst hwo
        have A := Lib.hid (And.intro hk (And.intro hat (And.intro hb (And.intro hnb (And.intro hu hwu)))))
        obtain ⟨la, lc, h1, -⟩ := hat.ex
        obtain ⟨t0, t1, t2, t3, t4, t5, t6, t7, t8, t9, t10, t11, t12, t13, t14, t15, t16, t17, t18, t19⟩ := wkCells h1
        have f7 := free_blk h1 7
        have f8 := free_blk h1 8
        obtain ⟨p0, p1, p2, p3⟩ := plO_cells hb
        have hne : ¬ nb = wb := by have := H.out.wk.lt; omega
        have hne2 : ¬ wb = nb := fun q => hne q.symm
        clear hk hat hb hnb hu hwu h1 t2 t3 t6 t9 t10 t11 t12 t13 t14 t15 t16 t17 t18 t19
        cases c with
        | true =>
          -- {{
          go_upto_region 5 with (fail)
          obtain ⟨hW1, kW1⟩ := A.out.2.1.setAt a b
          obtain ⟨W1, hWe⟩ : ∃ W1, W1 = (wo.setCell ⟨wb, 7, none⟩ (.int .i64 a)).setCell ⟨wb, 8, none⟩ (.int .i64 b) := ⟨_, rfl⟩
          rw [← hWe] at hW1 kW1 ⊢
          clear hWe
          have hb1 := kW1.get A.out.2.2.1 hne
          have hk1 : Keep w W1 (fun x => x = wb) := A.out.1.trans kW1 (fun x q => .inl q)
          have hX : WkW W1 wb tb mb s S E { v with m := a, n := b } := H.out.turn hk1 hW1
          obtain ⟨la, lc, h1, -⟩ := hW1.ex
          have y1 := (wkCells h1).m
          have y4 := (wkCells h1).c4
          have y5 := (wkCells h1).c5
          obtain ⟨p0, p1, p2, p3⟩ := plO_cells hb1
          obtain ⟨d1, d2, hd⟩ : ∃ d1 d2, E.M.down a b = (d1, d2) := ⟨_, _, rfl⟩
          have hdn := mdown_k hX.env.tab hd
          have hpe := place_eq d1 d2 E.rm E.rn
          obtain ⟨q, hq⟩ : ∃ q, decide ((d1, d2) = (E.rm, E.rn)) = q := ⟨_, rfl⟩
          rw [hq] at hpe
          have B := Lib.hid (And.intro hk1 (And.intro hX (And.intro hb1 (And.intro hd hq))))
          clear hk1 hX hb1 hd hq hW1 kW1 h1 t0 t1 t4 t5 t7 t8 f7 f8
          have n1 := World.new_ne W1 _ y1
          have n2 := World.new_ne W1 _ p0
          go_cut [49] (fun s49 wx => s49 = .bool q ∧ Keep W1 wx (fun _ => False))
          case first =>
            go_region_held3 (fun w' => w'.cell? ⟨wb, 1, none⟩ = some (.pointer (some ⟨mb, 0, none⟩)) ∧ w'.cell? ⟨nb, 0, none⟩ = some (.int .i64 a) ∧ w'.cell? ⟨nb, 1, none⟩ = some (.int .i64 b) ∧ w'.cell? ⟨wb, 4, none⟩ = some (.int .i64 E.rm) ∧ w'.cell? ⟨wb, 5, none⟩ = some (.int .i64 E.rn)) (go_keep) (
              (go_at_call 21
               refine (hdn _ ?_).mono ?_
               · repeat (first | exact Keep.refl _ _ | exact Keep.drew _ _ | refine Keep.allocNew ?_ _ | refine Keep.drewNew ?_)
               rintro e w7 ⟨rfl, k7, kw⟩
               have q0 := kw.cell y1 (fun q => q)
               have q1 := kw.cell p0 (fun q => q)
               have q2 := kw.cell p1 (fun q => q)
               have q3 := kw.cell y4 (fun q => q)
               have q4 := kw.cell y5 (fun q => q)))
            all_goals go_wp2
            all_goals go_meet
            all_goals exact ⟨rfl, kw⟩
          case rest =>
            obtain ⟨wq, hwq⟩ : ∃ wq : World, wq = wc := ⟨_, rfl⟩
            subst hwq
            obtain ⟨rfl, kx⟩ := hcut
            have hXc := B.out.2.1.aside kx
            have hbc := kx.get B.out.2.2.1 (fun q => q)
            have hkc := B.out.1.trans kx (fun _ q => q.elim)
            obtain ⟨la, lc, h1, -⟩ := hXc.wk.ex
            have t0 := (wkCells h1).t
            have t1 := (wkCells h1).m
            have t4 := (wkCells h1).c4
            have t5 := (wkCells h1).c5
            have t7 := (wkCells h1).c7
            have t8 := (wkCells h1).c8
            have f7 := free_blk h1 7
            have f8 := free_blk h1 8
            simp only at t7 t8
            obtain ⟨g0, g1, g2, g3⟩ := plO_cells hbc
            have C := Lib.hid (And.intro hkc (And.intro hXc hbc))
            clear hkc hXc hbc kx h1 y1 y4 y5 p0 p1 p2 p3 hdn n1 n2 hpe
            cases q with
            | true =>
              go_wp2
              refine bodyPost_ret (results_none rfl _ _ _) rfl ?_
              obtain ⟨hW2, kW2⟩ := C.out.2.1.wk.setAt E.rm E.rn
              have hR : R = (E.rm, E.rn) := by
                rw [HW.out, ← A.out.2.2.2.2.2, wupF_step H.out.env.tab.ok A.out.2.2.2.2.1, if_pos (by rw [B.out.2.2.2.1]; exact of_decide_eq_true B.out.2.2.2.2)]
                rfl
              rw [hR]
              exact ⟨⟨_, rfl⟩, hW2, C.out.1.trans kW2 (fun x q => .inl q)⟩
            | false =>
              go_upto_region 3 with (fail)
              obtain ⟨W2, hWe⟩ : ∃ W2, W2 = wq.alloc (plO a b) := ⟨_, rfl⟩
              have ka := Keep.alloc wq (plO a b) (fun _ => False)
              have ba := heap_alloc_eq wq (plO a b)
              rw [← hWe] at ka ba
              unfold plO at hWe
              rw [← hWe]
              clear hWe
              obtain ⟨a2, b2, c2, hu2⟩ : ∃ a2 b2 c2, E.M.up a b = (a2, b2, c2) := ⟨_, _, _, rfl⟩
              have hv2 := mup_k (C.out.2.1.aside ka).env.tab hu2
              have z1 := ka.cell t1 (fun q => q)
              obtain ⟨r0, r1, r2, r3⟩ := plO_cells ba
              have hzz : w.heap.size ≤ wq.heap.size := C.out.1.size
              have D := Lib.hid (And.intro ka (And.intro ba (And.intro hu2 hzz)))
              clear ka ba hu2 hzz t0 t1 t4 t5 t7 t8 f7 f8 g0 g1 g2 g3
              go_cut [3] (fun s3 wx => s3 = .bool c2 ∧ Keep W2 wx (fun x => x = wq.heap.size) ∧ wx.heap[wq.heap.size]? = some (plO a2 b2))
              case first =>
                go_region_with (
                  go_at_call 141
                  refine (hv2 _ ?_).mono ?_
                  · repeat (first | exact Keep.refl _ _ | exact Keep.drew _ _ | refine Keep.allocNew ?_ _ | refine Keep.drewNew ?_)
                  rintro e w7 ⟨rfl, k7, kw⟩
                  have z0 := kw.get D.out.2.1 (fun q => q)
                  obtain ⟨q0, q1, q2, q3⟩ := plO_cells z0)
                all_goals go_wp2
                all_goals go_meet
                all_goals
                  have s := sets_at [(0, .int .i64 a2), (1, .int .i64 b2)] z0
                  have k := sets_keep (b := wq.heap.size) [(0, .int .i64 a2), (1, .int .i64 b2)] w7
                  simp only [sets] at s k
                  exact ⟨rfl, (kw.mono (fun _ q => q.elim)).trans k (fun x q => .inl q), by simpa [setAll, plO] using s⟩
              case rest =>
                obtain ⟨rfl, kz, bz⟩ := hcut
                have kE : Keep wq wc (fun _ => False) := D.out.1.trans kz (fun x q => .inr (by omega))
                have Z := Lib.hid (And.intro (C.out.1.trans kE (fun _ q => q.elim)) (And.intro (C.out.2.1.aside kE).wk bz))
                clear kz bz kE z1 r0 r1 r2 r3 hv2
                go_wp2
                go_roundg (mbelow E.M a)
                case measure => exact mbelow_lt H.out.env.tab.ok A.out.2.2.2.2.1
                case rel =>
                  refine ⟨a, b, wq.heap.size, a2, b2, c2, rfl, rfl, D.out.2.2.1, rfl, ?_, Z.out.1, Z.out.2.1, Z.out.2.2, D.out.2.2.2⟩
                  rw [← A.out.2.2.2.2.2, wupF_step H.out.env.tab.ok A.out.2.2.2.2.1, if_neg (by rw [B.out.2.2.2.1]; exact of_decide_eq_false B.out.2.2.2.2)]
          -- }}
        | false =>
          have hX : WkW wo wb tb mb s S E { v with m := m, n := n } := H.out.turn A.out.1 A.out.2.1
          have hup := fun w1 (K : Keep wo w1 (fun _ => False)) => tup_c (hX.aside K).env.tree n
          obtain ⟨u, hue⟩ : ∃ u, E.T.upOf n = u := ⟨_, rfl⟩
          obtain ⟨d1, d2, hd⟩ : ∃ d1 d2, E.M.down m u = (d1, d2) := ⟨_, _, rfl⟩
          rw [hue] at hup
          have hdn := mdown_k hX.env.tab hd
          have hR : R = (d1, d2) := by
            rw [HW.out, ← A.out.2.2.2.2.2, wupF_stop A.out.2.2.2.2.1]
            show E.M.down m (E.T.upOf n) = _
            rw [hue, hd]
          have X := Lib.hid (And.intro hX hR)
          clear hX hue hd hR
          go_upto_region 9 with (fail)
          refine wp_region_held_drew (S := fun w' => w'.cell? ⟨wb, 0, none⟩ = some (.pointer (some ⟨tb, 0, none⟩)) ∧ w'.cell? ⟨wb, 1, none⟩ = some (.pointer (some ⟨mb, 0, none⟩))) (by kernel_rfl) ⟨t0, t1⟩ (fun hHeld => ?_)
          refine wpAnyH_take (i := 0) (v := ?_) rfl (by kernel_rfl) (by kernel_rfl) (by kernel_rfl) (fun _ _ _ h => h) (Or.inl ⟨by rfl, ?_⟩) (by assumption) ?_
          rotate_left
          · intro w hSw; (try dsimp only at hSw); go_simp; try with_reducible rfl
          try simp only [Act.put, List.setIfInBounds_toArray, List.set_cons_zero, List.set_cons_succ, List.getElem_toArray, List.getElem_cons_zero, List.getElem_cons_succ]
          refine wpAnyH_take (i := 1) (v := ?_) rfl (by kernel_rfl) (by kernel_rfl) (by kernel_rfl) (fun _ _ _ h => h) (Or.inl ⟨by rfl, ?_⟩) (by assumption) ?_
          rotate_left
          · intro w hSw; (try dsimp only at hSw); go_simp; try with_reducible rfl
          try simp only [Act.put, List.setIfInBounds_toArray, List.set_cons_zero, List.set_cons_succ, List.getElem_toArray, List.getElem_cons_zero, List.getElem_cons_succ]
          refine wpAnyH_take (i := 2) (v := ?_) rfl (by kernel_rfl) (by kernel_rfl) (by kernel_rfl) (fun _ _ _ h => h) (Or.inl ⟨by rfl, ?_⟩) (by assumption) ?_
          rotate_left
          · intro w hSw; (try dsimp only at hSw); go_simp; try with_reducible rfl
          try simp only [Act.put, List.setIfInBounds_toArray, List.set_cons_zero, List.set_cons_succ, List.getElem_toArray, List.getElem_cons_zero, List.getElem_cons_succ]
          refine wpAnyH_take (i := 3) (v := ?_) rfl (by kernel_rfl) (by kernel_rfl) (by kernel_rfl) (fun _ _ _ h => h) (Or.inl ⟨by rfl, ?_⟩) (by assumption) ?_
          rotate_left
          · intro w hSw; (try dsimp only at hSw); go_simp; try with_reducible rfl
          try simp only [Act.put, List.setIfInBounds_toArray, List.set_cons_zero, List.set_cons_succ, List.getElem_toArray, List.getElem_cons_zero, List.getElem_cons_succ]
          refine wpAnyH_take (i := 4) (v := ?_) rfl (by kernel_rfl) (by kernel_rfl) (by kernel_rfl) (fun _ _ _ h => h) (Or.inl ⟨by rfl, ?_⟩) (by assumption) ?_
          rotate_left
          · intro w hSw; (try dsimp only at hSw); go_simp; try with_reducible rfl
          try simp only [Act.put, List.setIfInBounds_toArray, List.set_cons_zero, List.set_cons_succ, List.getElem_toArray, List.getElem_cons_zero, List.getElem_cons_succ]
          refine wpAnyH_take (i := 5) (v := ?_) rfl (by kernel_rfl) (by kernel_rfl) (by kernel_rfl) (fun _ _ _ h => h) (Or.inl ⟨by rfl, ?_⟩) (by assumption) ?_
          rotate_left
          · intro w hSw; (try dsimp only at hSw); go_simp; try with_reducible rfl
          try simp only [Act.put, List.setIfInBounds_toArray, List.set_cons_zero, List.set_cons_succ, List.getElem_toArray, List.getElem_cons_zero, List.getElem_cons_succ]
          refine wpAnyH_take (i := 6) (v := ?_) rfl (by kernel_rfl) (by kernel_rfl) (by kernel_rfl) (fun _ _ _ h => h) (Or.inl ⟨by rfl, ?_⟩) (by assumption) ?_
          rotate_left
          · intro w hSw; (try dsimp only at hSw); go_simp; try with_reducible rfl
          try simp only [Act.put, List.setIfInBounds_toArray, List.set_cons_zero, List.set_cons_succ, List.getElem_toArray, List.getElem_cons_zero, List.getElem_cons_succ]
          refine wpAnyH_take (i := 7) (v := ?_) rfl (by kernel_rfl) (by kernel_rfl) (by kernel_rfl) (fun _ _ _ h => h) (Or.inl ⟨by rfl, ?_⟩) (by assumption) ?_
          rotate_left
          · intro w hSw; (try dsimp only at hSw); go_simp; try with_reducible rfl
          try simp only [Act.put, List.setIfInBounds_toArray, List.set_cons_zero, List.set_cons_succ, List.getElem_toArray, List.getElem_cons_zero, List.getElem_cons_succ]
          refine wpAnyH_take (i := 8) (v := ?_) rfl (by kernel_rfl) (by kernel_rfl) (by kernel_rfl) (fun _ _ _ h => h) (Or.inl ⟨by rfl, ?_⟩) (by assumption) ?_
          rotate_left
          · intro w hSw; (try dsimp only at hSw); go_simp; try with_reducible rfl
          try simp only [Act.put, List.setIfInBounds_toArray, List.set_cons_zero, List.set_cons_succ, List.getElem_toArray, List.getElem_cons_zero, List.getElem_cons_succ]
          refine wpAnyH_take (i := 10) (v := ?_) rfl (by kernel_rfl) (by kernel_rfl) (by kernel_rfl) (fun _ _ _ h => h) (Or.inl ⟨by rfl, ?_⟩) (by assumption) ?_
          rotate_left
          · intro w hSw; (try dsimp only at hSw); go_simp; try with_reducible rfl
          try simp only [Act.put, List.setIfInBounds_toArray, List.set_cons_zero, List.set_cons_succ, List.getElem_toArray, List.getElem_cons_zero, List.getElem_cons_succ]
          refine wpAnyH_take (i := 11) (v := ?_) rfl (by kernel_rfl) (by kernel_rfl) (by kernel_rfl) (fun _ _ _ h => h) (Or.inl ⟨by rfl, ?_⟩) (by assumption) ?_
          rotate_left
          · intro w hSw; (try dsimp only at hSw); go_simp; try with_reducible rfl
          try simp only [Act.put, List.setIfInBounds_toArray, List.set_cons_zero, List.set_cons_succ, List.getElem_toArray, List.getElem_cons_zero, List.getElem_cons_succ]
          refine wpAnyH_take (i := 12) (v := ?_) rfl (by kernel_rfl) (by kernel_rfl) (by kernel_rfl) (fun _ _ _ h => h) (Or.inl ⟨by rfl, ?_⟩) (by assumption) ?_
          rotate_left
          · intro w hSw; (try dsimp only at hSw); go_simp; try with_reducible rfl
          try simp only [Act.put, List.setIfInBounds_toArray, List.set_cons_zero, List.set_cons_succ, List.getElem_toArray, List.getElem_cons_zero, List.getElem_cons_succ]
          refine wpAnyH_take (i := 13) (v := ?_) rfl (by kernel_rfl) (by kernel_rfl) (by kernel_rfl) (fun _ _ _ h => h) (Or.inl ⟨by rfl, ?_⟩) (by assumption) ?_
          rotate_left
          · intro w hSw; (try dsimp only at hSw); go_simp; try with_reducible rfl
          try simp only [Act.put, List.setIfInBounds_toArray, List.set_cons_zero, List.set_cons_succ, List.getElem_toArray, List.getElem_cons_zero, List.getElem_cons_succ]
          refine wpAnyH_take (i := 14) (v := ?_) rfl (by kernel_rfl) (by kernel_rfl) (by kernel_rfl) (fun _ _ _ h => h) (Or.inl ⟨by rfl, ?_⟩) (by assumption) ?_
          rotate_left
          · intro w hSw; (try dsimp only at hSw); go_simp; try with_reducible rfl
          try simp only [Act.put, List.setIfInBounds_toArray, List.set_cons_zero, List.set_cons_succ, List.getElem_toArray, List.getElem_cons_zero, List.getElem_cons_succ]
          refine wpAnyH_take (i := 15) (v := ?_) rfl (by kernel_rfl) (by kernel_rfl) (by kernel_rfl) (fun _ _ _ h => h) (Or.inl ⟨by rfl, ?_⟩) (by assumption) ?_
          rotate_left
          · intro w hSw; (try dsimp only at hSw); go_simp; try with_reducible rfl
          try simp only [Act.put, List.setIfInBounds_toArray, List.set_cons_zero, List.set_cons_succ, List.getElem_toArray, List.getElem_cons_zero, List.getElem_cons_succ]
          refine wpAnyH_take (i := 16) (v := ?_) rfl (by kernel_rfl) (by kernel_rfl) (by kernel_rfl) (fun _ _ _ h => h) (Or.inl ⟨by rfl, ?_⟩) (by assumption) ?_
          rotate_left
          · intro w hSw; (try dsimp only at hSw); go_simp; try with_reducible rfl
          try simp only [Act.put, List.setIfInBounds_toArray, List.set_cons_zero, List.set_cons_succ, List.getElem_toArray, List.getElem_cons_zero, List.getElem_cons_succ]
          refine wpAnyH_take (i := 17) (v := ?_) rfl (by kernel_rfl) (by kernel_rfl) (by kernel_rfl) (fun _ _ _ h => h) (Or.inl ⟨by rfl, ?_⟩) (by assumption) ?_
          rotate_left
          · intro w hSw; (try dsimp only at hSw); go_simp; try with_reducible rfl
          try simp only [Act.put, List.setIfInBounds_toArray, List.set_cons_zero, List.set_cons_succ, List.getElem_toArray, List.getElem_cons_zero, List.getElem_cons_succ]
          refine wpAnyH_ready (rs := [9, 18]) (by kernel_rfl) (by simp) ?_
          refine AllReadyH.cons rfl (fun K hK => ?_) (AllReadyH.cons rfl (fun K hK => ?_) AllReadyH.nil)
          · go_simp
            refine hK.out _ _ ⟨t0, t1⟩ (fun hHeld => ?_)
            clear hK K
            try simp only [Act.put, List.setIfInBounds_toArray, List.set_cons_zero, List.set_cons_succ, List.getElem_toArray, List.getElem_cons_zero, List.getElem_cons_succ]
            refine wpAnyH_ready (rs := [18]) (by kernel_rfl) (by simp) ?_
            refine AllReadyH.cons rfl (fun K hK => ?_) AllReadyH.nil
            go_simp
            refine hK.out _ _ ⟨t0, t1⟩ (fun hHeld => ?_)
            clear hK K
            try simp only [Act.put, List.setIfInBounds_toArray, List.set_cons_zero, List.set_cons_succ, List.getElem_toArray, List.getElem_cons_zero, List.getElem_cons_succ]
            refine wpAnyH_ready (rs := [19]) (by kernel_rfl) (by simp) ?_
            refine AllReadyH.cons rfl (fun K hK => ?_) AllReadyH.nil
            go_simp
            refine (hup _ (by first | exact Keep.refl _ _ | exact Keep.drew _ _ | exact drewN_keep _ _ _)).mono ?_
            rintro e w7 ⟨rfl, rfl⟩
            refine hK.out _ _ ⟨t0, t1⟩ (fun hHeld => ?_)
            clear hK K
            try simp only [Act.put, List.setIfInBounds_toArray, List.set_cons_zero, List.set_cons_succ, List.getElem_toArray, List.getElem_cons_zero, List.getElem_cons_succ]
            refine wpAnyH_take (i := 20) (v := ?_) rfl (by kernel_rfl) (by kernel_rfl) (by kernel_rfl) (fun _ _ _ h => h) (Or.inl ⟨by rfl, ?_⟩) (by assumption) ?_
            rotate_left
            · intro w hSw; (try dsimp only at hSw); go_simp; try with_reducible rfl
            try simp only [Act.put, List.setIfInBounds_toArray, List.set_cons_zero, List.set_cons_succ, List.getElem_toArray, List.getElem_cons_zero, List.getElem_cons_succ]
            refine wpAnyH_ready (rs := [21]) (by kernel_rfl) (by simp) ?_
            refine AllReadyH.cons rfl (fun K hK => ?_) AllReadyH.nil
            go_simp
            refine (hdn _ (by first | exact Keep.refl _ _ | exact Keep.drew _ _ | exact drewN_keep _ _ _)).mono ?_
            rintro e w7 ⟨rfl, k7, kw⟩
            have q0 := kw.cell t0 (fun q => q)
            have q1 := kw.cell t1 (fun q => q)
            have q2 := kw.cell t7 (fun q => q)
            have q3 := kw.cell t8 (fun q => q)
            have hX7 := X.out.1.aside kw
            have q4 : w7.frozen? ⟨wb, 7, none⟩ = false := free_blk hX7.wk.ex.choose_spec.choose_spec.1 7
            have q5 : w7.frozen? ⟨wb, 8, none⟩ = false := free_blk hX7.wk.ex.choose_spec.choose_spec.1 8
            refine hK.out _ _ ⟨q0, q1⟩ (fun hHeld => ?_)
            clear hK K
            try simp only [Act.put, List.setIfInBounds_toArray, List.set_cons_zero, List.set_cons_succ, List.getElem_toArray, List.getElem_cons_zero, List.getElem_cons_succ]
            refine wpAnyH_take (i := 22) (v := ?_) rfl (by kernel_rfl) (by kernel_rfl) (by kernel_rfl) (fun _ _ _ h => h) (Or.inl ⟨by rfl, ?_⟩) (by assumption) ?_
            rotate_left
            · intro w hSw; (try dsimp only at hSw); go_simp; try with_reducible rfl
            try simp only [Act.put, List.setIfInBounds_toArray, List.set_cons_zero, List.set_cons_succ, List.getElem_toArray, List.getElem_cons_zero, List.getElem_cons_succ]
            refine wpAnyH_take (i := 23) (v := ?_) rfl (by kernel_rfl) (by kernel_rfl) (by kernel_rfl) (fun _ _ _ h => h) (Or.inl ⟨by rfl, ?_⟩) (by assumption) ?_
            rotate_left
            · intro w hSw; (try dsimp only at hSw); go_simp; try with_reducible rfl
            try simp only [Act.put, List.setIfInBounds_toArray, List.set_cons_zero, List.set_cons_succ, List.getElem_toArray, List.getElem_cons_zero, List.getElem_cons_succ]
            refine wpAnyH_ready (rs := [24]) (by kernel_rfl) (by simp) ?_
            refine AllReadyH.cons rfl (fun K hK => ?_) AllReadyH.nil
            go_simp
            refine hK.out _ _ ⟨by go_simp, by go_simp⟩ (fun hHeld => ?_)
            clear hK K
            try simp only [Act.put, List.setIfInBounds_toArray, List.set_cons_zero, List.set_cons_succ, List.getElem_toArray, List.getElem_cons_zero, List.getElem_cons_succ]
            refine wpAnyH_done (by kernel_rfl) ?_ _
            go_end0
            obtain ⟨hW2, kW2⟩ := hX7.wk.setAt d1 d2
            rw [X.out.2]
            exact ⟨⟨_, rfl⟩, hW2, (A.out.1.trans kw (fun _ q => q.elim)).trans kW2 (fun x q => .inl q)⟩
          · go_simp
            refine hK.out _ _ ⟨t0, t1⟩ (fun hHeld => ?_)
            clear hK K
            try simp only [Act.put, List.setIfInBounds_toArray, List.set_cons_zero, List.set_cons_succ, List.getElem_toArray, List.getElem_cons_zero, List.getElem_cons_succ]
            refine wpAnyH_ready (rs := [9, 19]) (by kernel_rfl) (by simp) ?_
            refine AllReadyH.cons rfl (fun K hK => ?_) (AllReadyH.cons rfl (fun K hK => ?_) AllReadyH.nil)
            · go_simp
              refine hK.out _ _ ⟨t0, t1⟩ (fun hHeld => ?_)
              clear hK K
              try simp only [Act.put, List.setIfInBounds_toArray, List.set_cons_zero, List.set_cons_succ, List.getElem_toArray, List.getElem_cons_zero, List.getElem_cons_succ]
              refine wpAnyH_ready (rs := [19]) (by kernel_rfl) (by simp) ?_
              refine AllReadyH.cons rfl (fun K hK => ?_) AllReadyH.nil
              go_simp
              refine (hup _ (by first | exact Keep.refl _ _ | exact Keep.drew _ _ | exact drewN_keep _ _ _)).mono ?_
              rintro e w7 ⟨rfl, rfl⟩
              refine hK.out _ _ ⟨t0, t1⟩ (fun hHeld => ?_)
              clear hK K
              try simp only [Act.put, List.setIfInBounds_toArray, List.set_cons_zero, List.set_cons_succ, List.getElem_toArray, List.getElem_cons_zero, List.getElem_cons_succ]
              refine wpAnyH_take (i := 20) (v := ?_) rfl (by kernel_rfl) (by kernel_rfl) (by kernel_rfl) (fun _ _ _ h => h) (Or.inl ⟨by rfl, ?_⟩) (by assumption) ?_
              rotate_left
              · intro w hSw; (try dsimp only at hSw); go_simp; try with_reducible rfl
              try simp only [Act.put, List.setIfInBounds_toArray, List.set_cons_zero, List.set_cons_succ, List.getElem_toArray, List.getElem_cons_zero, List.getElem_cons_succ]
              refine wpAnyH_ready (rs := [21]) (by kernel_rfl) (by simp) ?_
              refine AllReadyH.cons rfl (fun K hK => ?_) AllReadyH.nil
              go_simp
              refine (hdn _ (by first | exact Keep.refl _ _ | exact Keep.drew _ _ | exact drewN_keep _ _ _)).mono ?_
              rintro e w7 ⟨rfl, k7, kw⟩
              have q0 := kw.cell t0 (fun q => q)
              have q1 := kw.cell t1 (fun q => q)
              have q2 := kw.cell t7 (fun q => q)
              have q3 := kw.cell t8 (fun q => q)
              have hX7 := X.out.1.aside kw
              have q4 : w7.frozen? ⟨wb, 7, none⟩ = false := free_blk hX7.wk.ex.choose_spec.choose_spec.1 7
              have q5 : w7.frozen? ⟨wb, 8, none⟩ = false := free_blk hX7.wk.ex.choose_spec.choose_spec.1 8
              refine hK.out _ _ ⟨q0, q1⟩ (fun hHeld => ?_)
              clear hK K
              try simp only [Act.put, List.setIfInBounds_toArray, List.set_cons_zero, List.set_cons_succ, List.getElem_toArray, List.getElem_cons_zero, List.getElem_cons_succ]
              refine wpAnyH_take (i := 22) (v := ?_) rfl (by kernel_rfl) (by kernel_rfl) (by kernel_rfl) (fun _ _ _ h => h) (Or.inl ⟨by rfl, ?_⟩) (by assumption) ?_
              rotate_left
              · intro w hSw; (try dsimp only at hSw); go_simp; try with_reducible rfl
              try simp only [Act.put, List.setIfInBounds_toArray, List.set_cons_zero, List.set_cons_succ, List.getElem_toArray, List.getElem_cons_zero, List.getElem_cons_succ]
              refine wpAnyH_take (i := 23) (v := ?_) rfl (by kernel_rfl) (by kernel_rfl) (by kernel_rfl) (fun _ _ _ h => h) (Or.inl ⟨by rfl, ?_⟩) (by assumption) ?_
              rotate_left
              · intro w hSw; (try dsimp only at hSw); go_simp; try with_reducible rfl
              try simp only [Act.put, List.setIfInBounds_toArray, List.set_cons_zero, List.set_cons_succ, List.getElem_toArray, List.getElem_cons_zero, List.getElem_cons_succ]
              refine wpAnyH_ready (rs := [24]) (by kernel_rfl) (by simp) ?_
              refine AllReadyH.cons rfl (fun K hK => ?_) AllReadyH.nil
              go_simp
              refine hK.out _ _ ⟨by go_simp, by go_simp⟩ (fun hHeld => ?_)
              clear hK K
              try simp only [Act.put, List.setIfInBounds_toArray, List.set_cons_zero, List.set_cons_succ, List.getElem_toArray, List.getElem_cons_zero, List.getElem_cons_succ]
              refine wpAnyH_done (by kernel_rfl) ?_ _
              go_end0
              obtain ⟨hW2, kW2⟩ := hX7.wk.setAt d1 d2
              rw [X.out.2]
              exact ⟨⟨_, rfl⟩, hW2, (A.out.1.trans kw (fun _ q => q.elim)).trans kW2 (fun x q => .inl q)⟩
            · go_simp
              refine (hup _ (by first | exact Keep.refl _ _ | exact Keep.drew _ _ | exact drewN_keep _ _ _)).mono ?_
              rintro e w7 ⟨rfl, rfl⟩
              refine hK.out _ _ ⟨t0, t1⟩ (fun hHeld => ?_)
              clear hK K
              try simp only [Act.put, List.setIfInBounds_toArray, List.set_cons_zero, List.set_cons_succ, List.getElem_toArray, List.getElem_cons_zero, List.getElem_cons_succ]
              refine wpAnyH_ready (rs := [9]) (by kernel_rfl) (by simp) ?_
              refine AllReadyH.cons rfl (fun K hK => ?_) AllReadyH.nil
              go_simp
              refine hK.out _ _ ⟨t0, t1⟩ (fun hHeld => ?_)
              clear hK K
              try simp only [Act.put, List.setIfInBounds_toArray, List.set_cons_zero, List.set_cons_succ, List.getElem_toArray, List.getElem_cons_zero, List.getElem_cons_succ]
              refine wpAnyH_take (i := 20) (v := ?_) rfl (by kernel_rfl) (by kernel_rfl) (by kernel_rfl) (fun _ _ _ h => h) (Or.inl ⟨by rfl, ?_⟩) (by assumption) ?_
              rotate_left
              · intro w hSw; (try dsimp only at hSw); go_simp; try with_reducible rfl
              try simp only [Act.put, List.setIfInBounds_toArray, List.set_cons_zero, List.set_cons_succ, List.getElem_toArray, List.getElem_cons_zero, List.getElem_cons_succ]
              refine wpAnyH_ready (rs := [21]) (by kernel_rfl) (by simp) ?_
              refine AllReadyH.cons rfl (fun K hK => ?_) AllReadyH.nil
              go_simp
              refine (hdn _ (by first | exact Keep.refl _ _ | exact Keep.drew _ _ | exact drewN_keep _ _ _)).mono ?_
              rintro e w7 ⟨rfl, k7, kw⟩
              have q0 := kw.cell t0 (fun q => q)
              have q1 := kw.cell t1 (fun q => q)
              have q2 := kw.cell t7 (fun q => q)
              have q3 := kw.cell t8 (fun q => q)
              have hX7 := X.out.1.aside kw
              have q4 : w7.frozen? ⟨wb, 7, none⟩ = false := free_blk hX7.wk.ex.choose_spec.choose_spec.1 7
              have q5 : w7.frozen? ⟨wb, 8, none⟩ = false := free_blk hX7.wk.ex.choose_spec.choose_spec.1 8
              refine hK.out _ _ ⟨q0, q1⟩ (fun hHeld => ?_)
              clear hK K
              try simp only [Act.put, List.setIfInBounds_toArray, List.set_cons_zero, List.set_cons_succ, List.getElem_toArray, List.getElem_cons_zero, List.getElem_cons_succ]
              refine wpAnyH_take (i := 22) (v := ?_) rfl (by kernel_rfl) (by kernel_rfl) (by kernel_rfl) (fun _ _ _ h => h) (Or.inl ⟨by rfl, ?_⟩) (by assumption) ?_
              rotate_left
              · intro w hSw; (try dsimp only at hSw); go_simp; try with_reducible rfl
              try simp only [Act.put, List.setIfInBounds_toArray, List.set_cons_zero, List.set_cons_succ, List.getElem_toArray, List.getElem_cons_zero, List.getElem_cons_succ]
              refine wpAnyH_take (i := 23) (v := ?_) rfl (by kernel_rfl) (by kernel_rfl) (by kernel_rfl) (fun _ _ _ h => h) (Or.inl ⟨by rfl, ?_⟩) (by assumption) ?_
              rotate_left
              · intro w hSw; (try dsimp only at hSw); go_simp; try with_reducible rfl
              try simp only [Act.put, List.setIfInBounds_toArray, List.set_cons_zero, List.set_cons_succ, List.getElem_toArray, List.getElem_cons_zero, List.getElem_cons_succ]
              refine wpAnyH_ready (rs := [24]) (by kernel_rfl) (by simp) ?_
              refine AllReadyH.cons rfl (fun K hK => ?_) AllReadyH.nil
              go_simp
              refine hK.out _ _ ⟨by go_simp, by go_simp⟩ (fun hHeld => ?_)
              clear hK K
              try simp only [Act.put, List.setIfInBounds_toArray, List.set_cons_zero, List.set_cons_succ, List.getElem_toArray, List.getElem_cons_zero, List.getElem_cons_succ]
              refine wpAnyH_done (by kernel_rfl) ?_ _
              go_end0
              obtain ⟨hW2, kW2⟩ := hX7.wk.setAt d1 d2
              rw [X.out.2]
              exact ⟨⟨_, rfl⟩, hW2, (A.out.1.trans kw (fun _ q => q.elim)).trans kW2 (fun x q => .inl q)⟩
end Go.Proofs.YtoanccechefclaaGreatDoor
