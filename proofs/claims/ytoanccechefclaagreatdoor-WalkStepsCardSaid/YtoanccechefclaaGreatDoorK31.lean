/-
  Parts of the walk's proof: WalkE, WalkF. (joined by pack.py)
-/
import Derived.Test.YtoanccechefclaaGreatDoorK30
set_option linter.unusedSectionVars false
set_option linter.unusedSimpArgs false
set_option linter.unusedVariables false
namespace Go.Proofs.YtoanccechefclaaGreatDoor
open Go Go.RowKit Go.Shelf
set_option maxRecDepth 100000
attribute [local go_sem] Oper.semAt_some
def KAt (w : World) (kb wb tb mb : Nat) (E : WkE) : KV → Prop
  | .on v => w.heap[kb]? = some (.cells (kbC wb false FoundV.zero 0) 166 (0, 0)) ∧ WkAt w wb tb mb E v ∧ v.fine
  | .off f e n => w.heap[kb]? = some (.cells (kbC wb true f e) 166 (0, 0)) ∧ ∃ c, w.heap[wb]? = some (.cells c 168 (0, 0)) ∧ c[12]? = some (.int .i64 n)
structure KW (w : World) (kb wb tb mb : Nat) (s : TShape) (S : Nat → Prop) (E : WkE) (k : KV) : Prop where
  env : EnvAt w tb mb s S E
  texts : ∀ n, (blOf (E.T.textOf n)).length ≤ 1000
  at_ : KAt w kb wb tb mb E k
  w1 : ¬ s.has wb
  w2 : ¬ S wb
  k1 : ¬ s.has kb
  k2 : ¬ S kb
  ne : ¬ kb = wb
theorem kbCells {w : World} {kb wb : Nat} {f : FoundV} {e : Int} {o : Bool} (h : w.heap[kb]? = some (.cells (kbC wb o f e) 166 (0, 0))) :
    w.cell? ⟨kb, 0, none⟩ = some (.pointer (some ⟨wb, 0, none⟩)) ∧ w.cell? ⟨kb, 1, none⟩ = some (.bool o) :=
  ⟨by rw [cell_blk h]; rfl, by rw [cell_blk h]; rfl⟩
theorem WkAt.setFSlash {w : World} {wb tb mb : Nat} {E : WkE} {v : WkV} (h : WkAt w wb tb mb E v) (k : Bool) :
    WkAt (w.setCell ⟨wb, 19, none⟩ (.bool k)) wb tb mb E { v with f := { v.f with slash := k } } ∧ Keep w (w.setCell ⟨wb, 19, none⟩ (.bool k)) (fun x => x = wb) := by
  obtain ⟨la, lc, h1, h2, h3, h4⟩ := h.ex
  have s := sets_at [(19, .bool k)] h1
  have K := sets_keep (b := wb) [(19, .bool k)] w
  simp only [sets] at s K
  exact ⟨⟨la, lc, by simpa [setAll, wkC] using s, h2.keep K h3, h3, h4⟩, K⟩
theorem wpart_false {E : WkE} {w w' : WkV} {s : Bl} {r : List Bl} {e : Int} (h : wpart E w s r = (false, e, w')) : e = 0 := by
  refine wpart_by E w s r _ ?_ ?_ ?_ ?_ ?_ ?_
  · intro h1; rw [wpart_1 h1] at h; simp at h
  · intro h1 h2; rw [wpart_2 h1 h2] at h; simp at h
  · intro h1 h2 h3; rw [wpart_3 h1 h2 h3] at h; simp at h; exact h.1.symm
  · intro h1 h2 h3; rw [wpart_4 h1 h2 h3] at h; simp at h; exact h.1.symm
  · intro h1 h2 h3 h4 n h5
    rw [wpart_5 h1 h2 h3 h4 h5] at h
    split at h <;> simp at h
  · intro h1 h2 h3 h4 n h5
    rw [wpart_6 h1 h2 h3 h4 h5] at h
    unfold wcome at h
    split at h
    · simp only [Prod.mk.injEq, decide_eq_false_iff_not, ne_eq, Decidable.not_not] at h
      obtain ⟨q1, q2, -⟩ := h
      rw [← q2, q1]
    · simp at h; exact h.1.symm
def kpartB (k : KV) : Bool := match k with | .on _ => false | .off _ _ _ => true
def kstep (E : WkE) : KV → KV
  | .on v => kpart E v
  | .off f e n => .off f e n
set_option maxHeartbeats 8000000 in
theorem Part_c {w : World} {kb wb tb mb : Nat} {s : TShape} {S : Nat → Prop} {E : WkE} {k : KV} (h : KW w kb wb tb mb s S E k) :
    Calls Tryz.prog 61 #[.pointer (some ⟨kb, 0, none⟩)] w fun e w' => e = .returned (.bool (kpartB (kstep E k))) ∧ KAt w' kb wb tb mb E (kstep E k) ∧ Keep w w' (fun b => b = wb ∨ b = kb) := by
  have H := Lib.hid h
  cases k with
  | off f e n =>
    obtain ⟨h1, h2⟩ := h.at_
    obtain ⟨c0, c1⟩ := kbCells h1
    have HA := Lib.hid (show KAt w kb wb tb mb E (.off f e n) from ⟨h1, h2⟩)
    clear h h1 h2
    go_enter Tryz.func61, Tryz.ntmps61
    go_wp2
    go_ret
    exact ⟨rfl, HA.out, Keep.refl _ _⟩
  | on v =>
    obtain ⟨h1, h2, h3⟩ := h.at_
    obtain ⟨c0, c1⟩ := kbCells h1
    obtain ⟨la, lc, g1, -⟩ := h2.ex
    have cc := wkCells g1
    have t9 := cc.c9
    have HA := Lib.hid (And.intro h1 (And.intro h2 h3))
    have hX : WkW w wb tb mb s S E v := ⟨h.env, h2, h.w1, h.w2⟩
    cases hl : v.left with
    | cons x r =>
      have hp := part_c hX h3 h.texts hl
      obtain ⟨a, e, v', hwp⟩ : ∃ a e v', wpart E v x r = (a, e, v') := ⟨_, _, _, rfl⟩
      have hfn := wpart_fine h3 hl (E := E)
      rw [hwp] at hp hfn
      simp only at hp hfn
      have hk : kstep E (.on v) = kput (a, e, v') := by show kpart E v = _; unfold kpart; rw [hl]; simp only [hwp]
      rw [hl, List.length_cons] at t9
      obtain ⟨rn, hrn⟩ : ∃ rn, r.length = rn := ⟨_, rfl⟩
      rw [hrn] at t9
      have g5 : (0 : Int) < (rn : Int) + 1 := by omega
      have HK := Lib.hid (And.intro hk hfn)
      rw [hk]
      have HE : Hid (a = false → e = 0) := Lib.hid (fun q => by subst q; exact wpart_false hwp)
      clear h h1 h2 h3 g1 cc hl hwp hk hfn hX hrn
      cases a with
      | true =>
        go_enter Tryz.func61, Tryz.ntmps61
        go_wp2_with (first
          | (go_at_call 102
             refine hp.mono ?_
             rintro e9 w4 ⟨rfl, h4, k4⟩
             have hkb := k4.get HA.out.1 H.out.ne
             obtain ⟨la4, lc4, g4, -⟩ := h4.ex
             have d4 := wkCells g4
             have t13 := d4.c13
             have t14 := d4.c14
             have t15 := d4.c15
             have t16 := d4.c16
             have t17 := d4.c17
             have t18 := d4.c18
             have t19 := d4.c19
             have he := end_c hkb v'.f e
             simp only [foundC] at he
             have N4 := Lib.hid (And.intro h4 (And.intro k4 g4))
             clear hp h4 k4 hkb g4 d4)
          | (go_at_call 103
             refine he.mono ?_
             rintro e9 w5 ⟨rfl, b5, k5⟩
             have N5 := Lib.hid (And.intro b5 k5)
             clear he b5 k5))
        go_ret
        have hne : ¬ wb = kb := fun q => H.out.ne q.symm
        exact ⟨rfl, ⟨N5.out.1, _, N5.out.2.get N4.out.2.2 hne, rfl⟩, (N4.out.2.1.mono (fun b q => .inl q)).trans N5.out.2 (fun b q => .inl (.inr q))⟩
      | false =>
        have he0 := HE.out rfl
        subst he0
        go_enter Tryz.func61, Tryz.ntmps61
        go_wp2_with (
          go_at_call 102
          refine hp.mono ?_
          rintro e9 w4 ⟨rfl, h4, k4⟩
          have hkb := k4.get HA.out.1 H.out.ne
          have N4 := Lib.hid (And.intro h4 (And.intro k4 hkb))
          clear hp h4 k4 hkb)
        go_ret
        exact ⟨rfl, ⟨N4.out.2.2, N4.out.1, HK.out.2⟩, N4.out.2.1.mono (fun b q => .inl q)⟩
    | nil =>
      have hk : kstep E (.on v) = .off (wend E v).1 (wend E v).2 v.steps := by show kpart E v = _; unfold kpart; rw [hl]
      rw [hk]
      have t10 := cc.c10
      have f19 := free_blk g1 19
      have t19 := cc.c19
      rw [hl] at t9
      simp only [List.length_nil] at t9
      obtain ⟨q1, q2⟩ := h2.setFSlash v.slash
      obtain ⟨W1, hW1⟩ : ∃ W1, W1 = w.setCell ⟨wb, 19, none⟩ (.bool v.slash) := ⟨_, rfl⟩
      rw [← hW1] at q1 q2
      have hX1 := hX.turn q2 q1
      have B : Hid (WkW W1 wb tb mb s S E { v with f := { v.f with slash := v.slash } } ∧ Keep w W1 (fun b => b = wb) ∧ W1.heap[kb]? = some (.cells (kbC wb false FoundV.zero 0) 166 (0, 0))) := Lib.hid ⟨hX1, q2, q2.get h1 h.ne⟩
      obtain ⟨st, ok, hst⟩ : ∃ st ok, E.T.stat v.n = (st, ok) := ⟨_, _, rfl⟩
      have hs1 := fun w1 (K : Keep W1 w1 (fun _ => False)) => tstat_c (hX1.aside K).env.tree hX1.env.small v.n
      rw [hst] at hs1
      simp only [statC] at hs1
      have HS := Lib.hid hst
      have HW := Lib.hid hW1
      clear h h1 h2 h3 g1 cc hl hk hX hX1 q1 q2 hst hW1
      go_enter Tryz.func61, Tryz.ntmps61
      go_upto_region 10 with (fail)
      rw [← HW.out]
      clear t10 f19 t19 t9 c0 c1
      obtain ⟨la1, lc1, g1, -⟩ := B.out.1.wk.ex
      have t0 := (wkCells g1).t
      have t8 := (wkCells g1).c8
      simp only at t8
      clear g1
      have n1 := World.new_ne W1 _ t0
      go_cut [6, 7] (fun s6 s7 wx => ∃ sb, s6 = .pointer (some ⟨sb, 0, none⟩) ∧ s7 = .bool ok ∧ Keep W1 wx (fun _ => False) ∧ wx.heap[sb]? = some (stO st))
      case first =>
        go_region_held3 (fun w' => w'.cell? ⟨wb, 0, none⟩ = some (.pointer (some ⟨tb, 0, none⟩)) ∧ w'.cell? ⟨wb, 8, none⟩ = some (.int .i64 v.n)) (go_keep) (
          (go_at_call 20
           refine (hs1 _ ?_).mono ?_
           · repeat (first | exact Keep.refl _ _ | exact Keep.drew _ _ | refine Keep.allocNew ?_ _ | refine Keep.drewNew ?_)
           rintro e w7 ⟨rfl, k7⟩
           have kw : Keep W1 w7 (fun _ => False) := by
             refine Keep.trans ?_ k7 (fun _ q => q.elim)
             repeat (first | exact Keep.refl _ _ | exact Keep.drew _ _ | refine Keep.allocNew ?_ _ | refine Keep.drewNew ?_)
           have q0 := kw.cell t0 (fun q => q)
           have q1 := kw.cell t8 (fun q => q)
           try (have z0 : w7.heap[W1.heap.size]? = some (.cells #[.int .i64 0, .int .i64 0, .int .i64 0, .int .i64 0, .int .i64 0, .int .i64 0, .int .i64 0] 36 (0, 0)) := k7.get (heap_alloc_eq W1.drew _) (fun q => q))
           try (have zc0 : w7.cell? ⟨W1.heap.size, 0, none⟩ = some (.int .i64 0) := by rw [cell_blk z0]; rfl)
           try (have zf0 := free_blk z0 0)
           try (have zc1 : w7.cell? ⟨W1.heap.size, 1, none⟩ = some (.int .i64 0) := by rw [cell_blk z0]; rfl)
           try (have zf1 := free_blk z0 1)
           try (have zc2 : w7.cell? ⟨W1.heap.size, 2, none⟩ = some (.int .i64 0) := by rw [cell_blk z0]; rfl)
           try (have zf2 := free_blk z0 2)
           try (have zc3 : w7.cell? ⟨W1.heap.size, 3, none⟩ = some (.int .i64 0) := by rw [cell_blk z0]; rfl)
           try (have zf3 := free_blk z0 3)
           try (have zc4 : w7.cell? ⟨W1.heap.size, 4, none⟩ = some (.int .i64 0) := by rw [cell_blk z0]; rfl)
           try (have zf4 := free_blk z0 4)
           try (have zc5 : w7.cell? ⟨W1.heap.size, 5, none⟩ = some (.int .i64 0) := by rw [cell_blk z0]; rfl)
           try (have zf5 := free_blk z0 5)
           try (have zc6 : w7.cell? ⟨W1.heap.size, 6, none⟩ = some (.int .i64 0) := by rw [cell_blk z0]; rfl)
           try (have zf6 := free_blk z0 6)))
        all_goals go_wp2
        all_goals go_meet
        all_goals first
          | (have s := sets_at [(0, .int .i64 st.node), (1, .int .i64 st.kind), (2, .int .i64 st.mode), (3, .int .i64 st.uid), (4, .int .i64 st.gid), (5, .int .i64 st.links), (6, .int .i64 st.size)] z0
             have k := sets_keep (b := W1.heap.size) [(0, .int .i64 st.node), (1, .int .i64 st.kind), (2, .int .i64 st.mode), (3, .int .i64 st.uid), (4, .int .i64 st.gid), (5, .int .i64 st.links), (6, .int .i64 st.size)] w7
             simp only [sets] at s k
             exact ⟨_, rfl, rfl, kw.trans k (fun x q => .inr (Nat.le_of_eq q.symm)), by simpa [setAll, stO, statC] using s⟩)
          | exact ⟨_, rfl, rfl, kw.aside (Keep.alloc w7 _ _), heap_alloc_eq w7 _⟩
      case rest =>
        obtain ⟨sb, rfl, rfl, k2, b2⟩ := hcut
        obtain ⟨W2, hW2⟩ : ∃ W2 : World, W2 = wc := ⟨_, rfl⟩
        subst hW2
        have C : Hid (WkW W2 wb tb mb s S E { v with f := { v.f with slash := v.slash } } ∧ Keep w W2 (fun b => b = wb) ∧ W2.heap[kb]? = some (.cells (kbC wb false FoundV.zero 0) 166 (0, 0))) := Lib.hid ⟨B.out.1.aside k2, B.out.2.1.trans k2 (fun _ q => q.elim), k2.get B.out.2.2 (fun q => q)⟩
        clear t0 t8 n1 hs1
        have c1 := (cells7 b2).1.2.1
        obtain ⟨la2, lc2, g2, -⟩ := C.out.1.wk.ex
        have cc := wkCells g2
        have t10 := cc.c10
        have t13 := cc.c13
        have t14 := cc.c14
        have t15 := cc.c15
        have t16 := cc.c16
        have t17 := cc.c17
        have t18 := cc.c18
        have t19 := cc.c19
        simp only at t10 t13 t14 t15 t16 t17 t18 t19
        have G := Lib.hid g2
        have hne : ¬ wb = kb := fun q => H.out.ne q.symm
        obtain ⟨sl, hsl⟩ : ∃ sl, v.slash = sl := ⟨_, rfl⟩
        have hwe : wend E v = if sl = true ∧ st.kind ≠ 1 then (FoundV.zero, 37) else ({ v.f with slash := sl }, 0) := by unfold wend; rw [HS.out, hsl]
        rw [hsl] at t10 t19
        have HE := Lib.hid hwe
        have HL := Lib.hid hsl
        clear g2 cc k2 b2 hwe hsl
        by_cases hbad : sl = true ∧ st.kind ≠ 1
        · obtain ⟨rfl, hk⟩ := hbad
          have hk' : (st.kind != 1) = true := by simpa using hk
          have hwe : wend E v = (FoundV.zero, 37) := by rw [HE.out, if_pos ⟨rfl, hk⟩]
          have he := end_c C.out.2.2 FoundV.zero 37
          simp only [foundC, FoundV.zero] at he
          have HE2 := Lib.hid hwe
          clear hk hwe
          go_wp2_with (
            go_at_call 103
            refine he.mono ?_
            rintro e9 w5 ⟨rfl, b5, k5⟩
            have N5 := Lib.hid (And.intro b5 k5)
            clear he b5 k5)
          go_ret
          rw [HE2.out]
          exact ⟨rfl, ⟨N5.out.1, _, N5.out.2.get G.out hne, rfl⟩, (C.out.2.1.mono (fun b q => .inl q)).trans N5.out.2 (fun b q => .inl (.inr q))⟩
        · have hwe : wend E v = ({ v.f with slash := sl }, 0) := by rw [HE.out, if_neg hbad]
          have he := end_c C.out.2.2 { v.f with slash := sl } 0
          simp only [foundC] at he
          have HE2 := Lib.hid hwe
          have HB := Lib.hid hbad
          clear hwe hbad
          cases sl with
          | false =>
            go_wp2_with (
              go_at_call 103
              refine he.mono ?_
              rintro e9 w5 ⟨rfl, b5, k5⟩
              have N5 := Lib.hid (And.intro b5 k5)
              clear he b5 k5)
            go_ret
            rw [HE2.out]
            exact ⟨rfl, ⟨N5.out.1, _, N5.out.2.get G.out hne, rfl⟩, (C.out.2.1.mono (fun b q => .inl q)).trans N5.out.2 (fun b q => .inl (.inr q))⟩
          | true =>
            have hk' : (st.kind != 1) = false := by
              have : ¬ st.kind ≠ 1 := fun q => HB.out ⟨rfl, q⟩
              simpa using this
            go_wp2_with (
              go_at_call 103
              refine he.mono ?_
              rintro e9 w5 ⟨rfl, b5, k5⟩
              have N5 := Lib.hid (And.intro b5 k5)
              clear he b5 k5)
            go_ret
            rw [HE2.out]
            exact ⟨rfl, ⟨N5.out.1, _, N5.out.2.get G.out hne, rfl⟩, (C.out.2.1.mono (fun b q => .inl q)).trans N5.out.2 (fun b q => .inl (.inr q))⟩
end Go.Proofs.YtoanccechefclaaGreatDoor
namespace Go.Proofs.YtoanccechefclaaGreatDoor
open Go Go.RowKit Go.Shelf
set_option maxRecDepth 100000
attribute [local go_sem] Oper.semAt_some
set_option maxHeartbeats 2000000 in
theorem place_c {w : World} {tb mb : Nat} {s : TShape} {S : Nat → Prop} {E : WkE} (h : EnvAt w tb mb s S E) (m n : Int) :
    Calls Tryz.prog 19 #[.pointer (some ⟨tb, 0, none⟩), .pointer (some ⟨mb, 0, none⟩), .agg #[.int .i64 m, .int .i64 n]] w fun e w' => e = .returned (.bool (placeP E.T E.M m n)) ∧ Keep w w' (fun _ => False) := by
  obtain ⟨st, ok, hst⟩ : ∃ st ok, E.T.stat n = (st, ok) := ⟨_, _, rfl⟩
  obtain ⟨rt, rok, hrt⟩ : ∃ rt rok, E.M.root_ m = (rt, rok) := ⟨_, _, rfl⟩
  have hs := fun w1 (K : Keep w w1 (fun _ => False)) => tstat_c (h.aside K).tree h.small n
  have hr := fun w1 (K : Keep w w1 (fun _ => False)) => mroot_c (h.aside K).tab m
  rw [hst] at hs
  rw [hrt] at hr
  simp only [statC] at hs
  have hp : placeP E.T E.M m n = (ok && rok) := by unfold placeP; rw [hst, hrt]
  rw [hp]
  have kb := Keep.alloc w (.cells #[.int .i64 m, .int .i64 n] 38) (fun _ => False)
  have bb := heap_alloc_eq w (.cells #[.int .i64 m, .int .i64 n] 38)
  have h1 := hs _ kb
  have B := Lib.hid (And.intro kb bb)
  clear h hst hrt hs hp kb bb
  cases ok
  all_goals go_enter Tryz.func19, Tryz.ntmps19
  all_goals
    go_wp2_with (first
      | (go_at_call 20
         refine h1.mono ?_
         rintro e w2 ⟨rfl, k2⟩
         have k3 := (B.out.1.aside k2).aside (Keep.alloc w2 (.cells #[.int .i64 st.node, .int .i64 st.kind, .int .i64 st.mode, .int .i64 st.uid, .int .i64 st.gid, .int .i64 st.links, .int .i64 st.size] 36) (fun _ => False))
         have b3 := (k2.aside (Keep.alloc w2 (.cells #[.int .i64 st.node, .int .i64 st.kind, .int .i64 st.mode, .int .i64 st.uid, .int .i64 st.gid, .int .i64 st.links, .int .i64 st.size] 36) (fun _ => False))).get B.out.2 (fun q => q)
         have d0 : (w2.alloc (.cells #[.int .i64 st.node, .int .i64 st.kind, .int .i64 st.mode, .int .i64 st.uid, .int .i64 st.gid, .int .i64 st.links, .int .i64 st.size] 36)).cell? ⟨w.heap.size, 0, none⟩ = some (.int .i64 m) := by rw [cell_blk b3]; rfl
         have h2 := hr _ k3
         have K3 := Lib.hid k3
         clear h1 hr k2 k3 b3)
      | (go_at_call 55
         refine h2.mono ?_
         rintro e w4 ⟨rfl, k4⟩
         have K4 := Lib.hid (K3.out.aside k4)
         clear h2 k4))
    go_ret
    exact ⟨rfl, K4.out⟩
structure KbCells (w : World) (kb : Nat) (f : FoundV) (e : Int) : Prop where
  c2 : w.cell? ⟨kb, 2, none⟩ = some (.int .i64 f.dm)
  c3 : w.cell? ⟨kb, 3, none⟩ = some (.int .i64 f.dn)
  c4 : w.cell? ⟨kb, 4, none⟩ = some (.string f.last)
  c5 : w.cell? ⟨kb, 5, none⟩ = some (.int .i64 f.am)
  c6 : w.cell? ⟨kb, 6, none⟩ = some (.int .i64 f.an)
  c7 : w.cell? ⟨kb, 7, none⟩ = some (.bool f.has)
  c8 : w.cell? ⟨kb, 8, none⟩ = some (.bool f.slash)
  c9 : w.cell? ⟨kb, 9, none⟩ = some (.int .i64 e)
theorem kbCells2 {w : World} {kb wb : Nat} {o : Bool} {f : FoundV} {e : Int} (h : w.heap[kb]? = some (.cells (kbC wb o f e) 166 (0, 0))) : KbCells w kb f e := by
  constructor <;> (rw [cell_blk h]; rfl)
def credO (c : CredV) : Obj := .cells #[.int .i64 c.uid, .int .i64 c.gid] 24 (0, 0)
structure KNew (w w' : World) (kb wb tb mb : Nat) (E : WkE) (k : KV) : Prop where
  at_ : KAt w' kb wb tb mb E k
  keep : Keep w w' (fun _ => False)
  kb0 : w.heap.size ≤ kb
  wb0 : w.heap.size ≤ wb
  ne : ¬ kb = wb
def zeroW : Array Value := #[.pointer none, .pointer none, .int .i64 0, .int .i64 0, .int .i64 0, .int .i64 0, .bool false, .int .i64 0, .int .i64 0, .slice none 0 0, .bool false, .int .i64 0, .int .i64 0, .int .i64 0, .int .i64 0, .string ⟨#[]⟩, .int .i64 0, .int .i64 0, .bool false, .bool false]
theorem knew_off {w w2 : World} (K : Keep w w2 (fun _ => False)) (tb mb : Nat) (E : WkE) (e : Int) :
    KNew w ((w2.alloc (.cells zeroW 168)).alloc (.cells (kbC w2.heap.size true FoundV.zero e) 166)) (w2.heap.size + 1) w2.heap.size tb mb E (.off FoundV.zero e 0) := by
  obtain ⟨k1, b1, b2, z⟩ := boxes2 w2 (.cells zeroW 168) (.cells (kbC w2.heap.size true FoundV.zero e) 166)
  have := K.size
  exact ⟨⟨b2, _, b1, rfl⟩, K.trans k1 (fun _ q => q.elim), by omega, this, by omega⟩
theorem knew_on {w w2 : World} (K : Keep w w2 (fun _ => False)) {wb tb mb : Nat} {E : WkE} {v : WkV} (hv : v.fine) (hW : WkAt w2 wb tb mb E v) (h0 : w.heap.size ≤ wb) :
    KNew w (w2.alloc (.cells (kbC wb false FoundV.zero 0) 166)) w2.heap.size wb tb mb E (.on v) := by
  obtain ⟨k1, b1, z⟩ := boxes1 w2 (.cells (kbC wb false FoundV.zero 0) 166)
  have := K.size
  have := hW.lt
  exact ⟨⟨b1, hW.aside k1, hv⟩, K.trans k1 (fun _ q => q.elim), by omega, h0, by omega⟩
def KRes (w : World) (tb mb : Nat) (E : WkE) (k : KV) (e : Ending) (w' : World) : Prop := ∃ kb wb, e = .returned (.pointer (some ⟨kb, 0, none⟩)) ∧ KNew w w' kb wb tb mb E k
theorem KRes.mk {w w' : World} {kb wb tb mb : Nat} {E : WkE} {k : KV} (h : KNew w w' kb wb tb mb E k) : KRes w tb mb E k (.returned (.pointer (some ⟨kb, 0, none⟩))) w' := ⟨kb, wb, rfl, h⟩
set_option maxHeartbeats 16000000 in
theorem Begin_c {w : World} {tb mb : Nat} {s : TShape} {S : Nat → Prop} {E : WkE} (h : EnvAt w tb mb s S E) (hE : E.M.down 0 1 = (E.rm, E.rn)) (fm fn : Int) (path : Bl) :
    Calls Tryz.prog 60 #[.pointer (some ⟨tb, 0, none⟩), .pointer (some ⟨mb, 0, none⟩), .agg #[.int .i64 0, .int .i64 1], .agg #[.int .i64 fm, .int .i64 fn], .agg #[.int .i64 E.c.uid, .int .i64 E.c.gid], .string (txB path), .bool E.follow] w
      (KRes w tb mb E (kbegin E fm fn path)) := by
  obtain ⟨R, hR⟩ : ∃ R, kbegin E fm fn path = R := ⟨_, rfl⟩
  rw [hR]
  unfold kbegin at hR
  obtain ⟨W1, hW1⟩ : ∃ W1, W1 = ((w.alloc (.cells #[.int .i64 0, .int .i64 1] 38)).alloc (.cells #[.int .i64 fm, .int .i64 fn] 38)).alloc (.cells #[.int .i64 E.c.uid, .int .i64 E.c.gid] 24) := ⟨_, rfl⟩
  obtain ⟨k1, b1, b2, b3, z1⟩ := boxes3 w (.cells #[.int .i64 0, .int .i64 1] 38) (.cells #[.int .i64 fm, .int .i64 fn] 38) (.cells #[.int .i64 E.c.uid, .int .i64 E.c.gid] 24)
  rw [← hW1] at k1 b1 b2 b3 z1
  have hp := fun w1 (K : Keep w w1 (fun _ => False)) m n => place_c (h.aside K) m n
  obtain ⟨p1, hp1⟩ : ∃ p1, placeP E.T E.M 0 1 = p1 := ⟨_, rfl⟩
  obtain ⟨p2, hp2⟩ : ∃ p2, placeP E.T E.M fm fn = p2 := ⟨_, rfl⟩
  have hq1 := hp W1 k1 0 1
  have hq2 := fun w1 (K : Keep w w1 (fun _ => False)) => hp w1 K fm fn
  rw [hp1] at hq1 hR
  rw [hp2] at hq2 hR
  have B := Lib.hid (And.intro k1 (And.intro b1 (And.intro b2 (And.intro b3 (And.intro z1 hW1)))))
  have H := Lib.hid (And.intro h hE)
  clear h hE hp k1 b1 b2 b3 z1 hp1 hp2 hW1
  cases p1 with
  | false =>
    rw [if_pos (.inl rfl)] at hR
    subst hR
    clear hq2
    go_enter Tryz.func60, Tryz.ntmps60
    go_upto_region 1 with (fail)
    rw [← B.out.2.2.2.2.2]
    have d0 : W1.cell? ⟨w.heap.size, 0, none⟩ = some (.int .i64 0) := by rw [cell_blk B.out.2.1]; rfl
    have d1 : W1.cell? ⟨w.heap.size, 1, none⟩ = some (.int .i64 1) := by rw [cell_blk B.out.2.1]; rfl
    go_wp2_with (
      go_at_call 19
      refine hq1.mono ?_
      rintro e w2 ⟨rfl, k2⟩
      have K2 := Lib.hid (B.out.1.aside k2)
      clear hq1 k2)
    go_ret
    exact KRes.mk (knew_off K2.out tb mb E 1)
  | true =>
    cases p2 with
    | false =>
      rw [if_pos (.inr rfl)] at hR
      subst hR
      go_enter Tryz.func60, Tryz.ntmps60
      go_upto_region 1 with (fail)
      rw [← B.out.2.2.2.2.2]
      have d0 : W1.cell? ⟨w.heap.size, 0, none⟩ = some (.int .i64 0) := by rw [cell_blk B.out.2.1]; rfl
      have d1 : W1.cell? ⟨w.heap.size, 1, none⟩ = some (.int .i64 1) := by rw [cell_blk B.out.2.1]; rfl
      go_wp2_with (first
        | (go_at_call 19
           refine hq1.mono ?_
           rintro e w2 ⟨rfl, k2⟩
           have b2' := k2.get B.out.2.2.1 (fun q => q)
           have d2 : w2.cell? ⟨w.heap.size + 1, 0, none⟩ = some (.int .i64 fm) := by rw [cell_blk b2']; rfl
           have d3 : w2.cell? ⟨w.heap.size + 1, 1, none⟩ = some (.int .i64 fn) := by rw [cell_blk b2']; rfl
           have h2 := hq2 w2 (B.out.1.aside k2)
           have K2 := Lib.hid (B.out.1.aside k2)
           clear hq1 hq2 k2 b2')
        | (go_at_call 19
           refine h2.mono ?_
           rintro e w3 ⟨rfl, k3⟩
           have K3 := Lib.hid (K2.out.aside k3)
           clear h2 k3))
      go_ret
      exact KRes.mk (knew_off K3.out tb mb E 1)
    | true =>
      rw [if_neg (by simp)] at hR
      have hrd := read_c path
      have hfin := wstart_fine E fm fn path
      obtain ⟨⟨⟨pr, psl, pl⟩, pe⟩, hrp⟩ : ∃ x, readP path = x := ⟨_, rfl⟩
      rw [hrp] at hrd hR hfin
      simp only at hrd hR hfin
      have HF := Lib.hid hfin
      clear hfin hrp
      go_enter Tryz.func60, Tryz.ntmps60
      go_upto_region 1 with (fail)
      rw [← B.out.2.2.2.2.2]
      have d0 : W1.cell? ⟨w.heap.size, 0, none⟩ = some (.int .i64 0) := by rw [cell_blk B.out.2.1]; rfl
      have d1 : W1.cell? ⟨w.heap.size, 1, none⟩ = some (.int .i64 1) := by rw [cell_blk B.out.2.1]; rfl
      go_upto_region 4 with (first
        | (go_at_call 19
           refine hq1.mono ?_
           rintro e w2 ⟨rfl, k2⟩
           have b2' := k2.get B.out.2.2.1 (fun q => q)
           have d2 : w2.cell? ⟨w.heap.size + 1, 0, none⟩ = some (.int .i64 fm) := by rw [cell_blk b2']; rfl
           have d3 : w2.cell? ⟨w.heap.size + 1, 1, none⟩ = some (.int .i64 fn) := by rw [cell_blk b2']; rfl
           have h2 := hq2 w2 (B.out.1.aside k2)
           have K2 := Lib.hid k2
           clear hq1 hq2 k2 b2')
        | (go_at_call 19
           refine h2.mono ?_
           rintro e w3 ⟨rfl, k3⟩
           have K3 := Lib.hid (K2.out.aside k3)
           clear h2 k3)
        | (go_at_call 100
           refine (hrd _).mono ?_
           rintro e w4 ⟨pv, rfl, ho, k4⟩
           obtain ⟨pa, pc, rfl, hpc⟩ := rows_val2 ho
           have N4 := Lib.hid (And.intro ho (And.intro (K3.out.aside k4) hpc))
           clear ho k4 hpc hrd))
      have ka := Keep.alloc w4 (.cells #[.bool pr, .bool psl, .slice pa pl.length pc] 180) (fun _ => False)
      have ba := heap_alloc_eq w4 (.cells #[.bool pr, .bool psl, .slice pa pl.length pc] 180)
      obtain ⟨W5, hW5⟩ : ∃ W5, W5 = w4.alloc (.cells #[.bool pr, .bool psl, .slice pa pl.length pc] 180) := ⟨_, rfl⟩
      rw [← hW5] at ka ba ⊢
      have k5 : Keep W1 W5 (fun _ => False) := N4.out.2.1.aside ka
      have C := Lib.hid (And.intro k5 (And.intro (B.out.1.aside k5) (And.intro ba (rows_keep N4.out.1 ka (fun _ _ q => q)))))
      clear ka ba k5 hW5
      by_cases hpe : pe = 0
      · have g2 : (pe != 0) = false := by simpa using hpe
        rw [if_neg (fun q => q hpe)] at hR
        subst hpe
        obtain ⟨y1, y2, hd⟩ : ∃ y1 y2, E.M.down fm fn = (y1, y2) := ⟨_, _, rfl⟩
        have hn1 := mdown_k (H.out.1.aside C.out.2.1).tab H.out.2
        have hn2 := mdown_k (H.out.1.aside C.out.2.1).tab hd
        have b1 := C.out.1.get B.out.2.1 (fun q => q)
        have b2 := C.out.1.get B.out.2.2.1 (fun q => q)
        have b3 := C.out.1.get B.out.2.2.2.1 (fun q => q)
        have e0 : W5.cell? ⟨w.heap.size, 0, none⟩ = some (.int .i64 0) := by rw [cell_blk b1]; rfl
        have e1 : W5.cell? ⟨w.heap.size, 1, none⟩ = some (.int .i64 1) := by rw [cell_blk b1]; rfl
        have e2 : W5.cell? ⟨w.heap.size + 1, 0, none⟩ = some (.int .i64 fm) := by rw [cell_blk b2]; rfl
        have e3 : W5.cell? ⟨w.heap.size + 1, 1, none⟩ = some (.int .i64 fn) := by rw [cell_blk b2]; rfl
        have e4 : W5.cell? ⟨w.heap.size + 1 + 1, 0, none⟩ = some (.int .i64 E.c.uid) := by rw [cell_blk b3]; rfl
        have e5 : W5.cell? ⟨w.heap.size + 1 + 1, 1, none⟩ = some (.int .i64 E.c.gid) := by rw [cell_blk b3]; rfl
        have e6 : W5.cell? ⟨w4.heap.size, 1, none⟩ = some (.bool psl) := by rw [cell_blk C.out.2.2.1]; rfl
        have e7 : W5.cell? ⟨w4.heap.size, 2, none⟩ = some (.slice pa pl.length pc) := by rw [cell_blk C.out.2.2.1]; rfl
        have n0 := World.new_ne W5 _ e0
        have n2 := World.new_ne W5 _ e2
        have n4 := World.new_ne W5 _ e4
        have n6 := World.new_ne W5 _ e6
        have HD := Lib.hid hd
        clear b1 b2 b3 hd d0 d1 d2 d3
        go_upto_region 6 with (fail)
        go_cut [17] (fun s17 wx => ∃ wb, s17 = .pointer (some ⟨wb, 0, none⟩) ∧ Keep W5 wx (fun _ => False) ∧ W5.heap.size ≤ wb ∧ wx.heap[wb]? = some (.cells (wkC tb mb E ⟨y1, y2, pl, psl, 0, 0, FoundV.zero⟩ (.slice pa pl.length pc)) 168 (0, 0)))
        case first =>
          go_region_held3 (fun w' => (w'.cell? ⟨w.heap.size, 0, none⟩ = some (.int .i64 0) ∧ w'.cell? ⟨w.heap.size, 1, none⟩ = some (.int .i64 1)) ∧ (w'.cell? ⟨w.heap.size + 1, 0, none⟩ = some (.int .i64 fm) ∧ w'.cell? ⟨w.heap.size + 1, 1, none⟩ = some (.int .i64 fn)) ∧ (w'.cell? ⟨w.heap.size + 1 + 1, 0, none⟩ = some (.int .i64 E.c.uid) ∧ w'.cell? ⟨w.heap.size + 1 + 1, 1, none⟩ = some (.int .i64 E.c.gid)) ∧ w'.cell? ⟨w4.heap.size, 1, none⟩ = some (.bool psl) ∧ w'.cell? ⟨w4.heap.size, 2, none⟩ = some (.slice pa pl.length pc)) (go_keep) (first
            | (go_at_call 21
               (with_reducible refine (hn1 _ ?_).mono ?_)
               · repeat (first | exact Keep.refl _ _ | exact Keep.drew _ _ | exact KY | refine Keep.allocNew ?_ _ | refine Keep.drewNew ?_)
               rintro e w7 ⟨rfl, k7, KX⟩
               have q0 := KX.cell e0 (fun q => q)
               have q1 := KX.cell e1 (fun q => q)
               have q2 := KX.cell e2 (fun q => q)
               have q3 := KX.cell e3 (fun q => q)
               have q4 := KX.cell e4 (fun q => q)
               have q5 := KX.cell e5 (fun q => q)
               have q6 := KX.cell e6 (fun q => q)
               have q7 := KX.cell e7 (fun q => q))
            | (go_at_call 21
               (with_reducible refine (hn2 _ ?_).mono ?_)
               · repeat (first | exact Keep.refl _ _ | exact Keep.drew _ _ | exact KX | refine Keep.allocNew ?_ _ | refine Keep.drewNew ?_)
               rintro e w8 ⟨rfl, k8, KY⟩
               have r0 := KY.cell e0 (fun q => q)
               have r1 := KY.cell e1 (fun q => q)
               have r2 := KY.cell e2 (fun q => q)
               have r3 := KY.cell e3 (fun q => q)
               have r4 := KY.cell e4 (fun q => q)
               have r5 := KY.cell e5 (fun q => q)
               have r6 := KY.cell e6 (fun q => q)
               have r7 := KY.cell e7 (fun q => q)))
          all_goals go_wp2
          all_goals go_meet
          all_goals first
            | exact ⟨_, rfl, KY.aside (Keep.alloc w8 _ _), KY.size, heap_alloc_eq w8 _⟩
            | exact ⟨_, rfl, KX.aside (Keep.alloc w7 _ _), KX.size, heap_alloc_eq w7 _⟩
        case rest =>
          obtain ⟨wb, rfl, k6, hwb, b6⟩ := hcut
          obtain ⟨W6, hW6⟩ : ∃ W6 : World, W6 = wc := ⟨_, rfl⟩
          subst hW6
          have hcl : Clear (.slice pa pl.length pc) (fun b => b = wb) := by
            intro g hg q
            have q' : g = wb := q
            rcases rows_val C.out.2.2.2 with ⟨e8, _⟩ | ⟨g', cap, e8, _, e9, hlt⟩
            · rw [e8] at hg; simp [Value.ownBlock] at hg
            · rw [e9] at hg
              simp only [Option.some.injEq] at hg
              omega
          have hW : WkAt W6 wb tb mb E ⟨y1, y2, pl, psl, 0, 0, FoundV.zero⟩ := ⟨pa, pc, b6, (ListIn.of_own C.out.2.2.2).aside k6, hcl, rows_cap C.out.2.2.2⟩
          have hwb0 : w.heap.size ≤ wb := by have := C.out.2.1.size; omega
          have k06 : Keep w W6 (fun _ => False) := C.out.2.1.aside k6
          have t4 := (wkCells b6).c4
          have t5 := (wkCells b6).c5
          have t7 := (wkCells b6).c7
          have t8 := (wkCells b6).c8
          have f7 := free_blk b6 7
          have f8 := free_blk b6 8
          simp only at t7 t8
          have e8 : W6.cell? ⟨w4.heap.size, 0, none⟩ = some (.bool pr) := by rw [cell_blk (k6.get C.out.2.2.1 (fun q => q))]; rfl
          have hdd := HD.out
          have hwst : wstart E fm fn (pr, psl, pl) = WkV.here ⟨if pr then E.rm else y1, if pr then E.rn else y2, pl, psl, 0, 0, FoundV.zero⟩ := by unfold wstart; rw [hdd]
          have G := Lib.hid (And.intro hW (And.intro hwb0 (And.intro k06 hwst)))
          clear e0 e1 e2 e3 e4 e5 e6 e7 n0 n2 n4 n6 hn1 hn2 hwb0 k06 hwst hdd hcl b6 k6 hwb hW
          cases pr with
          | true =>
            obtain ⟨q1, q2⟩ := G.out.1.setAt E.rm E.rn
            have hh := here_c q1
            have Q := Lib.hid q2
            clear q1 q2
            go_wp2_with (
              go_at_call 101
              refine hh.mono ?_
              rintro e w9 ⟨⟨u9, rfl⟩, h9, k9⟩
              have Y := Lib.hid (And.intro h9 ((G.out.2.2.1.trans Q.out (fun b q => .inr (by rw [show b = wb from q]; exact G.out.2.1))).trans k9 (fun b q => .inr (by rw [show b = wb from q]; exact G.out.2.1))))
              clear hh h9 k9)
            go_ret
            rw [← hR, G.out.2.2.2]
            refine KRes.mk (knew_on Y.out.2 ?_ Y.out.1 G.out.2.1)
            have := HF.out
            rw [G.out.2.2.2] at this
            exact this
          | false =>
            have hh := here_c G.out.1
            go_wp2_with (
              go_at_call 101
              refine hh.mono ?_
              rintro e w9 ⟨⟨u9, rfl⟩, h9, k9⟩
              have Y := Lib.hid (And.intro h9 (G.out.2.2.1.trans k9 (fun b q => .inr (by rw [show b = wb from q]; exact G.out.2.1))))
              clear hh h9 k9)
            go_ret
            rw [← hR, G.out.2.2.2]
            refine KRes.mk (knew_on Y.out.2 ?_ Y.out.1 G.out.2.1)
            have := HF.out
            rw [G.out.2.2.2] at this
            exact this
      · have g2 : (pe != 0) = true := by simpa using hpe
        rw [if_pos hpe] at hR
        subst hR
        clear hpe
        go_wp2
        go_ret
        exact KRes.mk (knew_off C.out.2.1 tb mb E pe)
end Go.Proofs.YtoanccechefclaaGreatDoor
