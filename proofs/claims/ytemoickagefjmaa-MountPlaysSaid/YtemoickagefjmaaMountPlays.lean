/-
  MountPlays: mounts answer and tell as the document says.
-/
import Derived.Test.YtemoickagefjmaaRM5
import Derived.Deep.DeepCutAuto
namespace Go.Proofs.Ytemoickagefjmaa
open Go Go.RowKit Go.Shelf
set_option linter.unusedSectionVars false
set_option linter.unusedSimpArgs false
set_option linter.unusedVariables false
set_option maxRecDepth 100000

/-- Both tables, and a box of the walk's own. -/
structure MB (W w : World) (tb rb : Nat) (S R : Nat → Prop) (V V2 : MountV) : Prop where
  keep : Keep W w (fun _ => False)
  tab : TableAt w tb S V
  ref : RTableAt w rb R V2
  sr : ∀ b, S b → ¬ R b
  s0 : ∀ b, S b → W.heap.size ≤ b
  r0 : ∀ b, R b → W.heap.size ≤ b
section
variable {W w w' : World} {tb rb : Nat} {S R S' R' : Nat → Prop} {V V2 V' : MountV}
theorem MB.turn (h : MB W w tb rb S R V V2) (ht : TableAt w' tb S' V') (k : TurnM w S w' S') : MB W w' tb rb S' R V' V2 :=
  ⟨h.keep.trans k.keep (fun b q => .inr (h.s0 b q)), ht, h.ref.keep k.keep (fun b q z => h.sr b z q), fun b q z => (k.new b q).elim (fun y => h.sr b y z) (fun y => by have := h.ref.lt b z; omega),
    fun b q => (k.new b q).elim (h.s0 b) (fun y => by have := h.keep.size; omega), h.r0⟩
theorem MB.refs (h : MB W w tb rb S R V V2) (ht : RTableAt w' rb R' V') (k : TurnM w R w' R') : MB W w' tb rb S R' V V' :=
  ⟨h.keep.trans k.keep (fun b q => .inr (h.r0 b q)), h.tab.keep k.keep (fun b q z => h.sr b q z), ht, fun b q z => (k.new b z).elim (fun y => h.sr b q y) (fun y => by have := h.tab.lt b q; omega),
    h.s0, fun b q => (k.new b q).elim (h.r0 b) (fun y => by have := h.keep.size; omega)⟩
theorem MB.aside (h : MB W w tb rb S R V V2) (k : Keep w w' (fun _ => False)) : MB W w' tb rb S R V V2 :=
  ⟨h.keep.aside k, h.tab.aside k, h.ref.aside k, h.sr, h.s0, h.r0⟩

structure MX (w : World) (S R : Nat → Prop) (xb : Nat) (o : Obj) : Prop where
  box : w.heap[xb]? = some o
  s : ¬ S xb
  r : ¬ R xb
variable {xb : Nat} {o : Obj}
theorem MX.turn (h : MX w S R xb o) (t : TurnM w S w' S') : MX w' S' R xb o :=
  ⟨t.keep.get h.box h.s, fun q => (t.new _ q).elim h.s (fun y => by have := lt_of_blk h.box; omega), h.r⟩
theorem MX.refs (h : MX w S R xb o) (t : TurnM w R w' R') : MX w' S R' xb o :=
  ⟨t.keep.get h.box h.r, h.s, fun q => (t.new _ q).elim h.r (fun y => by have := lt_of_blk h.box; omega)⟩
theorem MX.aside (h : MX w S R xb o) (k : Keep w w' (fun _ => False)) : MX w' S R xb o := ⟨k.get h.box (fun q => q), h.s, h.r⟩

def MP (W w : World) (tb rb xb : Nat) (S R : Nat → Prop) (V V2 : MountV) (o : Obj) : Prop := MB W w tb rb S R V V2 ∧ MX w S R xb o
theorem MP.turn (h : MP W w tb rb xb S R V V2 o) (ht : TableAt w' tb S' V') (k : TurnM w S w' S') : MP W w' tb rb xb S' R V' V2 o := ⟨h.1.turn ht k, h.2.turn k⟩
theorem MP.refs (h : MP W w tb rb xb S R V V2 o) (ht : RTableAt w' rb R' V') (k : TurnM w R w' R') : MP W w' tb rb xb S R' V V' o := ⟨h.1.refs ht k, h.2.refs k⟩
theorem MP.aside (h : MP W w tb rb xb S R V V2 o) (k : Keep w w' (fun _ => False)) : MP W w' tb rb xb S R V V2 o := ⟨h.1.aside k, h.2.aside k⟩
end

theorem isame_eq {w : World} {va vb : Value} {a : List Int} (ha : ListIn w va (a.map (Value.int .i64))) (hb : ListIn w vb (a.map (Value.int .i64))) (hl : a.length ≤ 1099511627776) :
    Calls Try.prog 41 #[va, vb] w fun r w' => r = .returned (.bool true) ∧ Keep w w' (fun _ => False) := by
  refine (isame_c ha hb hl hl).mono ?_
  rintro e w' ⟨rfl, q, rfl⟩
  exact ⟨by simp, drewN_keep _ _ _⟩

def askO (k m nd am an : Int) : Obj := .cells #[.int .i64 k, .int .i64 m, .int .i64 nd, .int .i64 am, .int .i64 an] 56 (0, 0)

theorem askO_cells {w : World} {xb : Nat} {k m nd am an : Int} (h : w.heap[xb]? = some (askO k m nd am an)) :
    w.cell? ⟨xb, 0, none⟩ = some (.int .i64 k) ∧ w.cell? ⟨xb, 1, none⟩ = some (.int .i64 m) ∧ w.cell? ⟨xb, 2, none⟩ = some (.int .i64 nd) ∧ w.cell? ⟨xb, 3, none⟩ = some (.int .i64 am) ∧ w.cell? ⟨xb, 4, none⟩ = some (.int .i64 an) :=
  ⟨by rw [cell_blk h]; rfl, by rw [cell_blk h]; rfl, by rw [cell_blk h]; rfl, by rw [cell_blk h]; rfl, by rw [cell_blk h]; rfl⟩

set_option maxHeartbeats 8000000 in
theorem mplays_walk (root : Int) (a : Option Addr) (len cap : Nat) (w : World) (h : StructsIs asksM w a len cap) :
    Calls Try.prog 8 #[.int .i64 root, .slice a len cap] w fun r w' => r = .returned (.bool true) ∧ Below w.heap.size w w' := by
  have hcap := h.cap
  have hlen : len ≤ 9223372036854775807 := by have := hcap.1; have := hcap.2; unfold maxLen at this; omega
  have H := Lib.hid h
  clear h hcap
  go_enter Try.func8, Try.ntmps8
  go_upto_block 0 with (first
    | (go_at_call 30
       refine (mnew_c _ root).mono ?_
       rintro e w2 ⟨tb, S1, rfl, hp, ht⟩
       have C1 := Lib.hid (And.intro hp ht)
       clear hp ht)
    | (go_at_call 42
       refine (rmnew_c _ root).mono ?_
       rintro e w3 ⟨rb, R1, rfl, hp, ht⟩
       have C2 := Lib.hid (And.intro hp ht)
       clear hp ht))
  go_cut [] (fun wx => ∃ S R V, MB w wx tb rb S R V V)
  case first =>
    go_wp2_with fail
    go_loopg [7] 60 (fun g s7 wr => ∃ (j : Nat) (S R : Nat → Prop) (V : MountV), j ≤ 60 ∧ g = 60 - j ∧ s7 = .int .i64 j ∧ MB w wr tb rb S R V V ∧ V.made ≤ j ∧ 0 ≤ V.turns ∧ V.turns ≤ j)
    case atStart =>
      obtain ⟨hT1, hK1⟩ := C1.out
      obtain ⟨hR1, hK2⟩ := C2.out
      have hsz := hK1.keep.size
      refine ⟨0, S1, R1, _, by omega, rfl, rfl, ⟨hK1.keep.aside hK2.keep, hT1.aside hK2.keep, hR1, fun b q z => ?_, fun b q => (hK1.new b q).elim (fun z => z.elim) id, fun b q => (hK2.new b q).elim (fun z => z.elim) (fun z => by omega)⟩, Int.le_refl _, Int.le_refl _, Int.le_refl _⟩
      have := hT1.lt b q
      have := (hK2.new b z).elim (fun z => z.elim) id
      omega
    case round =>
      obtain ⟨j, S, R, V, hj, rfl, rfl, hB, hm1, ht0, ht1⟩ := hrel
      have B := Lib.hid hB
      clear hB
      by_cases hlt : j < len
      · by_cases hlt2 : j < 60
        · have g3 : (j : Int) < (len : Int) := by omega
          have g4 : (j : Int) < 60 := by omega
          obtain ⟨b, off, rfl, hblt, hat⟩ := asksM_at H.out (by omega)
          obtain ⟨k, m, nd, am, an, hA, -⟩ := hat j hlt
          obtain ⟨c0, c1, c2, c3, c4⟩ := hA.keep B.out.keep
          clear hat hA
          obtain ⟨wo, rfl⟩ : ∃ wo : World, wo = wr := ⟨_, rfl⟩
          go_upto_if 43 with (fail)
          obtain ⟨wx, hwx⟩ : ∃ wx, wx = wo.alloc (.cells #[.int .i64 k, .int .i64 m, .int .i64 nd, .int .i64 am, .int .i64 an] 56) := ⟨_, rfl⟩
          have kx := boxes1 wo (askO k m nd am an)
          have hX0 : MP w wx tb rb wo.heap.size S R V V (askO k m nd am an) := by
            rw [hwx]
            exact ⟨B.out.aside kx.1, kx.2.1, fun q => Nat.lt_irrefl _ (B.out.tab.lt _ q), fun q => Nat.lt_irrefl _ (B.out.ref.lt _ q)⟩
          rw [← hwx]
          clear hwx kx c0 c1 c2 c3 c4
          obtain ⟨e0, e1, e2, e3, e4⟩ := askO_cells hX0.2.box
          have X := Lib.hid hX0
          clear hX0
          go_cut [] (fun wy => ∃ S3 R3 V3, MP w wy tb rb wo.heap.size S3 R3 V3 V3 (askO k m nd am an) ∧ V3.made ≤ j + 1 ∧ 0 ≤ V3.turns ∧ V3.turns ≤ j + 1)
          case first =>
            by_cases hk1 : k = 1
            · subst hk1
              have hcn := MountV.bind_counts V am an nd
              have hu := mbind_c X.out.1.tab ⟨ht0, by omega⟩ (by omega) am an nd
              obtain ⟨U, r1, r2, hue⟩ : ∃ U r1 r2, V.bind am an nd = (U, r1, r2) := ⟨_, _, _, rfl⟩
              rw [hue] at hu hcn
              simp only at hu hcn
              have HUE := Lib.hid hue
              clear hue
              have h1' : (r1 != r1) = false := by simp
              have h2' : (r2 != r2) = false := by simp
              go_wp2_with (first
                | (go_at_call 32
                   refine hu.mono ?_
                   rintro e w4 ⟨rfl, S4, hp4, ht4⟩
                   have X4 := X.out.turn hp4 ht4
                   obtain ⟨i0, i1, i2, i3, i4⟩ := askO_cells X4.2.box
                   have hv := rmbind_c X4.1.ref (by omega) am an nd
                   rw [HUE.out] at hv
                   simp only at hv
                   have X4h := Lib.hid X4
                   clear hu hp4 ht4 X4)
                | (go_at_call 43
                   refine hv.mono ?_
                   rintro e w5 ⟨rfl, R5, hp5, ht5⟩
                   have X5 := Lib.hid (X4h.out.refs hp5 ht5)
                   clear hv hp5 ht5))
              go_meet
              case rel => exact ⟨_, _, _, X5.out, by omega, by omega, by omega⟩
            · have g12 : (k == 1) = false := by simpa using hk1
              by_cases hk2 : k = 2
              · subst hk2
                have hcn := MountV.unbind_counts V m
                have hu := fun w1 (K : Keep wx w1 (fun _ => False)) => munbind_c (X.out.aside K).1.tab ⟨ht0, by omega⟩ m
                obtain ⟨U, r1, hue⟩ : ∃ U r1, V.unbind m = (U, r1) := ⟨_, _, rfl⟩
                rw [hue] at hu hcn
                simp only at hu hcn
                have HUE := Lib.hid hue
                clear hue
                have h1' : (r1 != r1) = false := by simp
                go_wp2
                go_region_held3 (fun w' => w'.cell? ⟨wo.heap.size, 1, none⟩ = some (.int .i64 m)) (go_keep) (first
                  | (go_at_call 36
                     refine (hu _ ?_).mono ?_
                     · first | exact Keep.refl _ _ | exact Keep.drew _ _ | exact drewN_keep _ _ _
                     rintro e w4 ⟨rfl, S4, hp4, ht4⟩
                     have X4 := (X.out.aside (Keep.drew _ _)).turn hp4 ht4
                     obtain ⟨i0, i1, i2, i3, i4⟩ := askO_cells X4.2.box
                     have hv := fun w1 (K : Keep w4 w1 (fun _ => False)) => rmunbind_c (X4.aside K).1.ref (by omega) m
                     rw [HUE.out] at hv
                     simp only at hv
                     have X4h := Lib.hid X4
                     clear hu hp4 ht4 X4)
                  | (go_at_call 44
                     refine (hv _ ?_).mono ?_
                     · first | exact Keep.refl _ _ | exact Keep.drew _ _ | exact drewN_keep _ _ _
                     rintro e w5 ⟨rfl, R5, hp5, ht5⟩
                     have X5 := X4h.out.refs hp5 ht5
                     obtain ⟨i0, i1, i2, i3, i4⟩ := askO_cells X5.2.box
                     have X5h := Lib.hid X5
                     clear hv hp5 ht5 X5))
                all_goals go_wp2
                go_meet
                case rel => exact ⟨_, _, _, X5h.out, by omega, by omega, by omega⟩
              · have g13 : (k == 2) = false := by simpa using hk2
                go_wp2
                go_meet
                case rel => exact ⟨_, _, _, X.out, by omega, by omega, by omega⟩
          case rest =>
            obtain ⟨S3, R3, V3, hX3, hv1, hv2, hv3⟩ := hcut
            have X3 := Lib.hid hX3
            obtain ⟨e0', e1', e2', e3', e4'⟩ := askO_cells hX3.2.box
            obtain ⟨um, un, uok, hup⟩ : ∃ um un uok, V3.up am an = (um, un, uok) := ⟨_, _, _, rfl⟩
            obtain ⟨rt, rok, hrt⟩ : ∃ rt rok, V3.root_ m = (rt, rok) := ⟨_, _, rfl⟩
            have h1 := mup_c hX3.1.tab am an
            have h2 := fun w1 (K : Keep wc w1 (fun _ => False)) => rmup_c (hX3.aside K).1.ref (by omega) am an
            have h3 := fun w1 (K : Keep wc w1 (fun _ => False)) => mroot_c (hX3.aside K).1.tab m
            have h4 := fun w1 (K : Keep wc w1 (fun _ => False)) => rmroot_c (hX3.aside K).1.ref (by omega) m
            rw [hup] at h1 h2
            rw [hrt] at h3 h4
            simp only at h1 h2 h3 h4
            clear hX3 hup hrt e0 e1 e2 e3 e4
            obtain ⟨wr0, hwr0⟩ : ∃ wr0, wr0 = wc := ⟨_, rfl⟩
            go_upto_region 21 with (first
              | (go_at_call 34
                 refine h1.mono ?_
                 rintro e w4 ⟨rfl, hk4⟩
                 have kN := hk4.aside (Keep.alloc w4 (.cells #[.int .i64 um, .int .i64 un] 49) (fun _ => False))
                 have bp := heap_alloc_eq w4 (.cells #[.int .i64 um, .int .i64 un] 49)
                 have zp := hk4.size
                 have i3 := kN.cell e3' (fun q => q)
                 have i4 := kN.cell e4' (fun q => q)
                 have h2' := h2 _ kN
                 have K4 := Lib.hid (And.intro kN bp)
                 clear hk4 kN bp h1 h2)
              | (go_at_call 45
                 refine h2'.mono ?_
                 rintro e w5 ⟨rfl, hk5⟩
                 have hk5a := hk5.aside (Keep.alloc w5 (.cells #[.int .i64 um, .int .i64 un] 49) (fun _ => False))
                 have bp := hk5a.get K4.out.2 (fun q => q)
                 have bq := heap_alloc_eq w5 (.cells #[.int .i64 um, .int .i64 un] 49)
                 have kN := K4.out.1.aside hk5a
                 have i1 := kN.cell e1' (fun q => q)
                 have h3' := h3 _ kN
                 have K5 := Lib.hid (And.intro kN (And.intro bp bq))
                 clear hk5 hk5a bp bq kN h2' h3 i3 i4)
              | (go_at_call 38
                 refine h3'.mono ?_
                 rintro e w6 ⟨rfl, hk6⟩
                 have kN := K5.out.1.aside hk6
                 have bp := hk6.get K5.out.2.1 (fun q => q)
                 have bq := hk6.get K5.out.2.2 (fun q => q)
                 have i1' := kN.cell e1' (fun q => q)
                 have h4' := h4 _ kN
                 have K6 := Lib.hid (And.intro kN (And.intro bp bq))
                 clear hk6 bp bq kN h3' h4)
              | (go_at_call 46
                 refine h4'.mono ?_
                 rintro e w7 ⟨rfl, hw7⟩
                 obtain rfl : w6 = w7 := hw7.symm
                 clear h4'))
            obtain ⟨wK, hwK⟩ : ∃ wK, wK = w6 := ⟨_, rfl⟩
            rw [← hwK] at K6 ⊢
            clear hwK
            have XK := Lib.hid (X3.out.aside K6.out.1)
            obtain ⟨k0, k1, k2, k3, k4⟩ := askO_cells XK.out.2.box
            have u0 : wK.cell? ⟨w4.heap.size, 0, none⟩ = some (.int .i64 um) := by rw [cell_blk K6.out.2.1]; rfl
            have u1 : wK.cell? ⟨w4.heap.size, 1, none⟩ = some (.int .i64 un) := by rw [cell_blk K6.out.2.1]; rfl
            have u2 : wK.cell? ⟨w5.heap.size, 0, none⟩ = some (.int .i64 um) := by rw [cell_blk K6.out.2.2]; rfl
            have u3 : wK.cell? ⟨w5.heap.size, 1, none⟩ = some (.int .i64 un) := by rw [cell_blk K6.out.2.2]; rfl
            have HE := Lib.hid (And.intro k2 (And.intro k3 (And.intro k4 (And.intro k1 (And.intro u0 (And.intro u1 (And.intro u2 u3)))))))
            have HLN := Lib.hid (show V3.list.length ≤ 1099511627776 ∧ (V3.above m).length ≤ 1099511627776 from by
              have h8 := XK.out.1.tab.ok.most
              have := abv_len m V3.live
              have e : V3.above m = abv m V3.live := rfl
              unfold MountV.list
              rw [List.length_map, e]
              omega)
            obtain ⟨dm, dn, hdn⟩ : ∃ dm dn, V3.down am an = (dm, dn) := ⟨_, _, rfl⟩
            obtain ⟨cv, hcv⟩ : ∃ cv, V3.covered nd = cv := ⟨_, rfl⟩
            have hd1 := fun w1 (K : Keep wK w1 (fun _ => False)) => (mdown_c (XK.out.aside K).1.tab am an).mono fun e w2 (h : _ ∧ _) => And.intro h.1 (K.aside h.2)
            have hd2 := fun w1 (K : Keep wK w1 (fun _ => False)) => (rmdown_c (XK.out.aside K).1.ref (by omega) am an).mono fun e w2 (h : _ ∧ _) => And.intro h.1 (K.aside h.2)
            have hc1 := fun w1 (K : Keep wK w1 (fun _ => False)) => (mcov_c (XK.out.aside K).1.tab nd).mono fun e w2 (h : _ ∧ _) => And.intro h.1 (K.aside h.2)
            have hc2 := fun w1 (K : Keep wK w1 (fun _ => False)) => (rmcov_c (XK.out.aside K).1.ref (by omega) nd).mono fun e w2 (h : _ ∧ _) => And.intro h.1 (K.aside h.2)
            have hl1 := fun w1 (K : Keep wK w1 (fun _ => False)) => (mlist_c (XK.out.aside K).1.tab).mono fun e w2 h => (show ∃ v, e = .returned v ∧ w2.ownsRow 0 3 1 v V3.list.length (V3.list.map (Value.int .i64)) ∧ Keep w1 w2 (fun _ => False) ∧ Keep wK w2 (fun _ => False) from by
              obtain ⟨v, h1, h2, h3, _⟩ := h; exact ⟨v, h1, h2, h3, K.aside h3⟩)
            have hl2 := fun w1 (K : Keep wK w1 (fun _ => False)) => (rmlist_c (XK.out.aside K).1.ref (by omega)).mono fun e w2 h => (show ∃ v, e = .returned v ∧ w2.ownsRow 0 3 1 v (V3.list.map (Value.int .i64)).length (V3.list.map (Value.int .i64)) ∧ Keep w1 w2 (fun _ => False) ∧ Keep wK w2 (fun _ => False) from by
              obtain ⟨v, h1, h2⟩ := h; exact ⟨v, h1, h2.row, h2.keep, K.aside h2.keep⟩)
            have ha1 := fun w1 (K : Keep wK w1 (fun _ => False)) => (mabv_c (XK.out.aside K).1.tab m).mono fun e w2 h => (show ∃ v, e = .returned v ∧ w2.ownsRow 0 3 1 v (V3.above m).length ((V3.above m).map (Value.int .i64)) ∧ Keep w1 w2 (fun _ => False) ∧ Keep wK w2 (fun _ => False) from by
              obtain ⟨v, h1, h2, h3, _⟩ := h; exact ⟨v, h1, h2, h3, K.aside h3⟩)
            have ha2 := fun w1 (K : Keep wK w1 (fun _ => False)) => (rmabv_c (XK.out.aside K).1.ref (by omega) m).mono fun e w2 h => (show ∃ v, e = .returned v ∧ w2.ownsRow 0 3 1 v ((V3.above m).map (Value.int .i64)).length ((V3.above m).map (Value.int .i64)) ∧ Keep w1 w2 (fun _ => False) ∧ Keep wK w2 (fun _ => False) from by
              obtain ⟨v, h1, h2⟩ := h; exact ⟨v, h1, h2.row, h2.keep, K.aside h2.keep⟩)
            rw [hdn] at hd1 hd2
            rw [hcv] at hc1 hc2
            simp only at hd1 hd2
            have q1' : (uok != uok) = false := by simp
            have q2' : (rt != rt) = false := by simp
            have q3' : (rok != rok) = false := by simp
            have q4' : (cv != cv) = false := by simp
            have BK := Lib.hid XK.out.1
            clear hdn hcv e0' e1' e2' e3' e4' i1 i1' hwr0
            go_cut [169] (fun s169 wx => s169 = .bool false ∧ Keep wK wx (fun _ => False))
            case first =>
              go_region_held3 (fun w' => (w'.cell? ⟨wo.heap.size, 3, none⟩ = some (.int .i64 am) ∧ w'.cell? ⟨wo.heap.size, 4, none⟩ = some (.int .i64 an) ∧ w'.cell? ⟨wo.heap.size, 2, none⟩ = some (.int .i64 nd) ∧ w'.cell? ⟨wo.heap.size, 1, none⟩ = some (.int .i64 m)) ∧ w'.cell? ⟨w4.heap.size, 0, none⟩ = some (.int .i64 um) ∧ w'.cell? ⟨w4.heap.size, 1, none⟩ = some (.int .i64 un) ∧ w'.cell? ⟨w5.heap.size, 0, none⟩ = some (.int .i64 um) ∧ w'.cell? ⟨w5.heap.size, 1, none⟩ = some (.int .i64 un)) (go_keep) (first
                | (go_at_call 37
                   refine (hd1 _ ?_).mono ?_
                   · first | exact Keep.refl _ _ | exact Keep.drew _ _ | exact drewN_keep _ _ _ | exact kN | exact Keep.drewNew kN
                   rintro e wN ⟨rfl, kN⟩
                   have i2 := kN.cell HE.out.1 (fun q => q)
                   have i3 := kN.cell HE.out.2.1 (fun q => q)
                   have i4 := kN.cell HE.out.2.2.1 (fun q => q)
                   have i1 := kN.cell HE.out.2.2.2.1 (fun q => q)
                   have u0 := kN.cell HE.out.2.2.2.2.1 (fun q => q)
                   have u1 := kN.cell HE.out.2.2.2.2.2.1 (fun q => q)
                   have u2 := kN.cell HE.out.2.2.2.2.2.2.1 (fun q => q)
                   have u3 := kN.cell HE.out.2.2.2.2.2.2.2 (fun q => q)
                   clear hd1)
                | (go_at_call 47
                   refine (hd2 _ ?_).mono ?_
                   · first | exact Keep.refl _ _ | exact Keep.drew _ _ | exact drewN_keep _ _ _ | exact kN | exact Keep.drewNew kN
                   rintro e wN ⟨rfl, kN⟩
                   have i2 := kN.cell HE.out.1 (fun q => q)
                   have i3 := kN.cell HE.out.2.1 (fun q => q)
                   have i4 := kN.cell HE.out.2.2.1 (fun q => q)
                   have i1 := kN.cell HE.out.2.2.2.1 (fun q => q)
                   have u0 := kN.cell HE.out.2.2.2.2.1 (fun q => q)
                   have u1 := kN.cell HE.out.2.2.2.2.2.1 (fun q => q)
                   have u2 := kN.cell HE.out.2.2.2.2.2.2.1 (fun q => q)
                   have u3 := kN.cell HE.out.2.2.2.2.2.2.2 (fun q => q)
                   clear hd2)
                | (go_at_call 40
                   refine (hc1 _ ?_).mono ?_
                   · first | exact Keep.refl _ _ | exact Keep.drew _ _ | exact drewN_keep _ _ _ | exact kN | exact Keep.drewNew kN
                   rintro e wN ⟨rfl, kN⟩
                   have i2 := kN.cell HE.out.1 (fun q => q)
                   have i3 := kN.cell HE.out.2.1 (fun q => q)
                   have i4 := kN.cell HE.out.2.2.1 (fun q => q)
                   have i1 := kN.cell HE.out.2.2.2.1 (fun q => q)
                   have u0 := kN.cell HE.out.2.2.2.2.1 (fun q => q)
                   have u1 := kN.cell HE.out.2.2.2.2.2.1 (fun q => q)
                   have u2 := kN.cell HE.out.2.2.2.2.2.2.1 (fun q => q)
                   have u3 := kN.cell HE.out.2.2.2.2.2.2.2 (fun q => q)
                   clear hc1)
                | (go_at_call 48
                   refine (hc2 _ ?_).mono ?_
                   · first | exact Keep.refl _ _ | exact Keep.drew _ _ | exact drewN_keep _ _ _ | exact kN | exact Keep.drewNew kN
                   rintro e wN ⟨rfl, kN⟩
                   have i2 := kN.cell HE.out.1 (fun q => q)
                   have i3 := kN.cell HE.out.2.1 (fun q => q)
                   have i4 := kN.cell HE.out.2.2.1 (fun q => q)
                   have i1 := kN.cell HE.out.2.2.2.1 (fun q => q)
                   have u0 := kN.cell HE.out.2.2.2.2.1 (fun q => q)
                   have u1 := kN.cell HE.out.2.2.2.2.2.1 (fun q => q)
                   have u2 := kN.cell HE.out.2.2.2.2.2.2.1 (fun q => q)
                   have u3 := kN.cell HE.out.2.2.2.2.2.2.2 (fun q => q)
                   clear hc2)
                | (go_at_call 33
                   refine (hl1 _ ?_).mono ?_
                   · first | exact Keep.refl _ _ | exact Keep.drew _ _ | exact drewN_keep _ _ _ | exact kN | exact Keep.drewNew kN
                   rintro e wN ⟨vLA, rfl, ho, k2, kN⟩
                   have LA := Lib.hid (ListIn.of_own ho)
                   clear ho
                   have i2 := kN.cell HE.out.1 (fun q => q)
                   have i3 := kN.cell HE.out.2.1 (fun q => q)
                   have i4 := kN.cell HE.out.2.2.1 (fun q => q)
                   have i1 := kN.cell HE.out.2.2.2.1 (fun q => q)
                   have u0 := kN.cell HE.out.2.2.2.2.1 (fun q => q)
                   have u1 := kN.cell HE.out.2.2.2.2.2.1 (fun q => q)
                   have u2 := kN.cell HE.out.2.2.2.2.2.2.1 (fun q => q)
                   have u3 := kN.cell HE.out.2.2.2.2.2.2.2 (fun q => q)
                   clear hl1)
                | (go_at_call 49
                   refine (hl2 _ ?_).mono ?_
                   · first | exact Keep.refl _ _ | exact Keep.drew _ _ | exact drewN_keep _ _ _ | exact kN | exact Keep.drewNew kN
                   rintro e wN ⟨vLB, rfl, ho, k2, kN⟩
                   have LB := Lib.hid (ListIn.of_own ho)
                   replace LA := Lib.hid (LA.out.aside k2)
                   have hs := fun w' (K : Keep wN w' (fun _ => False)) => (isame_eq (w := w') (LA.out.aside K) (LB.out.aside K) HLN.out.1).mono fun e w2 (h : _ ∧ _) => And.intro h.1 ((kN.aside K).aside h.2)
                   clear ho
                   have i2 := kN.cell HE.out.1 (fun q => q)
                   have i3 := kN.cell HE.out.2.1 (fun q => q)
                   have i4 := kN.cell HE.out.2.2.1 (fun q => q)
                   have i1 := kN.cell HE.out.2.2.2.1 (fun q => q)
                   have u0 := kN.cell HE.out.2.2.2.2.1 (fun q => q)
                   have u1 := kN.cell HE.out.2.2.2.2.2.1 (fun q => q)
                   have u2 := kN.cell HE.out.2.2.2.2.2.2.1 (fun q => q)
                   have u3 := kN.cell HE.out.2.2.2.2.2.2.2 (fun q => q)
                   clear hl2)
                | (go_at_call 39
                   refine (ha1 _ ?_).mono ?_
                   · first | exact Keep.refl _ _ | exact Keep.drew _ _ | exact drewN_keep _ _ _ | exact kN | exact Keep.drewNew kN
                   rintro e wN ⟨vLC, rfl, ho, k2, kN⟩
                   have LC := Lib.hid (ListIn.of_own ho)
                   clear ho
                   have i2 := kN.cell HE.out.1 (fun q => q)
                   have i3 := kN.cell HE.out.2.1 (fun q => q)
                   have i4 := kN.cell HE.out.2.2.1 (fun q => q)
                   have i1 := kN.cell HE.out.2.2.2.1 (fun q => q)
                   have u0 := kN.cell HE.out.2.2.2.2.1 (fun q => q)
                   have u1 := kN.cell HE.out.2.2.2.2.2.1 (fun q => q)
                   have u2 := kN.cell HE.out.2.2.2.2.2.2.1 (fun q => q)
                   have u3 := kN.cell HE.out.2.2.2.2.2.2.2 (fun q => q)
                   clear ha1)
                | (go_at_call 50
                   refine (ha2 _ ?_).mono ?_
                   · first | exact Keep.refl _ _ | exact Keep.drew _ _ | exact drewN_keep _ _ _ | exact kN | exact Keep.drewNew kN
                   rintro e wN ⟨vLD, rfl, ho, k2, kN⟩
                   have LD := Lib.hid (ListIn.of_own ho)
                   replace LC := Lib.hid (LC.out.aside k2)
                   have hs := fun w' (K : Keep wN w' (fun _ => False)) => (isame_eq (w := w') (LC.out.aside K) (LD.out.aside K) HLN.out.2).mono fun e w2 (h : _ ∧ _) => And.intro h.1 ((kN.aside K).aside h.2)
                   clear ho
                   have i2 := kN.cell HE.out.1 (fun q => q)
                   have i3 := kN.cell HE.out.2.1 (fun q => q)
                   have i4 := kN.cell HE.out.2.2.1 (fun q => q)
                   have i1 := kN.cell HE.out.2.2.2.1 (fun q => q)
                   have u0 := kN.cell HE.out.2.2.2.2.1 (fun q => q)
                   have u1 := kN.cell HE.out.2.2.2.2.2.1 (fun q => q)
                   have u2 := kN.cell HE.out.2.2.2.2.2.2.1 (fun q => q)
                   have u3 := kN.cell HE.out.2.2.2.2.2.2.2 (fun q => q)
                   clear ha2)
                | (go_at_call 41
                   refine (hs _ ?_).mono ?_
                   · first | exact Keep.refl _ _ | exact Keep.drew _ _ | exact drewN_keep _ _ _
                   clear kN
                   rintro e wM ⟨rfl, kN⟩
                   have i2 := kN.cell HE.out.1 (fun q => q)
                   have i3 := kN.cell HE.out.2.1 (fun q => q)
                   have i4 := kN.cell HE.out.2.2.1 (fun q => q)
                   have i1 := kN.cell HE.out.2.2.2.1 (fun q => q)
                   have u0 := kN.cell HE.out.2.2.2.2.1 (fun q => q)
                   have u1 := kN.cell HE.out.2.2.2.2.2.1 (fun q => q)
                   have u2 := kN.cell HE.out.2.2.2.2.2.2.1 (fun q => q)
                   have u3 := kN.cell HE.out.2.2.2.2.2.2.2 (fun q => q)
                   clear hs))
              all_goals go_wp2
              all_goals go_meet
              all_goals exact ⟨rfl, kN⟩
            case rest =>
              obtain ⟨rfl, kE⟩ := hcut
              have HZ := Lib.hid (BK.out.aside kE)
              clear kE
              go_wp2
              go_roundg (60 - (j + 1))
              case measure => omega
              case rel => exact ⟨j + 1, S3, R3, V3, by omega, rfl, by go_num, HZ.out, by omega, by omega, by omega⟩
        · have g3 : (j : Int) < (len : Int) := by omega
          have g4 : ¬ (j : Int) < 60 := by omega
          go_wp2
          go_meet
          case rel => exact ⟨S, R, V, B.out⟩
      · have g3 : ¬ (j : Int) < (len : Int) := by omega
        go_wp2
        go_meet
        case rel => exact ⟨S, R, V, B.out⟩
  case rest =>
    obtain ⟨S, R, V, hB⟩ := hcut
    have B := Lib.hid hB
    clear hB
    go_wp2_with (
      go_at_call 35
      refine (mknown_c _).mono ?_
      rintro e w9 ⟨rfl, hk9⟩
      have M9 := Lib.hid hk9
      clear hk9)
    go_ret
    exact ⟨rfl, (B.out.keep.aside M9.out).below (Nat.le_refl _) (fun _ q => q.elim)⟩

theorem mplays_row (root : Int) (a : Option Addr) (len cap : Nat) (w : World) (_ : (Lit.int .i64 root).wf = true) (h : StructsIs [.int .i64, .int .i64, .int .i64, .int .i64, .int .i64] w a len cap) :
    Calls Try.prog 8 #[.int .i64 root, .slice a len cap] w fun r w' => r = .returned (.bool true) ∧ Below w.heap.size w w' := mplays_walk root a len cap w h

end Go.Proofs.Ytemoickagefjmaa
