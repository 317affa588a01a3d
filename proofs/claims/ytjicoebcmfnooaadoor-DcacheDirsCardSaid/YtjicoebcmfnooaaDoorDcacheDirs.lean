/-
  DcacheDirs: the walk.
-/
import Derived.Test.YtjicoebcmfnooaaDoorDShrink
import Derived.Test.YtjicoebcmfnooaaDoorDcacheLast
import Derived.Deep.RegionHeld3
namespace Go.Proofs.YtjicoebcmfnooaaDoor
open Go Go.RowKit Go.Shelf
set_option linter.unusedSectionVars false
set_option linter.unusedSimpArgs false
set_option linter.unusedVariables false
set_option maxRecDepth 100000
attribute [local go_sem] Oper.semAt_some

theorem cells_len (x : AskD) : x.cells.length = 4 := rfl

theorem ask_info : ∃ i z, Tryd.prog.info? 28 = some i ∧ i.zero = some z ∧ i.size = 4 ∧ i.bytes ≤ 64 ∧ z.cells.size = 4 := by
  have h : (Tryd.prog.info? 28).map (fun i => (i.size, decide (i.bytes ≤ 64), i.zero.map fun z => z.cells.size)) = some (4, true, some 4) := by kernel_rfl
  cases hh : Tryd.prog.info? 28 with
  | none => rw [hh] at h; simp at h
  | some i =>
    rw [hh] at h
    simp only [Option.map_some, Option.some.injEq, Prod.mk.injEq, decide_eq_true_eq] at h
    obtain ⟨h1, h2, h3⟩ := h
    cases hz : i.zero with
    | none => rw [hz] at h3; simp at h3
    | some z =>
      rw [hz] at h3
      simp at h3
      exact ⟨i, z, rfl, hz, h1, h2, h3⟩

/-- A row of asks of one's own. -/
structure RowD (base wr : World) (v : Value) (L : List AskD) : Prop where
  row : wr.ownsRow 0 28 4 v L.length (flat AskD.cells L)
  new : ∀ b, v.ownBlock = some b → base.heap.size ≤ b

theorem RowD.keep {base w w' : World} {v : Value} {L : List AskD} {S : Nat → Prop} (h : RowD base w v L) (k : Keep w w' S) (hS : ∀ b, v.ownBlock = some b → ¬ S b) : RowD base w' v L := ⟨rows_keep h.row k hS, h.new⟩
theorem RowD.lt {base w : World} {v : Value} {L : List AskD} (h : RowD base w v L) : ∀ b, v.ownBlock = some b → b < w.heap.size := fun b q => by
  rcases rows_val h.row with ⟨rfl, _⟩ | ⟨g, cap, rfl, _, h5, h6⟩
  · simp [Value.ownBlock] at q
  · rw [h5] at q; cases q; exact h6

def memOf (L : List AskD) : Mem := L.map fun x => (x.nm, x.n)

theorem adel_filterA {A : Mem} (hn : (A.map Prod.fst).Nodup) (x : Nm) : adel A x = A.filter (fun y => decide (y.1 ≠ x)) := by
  induction A with
  | nil => rfl
  | cons y s ih =>
    obtain ⟨a, u⟩ := y
    simp only [List.map_cons, List.nodup_cons] at hn
    simp only [adel, List.filter_cons]
    by_cases e : a = x
    · subst e
      simp only [if_true, ne_eq, not_true_eq_false, decide_false, Bool.false_eq_true, if_false]
      symm
      rw [List.filter_eq_self]
      intro z hz
      simp only [decide_eq_true_eq]
      exact fun q => hn.1 (by rw [← q]; exact List.mem_map_of_mem hz)
    · simp only [e, if_false, ne_eq, not_false_eq_true, decide_true, if_true]
      rw [ih hn.2]

def without (L : List AskD) (x : Nm) : List AskD := L.filter fun y => decide (y.nm ≠ x)

theorem memOf_touch {L : List AskD} (hn : ((memOf L).map Prod.fst).Nodup) (x : AskD) : touch (memOf L) x.nm x.n = memOf (without L x.nm ++ [x]) := by
  unfold touch
  rw [adel_filterA hn]
  unfold memOf without
  rw [List.filter_map, List.map_append]
  rfl

theorem without_snoc (L : List AskD) (y : AskD) (x : Nm) : without (L ++ [y]) x = without L x ++ if y.nm = x then [] else [y] := by
  unfold without
  rw [List.filter_append]
  congr 1
  by_cases h : y.nm = x <;> simp [h]

theorem without_len (L : List AskD) (x : Nm) : (without L x).length ≤ L.length := List.length_filter_le _ _

theorem put_fits {most : Int} {A : Mem} {x : Nm} {v : Int} (h : ((touch A x v).length : Int) ≤ most) : putA most A x v = (touch A x v, ByteArray.empty) := by
  unfold putA
  rw [if_pos h]

theorem same_get {A B : Mem} (hA : (A.map Prod.fst).Nodup) (h : ∀ z, aget A z = aget B z) (x : Nm) : ∀ z, aget (getA A x).1 z = aget B z := by
  intro z
  unfold getA
  cases hg : aget A x with
  | none => exact h z
  | some v =>
    dsimp only
    rw [aget_touch hA]
    split
    · rename_i e
      rw [← e, ← h, hg]
    · exact h z

/-- How many of the rest are the dir's. -/
def cntDir (d : Int) (L : List AskD) : Nat := (L.filter fun x => decide (x.dir = d)).length

theorem cntDir_drop {d : Int} {L : List AskD} {k : Nat} {x : AskD} (hx : L[k]? = some x) : cntDir d (L.drop k) = cntDir d (L.drop (k + 1)) + if x.dir = d then 1 else 0 := by
  obtain ⟨h1, h2⟩ := List.getElem?_eq_some_iff.1 hx
  rw [List.drop_eq_getElem_cons h1, h2]
  unfold cntDir
  rw [List.filter_cons]
  by_cases e : x.dir = d <;> simp [e]

theorem forget_cnt (L : List AskD) (d : Int) : (forgetA (memOf L) d).2 = (cntDir d L : Int) := by
  show (((memOf L).filter _).length : Int) = _
  unfold memOf cntDir
  rw [List.filter_map, List.length_map]
  rfl

theorem forget_get {L : List AskD} (hn : ((memOf L).map Prod.fst).Nodup) {x : AskD} (hx : x ∈ L) (d : Int) : aget (forgetA (memOf L) d).1 x.nm = if x.dir = d then none else some x.n := by
  have hm : aget (memOf L) x.nm = some x.n := (mem_iff_get hn _ _).1 (List.mem_map.2 ⟨x, hx, rfl⟩)
  have hnf : (((memOf L).filter fun y => decide (y.1.1 ≠ d)).map Prod.fst).Nodup := hn.sublist (List.filter_sublist.map _)
  show aget ((memOf L).filter fun y => decide (y.1.1 ≠ d)) x.nm = _
  by_cases e : x.dir = d
  · rw [if_pos e]
    rw [aget_none_iffA]
    intro q
    obtain ⟨y, hy, e2⟩ := List.mem_map.1 q
    have := (List.mem_filter.1 hy).2
    simp only [decide_eq_true_eq] at this
    exact this (by rw [e2]; exact e)
  · rw [if_neg e]
    refine (mem_iff_get hnf _ _).1 (List.mem_filter.2 ⟨aget_memA hm, ?_⟩)
    simp only [decide_eq_true_eq]
    exact e

set_option maxHeartbeats 16000000 in
theorem dirs_walk (a : Option Addr) (len cap : Nat) (dir : Int) (rows : List AskD) (W : World) (hp : Pw W) (hI : AsksIn W a len cap rows) (hd : -9223372036854775808 ≤ dir ∧ dir ≤ 9223372036854775807) :
    Calls Tryd.prog 4 #[.slice a len cap, .int .i64 dir] W fun r w' => r = .returned (.bool true) ∧ Below W.heap.size W w' := by
  obtain ⟨hrl, hlc, hcm, hfine, hrow⟩ := hI
  unfold maxLen at hcm
  have HI := Lib.hid (And.intro hrl (And.intro hfine hrow))
  have HP := Lib.hid hp
  have HAI := Lib.hid ask_info
  clear hrl hfine hrow hp
  have hn := dnew_c W 64 (by omega) (by omega)
  go_enter Tryd.func4, Tryd.ntmps4
  go_upto_region 4 with (
    go_at_call 7
    refine hn.mono ?_
    rintro e w1 ⟨cb, S1, rfl, hL1, hT1⟩
    have B1 := Lib.hid (CurD.made (Keep.refl W _) hL1 hT1)
    clear hL1 hT1 hn)
  go_wp2
  go_loopg [7, 8] (min len 50) (fun g s7 s8 wr => ∃ (i : Nat) (S : Nat → Prop) (L : List AskD), s8 = .int .i64 i ∧ i + g = min len 50 ∧ L.length ≤ i ∧ (∀ x ∈ L, x.fine) ∧ CurD W wr cb S 64 (memOf L) ∧ RowD W wr s7 L ∧ ∀ b, s7.ownBlock = some b → ¬ S b)
  case atStart => exact ⟨0, S1, [], rfl, by omega, Nat.le_refl _, by simp, B1.out, ⟨rows_nil _ _ _, fun b q => by simp [Value.ownBlock] at q⟩, fun b q => by simp [Value.ownBlock] at q⟩
  case round =>
    obtain ⟨i, S, L, rfl, hi, hLi, hLf, hC, hR, hRS⟩ := hrel
    obtain ⟨wo, hwo⟩ : ∃ wo, wo = wr := ⟨_, rfl⟩
    subst hwo
    obtain ⟨gi, hgi⟩ : ∃ gi, gi = gk := ⟨_, rfl⟩
    subst hgi
    obtain ⟨la, lcap, hs7, hlcap⟩ := rows_val2 hR.row
    subst hs7
    have D0 := Lib.hid (And.intro hC (And.intro hR (And.intro hRS hLf)))
    clear hC hR hRS hLf
    obtain ⟨n, hnL⟩ : ∃ n, n = L.length := ⟨_, rfl⟩
    rw [← hnL] at D0 hLi hlcap ⊢
    have HN := Lib.hid hnL
    clear hnL
    by_cases hlt : i < len ∧ i < 50
    · obtain ⟨hlt1, hlt2⟩ := hlt
      have hi1 : (i : Int) < (len : Int) := by omega
      have hi2 : (i : Int) < 50 := by omega
      obtain ⟨b, off, rfl, hcell⟩ := HI.out.2.2 (by omega)
      have hir : i < rows.length := by rw [HI.out.1]; exact hlt1
      obtain ⟨xx, hxx⟩ : ∃ x, rows[i]? = some x := ⟨_, List.getElem?_eq_getElem hir⟩
      have hfx := HI.out.2.1 xx (List.mem_of_getElem? hxx)
      have HC := Lib.hid (hcell i xx hxx)
      have HX := Lib.hid hfx
      clear hcell hxx hfx
      have hnn := D0.out.1.cache.ok.nodup
      have hfit : ((touch (memOf L) xx.nm xx.n).length : Int) ≤ 64 := by
        have := touch_len_le (memOf L) xx.nm xx.n
        have e : (memOf L).length = n := by unfold memOf; rw [List.length_map, HN.out]
        omega
      have hpe : putA 64 (memOf L) xx.nm xx.n = (memOf (without L xx.nm ++ [xx]), ByteArray.empty) := by rw [put_fits hfit, memOf_touch hnn]
      have HPE := Lib.hid hpe
      clear hfit hpe hnn
      obtain ⟨x, hx⟩ : ∃ x, x = xx := ⟨_, rfl⟩
      rw [← hx] at HPE HC HX
      have hCq := D0.out.1.aside (Keep.drew wo (fun _ => False))
      have hcq : ∀ U, Keep W U (fun _ => False) → U.cell? ⟨b, off + i * 4 + 1, none⟩ = some (.int .i64 x.dir) ∧ U.cell? ⟨b, off + i * 4 + 3, none⟩ = some (.string x.name) ∧ U.cell? ⟨b, off + i * 4 + 2, none⟩ = some (.int .i64 x.n) := fun U k => ⟨k.cell HC.out.2.1 (fun q => q), k.cell HC.out.2.2.2 (fun q => q), k.cell HC.out.2.2.1 (fun q => q)⟩
      have hcq0 : ∀ U, Keep W U (fun _ => False) → U.cell? ⟨b, off + i * 4, none⟩ = some (.int .i64 x.kind) := fun U k => k.cell HC.out.1 (fun q => q)
      have HQ := Lib.hid (And.intro hcq hcq0)
      clear hcq hcq0 hx
      have SD := HQ.out.1 _ hCq.keep
      have hput := dput_c hCq.cache (HP.out.keep hCq.keep) x.dir x.name x.n HX.out
      rw [show putA 64 (memOf L) (x.dir, x.name) x.n = _ from HPE.out] at hput
      have HCQ := Lib.hid hCq
      obtain ⟨r1, r2, r3⟩ := HQ.out.1 _ D0.out.1.keep
      clear hCq
      obtain ⟨xk, xd, xn, xs⟩ := x
      simp only at HQ HC HX hput SD r1 r2 r3
      go_upto_region 8 with (fail)
      (go_region_held3 (fun w' => w'.cell? ⟨b, off + i * 4 + 1, none⟩ = some (.int .i64 xd) ∧ w'.cell? ⟨b, off + i * 4 + 3, none⟩ = some (.string xs) ∧ w'.cell? ⟨b, off + i * 4 + 2, none⟩ = some (.int .i64 xn)) (first | exact SD | exact S3' | fail) (first
        | (go_at_call 8
           (with_reducible refine hput.mono ?_)
           rintro e w3 ⟨rfl, S3, hL3, hT3⟩
           have hD3 := HCQ.out.turn hL3 hT3
           have S3' := HQ.out.1 _ hD3.keep
           have hR3 := (D0.out.2.1.keep (Keep.drew wo (fun _ => False)) (fun _ _ q => q)).keep hT3.keep D0.out.2.2.1
           have D3 := Lib.hid (And.intro hD3 hR3)
           clear hput hL3 hT3 hD3 hR3)))
      clear r1 r2 r3 SD S3'
      go_wp2
      go_loopg [9, 10] n (fun g s9 s10 wr => ∃ k : Nat, s10 = .int .i64 k ∧ k + g = n ∧ RowD w3 wr s9 (without (L.take k) (xd, xs)) ∧ Keep w3 wr (fun _ => False))
      case atStart => exact ⟨0, rfl, by omega, ⟨rows_nil _ _ _, fun b q => by simp [Value.ownBlock] at q⟩, Keep.refl _ _⟩
      case round =>
        obtain ⟨k, rfl, hk, hR4, hK4⟩ := hrel
        obtain ⟨a9, cap9, hs9, hcap9⟩ := rows_val2 hR4.row
        subst hs9
        have hq9 : (without (L.take k) (xd, xs)).length ≤ n := Nat.le_trans (without_len _ _) (by rw [List.length_take]; omega)
        have D4 := Lib.hid (And.intro hR4 hK4)
        have HR4 := Lib.hid (show wr.ownsRow 0 28 4 (.slice a9 (without (L.take k) (xd, xs)).length cap9) (without (L.take k) (xd, xs)).length (flat AskD.cells (without (L.take k) (xd, xs))) from hR4.row)
        clear hR4 hK4
        obtain ⟨q9, hq⟩ : ∃ q, q = (without (L.take k) (xd, xs)).length := ⟨_, rfl⟩
        rw [← hq] at D4 HR4 hq9 hcap9 ⊢
        have HQ9 := Lib.hid hq
        clear hq
        obtain ⟨wp, hwp⟩ : ∃ wp, wp = wr := ⟨_, rfl⟩
        subst hwp
        obtain ⟨gp, hgp⟩ : ∃ gp, gp = gk := ⟨_, rfl⟩
        subst hgp
        obtain ⟨ti, tz, ti1, ti2, ti3, ti4, ti5⟩ := HAI.out
        have HJ := Lib.hid (And.intro ti1 (And.intro ti2 (And.intro ti3 (And.intro ti4 ti5))))
        clear ti1 ti2 ti3 ti4 ti5
        obtain ⟨u1, u3, u2⟩ := HQ.out.1 _ (D3.out.1.keep.trans D4.out.2 (fun _ q => q.elim))
        have u0 := HQ.out.2 _ (D3.out.1.keep.trans D4.out.2 (fun _ q => q.elim))
        by_cases hkn : k < n
        · have hk1 : (k : Int) < (n : Int) := by omega
          obtain ⟨yy, hy⟩ : ∃ y, L[k]? = some y := ⟨_, List.getElem?_eq_getElem (by rw [← HN.out]; exact hkn)⟩
          have hrw := (D3.out.2.keep D4.out.2 (fun _ _ q => q)).row
          rw [← HN.out] at hrw
          obtain ⟨g, rfl, -, -, -⟩ := rows_some hrw (by omega)
          have v0 : wp.cell? ⟨g, k * 4, none⟩ = some (.int .i64 yy.kind) := (rows_cell hrw (by rw [← Nat.add_zero (k * 4), flat_get AskD.cells 4 cells_len hy (by omega)]; rfl)).1
          have v1 : wp.cell? ⟨g, k * 4 + 1, none⟩ = some (.int .i64 yy.dir) := (rows_cell hrw (by rw [flat_get AskD.cells 4 cells_len hy (by omega)]; rfl)).1
          have v2 : wp.cell? ⟨g, k * 4 + 2, none⟩ = some (.int .i64 yy.n) := (rows_cell hrw (by rw [flat_get AskD.cells 4 cells_len hy (by omega)]; rfl)).1
          have v3 : wp.cell? ⟨g, k * 4 + 3, none⟩ = some (.string yy.name) := (rows_cell hrw (by rw [flat_get AskD.cells 4 cells_len hy (by omega)]; rfl)).1
          have htk : L.take (k + 1) = L.take k ++ [yy] := by rw [List.take_add_one, hy]; rfl
          have hws := without_snoc (L.take k) yy (xd, xs)
          rw [← htk] at hws
          have HWS := Lib.hid hws
          clear hrw hy htk hws
          obtain ⟨yk, yd, yn, ys⟩ := yy
          simp only at v0 v1 v2 v3
          have hcase : (yd = xd ∧ ys = xs) ∨ yd ≠ xd ∨ (yd = xd ∧ ys ≠ xs) := by
            by_cases e1 : yd = xd
            · by_cases e2 : ys = xs
              · exact .inl ⟨e1, e2⟩
              · exact .inr (.inr ⟨e1, e2⟩)
            · exact .inr (.inl e1)
          rcases hcase with ⟨e1, e2⟩ | hne
          · have hb1 : (yd != xd) = false := by simp [e1]
            have hb2 : (ys.toList == xs.toList) = true := by simp [e2]
            have HE := Lib.hid (show without (L.take (k + 1)) (xd, xs) = without (L.take k) (xd, xs) by
              rw [HWS.out, if_pos (show AskD.nm ⟨yk, yd, yn, ys⟩ = (xd, xs) by show (yd, ys) = _; rw [e1, e2]), List.append_nil])
            clear e1 e2
            go_upto_region 13 with (fail)
            go_quiet (fail)
            go_wp2
            go_roundg (n - (k + 1))
            case measure => omega
            case rel => exact ⟨k + 1, by go_num, by omega, by rw [HE.out]; exact D4.out.1.keep (drewN_keep _ (fun _ => False) _) (fun _ _ q => q), D4.out.2.trans (drewN_keep _ (fun _ => False) _) (fun _ q => q.elim)⟩
          · have HE := Lib.hid (show without (L.take (k + 1)) (xd, xs) = without (L.take k) (xd, xs) ++ [⟨yk, yd, yn, ys⟩] by
              rw [HWS.out, if_neg (show ¬ AskD.nm ⟨yk, yd, yn, ys⟩ = (xd, xs) by
                intro e
                have e' : (yd, ys) = (xd, xs) := e
                simp only [Prod.mk.injEq] at e'
                rcases hne with q | ⟨_, q⟩
                · exact q e'.1
                · exact q e'.2)])
            rcases hne with e1 | ⟨e1, e2⟩
            · have hb1 : (yd != xd) = true := by simpa using e1
              clear e1
              go_upto_region 13 with (fail)
              go_quiet (fail)
              go_wp2_with (
                at_builtin
                refine law_append_row rfl _ _ _ rfl Tryd.underlying22 HJ.out.1 HJ.out.2.1 HJ.out.2.2.1 HJ.out.2.2.2.1 HJ.out.2.2.2.2 (by decide) rfl (rows_keep HR4.out ((drewN_keep wp (fun _ => False) nq).trans (Keep.alloc _ _ (fun _ => False)) (fun _ q => q.elim)) (fun _ _ q => q)) (AskD.cells ⟨yk, yd, yn, ys⟩) rfl rfl (.inr ⟨_, rfl, cells_new (wp.drewN nq) (AskD.cells ⟨yk, yd, yn, ys⟩) _⟩) (fun u hu => by simp only [AskD.cells, List.mem_cons, List.not_mem_nil, or_false] at hu; rcases hu with rfl | rfl | rfl | rfl <;> rfl) (by omega) ?_
                intro sa8 cap8 w8 r1 r2 r3
                have ka := (drewN_keep wp (fun _ => False) nq).trans (Keep.alloc (wp.drewN nq) (.cells (AskD.cells ⟨yk, yd, yn, ys⟩).toArray 28) (fun _ => False)) (fun _ q => q.elim)
                have k8 : Keep w3 w8 (fun _ => False) := (D4.out.2.trans ka (fun _ q => q.elim)).trans r2 (fun b q => .inr (D4.out.1.new b q.symm))
                have f8 : ∀ b, (Value.slice sa8 (q9 + 1) cap8).ownBlock = some b → w3.heap.size ≤ b := fun b q => by
                  rcases r3 b q with z | z
                  · exact D4.out.1.new b z
                  · have h1 := ka.size
                    have h2 := D4.out.2.size
                    have h3 : ((wp.drewN nq).alloc (.cells (AskD.cells ⟨yk, yd, yn, ys⟩).toArray 28)).heap.size = b := z.symm
                    omega
                have N8 := Lib.hid (And.intro r1 (And.intro k8 f8))
                clear r1 r2 r3 ka k8 f8)
              go_roundg (n - (k + 1))
              case measure => omega
              case rel =>
                have hlen2 : (without (L.take (k + 1)) (xd, xs)).length = q9 + 1 := by rw [HE.out, List.length_append, ← HQ9.out]; rfl
                refine ⟨k + 1, by go_num, by omega, ⟨?_, N8.out.2.2⟩, N8.out.2.1⟩
                rw [hlen2, HE.out, flat_append]
                have := N8.out.1
                simpa [flat] using this
            · have hb1 : (yd != xd) = false := by simp [e1]
              have hb2 : (ys.toList == xs.toList) = false := ba_ne e2
              clear e1 e2
              go_upto_region 13 with (fail)
              go_quiet (fail)
              go_wp2_with (
                at_builtin
                refine law_append_row rfl _ _ _ rfl Tryd.underlying22 HJ.out.1 HJ.out.2.1 HJ.out.2.2.1 HJ.out.2.2.2.1 HJ.out.2.2.2.2 (by decide) rfl (rows_keep HR4.out ((drewN_keep wp (fun _ => False) nq).trans (Keep.alloc _ _ (fun _ => False)) (fun _ q => q.elim)) (fun _ _ q => q)) (AskD.cells ⟨yk, yd, yn, ys⟩) rfl rfl (.inr ⟨_, rfl, cells_new (wp.drewN nq) (AskD.cells ⟨yk, yd, yn, ys⟩) _⟩) (fun u hu => by simp only [AskD.cells, List.mem_cons, List.not_mem_nil, or_false] at hu; rcases hu with rfl | rfl | rfl | rfl <;> rfl) (by omega) ?_
                intro sa8 cap8 w8 r1 r2 r3
                have ka := (drewN_keep wp (fun _ => False) nq).trans (Keep.alloc (wp.drewN nq) (.cells (AskD.cells ⟨yk, yd, yn, ys⟩).toArray 28) (fun _ => False)) (fun _ q => q.elim)
                have k8 : Keep w3 w8 (fun _ => False) := (D4.out.2.trans ka (fun _ q => q.elim)).trans r2 (fun b q => .inr (D4.out.1.new b q.symm))
                have f8 : ∀ b, (Value.slice sa8 (q9 + 1) cap8).ownBlock = some b → w3.heap.size ≤ b := fun b q => by
                  rcases r3 b q with z | z
                  · exact D4.out.1.new b z
                  · have h1 := ka.size
                    have h2 := D4.out.2.size
                    have h3 : ((wp.drewN nq).alloc (.cells (AskD.cells ⟨yk, yd, yn, ys⟩).toArray 28)).heap.size = b := z.symm
                    omega
                have N8 := Lib.hid (And.intro r1 (And.intro k8 f8))
                clear r1 r2 r3 ka k8 f8)
              go_roundg (n - (k + 1))
              case measure => omega
              case rel =>
                have hlen2 : (without (L.take (k + 1)) (xd, xs)).length = q9 + 1 := by rw [HE.out, List.length_append, ← HQ9.out]; rfl
                refine ⟨k + 1, by go_num, by omega, ⟨?_, N8.out.2.2⟩, N8.out.2.1⟩
                rw [hlen2, HE.out, flat_append]
                have := N8.out.1
                simpa [flat] using this
        · have hk1 : ¬ (k : Int) < (n : Int) := by omega
          have hLk : L.take k = L := List.take_of_length_le (by rw [← HN.out]; omega)
          rw [hLk] at D4 HR4 HQ9
          have hlw := Lib.hid (show ∀ y ∈ without L (xd, xs) ++ [⟨xk, xd, xn, xs⟩], y.fine from fun y hy => by
            rcases List.mem_append.1 hy with hy | hy
            · exact D0.out.2.2.2 y (List.mem_filter.1 hy).1
            · rw [List.mem_singleton.1 hy]; exact HX.out)
          clear hLk
          go_wp2_with (
            at_builtin
            refine law_append_row rfl _ _ _ rfl Tryd.underlying22 HJ.out.1 HJ.out.2.1 HJ.out.2.2.1 HJ.out.2.2.2.1 HJ.out.2.2.2.2 (by decide) rfl (rows_keep HR4.out (Keep.alloc wp _ (fun _ => False)) (fun _ _ q => q)) (AskD.cells ⟨xk, xd, xn, xs⟩) rfl rfl (.inr ⟨_, rfl, cells_new wp (AskD.cells ⟨xk, xd, xn, xs⟩) _⟩) (fun u hu => by simp only [AskD.cells, List.mem_cons, List.not_mem_nil, or_false] at hu; rcases hu with rfl | rfl | rfl | rfl <;> rfl) (by omega) ?_
            intro sa8 cap8 w8 r1 r2 r3
            have ka := Keep.alloc wp (.cells (AskD.cells ⟨xk, xd, xn, xs⟩).toArray 28) (fun _ => False)
            have k8 : Keep w3 w8 (fun _ => False) := (D4.out.2.trans ka (fun _ q => q.elim)).trans r2 (fun b q => .inr (D4.out.1.new b q.symm))
            have f8 : ∀ b, (Value.slice sa8 (q9 + 1) cap8).ownBlock = some b → w3.heap.size ≤ b := fun b q => by
              rcases r3 b q with z | z
              · exact D4.out.1.new b z
              · have h1 := ka.size
                have h2 := D4.out.2.size
                have h3 : (wp.alloc (.cells (AskD.cells ⟨xk, xd, xn, xs⟩).toArray 28)).heap.size = b := z.symm
                omega
            have N8 := Lib.hid (And.intro r1 (And.intro k8 f8))
            clear r1 r2 r3 ka k8 f8)
          go_roundg (min len 50 - (i + 1))
          case measure => omega
          case rel =>
            have hlen2 : (without L (xd, xs) ++ [(⟨xk, xd, xn, xs⟩ : AskD)]).length = q9 + 1 := by rw [List.length_append, ← HQ9.out]; rfl
            refine ⟨i + 1, S3, without L (xd, xs) ++ [⟨xk, xd, xn, xs⟩], by go_num, by omega, by rw [hlen2]; omega, hlw.out, D3.out.1.aside N8.out.2.1, ⟨?_, fun b q => Nat.le_trans D3.out.1.keep.size (N8.out.2.2 b q)⟩, fun b q z => ?_⟩
            · rw [hlen2, flat_append]
              have := N8.out.1
              simpa [flat] using this
            · have h1 := N8.out.2.2 b q
              have h2 := D3.out.1.cache.lt b z
              omega
    · have hend : True := trivial
      have htest : ¬ (i : Int) < (len : Int) ∨ ((i : Int) < (len : Int) ∧ ¬ (i : Int) < 50) := by omega
      have hnn := D0.out.1.cache.ok.nodup
      have hdl := dlen_c D0.out.1.cache
      have hml : (memOf L).length = n := by unfold memOf; rw [List.length_map, HN.out]
      rw [hml] at hdl
      have hfg := dforget_c D0.out.1.cache (fun U k => HP.out.keep (D0.out.1.keep.trans k (fun b q => .inr (by
        rcases q with q | q
        · exact D0.out.1.own b q
        · exact Nat.le_trans D0.out.1.keep.size q)))) dir hd
      rw [forget_cnt] at hfg
      obtain ⟨A1, hA1⟩ : ∃ A1, A1 = (forgetA (memOf L) dir).1 := ⟨_, rfl⟩
      rw [← hA1] at hfg
      have HA := Lib.hid (show ∀ x ∈ L, aget A1 x.nm = if x.dir = dir then none else some x.n from fun x hx => by rw [hA1]; exact forget_get hnn hx dir)
      clear hA1 hnn hml hlt
      obtain ⟨cn, hcn⟩ : ∃ cn, cn = cntDir dir L := ⟨_, rfl⟩
      rw [← hcn] at hfg
      have HCN := Lib.hid hcn
      have hcn2 : cn ≤ n := by rw [hcn, HN.out]; exact List.length_filter_le _ _
      clear hcn
      rcases htest with hi1 | ⟨hi1, hi2⟩
      all_goals
        go_wp2_with (first
          | (go_at_call 11
             refine hdl.mono ?_
             rintro e w2 ⟨rfl, rfl⟩
             clear hdl)
          | (go_at_call 13
             refine hfg.mono ?_
             rintro e w3 ⟨rfl, S3, hL3, hT3⟩
             have D3 := Lib.hid (And.intro (D0.out.1.turn hL3 hT3) (And.intro (D0.out.2.1.keep hT3.keep D0.out.2.2.1) (show ∀ b, (Value.slice la n lcap).ownBlock = some b → ¬ S3 b from fun b q z => by
               rcases hT3.new b z with y | y
               · exact D0.out.2.2.1 b q y
               · have := D0.out.2.1.lt b q
                 omega)))
             clear hfg hL3 hT3))
        go_loopg [11, 12] n (fun g s11 s12 wr => ∃ (k c : Nat) (S : Nat → Prop) (A : Mem), s12 = .int .i64 k ∧ k + g = n ∧ s11 = .int .i64 c ∧ c = cntDir dir (L.drop k) ∧ CurD W wr cb S 64 A ∧ RowD W wr (.slice la n lcap) L ∧ (∀ b, (Value.slice la n lcap).ownBlock = some b → ¬ S b) ∧ ∀ z, aget A z = aget A1 z)
        case atStart => exact ⟨0, cn, S3, A1, rfl, by omega, rfl, by rw [List.drop_zero, HCN.out], D3.out.1, D3.out.2.1, D3.out.2.2, fun z => rfl⟩
        case round =>
          obtain ⟨k, c, S6, A6, rfl, hk, rfl, hc, hC6, hR6, hS6, hA6⟩ := hrel
          have hcn3 : c ≤ n := by rw [hc, HN.out]; exact Nat.le_trans (List.length_filter_le _ _) (by rw [List.length_drop]; omega)
          have D6 := Lib.hid (And.intro hC6 (And.intro hR6 (And.intro hS6 (And.intro hA6 hc))))
          clear hC6 hR6 hS6 hA6 hc
          obtain ⟨wp, hwp⟩ : ∃ wp, wp = wr := ⟨_, rfl⟩
          subst hwp
          obtain ⟨gp, hgp⟩ : ∃ gp, gp = gk := ⟨_, rfl⟩
          subst hgp
          by_cases hkn : k < n
          · have hk1 : (k : Int) < (n : Int) := by omega
            obtain ⟨yy, hy⟩ : ∃ y, L[k]? = some y := ⟨_, List.getElem?_eq_getElem (by rw [← HN.out]; exact hkn)⟩
            have hym := List.mem_of_getElem? hy
            have hfy := D0.out.2.2.2 yy hym
            have hcd := cntDir_drop (d := dir) hy
            have hrw := D6.out.2.1.row
            rw [← HN.out] at hrw
            obtain ⟨g, rfl, -, -, -⟩ := rows_some hrw (by omega)
            have hcell : ∀ U, RowD W U (.slice (some ⟨g, 0, none⟩) n lcap) L → U.cell? ⟨g, k * 4 + 1, none⟩ = some (.int .i64 yy.dir) ∧ U.cell? ⟨g, k * 4 + 2, none⟩ = some (.int .i64 yy.n) ∧ U.cell? ⟨g, k * 4 + 3, none⟩ = some (.string yy.name) := fun U hU =>
              ⟨(rows_cell hU.row (by rw [flat_get AskD.cells 4 cells_len hy (by omega)]; rfl)).1, (rows_cell hU.row (by rw [flat_get AskD.cells 4 cells_len hy (by omega)]; rfl)).1, (rows_cell hU.row (by rw [flat_get AskD.cells 4 cells_len hy (by omega)]; rfl)).1⟩
            have HCE := Lib.hid hcell
            have hgA := D6.out.2.2.2.1 yy.nm
            rw [HA.out yy hym] at hgA
            have HY := Lib.hid (And.intro hfy (And.intro hcd hgA))
            clear hcell hfy hcd hgA hym hy hrw
            obtain ⟨yk, yd, yn, ys⟩ := yy
            simp only at HCE HY
            have hCq := D6.out.1.aside (Keep.drew wp (fun _ => False))
            have hRq := D6.out.2.1.keep (Keep.drew wp (fun _ => False)) (fun _ _ q => q)
            have SD : wp.drew.cell? ⟨g, k * 4 + 1, none⟩ = some (.int .i64 yd) ∧ wp.drew.cell? ⟨g, k * 4 + 3, none⟩ = some (.string ys) := ⟨(HCE.out _ hRq).1, (HCE.out _ hRq).2.2⟩
            have hget := dget_c hCq.cache (HP.out.keep hCq.keep) yd ys HY.out.1
            have hsame := same_get D6.out.1.cache.ok.nodup D6.out.2.2.2.1 (yd, ys)
            obtain ⟨r1, r2, r3⟩ := HCE.out _ D6.out.2.1
            obtain ⟨A8, av, bv, hgt⟩ : ∃ A8 av bv, getA A6 (yd, ys) = (A8, av, bv) := ⟨_, _, _, rfl⟩
            have hval : (yd = dir ∧ av = 1 ∧ bv = 0) ∨ (yd ≠ dir ∧ 0 < yn ∧ av = 2 ∧ bv = yn) ∨ (yd ≠ dir ∧ yn ≤ 0 ∧ av = 3 ∧ bv = 0) := by
              have hg2 : aget A6 (yd, ys) = if yd = dir then none else some yn := HY.out.2.2
              unfold getA at hgt
              by_cases e : yd = dir
              · rw [if_pos e] at hg2
                rw [hg2] at hgt
                simp only [Prod.mk.injEq] at hgt
                exact .inl ⟨e, hgt.2.1.symm, hgt.2.2.symm⟩
              · rw [if_neg e] at hg2
                rw [hg2] at hgt
                by_cases hv : yn ≤ 0
                · simp only [if_pos hv, Prod.mk.injEq] at hgt
                  exact .inr (.inr ⟨e, hv, hgt.2.1.symm, hgt.2.2.symm⟩)
                · simp only [if_neg hv, Prod.mk.injEq] at hgt
                  exact .inr (.inl ⟨e, by omega, hgt.2.1.symm, hgt.2.2.symm⟩)
            rw [hgt] at hget hsame
            have HS := Lib.hid (And.intro hval (And.intro hsame (And.intro hCq hRq)))
            clear hval hsame hgt hCq hRq
            simp only at hget
            go_upto_region 22 with (fail)
            (go_region_held3 (fun w' => w'.cell? ⟨g, k * 4 + 1, none⟩ = some (.int .i64 yd) ∧ w'.cell? ⟨g, k * 4 + 3, none⟩ = some (.string ys)) (first | exact SD | exact S8' | fail) (first
              | (go_at_call 10
                 (with_reducible refine hget.mono ?_)
                 rintro e w8 ⟨rfl, S8, hL8, hT8⟩
                 have hD8 := HS.out.2.2.1.turn hL8 hT8
                 have hR8 := HS.out.2.2.2.keep hT8.keep D6.out.2.2.1
                 have S8' : w8.cell? ⟨g, k * 4 + 1, none⟩ = some (.int .i64 yd) ∧ w8.cell? ⟨g, k * 4 + 3, none⟩ = some (.string ys) := ⟨(HCE.out _ hR8).1, (HCE.out _ hR8).2.2⟩
                 have D8 := Lib.hid (And.intro hD8 (And.intro hR8 (show ∀ b, (Value.slice (some ⟨g, 0, none⟩) n lcap).ownBlock = some b → ¬ S8 b from fun b q z => by
                   rcases hT8.new b z with y | y
                   · exact D6.out.2.2.1 b q y
                   · have := HS.out.2.2.2.lt b q
                     omega)))
                 clear hget hL8 hT8 hD8 hR8)))
            clear r1 r2 r3 SD S8'
            obtain ⟨r1, r2, r3⟩ := HCE.out _ D8.out.2.1
            rcases HS.out.1 with ⟨e, rfl, rfl⟩ | ⟨e, hv, rfl, rfl⟩ | ⟨e, hv, rfl, rfl⟩
            · have hdb : (yd == dir) = true := by simpa using e
              obtain ⟨c', hc'⟩ : ∃ c', c' = cntDir dir (L.drop (k + 1)) := ⟨_, rfl⟩
              have hcc : c = c' + 1 := by rw [D6.out.2.2.2.2, HY.out.2.1, if_pos e, hc']
              have hwr : IntKind.i64.wrap ((c : Int) - 1) = (c : Int) - 1 := IntWalk.i64_in _ (by omega)
              have HCC := Lib.hid (And.intro hc' hcc)
              clear e hc' hcc
              go_wp2
              go_roundg (n - (k + 1))
              case measure => omega
              case rel => exact ⟨k + 1, c', S8, A8, by go_num, by omega, congrArg (Value.int .i64) (by have := HCC.out.2; omega), HCC.out.1, D8.out.1, D8.out.2.1, D8.out.2.2, HS.out.2.1⟩
            · have hdb : (yd == dir) = false := by simpa using e
              have hnb : (bv != bv) = false := by simp
              have HCC := Lib.hid (show c = cntDir dir (L.drop (k + 1)) by rw [D6.out.2.2.2.2, HY.out.2.1, if_neg e, Nat.add_zero])
              clear e
              go_wp2
              go_roundg (n - (k + 1))
              case measure => omega
              case rel => exact ⟨k + 1, c, S8, A8, by go_num, by omega, rfl, HCC.out, D8.out.1, D8.out.2.1, D8.out.2.2, HS.out.2.1⟩
            · have hdb : (yd == dir) = false := by simpa using e
              have hv2 : ¬ 0 < yn := by omega
              have HCC := Lib.hid (show c = cntDir dir (L.drop (k + 1)) by rw [D6.out.2.2.2.2, HY.out.2.1, if_neg e, Nat.add_zero])
              clear e
              go_wp2
              go_roundg (n - (k + 1))
              case measure => omega
              case rel => exact ⟨k + 1, c, S8, A8, by go_num, by omega, rfl, HCC.out, D8.out.1, D8.out.2.1, D8.out.2.2, HS.out.2.1⟩
          · have hk1 : ¬ (k : Int) < (n : Int) := by omega
            obtain rfl : c = 0 := by
              rw [D6.out.2.2.2.2, List.drop_of_length_le (by rw [← HN.out]; omega)]
              rfl
            go_wp2_with (
              go_at_call 12
              refine (knownD_c _ (HP.out.keep D6.out.1.keep)).mono ?_
              rintro e w9 ⟨rfl, k9⟩
              have N9 := Lib.hid (D6.out.1.aside k9)
              clear k9)
            go_ret
            exact ⟨rfl, N9.out.below⟩

end Go.Proofs.YtjicoebcmfnooaaDoor
