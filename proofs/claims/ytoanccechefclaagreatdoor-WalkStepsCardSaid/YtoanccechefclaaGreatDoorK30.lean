/-
  Parts of the walk's proof: WalkD. (joined by pack.py)
-/
import Derived.Test.YtoanccechefclaaGreatDoorK29
set_option linter.unusedSectionVars false
set_option linter.unusedSimpArgs false
set_option linter.unusedVariables false
namespace Go.Proofs.YtoanccechefclaaGreatDoor
open Go Go.RowKit Go.Shelf
set_option maxRecDepth 100000
attribute [local go_sem] Oper.semAt_some
theorem WkAt.setNext {w : World} {wb tb mb : Nat} {E : WkE} {v : WkV} (h : WkAt w wb tb mb E v) {l : List Bl} {a : Option Addr} {cap : Nat} (hl : ListIn w (.slice a l.length cap) (l.map txV)) (hc : Clear (.slice a l.length cap) (fun b => b = wb)) (hcap : l.length ≤ cap ∧ cap ≤ maxLen) (k : Int) :
    WkAt ((w.setCell ⟨wb, 9, none⟩ (.slice a l.length cap)).setCell ⟨wb, 12, none⟩ (.int .i64 k)) wb tb mb E { v with left := l, steps := k } ∧ Keep w ((w.setCell ⟨wb, 9, none⟩ (.slice a l.length cap)).setCell ⟨wb, 12, none⟩ (.int .i64 k)) (fun x => x = wb) := by
  obtain ⟨la, lc, h1, h2, h3, h4⟩ := h.ex
  have s := sets_at [(9, .slice a l.length cap), (12, .int .i64 k)] h1
  have K := sets_keep (b := wb) [(9, .slice a l.length cap), (12, .int .i64 k)] w
  simp only [sets] at s K
  exact ⟨⟨a, cap, by simpa [setAll, wkC] using s, hl.keep K hc, hc, hcap⟩, K⟩
def stO (x : TreeV.StatV) : Obj := .cells (statC x) 36 (0, 0)
theorem WkAt.setF {w : World} {wb tb mb : Nat} {E : WkE} {v : WkV} (h : WkAt w wb tb mb E v) (f : FoundV) :
    WkAt (sets w wb [(13, .int .i64 f.dm), (14, .int .i64 f.dn), (15, .string f.last), (16, .int .i64 f.am), (17, .int .i64 f.an), (18, .bool f.has), (19, .bool f.slash)]) wb tb mb E { v with f := f } ∧ Keep w (sets w wb [(13, .int .i64 f.dm), (14, .int .i64 f.dn), (15, .string f.last), (16, .int .i64 f.am), (17, .int .i64 f.an), (18, .bool f.has), (19, .bool f.slash)]) (fun x => x = wb) := by
  obtain ⟨la, lc, h1, h2, h3, h4⟩ := h.ex
  have s := sets_at [(13, .int .i64 f.dm), (14, .int .i64 f.dn), (15, .string f.last), (16, .int .i64 f.am), (17, .int .i64 f.an), (18, .bool f.has), (19, .bool f.slash)] h1
  have K := sets_keep (b := wb) [(13, .int .i64 f.dm), (14, .int .i64 f.dn), (15, .string f.last), (16, .int .i64 f.am), (17, .int .i64 f.an), (18, .bool f.has), (19, .bool f.slash)] w
  exact ⟨⟨la, lc, by simpa [setAll, wkC] using s, h2.keep K h3, h3, h4⟩, K⟩
theorem cells7 {w : World} {b : Nat} {x0 x1 x2 x3 x4 x5 x6 : Value} {t : TypeId} (h : w.heap[b]? = some (.cells #[x0, x1, x2, x3, x4, x5, x6] t (0, 0))) :
    (w.cell? ⟨b, 0, none⟩ = some x0 ∧ w.cell? ⟨b, 1, none⟩ = some x1 ∧ w.cell? ⟨b, 2, none⟩ = some x2 ∧ w.cell? ⟨b, 3, none⟩ = some x3 ∧ w.cell? ⟨b, 4, none⟩ = some x4 ∧ w.cell? ⟨b, 5, none⟩ = some x5 ∧ w.cell? ⟨b, 6, none⟩ = some x6) ∧
    (w.frozen? ⟨b, 0, none⟩ = false ∧ w.frozen? ⟨b, 1, none⟩ = false ∧ w.frozen? ⟨b, 2, none⟩ = false ∧ w.frozen? ⟨b, 3, none⟩ = false ∧ w.frozen? ⟨b, 4, none⟩ = false ∧ w.frozen? ⟨b, 5, none⟩ = false ∧ w.frozen? ⟨b, 6, none⟩ = false) := by
  refine ⟨⟨?_, ?_, ?_, ?_, ?_, ?_, ?_⟩, free_blk h 0, free_blk h 1, free_blk h 2, free_blk h 3, free_blk h 4, free_blk h 5, free_blk h 6⟩ <;> rw [cell_blk h] <;> rfl
theorem stO_nostr {w : World} {sb off : Nat} {x : TreeV.StatV} {z : ByteArray} (hb : w.heap[sb]? = some (stO x)) : w.cell? ⟨sb, off, none⟩ ≠ some (.string z) := by
  intro h
  rw [cell_blk hb] at h
  rcases off with _ | _ | _ | _ | _ | _ | _ | off <;> simp [statC] at h
theorem WkW.setBox {w w' : World} {wb tb mb sb : Nat} {sh : TShape} {S : Nat → Prop} {E : WkE} {v : WkV} {x : TreeV.StatV} (h : WkW w wb tb mb sh S E v) (hb : w.heap[sb]? = some (stO x)) (K : Keep w w' (fun b => b = sb)) (hne : ¬ sb = wb) (n1 : ¬ sh.has sb) (n2 : ¬ S sb) : WkW w' wb tb mb sh S E v := by
  refine ⟨h.env.keep K (fun b q z => n1 (by rw [← show b = sb from z]; exact q)) (fun b q z => n2 (by rw [← show b = sb from z]; exact q)), ?_, h.n1, h.n2⟩
  obtain ⟨la, lc, h1, h2, h3, h4⟩ := h.wk.ex
  refine ⟨la, lc, K.get h1 (fun q => hne q.symm), ?_, h3, h4⟩
  by_cases hl : v.left = []
  · exact ⟨la, lc, by rw [List.length_map], .inl (by rw [hl]; rfl)⟩
  · have hlp : 0 < (v.left.map txV).length := by rw [List.length_map]; exact List.length_pos_iff.2 hl
    obtain ⟨b, off, rfl, h6, h7⟩ := h2.some hlp
    refine ⟨some ⟨b, off, none⟩, lc, by rw [List.length_map], .inr ⟨b, off, rfl, Nat.lt_of_lt_of_le h6 K.size, fun i u hu => K.cell (h7 i u hu) (fun q => ?_)⟩⟩
    cases hv : v.left with
    | nil => exact hl hv
    | cons s r =>
      have c0 := h7 0 (txV s) (by rw [hv]; rfl)
      rw [show b = sb from q] at c0
      exact stO_nostr hb c0
def restA (b off cap : Nat) : Addr := if cap = 1 then ⟨b, off, none⟩ else ⟨b, off + 1, none⟩
theorem list_rest {w : World} {b off n cap : Nat} {x : Value} {r : List Value} (hn : r.length = n) (h : ListIn w (.slice (some ⟨b, off, none⟩) (n + 1) cap) (x :: r)) (hc : n + 1 ≤ cap) : ListIn w (.slice (some (restA b off cap)) n (cap - 1)) r ∧ w.cell? ⟨b, off, none⟩ = some x := by
  subst hn
  obtain ⟨a, c, e, h⟩ := h
  cases e
  rcases h with h | ⟨b', off', e, h1, h2⟩
  · cases h
  · cases e
    refine ⟨⟨_, _, rfl, ?_⟩, h2 0 x rfl⟩
    unfold restA
    by_cases hc1 : cap = 1
    · have : r = [] := List.length_eq_zero_iff.1 (by omega)
      exact .inl this
    · rw [if_neg hc1]
      refine .inr ⟨b, off + 1, rfl, h1, fun i u hu => ?_⟩
      have := h2 (i + 1) u (by simpa using hu)
      rw [show off + 1 + i = off + (i + 1) by omega]
      exact this
theorem next_fine {v : WkV} {s : Bl} {r : List Bl} (h : v.fine) (hl : v.left = s :: r) : (v.next r).fine := by
  have hs := h.sum
  have h0 := h.s0
  have hw : wtL v.left = s.length + 1 + wtL r := by rw [hl]; unfold wtL; simp only [List.map_cons, List.sum_cons, List.length_cons]; omega
  exact ⟨h.l0, h.l1, by show 0 ≤ v.steps + 1; omega, by show v.steps + 1 + (wtL r : Int) ≤ 5000 * (v.links + 1); omega⟩
set_option maxHeartbeats 16000000 in
theorem part_c {w : World} {wb tb mb : Nat} {sh : TShape} {S : Nat → Prop} {E : WkE} {v : WkV} (h : WkW w wb tb mb sh S E v) (hv : v.fine) (hT : ∀ n, (blOf (E.T.textOf n)).length ≤ 1000) {s : Bl} {r : List Bl} (hl : v.left = s :: r) :
    Calls Tryz.prog 102 #[.pointer (some ⟨wb, 0, none⟩)] w fun e w' => e = .returned (.tuple #[.bool (wpart E v s r).1, .int .i64 (wpart E v s r).2.1]) ∧ WkAt w' wb tb mb E (wpart E v s r).2.2 ∧ Keep w w' (fun b => b = wb) := by
  obtain ⟨R, hR⟩ : ∃ R, wpart E v s r = R := ⟨_, rfl⟩
  rw [hR]
  have hstp := hv.len.2.1
  have hst0 := hv.s0
  have H := Lib.hid h
  have HR := Lib.hid hR
  obtain ⟨la, lc, h1, h2, h3, h4, h5⟩ := h.wk.ex
  have hrl : ∃ rn, r.length = rn := ⟨_, rfl⟩
  obtain ⟨rn, hrn⟩ := hrl
  have hll : v.left.length = rn + 1 := by rw [hl, List.length_cons, hrn]
  have hlm : v.left.map txV = txV s :: r.map txV := by rw [hl]; rfl
  rw [hll] at h1 h2 h3 h4
  rw [hlm] at h2
  obtain ⟨lb, lo, rfl, hlt, -⟩ := h2.some (by simp)
  obtain ⟨hrest, hhead⟩ := list_rest (by rw [List.length_map]; exact hrn) h2 h4
  have hcr : Clear (.slice (some (restA lb lo lc)) rn (lc - 1)) (fun b => b = wb) := by
    intro g hg
    refine h3 g ?_
    unfold restA at hg
    split at hg <;> exact hg
  have t9 := (wkCells h1).c9
  have t12 := (wkCells h1).c12
  have f9 := free_blk h1 9
  have f12 := free_blk h1 12
  have g0 : (0 : Int) < (rn : Int) + 1 := by omega
  have g1 : (1 : Int) ≤ (rn : Int) + 1 := by omega
  have hmx : lc ≤ 9223372036854775807 := by unfold maxLen at h5; omega
  have hne : ¬ lb = wb := fun e => h3 lb rfl e
  have hX := H.out.wk.setNext (l := r) (by rw [hrn]; exact hrest) (by rw [hrn]; exact hcr) (by rw [hrn]; omega) (v.steps + 1)
  rw [hrn] at hX
  have HX := Lib.hid hX
  have HL := Lib.hid (And.intro hl (And.intro hrn (And.intro hv hT)))
  unfold txV at hhead
  clear h h1 h2 h3 hrest hcr hX hl hll hlm hrn hR hv hT
  go_enter Tryz.func102, Tryz.ntmps102
  go_upto_region 2 with (fail)
  go_cut [] (fun wx => wx = w.setCell ⟨wb, 9, none⟩ (.slice (some (restA lb lo lc)) rn (lc - 1)))
  case first =>
    by_cases hc1 : lc = 1
    · have e1 : restA lb lo lc = ⟨lb, lo, none⟩ := by unfold restA; rw [if_pos hc1]
      clear HX
      go_wp2
      go_meet
      case rel => rw [e1, hc1]
    · have e1 : restA lb lo lc = ⟨lb, lo + 1, none⟩ := by unfold restA; rw [if_neg hc1]
      clear HX
      go_wp2
      go_meet
      case rel => rw [e1]
  case rest =>
    obtain rfl := hcut
    go_upto_region 4 with (fail)
    obtain ⟨W1, hW1⟩ : ∃ W1, W1 = (w.setCell ⟨wb, 9, none⟩ (.slice (some (restA lb lo lc)) rn (lc - 1))).setCell ⟨wb, 12, none⟩ (.int .i64 (v.steps + 1)) := ⟨_, rfl⟩
    rw [← hW1] at HX ⊢
    clear hW1 t9 t12 f9 f12 hhead
    obtain ⟨v1, hv1⟩ : ∃ v1, v1 = v.next r := ⟨_, rfl⟩
    have hX1 : WkW W1 wb tb mb sh S E v1 := by rw [hv1]; exact H.out.turn HX.out.2 HX.out.1
    have e1 : v1.m = v.m := by rw [hv1]; rfl
    have e2 : v1.n = v.n := by rw [hv1]; rfl
    have e3 : v1.left.length = rn := by rw [hv1]; exact HL.out.2.1
    have e4 : v1.slash = v.slash := by rw [hv1]; rfl
    have hK1 := HX.out.2
    have HV := Lib.hid (And.intro hv1 (And.intro e1 (And.intro e2 (And.intro e3 e4))))
    have B := Lib.hid (And.intro hX1 hK1)
    clear hv1 HX hK1
    obtain ⟨la1, lc1, h1, h2, h3, h4, h5⟩ := hX1.wk.ex
    rw [e3] at h1
    have cc := wkCells h1
    have t0 := cc.t
    have t8 := cc.c8
    obtain ⟨m, hm⟩ : ∃ m, v.m = m := ⟨_, rfl⟩
    obtain ⟨n, hn⟩ : ∃ n, v.n = n := ⟨_, rfl⟩
    rw [e2, hn] at t8
    obtain ⟨st, ok, hst⟩ : ∃ st ok, E.T.stat n = (st, ok) := ⟨_, _, rfl⟩
    have hs1 := fun w1 (K : Keep W1 w1 (fun _ => False)) => tstat_c (hX1.aside K).env.tree (hX1.env.small) n
    rw [hst] at hs1
    simp only [statC] at hs1
    have HM := Lib.hid (And.intro hm (And.intro hn hst))
    clear hX1 h1 h2 h3 h4 h5 cc e1 e2 e3 e4 hm hn hst
    have n1 := World.new_ne W1 _ t0
    go_cut [5, 6] (fun s5 s6 wx => ∃ sb, s5 = .pointer (some ⟨sb, 0, none⟩) ∧ s6 = .bool ok ∧ Keep W1 wx (fun _ => False) ∧ wx.heap[sb]? = some (stO st) ∧ W1.heap.size ≤ sb)
    case first =>
      -- {{
      go_region_held3 (fun w' => w'.cell? ⟨wb, 0, none⟩ = some (.pointer (some ⟨tb, 0, none⟩)) ∧ w'.cell? ⟨wb, 8, none⟩ = some (.int .i64 n)) (go_keep) (
        (go_at_call 20
         refine (hs1 _ ?_).mono ?_
         · repeat (first | exact Keep.refl _ _ | exact Keep.drew _ _ | refine Keep.allocNew ?_ _ | refine Keep.drewNew ?_)
         rintro e w7 ⟨rfl, k7⟩
         have kw : Keep W1 w7 (fun _ => False) := by
           refine Keep.trans ?_ k7 (fun _ q => q.elim)
           repeat (first | exact Keep.refl _ _ | exact Keep.drew _ _ | refine Keep.allocNew ?_ _ | refine Keep.drewNew ?_)
         have q0 := kw.cell t0 (fun q => q)
         have q1 := kw.cell t8 (fun q => q)
         try (have z0 : w7.heap[W1.heap.size]? = some (.cells #[.int .i64 0, .int .i64 0, .int .i64 0, .int .i64 0, .int .i64 0, .int .i64 0, .int .i64 0] 36 (0, 0)) := k7.get (heap_alloc_eq W1.drew _) (fun q => q))
         try (have zc0 : w7.cell? ⟨W1.heap.size, 0, none⟩ = some (.int .i64 0) := by rw [cell_blk z0]; rfl)
         try (have zf0 := free_blk z0 0)
         try (have zc1 : w7.cell? ⟨W1.heap.size, 1, none⟩ = some (.int .i64 0) := by rw [cell_blk z0]; rfl)
         try (have zf1 := free_blk z0 1)
         try (have zc2 : w7.cell? ⟨W1.heap.size, 2, none⟩ = some (.int .i64 0) := by rw [cell_blk z0]; rfl)
         try (have zf2 := free_blk z0 2)
         try (have zc3 : w7.cell? ⟨W1.heap.size, 3, none⟩ = some (.int .i64 0) := by rw [cell_blk z0]; rfl)
         try (have zf3 := free_blk z0 3)
         try (have zc4 : w7.cell? ⟨W1.heap.size, 4, none⟩ = some (.int .i64 0) := by rw [cell_blk z0]; rfl)
         try (have zf4 := free_blk z0 4)
         try (have zc5 : w7.cell? ⟨W1.heap.size, 5, none⟩ = some (.int .i64 0) := by rw [cell_blk z0]; rfl)
         try (have zf5 := free_blk z0 5)
         try (have zc6 : w7.cell? ⟨W1.heap.size, 6, none⟩ = some (.int .i64 0) := by rw [cell_blk z0]; rfl)
         try (have zf6 := free_blk z0 6)))
      all_goals go_wp2
      all_goals go_meet
      all_goals first
        | (have s := sets_at [(0, .int .i64 st.node), (1, .int .i64 st.kind), (2, .int .i64 st.mode), (3, .int .i64 st.uid), (4, .int .i64 st.gid), (5, .int .i64 st.links), (6, .int .i64 st.size)] z0
           have k := sets_keep (b := W1.heap.size) [(0, .int .i64 st.node), (1, .int .i64 st.kind), (2, .int .i64 st.mode), (3, .int .i64 st.uid), (4, .int .i64 st.gid), (5, .int .i64 st.links), (6, .int .i64 st.size)] w7
           simp only [sets] at s k
           exact ⟨_, rfl, rfl, kw.trans k (fun x q => .inr (Nat.le_of_eq q.symm)), by simpa [setAll, stO, statC] using s, Nat.le_refl _⟩)
        | exact ⟨_, rfl, rfl, kw.aside (Keep.alloc w7 _ _), heap_alloc_eq w7 _, kw.size⟩
      -- }}
    case rest =>
      obtain ⟨sb, rfl, rfl, k2, b2, hsb⟩ := hcut
      obtain ⟨W2, hW2⟩ : ∃ W2 : World, W2 = wc := ⟨_, rfl⟩
      subst hW2
      clear t0 t8 n1 hs1
      have C : Hid (WkW W2 wb tb mb sh S E v1 ∧ Keep w W2 (fun b => b = wb) ∧ W2.heap[sb]? = some (stO st)) := Lib.hid ⟨B.out.1.aside k2, B.out.2.trans k2 (fun _ q => q.elim), b2⟩
      have hsw : ¬ sb = wb := by have := B.out.1.wk.lt; omega
      have hsge : w.heap.size ≤ sb := by have := B.out.2.size; omega
      obtain ⟨⟨c0, c1, c2, c3, c4, c5, c6⟩, -⟩ := cells7 b2
      have hsn : ¬ sh.has sb := fun q => by
        cases hg : sh.tag sb with
        | none => exact absurd hg q
        | some g => have := B.out.1.env.tree.lt _ _ hg; omega
      have hsn2 : ¬ S sb := fun q => by have := B.out.1.env.tab.lt _ q; omega
      clear k2 b2 hsb
      by_cases hk : st.kind = 1
      · have hk' : (st.kind != 1) = false := by simpa using hk
        obtain ⟨x, hx⟩ : ∃ x, mayX E.c st = x := ⟨_, rfl⟩
        have hmy := fun w1 => may_c E.c st w1
        rw [hx] at hmy
        simp only [statC] at hmy
        obtain ⟨la2, lc2, h1, -⟩ := C.out.1.wk.ex
        have y2 := (wkCells h1).c2
        have y3 := (wkCells h1).c3
        have HK := Lib.hid (And.intro hk hx)
        clear h1 hk hx
        go_upto_region 7 with (fail)
        have n2 := World.new_ne W2 _ y2
        have n3 := World.new_ne W2 _ c0
        go_cut [49] (fun s49 wx => s49 = .bool (!x) ∧ Keep W2 wx (fun _ => False))
        case first => as_aux_lemma =>
          -- {{
          go_region_held3 (fun w' => (w'.cell? ⟨wb, 2, none⟩ = some (.int .i64 E.c.uid) ∧ w'.cell? ⟨wb, 3, none⟩ = some (.int .i64 E.c.gid)) ∧ w'.cell? ⟨sb, 0, none⟩ = some (.int .i64 st.node) ∧ w'.cell? ⟨sb, 1, none⟩ = some (.int .i64 st.kind) ∧ w'.cell? ⟨sb, 2, none⟩ = some (.int .i64 st.mode) ∧ w'.cell? ⟨sb, 3, none⟩ = some (.int .i64 st.uid) ∧ w'.cell? ⟨sb, 4, none⟩ = some (.int .i64 st.gid) ∧ w'.cell? ⟨sb, 5, none⟩ = some (.int .i64 st.links) ∧ w'.cell? ⟨sb, 6, none⟩ = some (.int .i64 st.size)) (go_keep) (
            (go_at_call 123
             refine (hmy _).mono ?_
             rintro e w7 ⟨rfl, k7⟩
             have kw : Keep W2 w7 (fun _ => False) := by
               refine Keep.trans ?_ k7 (fun _ q => q.elim)
               repeat (first | exact Keep.refl _ _ | exact Keep.drew _ _ | refine Keep.allocNew ?_ _ | refine Keep.drewNew ?_)
             have q0 := kw.cell y2 (fun q => q)
             have q1 := kw.cell y3 (fun q => q)
             have q2 := kw.cell c0 (fun q => q)
             have q3 := kw.cell c1 (fun q => q)
             have q4 := kw.cell c2 (fun q => q)
             have q5 := kw.cell c3 (fun q => q)
             have q6 := kw.cell c4 (fun q => q)
             have q7 := kw.cell c5 (fun q => q)
             have q8 := kw.cell c6 (fun q => q)))
          all_goals go_wp2
          all_goals go_meet
          all_goals exact ⟨rfl, kw⟩
          -- }}
        case rest =>
          obtain ⟨rfl, k3⟩ := hcut
          obtain ⟨W3, hW3⟩ : ∃ W3 : World, W3 = wc := ⟨_, rfl⟩
          subst hW3
          have D : Hid (WkW W3 wb tb mb sh S E v1 ∧ Keep w W3 (fun b => b = wb) ∧ W3.heap[sb]? = some (stO st)) := Lib.hid ⟨C.out.1.aside k3, C.out.2.1.trans k3 (fun _ q => q.elim), k3.get C.out.2.2 (fun q => q)⟩
          clear k3 c0 c1 c2 c3 c4 c5 c6 y2 y3 n2 n3 hmy
          cases x with
          | false =>
            have hR : R = (true, 34, v1) := by
              rw [← HR.out, HV.out.1]
              exact wpart_2 (by rw [HM.out.2.1, HM.out.2.2]; exact HK.out.1) (by rw [HM.out.2.1, HM.out.2.2]; exact HK.out.2)
            have HR2 := Lib.hid hR
            clear hR
            go_wp2
            go_ret2
            rw [HR2.out]
            exact ⟨rfl, D.out.1.wk, D.out.2.1⟩
          | true =>
            by_cases hs1 : s = [46]
            · have e1 : (txB s).toList = [46] := by rw [txB_toList]; exact hs1
              have hR : R = (false, 0, v1.here) := by
                rw [← HR.out, HV.out.1]
                exact wpart_3 (by rw [HM.out.2.1, HM.out.2.2]; exact HK.out.1) (by rw [HM.out.2.1, HM.out.2.2]; exact HK.out.2) hs1
              have HR2 := Lib.hid hR
              have hh := here_c D.out.1.wk
              clear hR hs1
              go_wp2_with (
                go_at_call 101
                refine hh.mono ?_
                rintro e w9 ⟨⟨u9, rfl⟩, h9, k9⟩
                have Y := Lib.hid (And.intro h9 (D.out.2.1.trans k9 (fun b q => .inl q)))
                clear hh h9 k9)
              go_ret2
              rw [HR2.out]
              exact ⟨rfl, Y.out⟩
            · have e1 : ¬ (txB s).toList = [46] := by rw [txB_toList]; exact hs1
              have e1' : ((txB s).toList == [46]) = false := by simpa using e1
              by_cases hs2 : s = [46, 46]
              · have e2 : (txB s).toList = [46, 46] := by rw [txB_toList]; exact hs2
                have hR : R = (false, 0, WkV.here { v1 with m := (wup E v1.m v1.n).1, n := (wup E v1.m v1.n).2 }) := by
                  rw [← HR.out, HV.out.1]
                  exact wpart_4 (by rw [HM.out.2.1, HM.out.2.2]; exact HK.out.1) (by rw [HM.out.2.1, HM.out.2.2]; exact HK.out.2) hs2
                have HR2 := Lib.hid hR
                have hup := up_c D.out.1
                clear hR hs1 hs2
                go_wp2_with (first
                  | (go_at_call 124
                     refine hup.mono ?_
                     rintro e w8 ⟨⟨u8, rfl⟩, h8, k8⟩
                     have hh := here_c h8
                     have Y8 := Lib.hid (D.out.2.1.trans k8 (fun b q => .inl q))
                     clear hup h8 k8)
                  | (go_at_call 101
                     refine hh.mono ?_
                     rintro e w9 ⟨⟨u9, rfl⟩, h9, k9⟩
                     have Y := Lib.hid (And.intro h9 (Y8.out.trans k9 (fun b q => .inl q)))
                     clear hh h9 k9))
                go_ret2
                rw [HR2.out]
                exact ⟨rfl, Y.out⟩
              · have e2 : ¬ (txB s).toList = [46, 46] := by rw [txB_toList]; exact hs2
                have e2' : ((txB s).toList == [46, 46]) = false := by simpa using e2
                obtain ⟨la3, lc3, h1, -⟩ := D.out.1.wk.ex
                have t0 := (wkCells h1).t
                have t7 := (wkCells h1).c7
                have t8 := (wkCells h1).c8
                rw [HV.out.2.1, HM.out.1] at t7
                rw [HV.out.2.2.1, HM.out.2.1] at t8
                have HS := Lib.hid (And.intro hs1 hs2)
                clear h1 hs1 hs2
                go_upto_region 17 with (fail)
                obtain ⟨W4, hW4⟩ : ∃ W4, W4 = W3.alloc (.cells #[.int .i64 m, .int .i64 n] 38) := ⟨_, rfl⟩
                obtain ⟨db, hdb⟩ : ∃ db, db = W3.heap.size := ⟨_, rfl⟩
                have ka := Keep.alloc W3 (.cells #[.int .i64 m, .int .i64 n] 38) (fun _ => False)
                have ba : (W3.alloc (.cells #[.int .i64 m, .int .i64 n] 38)).heap[db]? = some (plO m n) := by rw [hdb]; exact heap_alloc_eq W3 _
                rw [← hW4] at ka ba ⊢
                rw [← hdb]
                have F : Hid (WkW W4 wb tb mb sh S E v1 ∧ Keep w W4 (fun b => b = wb) ∧ W4.heap[sb]? = some (stO st) ∧ W4.heap[db]? = some (plO m n)) := Lib.hid ⟨D.out.1.aside ka, D.out.2.1.trans ka (fun _ q => q.elim), ka.get D.out.2.2 (fun q => q), ba⟩
                have hdw : ¬ db = wb := by have := D.out.1.wk.lt; omega
                have hds : ¬ db = sb := by have := lt_of_blk D.out.2.2; omega
                replace t0 := ka.cell t0 (fun q => q)
                obtain ⟨p0, p1, -, -⟩ := plO_cells ba
                obtain ⟨n5, has, hfd⟩ : ∃ n5 has, E.T.find n (txB s) = (n5, has) := ⟨_, _, rfl⟩
                have hf1 := fun w1 (K : Keep W4 w1 (fun _ => False)) => tfind_c (F.out.1.aside K).env.tree n (txB s)
                rw [hfd] at hf1
                simp only at hf1
                have HF := Lib.hid hfd
                clear hW4 hdb ka ba t7 t8 hfd
                have n4 := World.new_ne W4 _ t0
                have n5' := World.new_ne W4 _ p0
                go_cut [8, 9] (fun s8 s9 wx => s8 = .int .i64 n5 ∧ s9 = .bool has ∧ Keep W4 wx (fun _ => False))
                case first => as_aux_lemma =>
                  -- {{
                  go_region_held3 (fun w' => w'.cell? ⟨wb, 0, none⟩ = some (.pointer (some ⟨tb, 0, none⟩)) ∧ w'.cell? ⟨db, 1, none⟩ = some (.int .i64 n)) (go_keep) (
                    (go_at_call 125
                     refine (hf1 _ ?_).mono ?_
                     · repeat (first | exact Keep.refl _ _ | exact Keep.drew _ _ | refine Keep.allocNew ?_ _ | refine Keep.drewNew ?_)
                     rintro e w7 ⟨rfl, rfl⟩))
                  all_goals go_wp2
                  all_goals go_meet
                  all_goals exact ⟨rfl, rfl, Keep.drew _ _⟩
                  -- }}
                case rest =>
                  obtain ⟨rfl, rfl, k5⟩ := hcut
                  obtain ⟨W5, hW5⟩ : ∃ W5 : World, W5 = wc := ⟨_, rfl⟩
                  subst hW5
                  have G : Hid (WkW W5 wb tb mb sh S E v1 ∧ Keep w W5 (fun b => b = wb) ∧ W5.heap[sb]? = some (stO st) ∧ W5.heap[db]? = some (plO m n)) := Lib.hid ⟨F.out.1.aside k5, F.out.2.1.trans k5 (fun _ q => q.elim), k5.get F.out.2.2.1 (fun q => q), k5.get F.out.2.2.2 (fun q => q)⟩
                  clear k5 t0 p0 p1 n4 n5' hf1
                  obtain ⟨la5, lc5, h1, -⟩ := G.out.1.wk.ex
                  rw [HV.out.2.2.2.1] at h1
                  have cc := wkCells h1
                  obtain ⟨p0, p1, -, -⟩ := plO_cells G.out.2.2.2
                  cases has with
                  | false =>
                    have hR0 : R = if r ≠ [] then (true, 32, v1) else (true, 0, { v1 with f := ⟨v.m, v.n, txB s, 0, 0, false, v.slash⟩ }) := by
                      rw [← HR.out, HV.out.1]
                      exact wpart_5 (by rw [HM.out.2.1, HM.out.2.2]; exact HK.out.1) (by rw [HM.out.2.1, HM.out.2.2]; exact HK.out.2) HS.out.1 HS.out.2 (by rw [HM.out.2.1]; exact HF.out)
                    have t9 := cc.c9
                    by_cases hr0 : rn = 0
                    · have hR : R = (true, 0, { v1 with f := ⟨v.m, v.n, txB s, 0, 0, false, v.slash⟩ }) := by
                        rw [hR0, if_neg (fun q => q (List.length_eq_zero_iff.1 (by rw [HL.out.2.1]; exact hr0)))]
                      have HR2 := Lib.hid hR
                      have t10 := cc.c10
                      rw [HV.out.2.2.2.2] at t10
                      have t13 := cc.c13
                      have t14 := cc.c14
                      have t15 := cc.c15
                      have t16 := cc.c16
                      have t17 := cc.c17
                      have t18 := cc.c18
                      have t19 := cc.c19
                      have f13 := free_blk h1 13
                      have f14 := free_blk h1 14
                      have f15 := free_blk h1 15
                      have f16 := free_blk h1 16
                      have f17 := free_blk h1 17
                      have f18 := free_blk h1 18
                      have f19 := free_blk h1 19
                      subst hr0
                      clear hR hR0 cc h1
                      go_upto_region 21 with (fail)
                      go_region
                      go_wp2
                      go_ret2
                      rw [HR2.out, HM.out.1, HM.out.2.1]
                      obtain ⟨q1, q2⟩ := G.out.1.wk.setF ⟨m, n, txB s, 0, 0, false, v.slash⟩
                      simp only [sets] at q1 q2
                      exact ⟨rfl, q1.aside (Keep.drew _ _), (G.out.2.1.trans q2 (fun b q => .inl q)).drewNew⟩
                    · have hR : R = (true, 32, v1) := by
                        rw [hR0, if_pos (fun q => hr0 (by rw [← HL.out.2.1, q]; rfl))]
                      have HR2 := Lib.hid hR
                      have g5 : (0 : Int) < (rn : Int) := by omega
                      clear hR hR0 cc h1
                      go_wp2
                      go_ret2
                      rw [HR2.out]
                      exact ⟨rfl, G.out.1.wk, G.out.2.1⟩
                  | true =>
                    have t1 := cc.m
                    have t7 := cc.c7
                    have t8 := cc.c8
                    have f7 := free_blk h1 7
                    have f8 := free_blk h1 8
                    clear cc h1
                    go_upto_region 23 with (fail)
                    obtain ⟨d1, d2, hd⟩ : ∃ d1 d2, E.M.down m n5 = (d1, d2) := ⟨_, _, rfl⟩
                    have hdn := mdown_k G.out.1.env.tab hd
                    have HD := Lib.hid hd
                    clear hd
                    have n6 := World.new_ne W5 _ t1
                    have n7 := World.new_ne W5 _ p0
                    have hwd : ¬ wb = db := fun q => hdw q.symm
                    go_cut [] (fun wx => WkAt wx wb tb mb E { v1 with m := d1, n := d2 } ∧ Keep W5 wx (fun b => b = wb))
                    case first => as_aux_lemma =>
                      -- {{
                      go_region_held3 (fun w' => w'.cell? ⟨wb, 1, none⟩ = some (.pointer (some ⟨mb, 0, none⟩)) ∧ w'.cell? ⟨db, 0, none⟩ = some (.int .i64 m)) ((go_split_ands; refine ⟨?_, ?_⟩ <;> first | go_keep | (go_simp; done) | assumption)) (
                        (go_at_call 21
                         refine (hdn _ ?_).mono ?_
                         · repeat (first | exact Keep.refl _ _ | exact Keep.drew _ _ | refine Keep.allocNew ?_ _ | refine Keep.drewNew ?_)
                         rintro e w7 ⟨rfl, k7, kw⟩
                         have q0 := kw.cell t1 (fun q => q)
                         have q1 := kw.cell p0 (fun q => q)
                         have q2 := kw.cell t7 (fun q => q)
                         have q3 := kw.cell t8 (fun q => q)
                         have q4 : w7.frozen? ⟨wb, 7, none⟩ = false := free_blk (G.out.1.wk.aside kw).ex.choose_spec.choose_spec.1 7
                         have q5 : w7.frozen? ⟨wb, 8, none⟩ = false := free_blk (G.out.1.wk.aside kw).ex.choose_spec.choose_spec.1 8))
                      all_goals go_wp2
                      all_goals go_meet
                      all_goals
                        obtain ⟨z1, z2⟩ := (G.out.1.wk.aside kw).setAt d1 d2
                        exact ⟨z1, (kw.mono (fun _ q => q.elim)).trans z2 (fun x q => .inl q)⟩
                      -- }}
                    case rest =>
                      obtain ⟨hw6, k6⟩ := hcut
                      obtain ⟨W6, hW6⟩ : ∃ W6 : World, W6 = wc := ⟨_, rfl⟩
                      subst hW6
                      obtain ⟨v2, hv2⟩ : ∃ v2, v2 = { v1 with m := d1, n := d2 } := ⟨_, rfl⟩
                      rw [← hv2] at hw6
                      have hsw2 : ¬ sb = wb := hsw
                      have I : Hid (WkW W6 wb tb mb sh S E v2 ∧ Keep w W6 (fun b => b = wb) ∧ W6.heap[sb]? = some (stO st) ∧ W6.heap[db]? = some (plO m n)) := Lib.hid ⟨G.out.1.turn k6 hw6, G.out.2.1.trans k6 (fun b q => .inl q), k6.get G.out.2.2.1 hsw, k6.get G.out.2.2.2 hdw⟩
                      have HV2 := Lib.hid hv2
                      clear k6 hw6 t1 t7 t8 f7 f8 p0 p1 n6 n7 hdn hv2
                      obtain ⟨la6, lc6, h1, -⟩ := I.out.1.wk.ex
                      have t0 := (wkCells h1).t
                      have t8 := (wkCells h1).c8
                      rw [HV2.out] at t8
                      simp only at t8
                      clear h1
                      obtain ⟨st2, ok2, hst2⟩ : ∃ st ok, E.T.stat d2 = (st, ok) := ⟨_, _, rfl⟩
                      have hs2 := fun w1 (K : Keep W6 w1 (fun _ => False)) => tstat_c (I.out.1.aside K).env.tree I.out.1.env.small d2
                      rw [hst2] at hs2
                      simp only [statC] at hs2
                      have HT2 := Lib.hid hst2
                      clear hst2
                      go_upto_region 24 with (fail)
                      have n6 := World.new_ne W6 _ t0
                      have hws : ¬ wb = sb := fun q => hsw q.symm
                      go_cut [] (fun wx => Keep W6 wx (fun b => b = sb) ∧ wx.heap[sb]? = some (stO st2))
                      case first =>
                        -- {{
                        go_region_held3 (fun w' => w'.cell? ⟨wb, 0, none⟩ = some (.pointer (some ⟨tb, 0, none⟩)) ∧ w'.cell? ⟨wb, 8, none⟩ = some (.int .i64 d2)) (go_keep) (
                          (go_at_call 20
                           refine (hs2 _ ?_).mono ?_
                           · repeat (first | exact Keep.refl _ _ | exact Keep.drew _ _ | refine Keep.allocNew ?_ _ | refine Keep.drewNew ?_)
                           rintro e w7 ⟨rfl, k7⟩
                           have kw : Keep W6 w7 (fun _ => False) := by
                             refine Keep.trans ?_ k7 (fun _ q => q.elim)
                             repeat (first | exact Keep.refl _ _ | exact Keep.drew _ _ | refine Keep.allocNew ?_ _ | refine Keep.drewNew ?_)
                           have q0 := kw.cell t0 (fun q => q)
                           have q1 := kw.cell t8 (fun q => q)
                           have z0 := kw.get I.out.2.2.1 (fun q => q)
                           have z1 := cells7 z0))
                        all_goals go_wp2
                        all_goals go_meet
                        all_goals
                          have s := sets_at [(0, .int .i64 st2.node), (1, .int .i64 st2.kind), (2, .int .i64 st2.mode), (3, .int .i64 st2.uid), (4, .int .i64 st2.gid), (5, .int .i64 st2.links), (6, .int .i64 st2.size)] z0
                          have k := sets_keep (b := sb) [(0, .int .i64 st2.node), (1, .int .i64 st2.kind), (2, .int .i64 st2.mode), (3, .int .i64 st2.uid), (4, .int .i64 st2.gid), (5, .int .i64 st2.links), (6, .int .i64 st2.size)] w7
                          simp only [sets] at s k
                          exact ⟨(kw.mono (fun _ q => q.elim)).trans k (fun x q => .inl q), by simpa [setAll, stO, statC] using s⟩
                        -- }}
                      case rest =>
                        obtain ⟨k7, b7⟩ := hcut
                        obtain ⟨W7, hW7⟩ : ∃ W7 : World, W7 = wc := ⟨_, rfl⟩
                        subst hW7
                        have J : Hid (WkW W7 wb tb mb sh S E v2 ∧ Keep w W7 (fun b => b = wb) ∧ W7.heap[db]? = some (plO m n) ∧ W7.heap[sb]? = some (stO st2)) := Lib.hid ⟨I.out.1.setBox I.out.2.2.1 k7 hsw hsn hsn2, I.out.2.1.trans k7 (fun b q => .inr (by rw [show b = sb from q]; exact hsge)), k7.get I.out.2.2.2 hds, b7⟩
                        have hwc : wpart E v s r = wcome E v s r n5 := wpart_6 (by rw [HM.out.2.1, HM.out.2.2]; exact HK.out.1) (by rw [HM.out.2.1, HM.out.2.2]; exact HK.out.2) HS.out.1 HS.out.2 (by rw [HM.out.2.1]; exact HF.out)
                        unfold wcome at hwc
                        rw [HR.out, HM.out.1, HM.out.2.1, HD.out, HT2.out, ← HV.out.1] at hwc
                        simp only at hwc
                        rw [← HV2.out] at hwc
                        obtain ⟨fl, hfl⟩ : ∃ fl, E.follow = fl := ⟨_, rfl⟩
                        obtain ⟨sl, hsl⟩ : ∃ sl, v.slash = sl := ⟨_, rfl⟩
                        obtain ⟨q, hq⟩ : ∃ q, (decide (st2.kind = 3) && (decide (0 < rn) || fl || sl)) = q := ⟨_, rfl⟩
                        have hqc : (st2.kind = 3 ∧ (r ≠ [] ∨ E.follow = true ∨ v.slash = true)) ↔ q = true := by
                          rw [← hq, hfl, hsl]
                          have e9 : r ≠ [] ↔ 0 < rn := by rw [← HL.out.2.1]; exact List.length_pos_iff.symm
                          rw [e9]
                          simp [or_assoc]
                        obtain ⟨la7, lc7, h1, -⟩ := J.out.1.wk.ex
                        have e10 : v2.left.length = rn := by rw [HV2.out]; exact HV.out.2.2.2.1
                        have e11 : v2.slash = sl := by rw [HV2.out, ← hsl]; exact HV.out.2.2.2.2
                        rw [e10] at h1
                        have t6 := (wkCells h1).c6
                        have t9 := (wkCells h1).c9
                        have t10 := (wkCells h1).c10
                        rw [hfl] at t6
                        rw [e11] at t10
                        have c1 := (cells7 J.out.2.2.2).1.2.1
                        have HW := Lib.hid (And.intro hwc hqc)
                        have HQ := Lib.hid hq
                        clear hwc hqc h1 e10 e11 hfl hsl hq k7 b7
                        go_upto_region 25 with (fail)
                        go_cut [149] (fun s149 wx => s149 = .bool q ∧ W7 = wx)
                        case first => as_aux_lemma =>
                          by_cases k3 : st2.kind = 3
                          · have k3' : (st2.kind == 3) = true := by simpa using k3
                            by_cases r0 : 0 < rn
                            · have r0' : (0 : Int) < (rn : Int) := by omega
                              have e : true = q := by rw [← HQ.out]; simp [k3, r0]
                              have EE := Lib.hid e
                              clear HQ HW k3 e
                              go_wp2
                              go_meet
                              case rel => exact ⟨by rw [← EE.out], rfl⟩
                            · have r0' : ¬ (0 : Int) < (rn : Int) := by omega
                              have e : (fl || sl) = q := by rw [← HQ.out]; simp [k3, r0]
                              have EE := Lib.hid e
                              clear HQ HW k3 e
                              cases fl <;> cases sl
                              all_goals go_wp2
                              all_goals go_meet
                              all_goals exact ⟨by rw [← EE.out]; rfl, rfl⟩
                          · have k3' : (st2.kind == 3) = false := by simpa using k3
                            have e : false = q := by rw [← HQ.out]; simp [k3]
                            have EE := Lib.hid e
                            clear HQ HW k3 e
                            go_wp2
                            go_meet
                            case rel => exact ⟨by rw [← EE.out], rfl⟩
                        case rest =>
                          obtain ⟨rfl, hww⟩ := hcut
                          obtain rfl : W7 = wc := hww
                          clear t6 t9 t10 c1
                          cases q with
                          | true =>
                            have hR := HW.out.1
                            rw [if_pos (HW.out.2.2 rfl)] at hR
                            obtain ⟨txt, htxt⟩ : ∃ txt, E.T.textOf d2 = txt := ⟨_, rfl⟩
                            have hvf : v2.fine := by
                              have q9 := next_fine HL.out.2.2.1 HL.out.1
                              rw [HV2.out, HV.out.1]
                              exact ⟨q9.l0, q9.l1, q9.s0, q9.sum⟩
                            have htl := HL.out.2.2.2 d2
                            rw [htxt] at hR htl
                            have htx := fun w1 (K : Keep W7 w1 (fun _ => False)) => ttext_c (J.out.1.aside K).env.tree d2
                            rw [htxt] at htx
                            have hsy := fun w1 (K : Keep W7 w1 (fun _ => False)) => symlink_c (J.out.1.aside K) hvf m n (blOf txt) htl
                            rw [txB_blOf] at hsy
                            obtain ⟨e3, v3, hw3⟩ : ∃ e3 v3, wlink E v2 m n (blOf txt) = (e3, v3) := ⟨_, _, rfl⟩
                            rw [hw3] at hR hsy
                            simp only at hR hsy
                            have HR2 := Lib.hid hR
                            obtain ⟨la8, lc8, h1, -⟩ := J.out.1.wk.ex
                            have t0 := (wkCells h1).t
                            have t8 := (wkCells h1).c8
                            rw [HV2.out] at t8
                            simp only at t8
                            obtain ⟨p0, p1, -, -⟩ := plO_cells J.out.2.2.1
                            clear hR hvf htl htxt hw3 h1
                            go_upto_region 26 with (fail)
                            refine wp_region_held_drew (S := fun w' => w'.cell? ⟨wb, 0, none⟩ = some (.pointer (some ⟨tb, 0, none⟩)) ∧ w'.cell? ⟨db, 0, none⟩ = some (.int .i64 m) ∧ w'.cell? ⟨db, 1, none⟩ = some (.int .i64 n)) (by kernel_rfl) ⟨t0, p0, p1⟩ (fun hHeld => ?_)
                            refine wpAnyH_take (i := 0) (v := ?_) rfl (by kernel_rfl) (by kernel_rfl) (by kernel_rfl) (fun _ _ _ h => h) (Or.inl ⟨by rfl, ?_⟩) (by assumption) ?_
                            rotate_left
                            · intro w hSw; (try dsimp only at hSw); go_simp; try with_reducible rfl
                            try simp only [Act.put, List.setIfInBounds_toArray, List.set_cons_zero, List.set_cons_succ, List.getElem_toArray, List.getElem_cons_zero, List.getElem_cons_succ]
                            refine wpAnyH_take (i := 1) (v := ?_) rfl (by kernel_rfl) (by kernel_rfl) (by kernel_rfl) (fun _ _ _ h => h) (Or.inl ⟨by rfl, ?_⟩) (by assumption) ?_
                            rotate_left
                            · intro w hSw; (try dsimp only at hSw); go_simp; try with_reducible rfl
                            try simp only [Act.put, List.setIfInBounds_toArray, List.set_cons_zero, List.set_cons_succ, List.getElem_toArray, List.getElem_cons_zero, List.getElem_cons_succ]
                            refine wpAnyH_take (i := 2) (v := ?_) rfl (by kernel_rfl) (by kernel_rfl) (by kernel_rfl) (fun _ _ _ h => h) (Or.inl ⟨by rfl, ?_⟩) (by assumption) ?_
                            rotate_left
                            · intro w hSw; (try dsimp only at hSw); go_simp; try with_reducible rfl
                            try simp only [Act.put, List.setIfInBounds_toArray, List.set_cons_zero, List.set_cons_succ, List.getElem_toArray, List.getElem_cons_zero, List.getElem_cons_succ]
                            refine wpAnyH_take (i := 3) (v := ?_) rfl (by kernel_rfl) (by kernel_rfl) (by kernel_rfl) (fun _ _ _ h => h) (Or.inl ⟨by rfl, ?_⟩) (by assumption) ?_
                            rotate_left
                            · intro w hSw; (try dsimp only at hSw); go_simp; try with_reducible rfl
                            try simp only [Act.put, List.setIfInBounds_toArray, List.set_cons_zero, List.set_cons_succ, List.getElem_toArray, List.getElem_cons_zero, List.getElem_cons_succ]
                            refine wpAnyH_take (i := 4) (v := ?_) rfl (by kernel_rfl) (by kernel_rfl) (by kernel_rfl) (fun _ _ _ h => h) (Or.inl ⟨by rfl, ?_⟩) (by assumption) ?_
                            rotate_left
                            · intro w hSw; (try dsimp only at hSw); go_simp; try with_reducible rfl
                            try simp only [Act.put, List.setIfInBounds_toArray, List.set_cons_zero, List.set_cons_succ, List.getElem_toArray, List.getElem_cons_zero, List.getElem_cons_succ]
                            refine wpAnyH_take (i := 5) (v := ?_) rfl (by kernel_rfl) (by kernel_rfl) (by kernel_rfl) (fun _ _ _ h => h) (Or.inl ⟨by rfl, ?_⟩) (by assumption) ?_
                            rotate_left
                            · intro w hSw; (try dsimp only at hSw); go_simp; try with_reducible rfl
                            try simp only [Act.put, List.setIfInBounds_toArray, List.set_cons_zero, List.set_cons_succ, List.getElem_toArray, List.getElem_cons_zero, List.getElem_cons_succ]
                            refine wpAnyH_take (i := 6) (v := ?_) rfl (by kernel_rfl) (by kernel_rfl) (by kernel_rfl) (fun _ _ _ h => h) (Or.inl ⟨by rfl, ?_⟩) (by assumption) ?_
                            rotate_left
                            · intro w hSw; (try dsimp only at hSw); go_simp; try with_reducible rfl
                            try simp only [Act.put, List.setIfInBounds_toArray, List.set_cons_zero, List.set_cons_succ, List.getElem_toArray, List.getElem_cons_zero, List.getElem_cons_succ]
                            refine wpAnyH_take (i := 7) (v := ?_) rfl (by kernel_rfl) (by kernel_rfl) (by kernel_rfl) (fun _ _ _ h => h) (Or.inl ⟨by rfl, ?_⟩) (by assumption) ?_
                            rotate_left
                            · intro w hSw; (try dsimp only at hSw); go_simp; try with_reducible rfl
                            try simp only [Act.put, List.setIfInBounds_toArray, List.set_cons_zero, List.set_cons_succ, List.getElem_toArray, List.getElem_cons_zero, List.getElem_cons_succ]
                            refine wpAnyH_take (i := 8) (v := ?_) rfl (by kernel_rfl) (by kernel_rfl) (by kernel_rfl) (fun _ _ _ h => h) (Or.inl ⟨by rfl, ?_⟩) (by assumption) ?_
                            rotate_left
                            · intro w hSw; (try dsimp only at hSw); go_simp; try with_reducible rfl
                            try simp only [Act.put, List.setIfInBounds_toArray, List.set_cons_zero, List.set_cons_succ, List.getElem_toArray, List.getElem_cons_zero, List.getElem_cons_succ]
                            refine wpAnyH_take (i := 9) (v := ?_) rfl (by kernel_rfl) (by kernel_rfl) (by kernel_rfl) (fun _ _ _ h => h) (Or.inl ⟨by rfl, ?_⟩) (by assumption) ?_
                            rotate_left
                            · intro w hSw; (try dsimp only at hSw); go_simp; try with_reducible rfl
                            try simp only [Act.put, List.setIfInBounds_toArray, List.set_cons_zero, List.set_cons_succ, List.getElem_toArray, List.getElem_cons_zero, List.getElem_cons_succ]
                            refine wpAnyH_ready (rs := [10]) (by kernel_rfl) (by simp) ?_
                            refine AllReadyH.cons rfl (fun K hK => ?_) AllReadyH.nil
                            go_simp
                            refine hK.out _ _ ⟨t0, p0, p1⟩ (fun hHeld => ?_)
                            clear hK K
                            try simp only [Act.put, List.setIfInBounds_toArray, List.set_cons_zero, List.set_cons_succ, List.getElem_toArray, List.getElem_cons_zero, List.getElem_cons_succ]
                            refine wpAnyH_ready (rs := [11]) (by kernel_rfl) (by simp) ?_
                            refine AllReadyH.cons rfl (fun K hK => ?_) AllReadyH.nil
                            go_simp
                            refine (htx _ (by first | exact Keep.refl _ _ | exact Keep.drew _ _ | exact drewN_keep _ _ _)).mono ?_
                            rintro e w7 ⟨rfl, rfl⟩
                            refine hK.out _ _ ⟨t0, p0, p1⟩ (fun hHeld => ?_)
                            clear hK K
                            try simp only [Act.put, List.setIfInBounds_toArray, List.set_cons_zero, List.set_cons_succ, List.getElem_toArray, List.getElem_cons_zero, List.getElem_cons_succ]
                            refine wpAnyH_ready (rs := [12]) (by kernel_rfl) (by simp) ?_
                            refine AllReadyH.cons rfl (fun K hK => ?_) AllReadyH.nil
                            go_simp
                            refine (hsy _ (by first | exact Keep.refl _ _ | exact Keep.drew _ _ | exact drewN_keep _ _ _)).mono ?_
                            rintro e w8 ⟨rfl, h8, k8⟩
                            obtain ⟨_, _, h8', -⟩ := h8.ex
                            have q0 := (wkCells h8').t
                            have q1 := k8.cell p0 hdw
                            have q2 := k8.cell p1 hdw
                            clear h8'
                            refine hK.out _ _ ⟨q0, q1, q2⟩ (fun hHeld => ?_)
                            clear hK K
                            try simp only [Act.put, List.setIfInBounds_toArray, List.set_cons_zero, List.set_cons_succ, List.getElem_toArray, List.getElem_cons_zero, List.getElem_cons_succ]
                            refine wpAnyH_take (i := 13) (v := ?_) rfl (by kernel_rfl) (by kernel_rfl) (by kernel_rfl) (fun _ _ _ h => h) (Or.inl ⟨by rfl, ?_⟩) (by assumption) ?_
                            rotate_left
                            · intro w hSw; (try dsimp only at hSw); go_simp; try with_reducible rfl
                            try simp only [Act.put, List.setIfInBounds_toArray, List.set_cons_zero, List.set_cons_succ, List.getElem_toArray, List.getElem_cons_zero, List.getElem_cons_succ]
                            refine wpAnyH_done (by kernel_rfl) ?_ _
                            have Y := Lib.hid (And.intro h8 (J.out.2.1.drewNew.trans k8 (fun b q => .inl q)))
                            clear h8 k8 t0 t8 p0 p1 hHeld htx hsy
                            by_cases he3 : e3 = 0
                            · have g9 : (e3 != 0) = false := by simpa using he3
                              have hd9 : decide (e3 ≠ 0) = false := by simpa using he3
                              clear he3
                              go_wp2
                              go_ret2
                              rw [HR2.out, hd9]
                              exact ⟨rfl, Y.out⟩
                            · have g9 : (e3 != 0) = true := by simpa using he3
                              have hd9 : decide (e3 ≠ 0) = true := by simpa using he3
                              clear he3
                              go_wp2
                              go_ret2
                              rw [HR2.out, hd9]
                              exact ⟨rfl, Y.out⟩
                          | false =>
                            have hR := HW.out.1
                            rw [if_neg (fun q => by have := HW.out.2.1 q; cases this)] at hR
                            have HR2 := Lib.hid hR
                            obtain ⟨la8, lc8, h1, -⟩ := J.out.1.wk.ex
                            have cc := wkCells h1
                            have t7 := cc.c7
                            have t8 := cc.c8
                            rw [HV2.out] at t7 t8
                            simp only at t7 t8
                            have t13 := cc.c13
                            have t14 := cc.c14
                            have t15 := cc.c15
                            have t16 := cc.c16
                            have t17 := cc.c17
                            have t18 := cc.c18
                            have t19 := cc.c19
                            have f13 := free_blk h1 13
                            have f14 := free_blk h1 14
                            have f15 := free_blk h1 15
                            have f16 := free_blk h1 16
                            have f17 := free_blk h1 17
                            have f18 := free_blk h1 18
                            have f19 := free_blk h1 19
                            obtain ⟨p0, p1, -, -⟩ := plO_cells J.out.2.2.1
                            clear hR cc h1
                            go_upto_region 28 with (fail)
                            go_region
                            go_wp2
                            go_ret2
                            rw [HR2.out]
                            obtain ⟨q1, q2⟩ := J.out.1.wk.setF ⟨m, n, txB s, d1, d2, true, false⟩
                            simp only [sets] at q1 q2
                            rw [HV2.out] at q1
                            exact ⟨rfl, q1.aside (Keep.drew _ _), (J.out.2.1.trans q2 (fun b q => .inl q)).drewNew⟩
      · have hk' : (st.kind != 1) = true := by simpa using hk
        have hR : R = (true, 37, v1) := by
          rw [← HR.out, HV.out.1]
          exact wpart_1 (by rw [HM.out.2.1, HM.out.2.2]; exact hk)
        clear hk
        go_wp2
        go_ret2
        rw [hR]
        exact ⟨rfl, C.out.1.wk, C.out.2.1⟩
end Go.Proofs.YtoanccechefclaaGreatDoor
