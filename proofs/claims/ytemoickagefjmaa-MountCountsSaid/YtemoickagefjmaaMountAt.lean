/-
  A table of mounts in memory; its calls that hold no range.
-/
import Derived.Test.YtemoickagefjmaaMountPure
import Derived.Test.YtemoickagefjmaaHeaps
import Derived.Test.YtemoickagefjmaaFresh
import Derived.Test.YtemoickagefjmaaProg
import Derived.Deep.RegionHeld3
import Derived.StillTailTactics
import Derived.Outline
import Derived.Deep.DeepCutAuto
import Derived.Deep.CutRange
import Derived.Deep.CutBlock
namespace Go.Proofs.Ytemoickagefjmaa
open Go Go.RowKit
set_option linter.unusedSectionVars false
set_option linter.unusedSimpArgs false
set_option linter.unusedVariables false
set_option maxRecDepth 100000

theorem kMnt : KeyKind Try.prog 3 kInt := key_int Try.underlying3
theorem tMnt : Try.prog.underlying 96 = some (.map 3 95) := Try.underlying96

def mntV (x : MntV) : Value := .agg #[.int .i64 x.top, .int .i64 x.am, .int .i64 x.an]
theorem zMnt (w : World) : (zeroValue 95).run Try.prog w = .ok (mntV ⟨0, 0, 0⟩) w := by kernel_rfl

def liveV (L : List Mnt) : List (Int × Value) := L.map fun x => (x.1, mntV x.2)

section
variable {P : Program} {w : World} {ops : Array Oper} {rest : List Oper} {o : Oper} {a : Act} {Q : Exit → Act → World → Prop}
variable {κ : Type} [DecidableEq κ] {kt et t : TypeId} {kv : κ → Value} {b : Nat} {L : List (κ × Value)}
/-- A key with its value, in a map's literal. -/
theorem law_insert (hg : o.guard = none) (m x v : Operand) (t : TypeId) (hop : o.op = .insert t m x v) (K : KeyKind P kt kv) (ht : P.underlying t = some (.map kt et)) (hm : a.eval m = .map (some b))
    (hat : MapAt w b kv L) (k : κ) (hx : a.eval x = kv k) (hK : ∀ w1, MapAt w1 b kv (aset L k (a.eval v)) → Keep w w1 (fun x => x = b) → wpList P ops Q rest (a.put o.dst undef) w1) : wpList P ops Q (o :: rest) a w := by
  refine wpList_plain hg fun K' hK' => ?_
  obtain ⟨w1, hrun, h1, h2⟩ := update_run (P := P) K ht hat k (a.eval v)
  unfold Oper.wp
  simp [execOp, hop, hm, hx, hrun, Result.andThen]
  exact hK' _ _ (hK w1 h1 h2)
end

/-- A table at block tb. -/
structure TableAt (w : World) (tb : Nat) (S : Nat → Prop) (V : MountV) : Prop where
  ok : V.ok
  ex : ∃ mb, w.heap[tb]? = some (.cells #[.map (some mb), .int .i64 V.made, .int .i64 V.turns] 98 (0, 0)) ∧ MapAt w mb kInt (liveV V.live) ∧ S tb ∧ S mb ∧ tb ≠ mb
  lt : ∀ b, S b → b < w.heap.size

theorem TableAt.keep {w w' : World} {tb : Nat} {S U : Nat → Prop} {V : MountV} (h : TableAt w tb S V) (K : Keep w w' U) (hU : ∀ b, S b → ¬ U b) : TableAt w' tb S V := by
  obtain ⟨mb, h1, h2, h3, h4, h5⟩ := h.ex
  exact ⟨h.ok, ⟨mb, K.get h1 (hU _ h3), h2.keep K (hU _ h4), h3, h4, h5⟩, fun b q => Nat.lt_of_lt_of_le (h.lt b q) K.size⟩
theorem TableAt.aside {w w' : World} {tb : Nat} {S : Nat → Prop} {V : MountV} (h : TableAt w tb S V) (K : Keep w w' (fun _ => False)) : TableAt w' tb S V := h.keep K (fun _ _ q => q)

structure TurnM (w : World) (S : Nat → Prop) (w' : World) (S' : Nat → Prop) : Prop where
  keep : Keep w w' S
  new : ∀ b, S' b → S b ∨ w.heap.size ≤ b

set_option maxHeartbeats 1000000 in
theorem mnew_c (w : World) (r : Int) :
    Calls Try.prog 30 #[.int .i64 r] w fun e w' => ∃ tb S, e = .returned (.pointer (some ⟨tb, 0, none⟩)) ∧ TableAt w' tb S (MountV.new r) ∧ TurnM w (fun _ => False) w' S := by
  have hmm := @run_makeMap Try.prog
  go_enter Try.func30, Try.ntmps30
  go_wp2_with (
    refine law_insert rfl _ _ _ _ rfl kMnt tMnt rfl (MapAt.made (heap_alloc_eq w _)) 0 rfl ?_
    intro w1 hM hK
    have H := Lib.hid (And.intro hM hK)
    clear hM hK)
  go_ret
  have kt := Keep.alloc w1 (.cells #[.map (some w.heap.size), .int .i64 0, .int .i64 0] 98) (fun _ => False)
  have at_ := heap_alloc_eq w1 (.cells #[.map (some w.heap.size), .int .i64 0, .int .i64 0] 98)
  have hsz : w.heap.size + 1 ≤ w1.heap.size := by have := H.out.2.size; simpa using this
  have hsz2 := lt_of_blk at_
  have k1 : Keep w w1 (fun _ => False) := (Keep.alloc w (.map #[] 0) (fun _ => False)).trans H.out.2 (fun b q => .inr (by omega))
  refine ⟨w1.heap.size, fun b => b = w1.heap.size ∨ b = w.heap.size, rfl, ⟨MountV.new_ok r, ⟨w.heap.size, at_, H.out.1.keep kt (fun q => q), .inl rfl, .inr rfl, by omega⟩, fun b q => by rcases q with q | q <;> omega⟩, ⟨k1.trans kt (fun _ q => q.elim), fun b q => .inr (by rcases q with q | q <;> omega)⟩⟩

theorem mget {V : MountV} (m : Int) : (aget (liveV V.live) m).getD (mntV ⟨0, 0, 0⟩) = mntV ((aget V.live m).getD ⟨0, 0, 0⟩) ∧ (aget (liveV V.live) m).isSome = (aget V.live m).isSome := by
  unfold liveV
  rw [aget_mapM]
  cases aget V.live m <;> exact ⟨rfl, rfl⟩

theorem mlook {w : World} {mb : Nat} {V : MountV} (h : MapAt w mb kInt (liveV V.live)) (m : Int) (ok : Bool) :
    (Instr.lookup 96 (.map (some mb)) (.int .i64 m) ok).run Try.prog w = .ok (if ok then .tuple #[mntV ((aget V.live m).getD ⟨0, 0, 0⟩), .bool (aget V.live m).isSome] else mntV ((aget V.live m).getD ⟨0, 0, 0⟩)) w := by
  have l := lookup_run (P := Try.prog) kMnt tMnt zMnt h m ok
  rw [(mget m).1, (mget m).2] at l
  exact l

theorem mlookA {w : World} {mb : Nat} {V : MountV} (h : MapAt w mb kInt (liveV V.live)) {m : Int} {x : MntV} {ok : Bool} (hx : (aget V.live m).getD ⟨0, 0, 0⟩ = x) (hok : (aget V.live m).isSome = ok) :
    (Instr.lookup 96 (.map (some mb)) (.int .i64 m) true).run Try.prog w = .ok (.tuple #[.agg #[.int .i64 x.top, .int .i64 x.am, .int .i64 x.an], .bool ok]) w := by
  have l := mlook h m true
  rw [hx, hok] at l
  exact l

set_option maxHeartbeats 1000000 in
theorem mroot_c {w : World} {tb : Nat} {S : Nat → Prop} {V : MountV} (h : TableAt w tb S V) (m : Int) :
    Calls Try.prog 38 #[.pointer (some ⟨tb, 0, none⟩), .int .i64 m] w fun e w' => e = .returned (.tuple #[.int .i64 (V.root_ m).1, .bool (V.root_ m).2]) ∧ Keep w w' (fun _ => False) := by
  obtain ⟨mb, h1, h2, h3, h4, h5⟩ := h.ex
  have c0 : w.cell? ⟨tb, 0, none⟩ = some (.map (some mb)) := by rw [cell_blk h1]; rfl
  have l := mlook h2 m true
  unfold MountV.root_
  cases hg : aget V.live m with
  | none =>
    rw [hg] at l
    simp only [if_true, Option.getD_none, Option.isSome_none, mntV] at l
    clear h h1 h2 h3 h4 h5 hg
    go_enter Try.func38, Try.ntmps38
    go_wp2
    go_ret2
    exact ⟨rfl, Keep.alloc _ _ _⟩
  | some x =>
    rw [hg] at l
    simp only [if_true, Option.getD_some, Option.isSome_some, mntV] at l
    clear h h1 h2 h3 h4 h5 hg
    go_enter Try.func38, Try.ntmps38
    go_wp2
    go_ret2
    exact ⟨rfl, Keep.alloc _ _ _⟩

/-- Where Up's answer lies. -/
theorem mup_res {W : World} {b : Nat} {m n : Int} {ok : Bool} {T : Array Value} (z : W.heap[b]? = some (.cells #[.int .i64 m, .int .i64 n] 49 (0, 0))) (h4 : T.getD 4 undef = .pointer (some ⟨b, 0, none⟩)) (h5 : T.getD 5 undef = .bool ok) :
    (results Try.f34 T).run Try.prog W = .ok (.tuple #[.agg #[.int .i64 m, .int .i64 n], .bool ok]) W := by
  have y0 : W.cell? ⟨b, 0, none⟩ = some (.int .i64 m) := by rw [cell_blk z]; rfl
  have y1 : W.cell? ⟨b, 1, none⟩ = some (.int .i64 n) := by rw [cell_blk z]; rfl
  have h4' : T[4]?.getD undef = .pointer (some ⟨b, 0, none⟩) := by simpa using h4
  have h5' : T[5]?.getD undef = .bool ok := by simpa using h5
  simp [results, Try.results34, go_sem, h4', h5', y0, y1]

set_option maxHeartbeats 1000000 in
theorem mup_c {w : World} {tb : Nat} {S : Nat → Prop} {V : MountV} (h : TableAt w tb S V) (m n : Int) :
    Calls Try.prog 34 #[.pointer (some ⟨tb, 0, none⟩), .agg #[.int .i64 m, .int .i64 n]] w fun e w' => e = .returned (.tuple #[.agg #[.int .i64 (V.up m n).1, .int .i64 (V.up m n).2.1], .bool (V.up m n).2.2]) ∧ Keep w w' (fun _ => False) := by
  obtain ⟨mb, h1, h2, h3, h4, h5⟩ := h.ex
  have c0 : w.cell? ⟨tb, 0, none⟩ = some (.map (some mb)) := by rw [cell_blk h1]; rfl
  have htb := h.lt _ h3
  have hmb := h2.lt
  have H2 := Lib.hid h2
  clear h h1 h2 h3 h4 h5
  obtain ⟨x, hx⟩ : ∃ x, (aget V.live m).getD ⟨0, 0, 0⟩ = x := ⟨_, rfl⟩
  obtain ⟨ok, hok⟩ : ∃ ok, (aget V.live m).isSome = ok := ⟨_, rfl⟩
  have HX := Lib.hid (And.intro hx hok)
  clear hx hok
  go_enter Try.func34, Try.ntmps34
  go_upto_region 1 with (fail)
  obtain ⟨wB, hwB⟩ : ∃ wB, wB = (w.alloc (.cells #[.int .i64 m, .int .i64 n] 49)).alloc (.cells #[.int .i64 0, .int .i64 0] 49) := ⟨_, rfl⟩
  obtain ⟨kB, b1, b2, zB⟩ : Keep w wB (fun _ => False) ∧ wB.heap[w.heap.size]? = some (.cells #[.int .i64 m, .int .i64 n] 49 (0, 0)) ∧ wB.heap[w.heap.size + 1]? = some (.cells #[.int .i64 0, .int .i64 0] 49 (0, 0)) ∧ wB.heap.size = w.heap.size + 2 := by
    rw [hwB]
    exact boxes2 w _ _
  rw [← hwB]
  clear hwB
  replace c0 := kB.cell c0 (fun q => q)
  have d0 := cell_blk b1 0
  simp only [List.getElem?_toArray, List.getElem?_cons_zero, List.getElem?_cons_succ] at d0
  have HB := Lib.hid (And.intro kB (And.intro b1 b2))
  clear kB b1 b2
  go_cut [6, 7] (fun s6 s7 wx => ∃ nb, s6 = .pointer (some ⟨nb, 0, none⟩) ∧ s7 = .bool ok ∧ Keep wB wx (fun _ => False) ∧ wx.heap[nb]? = some (.cells #[.int .i64 x.top, .int .i64 x.am, .int .i64 x.an] 95 (0, 0)))
  case first =>
    have hM := H2.out.keep HB.out.1 (fun q => q)
    have l := mlookA hM HX.out.1 HX.out.2
    have n1 := World.new_ne wB _ c0
    have n2 := World.new_ne wB _ d0
    go_region_held3 (fun w' => (w'.cell? ⟨tb, 0, none⟩ = some (.map (some mb)) ∧ w'.cell? ⟨w.heap.size, 0, none⟩ = some (.int .i64 m)) ∧ MapAt w' mb kInt (liveV V.live) ∧ (Instr.lookup 96 (.map (some mb)) (.int .i64 m) true).run Try.prog w' = .ok (.tuple #[.agg #[.int .i64 x.top, .int .i64 x.am, .int .i64 x.an], .bool ok]) w')
      ((go_split_ands; refine ⟨⟨?_, ?_⟩, ?_, ?_⟩ <;> first
         | (refine MapAt.keep hM (S := fun _ => False) ?_ (fun q => q); repeat (first | exact Keep.refl _ _ | refine Keep.drewNew ?_ | refine Keep.allocNew ?_ _))
         | (refine mlookA (MapAt.keep hM (S := fun _ => False) ?_ (fun q => q)) HX.out.1 HX.out.2; repeat (first | exact Keep.refl _ _ | refine Keep.drewNew ?_ | refine Keep.allocNew ?_ _))
         | go_keep)) (fail)
    all_goals go_wp2
    all_goals go_meet
    all_goals
      refine ⟨_, rfl, rfl, ?_, ?_⟩
      · repeat (first | exact Keep.refl _ _ | refine Keep.drewNew ?_ | refine Keep.allocNew ?_ _)
      · rw [← zB]; exact heap_alloc_eq wB _
  case rest =>
    obtain ⟨nb, rfl, rfl, k1, b3⟩ := hcut
    have kC := HB.out.1.aside k1
    have e1 := k1.get HB.out.2.1 (fun q => q)
    have e2 := k1.get HB.out.2.2 (fun q => q)
    have q0 := cell_blk e1 0
    have q1 := cell_blk e1 1
    have r0 := cell_blk e2 0
    have r1 := cell_blk e2 1
    have t0 := cell_blk b3 0
    have t1 := cell_blk b3 1
    have t2 := cell_blk b3 2
    simp only [List.getElem?_toArray, List.getElem?_cons_zero, List.getElem?_cons_succ] at q0 q1 r0 r1 t0 t1 t2
    have f0 := free_blk e2 0
    have f1 := free_blk e2 1
    have HC := Lib.hid (And.intro kC e2)
    clear k1 e1 e2 b3 kC c0 d0
    have fin : ∀ (a b : Int) (ok' : Bool), Hid (MountV.up V m n = (a, b, ok')) → ∀ (T : Array Value), T.getD 4 undef = .pointer (some ⟨w.heap.size + 1, 0, none⟩) → T.getD 5 undef = .bool ok' →
        bodyPost Try.prog Try.f34 (fun e w' => e = .returned (.tuple #[.agg #[.int .i64 (V.up m n).1, .int .i64 (V.up m n).2.1], .bool (V.up m n).2.2]) ∧ Keep w w' (fun _ => False)) Exit.ret ⟨T, []⟩ ((wc.setCell ⟨w.heap.size + 1, 0, none⟩ (.int .i64 a)).setCell ⟨w.heap.size + 1, 1, none⟩ (.int .i64 b)) := by
      intro a b ok' hu T h4 h5
      have s1 := heap_setCell_eq (off := 0) (Value.int .i64 a) HC.out.2
      have s2 := heap_setCell_eq (off := 1) (Value.int .i64 b) s1
      refine bodyPost_ret (mup_res (by simpa using s2) h4 h5) rfl ⟨by rw [hu.out], ?_⟩
      exact (HC.out.1.setNew _ _ (by simp)).setNew _ _ (by simp)
    have HF := Lib.hid fin
    clear fin
    have HX' := HX.out
    cases ok with
    | false =>
      have hu : MountV.up V m n = (m, n, false) := by
        unfold MountV.up
        rw [show aget V.live m = none by have := HX.out.2; simpa using this]
      have HU := Lib.hid hu
      clear hu HX'
      go_wp2
      exact HF.out m n false HU _ rfl rfl
    | true =>
      have hg : aget V.live m = some x := by
        obtain ⟨h6, h7⟩ := HX.out
        cases hh : aget V.live m with
        | none => rw [hh] at h7; simp at h7
        | some y => rw [hh] at h6; simp at h6; rw [h6]
      by_cases hm0 : m = 0
      · have hu : MountV.up V m n = (m, n, false) := by
          unfold MountV.up
          rw [hg]
          simp only [hm0, true_or, if_true]
        have HU := Lib.hid hu
        clear hu HX' hg
        have g1 : (m == 0) = true := by simpa using hm0
        clear hm0
        go_wp2
        exact HF.out m n false HU _ rfl rfl
      · have g1 : (m == 0) = false := by simpa using hm0
        by_cases hn0 : x.top = n
        · have hu : MountV.up V m n = (x.am, x.an, true) := by
            unfold MountV.up
            rw [hg]
            simp only [hm0, hn0, ne_eq, not_true_eq_false, or_false, if_false]
          have HU := Lib.hid hu
          have g2 : (x.top != n) = false := by simpa using hn0
          clear hu HX' hg hm0 hn0
          go_wp2
          exact HF.out x.am x.an true HU _ rfl rfl
        · have hu : MountV.up V m n = (m, n, false) := by
            unfold MountV.up
            rw [hg]
            simp only [hn0, ne_eq, not_false_eq_true, or_true, if_true]
          have HU := Lib.hid hu
          have g2 : (x.top != n) = true := by simpa using hn0
          clear hu HX' hg hm0 hn0
          go_wp2
          exact HF.out m n false HU _ rfl rfl

end Go.Proofs.Ytemoickagefjmaa
