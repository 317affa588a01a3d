/-
  A call is told (call.Text).
-/
import Derived.Test.YtdbkkfhneafeiaaDoorLine
import Derived.Test.YtdbkkfhneafeiaaDoorORight
import Derived.Test.YtdbkkfhneafeiaaDoorBSr
import Derived.Test.YtdbkkfhneafeiaaDoorWithin
import Derived.Deep.CutRange
namespace Go.Proofs.YtdbkkfhneafeiaaDoor
open Go Go.RowKit Go.Shelf
set_option linter.unusedSectionVars false
set_option linter.unusedSimpArgs false
set_option linter.unusedVariables false
set_option maxRecDepth 100000
attribute [local go_sem] Oper.semAt_some

/-- The same; both values are loop variables. -/
theorem wp_range2b {α : Type} {P : Program} {g : Operand} {p q i j : Tmp} {assign body : Code} {Q : Exit → Act → World → Prop} {a : Act} {w : World}
    {gf : Nat} {lb : Array Value} (hg : a.eval g = .func (.func gf) #[] lb) (eg : ∀ args w, (callFunc gf args).run P w = .ok (.enter gf args) w)
    {e1 e2 : α → Value} {q0 : Nat} {S Sp : List α → Prop} {N : Nat} (hseq : SeqStopsK Fence.wide 8 P gf lb (fun x => #[e1 x, e2 x]) (Kq q0) S Sp N w) (hq0 : q0 < w.heap.size)
    (I : List α → World → Prop) (Ix : Code → List α → World → Prop) (hI : OwnFrom w.heap.size I) (hIx : ∀ c, OwnFrom w.heap.size (Ix c)) (h0 : I [] w)
    (hassign : ∀ (l : Nat) (x : α) (W : World) (K : Act → World → Prop), K { tmps := (((a.tmps.setIfInBounds p (e1 x)).setIfInBounds q (e2 x)).setIfInBounds i (e1 x)).setIfInBounds j (e2 x), defers := [] } W →
      assign.wpIn (Fence.wide.inRound l) 7 P (Exit.then K (fun _ _ _ => False)) { tmps := (a.tmps.setIfInBounds p (e1 x)).setIfInBounds q (e2 x), defers := [] } W)
    (hbody : ∀ (l : Nat) (pre : List α) (x : α) (W : World), I pre W → pre.length < N → body.wpIn (Fence.wide.inRound l) 7 P (ownPostG w.heap.size (Kq q0) I Ix (pre ++ [x]) W) { tmps := (((a.tmps.setIfInBounds p (e1 x)).setIfInBounds q (e2 x)).setIfInBounds i (e1 x)).setIfInBounds j (e2 x), defers := [] } W)
    (hdone : ∀ (D : Nat) (xs : List α) (W : World), w.heap.size ≤ D → S xs → I xs W → W.heap[D]? = some (.deferred (some [])) → Q .normal { a with defers := { target := .collected D, args := #[] } :: a.defers } W)
    (hstop : ∀ (D : Nat) (c : Code) (pre : List α) (W : World), w.heap.size ≤ D → Sp pre → Ix c pre W → W.heap[D]? = some (.deferred (some [])) → c.wp P Q { a with defers := { target := .collected D, args := #[] } :: a.defers } W) :
    (Code.rangeFunc g #[p, q] assign body).wp P Q a w :=
  (wpIn_wide (n := 9)).1 (wpIn_rangeFunc_ownG (F := Fence.wide) rfl (by omega) hg trivial eg hseq Kq.trans (Kq.back hq0) (Below.refl _ _) (fun _ => rfl) I Ix hI hIx h0 (fun x => { tmps := (((a.tmps.setIfInBounds p (e1 x)).setIfInBounds q (e2 x)).setIfInBounds i (e1 x)).setIfInBounds j (e2 x), defers := [] })
    (fun l x W K hK => by have h := hassign l x W K hK; simpa using h) hbody hdone (fun D c pre W h1 h2 h3 h4 => wpIn_wide.2 (hstop D c pre W h1 h2 h3 h4)))


def namesL : Bs := [110, 111, 110, 101, 32, 109, 107, 100, 105, 114, 32, 114, 109, 100, 105, 114, 32, 111, 112, 101, 110, 32, 99, 108, 111, 115, 101, 32, 114, 101, 97, 100, 32, 119, 114, 105, 116, 101, 32, 115, 101, 101, 107, 32, 116, 114, 117, 110, 99, 97, 116, 101, 32, 108, 105, 110, 107, 32, 117, 110, 108, 105, 110, 107, 32, 115, 121, 109, 108, 105, 110, 107, 32, 114, 101, 97, 100, 108, 105, 110, 107, 32, 114, 101, 110, 97, 109, 101, 32, 105, 110, 102, 111, 32, 99, 104, 109, 111, 100, 32, 99, 104, 111, 119, 110, 32, 99, 104, 100, 105, 114, 32, 108, 105, 115, 116, 32, 98, 105, 110, 100, 32, 117, 110, 98, 105, 110, 100]

def opsL : List Bs := Lib.fields namesL

theorem opsL_len : opsL.length = 21 := by decide +kernel
theorem opsL_small : ∀ i : Fin 21, (opsL.getD i.val []).length ≤ 100 := by decide +kernel

def opI (op : Int) : Nat := if 1 ≤ op ∧ op ≤ 20 then op.toNat else 0
theorem opI_lt (op : Int) : opI op < 21 := by unfold opI; split <;> omega
def opName (op : Int) : Bs := opsL.getD (opI op) []
theorem opName_len (op : Int) : (opName op).length ≤ 100 := opsL_small ⟨opI op, opI_lt op⟩

theorem fields_c (W : World) (ht : Tabs W) : ∃ cs : Array Value, (∀ s : ByteArray, s.data.toList = namesL → Calls Tryd.prog 33 #[.string s] W fun e w' => e = .returned (.slice (some ⟨W.heap.size, 0, none⟩) 21 21) ∧ w' = W.alloc (.cells cs 9)) ∧ ∀ i, i < 21 → cs[i]? = some (stV (opsL.getD i [])) := by
  refine ⟨(opsL.map fun l => Value.string ⟨l.toArray⟩).toArray, fun s hs => ?_, fun i hi => ?_⟩
  · have hz : s.size = namesL.length := by rw [← hs]; rfl
    have h := Tryd.strings_Fields s W (by rw [hz]; decide +kernel) (by rw [hs]; intro j b hj; exact (show ∀ b ∈ namesL, b.toNat < 128 by decide +kernel) b (List.mem_of_getElem? hj)) ht.ascii
    rw [hs, show Lib.fields namesL = opsL from rfl, opsL_len] at h
    exact h
  · rw [List.getElem?_toArray, List.getElem?_map, List.getD_eq_getElem?_getD, List.getElem?_eq_getElem (by rw [opsL_len]; exact hi)]
    rfl

def nameB : Nat → Bs
  | 0 => [102, 100, 61]
  | 1 => [102, 108, 97, 103, 115, 61]
  | 2 => [109, 111, 100, 101, 61]
  | 3 => [110, 61]
  | _ => [109, 61]

theorem nameOf_eq (x : Fin 5) : nameOf x.val = stV (nameB x.val) := by
  obtain ⟨x, hx⟩ := x
  rcases (show x = 0 ∨ x = 1 ∨ x = 2 ∨ x = 3 ∨ x = 4 by omega) with rfl | rfl | rfl | rfl | rfl <;> rfl

theorem nameB_len (x : Fin 5) : (nameB x.val).length ≤ 1000 := (show ∀ x : Fin 5, (nameB x.val).length ≤ 1000 by decide +kernel) x

/-- The words of a call's numbers. -/
def numsL (c : CallV) (L : List Bs) (pre : List (Fin 5)) : List Bs := pre.foldl (fun L x => lineNum L (nameB x.val) (c.num x.val) (Lib.itoa (c.num x.val))) L

theorem numsL_snoc (c : CallV) (L : List Bs) (pre : List (Fin 5)) (x : Fin 5) : numsL c L (pre ++ [x]) = lineNum (numsL c L pre) (nameB x.val) (c.num x.val) (Lib.itoa (c.num x.val)) := by
  unfold numsL
  rw [List.foldl_append]
  rfl

/-- A call's words. -/
def headL (c : CallV) : List Bs := lineText (lineText [opName c.op] [] (bsOf c.path)) [] (bsOf c.to)
def wordsL (c : CallV) : List Bs := lineText (numsL c (headL c) five) [100, 97, 116, 97, 61] c.data
def textP (c : CallV) : Bs := Lib.join (wordsL c) [32]

theorem lineText_len (L : List Bs) (name s : Bs) : (lineText L name s).length ≤ L.length + 1 := by unfold lineText; split <;> simp
theorem lineNum_len (L : List Bs) (name : Bs) (z : Int) (t : Bs) : (lineNum L name z t).length ≤ L.length + 1 := by unfold lineNum; split <;> simp
theorem numsL_len (c : CallV) (L : List Bs) (pre : List (Fin 5)) : (numsL c L pre).length ≤ L.length + pre.length := by
  induction pre generalizing L with
  | nil => simp [numsL]
  | cons x r ih =>
    have h := ih (lineNum L (nameB x.val) (c.num x.val) (Lib.itoa (c.num x.val)))
    have h2 := lineNum_len L (nameB x.val) (c.num x.val) (Lib.itoa (c.num x.val))
    unfold numsL at *
    rw [List.foldl_cons, List.length_cons]
    omega

def sumL (L : List Bs) : Nat := (L.map List.length).sum

theorem lineText_sum (L : List Bs) (name s : Bs) : sumL (lineText L name s) ≤ sumL L + (name.length + 3 * s.length) := by
  unfold lineText sumL
  have := shownP_len s
  split <;> simp
  omega
theorem lineNum_sum (L : List Bs) (name : Bs) (z : Int) (t : Bs) : sumL (lineNum L name z t) ≤ sumL L + (name.length + t.length) := by
  unfold lineNum sumL
  split <;> simp

theorem numsL_sum (c : CallV) (L : List Bs) (pre : List (Fin 5)) (hz : ∀ x ∈ pre, -9223372036854775808 ≤ c.num x.val ∧ c.num x.val ≤ 9223372036854775807) : sumL (numsL c L pre) ≤ sumL L + 1100 * pre.length := by
  induction pre generalizing L with
  | nil => simp [numsL]
  | cons x r ih =>
    have h := ih (lineNum L (nameB x.val) (c.num x.val) (Lib.itoa (c.num x.val))) (fun y hy => hz y (List.mem_cons_of_mem _ hy))
    have h2 := lineNum_sum L (nameB x.val) (c.num x.val) (Lib.itoa (c.num x.val))
    have h3 := nameB_len x
    have h4 := itoa_len (c.num x.val) (hz x (List.mem_cons_self ..)).1 (hz x (List.mem_cons_self ..)).2
    unfold numsL at *
    rw [List.foldl_cons, List.length_cons]
    omega

theorem join_small {L : List Bs} {sep : Bs} (hs : sep.length = 1) : (Lib.join L sep).length ≤ sumL L + L.length := by
  cases L with
  | nil => simp [Lib.join_nil]
  | cons x r =>
    rw [Lib.join_length, hs]
    have h : Lib.lens (x :: r) = sumL (x :: r) := rfl
    rw [h]
    simp
    omega

theorem join_c {v : Value} {L : List Bs} {sep : Bs} {w : World} (h : w.ownsRow 0 9 1 v L.length (L.map stV)) (hn : L.length ≤ 1000000000) (hl : (Lib.join L sep).length ≤ 100000000000) :
    Calls Tryd.prog 36 #[v, .string (strB sep)] w fun e w' => e = .returned (.string (strB (Lib.join L sep))) ∧ Keep w w' (fun _ => False) := by
  have txs : (L.map strB).map (·.data.toList) = L := by
    rw [List.map_map]
    exact List.map_id'' (fun _ => rfl) L
  rcases rows_val h with ⟨rfl, e2⟩ | ⟨g, cp, rfl, h3, _, h4⟩
  · have e3 : L = [] := List.length_eq_zero_iff.1 e2
    subst e3
    refine (Tryd.strings_Join_none none 0 (strB sep) w).mono ?_
    rintro e w' ⟨rfl, rfl⟩
    exact ⟨rfl, Keep.refl _ _⟩
  · have hc : ∀ (j : Nat) x, (L.map strB)[j]? = some x → w.cell? ⟨g, 0 + j, none⟩ = some (.string x) := fun j x hx => by
      rw [List.getElem?_map, Option.map_eq_some_iff] at hx
      obtain ⟨y, hy, rfl⟩ := hx
      rw [Nat.zero_add]
      exact (rows_cell h (mapGet (f := stV) hy)).1
    have hj := Tryd.strings_Join g 0 cp (L.map strB) (strB sep) w hc h4 (by rw [List.length_map]; omega) (by rw [List.length_map]; exact h3) (by rw [txs]; exact Nat.le_trans hl (by omega))
    rw [txs, List.length_map] at hj
    refine hj.mono ?_
    rintro e w' ⟨rfl, hb⟩
    have k := Keep.of_below hb
    exact ⟨rfl, ⟨k.size, fun b h1 _ => k.block b h1 (by omega), k.os, k.tape, k.output⟩⟩

theorem line_new {w U : World} (l : Bs) (k : Keep w U (fun _ => False)) : LineAt w (U.heap.size + 1) (.slice (some ⟨U.heap.size, 0, none⟩) 1 1) [l] ((U.alloc (.cells #[stV l] 9)).alloc (.cells #[.slice (some ⟨U.heap.size, 0, none⟩) 1 1] 73)) := by
  have k1 := Keep.alloc U (.cells #[stV l] 9) (fun _ => False)
  have a1 := heap_alloc_eq U (.cells #[stV l] 9)
  have z1 : (U.alloc (.cells #[stV l] 9)).heap.size = U.heap.size + 1 := by simp
  generalize U.alloc (.cells #[stV l] 9) = U1 at *
  have k2 := Keep.alloc U1 (.cells #[.slice (some ⟨U.heap.size, 0, none⟩) 1 1] 73) (fun _ => False)
  have a2 := heap_alloc_eq U1 (.cells #[.slice (some ⟨U.heap.size, 0, none⟩) 1 1] 73)
  rw [z1] at a2
  have hs := k.size
  refine ⟨(k.trans k1 (fun _ q => q.elim)).trans k2 (fun _ q => q.elim), by omega, a2, ?_, fun c q => ?_⟩
  · exact ⟨by simp, .inr ⟨U.heap.size, 1, #[stV l], rfl, Nat.zero_le _, k2.get a1 (fun q => q), Nat.le_refl _, by unfold maxLen; omega, by simp, by simp⟩⟩
  · have q' : some U.heap.size = some c := q
    cases q'
    exact ⟨by omega, hs⟩

theorem LineAt.own_cells {w U : World} {b : Nat} {v : Value} {L : List Bs} (h : LineAt w b v L U) {x : Nat} (q : v.ownBlock = some x) : ∃ c t f, U.heap[x]? = some (.cells c t f) := by
  rcases h.row.2 with ⟨e, _⟩ | ⟨g, cp, cur, e, _, hb, _⟩
  · rw [e] at q; simp [Value.ownBlock] at q
  · rw [e] at q
    simp only [Value.ownBlock, Option.some.injEq] at q
    subst q
    exact ⟨_, _, _, hb⟩

theorem LineAt.far {w W W' : World} {b : Nat} {v : Value} {L : List Bs} (h : LineAt w b v L W) (k : Keep W W' (fun x => w.heap.size ≤ x ∧ ∃ o, W.heap[x]? = some o ∧ o.isCells = false)) : LineAt w b v L W' :=
  ⟨h.keep.trans k (fun x q => .inr q.1), h.old, k.get h.cell (fun q => not_cells h.cell q.2), rows_keep h.row k (fun x q z => by
    obtain ⟨_, _, _, e⟩ := h.own_cells q
    obtain ⟨_, o, ho, hc⟩ := z
    rw [e] at ho
    cases ho
    simp [Obj.isCells] at hc), h.new⟩

set_option maxHeartbeats 4000000 in
theorem text_c (c : CallV) (a : Option Addr) (cap : Nat) (w : World) (ht : Tabs w) (hd : BSr w (.slice a c.data.length cap) c.data) (hz : ∀ x : Fin 5, -9223372036854775808 ≤ c.num x.val ∧ c.num x.val ≤ 9223372036854775807)
    (hl : c.path.size ≤ 100000000 ∧ c.to.size ≤ 100000000 ∧ c.data.length ≤ 100000000) :
    Calls Tryd.prog 17 #[callA c (.slice a c.data.length cap)] w fun r w' => r = .returned (.string (strB (textP c))) ∧ Keep w w' (fun _ => False) := by
  obtain ⟨hl1, hl2, hl3⟩ := hl
  obtain ⟨W1, hW1⟩ : ∃ W1, W1 = w.alloc (.cells (callC c (.slice a c.data.length cap)).toArray 24) := ⟨_, rfl⟩
  have k1 := Keep.alloc w (.cells (callC c (.slice a c.data.length cap)).toArray 24) (fun _ => False)
  have b1 := heap_alloc_eq w (.cells (callC c (.slice a c.data.length cap)).toArray 24)
  have z1 : (w.alloc (.cells (callC c (.slice a c.data.length cap)).toArray 24)).heap.size = w.heap.size + 1 := by simp
  rw [← hW1] at k1 b1 z1
  have ht1 := ht.keep k1
  have hd1 := hd.aside k1
  have c0 := cell_blk b1 0
  unfold callC at c0
  simp only [List.getElem?_toArray, List.getElem?_cons_zero, List.getElem?_cons_succ] at c0
  obtain ⟨cs, hcf, hcs⟩ := fields_c W1 ht1
  have ccs := hcs (opI c.op) (opI_lt _)
  obtain ⟨O, hO⟩ : ∃ O, O = opName c.op := ⟨_, rfl⟩
  have ccs2 : (W1.alloc (.cells cs 9)).cell? ⟨W1.heap.size, opI c.op, none⟩ = some (stV O) := by rw [cell_blk (heap_alloc_eq W1 _), hO]; exact ccs
  have HOO := Lib.hid hO
  clear hcs ccs hO
  have D := Lib.hid (And.intro k1 (And.intro b1 (And.intro z1 (And.intro ht1 hd1))))
  have HZ := Lib.hid hz
  have hop := opI_lt c.op
  obtain ⟨oi, hoi⟩ : ∃ oi, oi = opI c.op := ⟨_, rfl⟩
  rw [← hoi] at hop ccs2
  have ho1 : (oi : Int) < 21 := by omega
  have HO := Lib.hid hoi
  clear k1 b1 z1 ht1 hd1 ht hd hz hoi
  unfold callA
  refine calls_marks Tryd.func17 rfl ?_
  simp only [Tryd.ntmps17, List.size_toArray, List.length_cons, List.length_nil, Nat.reduceAdd, Nat.reduceSub, Array.replicate_succ, Array.replicate_zero, List.push_toArray, List.append_toArray, List.nil_append, List.cons_append]
  go_upto_region 1 with (fail)
  simp only [callC] at hW1
  rw [← hW1]
  clear hW1
  obtain ⟨op, hopc⟩ : ∃ op, op = c.op := ⟨_, rfl⟩
  rw [← hopc] at c0
  have HOP := Lib.hid hopc
  clear hopc
  go_upto_region 2 with (fail)
  go_cut [14] from 7 (fun s wc => s = .bool (decide (1 ≤ op ∧ op ≤ 20)) ∧ W1 = wc)
  case first =>
    by_cases h1 : (1 : Int) ≤ op
    · by_cases h2 : op ≤ 20
      · go_wp2
        go_meet
        case rel => exact ⟨congrArg Value.bool (decide_eq_true (p := 1 ≤ op ∧ op ≤ 20) (by omega)).symm, rfl⟩
      · go_wp2
        go_meet
        case rel => exact ⟨congrArg Value.bool (decide_eq_false (p := 1 ≤ op ∧ op ≤ 20) (by omega)).symm, rfl⟩
    · go_wp2
      go_meet
      case rel => exact ⟨congrArg Value.bool (decide_eq_false (p := 1 ≤ op ∧ op ≤ 20) (by omega)).symm, rfl⟩
  case rest =>
    obtain ⟨rfl, rfl⟩ := hcut
    go_upto_if 14 with (fail)
    go_cut [3] from 7 (fun s wc => s = .int .i64 oi ∧ W1 = wc)
    case first =>
      by_cases h1 : 1 ≤ op ∧ op ≤ 20
      · have e1 : decide (1 ≤ op ∧ op ≤ 20) = true := decide_eq_true h1
        have HH := Lib.hid h1
        clear h1
        go_wp2
        go_meet
        case rel => exact ⟨by rw [HO.out, opI, ← HOP.out, if_pos HH.out]; congr 1; have := HH.out; omega, rfl⟩
      · have e1 : decide (1 ≤ op ∧ op ≤ 20) = false := decide_eq_false h1
        have HH := Lib.hid h1
        clear h1
        go_wp2
        go_meet
        case rel => exact ⟨by rw [HO.out, opI, ← HOP.out, if_neg HH.out]; rfl, rfl⟩
    case rest =>
      obtain ⟨rfl, rfl⟩ := hcut
      go_upto_region 5 with (
        go_at_call 33
        with_reducible refine (hcf _ ?hs).mono ?_
        case hs => rfl
        rintro e w2 ⟨rfl, rfl⟩)
      obtain ⟨b, hb⟩ : ∃ b, b = W1.heap.size + 1 + 1 := ⟨_, rfl⟩
      obtain ⟨W4, hW4⟩ : ∃ W4, W4 = (((W1.alloc (.cells cs 9)).alloc (.cells #[stV O] 9)).alloc (.cells #[.slice (some ⟨W1.heap.size + 1, 0, none⟩) 1 1] 73)) := ⟨_, rfl⟩
      have hL0 : ∃ v0, LineAt W1 b v0 [O] W4 := by
        have z2 : (W1.alloc (.cells cs 9)).heap.size = W1.heap.size + 1 := by simp
        have h := line_new (w := W1) (U := W1.alloc (.cells cs 9)) O (Keep.alloc _ _ _)
        rw [z2, ← hb, ← hW4] at h
        exact ⟨_, h⟩
      rw [← hW4, ← hb]
      obtain ⟨v0, hL0⟩ := hL0
      have E0 := Lib.hid hL0
      have hbx : w.heap.size < b := by have := D.out.2.2.1; omega
      clear hW4 hL0 hcf ccs2 ho1 hb
      have box : ∀ (v : Value) (L : List Bs) (U : World), LineAt W1 b v L U → U.heap[w.heap.size]? = some (.cells (callC c (.slice a c.data.length cap)).toArray 24 (0, 0)) := fun v L U h => h.keep.get D.out.2.1 (fun q => q)
      have BOX := Lib.hid box
      clear box
      have t1 : ∀ (v : Value) (U : World), LineAt W1 b v [O] U → Calls Tryd.prog 34 #[.pointer (some ⟨b, 0, none⟩), .string ⟨#[]⟩, .string c.path] U fun r w' => (∃ u, r = .returned u) ∧ ∃ v', LineAt W1 b v' (lineText [O] [] (bsOf c.path)) w' := fun v U h =>
        (ltext_c [] (bsOf c.path) h (by simp) (by rw [bsOf_len]; omega) (by simp)).mono fun _ _ q => ⟨q.1, q.2.1.choose, q.2.1.choose_spec.1⟩
      have t2 : ∀ (v : Value) (U : World), LineAt W1 b v (lineText [O] [] (bsOf c.path)) U → Calls Tryd.prog 34 #[.pointer (some ⟨b, 0, none⟩), .string ⟨#[]⟩, .string c.to] U fun r w' => (∃ u, r = .returned u) ∧ ∃ v', LineAt W1 b v' (headL c) w' := fun v U h =>
        (ltext_c [] (bsOf c.to) h (by have := lineText_len [O] [] (bsOf c.path); simp at this; omega) (by rw [bsOf_len]; omega) (by simp)).mono fun _ _ q => ⟨q.1, q.2.1.choose, by have := q.2.1.choose_spec.1; unfold headL; rw [← HOO.out]; exact this⟩
      have d1 := cell_blk (BOX.out _ _ _ E0.out) 1
      unfold callC at d1
      simp only [List.getElem?_toArray, List.getElem?_cons_zero, List.getElem?_cons_succ] at d1
      go_wp2_with (first
        | (go_at_call 34
           with_reducible refine (t1 _ _ E0.out).mono ?_
           rintro e w5 ⟨⟨u5, rfl⟩, v5, hL5⟩
           have E5 := Lib.hid hL5
           have d2 := cell_blk (BOX.out _ _ _ E5.out) 2
           unfold callC at d2
           simp only [List.getElem?_toArray, List.getElem?_cons_zero, List.getElem?_cons_succ] at d2
           clear hL5)
        | (go_at_call 34
           with_reducible refine (t2 _ _ E5.out).mono ?_
           rintro e w6 ⟨⟨u6, rfl⟩, v6, hL6⟩
           have E6 := Lib.hid hL6
           clear hL6)
        | (go_at_call 28
           refine (numbers_c _ _).mono ?_
           rintro e w11 ⟨rfl, rfl⟩))
      obtain ⟨q, hq⟩ : ∃ q, q = w6.heap.size := ⟨_, rfl⟩
      obtain ⟨wL, hwL⟩ : ∃ wL, wL = w6.alloc (.cells #[.pointer (some ⟨w.heap.size, 0, none⟩)] 63) := ⟨_, rfl⟩
      have EL := Lib.hid (show LineAt W1 b v6 (headL c) wL from by rw [hwL]; exact E6.out.aside (Keep.alloc _ _ _))
      have HQ := Lib.hid (show wL.heap[q]? = some (.cells #[.pointer (some ⟨w.heap.size, 0, none⟩)] 63 (0, 0)) from by rw [hwL, hq]; exact heap_alloc_eq _ _)
      have hzL : wL.heap.size = q + 1 := by rw [hwL, hq]; simp
      have hbq : b < q := by rw [hq]; exact lt_of_blk E6.out.cell
      have hoq : ∀ x, v6.ownBlock = some x → x ≠ q := fun x z => by
        obtain ⟨_, _, _, e⟩ := E6.out.own_cells z
        have := lt_of_blk e
        omega
      have hhl : (headL c).length ≤ 3 := by
        have h1 := lineText_len [opName c.op] [] (bsOf c.path)
        have h2 := lineText_len (lineText [opName c.op] [] (bsOf c.path)) [] (bsOf c.to)
        unfold headL
        simp at h1
        omega
      rw [← hwL, ← hq]
      clear hwL hq E0 E5 E6 d1 d2 t1 t2
      refine wp_range2b (α := Fin 5) (e1 := fun x => nameOf x.val) (e2 := fun x => Value.pointer (some ⟨w.heap.size, x.val + 3, none⟩)) (i := 5) (j := 6) (gf := 44) (lb := #[.pointer (some ⟨q, 0, none⟩)]) rfl (enters_of Tryd.func44 (by kernel_rfl) rfl)
        (nums_stops 8 (by omega) q w.heap.size wL HQ.out) (by omega)
        (fun pre W => (∃ v, LineAt W1 b v (numsL c (headL c) pre) W ∧ ∀ x, v.ownBlock = some x → x ≠ q) ∧ W.heap[q]? = some (.cells #[.pointer (some ⟨w.heap.size, 0, none⟩)] 63 (0, 0)) ∧ pre.length ≤ 5)
        (fun cd pre W => False)
        (own_of fun s W W' h k => by
          obtain ⟨⟨v, h1, h1'⟩, h2, h3⟩ := h
          exact ⟨⟨v, h1.far (k.mono fun x z => ⟨by have := D.out.2.2.1; omega, z.2⟩), h1'⟩, k.get h2 (fun z => not_cells h2 z.2), h3⟩)
        (fun cd => own_of fun s W W' h k => h)
        ⟨⟨v6, EL.out, hoq⟩, HQ.out, by simp⟩ ?assign ?body ?done ?stop
      case assign =>
        intro l x W K hK
        gi_wp2
        exact hK
      case body =>
        rintro l pre y W ⟨⟨v, hW, hoW⟩, hq, hp5⟩ hlt
        have hn1 : 1 ≤ 7 := by omega
        simp only [List.setIfInBounds_toArray, List.set_cons_succ, List.set_cons_zero]
        have c0 : W.cell? ⟨w.heap.size, y.val + 3, none⟩ = some (.int .i64 (c.num y.val)) := by rw [cell_blk (BOX.out _ _ _ hW)]; exact num_at _ _ y
        have htW := D.out.2.2.2.1.keep hW.keep
        have hcall := lnum_c (nameB y.val) (c.num y.val) hW (by have := numsL_len c (headL c) pre; omega) (HZ.out y).1 (HZ.out y).2 htW (nameB_len y)
        rw [← nameOf_eq] at hcall
        obtain ⟨z, hz⟩ : ∃ z, z = c.num y.val := ⟨_, rfl⟩
        rw [← hz] at c0 hcall
        have DW := Lib.hid (And.intro hW (And.intro hoW (And.intro hq hz)))
        clear hW hoW hq hz htW
        gi_wp2_with (
          refine ⟨trivial, ?_⟩
          gi_at_call 35
          with_reducible refine (CallsIn.inRound l (callsIn_wide.2 hcall)).mono ?_
          rintro e W2 ⟨⟨u2, rfl⟩, ⟨v2, h1, h2⟩, h3⟩)
        have hqb : ¬ (q = b ∨ v.ownBlock = some q) := fun s => s.elim (fun s => by omega) (fun s => DW.out.2.1 q s rfl)
        refine ⟨⟨h3.size, fun k o hB hk ho => h3.get hk (fun s => ?_)⟩, Kq.of h3 hqb, ⟨v2, by rw [numsL_snoc, ← DW.out.2.2.2]; exact h1, fun x s => ?_⟩, h3.get DW.out.2.2.1 hqb, by rw [List.length_append, List.length_singleton]; omega⟩
        · rcases s with s | s
          · rw [s] at hk; exact not_cells DW.out.1.cell ⟨o, hk, ho⟩
          · obtain ⟨_, _, _, e⟩ := DW.out.1.own_cells s
            exact not_cells e ⟨o, hk, ho⟩
        · rcases h2 x s with s | s
          · exact DW.out.2.1 x s
          · have := lt_of_blk DW.out.2.2.1; omega
      case done =>
        rintro M xs W hD rfl ⟨⟨v, hW, hoW⟩, hq, _⟩ hK
        have d8 := cell_blk (BOX.out _ _ _ hW) 8
        unfold callC at d8
        simp only [List.getElem?_toArray, List.getElem?_cons_zero, List.getElem?_cons_succ] at d8
        have hcv := str_ofr (P := Tryd.prog) 22 9 Tryd.underlying22 Tryd.underlying5 Tryd.underlying9 (D.out.2.2.2.2.aside hW.keep)
        have hl9 : (numsL c (headL c) five).length ≤ 8 := by have := numsL_len c (headL c) five; have e : five.length = 5 := rfl; omega
        have t3 : Calls Tryd.prog 34 #[.pointer (some ⟨b, 0, none⟩), .string ⟨#[100, 97, 116, 97, 61]⟩, .string (strB c.data)] W fun r w' => (∃ u, r = .returned u) ∧ (∃ v', LineAt W1 b v' (wordsL c) w') ∧ Keep W w' (fun x => x = b ∨ v.ownBlock = some x) :=
          (ltext_c [100, 97, 116, 97, 61] c.data hW (by omega) (by omega) (by simp)).mono fun _ _ z => ⟨z.1, ⟨z.2.1.choose, z.2.1.choose_spec.1⟩, z.2.2⟩
        have hjl : (Lib.join (wordsL c) [32]).length ≤ 100000000000 ∧ (wordsL c).length ≤ 1000000000 := by
          have s1 := lineText_sum [opName c.op] [] (bsOf c.path)
          have s2 := lineText_sum (lineText [opName c.op] [] (bsOf c.path)) [] (bsOf c.to)
          have s3 := numsL_sum c (headL c) five (fun x _ => HZ.out x)
          have s4 := lineText_sum (numsL c (headL c) five) [100, 97, 116, 97, 61] c.data
          have s5 := lineText_len (numsL c (headL c) five) [100, 97, 116, 97, 61] c.data
          have s6 := join_small (L := wordsL c) (sep := [32]) rfl
          have s0 : sumL [opName c.op] ≤ 100 := by have := opName_len c.op; simp [sumL]; omega
          have e : five.length = 5 := rfl
          rw [bsOf_len] at s1 s2
          simp only [List.length_nil, List.length_cons] at s1 s2 s4
          unfold headL at s3
          unfold wordsL at *
          unfold headL at *
          exact ⟨by omega, by omega⟩
        have hMb : ¬ (M = b ∨ v.ownBlock = some M) := fun s => by
          rcases s with s | s
          · rw [s] at hK; rw [hW.cell] at hK; cases hK
          · obtain ⟨_, _, _, e⟩ := hW.own_cells s
            rw [hK] at e; cases e
        have hMw : w.heap.size ≤ M := by have := D.out.2.2.1; omega
        have E := Lib.hid (And.intro hK (And.intro hMb (And.intro hMw (And.intro hjl hW))))
        clear hK hMb hjl hMw hW hoW hq hl9
        go_wp2_with (first
          | (go_at_call 34
             with_reducible refine t3.mono ?_
             rintro e w7 ⟨⟨u7, rfl⟩, ⟨v7, hL7⟩, hk7⟩
             have e7 := cell_blk hL7.cell 0
             simp only [List.getElem?_toArray, List.getElem?_cons_zero] at e7
             have E7 := Lib.hid (And.intro hL7 (hk7.get E.out.1 E.out.2.1))
             have hjn := join_c (sep := [32]) hL7.row E.out.2.2.2.1.2 E.out.2.2.2.1.1
             clear hL7 hk7)
          | (go_at_call 36
             refine hjn.mono ?_
             rintro e w8 ⟨rfl, hk8⟩
             have E8 := Lib.hid hk8
             clear hk8))
        have hM8 := E8.out.get E7.out.2 (fun s => s)
        refine leaves_mark hM8 (fun w' kk => ⟨_, results_tmp rfl _ _ _, rfl, ?_⟩)
        exact ((D.out.1.trans E7.out.1.keep (fun _ s => s.elim)).trans E8.out (fun _ s => s.elim)).trans kk (fun x s => .inr (by have s' : x = M := s; have := E.out.2.2.1; omega))
      case stop =>
        rintro M cd pre W hD _ hx _
        exact hx.elim

end Go.Proofs.YtdbkkfhneafeiaaDoor
