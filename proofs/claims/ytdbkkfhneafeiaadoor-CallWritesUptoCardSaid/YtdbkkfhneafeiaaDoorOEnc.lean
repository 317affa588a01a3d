/-
  Calls are written (call.Encode).
-/
import Derived.Test.YtdbkkfhneafeiaaDoorOEnc0
import Derived.Test.YtdbkkfhneafeiaaDoorBSr
import Derived.Test.YtdbkkfhneafeiaaDoorORight
import Derived.Test.YtdbkkfhneafeiaaDoorRoundR
import Derived.Deep.RegionHeld3
import Derived.Deep.CutRange
import Derived.Deep.CutBlock
import Derived.Deep.DeepCutAuto
import Derived.StillTailTactics
namespace Go.Proofs.YtdbkkfhneafeiaaDoor
open Go Go.RowKit Go.Shelf
set_option linter.unusedSectionVars false
set_option linter.unusedSimpArgs false
set_option linter.unusedVariables false
set_option maxRecDepth 100000
attribute [local go_sem] Oper.semAt_some

theorem ownB_new (w : World) (l : Bs) {cs : Array Value} (hcs : cs = (l.map u8V).toArray) (hl : l.length ≤ 1000) {m : Nat} (hm : m = l.length) {g : Nat} (hg : g = w.heap.size) : OwnB (w.alloc (.cells cs 5)) (.slice (some ⟨g, 0, none⟩) m m) l := by
  subst hcs hm hg
  exact ⟨by simp, .inr ⟨w.heap.size, l.length, (l.map u8V).toArray, rfl, Nat.zero_le _, heap_alloc_eq _ _, Nat.le_refl _, by unfold maxLen; omega, by simp, by simp [List.take_of_length_le]⟩⟩

theorem be4_vals (z : Int) : (be4 z).map u8V = [.int .u8 (z % 4294967296 / 16777216), .int .u8 (z % 4294967296 / 65536 % 256), .int .u8 (z % 4294967296 / 256 % 256), .int .u8 (z % 256)] := by
  have hu : (u32 z : Int) = z % 4294967296 := by
    unfold u32
    exact Int.toNat_of_nonneg (Int.emod_nonneg _ (by decide))
  unfold be4 u8V
  simp only [List.map_cons, List.map_nil, byte_toNat]
  rw [Int.natCast_emod, Int.natCast_emod, Int.natCast_emod, Int.natCast_emod, Int.natCast_ediv, Int.natCast_ediv, Int.natCast_ediv, hu]
  rw [show z % 4294967296 / ((16777216 : Nat) : Int) % ((256 : Nat) : Int) = z % 4294967296 / 16777216 by omega, show z % 4294967296 % ((256 : Nat) : Int) = z % 256 by omega]
  rfl

/-- What has been written of a call's numbers. -/
def numB (c : CallV) (pre : List (Fin 5)) : Bs := pre.flatMap fun x => be4 (c.num x.val)

theorem numB_five (c : CallV) : numB c five = c.nums := by
  unfold numB five CallV.nums
  simp only [List.flatMap_cons, List.flatMap_nil, List.append_nil, List.append_assoc]
  rfl

/-- Encode on its way: the call's box, the cell of what has been written. -/
structure EnW (w W : World) (c : CallV) (dv : Value) (bx q : Nat) (l : Bs) (v : Value) : Prop where
  keep : Keep w W (fun _ => False)
  box : W.heap[w.heap.size]? = some (.cells (callC c dv).toArray 24 (0, 0))
  row : W.heap[bx]? = some (.cells #[v] 22 (0, 0))
  own : OwnB W v l
  new : ∀ b, v.ownBlock = some b → w.heap.size < b ∧ b ≠ bx ∧ b ≠ q
  hbx : w.heap.size < bx

/-- The first text behind the op's byte, wherever that lies. -/
theorem t1_gen {w1 U : World} {g : Nat} {x : UInt8} (path : ByteArray) (hp : path.size < 65536) (hO : OwnB U (.slice (some ⟨g, 0, none⟩) 1 1) [x]) (k : Keep w1 U (fun _ => False)) (hg : w1.heap.size ≤ g) :
    Calls Tryd.prog 37 #[.slice (some ⟨g, 0, none⟩) 1 1, .string path] U fun r w' => ∃ a n cap, r = .returned (.slice a n cap) ∧ OwnB w' (.slice a n cap) ([x] ++ txt (bsOf path)) ∧ Keep w1 w' (fun _ => False) ∧ (∀ b, (Value.slice a n cap).ownBlock = some b → b = g ∨ U.heap.size ≤ b) ∧ Keep U w' (fun b => b = g) := by
  refine (otxt_c path hO (by simp) (by omega)).mono ?_
  rintro e w' ⟨a, n, cap, rfl, q1, q2, q3⟩
  have q4 : Keep U w' (fun b => b = g) := q2.mono (fun b q => by simpa [Value.ownBlock] using q)
  refine ⟨a, n, cap, rfl, q1, k.trans q4 (fun b q => .inr (by rw [show b = g from q]; exact hg)), fun b q => ?_, q4⟩
  rcases q3 b q with z | z
  · simp [Value.ownBlock] at z; exact .inl z.symm
  · exact .inr z

/-- What stands behind the two texts. -/
theorem en_mk {w w1 W : World} {c : CallV} {dv : Value} {bx : Nat} {l : Bs} {v : Value} (kw : Keep w w1 (fun _ => False)) (hb : w1.heap[w.heap.size]? = some (.cells (callC c dv).toArray 24 (0, 0))) (k : Keep w1 W (fun _ => False))
    (hr : W.heap[bx]? = some (.cells #[v] 22 (0, 0))) (ho : OwnB W v l) (hn : ∀ b, v.ownBlock = some b → w1.heap.size ≤ b ∧ b ≠ bx) (hx : w1.heap.size ≤ bx) : EnW w W c dv bx W.heap.size l v :=
  ⟨kw.trans k (fun _ q => q.elim), k.get hb (fun q => q), hr, ho, fun b q => ⟨by have := hn b q; have := lt_of_blk hb; omega, (hn b q).2, by
    have h1 := rows_val ho
    rcases h1 with ⟨rfl, _⟩ | ⟨g, cap, rfl, _, h2, h3⟩
    · simp [Value.ownBlock] at q
    · rw [h2] at q; cases q; omega⟩, by have := lt_of_blk hb; omega⟩

theorem EnW.keeps {w W U : World} {c : CallV} {dv : Value} {bx q : Nat} {l : Bs} {v : Value} (h : EnW w W c dv bx q l v) {S : Nat → Prop} (k : Keep W U S) (hS : ∀ b, S b → w.heap.size < b ∧ b ≠ bx ∧ (∃ o, W.heap[b]? = some o ∧ o.isCells = false)) : EnW w U c dv bx q l v :=
  ⟨h.keep.trans k (fun b z => .inr (Nat.le_of_lt (hS b z).1)), k.get h.box (fun z => by have := hS _ z; omega), k.get h.row (fun z => (hS _ z).2.1 rfl), h.own.keep k (fun b z1 z2 => by
    rcases h.own.2 with ⟨e, _⟩ | ⟨g, cap, cur, e, _, hb, _⟩
    · rw [e] at z1; simp [Value.ownBlock] at z1
    · rw [e] at z1
      simp only [Value.ownBlock, Option.some.injEq] at z1
      subst z1
      exact not_cells hb (hS _ z2).2.2), h.new, h.hbx⟩

theorem EnW.aside {w W U : World} {c : CallV} {dv : Value} {bx q : Nat} {l : Bs} {v : Value} (h : EnW w W c dv bx q l v) (k : Keep W U (fun _ => False)) : EnW w U c dv bx q l v := h.keeps k (fun _ z => z.elim)

/-- Bytes more. -/
theorem EnW.push {w W U0 U : World} {c : CallV} {dv : Value} {bx q : Nat} {l : Bs} {v v' : Value} (h : EnW w W c dv bx q l v) (m : Bs) (hq : q < W.heap.size) (k0 : Keep W U0 (fun _ => False)) (ho : OwnB U v' (l ++ m)) (k : Keep U0 U (fun b => some b = v.ownBlock))
    (hn : ∀ b, v'.ownBlock = some b → v.ownBlock = some b ∨ b = U0.heap.size) :
    EnW w (U.setCell ⟨bx, 0, none⟩ v') c dv bx q (l ++ m) v' ∧ Keep W (U.setCell ⟨bx, 0, none⟩ v') (fun b => b = bx ∨ v.ownBlock = some b) := by
  have hbW := lt_of_blk h.row
  have hz0 := k0.size
  have hr0 := k0.get h.row (fun z => z)
  have hb0 := k0.get h.box (fun z => z)
  have hrU := k.get hr0 (fun z => (h.new _ z.symm).2.1 rfl)
  have hbU := k.get hb0 (fun z => by have := (h.new _ z.symm).1; omega)
  have kS := Keep.setCell U ⟨bx, 0, none⟩ v'
  have hK : Keep W (U.setCell ⟨bx, 0, none⟩ v') (fun b => b = bx ∨ v.ownBlock = some b) :=
    (k0.mono (T := fun b => b = bx ∨ v.ownBlock = some b) (fun _ z => z.elim)).trans ((k.mono (T := fun b => b = bx ∨ v.ownBlock = some b) (fun b z => .inr z.symm)).trans kS (fun b z => .inl (.inl z))) (fun b z => .inl z)
  have hnew : ∀ b, v'.ownBlock = some b → w.heap.size < b ∧ b ≠ bx ∧ b ≠ q := fun b z => by
    rcases hn b z with y | y
    · exact h.new b y
    · have := lt_of_blk h.box; exact ⟨by omega, by omega, by omega⟩
  refine ⟨⟨h.keep.trans hK (fun b z => .inr (z.elim (fun y => by have := h.hbx; omega) (fun y => by have := h.new b y; omega))), kS.get hbU (fun z => by have := h.hbx; have z' : w.heap.size = bx := z; omega), heap_setCell_eq (off := 0) _ hrU, ho.keep kS (fun b z1 z2 => (hnew b z1).2.1 z2), hnew, h.hbx⟩, hK⟩

theorem bytes_one (l : Bs) : ∀ u ∈ l.map u8V, u.oneCell' = true := fun u hu => by
  obtain ⟨x, _, rfl⟩ := List.mem_map.1 hu
  rfl

theorem numB_snoc (c : CallV) (pre : List (Fin 5)) (x : Fin 5) : numB c (pre ++ [x]) = numB c pre ++ be4 (c.num x.val) := by
  unfold numB
  rw [List.flatMap_append]
  simp

theorem numB_len (c : CallV) (pre : List (Fin 5)) : (numB c pre).length = 4 * pre.length := by
  induction pre with
  | nil => rfl
  | cons x l ih =>
    have : numB c (x :: l) = be4 (c.num x.val) ++ numB c l := rfl
    rw [this, List.length_append, ih, List.length_cons]
    show 4 + _ = _
    omega

set_option maxRecDepth 100000 in
set_option maxHeartbeats 8000000 in
theorem oenc_c {w : World} (c : CallV) (a0 : Option Addr) (cap0 : Nat) (hd : BSr w (.slice a0 c.data.length cap0) c.data) (hl : c.path.size ≤ 9223372036854775807 ∧ c.to.size ≤ 9223372036854775807 ∧ c.data.length ≤ 9223372036854775807) :
    Calls Tryd.prog 18 #[callA c (.slice a0 c.data.length cap0)] w fun r w' => ∃ v', r = .returned (.tuple #[v', .int .i64 c.right]) ∧ OwnB w' v' (if c.right = 0 then c.enc else []) ∧ Keep w w' (fun _ => False) ∧ ∀ b, v'.ownBlock = some b → w.heap.size ≤ b := by
  have hr := fun (U : World) => oright_c c a0 cap0 U hl
  obtain ⟨R, hR⟩ : ∃ R, R = c.right := ⟨_, rfl⟩
  have HF := Lib.hid (fun q : c.right = 0 => And.intro (CallV.fits_of q) (show 1 ≤ c.op ∧ c.op ≤ 20 by
    have := fun q' => right_op (c := c) q'
    omega))
  rw [← hR] at hr HF ⊢
  have HC := Lib.hid (And.intro hR hd)
  clear hR hd
  obtain ⟨cc, hcc⟩ : ∃ cc : CallV, cc = c := ⟨_, rfl⟩
  have HCC := Lib.hid hcc
  simp only [callA] at hr ⊢
  have kA := fun o => Keep.alloc w o (fun _ => False)
  refine calls_marks Tryd.func18 rfl ?_
  simp only [Tryd.ntmps18, List.size_toArray, List.length_cons, List.length_nil, Nat.reduceAdd, Nat.reduceSub, Array.replicate_succ, Array.replicate_zero, List.push_toArray, List.append_toArray, List.nil_append, List.cons_append]
  go_upto_if 12 with (
    go_at_call 19
    refine (hr _).mono ?_
    rintro e w1 ⟨rfl, hk1⟩)
  by_cases hz : R = 0
  · subst hz
    have hfit := HF.out rfl
    have hop : c.op % 256 = c.op := by omega
    obtain ⟨o, ho⟩ : ∃ o, o = Obj.cells #[.int .i64 c.op, .string c.path, .string c.to, .int .i64 c.fd, .int .i64 c.flags, .int .i64 c.mode, .int .i64 c.n, .int .i64 c.m, .slice a0 c.data.length cap0] 24 := ⟨_, rfl⟩
    rw [← ho] at hk1
    have hb1 := hk1.get (heap_alloc_eq w o) (fun q => q)
    have kw1 := (kA o).trans hk1 (fun _ q => q.elim)
    rw [ho] at hb1
    have d0 := cell_blk hb1 0
    have d1 := cell_blk hb1 1
    have d2 := cell_blk hb1 2
    simp only [List.getElem?_toArray, List.getElem?_cons_zero, List.getElem?_cons_succ] at d0 d1 d2
    have W1 := Lib.hid (And.intro kw1 hb1)
    clear hk1 hb1 kw1 ho kA hr
    have hopw : IntKind.u8.wrap c.op = c.op := by
      unfold IntKind.wrap
      simp only [IntKind.signed, IntKind.bits, Bool.false_and, Bool.false_eq_true, if_false]
      exact hop
    have hcs : #[Value.int .u8 c.op] = (([byte c.op.toNat] : Bs).map u8V).toArray := by unfold u8V; simp only [List.map_cons, List.map_nil, byte_toNat]; congr; omega
    have hpl : c.path.size < 65536 := hfit.1.path
    have htl : c.to.size ≤ 70000 := by have := hfit.1.to; omega
    have hll : ([byte c.op.toNat] ++ txt (bsOf c.path)).length ≤ 1000000000 := by unfold txt be2; simp only [List.length_append, List.length_cons, List.length_nil, bsOf_len]; omega
    have hO1 : OwnB (w1.alloc (.cells #[.int .u8 c.op] 5)).drew (.slice (some ⟨w1.heap.size, 0, none⟩) 1 1) [byte c.op.toNat] := rows_keep (ownB_new w1 _ hcs (by simp) (m := 1) rfl rfl) (Keep.drew _ (fun _ => False)) (fun _ _ q => q)
    have k1 : Keep w1 (w1.alloc (.cells #[.int .u8 c.op] 5)).drew (fun _ => False) := (Keep.alloc w1 _ (fun _ => False)).trans (Keep.drew _ (fun _ => False)) (fun _ q => q.elim)
    have z1 : (w1.alloc (.cells #[.int .u8 c.op] 5)).drew.heap.size = w1.heap.size + 1 := by show (w1.alloc (.cells #[.int .u8 c.op] 5)).heap.size = _; simp
    have hOA : OwnB ((w1.alloc (.cells #[.slice none 0 0] 22)).alloc (.cells #[.int .u8 c.op] 5)).drew (.slice (some ⟨w1.heap.size + 1, 0, none⟩) 1 1) [byte c.op.toNat] := rows_keep (ownB_new _ _ hcs (by simp) (m := 1) rfl (by simp)) (Keep.drew _ (fun _ => False)) (fun _ _ q => q)
    have kA : Keep w1 ((w1.alloc (.cells #[.slice none 0 0] 22)).alloc (.cells #[.int .u8 c.op] 5)).drew (fun _ => False) := ((Keep.alloc w1 _ (fun _ => False)).trans (Keep.alloc _ _ (fun _ => False)) (fun _ q => q.elim)).trans (Keep.drew _ (fun _ => False)) (fun _ q => q.elim)
    have zA : ((w1.alloc (.cells #[.slice none 0 0] 22)).alloc (.cells #[.int .u8 c.op] 5)).drew.heap.size = w1.heap.size + 1 + 1 := by show ((w1.alloc (.cells #[.slice none 0 0] 22)).alloc (.cells #[.int .u8 c.op] 5)).heap.size = _; simp
    have bA : ((w1.alloc (.cells #[.slice none 0 0] 22)).alloc (.cells #[.int .u8 c.op] 5)).drew.heap[w1.heap.size]? = some (.cells #[.slice none 0 0] 22 (0, 0)) := (Keep.alloc _ _ (fun _ => False)).get (heap_alloc_eq w1 _) (fun q => q)
    have hOB : OwnB ((w1.alloc (.cells #[.int .u8 c.op] 5)).alloc (.cells #[.slice none 0 0] 22)).drew (.slice (some ⟨w1.heap.size, 0, none⟩) 1 1) [byte c.op.toNat] := rows_keep (rows_keep (ownB_new w1 _ hcs (by simp) (m := 1) rfl rfl) (Keep.alloc _ _ (fun _ => False)) (fun _ _ q => q)) (Keep.drew _ (fun _ => False)) (fun _ _ q => q)
    have kB : Keep w1 ((w1.alloc (.cells #[.int .u8 c.op] 5)).alloc (.cells #[.slice none 0 0] 22)).drew (fun _ => False) := ((Keep.alloc w1 _ (fun _ => False)).trans (Keep.alloc _ _ (fun _ => False)) (fun _ q => q.elim)).trans (Keep.drew _ (fun _ => False)) (fun _ q => q.elim)
    have zB : ((w1.alloc (.cells #[.int .u8 c.op] 5)).alloc (.cells #[.slice none 0 0] 22)).drew.heap.size = w1.heap.size + 1 + 1 := by show ((w1.alloc (.cells #[.int .u8 c.op] 5)).alloc (.cells #[.slice none 0 0] 22)).heap.size = _; simp
    have bB : ((w1.alloc (.cells #[.int .u8 c.op] 5)).alloc (.cells #[.slice none 0 0] 22)).drew.heap[w1.heap.size + 1]? = some (.cells #[.slice none 0 0] 22 (0, 0)) := by
      have := heap_alloc_eq (w1.alloc (.cells #[.int .u8 c.op] 5)) (.cells #[.slice none 0 0] 22)
      rw [World.size_alloc] at this
      exact this
    have HX := Lib.hid (And.intro (And.intro hO1 (And.intro k1 z1)) (And.intro (And.intro hOA (And.intro kA (And.intro zA bA))) (And.intro (And.intro hOB (And.intro kB (And.intro zB bB))) (And.intro hpl (And.intro htl hll)))))
    clear hO1 k1 z1 hOA kA zA bA hOB kB zB bB hpl htl hll hcs hl
    have ne1 : ¬ w.heap.size = w1.heap.size := by have := lt_of_blk W1.out.2; omega
    have ne1' : ¬ w1.heap.size = w.heap.size := fun q => ne1 q.symm
    have ne2 : ¬ w.heap.size = w1.heap.size + 1 := by have := lt_of_blk W1.out.2; omega
    have ne2' : ¬ w1.heap.size + 1 = w.heap.size := fun q => ne2 q.symm
    go_upto_region 4 with (fail)
    go_cut [5] from 14 to 23 (fun s5 wx => ∃ bx v, s5 = .pointer (some ⟨bx, 0, none⟩) ∧ EnW w wx c (.slice a0 c.data.length cap0) bx wx.heap.size (([byte c.op.toNat] ++ txt (bsOf c.path)) ++ txt (bsOf c.to)) v)
    case first =>
      go_wp2
      go_region_held3 (fun w' => w'.cell? ⟨w.heap.size, 0, none⟩ = some (.int .i64 c.op) ∧ w'.cell? ⟨w.heap.size, 1, none⟩ = some (.string c.path) ∧ w'.cell? ⟨w.heap.size, 2, none⟩ = some (.string c.to)) (go_keep) (first
        | (go_at_call 37
           (with_reducible refine (t1_gen c.path HX.out.2.2.2.1 HX.out.1.1 HX.out.1.2.1 (Nat.le_refl _)).mono ?_)
           rintro e w3 ⟨a3, n3, cap3, rfl, q1, q2, q3, q4⟩
           have i0 := q2.cell (b := w.heap.size) (i := 0) d0 (fun q => q)
           have i1 := q2.cell (b := w.heap.size) (i := 1) d1 (fun q => q)
           have i2 := q2.cell (b := w.heap.size) (i := 2) d2 (fun q => q)
           have N1 := Lib.hid (And.intro q1 (And.intro q2 (show ∀ b, (Value.slice a3 n3 cap3).ownBlock = some b → w1.heap.size ≤ b from fun b q => by rcases q3 b q with z | z; exact (by omega); exact (by have := HX.out.1.2.2; omega))))
           clear q1 q2 q3 q4)
        | (go_at_call 37
           (with_reducible refine (t1_gen c.path HX.out.2.2.2.1 HX.out.2.1.1 HX.out.2.1.2.1 (Nat.le_succ _)).mono ?_)
           rintro e w3 ⟨a3, n3, cap3, rfl, q1, q2, q3, q4⟩
           have i0 := q2.cell (b := w.heap.size) (i := 0) d0 (fun q => q)
           have i1 := q2.cell (b := w.heap.size) (i := 1) d1 (fun q => q)
           have i2 := q2.cell (b := w.heap.size) (i := 2) d2 (fun q => q)
           have hbx := q4.get HX.out.2.1.2.2.2 (fun q => by omega)
           have N1 := Lib.hid (And.intro q1 (And.intro q2 (show ∀ b, (Value.slice a3 n3 cap3).ownBlock = some b → w1.heap.size ≤ b from fun b q => by rcases q3 b q with z | z; exact (by omega); exact (by have := HX.out.2.1.2.2.1; omega))))
           have NB := Lib.hid (show ∀ b, (Value.slice a3 n3 cap3).ownBlock = some b → b ≠ w1.heap.size from fun b q => by rcases q3 b q with z | z; exact (by omega); exact (by have := HX.out.2.1.2.2.1; omega))
           clear q1 q2 q3 q4)
        | (go_at_call 37
           (with_reducible refine (t1_gen c.path HX.out.2.2.2.1 HX.out.2.2.1.1 HX.out.2.2.1.2.1 (Nat.le_refl _)).mono ?_)
           rintro e w3 ⟨a3, n3, cap3, rfl, q1, q2, q3, q4⟩
           have i0 := q2.cell (b := w.heap.size) (i := 0) d0 (fun q => q)
           have i1 := q2.cell (b := w.heap.size) (i := 1) d1 (fun q => q)
           have i2 := q2.cell (b := w.heap.size) (i := 2) d2 (fun q => q)
           have hbx := q4.get HX.out.2.2.1.2.2.2 (fun q => by omega)
           have N1 := Lib.hid (And.intro q1 (And.intro q2 (show ∀ b, (Value.slice a3 n3 cap3).ownBlock = some b → w1.heap.size ≤ b from fun b q => by rcases q3 b q with z | z; exact (by omega); exact (by have := HX.out.2.2.1.2.2.1; omega))))
           have NB := Lib.hid (show ∀ b, (Value.slice a3 n3 cap3).ownBlock = some b → b ≠ w1.heap.size + 1 from fun b q => by rcases q3 b q with z | z; exact (by omega); exact (by have := HX.out.2.2.1.2.2.1; omega))
           clear q1 q2 q3 q4)
        | (go_at_call 37
           (with_reducible refine (otxt_c c.to N1.out.1 HX.out.2.2.2.2.2 HX.out.2.2.2.2.1).mono ?_)
           rintro e w4 ⟨a4, n4, cap4, rfl, q1, q2, q3⟩
           have j0 := q2.cell i0 (fun q => by have := N1.out.2.2 _ q.symm; have := lt_of_blk W1.out.2; omega)
           have j1 := q2.cell i1 (fun q => by have := N1.out.2.2 _ q.symm; have := lt_of_blk W1.out.2; omega)
           have j2 := q2.cell i2 (fun q => by have := N1.out.2.2 _ q.symm; have := lt_of_blk W1.out.2; omega)
           have hb4 := q2.get hbx (fun q => NB.out _ q.symm rfl)
           have b4 := cell_blk hb4 0
           have f4 := free_blk hb4 0
           have N2 := Lib.hid (And.intro q1 (And.intro q2 q3))
           simp only [List.getElem?_toArray, List.getElem?_cons_zero] at b4
           have HB4 := Lib.hid hb4
           clear q1 q2 q3 hb4)
        | (go_at_call 37
           (with_reducible refine (otxt_c c.to N1.out.1 HX.out.2.2.2.2.2 HX.out.2.2.2.2.1).mono ?_)
           rintro e w4 ⟨a4, n4, cap4, rfl, q1, q2, q3⟩
           have j0 := q2.cell i0 (fun q => by have := N1.out.2.2 _ q.symm; have := lt_of_blk W1.out.2; omega)
           have j1 := q2.cell i1 (fun q => by have := N1.out.2.2 _ q.symm; have := lt_of_blk W1.out.2; omega)
           have j2 := q2.cell i2 (fun q => by have := N1.out.2.2 _ q.symm; have := lt_of_blk W1.out.2; omega)
           have N2 := Lib.hid (And.intro q1 (And.intro q2 q3))
           clear q1 q2 q3)
        | (go_at_call 37
           (with_reducible refine (otxt_c c.to (N1.out.1.keep (Keep.alloc w3 (.cells #[.slice none 0 0] 22) (fun _ => False)) (fun _ _ q => q)) HX.out.2.2.2.2.2 HX.out.2.2.2.2.1).mono ?_)
           rintro e w4 ⟨a4, n4, cap4, rfl, q1, q2, q3⟩
           have j0 := q2.cell ((Keep.alloc w3 (.cells #[.slice none 0 0] 22) (fun _ => False)).cell i0 (fun q => q)) (fun q => by have := N1.out.2.2 _ q.symm; have := lt_of_blk W1.out.2; omega)
           have j1 := q2.cell ((Keep.alloc w3 (.cells #[.slice none 0 0] 22) (fun _ => False)).cell i1 (fun q => q)) (fun q => by have := N1.out.2.2 _ q.symm; have := lt_of_blk W1.out.2; omega)
           have j2 := q2.cell ((Keep.alloc w3 (.cells #[.slice none 0 0] 22) (fun _ => False)).cell i2 (fun q => q)) (fun q => by have := N1.out.2.2 _ q.symm; have := lt_of_blk W1.out.2; omega)
           have hb4 := q2.get (heap_alloc_eq w3 (.cells #[.slice none 0 0] 22)) (fun q => by have := N1.out.1.lt _ q.symm; omega)
           have ne3 : ¬ w.heap.size = w3.heap.size := by have := N1.out.2.1.size; have := lt_of_blk W1.out.2; omega
           have ne4 : ¬ w3.heap.size = w.heap.size := fun q => ne3 q.symm
           have b4 := cell_blk hb4 0
           have f4 := free_blk hb4 0
           have N2 := Lib.hid (And.intro q1 (And.intro q2 q3))
           simp only [List.getElem?_toArray, List.getElem?_cons_zero] at b4
           have HB4 := Lib.hid hb4
           clear q1 q2 q3 hb4))
      all_goals go_wp2
      all_goals go_meet
      all_goals first
        | (
          have hs13 := N1.out.2.1.size
          have hs34 := N2.out.2.1.size
          have hne : ∀ b, (Value.slice a4 n4 cap4).ownBlock = some b → w1.heap.size ≤ b ∧ b ≠ w4.heap.size := fun b q => by
            have h4 := N2.out.1.lt b q
            rcases N2.out.2.2 b q with z | z
            · exact ⟨N1.out.2.2 b z, by omega⟩
            · exact ⟨by omega, by omega⟩
          have kS := Keep.alloc w4 (.cells #[.slice a4 n4 cap4] 22) (fun _ => False)
          have kk := (N1.out.2.1.trans N2.out.2.1 (fun b q => .inr (N1.out.2.2 b q.symm))).trans kS (fun b q => q.elim)
          exact ⟨_, _, rfl, en_mk W1.out.1 W1.out.2 kk (heap_alloc_eq _ _) (N2.out.1.keep kS (fun b q z => z)) hne (by omega)⟩)
        | (
          have hz3 : (w3.alloc (.cells #[.slice none 0 0] 22)).heap.size = w3.heap.size + 1 := by simp
          have hne : ∀ b, (Value.slice a4 n4 cap4).ownBlock = some b → w1.heap.size ≤ b ∧ b ≠ w3.heap.size := fun b q => by
            rcases N2.out.2.2 b q with z | z
            · have := N1.out.1.lt b z; exact ⟨N1.out.2.2 b z, by omega⟩
            · have := N1.out.2.1.size; exact ⟨by omega, by omega⟩
          have kS := Keep.setCell w4 ⟨w3.heap.size, 0, none⟩ (.slice a4 n4 cap4)
          have hs13 := N1.out.2.1.size
          have kk := ((N1.out.2.1.trans (Keep.alloc w3 (.cells #[.slice none 0 0] 22) (fun _ => False)) (fun b q => q.elim)).trans N2.out.2.1 (fun b q => .inr (N1.out.2.2 b q.symm))).trans kS (fun b q => .inr (by have q' : b = w3.heap.size := q; omega))
          exact ⟨_, _, rfl, en_mk W1.out.1 W1.out.2 kk (heap_setCell_eq (off := 0) _ HB4.out) (N2.out.1.keep kS (fun b q z => (hne b q).2 z)) hne (by omega)⟩)
        | (
          have hne : ∀ b, (Value.slice a4 n4 cap4).ownBlock = some b → w1.heap.size ≤ b ∧ b ≠ (w1.heap.size + 1) := fun b q => by
            rcases N2.out.2.2 b q with z | z
            · exact ⟨N1.out.2.2 b z, NB.out b z⟩
            · have := lt_of_blk hbx; have := N1.out.2.1.size; exact ⟨by omega, by omega⟩
          have kS := Keep.setCell w4 ⟨w1.heap.size + 1, 0, none⟩ (.slice a4 n4 cap4)
          have kk := (N1.out.2.1.trans N2.out.2.1 (fun b q => .inr (N1.out.2.2 b q.symm))).trans kS (fun b q => .inr (by have q' : b = (w1.heap.size + 1) := q; omega))
          exact ⟨_, _, rfl, en_mk W1.out.1 W1.out.2 kk (heap_setCell_eq (off := 0) _ HB4.out) (N2.out.1.keep kS (fun b q z => (hne b q).2 z)) hne (by omega)⟩)
        | (
          have hne : ∀ b, (Value.slice a4 n4 cap4).ownBlock = some b → w1.heap.size ≤ b ∧ b ≠ w1.heap.size := fun b q => by
            rcases N2.out.2.2 b q with z | z
            · exact ⟨N1.out.2.2 b z, NB.out b z⟩
            · have := lt_of_blk hbx; have := N1.out.2.1.size; exact ⟨by omega, by omega⟩
          have kS := Keep.setCell w4 ⟨w1.heap.size, 0, none⟩ (.slice a4 n4 cap4)
          have kk := (N1.out.2.1.trans N2.out.2.1 (fun b q => .inr (N1.out.2.2 b q.symm))).trans kS (fun b q => .inr (by have q' : b = w1.heap.size := q; omega))
          exact ⟨_, _, rfl, en_mk W1.out.1 W1.out.2 kk (heap_setCell_eq (off := 0) _ HB4.out) (N2.out.1.keep kS (fun b q z => (hne b q).2 z)) hne (by omega)⟩)
    case rest =>
      obtain ⟨bx, v, rfl, hE⟩ := hcut
      obtain ⟨l0, hl0⟩ : ∃ l0, l0 = (([byte c.op.toNat] ++ txt (bsOf c.path)) ++ txt (bsOf c.to)) := ⟨_, rfl⟩
      rw [← hl0] at hE
      have hl0s : l0.length ≤ 200000 := by
        rw [hl0]
        have := HX.out.2.2.2.1
        have := hfit.1.to
        unfold txt be2
        simp only [List.length_append, List.length_cons, List.length_nil, bsOf_len]
        omega
      have HL0 := Lib.hid hl0
      clear hl0 HX d0 d1 d2
      have HE0 := Lib.hid hE
      clear hE
      go_wp2_with (
        go_at_call 28
        refine (numbers_c _ _).mono ?_
        rintro e w11 ⟨rfl, rfl⟩)
      obtain ⟨q, hq⟩ : ∃ q, q = wc.heap.size := ⟨_, rfl⟩
      obtain ⟨wL, hwL⟩ : ∃ wL, wL = wc.alloc (.cells #[.pointer (some ⟨w.heap.size, 0, none⟩)] 63) := ⟨_, rfl⟩
      have EL := Lib.hid (show EnW w wL c (.slice a0 c.data.length cap0) bx q l0 v from by rw [hq, hwL]; exact HE0.out.aside (Keep.alloc _ _ _))
      have HQ := Lib.hid (show wL.heap[q]? = some (.cells #[.pointer (some ⟨w.heap.size, 0, none⟩)] 63 (0, 0)) from by rw [hwL, hq]; exact heap_alloc_eq _ _)
      have hzL : wL.heap.size = q + 1 := by rw [hwL, hq]; simp
      have hwq : w.heap.size < q := by rw [hq]; exact lt_of_blk HE0.out.box
      have hbq : bx < q := by rw [hq]; exact lt_of_blk HE0.out.row
      rw [← hwL, ← hq]
      clear hwL hq HE0
      refine wp_range2 (α := Fin 5) (e1 := fun x => nameOf x.val) (e2 := fun x => Value.pointer (some ⟨w.heap.size, x.val + 3, none⟩)) (j := 7) (gf := 44) (lb := #[.pointer (some ⟨q, 0, none⟩)]) rfl (enters_of Tryd.func44 (by kernel_rfl) rfl)
        (nums_stops 8 (by omega) q w.heap.size wL HQ.out) (by omega)
        (fun pre W => (∃ v, EnW w W c (.slice a0 c.data.length cap0) bx q (l0 ++ numB c pre) v) ∧ W.heap[q]? = some (.cells #[.pointer (some ⟨w.heap.size, 0, none⟩)] 63 (0, 0)) ∧ pre.length ≤ 5)
        (fun cd pre W => False)
        (own_of fun s W W' h k => by
          obtain ⟨⟨v, h1⟩, h2, h3⟩ := h
          exact ⟨⟨v, h1.keeps k (fun b z => ⟨by omega, by omega, z.2⟩)⟩, k.get h2 (fun z => not_cells h2 z.2), h3⟩)
        (fun cd => own_of fun s W W' h k => h)
        ⟨⟨v, by simpa [numB] using EL.out⟩, HQ.out, by simp⟩ ?assign ?body ?done ?stop
      case assign =>
        intro l x W K hK
        gi_wp2
        exact hK
      case body =>
        rintro l pre y W ⟨⟨v, hW⟩, hq, hp5⟩ hlt
        have hn1 : 1 ≤ 7 := by omega
        simp only [List.setIfInBounds_toArray, List.set_cons_succ, List.set_cons_zero]
        have c0 : W.cell? ⟨w.heap.size, y.val + 3, none⟩ = some (.int .i64 (c.num y.val)) := by rw [cell_blk hW.box]; exact num_at _ _ y
        have hbv := be4_vals (c.num y.val)
        obtain ⟨sa, n, cap, rfl, hn⟩ := hW.own.val
        have c1 := cell_blk hW.row 0
        simp only [List.getElem?_toArray, List.getElem?_cons_zero] at c1
        have hlen : n ≤ 300000 := by rw [hn, List.length_append, numB_len]; omega
        have D := Lib.hid (And.intro hW (And.intro hq hn))
        obtain ⟨z, hz⟩ : ∃ z, z = c.num y.val := ⟨_, rfl⟩
        have HZ := Lib.hid (And.intro hz hbv)
        rw [← hz] at c0
        clear hW hq hn hbv hz
        obtain ⟨ti, ti1, ti2, ti3, ti4⟩ := u8_info
        have HI := Lib.hid (And.intro ti1 (And.intro ti2 (And.intro ti3 ti4)))
        clear ti1 ti2 ti3 ti4
        gi_wp2_with (
          gi_at_builtin
          refine wpListIn_plain rfl (fun K hK => wp_round (fun c h => by cases h) (wp_append_rowB _ _ _ rfl Tryd.underlying22 HI.out.1 HI.out.2.1 HI.out.2.2.1 rfl (by decide) rfl (rows_keep (show W.ownsRow 0 5 1 (.slice sa n cap) n ((l0 ++ numB c pre).map u8V) from by have := D.out.1.own; unfold OwnB at this; rw [← D.out.2.2] at this; exact this) (Keep.alloc W (.cells #[.int .u8 (z % 4294967296 / 16777216), .int .u8 (z % 4294967296 / 65536 % 256), .int .u8 (z % 4294967296 / 256 % 256), .int .u8 (z % 256)] 5) (fun _ => False)) (fun _ _ z => z)) ((be4 z).map u8V) rfl rfl (.inr ⟨_, rfl, by rw [HZ.out.1, HZ.out.2]; exact cells_new W _ _⟩) (bytes_one _) (by omega) (by rw [HI.out.2.2.2]; omega) (fun sa' cap' w' r1 r2 r3 => hK _ _ ?_)))
          have d1 := r2.get ((Keep.alloc W (.cells #[.int .u8 (z % 4294967296 / 16777216), .int .u8 (z % 4294967296 / 65536 % 256), .int .u8 (z % 4294967296 / 256 % 256), .int .u8 (z % 256)] 5) (fun _ => False)).get D.out.1.row (fun q => q)) (fun q => (D.out.1.new _ q.symm).2.1 rfl)
          have e1 : w'.cell? ⟨bx, 0, none⟩ = some (.slice sa n cap) := by rw [cell_blk d1]; rfl
          have e2 := free_blk d1 0
          have N := Lib.hid (And.intro r1 (And.intro r2 r3))
          clear r1 r2 r3 d1)
        have hoB : OwnB w' (.slice sa' (n + 4) cap') ((l0 ++ numB c pre) ++ be4 z) := by
          refine rows_own N.out.1 ?_ ?_
          · rw [List.length_append, ← D.out.2.2]; rfl
          · simp only [List.map_append]
        obtain ⟨p1, p2⟩ := D.out.1.push (be4 z) (lt_of_blk D.out.2.1) (Keep.alloc W (.cells #[.int .u8 (z % 4294967296 / 16777216), .int .u8 (z % 4294967296 / 65536 % 256), .int .u8 (z % 4294967296 / 256 % 256), .int .u8 (z % 256)] 5) (fun _ => False)) hoB N.out.2.1 N.out.2.2
        have hqn : ¬ (q = bx ∨ (Value.slice sa n cap).ownBlock = some q) := fun z => z.elim (fun z => by omega) (fun z => (D.out.1.new _ z).2.2 rfl)
        refine ⟨⟨p2.size, fun k o hB hk ho => p2.get hk (fun z => ?_)⟩, Kq.of p2 hqn, ⟨_, by rw [numB_snoc, ← HZ.out.1, ← List.append_assoc]; exact p1⟩, p2.get D.out.2.1 hqn, by rw [List.length_append, List.length_singleton]; omega⟩
        rcases z with z | z
        · omega
        · rcases D.out.1.own.2 with ⟨e, _⟩ | ⟨g, cp, cur, e, _, hb', _⟩
          · rw [e] at z; simp [Value.ownBlock] at z
          · rw [e] at z
            simp only [Value.ownBlock, Option.some.injEq] at z
            subst z
            exact not_cells hb' ⟨o, hk, ho⟩
      case done =>
        rintro D xs W hD rfl ⟨⟨v, hW⟩, hq, _⟩ hK
        obtain ⟨sa, n, cap, rfl, hn⟩ := hW.own.val
        have c1 := cell_blk hW.row 0
        simp only [List.getElem?_toArray, List.getElem?_cons_zero] at c1
        have d8 := cell_blk hW.box 8
        unfold callC at d8
        simp only [List.getElem?_toArray, List.getElem?_cons_zero, List.getElem?_cons_succ] at d8
        have hcv := str_ofr (P := Tryd.prog) 22 9 Tryd.underlying22 Tryd.underlying5 Tryd.underlying9 (HC.out.2.aside hW.keep)
        have hlen : (l0 ++ numB c five).length ≤ 1000000000 := by rw [List.length_append, numB_len]; show l0.length + 4 * 5 ≤ _; omega
        have htx := otxt_c (strB c.data) hW.own hlen (by rw [strB_size]; have := hfit.1.data; omega)
        have hwD : w.heap.size < D := by omega
        have E := Lib.hid (And.intro hW hK)
        clear hW hq hK hn hlen
        go_wp2_with (
          go_at_call 37
          refine htx.mono ?_
          rintro e w5 ⟨a5, n5, cap5, rfl, q1, q2, q3⟩
          have N := Lib.hid (And.intro q1 (And.intro q2 q3))
          clear q1 q2 q3 htx)
        have hDo : ¬ some D = (Value.slice sa n cap).ownBlock := fun z => by
          rcases E.out.1.own.2 with ⟨e, _⟩ | ⟨g, cp, cur, e, _, hb', _⟩
          · rw [e] at z; simp [Value.ownBlock] at z
          · rw [e] at z
            simp only [Value.ownBlock, Option.some.injEq] at z
            subst z
            exact not_cells hb' ⟨_, E.out.2, rfl⟩
        have hD5 := N.out.2.1.get E.out.2 hDo
        refine leaves_mark hD5 (fun w' kk => ⟨_, results_tmp2 rfl _ _ _, .slice a5 n5 cap5, rfl, ?_, ?_, ?_⟩)
        · have hfin : (l0 ++ numB c five) ++ txt (bsOf (strB c.data)) = c.enc := by
            rw [HL0.out, numB_five, bsOf_strB]
            unfold CallV.enc
            simp only [List.append_assoc, List.cons_append, List.nil_append]
          rw [← hfin]
          exact N.out.1.keep kk (fun b z1 z2 => by
            rcases N.out.1.2 with ⟨e, _⟩ | ⟨g, cp, cur, e, _, hb', _⟩
            · rw [e] at z1; simp [Value.ownBlock] at z1
            · rw [e] at z1
              simp only [Value.ownBlock, Option.some.injEq] at z1
              subst z1
              exact not_cells hb' ⟨_, by rw [show g = D from z2]; exact hD5, rfl⟩)
        · exact (E.out.1.keep.trans N.out.2.1 (fun b z => .inr (Nat.le_of_lt (E.out.1.new b z.symm).1))).trans kk (fun b z => .inr (by rw [show b = D from z]; omega))
        · intro b z
          rcases N.out.2.2 b z with y | y
          · exact Nat.le_of_lt (E.out.1.new b y).1
          · have := lt_of_blk E.out.1.box; omega
      case stop =>
        rintro D cd pre W hD hpre hF
        exact hF.elim
  · have g0 : (R != 0) = true := by simpa using hz
    have HN := Lib.hid hz
    clear hz
    go_wp2
    refine leaves_none ⟨_, results_tmp2 rfl _ _ _, .slice none 0 0, rfl, ?_, (kA _).trans hk1 (fun _ q => q.elim), fun b q => by simp [Value.ownBlock] at q⟩
    exact rows_nil _ _ _

end Go.Proofs.YtdbkkfhneafeiaaDoor
