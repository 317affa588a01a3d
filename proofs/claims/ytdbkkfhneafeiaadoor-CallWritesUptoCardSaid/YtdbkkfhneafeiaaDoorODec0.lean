/-
  The program's Decode of a call: what lies in memory on its way.
-/
import Derived.Test.YtdbkkfhneafeiaaDoorORight
import Derived.Test.YtdbkkfhneafeiaaDoorOrd1
namespace Go.Proofs.YtdbkkfhneafeiaaDoor
open Go Go.RowKit Go.Shelf
set_option linter.unusedSectionVars false
set_option linter.unusedSimpArgs false
set_option linter.unusedVariables false
set_option maxRecDepth 100000

def CallV.setNum (c : CallV) (x : Nat) (n : Int) : CallV :=
  match x with
  | 0 => { c with fd := n }
  | 1 => { c with flags := n }
  | 2 => { c with mode := n }
  | 3 => { c with n := n }
  | _ => { c with m := n }

theorem callC_set (c : CallV) (dv : Value) (x : Fin 5) (n : Int) : (callC c dv).toArray.setIfInBounds (x.val + 3) (.int .i64 n) = (callC (c.setNum x.val n) dv).toArray := by
  obtain ⟨x, hx⟩ := x
  rcases (show x = 0 ∨ x = 1 ∨ x = 2 ∨ x = 3 ∨ x = 4 by omega) with rfl | rfl | rfl | rfl | rfl <;> rfl

/-- Numbers that are read, one behind the other. -/
def runN (b : Bs) (c : CallV) (s : St) (pre : List (Fin 5)) : CallV × St := pre.foldl (fun q x => (q.1.setNum x.val (fourS b q.2).1, (fourS b q.2).2)) (c, s)

theorem runN_snoc (b : Bs) (c : CallV) (s : St) (pre : List (Fin 5)) (x : Fin 5) : runN b c s (pre ++ [x]) = ((runN b c s pre).1.setNum x.val (fourS b (runN b c s pre).2).1, (fourS b (runN b c s pre).2).2) := by
  unfold runN
  rw [List.foldl_append]
  rfl

theorem fourS_none {b : Bs} {s : St} (h : s = none) : (fourS b s).2 = none := by subst h; rfl

theorem fourS_via {b : Bs} {s s1 : St} {l : Bs} (h : takeS b s 4 = (l, s1)) : (fourS b s).2 = s1 ∧ ∀ p, s1 = some p → (fourS b s).1 = sgn (val4 l) := by
  unfold fourS
  rw [h]
  cases s1 with
  | none => exact ⟨rfl, fun p q => by cases q⟩
  | some p => exact ⟨rfl, fun _ _ => rfl⟩

/-- Four bytes that are read as a number. -/
theorem four_num (A B C D : UInt8) : bits .or .u32 (bits .or .u32 (bits .or .u32 ((A.toNat : Int) % 4294967296 * 16777216 % 4294967296) ((B.toNat : Int) % 4294967296 * 65536 % 4294967296)) ((C.toNat : Int) % 4294967296 * 256 % 4294967296)) ((D.toNat : Int) % 4294967296) = ((val4 [A, B, C, D] : Nat) : Int) ∧
    wrap32 ((val4 [A, B, C, D] : Nat) : Int) = sgn (val4 [A, B, C, D]) ∧ wrap64 (sgn (val4 [A, B, C, D])) = sgn (val4 [A, B, C, D]) := by
  have hsb := sgn_bd _ (val4_lt [A, B, C, D])
  exact ⟨read4' (byte_lt A) (byte_lt B) (byte_lt C) (byte_lt D), wrap32_sgn _ (val4_lt _), IntWalk.wrap64_in _ ⟨by omega, by omega⟩⟩

/-- Decode on its way: the result's block, the reader's, the cell that holds the reader, the call's. -/
structure DecO (w wx : World) (v : Value) (b : Bs) (s : St) (cb : Nat) (C : Array Value) : Prop where
  keep : Keep w wx (fun _ => False)
  rd : OrS wx (w.heap.size + 1) v b s
  res : wx.heap[w.heap.size]? = some (.cells (callC CallV.none (.slice none 0 0)).toArray 24 (0, 0))
  ptr : wx.heap[w.heap.size + 1 + 1]? = some (.cells #[.pointer (some ⟨w.heap.size + 1, 0, none⟩)] 55 (0, 0))
  box : wx.heap[cb]? = some (.cells C 24 (0, 0))
  hcb : w.heap.size + 2 < cb

section
variable {w wx w1 w2 : World} {v : Value} {b : Bs} {s s' : St} {C : Array Value} {cb : Nat}
theorem DecO.call (h : DecO w wx v b s cb C) (hr : OrS w1 (w.heap.size + 1) v b s') (k : Keep wx w1 (fun x => x = w.heap.size + 1)) : DecO w w1 v b s' cb C :=
  ⟨h.keep.trans k (fun x q => .inr (by omega)), hr, k.get h.res (by omega), k.get h.ptr (by omega), k.get h.box (by have := h.hcb; omega), h.hcb⟩
theorem OrS.far {rb : Nat} {U : Nat → Prop} (h : OrS wx rb v b s) (k : Keep wx w1 U) (h1 : ¬ U rb) (h2 : b ≠ [] → Clear v U) : OrS w1 rb v b s := by
  obtain ⟨p, sh, h3, h4⟩ := h
  exact ⟨p, sh, ⟨k.get h3.cell h1, h3.src.set k h2, h3.sep, h3.le⟩, h4⟩
theorem DecO.keeps (h : DecO w wx v b s cb C) (hv : b ≠ [] → ∀ x, v.ownBlock = some x → x < w.heap.size) {U : Nat → Prop} (k : Keep wx w1 U) (hU : ∀ x, U x → w.heap.size + 2 < x ∧ x ≠ cb) : DecO w w1 v b s cb C :=
  ⟨h.keep.trans k (fun x q => .inr (by have := hU x q; omega)), h.rd.far k (fun q => by have := hU _ q; omega) (fun h0 x q z => by have := hv h0 x q; have := hU _ z; omega), k.get h.res (fun q => by have := hU _ q; omega), k.get h.ptr (fun q => by have := hU _ q; omega), k.get h.box (fun q => (hU _ q).2 rfl), h.hcb⟩
theorem DecO.aside (h : DecO w wx v b s cb C) (hv : b ≠ [] → ∀ x, v.ownBlock = some x → x < w.heap.size) (k : Keep wx w1 (fun _ => False)) : DecO w w1 v b s cb C := h.keeps hv k (fun _ q => q.elim)
theorem DecO.own (h : DecO w wx v b s cb C) (hv : b ≠ [] → ∀ x, v.ownBlock = some x → x < w.heap.size) {B : Nat} (hB : cb < B) (k : Keep wx w1 (fun x => B ≤ x ∧ ∃ o, wx.heap[x]? = some o ∧ o.isCells = false)) : DecO w w1 v b s cb C :=
  h.keeps hv (k.mono (T := fun x => B ≤ x) (fun x q => q.1)) (fun x q => by have := h.hcb; omega)
theorem DecO.put (h : DecO w wx v b s cb C) (hv : b ≠ [] → ∀ x, v.ownBlock = some x → x < w.heap.size) (i : Nat) (u : Value) : DecO w (wx.setCell ⟨cb, i, none⟩ u) v b s cb (C.setIfInBounds i u) := by
  have k := Keep.setCell wx ⟨cb, i, none⟩ u
  have hcb := h.hcb
  refine ⟨h.keep.trans k (fun x q => .inr (by have q' : x = cb := q; omega)), h.rd.far k (fun q => by have q' : w.heap.size + 1 = cb := q; omega) (fun h0 x q z => by have := hv h0 x q; have z' : x = cb := z; omega), k.get h.res (fun q => by have q' : w.heap.size = cb := q; omega), k.get h.ptr (fun q => by have q' : w.heap.size + 1 + 1 = cb := q; omega), heap_setCell_eq u h.box, hcb⟩
theorem DecO.at (h : DecO w wx v b s cb C) {i : Nat} {u : Value} (hi : C[i]? = some u) : wx.cell? ⟨cb, i, none⟩ = some u := by rw [cell_blk h.box]; exact hi
theorem DecO.free (h : DecO w wx v b s cb C) (i : Nat) : wx.frozen? ⟨cb, i, none⟩ = false := free_blk h.box i
theorem DecO.pt (h : DecO w wx v b s cb C) : wx.cell? ⟨w.heap.size + 1 + 1, 0, none⟩ = some (.pointer (some ⟨w.heap.size + 1, 0, none⟩)) := by rw [cell_blk h.ptr]; rfl
end

theorem textS_none {b : Bs} : (textS b none).2 = none := rfl

theorem runN_st (b : Bs) (s : St) (pre : List (Fin 5)) : ∀ c c', (runN b c s pre).2 = (runN b c' s pre).2 := by
  induction pre generalizing s with
  | nil => intro c c'; rfl
  | cons x l ih => intro c c'; exact ih _ _ _

theorem runN_none (b : Bs) (pre : List (Fin 5)) : ∀ c, (runN b c none pre).2 = none := by
  induction pre with
  | nil => intro c; rfl
  | cons x l ih => intro c; exact ih _

theorem runN_five (b : Bs) (c : CallV) (s : St) : runN b c s five =
    (⟨c.op, c.path, c.to, (fourS b s).1, (fourS b (fourS b s).2).1, (fourS b (fourS b (fourS b s).2).2).1, (fourS b (fourS b (fourS b (fourS b s).2).2).2).1, (fourS b (fourS b (fourS b (fourS b (fourS b s).2).2).2).2).1, c.data⟩, (fourS b (fourS b (fourS b (fourS b (fourS b s).2).2).2).2).2) := by
  simp only [runN, five, List.foldl_cons, List.foldl_nil, f0, f1, f2, f3, f4, CallV.setNum]

theorem callS_run (b : Bs) : callS b = (({ (runN b ⟨(opS b (some 0)).1, strB (textS b (opS b (some 0)).2).1, strB (textS b (textS b (opS b (some 0)).2).2).1, 0, 0, 0, 0, 0, []⟩ (textS b (textS b (opS b (some 0)).2).2).2 five).1 with data := (textS b (runN b ⟨(opS b (some 0)).1, strB (textS b (opS b (some 0)).2).1, strB (textS b (textS b (opS b (some 0)).2).2).1, 0, 0, 0, 0, 0, []⟩ (textS b (textS b (opS b (some 0)).2).2).2 five).2).1 } : CallV),
    (textS b (runN b ⟨(opS b (some 0)).1, strB (textS b (opS b (some 0)).2).1, strB (textS b (textS b (opS b (some 0)).2).2).1, 0, 0, 0, 0, 0, []⟩ (textS b (textS b (opS b (some 0)).2).2).2 five).2).2) := by
  rw [runN_five]
  unfold callS
  generalize opS b (some 0) = O
  obtain ⟨op, s0⟩ := O
  simp only

theorem callS_of {b : Bs} {s1 s2 s3 s8 s9 : St} {t1 t2 t3 u1 u2 u3 : Bs} {x : Int} {c0 c : CallV}
    (h0 : (opS b (some 0)).2 = s1) (h0' : ∀ p, s1 = some p → x = (opS b (some 0)).1) (h1 : textS b s1 = (t1, s2)) (h1' : ∀ p, s2 = some p → u1 = t1) (h2 : textS b s2 = (t2, s3)) (h2' : ∀ p, s3 = some p → u2 = t2)
    (hc0 : c0 = ⟨x, strB u1, strB u2, 0, 0, 0, 0, 0, []⟩) (h3 : s8 = (runN b c0 s3 five).2) (h3' : ∀ p, s8 = some p → c = (runN b c0 s3 five).1) (h4 : textS b s8 = (t3, s9)) (h4' : ∀ p, s9 = some p → u3 = t3) :
    (callS b).2 = s9 ∧ ∀ p, s9 = some p → callS b = ({ c with data := u3 }, some p) := by
  have e := callS_run b
  simp only [h0, h1, h2] at e
  have hst : (runN b ⟨(opS b (some 0)).1, strB t1, strB t2, 0, 0, 0, 0, 0, []⟩ s3 five).2 = s8 := by rw [h3]; exact runN_st _ _ _ _ _
  refine ⟨by rw [e, hst, h4], fun p hp => ?_⟩
  subst hp
  have g8 : ∃ q, s8 = some q := by
    cases s8 with
    | none => have := congrArg Prod.snd h4; cases this
    | some q => exact ⟨q, rfl⟩
  obtain ⟨q8, g8⟩ := g8
  have g3 : ∃ q, s3 = some q := by
    cases s3 with
    | none => rw [runN_none, g8] at h3; cases h3
    | some q => exact ⟨q, rfl⟩
  obtain ⟨q3, g3⟩ := g3
  have g2 : ∃ q, s2 = some q := by
    cases s2 with
    | none => have := congrArg Prod.snd h2; rw [g3] at this; cases this
    | some q => exact ⟨q, rfl⟩
  obtain ⟨q2, g2⟩ := g2
  have g1 : ∃ q, s1 = some q := by
    cases s1 with
    | none => have := congrArg Prod.snd h1; rw [g2] at this; cases this
    | some q => exact ⟨q, rfl⟩
  obtain ⟨q1, g1⟩ := g1
  have ec0 : c0 = ⟨(opS b (some 0)).1, strB t1, strB t2, 0, 0, 0, 0, 0, []⟩ := by rw [hc0, h0' q1 g1, h1' q2 g2, h2' q3 g3]
  rw [e, hst, h4, h4' p rfl, h3' q8 g8, ec0]

theorem callS_sizes (b : Bs) : (callS b).1.path.size ≤ 65535 ∧ (callS b).1.to.size ≤ 65535 ∧ (callS b).1.data.length ≤ 65535 :=
  ⟨textS_size _ _, textS_size _ _, textS_size _ _⟩

/-- Decode's end. -/
theorem odec_leaves {W : World} {rb D : Nat} {c : CallV} {dv n e : Value} {T : Array Value} {R : Ending → World → Prop} (hb : W.heap[rb]? = some (.cells (callC c dv).toArray 24 (0, 0))) (hD : W.heap[D]? = some (.deferred (some []))) (hne : rb ≠ D)
    (h2 : T.getD 2 undef = .pointer (some ⟨rb, 0, none⟩)) (h3 : T.getD 3 undef = n) (h4 : T.getD 4 undef = e) (hR : ∀ w', Keep W w' (fun b => b = D) → R (.returned (.tuple #[callA c dv, n, e])) w') :
    LeavesInM Fence.wide 9 Tryd.prog Tryd.f12 T R [{ target := .collected D, args := #[] }] .returning W := by
  refine leaves_mark hD (fun w' kk => ⟨_, ?_, hR w' kk⟩)
  have zf := kk.get hb (fun q => hne q)
  unfold callC at zf
  have y0 : w'.cell? ⟨rb, 0, none⟩ = some (.int .i64 c.op) := by rw [cell_blk zf]; rfl
  have y1 : w'.cell? ⟨rb, 1, none⟩ = some (.string c.path) := by rw [cell_blk zf]; rfl
  have y2 : w'.cell? ⟨rb, 2, none⟩ = some (.string c.to) := by rw [cell_blk zf]; rfl
  have y3 : w'.cell? ⟨rb, 3, none⟩ = some (.int .i64 c.fd) := by rw [cell_blk zf]; rfl
  have y4 : w'.cell? ⟨rb, 4, none⟩ = some (.int .i64 c.flags) := by rw [cell_blk zf]; rfl
  have y5 : w'.cell? ⟨rb, 5, none⟩ = some (.int .i64 c.mode) := by rw [cell_blk zf]; rfl
  have y6 : w'.cell? ⟨rb, 6, none⟩ = some (.int .i64 c.n) := by rw [cell_blk zf]; rfl
  have y7 : w'.cell? ⟨rb, 7, none⟩ = some (.int .i64 c.m) := by rw [cell_blk zf]; rfl
  have y8 : w'.cell? ⟨rb, 8, none⟩ = some dv := by rw [cell_blk zf]; rfl
  have h2' : T[2]?.getD undef = .pointer (some ⟨rb, 0, none⟩) := by simpa using h2
  have h3' : T[3]?.getD undef = n := by simpa using h3
  have h4' : T[4]?.getD undef = e := by simpa using h4
  simp [results, Tryd.results12, go_sem, h2', h3', h4', y0, y1, y2, y3, y4, y5, y6, y7, y8]
  try rfl

end Go.Proofs.YtdbkkfhneafeiaaDoor
