/-
  The laws of XHeap at an operation of the walk: maps by their keys and values; a store into a block.
-/
import Derived.Test.YtnjfcedkfobbcaaGreatHeap
import Derived.Maps.RangeWalk
import Derived.Maps.OwnSet
import Derived.Handy
import Derived.Laws.AppendOwn
import Derived.Laws.BytesArg
namespace Go.Proofs.YtnjfcedkfobbcaaGreat
open Go Go.RowKit
set_option linter.unusedSectionVars false
set_option linter.unusedSimpArgs false
set_option linter.unusedVariables false

def kInt (k : Int) : Value := .int .i64 k
def kStr (s : ByteArray) : Value := .string s

theorem key_int {P : Program} {kt : TypeId} (h : P.underlying kt = some (.int .i64)) : KeyKind P kt kInt where
  desc := ⟨_, h, fun a b => by simp [Instr.sameNow, kInt]; rfl⟩
  chk := fun e w a => by
    have hu : (underlying kt).run P w = .ok (.int .i64) w := by simp [underlying, program, Sem.run, h]
    unfold Instr.checkKey
    simp only [Sem.run_bind, hu, Result.andThen_ok, kInt]
    rfl
  bits := fun a => by simp [Instr.sameBits, kInt]

theorem key_str {P : Program} {kt : TypeId} (h : P.underlying kt = some .string) : KeyKind P kt kStr where
  desc := ⟨_, h, fun a b => by simp only [Instr.sameNow, kStr, Option.some.injEq]; rw [Bool.eq_iff_iff]; simp only [MapKept.bytes_beq, decide_eq_true_eq]⟩
  chk := fun e w a => by
    have hu : (underlying kt).run P w = .ok .string w := by simp [underlying, program, Sem.run, h]
    unfold Instr.checkKey
    simp only [Sem.run_bind, hu, Result.andThen_ok, kStr]
    rfl
  bits := fun a => by simp only [Instr.sameBits, kStr]; exact (MapKept.bytes_beq a a).2 rfl

section
variable {P : Program} {w : World} {ops : Array Oper} {rest : List Oper} {o : Oper} {a : Act} {Q : Exit → Act → World → Prop}
variable {κ : Type} [DecidableEq κ] {kt et t : TypeId} {kv : κ → Value} {b : Nat} {L : List (κ × Value)}

/-- 'm[k] = v'. -/
theorem law_update (hg : o.guard = none) (m x v : Operand) (t : TypeId) (hop : o.op = .mapUpdate t m x v) (K : KeyKind P kt kv) (ht : P.underlying t = some (.map kt et)) (hm : a.eval m = .map (some b))
    (hat : MapAt w b kv L) (k : κ) (hx : a.eval x = kv k) (hK : ∀ w1, MapAt w1 b kv (aset L k (a.eval v)) → Keep w w1 (fun x => x = b) → wpList P ops Q rest (a.put o.dst undef) w1) : wpList P ops Q (o :: rest) a w := by
  refine wpList_plain hg fun K' hK' => ?_
  obtain ⟨w1, hrun, h1, h2⟩ := update_run (P := P) K ht hat k (a.eval v)
  unfold Oper.wp
  simp [execOp, hop, hm, hx, hrun, Result.andThen]
  exact hK' _ _ (hK w1 h1 h2)

/-- 'm[k]', without 'ok'. -/
theorem law_lookup (hg : o.guard = none) (m x : Operand) (t : TypeId) (hop : o.op = .lookup t m x false) (K : KeyKind P kt kv) (ht : P.underlying t = some (.map kt et)) (hm : a.eval m = .map (some b))
    (hat : MapAt w b kv L) {z : Value} (hz : ∀ w, (zeroValue et).run P w = .ok z w) (k : κ) (hx : a.eval x = kv k) {v : Value} (hv : (aget L k).getD z = v) (hK : wpList P ops Q rest (a.put o.dst v) w) : wpList P ops Q (o :: rest) a w := by
  refine wpList_plain hg fun K' hK' => ?_
  have hrun := lookup_run (P := P) K ht hz hat k false
  unfold Oper.wp
  simp only [Bool.false_eq_true, if_false, hv] at hrun
  simp [execOp, hop, hm, hx, hrun, Result.andThen]
  exact hK' _ _ hK

/-- 'v, ok := m[k]'. -/
theorem law_lookup_ok (hg : o.guard = none) (m x : Operand) (t : TypeId) (hop : o.op = .lookup t m x true) (K : KeyKind P kt kv) (ht : P.underlying t = some (.map kt et)) (hm : a.eval m = .map (some b))
    (hat : MapAt w b kv L) {z : Value} (hz : ∀ w, (zeroValue et).run P w = .ok z w) (k : κ) (hx : a.eval x = kv k) {v : Value} (hv : (aget L k).getD z = v) {i : Bool} (hi : (aget L k).isSome = i) (hK : wpList P ops Q rest (a.put o.dst (.tuple #[v, .bool i])) w) : wpList P ops Q (o :: rest) a w := by
  refine wpList_plain hg fun K' hK' => ?_
  have hrun := lookup_run (P := P) K ht hz hat k true
  unfold Oper.wp
  simp only [if_true, hv, hi] at hrun
  simp [execOp, hop, hm, hx, hrun, Result.andThen]
  exact hK' _ _ hK

/-- 'range m'. -/
theorem law_range (hg : o.guard = none) (m : Operand) (t : TypeId) (hop : o.op = .range t m) (ht : P.underlying t = some (.map kt et)) (hm : a.eval m = .map (some b)) {B : List Nat} {c : Nat}
    (hat : MapAtB w b kv L B c) (hK : ∀ w1 it, it = w.heap.size → IterAt w1 it b L B [] → MapAtB w1 b kv L B c → Keep w w1 (fun _ => False) → it < w1.heap.size → wpList P ops Q rest (a.put o.dst (.pointer (some ⟨it, 0, none⟩))) w1) : wpList P ops Q (o :: rest) a w := by
  refine wpList_plain hg fun K' hK' => ?_
  obtain ⟨w1, hrun, h1, h2, h3, h4⟩ := range_run (P := P) ht hat
  unfold Oper.wp
  simp [execOp, hop, hm, hrun, Result.andThen]
  exact hK' _ _ (hK w1 _ rfl h1 h2 h3 h4)

/-- The next one of a map: over, or one that has not come; 'entry' is told too. -/
theorem law_next (hg : o.guard = none) (i : Operand) (hop : o.op = .next i false) {it : Nat} (hi : a.eval i = .pointer (some ⟨it, 0, none⟩)) {B : List Nat} {c : Nat} {done : List κ}
    (hat : MapAtB w b kv L B c) (hit : IterAt w it b L B done) (hne : it ≠ b)
    (hover : ∀ w1, (∀ x ∈ L, x.1 ∈ done) → Keep w w1 (fun x => x = it) → wpList P ops Q rest (a.put o.dst (.tuple #[.bool false])) w1)
    (hmore : ∀ w1 x, x ∈ L → x.1 ∉ done → (Instr.entry (.pointer (some ⟨it, 0, none⟩))).run P w1 = .ok (.tuple #[kv x.1, x.2]) w1 → MapAtB w1 b kv L B c → IterAt w1 it b L B (x.1 :: done) → Keep w w1 (fun x => x = it) →
      wpList P ops Q rest (a.put o.dst (.tuple #[.bool true, kv x.1, x.2])) w1) : wpList P ops Q (o :: rest) a w := by
  refine wpList_plain hg fun K' hK' => ?_
  rcases next_run (P := P) (t := o.type) hat hit hne with ⟨w1, hrun, h1, h2⟩ | ⟨w1, x, h1, h2, hrun, h3, h4, h5, h6⟩
  · unfold Oper.wp
    simp [execOp, hop, hi, hrun, Result.andThen]
    exact hK' _ _ (hover w1 h1 h2)
  · unfold Oper.wp
    simp [execOp, hop, hi, hrun, Result.andThen]
    exact hK' _ _ (hmore w1 x h1 h2 h3 h4 h5 h6)

/-- 'delete(m, k)'. -/
theorem law_delete (hg : o.guard = none) (m x : Operand) (t kx : TypeId) (hop : o.op = .call { callee := .builtin .delete, args := #[m, x], argTypes := #[t, kx] }) (K : KeyKind P kt kv) (ht : P.underlying t = some (.map kt et)) (hm : a.eval m = .map (some b))
    {B : List Nat} {c : Nat} (hat : MapAtB w b kv L B c) (k : κ) (hx : a.eval x = kv k)
    (hK : ∀ w1 B', MapAtB w1 b kv (adel L k) B' c → (∀ x ∈ (adel L k).zip B', x ∈ L.zip B) → Keep w w1 (fun x => x = b) → wpList P ops Q rest (a.put o.dst (.tuple #[])) w1) : wpList P ops Q (o :: rest) a w := by
  refine wpList_plain hg fun K' hK' => ?_
  obtain ⟨w1, hrun, h1, h2, h3⟩ := delete_run (P := P) (kx := kx) K ht ⟨B, c, hat⟩ k
  obtain ⟨B', h4, h5⟩ := h3 B c hat
  have hrun' : ∀ ty, (Builtin.delete_ #[t, kx] ty #[.map (some b), kv k]).run P w = .ok (.tuple #[]) w1 := fun ty => hrun
  unfold Oper.wp
  simp [execOp, hop, resolve, invoke, builtin, hm, hx, hrun', Result.andThen]
  exact hK' _ _ (hK w1 B' h4 h5 h2)

/-- 'len(m)'. -/
theorem law_len (hg : o.guard = none) (m : Operand) (t : TypeId) (hop : o.op = .call { callee := .builtin .len, args := #[m], argTypes := #[t] }) (ht : P.underlying t = some (.map kt et)) (hm : a.eval m = .map (some b))
    (hat : MapAt w b kv L) (hK : wpList P ops Q rest (a.put o.dst (.int .i64 L.length)) w) : wpList P ops Q (o :: rest) a w := by
  refine wpList_plain hg fun K' hK' => ?_
  obtain ⟨B, c, hl, hb, _⟩ := hat
  have hg : (getObj b).run P w = .ok (.map ((L.zip B).map fun x => ({ key := kv x.1.1, val := x.1.2, born := x.2 } : MapEntry)).toArray c) w := by simp [getObj, Sem.run, hb]
  have hu : (underlying t).run P w = .ok (.map kt et) w := by simp [underlying, program, Sem.run, ht]
  unfold Oper.wp
  simp [execOp, hop, resolve, invoke, builtin, Builtin.len_, hm, hg, hu, Result.andThen, goInt]
  rw [hl, Nat.min_self]
  exact hK' _ _ hK

/-- A store of one cell into a block. -/
theorem law_store (hg : o.guard = none) (p v : Operand) (t : TypeId) (hop : o.op = .store t p v) {off : Nat} {T : TypeId} {c : Array Value} (hp : a.eval p = .pointer (some ⟨b, off, none⟩)) (hb : w.heap[b]? = some (.cells c T (0, 0)))
    (hoff : off < c.size) {x : Value} (hv : a.eval v = x) (hrun : (Instr.storeAt t (.pointer (some ⟨b, off, none⟩)) x).run P w = .ok () (w.setCell ⟨b, off, none⟩ x))
    (hK : ∀ w1, w1.heap[b]? = some (.cells (c.setIfInBounds off x) T (0, 0)) → Keep w w1 (fun x => x = b) → wpList P ops Q rest (a.put o.dst undef) w1) : wpList P ops Q (o :: rest) a w := by
  refine wpList_plain hg fun K' hK' => ?_
  unfold Oper.wp
  simp [execOp, hop, hp, hv, hrun, Result.andThen]
  exact hK' _ _ (hK _ (heap_setCell_eq x hb) (Keep.setCell w _ x))

/-- 'make([]T, n)', an element being one cell. -/
theorem law_make (hg : o.guard = none) (l : Operand) (t et : TypeId) (hop : o.op = .makeSlice t l l) (ht : P.underlying t = some (.slice et)) {z : Value} (hz : ∀ w, (zeroValue et).run P w = .ok z w) (hz1 : z.cells = #[z])
    {i : TypeInfo} (hi : P.info? et = some i) (hs : i.size = 1) (hb : i.bytes ≤ 64) {n : Int} (hl : a.eval l = .int .i64 n) (m : Nat) (hm : n = m) (h1 : n ≤ 2199023255552)
    (hK : ∀ w1 b, b = w.heap.size → w1.heap[b]? = some (.cells (Array.replicate m z) et (0, 0)) → Keep w w1 (fun _ => False) → wpList P ops Q rest (a.put o.dst (.slice (some ⟨b, 0, none⟩) m m)) w1) : wpList P ops Q (o :: rest) a w := by
  have h0 : 0 ≤ n := by omega
  have hm' : m = n.toNat := by omega
  subst hm'
  clear hm
  refine wpList_plain hg fun K' hK' => ?_
  have hu : ∀ w, (underlying t).run P w = .ok (.slice et) w := fun w => by simp [underlying, program, Sem.run, ht]
  have hti : ∀ w, (typeInfo et).run P w = .ok i w := fun w => by simp [typeInfo, program, Sem.run, hi]
  have hso : ∀ w, (sizeOf et).run P w = .ok 1 w := fun w => by simp [sizeOf, Sem.run_bind, hti, hs]
  have hw : IntKind.i64.wrap n = n := IntWalk.i64_in _ (by omega)
  have hbn : (i.bytes : Int) * n ≤ 2 ^ 47 := by
    have : (i.bytes : Int) * n ≤ 64 * n := Int.mul_le_mul_of_nonneg_right (by omega) h0
    omega
  have hroom : ∀ w, (askRoom (n.toNat * i.bytes)).run P w = .ok () w := by
    intro w
    have : ¬ (n.toNat * i.bytes > roomBytes) := by
      have h2 : ((n.toNat * i.bytes : Nat) : Int) = i.bytes * n := by rw [Int.natCast_mul, Int.toNat_of_nonneg h0, Int.mul_comm]
      unfold roomBytes
      omega
    unfold askRoom
    rw [if_neg this]; rfl
  have hrow : ((Array.range n.toNat).map fun x => (if n.toNat = 0 then (#[] : Array Value) else #[z])[x % (if n.toNat = 0 then (#[] : Array Value) else #[z]).size]!) = Array.replicate n.toNat z := by
    by_cases h : n.toNat = 0
    · simp [h]
    · apply Array.ext
      · simp
      · intro j h1 h2
        simp [h, Nat.mod_one]
  have hrun : (Instr.makeSlice t (.int .i64 n) (.int .i64 n)).run P w = .ok (.slice (some ⟨w.heap.size, 0, none⟩) n.toNat n.toNat) (w.alloc (.cells (Array.replicate n.toNat z) et)) := by
    unfold Instr.makeSlice
    have e1 : (decide (n < 0) || decide ((i.bytes : Int) * n > 2 ^ 48)) = false := by
      simp only [Bool.or_eq_false_iff, decide_eq_false_iff_not]
      omega
    simp only [Sem.run_bind, hu, Result.andThen_ok, asInt, asIntOf, Sem.run_pure, hti, hw, e1, Bool.false_or, Bool.or_false, hso, hroom, Nat.mul_one]
    have e2 : (decide (n < 0) || decide (n > n)) = false := by simp only [Bool.or_eq_false_iff, decide_eq_false_iff_not]; omega
    simp only [e2, Bool.false_eq_true, if_false, Sem.run_bind, hroom, Result.andThen_ok, hso, Nat.mul_one]
    by_cases h : n.toNat = 0
    · simp only [h, if_true, if_false, Sem.run_bind, Result.andThen_ok, newRow, run_newObj, Sem.run_pure] at hrow ⊢
      rw [hrow]; rfl
    · simp only [h, if_false, Sem.run_bind, Result.andThen_ok, newRow, run_newObj, Sem.run_pure, hz, hz1] at hrow ⊢
      rw [hrow]; rfl
  unfold Oper.wp
  simp only [execOp, hop, hl, Sem.run_bind, hrun, Result.andThen_ok, Sem.run_pure, Oper.upon_value]
  exact hK' _ _ (hK _ _ rfl (heap_alloc_eq _ _) (Keep.alloc _ _ _))

/-- 'clear(s)', an element being one cell. -/
theorem law_clear (hg : o.guard = none) (s : Operand) (t et : TypeId) (hop : o.op = .call { callee := .builtin .clear, args := #[s], argTypes := #[t] }) (ht : P.underlying t = some (.slice et)) {z : Value} (hz : ∀ w, (zeroValue et).run P w = .ok z w) (hz1 : z.cells = #[z]) (hz2 : oneC z = true)
    {off n cap : Nat} {T : TypeId} {c : Array Value} (hs : a.eval s = .slice (some ⟨b, off, none⟩) n cap) (hn : 0 < n) (hb : w.heap[b]? = some (.cells c T (0, 0))) (hc : off + n ≤ c.size)
    (hK : ∀ w1, w1.heap[b]? = some (.cells (setRange c off (List.replicate n z)) T (0, 0)) → Keep w w1 (fun x => x = b) → wpList P ops Q rest (a.put o.dst (.tuple #[])) w1) : wpList P ops Q (o :: rest) a w := by
  refine wpList_plain hg fun K' hK' => ?_
  have hu : (underlying t).run P w = .ok (.slice et) w := by simp [underlying, program, Sem.run, ht]
  obtain ⟨w1, h1, h2, h3⟩ := storeCells_run (P := P) (List.replicate n z) (fun v hv => by rw [List.eq_of_mem_replicate hv]; exact hz2) off 0 hb (by simp; omega)
  have hzc : (Builtin.zeroCells #[z] n).toList = List.replicate n z := by
    unfold Builtin.zeroCells
    apply List.ext_getElem
    · simp
    · intro i h1 h2; simp [Nat.mod_one]
  have hrun : ∀ ty, (Builtin.clear_ #[t] ty #[.slice (some ⟨b, off, none⟩) n cap]).run P w = .ok (.tuple #[]) w1 := by
    intro ty
    unfold Builtin.clear_
    obtain ⟨m, rfl⟩ : ∃ m, n = m + 1 := ⟨n - 1, by omega⟩
    simp only [List.getElem?_toArray, List.getElem?_cons_zero, Sem.run_bind, hu, Result.andThen_ok, hz, hz1, hzc]
    rw [h1]; rfl
  unfold Oper.wp
  simp [execOp, hop, resolve, invoke, builtin, hs, hrun, Result.andThen]
  exact hK' _ _ (hK w1 (by simpa using h2) h3)

/-- 'x[l:]' of an array behind a pointer, an element being one cell. -/
theorem law_slice_arr (hg : o.guard = none) (x y : Operand) (t et : TypeId) (hop : o.op = .slice t x (some y) none none) {n : Nat} (ht : P.underlying t = some (.array n et)) {i : TypeInfo} (hi : P.info? et = some i) (hs : i.size = 1)
    (hx : a.eval x = .pointer (some ⟨b, 0, none⟩)) {k : Int} (hy : a.eval y = .int .i64 k) (l : Nat) (hk : k = l) (h0 : 0 < l) (h1 : l < n)
    (hK : wpList P ops Q rest (a.put o.dst (.slice (some ⟨b, l, none⟩) (n - l) (n - l))) w) : wpList P ops Q (o :: rest) a w := by
  refine wpList_plain hg fun K' hK' => ?_
  subst hk
  have hu : (underlying t).run P w = .ok (.array n et) w := by simp [underlying, program, Sem.run, ht]
  have hti : (typeInfo et).run P w = .ok i w := by simp [typeInfo, program, Sem.run, hi]
  have hso : (sizeOf et).run P w = .ok 1 w := by simp [sizeOf, Sem.run_bind, hti, hs]
  have hl : (l : Int) ≤ (n : Int) := by omega
  have hrun : (Instr.sliceAt t (.pointer (some ⟨b, 0, none⟩)) (some (.int .i64 l)) none none).run P w = .ok (.slice (some ⟨b, l, none⟩) (n - l) (n - l)) w := by
    unfold Instr.sliceAt Instr.sliceBounds Instr.sliceBound Instr.sureAddr
    simp only [Sem.run_bind, hu, Result.andThen_ok, Sem.run_pure, asIntOf]
    rw [if_pos ⟨by omega, hl⟩]
    simp only [Sem.run_pure, Result.andThen_ok, Int.toNat_natCast, hso, Nat.mul_one]
    rw [if_neg (by omega)]
    simp [Addr.add, show l ≠ 0 by omega]
  unfold Oper.wp
  simp [execOp, hop, hx, hy, hrun, Result.andThen]
  exact hK' _ _ hK

theorem Keep.grown {w w' : World} {r : Option Nat} (h : w.grownBy w' r) : Keep w w' (fun b => some b = r) :=
  ⟨h.size, fun b hb hn => h.block b hb hn, h.os, h.tape, h.output⟩

/-- 'append(s, x...)' onto a row of the call's own; an element is one cell. -/
theorem law_append (hg : o.guard = none) (s x : Operand) (t : TypeId) (ho : o.op = .call { callee := .builtin .append, args := #[s, x], argTypes := #[t, t] })
    (base : Nat) {e : TypeId} {i : TypeInfo} {z : Value} (ht : P.underlying t = some (.slice e)) (hi : P.info? e = some i) (hz : i.zero = some z) (hsize : i.size = 1) (hby : i.bytes ≤ 64) (hzs : z.cells.size = 1)
    {v : Value} {n : Nat} {xs : List Value} (hs : a.eval s = v) (hown : w.ownsRow base e 1 v n xs) {sa : Option Addr} {m c : Nat} (news : List Value) (hx : a.eval x = .slice sa m c) (hl : news.length = m)
    (hnews : m = 0 ∨ ∃ ad, sa = some ad ∧ ∀ j u, news[j]? = some u → w.cell? (ad.add j) = some u) (h1 : ∀ u ∈ news, u.oneCell' = true) (h63 : n + m ≤ 1099511627776) (hbase : base ≤ w.heap.size)
    (hK : ∀ v' w', w'.ownsRow base e 1 v' (n + m) (xs ++ news) → Keep w w' (fun b => some b = v.ownBlock) → wpList P ops Q rest (a.put o.dst v') w') : wpList P ops Q (o :: rest) a w := by
  by_cases hm : m = 0
  · subst hm
    have hnil : news = [] := List.length_eq_zero_iff.1 hl
    subst hnil
    refine wpList_plain hg fun K' hK' => ?_
    have hu : (underlying t).run P w = .ok (.slice e) w := by simp [underlying, program, Sem.run, ht]
    have hti : (typeInfo e).run P w = .ok i w := by simp [typeInfo, program, Sem.run, hi]
    have hso : (sizeOf e).run P w = .ok 1 w := by simp [sizeOf, Sem.run_bind, hti, hsize]
    have hown' := hown
    obtain ⟨h1, h2⟩ := hown
    have hv : ∃ bs sc, v = .slice bs n sc ∧ n ≤ sc := by
      rcases h2 with ⟨rfl, rfl⟩ | ⟨g, cap, cur, rfl, _, _, h, _⟩
      · exact ⟨_, _, rfl, Nat.le_refl _⟩
      · exact ⟨_, _, rfl, h⟩
    obtain ⟨bs, sc, rfl, hnc⟩ := hv
    have hfc : (Builtin.firstCells 1 0 (.slice sa 0 c)).run P w = .ok #[] w := by
      cases sa <;> simp [Builtin.firstCells, loadCells, loadCellsFrom]
    have hrun : ∀ ty, (Builtin.append_ #[t, t] ty #[.slice bs n sc, .slice sa 0 c]).run P w = .ok (.slice bs n sc) w := by
      intro ty
      unfold Builtin.append_
      simp only [List.getElem?_toArray, List.getElem?_cons_zero, List.getElem?_cons_succ, Sem.run_bind, hu, Result.andThen_ok, Sem.run_pure, hso, Builtin.lenOf, Nat.add_zero]
      simp only [Bool.not_false, if_true, Bool.false_eq_true, if_false, Sem.run_bind, Sem.run_pure, Result.andThen_ok, Builtin.lenOf, Nat.add_zero, if_pos hnc, hfc]
      cases bs with
      | none => rfl
      | some ad => simp [storeCells]
    unfold Oper.wp
    simp [execOp, ho, resolve, invoke, builtin, hs, hx, hrun, Result.andThen]
    exact hK' _ _ (hK _ _ (by simpa using hown') (Keep.refl _ _))
  · obtain ⟨ad, rfl, hc⟩ := hnews.resolve_left hm
    exact wpList_append_own w hg s x t ho base e i z 1 i.bytes ht hi hz hsize rfl hzs (by omega) v n xs hs hown ad m c news hx (by omega) hc h1 (by unfold maxLen; omega) (by
      have : (n + m) * i.bytes ≤ 1099511627776 * 64 := Nat.mul_le_mul h63 hby
      omega) hbase fun v' w' h2 h3 _ => hK v' w' h2 (Keep.grown h3)
end

/-- v holds the bytes l, in no block of D. -/
def BytesIn (w : World) (v : Value) (l : List Int) (D : Nat → Prop) : Prop :=
  (∀ c ∈ l, 0 ≤ c ∧ c < 256) ∧ ∃ a cap, v = .slice a l.length cap ∧ (l = [] ∨ ∃ b off, a = some ⟨b, off, none⟩ ∧ ¬ D b ∧ ∀ i, i < l.length → w.cell? ⟨b, off + i, none⟩ = some (.int .u8 (l.getD i 0)))


theorem BytesIn.keep {w w' : World} {v : Value} {l : List Int} {D S : Nat → Prop} (h : BytesIn w v l D) (k : Keep w w' S) (hs : ∀ b, S b → D b) : BytesIn w' v l D := by
  obtain ⟨h1, a, cap, h2, h3⟩ := h
  refine ⟨h1, a, cap, h2, h3.imp id ?_⟩
  rintro ⟨b, off, h4, h5, h6⟩
  exact ⟨b, off, h4, h5, fun i hi => k.cell (h6 i hi) (fun q => h5 (hs b q))⟩

theorem BytesIn.mono {w : World} {v : Value} {l : List Int} {D S : Nat → Prop} (h : BytesIn w v l D) (hs : ∀ b, S b → D b) : BytesIn w v l S := by
  obtain ⟨h1, a, cap, h2, h3⟩ := h
  refine ⟨h1, a, cap, h2, h3.imp id ?_⟩
  rintro ⟨b, off, h4, h5, h6⟩
  exact ⟨b, off, h4, fun q => h5 (hs b q), h6⟩

/-- 'string(b)'. -/
theorem str_run {P : Program} {w : World} (src dst : TypeId) {e : TypeId} (hs : P.underlying src = some (.slice e)) (he : P.underlying e = some (.int .u8)) (hd : P.underlying dst = some .string)
    {v : Value} {l : List Int} {D : Nat → Prop} (hb : BytesIn w v l D) : (convert src dst v).run P w = .ok (.string (strOfNums l)) w := by
  obtain ⟨_, ad, cap, rfl, h3⟩ := hb
  cases ad with
  | none =>
    have hl : l = [] := h3.resolve_right (by rintro ⟨b, off, h, _⟩; cases h)
    subst hl
    exact run_convert_bytes_nil w src e hs he _ _ dst hd
  | some ad =>
    by_cases hl : l = []
    · subst hl
      obtain ⟨b, off, sp⟩ := ad
      have h0 : (loadCells ⟨b, off, sp⟩ 0).run P w = .ok #[] w := by simp [loadCells, loadCellsFrom]
      rw [run_convert_bytes_string w src dst e _ _ cap hs he hd]
      simp [Conv.bytesToString, h0]
      rfl
    · obtain ⟨b, off, h, _, hc⟩ := h3.resolve_left hl
      cases h
      exact run_convert_bytes_arg w src e hs he b off _ cap l rfl hc dst hd

theorem law_str {P : Program} {w : World} {ops : Array Oper} {rest : List Oper} {o : Oper} {a : Act} {Q : Exit → Act → World → Prop}
    (hg : o.guard = none) (src dst : TypeId) (x : Operand) (hop : o.op = .convert src dst x) {e : TypeId} (hs : P.underlying src = some (.slice e)) (he : P.underlying e = some (.int .u8)) (hd : P.underlying dst = some .string)
    {v : Value} (hx : a.eval x = v) {l : List Int} {D : Nat → Prop} (hb : BytesIn w v l D) (hK : wpList P ops Q rest (a.put o.dst (.string (strOfNums l))) w) : wpList P ops Q (o :: rest) a w := by
  refine wpList_plain hg fun K' hK' => ?_
  have hrun := str_run (P := P) src dst hs he hd hb
  unfold Oper.wp
  simp [execOp, hop, hx, hrun, Result.andThen]
  exact hK' _ _ hK

theorem BytesIn.of_own {w : World} {base : Nat} {e : TypeId} {v : Value} {n : Nat} {l : List Int} {D : Nat → Prop} (h : w.ownsRow base e 1 v n (l.map (Value.int .u8))) (hl : ∀ c ∈ l, 0 ≤ c ∧ c < 256) (hD : ∀ b, some b = v.ownBlock → ¬ D b) : BytesIn w v l D := by
  obtain ⟨h1, h2⟩ := h
  have hn : l.length = n := by simpa using h1
  refine ⟨hl, ?_⟩
  rcases h2 with ⟨rfl, rfl⟩ | ⟨g, cap, cur, rfl, _, hb, hc, _, hs, ht⟩
  · have : l = [] := List.length_eq_zero_iff.1 hn
    subst this
    exact ⟨none, 0, rfl, .inl rfl⟩
  · refine ⟨_, cap, by rw [hn], .inr ⟨g, 0, rfl, hD g rfl, fun i hi => ?_⟩⟩
    rw [cell_blk hb, Nat.zero_add]
    have h3 : (cur.toList.take (n * 1))[i]? = (l.map (Value.int .u8))[i]? := by rw [ht]
    rw [List.getElem?_take_of_lt (by omega)] at h3
    simp only [Array.getElem?_toList] at h3
    rw [h3]
    simp [hi]


theorem own_keep {w w' : World} {base : Nat} {e : TypeId} {sz : Nat} {v : Value} {n : Nat} {xs : List Value} {S : Nat → Prop} (h : w.ownsRow base e sz v n xs) (k : Keep w w' S) (hS : ∀ b, some b = v.ownBlock → ¬ S b) : w'.ownsRow base e sz v n xs := by
  refine ⟨h.1, h.2.imp id ?_⟩
  rintro ⟨g, cap, cur, rfl, h1, h2, h3⟩
  exact ⟨g, cap, cur, rfl, h1, k.get h2 (hS g rfl), h3⟩

theorem own_some {w : World} {base : Nat} {e : TypeId} {a : Option Addr} {m cap n : Nat} {xs : List Value} (h : w.ownsRow base e 1 (.slice a m cap) n xs) (hn : 0 < n) : ∃ g, a = some ⟨g, 0, none⟩ ∧ base ≤ g ∧ m = n := by
  rcases h.2 with ⟨h1, rfl⟩ | ⟨g, c, cur, h1, h2, _⟩
  · omega
  · simp only [Value.slice.injEq] at h1
    exact ⟨g, h1.1, h2, h1.2.1⟩

theorem own_cell {w : World} {base : Nat} {e : TypeId} {g cap n : Nat} {m : Nat} {xs : List Value} (h : w.ownsRow base e 1 (.slice (some ⟨g, 0, none⟩) m cap) n xs) {j : Nat} (hj : j < n) :
    w.cell? ⟨g, j, none⟩ = xs[j]? ∧ w.frozen? ⟨g, j, none⟩ = false := by
  obtain ⟨h0, h⟩ := h
  rcases h with ⟨h1, _⟩ | ⟨g', c, cur, h1, h2, h3, h4, h5, h6, h7⟩
  · cases h1
  · simp only [Value.slice.injEq, Option.some.injEq, Addr.mk.injEq] at h1
    obtain ⟨⟨rfl, _⟩, _⟩ := h1
    refine ⟨?_, free_blk h3 _⟩
    rw [cell_blk h3, ← h7, List.getElem?_take_of_lt (by omega)]
    simp

theorem own_set {w : World} {base : Nat} {e : TypeId} {g cap n : Nat} {m : Nat} {xs : List Value} (h : w.ownsRow base e 1 (.slice (some ⟨g, 0, none⟩) m cap) n xs) {j : Nat} (hj : j < n) (u : Value) :
    (w.setCell ⟨g, j, none⟩ u).ownsRow base e 1 (.slice (some ⟨g, 0, none⟩) m cap) n (xs.set j u) := by
  obtain ⟨h0, h⟩ := h
  refine ⟨by simpa using h0, .inr ?_⟩
  rcases h with ⟨h1, _⟩ | ⟨g', c, cur, h1, h2, h3, h4, h5, h6, h7⟩
  · cases h1
  · have h1' := h1
    simp only [Value.slice.injEq, Option.some.injEq, Addr.mk.injEq] at h1
    obtain ⟨⟨rfl, _⟩, _⟩ := h1
    refine ⟨g, c, cur.setIfInBounds j u, h1', h2, heap_setCell_eq u h3, h4, h5, by simpa using h6, ?_⟩
    rw [← h7, Array.toList_setIfInBounds, List.take_set]

end Go.Proofs.YtnjfcedkfobbcaaGreat
