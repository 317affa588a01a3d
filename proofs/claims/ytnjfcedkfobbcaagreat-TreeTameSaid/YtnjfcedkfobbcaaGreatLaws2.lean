/-
  More laws at operations: rows of bytes as functions of the place, copy.
-/
import Derived.Test.YtnjfcedkfobbcaaGreatLaws
namespace Go.Proofs.YtnjfcedkfobbcaaGreat
open Go Go.RowKit
set_option linter.unusedSectionVars false
set_option linter.unusedSimpArgs false
set_option linter.unusedVariables false

def rowF (n : Nat) (g : Int → Int) : Array Value := ((List.range n).map fun (i : Nat) => Value.int .u8 (g i)).toArray
def listF (n : Nat) (g : Int → Int) : List Int := (List.range n).map fun (i : Nat) => g i
def putF (g : Int → Int) (off : Int) (l : List Int) : Int → Int := fun p => if off ≤ p ∧ p < off + l.length then l.getD (p - off).toNat 0 else g p

theorem putF_nil (g : Int → Int) (off : Int) {l : List Int} (h : l.length ≤ 0) : putF g off l = g := by
  funext p
  unfold putF
  rw [if_neg (by omega)]

theorem rowF_list (n : Nat) (g : Int → Int) : rowF n g = ((listF n g).map (Value.int .u8)).toArray := by simp [rowF, listF]
theorem listF_len (n : Nat) (g : Int → Int) : (listF n g).length = n := by simp [listF]
theorem rowF_size (n : Nat) (g : Int → Int) : (rowF n g).size = n := by simp [rowF]
theorem rowF_get (n : Nat) (g : Int → Int) (i : Nat) (h : i < n) : (rowF n g)[i]? = some (.int .u8 (g i)) := by simp [rowF, h]
theorem rowF_zero (n : Nat) : rowF n (fun _ => 0) = Array.replicate n (.int .u8 0) := by
  apply Array.ext
  · simp [rowF]
  · intro i h1 h2; simp [rowF]
theorem rowF_congr {n : Nat} {g h : Int → Int} (e : ∀ i : Nat, i < n → g i = h i) : rowF n g = rowF n h := by
  unfold rowF
  congr 1
  exact List.map_congr_left (fun i hi => by rw [e i (List.mem_range.1 hi)])
theorem listF_congr {n : Nat} {g h : Int → Int} (e : ∀ i : Nat, i < n → g i = h i) : listF n g = listF n h := by
  unfold listF
  exact List.map_congr_left (fun i hi => by rw [e i (List.mem_range.1 hi)])

theorem rowF_put (n : Nat) (g : Int → Int) (off : Nat) (l : List Int) (h : off + l.length ≤ n) : setRange (rowF n g) off (l.map (Value.int .u8)) = rowF n (putF g off l) := by
  apply Array.ext_getElem?
  intro i
  rw [setRange_get _ _ _ _ (by simp [rowF_size]; exact h)]
  by_cases hi : i < n
  · rw [rowF_get _ _ _ hi, rowF_get _ _ _ hi]
    simp only [List.length_map, putF]
    by_cases h1 : off ≤ i ∧ i < off + l.length
    · rw [if_pos h1, if_pos (by omega)]
      have e : ((i : Int) - (off : Int)).toNat = i - off := by omega
      have h2 : i - off < l.length := by omega
      rw [e]
      simp [h2]
    · rw [if_neg h1, if_neg (by omega)]
  · rw [if_neg (by simp; omega), Array.getElem?_eq_none (by rw [rowF_size]; omega), Array.getElem?_eq_none (by rw [rowF_size]; omega)]

theorem rowF_bytes {w : World} {b n cap : Nat} {T : TypeId} {g : Int → Int} {D : Nat → Prop} (h : w.heap[b]? = some (.cells (rowF n g) T (0, 0))) (hg : ∀ i : Nat, i < n → 0 ≤ g i ∧ g i < 256) (hD : ¬ D b) : BytesIn w (.slice (some ⟨b, 0, none⟩) n cap) (listF n g) D := by
  refine ⟨?_, _, cap, by rw [listF_len], .inr ⟨b, 0, rfl, hD, fun i hi => ?_⟩⟩
  · intro c hc
    obtain ⟨i, hi, rfl⟩ := List.mem_map.1 hc
    exact hg i (List.mem_range.1 hi)
  · rw [listF_len] at hi
    rw [cell_blk h, Nat.zero_add, rowF_get _ _ _ hi]
    simp [listF, hi]

section
variable {P : Program} {w : World} {ops : Array Oper} {rest : List Oper} {o : Oper} {a : Act} {Q : Exit → Act → World → Prop}

theorem loadCells_bytes (l : List Int) : ∀ {w : World} {b off : Nat} (acc : Array Value) (i : Nat), (∀ j, j < l.length → w.cell? ⟨b, off + (i + j), none⟩ = some (.int .u8 (l.getD j 0))) →
    (loadCellsFrom ⟨b, off, none⟩ i l.length acc).run P w = .ok (acc ++ (l.map (Value.int .u8)).toArray) w := by
  induction l with
  | nil => intro w b off acc i _; simp [loadCellsFrom]
  | cons x r ih =>
    intro w b off acc i h
    have h0 := h 0 (by simp)
    have ha : (Addr.add ⟨b, off, none⟩ i) = ⟨b, off + i, none⟩ := by
      unfold Addr.add
      split
      · rename_i h0; subst h0; rfl
      · rfl
    have h1 : w.cell? ⟨b, off + i, none⟩ = some (.int .u8 x) := by simpa using h0
    simp only [List.length_cons, loadCellsFrom, ha, Sem.run_bind, run_load, h1, Result.andThen_ok]
    rw [ih _ (i + 1) (fun j hj => by
      have := h (j + 1) (by simp; omega)
      have e : i + 1 + j = i + (j + 1) := by omega
      rw [e, this]
      simp)]
    simp

/-- 'copy(d, s)': bytes into a row that has room for all. -/
theorem law_copy (hg : o.guard = none) (d s : Operand) (t1 t2 et : TypeId) (hop : o.op = .call { callee := .builtin .copy, args := #[d, s], argTypes := #[t1, t2] }) (ht : P.underlying t1 = some (.slice et)) {i : TypeInfo} (hi : P.info? et = some i) (hsz : i.size = 1)
    {b off n cap m : Nat} {T : TypeId} {g : Int → Int} (hd : a.eval d = .slice (some ⟨b, off, none⟩) n cap) {v : Value} (hs : a.eval s = v) {l : List Int} {D : Nat → Prop} (hl : BytesIn w v l D) (hb : w.heap[b]? = some (.cells (rowF m g) T (0, 0)))
    (hn : l.length ≤ n) (hm : off + n ≤ m)
    (hK : ∀ w1, w1.heap[b]? = some (.cells (rowF m (putF g off l)) T (0, 0)) → Keep w w1 (fun x => x = b) → wpList P ops Q rest (a.put o.dst (.int .i64 l.length)) w1) : wpList P ops Q (o :: rest) a w := by
  refine wpList_plain hg fun K' hK' => ?_
  obtain ⟨_, ad, c, rfl, h3⟩ := hl
  have hu : (underlying t1).run P w = .ok (.slice et) w := by simp [underlying, program, Sem.run, ht]
  have hti : (typeInfo et).run P w = .ok i w := by simp [typeInfo, program, Sem.run, hi]
  have hso : (sizeOf et).run P w = .ok 1 w := by simp [sizeOf, Sem.run_bind, hti, hsz]
  have hmin : Nat.min l.length n = l.length := Nat.min_eq_left hn
  have hfc : (Builtin.firstCells 1 l.length (.slice ad l.length c)).run P w = .ok (l.map (Value.int .u8)).toArray w := by
    rcases h3 with rfl | ⟨b', off', rfl, _, hc⟩
    · cases ad <;> simp [Builtin.firstCells, loadCells, loadCellsFrom]
    · unfold Builtin.firstCells loadCells
      rw [Nat.mul_one, loadCells_bytes l #[] 0 (fun j hj => by rw [Nat.zero_add]; exact hc j hj)]
      simp
  obtain ⟨w1, h4, h5, h6⟩ := storeCells_run (P := P) (l.map (Value.int .u8)) (fun v hv => by obtain ⟨x, _, rfl⟩ := List.mem_map.1 hv; rfl) off 0 hb (by simp [rowF_size]; omega)
  have hrun : ∀ ty, (Builtin.copy_ #[t1, t2] ty #[.slice (some ⟨b, off, none⟩) n cap, .slice ad l.length c]).run P w = .ok (.int .i64 l.length) w1 := by
    intro ty
    unfold Builtin.copy_
    simp only [List.getElem?_toArray, List.getElem?_cons_zero, List.getElem?_cons_succ, Sem.run_bind, hu, Result.andThen_ok, Builtin.lenOf, Sem.run_pure, hso, hmin, hfc]
    rw [h4]; rfl
  unfold Oper.wp
  simp [execOp, hop, resolve, invoke, builtin, hd, hs, hrun, Result.andThen]
  refine hK' _ _ (hK w1 ?_ h6)
  rw [h5, Nat.add_zero, rowF_put _ _ _ _ (by omega)]

end
end Go.Proofs.YtnjfcedkfobbcaaGreat
