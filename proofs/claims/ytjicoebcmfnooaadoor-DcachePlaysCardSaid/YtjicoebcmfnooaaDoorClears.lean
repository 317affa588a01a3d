/-
  'clear' at a row of records; a delete in a row of one's own (slices.Delete) by what it leaves.
-/
import Derived.Test.YtjicoebcmfnooaaDoorHeaps
import Derived.Deep.RegionLaw
import Derived.Laws.IdiomCopy
namespace Go.Proofs.YtjicoebcmfnooaaDoor
open Go Go.RowKit
set_option linter.unusedSectionVars false
set_option linter.unusedSimpArgs false
set_option linter.unusedVariables false

section
variable {P : Program} {w : World} {ops : Array Oper} {rest : List Oper} {o : Oper} {a : Act} {Q : Exit → Act → World → Prop} {b : Nat}

/-- 'clear(s)', whatever an element's cells are. -/
theorem law_clear_any (hg : o.guard = none) (s : Operand) (t et : TypeId) (hop : o.op = .call { callee := .builtin .clear, args := #[s], argTypes := #[t] }) (ht : P.underlying t = some (.slice et)) {z : Value} (hz : ∀ w, (zeroValue et).run P w = .ok z w) (hz2 : ∀ v ∈ z.cells, oneC v = true)
    {sz off n cap : Nat} {T : TypeId} {c : Array Value} (hsz : z.cells.size = sz) (hs : a.eval s = .slice (some ⟨b, off, none⟩) n cap) (hn : 0 < n) (hb : w.heap[b]? = some (.cells c T (0, 0))) (hc : off + sz * n ≤ c.size)
    (hK : ∀ w1 vs, vs.length = sz * n → w1.heap[b]? = some (.cells (setRange c off vs) T (0, 0)) → Keep w w1 (fun x => x = b) → wpList P ops Q rest (a.put o.dst (.tuple #[])) w1) : wpList P ops Q (o :: rest) a w := by
  refine wpList_plain hg fun K' hK' => ?_
  have hu : (underlying t).run P w = .ok (.slice et) w := by simp [underlying, program, Sem.run, ht]
  have hlen : (Builtin.zeroCells z.cells n).toList.length = sz * n := by unfold Builtin.zeroCells; simp [hsz, Nat.mul_comm]
  have hone : ∀ v ∈ (Builtin.zeroCells z.cells n).toList, oneC v = true := by
    intro v hv
    unfold Builtin.zeroCells at hv
    simp at hv
    obtain ⟨i, hi, rfl⟩ := hv
    refine hz2 _ ?_
    have h0 : 0 < z.cells.size := by
      rcases Nat.eq_zero_or_pos z.cells.size with q | q
      · rw [q] at hi; simp at hi
      · exact q
    have h1 : i % z.cells.size < z.cells.size := Nat.mod_lt _ h0
    simp [h1]
  obtain ⟨w1, h1, h2, h3⟩ := storeCells_run (P := P) (Builtin.zeroCells z.cells n).toList hone off 0 hb (by rw [hlen]; omega)
  have hrun : ∀ ty, (Builtin.clear_ #[t] ty #[.slice (some ⟨b, off, none⟩) n cap]).run P w = .ok (.tuple #[]) w1 := by
    intro ty
    unfold Builtin.clear_
    obtain ⟨m, rfl⟩ : ∃ m, n = m + 1 := ⟨n - 1, by omega⟩
    simp only [List.getElem?_toArray, List.getElem?_cons_zero, Sem.run_bind, hu, Result.andThen_ok, hz]
    rw [h1]; rfl
  unfold Oper.wp
  simp [execOp, hop, resolve, invoke, builtin, hs, hrun, Result.andThen]
  exact hK' _ _ (hK w1 _ hlen (by simpa using h2) h3)
end

/-- What is known of a row's block. -/
theorem rows_block {w : World} {e : TypeId} {sz g cap n : Nat} {xs : List Value} (h : w.ownsRow 0 e sz (.slice (some ⟨g, 0, none⟩) n cap) n xs) : ∃ cur, w.heap[g]? = some (.cells cur e (0, 0)) ∧ n ≤ cap ∧ cap ≤ maxLen ∧ cur.size = cap * sz ∧ cur.toList.take (n * sz) = xs := by
  obtain ⟨_, h⟩ := h
  rcases h with ⟨h1, _⟩ | ⟨g', cap', cur, h1, _, h3, h4, h5, h6, h7⟩
  · simp at h1
  · simp only [Value.slice.injEq, Option.some.injEq, Addr.mk.injEq, true_and, and_true] at h1
    obtain ⟨rfl, rfl⟩ := h1
    exact ⟨cur, h3, h4, h5, h6, h7⟩

theorem rows_mk {w : World} {e : TypeId} {sz g cap n : Nat} {cur : Array Value} {xs : List Value} (h : w.heap[g]? = some (.cells cur e (0, 0))) (hn : n ≤ cap) (hc : cap ≤ maxLen) (hs : cur.size = cap * sz) (hx : cur.toList.take (n * sz) = xs) : w.ownsRow 0 e sz (.slice (some ⟨g, 0, none⟩) n cap) n xs := by
  refine ⟨?_, .inr ⟨g, cap, cur, rfl, Nat.zero_le _, h, hn, hc, hs, hx⟩⟩
  rw [← hx, List.length_take, Array.length_toList, hs]
  have : n * sz ≤ cap * sz := Nat.mul_le_mul_right _ hn
  omega

theorem setCells_blk (vs : List Value) : ∀ {w : World} {b off : Nat} {c : Array Value} {t : TypeId}, w.heap[b]? = some (.cells c t (0, 0)) → (w.setCells b off vs).heap[b]? = some (.cells (setRange c off vs) t (0, 0)) ∧ Keep w (w.setCells b off vs) (fun x => x = b) := by
  induction vs with
  | nil => intro w b off c t h; exact ⟨h, Keep.refl _ _⟩
  | cons v r ih =>
    intro w b off c t h
    obtain ⟨h1, h2⟩ := ih (off := off + 1) (heap_setCell_eq v (off := off) h)
    exact ⟨h1, (Keep.setCell w ⟨b, off, none⟩ v).trans h2 (fun x q => .inl q)⟩

theorem setRange_take {c : Array Value} {k : Nat} {xs news : List Value} (hx : c.toList.take k = xs) (hk : xs.length = k) (hc : k + news.length ≤ c.size) : (setRange c k news).toList.take (k + news.length) = xs ++ news := by
  apply List.ext_getElem?
  intro i
  rw [List.getElem?_take]
  by_cases hi : i < k + news.length
  · rw [if_pos hi, Array.getElem?_toList, setRange_get _ _ _ _ hc]
    by_cases h2 : i < k
    · rw [if_neg (by omega), List.getElem?_append_left (by omega), ← hx, List.getElem?_take, if_pos h2, Array.getElem?_toList]
    · rw [if_pos (by omega), List.getElem?_append_right (by omega), hk]
  · rw [if_neg hi]
    symm
    rw [List.getElem?_eq_none]
    rw [List.length_append, hk]
    omega

section
variable {P : Program} {ops : Array Oper} {o : Oper} {a : Act} {w : World} {K : Act → World → Prop} {Q : Exit → Act → World → Prop} {E : Prop}

/-- 'append' within a row's room, as one step of a region that draws. -/
theorem step_append_in (hg : o.guard = none) (s x : Operand) (t : TypeId) (hop : o.op = Op.call { callee := Callee.builtin Builtin.append, args := #[s, x], argTypes := #[t, t] })
    (e : TypeId) {i : TypeInfo} {sz : Nat} (h1 : P.underlying t = some (.slice e)) (h2 : P.info? e = some i) (h4 : i.size = sz)
    {g n cap : Nat} {xs : List Value} (hown : w.ownsRow 0 e sz (.slice (some ⟨g, 0, none⟩) n cap) n xs) (hs : a.eval s = .slice (some ⟨g, 0, none⟩) n cap)
    (ad : Addr) (m c : Nat) (news : List Value) (hx : a.eval x = .slice (some ad) m c) (hn : news.length = m * sz) (hc : ∀ j u, news[j]? = some u → w.cell? (ad.add j) = some u) (h1c : ∀ u ∈ news, u.oneCell' = true)
    (hroom : n + m ≤ cap) (N : Nat) (hN : n + m = N) (hK : ∀ w', w'.ownsRow 0 e sz (.slice (some ⟨g, 0, none⟩) N cap) N (xs ++ news) → Keep w w' (fun b => b = g) → K (a.put o.dst (.slice (some ⟨g, 0, none⟩) N cap)) w') :
    if Region.wanted o (yielded ops a.tmps) = true then Oper.wp P o a w K Q else E := by
  subst hN
  obtain ⟨cur, hb, hnc, hcap, hcs, hxs⟩ := rows_block hown
  have hle : (n + m) * sz ≤ cap * sz := Nat.mul_le_mul_right _ hroom
  rw [Nat.add_mul] at hle
  have hsz : 0 + n * sz = n * sz := Nat.zero_add _
  refine step_append_room hg s x t hop e i sz h1 h2 h4 g 0 n cap hs ad m c news hx hn hc h1c hroom (fun j hj => ?_) ?_
  · refine ⟨?_, free_blk hb _⟩
    rw [cell_blk hb, Array.getElem?_eq_getElem (by omega)]
    rfl
  · rw [hsz]
    obtain ⟨q1, q2⟩ := setCells_blk news (off := n * sz) hb
    refine hK _ (rows_mk q1 (by omega) hcap (by rw [setRange_size]; exact hcs) ?_) q2
    have := setRange_take hxs hown.1 (by rw [hn]; omega)
    rw [hn, ← Nat.add_mul] at this
    exact this
end

end Go.Proofs.YtjicoebcmfnooaaDoor
