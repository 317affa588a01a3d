/-
  name.parts: the iterator's contract.
-/
import Derived.Test.YtlbekofkhjkniaaDoorSplit
namespace Go.Proofs.YtlbekofkhjkniaaDoor
open Go Go.RowKit Go.Shelf
set_option linter.unusedSectionVars false
set_option linter.unusedSimpArgs false
set_option linter.unusedVariables false
attribute [local go_sem] Oper.semAt_some

def neB (x : ByteArray) : Bool := decide (x.data.toList ≠ [])

theorem parts_filter (s : Bl) : ((pieces s).map txB).filter neB = (parts s).map txB := by
  unfold parts
  rw [List.filter_map]
  rfl

/-- What a round must leave alone. -/
def Kn (n : Nat) (U U' : World) : Prop := KeepsFrom n U U' ∧ ∀ b, n ≤ b → b < n + 4 → U'.heap[b]? = U.heap[b]?

theorem Kn.refl (n : Nat) (U : World) : Kn n U U := ⟨KeepsFrom.refl _ _, fun _ _ _ => rfl⟩
theorem Kn.trans {n : Nat} {A B C : World} (h : Kn n A B) (k : Kn n B C) : Kn n A C := ⟨h.1.trans k.1, fun b h1 h2 => (k.2 b h1 h2).trans (h.2 b h1 h2)⟩

set_option maxRecDepth 100000 in
set_option maxHeartbeats 2000000 in
theorem parts1_c (l bs : Nat) (s : Bl) (hs : s.length ≤ 1000000) (J Jx : List ByteArray → World → Prop) (W : World) (hJ : AbidesX W.heap.size (fun b => b = W.heap.size + 1) J) (hJx : AbidesX W.heap.size (fun b => b = W.heap.size + 1) Jx)
    (hY : ∀ pre x U, J pre U → W.heap.size + 6 ≤ U.heap.size → pre.length ≤ 1000000 → YieldAt Fence.wide 7 Tryd.prog l #[.string x] U fun e U' => (e = .returned (.bool true) ∧ J (pre ++ [x]) U' ∧ Kn W.heap.size U U' ∧ U.heap.size ≤ U'.heap.size) ∨ (e = .returned (.bool false) ∧ Jx (pre ++ [x]) U' ∧ Kn W.heap.size U U'))
    (hW : W.heap[bs]? = some (.cells #[.string (txB s)] 9 (0, 0))) (h0 : J [] W) :
    Calls Tryd.prog 27 #[.func (.yield l) #[] #[], .pointer (some ⟨bs, 0, none⟩)] W fun e U => (∃ v, e = .returned v) ∧
      ((∃ xs, xs = (parts s).map txB ∧ J xs U) ∨ (∃ pre, pre <+: (parts s).map txB ∧ Jx pre U)) := by
  obtain ⟨n, hn⟩ : ∃ n, n = W.heap.size := ⟨_, rfl⟩
  obtain ⟨o1, ho1⟩ : ∃ o, o = Obj.cells #[.func (.yield l) #[] #[]] 32 (0, 0) := ⟨_, rfl⟩
  have kW1 := Keep.alloc W o1 (fun _ => False)
  have c1 : (W.alloc o1).cell? ⟨bs, 0, none⟩ = some (.string (txB s)) := by rw [cell_blk (kW1.get hW (fun q => q))]; rfl
  have hsp := split_c (W.alloc o1) (txB s)
  rw [ho1] at c1 hsp
  refine calls_marks Tryd.func27 rfl ?_
  simp only [Tryd.ntmps27, List.size_toArray, List.length_cons, List.length_nil, Nat.reduceAdd, Nat.reduceSub, Array.replicate_succ, Array.replicate_zero, List.push_toArray, List.append_toArray, List.nil_append, List.cons_append]
  go_wp2_with (
    go_at_call 28
    refine hsp.mono ?_
    rintro e w4 ⟨rfl, hw4⟩
    have HW4 := Lib.hid hw4
    clear hw4)
  have hw4 := HW4.out
  have hj := h0
  obtain ⟨k4, b0, hS4, z4⟩ : Keep W w4 (fun _ => False) ∧ w4.heap[W.heap.size]? = some (.cells #[.func (.yield l) #[] #[]] 32 (0, 0)) ∧ SplW w4 (W.heap.size + 1 + 1) (W.heap.size + 1) (W.heap.size + 1 + 1 + 1) s ∧ w4.heap.size = W.heap.size + 4 := by
    have k1 := Keep.alloc W (.cells #[.func (.yield l) #[] #[]] 32) (fun _ => False)
    have g1 := heap_alloc_eq W (.cells #[.func (.yield l) #[] #[]] 32)
    have e1 : (W.alloc (.cells #[.func (.yield l) #[] #[]] 32)).heap.size = W.heap.size + 1 := by simp
    generalize W.alloc (.cells #[.func (.yield l) #[] #[]] 32) = w1 at *
    have k2 := Keep.alloc w1 (.cells #[.string (txB s)] 9) (fun _ => False)
    have g2 := heap_alloc_eq w1 (.cells #[.string (txB s)] 9)
    have e2 : (w1.alloc (.cells #[.string (txB s)] 9)).heap.size = w1.heap.size + 1 := by simp
    generalize w1.alloc (.cells #[.string (txB s)] 9) = w2 at *
    have k3 := Keep.alloc w2 (.cells #[.string ⟨#[47]⟩] 9) (fun _ => False)
    have g3 := heap_alloc_eq w2 (.cells #[.string ⟨#[47]⟩] 9)
    have e3 : (w2.alloc (.cells #[.string ⟨#[47]⟩] 9)).heap.size = w2.heap.size + 1 := by simp
    generalize w2.alloc (.cells #[.string ⟨#[47]⟩] 9) = w3 at *
    have k4 := Keep.alloc w3 (.cells #[.int .i64 0] 3) (fun _ => False)
    have g4 := heap_alloc_eq w3 (.cells #[.int .i64 0] 3)
    have e4 : (w3.alloc (.cells #[.int .i64 0] 3)).heap.size = w3.heap.size + 1 := by simp
    rw [← hw4] at k4 g4 e4
    refine ⟨((k1.trans k2 (fun _ q => q.elim)).trans k3 (fun _ q => q.elim)).trans k4 (fun _ q => q.elim), k4.get (k3.get (k2.get g1 (fun q => q)) (fun q => q)) (fun q => q), ⟨?_, ?_, ?_, by omega⟩, by omega⟩
    · have := k4.get g3 (fun q => q); rwa [e2, e1] at this
    · have := k4.get (k3.get g2 (fun q => q)) (fun q => q); rwa [e1] at this
    · rwa [e3, e2, e1] at g4
  clear hw4 HW4 hsp c1 kW1 ho1
  have HS := Lib.hid (And.intro hS4 (And.intro k4 (And.intro b0 z4)))
  have ht : ∀ {A A' : World}, Keep A A' (Turns w4.heap.size (fun b => b = W.heap.size + 1) A) → Keep A A' (Turns W.heap.size (fun b => b = W.heap.size + 1) A) := fun k => k.mono fun b q => q.imp id (fun ⟨q1, q2⟩ => ⟨by have := HS.out.2.2.2; omega, q2⟩)
  have hnb : ∀ {A : World}, ¬ Turns w4.heap.size (fun b => b = W.heap.size + 1) A W.heap.size := fun q => by
    have := HS.out.2.2.2
    rcases q with q | q
    · have q' : W.heap.size = W.heap.size + 1 := q; omega
    · have := q.1; omega
  have hkb : ∀ {n : Nat} {U U' : World}, n = W.heap.size → Kn n U U' → Kb (W.heap.size + 1 + 1) (W.heap.size + 1) (W.heap.size + 1 + 1 + 1) U U' := fun e k => by
    subst e
    exact ⟨k.2 _ (by omega) (by omega), k.2 _ (by omega) (by omega), k.2 _ (by omega) (by omega)⟩
  clear hS4 k4 b0 z4
  refine wp_rangeC (j := 3) (gf := 36) (lb := #[.pointer (some ⟨W.heap.size + 1 + 1, 0, none⟩), .pointer (some ⟨W.heap.size + 1, 0, none⟩), .pointer (some ⟨W.heap.size + 1 + 1 + 1, 0, none⟩)]) rfl (enters_of Tryd.func36 (by kernel_rfl) rfl)
    (split_seq _ _ _ s hs w4 HS.out.1 (by have := HS.out.2.2.2; omega)) (fun b q => .inl (by have q' : b = W.heap.size + 1 := q; have := HS.out.2.2.2; omega))
    (fun h k => ⟨k.1.trans h.1, k.2.1.trans h.2.1, k.2.2.trans h.2.2⟩)
    (fun A l' o o' hl ho hc hw => by
      have := HS.out.2.2.2
      refine ⟨?_, ?_, ?_⟩ <;> exact World.putObj_heap_other (by omega))
    (fun pre U => J (pre.filter neB) U ∧ U.heap[W.heap.size]? = some (.cells #[.func (.yield l) #[] #[]] 32 (0, 0)))
    (fun c pre U => c = .ret ∧ Jx (pre.filter neB) U)
    (fun a A A' h k => ⟨hJ _ _ _ h.1 (ht k), k.get h.2 hnb⟩)
    (fun c a A A' h k => ⟨h.1, hJx _ _ _ h.2 (ht k)⟩)
    ⟨hJ _ _ _ h0 (HS.out.2.1.mono fun _ q => q.elim), HS.out.2.2.1⟩
    ?assign ?body ?done ?stop
  case assign =>
    intro l' x U K hK
    gi_wp2
    exact hK
  case body =>
    rintro l' pre x U ⟨hj2, hb2⟩ hsz hpl
    have hz4 := HS.out.2.2.2
    have q0 : U.cell? ⟨W.heap.size, 0, none⟩ = some (.func (.yield l) #[] #[]) := by rw [cell_blk hb2]; rfl
    have hfl : (pre ++ [x]).filter neB = pre.filter neB ++ if x.data.toList ≠ [] then [x] else [] := by
      rw [List.filter_append]
      congr 1
      by_cases h : x.data.toList = [] <;> simp [neB, h]
    have hkf : ∀ {U' : World}, Kn W.heap.size U U' → KeepsFrom w4.heap.size U U' := fun k => ⟨k.1.size, fun b o hB hb ho => k.1.same b o (by omega) hb ho⟩
    by_cases hx : x.data.toList = []
    · have hx1 : x.toList = [] := by rw [ByteArray.toList_eq]; exact hx
      rw [if_neg (by simpa using hx), List.append_nil] at hfl
      have HF := Lib.hid (And.intro hfl (And.intro hj2 hb2))
      clear hfl hx hj2 hb2
      gi_wp2
      refine ⟨fun _ h => (by cases h), ?_⟩
      gi_wp2
      exact ⟨KeepsFrom.refl _ _, ⟨rfl, rfl, rfl⟩, by rw [HF.out.1]; exact HF.out.2.1, HF.out.2.2⟩
    · have hx1 : ¬ x.toList = [] := by rw [ByteArray.toList_eq]; exact hx
      have hx2 : x.toList.isEmpty = false := by rw [List.isEmpty_eq_false_iff]; exact hx1
      rw [if_pos hx] at hfl
      obtain ⟨fn, tmps, assign, body, hy, hR⟩ := hY (pre.filter neB) x U hj2 (by omega) (Nat.le_trans (List.length_filter_le _ _) hpl)
      have HF := Lib.hid (And.intro hfl (And.intro hb2 hsz))
      clear hfl hx hj2 hb2 hsz
      gi_wp2
      refine (RoundIn.inRound (RoundIn.wide hR) l').mono ?_
      rintro e U' (⟨rfl, hj3, hk3, hz3⟩ | ⟨rfl, hx3, hk3⟩)
      · gi_wp2
        exact ⟨hkf hk3, hkb rfl hk3, by rw [HF.out.1]; exact hj3, (hk3.2 _ (Nat.le_refl _) (by omega)).trans HF.out.2.1⟩
      · gi_wp2
        exact ⟨hkf hk3, hkb rfl hk3, rfl, by rw [HF.out.1]; exact hx3⟩
  case done =>
    rintro D xs U hD rfl ⟨hj2, hb2⟩ hK
    have hz4 := HS.out.2.2.2
    rw [parts_filter] at hj2
    refine leaves_mark hK (fun w' kk => ⟨_, results_none rfl _ _ _, ⟨_, rfl⟩, .inl ⟨_, rfl, hJ _ _ _ hj2 (kk.mono fun b q => .inr ?_)⟩⟩)
    have q' : b = D := q
    subst q'
    exact ⟨by omega, _, hK, rfl⟩
  case stop =>
    rintro D c pre U hD hpre ⟨rfl, hx2⟩ hK
    have hz4 := HS.out.2.2.2
    have hpf : pre.filter neB <+: (parts s).map txB := by
      rw [← parts_filter]
      exact List.IsPrefix.filter _ hpre
    have HP := Lib.hid (And.intro hpf hx2)
    clear hpf hx2 hpre
    go_wp2
    refine leaves_mark hK (fun w' kk => ⟨_, results_none rfl _ _ _, ⟨_, rfl⟩, .inr ⟨_, HP.out.1, hJx _ _ _ HP.out.2 (kk.mono fun b q => .inr ?_)⟩⟩)
    have q' : b = D := q
    subst q'
    exact ⟨by omega, _, hK, rfl⟩

theorem parts_seq (bs : Nat) (s : Bl) (hs : s.length ≤ 1000000) (w : World) (hW : w.heap[bs]? = some (.cells #[.string (txB s)] 9 (0, 0))) :
    SeqC 8 Tryd.prog 27 #[.pointer (some ⟨bs, 0, none⟩)] (fun x : ByteArray => Value.string x) (fun n b => b = n + 1) 6 Kn (fun xs => xs = (parts s).map txB) (fun pre => pre <+: (parts s).map txB) w := fun l J Jx W hB hJ hJx hY h0 =>
  callsIn_wide.2 (parts1_c l bs s hs J Jx W hJ hJx hY ((Keep.of_below hB).get hW (fun q => by have := lt_of_blk hW; omega)) h0)

theorem parts_c (w : World) (s : ByteArray) :
    Calls Tryd.prog 24 #[.string s] w fun r w' => r = .returned (.func (.func 27) #[] #[.pointer (some ⟨w.heap.size, 0, none⟩)]) ∧ w' = w.alloc (.cells #[.string s] 9) := by
  go_enter Tryd.func24, Tryd.ntmps24
  go_wp2
  go_ret
  exact ⟨rfl, rfl⟩

end Go.Proofs.YtlbekofkhjkniaaDoor
