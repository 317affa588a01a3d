/-
  The document's pool: New, Drop.
-/
import Derived.Test.YtemoickagefjmaaRPool3
namespace Go.Proofs.Ytemoickagefjmaa
open Go Go.RowKit
set_option linter.unusedSectionVars false
set_option linter.unusedSimpArgs false
set_option linter.unusedVariables false
set_option maxRecDepth 100000
attribute [local go_sem] Oper.semAt_some

theorem aget_notin {α : Type} {L : List (Int × α)} {x : Int} (h : x ∉ L.map Prod.fst) : aget L x = none := by
  cases hg : aget L x with
  | none => rfl
  | some v => exact absurd (List.mem_map.2 ⟨_, aget_mem hg, rfl⟩) h

theorem aget_adelI {α : Type} {L : List (Int × α)} (hn : (L.map Prod.fst).Nodup) (x y : Int) : aget (adel L x) y = if x = y then none else aget L y := by
  induction L with
  | nil => simp [adel, aget]
  | cons z r ih =>
    obtain ⟨a, u⟩ := z
    simp only [List.map_cons, List.nodup_cons] at hn
    simp only [adel]
    by_cases h : a = x
    · subst h
      rw [if_pos rfl]
      by_cases e : a = y
      · subst e
        rw [if_pos rfl]
        exact aget_notin hn.1
      · rw [if_neg e]
        simp only [aget, if_neg e]
    · rw [if_neg h]
      simp only [aget]
      by_cases e : a = y
      · rw [if_pos e, if_pos e, if_neg (fun q => h (e.trans q.symm))]
      · rw [if_neg e, if_neg e, ih hn.2]

theorem krnewp_c (w : World) (n : Int) (h0 : 0 ≤ n) (h1 : n ≤ 256) :
    Calls Try.prog 11 #[.int .i64 n] w fun r w' => ∃ rb S, r = .returned (.pointer (some ⟨rb, 0, none⟩)) ∧ RPoolAt w' rb S n ⟨n, 0, []⟩ ∧ Turn w (fun _ => False) w' S := by
  go_enter Try.func11, Try.ntmps11
  go_wp2
  go_ret
  have ka := Keep.alloc w (.cells #[.int .i64 n, .slice none 0 0] 81) (fun _ => False)
  refine ⟨w.heap.size, fun b => b = w.heap.size, rfl, ⟨PoolV.new_ok h0 h1, ⟨.slice none 0 0, fun _ => 0, fun _ _ => False, heap_alloc_eq _ _, rows_nil _ _ _, fun b q => by simp [Value.ownBlock] at q, rfl, fun x hx => by simp at hx, fun x hx => by simp at hx, fun x hx => by simp at hx⟩, fun b q => ?_⟩, ka, fun b q => .inr (by rw [show b = w.heap.size from q]; exact Nat.le_refl _)⟩
  have e : (w.alloc (.cells #[.int .i64 n, .slice none 0 0] 81)).heap.size = w.heap.size + 1 := by simp
  rw [e, show b = w.heap.size from q]
  exact Nat.lt_succ_self _

theorem slotsL_drop {V : PoolV} {xa : Int → Nat} {l : Int} {i : Nat} (hn : (V.files.map Prod.fst).Nodup) : (slotsL V xa).set i (.pointer none) = slotsL { V with left := l, files := adel V.files ((i : Int) + 1) } xa := by
  apply List.ext_getElem?
  intro j
  rw [List.getElem?_set]
  by_cases hj : j < V.made.toNat
  · rw [slotsL_get V xa hj, slotsL_get { V with left := l, files := adel V.files ((i : Int) + 1) } xa (i := j) hj, slotsL_len]
    by_cases hij : i = j
    · subst hij
      rw [if_pos rfl, if_pos hj]
      unfold slotV
      rw [aget_adelI hn, if_pos rfl]
      rfl
    · rw [if_neg hij]
      unfold slotV
      rw [aget_adelI hn]
      simp only [show ¬ ((i : Int) + 1 = (j : Int) + 1) by omega, if_false]
  · have e1 : (slotsL V xa)[j]? = none := List.getElem?_eq_none (by rw [slotsL_len]; omega)
    have e2 : (slotsL { V with left := l, files := adel V.files ((i : Int) + 1) } xa)[j]? = none := List.getElem?_eq_none (by rw [slotsL_len]; exact Nat.le_of_not_lt hj)
    rw [e1, e2, slotsL_len]
    split
    · rw [if_neg (by omega)]
    · rfl

set_option maxHeartbeats 1000000 in
theorem rpdrop_c {w : World} {rb : Nat} {S : Nat → Prop} {n : Int} {V : PoolV} (h : RPoolAt w rb S n V) (hm : V.made ≤ 1000000) (f : Int) :
    Calls Try.prog 15 #[.pointer (some ⟨rb, 0, none⟩), .int .i64 f] w fun r w' => r = .returned (.int .i64 (V.drop f).2) ∧ ∃ S', RPoolAt w' rb S' n (V.drop f).1 ∧ Turn w S w' S' := by
  obtain ⟨v, xa, fs, h1, h2, h3, h4, h5, h6, h7⟩ := h.ex
  have ho := rof_c h1 h2 h.ok hm f
  have hok := h.ok.drop f
  unfold PoolV.drop at hok ⊢
  cases hg : aget V.files f with
  | none =>
    rw [slot_none hg] at ho
    have H := Lib.hid h
    clear h h1 h2 h3 h4 h5 h6 h7 hg hm hok
    go_enter Try.func15, Try.ntmps15
    go_wp2_with (
      go_at_call 51
      refine ho.mono ?_
      rintro e w2 ⟨rfl, hw⟩
      subst hw
      clear ho)
    go_ret
    exact ⟨rfl, S, H.out, Turn.refl _ _⟩
  | some F =>
    rw [slot_some hg] at ho
    rw [hg] at hok
    have hk := h.ok.keys _ (aget_mem hg)
    simp only at hk hok
    obtain ⟨i, rfl⟩ : ∃ i : Nat, f = (i : Int) + 1 := ⟨(f - 1).toNat, by omega⟩
    obtain ⟨sa, cap, rfl, hc⟩ := rows_val2 h2
    obtain ⟨m, hmm⟩ : ∃ m : Nat, m = V.made.toNat := ⟨_, rfl⟩
    have him : i < m := by omega
    rw [← hmm] at h1 h2 h3 h6 hc
    obtain ⟨g, rfl, -, -, -⟩ := rows_some h2 (by omega)
    have c0 : w.cell? ⟨rb, 1, none⟩ = some (.slice (some ⟨g, 0, none⟩) m cap) := by rw [cell_blk h1]; rfl
    have hcs := rows_cell h2 (slotsL_get V xa (i := i) (by omega))
    have c1 := hcs.1
    have c2 := hcs.2
    have hr := rows_set h2 i (.pointer none)
    have hm6 : m ≤ 1000000 := by omega
    have H := Lib.hid (And.intro h (And.intro h1 (And.intro h3 (And.intro h4 (And.intro h5 (And.intro h6 h7))))))
    have HR := Lib.hid (And.intro hr (And.intro hok hmm))
    generalize xa ((i : Int) + 1) = xb at *
    generalize hsv : slotV V xa ((i : Int) + 1) = sv at *
    clear h h1 h2 h3 h4 h5 h6 h7 hg hm hok hcs hr hk hmm hsv
    go_enter Try.func15, Try.ntmps15
    go_wp2_with (
      go_at_call 51
      refine ho.mono ?_
      rintro e w2 ⟨rfl, hw⟩
      subst hw
      clear ho)
    go_ret
    obtain ⟨h, h1, h3, h4, h5, h6, h7⟩ := H.out
    have k := Keep.setCell w2 ⟨g, i, none⟩ (.pointer none)
    have hg3 := h3 g rfl
    refine ⟨rfl, S, ⟨HR.out.2.1, ⟨.slice (some ⟨g, 0, none⟩) m cap, xa, fs, k.get h1 (fun e => hg3.2 (show rb = g from e).symm), ?_, h3, h4, fun x hx => ?_, fun x hx => ?_, fun x hx y hy => ?_⟩, fun b q => Nat.lt_of_lt_of_le (h.lt b q) k.size⟩, ⟨k.mono fun b q => by rw [show b = g from q]; exact hg3.1, fun b q => .inl q⟩⟩
    · have := HR.out.1
      rw [slotsL_drop (l := V.left + F.keys.length) h.ok.nodup] at this
      rw [HR.out.2.2] at this
      rw [HR.out.2.2]
      exact this
    · exact (h5 x (mem_adel h.ok.nodup hx).1).keep k (fun b q e => (h6 x (mem_adel h.ok.nodup hx).1 b q).2.2 (by rw [show b = g from e]; rfl))
    · exact h6 x (mem_adel h.ok.nodup hx).1
    · exact h7 x (mem_adel h.ok.nodup hx).1 y (mem_adel h.ok.nodup hy).1

end Go.Proofs.Ytemoickagefjmaa
