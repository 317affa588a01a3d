/-
  warrenbook.Roomy, Same, Intact at bytes.
-/
import Derived.Test.YtemoickagefjmaaBSr
import Derived.Test.YtemoickagefjmaaLaws2
import Derived.Test.YtemoickagefjmaaOEnc0
import Derived.Laws.MakeOwn
import Derived.WalkMore
import Derived.Deep.LoopGhost
import Derived.Deep.QuietTactic
import Derived.BigQuiet
namespace Go.Proofs.Ytemoickagefjmaa
open Go Go.RowKit
set_option linter.unusedSectionVars false
set_option linter.unusedSimpArgs false
set_option linter.unusedVariables false
set_option maxRecDepth 100000

section
variable {P : Program} {w : World} {ops : Array Oper} {rest : List Oper} {o : Oper} {a : Act} {Q : Exit → Act → World → Prop}
theorem law_mk2 (hg : o.guard = none) (l : Operand) (t : TypeId) (hop : o.op = .makeSlice t l l) {x v : Value} {w' : World} (hl : a.eval l = x) (hrun : (Instr.makeSlice t x x).run P w = .ok v w') (hK : wpList P ops Q rest (a.put o.dst v) w') : wpList P ops Q (o :: rest) a w := by
  refine wpList_plain hg fun K' hK' => ?_
  unfold Oper.wp
  simp only [execOp, hop, hl, Sem.run_bind, hrun, Result.andThen_ok, Sem.run_pure, Oper.upon_value]
  exact hK' _ _ hK
end

def ints (l : Bs) : List Int := l.map fun u => (u.toNat : Int)
theorem ints_len (l : Bs) : (ints l).length = l.length := by simp [ints]
theorem ints_get {l : Bs} {i : Nat} (h : i < l.length) : (ints l).getD i 0 = ((l[i]).toNat : Int) := by
  rw [List.getD_eq_getElem?_getD]; simp [ints, h]

theorem bytesIn_of {w : World} {v : Value} {l : Bs} (h : BSr w v l) : BytesIn w v (ints l) (fun _ => False) := by
  have hr : ∀ c ∈ ints l, 0 ≤ c ∧ c < 256 := fun c hc => by
    obtain ⟨u, _, rfl⟩ := List.mem_map.1 hc
    have := byte_lt u
    omega
  rcases h with (⟨rfl, rfl⟩ | ⟨b, off, cap, rfl, _, _, _, hc⟩) | ⟨rfl, ad, cap, rfl, _⟩
  · exact ⟨hr, none, 0, rfl, .inl rfl⟩
  · refine ⟨hr, _, cap, by rw [ints_len], .inr ⟨b, off, rfl, fun q => q, fun i hi => ?_⟩⟩
    rw [ints_len] at hi
    rw [hc i _ (List.getElem?_eq_getElem hi), ints_get hi]
    rfl
  · exact ⟨hr, _, cap, rfl, .inl rfl⟩

/-- l, behind it k marks, then noughts. -/
def Gf (l : Bs) (m : Int) (k : Nat) : Int → Int := fun p => if p < l.length then (ints l).getD p.toNat 0 else if p < l.length + k then m else 0

theorem gf_zero (l : Bs) (m : Int) (n : Nat) : rowF n (putF (fun _ => 0) 0 (ints l)) = rowF n (Gf l m 0) := by
  refine rowF_congr fun i hi => ?_
  unfold putF Gf
  rw [ints_len]
  by_cases h : (i : Int) < l.length
  · rw [if_pos (by omega), if_pos h]; simp
  · rw [if_neg (by omega), if_neg h, if_neg (by omega)]

theorem gf_step (l : Bs) (m : Int) (k n : Nat) (h : l.length + k < n) : (rowF n (Gf l m k)).setIfInBounds (l.length + k) (.int .u8 m) = rowF n (Gf l m (k + 1)) := by
  apply Array.ext_getElem?
  intro i
  by_cases hi : i < n
  · rw [rowF_get _ _ _ hi]
    by_cases e : i = l.length + k
    · subst e
      rw [Array.getElem?_setIfInBounds_self_of_lt (by rw [rowF_size]; exact hi)]
      unfold Gf
      rw [if_neg (by omega), if_pos (by omega)]
    · rw [Array.getElem?_setIfInBounds_ne (fun q => e q.symm), rowF_get _ _ _ hi]
      unfold Gf
      by_cases h1 : (i : Int) < l.length
      · rw [if_pos h1, if_pos h1]
      · rw [if_neg h1, if_neg h1]
        by_cases h2 : (i : Int) < l.length + k
        · rw [if_pos h2, if_pos (by omega)]
        · rw [if_neg h2, if_neg (by omega)]
  · rw [Array.getElem?_eq_none (by rw [Array.size_setIfInBounds, rowF_size]; omega), Array.getElem?_eq_none (by rw [rowF_size]; omega)]

theorem made_zero (n : Nat) : madeCells #[.int .u8 0] n = rowF n (fun _ => 0) := by
  unfold madeCells rowF
  apply Array.ext
  · simp
  · intro i h1 h2
    simp [Nat.mod_one]

set_option maxHeartbeats 4000000 in
theorem roomy_c {w : World} {v : Value} {l : Bs} (hb : BSr w v l) (hl : l.length ≤ 140737489355328) :
    Calls Try.prog 18 #[v, .int .u8 165] w fun r w' => r = .returned (.slice (some ⟨w.heap.size, 0, none⟩) (l.length + 80) (l.length + 80)) ∧ w'.heap[w.heap.size]? = some (.cells (rowF (l.length + 80) (Gf l 165 80)) 5 (0, 0)) ∧ Keep w w' (fun _ => False) := by
  obtain ⟨a0, cap0, rfl, hlc, hcm⟩ : ∃ a cap, v = .slice a l.length cap ∧ l.length ≤ cap ∧ cap ≤ maxLen := by
    rcases hb with h | ⟨rfl, ad, cap, rfl, hc⟩
    · exact h.val
    · exact ⟨_, _, rfl, Nat.zero_le _, hc⟩
  obtain ⟨ti, ti1, ti2, ti3, ti4⟩ := u8_info
  have hmk : ∀ U, (Instr.makeSlice 30 (.int .i64 ((l.length : Int) + 80)) (.int .i64 ((l.length : Int) + 80))).run Try.prog U = .ok (.slice (some ⟨U.heap.size, 0, none⟩) (l.length + 80) (l.length + 80)) (U.alloc (.cells (rowF (l.length + 80) (fun _ => 0)) 5)) := fun U => by
    have h := run_make (P := Try.prog) U 30 5 ti _ Try.underlying30 ti1 ti2 .i64 .i64 ((l.length : Int) + 80) ((l.length : Int) + 80) (by omega) (Int.le_refl _) (by rw [ti4]; omega) (by omega)
    have e : ((l.length : Int) + 80).toNat = l.length + 80 := by omega
    rw [e, ti3, Nat.mul_one, show (Value.int .u8 0).cells = #[.int .u8 0] from rfl, made_zero] at h
    exact h
  have HI := Lib.hid (And.intro ti1 (And.intro ti3 hmk))
  have HB := Lib.hid (bytesIn_of hb)
  clear ti1 ti2 ti3 ti4 hmk hb
  have hw : IntKind.i64.wrap ((l.length : Int) + 80) = (l.length : Int) + 80 := IntWalk.i64_in _ (by omega)
  have kA := Keep.alloc w (.cells (rowF (l.length + 80) (fun _ => 0)) 5) (fun _ => False)
  go_enter Try.func18, Try.ntmps18
  go_wp2_with (first
    | (refine law_mk2 rfl _ _ rfl rfl (HI.out.2.2 w) ?_)
    | (refine law_copy rfl (.tmp 11) (.tmp 12) _ _ 5 rfl Try.underlying30 HI.out.1 HI.out.2.1 rfl rfl (HB.out.keep kA (fun _ q => q)) (heap_alloc_eq w _) (by rw [ints_len]; omega) (by omega) ?_
       intro w1 h1 h2
       rw [show ((0 : Nat) : Int) = 0 from rfl, gf_zero l 165] at h1
       have N1 := Lib.hid (And.intro h1 (kA.trans h2 (fun b q => .inr (by rw [show b = w.heap.size from q]; exact Nat.le_refl _))))
       clear h1 h2))
  generalize hn : l.length = n at *
  have HN := Lib.hid hn
  go_loopg [6] 80 (fun g s6 wr => ∃ k : Nat, s6 = .int .i64 ((n : Int) + (k : Int)) ∧ k + g = 80 ∧ wr.heap[w.heap.size]? = some (.cells (rowF (n + 80) (Gf l 165 k)) 5 (0, 0)) ∧ Keep w wr (fun _ => False))
  case atStart => exact ⟨0, by simp, by omega, N1.out.1, N1.out.2⟩
  case round =>
    obtain ⟨k, rfl, hk, hb, hW⟩ := hrel
    by_cases hlt : k < 80
    · have h1 : (n : Int) + (k : Int) < (n : Int) + 80 := by omega
      have h2 : IntKind.i64.wrap ((n : Int) + (k : Int) + 1) = (n : Int) + ((k + 1 : Nat) : Int) := by rw [IntWalk.i64_in _ (by omega)]; omega
      have c0 := cell_blk hb (n + k)
      rw [rowF_get _ _ _ (by omega)] at c0
      have f0 := free_blk hb (n + k)
      have hb2 := heap_setCell_eq (off := n + k) (Value.int .u8 165) hb
      have e := gf_step l 165 k (n + 80) (by rw [HN.out]; omega)
      rw [HN.out] at e
      rw [e] at hb2
      have D := Lib.hid (And.intro hb2 (hW.trans (Keep.setCell wr ⟨w.heap.size, n + k, none⟩ (.int .u8 165)) (fun b q => .inr (by rw [show b = w.heap.size from q]; exact Nat.le_refl _))))
      clear hb hb2 e hW
      go_wp2
      go_roundg (80 - (k + 1))
      case measure => omega
      case rel => exact ⟨k + 1, by rw [Int.natCast_add]; rfl, by omega, D.out.1, D.out.2⟩
    · have h1 : ¬ (n : Int) + (k : Int) < (n : Int) + 80 := by omega
      have hk80 : k = 80 := by omega
      subst hk80
      go_wp2
      go_ret
      exact ⟨rfl, hb, hW⟩

theorem BSr.full {w : World} {a : Option Addr} {n cap : Nat} {l : Bs} (h : BSr w (.slice a n cap) l) (h0 : 0 < l.length) : ∃ b off, a = some ⟨b, off, none⟩ ∧ b < w.heap.size ∧ ∀ i u, l[i]? = some u → w.cell? ⟨b, off + i, none⟩ = some (u8V u) := by
  rcases h with h | ⟨rfl, _⟩
  · exact h.some h0
  · simp at h0

theorem BSr.shape {w : World} {v : Value} {l : Bs} (h : BSr w v l) : ∃ a cap, v = .slice a l.length cap ∧ l.length ≤ cap ∧ cap ≤ maxLen := by
  rcases h with h | ⟨rfl, ad, cap, rfl, hc⟩
  · exact h.val
  · exact ⟨_, _, rfl, Nat.zero_le _, hc⟩

set_option maxHeartbeats 4000000 in
theorem sameB_c {w : World} {va vb : Value} {l : Bs} (ha : BSr w va l) (hb : BSr w vb l) :
    Calls Try.prog 53 #[va, vb] w fun r w' => r = .returned (.bool true) ∧ Keep w w' (fun _ => False) := by
  obtain ⟨aa, ca, rfl, hca, hma⟩ := ha.shape
  obtain ⟨ab, cb, rfl, hcb, hmb⟩ := hb.shape
  unfold maxLen at hma hmb
  have HA := Lib.hid ha
  have HB := Lib.hid hb
  clear ha hb
  generalize hn : l.length = n at *
  have HN := Lib.hid hn
  clear hn
  go_enter Try.func53, Try.ntmps53
  go_wp2
  go_loopg [5] n (fun g i wr => ∃ k : Nat, i = .int .i64 k ∧ k + g = n ∧ Keep w wr (fun _ => False))
  case atStart => exact ⟨0, rfl, by omega, Keep.refl _ _⟩
  case round =>
    obtain ⟨k, rfl, hk, hW⟩ := hrel
    by_cases hlt : k < n
    · obtain ⟨b1, o1, rfl, _, f1⟩ := HA.out.full (by rw [HN.out]; omega)
      obtain ⟨b2, o2, rfl, _, f2⟩ := HB.out.full (by rw [HN.out]; omega)
      obtain ⟨x, hx⟩ : ∃ x, l[k]? = some x := ⟨_, List.getElem?_eq_getElem (by rw [HN.out]; exact hlt)⟩
      have c1 := hW.cell (f1 k _ hx) (fun q => q)
      have c2 := hW.cell (f2 k _ hx) (fun q => q)
      unfold u8V at c1 c2
      have hlt' : (k : Int) < (n : Int) := by omega
      have hki : IntKind.i64.wrap ((k : Int) + 1) = (k : Int) + 1 := IntWalk.i64_in _ (by omega)
      have HW := Lib.hid hW
      clear hx f1 f2 hW
      go_wp2
      go_quiet (fail)
      go_wp2
      go_roundg (n - (k + 1))
      case measure => omega
      case rel => exact ⟨k + 1, by rw [Int.natCast_add]; rfl, by omega, HW.out.trans (drewN_keep _ (fun _ => False) _) (fun _ q => q.elim)⟩
    · have hlt' : ¬ (k : Int) < (n : Int) := by omega
      go_wp2
      go_ret
      exact ⟨rfl, hW⟩

theorem gf_get (l : Bs) (m : Int) (k n i : Nat) (u : UInt8) (hn : l.length ≤ n) (h : l[i]? = some u) : (rowF n (Gf l m k))[i]? = some (u8V u) := by
  obtain ⟨h1, h2⟩ := List.getElem?_eq_some_iff.1 h
  rw [rowF_get _ _ _ (by omega)]
  unfold Gf
  rw [if_pos (by omega), Int.toNat_natCast, ints_get h1, h2]
  rfl

theorem gf_bsl {w : World} {g : Nat} {l : Bs} {m : Int} (h : w.heap[g]? = some (.cells (rowF (l.length + 80) (Gf l m 80)) 5 (0, 0))) (hl : l.length ≤ 140737489355328) : BSl w (.slice (some ⟨g, 0, none⟩) l.length (l.length + 80)) l :=
  .inr ⟨g, 0, l.length + 80, rfl, by omega, by unfold maxLen; omega, lt_of_blk h, fun i u hi => by
    rw [cell_blk h, Nat.zero_add]
    exact gf_get l m 80 _ i u (by omega) hi⟩

set_option maxHeartbeats 4000000 in
theorem intact_c {w : World} {g : Nat} {vb : Value} {l : Bs} (hf : w.heap[g]? = some (.cells (rowF (l.length + 80) (Gf l 165 80)) 5 (0, 0))) (hb : BSr w vb l) (hl : l.length ≤ 140737489355328) :
    Calls Try.prog 21 #[.slice (some ⟨g, 0, none⟩) (l.length + 80) (l.length + 80), vb, .int .u8 165] w fun r w' => r = .returned (.bool true) ∧ Keep w w' (fun _ => False) := by
  obtain ⟨ab, cb, rfl, hcb, hmb⟩ := hb.shape
  unfold maxLen at hmb
  have hs := sameB_c (.inl (gf_bsl hf hl)) hb
  have HF := Lib.hid hf
  clear hf hb
  generalize hn : l.length = n at *
  have HN := Lib.hid hn
  clear hn
  have hw : IntKind.i64.wrap ((n : Int) + 80) = (n : Int) + 80 := IntWalk.i64_in _ (by omega)
  have g1 : (n : Int) ≤ (n : Int) + 80 := by omega
  go_enter Try.func21, Try.ntmps21
  go_wp2_with (first
    | (go_at_call 53
       refine hs.mono ?_
       rintro e w1 ⟨rfl, k1⟩
       have N1 := Lib.hid (And.intro (k1.get HF.out (fun q => q)) k1)
       clear k1 hs))
  go_loopg [7] 80 (fun g7 s7 wr => ∃ k : Nat, s7 = .int .i64 ((n : Int) + (k : Int)) ∧ k + g7 = 80 ∧ wr = w1)
  case atStart => exact ⟨0, by simp, by omega, rfl⟩
  case round =>
    obtain ⟨k, rfl, hk, rfl⟩ := hrel
    by_cases hlt : k < 80
    · have h1 : (n : Int) + (k : Int) < (n : Int) + 80 := by omega
      have h2 : IntKind.i64.wrap ((n : Int) + (k : Int) + 1) = (n : Int) + ((k + 1 : Nat) : Int) := by rw [IntWalk.i64_in _ (by omega)]; omega
      have c0 := cell_blk N1.out.1 (n + k)
      rw [rowF_get _ _ _ (by omega)] at c0
      have e : Gf l 165 80 ((n + k : Nat) : Int) = 165 := by
        unfold Gf
        rw [if_neg (by rw [HN.out]; omega), if_pos (by rw [HN.out]; omega)]
      rw [e] at c0
      clear e
      go_wp2
      go_roundg (80 - (k + 1))
      case measure => omega
      case rel => exact ⟨k + 1, by rw [Int.natCast_add]; rfl, by omega, rfl⟩
    · have h1 : ¬ (n : Int) + (k : Int) < (n : Int) + 80 := by omega
      go_wp2
      go_ret
      exact ⟨rfl, N1.out.2⟩

end Go.Proofs.Ytemoickagefjmaa
