/-
  Some of chapter 7's runs (known).
-/
import Derived.Test.YtlbekofkhjkniaaDoorClean
import Derived.Test.YtlbekofkhjkniaaDoorSameS
namespace Go.Proofs.YtlbekofkhjkniaaDoor
open Go Go.RowKit Go.Shelf
set_option linter.unusedSectionVars false
set_option linter.unusedSimpArgs false
set_option linter.unusedVariables false
attribute [local go_sem] Oper.semAt_some

theorem txV_string (a : List Bl) : a.map txV = (a.map txB).map Value.string := by rw [List.map_map]; rfl

theorem map_inj {a b : List Bl} (h : a.map txB = b.map txB) : a = b := by
  have h2 := congrArg (List.map (fun x : ByteArray => x.data.toList)) h
  rwa [txs_list, txs_list] at h2

/-- Same at rows of texts. -/
theorem sameP {w : World} {va vb : Value} {a b : List Bl} (ha : ListIn w va (a.map txV)) (hb : ListIn w vb (b.map txV)) (hla : a.length ≤ 1099511627776) (hlb : b.length ≤ 1099511627776) :
    Calls Tryd.prog 12 #[va, vb] w fun r w' => r = .returned (.bool (decide (a = b))) ∧ ∃ q, w' = w.drewN q := by
  rw [txV_string] at ha hb
  have h := same_c ha hb (by rw [List.length_map]; exact hla) (by rw [List.length_map]; exact hlb)
  have e : decide (a.map txB = b.map txB) = decide (a = b) := by
    by_cases q : a = b
    · rw [q]; simp
    · rw [decide_eq_false q, decide_eq_false (fun z => q (map_inj z))]
  rwa [e] at h

theorem list_lit (w : World) (t : TypeId) (xs : List Value) {cs : Array Value} (hcs : cs = xs.toArray) {m g : Nat} (hm : m = xs.length) (hg : g = w.heap.size) : ListIn (w.alloc (.cells cs t)) (.slice (some ⟨g, 0, none⟩) m m) xs := by
  subst hcs hm hg
  refine ⟨some ⟨w.heap.size, 0, none⟩, xs.length, rfl, .inr ⟨w.heap.size, 0, rfl, by simp, fun i u hi => ?_⟩⟩
  rw [Nat.zero_add, cell_blk (heap_alloc_eq w _)]
  simpa using hi

set_option maxRecDepth 100000 in
set_option maxHeartbeats 4000000 in
theorem known_c (w : World) : Calls Tryd.prog 10 #[] w fun r w' => r = .returned (.bool true) ∧ Keep w w' (fun _ => False) := by
  have e1 : readP [47, 47, 97, 47, 46, 47, 98, 47] = ((true, true, [[97], [46], [98]]), 0) := by decide +kernel
  have e2 : cleanP [97, 47, 46, 47] = ([97, 47], 0) := by decide +kernel
  have e3 : readP [] = ((false, false, []), 32) := by decide +kernel
  have h1 := read_c [47, 47, 97, 47, 46, 47, 98, 47] w
  have h2 := clean_c [97, 47, 46, 47]
  have h3 := read_c []
  rw [e1] at h1
  rw [e2] at h2
  rw [e3] at h3
  clear e1 e2 e3
  have et : ((txB [97, 47]).toList == [97, 47]) = true := by rw [txB_toList]; rfl
  go_enter Tryd.func10, Tryd.ntmps10
  go_wp2_with (first
    | (go_at_call 11
       refine h1.mono ?_
       rintro e w1 ⟨v, rfl, q1, q2⟩
       obtain ⟨sa, cap, rfl, hcap⟩ := rows_val2 q1
       have N1 := Lib.hid (And.intro q1 q2)
       clear q1 q2 h1)
    | (go_at_call 9
       refine (h2 _).mono ?_
       rintro e w2 ⟨rfl, q2⟩
       have N2 := Lib.hid q2
       clear q2 h2)
    | (go_at_call 11
       refine (h3 _).mono ?_
       rintro e w3 ⟨v, rfl, q1, q2⟩
       obtain ⟨sa3, cap3, rfl, hcap3⟩ := rows_val2 q1
       have kk := N2.out.trans q2 (fun _ q => q.elim)
       have b3 := kk.get (heap_alloc_eq w1 _) (fun q => q)
       have b4 := (Keep.alloc w3 (.cells #[.bool false, .bool false, .slice sa3 0 cap3] 28) (fun _ => False)).get b3 (fun q => q)
       have c0 := cell_blk b4 0
       have c1 := cell_blk b4 1
       have c2 := cell_blk b4 2
       simp only [List.getElem?_toArray, List.getElem?_cons_zero, List.getElem?_cons_succ] at c0 c1 c2
       have N3 := Lib.hid (And.intro ((Keep.alloc w1 _ (fun _ => False)).trans kk (fun _ q => q.elim)) b3)
       clear q1 q2 h3 kk b3 b4 N2)
    | (go_at_call 12
       have kx := fun o => (N3.out.1.trans (Keep.alloc w3 o (fun _ => False)) (fun _ q => q.elim))
       refine (sameP (a := [[97], [46], [98]]) (b := [[97], [46], [98]]) (((ListIn.of_own N1.out.1).aside (kx _)).aside (Keep.alloc _ _ (fun _ => False))) (list_lit _ 9 ([[97], [46], [98]].map txV) rfl rfl (by simp)) (by decide) (by decide)).mono ?_
       rintro e w4 ⟨rfl, q, rfl⟩))

  go_ret
  exact ⟨rfl, ((N1.out.2.trans N3.out.1 (fun _ q => q.elim)).trans (Keep.alloc w3 _ (fun _ => False)) (fun _ q => q.elim)).trans ((Keep.alloc _ _ (fun _ => False)).trans (drewN_keep _ (fun _ => False) _) (fun _ q => q.elim)) (fun _ q => q.elim)⟩

end Go.Proofs.YtlbekofkhjkniaaDoor
