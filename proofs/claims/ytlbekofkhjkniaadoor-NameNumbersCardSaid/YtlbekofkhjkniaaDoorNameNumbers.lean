/-
  NameNumbers: the walk.
-/
import Derived.Test.YtlbekofkhjkniaaDoorLong
import Derived.Test.YtlbekofkhjkniaaDoorName1
namespace Go.Proofs.YtlbekofkhjkniaaDoor
open Go Go.RowKit Go.Shelf
set_option linter.unusedSectionVars false
set_option linter.unusedSimpArgs false
set_option linter.unusedVariables false
attribute [local go_sem] Oper.semAt_some

theorem Keep.add {w A B : World} (h : Hid (Keep A B (fun _ => False))) (k : Keep w A (fun _ => False)) : Keep w B (fun _ => False) := k.trans h.out (fun _ q => q.elim)

/-- What Read answers, of its parts only how many they are. -/
abbrev ReadAt (s : ByteArray) (r1 r2 : Bool) (n : Nat) (e : Int) : Prop := ∀ U, Calls Tryd.prog 11 #[.string s] U fun r w' => ∃ sa cap, r = .returned (.tuple #[.agg #[.bool r1, .bool r2, .slice sa n cap], .int .i64 e]) ∧ Keep U w' (fun _ => False)

theorem readAt {l : Bl} {r1 r2 : Bool} {ps : List Bl} {e : Int} (h : readP l = ((r1, r2, ps), e)) {n : Nat} (hn : n = ps.length) : ReadAt (txB l) r1 r2 n e := fun U => by
  have hr := read_c l U
  rw [h] at hr
  refine hr.mono ?_
  rintro x w1 ⟨v, rfl, q1, q2⟩
  obtain ⟨sa, cap, rfl, -⟩ := rows_val2 q1
  exact ⟨sa, cap, by rw [hn], q2⟩

abbrev CleanAt (s a : ByteArray) (e : Int) : Prop := ∀ U, Calls Tryd.prog 9 #[.string s] U fun r w' => r = .returned (.tuple #[.string a, .int .i64 e]) ∧ Keep U w' (fun _ => False)

theorem cleanAt {l a : Bl} {e : Int} (h : cleanP l = (a, e)) : CleanAt (txB l) (txB a) e := fun U => by
  have hr := clean_c l U
  rwa [h] at hr

theorem part_x {n : Nat} (h : 0 < n) : parts (List.replicate n 120) = [List.replicate n 120] := parts_free (by simp) (by simp; omega)

theorem nn2 {n : Nat} (h : 255 < n) (h1 : n ≤ 4096) : readP (List.replicate n 120) = ((false, false, []), 45) := by
  rw [readP_eq, part_x (by omega), if_neg (by simp; omega), if_neg (by simp; omega), if_neg (by simp), if_pos ⟨_, List.mem_singleton.2 rfl, by simpa using h⟩]
theorem nn3 {n : Nat} (h : n ≤ 255) (h1 : 0 < n) : readP (List.replicate n 120) = ((false, false, [List.replicate n 120]), 0) := by
  rw [readP_eq, part_x (by omega), if_neg (by simp; omega), if_neg (by simp; omega), if_neg (by simp), if_neg (by simp; omega)]
  simp [List.head?_replicate, List.getLast?_replicate]

theorem rightP_long {n : Nat} (h : 255 < n) : rightP (List.replicate n 120) = false := by
  unfold rightP
  rw [decide_eq_false_iff_not]
  rintro ⟨_, h1, _⟩
  rw [List.length_replicate] at h1
  omega

abbrev RightAt (s : ByteArray) (b : Bool) : Prop := ∀ U, Calls Tryd.prog 15 #[.string s] U fun e w' => e = .returned (.bool b) ∧ w' = U
abbrev DotsAt (s : ByteArray) (b : Bool) : Prop := ∀ U, Calls Tryd.prog 16 #[.string s] U fun e w' => e = .returned (.bool b) ∧ w' = U
abbrev LongAt (n : Int) (s : ByteArray) : Prop := ∀ U, Calls Tryd.prog 14 #[.int .i64 n] U fun r w' => r = .returned (.string s) ∧ Keep U w' (fun _ => False)
theorem rightAt {l : Bl} {b : Bool} (h : rightP l = b) : RightAt (txB l) b := fun U => by rw [← h]; exact right_c l U
theorem dotsAt {l : Bl} {b : Bool} (h : dotsP l = b) : DotsAt (txB l) b := fun U => by rw [← h]; exact dots_c l U
theorem longAt {n : Nat} (h : n ≤ 1000000) : LongAt n (txB (List.replicate n 120)) := fun U => long_c n h U

set_option maxRecDepth 100000 in
set_option maxHeartbeats 4000000 in
theorem numbers_walk0 (w : World) (x2 x3 x4 : ByteArray) (r2 : ReadAt x2 false false 0 45) (r3 : ReadAt x3 false false 1 0) (r4 : ReadAt x4 false false 0 45) (r6 : ReadAt (⟨#[0]⟩ ++ x4) false false 0 45) (t5 : RightAt x2 false)
    (l1 : LongAt 256 x2) (l2 : LongAt 255 x3) (l3 : LongAt 4097 x4) (hsz : ¬ 9223372036854775807 < 1 + x4.size) : Calls Tryd.prog 6 #[] w fun r w' => r = .returned (.bool true) ∧ Keep w w' (fun _ => False) := by
  have r1 : ReadAt ⟨#[47]⟩ true true 0 0 := readAt (l := [47]) (show readP [47] = ((true, true, []), 0) by decide +kernel) rfl
  have r5 : ReadAt ⟨#[97, 0]⟩ false false 0 39 := readAt (l := [97, 0]) (show readP [97, 0] = ((false, false, []), 39) by decide +kernel) rfl
  have c1 : CleanAt ⟨#[46, 47, 46]⟩ ⟨#[46]⟩ 0 := cleanAt (l := [46, 47, 46]) (a := [46]) (by decide +kernel)
  have c2 : CleanAt ⟨#[47, 46, 47]⟩ ⟨#[47]⟩ 0 := cleanAt (l := [47, 46, 47]) (a := [47]) (by decide +kernel)
  have c3 : CleanAt ⟨#[47, 46]⟩ ⟨#[47]⟩ 0 := cleanAt (l := [47, 46]) (a := [47]) (by decide +kernel)
  have t1 : RightAt ⟨#[46, 46]⟩ false := rightAt (l := [46, 46]) (by decide +kernel)
  have t2 : RightAt ⟨#[]⟩ false := rightAt (l := []) (by decide +kernel)
  have t3 : RightAt ⟨#[97, 47, 98]⟩ false := rightAt (l := [97, 47, 98]) (by decide +kernel)
  have t4 : RightAt ⟨#[46, 46, 46]⟩ true := rightAt (l := [46, 46, 46]) (by decide +kernel)
  have d1 : DotsAt ⟨#[46]⟩ true := dotsAt (l := [46]) (by decide +kernel)
  have d2 : DotsAt ⟨#[46, 46, 46]⟩ false := dotsAt (l := [46, 46, 46]) (by decide +kernel)
  go_enter Tryd.func6, Tryd.ntmps6
  go_upto_region 9 with (first
    | (go_at_call 11
       with_reducible refine (r1 _).mono ?_
       rintro e w1 ⟨sa1, cap1, rfl, q⟩
       have K1 := Lib.hid q
       clear q)
    | (go_at_call 11
       first | with_reducible refine (r2 _).mono ?_ | with_reducible refine (r3 _).mono ?_ | with_reducible refine (r4 _).mono ?_ | with_reducible refine (r5 _).mono ?_
       rintro e wx ⟨sa, cap, rfl, q⟩
       have KX := Lib.hid q
       clear q)
    | (go_at_call 9
       first | with_reducible refine (c1 _).mono ?_ | with_reducible refine (c2 _).mono ?_
       rintro e wx ⟨rfl, q⟩
       have KX := Lib.hid q
       clear q)
    | (go_at_call 9
       with_reducible refine (c3 _).mono ?_
       rintro e w8 ⟨rfl, q⟩
       have KX := Lib.hid q
       clear q)
    | (go_at_call 14
       first | with_reducible refine (l1 _).mono ?_ | with_reducible refine (l2 _).mono ?_ | with_reducible refine (l3 _).mono ?_
       rintro e wx ⟨rfl, q⟩
       have KX := Lib.hid q
       clear q))
  have kk : Keep (w1.alloc (.cells #[.bool true, .bool true, .slice sa1 0 cap1] 28)) w8 (fun _ => False) := by
    repeat (first | exact Keep.refl _ _ | (refine Keep.trans ?_ (Keep.alloc _ _ (fun _ => False)) (fun _ q => q.elim)) | (apply Keep.add; assumption))
  have b8 := Lib.hid (kk.get (heap_alloc_eq w1 _) (fun q => q))
  have K8 := Lib.hid ((K1.out.trans (Keep.alloc _ _ (fun _ => False)) (fun _ q => q.elim)).trans kk (fun _ q => q.elim))
  clear kk r2 r3 r4 r5 c1 c2 c3
  go_wp2_with (first
    | (go_at_call 11
       with_reducible refine (r6 _).mono ?_
       rintro e w9 ⟨sa9, cap9, rfl, q⟩
       have K9 := Lib.hid q
       have b9 := (Keep.alloc w9 (.cells #[.bool false, .bool false, .slice sa9 0 cap9] 28) (fun _ => False)).get (K9.out.get (KL.out.get b8.out (fun q => q)) (fun q => q)) (fun q => q)
       have z0 := cell_blk b9 0
       have z1 := cell_blk b9 1
       have z2 := cell_blk b9 2
       simp only [List.getElem?_toArray, List.getElem?_cons_zero, List.getElem?_cons_succ] at z0 z1 z2
       clear q b9)
    | (go_at_call 14
       with_reducible refine (l3 _).mono ?_
       rintro e wl ⟨rfl, q⟩
       have KL := Lib.hid q
       clear q)
    | (go_at_call 14
       with_reducible refine (l1 _).mono ?_
       rintro e wx ⟨rfl, q⟩
       have KX := Lib.hid q
       clear q)
    | (go_at_call 15
       first | with_reducible refine (t1 _).mono ?_ | with_reducible refine (t2 _).mono ?_ | with_reducible refine (t3 _).mono ?_ | with_reducible refine (t4 _).mono ?_ | with_reducible refine (t5 _).mono ?_
       rintro e wx ⟨rfl, rfl⟩)
    | (go_at_call 16
       first | with_reducible refine (d1 _).mono ?_ | with_reducible refine (d2 _).mono ?_
       rintro e wx ⟨rfl, rfl⟩)
    | (go_at_call 10
       refine (known_c _).mono ?_
       rintro e wx ⟨rfl, q⟩
       have KX := Lib.hid q
       clear q))
  go_ret
  refine ⟨rfl, ?_⟩
  repeat (first | exact K8.out | (refine Keep.trans ?_ (Keep.alloc _ _ (fun _ => False)) (fun _ q => q.elim)) | (apply Keep.add; assumption))

theorem numbers_below (w : World) : Calls Tryd.prog 6 #[] w fun r w' => r = .returned (.bool true) ∧ Below w.heap.size w w' := by
  have e : (⟨#[0]⟩ : ByteArray) ++ txB (List.replicate 4097 120) = txB (0 :: List.replicate 4097 120) := txB_append [0] _
  refine (numbers_walk0 w _ _ _ (readAt (nn2 (n := 256) (by omega) (by omega)) rfl) (readAt (nn3 (n := 255) (by omega) (by omega)) rfl) (readAt (read_many (l := List.replicate 4097 120) (by rw [List.length_replicate]; omega)) rfl) (by
    rw [e]
    exact readAt (read_many (by rw [List.length_cons, List.length_replicate]; omega)) rfl) (rightAt (rightP_long (n := 256) (by omega))) (longAt (n := 256) (by omega)) (longAt (n := 255) (by omega)) (longAt (n := 4097) (by omega)) (by rw [txB_size, List.length_replicate]; omega)).mono ?_
  exact fun _ _ h => ⟨h.1, h.2.below (Nat.le_refl _) (fun _ q => q.elim)⟩

end Go.Proofs.YtlbekofkhjkniaaDoor
