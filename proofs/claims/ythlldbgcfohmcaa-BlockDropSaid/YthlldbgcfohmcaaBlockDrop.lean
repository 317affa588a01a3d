/-
  BlockDrop: files share the pool; what one gives back another one may take; a dropped one is none.
-/
import Derived.Test.YthlldbgcfohmcaaBlockL1
import Derived.Deep.RegionWith
namespace Go.Proofs.Ythlldbgcfohmcaa
open Go Go.RowKit
set_option linter.unusedSectionVars false
set_option linter.unusedSimpArgs false
set_option linter.unusedVariables false

def zeros (m : Nat) : List Int := listF m (fun _ => 0)
theorem zeros_len (m : Nat) : (zeros m).length = m := listF_len _ _
theorem zeros_bytes (m : Nat) : ∀ c ∈ zeros m, 0 ≤ c ∧ c < 256 := by
  intro c hc
  obtain ⟨i, _, rfl⟩ := List.mem_map.1 hc
  simp

theorem lacks_empty (m : Nat) (hm : 1 ≤ m) : FileV.empty.lacks 0 (0 + (m : Int)) = ((m : Int) + 16 - 1) / 16 := by
  unfold FileV.lacks
  have h : (span (0 / 16) ((0 + (m : Int) - 1) / 16)).filter (fun k => !decide (k ∈ FileV.empty.keys)) = span (0 / 16) ((0 + (m : Int) - 1) / 16) :=
    List.filter_eq_self.2 (fun k _ => by simp [FileV.empty])
  rw [h]
  simp only [span, List.length_map, List.length_range]
  omega

theorem lacks_done (F : FileV) (l : List Int) (hl : l ≠ []) (s : Int) : FileV.lacks { F.puts 0 l with size := s } 0 (0 + (l.length : Int)) = 0 := by
  unfold FileV.lacks
  have h : (span (0 / 16) ((0 + (l.length : Int) - 1) / 16)).filter (fun k => !decide (k ∈ (F.puts 0 l).keys)) = [] := by
    rw [List.filter_eq_nil_iff]
    intro k hk
    rw [mem_span] at hk
    have : k ∈ (F.puts 0 l).keys := (FileV.mem_puts l F 0 k).2 (.inr ⟨hl, hk.1, hk.2⟩)
    simp [this]
  show (((span (0 / 16) ((0 + (l.length : Int) - 1) / 16)).filter (fun k => !decide (k ∈ (F.puts 0 l).keys))).length : Int) = 0
  rw [h]; rfl

/-- An empty file with these noughts. -/
def zfile (m : Nat) : FileV := { FileV.empty.puts 0 (zeros m) with size := max FileV.empty.size (0 + ((zeros m).length : Int)) }

theorem zfile_keys (m : Nat) (h0 : 1 ≤ m) (h1 : m ≤ 1024) : ((zfile m).keys.length : Int) = ((m : Int) + 16 - 1) / 16 := by
  have hne : zeros m ≠ [] := by
    intro e
    have := zeros_len m
    rw [e] at this
    simp at this; omega
  have h := FileV.puts_len FileV.empty 0 (zeros m) FileV.empty_ok (by omega) (by rw [zeros_len]; omega) (zeros_bytes m) hne
  rw [zeros_len, lacks_empty m h0] at h
  show ((FileV.empty.puts 0 (zeros m)).keys.length : Int) = _
  rw [h]
  show (0 : Int) + _ = _
  omega

theorem write_empty (V : PoolV) (f : Int) (m : Nat) (hg : aget V.files f = some FileV.empty) (h0 : 1 ≤ m) (h1 : m ≤ 1024) :
    V.write f 0 (zeros m) = if V.left < ((m : Int) + 16 - 1) / 16 then (V, 43) else ({ V with left := V.left - ((m : Int) + 16 - 1) / 16, files := aset V.files f (zfile m) }, 0) := by
  have hne : zeros m ≠ [] := by
    intro e
    have := zeros_len m
    rw [e] at this
    simp at this; omega
  unfold PoolV.write
  rw [hg]
  dsimp only
  rw [if_neg (by omega), if_neg hne, if_neg (by rw [zeros_len]; omega), zeros_len, lacks_empty m h0]
  unfold zfile
  rw [zeros_len]

theorem write_again (V : PoolV) (f : Int) (m : Nat) (hg : aget V.files f = some (zfile m)) (h0 : 1 ≤ m) (h1 : m ≤ 1024) (hl : 0 ≤ V.left) : (V.write f 0 (zeros m)).2 = 0 := by
  have hne : zeros m ≠ [] := by
    intro e
    have := zeros_len m
    rw [e] at this
    simp at this; omega
  have hlk : (zfile m).lacks 0 (0 + ((zeros m).length : Int)) = 0 := lacks_done FileV.empty (zeros m) hne _
  unfold PoolV.write
  rw [hg]
  dsimp only
  rw [if_neg (by omega), if_neg hne, if_neg (by rw [zeros_len]; omega), hlk, if_neg (by omega)]

/-- The statement's course, plainly. -/
theorem drop_pure (n : Int) (a b : Nat) (hn : 1 ≤ n) (ha0 : 1 ≤ a) (ha1 : a ≤ 1024) (hb0 : 1 ≤ b) (hb1 : b ≤ 1024) :
    ∃ V3 e1 V4 e2 V5 V6 e3, (PoolV.file (PoolV.file ⟨n, 0, []⟩)).write 1 0 (zeros a) = (V3, e1) ∧ ((e1 == 0) = decide (((a : Int) + 16 - 1) / 16 ≤ n)) ∧
      V3.write 2 0 (zeros b) = (V4, e2) ∧ ((e2 == 0) = decide ((if ((a : Int) + 16 - 1) / 16 ≤ n then ((a : Int) + 16 - 1) / 16 else 0) + ((b : Int) + 16 - 1) / 16 ≤ n)) ∧
      V4.drop 1 = (V5, 0) ∧ V5.used 1 = 0 ∧ V5.size 1 = 0 ∧ V5.write 2 0 (zeros b) = (V6, e3) ∧ ((e3 == 0) = decide (((b : Int) + 16 - 1) / 16 ≤ n)) ∧ V6.made = 2 ∧ aget V6.files 1 = none ∧ (e1 = 0 ∨ e1 = 43) := by
  have hka := zfile_keys a ha0 ha1
  have hkb := zfile_keys b hb0 hb1
  generalize hA : ((a : Int) + 16 - 1) / 16 = A at *
  generalize hB : ((b : Int) + 16 - 1) / 16 = B at *
  have hA1 : 1 ≤ A := by omega
  have hB1 : 1 ≤ B := by omega
  have h2 : PoolV.file (PoolV.file ⟨n, 0, []⟩) = ⟨n, 2, [(1, FileV.empty), (2, FileV.empty)]⟩ := rfl
  rw [h2]
  have w1 := write_empty ⟨n, 2, [(1, FileV.empty), (2, FileV.empty)]⟩ 1 a rfl ha0 ha1
  rw [hA] at w1
  by_cases cA : A ≤ n
  · rw [if_neg (by show ¬ n < A; omega)] at w1
    have w2 := write_empty ⟨n - A, 2, [(1, zfile a), (2, FileV.empty)]⟩ 2 b rfl hb0 hb1
    rw [hB] at w2
    by_cases cB : A + B ≤ n
    · rw [if_neg (by show ¬ n - A < B; omega)] at w2
      have w4 := write_again ⟨n - A - B + ((zfile a).keys.length : Int), 2, [(2, zfile b)]⟩ 2 b rfl hb0 hb1 (by show 0 ≤ n - A - B + _; omega)
      have w5 : ((PoolV.write ⟨n - A - B + ((zfile a).keys.length : Int), 2, [(2, zfile b)]⟩ 2 0 (zeros b)).1.made = 2 ∧ aget (PoolV.write ⟨n - A - B + ((zfile a).keys.length : Int), 2, [(2, zfile b)]⟩ 2 0 (zeros b)).1.files 1 = none) := by
        unfold PoolV.write
        simp only [aget, aset]
        simp only [show (2 : Int) = 1 ↔ False by simp, if_false, if_true]
        split
        · simp [aget]
        · split
          · simp [aget]
          · split
            · simp [aget]
            · split <;> simp [aget]
      obtain ⟨V6, e3, hX⟩ : ∃ V6 e3, PoolV.write ⟨n - A - B + ((zfile a).keys.length : Int), 2, [(2, zfile b)]⟩ 2 0 (zeros b) = (V6, e3) := ⟨_, _, rfl⟩
      rw [hX] at w4 w5
      exact ⟨_, _, _, _, ⟨n - A - B + ((zfile a).keys.length : Int), 2, [(2, zfile b)]⟩, V6, e3, w1, by simp [cA], w2, by simp [cA, cB], rfl, rfl, rfl, hX, by rw [show e3 = 0 from w4]; simp; omega, w5.1, w5.2, .inl rfl⟩
    · rw [if_pos (by show n - A < B; omega)] at w2
      have w4 := write_empty ⟨n - A + ((zfile a).keys.length : Int), 2, [(2, FileV.empty)]⟩ 2 b rfl hb0 hb1
      rw [hB] at w4
      by_cases cC : B ≤ n
      · rw [if_neg (by show ¬ n - A + _ < B; omega)] at w4
        exact ⟨_, _, _, _, ⟨n - A + ((zfile a).keys.length : Int), 2, [(2, FileV.empty)]⟩, _, _, w1, by simp [cA], w2, by simp [cA, cB], rfl, rfl, rfl, w4, by simp [cC], rfl, rfl, .inl rfl⟩
      · rw [if_pos (by show n - A + _ < B; omega)] at w4
        exact ⟨_, _, _, _, ⟨n - A + ((zfile a).keys.length : Int), 2, [(2, FileV.empty)]⟩, _, _, w1, by simp [cA], w2, by simp [cA, cB], rfl, rfl, rfl, w4, by simp [cC], rfl, rfl, .inl rfl⟩
  · rw [if_pos (by show n < A; omega)] at w1
    have w2 := write_empty ⟨n, 2, [(1, FileV.empty), (2, FileV.empty)]⟩ 2 b rfl hb0 hb1
    rw [hB] at w2
    by_cases cB : B ≤ n
    · rw [if_neg (by show ¬ n < B; omega)] at w2
      have w4 := write_again ⟨n - B + ((0 : Nat) : Int), 2, [(2, zfile b)]⟩ 2 b rfl hb0 hb1 (by show 0 ≤ n - B + _; omega)
      have w5 : ((PoolV.write ⟨n - B + ((0 : Nat) : Int), 2, [(2, zfile b)]⟩ 2 0 (zeros b)).1.made = 2 ∧ aget (PoolV.write ⟨n - B + ((0 : Nat) : Int), 2, [(2, zfile b)]⟩ 2 0 (zeros b)).1.files 1 = none) := by
        unfold PoolV.write
        simp only [aget, aset]
        simp only [show (2 : Int) = 1 ↔ False by simp, if_false, if_true]
        split
        · simp [aget]
        · split
          · simp [aget]
          · split
            · simp [aget]
            · split <;> simp [aget]
      obtain ⟨V6, e3, hX⟩ : ∃ V6 e3, PoolV.write ⟨n - B + ((0 : Nat) : Int), 2, [(2, zfile b)]⟩ 2 0 (zeros b) = (V6, e3) := ⟨_, _, rfl⟩
      rw [hX] at w4 w5
      exact ⟨_, _, _, _, ⟨n - B + ((0 : Nat) : Int), 2, [(2, zfile b)]⟩, V6, e3, w1, by simp [cA], w2, by simp [cA, cB], rfl, rfl, rfl, hX, by rw [show e3 = 0 from w4]; simp; omega, w5.1, w5.2, .inr rfl⟩
    · rw [if_pos (by show n < B; omega)] at w2
      have w4 := write_empty ⟨n + ((0 : Nat) : Int), 2, [(2, FileV.empty)]⟩ 2 b rfl hb0 hb1
      rw [hB, if_pos (by show n + ((0 : Nat) : Int) < B; omega)] at w4
      exact ⟨_, _, _, _, ⟨n + ((0 : Nat) : Int), 2, [(2, FileV.empty)]⟩, _, _, w1, by simp [cA], w2, by simp [cA, cB], rfl, rfl, rfl, w4, by simp [cB], rfl, rfl, .inr rfl⟩

theorem aget_file (L : List (Int × FileV)) (k : Int) (h : aget L 1 = none) : aget (aset L (2 + 1) FileV.empty) 1 = none := by
  rw [aget_none_iff] at h ⊢
  intro q
  obtain ⟨x, hx, e⟩ := List.mem_map.1 q
  have : x.1 = 2 + 1 ∨ x ∈ L := by
    clear h q e
    induction L with
    | nil => simp only [aset, List.mem_singleton] at hx; subst hx; exact .inl rfl
    | cons y r ih =>
      obtain ⟨c, u⟩ := y
      simp only [aset] at hx
      split at hx
      · rename_i hc
        rcases List.mem_cons.1 hx with hx | hx
        · left; rw [hx]; exact hc
        · right; exact List.mem_cons_of_mem _ hx
      · rcases List.mem_cons.1 hx with hx | hx
        · right; rw [hx]; exact List.mem_cons_self
        · exact (ih hx).imp id (List.mem_cons_of_mem _)
  rcases this with h1 | h1
  · omega
  · exact h (e ▸ List.mem_map_of_mem h1)

theorem drop_file (V : PoolV) (h1 : V.made = 2) (h2 : aget V.files 1 = none) : V.file.drop 1 = (V.file, 1) := by
  have h3 : aget V.file.files 1 = none := by
    show aget (aset V.files (V.made + 1) FileV.empty) 1 = none
    rw [h1]
    exact aget_file _ 0 h2
  unfold PoolV.drop
  rw [h3]

set_option maxRecDepth 100000 in
set_option maxHeartbeats 4000000 in
theorem drop_walk (x y z : Int) (w : World) :
    Calls Try.prog 6 #[.int .i64 x, .int .i64 y, .int .i64 z] w fun r w' => r = .returned (.bool true) ∧ Below w.heap.size w w' := by
  obtain ⟨i0, z0, ei⟩ := u8_row
  have HI := Lib.hid ei
  clear ei
  go_enter Try.func6, Try.ntmps6
  go_upto_region 9 with (first
    | (go_at_call_of 16 (Value.int .i64 x)
       refine (within_c _ _ 0 20 (by omega) (by omega) (by omega)).mono ?_
       rintro e w1 ⟨n', hn0, hn1, rfl, rfl⟩)
    | (go_at_call_of 16 (Value.int .i64 y)
       refine (within_c _ _ 0 400 (by omega) (by omega) (by omega)).mono ?_
       rintro e w1 ⟨a', ha0, ha1, rfl, rfl⟩)
    | (go_at_call_of 16 (Value.int .i64 z)
       refine (within_c _ _ 0 400 (by omega) (by omega) (by omega)).mono ?_
       rintro e w1 ⟨b', hb0, hb1, rfl, rfl⟩)
    | (go_at_call 11
       refine (new_c _ (1 + n') (by omega) (by omega)).mono ?_
       rintro e w1 ⟨pb, S1, rfl, hp1, ht1⟩
       have C := Lib.hid (Cur.made (Keep.refl w _) hp1 ht1 (PoolV.new_ok (by omega) (by omega)))
       clear hp1 ht1
       unfold ptr)
    | (go_at_call 12
       refine (file_cc C.out.pool C.out.ok (by simp [PoolV.file])).mono ?_
       rintro e w3 ⟨rfl, S2, hp3, ht3⟩
       replace C := Lib.hid (C.out.turn hp3 ht3 C.out.ok.file)
       clear hp3 ht3
       try rw [show (PoolV.file ⟨1 + n', 0, []⟩).made + 1 = 2 from rfl]))
  obtain ⟨a, ea⟩ : ∃ a : Nat, (a : Int) = 1 + a' := ⟨(1 + a').toNat, by omega⟩
  obtain ⟨b, eb⟩ : ∃ b : Nat, (b : Int) = 1 + b' := ⟨(1 + b').toNat, by omega⟩
  obtain ⟨V3, e1, V4, e2, V5, V6, e3, p1, p2, p3, p4, p5, p6, p7, p8, p9, p10, p11, p12⟩ := drop_pure (1 + n') a b (by omega) (by omega) (by omega) (by omega) (by omega)
  rw [ea, eb] at p4
  rw [ea] at p2
  rw [eb] at p9
  have EA := Lib.hid ea
  have EB := Lib.hid eb
  have W1 := Lib.hid p1
  have W2 := Lib.hid p3
  have WD := Lib.hid p5
  have W3 := Lib.hid p8
  have U6 := Lib.hid (And.intro p6 p7)
  have U10 := Lib.hid (And.intro p10 p11)
  have hz : ∀ (w w' : World) (nb m : Nat) (S : Nat → Prop), nb = w.heap.size → w'.heap[nb]? = some (.cells (Array.replicate m (.int .u8 0)) 5 (0, 0)) → (∀ b, S b → b < w.heap.size) → ∀ cap, BytesIn w' (.slice (some ⟨nb, 0, none⟩) m cap) (zeros m) S :=
    fun w w' nb m S h1 h2 h3 cap => rowF_bytes (by rw [rowF_zero]; exact h2) (fun i _ => by simp) (fun z => by have := h3 nb z; omega)
  have HZ := Lib.hid hz
  clear ea eb p1 p3 p5 p6 p7 p8 p10 p11 hz
  rcases (by omega : ((1 + a' + 16 - 1) / 16 ≤ 1 + n' ∧ (1 + a' + 16 - 1) / 16 + (1 + b' + 16 - 1) / 16 ≤ 1 + n' ∧ (1 + b' + 16 - 1) / 16 ≤ 1 + n') ∨ ((1 + a' + 16 - 1) / 16 ≤ 1 + n' ∧ ¬ (1 + a' + 16 - 1) / 16 + (1 + b' + 16 - 1) / 16 ≤ 1 + n' ∧ (1 + b' + 16 - 1) / 16 ≤ 1 + n') ∨
      ((1 + a' + 16 - 1) / 16 ≤ 1 + n' ∧ ¬ (1 + a' + 16 - 1) / 16 + (1 + b' + 16 - 1) / 16 ≤ 1 + n' ∧ ¬ (1 + b' + 16 - 1) / 16 ≤ 1 + n') ∨ (¬ (1 + a' + 16 - 1) / 16 ≤ 1 + n' ∧ (0 : Int) + (1 + b' + 16 - 1) / 16 ≤ 1 + n' ∧ (1 + b' + 16 - 1) / 16 ≤ 1 + n') ∨ (¬ (1 + a' + 16 - 1) / 16 ≤ 1 + n' ∧ ¬ (0 : Int) + (1 + b' + 16 - 1) / 16 ≤ 1 + n' ∧ ¬ (1 + b' + 16 - 1) / 16 ≤ 1 + n')) with ⟨cA, cB, cC⟩ | ⟨cA, cB, cC⟩ | ⟨cA, cB, cC⟩ | ⟨cA, cB, cC⟩ | ⟨cA, cB, cC⟩
  all_goals
    simp only [cA, if_true, if_false, cB, cC, decide_true, decide_false] at p2 p4 p9
    have p2' : (e1 != 0) = !(e1 == 0) := rfl
    rw [p2] at p2'
    simp only [Bool.not_true, Bool.not_false] at p2'
    clear p12
    go_wp2_with (first
      | (at_make
         first
           | refine law_make rfl _ _ _ rfl Try.underlying22 u8_zero rfl HI.out.1 HI.out.2.2.1 HI.out.2.2.2.1 rfl a (by have := EA.out; omega) (by omega) ?_
           | refine law_make rfl _ _ _ rfl Try.underlying22 u8_zero rfl HI.out.1 HI.out.2.2.1 HI.out.2.2.2.1 rfl b (by have := EB.out; omega) (by omega) ?_
         intro w6 nb hnb hn6 hk6
         have BZ := Lib.hid (HZ.out _ _ _ _ _ hnb hn6 (fun b z => C.out.pool.lt z))
         replace C := Lib.hid (C.out.step hk6)
         clear hnb hn6 hk6)
      | (go_at_call_of 13 (Value.int .i64 1)
         refine (write_c C.out.pool C.out.ok 1 0 (BZ.out _) (by rw [zeros_len]; unfold maxLen; have := EA.out; have := EB.out; omega)).mono ?_
         rintro e w7 ⟨rfl, S4, hp7, ht7⟩
         replace C := Lib.hid (C.out.turn hp7 ht7 (C.out.ok.write 1 0 (zeros_bytes _)))
         rw [W1.out] at C
         rw [W1.out]
         clear hp7 ht7 BZ)
      | (go_at_call_of 13 (Value.int .i64 2)
         refine (write_c C.out.pool C.out.ok 2 0 (BZ.out _) (by rw [zeros_len]; unfold maxLen; have := EA.out; have := EB.out; omega)).mono ?_
         rintro e w7 ⟨rfl, S4, hp7, ht7⟩
         replace C := Lib.hid (C.out.turn hp7 ht7 (C.out.ok.write 2 0 (zeros_bytes _)))
         rw [W2.out] at C
         rw [W2.out]
         clear hp7 ht7 BZ)
      | (go_at_call 20
         refine (drop_c C.out.pool C.out.ok 1).mono ?_
         rintro e w8 ⟨rfl, S5, hp8, ht8⟩
         replace C := Lib.hid (C.out.turn hp8 ht8 (C.out.ok.drop 1))
         first
           | (rw [WD.out] at C
              rw [WD.out]
              replace W2 := W3)
           | (rw [drop_file V6 U10.out.1 U10.out.2] at C
              rw [drop_file V6 U10.out.1 U10.out.2])
         clear hp8 ht8)
      | (go_at_call 18
         refine (used_c C.out.pool 1).mono ?_
         rintro e w6 ⟨rfl, rfl⟩
         rw [U6.out.1])
      | (go_at_call 17
         refine (size_c C.out.pool 1).mono ?_
         rintro e w6 ⟨rfl, rfl⟩
         rw [U6.out.2])
      | (go_at_call 12
         refine (file_cc C.out.pool C.out.ok (by rw [U10.out.1]; omega)).mono ?_
         rintro e w3 ⟨rfl, S2, hp3, ht3⟩
         replace C := Lib.hid (C.out.turn hp3 ht3 C.out.ok.file)
         clear hp3 ht3
         rw [show V6.made + 1 = 3 from by rw [U10.out.1]; rfl])
      | (go_at_call 15
         refine (known_c _).mono ?_
         rintro e w11 ⟨rfl, hk11⟩
         replace C := Lib.hid (C.out.step hk11)
         clear hk11))
    go_ret
    exact ⟨by first | rfl | (simp; omega), C.out.below⟩

end Go.Proofs.Ythlldbgcfohmcaa
