/-
  BlockNumbers: chapter 9's runs.
-/
import Derived.Test.YthlldbgcfohmcaaBlockL1
import Derived.Deep.RegionWith
namespace Go.Proofs.Ythlldbgcfohmcaa
open Go Go.RowKit
set_option linter.unusedSectionVars false
set_option linter.unusedSimpArgs false
set_option linter.unusedVariables false

def N0 : PoolV := PoolV.file ⟨2, 0, []⟩
def N1 : PoolV := (N0.write 1 8 (List.replicate 24 0)).1
def N2 : PoolV := (N1.cut 1 17).1
def N3 : PoolV := (N2.cut 1 16).1
def N4 : PoolV := (N3.drop 1).1
theorem n_a : N0.write 1 1024 [120] = (N0, 42) := by kernel_rfl
theorem n_b : N0.write 1 1029 [] = (N0, 0) := by kernel_rfl
theorem n_c : N0.write 1 (-1) [120] = (N0, 39) := by kernel_rfl
theorem n_d : N0.write 1 8 (List.replicate 30 0) = (N0, 43) := by kernel_rfl
theorem n_e : N0.write 1 8 (List.replicate 24 0) = (N1, 0) := by kernel_rfl
theorem n_f : N1.cut 1 17 = (N2, 0) := by kernel_rfl
theorem n_g : N2.used 1 = 2 := by kernel_rfl
theorem n_h : N2.cut 1 16 = (N3, 0) := by kernel_rfl
theorem n_i : N3.left = 1 := by kernel_rfl
theorem n_j : N3.cut 1 1025 = (N3, 42) := by kernel_rfl
theorem n_k : N3.cut 1 (-1) = (N3, 39) := by kernel_rfl
theorem n_l : N3.write 9 0 [120] = (N3, 1) := by kernel_rfl
theorem n_m : N3.drop 1 = (N4, 0) := by kernel_rfl
theorem n_n : N4.drop 1 = (N4, 1) := by kernel_rfl
theorem n_o : N4.read 1 0 1 = ([], 1) := by kernel_rfl
theorem n_p : N4.left = 2 := by kernel_rfl

theorem x_bytes {w : World} {S : Nat → Prop} (hS : ∀ b, S b → b < w.heap.size) : BytesIn (w.alloc (.cells #[.int .u8 120] 5 (1, 2))) (.slice (some ⟨w.heap.size, 0, none⟩) 1 1) [120] S := by
  refine ⟨by simp, some ⟨w.heap.size, 0, none⟩, 1, rfl, .inr ⟨w.heap.size, 0, rfl, fun q => Nat.lt_irrefl _ (hS _ q), fun i hi => ?_⟩⟩
  have : i = 0 := by simpa using hi
  subst this
  rw [cell_blk (heap_alloc_eq w _)]; rfl

theorem z_bytes {w w' : World} {nb m cap : Nat} {S : Nat → Prop} (h1 : nb = w.heap.size) (h2 : w'.heap[nb]? = some (.cells (Array.replicate m (.int .u8 0)) 5 (0, 0))) (h3 : ∀ b, S b → b < w.heap.size) :
    BytesIn w' (.slice (some ⟨nb, 0, none⟩) m cap) (List.replicate m 0) S := by
  have e : List.replicate m (0 : Int) = listF m (fun _ => 0) := by
    apply List.ext_getElem
    · simp [listF]
    · intro i h1 h2; simp [listF]
  rw [e]
  exact rowF_bytes (by rw [rowF_zero]; exact h2) (fun i _ => by simp) (fun z => by have := h3 nb z; omega)

theorem nil_bytes (w : World) (S : Nat → Prop) : BytesIn w (.slice none 0 0) [] S := ⟨by simp, none, 0, rfl, .inl rfl⟩

set_option maxRecDepth 100000 in
set_option maxHeartbeats 1000000 in
theorem numbers_walk (w : World) : Calls Try.prog 8 #[] w fun r w' => r = .returned (.bool true) ∧ Below w.heap.size w w' := by
  have kc := fun (w : World) (C : Array Value) (n c : Nat) => Lib.run_convert_bytes_const (P := Try.prog) w 22 5 C n c Try.underlying22 Try.underlying5
  obtain ⟨i0, z0, ei⟩ := u8_row
  have HI := Lib.hid ei
  clear ei
  have tok := True.intro
  go_enter Try.func8, Try.ntmps8
  go_wp2_with (first
    | (go_at_call 11
       with_reducible refine (new_bad_c _ (-1) (.inl (by omega))).mono ?_
       rintro e w1 ⟨rfl, rfl⟩)
    | (go_at_call_of 11 (Value.int .i64 257)
       refine (new_bad_c _ 257 (.inr (by omega))).mono ?_
       rintro e w1 ⟨rfl, rfl⟩)
    | (go_at_call_of 11 (Value.int .i64 2)
       refine (new_c _ 2 (by omega) (by omega)).mono ?_
       rintro e w1 ⟨pb, S1, rfl, hp1, ht1⟩
       have C := Lib.hid (Cur.made (Keep.refl w _) hp1 ht1 (PoolV.new_ok (by omega) (by omega)))
       clear hp1 ht1
       unfold ptr)
    | (go_at_call 12
       refine (file_cc C.out.pool C.out.ok (by simp)).mono ?_
       rintro e w3 ⟨rfl, S2, hp3, ht3⟩
       replace C : Hid (Cur w w3 pb S2 N0 2) := Lib.hid (C.out.turn hp3 ht3 C.out.ok.file)
       clear hp3 ht3)
    | (at_make
       first
         | refine law_make rfl (.const (.int .i64 30)) _ _ rfl Try.underlying22 u8_zero rfl HI.out.1 HI.out.2.2.1 HI.out.2.2.2.1 rfl 30 rfl (by omega) ?_
         | refine law_make rfl (.const (.int .i64 24)) _ _ rfl Try.underlying22 u8_zero rfl HI.out.1 HI.out.2.2.1 HI.out.2.2.2.1 rfl 24 rfl (by omega) ?_
       intro w6 nb hnb hn6 hk6
       have BZ := Lib.hid (fun cap => z_bytes (cap := cap) hnb hn6 (fun b z => C.out.pool.lt z))
       replace C := Lib.hid (C.out.step hk6)
       clear hnb hn6 hk6)
    | (go_at_call_of 13 (Value.slice none 0 0)
       refine (write_c C.out.pool C.out.ok 1 1029 (nil_bytes _ _) (by simp)).mono ?_
       rintro e w4 ⟨rfl, S3, hp4, ht4⟩
       replace C := Lib.hid (C.out.turn hp4 ht4 (C.out.ok.write 1 1029 (by simp)))
       clear hp4 ht4
       rw [n_b] at C
       rw [n_b])
    | (go_at_call_of 13 (Value.int .i64 8)
       refine (write_c C.out.pool C.out.ok 1 8 (BZ.out _) (by unfold maxLen; simp)).mono ?_
       rintro e w4 ⟨rfl, S3, hp4, ht4⟩
       replace C := Lib.hid (C.out.turn hp4 ht4 (C.out.ok.write 1 8 (by simp)))
       first
         | (rw [n_d] at C
            rw [n_d])
         | (rw [n_e] at C
            rw [n_e])
       clear hp4 ht4 BZ)
    | (go_at_call 13
       have hx := x_bytes (fun b z => C.out.pool.lt z)
       replace C := Lib.hid (C.out.step (Keep.alloc _ (.cells #[.int .u8 120] 5 (1, 2)) _))
       first
         | (go_at_call_of 13 (Value.int .i64 1024)
            refine (write_c C.out.pool C.out.ok 1 1024 hx (by unfold maxLen; simp)).mono ?_
            rintro e w4 ⟨rfl, S3, hp4, ht4⟩
            replace C := Lib.hid (C.out.turn hp4 ht4 (C.out.ok.write 1 1024 (by simp)))
            rw [n_a] at C
            rw [n_a])
         | (go_at_call_of 13 (Value.int .i64 9)
            refine (write_c C.out.pool C.out.ok 9 0 hx (by unfold maxLen; simp)).mono ?_
            rintro e w4 ⟨rfl, S3, hp4, ht4⟩
            replace C := Lib.hid (C.out.turn hp4 ht4 (C.out.ok.write 9 0 (by simp)))
            rw [n_l] at C
            rw [n_l])
         | (refine (write_c C.out.pool C.out.ok 1 (-1) hx (by unfold maxLen; simp)).mono ?_
            rintro e w4 ⟨rfl, S3, hp4, ht4⟩
            replace C := Lib.hid (C.out.turn hp4 ht4 (C.out.ok.write 1 (-1) (by simp)))
            rw [n_c] at C
            rw [n_c])
       clear hp4 ht4 hx)
    | (go_at_call_of 21 (Value.int .i64 17)
       refine (cut_c C.out.pool C.out.ok 1 17).mono ?_
       rintro e w4 ⟨rfl, S3, hp4, ht4⟩
       replace C := Lib.hid (C.out.turn hp4 ht4 (C.out.ok.cut 1 17))
       clear hp4 ht4
       rw [n_f] at C
       rw [n_f])
    | (go_at_call_of 21 (Value.int .i64 16)
       refine (cut_c C.out.pool C.out.ok 1 16).mono ?_
       rintro e w4 ⟨rfl, S3, hp4, ht4⟩
       replace C := Lib.hid (C.out.turn hp4 ht4 (C.out.ok.cut 1 16))
       clear hp4 ht4
       rw [n_h] at C
       rw [n_h])
    | (go_at_call_of 21 (Value.int .i64 1025)
       refine (cut_c C.out.pool C.out.ok 1 1025).mono ?_
       rintro e w4 ⟨rfl, S3, hp4, ht4⟩
       replace C := Lib.hid (C.out.turn hp4 ht4 (C.out.ok.cut 1 1025))
       clear hp4 ht4
       rw [n_j] at C
       rw [n_j])
    | (go_at_call 21
       refine (cut_c C.out.pool C.out.ok 1 (-1)).mono ?_
       rintro e w4 ⟨rfl, S3, hp4, ht4⟩
       replace C := Lib.hid (C.out.turn hp4 ht4 (C.out.ok.cut 1 (-1)))
       clear hp4 ht4
       rw [n_k] at C
       rw [n_k])
    | (go_at_call 20
       refine (drop_c C.out.pool C.out.ok 1).mono ?_
       rintro e w4 ⟨rfl, S3, hp4, ht4⟩
       replace C := Lib.hid (C.out.turn hp4 ht4 (C.out.ok.drop 1))
       clear hp4 ht4
       first
         | (rw [n_m] at C
            rw [n_m])
         | (rw [n_n] at C
            rw [n_n]))
    | (go_at_call 18
       refine (used_c C.out.pool 1).mono ?_
       rintro e w10 ⟨rfl, rfl⟩
       rw [n_g])
    | (go_at_call 19
       refine (left_c C.out.pool).mono ?_
       rintro e w10 ⟨rfl, rfl⟩
       first
         | rw [n_i]
         | rw [n_p])
    | (go_at_call 14
       refine (read_c C.out.pool 1 0 1).mono ?_
       rintro e w9 ⟨v9, rfl, hv9, hk9⟩
       rw [n_o]
       replace C := Lib.hid (C.out.step hk9)
       clear hk9 hv9)
    | (go_at_call 15
       refine (known_c _).mono ?_
       rintro e w11 ⟨rfl, hk11⟩
       replace C := Lib.hid (C.out.step hk11)
       clear hk11))
  go_ret
  exact ⟨rfl, C.out.below⟩

end Go.Proofs.Ythlldbgcfohmcaa
