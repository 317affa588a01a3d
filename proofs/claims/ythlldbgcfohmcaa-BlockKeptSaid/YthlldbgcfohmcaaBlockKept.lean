/-
  BlockKept: what is read of a pool's file is new memory, and what was handed in is not kept.
-/
import Derived.Test.YthlldbgcfohmcaaBlockL0
import Derived.Deep.Cut
namespace Go.Proofs.Ythlldbgcfohmcaa
open Go Go.RowKit
set_option linter.unusedSectionVars false
set_option linter.unusedSimpArgs false
set_option linter.unusedVariables false

def One (L : Int) (F : FileV) : PoolV := ⟨L, 1, [(1, F)]⟩

theorem one_file (n : Int) : PoolV.file ⟨n, 0, []⟩ = One n FileV.empty := rfl

theorem lacks_le (F : FileV) (p e : Int) (h : p / 16 ≤ (e - 1) / 16 + 1) : F.lacks p e ≤ (e - 1) / 16 - p / 16 + 1 := by
  unfold FileV.lacks
  have := List.length_filter_le (fun k => !decide (k ∈ F.keys)) (span (p / 16) ((e - 1) / 16))
  have h2 : (span (p / 16) ((e - 1) / 16)).length = ((e - 1) / 16 + 1 - p / 16).toNat := by simp [span]
  omega

theorem one_write (L : Int) (F : FileV) (p : Int) (l : List Int) (h0 : 0 ≤ p) (h1 : l ≠ []) (h2 : p + l.length ≤ 1024) (h3 : F.lacks p (p + l.length) ≤ L) :
    (One L F).write 1 p l = (One (L - F.lacks p (p + l.length)) { F.puts p l with size := max F.size (p + l.length) }, 0) := by
  have hpos : 0 < l.length := List.length_pos_iff.2 h1
  unfold PoolV.write One
  simp only [aget, if_true, aset]
  rw [if_neg (by omega), if_neg h1, if_neg (by omega), if_neg (by omega)]

theorem one_write_nil (L : Int) (F : FileV) (p : Int) (h0 : 0 ≤ p) : (One L F).write 1 p [] = (One L F, 0) := by
  unfold PoolV.write One
  simp only [aget, if_true]
  rw [if_neg (by omega)]

theorem one_read (L : Int) (F : FileV) (n : Int) (h0 : 0 ≤ n) (h1 : 0 ≤ F.size) (h2 : F.size ≤ n) : (One L F).read 1 0 n = ((List.range F.size.toNat).map fun (i : Nat) => F.byte i, 0) := by
  unfold PoolV.read One
  simp only [aget, if_true]
  rw [if_neg (by omega)]
  by_cases h : F.size ≤ 0
  · rw [if_pos h]
    have : F.size.toNat = 0 := by omega
    rw [this]; rfl
  · rw [if_neg h]
    unfold FileV.read
    have : (min n (F.size - 0)).toNat = F.size.toNat := by omega
    rw [this]
    simp

/-- What BlockKept writes is there, and is read. -/
theorem kept_pure (l : List Int) (h : l.length ≤ 500) : ((One 256 FileV.empty).write 1 0 l).2 = 0 ∧ ((One 256 FileV.empty).write 1 0 l).1.read 1 0 1000 = (l, 0) := by
  by_cases hl : l = []
  · subst hl
    rw [one_write_nil _ _ _ (by omega)]
    exact ⟨rfl, by decide⟩
  · have hlk : FileV.empty.lacks 0 (0 + l.length) ≤ 256 := by
      have := lacks_le FileV.empty 0 (0 + l.length) (by omega)
      omega
    rw [one_write _ _ _ _ (by omega) hl (by omega) hlk]
    refine ⟨rfl, ?_⟩
    rw [one_read _ _ _ (by omega) (by show 0 ≤ max (0 : Int) (0 + l.length); omega) (by show max (0 : Int) (0 + l.length) ≤ 1000; omega)]
    show (List.map _ (List.range (max (0 : Int) (0 + l.length)).toNat), (0 : Int)) = (l, 0)
    have e : (max (0 : Int) (0 + (l.length : Int))).toNat = l.length := by omega
    rw [e]
    congr 1
    apply List.ext_getElem
    · simp
    · intro i h1 h2
      simp only [List.getElem_map, List.getElem_range]
      show (FileV.empty.puts 0 l).byte i = l[i]
      rw [FileV.puts_byte, if_pos (by omega)]
      have : ((i : Int) - 0).toNat = i := by omega
      rw [this]
      simp [h2]

set_option maxHeartbeats 2000000 in
theorem kept_walk (a0 : Option Addr) (len0 cap0 : Nat) (l : List Int) (w : World) (hl : l.length = min len0 500) (hlen : len0 ≤ maxLen) (hcap : len0 ≤ cap0) (hcm : cap0 ≤ maxLen) (hb : BytesIn w (.slice a0 l.length cap0) l (fun b => w.heap.size ≤ b)) :
    Calls Try.prog 3 #[.slice a0 len0 cap0] w fun r w' => r = .returned (.bool true) ∧ Below w.heap.size w w' := by
  unfold maxLen at hlen hcm
  have HB := Lib.hid hb
  have hl5 : l.length ≤ 500 := by omega
  have hpure := Lib.hid (kept_pure l hl5)
  have Hl := Lib.hid hl
  clear hb hl
  obtain ⟨i0, z0, ei⟩ := u8_row
  have HI := Lib.hid ei
  clear ei
  go_enter Try.func3, Try.ntmps3
  go_upto_if 24 with (
    go_at_call 11
    refine (new_c _ 256 (by omega) (by omega)).mono ?_
    rintro e w1 ⟨pb, S1, rfl, hp1, ht1⟩
    have P1 := Lib.hid (And.intro hp1 ht1)
    clear hp1 ht1
    unfold ptr)
  go_cut [0] from 22 (fun s wc => s = .slice a0 l.length cap0 ∧ wc = w1)
  case first =>
    by_cases h5 : 500 < len0
    · go_wp2
      go_meet
      case rel => exact ⟨by rw [Hl.out]; congr 1; omega, rfl⟩
    · go_wp2
      go_meet
      case rel => exact ⟨by rw [Hl.out]; congr 1; omega, rfl⟩
  case rest =>
    obtain ⟨rfl, rfl⟩ := hcut
    go_wp2_with (first
      | (at_builtin
         refine law_append (v := .slice (some ⟨wc.heap.size, 0, none⟩) 0 0) rfl _ _ _ rfl wc.heap.size Try.underlying22 HI.out.1 HI.out.2.1 HI.out.2.2.1 HI.out.2.2.2.1 HI.out.2.2.2.2 rfl (World.ownsRow_made _ _ _ (Nat.le_refl _) (by unfold maxLen; omega) (by simp)) (l.map (Value.int .u8)) rfl (by simp) ((HB.out.keep P1.out.2.keep (fun b q => q.elim)).keep (Keep.alloc _ _ (fun _ => False)) (fun b q => q.elim)).news (by simp [Value.oneCell']) (by omega) (by simp) ?_
         intro v' w2 hown2 hk2
         obtain ⟨av, cv, rfl⟩ := own_slice hown2
         have hp2 := (P1.out.1.keep (Keep.alloc wc (.cells #[] 5) (fun _ => False)) (fun b _ q => q)).keep hk2 (fun b q e => by
           have h1 := P1.out.1.lt q
           have e' : b = wc.heap.size := by simpa [Value.ownBlock] using e
           omega)
         rw [Nat.zero_add] at hown2
         have P2 := Lib.hid (And.intro hp2 (And.intro hown2 hk2))
         clear hown2 hk2 hp2
         rw [Nat.zero_add])
      | (go_at_call 12
         refine (file_cc P2.out.1 (PoolV.new_ok (by omega) (by omega)) (by simp)).mono ?_
         rintro e w3 ⟨rfl, S2, hp3, ht3⟩
         have hbm := (BytesIn.of_own (D := S1) P2.out.2.1 HB.out.1 (fun b e q => by
           have h1 := P1.out.1.lt q
           have h2 := (P2.out.2.1.lt b e.symm).1
           omega)).turn ht3
         have P3 := Lib.hid (And.intro hp3 (And.intro ht3 hbm))
         clear hp3 ht3 hbm)
      | (go_at_call 13
         refine (write_c P3.out.1 (PoolV.new_ok (by omega) (by omega)).file 1 0 P3.out.2.2 (by unfold maxLen; omega)).mono ?_
         rintro e w4 ⟨rfl, S3, hp4, ht4⟩
         have P4 := Lib.hid (And.intro hp4 ht4)
         clear hp4 ht4
         rw [show (PoolV.write (PoolV.file ⟨256, 0, []⟩) 1 0 l).2 = 0 from hpure.out.1]))
    -- the caller's own bytes turn
    go_loopw [7] (fun i wr => ∃ (j : Nat) (ys : List Int), j ≤ l.length ∧ i = .int .i64 j ∧ ys.length = l.length ∧ wr.ownsRow wc.heap.size 5 1 (.slice av l.length cv) l.length (ys.map (Value.int .u8)) ∧ Keep w4 wr (fun b => some b = Value.ownBlock (.slice av l.length cv)))
      (fun i _ => l.length - (intOf i).toNat)
    case atStart =>
      refine ⟨0, l, by omega, by simp, rfl, ?_, Keep.refl _ _⟩
      have h1 : ∀ b, some b = Value.ownBlock (.slice av l.length cv) → ¬ S1 b := fun b e q => by
        have h1 := P1.out.1.lt q
        have h2 := (P2.out.2.1.lt b e.symm).1
        omega
      refine own_keep (own_keep P2.out.2.1 P3.out.2.1.keep h1) P4.out.2.keep (fun b e q => ?_)
      rcases P3.out.2.1.new b q with q | q
      · exact h1 b e q
      · have h2 := (P2.out.2.1.lt b e.symm).2
        omega
    case round =>
      obtain ⟨j, ys, hj, rfl, hys, hown, hK⟩ := hrel
      by_cases hlt : j < l.length
      · obtain ⟨g, rfl, hg, _⟩ := own_some hown (by omega)
        obtain ⟨hc, hf⟩ := own_cell hown hlt
        have hj' : j < ys.length := by omega
        have hc' : wr.cell? ⟨g, j, none⟩ = some (.int .u8 ys[j]) := by rw [hc]; simp [hj']
        have A := Lib.hid (And.intro hys (And.intro hown hK))
        clear hc hys hown hK
        go_wp2
        go_roundw
        case measure => simp [intOf]; omega
        case rel =>
          obtain ⟨hys, hown, hK⟩ := A.out
          refine ⟨j + 1, ys.set j ((ys[j] + 1) % 256), by omega, by go_num, by simpa using hys, ?_, hK.trans (Keep.setCell _ _ _) (fun b e => .inl ?_)⟩
          · have := own_set hown hlt (.int .u8 ((ys[j] + 1) % 256))
            simpa using this
          · have e' : b = g := e
            simp [Value.ownBlock, e']
      · have A := Lib.hid (And.intro hown hK)
        clear hown hK
        have hp5 : PoolAt wr pb S3 ((One 256 FileV.empty).write 1 0 l).1 := P4.out.1.keep A.out.2 (fun b q e => by
          have h2 := P2.out.2.1.lt b e.symm
          rcases P4.out.2.new b q with q | q
          · rcases P3.out.2.1.new b q with q | q
            · have h1 := P1.out.1.lt q
              omega
            · omega
          · have := P3.out.2.1.keep.size
            omega)
        have hk5 : Keep w wr (fun _ => False) := by
          have k1 : Keep w wc (fun _ => False) := P1.out.2.keep
          have k2 : Keep w w2 (fun _ => False) := (k1.trans (Keep.alloc wc (.cells #[] 5) (fun _ => False)) (fun b q => q.elim)).trans P2.out.2.2 (fun b e => by
            have e' : b = wc.heap.size := by simpa [Value.ownBlock] using e
            have := k1.size
            right; omega)
          have hS1 : ∀ b, S1 b → False ∨ w.heap.size ≤ b := P1.out.2.new
          have k3 : Keep w w3 (fun _ => False) := k2.trans P3.out.2.1.keep hS1
          have k4 : Keep w w4 (fun _ => False) := k3.trans P4.out.2.keep (fun b q => by
            rcases P3.out.2.1.new b q with q | q
            · exact hS1 b q
            · have := k2.size
              right; omega)
          exact k4.trans A.out.2 (fun b e => by
            have h2 := P2.out.2.1.lt b e.symm
            have := k1.size
            right; omega)
        have P5 := Lib.hid (And.intro hp5 hk5)
        clear hp5 hk5 A
        go_wp2
        go_loopw [8] (fun i wq => ∃ j : Nat, j ≤ 2 ∧ i = .int .i64 j ∧ PoolAt wq pb S3 ((One 256 FileV.empty).write 1 0 l).1 ∧ Keep w wq (fun _ => False)) (fun i _ => 2 - (intOf i).toNat)
        case atStart => exact ⟨0, by omega, by simp, P5.out.1, P5.out.2⟩
        case round =>
          obtain ⟨q, hq, rfl, hpq, hkq⟩ := hrel
          by_cases hlt2 : q < 2
          · have Q := Lib.hid (And.intro hpq hkq)
            clear hpq hkq
            go_wp2_with (first
              | (go_at_call 14
                 refine (read_c Q.out.1 1 0 1000).mono ?_
                 rintro e w6 ⟨v6, rfl, hv6, hk6⟩
                 rw [hpure.out.2] at hv6
                 replace hv6 : BytesNew w6 v6 l wr.heap.size := hv6
                 rw [hpure.out.2]
                 have hown6 := hv6.own (by unfold maxLen; omega)
                 obtain ⟨a6, c6, rfl⟩ := own_slice hown6
                 have hb6 := hv6.bytesIn (D := fun _ => False) HB.out.1 (fun b q => q.elim)
                 have hB6 := HB.out.keep (Q.out.2.trans hk6 (fun b q => q.elim)) (fun b q => q.elim)
                 have Q6 := Lib.hid (And.intro hown6 (And.intro hk6 (And.intro hb6 hB6)))
                 clear hown6 hk6 hb6 hB6 hv6)
              | (refine law_str rfl _ _ (.tmp 61) rfl Try.underlying22 Try.underlying5 Try.underlying9 rfl Q6.out.2.2.1 ?_)
              | (refine law_str rfl _ _ (.tmp 63) rfl Try.underlying22 Try.underlying5 Try.underlying9 rfl Q6.out.2.2.2 ?_))
            obtain ⟨wo, rfl⟩ : ∃ wo : World, wo = wr := ⟨_, rfl⟩
            go_loopw [11] (fun i wq => ∃ (k : Nat) (ys : List Int), k ≤ l.length ∧ i = .int .i64 k ∧ ys.length = l.length ∧ wq.ownsRow wo.heap.size 5 1 (.slice a6 l.length c6) l.length (ys.map (Value.int .u8)) ∧ Keep w6 wq (fun b => some b = Value.ownBlock (.slice a6 l.length c6)))
              (fun i _ => l.length - (intOf i).toNat)
            case atStart => exact ⟨0, l, by omega, by simp, rfl, Q6.out.1, Keep.refl _ _⟩
            case round =>
              obtain ⟨k, ys, hk, rfl, hys, hown, hK⟩ := hrel
              by_cases hlt3 : k < l.length
              · obtain ⟨g, rfl, hg, _⟩ := own_some hown (by omega)
                obtain ⟨hc, hf⟩ := own_cell hown hlt3
                have hk' : k < ys.length := by omega
                have hc' : wr.cell? ⟨g, k, none⟩ = some (.int .u8 ys[k]) := by rw [hc]; simp [hk']
                have A := Lib.hid (And.intro hys (And.intro hown hK))
                clear hc hys hown hK
                go_wp2
                go_roundw
                case measure => simp [intOf]; omega
                case rel =>
                  obtain ⟨hys, hown, hK⟩ := A.out
                  refine ⟨k + 1, ys.set k 99, by omega, by go_num, by simpa using hys, ?_, hK.trans (Keep.setCell _ _ _) (fun b e => .inl ?_)⟩
                  · have := own_set hown hlt3 (.int .u8 99)
                    simpa using this
                  · have e' : b = g := e
                    simp [Value.ownBlock, e']
              · have A := Lib.hid (And.intro hown hK)
                clear hown hK
                go_wp2
                go_roundw
                case measure => simp [intOf]; omega
                case rel =>
                  obtain ⟨hown, hK⟩ := A.out
                  have hnew : ∀ b, some b = Value.ownBlock (.slice a6 l.length c6) → wo.heap.size ≤ b := fun b e => (Q6.out.1.lt b e.symm).1
                  refine ⟨q + 1, by omega, by go_num, ?_, ?_⟩
                  · refine (Q.out.1.keep Q6.out.2.1 (fun b _ z => z)).keep hK (fun b z e => ?_)
                    have h1 := Q.out.1.lt z
                    have h2 := hnew b e
                    omega
                  · have h0 := Q.out.2.size
                    refine (Q.out.2.trans Q6.out.2.1 (fun b z => z.elim)).trans hK (fun b e => .inr ?_)
                    have h2 := hnew b e
                    omega
          · have Q := Lib.hid (And.intro hpq hkq)
            clear hpq hkq
            go_wp2_with (
              go_at_call 15
              refine (known_c _).mono ?_
              rintro e w9 ⟨rfl, hk9⟩)
            go_ret
            exact ⟨rfl, (Q.out.2.trans hk9 (fun b q => q.elim)).below (Nat.le_refl _) (fun b q => q.elim)⟩

theorem kept_row (a0 : Option Addr) (len0 cap0 : Nat) (z0 : List Int) (w : World) (w0 : RowIs w a0 len0 cap0 z0) :
    Calls Try.prog 3 #[.slice a0 len0 cap0] w fun r w' => r = .returned (.bool true) ∧ Below w.heap.size w w' := by
  have h := w0.bytes (min len0 500) (Nat.min_le_left _ _)
  have hc := w0.cap
  exact kept_walk a0 len0 cap0 (z0.take (min len0 500)) w h.1 (by omega) hc.1 hc.2.1 (by rw [h.1]; exact h.2)

end Go.Proofs.Ythlldbgcfohmcaa
