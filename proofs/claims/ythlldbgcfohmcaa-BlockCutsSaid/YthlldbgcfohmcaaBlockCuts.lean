/-
  BlockCuts: what is cut away is noughts when the file grows again, and its blocks are given back; what is ahead of the cut stays.
-/
import Derived.Test.YthlldbgcfohmcaaBlockL1
import Derived.Deep.RegionWith
namespace Go.Proofs.Ythlldbgcfohmcaa
open Go Go.RowKit
set_option linter.unusedSectionVars false
set_option linter.unusedSimpArgs false
set_option linter.unusedVariables false

theorem one_cut (L : Int) (F : FileV) (s : Int) (h0 : 0 ≤ s) (h1 : s ≤ 1024) : (One L F).cut 1 s = (One (L + (F.keys.length - (F.cut s).keys.length)) (F.cut s), 0) := by
  unfold PoolV.cut One
  simp only [aget, if_true, aset]
  rw [if_neg (by omega), if_neg (by omega)]

theorem BytesIn.take {w : World} {a : Option Addr} {n c : Nat} {l : List Int} {D : Nat → Prop} (h : BytesIn w (.slice a n c) l D) (m : Nat) (hm : m ≤ n) : BytesIn w (.slice a m c) (l.take m) D := by
  obtain ⟨h1, a', c', h2, h3⟩ := h
  simp only [Value.slice.injEq] at h2
  obtain ⟨rfl, rfl, rfl⟩ := h2
  have hl : (l.take m).length = m := by rw [List.length_take]; omega
  refine ⟨fun x hx => h1 x (List.mem_of_mem_take hx), a, c, by rw [hl], ?_⟩
  rcases h3 with rfl | ⟨b, off, h4, h5, h6⟩
  · left; simp
  · refine .inr ⟨b, off, h4, h5, fun i hi => ?_⟩
    rw [hl] at hi
    rw [h6 i (by omega)]
    simp [List.getD, List.getElem?_take, hi]

theorem FileV.empty_byte : FileV.empty.byte = fun _ => 0 := rfl

theorem cuts_pure (l : List Int) (s g : Int) (hl : l.length ≤ 600) (hlb : ∀ c ∈ l, 0 ≤ c ∧ c < 256) (h0 : 0 ≤ s) (h1 : s ≤ 700) (h2 : s ≤ g) (h3 : g ≤ 1000) (keep : Nat) (hk : (keep : Int) = min (l.length : Int) s) :
    (((FileV.empty.wrote 0 l).cut s).keys.length : Int) = ((keep : Int) + 16 - 1) / 16 ∧
      listF g.toNat (((FileV.empty.wrote 0 l).cut s).cut g).byte = listF g.toNat (putF (fun _ => 0) 0 (l.take keep)) := by
  constructor
  · have hok := FileV.wrote_ok FileV.empty_ok (p := 0) (by omega) (by omega) hlb
    have hnd : ((FileV.empty.wrote 0 l).cut s).keys.Nodup := hok.2.2.1.filter _
    have hp : ((FileV.empty.wrote 0 l).cut s).keys.Perm (span 0 (((keep : Int) + 16 - 1) / 16 - 1)) := by
      rw [List.perm_ext_iff_of_nodup hnd (span_nodup _ _)]
      intro x
      rw [mem_span]
      show x ∈ (FileV.empty.wrote 0 l).keys.filter (fun k => decide (k * 16 < s)) ↔ _
      rw [List.mem_filter, decide_eq_true_eq]
      unfold FileV.wrote
      by_cases hn : l = []
      · subst hn
        simp [FileV.empty]
        have : keep = 0 := by simp at hk; omega
        subst this
        omega
      · have hpos : 0 < l.length := List.length_pos_iff.2 hn
        rw [if_neg hn]
        show x ∈ (FileV.empty.puts 0 l).keys ∧ _ ↔ _
        rw [FileV.mem_puts]
        simp only [FileV.empty, List.not_mem_nil, false_or, hn, ne_eq, not_false_eq_true, true_and]
        omega
    rw [hp.length_eq]
    simp only [span, List.length_map, List.length_range]
    omega
  · refine listF_congr (fun i hi => ?_)
    show (if (i : Int) < g then (if (i : Int) < s then (FileV.empty.wrote 0 l).byte i else 0) else 0) = _
    rw [if_pos (by omega), FileV.wrote_byte]
    show (if (i : Int) < s then putF (fun _ => 0) 0 l i else 0) = _
    unfold putF
    have hlen : (l.take keep).length = keep := by rw [List.length_take]; omega
    rw [hlen]
    by_cases h4 : (i : Int) < s
    · rw [if_pos h4]
      by_cases h5 : i < l.length
      · rw [if_pos (by omega), if_pos (by omega)]
        have e : ((i : Int) - 0).toNat = i := by omega
        rw [e]
        have : i < keep := by omega
        simp [List.getD, List.getElem?_take, this]
      · rw [if_neg (by omega), if_neg (by omega)]
    · rw [if_neg h4, if_neg (by omega)]

set_option maxRecDepth 100000 in
set_option maxHeartbeats 4000000 in
theorem cuts_walk (a0 : Option Addr) (len0 cap0 : Nat) (x y : Int) (l0 : List Int) (w : World) (hl0 : l0.length = min len0 600) (hc0 : len0 ≤ cap0) (hm0 : cap0 ≤ maxLen)
    (hb0 : BytesIn w (.slice a0 l0.length cap0) l0 (fun b => w.heap.size ≤ b)) :
    Calls Try.prog 7 #[.slice a0 len0 cap0, .int .i64 x, .int .i64 y] w fun r w' => r = .returned (.bool true) ∧ Below w.heap.size w w' := by
  unfold maxLen at hm0
  have HB0 := Lib.hid hb0
  have l05 : l0.length ≤ 600 := by omega
  have l0c : l0.length ≤ cap0 := by omega
  have Hl0 := Lib.hid hl0
  obtain ⟨i0, z0, ei⟩ := u8_row
  have HI := Lib.hid ei
  clear hb0 hl0 ei
  go_enter Try.func7, Try.ntmps7
  go_upto_if 26 with (first
    | (go_at_call 11
       refine (new_c _ 256 (by omega) (by omega)).mono ?_
       rintro e w1 ⟨pb, S1, rfl, hp1, ht1⟩
       have C := Lib.hid (Cur.made (Keep.refl w _) hp1 ht1 (PoolV.new_ok (by omega) (by omega)))
       clear hp1 ht1
       unfold ptr))
  go_cut [0] from 24 (fun s wc => s = .slice a0 l0.length cap0 ∧ w1 = wc)
  case first =>
    by_cases h5 : 600 < len0
    all_goals
      go_wp2
      go_meet
      case rel => exact ⟨by rw [Hl0.out]; congr 1; omega, rfl⟩
  case rest =>
    obtain ⟨rfl, rfl⟩ := hcut
    go_upto_if 53 with (first
      | (go_at_call_of 16 (Value.int .i64 x)
         refine (within_c _ _ 0 700 (by omega) (by omega) (by omega)).mono ?_
         rintro e w1 ⟨s, hs0, hs1, rfl, rfl⟩)
      | (go_at_call_of 16 (Value.int .i64 y)
         refine (within_c _ _ 0 300 (by omega) (by omega) (by omega)).mono ?_
         rintro e w1 ⟨gg, hg0, hg1, rfl, rfl⟩
         obtain ⟨keep, hkeep⟩ : ∃ k : Nat, (k : Int) = min (l0.length : Int) s := ⟨(min (l0.length : Int) s).toNat, by omega⟩
         have HK := Lib.hid hkeep
         have PU := Lib.hid (cuts_pure l0 s (s + gg) l05 HB0.out.1 hs0 hs1 (by omega) (by omega) keep hkeep)
         clear hkeep)
      | (go_at_call 12
         refine (file_cc C.out.pool C.out.ok (by simp)).mono ?_
         rintro e w3 ⟨rfl, S2, hp3, ht3⟩
         replace C : Hid (Cur w w3 pb S2 (One 256 FileV.empty) 256) := Lib.hid (C.out.turn hp3 ht3 C.out.ok.file)
         clear hp3 ht3)
      | (go_at_call 13
         refine (write_c C.out.pool C.out.ok 1 0 (C.out.bytes HB0.out) (by unfold maxLen; omega)).mono ?_
         rintro e w4 ⟨rfl, S3, hp4, ht4⟩
         have W := one_wrote_empty 0 l0 (by omega) (by omega) HB0.out.1
         replace C := Lib.hid (C.out.turn hp4 ht4 (C.out.ok.write 1 0 HB0.out.1))
         clear hp4 ht4
         rw [W] at C
         rw [W]
         clear W)
      | (go_at_call_of 21 (Value.int .i64 s)
         refine (cut_c C.out.pool C.out.ok 1 s).mono ?_
         rintro e w5 ⟨rfl, S4, hp5, ht5⟩
         have W := one_cut (256 - ((FileV.empty.wrote 0 l0).keys.length : Int)) (FileV.empty.wrote 0 l0) s hs0 (by omega)
         replace C := Lib.hid (C.out.turn hp5 ht5 (C.out.ok.cut 1 s))
         clear hp5 ht5
         rw [W] at C
         rw [W]
         clear W))
    go_cut [10] from 53 (fun q wc => q = .int .i64 (keep : Int) ∧ w5 = wc)
    case first =>
      by_cases h0 : s < (l0.length : Int)
      all_goals
        go_wp2
        go_meet
        case rel => exact ⟨by congr 1; have := HK.out; omega, rfl⟩
    case rest =>
      obtain ⟨rfl, rfl⟩ := hcut
      have hkb : keep ≤ 600 := by have := HK.out; omega
      have hkc : keep ≤ cap0 := by have := HK.out; omega
      obtain ⟨gn, hgn⟩ : ∃ k : Nat, (k : Int) = s + gg := ⟨(s + gg).toNat, by omega⟩
      have hkg : keep ≤ gn := by have := HK.out; omega
      have HG := Lib.hid hgn
      have hgb : gn ≤ 1000 := by omega
      clear hgn
      go_wp2_with (first
        | (go_at_call 17
           refine (size_c C.out.pool 1).mono ?_
           rintro e w10 ⟨rfl, rfl⟩
           rw [one_size, FileV.cut_size])
        | (go_at_call 18
           refine (used_c C.out.pool 1).mono ?_
           rintro e w10 ⟨rfl, rfl⟩
           rw [one_used, PU.out.1])
        | (go_at_call_of 21 (Value.int .i64 (s + gg))
           refine (cut_c C.out.pool C.out.ok 1 (s + gg)).mono ?_
           rintro e w6 ⟨rfl, S5, hp5, ht5⟩
           have W := one_cut (256 - ((FileV.empty.wrote 0 l0).keys.length : Int) + (((FileV.empty.wrote 0 l0).keys.length : Int) - (((FileV.empty.wrote 0 l0).cut s).keys.length : Int))) ((FileV.empty.wrote 0 l0).cut s) (s + gg) (by omega) (by omega)
           replace C := Lib.hid (C.out.turn hp5 ht5 (C.out.ok.cut 1 (s + gg)))
           clear hp5 ht5
           rw [W] at C
           rw [W]
           clear W)
        | (go_at_call 14
           have hok := C.out.ok.files (1, ((FileV.empty.wrote 0 l0).cut s).cut (s + gg)) (by simp [One])
           have hrd := fun L => one_read' L _ 2000 hok (by omega)
           refine (read_c C.out.pool 1 0 2000).mono ?_
           rintro e w9 ⟨v9, rfl, hv9, hk9⟩
           rw [hrd] at hv9
           rw [hrd]
           replace hv9 : BytesNew w9 v9 (listF (s + gg).toNat (((FileV.empty.wrote 0 l0).cut s).cut (s + gg)).byte) w6.heap.size := hv9
           have hx9 := hv9.bytesIn (D := S5) (fun c hc => by obtain ⟨i, _, rfl⟩ := List.mem_map.1 hc; exact hok.2.2.2.2.2 i) (fun b z => C.out.pool.lt z)
           rw [PU.out.2, show (s + gg).toNat = gn by have := HG.out; omega] at hx9
           have B9 := Lib.hid hx9.old
           replace C := Lib.hid (C.out.step hk9)
           clear hk9 hv9 hx9 hok hrd)
        | (at_make
           refine law_make rfl _ _ _ rfl Try.underlying22 u8_zero rfl HI.out.1 HI.out.2.2.1 HI.out.2.2.2.1 rfl gn (by have := HG.out; omega) (by have := HG.out; omega) ?_
           intro w7 nb hnb hn6 hk6
           have NB := Lib.hid (show w.heap.size ≤ nb ∧ ¬ S5 nb from ⟨by have := C.out.keep.size; omega, fun z => by have := C.out.pool.lt z; omega⟩)
           rw [← rowF_zero] at hn6
           have N := Lib.hid hn6
           have NB2 := Lib.hid hnb
           have K6 := Lib.hid hk6
           replace C := Lib.hid (C.out.step hk6)
           clear hnb hn6 hk6)
        | (refine law_copy rfl (.tmp 83) (.tmp 86) _ _ 5 rfl Try.underlying22 HI.out.1 HI.out.2.2.1 rfl rfl ((C.out.bytes HB0.out).take keep (by have := HK.out; omega)) N.out (by rw [List.length_take]; omega) (by omega) ?_
           intro w8 hb7 hk7
           have hC8 := C.out.beside hk7 (fun b e => by have e' : b = nb := e; rw [e']; exact NB.out)
           have hB8 := (B9.out.keep K6.out (fun b z => z.elim)).keep hk7 (fun b e => by have e' : b = nb := e; have := NB2.out; omega)
           have hgb8 : ∀ i : Nat, i < gn → 0 ≤ (putF (fun _ => 0) (0 : Int) (l0.take keep)) i ∧ (putF (fun _ => 0) (0 : Int) (l0.take keep)) i < 256 := fun i _ => by
             rw [← FileV.empty_byte, ← FileV.wrote_byte]
             exact (FileV.wrote_ok FileV.empty_ok (p := 0) (by omega) (by rw [List.length_take]; omega) (fun c hc => HB0.out.1 c (List.mem_of_mem_take hc))).2.2.2.2.2 i
           have hw8 := rowF_bytes (cap := gn) (D := fun _ => False) hb7 hgb8 (fun z => z)
           have r1 := str_run (P := Try.prog) 22 9 Try.underlying22 Try.underlying5 Try.underlying9 hw8
           have r2 := str_run (P := Try.prog) 22 9 Try.underlying22 Try.underlying5 Try.underlying9 hB8
           replace C := Lib.hid hC8
           clear hC8 hB8 hgb8 hw8 hb7 hk7)
        | (go_at_call 15
           refine (known_c _).mono ?_
           rintro e w11 ⟨rfl, hk11⟩
           replace C := Lib.hid (C.out.step hk11)
           clear hk11))
      go_ret
      exact ⟨rfl, C.out.below⟩

theorem cuts_row (a0 : Option Addr) (len0 cap0 : Nat) (z0 : List Int) (x y : Int) (w : World) (w0 : RowIs w a0 len0 cap0 z0) :
    Calls Try.prog 7 #[.slice a0 len0 cap0, .int .i64 x, .int .i64 y] w fun r w' => r = .returned (.bool true) ∧ Below w.heap.size w w' := by
  have h0 := w0.bytes (min len0 600) (Nat.min_le_left _ _)
  have c0 := w0.cap
  exact cuts_walk a0 len0 cap0 x y (z0.take (min len0 600)) w h0.1 c0.1 c0.2.1 (by rw [h0.1]; exact h0.2)

end Go.Proofs.Ythlldbgcfohmcaa
