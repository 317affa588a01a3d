/-
  The contract of Write.
-/
import Derived.Test.YtnjfcedkfobbcaaGreatBlock3
namespace Go.Proofs.YtnjfcedkfobbcaaGreat
open Go Go.RowKit
set_option linter.unusedSectionVars false
set_option linter.unusedSimpArgs false
set_option linter.unusedVariables false
set_option maxRecDepth 100000

theorem pool_look {w : World} {pb mf : Nat} {V : PoolV} {xa : Int → Nat} (h2 : MapAt w mf kInt (V.files.map fun x => (x.1, ptr (xa x.1)))) (f : Int) :
    (Instr.lookup 94 (.map (some mf)) (.int .i64 f) false).run Tryz.prog w = .ok (match aget V.files f with | none => .pointer none | some _ => ptr (xa f)) w := by
  have l := lookup_run (P := Tryz.prog) kFiles tFiles zFile h2 f false
  simp only [Bool.false_eq_true, if_false, aget_map V.files (fun k _ => ptr (xa k)), kInt] at l
  rw [l]
  cases aget V.files f <;> rfl

theorem write_none {w : World} {pb : Nat} {S : Nat → Prop} {V : PoolV} (h : PoolAt w pb S V) (f p : Int) (v : Value) (hg : aget V.files f = none) :
    Calls Tryz.prog 76 #[ptr pb, .int .i64 f, .int .i64 p, v] w fun e w' => e = .returned (.int .i64 1) ∧ w = w' := by
  obtain ⟨mf, xa, fs, h1, h2, h3, h4, h5, h6⟩ := h
  have c1 : w.cell? ⟨pb, 1, none⟩ = some (.map (some mf)) := by rw [cell_blk h1]; rfl
  have l := pool_look (pb := pb) h2 f
  rw [hg] at l
  clear h1 h2 h3 h4 h5 h6 hg
  unfold ptr at *
  go_enter Tryz.func76, Tryz.ntmps76
  go_wp2
  go_ret
  exact ⟨rfl, rfl⟩

theorem write_bad {w : World} {pb : Nat} {S : Nat → Prop} {V : PoolV} (h : PoolAt w pb S V) (f p : Int) (a : Option Addr) (len cap : Nat) (hlen : len ≤ maxLen) {F : FileV} (hg : aget V.files f = some F) (e : Int)
    (hq : (p < 0 ∧ e = 39) ∨ (0 ≤ p ∧ len = 0 ∧ e = 0) ∨ (0 ≤ p ∧ 1024 < len ∧ e = 42) ∨ (0 ≤ p ∧ 0 < len ∧ len ≤ 1024 ∧ 1024 - (len : Int) < p ∧ e = 42)) :
    Calls Tryz.prog 76 #[ptr pb, .int .i64 f, .int .i64 p, .slice a len cap] w fun r w' => r = .returned (.int .i64 e) ∧ w = w' := by
  obtain ⟨mf, xa, fs, h1, h2, h3, h4, h5, h6⟩ := h
  have c1 : w.cell? ⟨pb, 1, none⟩ = some (.map (some mf)) := by rw [cell_blk h1]; rfl
  have l := pool_look (pb := pb) h2 f
  rw [hg] at l
  unfold maxLen at hlen
  clear h1 h2 h3 h4 h5 h6 hg
  unfold ptr at *
  rcases hq with ⟨q1, rfl⟩ | ⟨q1, rfl, rfl⟩ | ⟨q1, q2, rfl⟩ | ⟨q1, q2, q3, q4, rfl⟩
  · go_enter Tryz.func76, Tryz.ntmps76
    go_wp2
    go_ret
    exact ⟨rfl, rfl⟩
  · have q1' : ¬ p < 0 := by omega
    go_enter Tryz.func76, Tryz.ntmps76
    go_wp2
    go_ret
    exact ⟨rfl, rfl⟩
  · have q1' : ¬ p < 0 := by omega
    have q2' : ((len : Int) == 0) = false := by simp; omega
    have q3 : 0 < len := by omega
    go_enter Tryz.func76, Tryz.ntmps76
    go_wp2
    go_ret
    exact ⟨rfl, rfl⟩
  · have q1' : ¬ p < 0 := by omega
    have q2' : ((len : Int) == 0) = false := by simp; omega
    go_enter Tryz.func76, Tryz.ntmps76
    go_wp2
    go_ret
    exact ⟨rfl, rfl⟩

theorem write_full {w : World} {pb : Nat} {S : Nat → Prop} {V : PoolV} (h : PoolAt w pb S V) (f p : Int) (a : Option Addr) (len cap : Nat) {F : FileV} (hg : aget V.files f = some F)
    (q1 : 0 ≤ p) (q2 : 0 < len) (q3 : p + len ≤ 1024) (q4 : V.left < F.lacks p (p + len)) :
    Calls Tryz.prog 76 #[ptr pb, .int .i64 f, .int .i64 p, .slice a len cap] w fun r w' => r = .returned (.int .i64 43) ∧ w = w' := by
  obtain ⟨mf, xa, fs, h1, h2, h3, h4, h5, h6⟩ := h
  have c1 : w.cell? ⟨pb, 1, none⟩ = some (.map (some mf)) := by rw [cell_blk h1]; rfl
  have c0 : w.cell? ⟨pb, 0, none⟩ = some (.int .i64 V.left) := by rw [cell_blk h1]; rfl
  have l := pool_look (pb := pb) h2 f
  rw [hg] at l
  have hl := lacks_c (h3 _ (aget_mem hg)) p (p + len) q1 (by omega) q3
  clear h1 h2 h3 h4 h5 h6 hg
  have q1' : ¬ p < 0 := by omega
  have q2' : ((len : Int) == 0) = false := by simp; omega
  have q5 : len ≤ 1024 := by omega
  have q6 : ¬ 1024 - (len : Int) < p := by omega
  have hl' := Lib.hid hl
  clear hl
  unfold ptr at *
  go_enter Tryz.func76, Tryz.ntmps76
  go_wp2_with (go_at_call 94; refine hl'.out.mono ?_; rintro e w' ⟨rfl, rfl⟩)
  go_ret
  exact ⟨rfl, rfl⟩

theorem FileAt.resize {w : World} {xb bm : Nat} {ad : Int → Nat} {S : Nat → Prop} {F : FileV} (hok : F.ok)
    (g1 : w.heap[xb]? = some (.cells #[.int .i64 F.size, .map (some bm)] 127 (0, 0)))
    (g2 : MapAt w bm kInt (F.keys.map fun k => (k, ptr (ad k))))
    (g3 : ∀ k ∈ F.keys, w.heap[ad k]? = some (.cells (rowOf F.byte k) 134 (0, 0)))
    (g4 : ∀ k ∈ F.keys, ∀ j ∈ F.keys, ad k = ad j → k = j)
    (g5 : ∀ b, S b ↔ b = xb ∨ b = bm ∨ ∃ k ∈ F.keys, b = ad k) {s : Int} (h0 : 0 ≤ s) (h1 : s ≤ 1024) :
    FileAt (w.setCell ⟨xb, 0, none⟩ (.int .i64 s)) xb S { F with size := s } := by
  have hap := FileAt.apart g1 g2 g3
  have k := Keep.setCell w ⟨xb, 0, none⟩ (.int .i64 s)
  exact ⟨⟨h0, h1, hok.2.2⟩, bm, ad, by rw [heap_setCell_eq _ g1]; rfl, g2.keep k (fun e => hap.1 e.symm), fun j hj => k.get (g3 j hj) (hap.2 j hj).1, g4, g5⟩

set_option maxHeartbeats 1000000 in
theorem write_ok {w : World} {pb : Nat} {S : Nat → Prop} {V : PoolV} (h : PoolAt w pb S V) (f p : Int) (l : List Int) (b0 o0 cap : Nat) {F : FileV} (hg : aget V.files f = some F)
    (hb : ¬ S b0) (hc : ∀ i, i < l.length → w.cell? ⟨b0, o0 + i, none⟩ = some (.int .u8 (l.getD i 0))) (hl : ∀ c ∈ l, 0 ≤ c ∧ c < 256)
    (q0 : 0 ≤ V.left) (q0' : V.left ≤ 256) (q1 : 0 ≤ p) (q2 : 0 < l.length) (q3 : p + l.length ≤ 1024) (q4 : F.lacks p (p + l.length) ≤ V.left) :
    Calls Tryz.prog 76 #[ptr pb, .int .i64 f, .int .i64 p, .slice (some ⟨b0, o0, none⟩) l.length cap] w fun r w' => r = .returned (.int .i64 0) ∧
      ∃ S', PoolAt w' pb S' { V with left := V.left - F.lacks p (p + l.length), files := aset V.files f { F.puts p l with size := max F.size (p + l.length) } } ∧ Turn w S w' S' := by
  obtain ⟨mf, xa, fs, h1, h2, h3, h4, h5, h6⟩ := h
  have c1 : w.cell? ⟨pb, 1, none⟩ = some (.map (some mf)) := by rw [cell_blk h1]; rfl
  have c0 : w.cell? ⟨pb, 0, none⟩ = some (.int .i64 V.left) := by rw [cell_blk h1]; rfl
  have f0 : w.frozen? ⟨pb, 0, none⟩ = false := free_blk h1 0
  have lk := pool_look (pb := pb) h2 f
  rw [hg] at lk
  have hF := h3 _ (aget_mem hg)
  have hll := Lib.hid (lacks_c hF p (p + l.length) q1 (by omega) q3)
  have hlk0 : 0 ≤ F.lacks p (p + l.length) := by unfold FileV.lacks; exact Int.natCast_nonneg _
  have hfile := h4 _ (aget_mem hg)
  have hS : ∀ b, fs f b → S b := fun b q => (h6 b).2 (.inr (.inr ⟨_, aget_mem hg, q⟩))
  have hSp : S pb := (h6 pb).2 (.inl rfl)
  have q1' : ¬ p < 0 := by omega
  have q2' : ((l.length : Int) == 0) = false := by rw [beq_eq_false_iff_ne]; omega
  have q5 : l.length ≤ 1024 := by omega
  have q6 : ¬ 1024 - (l.length : Int) < p := by omega
  have q7 : F.size ≤ 1024 := hF.1.2.1
  have q8 : 0 ≤ F.size := hF.1.1
  have H := Lib.hid (And.intro h1 (And.intro h2 (And.intro h3 (And.intro h4 (And.intro h5 h6)))))
  have HF := Lib.hid hF
  have Hg := Lib.hid hg
  have Hc := Lib.hid hc
  have Hl := Lib.hid hl
  have HS := Lib.hid hS
  have Hfile := Lib.hid hfile
  clear h1 h2 h3 h4 h5 h6 hF hg hc hl hS hfile
  unfold ptr at *
  go_enter Tryz.func76, Tryz.ntmps76
  go_wp2_with (go_at_call 94; refine hll.out.mono ?_; rintro e w' ⟨rfl, rfl⟩)
  go_loopw [66] (fun i wr => ∃ (j : Nat) (T : Nat → Prop), j ≤ l.length ∧ i = .int .i64 j ∧ FileAt wr (xa f) T (F.puts p (l.take j)) ∧ Keep (w.setCell ⟨pb, 0, none⟩ (.int .i64 (V.left - F.lacks p (p + l.length)))) wr (fs f) ∧ (∀ b, T b → fs f b ∨ w.heap.size ≤ b))
    (fun i _ => l.length - (intOf i).toNat)
  case atStart =>
    refine ⟨0, fs f, by omega, by simp, ?_, Keep.refl _ _, fun b q => .inl q⟩
    simp only [List.take_zero, FileV.puts]
    refine HF.out.keep (Keep.setCell _ _ _) ?_
    rintro b q rfl
    exact Hfile.out.1 q
  case round =>
    obtain ⟨j, T, hj, rfl, hFj, hK, hT⟩ := hrel
    obtain ⟨hok, bm, ad, g1, g2, g3, g4, g5⟩ := hFj
    by_cases hlt : j < l.length
    · have cb : wr.cell? ⟨b0, o0 + j, none⟩ = some (.int .u8 (l.getD j 0)) := by
        refine hK.cell ?_ (fun q => hb (HS.out _ q))
        rw [World.cell?_setCell_other _ _ _ _ (fun e => hb (by rw [Addr.mk.injEq] at e; rw [← e.1]; exact hSp))]
        exact Hc.out j hlt
      have cx : wr.cell? ⟨xa f, 1, none⟩ = some (.map (some bm)) := by rw [cell_blk g1]; rfl
      have hap := Lib.hid (FileAt.apart g1 g2 g3)
      have look := blocks_look g2 ((p + j) / 16)
      by_cases hk : (p + (j : Int)) / 16 ∈ (F.puts p (l.take j)).keys
      · rw [if_pos hk] at look
        have G := Lib.hid (And.intro hok (And.intro g1 (And.intro g2 (And.intro g3 (And.intro g4 (And.intro g5 (And.intro hK (And.intro hT hk))))))))
        clear hok g1 g2 g3 g4 g5 hK hT hk
        have cs : wr.cell? ⟨ad ((p + j) / 16), ((p + (j : Int)) % 16).toNat, none⟩ = some (.int .u8 ((F.puts p (l.take j)).byte (16 * ((p + j) / 16) + ((p + (j : Int)) % 16).toNat))) := by
          rw [cell_blk (G.out.2.2.2.1 _ G.out.2.2.2.2.2.2.2.2)]
          exact rowOf_get _ _ _ (by omega)
        have fz : wr.frozen? ⟨ad ((p + j) / 16), ((p + (j : Int)) % 16).toNat, none⟩ = false := free_blk (G.out.2.2.2.1 _ G.out.2.2.2.2.2.2.2.2) _
        unfold ptr at *
        go_wp2
        go_roundw
        case measure => simp [intOf]; omega
        case rel =>
          obtain ⟨hok, g1, g2, g3, g4, g5, hK, hT, hk⟩ := G.out
          have hl' := Hl.out l[j] (List.getElem_mem hlt)
          refine ⟨j + 1, T, by omega, by go_num, ?_, ?_, hT⟩
          · rw [List.take_succ_eq_append_getElem hlt, FileV.puts_snoc]
            have e : p + ((l.take j).length : Int) = p + j := by rw [List.length_take, Nat.min_eq_left hj]
            rw [e]
            unfold FileV.put FileV.addKey
            rw [if_pos hk]
            exact FileAt.set hok g1 g2 g3 g4 g5 hap.out.2 hk hl' (by omega) (heap_setCell_eq _ (g3 _ hk)) (Keep.setCell _ _ _)
          · refine hK.trans (Keep.setCell _ _ _) (fun b e => ?_)
            have : T b := (g5 b).2 (.inr (.inr ⟨_, hk, e⟩))
            simpa using hT b this
      · rw [if_neg hk] at look
        have G := Lib.hid (And.intro hok (And.intro g1 (And.intro g2 (And.intro g3 (And.intro g4 (And.intro g5 (And.intro hK (And.intro hT hk))))))))
        clear hok g1 g2 g3 g4 g5 hK hT hk
        obtain ⟨g1', g2', g3', g4', g5', hk'⟩ := And.intro G.out.2.1 (And.intro G.out.2.2.1 (And.intro G.out.2.2.2.1 (And.intro G.out.2.2.2.2.1 (And.intro G.out.2.2.2.2.2.1 G.out.2.2.2.2.2.2.2.2))))
        have G3 : Hid (∀ w3, MapAt w3 bm kInt (aset ((F.puts p (l.take j)).keys.map fun k => (k, ptr (ad k))) ((p + (j : Int)) / 16) (ptr wr.heap.size)) → Keep (wr.alloc (.cells (Array.replicate 16 (.int .u8 0)) 134)) w3 (fun b => b = bm) → _) :=
          fun w3 hm3 hk3 => FileAt.grow (nb := wr.heap.size) G.out.1 g1' g3' g4' g5' hap.out.2 hap.out.1 g2'.lt hk' (by omega) (by omega) rfl hm3 (hk3.get (heap_alloc_eq _ _) (Nat.ne_of_gt g2'.lt)) ((Keep.alloc _ _ _).trans hk3 (fun b q => .inl q))
        clear g1' g2' g3' g4' g5' hk'
        unfold ptr at *
        go_wp2_with (
          at_mapUpdate
          refine law_update rfl _ _ _ _ rfl kFiles tBlocks rfl (G.out.2.2.1.keep (Keep.alloc _ _ (fun _ => False)) (fun q => q)) ((p + (j : Int)) / 16) rfl ?_
          intro w3 hm3 hk3
          go_must (have GG := G3.out w3 hm3 hk3)
          obtain ⟨hF3, ad3, a1, a2, a3, a4, a5, a6, a7⟩ := GG
          have hk3m := (FileV.mem_addKey (F.puts p (l.take j)) ((p + (j : Int)) / 16) ((p + (j : Int)) / 16)).2 (.inr rfl)
          have cx3 : w3.cell? ⟨xa f, 1, none⟩ = some (.map (some bm)) := by rw [cell_blk a1]; rfl
          have look3 := blocks_look a2 ((p + (j : Int)) / 16)
          rw [if_pos hk3m] at look3
          have cs3 : w3.cell? ⟨ad3 ((p + j) / 16), ((p + (j : Int)) % 16).toNat, none⟩ = some (.int .u8 (((F.puts p (l.take j)).addKey ((p + (j : Int)) / 16)).byte (16 * ((p + j) / 16) + ((p + (j : Int)) % 16).toNat))) := by
            rw [cell_blk (a3 _ hk3m)]
            exact rowOf_get _ _ _ (by omega)
          have fz3 : w3.frozen? ⟨ad3 ((p + j) / 16), ((p + (j : Int)) % 16).toNat, none⟩ = false := free_blk (a3 _ hk3m) _
          have G4 := Lib.hid (And.intro hF3 (And.intro a1 (And.intro a2 (And.intro a3 (And.intro a4 (And.intro a5 (And.intro a6 (And.intro a7 (And.intro hk3m (And.intro hm3 hk3))))))))))
          clear hF3 a1 a2 a3 a4 a5 a6 a7 hk3m hm3 hk3 look cx
          unfold ptr at look3)
        go_roundw
        case measure => simp [intOf]; omega
        case rel =>
          obtain ⟨hF3, a1, a2, a3, a4, a5, a6, a7, hk3m, hm3, hk3⟩ := G4.out
          obtain ⟨hok, g1, g2, g3, g4, g5, hK, hT, hk⟩ := G.out
          have hl' := Hl.out l[j] (List.getElem_mem hlt)
          have hbm : T bm := (g5 bm).2 (.inr (.inl rfl))
          refine ⟨j + 1, fun b => T b ∨ b = wr.heap.size, by omega, by go_num, ?_, ?_, ?_⟩
          · rw [List.take_succ_eq_append_getElem hlt, FileV.puts_snoc]
            have e : p + ((l.take j).length : Int) = p + j := by rw [List.length_take, Nat.min_eq_left hj]
            rw [e]
            unfold FileV.put
            exact FileAt.set hF3.1 a1 a2 a3 a4 a5 a6 hk3m hl' (by omega) (heap_setCell_eq _ (a3 _ hk3m)) (Keep.setCell _ _ _)
          · have hs := hK.size
            simp only [World.size_setCell] at hs
            refine ((hK.trans ((Keep.alloc _ _ _).trans hk3 (fun b q => .inl q)) ?_).trans (Keep.setCell _ _ _) ?_)
            · rintro b rfl
              simpa using hT _ hbm
            · intro b e
              right
              have e' : b = ad3 ((p + (j : Int)) / 16) := e
              rw [a7] at e'
              simp only [World.size_setCell]; omega
          · have hs := hK.size
            simp only [World.size_setCell] at hs
            rintro b (q | q)
            · exact hT b q
            · right; omega
    · have hj' : j = l.length := by omega
      subst hj'
      have cz : wr.cell? ⟨xa f, 0, none⟩ = some (.int .i64 F.size) := by rw [cell_blk g1, FileV.puts_size]; rfl
      have fz : wr.frozen? ⟨xa f, 0, none⟩ = false := free_blk g1 0
      rw [List.take_length] at hok g1 g2 g3 g4 g5
      have G := Lib.hid (And.intro hok (And.intro g1 (And.intro g2 (And.intro g3 (And.intro g4 (And.intro g5 (And.intro hK hT)))))))
      clear hok g1 g2 g3 g4 g5 hK hT hj
      go_wp2
      all_goals
        go_ret
        first | rw [show max F.size (p + (l.length : Int)) = F.size by omega] | rw [show max F.size (p + (l.length : Int)) = p + (l.length : Int) by omega]
        refine ⟨rfl, ?_⟩
        obtain ⟨hok, g1, g2, g3, g4, g5, hK, hT⟩ := G.out
        obtain ⟨h1, h2, h3, h4, h5, h6⟩ := H.out
        have hp0 : pb < w.heap.size := lt_of_blk h1
        have hx : fs f (xa f) := by
          obtain ⟨_, _, _, _, _, _, _, k5⟩ := HF.out
          exact (k5 _).2 (.inl rfl)
        refine pool_turn h2 h3 h4 h5 h6 ?_ hp0 Hg.out ?_ ?_ (FileAt.resize hok g1 g2 g3 g4 g5 (by omega) (by omega)) hT
        · rintro rfl
          obtain ⟨B, cl, hB⟩ := h2
          have := hB.2.1
          rw [h1] at this
          simp at this
        · refine ((((Keep.setCell w _ _).mono (fun b e => Or.inl e)).trans (hK.mono (T := fun b => b = pb ∨ fs f b) (fun b q => Or.inr q)) (fun b q => Or.inl q)).trans (Keep.setCell _ _ _) ?_)
          rintro b rfl
          exact .inl (.inr hx)
        · rw [heap_setCell_ne _ _ _ (fun e => Hfile.out.1 (by rw [e]; exact hx))]
          exact hK.get (heap_setCell_eq _ h1) Hfile.out.1

end Go.Proofs.YtnjfcedkfobbcaaGreat
