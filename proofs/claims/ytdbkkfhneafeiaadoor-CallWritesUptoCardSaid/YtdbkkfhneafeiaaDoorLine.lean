/-
  call.line: words that are told.
-/
import Derived.Test.YtdbkkfhneafeiaaDoorShown
import Derived.Test.YtdbkkfhneafeiaaDoorShelf
import Derived.Deep.AppendLies
import Derived.Deep.RegionHeld3
import Derived.BigRegion
namespace Go.Proofs.YtdbkkfhneafeiaaDoor
open Go Go.RowKit Go.Shelf
set_option linter.unusedSectionVars false
set_option linter.unusedSimpArgs false
set_option linter.unusedVariables false
set_option maxRecDepth 100000
attribute [local go_sem] Oper.semAt_some

abbrev stV (l : Bs) : Value := .string (strB l)

theorem str_info : ∃ i, Tryd.prog.info? 9 = some i ∧ i.zero = some (.string ByteArray.empty) ∧ i.size = 1 ∧ i.bytes ≤ 64 := by
  refine ⟨_, rfl, ?_, ?_, ?_⟩
  · kernel_rfl
  · kernel_rfl
  · decide +kernel

theorem strB_append (l m : Bs) : strB l ++ strB m = strB (l ++ m) := by
  apply ByteArray.ext
  simp [strB]

theorem strB_nil : strB [] = ⟨#[]⟩ := rfl
theorem strB_toList (l : Bs) : (strB l).toList = l := by rw [ByteArray.toList_eq]; rfl

/-- Words in memory: block b is the line. -/
structure LineAt (w : World) (b : Nat) (v : Value) (L : List Bs) (U : World) : Prop where
  keep : Keep w U (fun _ => False)
  old : w.heap.size ≤ b
  cell : U.heap[b]? = some (.cells #[v] 73 (0, 0))
  row : U.ownsRow 0 9 1 v L.length (L.map stV)
  new : ∀ c, v.ownBlock = some c → c ≠ b ∧ w.heap.size ≤ c

theorem LineAt.aside {w U U' : World} {b : Nat} {v : Value} {L : List Bs} (h : LineAt w b v L U) (k : Keep U U' (fun _ => False)) : LineAt w b v L U' :=
  ⟨h.keep.trans k (fun _ q => q.elim), h.old, k.get h.cell (fun q => q), rows_keep h.row k (fun _ _ q => q), h.new⟩

theorem LineAt.push {w U w8 : World} {b : Nat} {v v8 : Value} {L : List Bs} {y : Bs} (h : LineAt w b v L U) (K8 : Keep U w8 (fun c => v.ownBlock = some c)) {n : Nat} (hn : L.length = n)
    (h8 : w8.ownsRow 0 9 1 v8 (n + 1) (L.map stV ++ [stV y])) (hf : ∀ c, v8.ownBlock = some c → v.ownBlock = some c ∨ U.heap.size ≤ c) : LineAt w b v8 (L ++ [y]) (w8.setCell ⟨b, 0, none⟩ v8) := by
  subst hn
  have hlt := lt_of_blk h.cell
  have b8 := K8.get h.cell (fun q => (h.new b q).1 rfl)
  have ks := Keep.setCell w8 ⟨b, 0, none⟩ v8
  have new8 : ∀ c, v8.ownBlock = some c → c ≠ b ∧ w.heap.size ≤ c := fun c q => by
    rcases hf c q with z | z
    · exact h.new c z
    · have := h.old; exact ⟨by omega, by omega⟩
  refine ⟨(h.keep.trans K8 (fun c q => .inr (h.new c q).2)).trans ks (fun c q => .inr (by have q' : c = b := q; rw [q']; exact h.old)), h.old, heap_setCell_eq (off := 0) v8 b8, ?_, new8⟩
  rw [List.length_append, List.length_singleton, List.map_append]
  exact rows_keep h8 ks (fun c q z => (new8 c q).1 z)

/-- The tables that the library reads. -/
structure Tabs (w : World) : Prop where
  pow : Lib.TabIs Tryd.prog w "internal/strconv.uint64pow10" .u64 Lib.pow10Tab
  ascii : Lib.TabIs Tryd.prog w "strings.asciiSpace" .u8 Lib.asciiSpaceTab

theorem tab_keep {w w' : World} {name : String} {k : IntKind} {zs : List Int} (h : Lib.TabIs Tryd.prog w name k zs) (kk : Keep w w' (fun _ => False)) : Lib.TabIs Tryd.prog w' name k zs := by
  unfold Lib.TabIs World.var? at *
  cases hg : Tryd.prog.globalNamed name with
  | none => rw [hg] at h; cases h
  | some g =>
    rw [hg] at h
    simp only [Option.bind_some] at h ⊢
    cases hb : w.heap[g]? with
    | none => rw [hb] at h; cases h
    | some o => rw [kk.get hb (fun q => q), ← hb]; exact h

theorem Tabs.keep {w w' : World} (h : Tabs w) (k : Keep w w' (fun _ => False)) : Tabs w' := ⟨tab_keep h.pow k, tab_keep h.ascii k⟩

theorem grow_keep (w : World) (k : Nat) (os : Array Obj) : Keep w (Go.Sort.grow (w.drewN k) os) (fun _ => False) := by
  have h : (w.drewN k).heap = w.heap := rfl
  refine ⟨?_, fun b hb _ => ?_, rfl, rfl, rfl⟩
  · show w.heap.size ≤ (w.heap ++ os).size
    simp
  · show (w.heap ++ os)[b]? = w.heap[b]?
    rw [Array.getElem?_append_left hb]

theorem itoa_len (z : Int) (h0 : -9223372036854775808 ≤ z) (h1 : z ≤ 9223372036854775807) : (Lib.itoa z).length ≤ 100 := by
  have key : ∀ u : Nat, u < 18446744073709551616 → (Lib.decDigits u).length ≤ 21 := fun u hu => by
    rw [Lib.decDigits_length]
    by_cases h : u < 10
    · rw [Lib.nDigits_small h]; omega
    · have h2 := Lib.numDigits_eq u (by omega) hu
      have h3 : (if 10 ^ Lib.l10 (Lib.bitLen u) ≤ u then 1 else 0) ≤ 1 := by split <;> omega
      omega
  unfold Lib.itoa
  split
  · have := key z.natAbs (by omega)
    rw [List.length_cons]; omega
  · have := key z.toNat (by omega)
    omega

set_option maxRecDepth 100000 in
set_option maxHeartbeats 2000000 in
theorem ltext_c {w U : World} {b : Nat} {v : Value} {L : List Bs} (name s : Bs) (h : LineAt w b v L U) (hL : L.length ≤ 1000000) (hs : s.length ≤ 1000000000) (hn : name.length ≤ 1000) :
    Calls Tryd.prog 34 #[.pointer (some ⟨b, 0, none⟩), stV name, stV s] U fun r w' => (∃ u, r = .returned u) ∧ (∃ v', LineAt w b v' (lineText L name s) w' ∧ ∀ c, v'.ownBlock = some c → v.ownBlock = some c ∨ U.heap.size ≤ c) ∧ Keep U w' (fun c => c = b ∨ v.ownBlock = some c) := by
  by_cases h0 : s = []
  · subst h0
    have H := Lib.hid h
    clear h
    obtain ⟨X, hX⟩ : ∃ X, X = strB [] := ⟨_, rfl⟩
    have e1 : X.toList.isEmpty = true := by rw [hX, strB_toList]; rfl
    have e2 : X.toList = [] := by rw [hX, strB_toList]
    show Calls _ _ #[_, .string (strB name), .string (strB [])] _ _
    rw [← hX]
    clear hX
    go_enter Tryd.func34, Tryd.ntmps34
    go_wp2
    go_end0
    exact ⟨⟨_, rfl⟩, ⟨v, by unfold lineText; rw [if_pos rfl]; exact H.out, fun c q => .inl q⟩, Keep.refl _ _⟩
  · obtain ⟨n, hn3⟩ : ∃ n, L.length = n := ⟨_, rfl⟩
    have hrow := h.row
    rw [hn3] at hrow
    obtain ⟨a5, c5, rfl, -⟩ := rows_val2 hrow
    have e0 := cell_blk h.cell 0
    simp only [List.getElem?_toArray, List.getElem?_cons_zero] at e0
    have hsh := fun W => shown_c s W hs
    obtain ⟨X, hX⟩ : ∃ X, X = strB s := ⟨_, rfl⟩
    have e1 : (!X.toList.isEmpty) = true := by rw [hX, strB_toList]; simpa using h0
    have e1' : X.toList.isEmpty = false := by rw [hX, strB_toList]; simpa using h0
    obtain ⟨T, hT⟩ : ∃ T, T = strB (shownP s) := ⟨_, rfl⟩
    have hTl : T.size ≤ 3000000000 := by rw [hT, strB_size]; have := shownP_len s; omega
    obtain ⟨N, hN⟩ : ∃ N, N = strB name := ⟨_, rfl⟩
    have hNl : N.size ≤ 1000 := by rw [hN, strB_size]; exact hn
    have HL := Lib.hid (show lineText L name s = L ++ [name ++ shownP s] by unfold lineText; rw [if_neg h0])
    have HT := Lib.hid (show stV (name ++ shownP s) = .string (N ++ T) by rw [hN, hT, strB_append])
    rw [← hX, ← hT] at hsh
    show Calls _ _ #[_, .string (strB name), .string (strB s)] _ _
    rw [← hN, ← hX]
    clear hX hT hN h0
    have H := Lib.hid h
    have HN := Lib.hid hn3
    have hn9 : n ≤ 1000000 := by omega
    clear h hn3 hrow
    have g1 : ¬ 9223372036854775807 < N.size + T.size := by omega
    obtain ⟨ti, ti1, ti2, ti3, ti4⟩ := str_info
    have HI := Lib.hid (And.intro ti1 (And.intro ti2 (And.intro ti3 ti4)))
    clear ti1 ti2 ti3 ti4
    have hz1 : (Value.string ByteArray.empty).cells.size = 1 := rfl
    go_enter Tryd.func34, Tryd.ntmps34
    go_upto_region 1 with (fail)
    have kq : ∀ A : World, Keep U A (fun _ => False) → A.cell? ⟨b, 0, none⟩ = some (.slice a5 n c5) := fun A k => k.cell e0 (fun q => q)
    have KQ := Lib.hid kq
    clear kq
    have e0d : U.drew.cell? ⟨b, 0, none⟩ = some (.slice a5 n c5) := KQ.out _ (Keep.drew _ _)
    have HLE := Lib.hid hL
    go_region_law (first
      | (go_simp
         go_at_call 39
         with_reducible refine (hsh _).mono ?_
         rintro e w7 ⟨rfl, q⟩
         have M7 : Hid (Keep U w7 (fun _ => False)) := Lib.hid ((Keep.drew _ _).trans q (fun _ q => q.elim))
         have e07 := KQ.out _ M7.out
         have ka : Keep U (w7.alloc (.cells #[.string (N ++ T)] 9)) (fun _ => False) := M7.out.trans (Keep.alloc _ _ _) (fun _ q => q)
         have e07a := KQ.out _ ka
         have ra := rows_keep H.out.row ka (fun _ _ q => q)
         have za : (w7.alloc (.cells #[.string (N ++ T)] 9)).heap.size = w7.heap.size + 1 := by simp
         have RA := Lib.hid (And.intro (show World.ownsRow _ 0 9 1 _ n _ from by rw [HN.out] at ra; exact ra) (And.intro ka (And.intro za M7.out.size)))
         clear q ka ra za)
      | (refine step_append_row rfl _ _ _ (by rfl) Tryd.underlying73 HI.out.1 HI.out.2.1 HI.out.2.2.1 HI.out.2.2.2 hz1 (by omega) (by rfl) RA.out.1 [.string (N ++ T)] (by rfl) rfl (.inr ⟨_, rfl, fun j u hj => cells_new w7 [.string (N ++ T)] 9 j u hj⟩) (fun u hu => by rw [List.mem_singleton.1 hu]; rfl) (by omega) (n + 1) rfl (L.map stV ++ [stV (name ++ shownP s)]) (by rw [HT.out]) ?_
         intro a8 c8 w8 h8 k8 f8
         have K8 : Keep U w8 (fun c => (Value.slice a5 n c5).ownBlock = some c) := (RA.out.2.1.mono (fun _ q => q.elim)).trans k8 (fun c q => .inl q.symm)
         have B8 := K8.get H.out.cell (fun q => (H.out.new _ q).1 rfl)
         have d8 : w8.cell? ⟨b, 0, none⟩ = some (.slice a5 n c5) := by rw [cell_blk B8]; rfl
         have fr8 : w8.frozen? ⟨b, 0, none⟩ = false := free_blk B8 _
         have F8 : ∀ c, (Value.slice a8 (n + 1) c8).ownBlock = some c → (Value.slice a5 n c5).ownBlock = some c ∨ U.heap.size ≤ c := fun c q => by
           rcases f8 c q with z | z
           · exact .inl z
           · right; rw [z]; have := RA.out.2.2.1; have := RA.out.2.2.2; omega
         have N8 := Lib.hid (LineAt.push H.out K8 HN.out h8 F8)
         have KE := Lib.hid ((K8.mono (T := fun c => c = b ∨ (Value.slice a5 n c5).ownBlock = some c) (fun c q => .inr q)).trans (Keep.setCell w8 ⟨b, 0, none⟩ (.slice a8 (n + 1) c8)) (fun c q => .inl (.inl q)))
         have FO := Lib.hid F8
         clear h8 k8 f8 K8 B8 F8))
    all_goals
      go_wp2
      go_end0
      exact ⟨⟨_, rfl⟩, ⟨_, by rw [HL.out]; exact N8.out, FO.out⟩, KE.out⟩

set_option maxRecDepth 100000 in
set_option maxHeartbeats 2000000 in
theorem lnum_c {w U : World} {b : Nat} {v : Value} {L : List Bs} (name : Bs) (z : Int) (h : LineAt w b v L U) (hL : L.length ≤ 1000000) (hz0 : -9223372036854775808 ≤ z) (hz1 : z ≤ 9223372036854775807) (ht : Tabs U) (hn : name.length ≤ 1000) :
    Calls Tryd.prog 35 #[.pointer (some ⟨b, 0, none⟩), stV name, .int .i64 z] U fun r w' => (∃ u, r = .returned u) ∧ (∃ v', LineAt w b v' (lineNum L name z (Lib.itoa z)) w' ∧ ∀ c, v'.ownBlock = some c → v.ownBlock = some c ∨ U.heap.size ≤ c) ∧ Keep U w' (fun c => c = b ∨ v.ownBlock = some c) := by
  by_cases h0 : z = 0
  · subst h0
    have H := Lib.hid h
    clear h
    go_enter Tryd.func35, Tryd.ntmps35
    go_wp2
    go_end0
    exact ⟨⟨_, rfl⟩, ⟨v, by unfold lineNum; rw [if_pos rfl]; exact H.out, fun c q => .inl q⟩, Keep.refl _ _⟩
  · obtain ⟨n, hn3⟩ : ∃ n, L.length = n := ⟨_, rfl⟩
    have hrow := h.row
    rw [hn3] at hrow
    obtain ⟨a5, c5, rfl, -⟩ := rows_val2 hrow
    have e0 := cell_blk h.cell 0
    simp only [List.getElem?_toArray, List.getElem?_cons_zero] at e0
    have hsh := fun W (k : Keep U W (fun _ => False)) => Tryd.strconv_Itoa z hz0 hz1 W (ht.keep k).pow
    have e1 : (z != 0) = true := by simp [h0]
    obtain ⟨T, hT⟩ : ∃ T, T = strB (Lib.itoa z) := ⟨_, rfl⟩
    have hTl : T.size ≤ 3000000000 := by rw [hT, strB_size]; exact Nat.le_trans (itoa_len z hz0 hz1) (by omega)
    obtain ⟨N, hN⟩ : ∃ N, N = strB name := ⟨_, rfl⟩
    have hNl : N.size ≤ 1000 := by rw [hN, strB_size]; exact hn
    have HL := Lib.hid (show lineNum L name z (Lib.itoa z) = L ++ [name ++ Lib.itoa z] by unfold lineNum; rw [if_neg h0])
    have HT := Lib.hid (show stV (name ++ Lib.itoa z) = .string (N ++ T) by rw [hN, hT, strB_append])
    have hsh2 : ∀ W, Keep U W (fun _ => False) → Calls Tryd.prog 38 #[.int .i64 z] W fun e w' => e = .returned (.string T) ∧ Keep W w' (fun _ => False) := fun W k => by
      rw [hT]
      refine (hsh W k).mono ?_
      rintro e w' ⟨rfl, kk, os, rfl⟩
      exact ⟨rfl, grow_keep _ _ _⟩
    clear hsh
    show Calls _ _ #[_, .string (strB name), .int .i64 z] _ _
    rw [← hN]
    clear hT hN
    have H := Lib.hid h
    have HN := Lib.hid hn3
    have hn9 : n ≤ 1000000 := by omega
    clear h hn3 hrow
    have g1 : ¬ 9223372036854775807 < N.size + T.size := by omega
    obtain ⟨ti, ti1, ti2, ti3, ti4⟩ := str_info
    have HI := Lib.hid (And.intro ti1 (And.intro ti2 (And.intro ti3 ti4)))
    clear ti1 ti2 ti3 ti4
    have hz1 : (Value.string ByteArray.empty).cells.size = 1 := rfl
    go_enter Tryd.func35, Tryd.ntmps35
    go_upto_region 1 with (fail)
    have kq : ∀ A : World, Keep U A (fun _ => False) → A.cell? ⟨b, 0, none⟩ = some (.slice a5 n c5) := fun A k => k.cell e0 (fun q => q)
    have KQ := Lib.hid kq
    clear kq
    have e0d : U.drew.cell? ⟨b, 0, none⟩ = some (.slice a5 n c5) := KQ.out _ (Keep.drew _ _)
    have HLE := Lib.hid hL
    go_region_law (first
      | (go_simp
         go_at_call 38
         with_reducible refine (hsh2 _ (Keep.drew _ _)).mono ?_
         rintro e w7 ⟨rfl, q⟩
         have M7 : Hid (Keep U w7 (fun _ => False)) := Lib.hid ((Keep.drew _ _).trans q (fun _ q => q.elim))
         have e07 := KQ.out _ M7.out
         have ka : Keep U (w7.alloc (.cells #[.string (N ++ T)] 9)) (fun _ => False) := M7.out.trans (Keep.alloc _ _ _) (fun _ q => q)
         have e07a := KQ.out _ ka
         have ra := rows_keep H.out.row ka (fun _ _ q => q)
         have za : (w7.alloc (.cells #[.string (N ++ T)] 9)).heap.size = w7.heap.size + 1 := by simp
         have RA := Lib.hid (And.intro (show World.ownsRow _ 0 9 1 _ n _ from by rw [HN.out] at ra; exact ra) (And.intro ka (And.intro za M7.out.size)))
         clear q ka ra za)
      | (refine step_append_row rfl _ _ _ (by rfl) Tryd.underlying73 HI.out.1 HI.out.2.1 HI.out.2.2.1 HI.out.2.2.2 hz1 (by omega) (by rfl) RA.out.1 [.string (N ++ T)] (by rfl) rfl (.inr ⟨_, rfl, fun j u hj => cells_new w7 [.string (N ++ T)] 9 j u hj⟩) (fun u hu => by rw [List.mem_singleton.1 hu]; rfl) (by omega) (n + 1) rfl (L.map stV ++ [stV (name ++ Lib.itoa z)]) (by rw [HT.out]) ?_
         intro a8 c8 w8 h8 k8 f8
         have K8 : Keep U w8 (fun c => (Value.slice a5 n c5).ownBlock = some c) := (RA.out.2.1.mono (fun _ q => q.elim)).trans k8 (fun c q => .inl q.symm)
         have B8 := K8.get H.out.cell (fun q => (H.out.new _ q).1 rfl)
         have d8 : w8.cell? ⟨b, 0, none⟩ = some (.slice a5 n c5) := by rw [cell_blk B8]; rfl
         have fr8 : w8.frozen? ⟨b, 0, none⟩ = false := free_blk B8 _
         have F8 : ∀ c, (Value.slice a8 (n + 1) c8).ownBlock = some c → (Value.slice a5 n c5).ownBlock = some c ∨ U.heap.size ≤ c := fun c q => by
           rcases f8 c q with z | z
           · exact .inl z
           · right; rw [z]; have := RA.out.2.2.1; have := RA.out.2.2.2; omega
         have N8 := Lib.hid (LineAt.push H.out K8 HN.out h8 F8)
         have KE := Lib.hid ((K8.mono (T := fun c => c = b ∨ (Value.slice a5 n c5).ownBlock = some c) (fun c q => .inr q)).trans (Keep.setCell w8 ⟨b, 0, none⟩ (.slice a8 (n + 1) c8)) (fun c q => .inl (.inl q)))
         have FO := Lib.hid F8
         clear h8 k8 f8 K8 B8 F8))
    all_goals
      go_wp2
      go_end0
      exact ⟨⟨_, rfl⟩, ⟨_, by rw [HL.out]; exact N8.out, FO.out⟩, KE.out⟩

end Go.Proofs.YtdbkkfhneafeiaaDoor
