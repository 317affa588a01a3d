/-
  CallNumbers: the walk.
-/
import Derived.Test.YtdbkkfhneafeiaaDoorCKnown
import Derived.Test.YtdbkkfhneafeiaaDoorShow1
import Derived.Test.YtdbkkfhneafeiaaDoorOEnc
import Derived.Test.YtdbkkfhneafeiaaDoorCallP
import Derived.Below
import Derived.Lib.SlBytesConst
namespace Go.Proofs.YtdbkkfhneafeiaaDoor
open Go Go.RowKit Go.Shelf
set_option linter.unusedSectionVars false
set_option linter.unusedSimpArgs false
set_option linter.unusedVariables false
set_option maxRecDepth 100000
attribute [local go_sem] Oper.semAt_some

def callN1 : CallV := ⟨7, ⟨#[112]⟩, ⟨#[]⟩, -1, 0, 0, 258, 0, [7]⟩
def callN4 : CallV := ⟨5, ⟨#[]⟩, ⟨#[]⟩, 0, 0, 0, 2147483648, 0, []⟩
def callN6 : CallV := ⟨11, ⟨#[37]⟩, ⟨#[127]⟩, 0, 0, 0, -3, 0, []⟩
def encN1 : Bs := [7, 0, 1, 112, 0, 0, 255, 255, 255, 255, 0, 0, 0, 0, 0, 0, 0, 0, 0, 0, 1, 2, 0, 0, 0, 0, 0, 1, 7]

theorem right1 : callN1.right = 0 := by decide +kernel
theorem right4 : callN4.right = 1 := by decide +kernel
theorem right0 : CallV.none.right = 1 := by decide +kernel
theorem enc1 : callN1.enc = encN1 := by decide +kernel
theorem dec1 : decC (encN1.take 14) = (CallV.none, 0, 10) := by
  rw [← enc1]
  exact decC_cut (CallV.fits_of right1) (by rw [enc1]; decide)

theorem itoaM3 : Lib.itoa (-3) = [45, 51] := by
  have h : Lib.itoa (-3) = 45 :: Lib.decDigits 3 := rfl
  rw [h, Lib.decDigits_one (by omega)]
  rfl
theorem itoa2 : Lib.itoa 2 = [50] := by
  have h : Lib.itoa 2 = Lib.decDigits 2 := rfl
  rw [h, Lib.decDigits_one (by omega)]
  rfl
theorem itoa9 : Lib.itoa 9 = [57] := by
  have h : Lib.itoa 9 = Lib.decDigits 9 := rfl
  rw [h, Lib.decDigits_one (by omega)]
  rfl

theorem text0 : textP CallV.none = [110, 111, 110, 101] := by
  have h : textP CallV.none = Lib.join [[110, 111, 110, 101]] [32] := rfl
  rw [h]
  decide +kernel
theorem text6 : textP callN6 = [115, 121, 109, 108, 105, 110, 107, 32, 37, 50, 53, 32, 37, 55, 102, 32, 110, 61, 45, 51] := by
  have h : textP callN6 = Lib.join [[115, 121, 109, 108, 105, 110, 107], [37, 50, 53], [37, 55, 102], [110, 61] ++ Lib.itoa (-3)] [32] := rfl
  rw [h, itoaM3]
  decide +kernel
theorem showN : Lib.join (show1L 0 0 [120] [[97], [98, 44]] 2 0 0 0 0 0 9) [32] = [111, 107, 32, 100, 97, 116, 97, 61, 120, 32, 110, 97, 109, 101, 115, 61, 97, 44, 98, 44, 32, 110, 111, 100, 101, 61, 50, 32, 115, 105, 122, 101, 61, 57] := by
  have h : show1L 0 0 [120] [[97], [98, 44]] 2 0 0 0 0 0 9 = [[111, 107], [100, 97, 116, 97, 61, 120], [110, 97, 109, 101, 115, 61, 97, 44, 98, 44], [110, 111, 100, 101, 61] ++ Lib.itoa 2, [115, 105, 122, 101, 61] ++ Lib.itoa 9] := rfl
  rw [h, itoa2, itoa9]
  decide +kernel

theorem own_bslN {w : World} {v : Value} {l : Bs} (h : OwnB w v l) : BSl w v l := by
  have h' : w.ownsRow 0 5 1 v (l.map u8V).length (l.map u8V) := by rw [List.length_map]; exact h
  exact rows_bsl h' rfl

theorem bsl_rep {w : World} {b n : Nat} (h : w.heap[b]? = some (.cells (Array.replicate n (.int .u8 0)) 5 (0, 0))) (hn : n ≤ 1000000) : BSl w (.slice (some ⟨b, 0, none⟩) n n) (List.replicate n 0) := by
  refine .inr ⟨b, 0, n, by rw [List.length_replicate], by rw [List.length_replicate]; exact Nat.le_refl _, by unfold maxLen; omega, lt_of_blk h, fun i u hi => ?_⟩
  rw [Nat.zero_add, cell_blk h]
  rw [List.getElem?_replicate] at hi
  rw [Array.getElem?_replicate]
  split at hi
  · rename_i hin
    rw [if_pos hin]
    cases hi
    rfl
  · cases hi

theorem bsl_one (w : World) (x : Int) (u : UInt8) (hu : x = (u.toNat : Int)) {g : Nat} (hg : g = w.heap.size) {f : Nat × Nat} : BSl (w.alloc (.cells #[.int .u8 x] 5 f)) (.slice (some ⟨g, 0, none⟩) 1 1) [u] := by
  subst hu hg
  refine .inr ⟨w.heap.size, 0, 1, rfl, Nat.le_refl _, by unfold maxLen; omega, by simp, fun i y hi => ?_⟩
  rw [Nat.zero_add, cell_blk (heap_alloc_eq w _)]
  cases i with
  | zero => simp at hi; subst hi; rfl
  | succ i => simp at hi

theorem list_two (w : World) (x y : Bs) {g : Nat} (hg : g = w.heap.size) : ListIn (w.alloc (.cells #[stV x, stV y] 9)) (.slice (some ⟨g, 0, none⟩) 2 2) ([x, y].map stV) := by
  subst hg
  refine ⟨some ⟨w.heap.size, 0, none⟩, 2, rfl, .inr ⟨w.heap.size, 0, rfl, by simp, fun i u hi => ?_⟩⟩
  rw [Nat.zero_add, cell_blk (heap_alloc_eq w _)]
  simpa using hi

theorem u8_zero (w : World) : (zeroValue 5).run Tryd.prog w = .ok (.int .u8 0) w := Tryd.zeroValue5 w

abbrev RightAt (c : CallV) (e : Int) : Prop := ∀ U, Calls Tryd.prog 19 #[.agg #[.int .i64 c.op, .string c.path, .string c.to, .int .i64 c.fd, .int .i64 c.flags, .int .i64 c.mode, .int .i64 c.n, .int .i64 c.m, .slice none 0 0]] U fun r w' => r = .returned (.int .i64 e) ∧ Keep U w' (fun _ => False)

theorem rightAt {c : CallV} {e : Int} (h : c.right = e) (hd : c.data = []) (hl : c.path.size ≤ 9223372036854775807 ∧ c.to.size ≤ 9223372036854775807) : RightAt c e := fun U => by
  have hr := oright_c c none 0 U ⟨hl.1, hl.2, by rw [hd]; simp⟩
  rw [hd, h] at hr
  exact hr

theorem fact0 : ∀ U, Calls Tryd.prog 19 #[.agg #[.int .i64 0, .string ⟨#[]⟩, .string ⟨#[]⟩, .int .i64 0, .int .i64 0, .int .i64 0, .int .i64 0, .int .i64 0, .slice none 0 0]] U fun r w' => r = .returned (.int .i64 1) ∧ Keep U w' (fun _ => False) := by
  have h : RightAt CallV.none 1 := rightAt right0 rfl (by decide)
  exact h
theorem fact4 : ∀ U, Calls Tryd.prog 19 #[.agg #[.int .i64 5, .string ⟨#[]⟩, .string ⟨#[]⟩, .int .i64 0, .int .i64 0, .int .i64 0, .int .i64 2147483648, .int .i64 0, .slice none 0 0]] U fun r w' => r = .returned (.int .i64 1) ∧ Keep U w' (fun _ => False) := by
  have h : RightAt callN4 1 := rightAt right4 rfl (by decide)
  exact h
theorem fact3 {Z : ByteArray} (hZs : Z.size = 5001) : ∀ U, Calls Tryd.prog 19 #[.agg #[.int .i64 19, .string Z, .string ⟨#[]⟩, .int .i64 0, .int .i64 0, .int .i64 0, .int .i64 0, .int .i64 0, .slice none 0 0]] U fun r w' => r = .returned (.int .i64 3) ∧ Keep U w' (fun _ => False) := by
  have h : RightAt ⟨19, Z, ⟨#[]⟩, 0, 0, 0, 0, 0, []⟩ 3 := rightAt (right_long (by show ¬ (19 : Int) < 1; decide) (by show ¬ (20 : Int) < 19; decide) (show (smallB 0 && smallB 0 && smallB 0 && smallB 0 && smallB 0) = true by decide +kernel) (.inl (by show 5000 < Z.size; omega))) rfl ⟨by show Z.size ≤ _; omega, by show (⟨#[]⟩ : ByteArray).size ≤ _; decide⟩
  exact h
theorem factx0 : ∀ U, Tabs U → Calls Tryd.prog 17 #[.agg #[.int .i64 0, .string ⟨#[]⟩, .string ⟨#[]⟩, .int .i64 0, .int .i64 0, .int .i64 0, .int .i64 0, .int .i64 0, .slice none 0 0]] U fun r w' => r = .returned (.string ⟨#[110, 111, 110, 101]⟩) ∧ Keep U w' (fun _ => False) := fun U t => by
  have h := text_c CallV.none none 0 U t (.inl (BSl.nil U)) (by decide) (by decide)
  rw [text0] at h
  exact h
theorem factx6 : ∀ U, Tabs U → Calls Tryd.prog 17 #[.agg #[.int .i64 11, .string ⟨#[37]⟩, .string ⟨#[127]⟩, .int .i64 0, .int .i64 0, .int .i64 0, .int .i64 (-3), .int .i64 0, .slice none 0 0]] U fun r w' => r = .returned (.string ⟨#[115, 121, 109, 108, 105, 110, 107, 32, 37, 50, 53, 32, 37, 55, 102, 32, 110, 61, 45, 51]⟩) ∧ Keep U w' (fun _ => False) := fun U t => by
  have h := text_c callN6 none 0 U t (.inl (BSl.nil U)) (by decide) (by decide)
  rw [text6] at h
  exact h
theorem facts : ∀ (U : World) (g1 g2 : Nat), Tabs U → BSl U (.slice (some ⟨g1, 0, none⟩) 1 1) [120] → ListIn U (.slice (some ⟨g2, 0, none⟩) 2 2) ([[97], [98, 44]].map stV) → Calls Tryd.prog 20 #[.agg #[.int .i64 0, .int .i64 0, .slice (some ⟨g1, 0, none⟩) 1 1, .slice (some ⟨g2, 0, none⟩) 2 2, .int .i64 2, .int .i64 0, .int .i64 0, .int .i64 0, .int .i64 0, .int .i64 0, .int .i64 9]] U fun r w' => r = .returned (.string ⟨#[111, 107, 32, 100, 97, 116, 97, 61, 120, 32, 110, 97, 109, 101, 115, 61, 97, 44, 98, 44, 32, 110, 111, 100, 101, 61, 50, 32, 115, 105, 122, 101, 61, 57]⟩) ∧ Keep U w' (fun _ => False) := fun U g1 g2 t h1 h2 => by
  have h := show1_c 0 0 [120] [[97], [98, 44]] 2 0 0 0 0 0 9 (some ⟨g1, 0, none⟩) (some ⟨g2, 0, none⟩) 1 2 U t (.inl h1) (by decide) (by decide) h2 (by decide)
  rw [showN] at h
  exact h
theorem facte : ∀ (U : World) (g : Nat), BSl U (.slice (some ⟨g, 0, none⟩) 1 1) [7] → Calls Tryd.prog 18 #[.agg #[.int .i64 7, .string ⟨#[112]⟩, .string ⟨#[]⟩, .int .i64 (-1), .int .i64 0, .int .i64 0, .int .i64 258, .int .i64 0, .slice (some ⟨g, 0, none⟩) 1 1]] U fun r w' => ∃ v', r = .returned (.tuple #[v', .int .i64 0]) ∧ OwnB w' v' encN1 ∧ Keep U w' (fun _ => False) := fun U g h1 => by
  have h := oenc_c callN1 (some ⟨g, 0, none⟩) 1 (.inl h1) (by decide)
  rw [if_pos right1, right1, enc1] at h
  refine h.mono ?_
  rintro e w' ⟨v', rfl, q1, q2, -⟩
  exact ⟨v', rfl, q1, q2⟩

set_option maxHeartbeats 8000000 in
theorem cnumbers_walk (w : World) (ht : Tabs w) : Calls Tryd.prog 5 #[] w fun r w' => r = .returned (.bool true) ∧ Keep w w' (fun _ => False) := by
  obtain ⟨Z, hZ⟩ : ∃ Z, Z = strB (List.replicate 5001 0) := ⟨_, rfl⟩
  have hZs : Z.size = 5001 := by rw [hZ, strB_size, List.length_replicate]
  have r3 := fact3 hZs
  have r0 := fact0
  have r4 := fact4
  have x0 := factx0
  have x6 := factx6
  have sh := facts
  have hen := facte
  obtain ⟨ti, ti1, ti2, ti3, ti4⟩ := u8_info
  have HI := Lib.hid (And.intro ti1 (And.intro ti3 (show ti.bytes ≤ 64 by omega)))
  have HT := Lib.hid ht
  have HZ := Lib.hid (And.intro hZ hZs)
  clear hZ hZs ti1 ti2 ti3 ti4 ht
  go_enter Tryd.func5, Tryd.ntmps5
  go_wp2_with (first
    | (go_at_call 18
       with_reducible refine (hen _ _ (bsl_one w 7 7 rfl rfl)).mono ?_
       rintro e w1 ⟨v1, rfl, q1, q2⟩
       obtain ⟨a1, n1, cap1, rfl, hn1⟩ := q1.val
       obtain rfl : n1 = 29 := by rw [hn1]; rfl
       have hb1 := own_bslN q1
       have hcap1 : 29 ≤ cap1 := by obtain ⟨_, _, e, hh, _⟩ := hb1.val; simp only [Value.slice.injEq] at e; have : encN1.length = 29 := rfl; omega
       obtain ⟨g1, o1, rfl, -, -⟩ := hb1.some (by decide)
       have K1 := Lib.hid ((Keep.alloc w (.cells #[.int .u8 7] 5) (fun _ => False)).trans q2 (fun _ q => q.elim))
       have B1 := Lib.hid hb1
       have z14 : 14 ≤ cap1 := by omega
       have z14i : (14 : Int) ≤ (cap1 : Int) := by omega
       clear q1 q2 hb1 hn1)
    | (go_at_call 19
       with_reducible refine (r0 _).mono ?_
       rintro e w2 ⟨rfl, q⟩
       have K2 := Lib.hid (K1.out.trans q (fun _ q => q.elim))
       have J2 := Lib.hid q
       clear q r0)
    | (refine law_make rfl _ _ _ rfl Tryd.underlying22 u8_zero rfl HI.out.1 HI.out.2.1 HI.out.2.2 rfl 5001 rfl (by omega) ?_
       intro w3 b hb hb1 hk1
       have hcv : (convert 22 9 (.slice (some ⟨b, 0, none⟩) 5001 5001)).run Tryd.prog w3 = .ok (.string Z) w3 := by
         rw [HZ.out.1]
         exact str_of 22 9 Tryd.underlying22 Tryd.underlying5 Tryd.underlying9 (bsl_rep hb1 (by omega))
       have K3 := Lib.hid (K2.out.trans hk1 (fun _ q => q.elim))
       have J3 := Lib.hid (J2.out.trans hk1 (fun _ q => q.elim))
       clear hb hb1 hk1)
    | (go_at_call 19
       with_reducible refine (r3 _).mono ?_
       rintro e w4 ⟨rfl, q⟩
       have K4 := Lib.hid (K3.out.trans q (fun _ q => q.elim))
       have J4 := Lib.hid (J3.out.trans q (fun _ q => q.elim))
       clear q r3)
    | (go_at_call 19
       with_reducible refine (r4 _).mono ?_
       rintro e w5 ⟨rfl, q⟩
       have K5 := Lib.hid (K4.out.trans q (fun _ q => q.elim))
       have J5 := Lib.hid (J4.out.trans q (fun _ q => q.elim))
       have hdec : Calls Tryd.prog 12 #[.slice (some ⟨g1, o1, none⟩) 14 cap1] w5 fun r w' => ∃ v, (∃ a cap, v = .slice a 0 cap) ∧ r = .returned (.tuple #[callA CallV.none v, .int .i64 0, .int .i64 10]) ∧ Keep w5 w' (fun _ => False) := by
         have hp := (B1.out.aside J5.out).part (i := 0) (n := 14) (by decide) (off' := o1) (.inl rfl)
         rw [List.drop_zero] at hp
         have h := odec_c hp
         rw [dec1] at h
         refine h.mono ?_
         rintro e w' ⟨a4, cap4, rfl, -, k4, -⟩
         exact ⟨_, ⟨a4, cap4, rfl⟩, rfl, k4⟩
       clear q r4)
    | (go_at_call 12
       with_reducible refine hdec.mono ?_
       rintro e w6 ⟨v6, ⟨a6, cap6, rfl⟩, rfl, q⟩
       unfold callA
       have K6 := fun o => (K5.out.trans q (fun _ q => q.elim)).trans (Keep.alloc w6 o (fun _ => False)) (fun _ q => q.elim)
       have J6 := fun o => (J5.out.trans q (fun _ q => q.elim)).trans (Keep.alloc w6 o (fun _ => False)) (fun _ q => q.elim)
       have hcv6 : ∀ o, (convert 22 9 (.slice (some ⟨g1, o1, none⟩) 29 cap1)).run Tryd.prog (w6.alloc o) = .ok (.string ⟨#[7, 0, 1, 112, 0, 0, 255, 255, 255, 255, 0, 0, 0, 0, 0, 0, 0, 0, 0, 0, 1, 2, 0, 0, 0, 0, 0, 1, 7]⟩) (w6.alloc o) := fun o =>
         str_of 22 9 Tryd.underlying22 Tryd.underlying5 Tryd.underlying9 (B1.out.aside (J6 o))
       have H6 := Lib.hid K6
       clear q K6 J6 hdec)
    | (go_at_call 17
       refine (x0 _ (HT.out.keep (H6.out _))).mono ?_
       rintro e w7 ⟨rfl, q⟩
       have K7 := Lib.hid ((H6.out _).trans q (fun _ q => q.elim))
       clear q x0)
    | (go_at_call 17
       with_reducible refine (x6 _ (HT.out.keep K7.out)).mono ?_
       rintro e w8 ⟨rfl, q⟩
       have k8 := K7.out.trans q (fun _ q => q.elim)
       have K8 := Lib.hid k8
       have k9 := (k8.trans (Keep.alloc w8 (.cells #[.string ⟨#[97]⟩, .string ⟨#[98, 44]⟩] 9) (fun _ => False)) (fun _ q => q.elim)).trans (Keep.alloc _ (.cells #[.int .u8 120] 5 (1, 2)) (fun _ => False)) (fun _ q => q.elim)
       have hsz8 : (w8.alloc (.cells #[.string ⟨#[97]⟩, .string ⟨#[98, 44]⟩] 9)).heap.size = w8.heap.size + 1 := by simp
       have kc := Lib.run_convert_bytes_const (P := Tryd.prog) (w8.alloc (.cells #[.string ⟨#[97]⟩, .string ⟨#[98, 44]⟩] 9)) 22 5 #[.int .u8 120] 1 1 Tryd.underlying22 Tryd.underlying5
       rw [hsz8] at kc
       have hshow := sh _ (w8.heap.size + 1) w8.heap.size (HT.out.keep k9) (bsl_one _ 120 120 rfl hsz8.symm) ((list_two w8 [97] [98, 44] rfl).aside (Keep.alloc _ (.cells #[.int .u8 120] 5 (1, 2)) (fun _ => False)))
       have K9 := Lib.hid k9
       clear q x6 k8 k9 hsz8)
    | (go_at_call 20
       refine hshow.mono ?_
       rintro e w9 ⟨rfl, q⟩
       have K10 := Lib.hid (K9.out.trans q (fun _ q => q.elim))
       clear q hshow)
    | (go_at_call 16
       refine (known_c _ (HT.out.keep K10.out)).mono ?_
       rintro e w10 ⟨rfl, q⟩
       have K11 := Lib.hid (K10.out.trans q (fun _ q => q.elim))
       clear q))
  go_ret
  exact ⟨rfl, K11.out⟩

theorem cnumbers_below (w : World) (ht : Tabs w) : Calls Tryd.prog 5 #[] w fun r w' => r = .returned (.bool true) ∧ Below w.heap.size w w' :=
  (cnumbers_walk w ht).mono fun _ _ h => ⟨h.1, h.2.below (Nat.le_refl _) (fun _ q => q.elim)⟩

end Go.Proofs.YtdbkkfhneafeiaaDoor
