/-
  The document's Text of a call.
-/
import Derived.Test.YtdbkkfhneafeiaaDoorRText0
import Derived.Test.YtdbkkfhneafeiaaDoorText
namespace Go.Proofs.YtdbkkfhneafeiaaDoor
open Go Go.RowKit Go.Shelf
set_option linter.unusedSectionVars false
set_option linter.unusedSimpArgs false
set_option linter.unusedVariables false
set_option maxRecDepth 100000
attribute [local go_sem] Oper.semAt_some

theorem join_snoc {L : List Bs} (x : Bs) (h : L ≠ []) : Lib.join (L ++ [x]) [32] = Lib.join L [32] ++ ([32] ++ x) := by
  cases L with
  | nil => exact absurd rfl h
  | cons y r =>
    rw [List.cons_append, Lib.join_cons, Lib.join_cons]
    unfold Lib.joinTail
    simp

/-- What is told of a text: a blank, its name, what is shown of it. -/
def textR (name s : Bs) : Bs := if s = [] then [] else [32] ++ name ++ shownP s

theorem textR_len (name s : Bs) : (textR name s).length ≤ 1 + name.length + 3 * s.length := by
  unfold textR
  have := shownP_len s
  split <;> simp
  omega

theorem numR_len {name : Bs} {z : Int} (hn : name.length ≤ 1000) (h1 : -9223372036854775808 ≤ z) (h2 : z ≤ 9223372036854775807) : (numR name z).length ≤ 2000 := by
  unfold numR
  have := itoa_len z h1 h2
  split <;> simp
  omega

theorem lineText_ne {L : List Bs} (h : L ≠ []) (name s : Bs) : lineText L name s ≠ [] := by unfold lineText; split <;> simp [h]
theorem lineNum_ne {L : List Bs} (h : L ≠ []) (name : Bs) (z : Int) (t : Bs) : lineNum L name z t ≠ [] := by unfold lineNum; split <;> simp [h]

theorem join_text {L : List Bs} (h : L ≠ []) (name s : Bs) : Lib.join (lineText L name s) [32] = Lib.join L [32] ++ textR name s := by
  unfold lineText textR
  split
  · simp
  · rw [join_snoc _ h]
    simp

theorem join_num {L : List Bs} (h : L ≠ []) (nm : Bs) (z : Int) {name : Bs} (e : name = nm ++ [61]) : Lib.join (lineNum L name z (Lib.itoa z)) [32] = Lib.join L [32] ++ numR nm z := by
  unfold lineNum numR
  split
  · simp
  · rw [join_snoc _ h, e]
    simp

def textT1 (c : CallV) : Bs := opName c.op ++ textR [] (bsOf c.path)
def textT2 (c : CallV) : Bs := textT1 c ++ textR [] (bsOf c.to)
def textT3 (c : CallV) : Bs := textT2 c ++ (numR [102, 100] c.fd ++ (numR [102, 108, 97, 103, 115] c.flags ++ (numR [109, 111, 100, 101] c.mode ++ (numR [110] c.n ++ numR [109] c.m))))

theorem textP_eq (c : CallV) : textP c = textT3 c ++ textR [100, 97, 116, 97, 61] c.data := by
  have n0 : [opName c.op] ≠ [] := by simp
  have n1 := lineText_ne n0 [] (bsOf c.path)
  have n2 := lineText_ne n1 [] (bsOf c.to)
  have hh : headL c = lineText (lineText [opName c.op] [] (bsOf c.path)) [] (bsOf c.to) := rfl
  have hn : numsL c (headL c) five = lineNum (lineNum (lineNum (lineNum (lineNum (headL c) [102, 100, 61] c.fd (Lib.itoa c.fd)) [102, 108, 97, 103, 115, 61] c.flags (Lib.itoa c.flags)) [109, 111, 100, 101, 61] c.mode (Lib.itoa c.mode)) [110, 61] c.n (Lib.itoa c.n)) [109, 61] c.m (Lib.itoa c.m) := rfl
  rw [← hh] at n2
  have m1 := lineNum_ne n2 [102, 100, 61] c.fd (Lib.itoa c.fd)
  have m2 := lineNum_ne m1 [102, 108, 97, 103, 115, 61] c.flags (Lib.itoa c.flags)
  have m3 := lineNum_ne m2 [109, 111, 100, 101, 61] c.mode (Lib.itoa c.mode)
  have m4 := lineNum_ne m3 [110, 61] c.n (Lib.itoa c.n)
  have m5 := lineNum_ne m4 [109, 61] c.m (Lib.itoa c.m)
  unfold textP wordsL textT3 textT2 textT1
  rw [hn, join_text m5, join_num m4 [109] c.m (name := [109, 61]) rfl, join_num m3 [110] c.n (name := [110, 61]) rfl, join_num m2 [109, 111, 100, 101] c.mode (name := [109, 111, 100, 101, 61]) rfl, join_num m1 [102, 108, 97, 103, 115] c.flags (name := [102, 108, 97, 103, 115, 61]) rfl, join_num n2 [102, 100] c.fd (name := [102, 100, 61]) rfl, hh, join_text n1, join_text n0, Lib.join_one]
  simp only [List.append_assoc]

def refNames : List Bs := [[110, 111, 110, 101], [109, 107, 100, 105, 114], [114, 109, 100, 105, 114], [111, 112, 101, 110], [99, 108, 111, 115, 101], [114, 101, 97, 100], [119, 114, 105, 116, 101], [115, 101, 101, 107], [116, 114, 117, 110, 99, 97, 116, 101], [108, 105, 110, 107], [117, 110, 108, 105, 110, 107], [115, 121, 109, 108, 105, 110, 107], [114, 101, 97, 100, 108, 105, 110, 107], [114, 101, 110, 97, 109, 101], [105, 110, 102, 111], [99, 104, 109, 111, 100], [99, 104, 111, 119, 110], [99, 104, 100, 105, 114], [108, 105, 115, 116], [98, 105, 110, 100], [117, 110, 98, 105, 110, 100]]
theorem refNames_eq : refNames = opsL := by decide +kernel

set_option maxHeartbeats 4000000 in
theorem rtextC_c (c : CallV) (a : Option Addr) (cap : Nat) (w : World) (hd : BSr w (.slice a c.data.length cap) c.data) (hz : ∀ x : Fin 5, -9223372036854775808 ≤ c.num x.val ∧ c.num x.val ≤ 9223372036854775807)
    (hl : c.path.size ≤ 100000000 ∧ c.to.size ≤ 100000000 ∧ c.data.length ≤ 100000000) :
    Calls Tryd.prog 22 #[callA c (.slice a c.data.length cap)] w fun r w' => r = .returned (.string (strB (textP c))) ∧ Keep w w' (fun _ => False) := by
  obtain ⟨hl1, hl2, hl3⟩ := hl
  obtain ⟨W1, hW1⟩ : ∃ W1, W1 = w.alloc (.cells (callC c (.slice a c.data.length cap)).toArray 24) := ⟨_, rfl⟩
  have k1 := Keep.alloc w (.cells (callC c (.slice a c.data.length cap)).toArray 24) (fun _ => False)
  have b1 := heap_alloc_eq w (.cells (callC c (.slice a c.data.length cap)).toArray 24)
  have z1 : (w.alloc (.cells (callC c (.slice a c.data.length cap)).toArray 24)).heap.size = w.heap.size + 1 := by simp
  rw [← hW1] at k1 b1 z1
  obtain ⟨W2, hW2⟩ : ∃ W2, W2 = W1.alloc (.cells #[.string ⟨#[110, 111, 110, 101]⟩, .string ⟨#[109, 107, 100, 105, 114]⟩, .string ⟨#[114, 109, 100, 105, 114]⟩, .string ⟨#[111, 112, 101, 110]⟩, .string ⟨#[99, 108, 111, 115, 101]⟩, .string ⟨#[114, 101, 97, 100]⟩, .string ⟨#[119, 114, 105, 116, 101]⟩, .string ⟨#[115, 101, 101, 107]⟩, .string ⟨#[116, 114, 117, 110, 99, 97, 116, 101]⟩, .string ⟨#[108, 105, 110, 107]⟩, .string ⟨#[117, 110, 108, 105, 110, 107]⟩, .string ⟨#[115, 121, 109, 108, 105, 110, 107]⟩, .string ⟨#[114, 101, 97, 100, 108, 105, 110, 107]⟩, .string ⟨#[114, 101, 110, 97, 109, 101]⟩, .string ⟨#[105, 110, 102, 111]⟩, .string ⟨#[99, 104, 109, 111, 100]⟩, .string ⟨#[99, 104, 111, 119, 110]⟩, .string ⟨#[99, 104, 100, 105, 114]⟩, .string ⟨#[108, 105, 115, 116]⟩, .string ⟨#[98, 105, 110, 100]⟩, .string ⟨#[117, 110, 98, 105, 110, 100]⟩] 9) := ⟨_, rfl⟩
  have k2 := Keep.alloc W1 (.cells #[.string ⟨#[110, 111, 110, 101]⟩, .string ⟨#[109, 107, 100, 105, 114]⟩, .string ⟨#[114, 109, 100, 105, 114]⟩, .string ⟨#[111, 112, 101, 110]⟩, .string ⟨#[99, 108, 111, 115, 101]⟩, .string ⟨#[114, 101, 97, 100]⟩, .string ⟨#[119, 114, 105, 116, 101]⟩, .string ⟨#[115, 101, 101, 107]⟩, .string ⟨#[116, 114, 117, 110, 99, 97, 116, 101]⟩, .string ⟨#[108, 105, 110, 107]⟩, .string ⟨#[117, 110, 108, 105, 110, 107]⟩, .string ⟨#[115, 121, 109, 108, 105, 110, 107]⟩, .string ⟨#[114, 101, 97, 100, 108, 105, 110, 107]⟩, .string ⟨#[114, 101, 110, 97, 109, 101]⟩, .string ⟨#[105, 110, 102, 111]⟩, .string ⟨#[99, 104, 109, 111, 100]⟩, .string ⟨#[99, 104, 111, 119, 110]⟩, .string ⟨#[99, 104, 100, 105, 114]⟩, .string ⟨#[108, 105, 115, 116]⟩, .string ⟨#[98, 105, 110, 100]⟩, .string ⟨#[117, 110, 98, 105, 110, 100]⟩] 9) (fun _ => False)
  have a2 := heap_alloc_eq W1 (.cells #[.string ⟨#[110, 111, 110, 101]⟩, .string ⟨#[109, 107, 100, 105, 114]⟩, .string ⟨#[114, 109, 100, 105, 114]⟩, .string ⟨#[111, 112, 101, 110]⟩, .string ⟨#[99, 108, 111, 115, 101]⟩, .string ⟨#[114, 101, 97, 100]⟩, .string ⟨#[119, 114, 105, 116, 101]⟩, .string ⟨#[115, 101, 101, 107]⟩, .string ⟨#[116, 114, 117, 110, 99, 97, 116, 101]⟩, .string ⟨#[108, 105, 110, 107]⟩, .string ⟨#[117, 110, 108, 105, 110, 107]⟩, .string ⟨#[115, 121, 109, 108, 105, 110, 107]⟩, .string ⟨#[114, 101, 97, 100, 108, 105, 110, 107]⟩, .string ⟨#[114, 101, 110, 97, 109, 101]⟩, .string ⟨#[105, 110, 102, 111]⟩, .string ⟨#[99, 104, 109, 111, 100]⟩, .string ⟨#[99, 104, 111, 119, 110]⟩, .string ⟨#[99, 104, 100, 105, 114]⟩, .string ⟨#[108, 105, 115, 116]⟩, .string ⟨#[98, 105, 110, 100]⟩, .string ⟨#[117, 110, 98, 105, 110, 100]⟩] 9)
  rw [← hW2] at k2 a2
  obtain ⟨nb, hnb⟩ : ∃ nb, nb = W1.heap.size := ⟨_, rfl⟩
  have ccs : ∀ i : Nat, i < 21 → W2.cell? ⟨nb, i, none⟩ = some (stV (opsL.getD i [])) := fun i hi => by
    have hi' : i < refNames.length := hi
    rw [hnb, cell_blk a2, ← refNames_eq, List.getD_eq_getElem?_getD, List.getElem?_eq_getElem hi']
    show ((refNames.map stV).toArray)[i]? = _
    rw [List.getElem?_toArray, List.getElem?_map, List.getElem?_eq_getElem hi']
    rfl
  have CCS := Lib.hid ccs
  have BOX := Lib.hid (show ∀ U, Keep W2 U (fun _ => False) → U.heap[w.heap.size]? = some (.cells (callC c (.slice a c.data.length cap)).toArray 24 (0, 0)) from fun U k => k.get (k2.get b1 (fun q => q)) (fun q => q))
  have D := Lib.hid (And.intro (k1.trans k2 (fun _ q => q.elim)) (hd.aside (k1.trans k2 (fun _ q => q.elim))))
  have HZ := Lib.hid hz
  clear k1 b1 z1 k2 a2 hd hz ccs
  unfold callA
  go_enter Tryd.func22, Tryd.ntmps22
  go_upto_region 1 with (fail)
  simp only [callC] at hW1
  rw [← hW1]
  clear hW1
  go_upto_region 2 with (fail)
  rw [← hW2, ← hnb]
  clear hW2 hnb
  obtain ⟨op, hop⟩ : ∃ op, op = c.op := ⟨_, rfl⟩
  have c0 := cell_blk (BOX.out _ (Keep.refl _ _)) 0
  unfold callC at c0
  simp only [List.getElem?_toArray, List.getElem?_cons_zero, List.getElem?_cons_succ] at c0
  rw [← hop] at c0
  have HOP := Lib.hid hop
  clear hop
  go_upto_region 3 with (fail)
  go_cut [15] from 5 (fun s wc => s = .bool (decide (1 ≤ op ∧ op ≤ 20)) ∧ W2 = wc)
  case first =>
    by_cases h1 : (1 : Int) ≤ op
    · by_cases h2 : op ≤ 20
      · have h3 : op < 21 := by omega
        go_wp2
        go_meet
        case rel => exact ⟨congrArg Value.bool (decide_eq_true (p := 1 ≤ op ∧ op ≤ 20) (by omega)).symm, rfl⟩
      · have h3 : ¬ op < 21 := by omega
        go_wp2
        go_meet
        case rel => exact ⟨congrArg Value.bool (decide_eq_false (p := 1 ≤ op ∧ op ≤ 20) (by omega)).symm, rfl⟩
    · go_wp2
      go_meet
      case rel => exact ⟨congrArg Value.bool (decide_eq_false (p := 1 ≤ op ∧ op ≤ 20) (by omega)).symm, rfl⟩
  case rest =>
    obtain ⟨rfl, rfl⟩ := hcut
    go_upto_if 15 with (fail)
    go_cut [4] from 5 (fun s wc => s = .string (strB (opName c.op)) ∧ W2 = wc)
    case first =>
      by_cases h1 : 1 ≤ op ∧ op ≤ 20
      · have e1 : decide (1 ≤ op ∧ op ≤ 20) = true := decide_eq_true h1
        obtain ⟨o, ho⟩ : ∃ o : Nat, op = (o : Int) := ⟨op.toNat, by omega⟩
        subst ho
        have ho2 : o < 21 := by omega
        have ho3 : (o : Int) < 21 := by omega
        have HN := Lib.hid (show opsL.getD o [] = opName c.op by
          have h2 : opI c.op = o := by unfold opI; rw [← HOP.out, if_pos h1]; omega
          unfold opName; rw [h2])
        have hcc := CCS.out o ho2
        rw [HN.out] at hcc
        rw [e1]
        clear h1 e1
        go_wp2
        go_meet
        case rel => exact ⟨rfl, rfl⟩
      · have e1 : decide (1 ≤ op ∧ op ≤ 20) = false := decide_eq_false h1
        have HN := Lib.hid (show [110, 111, 110, 101] = opName c.op by
          have h2 : opI c.op = 0 := by unfold opI; rw [← HOP.out, if_neg h1]
          unfold opName; rw [h2, ← refNames_eq]; rfl)
        rw [e1]
        clear h1 e1
        go_wp2
        go_meet
        case rel => exact ⟨by rw [← HN.out]; rfl, rfl⟩
    case rest =>
      obtain ⟨rfl, rfl⟩ := hcut
      clear c0
      obtain ⟨T1, hT1⟩ : ∃ T, T = strB (opName c.op) := ⟨_, rfl⟩
      rw [← hT1]
      have hTs1 : T1.size ≤ 100 := by rw [hT1, strB_size]; exact opName_len c.op
      have HT1 := Lib.hid hT1
      clear hT1
      have x1 := cell_blk (BOX.out _ (Keep.refl W2 (fun _ => False))) 1
      unfold callC at x1
      simp only [List.getElem?_toArray, List.getElem?_cons_zero, List.getElem?_cons_succ] at x1
      go_upto_if 23 with (fail)
      go_cut [4] from 5 (fun s wc => s = .string (strB (textT1 c)) ∧ Keep W2 wc (fun _ => False))
      case first =>
        by_cases h0 : bsOf c.path = []
        · have hX : (strB (bsOf c.path)).toList = bsOf c.path := strB_toList _
          have e1 : (!c.path.toList.isEmpty) = false := by show (!(strB (bsOf c.path)).toList.isEmpty) = false; rw [hX, h0]; rfl
          rw [e1]
          have HN := Lib.hid (show textR [] (bsOf c.path) = [] by unfold textR; rw [if_pos h0])
          clear h0 hX e1
          go_wp2
          go_meet
          case rel => exact ⟨by unfold textT1; rw [HN.out, List.append_nil, ← HT1.out], (Keep.refl W2 (fun _ => False))⟩
        · have hX : (strB (bsOf c.path)).toList = bsOf c.path := strB_toList _
          have e1 : (!c.path.toList.isEmpty) = true := by show (!(strB (bsOf c.path)).toList.isEmpty) = true; rw [hX]; simpa using h0
          rw [e1]
          obtain ⟨Q, hQ⟩ : ∃ Q, Q = strB (shownP (bsOf c.path)) := ⟨_, rfl⟩
          have hQs : Q.size ≤ 300000000 := by rw [hQ, strB_size]; have := shownP_len (bsOf c.path); rw [bsOf_len] at this; omega
          have hp : ∀ U, Calls Tryd.prog 41 #[.string c.path] U fun e w' => e = .returned (.string Q) ∧ Keep U w' (fun _ => False) := fun U => by
            have h := rpath_c (bsOf c.path) U (by rw [bsOf_len]; omega)
            rw [← hQ, strB_bsOf] at h
            exact h
          have HN := Lib.hid (show strB (textT1 c) = T1 ++ ⟨#[32]⟩ ++ Q by
            unfold textT1 textR
            rw [if_neg h0, HT1.out, hQ, show (⟨#[32]⟩ : ByteArray) = strB [32] from rfl, strB_append, strB_append]
            simp)
          have g1 : ¬ 9223372036854775807 < T1.size + 1 := by omega
          have g2 : ¬ 9223372036854775807 < T1.size + 1 + Q.size := by omega
          clear h0 hX hQ e1
          go_wp2_with (
            go_at_call 41
            refine (hp _).mono ?_
            rintro e w7 ⟨rfl, hk7⟩
            have K7 := Lib.hid (Keep.trans (Keep.refl W2 (fun _ => False)) hk7 (fun _ q => q.elim))
            clear hk7)
          go_meet
          case rel => exact ⟨by rw [HN.out], K7.out⟩
      case rest =>
        obtain ⟨rfl, hk1⟩ := hcut
        have K1 := Lib.hid hk1
        clear hk1 x1
        obtain ⟨T2, hT2⟩ : ∃ T, T = strB (textT1 c) := ⟨_, rfl⟩
        rw [← hT2]
        have hTs2 : T2.size ≤ 400000000 := by rw [hT2, strB_size]; exact by unfold textT1; have h1 := opName_len c.op; have h2 := textR_len [] (bsOf c.path); rw [bsOf_len] at h2; simp at h2 ⊢; omega
        have HT2 := Lib.hid hT2
        clear hT2
        have x2 := cell_blk (BOX.out _ K1.out) 2
        unfold callC at x2
        simp only [List.getElem?_toArray, List.getElem?_cons_zero, List.getElem?_cons_succ] at x2
        go_upto_if 32 with (fail)
        go_cut [4] from 5 (fun s wc => s = .string (strB (textT2 c)) ∧ Keep W2 wc (fun _ => False))
        case first =>
          by_cases h0 : bsOf c.to = []
          · have hX : (strB (bsOf c.to)).toList = bsOf c.to := strB_toList _
            have e1 : (!c.to.toList.isEmpty) = false := by show (!(strB (bsOf c.to)).toList.isEmpty) = false; rw [hX, h0]; rfl
            rw [e1]
            have HN := Lib.hid (show textR [] (bsOf c.to) = [] by unfold textR; rw [if_pos h0])
            clear h0 hX e1
            go_wp2
            go_meet
            case rel => exact ⟨by unfold textT2; rw [HN.out, List.append_nil, ← HT2.out], K1.out⟩
          · have hX : (strB (bsOf c.to)).toList = bsOf c.to := strB_toList _
            have e1 : (!c.to.toList.isEmpty) = true := by show (!(strB (bsOf c.to)).toList.isEmpty) = true; rw [hX]; simpa using h0
            rw [e1]
            obtain ⟨Q, hQ⟩ : ∃ Q, Q = strB (shownP (bsOf c.to)) := ⟨_, rfl⟩
            have hQs : Q.size ≤ 300000000 := by rw [hQ, strB_size]; have := shownP_len (bsOf c.to); rw [bsOf_len] at this; omega
            have hp : ∀ U, Calls Tryd.prog 41 #[.string c.to] U fun e w' => e = .returned (.string Q) ∧ Keep U w' (fun _ => False) := fun U => by
              have h := rpath_c (bsOf c.to) U (by rw [bsOf_len]; omega)
              rw [← hQ, strB_bsOf] at h
              exact h
            have HN := Lib.hid (show strB (textT2 c) = T2 ++ ⟨#[32]⟩ ++ Q by
              unfold textT2 textR
              rw [if_neg h0, HT2.out, hQ, show (⟨#[32]⟩ : ByteArray) = strB [32] from rfl, strB_append, strB_append]
              simp)
            have g1 : ¬ 9223372036854775807 < T2.size + 1 := by omega
            have g2 : ¬ 9223372036854775807 < T2.size + 1 + Q.size := by omega
            clear h0 hX hQ e1
            go_wp2_with (
              go_at_call 41
              refine (hp _).mono ?_
              rintro e w7 ⟨rfl, hk7⟩
              have K7 := Lib.hid (Keep.trans K1.out hk7 (fun _ q => q.elim))
              clear hk7)
            go_meet
            case rel => exact ⟨by rw [HN.out], K7.out⟩
        case rest =>
          obtain ⟨rfl, hk2⟩ := hcut
          have K2 := Lib.hid hk2
          clear hk2 x2
          obtain ⟨T3, hT3⟩ : ∃ T, T = strB (textT2 c) := ⟨_, rfl⟩
          rw [← hT3]
          have hTs3 : T3.size ≤ 800000000 := by rw [hT3, strB_size]; unfold textT2 textT1; have h1 := opName_len c.op; have h2 := textR_len [] (bsOf c.path); have h3 := textR_len [] (bsOf c.to); rw [bsOf_len] at h2 h3; simp at h2 h3 ⊢; omega
          have HT3 := Lib.hid hT3
          clear hT3
          have y0 := cell_blk (BOX.out _ K2.out) 3
          unfold callC at y0
          simp only [List.getElem?_toArray, List.getElem?_cons_zero, List.getElem?_cons_succ] at y0
          obtain ⟨N0, hN0⟩ : ∃ N, N = strB (numR [102, 100] c.fd) := ⟨_, rfl⟩
          have hNs0 : N0.size ≤ 2000 := by rw [hN0, strB_size]; exact numR_len (by simp) (HZ.out f0).1 (HZ.out f0).2
          have r0 : ∀ U, Calls Tryd.prog 42 #[.string ⟨#[102, 100]⟩, .int .i64 c.fd] U fun e w' => e = .returned (.string N0) ∧ w' = U := fun U => by
            rw [hN0]
            exact rnumber_c [102, 100] (by simp) c.fd (HZ.out f0).1 (HZ.out f0).2 U
          have y1 := cell_blk (BOX.out _ K2.out) 4
          unfold callC at y1
          simp only [List.getElem?_toArray, List.getElem?_cons_zero, List.getElem?_cons_succ] at y1
          obtain ⟨N1, hN1⟩ : ∃ N, N = strB (numR [102, 108, 97, 103, 115] c.flags) := ⟨_, rfl⟩
          have hNs1 : N1.size ≤ 2000 := by rw [hN1, strB_size]; exact numR_len (by simp) (HZ.out f1).1 (HZ.out f1).2
          have r1 : ∀ U, Calls Tryd.prog 42 #[.string ⟨#[102, 108, 97, 103, 115]⟩, .int .i64 c.flags] U fun e w' => e = .returned (.string N1) ∧ w' = U := fun U => by
            rw [hN1]
            exact rnumber_c [102, 108, 97, 103, 115] (by simp) c.flags (HZ.out f1).1 (HZ.out f1).2 U
          have y2 := cell_blk (BOX.out _ K2.out) 5
          unfold callC at y2
          simp only [List.getElem?_toArray, List.getElem?_cons_zero, List.getElem?_cons_succ] at y2
          obtain ⟨N2, hN2⟩ : ∃ N, N = strB (numR [109, 111, 100, 101] c.mode) := ⟨_, rfl⟩
          have hNs2 : N2.size ≤ 2000 := by rw [hN2, strB_size]; exact numR_len (by simp) (HZ.out f2).1 (HZ.out f2).2
          have r2 : ∀ U, Calls Tryd.prog 42 #[.string ⟨#[109, 111, 100, 101]⟩, .int .i64 c.mode] U fun e w' => e = .returned (.string N2) ∧ w' = U := fun U => by
            rw [hN2]
            exact rnumber_c [109, 111, 100, 101] (by simp) c.mode (HZ.out f2).1 (HZ.out f2).2 U
          have y3 := cell_blk (BOX.out _ K2.out) 6
          unfold callC at y3
          simp only [List.getElem?_toArray, List.getElem?_cons_zero, List.getElem?_cons_succ] at y3
          obtain ⟨N3, hN3⟩ : ∃ N, N = strB (numR [110] c.n) := ⟨_, rfl⟩
          have hNs3 : N3.size ≤ 2000 := by rw [hN3, strB_size]; exact numR_len (by simp) (HZ.out f3).1 (HZ.out f3).2
          have r3 : ∀ U, Calls Tryd.prog 42 #[.string ⟨#[110]⟩, .int .i64 c.n] U fun e w' => e = .returned (.string N3) ∧ w' = U := fun U => by
            rw [hN3]
            exact rnumber_c [110] (by simp) c.n (HZ.out f3).1 (HZ.out f3).2 U
          have y4 := cell_blk (BOX.out _ K2.out) 7
          unfold callC at y4
          simp only [List.getElem?_toArray, List.getElem?_cons_zero, List.getElem?_cons_succ] at y4
          obtain ⟨N4, hN4⟩ : ∃ N, N = strB (numR [109] c.m) := ⟨_, rfl⟩
          have hNs4 : N4.size ≤ 2000 := by rw [hN4, strB_size]; exact numR_len (by simp) (HZ.out f4).1 (HZ.out f4).2
          have r4 : ∀ U, Calls Tryd.prog 42 #[.string ⟨#[109]⟩, .int .i64 c.m] U fun e w' => e = .returned (.string N4) ∧ w' = U := fun U => by
            rw [hN4]
            exact rnumber_c [109] (by simp) c.m (HZ.out f4).1 (HZ.out f4).2 U
          have HT4 := Lib.hid (show strB (textT3 c) = T3 ++ N0 ++ N1 ++ N2 ++ N3 ++ N4 by
            unfold textT3
            rw [HT3.out, hN0, hN1, hN2, hN3, hN4, strB_append, strB_append, strB_append, strB_append, strB_append]
            simp)
          have hT4l := Lib.hid (show (strB (textT3 c)).size ≤ 900000000 by rw [HT4.out]; simp only [ByteArray.size_append]; omega)
          have g0 : ¬ 9223372036854775807 < T3.size + N0.size := by omega
          have g1 : ¬ 9223372036854775807 < T3.size + N0.size + N1.size := by omega
          have g2 : ¬ 9223372036854775807 < T3.size + N0.size + N1.size + N2.size := by omega
          have g3 : ¬ 9223372036854775807 < T3.size + N0.size + N1.size + N2.size + N3.size := by omega
          have g4 : ¬ 9223372036854775807 < T3.size + N0.size + N1.size + N2.size + N3.size + N4.size := by omega
          clear hN0 hN1 hN2 hN3 hN4
          go_upto_region 9 with (fail)
          go_quiet (first
            | (go_at_call 42; with_reducible refine Calls.quiet_of_same (r0 _))
            | (go_at_call 42; with_reducible refine Calls.quiet_of_same (r1 _))
            | (go_at_call 42; with_reducible refine Calls.quiet_of_same (r2 _))
            | (go_at_call 42; with_reducible refine Calls.quiet_of_same (r3 _))
            | (go_at_call 42; with_reducible refine Calls.quiet_of_same (r4 _)))
          obtain ⟨Wd, hWd⟩ : ∃ Wd, Wd = wc.drewN nq := ⟨_, rfl⟩
          have KD := Lib.hid (show Keep W2 Wd (fun _ => False) by rw [hWd]; exact K2.out.trans (drewN_keep _ (fun _ => False) _) (fun _ q => q.elim))
          rw [← hWd]
          clear hWd y0 y1 y2 y3 y4 r0 r1 r2 r3 r4
          obtain ⟨T4, hT4⟩ : ∃ T, T = strB (textT3 c) := ⟨_, rfl⟩
          rw [← hT4] at HT4 hT4l
          rw [← HT4.out]
          have hTs4 := hT4l.out
          have HX4 := Lib.hid hT4
          clear hT4 HT4 hT4l g0 g1 g2 g3 g4
          have z8 := cell_blk (BOX.out _ KD.out) 8
          unfold callC at z8
          simp only [List.getElem?_toArray, List.getElem?_cons_zero, List.getElem?_cons_succ] at z8
          by_cases h0 : 0 < c.data.length
          · obtain ⟨Q, hQ⟩ : ∃ Q, Q = strB (shownP c.data) := ⟨_, rfl⟩
            have hQs : Q.size ≤ 300000000 := by rw [hQ, strB_size]; have := shownP_len c.data; omega
            have hp : ∀ U, Calls Tryd.prog 41 #[.string (strB c.data)] U fun e w' => e = .returned (.string Q) ∧ Keep U w' (fun _ => False) := fun U => by
              have h := rpath_c c.data U (by omega)
              rw [← hQ] at h
              exact h
            have hcv := str_ofr (P := Tryd.prog) 22 9 Tryd.underlying22 Tryd.underlying5 Tryd.underlying9 (D.out.2.aside KD.out)
            have HN := Lib.hid (show strB (textP c) = T4 ++ ⟨#[32, 100, 97, 116, 97, 61]⟩ ++ Q by
              rw [textP_eq]
              unfold textR
              rw [if_neg (by intro e; rw [e] at h0; simp at h0), HX4.out, hQ, show (⟨#[32, 100, 97, 116, 97, 61]⟩ : ByteArray) = strB [32, 100, 97, 116, 97, 61] from rfl, strB_append, strB_append]
              simp)
            have g1 : ¬ 9223372036854775807 < T4.size + 6 := by omega
            have g2 : ¬ 9223372036854775807 < T4.size + 6 + Q.size := by omega
            clear hQ
            go_wp2_with (
              go_at_call 41
              refine (hp _).mono ?_
              rintro e w7 ⟨rfl, hk7⟩
              have K7 := Lib.hid (KD.out.trans hk7 (fun _ q => q.elim))
              clear hk7)
            go_ret
            exact ⟨by rw [HN.out]; rfl, D.out.1.trans K7.out (fun _ q => q.elim)⟩
          · have HN := Lib.hid (show textR [100, 97, 116, 97, 61] c.data = [] by unfold textR; rw [if_pos (List.length_eq_zero_iff.1 (by omega))])
            go_wp2
            go_ret
            exact ⟨by rw [textP_eq, HN.out, List.append_nil, ← HX4.out]; rfl, D.out.1.trans KD.out (fun _ q => q.elim)⟩
end Go.Proofs.YtdbkkfhneafeiaaDoor
