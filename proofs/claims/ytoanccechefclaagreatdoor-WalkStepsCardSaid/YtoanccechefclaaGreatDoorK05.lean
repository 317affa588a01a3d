/-
  Parts of the walk's proof: Shelf, SortI, SKeysT. (joined by pack.py)
-/
import Derived.Shelf.Strings.Builder1
import Derived.Shelf.Strings.Builder2
import Derived.Shelf.Strings.OnBuilder
import Derived.Shelf.Small.Strs
import Derived.Shelf.Strings.Search1
import Derived.Shelf.Strings.Search2
import Derived.Shelf.Strings.Search3
import Derived.Shelf.LaysM
import Derived.Shelf.Strings.Shaped
import Derived.Shelf.Sort.Plain
import Derived.Shelf.Unicode.DecodeSlow
import Derived.Shelf.Slices.In.SortNone
import Derived.Test.YtoanccechefclaaGreatDoorChecked
import Derived.Test.YtoanccechefclaaGreatDoorK04
set_option linter.unusedSectionVars false
set_option linter.unusedSimpArgs false
set_option linter.unusedVariables false
namespace Go.Proofs
open Go.Shelf
def Tryz.lays169_ren : Go.Shelf.Ren := ⟨fun | 169 => 171 | n => n, fun | 70 => 251 | 9 => 9 | 0 => 0 | 72 => 253 | 37 => 203 | 127 => 265 | 3 => 3 | 5 => 5 | n => n, fun | n => n⟩
def Tryz.lays241_ren : Go.Shelf.Ren := ⟨fun | 241 => 181 | 277 => 187 | n => n, fun | 70 => 251 | 3 => 3 | 0 => 0 | 72 => 253 | 37 => 203 | 5 => 5 | n => n, fun | n => n⟩
def Tryz.lays165_ren : Go.Shelf.Ren := ⟨fun | 165 => 169 | 240 => 180 | 241 => 181 | 276 => 186 | 277 => 187 | n => n, fun | 70 => 251 | 3 => 3 | 0 => 0 | 4 => 4 | 9 => 9 | 20 => 20 | 72 => 253 | 37 => 203 | 164 => 272 | 5 => 5 | n => n, fun | n => n⟩
def Tryz.lays156_ren : Go.Shelf.Ren := ⟨fun | 156 => 153 | 165 => 169 | 166 => 170 | 169 => 171 | 240 => 180 | 241 => 181 | 276 => 186 | 277 => 187 | n => n, fun | 31 => 79 | 9 => 9 | 3 => 3 | 4 => 4 | 0 => 0 | 20 => 20 | 72 => 253 | 76 => 256 | 70 => 251 | 37 => 203 | 75 => 255 | 127 => 265 | 164 => 272 | 5 => 5 | 80 => 258 | n => n, fun | n => n⟩
theorem Tryz.lays156 : Go.Proofs.Lays.n156 Tryz.prog Tryz.lays156_ren := {
  mixed := by kernel_rfl
  f156 := Tryz.func153.trans (congrArg some (by kernel_rfl))
  f165 := Tryz.func169.trans (congrArg some (by kernel_rfl))
  f166 := Tryz.func170.trans (congrArg some (by kernel_rfl))
  f169 := Tryz.func171.trans (congrArg some (by kernel_rfl))
  f240 := Tryz.func180.trans (congrArg some (by kernel_rfl))
  f241 := Tryz.func181.trans (congrArg some (by kernel_rfl))
  f276 := Tryz.func186.trans (congrArg some (by kernel_rfl))
  f277 := Tryz.func187.trans (congrArg some (by kernel_rfl))
  t0 := Tryz.underlying0
  a0 := Tryz.isAgg0
  z0 := Tryz.sizeOf0
  v0 := Tryz.zeroValue0
  t3 := Tryz.underlying3
  a3 := Tryz.isAgg3
  z3 := Tryz.sizeOf3
  v3 := Tryz.zeroValue3
  t4 := Tryz.underlying4
  a4 := Tryz.isAgg4
  z4 := Tryz.sizeOf4
  v4 := Tryz.zeroValue4
  t9 := Tryz.underlying9
  a9 := Tryz.isAgg9
  z9 := Tryz.sizeOf9
  v9 := Tryz.zeroValue9
  t20 := Tryz.underlying20
  a20 := Tryz.isAgg20
  z20 := Tryz.sizeOf20
  v20 := Tryz.zeroValue20
  t31 := Tryz.underlying79
  a31 := Tryz.isAgg79
  z31 := Tryz.sizeOf79
  v31 := Tryz.zeroValue79
  t37 := Tryz.underlying203
  a37 := Tryz.isAgg203
  z37 := Tryz.sizeOf203
  v37 := Tryz.zeroValue203
  t70 := Tryz.underlying251
  a70 := Tryz.isAgg251
  z70 := Tryz.sizeOf251
  v70 := Tryz.zeroValue251
  t72 := Tryz.underlying253
  a72 := Tryz.isAgg253
  z72 := Tryz.sizeOf253
  v72 := Tryz.zeroValue253
  t75 := Tryz.underlying255
  a75 := Tryz.isAgg255
  z75 := Tryz.sizeOf255
  v75 := Tryz.zeroValue255
  t76 := Tryz.underlying256
  a76 := Tryz.isAgg256
  z76 := Tryz.sizeOf256
  v76 := Tryz.zeroValue256
  t127 := Tryz.underlying265
  a127 := Tryz.isAgg265
  z127 := Tryz.sizeOf265
  v127 := Tryz.zeroValue265
  t164 := Tryz.underlying272
  a164 := Tryz.isAgg272
  z164 := Tryz.sizeOf272
  v164 := Tryz.zeroValue272 }
theorem Tryz.Builder_Extra_156 : Builder.Extra Tryz.prog Tryz.lays156_ren := {
  sizeBuilder := by kernel_rfl
  liesBuilder := by kernel_rfl
  t5 := Tryz.underlying5
  a5 := Tryz.isAgg5
  z5 := Tryz.sizeOf5
  v5 := Tryz.zeroValue5
  infoByte := by kernel_rfl
  cellsByte := by kernel_rfl
  sizeByte := by kernel_rfl
  neB5 := by decide }
open Go.RowKit in
theorem Tryz.strings_Join_none (a : Option Addr) (c : Nat) (sep : ByteArray) (w : World) :
    Calls Tryz.prog 153 #[.slice a 0 c, .string sep] w fun e w' => e = .returned (.string ⟨#[]⟩) ∧ w' = w := Any.strings_Join_none Tryz.lays156 Tryz.Builder_Extra_156 a c sep w
open Go.RowKit in
theorem Tryz.strings_Join (bk o c : Nat) (xs : List ByteArray) (sep : ByteArray) (w : World) (hcells : ∀ (j : Nat) x, xs[j]? = some x → w.cell? ⟨bk, o + j, none⟩ = some (.string x)) (hbk : bk < w.heap.size) (hN : xs.length ≤ 140737488355328) (hcap : xs.length ≤ c) (hlen : (Lib.join (xs.map (·.data.toList)) sep.data.toList).length ≤ 140737488355328) :
    Calls Tryz.prog 153 #[.slice (some ⟨bk, o, none⟩) xs.length c, .string sep] w fun e w' => e = .returned (.string ⟨(Lib.join (xs.map (·.data.toList)) sep.data.toList).toArray⟩) ∧ Below w.heap.size w w' := Any.strings_Join Tryz.lays156 Tryz.Builder_Extra_156 bk o c xs sep w hcells hbk hN hcap hlen
def Tryz.lays137_ren : Go.Shelf.Ren := ⟨fun | 137 => 108 | 217 => 132 | 266 => 148 | n => n, fun | 9 => 9 | 5 => 5 | 3 => 3 | n => n, fun | n => n⟩
theorem Tryz.lays137 : Go.Proofs.Lays.n137 Tryz.prog Tryz.lays137_ren := {
  mixed := by kernel_rfl
  f137 := Tryz.func108.trans (congrArg some (by kernel_rfl))
  f217 := Tryz.func132.trans (congrArg some (by kernel_rfl))
  f266 := Tryz.func148.trans (congrArg some (by kernel_rfl))
  t3 := Tryz.underlying3
  a3 := Tryz.isAgg3
  z3 := Tryz.sizeOf3
  v3 := Tryz.zeroValue3
  t5 := Tryz.underlying5
  a5 := Tryz.isAgg5
  z5 := Tryz.sizeOf5
  v5 := Tryz.zeroValue5
  t9 := Tryz.underlying9
  a9 := Tryz.isAgg9
  z9 := Tryz.sizeOf9
  v9 := Tryz.zeroValue9 }
open Go.RowKit in
theorem Tryz.strings_IndexByte (s : ByteArray) (c : Int) (w : World) :
    Calls Tryz.prog 108 #[.string s, .int .u8 c] w fun e w' => e = .returned (.int .i64 (Lib.indexByte s.data.toList c.toNat.toUInt8)) ∧ w' = w := Any.strings_IndexByte Tryz.lays137 s c w
def Tryz.lays217_ren : Go.Shelf.Ren := ⟨fun | 217 => 132 | 266 => 148 | n => n, fun | 9 => 9 | 5 => 5 | 3 => 3 | n => n, fun | n => n⟩
def Tryz.lays224_ren : Go.Shelf.Ren := ⟨fun | 224 => 184 | n => n, fun | 3 => 3 | n => n, fun | n => n⟩
def Tryz.lays314_ren : Go.Shelf.Ren := ⟨fun | 314 => 188 | n => n, fun | 9 => 9 | 51 => 245 | 3 => 3 | 4 => 4 | 5 => 5 | 46 => 224 | n => n, fun | n => n⟩
def Tryz.lays267_ren : Go.Shelf.Ren := ⟨fun | 267 => 185 | 314 => 188 | n => n, fun | 9 => 9 | 3 => 3 | 146 => 275 | 51 => 245 | 4 => 4 | 5 => 5 | 46 => 224 | n => n, fun | n => n⟩
def Tryz.lays219_ren : Go.Shelf.Ren := ⟨fun | 219 => 179 | 217 => 132 | 225 => 183 | 224 => 184 | 267 => 185 | 266 => 148 | 314 => 188 | n => n, fun | 9 => 9 | 3 => 3 | 4 => 4 | 5 => 5 | 46 => 224 | 146 => 275 | 51 => 245 | n => n, fun | 1 => 0 | n => n⟩
def Tryz.lays143_ren : Go.Shelf.Ren := ⟨fun | 143 => 168 | 219 => 179 | 217 => 132 | 225 => 183 | 224 => 184 | 267 => 185 | 266 => 148 | 314 => 188 | n => n, fun | 9 => 9 | 3 => 3 | 4 => 4 | 5 => 5 | 46 => 224 | 146 => 275 | 51 => 245 | n => n, fun | 1 => 0 | n => n⟩
theorem Tryz.lays143 : Go.Proofs.Lays.n143 Tryz.prog Tryz.lays143_ren := {
  mixed := by kernel_rfl
  f143 := Tryz.func168.trans (congrArg some (by kernel_rfl))
  f217 := Tryz.func132.trans (congrArg some (by kernel_rfl))
  f219 := Tryz.func179.trans (congrArg some (by kernel_rfl))
  f224 := Tryz.func184.trans (congrArg some (by kernel_rfl))
  f225 := Tryz.func183.trans (congrArg some (by kernel_rfl))
  f266 := Tryz.func148.trans (congrArg some (by kernel_rfl))
  f267 := Tryz.func185.trans (congrArg some (by kernel_rfl))
  f314 := Tryz.func188.trans (congrArg some (by kernel_rfl))
  t3 := Tryz.underlying3
  a3 := Tryz.isAgg3
  z3 := Tryz.sizeOf3
  v3 := Tryz.zeroValue3
  t4 := Tryz.underlying4
  a4 := Tryz.isAgg4
  z4 := Tryz.sizeOf4
  v4 := Tryz.zeroValue4
  t5 := Tryz.underlying5
  a5 := Tryz.isAgg5
  z5 := Tryz.sizeOf5
  v5 := Tryz.zeroValue5
  t9 := Tryz.underlying9
  a9 := Tryz.isAgg9
  z9 := Tryz.sizeOf9
  v9 := Tryz.zeroValue9
  t46 := Tryz.underlying224
  a46 := Tryz.isAgg224
  z46 := Tryz.sizeOf224
  v46 := Tryz.zeroValue224
  t51 := Tryz.underlying245
  a51 := Tryz.isAgg245
  z51 := Tryz.sizeOf245
  v51 := Tryz.zeroValue245
  t146 := Tryz.underlying275
  a146 := Tryz.isAgg275
  z146 := Tryz.sizeOf275
  v146 := Tryz.zeroValue275
  g1 := by kernel_rfl }
open Go.RowKit Go.Lib in
theorem Tryz.strings_Index_one (s : ByteArray) (c : UInt8) (w : World) :
    Calls Tryz.prog 168 #[.string s, .string ⟨#[c]⟩] w fun e w' => e = .returned (.int .i64 (Lib.indexByte s.data.toList c)) ∧ w' = w := Any.strings_Index_one Tryz.lays143 s c w
def Tryz.laysM219_ren : Go.Shelf.Ren := ⟨fun | 219 => 179 | 217 => 132 | 225 => 183 | 224 => 184 | 267 => 185 | 266 => 148 | 314 => 188 | n => n, fun | 9 => 9 | 3 => 3 | 4 => 4 | 5 => 5 | 46 => 224 | 146 => 275 | 51 => 245 | n => n, fun | 1 => 0 | n => n⟩
def Tryz.laysM143_ren : Go.Shelf.Ren := ⟨fun | 143 => 168 | 219 => 179 | 217 => 132 | 225 => 183 | 224 => 184 | 267 => 185 | 266 => 148 | 314 => 188 | n => n, fun | 9 => 9 | 3 => 3 | 4 => 4 | 5 => 5 | 46 => 224 | 146 => 275 | 51 => 245 | n => n, fun | 1 => 0 | n => n⟩
def Tryz.lays189_ren : Go.Shelf.Ren := ⟨fun | 189 => 137 | 125 => 151 | 257 => 150 | 128 => 164 | 129 => 165 | 294 => 155 | 295 => 156 | 296 => 157 | 297 => 158 | 298 => 159 | 299 => 160 | 216 => 161 | 300 => 162 | 301 => 163 | 328 => 172 | 329 => 173 | 330 => 174 | 331 => 175 | 332 => 176 | 215 => 177 | 343 => 182 | n => n, fun | 28 => 25 | 3 => 3 | 46 => 224 | 0 => 0 | 51 => 245 | 53 => 247 | 4 => 4 | 183 => 239 | 182 => 238 | 131 => 105 | 5 => 5 | 9 => 9 | 218 => 259 | 222 => 263 | 228 => 266 | 229 => 91 | n => n, fun | n => n⟩
theorem Tryz.lays189 : Go.Proofs.Lays.n189 Tryz.prog Tryz.lays189_ren := {
  mixed := by kernel_rfl
  f125 := Tryz.func151.trans (congrArg some (by kernel_rfl))
  f128 := Tryz.func164.trans (congrArg some (by kernel_rfl))
  f129 := Tryz.func165.trans (congrArg some (by kernel_rfl))
  f189 := Tryz.func137.trans (congrArg some (by kernel_rfl))
  f215 := Tryz.func177.trans (congrArg some (by kernel_rfl))
  f216 := Tryz.func161.trans (congrArg some (by kernel_rfl))
  f257 := Tryz.func150.trans (congrArg some (by kernel_rfl))
  f294 := Tryz.func155.trans (congrArg some (by kernel_rfl))
  f295 := Tryz.func156.trans (congrArg some (by kernel_rfl))
  f296 := Tryz.func157.trans (congrArg some (by kernel_rfl))
  f297 := Tryz.func158.trans (congrArg some (by kernel_rfl))
  f298 := Tryz.func159.trans (congrArg some (by kernel_rfl))
  f299 := Tryz.func160.trans (congrArg some (by kernel_rfl))
  f300 := Tryz.func162.trans (congrArg some (by kernel_rfl))
  f301 := Tryz.func163.trans (congrArg some (by kernel_rfl))
  f328 := Tryz.func172.trans (congrArg some (by kernel_rfl))
  f329 := Tryz.func173.trans (congrArg some (by kernel_rfl))
  f330 := Tryz.func174.trans (congrArg some (by kernel_rfl))
  f331 := Tryz.func175.trans (congrArg some (by kernel_rfl))
  f332 := Tryz.func176.trans (congrArg some (by kernel_rfl))
  f343 := Tryz.func182.trans (congrArg some (by kernel_rfl))
  t0 := Tryz.underlying0
  a0 := Tryz.isAgg0
  z0 := Tryz.sizeOf0
  v0 := Tryz.zeroValue0
  t3 := Tryz.underlying3
  a3 := Tryz.isAgg3
  z3 := Tryz.sizeOf3
  v3 := Tryz.zeroValue3
  t4 := Tryz.underlying4
  a4 := Tryz.isAgg4
  z4 := Tryz.sizeOf4
  v4 := Tryz.zeroValue4
  t5 := Tryz.underlying5
  a5 := Tryz.isAgg5
  z5 := Tryz.sizeOf5
  v5 := Tryz.zeroValue5
  t9 := Tryz.underlying9
  a9 := Tryz.isAgg9
  z9 := Tryz.sizeOf9
  v9 := Tryz.zeroValue9
  t28 := Tryz.underlying25
  a28 := Tryz.isAgg25
  z28 := Tryz.sizeOf25
  v28 := Tryz.zeroValue25
  t46 := Tryz.underlying224
  a46 := Tryz.isAgg224
  z46 := Tryz.sizeOf224
  v46 := Tryz.zeroValue224
  t51 := Tryz.underlying245
  a51 := Tryz.isAgg245
  z51 := Tryz.sizeOf245
  v51 := Tryz.zeroValue245
  t53 := Tryz.underlying247
  a53 := Tryz.isAgg247
  z53 := Tryz.sizeOf247
  v53 := Tryz.zeroValue247
  t131 := Tryz.underlying105
  a131 := Tryz.isAgg105
  z131 := Tryz.sizeOf105
  v131 := Tryz.zeroValue105
  t182 := Tryz.underlying238
  a182 := Tryz.isAgg238
  z182 := Tryz.sizeOf238
  v182 := Tryz.zeroValue238
  t183 := Tryz.underlying239
  a183 := Tryz.isAgg239
  z183 := Tryz.sizeOf239
  v183 := Tryz.zeroValue239
  t218 := Tryz.underlying259
  a218 := Tryz.isAgg259
  z218 := Tryz.sizeOf259
  v218 := Tryz.zeroValue259
  t222 := Tryz.underlying263
  a222 := Tryz.isAgg263
  z222 := Tryz.sizeOf263
  v222 := Tryz.zeroValue263
  t228 := Tryz.underlying266
  a228 := Tryz.isAgg266
  z228 := Tryz.sizeOf266
  v228 := Tryz.zeroValue266
  t229 := Tryz.underlying91
  a229 := Tryz.isAgg91
  z229 := Tryz.sizeOf91
  v229 := Tryz.zeroValue91 }
open Go.Sort Go.RowKit in
theorem Tryz.slices_Sort_int (blk off cap : Nat) (zs : List Int) (w : World) (hH : Holds (Value.int .i64) w blk off zs.toArray) (hblk : blk < w.heap.size) (hsz : zs.length < 4611686018427387904) :
    Calls Tryz.prog 137 #[.slice (some ⟨blk, off, none⟩) zs.length cap] w fun e w' =>
      e = .returned (.tuple #[]) ∧ ∃ n os, w' = grow (putRow (Value.int .i64) (Sort.ahead w n) blk off (zs.mergeSort fun x y => decide (x ≤ y)).toArray) os := Any.slices_Sort_int Tryz.lays189 blk off cap zs w hH hblk hsz
def Tryz.lays260_ren : Go.Shelf.Ren := ⟨fun | 260 => 178 | n => n, fun | 9 => 9 | 21 => 21 | 3 => 3 | 4 => 4 | 5 => 5 | 119 => 268 | 0 => 0 | 46 => 224 | 139 => 271 | 138 => 270 | n => n, fun | 3 => 1 | 4 => 2 | n => n⟩
open Go.RowKit Go.Sort in
theorem Tryz.slices_Sort_int_none (p : Option Addr) (cap : Nat) (w : World) :
    Calls Tryz.prog 137 #[.slice p 0 cap] w fun e w' => e = .returned (.tuple #[]) ∧ w' = w := Any.slices_Sort_int_none Tryz.lays189 p cap w
end Go.Proofs
namespace Go.Proofs.YtoanccechefclaaGreatDoor
open Go Go.RowKit Go.Sort
def sortI (l : List Int) : List Int := l.mergeSort fun x y => decide (x ≤ y)
theorem sortI_perm (l : List Int) : (sortI l).Perm l := List.mergeSort_perm _ _
theorem sortI_len (l : List Int) : (sortI l).length = l.length := (sortI_perm l).length_eq
theorem sortI_sorted (l : List Int) : (sortI l).Pairwise (· ≤ ·) :=
  (List.pairwise_mergeSort (le := fun x y : Int => decide (x ≤ y)) (fun a b c h1 h2 => by simp only [decide_eq_true_eq] at *; omega) (fun a b => by simp only [Bool.or_eq_true, decide_eq_true_eq]; omega) l).imp fun h => by simpa using h
theorem sortedI_unique {a b : List Int} (ha : a.Pairwise (· ≤ ·)) (hb : b.Pairwise (· ≤ ·)) (h : a.Perm b) : a = b :=
  List.Perm.eq_of_pairwise (fun x y _ _ p q => by omega) ha hb h
theorem sortI_eq {a l : List Int} (ha : a.Pairwise (· ≤ ·)) (h : a.Perm l) : sortI l = a := sortedI_unique (sortI_sorted l) ha ((sortI_perm l).trans h.symm)
theorem sortI_perm2 {a b : List Int} (h : a.Perm b) : sortI a = sortI b := sortedI_unique (sortI_sorted a) (sortI_sorted b) ((sortI_perm a).trans (h.trans (sortI_perm b).symm))
theorem isort_c {w : World} {v : Value} {l : List Int} (h : w.ownsRow 0 3 1 v l.length (l.map (Value.int .i64))) (hl : l.length ≤ 1099511627776) :
    Calls Tryz.prog 137 #[v] w fun r w' => r = .returned (.tuple #[]) ∧ w'.ownsRow 0 3 1 v l.length ((sortI l).map (Value.int .i64)) ∧ Keep w w' (fun b => v.ownBlock = some b) := by
  rcases rows_val h with ⟨rfl, h0⟩ | ⟨g, cap, rfl, hc, hb, hg⟩
  · have : l = [] := List.length_eq_zero_iff.1 h0
    subst this
    refine (Tryz.slices_Sort_int_none none 0 w).mono ?_
    rintro e w' ⟨rfl, rfl⟩
    exact ⟨rfl, by have e : sortI [] = [] := by simp [sortI]
                   rw [e]; exact h, Keep.refl _ _⟩
  · have hH : Holds (Value.int .i64) w g 0 l.toArray := by
      intro j hj
      simp only [List.size_toArray] at hj
      obtain ⟨x, hx⟩ : ∃ x, l[j]? = some x := ⟨_, List.getElem?_eq_getElem hj⟩
      have := rows_cell h (mapGet (f := Value.int .i64) hx)
      rw [Nat.zero_add]
      refine ⟨this.1.trans ?_, this.2⟩
      have e : l.toArray[j]! = x := by
        rw [getElem!_pos _ _ (by simpa using hj)]
        obtain ⟨h1, h2⟩ := List.getElem?_eq_some_iff.1 hx
        simp [h2]
      rw [e]
    have hs := Tryz.slices_Sort_int g 0 cap l w hH hg (by omega)
    refine hs.mono ?_
    rintro e w' ⟨rfl, n, os, rfl⟩
    refine ⟨rfl, ?_, ?_⟩
    · obtain ⟨hlen, hr⟩ := h
      rcases hr with ⟨h1, _⟩ | ⟨g', cap', cur, h1, h2, h3, h4, h5, h6, h7⟩
      · simp at h1
      · simp only [Value.slice.injEq, Option.some.injEq, Addr.mk.injEq, true_and, and_true] at h1
        obtain ⟨rfl, rfl⟩ := h1
        have hms : (sortI l).length = l.length := sortI_len l
        refine ⟨by rw [List.length_map, sortI_len, Nat.mul_one], .inr ⟨g, cap, putCells (Value.int .i64) 0 (sortI l).toArray cur, rfl, h2, ?_, h4, h5, ?_, ?_⟩⟩
        · rw [heap_grow_old _ _ (by simpa using hg)]
          simp [putRow, mapBlock, Array.getElem?_modify, h3, onCells, sortI]
        · simpa [putCells] using h6
        · apply List.ext_getElem?
          intro i
          rw [List.getElem?_take]
          by_cases hi : i < l.length * 1
          · rw [if_pos hi]
            have hi' : i < l.length := by omega
            have hic : i < cur.size := by omega
            have hx : (sortI l)[i]? = some ((sortI l)[i]'(by omega)) := List.getElem?_eq_getElem _
            have e1 : (putCells (Value.int .i64) 0 (sortI l).toArray cur).toList[i]? = some (Value.int .i64 ((sortI l)[i]'(by omega))) := by
              rw [Array.getElem?_toList]
              unfold putCells
              rw [Array.getElem?_mapIdx, Array.getElem?_eq_getElem hic]
              simp only [Option.map_some, Nat.zero_le, true_and, Nat.zero_add, List.size_toArray, hms, hi', if_true, Nat.sub_zero]
              rw [getElem!_pos _ _ (by simp [hms, hi'])]
              simp
            rw [e1, mapGet hx]
          · rw [if_neg hi]
            symm
            rw [List.getElem?_eq_none]
            rw [List.length_map, sortI_len]
            omega
    · refine ⟨by simp, fun b hb' hn => ?_, rfl, rfl, rfl⟩
      rw [heap_grow_old _ _ (by simpa using hb')]
      have : b ≠ g := fun e => hn (by rw [e]; rfl)
      have this' : ¬ g = b := fun e => this e.symm
      simp [putRow, mapBlock, Array.getElem?_modify, this']
end Go.Proofs.YtoanccechefclaaGreatDoor
namespace Go.Proofs.YtoanccechefclaaGreatDoor
open Go Go.RowKit Go.Shelf
set_option maxRecDepth 100000
attribute [local go_sem] Oper.semAt_some
structure t_AppW (w wx : World) (v : Value) (out : List Int) : Prop where
  keep : Keep w wx (fun _ => False)
  box : wx.heap[w.heap.size]? = some (.cells #[v] 25 (0, 0))
  row : wx.ownsRow 0 3 1 v out.length (out.map (Value.int .i64))
  new : ∀ b, v.ownBlock = some b → w.heap.size + 1 ≤ b
theorem t_own_is {w : World} {v : Value} {n : Nat} {xs : List Value} {e : TypeId} (h : w.ownsRow 0 e 1 v n xs) {b : Nat} (q : v.ownBlock = some b) : ∃ c t f, w.heap[b]? = some (.cells c t f) := by
  rcases h.2 with ⟨rfl, _⟩ | ⟨g, cap, cur, rfl, _, hb, _⟩
  · simp [Value.ownBlock] at q
  · simp only [Value.ownBlock, Option.some.injEq] at q
    subst q
    exact ⟨_, _, _, hb⟩
theorem t_AppW.far {w wx wy : World} {v : Value} {out : List Int} (h : t_AppW w wx v out) {Bd : Nat} (hB : w.heap.size ≤ Bd) (k : Keep wx wy (fun b => Bd ≤ b ∧ ∃ o, wx.heap[b]? = some o ∧ o.isCells = false)) : t_AppW w wy v out := by
  refine ⟨h.keep.trans k (fun b q => .inr (by have := q.1; omega)), k.get h.box (fun q => not_cells h.box q.2), rows_keep h.row k (fun b q z => ?_), h.new⟩
  obtain ⟨c, t, f, hb⟩ := t_own_is h.row q
  obtain ⟨o, ho, hn⟩ := z.2
  rw [hb] at ho
  cases ho
  simp [Obj.isCells] at hn
end Go.Proofs.YtoanccechefclaaGreatDoor
