/-
  DERIVED: THE SHELF's CONTRACTS AT THIS DUMP, IN PLAIN WORDS (tools/lay-plain.mjs out of 'TryShelf.lean', which tools/lay-shelf.mjs wrote): THE SAME DECLARATIONS UNDER THE SAME NAMES: 'import', 'namespace', 'open', 'def', 'theorem' AND NOTHING ELSE: no command of the shelf's: FOR A HAND-IN. Each laying: the table of numbers ('.._ren') and one theorem, a field a fact of the dump's own or the kernel's comparison; each contract: ONE APPLICATION.
-/
import Derived.Shelf.Small.Strs
import Derived.Shelf.Strings.Search1
import Derived.Shelf.Sort.Plain
import Derived.Shelf.Slices.In.SortNone
import Derived.Test.YtnjfcedkfobbcaaChecked
namespace Go.Proofs
open Go.Shelf
def Try.lays137_ren : Go.Shelf.Ren := ⟨fun | 137 => 48 | 217 => 58 | 266 => 65 | n => n, fun | 9 => 9 | 5 => 5 | 3 => 3 | n => n, fun | n => n⟩
theorem Try.lays137 : Go.Proofs.Lays.n137 Try.prog Try.lays137_ren := {
  mixed := by kernel_rfl
  f137 := Try.func48.trans (congrArg some (by kernel_rfl))
  f217 := Try.func58.trans (congrArg some (by kernel_rfl))
  f266 := Try.func65.trans (congrArg some (by kernel_rfl))
  t3 := Try.underlying3
  a3 := Try.isAgg3
  z3 := Try.sizeOf3
  v3 := Try.zeroValue3
  t5 := Try.underlying5
  a5 := Try.isAgg5
  z5 := Try.sizeOf5
  v5 := Try.zeroValue5
  t9 := Try.underlying9
  a9 := Try.isAgg9
  z9 := Try.sizeOf9
  v9 := Try.zeroValue9 }
open Go.RowKit in
/-- strings.IndexByte: "IndexByte returns the index of the first instance of c in s, or -1 if c is not present in s.": IT RETURNS 'Lib.indexByte s c'; the world is as it was. (LAID: no walk: one application.) -/
theorem Try.strings_IndexByte (s : ByteArray) (c : Int) (w : World) :
    Calls Try.prog 48 #[.string s, .int .u8 c] w fun e w' => e = .returned (.int .i64 (Lib.indexByte s.data.toList c.toNat.toUInt8)) ∧ w' = w := Any.strings_IndexByte Try.lays137 s c w
def Try.lays217_ren : Go.Shelf.Ren := ⟨fun | 217 => 58 | 266 => 65 | n => n, fun | 9 => 9 | 5 => 5 | 3 => 3 | n => n, fun | n => n⟩
theorem Try.lays217 : Go.Proofs.Lays.n217 Try.prog Try.lays217_ren := {
  mixed := by kernel_rfl
  f217 := Try.func58.trans (congrArg some (by kernel_rfl))
  f266 := Try.func65.trans (congrArg some (by kernel_rfl))
  t3 := Try.underlying3
  a3 := Try.isAgg3
  z3 := Try.sizeOf3
  v3 := Try.zeroValue3
  t5 := Try.underlying5
  a5 := Try.isAgg5
  z5 := Try.sizeOf5
  v5 := Try.zeroValue5
  t9 := Try.underlying9
  a9 := Try.isAgg9
  z9 := Try.sizeOf9
  v9 := Try.zeroValue9 }
open Go.RowKit Go.Lib in
/-- internal/stringslite.IndexByte (what strings.IndexByte calls): IT RETURNS 'Lib.indexByte s c'; the world is as it was. (LAID: no walk: one application.) -/
theorem Try.stringslite_IndexByte (s : ByteArray) (c : Int) (w : World) :
    Calls Try.prog 58 #[.string s, .int .u8 c] w fun e w' => e = .returned (.int .i64 (Lib.indexByte s.data.toList c.toNat.toUInt8)) ∧ w' = w := Any.stringslite_IndexByte Try.lays217 s c w
def Try.lays189_ren : Go.Shelf.Ren := ⟨fun | 189 => 56 | 125 => 64 | 257 => 63 | 128 => 77 | 129 => 78 | 294 => 68 | 295 => 69 | 296 => 70 | 297 => 71 | 298 => 72 | 299 => 73 | 216 => 74 | 300 => 75 | 301 => 76 | 328 => 88 | 329 => 89 | 330 => 90 | 331 => 91 | 332 => 92 | 215 => 93 | 343 => 98 | n => n, fun | 28 => 51 | 3 => 3 | 46 => 106 | 0 => 0 | 51 => 117 | 53 => 119 | 4 => 4 | 183 => 111 | 182 => 110 | 131 => 37 | 5 => 5 | 9 => 9 | 218 => 126 | 222 => 130 | 228 => 134 | 229 => 135 | n => n, fun | n => n⟩
theorem Try.lays189 : Go.Proofs.Lays.n189 Try.prog Try.lays189_ren := {
  mixed := by kernel_rfl
  f125 := Try.func64.trans (congrArg some (by kernel_rfl))
  f128 := Try.func77.trans (congrArg some (by kernel_rfl))
  f129 := Try.func78.trans (congrArg some (by kernel_rfl))
  f189 := Try.func56.trans (congrArg some (by kernel_rfl))
  f215 := Try.func93.trans (congrArg some (by kernel_rfl))
  f216 := Try.func74.trans (congrArg some (by kernel_rfl))
  f257 := Try.func63.trans (congrArg some (by kernel_rfl))
  f294 := Try.func68.trans (congrArg some (by kernel_rfl))
  f295 := Try.func69.trans (congrArg some (by kernel_rfl))
  f296 := Try.func70.trans (congrArg some (by kernel_rfl))
  f297 := Try.func71.trans (congrArg some (by kernel_rfl))
  f298 := Try.func72.trans (congrArg some (by kernel_rfl))
  f299 := Try.func73.trans (congrArg some (by kernel_rfl))
  f300 := Try.func75.trans (congrArg some (by kernel_rfl))
  f301 := Try.func76.trans (congrArg some (by kernel_rfl))
  f328 := Try.func88.trans (congrArg some (by kernel_rfl))
  f329 := Try.func89.trans (congrArg some (by kernel_rfl))
  f330 := Try.func90.trans (congrArg some (by kernel_rfl))
  f331 := Try.func91.trans (congrArg some (by kernel_rfl))
  f332 := Try.func92.trans (congrArg some (by kernel_rfl))
  f343 := Try.func98.trans (congrArg some (by kernel_rfl))
  t0 := Try.underlying0
  a0 := Try.isAgg0
  z0 := Try.sizeOf0
  v0 := Try.zeroValue0
  t3 := Try.underlying3
  a3 := Try.isAgg3
  z3 := Try.sizeOf3
  v3 := Try.zeroValue3
  t4 := Try.underlying4
  a4 := Try.isAgg4
  z4 := Try.sizeOf4
  v4 := Try.zeroValue4
  t5 := Try.underlying5
  a5 := Try.isAgg5
  z5 := Try.sizeOf5
  v5 := Try.zeroValue5
  t9 := Try.underlying9
  a9 := Try.isAgg9
  z9 := Try.sizeOf9
  v9 := Try.zeroValue9
  t28 := Try.underlying51
  a28 := Try.isAgg51
  z28 := Try.sizeOf51
  v28 := Try.zeroValue51
  t46 := Try.underlying106
  a46 := Try.isAgg106
  z46 := Try.sizeOf106
  v46 := Try.zeroValue106
  t51 := Try.underlying117
  a51 := Try.isAgg117
  z51 := Try.sizeOf117
  v51 := Try.zeroValue117
  t53 := Try.underlying119
  a53 := Try.isAgg119
  z53 := Try.sizeOf119
  v53 := Try.zeroValue119
  t131 := Try.underlying37
  a131 := Try.isAgg37
  z131 := Try.sizeOf37
  v131 := Try.zeroValue37
  t182 := Try.underlying110
  a182 := Try.isAgg110
  z182 := Try.sizeOf110
  v182 := Try.zeroValue110
  t183 := Try.underlying111
  a183 := Try.isAgg111
  z183 := Try.sizeOf111
  v183 := Try.zeroValue111
  t218 := Try.underlying126
  a218 := Try.isAgg126
  z218 := Try.sizeOf126
  v218 := Try.zeroValue126
  t222 := Try.underlying130
  a222 := Try.isAgg130
  z222 := Try.sizeOf130
  v222 := Try.zeroValue130
  t228 := Try.underlying134
  a228 := Try.isAgg134
  z228 := Try.sizeOf134
  v228 := Try.zeroValue134
  t229 := Try.underlying135
  a229 := Try.isAgg135
  z229 := Try.sizeOf135
  v229 := Try.zeroValue135 }
open Go.Sort Go.RowKit in
theorem Try.slices_Sort_int (blk off cap : Nat) (zs : List Int) (w : World) (hH : Holds (Value.int .i64) w blk off zs.toArray) (hblk : blk < w.heap.size) (hsz : zs.length < 4611686018427387904) :
    Calls Try.prog 56 #[.slice (some ⟨blk, off, none⟩) zs.length cap] w fun e w' =>
      e = .returned (.tuple #[]) ∧ ∃ n os, w' = grow (putRow (Value.int .i64) (Sort.ahead w n) blk off (zs.mergeSort fun x y => decide (x ≤ y)).toArray) os := Any.slices_Sort_int Try.lays189 blk off cap zs w hH hblk hsz
def Try.lays190_ren : Go.Shelf.Ren := ⟨fun | 190 => 60 | 125 => 64 | 258 => 67 | 128 => 77 | 129 => 78 | 302 => 79 | 303 => 80 | 304 => 81 | 305 => 82 | 306 => 83 | 307 => 84 | 308 => 85 | 309 => 86 | 310 => 87 | 333 => 94 | 329 => 89 | 330 => 90 | 334 => 95 | 335 => 96 | 336 => 97 | 344 => 99 | n => n, fun | 31 => 36 | 9 => 9 | 3 => 3 | 46 => 106 | 0 => 0 | 51 => 117 | 53 => 119 | 4 => 4 | 183 => 111 | 182 => 110 | 131 => 37 | 5 => 5 | 218 => 126 | 222 => 130 | 228 => 134 | 229 => 135 | n => n, fun | n => n⟩
theorem Try.lays190 : Go.Proofs.Lays.n190 Try.prog Try.lays190_ren := {
  mixed := by kernel_rfl
  f125 := Try.func64.trans (congrArg some (by kernel_rfl))
  f128 := Try.func77.trans (congrArg some (by kernel_rfl))
  f129 := Try.func78.trans (congrArg some (by kernel_rfl))
  f190 := Try.func60.trans (congrArg some (by kernel_rfl))
  f258 := Try.func67.trans (congrArg some (by kernel_rfl))
  f302 := Try.func79.trans (congrArg some (by kernel_rfl))
  f303 := Try.func80.trans (congrArg some (by kernel_rfl))
  f304 := Try.func81.trans (congrArg some (by kernel_rfl))
  f305 := Try.func82.trans (congrArg some (by kernel_rfl))
  f306 := Try.func83.trans (congrArg some (by kernel_rfl))
  f307 := Try.func84.trans (congrArg some (by kernel_rfl))
  f308 := Try.func85.trans (congrArg some (by kernel_rfl))
  f309 := Try.func86.trans (congrArg some (by kernel_rfl))
  f310 := Try.func87.trans (congrArg some (by kernel_rfl))
  f329 := Try.func89.trans (congrArg some (by kernel_rfl))
  f330 := Try.func90.trans (congrArg some (by kernel_rfl))
  f333 := Try.func94.trans (congrArg some (by kernel_rfl))
  f334 := Try.func95.trans (congrArg some (by kernel_rfl))
  f335 := Try.func96.trans (congrArg some (by kernel_rfl))
  f336 := Try.func97.trans (congrArg some (by kernel_rfl))
  f344 := Try.func99.trans (congrArg some (by kernel_rfl))
  t0 := Try.underlying0
  a0 := Try.isAgg0
  z0 := Try.sizeOf0
  v0 := Try.zeroValue0
  t3 := Try.underlying3
  a3 := Try.isAgg3
  z3 := Try.sizeOf3
  v3 := Try.zeroValue3
  t4 := Try.underlying4
  a4 := Try.isAgg4
  z4 := Try.sizeOf4
  v4 := Try.zeroValue4
  t5 := Try.underlying5
  a5 := Try.isAgg5
  z5 := Try.sizeOf5
  v5 := Try.zeroValue5
  t9 := Try.underlying9
  a9 := Try.isAgg9
  z9 := Try.sizeOf9
  v9 := Try.zeroValue9
  t31 := Try.underlying36
  a31 := Try.isAgg36
  z31 := Try.sizeOf36
  v31 := Try.zeroValue36
  t46 := Try.underlying106
  a46 := Try.isAgg106
  z46 := Try.sizeOf106
  v46 := Try.zeroValue106
  t51 := Try.underlying117
  a51 := Try.isAgg117
  z51 := Try.sizeOf117
  v51 := Try.zeroValue117
  t53 := Try.underlying119
  a53 := Try.isAgg119
  z53 := Try.sizeOf119
  v53 := Try.zeroValue119
  t131 := Try.underlying37
  a131 := Try.isAgg37
  z131 := Try.sizeOf37
  v131 := Try.zeroValue37
  t182 := Try.underlying110
  a182 := Try.isAgg110
  z182 := Try.sizeOf110
  v182 := Try.zeroValue110
  t183 := Try.underlying111
  a183 := Try.isAgg111
  z183 := Try.sizeOf111
  v183 := Try.zeroValue111
  t218 := Try.underlying126
  a218 := Try.isAgg126
  z218 := Try.sizeOf126
  v218 := Try.zeroValue126
  t222 := Try.underlying130
  a222 := Try.isAgg130
  z222 := Try.sizeOf130
  v222 := Try.zeroValue130
  t228 := Try.underlying134
  a228 := Try.isAgg134
  z228 := Try.sizeOf134
  v228 := Try.zeroValue134
  t229 := Try.underlying135
  a229 := Try.isAgg135
  z229 := Try.sizeOf135
  v229 := Try.zeroValue135 }
open Go.Sort Go.RowKit in
theorem Try.slices_Sort_string (blk off cap : Nat) (ss : List (List UInt8)) (w : World) (hH : Holds encStr w blk off ss.toArray) (hblk : blk < w.heap.size) (hsz : ss.length < 4611686018427387904) :
    Calls Try.prog 60 #[.slice (some ⟨blk, off, none⟩) ss.length cap] w fun e w' =>
      e = .returned (.tuple #[]) ∧ ∃ n os, w' = grow (putRow encStr (Sort.ahead w n) blk off (ss.mergeSort fun x y => decide (x ≤ y)).toArray) os := Any.slices_Sort_string Try.lays190 blk off cap ss w hH hblk hsz
open Go.RowKit Go.Sort in
/-- .. and plain. (LAID: no walk: one application.) -/
theorem Try.slices_Sort_string_none (p : Option Addr) (cap : Nat) (w : World) :
    Calls Try.prog 60 #[.slice p 0 cap] w fun e w' => e = .returned (.tuple #[]) ∧ w' = w := Any.slices_Sort_string_none Try.lays190 p cap w
open Go.RowKit Go.Sort in
/-- .. and plain. (LAID: no walk: one application.) -/
theorem Try.slices_Sort_int_none (p : Option Addr) (cap : Nat) (w : World) :
    Calls Try.prog 56 #[.slice p 0 cap] w fun e w' => e = .returned (.tuple #[]) ∧ w' = w := Any.slices_Sort_int_none Try.lays189 p cap w
end Go.Proofs
