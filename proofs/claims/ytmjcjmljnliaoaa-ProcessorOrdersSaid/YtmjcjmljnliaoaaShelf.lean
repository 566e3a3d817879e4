/-
  DERIVED: THE SHELF's CONTRACTS AT THIS DUMP, IN PLAIN WORDS (tools/lay-plain.mjs out of 'TryShelf.lean', which tools/lay-shelf.mjs wrote): THE SAME DECLARATIONS UNDER THE SAME NAMES: 'import', 'namespace', 'open', 'def', 'theorem' AND NOTHING ELSE: no command of the shelf's: FOR A HAND-IN. Each laying: the table of numbers ('.._ren') and one theorem, a field a fact of the dump's own or the kernel's comparison; each contract: ONE APPLICATION.
-/
import Derived.Shelf.Sort.Plain
import Derived.Ground.NamesProg
import Derived.Shelf.Slices.SearchI
import Derived.Shelf.Slices.In.SortNone
import Derived.Test.YtmjcjmljnliaoaaProg
namespace Go.Proofs
open Go.Shelf
def Try.lays189_ren : Go.Shelf.Ren := ⟨fun | 189 => 110 | 125 => 135 | 257 => 134 | 128 => 158 | 129 => 159 | 294 => 150 | 295 => 151 | 296 => 152 | 297 => 153 | 298 => 154 | 299 => 155 | 216 => 108 | 300 => 156 | 301 => 157 | 328 => 162 | 329 => 163 | 330 => 164 | 331 => 165 | 332 => 166 | 215 => 132 | 343 => 169 | n => n, fun | 28 => 22 | 3 => 3 | 46 => 161 | 0 => 0 | 51 => 185 | 53 => 188 | 4 => 4 | 183 => 193 | 182 => 192 | 131 => 197 | 5 => 5 | 9 => 9 | 218 => 205 | 222 => 209 | 228 => 214 | 229 => 215 | n => n, fun | n => n⟩
theorem Try.lays189 : Go.Proofs.Lays.n189 Try.prog Try.lays189_ren := {
  mixed := by kernel_rfl
  f125 := Try.func135.trans (congrArg some (by kernel_rfl))
  f128 := Try.func158.trans (congrArg some (by kernel_rfl))
  f129 := Try.func159.trans (congrArg some (by kernel_rfl))
  f189 := Try.func110.trans (congrArg some (by kernel_rfl))
  f215 := Try.func132.trans (congrArg some (by kernel_rfl))
  f216 := Try.func108.trans (congrArg some (by kernel_rfl))
  f257 := Try.func134.trans (congrArg some (by kernel_rfl))
  f294 := Try.func150.trans (congrArg some (by kernel_rfl))
  f295 := Try.func151.trans (congrArg some (by kernel_rfl))
  f296 := Try.func152.trans (congrArg some (by kernel_rfl))
  f297 := Try.func153.trans (congrArg some (by kernel_rfl))
  f298 := Try.func154.trans (congrArg some (by kernel_rfl))
  f299 := Try.func155.trans (congrArg some (by kernel_rfl))
  f300 := Try.func156.trans (congrArg some (by kernel_rfl))
  f301 := Try.func157.trans (congrArg some (by kernel_rfl))
  f328 := Try.func162.trans (congrArg some (by kernel_rfl))
  f329 := Try.func163.trans (congrArg some (by kernel_rfl))
  f330 := Try.func164.trans (congrArg some (by kernel_rfl))
  f331 := Try.func165.trans (congrArg some (by kernel_rfl))
  f332 := Try.func166.trans (congrArg some (by kernel_rfl))
  f343 := Try.func169.trans (congrArg some (by kernel_rfl))
  t0 := Try.underlying0
  a0 := Try.isAgg0
  z0 := Try.sizeOf0
  v0 := Try.zeroValue0
  t3 := Try.underlying3
  a3 := Try.isAgg3
  z3 := Try.sizeOf3
  v3 := Try.zeroValue3
  t4 := Try.underlying4
  a4 := Try.isAgg4
  z4 := Try.sizeOf4
  v4 := Try.zeroValue4
  t5 := Try.underlying5
  a5 := Try.isAgg5
  z5 := Try.sizeOf5
  v5 := Try.zeroValue5
  t9 := Try.underlying9
  a9 := Try.isAgg9
  z9 := Try.sizeOf9
  v9 := Try.zeroValue9
  t28 := Try.underlying22
  a28 := Try.isAgg22
  z28 := Try.sizeOf22
  v28 := Try.zeroValue22
  t46 := Try.underlying161
  a46 := Try.isAgg161
  z46 := Try.sizeOf161
  v46 := Try.zeroValue161
  t51 := Try.underlying185
  a51 := Try.isAgg185
  z51 := Try.sizeOf185
  v51 := Try.zeroValue185
  t53 := Try.underlying188
  a53 := Try.isAgg188
  z53 := Try.sizeOf188
  v53 := Try.zeroValue188
  t131 := Try.underlying197
  a131 := Try.isAgg197
  z131 := Try.sizeOf197
  v131 := Try.zeroValue197
  t182 := Try.underlying192
  a182 := Try.isAgg192
  z182 := Try.sizeOf192
  v182 := Try.zeroValue192
  t183 := Try.underlying193
  a183 := Try.isAgg193
  z183 := Try.sizeOf193
  v183 := Try.zeroValue193
  t218 := Try.underlying205
  a218 := Try.isAgg205
  z218 := Try.sizeOf205
  v218 := Try.zeroValue205
  t222 := Try.underlying209
  a222 := Try.isAgg209
  z222 := Try.sizeOf209
  v222 := Try.zeroValue209
  t228 := Try.underlying214
  a228 := Try.isAgg214
  z228 := Try.sizeOf214
  v228 := Try.zeroValue214
  t229 := Try.underlying215
  a229 := Try.isAgg215
  z229 := Try.sizeOf215
  v229 := Try.zeroValue215 }
open Go.Sort Go.RowKit in
theorem Try.slices_Sort_int (blk off cap : Nat) (zs : List Int) (w : World) (hH : Holds (Value.int .i64) w blk off zs.toArray) (hblk : blk < w.heap.size) (hsz : zs.length < 4611686018427387904) :
    Calls Try.prog 110 #[.slice (some ⟨blk, off, none⟩) zs.length cap] w fun e w' =>
      e = .returned (.tuple #[]) ∧ ∃ n os, w' = grow (putRow (Value.int .i64) (Sort.ahead w n) blk off (zs.mergeSort fun x y => decide (x ≤ y)).toArray) os := Any.slices_Sort_int Try.lays189 blk off cap zs w hH hblk hsz
open Go.RowKit Go.Sort in
/-- .. and plain. (LAID: no walk: one application.) -/
theorem Try.slices_Sort_int_none (p : Option Addr) (cap : Nat) (w : World) :
    Calls Try.prog 110 #[.slice p 0 cap] w fun e w' => e = .returned (.tuple #[]) ∧ w' = w := Any.slices_Sort_int_none Try.lays189 p cap w
end Go.Proofs
