/- Contracts of functions of the given program, by the abstract walk, for law PhraseWordsUpto: what each one hands back; no condition but those that each theorem states. -/
import Derived.Shelf.Small.Bits
import Derived.Shelf.Small.Strs
import Derived.Shelf.Strconv.Itoa0
import Derived.Shelf.Sort.Plain
import Derived.Shelf.Bits.Mul64
import Derived.Ground.Names2Prog
import Derived.Shelf.Slices.Clone
import Derived.Shelf.Slices.CompactI
import Derived.Shelf.Slices.SearchI
import Derived.Shelf.Slices.Cells
import Derived.Shelf.Slices.In.SortNone
import Derived.Shelf.Slices.Empties
import Derived.Ground.SlgnProg
import Derived.Shelf.SlicesE.Clone
import Derived.Test.YthpnnkoaomekfaaProg
/-
  DERIVED: THE SHELF's CONTRACTS AT THIS DUMP, IN PLAIN WORDS (tools/lay-plain.mjs out of 'YthpnnkoaomekfaaShelf.lean', which tools/lay-shelf.mjs wrote): THE SAME DECLARATIONS UNDER THE SAME NAMES: 'import', 'namespace', 'open', 'def', 'theorem' AND NOTHING ELSE: no command of the shelf's: FOR A HAND-IN. Each laying: the table of numbers ('.._ren') and one theorem, a field a fact of the dump's own or the kernel's comparison; each contract: ONE APPLICATION.
-/
namespace Go.Proofs
open Go.Shelf
def Try.lays189_ren : Go.Shelf.Ren := ⟨fun | 189 => 147 | 125 => 126 | 257 => 173 | 128 => 162 | 129 => 163 | 294 => 193 | 295 => 194 | 296 => 195 | 297 => 196 | 298 => 197 | 299 => 198 | 216 => 191 | 300 => 199 | 301 => 200 | 328 => 206 | 329 => 176 | 330 => 177 | 331 => 207 | 332 => 208 | 215 => 164 | 343 => 210 | n => n, fun | 28 => 52 | 3 => 3 | 46 => 144 | 0 => 0 | 51 => 175 | 53 => 177 | 4 => 4 | 183 => 169 | 182 => 168 | 131 => 114 | 5 => 5 | 9 => 9 | 218 => 185 | 222 => 189 | 228 => 207 | 229 => 208 | n => n, fun | n => n⟩
theorem Try.lays189 : Go.Proofs.Lays.n189 Try.prog Try.lays189_ren := {
  mixed := by kernel_rfl
  f125 := Try.func126.trans (congrArg some (by kernel_rfl))
  f128 := Try.func162.trans (congrArg some (by kernel_rfl))
  f129 := Try.func163.trans (congrArg some (by kernel_rfl))
  f189 := Try.func147.trans (congrArg some (by kernel_rfl))
  f215 := Try.func164.trans (congrArg some (by kernel_rfl))
  f216 := Try.func191.trans (congrArg some (by kernel_rfl))
  f257 := Try.func173.trans (congrArg some (by kernel_rfl))
  f294 := Try.func193.trans (congrArg some (by kernel_rfl))
  f295 := Try.func194.trans (congrArg some (by kernel_rfl))
  f296 := Try.func195.trans (congrArg some (by kernel_rfl))
  f297 := Try.func196.trans (congrArg some (by kernel_rfl))
  f298 := Try.func197.trans (congrArg some (by kernel_rfl))
  f299 := Try.func198.trans (congrArg some (by kernel_rfl))
  f300 := Try.func199.trans (congrArg some (by kernel_rfl))
  f301 := Try.func200.trans (congrArg some (by kernel_rfl))
  f328 := Try.func206.trans (congrArg some (by kernel_rfl))
  f329 := Try.func176.trans (congrArg some (by kernel_rfl))
  f330 := Try.func177.trans (congrArg some (by kernel_rfl))
  f331 := Try.func207.trans (congrArg some (by kernel_rfl))
  f332 := Try.func208.trans (congrArg some (by kernel_rfl))
  f343 := Try.func210.trans (congrArg some (by kernel_rfl))
  t0 := Try.underlying0
  a0 := Try.isAgg0
  z0 := Try.sizeOf0
  v0 := Try.zeroValue0
  t3 := Try.underlying3
  a3 := Try.isAgg3
  z3 := Try.sizeOf3
  v3 := Try.zeroValue3
  t4 := Try.underlying4
  a4 := Try.isAgg4
  z4 := Try.sizeOf4
  v4 := Try.zeroValue4
  t5 := Try.underlying5
  a5 := Try.isAgg5
  z5 := Try.sizeOf5
  v5 := Try.zeroValue5
  t9 := Try.underlying9
  a9 := Try.isAgg9
  z9 := Try.sizeOf9
  v9 := Try.zeroValue9
  t28 := Try.underlying52
  a28 := Try.isAgg52
  z28 := Try.sizeOf52
  v28 := Try.zeroValue52
  t46 := Try.underlying144
  a46 := Try.isAgg144
  z46 := Try.sizeOf144
  v46 := Try.zeroValue144
  t51 := Try.underlying175
  a51 := Try.isAgg175
  z51 := Try.sizeOf175
  v51 := Try.zeroValue175
  t53 := Try.underlying177
  a53 := Try.isAgg177
  z53 := Try.sizeOf177
  v53 := Try.zeroValue177
  t131 := Try.underlying114
  a131 := Try.isAgg114
  z131 := Try.sizeOf114
  v131 := Try.zeroValue114
  t182 := Try.underlying168
  a182 := Try.isAgg168
  z182 := Try.sizeOf168
  v182 := Try.zeroValue168
  t183 := Try.underlying169
  a183 := Try.isAgg169
  z183 := Try.sizeOf169
  v183 := Try.zeroValue169
  t218 := Try.underlying185
  a218 := Try.isAgg185
  z218 := Try.sizeOf185
  v218 := Try.zeroValue185
  t222 := Try.underlying189
  a222 := Try.isAgg189
  z222 := Try.sizeOf189
  v222 := Try.zeroValue189
  t228 := Try.underlying207
  a228 := Try.isAgg207
  z228 := Try.sizeOf207
  v228 := Try.zeroValue207
  t229 := Try.underlying208
  a229 := Try.isAgg208
  z229 := Try.sizeOf208
  v229 := Try.zeroValue208 }
open Go.Sort Go.RowKit in
theorem Try.slices_Sort_int (blk off cap : Nat) (zs : List Int) (w : World) (hH : Holds (Value.int .i64) w blk off zs.toArray) (hblk : blk < w.heap.size) (hsz : zs.length < 4611686018427387904) :
    Calls Try.prog 147 #[.slice (some ⟨blk, off, none⟩) zs.length cap] w fun e w' =>
      e = .returned (.tuple #[]) ∧ ∃ n os, w' = grow (putRow (Value.int .i64) (Sort.ahead w n) blk off (zs.mergeSort fun x y => decide (x ≤ y)).toArray) os := Any.slices_Sort_int Try.lays189 blk off cap zs w hH hblk hsz
def Try.lays212_ren : Go.Shelf.Ren := ⟨fun | 212 => 166 | 263 => 188 | 264 => 189 | n => n, fun | 46 => 144 | 51 => 175 | 146 => 196 | 53 => 177 | 148 => 198 | n => n, fun | n => n⟩
theorem Try.lays212 : Go.Proofs.Lays.n212 Try.prog Try.lays212_ren := {
  mixed := by kernel_rfl
  f212 := Try.func166.trans (congrArg some (by kernel_rfl))
  f263 := Try.func188.trans (congrArg some (by kernel_rfl))
  f264 := Try.func189.trans (congrArg some (by kernel_rfl))
  t46 := Try.underlying144
  a46 := Try.isAgg144
  z46 := Try.sizeOf144
  v46 := Try.zeroValue144
  t51 := Try.underlying175
  a51 := Try.isAgg175
  z51 := Try.sizeOf175
  v51 := Try.zeroValue175
  t53 := Try.underlying177
  a53 := Try.isAgg177
  z53 := Try.sizeOf177
  v53 := Try.zeroValue177
  t146 := Try.underlying196
  a146 := Try.isAgg196
  z146 := Try.sizeOf196
  v146 := Try.zeroValue196
  t148 := Try.underlying198
  a148 := Try.isAgg198
  z148 := Try.sizeOf198
  v148 := Try.zeroValue198 }
open Go.RowKit Go.Lib in
/-- math/bits.Mul: "Mul returns the full-width product of x and y": on a machine of 64 bits: Mul64's. (LAID: no walk: one application.) -/
theorem Try.bits_Mul (x y : Nat) (hx : x < 18446744073709551616) (hy : y < 18446744073709551616) (w : World) :
    Calls Try.prog 166 #[.int .u64 x, .int .u64 y] w fun e w' => e = .returned (.tuple #[.int .u64 ((x * y / 18446744073709551616 : Nat) : Int), .int .u64 ((x * y % 18446744073709551616 : Nat) : Int)]) ∧ w' = w := Any.bits_Mul Try.lays212 x y hx hy w
def Try.laysNm225_ren : Go.Shelf.Ren := ⟨fun | 25 => 170 | 31 => 191 | 32 => 192 | 37 => 164 | n => n, fun | 22 => 52 | 3 => 3 | 4 => 4 | 40 => 144 | 0 => 0 | n => n, fun | n => n⟩
theorem Try.laysNm225 : Go.Proofs.Lays2.n25 Try.prog Try.laysNm225_ren := {
  mixed := by kernel_rfl
  f25 := Try.func170.trans (congrArg some (by kernel_rfl))
  f31 := Try.func191.trans (congrArg some (by kernel_rfl))
  f32 := Try.func192.trans (congrArg some (by kernel_rfl))
  f37 := Try.func164.trans (congrArg some (by kernel_rfl))
  t0 := Try.underlying0
  a0 := Try.isAgg0
  z0 := Try.sizeOf0
  v0 := Try.zeroValue0
  t3 := Try.underlying3
  a3 := Try.isAgg3
  z3 := Try.sizeOf3
  v3 := Try.zeroValue3
  t4 := Try.underlying4
  a4 := Try.isAgg4
  z4 := Try.sizeOf4
  v4 := Try.zeroValue4
  t22 := Try.underlying52
  a22 := Try.isAgg52
  z22 := Try.sizeOf52
  v22 := Try.zeroValue52
  t40 := Try.underlying144
  a40 := Try.isAgg144
  z40 := Try.sizeOf144
  v40 := Try.zeroValue144 }
open Go.RowKit Go.Sort in
/-- .. and plain. (LAID: no walk: one application.) -/
theorem Try.slices_Sort_int_none (p : Option Addr) (cap : Nat) (w : World) :
    Calls Try.prog 147 #[.slice p 0 cap] w fun e w' => e = .returned (.tuple #[]) ∧ w' = w := Any.slices_Sort_int_none Try.lays189 p cap w
end Go.Proofs
