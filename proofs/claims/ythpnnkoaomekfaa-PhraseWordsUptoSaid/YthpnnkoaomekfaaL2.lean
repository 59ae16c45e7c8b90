/- Contracts of functions of the given program, by the abstract walk, for law PhraseWordsUpto: what each one hands back; no condition but those that each theorem states. -/
import Derived.Shelf.Small.Bits
import Derived.Shelf.Small.Strs
import Derived.Shelf.Strconv.Itoa0
import Derived.Shelf.Sort.Plain
import Derived.Shelf.Bits.Mul64
import Derived.Ground.Names2Prog
import Derived.Shelf.Slices.Clone
import Derived.Shelf.Slices.CompactI
import Derived.Shelf.Slices.SearchI
import Derived.Shelf.Slices.Cells
import Derived.Shelf.Slices.In.SortNone
import Derived.Shelf.Slices.Empties
import Derived.Ground.SlgnProg
import Derived.Shelf.SlicesE.Clone
import Derived.Ground.SlgcProg
import Derived.Shelf.SlicesG.Cmp
import Derived.Shelf.SlSortCmp.NoneTotal
import Derived.Ground.SlsfProg
import Derived.Test.YthpnnkoaomekfaaProg
/-
  DERIVED: THE SHELF's CONTRACTS AT THIS DUMP, IN PLAIN WORDS (tools/lay-plain.mjs out of 'YthpnnkoaomekfaaShelf.lean', which tools/lay-shelf.mjs wrote): THE SAME DECLARATIONS UNDER THE SAME NAMES: 'import', 'namespace', 'open', 'def', 'theorem' AND NOTHING ELSE: no command of the shelf's: FOR A HAND-IN. Each laying: the table of numbers ('.._ren') and one theorem, a field a fact of the dump's own or the kernel's comparison; each contract: ONE APPLICATION.
-/
namespace Go.Proofs
open Go.Shelf
def Try.lays106_ren : Go.Shelf.Ren := ⟨fun | 106 => 78 | 213 => 121 | 265 => 153 | n => n, fun | 9 => 9 | 3 => 3 | n => n, fun | n => n⟩
theorem Try.lays106 : Go.Proofs.Lays.n106 Try.prog Try.lays106_ren := {
  mixed := by kernel_rfl
  f106 := Try.func78.trans (congrArg some (by kernel_rfl))
  f213 := Try.func121.trans (congrArg some (by kernel_rfl))
  f265 := Try.func153.trans (congrArg some (by kernel_rfl))
  t3 := Try.underlying3
  a3 := Try.isAgg3
  z3 := Try.sizeOf3
  v3 := Try.zeroValue3
  t9 := Try.underlying9
  a9 := Try.isAgg9
  z9 := Try.sizeOf9
  v9 := Try.zeroValue9 }
open Go.RowKit in
/-- strings.Compare: "Compare returns an integer comparing two strings lexicographically. The result will be 0 if a == b, -1 if a < b, and +1 if a > b.": IT RETURNS 'Lib.compareBytes a b'; the world is as it was. (LAID: no walk: one application.) -/
theorem Try.strings_Compare (a b : ByteArray) (w : World) :
    Calls Try.prog 78 #[.string a, .string b] w fun e w' => e = .returned (.int .i64 (Lib.compareBytes a.data.toList b.data.toList)) ∧ w' = w := Any.strings_Compare Try.lays106 a b w
def Try.sortTerm_ren : Go.Shelf.Ren := ⟨fun | 6 => 129 | 15 => 126 | 14 => 165 | 28 => 162 | 29 => 163 | 20 => 180 | 21 => 181 | 22 => 182 | 23 => 183 | 24 => 184 | 25 => 185 | 26 => 186 | 27 => 187 | 46 => 203 | 47 => 176 | 48 => 177 | 49 => 204 | 50 => 205 | 57 => 209 | n => n, fun | 22 => 53 | 24 => 108 | 25 => 148 | 3 => 3 | 39 => 144 | 0 => 0 | 53 => 175 | 55 => 177 | 4 => 4 | 46 => 169 | 45 => 168 | 50 => 114 | 5 => 5 | 9 => 9 | 66 => 185 | 70 => 189 | 76 => 207 | 77 => 208 | n => n, fun | n => n⟩
theorem Try.sortTerm : Go.Proofs.SlLaysF0.n6 Try.prog Try.sortTerm_ren := {
  mixed := by kernel_rfl
  f6 := ⟨Try.f129.name, by decide, Try.func129.trans (congrArg some (by kernel_rfl))⟩
  f14 := ⟨Try.f165.name, by decide, Try.func165.trans (congrArg some (by kernel_rfl))⟩
  f15 := Try.func126.trans (congrArg some (by kernel_rfl))
  f20 := ⟨Try.f180.name, by decide, Try.func180.trans (congrArg some (by kernel_rfl))⟩
  f21 := ⟨Try.f181.name, by decide, Try.func181.trans (congrArg some (by kernel_rfl))⟩
  f22 := ⟨Try.f182.name, by decide, Try.func182.trans (congrArg some (by kernel_rfl))⟩
  f23 := ⟨Try.f183.name, by decide, Try.func183.trans (congrArg some (by kernel_rfl))⟩
  f24 := ⟨Try.f184.name, by decide, Try.func184.trans (congrArg some (by kernel_rfl))⟩
  f25 := ⟨Try.f185.name, by decide, Try.func185.trans (congrArg some (by kernel_rfl))⟩
  f26 := ⟨Try.f186.name, by decide, Try.func186.trans (congrArg some (by kernel_rfl))⟩
  f27 := ⟨Try.f187.name, by decide, Try.func187.trans (congrArg some (by kernel_rfl))⟩
  f28 := Try.func162.trans (congrArg some (by kernel_rfl))
  f29 := Try.func163.trans (congrArg some (by kernel_rfl))
  f46 := ⟨Try.f203.name, by decide, Try.func203.trans (congrArg some (by kernel_rfl))⟩
  f47 := Try.func176.trans (congrArg some (by kernel_rfl))
  f48 := Try.func177.trans (congrArg some (by kernel_rfl))
  f49 := ⟨Try.f204.name, by decide, Try.func204.trans (congrArg some (by kernel_rfl))⟩
  f50 := ⟨Try.f205.name, by decide, Try.func205.trans (congrArg some (by kernel_rfl))⟩
  f57 := ⟨Try.f209.name, by decide, Try.func209.trans (congrArg some (by kernel_rfl))⟩
  t0 := Try.underlying0
  a0 := Try.isAgg0
  z0 := Try.sizeOf0
  v0 := Try.zeroValue0
  t3 := Try.underlying3
  a3 := Try.isAgg3
  z3 := Try.sizeOf3
  v3 := Try.zeroValue3
  t4 := Try.underlying4
  a4 := Try.isAgg4
  z4 := Try.sizeOf4
  v4 := Try.zeroValue4
  t5 := Try.underlying5
  a5 := Try.isAgg5
  z5 := Try.sizeOf5
  v5 := Try.zeroValue5
  t9 := Try.underlying9
  a9 := Try.isAgg9
  z9 := Try.sizeOf9
  v9 := Try.zeroValue9
  t22 := Try.underlying53
  a22 := Try.isAgg53
  z22 := Try.sizeOf53
  v22 := Try.zeroValue53
  t25 := Try.underlying148
  a25 := Try.isAgg148
  z25 := Try.sizeOf148
  v25 := Try.zeroValue148
  t39 := Try.underlying144
  a39 := Try.isAgg144
  z39 := Try.sizeOf144
  v39 := Try.zeroValue144
  t45 := Try.underlying168
  a45 := Try.isAgg168
  z45 := Try.sizeOf168
  v45 := Try.zeroValue168
  t46 := Try.underlying169
  a46 := Try.isAgg169
  z46 := Try.sizeOf169
  v46 := Try.zeroValue169
  t50 := Try.underlying114
  a50 := Try.isAgg114
  z50 := Try.sizeOf114
  v50 := Try.zeroValue114
  t53 := Try.underlying175
  a53 := Try.isAgg175
  z53 := Try.sizeOf175
  v53 := Try.zeroValue175
  t55 := Try.underlying177
  a55 := Try.isAgg177
  z55 := Try.sizeOf177
  v55 := Try.zeroValue177
  t66 := Try.underlying185
  a66 := Try.isAgg185
  z66 := Try.sizeOf185
  v66 := Try.zeroValue185
  t70 := Try.underlying189
  a70 := Try.isAgg189
  z70 := Try.sizeOf189
  v70 := Try.zeroValue189
  t76 := Try.underlying207
  a76 := Try.isAgg207
  z76 := Try.sizeOf207
  v76 := Try.zeroValue207
  t77 := Try.underlying208
  a77 := Try.isAgg208
  z77 := Try.sizeOf208
  v77 := Try.zeroValue208 }
def Try.sortCard_ren : Go.Shelf.Ren := ⟨fun | 6 => 80 | 15 => 126 | 14 => 125 | 28 => 162 | 29 => 163 | 20 => 151 | 21 => 155 | 22 => 156 | 23 => 157 | 24 => 158 | 25 => 159 | 26 => 160 | 27 => 161 | 46 => 175 | 47 => 176 | 48 => 177 | 49 => 178 | 50 => 179 | 57 => 202 | n => n, fun | 22 => 47 | 24 => 50 | 25 => 102 | 3 => 3 | 39 => 144 | 0 => 0 | 53 => 175 | 55 => 177 | 4 => 4 | 46 => 169 | 45 => 168 | 50 => 114 | 5 => 5 | 9 => 9 | 66 => 185 | 70 => 189 | 76 => 207 | 77 => 208 | n => n, fun | n => n⟩
theorem Try.sortCard : Go.Proofs.SlLaysF0.n6 Try.prog Try.sortCard_ren := {
  mixed := by kernel_rfl
  f6 := ⟨Try.f80.name, by decide, Try.func80.trans (congrArg some (by kernel_rfl))⟩
  f14 := ⟨Try.f125.name, by decide, Try.func125.trans (congrArg some (by kernel_rfl))⟩
  f15 := Try.func126.trans (congrArg some (by kernel_rfl))
  f20 := ⟨Try.f151.name, by decide, Try.func151.trans (congrArg some (by kernel_rfl))⟩
  f21 := ⟨Try.f155.name, by decide, Try.func155.trans (congrArg some (by kernel_rfl))⟩
  f22 := ⟨Try.f156.name, by decide, Try.func156.trans (congrArg some (by kernel_rfl))⟩
  f23 := ⟨Try.f157.name, by decide, Try.func157.trans (congrArg some (by kernel_rfl))⟩
  f24 := ⟨Try.f158.name, by decide, Try.func158.trans (congrArg some (by kernel_rfl))⟩
  f25 := ⟨Try.f159.name, by decide, Try.func159.trans (congrArg some (by kernel_rfl))⟩
  f26 := ⟨Try.f160.name, by decide, Try.func160.trans (congrArg some (by kernel_rfl))⟩
  f27 := ⟨Try.f161.name, by decide, Try.func161.trans (congrArg some (by kernel_rfl))⟩
  f28 := Try.func162.trans (congrArg some (by kernel_rfl))
  f29 := Try.func163.trans (congrArg some (by kernel_rfl))
  f46 := ⟨Try.f175.name, by decide, Try.func175.trans (congrArg some (by kernel_rfl))⟩
  f47 := Try.func176.trans (congrArg some (by kernel_rfl))
  f48 := Try.func177.trans (congrArg some (by kernel_rfl))
  f49 := ⟨Try.f178.name, by decide, Try.func178.trans (congrArg some (by kernel_rfl))⟩
  f50 := ⟨Try.f179.name, by decide, Try.func179.trans (congrArg some (by kernel_rfl))⟩
  f57 := ⟨Try.f202.name, by decide, Try.func202.trans (congrArg some (by kernel_rfl))⟩
  t0 := Try.underlying0
  a0 := Try.isAgg0
  z0 := Try.sizeOf0
  v0 := Try.zeroValue0
  t3 := Try.underlying3
  a3 := Try.isAgg3
  z3 := Try.sizeOf3
  v3 := Try.zeroValue3
  t4 := Try.underlying4
  a4 := Try.isAgg4
  z4 := Try.sizeOf4
  v4 := Try.zeroValue4
  t5 := Try.underlying5
  a5 := Try.isAgg5
  z5 := Try.sizeOf5
  v5 := Try.zeroValue5
  t9 := Try.underlying9
  a9 := Try.isAgg9
  z9 := Try.sizeOf9
  v9 := Try.zeroValue9
  t22 := Try.underlying47
  a22 := Try.isAgg47
  z22 := Try.sizeOf47
  v22 := Try.zeroValue47
  t25 := Try.underlying102
  a25 := Try.isAgg102
  z25 := Try.sizeOf102
  v25 := Try.zeroValue102
  t39 := Try.underlying144
  a39 := Try.isAgg144
  z39 := Try.sizeOf144
  v39 := Try.zeroValue144
  t45 := Try.underlying168
  a45 := Try.isAgg168
  z45 := Try.sizeOf168
  v45 := Try.zeroValue168
  t46 := Try.underlying169
  a46 := Try.isAgg169
  z46 := Try.sizeOf169
  v46 := Try.zeroValue169
  t50 := Try.underlying114
  a50 := Try.isAgg114
  z50 := Try.sizeOf114
  v50 := Try.zeroValue114
  t53 := Try.underlying175
  a53 := Try.isAgg175
  z53 := Try.sizeOf175
  v53 := Try.zeroValue175
  t55 := Try.underlying177
  a55 := Try.isAgg177
  z55 := Try.sizeOf177
  v55 := Try.zeroValue177
  t66 := Try.underlying185
  a66 := Try.isAgg185
  z66 := Try.sizeOf185
  v66 := Try.zeroValue185
  t70 := Try.underlying189
  a70 := Try.isAgg189
  z70 := Try.sizeOf189
  v70 := Try.zeroValue189
  t76 := Try.underlying207
  a76 := Try.isAgg207
  z76 := Try.sizeOf207
  v76 := Try.zeroValue207
  t77 := Try.underlying208
  a77 := Try.isAgg208
  z77 := Try.sizeOf208
  v77 := Try.zeroValue208 }
def Try.cmpInt_ren : Go.Shelf.Ren := ⟨fun | 5 => 128 | 7 => 164 | n => n, fun | 22 => 3 | 3 => 3 | 4 => 4 | n => n, fun | n => n⟩
theorem Try.cmpInt : Go.Proofs.SlLaysC2.n5 Try.prog Try.cmpInt_ren := {
  mixed := by kernel_rfl
  f5 := ⟨Try.f128.name, by decide, Try.func128.trans (congrArg some (by kernel_rfl))⟩
  f7 := ⟨Try.f164.name, by decide, Try.func164.trans (congrArg some (by kernel_rfl))⟩
  t3 := Try.underlying3
  a3 := Try.isAgg3
  z3 := Try.sizeOf3
  v3 := Try.zeroValue3
  t4 := Try.underlying4
  a4 := Try.isAgg4
  z4 := Try.sizeOf4
  v4 := Try.zeroValue4
  t22 := Try.underlying3
  a22 := Try.isAgg3
  z22 := Try.sizeOf3
  v22 := Try.zeroValue3 }
end Go.Proofs
