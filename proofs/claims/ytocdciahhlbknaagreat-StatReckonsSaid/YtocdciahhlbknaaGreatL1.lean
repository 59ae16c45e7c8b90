/- Contracts of functions of the given program, by the abstract walk, for law StatReckons: what each one hands back; no condition but those that each theorem states. -/
import Derived.Shelf.Small.Bits
import Derived.Shelf.Small.Strs
import Derived.Shelf.Strconv.Itoa0
import Derived.Shelf.Sort.Plain
import Derived.Shelf.Bits.Mul64
import Derived.Shelf.Slices.In.SortNone
import Derived.Ground.SlgcProg
import Derived.Shelf.SlicesG.Cmp
import Derived.Ground.SlsfProg
import Derived.Shelf.SlSortCmp.Insertion
import Derived.Shelf.SlSortCmp.Insertion1
import Derived.Shelf.SlSortCmp.ReverseRange1
import Derived.Shelf.SlSortCmp.PartialInsertion1
import Derived.Shelf.SlSortCmp.PartitionEqual1
import Derived.Shelf.SlSortCmp.Partition1
import Derived.Test.YtocdciahhlbknaaGreatProg
namespace Go.Proofs
open Go.Shelf
def Tryz.lays189_ren:Go.Shelf.Ren:=⟨fun|189=>149|125=>58|257=>214|128=>131|129=>132|294=>250|295=>251|296=>252|297=>253|298=>254|299=>255|216=>256|300=>257|301=>258|328=>287|329=>236|330=>237|331=>288|332=>289|215=>219|343=>307|n=>n,fun|28=>51|3=>3|46=>100|0=>0|51=>165|53=>167|4=>4|183=>209|182=>208|131=>150|5=>5|9=>9|218=>247|222=>251|228=>278|229=>279|n=>n,fun|n=>n⟩
theorem Tryz.lays189:Go.Proofs.Lays.n189 Tryz.prog Tryz.lays189_ren:={
 mixed:=by kernel_rfl
 f125:=Tryz.func58.trans (congrArg some (by kernel_rfl))
 f128:=Tryz.func131.trans (congrArg some (by kernel_rfl))
 f129:=Tryz.func132.trans (congrArg some (by kernel_rfl))
 f189:=Tryz.func149.trans (congrArg some (by kernel_rfl))
 f215:=Tryz.func219.trans (congrArg some (by kernel_rfl))
 f216:=Tryz.func256.trans (congrArg some (by kernel_rfl))
 f257:=Tryz.func214.trans (congrArg some (by kernel_rfl))
 f294:=Tryz.func250.trans (congrArg some (by kernel_rfl))
 f295:=Tryz.func251.trans (congrArg some (by kernel_rfl))
 f296:=Tryz.func252.trans (congrArg some (by kernel_rfl))
 f297:=Tryz.func253.trans (congrArg some (by kernel_rfl))
 f298:=Tryz.func254.trans (congrArg some (by kernel_rfl))
 f299:=Tryz.func255.trans (congrArg some (by kernel_rfl))
 f300:=Tryz.func257.trans (congrArg some (by kernel_rfl))
 f301:=Tryz.func258.trans (congrArg some (by kernel_rfl))
 f328:=Tryz.func287.trans (congrArg some (by kernel_rfl))
 f329:=Tryz.func236.trans (congrArg some (by kernel_rfl))
 f330:=Tryz.func237.trans (congrArg some (by kernel_rfl))
 f331:=Tryz.func288.trans (congrArg some (by kernel_rfl))
 f332:=Tryz.func289.trans (congrArg some (by kernel_rfl))
 f343:=Tryz.func307.trans (congrArg some (by kernel_rfl))
 t0:=Tryz.underlying0
 a0:=Tryz.isAgg0
 z0:=Tryz.sizeOf0
 v0:=Tryz.zeroValue0
 t3:=Tryz.underlying3
 a3:=Tryz.isAgg3
 z3:=Tryz.sizeOf3
 v3:=Tryz.zeroValue3
 t4:=Tryz.underlying4
 a4:=Tryz.isAgg4
 z4:=Tryz.sizeOf4
 v4:=Tryz.zeroValue4
 t5:=Tryz.underlying5
 a5:=Tryz.isAgg5
 z5:=Tryz.sizeOf5
 v5:=Tryz.zeroValue5
 t9:=Tryz.underlying9
 a9:=Tryz.isAgg9
 z9:=Tryz.sizeOf9
 v9:=Tryz.zeroValue9
 t28:=Tryz.underlying51
 a28:=Tryz.isAgg51
 z28:=Tryz.sizeOf51
 v28:=Tryz.zeroValue51
 t46:=Tryz.underlying100
 a46:=Tryz.isAgg100
 z46:=Tryz.sizeOf100
 v46:=Tryz.zeroValue100
 t51:=Tryz.underlying165
 a51:=Tryz.isAgg165
 z51:=Tryz.sizeOf165
 v51:=Tryz.zeroValue165
 t53:=Tryz.underlying167
 a53:=Tryz.isAgg167
 z53:=Tryz.sizeOf167
 v53:=Tryz.zeroValue167
 t131:=Tryz.underlying150
 a131:=Tryz.isAgg150
 z131:=Tryz.sizeOf150
 v131:=Tryz.zeroValue150
 t182:=Tryz.underlying208
 a182:=Tryz.isAgg208
 z182:=Tryz.sizeOf208
 v182:=Tryz.zeroValue208
 t183:=Tryz.underlying209
 a183:=Tryz.isAgg209
 z183:=Tryz.sizeOf209
 v183:=Tryz.zeroValue209
 t218:=Tryz.underlying247
 a218:=Tryz.isAgg247
 z218:=Tryz.sizeOf247
 v218:=Tryz.zeroValue247
 t222:=Tryz.underlying251
 a222:=Tryz.isAgg251
 z222:=Tryz.sizeOf251
 v222:=Tryz.zeroValue251
 t228:=Tryz.underlying278
 a228:=Tryz.isAgg278
 z228:=Tryz.sizeOf278
 v228:=Tryz.zeroValue278
 t229:=Tryz.underlying279
 a229:=Tryz.isAgg279
 z229:=Tryz.sizeOf279
 v229:=Tryz.zeroValue279 }
open Go.Sort Go.RowKit in
theorem Tryz.slices_Sort_int (blk off cap:Nat) (zs:List Int) (w:World) (hH:Holds (Value.int .i64) w blk off zs.toArray) (hblk:blk < w.heap.size) (hsz:zs.length < 4611686018427387904) :
  Calls Tryz.prog 149 #[.slice (some ⟨blk,off,none⟩) zs.length cap] w fun e w' =>
   e=.returned (.tuple #[])∧∃ n os,w'=grow (putRow (Value.int .i64) (Sort.ahead w n) blk off (zs.mergeSort fun x y=>decide (x≤y)).toArray) os:=Any.slices_Sort_int Tryz.lays189 blk off cap zs w hH hblk hsz
def Tryz.lays212_ren:Go.Shelf.Ren:=⟨fun|212=>202|263=>242|264=>243|n=>n,fun|46=>100|51=>165|146=>254|53=>167|148=>256|n=>n,fun|n=>n⟩
theorem Tryz.lays212:Go.Proofs.Lays.n212 Tryz.prog Tryz.lays212_ren:={
 mixed:=by kernel_rfl
 f212:=Tryz.func202.trans (congrArg some (by kernel_rfl))
 f263:=Tryz.func242.trans (congrArg some (by kernel_rfl))
 f264:=Tryz.func243.trans (congrArg some (by kernel_rfl))
 t46:=Tryz.underlying100
 a46:=Tryz.isAgg100
 z46:=Tryz.sizeOf100
 v46:=Tryz.zeroValue100
 t51:=Tryz.underlying165
 a51:=Tryz.isAgg165
 z51:=Tryz.sizeOf165
 v51:=Tryz.zeroValue165
 t53:=Tryz.underlying167
 a53:=Tryz.isAgg167
 z53:=Tryz.sizeOf167
 v53:=Tryz.zeroValue167
 t146:=Tryz.underlying254
 a146:=Tryz.isAgg254
 z146:=Tryz.sizeOf254
 v146:=Tryz.zeroValue254
 t148:=Tryz.underlying256
 a148:=Tryz.isAgg256
 z148:=Tryz.sizeOf256
 v148:=Tryz.zeroValue256 }
open Go.RowKit Go.Lib in
theorem Tryz.bits_Mul (x y:Nat) (hx:x < 18446744073709551616) (hy:y < 18446744073709551616) (w:World) :
  Calls Tryz.prog 202 #[.int .u64 x,.int .u64 y] w fun e w'=>e=.returned (.tuple #[.int .u64 ((x*y / 18446744073709551616:Nat):Int),.int .u64 ((x*y % 18446744073709551616:Nat):Int)])∧w'=w:=Any.bits_Mul Tryz.lays212 x y hx hy w
open Go.RowKit Go.Sort in
theorem Tryz.slices_Sort_int_none (p:Option Addr) (cap:Nat) (w:World) :
  Calls Tryz.prog 149 #[.slice p 0 cap] w fun e w'=>e=.returned (.tuple #[])∧w'=w:=Any.slices_Sort_int_none Tryz.lays189 p cap w
end Go.Proofs
