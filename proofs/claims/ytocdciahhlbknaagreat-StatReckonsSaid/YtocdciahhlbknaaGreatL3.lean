/- Contracts of functions of the given program, by the abstract walk, for law StatReckons: what each one hands back; no condition but those that each theorem states. -/
import Derived.Shelf.Small.Bits
import Derived.Shelf.Small.Strs
import Derived.Shelf.Strconv.Itoa0
import Derived.Shelf.Sort.Plain
import Derived.Shelf.Bits.Mul64
import Derived.Shelf.Slices.In.SortNone
import Derived.Ground.SlgcProg
import Derived.Shelf.SlicesG.Cmp
import Derived.Ground.SlsfProg
import Derived.Shelf.SlSortCmp.Insertion
import Derived.Shelf.SlSortCmp.SiftDown1
import Derived.Shelf.SlSortCmp.HeapSort1
import Derived.Shelf.SlSortCmp.Insertion1
import Derived.Shelf.SlSortCmp.Median1
import Derived.Shelf.SlSortCmp.Pivot1
import Derived.Shelf.SlSortCmp.ReverseRange1
import Derived.Shelf.SlSortCmp.PartialInsertion1
import Derived.Shelf.SlSortCmp.PartitionEqual1
import Derived.Shelf.SlSortCmp.Partition1
import Derived.Shelf.SlSortCmp.Pdq1
import Derived.Shelf.SlSortCmp.Whole1
import Derived.Shelf.SlSortCmp.NoneTotal
import Derived.Test.YtocdciahhlbknaaGreatProg
namespace Go.Proofs
open Go.Shelf
def Tryz.sortN0_ren:Go.Shelf.Ren:=⟨fun|6=>248|15=>58|14=>278|28=>131|29=>132|20=>296|21=>297|22=>298|23=>299|24=>300|25=>301|26=>302|27=>303|46=>309|47=>236|48=>237|49=>310|50=>311|57=>313|n=>n,fun|22=>51|24=>3|25=>36|3=>3|39=>100|0=>0|53=>165|55=>167|4=>4|46=>209|45=>208|50=>150|5=>5|9=>9|66=>247|70=>251|76=>278|77=>279|n=>n,fun|n=>n⟩
theorem Tryz.sortN0:Go.Proofs.SlLaysF0.n6 Tryz.prog Tryz.sortN0_ren:={
 mixed:=by kernel_rfl
 f6:=⟨Tryz.f248.name,by decide,Tryz.func248.trans (congrArg some (by kernel_rfl))⟩
 f14:=⟨Tryz.f278.name,by decide,Tryz.func278.trans (congrArg some (by kernel_rfl))⟩
 f15:=Tryz.func58.trans (congrArg some (by kernel_rfl))
 f20:=⟨Tryz.f296.name,by decide,Tryz.func296.trans (congrArg some (by kernel_rfl))⟩
 f21:=⟨Tryz.f297.name,by decide,Tryz.func297.trans (congrArg some (by kernel_rfl))⟩
 f22:=⟨Tryz.f298.name,by decide,Tryz.func298.trans (congrArg some (by kernel_rfl))⟩
 f23:=⟨Tryz.f299.name,by decide,Tryz.func299.trans (congrArg some (by kernel_rfl))⟩
 f24:=⟨Tryz.f300.name,by decide,Tryz.func300.trans (congrArg some (by kernel_rfl))⟩
 f25:=⟨Tryz.f301.name,by decide,Tryz.func301.trans (congrArg some (by kernel_rfl))⟩
 f26:=⟨Tryz.f302.name,by decide,Tryz.func302.trans (congrArg some (by kernel_rfl))⟩
 f27:=⟨Tryz.f303.name,by decide,Tryz.func303.trans (congrArg some (by kernel_rfl))⟩
 f28:=Tryz.func131.trans (congrArg some (by kernel_rfl))
 f29:=Tryz.func132.trans (congrArg some (by kernel_rfl))
 f46:=⟨Tryz.f309.name,by decide,Tryz.func309.trans (congrArg some (by kernel_rfl))⟩
 f47:=Tryz.func236.trans (congrArg some (by kernel_rfl))
 f48:=Tryz.func237.trans (congrArg some (by kernel_rfl))
 f49:=⟨Tryz.f310.name,by decide,Tryz.func310.trans (congrArg some (by kernel_rfl))⟩
 f50:=⟨Tryz.f311.name,by decide,Tryz.func311.trans (congrArg some (by kernel_rfl))⟩
 f57:=⟨Tryz.f313.name,by decide,Tryz.func313.trans (congrArg some (by kernel_rfl))⟩
 t0:=Tryz.underlying0
 a0:=Tryz.isAgg0
 z0:=Tryz.sizeOf0
 v0:=Tryz.zeroValue0
 t3:=Tryz.underlying3
 a3:=Tryz.isAgg3
 z3:=Tryz.sizeOf3
 v3:=Tryz.zeroValue3
 t4:=Tryz.underlying4
 a4:=Tryz.isAgg4
 z4:=Tryz.sizeOf4
 v4:=Tryz.zeroValue4
 t5:=Tryz.underlying5
 a5:=Tryz.isAgg5
 z5:=Tryz.sizeOf5
 v5:=Tryz.zeroValue5
 t9:=Tryz.underlying9
 a9:=Tryz.isAgg9
 z9:=Tryz.sizeOf9
 v9:=Tryz.zeroValue9
 t22:=Tryz.underlying51
 a22:=Tryz.isAgg51
 z22:=Tryz.sizeOf51
 v22:=Tryz.zeroValue51
 t25:=Tryz.underlying36
 a25:=Tryz.isAgg36
 z25:=Tryz.sizeOf36
 v25:=Tryz.zeroValue36
 t39:=Tryz.underlying100
 a39:=Tryz.isAgg100
 z39:=Tryz.sizeOf100
 v39:=Tryz.zeroValue100
 t45:=Tryz.underlying208
 a45:=Tryz.isAgg208
 z45:=Tryz.sizeOf208
 v45:=Tryz.zeroValue208
 t46:=Tryz.underlying209
 a46:=Tryz.isAgg209
 z46:=Tryz.sizeOf209
 v46:=Tryz.zeroValue209
 t50:=Tryz.underlying150
 a50:=Tryz.isAgg150
 z50:=Tryz.sizeOf150
 v50:=Tryz.zeroValue150
 t53:=Tryz.underlying165
 a53:=Tryz.isAgg165
 z53:=Tryz.sizeOf165
 v53:=Tryz.zeroValue165
 t55:=Tryz.underlying167
 a55:=Tryz.isAgg167
 z55:=Tryz.sizeOf167
 v55:=Tryz.zeroValue167
 t66:=Tryz.underlying247
 a66:=Tryz.isAgg247
 z66:=Tryz.sizeOf247
 v66:=Tryz.zeroValue247
 t70:=Tryz.underlying251
 a70:=Tryz.isAgg251
 z70:=Tryz.sizeOf251
 v70:=Tryz.zeroValue251
 t76:=Tryz.underlying278
 a76:=Tryz.isAgg278
 z76:=Tryz.sizeOf278
 v76:=Tryz.zeroValue278
 t77:=Tryz.underlying279
 a77:=Tryz.isAgg279
 z77:=Tryz.sizeOf279
 v77:=Tryz.zeroValue279 }
def Tryz.sortN_ren:Go.Shelf.Ren:=⟨fun|6=>248|15=>58|14=>278|28=>131|29=>132|20=>296|21=>297|22=>298|23=>299|24=>300|25=>301|26=>302|27=>303|46=>309|47=>236|48=>237|49=>310|50=>311|57=>313|n=>n,fun|22=>51|24=>3|25=>36|3=>3|39=>100|0=>0|53=>165|55=>167|4=>4|46=>209|45=>208|50=>150|5=>5|9=>9|66=>247|70=>251|76=>278|77=>279|n=>n,fun|n=>n⟩
theorem Tryz.sortN:Go.Proofs.SlLaysF.n6 Tryz.prog Tryz.sortN_ren:={
 mixed:=by kernel_rfl
 f6:=⟨Tryz.f248.name,by decide,Tryz.func248.trans (congrArg some (by kernel_rfl))⟩
 f14:=⟨Tryz.f278.name,by decide,Tryz.func278.trans (congrArg some (by kernel_rfl))⟩
 f15:=Tryz.func58.trans (congrArg some (by kernel_rfl))
 f20:=⟨Tryz.f296.name,by decide,Tryz.func296.trans (congrArg some (by kernel_rfl))⟩
 f21:=⟨Tryz.f297.name,by decide,Tryz.func297.trans (congrArg some (by kernel_rfl))⟩
 f22:=⟨Tryz.f298.name,by decide,Tryz.func298.trans (congrArg some (by kernel_rfl))⟩
 f23:=⟨Tryz.f299.name,by decide,Tryz.func299.trans (congrArg some (by kernel_rfl))⟩
 f24:=⟨Tryz.f300.name,by decide,Tryz.func300.trans (congrArg some (by kernel_rfl))⟩
 f25:=⟨Tryz.f301.name,by decide,Tryz.func301.trans (congrArg some (by kernel_rfl))⟩
 f26:=⟨Tryz.f302.name,by decide,Tryz.func302.trans (congrArg some (by kernel_rfl))⟩
 f27:=⟨Tryz.f303.name,by decide,Tryz.func303.trans (congrArg some (by kernel_rfl))⟩
 f28:=Tryz.func131.trans (congrArg some (by kernel_rfl))
 f29:=Tryz.func132.trans (congrArg some (by kernel_rfl))
 f46:=⟨Tryz.f309.name,by decide,Tryz.func309.trans (congrArg some (by kernel_rfl))⟩
 f47:=Tryz.func236.trans (congrArg some (by kernel_rfl))
 f48:=Tryz.func237.trans (congrArg some (by kernel_rfl))
 f49:=⟨Tryz.f310.name,by decide,Tryz.func310.trans (congrArg some (by kernel_rfl))⟩
 f50:=⟨Tryz.f311.name,by decide,Tryz.func311.trans (congrArg some (by kernel_rfl))⟩
 f57:=⟨Tryz.f313.name,by decide,Tryz.func313.trans (congrArg some (by kernel_rfl))⟩
 t0:=Tryz.underlying0
 a0:=Tryz.isAgg0
 z0:=Tryz.sizeOf0
 v0:=Tryz.zeroValue0
 t3:=Tryz.underlying3
 a3:=Tryz.isAgg3
 z3:=Tryz.sizeOf3
 v3:=Tryz.zeroValue3
 t4:=Tryz.underlying4
 a4:=Tryz.isAgg4
 z4:=Tryz.sizeOf4
 v4:=Tryz.zeroValue4
 t5:=Tryz.underlying5
 a5:=Tryz.isAgg5
 z5:=Tryz.sizeOf5
 v5:=Tryz.zeroValue5
 t9:=Tryz.underlying9
 a9:=Tryz.isAgg9
 z9:=Tryz.sizeOf9
 v9:=Tryz.zeroValue9
 t22:=Tryz.underlying51
 a22:=Tryz.isAgg51
 z22:=Tryz.sizeOf51
 v22:=Tryz.zeroValue51
 a24:=Tryz.isAgg3
 z24:=Tryz.sizeOf3
 t25:=Tryz.underlying36
 a25:=Tryz.isAgg36
 z25:=Tryz.sizeOf36
 v25:=Tryz.zeroValue36
 t39:=Tryz.underlying100
 a39:=Tryz.isAgg100
 z39:=Tryz.sizeOf100
 v39:=Tryz.zeroValue100
 t45:=Tryz.underlying208
 a45:=Tryz.isAgg208
 z45:=Tryz.sizeOf208
 v45:=Tryz.zeroValue208
 t46:=Tryz.underlying209
 a46:=Tryz.isAgg209
 z46:=Tryz.sizeOf209
 v46:=Tryz.zeroValue209
 t50:=Tryz.underlying150
 a50:=Tryz.isAgg150
 z50:=Tryz.sizeOf150
 v50:=Tryz.zeroValue150
 t53:=Tryz.underlying165
 a53:=Tryz.isAgg165
 z53:=Tryz.sizeOf165
 v53:=Tryz.zeroValue165
 t55:=Tryz.underlying167
 a55:=Tryz.isAgg167
 z55:=Tryz.sizeOf167
 v55:=Tryz.zeroValue167
 t66:=Tryz.underlying247
 a66:=Tryz.isAgg247
 z66:=Tryz.sizeOf247
 v66:=Tryz.zeroValue247
 t70:=Tryz.underlying251
 a70:=Tryz.isAgg251
 z70:=Tryz.sizeOf251
 v70:=Tryz.zeroValue251
 t76:=Tryz.underlying278
 a76:=Tryz.isAgg278
 z76:=Tryz.sizeOf278
 v76:=Tryz.zeroValue278
 t77:=Tryz.underlying279
 a77:=Tryz.isAgg279
 z77:=Tryz.sizeOf279
 v77:=Tryz.zeroValue279 }
end Go.Proofs
