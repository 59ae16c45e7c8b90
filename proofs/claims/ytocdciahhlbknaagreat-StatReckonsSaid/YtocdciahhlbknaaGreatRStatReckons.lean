/- Contracts of functions of the given program, by the abstract walk, for law StatReckons: what each one hands back; no condition but those that each theorem states. -/
import Derived.Test.YtocdciahhlbknaaGreatRows
import Derived.Test.YtocdciahhlbknaaGreatC28
namespace Go.Proofs.YtocdciahhlbknaaGreat
open Go.ChangeShapes Go.WideShapes Go.ChangeAt Go.RowKit Go.Aw
theorem statReckons_own:ownKnob Tryz.prog.godebug=none:=by kernel_rfl
theorem statReckons_laid:laidOutB Tryz.prog=true:=by kernel_rfl
set_option maxRecDepth 100000 in
theorem statReckons_lifted (os:Os) (started:os.Started) (H:Type) (enc:TypeId×Value→H) :
  ReturnsInHanded {} Tryz.checked os 4 .any (Rows.statReckonsSpec.pre6 enc Tryz.prog Tryz.f4 Rows.statReckonsRow.domain false) (Rows.statReckonsSpec.post enc Tryz.prog Tryz.f4 false true false false):=by
 refine returnsInHanded_of_change (C:=Tryz.checked) statReckons_own started (by kernel_rfl) Tryz.func4
  (ChangeSpec.witness6 (enc:=enc) (C:=Tryz.checked) false ⟨#[],#[.int .i64 0,.int .i64 0,.int .i64 0,.agg #[.int .i64 0,.int .i64 0]],[]⟩ 8 (by kernel_rfl) (by kernel_rfl) (by kernel_rfl) (by kernel_rfl)) ?_
 intro W base args ds gs before hval hW _ _
 exact law_contract (C:=Tryz.checked) (s:=Rows.statReckonsSpec) (tys:=[.i .i64,.i .i64,.i .i64,.fc (.i .i64) (.fc (.i .i64) .fn)]) statReckons_laid (by kernel_rfl) (by kernel_rfl) (by kernel_rfl) rfl
  (fun ds h=>match ds,h with|[_,_,_,_],_=>rfl) c_law15_StatReckons W base args ds gs before hval hW
theorem joined_of {P:Program} {f:FuncId} {fn:Func} {s:ChangeSpec} {c:OpenClaim} (h0:(c.wf (OpenSpec.ofChange s))=true) (h1:(laidOutB P)=true) (h2:(mapsRowed P)=true) (h3:(fn.params.all (P.readableRec ·))=true) (h4:(namedTie P c.named s.vars)=true) (h5:(c.stops == [])=true) (h6:(P.stops == [])=true) (h7:(c.knobs == [])=true) (h8:(P.stopKnobs == [])=true) (h9:(c.inPlace == P.inPlace f)=true) (h10:(c.unfollowed == P.unfollowed f)=true) (h11:(c.recurses == P.recurses f)=true) (h12:(c.named == P.varsNamed f)=true) (h13:(c.maps == (fn.params.toList++s.plain.varTypes P).any (P.mapsRec ·))=true) (h14:(c.ifaces == (fn.params.toList++s.plain.varTypes P).any (P.ifacesRec ·))=true) (h15:(c.mapsOut == P.mapsAmong fn.resultTypes.toList)=true) (h16:(c.loops == (fn.params.toList++s.plain.varTypes P).any (P.loopsFrom ·))=true) (h17:(c.wideKeys == (fn.params.toList++s.plain.varTypes P++fn.resultTypes.toList).any (P.wideKeysFrom ·))=true) (h18:(s.vars.all (P.varReadable ·))=true) (h19:(fn.resultTypes.all (fun t=>P.readableRec t && decide (t < P.types.size)))=true) (h20:(c.ifacesOut == fn.resultTypes.toList.any (P.ifacesRec ·))=true) (h21:(c.loopsOut == fn.resultTypes.toList.any (P.loopsFrom ·))=true) (h22:(c.plainKeys == P.plainKeys)=true) (h23:(c.shortTexts.isNone)=true) (h24:(P.stopsHeard)=true) (h25:(P.mayEnter)=true) (h26:(c.lifted == P.liftsFinal)=true) (h27:(P.make == some c.make)=true) (h28:(c.kinds == (if c.domain.isEmpty then [] else fn.params.toList.map fun t=>match P.underlying t with|some (.int k)=>some k|_=>none))=true) (h29:(c.pinned == c.pinnedBy)=true) (h30:(c.veiled == (fn.params.toList++s.plain.varTypes P++fn.resultTypes.toList).any (P.veiledRec ·))=true) (h31:(c.veiledFits P fn.params.toList (fn.params.toList++s.plain.varTypes P++fn.resultTypes.toList))=true):joinedFacts P f fn s c=true:=by
 simp only [joinedFacts,h0,h1,h2,h3,h4,h5,h6,h7,h8,h9,h10,h11,h12,h13,h14,h15,h16,h17,h18,h19,h20,h21,h22,h23,h24,h25,h26,h27,h29,h30,h31,Bool.and_true,Bool.true_and]
 exact h28
theorem statReckons_j0:(Rows.statReckonsRow.wf (OpenSpec.ofChange Rows.statReckonsSpec))=true:=by kernel_rfl
theorem statReckons_j1:(laidOutB Tryz.prog)=true:=by kernel_rfl
theorem statReckons_j2:(mapsRowed Tryz.prog)=true:=by kernel_rfl
theorem statReckons_j3:(Tryz.f4.params.all (Tryz.prog.readableRec ·))=true:=by kernel_rfl
theorem statReckons_j4:(namedTie Tryz.prog Rows.statReckonsRow.named Rows.statReckonsSpec.vars)=true:=by kernel_rfl
theorem statReckons_j5:((Rows.statReckonsRow.stops == []))=true:=by kernel_rfl
theorem statReckons_j6:((Tryz.prog.stops == []))=true:=by kernel_rfl
theorem statReckons_j7:((Rows.statReckonsRow.knobs == []))=true:=by kernel_rfl
theorem statReckons_j8:((Tryz.prog.stopKnobs == []))=true:=by kernel_rfl
theorem statReckons_j9:((Rows.statReckonsRow.inPlace == Tryz.prog.inPlace 4))=true:=by kernel_rfl
theorem statReckons_j10:((Rows.statReckonsRow.unfollowed == Tryz.prog.unfollowed 4))=true:=by kernel_rfl
theorem statReckons_j11:((Rows.statReckonsRow.recurses == Tryz.prog.recurses 4))=true:=by kernel_rfl
theorem statReckons_j12:((Rows.statReckonsRow.named == Tryz.prog.varsNamed 4))=true:=by kernel_rfl
theorem statReckons_j13:((Rows.statReckonsRow.maps == (Tryz.f4.params.toList++Rows.statReckonsSpec.plain.varTypes Tryz.prog).any (Tryz.prog.mapsRec ·)))=true:=by kernel_rfl
theorem statReckons_j14:((Rows.statReckonsRow.ifaces == (Tryz.f4.params.toList++Rows.statReckonsSpec.plain.varTypes Tryz.prog).any (Tryz.prog.ifacesRec ·)))=true:=by kernel_rfl
theorem statReckons_j15:((Rows.statReckonsRow.mapsOut == Tryz.prog.mapsAmong Tryz.f4.resultTypes.toList))=true:=by kernel_rfl
theorem statReckons_j16:((Rows.statReckonsRow.loops == (Tryz.f4.params.toList++Rows.statReckonsSpec.plain.varTypes Tryz.prog).any (Tryz.prog.loopsFrom ·)))=true:=by kernel_rfl
theorem statReckons_j17:((Rows.statReckonsRow.wideKeys == (Tryz.f4.params.toList++Rows.statReckonsSpec.plain.varTypes Tryz.prog++Tryz.f4.resultTypes.toList).any (Tryz.prog.wideKeysFrom ·)))=true:=by kernel_rfl
theorem statReckons_j18:(Rows.statReckonsSpec.vars.all (Tryz.prog.varReadable ·))=true:=by kernel_rfl
theorem statReckons_j19:(Tryz.f4.resultTypes.all (fun t=>Tryz.prog.readableRec t && decide (t < Tryz.prog.types.size)))=true:=by kernel_rfl
theorem statReckons_j20:((Rows.statReckonsRow.ifacesOut == Tryz.f4.resultTypes.toList.any (Tryz.prog.ifacesRec ·)))=true:=by kernel_rfl
theorem statReckons_j21:((Rows.statReckonsRow.loopsOut == Tryz.f4.resultTypes.toList.any (Tryz.prog.loopsFrom ·)))=true:=by kernel_rfl
theorem statReckons_j22:((Rows.statReckonsRow.plainKeys == Tryz.prog.plainKeys))=true:=by kernel_rfl
theorem statReckons_j23:(Rows.statReckonsRow.shortTexts.isNone)=true:=by kernel_rfl
theorem statReckons_j24:(Tryz.prog.stopsHeard)=true:=by kernel_rfl
theorem statReckons_j25:(Tryz.prog.mayEnter)=true:=by kernel_rfl
theorem statReckons_j26:((Rows.statReckonsRow.lifted == Tryz.prog.liftsFinal))=true:=by kernel_rfl
theorem statReckons_j27:((Tryz.prog.make == some Rows.statReckonsRow.make))=true:=by kernel_rfl
theorem statReckons_j28:((Rows.statReckonsRow.kinds == (if Rows.statReckonsRow.domain.isEmpty then [] else Tryz.f4.params.toList.map fun t=>match Tryz.prog.underlying t with|some (.int k)=>some k|_=>none)))=true:=by kernel_rfl
theorem statReckons_j29:((Rows.statReckonsRow.pinned == Rows.statReckonsRow.pinnedBy))=true:=by kernel_rfl
theorem statReckons_j30:((Rows.statReckonsRow.veiled == (Tryz.f4.params.toList++Rows.statReckonsSpec.plain.varTypes Tryz.prog++Tryz.f4.resultTypes.toList).any (Tryz.prog.veiledRec ·)))=true:=by kernel_rfl
theorem statReckons_j31:(Rows.statReckonsRow.veiledFits Tryz.prog Tryz.f4.params.toList (Tryz.f4.params.toList++Rows.statReckonsSpec.plain.varTypes Tryz.prog++Tryz.f4.resultTypes.toList))=true:=by kernel_rfl
theorem statReckons_joined0:joinedFacts Tryz.prog 4 Tryz.f4 Rows.statReckonsSpec Rows.statReckonsRow=true:=joined_of statReckons_j0 statReckons_j1 statReckons_j2 statReckons_j3 statReckons_j4 statReckons_j5 statReckons_j6 statReckons_j7 statReckons_j8 statReckons_j9 statReckons_j10 statReckons_j11 statReckons_j12 statReckons_j13 statReckons_j14 statReckons_j15 statReckons_j16 statReckons_j17 statReckons_j18 statReckons_j19 statReckons_j20 statReckons_j21 statReckons_j22 statReckons_j23 statReckons_j24 statReckons_j25 statReckons_j26 statReckons_j27 statReckons_j28 statReckons_j29 statReckons_j30 statReckons_j31
set_option maxRecDepth 100000 in
theorem statReckons_joined:joinedFacts Tryz.pinned.checked.prog 4 Tryz.f4 Rows.statReckonsSpec Rows.statReckonsRow=true:=statReckons_joined0
set_option maxRecDepth 100000 in
theorem statReckons_holds:Rows.StatReckonsSaid :=
 OpenClaim.holds_of_wide 4 Tryz.f4 rfl rfl rfl rfl rfl rfl rfl ⟨rfl,rfl,rfl,rfl,rfl⟩ rfl rfl rfl rfl rfl (by kernel_rfl) Tryz.func4 statReckons_joined
  (of_decide_eq_true (by kernel_rfl)) (by unfold Func.isWrapper;first|(rw [if_pos (by decide +kernel)];kernel_rfl)|(rw [if_neg (by decide +kernel)];exact ⟨rfl,rfl⟩))
  (fun os started H enc _=>statReckons_lifted os started H enc)
#print axioms statReckons_holds
end Go.Proofs.YtocdciahhlbknaaGreat
