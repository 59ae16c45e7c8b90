/- Contracts of functions of the given program, by the abstract walk, for law ListsLaws: what each one hands back; no condition but those that each theorem states. -/
import Derived.Test.YtbodcpinpomobaaRows
import Derived.Test.YtbodcpinpomobaaC3
namespace Go.Proofs.Ytbodcpinpomobaa
open Go.ChangeShapes Go.WideShapes Go.ChangeAt Go.RowKit Go.Aw

theorem listsLaws_own : ownKnob Try.prog.godebug = none := by kernel_rfl
theorem listsLaws_laid : laidOutB Try.prog = true := by kernel_rfl
set_option maxRecDepth 100000 in
theorem listsLaws_lifted (os : Os) (started : os.Started) (H : Type) (enc : TypeId × Value → H) :
    ReturnsInHanded {} Try.checked os 13 .any (Rows.listsLawsSpec.pre6 enc Try.prog Try.f13 Rows.listsLawsRow.domain false) (Rows.listsLawsSpec.post enc Try.prog Try.f13 false true false false) := by
  refine returnsInHanded_of_change (C := Try.checked) listsLaws_own started (by kernel_rfl) Try.func13
    (ChangeSpec.witness6 (enc := enc) (C := Try.checked) false ⟨#[], #[.slice none 0 0, .slice none 0 0, .slice none 0 0], []⟩ 8 (by kernel_rfl) (by kernel_rfl) (by kernel_rfl) (by kernel_rfl)) ?_
  intro W base args ds gs before hval hW _ _
  exact law_contract (C := Try.checked) (s := Rows.listsLawsSpec) (tys := [.sl 1 (.i .i64), .sl 1 (.i .i64), .sl 1 (.i .i64)]) listsLaws_laid (by kernel_rfl) (by kernel_rfl) (by kernel_rfl) rfl
    (fun ds h => match ds, h with | [_, _, _], _ => rfl) c_law16_ListsLaws W base args ds gs before hval hW

theorem listsLaws_holds : Rows.ListsLawsSaid :=
  OpenClaim.holds_of_wide 13 Try.f13 rfl rfl rfl rfl rfl rfl rfl ⟨rfl, rfl, rfl, rfl, rfl⟩ rfl rfl rfl rfl rfl (by kernel_rfl) Try.func13 (by kernel_rfl)
    (of_decide_eq_true (by kernel_rfl)) (by unfold Func.isWrapper; first | (rw [if_pos (by decide +kernel)]; kernel_rfl) | (rw [if_neg (by decide +kernel)]; exact ⟨rfl, rfl⟩))
    (fun os started H enc _ => listsLaws_lifted os started H enc)
#print axioms listsLaws_holds
end Go.Proofs.Ytbodcpinpomobaa
