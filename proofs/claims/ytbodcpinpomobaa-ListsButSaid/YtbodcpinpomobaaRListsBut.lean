/- Contracts of functions of the given program, by the abstract walk, for law ListsBut: what each one hands back; no condition but those that each theorem states. -/
import Derived.Test.YtbodcpinpomobaaRows
import Derived.Test.YtbodcpinpomobaaC3
namespace Go.Proofs.Ytbodcpinpomobaa
open Go.ChangeShapes Go.WideShapes Go.ChangeAt Go.RowKit Go.Aw

theorem listsBut_own : ownKnob Try.prog.godebug = none := by kernel_rfl
theorem listsBut_laid : laidOutB Try.prog = true := by kernel_rfl
set_option maxRecDepth 100000 in
theorem listsBut_lifted (os : Os) (started : os.Started) (H : Type) (enc : TypeId × Value → H) :
    ReturnsInHanded {} Try.checked os 11 .any (Rows.listsButSpec.pre6 enc Try.prog Try.f11 Rows.listsButRow.domain false) (Rows.listsButSpec.post enc Try.prog Try.f11 false true false false) := by
  refine returnsInHanded_of_change (C := Try.checked) listsBut_own started (by kernel_rfl) Try.func11
    (ChangeSpec.witness6 (enc := enc) (C := Try.checked) false ⟨#[], #[.slice none 0 0, .slice none 0 0, .int .i64 0], []⟩ 8 (by kernel_rfl) (by kernel_rfl) (by kernel_rfl) (by kernel_rfl)) ?_
  intro W base args ds gs before hval hW _ _
  exact law_contract (C := Try.checked) (s := Rows.listsButSpec) (tys := [.sl 1 (.i .i64), .sl 1 (.i .i64), .i .i64]) listsBut_laid (by kernel_rfl) (by kernel_rfl) (by kernel_rfl) rfl
    (fun ds h => match ds, h with | [_, _, _], _ => rfl) c_law16_ListsBut W base args ds gs before hval hW

theorem listsBut_holds : Rows.ListsButSaid :=
  OpenClaim.holds_of_wide 11 Try.f11 rfl rfl rfl rfl rfl rfl rfl ⟨rfl, rfl, rfl, rfl, rfl⟩ rfl rfl rfl rfl rfl (by kernel_rfl) Try.func11 (by kernel_rfl)
    (of_decide_eq_true (by kernel_rfl)) (by unfold Func.isWrapper; first | (rw [if_pos (by decide +kernel)]; kernel_rfl) | (rw [if_neg (by decide +kernel)]; exact ⟨rfl, rfl⟩))
    (fun os started H enc _ => listsBut_lifted os started H enc)
#print axioms listsBut_holds
end Go.Proofs.Ytbodcpinpomobaa
