/- Contracts of functions of the given program, by the abstract walk, for law PolicyEnds: what each one hands back; no condition but those that each theorem states. -/
import Derived.Test.YthpnnkoaomekfaaRows
import Derived.Test.YthpnnkoaomekfaaC10
namespace Go.Proofs.Ythpnnkoaomekfaa
open Go.ChangeShapes Go.WideShapes Go.ChangeAt Go.RowKit Go.Aw

theorem policyEnds_own : ownKnob Try.prog.godebug = none := by kernel_rfl
theorem policyEnds_laid : laidOutB Try.prog = true := by kernel_rfl
set_option maxRecDepth 100000 in
theorem policyEnds_lifted (os : Os) (started : os.Started) (H : Type) (enc : TypeId × Value → H) :
    ReturnsInHanded {} Try.checked os 6 .any (Rows.policyEndsSpec.pre6 enc Try.prog Try.f6 Rows.policyEndsRow.domain false) (Rows.policyEndsSpec.post enc Try.prog Try.f6 false true false false) := by
  refine returnsInHanded_of_change (C := Try.checked) policyEnds_own started (by kernel_rfl) Try.func6
    (ChangeSpec.witness6 (enc := enc) (C := Try.checked) false ⟨#[], #[.slice none 0 0, .agg #[.int .i64 0, .int .i64 0], .bool false], []⟩ 8 (by kernel_rfl) (by kernel_rfl) (by kernel_rfl) (by kernel_rfl)) ?_
  intro W base args ds gs before hval hW _ _
  exact law_contract (C := Try.checked) (s := Rows.policyEndsSpec) (tys := [.sl 4 (.fc (.i .i64) (.fc (.i .i64) (.fc (.i .i64) (.fc .b .fn)))), .fc (.i .i64) (.fc (.i .i64) .fn), .b]) policyEnds_laid (by kernel_rfl) (by kernel_rfl) (by kernel_rfl) rfl
    (fun ds h => match ds, h with | [_, _, _], _ => rfl) c_law12_PolicyEnds W base args ds gs before hval hW

theorem policyEnds_holds : Rows.PolicyEndsSaid :=
  OpenClaim.holds_of_wide 6 Try.f6 rfl rfl rfl rfl rfl rfl rfl ⟨rfl, rfl, rfl, rfl, rfl⟩ rfl rfl rfl rfl rfl (by kernel_rfl) Try.func6 (by kernel_rfl)
    (of_decide_eq_true (by kernel_rfl)) (by unfold Func.isWrapper; first | (rw [if_pos (by decide +kernel)]; kernel_rfl) | (rw [if_neg (by decide +kernel)]; exact ⟨rfl, rfl⟩))
    (fun os started H enc _ => policyEnds_lifted os started H enc)
#print axioms policyEnds_holds
end Go.Proofs.Ythpnnkoaomekfaa
