/- Contracts of functions of the given program, by the abstract walk, for law PolicyForce: what each one hands back; no condition but those that each theorem states. -/
import Derived.Test.YthpnnkoaomekfaaRows
import Derived.Test.YthpnnkoaomekfaaC10
namespace Go.Proofs.Ythpnnkoaomekfaa
open Go.ChangeShapes Go.WideShapes Go.ChangeAt Go.RowKit Go.Aw

theorem policyForce_own : ownKnob Try.prog.godebug = none := by kernel_rfl
theorem policyForce_laid : laidOutB Try.prog = true := by kernel_rfl
set_option maxRecDepth 100000 in
theorem policyForce_lifted (os : Os) (started : os.Started) (H : Type) (enc : TypeId × Value → H) :
    ReturnsInHanded {} Try.checked os 7 .any (Rows.policyForceSpec.pre6 enc Try.prog Try.f7 Rows.policyForceRow.domain false) (Rows.policyForceSpec.post enc Try.prog Try.f7 false true false false) := by
  refine returnsInHanded_of_change (C := Try.checked) policyForce_own started (by kernel_rfl) Try.func7
    (ChangeSpec.witness6 (enc := enc) (C := Try.checked) false ⟨#[], #[.slice none 0 0, .int .i64 0], []⟩ 8 (by kernel_rfl) (by kernel_rfl) (by kernel_rfl) (by kernel_rfl)) ?_
  intro W base args ds gs before hval hW _ _
  exact law_contract (C := Try.checked) (s := Rows.policyForceSpec) (tys := [.sl 4 (.fc (.i .i64) (.fc (.i .i64) (.fc (.i .i64) (.fc .b .fn)))), .i .i64]) policyForce_laid (by kernel_rfl) (by kernel_rfl) (by kernel_rfl) rfl
    (fun ds h => match ds, h with | [_, _], _ => rfl) c_law12_PolicyForce W base args ds gs before hval hW

theorem policyForce_holds : Rows.PolicyForceSaid :=
  OpenClaim.holds_of_wide 7 Try.f7 rfl rfl rfl rfl rfl rfl rfl ⟨rfl, rfl, rfl, rfl, rfl⟩ rfl rfl rfl rfl rfl (by kernel_rfl) Try.func7 (by kernel_rfl)
    (of_decide_eq_true (by kernel_rfl)) (by unfold Func.isWrapper; first | (rw [if_pos (by decide +kernel)]; kernel_rfl) | (rw [if_neg (by decide +kernel)]; exact ⟨rfl, rfl⟩))
    (fun os started H enc _ => policyForce_lifted os started H enc)
#print axioms policyForce_holds
end Go.Proofs.Ythpnnkoaomekfaa
