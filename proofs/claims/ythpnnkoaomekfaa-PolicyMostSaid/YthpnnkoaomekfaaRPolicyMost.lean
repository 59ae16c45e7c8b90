/- Contracts of functions of the given program, by the abstract walk, for law PolicyMost: what each one hands back; no condition but those that each theorem states. -/
import Derived.Test.YthpnnkoaomekfaaRows
import Derived.Test.YthpnnkoaomekfaaC9
namespace Go.Proofs.Ythpnnkoaomekfaa
open Go.ChangeShapes Go.WideShapes Go.ChangeAt Go.RowKit Go.Aw

theorem policyMost_own : ownKnob Try.prog.godebug = none := by kernel_rfl
theorem policyMost_laid : laidOutB Try.prog = true := by kernel_rfl
set_option maxRecDepth 100000 in
theorem policyMost_lifted (os : Os) (started : os.Started) (H : Type) (enc : TypeId × Value → H) :
    ReturnsInHanded {} Try.checked os 5 .any (Rows.policyMostSpec.pre6 enc Try.prog Try.f5 Rows.policyMostRow.domain false) (Rows.policyMostSpec.post enc Try.prog Try.f5 false true false false) := by
  refine returnsInHanded_of_change (C := Try.checked) policyMost_own started (by kernel_rfl) Try.func5
    (ChangeSpec.witness6 (enc := enc) (C := Try.checked) false ⟨#[], #[.slice none 0 0, .agg #[.int .i64 0, .int .i64 0]], []⟩ 8 (by kernel_rfl) (by kernel_rfl) (by kernel_rfl) (by kernel_rfl)) ?_
  intro W base args ds gs before hval hW _ _
  exact law_contract (C := Try.checked) (s := Rows.policyMostSpec) (tys := [.sl 4 (.fc (.i .i64) (.fc (.i .i64) (.fc (.i .i64) (.fc .b .fn)))), .fc (.i .i64) (.fc (.i .i64) .fn)]) policyMost_laid (by kernel_rfl) (by kernel_rfl) (by kernel_rfl) rfl
    (fun ds h => match ds, h with | [_, _], _ => rfl) c_law12_PolicyMost W base args ds gs before hval hW

theorem policyMost_holds : Rows.PolicyMostSaid :=
  OpenClaim.holds_of_wide 5 Try.f5 rfl rfl rfl rfl rfl rfl rfl ⟨rfl, rfl, rfl, rfl, rfl⟩ rfl rfl rfl rfl rfl (by kernel_rfl) Try.func5 (by kernel_rfl)
    (of_decide_eq_true (by kernel_rfl)) (by unfold Func.isWrapper; first | (rw [if_pos (by decide +kernel)]; kernel_rfl) | (rw [if_neg (by decide +kernel)]; exact ⟨rfl, rfl⟩))
    (fun os started H enc _ => policyMost_lifted os started H enc)
#print axioms policyMost_holds
end Go.Proofs.Ythpnnkoaomekfaa
