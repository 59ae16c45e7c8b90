/- Contracts of functions of the given program, by the abstract walk, for law SegBuilds: what each one hands back; no condition but those that each theorem states. -/
import Derived.Test.YthpnnkoaomekfaaRows
import Derived.Test.YthpnnkoaomekfaaC16
namespace Go.Proofs.Ythpnnkoaomekfaa
open Go.ChangeShapes Go.WideShapes Go.ChangeAt Go.RowKit Go.Aw

theorem segBuilds_own : ownKnob Try.prog.godebug = none := by kernel_rfl
theorem segBuilds_laid : laidOutB Try.prog = true := by kernel_rfl
set_option maxRecDepth 100000 in
theorem segBuilds_lifted (os : Os) (started : os.Started) (H : Type) (enc : TypeId × Value → H) :
    ReturnsInHanded {} Try.checked os 9 .any (Rows.segBuildsSpec.pre6 enc Try.prog Try.f9 Rows.segBuildsRow.domain false) (Rows.segBuildsSpec.post enc Try.prog Try.f9 false true false false) := by
  refine returnsInHanded_of_change (C := Try.checked) segBuilds_own started (by kernel_rfl) Try.func9
    (ChangeSpec.witness6 (enc := enc) (C := Try.checked) false ⟨#[], #[.slice none 0 0, .bool false, .agg #[.string ⟨#[]⟩, .int .i64 0, .slice none 0 0], .agg #[.string ⟨#[]⟩, .int .i64 0, .slice none 0 0]], []⟩ 8 (by kernel_rfl) (by kernel_rfl) (by kernel_rfl) (by kernel_rfl)) ?_
  intro W base args ds gs before hval hW _ _
  exact law_contract (C := Try.checked) (s := Rows.segBuildsSpec) (tys := [.sl 3 (.fc .s (.fc (.i .i64) (.fc (.sl 1 .s) .fn))), .b, .fc .s (.fc (.i .i64) (.fc (.sl 1 .s) .fn)), .fc .s (.fc (.i .i64) (.fc (.sl 1 .s) .fn))]) segBuilds_laid (by kernel_rfl) (by kernel_rfl) (by kernel_rfl) rfl
    (fun ds h => match ds, h with | [_, _, _, _], _ => rfl) c_law08_SegBuilds W base args ds gs before hval hW

theorem segBuilds_holds : Rows.SegBuildsSaid :=
  OpenClaim.holds_of_wide 9 Try.f9 rfl rfl rfl rfl rfl rfl rfl ⟨rfl, rfl, rfl, rfl, rfl⟩ rfl rfl rfl rfl rfl (by kernel_rfl) Try.func9 (by kernel_rfl)
    (of_decide_eq_true (by kernel_rfl)) (by unfold Func.isWrapper; first | (rw [if_pos (by decide +kernel)]; kernel_rfl) | (rw [if_neg (by decide +kernel)]; exact ⟨rfl, rfl⟩))
    (fun os started H enc _ => segBuilds_lifted os started H enc)
#print axioms segBuilds_holds
end Go.Proofs.Ythpnnkoaomekfaa
