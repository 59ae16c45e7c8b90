/- Contracts of functions of the given program, by the abstract walk, for law SegOrder: what each one hands back; no condition but those that each theorem states. -/
import Derived.Test.YthpnnkoaomekfaaRows
import Derived.Test.YthpnnkoaomekfaaC16
namespace Go.Proofs.Ythpnnkoaomekfaa
open Go.ChangeShapes Go.WideShapes Go.ChangeAt Go.RowKit Go.Aw

theorem segOrder_own : ownKnob Try.prog.godebug = none := by kernel_rfl
theorem segOrder_laid : laidOutB Try.prog = true := by kernel_rfl
set_option maxRecDepth 100000 in
theorem segOrder_lifted (os : Os) (started : os.Started) (H : Type) (enc : TypeId × Value → H) :
    ReturnsInHanded {} Try.checked os 12 .any (Rows.segOrderSpec.pre6 enc Try.prog Try.f12 Rows.segOrderRow.domain false) (Rows.segOrderSpec.post enc Try.prog Try.f12 false true false false) := by
  refine returnsInHanded_of_change (C := Try.checked) segOrder_own started (by kernel_rfl) Try.func12
    (ChangeSpec.witness6 (enc := enc) (C := Try.checked) false ⟨#[], #[.agg #[.string ⟨#[]⟩, .int .i64 0, .slice none 0 0], .agg #[.string ⟨#[]⟩, .int .i64 0, .slice none 0 0], .agg #[.string ⟨#[]⟩, .int .i64 0, .slice none 0 0]], []⟩ 8 (by kernel_rfl) (by kernel_rfl) (by kernel_rfl) (by kernel_rfl)) ?_
  intro W base args ds gs before hval hW _ _
  exact law_contract (C := Try.checked) (s := Rows.segOrderSpec) (tys := [.fc .s (.fc (.i .i64) (.fc (.sl 1 .s) .fn)), .fc .s (.fc (.i .i64) (.fc (.sl 1 .s) .fn)), .fc .s (.fc (.i .i64) (.fc (.sl 1 .s) .fn))]) segOrder_laid (by kernel_rfl) (by kernel_rfl) (by kernel_rfl) rfl
    (fun ds h => match ds, h with | [_, _, _], _ => rfl) c_law08_SegOrder W base args ds gs before hval hW

theorem segOrder_holds : Rows.SegOrderSaid :=
  OpenClaim.holds_of_wide 12 Try.f12 rfl rfl rfl rfl rfl rfl rfl ⟨rfl, rfl, rfl, rfl, rfl⟩ rfl rfl rfl rfl rfl (by kernel_rfl) Try.func12 (by kernel_rfl)
    (of_decide_eq_true (by kernel_rfl)) (by unfold Func.isWrapper; first | (rw [if_pos (by decide +kernel)]; kernel_rfl) | (rw [if_neg (by decide +kernel)]; exact ⟨rfl, rfl⟩))
    (fun os started H enc _ => segOrder_lifted os started H enc)
#print axioms segOrder_holds
end Go.Proofs.Ythpnnkoaomekfaa
