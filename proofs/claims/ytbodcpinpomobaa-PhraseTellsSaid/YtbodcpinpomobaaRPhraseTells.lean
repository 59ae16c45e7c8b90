/- Contracts of functions of the given program, by the abstract walk, for law PhraseTells: what each one hands back; no condition but those that each theorem states. -/
import Derived.Test.YtbodcpinpomobaaRows
import Derived.Test.YtbodcpinpomobaaC4
namespace Go.Proofs.Ytbodcpinpomobaa
open Go.ChangeShapes Go.WideShapes Go.ChangeAt Go.RowKit Go.Aw

theorem phraseTells_own : ownKnob Try.prog.godebug = none := by kernel_rfl
theorem phraseTells_laid : laidOutB Try.prog = true := by kernel_rfl
set_option maxRecDepth 100000 in
theorem phraseTells_lifted (os : Os) (started : os.Started) (H : Type) (enc : TypeId × Value → H) :
    ReturnsInHanded {} Try.checked os 3 .any (Rows.phraseTellsSpec.pre6 enc Try.prog Try.f3 Rows.phraseTellsRow.domain false) (Rows.phraseTellsSpec.post enc Try.prog Try.f3 false true false false) := by
  refine returnsInHanded_of_change (C := Try.checked) phraseTells_own started (by kernel_rfl) Try.func3
    (ChangeSpec.witness6 (enc := enc) (C := Try.checked) false ⟨#[], #[.slice none 0 0], []⟩ 8 (by kernel_rfl) (by kernel_rfl) (by kernel_rfl) (by kernel_rfl)) ?_
  intro W base args ds gs before hval hW _ _
  exact law_contract (C := Try.checked) (s := Rows.phraseTellsSpec) (tys := [.sl 1 (.sl 2 (.fc (.i .i64) (.fc (.sl 1 (.i .i64)) .fn)))]) phraseTells_laid (by kernel_rfl) (by kernel_rfl) (by kernel_rfl) rfl
    (fun ds h => match ds, h with | [_], _ => rfl) c_law17_PhraseTells W base args ds gs before hval hW

theorem phraseTells_holds : Rows.PhraseTellsSaid :=
  OpenClaim.holds_of_wide 3 Try.f3 rfl rfl rfl rfl rfl rfl rfl ⟨rfl, rfl, rfl, rfl, rfl⟩ rfl rfl rfl rfl rfl (by kernel_rfl) Try.func3 (by kernel_rfl)
    (of_decide_eq_true (by kernel_rfl)) (by unfold Func.isWrapper; first | (rw [if_pos (by decide +kernel)]; kernel_rfl) | (rw [if_neg (by decide +kernel)]; exact ⟨rfl, rfl⟩))
    (fun os started H enc _ => phraseTells_lifted os started H enc)
#print axioms phraseTells_holds
end Go.Proofs.Ytbodcpinpomobaa
