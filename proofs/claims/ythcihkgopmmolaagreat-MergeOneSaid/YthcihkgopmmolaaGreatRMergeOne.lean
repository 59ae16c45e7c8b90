/- Contracts of functions of the given program, by the abstract walk, for law MergeOne: what each one hands back; no condition but those that each theorem states. -/
import Derived.Test.YthcihkgopmmolaaGreatRows
import Derived.Test.YthcihkgopmmolaaGreatC23
namespace Go.Proofs.YthcihkgopmmolaaGreat
open Go.ChangeShapes Go.WideShapes Go.ChangeAt Go.RowKit Go.Aw

theorem mergeOne_own : ownKnob Tryz.prog.godebug = none := by kernel_rfl
theorem mergeOne_laid : laidOutB Tryz.prog = true := by kernel_rfl
set_option maxRecDepth 100000 in
theorem mergeOne_lifted (os : Os) (started : os.Started) (H : Type) (enc : TypeId × Value → H) :
    ReturnsInHanded {} Tryz.checked os 7 .any (Rows.mergeOneSpec.pre6 enc Tryz.prog Tryz.f7 Rows.mergeOneRow.domain false) (Rows.mergeOneSpec.post enc Tryz.prog Tryz.f7 false true false false) := by
  refine returnsInHanded_of_change (C := Tryz.checked) mergeOne_own started (by kernel_rfl) Tryz.func7
    (ChangeSpec.witness6 (enc := enc) (C := Tryz.checked) false ⟨#[], #[.agg #[.slice none 0 0, .slice none 0 0, .slice none 0 0, .slice none 0 0, .bool false]], []⟩ 8 (by kernel_rfl) (by kernel_rfl) (by kernel_rfl) (by kernel_rfl)) ?_
  intro W base args ds gs before hval hW _ _
  exact law_contract (C := Tryz.checked) (s := Rows.mergeOneSpec) (tys := [.fc (.sl 1 .s) (.fc (.sl 1 (.i .i64)) (.fc (.sl 1 (.i .i64)) (.fc (.sl 2 (.fc .s (.fc (.sl 2 (.fc (.i .i64) (.fc (.sl 1 (.i .i64)) .fn))) .fn))) (.fc .b .fn))))]) mergeOne_laid (by kernel_rfl) (by kernel_rfl) (by kernel_rfl) rfl
    (fun ds h => match ds, h with | [_], _ => rfl) c_law11_MergeOne W base args ds gs before hval hW

theorem mergeOne_holds : Rows.MergeOneSaid :=
  OpenClaim.holds_of_wide 7 Tryz.f7 rfl rfl rfl rfl rfl rfl rfl ⟨rfl, rfl, rfl, rfl, rfl⟩ rfl rfl rfl rfl rfl (by kernel_rfl) Tryz.func7 (by kernel_rfl)
    (of_decide_eq_true (by kernel_rfl)) (by unfold Func.isWrapper; first | (rw [if_pos (by decide +kernel)]; kernel_rfl) | (rw [if_neg (by decide +kernel)]; exact ⟨rfl, rfl⟩))
    (fun os started H enc _ => mergeOne_lifted os started H enc)
#print axioms mergeOne_holds
end Go.Proofs.YthcihkgopmmolaaGreat
