/- Contracts of functions of the given program, by the abstract walk, for law MergeTwice: what each one hands back; no condition but those that each theorem states. -/
import Derived.Test.YthcihkgopmmolaaGreatRows
import Derived.Test.YthcihkgopmmolaaGreatC23
namespace Go.Proofs.YthcihkgopmmolaaGreat
open Go.ChangeShapes Go.WideShapes Go.ChangeAt Go.RowKit Go.Aw

theorem mergeTwice_own : ownKnob Tryz.prog.godebug = none := by kernel_rfl
theorem mergeTwice_laid : laidOutB Tryz.prog = true := by kernel_rfl
set_option maxRecDepth 100000 in
theorem mergeTwice_lifted (os : Os) (started : os.Started) (H : Type) (enc : TypeId × Value → H) :
    ReturnsInHanded {} Tryz.checked os 6 .any (Rows.mergeTwiceSpec.pre6 enc Tryz.prog Tryz.f6 Rows.mergeTwiceRow.domain false) (Rows.mergeTwiceSpec.post enc Tryz.prog Tryz.f6 false true false false) := by
  refine returnsInHanded_of_change (C := Tryz.checked) mergeTwice_own started (by kernel_rfl) Tryz.func6
    (ChangeSpec.witness6 (enc := enc) (C := Tryz.checked) false ⟨#[], #[.slice none 0 0, .slice none 0 0, .bool false, .int .i64 0], []⟩ 8 (by kernel_rfl) (by kernel_rfl) (by kernel_rfl) (by kernel_rfl)) ?_
  intro W base args ds gs before hval hW _ _
  exact law_contract (C := Tryz.checked) (s := Rows.mergeTwiceSpec) (tys := [.sl 5 (.fc (.sl 1 .s) (.fc (.sl 1 (.i .i64)) (.fc (.sl 1 (.i .i64)) (.fc (.sl 2 (.fc .s (.fc (.sl 2 (.fc (.i .i64) (.fc (.sl 1 (.i .i64)) .fn))) .fn))) (.fc .b .fn))))), .sl 1 (.sl 1 .b), .b, .i .i64]) mergeTwice_laid (by kernel_rfl) (by kernel_rfl) (by kernel_rfl) rfl
    (fun ds h => match ds, h with | [_, _, _, _], _ => rfl) c_law11_MergeTwice W base args ds gs before hval hW

theorem mergeTwice_holds : Rows.MergeTwiceSaid :=
  OpenClaim.holds_of_wide 6 Tryz.f6 rfl rfl rfl rfl rfl rfl rfl ⟨rfl, rfl, rfl, rfl, rfl⟩ rfl rfl rfl rfl rfl (by kernel_rfl) Tryz.func6 (by kernel_rfl)
    (of_decide_eq_true (by kernel_rfl)) (by unfold Func.isWrapper; first | (rw [if_pos (by decide +kernel)]; kernel_rfl) | (rw [if_neg (by decide +kernel)]; exact ⟨rfl, rfl⟩))
    (fun os started H enc _ => mergeTwice_lifted os started H enc)
#print axioms mergeTwice_holds
end Go.Proofs.YthcihkgopmmolaaGreat
