/- Contracts of functions of the given program, by the abstract walk, for law ShelfStays: what each one hands back; no condition but those that each theorem states. -/
import Derived.Test.YthcihkgopmmolaaRows
import Derived.Test.YthcihkgopmmolaaC18
namespace Go.Proofs.Ythcihkgopmmolaa
open Go.ChangeShapes Go.WideShapes Go.ChangeAt Go.RowKit Go.Aw

theorem shelfStays_own : ownKnob Try.prog.godebug = none := by kernel_rfl
theorem shelfStays_laid : laidOutB Try.prog = true := by kernel_rfl
set_option maxRecDepth 100000 in
theorem shelfStays_lifted (os : Os) (started : os.Started) (H : Type) (enc : TypeId × Value → H) :
    ReturnsInHanded {} Try.checked os 8 .any (Rows.shelfStaysSpec.pre6 enc Try.prog Try.f8 Rows.shelfStaysRow.domain false) (Rows.shelfStaysSpec.post enc Try.prog Try.f8 false true false false) := by
  refine returnsInHanded_of_change (C := Try.checked) shelfStays_own started (by kernel_rfl) Try.func8
    (ChangeSpec.witness6 (enc := enc) (C := Try.checked) false ⟨#[], #[.slice none 0 0, .agg #[.string ⟨#[]⟩, .int .i64 0, .slice none 0 0], .string ⟨#[]⟩], []⟩ 8 (by kernel_rfl) (by kernel_rfl) (by kernel_rfl) (by kernel_rfl)) ?_
  intro W base args ds gs before hval hW _ _
  exact law_contract (C := Try.checked) (s := Rows.shelfStaysSpec) (tys := [.sl 3 (.fc .s (.fc (.i .i64) (.fc (.sl 1 .s) .fn))), .fc .s (.fc (.i .i64) (.fc (.sl 1 .s) .fn)), .s]) shelfStays_laid (by kernel_rfl) (by kernel_rfl) (by kernel_rfl) rfl
    (fun ds h => match ds, h with | [_, _, _], _ => rfl) c_law13_ShelfStays W base args ds gs before hval hW

theorem shelfStays_holds : Rows.ShelfStaysSaid :=
  OpenClaim.holds_of_wide 8 Try.f8 rfl rfl rfl rfl rfl rfl rfl ⟨rfl, rfl, rfl, rfl, rfl⟩ rfl rfl rfl rfl rfl (by kernel_rfl) Try.func8 (by kernel_rfl)
    (of_decide_eq_true (by kernel_rfl)) (by unfold Func.isWrapper; first | (rw [if_pos (by decide +kernel)]; kernel_rfl) | (rw [if_neg (by decide +kernel)]; exact ⟨rfl, rfl⟩))
    (fun os started H enc _ => shelfStays_lifted os started H enc)
#print axioms shelfStays_holds
end Go.Proofs.Ythcihkgopmmolaa
