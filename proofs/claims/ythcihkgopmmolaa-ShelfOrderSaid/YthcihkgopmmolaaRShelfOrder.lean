/- Contracts of functions of the given program, by the abstract walk, for law ShelfOrder: what each one hands back; no condition but those that each theorem states. -/
import Derived.Test.YthcihkgopmmolaaRows
import Derived.Test.YthcihkgopmmolaaC18
namespace Go.Proofs.Ythcihkgopmmolaa
open Go.ChangeShapes Go.WideShapes Go.ChangeAt Go.RowKit Go.Aw

theorem shelfOrder_own : ownKnob Try.prog.godebug = none := by kernel_rfl
theorem shelfOrder_laid : laidOutB Try.prog = true := by kernel_rfl
set_option maxRecDepth 100000 in
theorem shelfOrder_lifted (os : Os) (started : os.Started) (H : Type) (enc : TypeId × Value → H) :
    ReturnsInHanded {} Try.checked os 6 .any (Rows.shelfOrderSpec.pre6 enc Try.prog Try.f6 Rows.shelfOrderRow.domain false) (Rows.shelfOrderSpec.post enc Try.prog Try.f6 false true false false) := by
  refine returnsInHanded_of_change (C := Try.checked) shelfOrder_own started (by kernel_rfl) Try.func6
    (ChangeSpec.witness6 (enc := enc) (C := Try.checked) false ⟨#[], #[.slice none 0 0, .agg #[.string ⟨#[]⟩, .int .i64 0, .slice none 0 0], .agg #[.string ⟨#[]⟩, .int .i64 0, .slice none 0 0]], []⟩ 8 (by kernel_rfl) (by kernel_rfl) (by kernel_rfl) (by kernel_rfl)) ?_
  intro W base args ds gs before hval hW _ _
  exact law_contract (C := Try.checked) (s := Rows.shelfOrderSpec) (tys := [.sl 3 (.fc .s (.fc (.i .i64) (.fc (.sl 1 .s) .fn))), .fc .s (.fc (.i .i64) (.fc (.sl 1 .s) .fn)), .fc .s (.fc (.i .i64) (.fc (.sl 1 .s) .fn))]) shelfOrder_laid (by kernel_rfl) (by kernel_rfl) (by kernel_rfl) rfl
    (fun ds h => match ds, h with | [_, _, _], _ => rfl) c_law13_ShelfOrder W base args ds gs before hval hW

theorem shelfOrder_holds : Rows.ShelfOrderSaid :=
  OpenClaim.holds_of_wide 6 Try.f6 rfl rfl rfl rfl rfl rfl rfl ⟨rfl, rfl, rfl, rfl, rfl⟩ rfl rfl rfl rfl rfl (by kernel_rfl) Try.func6 (by kernel_rfl)
    (of_decide_eq_true (by kernel_rfl)) (by unfold Func.isWrapper; first | (rw [if_pos (by decide +kernel)]; kernel_rfl) | (rw [if_neg (by decide +kernel)]; exact ⟨rfl, rfl⟩))
    (fun os started H enc _ => shelfOrder_lifted os started H enc)
#print axioms shelfOrder_holds
end Go.Proofs.Ythcihkgopmmolaa
