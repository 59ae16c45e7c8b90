/- Contracts of functions of the given program, by the abstract walk, for law ShelfKeys: what each one hands back; no condition but those that each theorem states. -/
import Derived.Test.YthcihkgopmmolaaRows
import Derived.Test.YthcihkgopmmolaaC18
namespace Go.Proofs.Ythcihkgopmmolaa
open Go.ChangeShapes Go.WideShapes Go.ChangeAt Go.RowKit Go.Aw

theorem shelfKeys_own : ownKnob Try.prog.godebug = none := by kernel_rfl
theorem shelfKeys_laid : laidOutB Try.prog = true := by kernel_rfl
set_option maxRecDepth 100000 in
theorem shelfKeys_lifted (os : Os) (started : os.Started) (H : Type) (enc : TypeId × Value → H) :
    ReturnsInHanded {} Try.checked os 7 .any (Rows.shelfKeysSpec.pre6 enc Try.prog Try.f7 Rows.shelfKeysRow.domain false) (Rows.shelfKeysSpec.post enc Try.prog Try.f7 false true false false) := by
  refine returnsInHanded_of_change (C := Try.checked) shelfKeys_own started (by kernel_rfl) Try.func7
    (ChangeSpec.witness6 (enc := enc) (C := Try.checked) false ⟨#[], #[.slice none 0 0], []⟩ 8 (by kernel_rfl) (by kernel_rfl) (by kernel_rfl) (by kernel_rfl)) ?_
  intro W base args ds gs before hval hW _ _
  exact law_contract (C := Try.checked) (s := Rows.shelfKeysSpec) (tys := [.sl 3 (.fc .s (.fc (.i .i64) (.fc (.sl 1 .s) .fn)))]) shelfKeys_laid (by kernel_rfl) (by kernel_rfl) (by kernel_rfl) rfl
    (fun ds h => match ds, h with | [_], _ => rfl) c_law13_ShelfKeys W base args ds gs before hval hW

theorem shelfKeys_holds : Rows.ShelfKeysSaid :=
  OpenClaim.holds_of_wide 7 Try.f7 rfl rfl rfl rfl rfl rfl rfl ⟨rfl, rfl, rfl, rfl, rfl⟩ rfl rfl rfl rfl rfl (by kernel_rfl) Try.func7 (by kernel_rfl)
    (of_decide_eq_true (by kernel_rfl)) (by unfold Func.isWrapper; first | (rw [if_pos (by decide +kernel)]; kernel_rfl) | (rw [if_neg (by decide +kernel)]; exact ⟨rfl, rfl⟩))
    (fun os started H enc _ => shelfKeys_lifted os started H enc)
#print axioms shelfKeys_holds
end Go.Proofs.Ythcihkgopmmolaa
