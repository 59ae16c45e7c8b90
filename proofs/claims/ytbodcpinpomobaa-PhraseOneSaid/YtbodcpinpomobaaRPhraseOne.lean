/- Contracts of functions of the given program, by the abstract walk, for law PhraseOne: what each one hands back; no condition but those that each theorem states. -/
import Derived.Test.YtbodcpinpomobaaRows
import Derived.Test.YtbodcpinpomobaaC5
namespace Go.Proofs.Ytbodcpinpomobaa
open Go.ChangeShapes Go.WideShapes Go.ChangeAt Go.RowKit Go.Aw

theorem phraseOne_own : ownKnob Try.prog.godebug = none := by kernel_rfl
theorem phraseOne_laid : laidOutB Try.prog = true := by kernel_rfl
set_option maxRecDepth 100000 in
theorem phraseOne_lifted (os : Os) (started : os.Started) (H : Type) (enc : TypeId × Value → H) :
    ReturnsInHanded {} Try.checked os 5 .any (Rows.phraseOneSpec.pre6 enc Try.prog Try.f5 Rows.phraseOneRow.domain false) (Rows.phraseOneSpec.post enc Try.prog Try.f5 false true false false) := by
  refine returnsInHanded_of_change (C := Try.checked) phraseOne_own started (by kernel_rfl) Try.func5
    (ChangeSpec.witness6 (enc := enc) (C := Try.checked) false ⟨#[], #[.slice none 0 0, .int .i64 0, .int .i64 0], []⟩ 8 (by kernel_rfl) (by kernel_rfl) (by kernel_rfl) (by kernel_rfl)) ?_
  intro W base args ds gs before hval hW _ _
  exact law_contract (C := Try.checked) (s := Rows.phraseOneSpec) (tys := [.sl 2 (.fc (.i .i64) (.fc (.sl 1 (.i .i64)) .fn)), .i .i64, .i .i64]) phraseOne_laid (by kernel_rfl) (by kernel_rfl) (by kernel_rfl) rfl
    (fun ds h => match ds, h with | [_, _, _], _ => rfl) c_law17_PhraseOne W base args ds gs before hval hW

theorem phraseOne_holds : Rows.PhraseOneSaid :=
  OpenClaim.holds_of_wide 5 Try.f5 rfl rfl rfl rfl rfl rfl rfl ⟨rfl, rfl, rfl, rfl, rfl⟩ rfl rfl rfl rfl rfl (by kernel_rfl) Try.func5 (by kernel_rfl)
    (of_decide_eq_true (by kernel_rfl)) (by unfold Func.isWrapper; first | (rw [if_pos (by decide +kernel)]; kernel_rfl) | (rw [if_neg (by decide +kernel)]; exact ⟨rfl, rfl⟩))
    (fun os started H enc _ => phraseOne_lifted os started H enc)
#print axioms phraseOne_holds
end Go.Proofs.Ytbodcpinpomobaa
