/- Contracts of functions of the given program, by the abstract walk, for law PhraseWordsUpto: what each one hands back; no condition but those that each theorem states. -/
import Derived.Test.YthpnnkoaomekfaaRows
import Derived.OpenShut
import Derived.JoinedCond
import Derived.Test.YthpnnkoaomekfaaC16
namespace Go.Proofs.Ythpnnkoaomekfaa
open Go.ChangeShapes Go.WideShapes Go.ChangeAt Go.RowKit Go.Aw

theorem phraseWords_own : ownKnob Try.prog.godebug = none := by kernel_rfl
theorem phraseWords_laid : laidOutB Try.prog = true := by kernel_rfl
theorem phraseWords_meas {H : Type} : Meas (H := H) 1 Rows.uptoBulk where
  b := fun _ => by simp [Rows.uptoBulk]
  i := fun _ _ => by simp [Rows.uptoBulk]
  str := fun _ => by simp [Rows.uptoBulk]
  nil := by simp [Rows.uptoBulk]
  sl := fun e r => by
    have h : ∀ l : List (DataW H), (l.map Rows.uptoBulk).sum = Rows.uptoBulkAll l := fun l => by
      induction l with
      | nil => simp [Rows.uptoBulkAll]
      | cons x r ih => simp [Rows.uptoBulkAll, ih]
    rw [h]; simp only [Rows.uptoBulk]; omega
  ag := fun l => by
    have h : ∀ l : List (DataW H), (l.map Rows.uptoBulk).sum = Rows.uptoBulkAll l := fun l => by
      induction l with
      | nil => simp [Rows.uptoBulkAll]
      | cons x r ih => simp [Rows.uptoBulkAll, ih]
    rw [h]; simp only [Rows.uptoBulk]; omega
set_option maxRecDepth 100000 in
theorem phraseWords_lifted (os : Os) (started : os.Started) (H : Type) (enc : TypeId × Value → H) (F : Stop.Interp) :
    ReturnsInHanded {} Try.checked os 13 .any ((Rows.OpenSpec.upto Rows.phraseWordsSpec).pre6 enc Try.prog Try.f13 Rows.phraseWordsUptoRow.domain false) (((Rows.OpenSpec.upto Rows.phraseWordsSpec).at F).post enc Try.prog Try.f13 false true false false) := by
  refine returnsInHanded_of_cond (C := Try.checked) (s := Rows.OpenSpec.upto Rows.phraseWordsSpec) (k := Rows.uptoSmall) rfl phraseWords_own started (by kernel_rfl) Try.func13
    (OpenSpec.witness (enc := enc) (C := Try.checked) (s := Rows.OpenSpec.upto Rows.phraseWordsSpec) (k := Rows.uptoSmall) rfl false ⟨#[], #[.slice none 0 0, .slice none 0 0, .int .i64 0, .int .i64 0], []⟩ 8 (by kernel_rfl) (by kernel_rfl) (by kernel_rfl)
      (x := ([.nil, .nil, .lit (.int .i64 0), .lit (.int .i64 0)], [], [])) (by kernel_rfl) rfl (by kernel_rfl)) ?_
  intro W base args ds gs before hval hW _ hk _
  exact law_contractU (C := Try.checked) (s := Rows.phraseWordsSpec) (tys := [.sl 3 (.fc .s (.fc (.i .i64) (.fc (.sl 1 .s) .fn))), .sl 1 .s, .i .i64, .i .i64]) (BA := Rows.uptoBulkAll) (N := 1048576) phraseWords_laid (by kernel_rfl) (by kernel_rfl) (by kernel_rfl) rfl
    (fun ds h => match ds, h with | [_, _, _, _], _ => rfl) phraseWords_meas (by simp [Rows.uptoBulkAll]) (fun x r => by simp [Rows.uptoBulkAll]) (fun _ => rfl) c_law17_PhraseWords_upto W base args ds gs before hval hW hk

theorem phraseWords_holds : Rows.PhraseWordsUptoSaid :=
  OpenClaim.holds_of_cond 13 Try.f13 rfl rfl rfl rfl rfl rfl rfl ⟨rfl, rfl, rfl, rfl, rfl⟩ rfl rfl rfl rfl rfl (by kernel_rfl) Try.func13 (by kernel_rfl)
    (of_decide_eq_true (by kernel_rfl)) (by unfold Func.isWrapper; first | (rw [if_pos (by decide +kernel)]; kernel_rfl) | (rw [if_neg (by decide +kernel)]; exact ⟨rfl, rfl⟩))
    (fun os started H enc _ F => phraseWords_lifted os started H enc F)
#print axioms phraseWords_holds
end Go.Proofs.Ythpnnkoaomekfaa
