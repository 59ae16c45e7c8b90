/- Contracts of functions of the given program, by the abstract walk, for law MergeCardsUpto: what each one hands back; no condition but those that each theorem states. -/
import Derived.Test.YthcihkgopmmolaaGreatRows
import Derived.OpenShut
import Derived.JoinedCond
import Derived.Test.YthcihkgopmmolaaGreatC23
namespace Go.Proofs.YthcihkgopmmolaaGreat
open Go.ChangeShapes Go.WideShapes Go.ChangeAt Go.RowKit Go.Aw

theorem mergeCards_own : ownKnob Tryz.prog.godebug = none := by kernel_rfl
theorem mergeCards_laid : laidOutB Tryz.prog = true := by kernel_rfl
theorem mergeCards_meas {H : Type} : Meas (H := H) 1 Rows.uptoBulk where
  b := fun _ => by simp [Rows.uptoBulk]
  i := fun _ _ => by simp [Rows.uptoBulk]
  str := fun _ => by simp [Rows.uptoBulk]
  nil := by simp [Rows.uptoBulk]
  sl := fun e r => by
    have h : ∀ l : List (DataW H), (l.map Rows.uptoBulk).sum = Rows.uptoBulkAll l := fun l => by
      induction l with
      | nil => simp [Rows.uptoBulkAll]
      | cons x r ih => simp [Rows.uptoBulkAll, ih]
    rw [h]; simp only [Rows.uptoBulk]; omega
  ag := fun l => by
    have h : ∀ l : List (DataW H), (l.map Rows.uptoBulk).sum = Rows.uptoBulkAll l := fun l => by
      induction l with
      | nil => simp [Rows.uptoBulkAll]
      | cons x r ih => simp [Rows.uptoBulkAll, ih]
    rw [h]; simp only [Rows.uptoBulk]; omega
set_option maxRecDepth 100000 in
theorem mergeCards_lifted (os : Os) (started : os.Started) (H : Type) (enc : TypeId × Value → H) (F : Stop.Interp) :
    ReturnsInHanded {} Tryz.checked os 4 .any ((Rows.OpenSpec.upto Rows.mergeCardsSpec).pre6 enc Tryz.prog Tryz.f4 Rows.mergeCardsUptoRow.domain false) (((Rows.OpenSpec.upto Rows.mergeCardsSpec).at F).post enc Tryz.prog Tryz.f4 false true false false) := by
  refine returnsInHanded_of_cond (C := Tryz.checked) (s := Rows.OpenSpec.upto Rows.mergeCardsSpec) (k := Rows.uptoSmall) rfl mergeCards_own started (by kernel_rfl) Tryz.func4
    (OpenSpec.witness (enc := enc) (C := Tryz.checked) (s := Rows.OpenSpec.upto Rows.mergeCardsSpec) (k := Rows.uptoSmall) rfl false ⟨#[], #[.slice none 0 0, .slice none 0 0, .bool false, .int .i64 0, .int .i64 0], []⟩ 8 (by kernel_rfl) (by kernel_rfl) (by kernel_rfl)
      (x := ([.nil, .nil, .lit (.bool false), .lit (.int .i64 0), .lit (.int .i64 0)], [], [])) (by kernel_rfl) rfl (by kernel_rfl)) ?_
  intro W base args ds gs before hval hW _ hk _
  exact law_contractU (C := Tryz.checked) (s := Rows.mergeCardsSpec) (tys := [.sl 5 (.fc (.sl 1 .s) (.fc (.sl 1 (.i .i64)) (.fc (.sl 1 (.i .i64)) (.fc (.sl 2 (.fc .s (.fc (.sl 2 (.fc (.i .i64) (.fc (.sl 1 (.i .i64)) .fn))) .fn))) (.fc .b .fn))))), .sl 1 (.sl 1 .b), .b, .i .i64, .i .i64]) (BA := Rows.uptoBulkAll) (N := 1048576) mergeCards_laid (by kernel_rfl) (by kernel_rfl) (by kernel_rfl) rfl
    (fun ds h => match ds, h with | [_, _, _, _, _], _ => rfl) mergeCards_meas (by simp [Rows.uptoBulkAll]) (fun x r => by simp [Rows.uptoBulkAll]) (fun _ => rfl) c_law11_MergeCards_upto W base args ds gs before hval hW hk

theorem mergeCards_holds : Rows.MergeCardsUptoSaid :=
  OpenClaim.holds_of_cond 4 Tryz.f4 rfl rfl rfl rfl rfl rfl rfl ⟨rfl, rfl, rfl, rfl, rfl⟩ rfl rfl rfl rfl rfl (by kernel_rfl) Tryz.func4 (by kernel_rfl)
    (of_decide_eq_true (by kernel_rfl)) (by unfold Func.isWrapper; first | (rw [if_pos (by decide +kernel)]; kernel_rfl) | (rw [if_neg (by decide +kernel)]; exact ⟨rfl, rfl⟩))
    (fun os started H enc _ F => mergeCards_lifted os started H enc F)
#print axioms mergeCards_holds
end Go.Proofs.YthcihkgopmmolaaGreat
