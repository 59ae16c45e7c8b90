/- Contracts of functions of the given program, by the abstract walk, for law MergeTablesUpto: what each one hands back; no condition but those that each theorem states. -/
import Derived.Test.YthcihkgopmmolaaGreatRows
import Derived.OpenShut
import Derived.JoinedCond
import Derived.Test.YthcihkgopmmolaaGreatC23
namespace Go.Proofs.YthcihkgopmmolaaGreat
open Go.ChangeShapes Go.WideShapes Go.ChangeAt Go.RowKit Go.Aw

theorem mergeTables_own : ownKnob Tryz.prog.godebug = none := by kernel_rfl
theorem mergeTables_laid : laidOutB Tryz.prog = true := by kernel_rfl
theorem mergeTables_meas {H : Type} : Meas (H := H) 1 Rows.uptoBulk where
  b := fun _ => by simp [Rows.uptoBulk]
  i := fun _ _ => by simp [Rows.uptoBulk]
  str := fun _ => by simp [Rows.uptoBulk]
  nil := by simp [Rows.uptoBulk]
  sl := fun e r => by
    have h : ∀ l : List (DataW H), (l.map Rows.uptoBulk).sum = Rows.uptoBulkAll l := fun l => by
      induction l with
      | nil => simp [Rows.uptoBulkAll]
      | cons x r ih => simp [Rows.uptoBulkAll, ih]
    rw [h]; simp only [Rows.uptoBulk]; omega
  ag := fun l => by
    have h : ∀ l : List (DataW H), (l.map Rows.uptoBulk).sum = Rows.uptoBulkAll l := fun l => by
      induction l with
      | nil => simp [Rows.uptoBulkAll]
      | cons x r ih => simp [Rows.uptoBulkAll, ih]
    rw [h]; simp only [Rows.uptoBulk]; omega
set_option maxRecDepth 100000 in
theorem mergeTables_lifted (os : Os) (started : os.Started) (H : Type) (enc : TypeId × Value → H) (F : Stop.Interp) :
    ReturnsInHanded {} Tryz.checked os 3 .any ((Rows.OpenSpec.upto Rows.mergeTablesSpec).pre6 enc Tryz.prog Tryz.f3 Rows.mergeTablesUptoRow.domain false) (((Rows.OpenSpec.upto Rows.mergeTablesSpec).at F).post enc Tryz.prog Tryz.f3 false true false false) := by
  refine returnsInHanded_of_cond (C := Tryz.checked) (s := Rows.OpenSpec.upto Rows.mergeTablesSpec) (k := Rows.uptoSmall) rfl mergeTables_own started (by kernel_rfl) Tryz.func3
    (OpenSpec.witness (enc := enc) (C := Tryz.checked) (s := Rows.OpenSpec.upto Rows.mergeTablesSpec) (k := Rows.uptoSmall) rfl false ⟨#[], #[.slice none 0 0, .slice none 0 0, .bool false], []⟩ 8 (by kernel_rfl) (by kernel_rfl) (by kernel_rfl)
      (x := ([.nil, .nil, .lit (.bool false)], [], [])) (by kernel_rfl) rfl (by kernel_rfl)) ?_
  intro W base args ds gs before hval hW _ hk _
  exact law_contractU (C := Tryz.checked) (s := Rows.mergeTablesSpec) (tys := [.sl 5 (.fc (.sl 1 .s) (.fc (.sl 1 (.i .i64)) (.fc (.sl 1 (.i .i64)) (.fc (.sl 2 (.fc .s (.fc (.sl 2 (.fc (.i .i64) (.fc (.sl 1 (.i .i64)) .fn))) .fn))) (.fc .b .fn))))), .sl 1 (.sl 1 .b), .b]) (BA := Rows.uptoBulkAll) (N := 1048576) mergeTables_laid (by kernel_rfl) (by kernel_rfl) (by kernel_rfl) rfl
    (fun ds h => match ds, h with | [_, _, _], _ => rfl) mergeTables_meas (by simp [Rows.uptoBulkAll]) (fun x r => by simp [Rows.uptoBulkAll]) (fun _ => rfl) c_law11_MergeTables_upto W base args ds gs before hval hW hk

theorem mergeTables_holds : Rows.MergeTablesUptoSaid :=
  OpenClaim.holds_of_cond 3 Tryz.f3 rfl rfl rfl rfl rfl rfl rfl ⟨rfl, rfl, rfl, rfl, rfl⟩ rfl rfl rfl rfl rfl (by kernel_rfl) Tryz.func3 (by kernel_rfl)
    (of_decide_eq_true (by kernel_rfl)) (by unfold Func.isWrapper; first | (rw [if_pos (by decide +kernel)]; kernel_rfl) | (rw [if_neg (by decide +kernel)]; exact ⟨rfl, rfl⟩))
    (fun os started H enc _ F => mergeTables_lifted os started H enc F)
#print axioms mergeTables_holds
end Go.Proofs.YthcihkgopmmolaaGreat
