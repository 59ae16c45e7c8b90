/- Contracts of functions of the given program, by the abstract walk, for law ShelfPutsUpto: what each one hands back; no condition but those that each theorem states. -/
import Derived.Test.YthcihkgopmmolaaRows
import Derived.OpenShut
import Derived.JoinedCond
import Derived.Test.YthcihkgopmmolaaC18
namespace Go.Proofs.Ythcihkgopmmolaa
open Go.ChangeShapes Go.WideShapes Go.ChangeAt Go.RowKit Go.Aw

theorem shelfPuts_own : ownKnob Try.prog.godebug = none := by kernel_rfl
theorem shelfPuts_laid : laidOutB Try.prog = true := by kernel_rfl
theorem shelfPuts_meas {H : Type} : Meas (H := H) 1 Rows.uptoBulk where
  b := fun _ => by simp [Rows.uptoBulk]
  i := fun _ _ => by simp [Rows.uptoBulk]
  str := fun _ => by simp [Rows.uptoBulk]
  nil := by simp [Rows.uptoBulk]
  sl := fun e r => by
    have h : ∀ l : List (DataW H), (l.map Rows.uptoBulk).sum = Rows.uptoBulkAll l := fun l => by
      induction l with
      | nil => simp [Rows.uptoBulkAll]
      | cons x r ih => simp [Rows.uptoBulkAll, ih]
    rw [h]; simp only [Rows.uptoBulk]; omega
  ag := fun l => by
    have h : ∀ l : List (DataW H), (l.map Rows.uptoBulk).sum = Rows.uptoBulkAll l := fun l => by
      induction l with
      | nil => simp [Rows.uptoBulkAll]
      | cons x r ih => simp [Rows.uptoBulkAll, ih]
    rw [h]; simp only [Rows.uptoBulk]; omega
set_option maxRecDepth 100000 in
theorem shelfPuts_lifted (os : Os) (started : os.Started) (H : Type) (enc : TypeId × Value → H) (F : Stop.Interp) :
    ReturnsInHanded {} Try.checked os 5 .any ((Rows.OpenSpec.upto Rows.shelfPutsSpec).pre6 enc Try.prog Try.f5 Rows.shelfPutsUptoRow.domain false) (((Rows.OpenSpec.upto Rows.shelfPutsSpec).at F).post enc Try.prog Try.f5 false true false false) := by
  refine returnsInHanded_of_cond (C := Try.checked) (s := Rows.OpenSpec.upto Rows.shelfPutsSpec) (k := Rows.uptoSmall) rfl shelfPuts_own started (by kernel_rfl) Try.func5
    (OpenSpec.witness (enc := enc) (C := Try.checked) (s := Rows.OpenSpec.upto Rows.shelfPutsSpec) (k := Rows.uptoSmall) rfl false ⟨#[], #[.slice none 0 0, .agg #[.string ⟨#[]⟩, .int .i64 0, .slice none 0 0], .string ⟨#[]⟩], []⟩ 8 (by kernel_rfl) (by kernel_rfl) (by kernel_rfl)
      (x := ([.nil, .agg [.lit (.string []), .lit (.int .i64 0), .nil], .lit (.string [])], [], [])) (by kernel_rfl) rfl (by kernel_rfl)) ?_
  intro W base args ds gs before hval hW _ hk _
  exact law_contractU (C := Try.checked) (s := Rows.shelfPutsSpec) (tys := [.sl 3 (.fc .s (.fc (.i .i64) (.fc (.sl 1 .s) .fn))), .fc .s (.fc (.i .i64) (.fc (.sl 1 .s) .fn)), .s]) (BA := Rows.uptoBulkAll) (N := 1048576) shelfPuts_laid (by kernel_rfl) (by kernel_rfl) (by kernel_rfl) rfl
    (fun ds h => match ds, h with | [_, _, _], _ => rfl) shelfPuts_meas (by simp [Rows.uptoBulkAll]) (fun x r => by simp [Rows.uptoBulkAll]) (fun _ => rfl) c_law13_ShelfPuts_upto W base args ds gs before hval hW hk

theorem shelfPuts_holds : Rows.ShelfPutsUptoSaid :=
  OpenClaim.holds_of_cond 5 Try.f5 rfl rfl rfl rfl rfl rfl rfl ⟨rfl, rfl, rfl, rfl, rfl⟩ rfl rfl rfl rfl rfl (by kernel_rfl) Try.func5 (by kernel_rfl)
    (of_decide_eq_true (by kernel_rfl)) (by unfold Func.isWrapper; first | (rw [if_pos (by decide +kernel)]; kernel_rfl) | (rw [if_neg (by decide +kernel)]; exact ⟨rfl, rfl⟩))
    (fun os started H enc _ F => shelfPuts_lifted os started H enc F)
#print axioms shelfPuts_holds
end Go.Proofs.Ythcihkgopmmolaa
