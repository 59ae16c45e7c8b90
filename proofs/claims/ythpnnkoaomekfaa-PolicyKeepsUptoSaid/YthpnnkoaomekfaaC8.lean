/- Contracts of functions of the given program, by the abstract walk, for law PolicyKeepsUpto: what each one hands back; no condition but those that each theorem states. -/
import Derived.Test.YthpnnkoaomekfaaC2
import Derived.Test.YthpnnkoaomekfaaC7
import Derived.Test.YthpnnkoaomekfaaI2
namespace Go.Aw
open Go.Proofs
set_option maxRecDepth 100000
set_option maxHeartbeats 4000000

def boxS (pre : List SV) : V := match pre with
  | [] => .nil 1
  | _ :: r => .own 1 r.length 0 (r.length + 1)
def blkS (pre : List SV) : List Blk := match pre with
  | [] => []
  | x :: r => [.arr r.length 1 ((x :: r).map fun x => V.g (.sc x.1))]

theorem c_AppendSeq (xs : List Int) (hl : xs.length < 1000000000) : ACalls Try.prog 172 [.nil 1, .fn 148 [.ra 1 [tints xs] 0 0]] [] (fun r h => (xs = [] ∧ r = .nil 1 ∧ ∃ B, h = [B]) ∨ ∃ g B, r = .own 1 g 0 xs.length ∧ h = [B, .arr g 1 (vintl xs)]) := by
  refine k_slices_AppendSeq_Lint_int.calls ?_
  (try conv => whnf); repeat ((first | refine And.intro (show cellsAll _ _ from by repeat (first | exact trivial | refine ⟨⟨rfl, rfl⟩, ?_⟩)) ?_ | refine ⟨_, getZ (by omega), ?_⟩ | refine ⟨_, getI (by omega) (by omega), ?_⟩ | refine ⟨by omega, rfl, ?_⟩ | refine ⟨by (simp; omega), rfl, ?_⟩ | refine ⟨rfl, _, rfl, ⟨rfl, rfl, by decide⟩, ?_⟩ | refine ⟨rfl, _, rfl, ?_⟩ | refine ⟨rfl, _, getO (by omega), ?_⟩ | refine ⟨rfl, ⟨by omega, by omega, by omega⟩, ?_⟩ | refine ⟨⟨rfl, rfl⟩, ?_⟩ | refine ⟨⟨rfl, rfl, rfl⟩, ?_⟩ | refine ⟨⟨rfl, rfl, by decide⟩, ?_⟩ | refine ⟨rfl, ?_⟩ | refine ⟨⟨by omega, by omega⟩, ⟨rfl, rfl⟩, ?_⟩ | refine ⟨in64 (by omega) (by omega), ?_⟩ | refine Br.dec (fun _ => ?_) (fun hh => absurd (by omega) hh) | refine Br.dec (fun hh => absurd hh (by omega)) (fun _ => ?_) | refine Br.eq (fun _ => ?_) (fun hh => absurd (by omega) hh) | refine Br.eq (fun hh => absurd hh (by omega)) (fun _ => ?_) | refine Br.ne (fun _ => ?_) (fun hh => absurd (by omega) hh) | refine Br.ne (fun hh => absurd hh (by omega)) (fun _ => ?_) | refine ⟨_, rfl, ?_⟩ | rw [← List.map_drop, ← List.map_take]); conv => whnf)
  refine SW.rf (xs.map svI) rfl (g_values xs hl) (by simp) (fun pre => [.arr 0 1 [boxS pre]] ++ blkS pre) ?_ rfl ?_ ?_
  · intro pre
    refine noMp_app (noMp_cons noMp_nil) ?_
    cases pre with
    | nil => exact noMp_nil
    | cons x r => exact noMp_cons noMp_nil
  · intro pre y hlt
    rw [List.length_map] at hlt
    cases pre with
    | nil =>
      (try conv => whnf); repeat ((first | refine And.intro (show cellsAll _ _ from by repeat (first | exact trivial | refine ⟨⟨rfl, rfl⟩, ?_⟩)) ?_ | refine ⟨_, getZ (by omega), ?_⟩ | refine ⟨_, getI (by omega) (by omega), ?_⟩ | refine ⟨by omega, rfl, ?_⟩ | refine ⟨by (simp; omega), rfl, ?_⟩ | refine ⟨rfl, _, rfl, ⟨rfl, rfl, by decide⟩, ?_⟩ | refine ⟨rfl, _, rfl, ?_⟩ | refine ⟨rfl, _, getO (by omega), ?_⟩ | refine ⟨rfl, ⟨by omega, by omega, by omega⟩, ?_⟩ | refine ⟨⟨rfl, rfl⟩, ?_⟩ | refine ⟨⟨rfl, rfl, rfl⟩, ?_⟩ | refine ⟨⟨rfl, rfl, by decide⟩, ?_⟩ | refine ⟨rfl, ?_⟩ | refine ⟨⟨by omega, by omega⟩, ⟨rfl, rfl⟩, ?_⟩ | refine ⟨in64 (by omega) (by omega), ?_⟩ | refine Br.dec (fun _ => ?_) (fun hh => absurd (by omega) hh) | refine Br.dec (fun hh => absurd hh (by omega)) (fun _ => ?_) | refine Br.eq (fun _ => ?_) (fun hh => absurd (by omega) hh) | refine Br.eq (fun hh => absurd hh (by omega)) (fun _ => ?_) | refine Br.ne (fun _ => ?_) (fun hh => absurd (by omega) hh) | refine Br.ne (fun hh => absurd hh (by omega)) (fun _ => ?_) | refine ⟨_, rfl, ?_⟩ | rw [← List.map_drop, ← List.map_take]); conv => whnf)
      refine ⟨by simp, ?_⟩
      (try conv => whnf); repeat ((first | refine And.intro (show cellsAll _ _ from by repeat (first | exact trivial | refine ⟨⟨rfl, rfl⟩, ?_⟩)) ?_ | refine ⟨_, getZ (by omega), ?_⟩ | refine ⟨_, getI (by omega) (by omega), ?_⟩ | refine ⟨by omega, rfl, ?_⟩ | refine ⟨by (simp; omega), rfl, ?_⟩ | refine ⟨rfl, _, rfl, ⟨rfl, rfl, by decide⟩, ?_⟩ | refine ⟨rfl, _, rfl, ?_⟩ | refine ⟨rfl, _, getO (by omega), ?_⟩ | refine ⟨rfl, ⟨by omega, by omega, by omega⟩, ?_⟩ | refine ⟨⟨rfl, rfl⟩, ?_⟩ | refine ⟨⟨rfl, rfl, rfl⟩, ?_⟩ | refine ⟨⟨rfl, rfl, by decide⟩, ?_⟩ | refine ⟨rfl, ?_⟩ | refine ⟨⟨by omega, by omega⟩, ⟨rfl, rfl⟩, ?_⟩ | refine ⟨in64 (by omega) (by omega), ?_⟩ | refine Br.dec (fun _ => ?_) (fun hh => absurd (by omega) hh) | refine Br.dec (fun hh => absurd hh (by omega)) (fun _ => ?_) | refine Br.eq (fun _ => ?_) (fun hh => absurd (by omega) hh) | refine Br.eq (fun hh => absurd hh (by omega)) (fun _ => ?_) | refine Br.ne (fun _ => ?_) (fun hh => absurd (by omega) hh) | refine Br.ne (fun hh => absurd hh (by omega)) (fun _ => ?_) | refine ⟨_, rfl, ?_⟩ | rw [← List.map_drop, ← List.map_take]); conv => whnf)
      exact ReH.refl _
    | cons x r =>
      simp only [List.length_cons] at hlt
      (try conv => whnf); repeat ((first | refine And.intro (show cellsAll _ _ from by repeat (first | exact trivial | refine ⟨⟨rfl, rfl⟩, ?_⟩)) ?_ | refine ⟨_, getZ (by omega), ?_⟩ | refine ⟨_, getI (by omega) (by omega), ?_⟩ | refine ⟨by omega, rfl, ?_⟩ | refine ⟨by (simp; omega), rfl, ?_⟩ | refine ⟨rfl, _, rfl, ⟨rfl, rfl, by decide⟩, ?_⟩ | refine ⟨rfl, _, rfl, ?_⟩ | refine ⟨rfl, _, getO (by omega), ?_⟩ | refine ⟨rfl, ⟨by omega, by omega, by omega⟩, ?_⟩ | refine ⟨⟨rfl, rfl⟩, ?_⟩ | refine ⟨⟨rfl, rfl, rfl⟩, ?_⟩ | refine ⟨⟨rfl, rfl, by decide⟩, ?_⟩ | refine ⟨rfl, ?_⟩ | refine ⟨⟨by omega, by omega⟩, ⟨rfl, rfl⟩, ?_⟩ | refine ⟨in64 (by omega) (by omega), ?_⟩ | refine Br.dec (fun _ => ?_) (fun hh => absurd (by omega) hh) | refine Br.dec (fun hh => absurd hh (by omega)) (fun _ => ?_) | refine Br.eq (fun _ => ?_) (fun hh => absurd (by omega) hh) | refine Br.eq (fun hh => absurd hh (by omega)) (fun _ => ?_) | refine Br.ne (fun _ => ?_) (fun hh => absurd (by omega) hh) | refine Br.ne (fun hh => absurd hh (by omega)) (fun _ => ?_) | refine ⟨_, rfl, ?_⟩ | rw [← List.map_drop, ← List.map_take]); conv => whnf)
      refine ⟨by simp; omega, ⟨rfl, rfl, rfl⟩, _, ⟨[], (List.append_nil _).symm⟩, by simp, ?_⟩
      (try conv => whnf); repeat ((first | refine And.intro (show cellsAll _ _ from by repeat (first | exact trivial | refine ⟨⟨rfl, rfl⟩, ?_⟩)) ?_ | refine ⟨_, getZ (by omega), ?_⟩ | refine ⟨_, getI (by omega) (by omega), ?_⟩ | refine ⟨by omega, rfl, ?_⟩ | refine ⟨by (simp; omega), rfl, ?_⟩ | refine ⟨rfl, _, rfl, ⟨rfl, rfl, by decide⟩, ?_⟩ | refine ⟨rfl, _, rfl, ?_⟩ | refine ⟨rfl, _, getO (by omega), ?_⟩ | refine ⟨rfl, ⟨by omega, by omega, by omega⟩, ?_⟩ | refine ⟨⟨rfl, rfl⟩, ?_⟩ | refine ⟨⟨rfl, rfl, rfl⟩, ?_⟩ | refine ⟨⟨rfl, rfl, by decide⟩, ?_⟩ | refine ⟨rfl, ?_⟩ | refine ⟨⟨by omega, by omega⟩, ⟨rfl, rfl⟩, ?_⟩ | refine ⟨in64 (by omega) (by omega), ?_⟩ | refine Br.dec (fun _ => ?_) (fun hh => absurd (by omega) hh) | refine Br.dec (fun hh => absurd hh (by omega)) (fun _ => ?_) | refine Br.eq (fun _ => ?_) (fun hh => absurd (by omega) hh) | refine Br.eq (fun hh => absurd hh (by omega)) (fun _ => ?_) | refine Br.ne (fun _ => ?_) (fun hh => absurd (by omega) hh) | refine Br.ne (fun hh => absurd hh (by omega)) (fun _ => ?_) | refine ⟨_, rfl, ?_⟩ | rw [← List.map_drop, ← List.map_take]); conv => whnf)
      have e : ∀ z (h1 h2 : List Blk), h1 = h2 → ReH z h1 h2 := fun z h1 h2 e => e ▸ ReH.refl _
      refine e _ _ _ ?_
      simp [blkS, boxS]
      rfl
  · cases xs with
    | nil =>
      (try conv => whnf); repeat ((first | refine And.intro (show cellsAll _ _ from by repeat (first | exact trivial | refine ⟨⟨rfl, rfl⟩, ?_⟩)) ?_ | refine ⟨_, getZ (by omega), ?_⟩ | refine ⟨_, getI (by omega) (by omega), ?_⟩ | refine ⟨by omega, rfl, ?_⟩ | refine ⟨by (simp; omega), rfl, ?_⟩ | refine ⟨rfl, _, rfl, ⟨rfl, rfl, by decide⟩, ?_⟩ | refine ⟨rfl, _, rfl, ?_⟩ | refine ⟨rfl, _, getO (by omega), ?_⟩ | refine ⟨rfl, ⟨by omega, by omega, by omega⟩, ?_⟩ | refine ⟨⟨rfl, rfl⟩, ?_⟩ | refine ⟨⟨rfl, rfl, rfl⟩, ?_⟩ | refine ⟨⟨rfl, rfl, by decide⟩, ?_⟩ | refine ⟨rfl, ?_⟩ | refine ⟨⟨by omega, by omega⟩, ⟨rfl, rfl⟩, ?_⟩ | refine ⟨in64 (by omega) (by omega), ?_⟩ | refine Br.dec (fun _ => ?_) (fun hh => absurd (by omega) hh) | refine Br.dec (fun hh => absurd hh (by omega)) (fun _ => ?_) | refine Br.eq (fun _ => ?_) (fun hh => absurd (by omega) hh) | refine Br.eq (fun hh => absurd hh (by omega)) (fun _ => ?_) | refine Br.ne (fun _ => ?_) (fun hh => absurd (by omega) hh) | refine Br.ne (fun hh => absurd hh (by omega)) (fun _ => ?_) | refine ⟨_, rfl, ?_⟩ | rw [← List.map_drop, ← List.map_take]); conv => whnf)
      exact ⟨Ends.keep (.inl ⟨rfl, rfl, _, rfl⟩)⟩
    | cons x r =>
      (try conv => whnf); repeat ((first | refine And.intro (show cellsAll _ _ from by repeat (first | exact trivial | refine ⟨⟨rfl, rfl⟩, ?_⟩)) ?_ | refine ⟨_, getZ (by omega), ?_⟩ | refine ⟨_, getI (by omega) (by omega), ?_⟩ | refine ⟨by omega, rfl, ?_⟩ | refine ⟨by (simp; omega), rfl, ?_⟩ | refine ⟨rfl, _, rfl, ⟨rfl, rfl, by decide⟩, ?_⟩ | refine ⟨rfl, _, rfl, ?_⟩ | refine ⟨rfl, _, getO (by omega), ?_⟩ | refine ⟨rfl, ⟨by omega, by omega, by omega⟩, ?_⟩ | refine ⟨⟨rfl, rfl⟩, ?_⟩ | refine ⟨⟨rfl, rfl, rfl⟩, ?_⟩ | refine ⟨⟨rfl, rfl, by decide⟩, ?_⟩ | refine ⟨rfl, ?_⟩ | refine ⟨⟨by omega, by omega⟩, ⟨rfl, rfl⟩, ?_⟩ | refine ⟨in64 (by omega) (by omega), ?_⟩ | refine Br.dec (fun _ => ?_) (fun hh => absurd (by omega) hh) | refine Br.dec (fun hh => absurd hh (by omega)) (fun _ => ?_) | refine Br.eq (fun _ => ?_) (fun hh => absurd (by omega) hh) | refine Br.eq (fun hh => absurd hh (by omega)) (fun _ => ?_) | refine Br.ne (fun _ => ?_) (fun hh => absurd (by omega) hh) | refine Br.ne (fun hh => absurd hh (by omega)) (fun _ => ?_) | refine ⟨_, rfl, ?_⟩ | rw [← List.map_drop, ← List.map_take]); conv => whnf)
      refine ⟨Ends.keep (.inr ⟨r.length, .arr 0 1 [boxS ((x :: r).map svI)], by simp, ?_⟩)⟩
      simp [svI, vintl]

theorem c_Collect (xs : List Int) (hl : xs.length < 1000000000) : ACalls Try.prog 146 [.fn 148 [.ra 1 [tints xs] 0 0]] [] (fun r h => (xs = [] ∧ r = .nil 1 ∧ ∃ B, h = [B]) ∨ ∃ g B, r = .own 1 g 0 xs.length ∧ h = [B, .arr g 1 (vintl xs)]) := by
  refine k_slices_Collect_int.calls ?_
  (try conv => whnf); repeat ((first | refine And.intro (show cellsAll _ _ from by repeat (first | exact trivial | refine ⟨⟨rfl, rfl⟩, ?_⟩)) ?_ | refine ⟨_, getZ (by omega), ?_⟩ | refine ⟨_, getI (by omega) (by omega), ?_⟩ | refine ⟨by omega, rfl, ?_⟩ | refine ⟨by (simp; omega), rfl, ?_⟩ | refine ⟨rfl, _, rfl, ⟨rfl, rfl, by decide⟩, ?_⟩ | refine ⟨rfl, _, rfl, ?_⟩ | refine ⟨rfl, _, getO (by omega), ?_⟩ | refine ⟨rfl, ⟨by omega, by omega, by omega⟩, ?_⟩ | refine ⟨⟨rfl, rfl⟩, ?_⟩ | refine ⟨⟨rfl, rfl, rfl⟩, ?_⟩ | refine ⟨⟨rfl, rfl, by decide⟩, ?_⟩ | refine ⟨rfl, ?_⟩ | refine ⟨⟨by omega, by omega⟩, ⟨rfl, rfl⟩, ?_⟩ | refine ⟨in64 (by omega) (by omega), ?_⟩ | refine Br.dec (fun _ => ?_) (fun hh => absurd (by omega) hh) | refine Br.dec (fun hh => absurd hh (by omega)) (fun _ => ?_) | refine Br.eq (fun _ => ?_) (fun hh => absurd (by omega) hh) | refine Br.eq (fun hh => absurd hh (by omega)) (fun _ => ?_) | refine Br.ne (fun _ => ?_) (fun hh => absurd (by omega) hh) | refine Br.ne (fun hh => absurd hh (by omega)) (fun _ => ?_) | refine ⟨_, rfl, ?_⟩ | rw [← List.map_drop, ← List.map_take]); conv => whnf)
  refine (c_AppendSeq xs hl).mono ?_
  rintro r h (⟨rfl, rfl, B, rfl⟩ | ⟨g, B, rfl, rfl⟩)
  · (try conv => whnf); repeat ((first | refine And.intro (show cellsAll _ _ from by repeat (first | exact trivial | refine ⟨⟨rfl, rfl⟩, ?_⟩)) ?_ | refine ⟨_, getZ (by omega), ?_⟩ | refine ⟨_, getI (by omega) (by omega), ?_⟩ | refine ⟨by omega, rfl, ?_⟩ | refine ⟨by (simp; omega), rfl, ?_⟩ | refine ⟨rfl, _, rfl, ⟨rfl, rfl, by decide⟩, ?_⟩ | refine ⟨rfl, _, rfl, ?_⟩ | refine ⟨rfl, _, getO (by omega), ?_⟩ | refine ⟨rfl, ⟨by omega, by omega, by omega⟩, ?_⟩ | refine ⟨⟨rfl, rfl⟩, ?_⟩ | refine ⟨⟨rfl, rfl, rfl⟩, ?_⟩ | refine ⟨⟨rfl, rfl, by decide⟩, ?_⟩ | refine ⟨rfl, ?_⟩ | refine ⟨⟨by omega, by omega⟩, ⟨rfl, rfl⟩, ?_⟩ | refine ⟨in64 (by omega) (by omega), ?_⟩ | refine Br.dec (fun _ => ?_) (fun hh => absurd (by omega) hh) | refine Br.dec (fun hh => absurd hh (by omega)) (fun _ => ?_) | refine Br.eq (fun _ => ?_) (fun hh => absurd (by omega) hh) | refine Br.eq (fun hh => absurd hh (by omega)) (fun _ => ?_) | refine Br.ne (fun _ => ?_) (fun hh => absurd (by omega) hh) | refine Br.ne (fun hh => absurd hh (by omega)) (fun _ => ?_) | refine ⟨_, rfl, ?_⟩ | rw [← List.map_drop, ← List.map_take]); conv => whnf)
    exact ⟨Ends.keep (.inl ⟨rfl, rfl, B, rfl⟩)⟩
  · (try conv => whnf); repeat ((first | refine And.intro (show cellsAll _ _ from by repeat (first | exact trivial | refine ⟨⟨rfl, rfl⟩, ?_⟩)) ?_ | refine ⟨_, getZ (by omega), ?_⟩ | refine ⟨_, getI (by omega) (by omega), ?_⟩ | refine ⟨by omega, rfl, ?_⟩ | refine ⟨by (simp; omega), rfl, ?_⟩ | refine ⟨rfl, _, rfl, ⟨rfl, rfl, by decide⟩, ?_⟩ | refine ⟨rfl, _, rfl, ?_⟩ | refine ⟨rfl, _, getO (by omega), ?_⟩ | refine ⟨rfl, ⟨by omega, by omega, by omega⟩, ?_⟩ | refine ⟨⟨rfl, rfl⟩, ?_⟩ | refine ⟨⟨rfl, rfl, rfl⟩, ?_⟩ | refine ⟨⟨rfl, rfl, by decide⟩, ?_⟩ | refine ⟨rfl, ?_⟩ | refine ⟨⟨by omega, by omega⟩, ⟨rfl, rfl⟩, ?_⟩ | refine ⟨in64 (by omega) (by omega), ?_⟩ | refine Br.dec (fun _ => ?_) (fun hh => absurd (by omega) hh) | refine Br.dec (fun hh => absurd hh (by omega)) (fun _ => ?_) | refine Br.eq (fun _ => ?_) (fun hh => absurd (by omega) hh) | refine Br.eq (fun hh => absurd hh (by omega)) (fun _ => ?_) | refine Br.ne (fun _ => ?_) (fun hh => absurd (by omega) hh) | refine Br.ne (fun hh => absurd hh (by omega)) (fun _ => ?_) | refine ⟨_, rfl, ?_⟩ | rw [← List.map_drop, ← List.map_take]); conv => whnf)
    exact ⟨Ends.keep (.inr ⟨g, B, rfl, rfl⟩)⟩

def sortI (xs : List Int) : List Int := xs.mergeSort fun x y => decide (x ≤ y)
theorem sortI_len {xs : List Int} : (sortI xs).length = xs.length := List.length_mergeSort ..
theorem c_Sorted (xs : List Int) (hl : xs.length < 1000000000) : ACalls Try.prog 111 [.fn 148 [.ra 1 [tints xs] 0 0]] [] (fun r h => r = ints (sortI xs) ∧ h = []) := by
  refine k_slices_Sorted_int.calls ?_
  (try conv => whnf); repeat ((first | refine And.intro (show cellsAll _ _ from by repeat (first | exact trivial | refine ⟨⟨rfl, rfl⟩, ?_⟩)) ?_ | refine ⟨_, getZ (by omega), ?_⟩ | refine ⟨_, getI (by omega) (by omega), ?_⟩ | refine ⟨by omega, rfl, ?_⟩ | refine ⟨by (simp; omega), rfl, ?_⟩ | refine ⟨rfl, _, rfl, ⟨rfl, rfl, by decide⟩, ?_⟩ | refine ⟨rfl, _, rfl, ?_⟩ | refine ⟨rfl, _, getO (by omega), ?_⟩ | refine ⟨rfl, ⟨by omega, by omega, by omega⟩, ?_⟩ | refine ⟨⟨rfl, rfl⟩, ?_⟩ | refine ⟨⟨rfl, rfl, rfl⟩, ?_⟩ | refine ⟨⟨rfl, rfl, by decide⟩, ?_⟩ | refine ⟨rfl, ?_⟩ | refine ⟨⟨by omega, by omega⟩, ⟨rfl, rfl⟩, ?_⟩ | refine ⟨in64 (by omega) (by omega), ?_⟩ | refine Br.dec (fun _ => ?_) (fun hh => absurd (by omega) hh) | refine Br.dec (fun hh => absurd hh (by omega)) (fun _ => ?_) | refine Br.eq (fun _ => ?_) (fun hh => absurd (by omega) hh) | refine Br.eq (fun hh => absurd hh (by omega)) (fun _ => ?_) | refine Br.ne (fun _ => ?_) (fun hh => absurd (by omega) hh) | refine Br.ne (fun hh => absurd hh (by omega)) (fun _ => ?_) | refine ⟨_, rfl, ?_⟩ | rw [← List.map_drop, ← List.map_take]); conv => whnf)
  refine (c_Collect xs hl).mono ?_
  rintro r h (⟨rfl, rfl, B, rfl⟩ | ⟨g, B, rfl, rfl⟩)
  · (try conv => whnf); repeat ((first | refine And.intro (show cellsAll _ _ from by repeat (first | exact trivial | refine ⟨⟨rfl, rfl⟩, ?_⟩)) ?_ | refine ⟨_, getZ (by omega), ?_⟩ | refine ⟨_, getI (by omega) (by omega), ?_⟩ | refine ⟨by omega, rfl, ?_⟩ | refine ⟨by (simp; omega), rfl, ?_⟩ | refine ⟨rfl, _, rfl, ⟨rfl, rfl, by decide⟩, ?_⟩ | refine ⟨rfl, _, rfl, ?_⟩ | refine ⟨rfl, _, getO (by omega), ?_⟩ | refine ⟨rfl, ⟨by omega, by omega, by omega⟩, ?_⟩ | refine ⟨⟨rfl, rfl⟩, ?_⟩ | refine ⟨⟨rfl, rfl, rfl⟩, ?_⟩ | refine ⟨⟨rfl, rfl, by decide⟩, ?_⟩ | refine ⟨rfl, ?_⟩ | refine ⟨⟨by omega, by omega⟩, ⟨rfl, rfl⟩, ?_⟩ | refine ⟨in64 (by omega) (by omega), ?_⟩ | refine Br.dec (fun _ => ?_) (fun hh => absurd (by omega) hh) | refine Br.dec (fun hh => absurd hh (by omega)) (fun _ => ?_) | refine Br.eq (fun _ => ?_) (fun hh => absurd (by omega) hh) | refine Br.eq (fun hh => absurd hh (by omega)) (fun _ => ?_) | refine Br.ne (fun _ => ?_) (fun hh => absurd (by omega) hh) | refine Br.ne (fun hh => absurd hh (by omega)) (fun _ => ?_) | refine ⟨_, rfl, ?_⟩ | rw [← List.map_drop, ← List.map_take]); conv => whnf)
    refine ACalls.nil 0 1 rfl ?_
    refine (sortI_ok (P := Try.prog) k_slices_Sort_Lint_int.callOk Try.slices_Sort_int Try.slices_Sort_int_none (H := [B, .arr 0 1 []]) (b := 1) (g := 0) (xs := []) (by simp) rfl).mono ?_
    rintro r hh ⟨rfl, rfl⟩
    (try conv => whnf); repeat ((first | refine And.intro (show cellsAll _ _ from by repeat (first | exact trivial | refine ⟨⟨rfl, rfl⟩, ?_⟩)) ?_ | refine ⟨_, getZ (by omega), ?_⟩ | refine ⟨_, getI (by omega) (by omega), ?_⟩ | refine ⟨by omega, rfl, ?_⟩ | refine ⟨by (simp; omega), rfl, ?_⟩ | refine ⟨rfl, _, rfl, ⟨rfl, rfl, by decide⟩, ?_⟩ | refine ⟨rfl, _, rfl, ?_⟩ | refine ⟨rfl, _, getO (by omega), ?_⟩ | refine ⟨rfl, ⟨by omega, by omega, by omega⟩, ?_⟩ | refine ⟨⟨rfl, rfl⟩, ?_⟩ | refine ⟨⟨rfl, rfl, rfl⟩, ?_⟩ | refine ⟨⟨rfl, rfl, by decide⟩, ?_⟩ | refine ⟨rfl, ?_⟩ | refine ⟨⟨by omega, by omega⟩, ⟨rfl, rfl⟩, ?_⟩ | refine ⟨in64 (by omega) (by omega), ?_⟩ | refine Br.dec (fun _ => ?_) (fun hh => absurd (by omega) hh) | refine Br.dec (fun hh => absurd hh (by omega)) (fun _ => ?_) | refine Br.eq (fun _ => ?_) (fun hh => absurd (by omega) hh) | refine Br.eq (fun hh => absurd hh (by omega)) (fun _ => ?_) | refine Br.ne (fun _ => ?_) (fun hh => absurd (by omega) hh) | refine Br.ne (fun hh => absurd hh (by omega)) (fun _ => ?_) | refine ⟨_, rfl, ?_⟩ | rw [← List.map_drop, ← List.map_take]); conv => whnf)
    exact ⟨Ends.ground (H := []) (L := [_, _]) (t := tints []) 1 rfl ⟨by rw [sortI, List.mergeSort_nil]; rfl, rfl⟩⟩
  · (try conv => whnf); repeat ((first | refine And.intro (show cellsAll _ _ from by repeat (first | exact trivial | refine ⟨⟨rfl, rfl⟩, ?_⟩)) ?_ | refine ⟨_, getZ (by omega), ?_⟩ | refine ⟨_, getI (by omega) (by omega), ?_⟩ | refine ⟨by omega, rfl, ?_⟩ | refine ⟨by (simp; omega), rfl, ?_⟩ | refine ⟨rfl, _, rfl, ⟨rfl, rfl, by decide⟩, ?_⟩ | refine ⟨rfl, _, rfl, ?_⟩ | refine ⟨rfl, _, getO (by omega), ?_⟩ | refine ⟨rfl, ⟨by omega, by omega, by omega⟩, ?_⟩ | refine ⟨⟨rfl, rfl⟩, ?_⟩ | refine ⟨⟨rfl, rfl, rfl⟩, ?_⟩ | refine ⟨⟨rfl, rfl, by decide⟩, ?_⟩ | refine ⟨rfl, ?_⟩ | refine ⟨⟨by omega, by omega⟩, ⟨rfl, rfl⟩, ?_⟩ | refine ⟨in64 (by omega) (by omega), ?_⟩ | refine Br.dec (fun _ => ?_) (fun hh => absurd (by omega) hh) | refine Br.dec (fun hh => absurd hh (by omega)) (fun _ => ?_) | refine Br.eq (fun _ => ?_) (fun hh => absurd (by omega) hh) | refine Br.eq (fun hh => absurd hh (by omega)) (fun _ => ?_) | refine Br.ne (fun _ => ?_) (fun hh => absurd (by omega) hh) | refine Br.ne (fun hh => absurd hh (by omega)) (fun _ => ?_) | refine ⟨_, rfl, ?_⟩ | rw [← List.map_drop, ← List.map_take]); conv => whnf)
    refine (sortI_ok (P := Try.prog) k_slices_Sort_Lint_int.callOk Try.slices_Sort_int Try.slices_Sort_int_none (H := [B, .arr g 1 (vintl xs)]) (b := 1) (g := g) (xs := xs) (by omega) rfl).mono ?_
    rintro r hh ⟨rfl, rfl⟩
    (try conv => whnf); repeat ((first | refine And.intro (show cellsAll _ _ from by repeat (first | exact trivial | refine ⟨⟨rfl, rfl⟩, ?_⟩)) ?_ | refine ⟨_, getZ (by omega), ?_⟩ | refine ⟨_, getI (by omega) (by omega), ?_⟩ | refine ⟨by omega, rfl, ?_⟩ | refine ⟨by (simp; omega), rfl, ?_⟩ | refine ⟨rfl, _, rfl, ⟨rfl, rfl, by decide⟩, ?_⟩ | refine ⟨rfl, _, rfl, ?_⟩ | refine ⟨rfl, _, getO (by omega), ?_⟩ | refine ⟨rfl, ⟨by omega, by omega, by omega⟩, ?_⟩ | refine ⟨⟨rfl, rfl⟩, ?_⟩ | refine ⟨⟨rfl, rfl, rfl⟩, ?_⟩ | refine ⟨⟨rfl, rfl, by decide⟩, ?_⟩ | refine ⟨rfl, ?_⟩ | refine ⟨⟨by omega, by omega⟩, ⟨rfl, rfl⟩, ?_⟩ | refine ⟨in64 (by omega) (by omega), ?_⟩ | refine Br.dec (fun _ => ?_) (fun hh => absurd (by omega) hh) | refine Br.dec (fun hh => absurd hh (by omega)) (fun _ => ?_) | refine Br.eq (fun _ => ?_) (fun hh => absurd (by omega) hh) | refine Br.eq (fun hh => absurd hh (by omega)) (fun _ => ?_) | refine Br.ne (fun _ => ?_) (fun hh => absurd (by omega) hh) | refine Br.ne (fun hh => absurd hh (by omega)) (fun _ => ?_) | refine ⟨_, rfl, ?_⟩ | rw [← List.map_drop, ← List.map_take]); conv => whnf)
    refine ⟨Ends.ground (H := []) (L := [_, _]) (t := tints (sortI xs)) 1 ?_ ⟨rfl, rfl⟩⟩
    exact gr_vintl rfl (Nat.zero_le _) sortI_len.symm

theorem ded_le : ∀ (l : List Int), (ded l).length ≤ l.length
  | [] => by simp [ded]
  | [x] => by simp [ded]
  | x :: y :: r => by
    have := ded_le (y :: r)
    by_cases h : x = y
    · simp only [ded, if_pos h, List.length_cons] at this ⊢; omega
    · simp only [ded, if_neg h, List.length_cons] at this ⊢; omega
theorem ded_nodup : ∀ {l : List Int}, l.Pairwise (· ≤ ·) → ((ded l).length < l.length ↔ ¬ l.Nodup)
  | [], _ => by simp [ded]
  | [x], _ => by simp [ded]
  | x :: y :: r, h => by
    have ih := ded_nodup (l := y :: r) (List.pairwise_cons.1 h).2
    have hle := ded_le (y :: r)
    by_cases e : x = y
    · subst e
      simp only [ded, if_true, List.length_cons] at hle ⊢
      exact ⟨fun _ hn => by simp at hn, fun _ => by omega⟩
    · have hx : x ∉ y :: r := fun hm => by
        have h1 := (List.pairwise_cons.1 h).1 y (by simp)
        have h2 : y ≤ x := by
          rcases List.mem_cons.1 hm with rfl | hm
          · exact Int.le_refl _
          · exact (List.pairwise_cons.1 (List.pairwise_cons.1 h).2).1 x hm
        omega
      rw [List.nodup_cons]
      simp only [ded, if_neg e, List.length_cons] at ih hle ⊢
      constructor
      · intro h3 h4; exact ih.1 (by omega) h4.2
      · intro h3
        have := ih.2 fun h4 => h3 ⟨hx, h4⟩
        omega

theorem c_Clone_ints_own (xs : List Int) (hl : xs.length < 1000000000) : ACalls Try.prog 93 [ints xs] [] (fun r h => ∃ g, r = .own 0 g 0 xs.length ∧ h = [.arr g 1 (vintl xs)]) := by
  refine k_slices_Clone_Lint_int.calls ?_
  conv => whnf
  intro r hr
  conv => whnf
  refine Br.intro (fun h => ?_) (fun h => ?_)
  · conv => whnf
    have : xs = [] := by simpa using hr h
    subst this
    exact ⟨Ends.valloc ⟨0, rfl, rfl⟩⟩
  · conv => whnf
    refine ⟨rfl, ?_⟩
    conv => whnf
    refine ⟨by simp; omega, ⟨rfl, rfl, rfl⟩, [], ⟨[], rfl⟩, rfl, ?_⟩
    conv => whnf
    have e : ((xs.map T.i).map V.g) = vintl xs := by rw [List.map_map]; rfl
    have el : ((xs.map T.i).map V.g).length = xs.length := by simp
    refine ⟨Ends.keep ⟨0 + 1, ?_, ?_⟩⟩
    · rw [el]; simp
    · rw [e]; rfl

theorem c_policy_twice (xs : List Int) (hl : xs.length < 1000000000) : CG Try.prog 66 [tints xs] (.b (!decide xs.Nodup)) := by
  refine ⟨k_policy_twice.calls ?_⟩
  have hs := sortI_len (xs := xs)
  have hm : ((sortI xs).map T.i).length = xs.length := by simp [hs]
  conv => whnf
  refine (c_Values_ints xs).go rfl ?_
  conv => whnf
  refine (c_Sorted xs hl).mono ?_
  rintro r h ⟨rfl, rfl⟩
  (try conv => whnf); repeat ((first | refine And.intro (show cellsAll _ _ from by repeat (first | exact trivial | refine ⟨⟨rfl, rfl⟩, ?_⟩)) ?_ | refine ⟨_, getZ (by omega), ?_⟩ | refine ⟨_, getI (by omega) (by omega), ?_⟩ | refine ⟨by omega, rfl, ?_⟩ | refine ⟨by (simp; omega), rfl, ?_⟩ | refine ⟨rfl, _, rfl, ⟨rfl, rfl, by decide⟩, ?_⟩ | refine ⟨rfl, _, rfl, ?_⟩ | refine ⟨rfl, _, getO (by omega), ?_⟩ | refine ⟨rfl, ⟨by omega, by omega, by omega⟩, ?_⟩ | refine ⟨⟨rfl, rfl⟩, ?_⟩ | refine ⟨⟨rfl, rfl, rfl⟩, ?_⟩ | refine ⟨⟨rfl, rfl, by decide⟩, ?_⟩ | refine ⟨rfl, ?_⟩ | refine ⟨⟨by omega, by omega⟩, ⟨rfl, rfl⟩, ?_⟩ | refine ⟨in64 (by omega) (by omega), ?_⟩ | refine Br.dec (fun _ => ?_) (fun hh => absurd (by omega) hh) | refine Br.dec (fun hh => absurd hh (by omega)) (fun _ => ?_) | refine Br.eq (fun _ => ?_) (fun hh => absurd (by omega) hh) | refine Br.eq (fun hh => absurd hh (by omega)) (fun _ => ?_) | refine Br.ne (fun _ => ?_) (fun hh => absurd (by omega) hh) | refine Br.ne (fun hh => absurd hh (by omega)) (fun _ => ?_) | refine ⟨_, rfl, ?_⟩ | rw [← List.map_drop, ← List.map_take]); conv => whnf)
  refine (c_Clone_ints_own (sortI xs) (by omega)).mono ?_
  rintro r h ⟨g, rfl, rfl⟩
  (try conv => whnf); repeat ((first | refine And.intro (show cellsAll _ _ from by repeat (first | exact trivial | refine ⟨⟨rfl, rfl⟩, ?_⟩)) ?_ | refine ⟨_, getZ (by omega), ?_⟩ | refine ⟨_, getI (by omega) (by omega), ?_⟩ | refine ⟨by omega, rfl, ?_⟩ | refine ⟨by (simp; omega), rfl, ?_⟩ | refine ⟨rfl, _, rfl, ⟨rfl, rfl, by decide⟩, ?_⟩ | refine ⟨rfl, _, rfl, ?_⟩ | refine ⟨rfl, _, getO (by omega), ?_⟩ | refine ⟨rfl, ⟨by omega, by omega, by omega⟩, ?_⟩ | refine ⟨⟨rfl, rfl⟩, ?_⟩ | refine ⟨⟨rfl, rfl, rfl⟩, ?_⟩ | refine ⟨⟨rfl, rfl, by decide⟩, ?_⟩ | refine ⟨rfl, ?_⟩ | refine ⟨⟨by omega, by omega⟩, ⟨rfl, rfl⟩, ?_⟩ | refine ⟨in64 (by omega) (by omega), ?_⟩ | refine Br.dec (fun _ => ?_) (fun hh => absurd (by omega) hh) | refine Br.dec (fun hh => absurd hh (by omega)) (fun _ => ?_) | refine Br.eq (fun _ => ?_) (fun hh => absurd (by omega) hh) | refine Br.eq (fun hh => absurd hh (by omega)) (fun _ => ?_) | refine Br.ne (fun _ => ?_) (fun hh => absurd (by omega) hh) | refine Br.ne (fun hh => absurd hh (by omega)) (fun _ => ?_) | refine ⟨_, rfl, ?_⟩ | rw [← List.map_drop, ← List.map_take]); conv => whnf)
  refine (c_slices_Compact_Lint_int _ g (by rw [hs]; exact hl)).mono ?_
  rintro r h ⟨junk, rfl, rfl⟩
  (try conv => whnf); repeat ((first | refine And.intro (show cellsAll _ _ from by repeat (first | exact trivial | refine ⟨⟨rfl, rfl⟩, ?_⟩)) ?_ | refine ⟨_, getZ (by omega), ?_⟩ | refine ⟨_, getI (by omega) (by omega), ?_⟩ | refine ⟨by omega, rfl, ?_⟩ | refine ⟨by (simp; omega), rfl, ?_⟩ | refine ⟨rfl, _, rfl, ⟨rfl, rfl, by decide⟩, ?_⟩ | refine ⟨rfl, _, rfl, ?_⟩ | refine ⟨rfl, _, getO (by omega), ?_⟩ | refine ⟨rfl, ⟨by omega, by omega, by omega⟩, ?_⟩ | refine ⟨⟨rfl, rfl⟩, ?_⟩ | refine ⟨⟨rfl, rfl, rfl⟩, ?_⟩ | refine ⟨⟨rfl, rfl, by decide⟩, ?_⟩ | refine ⟨rfl, ?_⟩ | refine ⟨⟨by omega, by omega⟩, ⟨rfl, rfl⟩, ?_⟩ | refine ⟨in64 (by omega) (by omega), ?_⟩ | refine Br.dec (fun _ => ?_) (fun hh => absurd (by omega) hh) | refine Br.dec (fun hh => absurd hh (by omega)) (fun _ => ?_) | refine Br.eq (fun _ => ?_) (fun hh => absurd (by omega) hh) | refine Br.eq (fun hh => absurd hh (by omega)) (fun _ => ?_) | refine Br.ne (fun _ => ?_) (fun hh => absurd (by omega) hh) | refine Br.ne (fun hh => absurd hh (by omega)) (fun _ => ?_) | refine ⟨_, rfl, ?_⟩ | rw [← List.map_drop, ← List.map_take]); conv => whnf)
  have hd : (decide (((ded (sortI xs)).length : Int) < ((sortI xs).map T.i).length)) = !decide xs.Nodup := by
    have h1 := ded_nodup (sort_le xs)
    rw [(List.mergeSort_perm xs _).nodup_iff] at h1
    rw [hm]
    rw [show (xs.mergeSort fun x y => decide (x ≤ y)) = sortI xs from rfl, hs] at h1
    by_cases hn : xs.Nodup
    · rw [decide_eq_true hn]; simp only [Bool.not_true, decide_eq_false_iff_not]; intro h; exact absurd hn (h1.1 (by omega))
    · rw [decide_eq_false hn]; simp only [Bool.not_false, decide_eq_true_eq]; have := h1.2 hn; omega
  exact ⟨Ends.ground (H := []) (L := _) 0 rfl ⟨by rw [← hd], rfl⟩⟩
end Go.Aw
namespace Go.Aw
open Go.Proofs
set_option maxRecDepth 100000
set_option maxHeartbeats 4000000

theorem c_slices_Max (x : Int) (xs : List Int) (hl : xs.length < 1000000000) : CG Try.prog 67 [tints (x :: xs)] (.i (xs.foldl max x)) := by
  refine ⟨k_slices_Max_Lint_int.calls ?_⟩
  obtain ⟨ys, hy⟩ : ∃ ys, ys = x :: xs := ⟨_, rfl⟩
  rw [← hy]
  have hyl : ys.length = xs.length + 1 := by rw [hy]; rfl
  have hm : (ys.map T.i).length = ys.length := by simp
  have h0 : ys[0]'(by omega) = x := by subst hy; rfl
  (try conv => whnf); repeat ((first | refine And.intro (show cellsAll _ _ from by repeat (first | exact trivial | refine ⟨⟨rfl, rfl⟩, ?_⟩)) ?_ | refine ⟨_, getZ (by omega), ?_⟩ | refine ⟨_, getI (by omega) (by omega), ?_⟩ | refine ⟨by omega, rfl, ?_⟩ | refine ⟨by (simp; omega), rfl, ?_⟩ | refine ⟨rfl, _, rfl, ⟨rfl, rfl, by decide⟩, ?_⟩ | refine ⟨rfl, _, rfl, ?_⟩ | refine ⟨rfl, _, getO (by omega), ?_⟩ | refine ⟨rfl, ⟨by omega, by omega, by omega⟩, ?_⟩ | refine ⟨⟨rfl, rfl⟩, ?_⟩ | refine ⟨⟨rfl, rfl, rfl⟩, ?_⟩ | refine ⟨⟨rfl, rfl, by decide⟩, ?_⟩ | refine ⟨rfl, ?_⟩ | refine ⟨⟨by omega, by omega⟩, ⟨rfl, rfl⟩, ?_⟩ | refine ⟨in64 (by omega) (by omega), ?_⟩ | refine Br.dec (fun _ => ?_) (fun hh => absurd (by omega) hh) | refine Br.dec (fun hh => absurd hh (by omega)) (fun _ => ?_) | refine Br.eq (fun _ => ?_) (fun hh => absurd (by omega) hh) | refine Br.eq (fun hh => absurd hh (by omega)) (fun _ => ?_) | refine Br.ne (fun _ => ?_) (fun hh => absurd (by omega) hh) | refine Br.ne (fun hh => absurd hh (by omega)) (fun _ => ?_) | refine ⟨_, rfl, ?_⟩ | rw [← List.map_drop, ← List.map_take]); conv => whnf)
  refine SW.loopR (α := Nat) (fun k => tm 25 [(0, ints ys), (3, .g (.i ((xs.take k).foldl max x))), (4, .g (.i (k + 1 : Nat)))]) (fun _ => []) (fun k => k ≤ xs.length) (fun k => xs.length - k) 0 ?_ ?_ ?_
  · exact Nat.zero_le _
  · exact Refi.sub rfl (by simp [subT, subV, tm, tmGo, ints, tints, h0])
  · intro k hk
    dsimp only at hk ⊢
    conv => whnf
    refine Br.dec (fun h => ?_) (fun h => ?_)
    · have hk' : k < xs.length := by omega
      have hyk : ys[k + 1]'(by omega) = xs[k] := by subst hy; rfl
      have htk : xs.take (k + 1) = xs.take k ++ [xs[k]] := List.take_succ_eq_append_getElem hk'
      (try conv => whnf); repeat ((first | refine And.intro (show cellsAll _ _ from by repeat (first | exact trivial | refine ⟨⟨rfl, rfl⟩, ?_⟩)) ?_ | refine ⟨_, getZ (by omega), ?_⟩ | refine ⟨_, getI (by omega) (by omega), ?_⟩ | refine ⟨by omega, rfl, ?_⟩ | refine ⟨by (simp; omega), rfl, ?_⟩ | refine ⟨rfl, _, rfl, ⟨rfl, rfl, by decide⟩, ?_⟩ | refine ⟨rfl, _, rfl, ?_⟩ | refine ⟨rfl, _, getO (by omega), ?_⟩ | refine ⟨rfl, ⟨by omega, by omega, by omega⟩, ?_⟩ | refine ⟨⟨rfl, rfl⟩, ?_⟩ | refine ⟨⟨rfl, rfl, rfl⟩, ?_⟩ | refine ⟨⟨rfl, rfl, by decide⟩, ?_⟩ | refine ⟨rfl, ?_⟩ | refine ⟨⟨by omega, by omega⟩, ⟨rfl, rfl⟩, ?_⟩ | refine ⟨in64 (by omega) (by omega), ?_⟩ | refine Br.dec (fun _ => ?_) (fun hh => absurd (by omega) hh) | refine Br.dec (fun hh => absurd hh (by omega)) (fun _ => ?_) | refine Br.eq (fun _ => ?_) (fun hh => absurd (by omega) hh) | refine Br.eq (fun hh => absurd hh (by omega)) (fun _ => ?_) | refine Br.ne (fun _ => ?_) (fun hh => absurd (by omega) hh) | refine Br.ne (fun hh => absurd hh (by omega)) (fun _ => ?_) | refine ⟨_, rfl, ?_⟩ | rw [← List.map_drop, ← List.map_take]); conv => whnf)
      refine ⟨⟨k + 1, hk', by omega, Refi.sub rfl ?_⟩⟩
      rw [htk, List.foldl_append]
      simp [subT, subV, tm, tmGo, ints, hyk]
    · (try conv => whnf); repeat ((first | refine And.intro (show cellsAll _ _ from by repeat (first | exact trivial | refine ⟨⟨rfl, rfl⟩, ?_⟩)) ?_ | refine ⟨_, getZ (by omega), ?_⟩ | refine ⟨_, getI (by omega) (by omega), ?_⟩ | refine ⟨by omega, rfl, ?_⟩ | refine ⟨by (simp; omega), rfl, ?_⟩ | refine ⟨rfl, _, rfl, ⟨rfl, rfl, by decide⟩, ?_⟩ | refine ⟨rfl, _, rfl, ?_⟩ | refine ⟨rfl, _, getO (by omega), ?_⟩ | refine ⟨rfl, ⟨by omega, by omega, by omega⟩, ?_⟩ | refine ⟨⟨rfl, rfl⟩, ?_⟩ | refine ⟨⟨rfl, rfl, rfl⟩, ?_⟩ | refine ⟨⟨rfl, rfl, by decide⟩, ?_⟩ | refine ⟨rfl, ?_⟩ | refine ⟨⟨by omega, by omega⟩, ⟨rfl, rfl⟩, ?_⟩ | refine ⟨in64 (by omega) (by omega), ?_⟩ | refine Br.dec (fun _ => ?_) (fun hh => absurd (by omega) hh) | refine Br.dec (fun hh => absurd hh (by omega)) (fun _ => ?_) | refine Br.eq (fun _ => ?_) (fun hh => absurd (by omega) hh) | refine Br.eq (fun hh => absurd hh (by omega)) (fun _ => ?_) | refine Br.ne (fun _ => ?_) (fun hh => absurd (by omega) hh) | refine Br.ne (fun hh => absurd hh (by omega)) (fun _ => ?_) | refine ⟨_, rfl, ?_⟩ | rw [← List.map_drop, ← List.map_take]); conv => whnf)
      have : k = xs.length := by omega
      subst this
      rw [List.take_length]
      exact ⟨Ends.keep ⟨rfl, rfl⟩⟩

theorem c_AfterS1 (was : List Int) (x : Int) (hl : was.length < 1000000000) : ACalls Try.prog 70 [.g (.i x), .pa 0 0 0 0] [.arr 0 1 [ints was]] (fun r h => r = .g (.b (!decide (x ∈ was))) ∧ h = [.arr 0 1 [ints was]]) := by
  refine k_policy_AfterS1.calls ?_
  (try conv => whnf); repeat ((first | refine (c_slices_Contains_Lint_int was x hl).go rfl ?_ | refine ⟨_, (c_slices_Contains_Lint_int was x hl).go rfl ⟨rfl, rfl⟩, ?_⟩ | refine And.intro (show cellsAll _ _ from by repeat (first | exact trivial | refine ⟨⟨rfl, rfl⟩, ?_⟩)) ?_ | refine ⟨_, getZ (by omega), ?_⟩ | refine ⟨_, getI (by omega) (by omega), ?_⟩ | refine ⟨by omega, rfl, ?_⟩ | refine ⟨by (simp; omega), rfl, ?_⟩ | refine ⟨rfl, _, rfl, ⟨rfl, rfl, by decide⟩, ?_⟩ | refine ⟨rfl, _, rfl, ?_⟩ | refine ⟨rfl, _, getO (by omega), ?_⟩ | refine ⟨rfl, ⟨by omega, by omega, by omega⟩, ?_⟩ | refine ⟨⟨rfl, rfl⟩, ?_⟩ | refine ⟨⟨rfl, rfl, rfl⟩, ?_⟩ | refine ⟨⟨rfl, rfl, by decide⟩, ?_⟩ | refine ⟨rfl, ?_⟩ | refine ⟨⟨by omega, by omega⟩, ⟨rfl, rfl⟩, ?_⟩ | refine ⟨in64 (by omega) (by omega), ?_⟩ | refine Br.dec (fun _ => ?_) (fun hh => absurd (by omega) hh) | refine Br.dec (fun hh => absurd hh (by omega)) (fun _ => ?_) | refine Br.eq (fun _ => ?_) (fun hh => absurd (by omega) hh) | refine Br.eq (fun hh => absurd hh (by omega)) (fun _ => ?_) | refine Br.ne (fun _ => ?_) (fun hh => absurd (by omega) hh) | refine Br.ne (fun hh => absurd hh (by omega)) (fun _ => ?_) | refine ⟨_, rfl, ?_⟩ | rw [← List.map_drop, ← List.map_take]); conv => whnf)
  exact ⟨Ends.keep ⟨rfl, rfl⟩⟩

theorem c_IndexFuncW (xs was : List Int) (hl : xs.length < 1000000000) (hw : was.length < 1000000000) :
    ACalls Try.prog 114 [ints xs, .fn 70 [.pa 0 0 0 0]] [.arr 0 1 [ints was]] (fun r h => ∃ n : Int, r = .g (.i n) ∧ decide (0 ≤ n) = xs.any (fun x => !decide (x ∈ was)) ∧ h = [.arr 0 1 [ints was]]) := by
  refine k_slices_IndexFunc_Lint_int.calls ?_
  have hm : (xs.map T.i).length = xs.length := by simp
  (try conv => whnf); repeat ((first | refine And.intro (show cellsAll _ _ from by repeat (first | exact trivial | refine ⟨⟨rfl, rfl⟩, ?_⟩)) ?_ | refine ⟨_, getZ (by omega), ?_⟩ | refine ⟨_, getI (by omega) (by omega), ?_⟩ | refine ⟨by omega, rfl, ?_⟩ | refine ⟨by (simp; omega), rfl, ?_⟩ | refine ⟨rfl, _, rfl, ⟨rfl, rfl, by decide⟩, ?_⟩ | refine ⟨rfl, _, rfl, ?_⟩ | refine ⟨rfl, _, getO (by omega), ?_⟩ | refine ⟨rfl, ⟨by omega, by omega, by omega⟩, ?_⟩ | refine ⟨⟨rfl, rfl⟩, ?_⟩ | refine ⟨⟨rfl, rfl, rfl⟩, ?_⟩ | refine ⟨⟨rfl, rfl, by decide⟩, ?_⟩ | refine ⟨rfl, ?_⟩ | refine ⟨⟨by omega, by omega⟩, ⟨rfl, rfl⟩, ?_⟩ | refine ⟨in64 (by omega) (by omega), ?_⟩ | refine Br.dec (fun _ => ?_) (fun hh => absurd (by omega) hh) | refine Br.dec (fun hh => absurd hh (by omega)) (fun _ => ?_) | refine Br.eq (fun _ => ?_) (fun hh => absurd (by omega) hh) | refine Br.eq (fun hh => absurd hh (by omega)) (fun _ => ?_) | refine Br.ne (fun _ => ?_) (fun hh => absurd (by omega) hh) | refine Br.ne (fun hh => absurd hh (by omega)) (fun _ => ?_) | refine ⟨_, rfl, ?_⟩ | rw [← List.map_drop, ← List.map_take]); conv => whnf)
  refine SW.loopR (α := Nat) (fun k => tm 19 [(0, ints xs), (1, .fn 70 [.pa 0 0 0 0]), (6, ints xs), (7, .g (.i xs.length)), (8, .g (.i k))]) (fun _ => [.arr 0 1 [ints was]]) (fun k => k ≤ xs.length ∧ ∀ x ∈ xs.take k, x ∈ was) (fun k => xs.length - k) 0 ?_ ?_ ?_
  · simp
  · exact Refi.sub rfl (by simp [subT, subV, tm, tmGo, ints])
  · rintro k ⟨hk, hq⟩
    dsimp only at hk hq ⊢
    conv => whnf
    refine Br.dec (fun h1 => ?_) (fun h1 => ?_)
    · have hk' : k < xs.length := by omega
      (try conv => whnf); repeat ((first | refine And.intro (show cellsAll _ _ from by repeat (first | exact trivial | refine ⟨⟨rfl, rfl⟩, ?_⟩)) ?_ | refine ⟨_, getZ (by omega), ?_⟩ | refine ⟨_, getI (by omega) (by omega), ?_⟩ | refine ⟨by omega, rfl, ?_⟩ | refine ⟨by (simp; omega), rfl, ?_⟩ | refine ⟨rfl, _, rfl, ⟨rfl, rfl, by decide⟩, ?_⟩ | refine ⟨rfl, _, rfl, ?_⟩ | refine ⟨rfl, _, getO (by omega), ?_⟩ | refine ⟨rfl, ⟨by omega, by omega, by omega⟩, ?_⟩ | refine ⟨⟨rfl, rfl⟩, ?_⟩ | refine ⟨⟨rfl, rfl, rfl⟩, ?_⟩ | refine ⟨⟨rfl, rfl, by decide⟩, ?_⟩ | refine ⟨rfl, ?_⟩ | refine ⟨⟨by omega, by omega⟩, ⟨rfl, rfl⟩, ?_⟩ | refine ⟨in64 (by omega) (by omega), ?_⟩ | refine Br.dec (fun _ => ?_) (fun hh => absurd (by omega) hh) | refine Br.dec (fun hh => absurd hh (by omega)) (fun _ => ?_) | refine Br.eq (fun _ => ?_) (fun hh => absurd (by omega) hh) | refine Br.eq (fun hh => absurd hh (by omega)) (fun _ => ?_) | refine Br.ne (fun _ => ?_) (fun hh => absurd (by omega) hh) | refine Br.ne (fun hh => absurd hh (by omega)) (fun _ => ?_) | refine ⟨_, rfl, ?_⟩ | rw [← List.map_drop, ← List.map_take]); conv => whnf)
      refine ACalls.fl (c_AfterS1 was xs[k] hw) [0] rfl rfl rfl (flatH.cons Blk.lt_g1 flatH.nil) (by rintro r h ⟨_, rfl⟩; exact flatH.cons Blk.lt_g1 flatH.nil) ?_
      rintro r h ⟨rfl, rfl⟩
      by_cases hin : xs[k] ∈ was
      · rw [decide_eq_true hin]
        (try conv => whnf); repeat ((first | refine And.intro (show cellsAll _ _ from by repeat (first | exact trivial | refine ⟨⟨rfl, rfl⟩, ?_⟩)) ?_ | refine ⟨_, getZ (by omega), ?_⟩ | refine ⟨_, getI (by omega) (by omega), ?_⟩ | refine ⟨by omega, rfl, ?_⟩ | refine ⟨by (simp; omega), rfl, ?_⟩ | refine ⟨rfl, _, rfl, ⟨rfl, rfl, by decide⟩, ?_⟩ | refine ⟨rfl, _, rfl, ?_⟩ | refine ⟨rfl, _, getO (by omega), ?_⟩ | refine ⟨rfl, ⟨by omega, by omega, by omega⟩, ?_⟩ | refine ⟨⟨rfl, rfl⟩, ?_⟩ | refine ⟨⟨rfl, rfl, rfl⟩, ?_⟩ | refine ⟨⟨rfl, rfl, by decide⟩, ?_⟩ | refine ⟨rfl, ?_⟩ | refine ⟨⟨by omega, by omega⟩, ⟨rfl, rfl⟩, ?_⟩ | refine ⟨in64 (by omega) (by omega), ?_⟩ | refine Br.dec (fun _ => ?_) (fun hh => absurd (by omega) hh) | refine Br.dec (fun hh => absurd hh (by omega)) (fun _ => ?_) | refine Br.eq (fun _ => ?_) (fun hh => absurd (by omega) hh) | refine Br.eq (fun hh => absurd hh (by omega)) (fun _ => ?_) | refine Br.ne (fun _ => ?_) (fun hh => absurd (by omega) hh) | refine Br.ne (fun hh => absurd hh (by omega)) (fun _ => ?_) | refine ⟨_, rfl, ?_⟩ | rw [← List.map_drop, ← List.map_take]); conv => whnf)
        refine ⟨⟨k + 1, ⟨hk', fun s hs => ?_⟩, by omega, Refi.sub rfl (by simp [subT, subV, tm, tmGo, ints])⟩⟩
        rw [List.take_succ_eq_append_getElem hk', List.mem_append, List.mem_singleton] at hs
        rcases hs with hs | rfl
        · exact hq s hs
        · exact hin
      · rw [decide_eq_false hin]
        (try conv => whnf); repeat ((first | refine And.intro (show cellsAll _ _ from by repeat (first | exact trivial | refine ⟨⟨rfl, rfl⟩, ?_⟩)) ?_ | refine ⟨_, getZ (by omega), ?_⟩ | refine ⟨_, getI (by omega) (by omega), ?_⟩ | refine ⟨by omega, rfl, ?_⟩ | refine ⟨by (simp; omega), rfl, ?_⟩ | refine ⟨rfl, _, rfl, ⟨rfl, rfl, by decide⟩, ?_⟩ | refine ⟨rfl, _, rfl, ?_⟩ | refine ⟨rfl, _, getO (by omega), ?_⟩ | refine ⟨rfl, ⟨by omega, by omega, by omega⟩, ?_⟩ | refine ⟨⟨rfl, rfl⟩, ?_⟩ | refine ⟨⟨rfl, rfl, rfl⟩, ?_⟩ | refine ⟨⟨rfl, rfl, by decide⟩, ?_⟩ | refine ⟨rfl, ?_⟩ | refine ⟨⟨by omega, by omega⟩, ⟨rfl, rfl⟩, ?_⟩ | refine ⟨in64 (by omega) (by omega), ?_⟩ | refine Br.dec (fun _ => ?_) (fun hh => absurd (by omega) hh) | refine Br.dec (fun hh => absurd hh (by omega)) (fun _ => ?_) | refine Br.eq (fun _ => ?_) (fun hh => absurd (by omega) hh) | refine Br.eq (fun hh => absurd hh (by omega)) (fun _ => ?_) | refine Br.ne (fun _ => ?_) (fun hh => absurd (by omega) hh) | refine Br.ne (fun hh => absurd hh (by omega)) (fun _ => ?_) | refine ⟨_, rfl, ?_⟩ | rw [← List.map_drop, ← List.map_take]); conv => whnf)
        refine ⟨Ends.keep ⟨k, rfl, ?_, rfl⟩⟩
        rw [decide_eq_true (by omega)]
        exact (List.any_eq_true.2 ⟨xs[k], List.getElem_mem hk', by rw [decide_eq_false hin]; rfl⟩).symm
    · (try conv => whnf); repeat ((first | refine And.intro (show cellsAll _ _ from by repeat (first | exact trivial | refine ⟨⟨rfl, rfl⟩, ?_⟩)) ?_ | refine ⟨_, getZ (by omega), ?_⟩ | refine ⟨_, getI (by omega) (by omega), ?_⟩ | refine ⟨by omega, rfl, ?_⟩ | refine ⟨by (simp; omega), rfl, ?_⟩ | refine ⟨rfl, _, rfl, ⟨rfl, rfl, by decide⟩, ?_⟩ | refine ⟨rfl, _, rfl, ?_⟩ | refine ⟨rfl, _, getO (by omega), ?_⟩ | refine ⟨rfl, ⟨by omega, by omega, by omega⟩, ?_⟩ | refine ⟨⟨rfl, rfl⟩, ?_⟩ | refine ⟨⟨rfl, rfl, rfl⟩, ?_⟩ | refine ⟨⟨rfl, rfl, by decide⟩, ?_⟩ | refine ⟨rfl, ?_⟩ | refine ⟨⟨by omega, by omega⟩, ⟨rfl, rfl⟩, ?_⟩ | refine ⟨in64 (by omega) (by omega), ?_⟩ | refine Br.dec (fun _ => ?_) (fun hh => absurd (by omega) hh) | refine Br.dec (fun hh => absurd hh (by omega)) (fun _ => ?_) | refine Br.eq (fun _ => ?_) (fun hh => absurd (by omega) hh) | refine Br.eq (fun hh => absurd hh (by omega)) (fun _ => ?_) | refine Br.ne (fun _ => ?_) (fun hh => absurd (by omega) hh) | refine Br.ne (fun hh => absurd hh (by omega)) (fun _ => ?_) | refine ⟨_, rfl, ?_⟩ | rw [← List.map_drop, ← List.map_take]); conv => whnf)
      have : k = xs.length := by omega
      subst this
      rw [List.take_length] at hq
      refine ⟨Ends.keep ⟨-1, rfl, ?_, rfl⟩⟩
      rw [decide_eq_false (by omega)]
      symm
      rw [List.any_eq_false]
      intro x hx
      rw [decide_eq_true (hq x hx)]; simp
theorem c_ContainsFuncW (xs was : List Int) (hl : xs.length < 1000000000) (hw : was.length < 1000000000) :
    ACalls Try.prog 69 [ints xs, .fn 70 [.pa 0 0 0 0]] [.arr 0 1 [ints was]] (fun r h => r = .g (.b (xs.any fun x => !decide (x ∈ was))) ∧ h = [.arr 0 1 [ints was]]) := by
  refine k_slices_ContainsFunc_Lint_int.calls ?_
  conv => whnf
  refine (c_IndexFuncW xs was hl hw).mono ?_
  rintro r h ⟨n, rfl, hn, rfl⟩
  (try conv => whnf); repeat ((first | refine And.intro (show cellsAll _ _ from by repeat (first | exact trivial | refine ⟨⟨rfl, rfl⟩, ?_⟩)) ?_ | refine ⟨_, getZ (by omega), ?_⟩ | refine ⟨_, getI (by omega) (by omega), ?_⟩ | refine ⟨by omega, rfl, ?_⟩ | refine ⟨by (simp; omega), rfl, ?_⟩ | refine ⟨rfl, _, rfl, ⟨rfl, rfl, by decide⟩, ?_⟩ | refine ⟨rfl, _, rfl, ?_⟩ | refine ⟨rfl, _, getO (by omega), ?_⟩ | refine ⟨rfl, ⟨by omega, by omega, by omega⟩, ?_⟩ | refine ⟨⟨rfl, rfl⟩, ?_⟩ | refine ⟨⟨rfl, rfl, rfl⟩, ?_⟩ | refine ⟨⟨rfl, rfl, by decide⟩, ?_⟩ | refine ⟨rfl, ?_⟩ | refine ⟨⟨by omega, by omega⟩, ⟨rfl, rfl⟩, ?_⟩ | refine ⟨in64 (by omega) (by omega), ?_⟩ | refine Br.dec (fun _ => ?_) (fun hh => absurd (by omega) hh) | refine Br.dec (fun hh => absurd hh (by omega)) (fun _ => ?_) | refine Br.eq (fun _ => ?_) (fun hh => absurd (by omega) hh) | refine Br.eq (fun hh => absurd hh (by omega)) (fun _ => ?_) | refine Br.ne (fun _ => ?_) (fun hh => absurd (by omega) hh) | refine Br.ne (fun hh => absurd hh (by omega)) (fun _ => ?_) | refine ⟨_, rfl, ?_⟩ | rw [← List.map_drop, ← List.map_take]); conv => whnf)
  exact ⟨Ends.keep ⟨by rw [← hn], rfl⟩⟩
theorem c_Clone_sizes_g (l : List Sz) (hl : l.length < 1000000000) : CG Try.prog 63 [tsizes l] (tsizes l) := by
  refine ⟨k_slices_Clone_LSize_Size.calls ?_⟩
  conv => whnf
  intro r hr
  conv => whnf
  refine Br.intro (fun h => ?_) (fun h => ?_)
  · conv => whnf
    have : l = [] := by simpa using hr h
    subst this
    exact ⟨Ends.ground (H := []) (L := []) 0 rfl ⟨rfl, rfl⟩⟩
  · conv => whnf
    refine ⟨rfl, ?_⟩
    conv => whnf
    refine ⟨by simp; omega, ⟨rfl, rfl, rfl⟩, [], ⟨[], rfl⟩, rfl, ?_⟩
    conv => whnf
    refine ⟨Ends.ground (H := []) (L := [_]) 1 (t := tsizes l) ?_ ⟨rfl, rfl⟩⟩
    have := gr_vsz (n := 0) (d := 0) (b := 0) (g := 1) (off := 0) (len := l.length) (h := [.arr 1 4 (vsz l)]) (E := l) rfl (Nat.zero_le _) (by omega)
    rw [List.drop_zero, List.take_length] at this
    rw [← this]
    simp [vsz]
    rfl
end Go.Aw
namespace Go.Aw
open Go.Proofs
set_option maxRecDepth 100000
set_option maxHeartbeats 4000000

def inP (p : List Int) (s : Sz) : Bool := decide (s.gen ∈ p)
def pick (l : List Sz) (p : List Int) : List Sz := l.filter (inP p)
def stepO (l : List Sz) (p : List Int) (m : Sz) (k : Nat) (s : Sz) : List Sz := if inP p s = true then (if m.docs = 0 ∨ (l.take k).any (inP p) = true then [] else [m]) else [s]
def outK (l : List Sz) (p : List Int) (m : Sz) : Nat → List Sz
  | 0 => []
  | k + 1 => outK l p m k ++ (match l[k]? with | some s => stepO l p m k s | none => [])
theorem outK_succ {l : List Sz} {p : List Int} {m : Sz} {k : Nat} (h : k < l.length) : outK l p m (k + 1) = outK l p m k ++ stepO l p m k l[k] := by
  rw [outK, List.getElem?_eq_getElem h]
theorem outK_len {l : List Sz} {p : List Int} {m : Sz} : ∀ {k : Nat}, (outK l p m k).length ≤ k
  | 0 => Nat.le_refl _
  | k + 1 => by
    have := outK_len (l := l) (p := p) (m := m) (k := k)
    rw [outK, List.length_append]
    split
    · unfold stepO; split
      · split <;> simp <;> omega
      · simp; omega
    · simp; omega
def merged (gen docs : Int) : Sz := ⟨gen, docs, 0, false⟩
def oneS (l : List Sz) (p : List Int) (gen : Int) : Option (List Sz) :=
  if (pick l p).length = 0 ∨ (pick l p).length ≠ p.length ∨ 64 < allS (pick l p) ∨ 34359738367 < gen then none
  else some (outK l p (merged gen (allS (pick l p))) l.length)
def firK (l : List Sz) (p : List Int) : Nat → Int
  | 0 => -1
  | k + 1 => if firK l p k = -1 then (match l[k]? with | some s => if inP p s = true then (k : Int) else -1 | none => -1) else firK l p k
theorem firK_succ {l : List Sz} {p : List Int} {k : Nat} (h : k < l.length) : firK l p (k + 1) = if firK l p k = -1 then (if inP p l[k] = true then (k : Int) else -1) else firK l p k := by
  rw [firK, List.getElem?_eq_getElem h]
theorem firK_facts {l : List Sz} {p : List Int} : ∀ {k : Nat}, k ≤ l.length → (firK l p k = -1 ∧ (l.take k).any (inP p) = false) ∨ (∃ i : Nat, firK l p k = i ∧ i < k ∧ ∃ h : i < l.length, inP p l[i] = true ∧ (l.take i).any (inP p) = false ∧ (l.take k).any (inP p) = true)
  | 0, _ => .inl ⟨rfl, by simp⟩
  | k + 1, hk => by
    have hk' : k < l.length := by omega
    have htk : l.take (k + 1) = l.take k ++ [l[k]] := List.take_succ_eq_append_getElem hk'
    rw [firK_succ hk', htk, List.any_append]
    rcases firK_facts (p := p) (by omega : k ≤ l.length) with ⟨h1, h2⟩ | ⟨i, h1, h2, h3, h4, h5, h6⟩
    · rw [if_pos h1]
      by_cases h : inP p l[k] = true
      · rw [if_pos h]
        exact .inr ⟨k, rfl, by omega, hk', h, h2, by simp [h]⟩
      · rw [if_neg h]
        exact .inl ⟨rfl, by simp [h2, h]⟩
    · rw [if_neg (by rw [h1]; omega)]
      exact .inr ⟨i, h1, by omega, h3, h4, h5, by rw [h6]; rfl⟩
/-- the first one is where none stands before -/
theorem first_iff {l : List Sz} {p : List Int} {k : Nat} (hk : k < l.length) : (firK l p l.length = (k : Int)) ↔ (inP p l[k] = true ∧ (l.take k).any (inP p) = false) := by
  have take_mono : ∀ {i k : Nat}, i < k → (hi : i < l.length) → inP p l[i] = true → (l.take k).any (inP p) = true := fun {i k} h hi hh =>
    List.any_eq_true.2 ⟨l[i], List.mem_iff_getElem.2 ⟨i, by simp; omega, by rw [List.getElem_take]⟩, hh⟩
  rcases firK_facts (l := l) (p := p) (Nat.le_refl _) with ⟨h1, h2⟩ | ⟨i, h1, h2, h3, h4, h5, h6⟩
  · rw [h1]
    refine ⟨fun h => by omega, fun ⟨h, _⟩ => ?_⟩
    have := take_mono hk hk h
    rw [this] at h2; cases h2
  · rw [h1]
    constructor
    · intro h
      have : i = k := by omega
      subst this
      exact ⟨h4, h5⟩
    · rintro ⟨h7, h8⟩
      rcases Nat.lt_trichotomy i k with h | h | h
      · rw [take_mono h h3 h4] at h8; cases h8
      · rw [h]
      · rw [take_mono h hk h7] at h5; cases h5
theorem firK_none {l : List Sz} {p : List Int} : firK l p l.length = -1 ↔ (pick l p).length = 0 := by
  rcases firK_facts (l := l) (p := p) (Nat.le_refl _) with ⟨h1, h2⟩ | ⟨i, h1, h2, h3, h4, h5, h6⟩
  · refine ⟨fun _ => ?_, fun _ => h1⟩
    rw [List.take_length, List.any_eq_false] at h2
    rw [pick, List.filter_eq_nil_iff.2 fun s hs => h2 s hs]; rfl
  · refine ⟨fun h => by omega, fun h => ?_⟩
    have : l[i] ∈ pick l p := List.mem_filter.2 ⟨List.getElem_mem h3, h4⟩
    rw [List.length_eq_zero_iff] at h
    rw [h] at this; cases this
theorem pick_succ {l : List Sz} {p : List Int} {k : Nat} (h : k < l.length) : pick (l.take (k + 1)) p = pick (l.take k) p ++ if inP p l[k] = true then [l[k]] else [] := by
  rw [pick, List.take_succ_eq_append_getElem h, List.filter_append, List.filter_cons]
  split <;> rfl
theorem pick_sane {l : List Sz} {p : List Int} (hs : ∀ s ∈ l, sane s) : ∀ s ∈ pick l p, sane s := fun s h => hs s (List.mem_filter.1 h).1
theorem pick_len {l : List Sz} {p : List Int} : (pick l p).length ≤ l.length := List.length_filter_le _ _

theorem c_policy_one (l : List Sz) (p : List Int) (gen : Int) (hl : l.length ≤ 1000) (hp : p.length < 1000000000) (hs : ∀ s ∈ l, sane s) :
    ACalls Try.prog 68 [.g (tsizes l), .g (tints p), .g (.i gen)] [] (fun r h => r = .tu [.g (tsizes ((oneS l p gen).getD [])), .g (.b (oneS l p gen).isSome)] ∧ h = []) := by
  refine k_policy_one.calls ?_
  have hm : (l.map tsize).length = l.length := by simp
  have hmp : (p.map T.i).length = p.length := by simp
  (try conv => whnf); repeat ((first | refine And.intro (show cellsAll _ _ from by repeat (first | exact trivial | refine ⟨⟨rfl, rfl⟩, ?_⟩)) ?_ | refine ⟨_, getZ (by omega), ?_⟩ | refine ⟨_, getI (by omega) (by omega), ?_⟩ | refine ⟨by omega, rfl, ?_⟩ | refine ⟨by (simp; omega), rfl, ?_⟩ | refine ⟨rfl, _, rfl, ⟨rfl, rfl, by decide⟩, ?_⟩ | refine ⟨rfl, _, rfl, ?_⟩ | refine ⟨rfl, _, getO (by omega), ?_⟩ | refine ⟨rfl, ⟨by omega, by omega, by omega⟩, ?_⟩ | refine ⟨⟨rfl, rfl⟩, ?_⟩ | refine ⟨⟨rfl, rfl, rfl⟩, ?_⟩ | refine ⟨⟨rfl, rfl, by decide⟩, ?_⟩ | refine ⟨rfl, ?_⟩ | refine ⟨⟨by omega, by omega⟩, ⟨rfl, rfl⟩, ?_⟩ | refine ⟨in64 (by omega) (by omega), ?_⟩ | refine Br.dec (fun _ => ?_) (fun hh => absurd (by omega) hh) | refine Br.dec (fun hh => absurd hh (by omega)) (fun _ => ?_) | refine Br.eq (fun _ => ?_) (fun hh => absurd (by omega) hh) | refine Br.eq (fun hh => absurd hh (by omega)) (fun _ => ?_) | refine Br.ne (fun _ => ?_) (fun hh => absurd (by omega) hh) | refine Br.ne (fun hh => absurd hh (by omega)) (fun _ => ?_) | refine ⟨_, rfl, ?_⟩ | rw [← List.map_drop, ← List.map_take]); conv => whnf)
  refine SW.loopR (α := Nat) (fun k => tm 86 [(0, sizes l), (1, ints p), (2, .g (.i gen)), (8, .g (.i (firK l p k))), (9, .g (.i (allS (pick (l.take k) p)))), (10, .g (.i (pick (l.take k) p).length)), (16, sizes l), (17, .g (.i l.length)), (18, .g (.i k))]) (fun _ => []) (fun k => k ≤ l.length) (fun k => l.length - k) 0 ?_ ?_ ?_
  · exact Nat.zero_le _
  · exact Refi.sub rfl (by simp [subT, subV, tm, tmGo, sizes, tsizes, firK, pick, allS, ints, tints])
  · intro k hk
    dsimp only at hk ⊢
    conv => whnf
    refine Br.dec (fun h => ?_) (fun h => ?_)
    · have hk' : k < l.length := by omega
      have hps := pick_succ (p := p) hk'
      have hf := firK_succ (p := p) hk'
      have hsk := hs _ (List.getElem_mem hk')
      have hlv := sane_live hsk
      have hA := allS_le (pick_sane (p := p) (l := l.take k) fun s h => hs s (List.mem_of_mem_take h))
      have hpl := pick_len (l := l.take k) (p := p)
      have htk : (l.take k).length = k := by simp; omega
      have hcon := c_slices_Contains_Lint_int p l[k].gen hp
      by_cases hin : l[k].gen ∈ p
      · have hi : inP p l[k] = true := decide_eq_true hin
        rw [if_pos hi] at hps hf
        rw [decide_eq_true hin] at hcon
        (try conv => whnf); repeat ((first | refine (hcon).go rfl ?_ | refine ⟨_, (hcon).go rfl ⟨rfl, rfl⟩, ?_⟩ | refine And.intro (show cellsAll _ _ from by repeat (first | exact trivial | refine ⟨⟨rfl, rfl⟩, ?_⟩)) ?_ | refine ⟨_, getZ (by omega), ?_⟩ | refine ⟨_, getI (by omega) (by omega), ?_⟩ | refine ⟨by omega, rfl, ?_⟩ | refine ⟨by (simp; omega), rfl, ?_⟩ | refine ⟨rfl, _, rfl, ⟨rfl, rfl, by decide⟩, ?_⟩ | refine ⟨rfl, _, rfl, ?_⟩ | refine ⟨rfl, _, getO (by omega), ?_⟩ | refine ⟨rfl, ⟨by omega, by omega, by omega⟩, ?_⟩ | refine ⟨⟨rfl, rfl⟩, ?_⟩ | refine ⟨⟨rfl, rfl, rfl⟩, ?_⟩ | refine ⟨⟨rfl, rfl, by decide⟩, ?_⟩ | refine ⟨rfl, ?_⟩ | refine ⟨⟨by omega, by omega⟩, ⟨rfl, rfl⟩, ?_⟩ | refine ⟨in64 (by omega) (by omega), ?_⟩ | refine Br.dec (fun _ => ?_) (fun hh => absurd (by omega) hh) | refine Br.dec (fun hh => absurd hh (by omega)) (fun _ => ?_) | refine Br.eq (fun _ => ?_) (fun hh => absurd (by omega) hh) | refine Br.eq (fun hh => absurd hh (by omega)) (fun _ => ?_) | refine Br.ne (fun _ => ?_) (fun hh => absurd (by omega) hh) | refine Br.ne (fun hh => absurd hh (by omega)) (fun _ => ?_) | refine ⟨_, rfl, ?_⟩ | rw [← List.map_drop, ← List.map_take]); conv => whnf)
        refine Br.eq (fun h1 => ?_) (fun h1 => ?_)
        · rw [if_pos h1] at hf
          (try conv => whnf); repeat ((first | refine (c_policy_live l[k] hsk).go rfl ?_ | refine ⟨_, (c_policy_live l[k] hsk).go rfl ⟨rfl, rfl⟩, ?_⟩ | refine And.intro (show cellsAll _ _ from by repeat (first | exact trivial | refine ⟨⟨rfl, rfl⟩, ?_⟩)) ?_ | refine ⟨_, getZ (by omega), ?_⟩ | refine ⟨_, getI (by omega) (by omega), ?_⟩ | refine ⟨by omega, rfl, ?_⟩ | refine ⟨by (simp; omega), rfl, ?_⟩ | refine ⟨rfl, _, rfl, ⟨rfl, rfl, by decide⟩, ?_⟩ | refine ⟨rfl, _, rfl, ?_⟩ | refine ⟨rfl, _, getO (by omega), ?_⟩ | refine ⟨rfl, ⟨by omega, by omega, by omega⟩, ?_⟩ | refine ⟨⟨rfl, rfl⟩, ?_⟩ | refine ⟨⟨rfl, rfl, rfl⟩, ?_⟩ | refine ⟨⟨rfl, rfl, by decide⟩, ?_⟩ | refine ⟨rfl, ?_⟩ | refine ⟨⟨by omega, by omega⟩, ⟨rfl, rfl⟩, ?_⟩ | refine ⟨in64 (by omega) (by omega), ?_⟩ | refine Br.dec (fun _ => ?_) (fun hh => absurd (by omega) hh) | refine Br.dec (fun hh => absurd hh (by omega)) (fun _ => ?_) | refine Br.eq (fun _ => ?_) (fun hh => absurd (by omega) hh) | refine Br.eq (fun hh => absurd hh (by omega)) (fun _ => ?_) | refine Br.ne (fun _ => ?_) (fun hh => absurd (by omega) hh) | refine Br.ne (fun hh => absurd hh (by omega)) (fun _ => ?_) | refine ⟨_, rfl, ?_⟩ | rw [← List.map_drop, ← List.map_take]); conv => whnf)
          refine ⟨⟨k + 1, hk', by omega, Refi.back (L := [.arr 0 4 [.g (tsize l[k])]]) rfl (Nat.zero_le _) (fun _ h => by cases h) ?_⟩⟩
          rw [hps, hf, allS_app, List.length_append]; simp [allS, subT, subV, tm, tmGo, sizes, ints, tints, cutV, ltB, ltS]
        · rw [if_neg h1] at hf
          (try conv => whnf); repeat ((first | refine (c_policy_live l[k] hsk).go rfl ?_ | refine ⟨_, (c_policy_live l[k] hsk).go rfl ⟨rfl, rfl⟩, ?_⟩ | refine And.intro (show cellsAll _ _ from by repeat (first | exact trivial | refine ⟨⟨rfl, rfl⟩, ?_⟩)) ?_ | refine ⟨_, getZ (by omega), ?_⟩ | refine ⟨_, getI (by omega) (by omega), ?_⟩ | refine ⟨by omega, rfl, ?_⟩ | refine ⟨by (simp; omega), rfl, ?_⟩ | refine ⟨rfl, _, rfl, ⟨rfl, rfl, by decide⟩, ?_⟩ | refine ⟨rfl, _, rfl, ?_⟩ | refine ⟨rfl, _, getO (by omega), ?_⟩ | refine ⟨rfl, ⟨by omega, by omega, by omega⟩, ?_⟩ | refine ⟨⟨rfl, rfl⟩, ?_⟩ | refine ⟨⟨rfl, rfl, rfl⟩, ?_⟩ | refine ⟨⟨rfl, rfl, by decide⟩, ?_⟩ | refine ⟨rfl, ?_⟩ | refine ⟨⟨by omega, by omega⟩, ⟨rfl, rfl⟩, ?_⟩ | refine ⟨in64 (by omega) (by omega), ?_⟩ | refine Br.dec (fun _ => ?_) (fun hh => absurd (by omega) hh) | refine Br.dec (fun hh => absurd hh (by omega)) (fun _ => ?_) | refine Br.eq (fun _ => ?_) (fun hh => absurd (by omega) hh) | refine Br.eq (fun hh => absurd hh (by omega)) (fun _ => ?_) | refine Br.ne (fun _ => ?_) (fun hh => absurd (by omega) hh) | refine Br.ne (fun hh => absurd hh (by omega)) (fun _ => ?_) | refine ⟨_, rfl, ?_⟩ | rw [← List.map_drop, ← List.map_take]); conv => whnf)
          refine ⟨⟨k + 1, hk', by omega, Refi.back (L := [.arr 0 4 [.g (tsize l[k])]]) rfl (Nat.zero_le _) (fun _ h => by cases h) ?_⟩⟩
          rw [hps, hf, allS_app, List.length_append]; simp [allS, subT, subV, tm, tmGo, sizes, ints, tints, cutV, ltB, ltS]
      · have hi : inP p l[k] = false := decide_eq_false hin
        rw [hi] at hf
        rw [if_neg (by rw [hi]; simp), List.append_nil] at hps
        rw [decide_eq_false hin] at hcon
        (try conv => whnf); repeat ((first | refine (hcon).go rfl ?_ | refine ⟨_, (hcon).go rfl ⟨rfl, rfl⟩, ?_⟩ | refine And.intro (show cellsAll _ _ from by repeat (first | exact trivial | refine ⟨⟨rfl, rfl⟩, ?_⟩)) ?_ | refine ⟨_, getZ (by omega), ?_⟩ | refine ⟨_, getI (by omega) (by omega), ?_⟩ | refine ⟨by omega, rfl, ?_⟩ | refine ⟨by (simp; omega), rfl, ?_⟩ | refine ⟨rfl, _, rfl, ⟨rfl, rfl, by decide⟩, ?_⟩ | refine ⟨rfl, _, rfl, ?_⟩ | refine ⟨rfl, _, getO (by omega), ?_⟩ | refine ⟨rfl, ⟨by omega, by omega, by omega⟩, ?_⟩ | refine ⟨⟨rfl, rfl⟩, ?_⟩ | refine ⟨⟨rfl, rfl, rfl⟩, ?_⟩ | refine ⟨⟨rfl, rfl, by decide⟩, ?_⟩ | refine ⟨rfl, ?_⟩ | refine ⟨⟨by omega, by omega⟩, ⟨rfl, rfl⟩, ?_⟩ | refine ⟨in64 (by omega) (by omega), ?_⟩ | refine Br.dec (fun _ => ?_) (fun hh => absurd (by omega) hh) | refine Br.dec (fun hh => absurd hh (by omega)) (fun _ => ?_) | refine Br.eq (fun _ => ?_) (fun hh => absurd (by omega) hh) | refine Br.eq (fun hh => absurd hh (by omega)) (fun _ => ?_) | refine Br.ne (fun _ => ?_) (fun hh => absurd (by omega) hh) | refine Br.ne (fun hh => absurd hh (by omega)) (fun _ => ?_) | refine ⟨_, rfl, ?_⟩ | rw [← List.map_drop, ← List.map_take]); conv => whnf)
        refine ⟨⟨k + 1, hk', by omega, Refi.back (L := [.arr 0 4 [.g (tsize l[k])]]) rfl (Nat.zero_le _) (fun _ h => by cases h) ?_⟩⟩
        rw [hps]
        by_cases hf1 : firK l p k = -1
        · rw [if_pos hf1, if_neg (by simp)] at hf
          rw [hf, hf1]; simp [subT, subV, tm, tmGo, sizes, ints, tints, cutV, ltB, ltS]
        · rw [if_neg hf1] at hf
          rw [hf]; simp [subT, subV, tm, tmGo, sizes, ints, tints, cutV, ltB, ltS]
    · have : k = l.length := by omega
      subst this
      rw [List.take_length]
      have hnone : ((pick l p).length = 0 ∨ (pick l p).length ≠ p.length ∨ 64 < allS (pick l p) ∨ 34359738367 < gen) → oneS l p gen = none := fun h => by rw [oneS, if_pos h]
      have hA := allS_le (pick_sane (p := p) hs)
      have hpl := pick_len (l := l) (p := p)
      (try conv => whnf); repeat ((first | refine And.intro (show cellsAll _ _ from by repeat (first | exact trivial | refine ⟨⟨rfl, rfl⟩, ?_⟩)) ?_ | refine ⟨_, getZ (by omega), ?_⟩ | refine ⟨_, getI (by omega) (by omega), ?_⟩ | refine ⟨by omega, rfl, ?_⟩ | refine ⟨by (simp; omega), rfl, ?_⟩ | refine ⟨rfl, _, rfl, ⟨rfl, rfl, by decide⟩, ?_⟩ | refine ⟨rfl, _, rfl, ?_⟩ | refine ⟨rfl, _, getO (by omega), ?_⟩ | refine ⟨rfl, ⟨by omega, by omega, by omega⟩, ?_⟩ | refine ⟨⟨rfl, rfl⟩, ?_⟩ | refine ⟨⟨rfl, rfl, rfl⟩, ?_⟩ | refine ⟨⟨rfl, rfl, by decide⟩, ?_⟩ | refine ⟨rfl, ?_⟩ | refine ⟨⟨by omega, by omega⟩, ⟨rfl, rfl⟩, ?_⟩ | refine ⟨in64 (by omega) (by omega), ?_⟩ | refine Br.dec (fun _ => ?_) (fun hh => absurd (by omega) hh) | refine Br.dec (fun hh => absurd hh (by omega)) (fun _ => ?_) | refine Br.eq (fun _ => ?_) (fun hh => absurd (by omega) hh) | refine Br.eq (fun hh => absurd hh (by omega)) (fun _ => ?_) | refine Br.ne (fun _ => ?_) (fun hh => absurd (by omega) hh) | refine Br.ne (fun hh => absurd hh (by omega)) (fun _ => ?_) | refine ⟨_, rfl, ?_⟩ | rw [← List.map_drop, ← List.map_take]); conv => whnf)
      refine Br.eq (fun h1 => ?_) (fun h1 => ?_)
      · rw [hnone (.inl (firK_none.1 h1))]
        (try conv => whnf); repeat ((first | refine And.intro (show cellsAll _ _ from by repeat (first | exact trivial | refine ⟨⟨rfl, rfl⟩, ?_⟩)) ?_ | refine ⟨_, getZ (by omega), ?_⟩ | refine ⟨_, getI (by omega) (by omega), ?_⟩ | refine ⟨by omega, rfl, ?_⟩ | refine ⟨by (simp; omega), rfl, ?_⟩ | refine ⟨rfl, _, rfl, ⟨rfl, rfl, by decide⟩, ?_⟩ | refine ⟨rfl, _, rfl, ?_⟩ | refine ⟨rfl, _, getO (by omega), ?_⟩ | refine ⟨rfl, ⟨by omega, by omega, by omega⟩, ?_⟩ | refine ⟨⟨rfl, rfl⟩, ?_⟩ | refine ⟨⟨rfl, rfl, rfl⟩, ?_⟩ | refine ⟨⟨rfl, rfl, by decide⟩, ?_⟩ | refine ⟨rfl, ?_⟩ | refine ⟨⟨by omega, by omega⟩, ⟨rfl, rfl⟩, ?_⟩ | refine ⟨in64 (by omega) (by omega), ?_⟩ | refine Br.dec (fun _ => ?_) (fun hh => absurd (by omega) hh) | refine Br.dec (fun hh => absurd hh (by omega)) (fun _ => ?_) | refine Br.eq (fun _ => ?_) (fun hh => absurd (by omega) hh) | refine Br.eq (fun hh => absurd hh (by omega)) (fun _ => ?_) | refine Br.ne (fun _ => ?_) (fun hh => absurd (by omega) hh) | refine Br.ne (fun hh => absurd hh (by omega)) (fun _ => ?_) | refine ⟨_, rfl, ?_⟩ | rw [← List.map_drop, ← List.map_take]); conv => whnf)
        exact ⟨Ends.grounds (H := []) (L := []) 0 (ts := [tsizes [], .b false]) rfl ⟨rfl, rfl⟩⟩
      · (try conv => whnf); repeat ((first | refine And.intro (show cellsAll _ _ from by repeat (first | exact trivial | refine ⟨⟨rfl, rfl⟩, ?_⟩)) ?_ | refine ⟨_, getZ (by omega), ?_⟩ | refine ⟨_, getI (by omega) (by omega), ?_⟩ | refine ⟨by omega, rfl, ?_⟩ | refine ⟨by (simp; omega), rfl, ?_⟩ | refine ⟨rfl, _, rfl, ⟨rfl, rfl, by decide⟩, ?_⟩ | refine ⟨rfl, _, rfl, ?_⟩ | refine ⟨rfl, _, getO (by omega), ?_⟩ | refine ⟨rfl, ⟨by omega, by omega, by omega⟩, ?_⟩ | refine ⟨⟨rfl, rfl⟩, ?_⟩ | refine ⟨⟨rfl, rfl, rfl⟩, ?_⟩ | refine ⟨⟨rfl, rfl, by decide⟩, ?_⟩ | refine ⟨rfl, ?_⟩ | refine ⟨⟨by omega, by omega⟩, ⟨rfl, rfl⟩, ?_⟩ | refine ⟨in64 (by omega) (by omega), ?_⟩ | refine Br.dec (fun _ => ?_) (fun hh => absurd (by omega) hh) | refine Br.dec (fun hh => absurd hh (by omega)) (fun _ => ?_) | refine Br.eq (fun _ => ?_) (fun hh => absurd (by omega) hh) | refine Br.eq (fun hh => absurd hh (by omega)) (fun _ => ?_) | refine Br.ne (fun _ => ?_) (fun hh => absurd (by omega) hh) | refine Br.ne (fun hh => absurd hh (by omega)) (fun _ => ?_) | refine ⟨_, rfl, ?_⟩ | rw [← List.map_drop, ← List.map_take]); conv => whnf)
        refine Br.ne (fun h2 => ?_) (fun h2 => ?_)
        · rw [hnone (.inr (.inl (by omega)))]
          (try conv => whnf); repeat ((first | refine And.intro (show cellsAll _ _ from by repeat (first | exact trivial | refine ⟨⟨rfl, rfl⟩, ?_⟩)) ?_ | refine ⟨_, getZ (by omega), ?_⟩ | refine ⟨_, getI (by omega) (by omega), ?_⟩ | refine ⟨by omega, rfl, ?_⟩ | refine ⟨by (simp; omega), rfl, ?_⟩ | refine ⟨rfl, _, rfl, ⟨rfl, rfl, by decide⟩, ?_⟩ | refine ⟨rfl, _, rfl, ?_⟩ | refine ⟨rfl, _, getO (by omega), ?_⟩ | refine ⟨rfl, ⟨by omega, by omega, by omega⟩, ?_⟩ | refine ⟨⟨rfl, rfl⟩, ?_⟩ | refine ⟨⟨rfl, rfl, rfl⟩, ?_⟩ | refine ⟨⟨rfl, rfl, by decide⟩, ?_⟩ | refine ⟨rfl, ?_⟩ | refine ⟨⟨by omega, by omega⟩, ⟨rfl, rfl⟩, ?_⟩ | refine ⟨in64 (by omega) (by omega), ?_⟩ | refine Br.dec (fun _ => ?_) (fun hh => absurd (by omega) hh) | refine Br.dec (fun hh => absurd hh (by omega)) (fun _ => ?_) | refine Br.eq (fun _ => ?_) (fun hh => absurd (by omega) hh) | refine Br.eq (fun hh => absurd hh (by omega)) (fun _ => ?_) | refine Br.ne (fun _ => ?_) (fun hh => absurd (by omega) hh) | refine Br.ne (fun hh => absurd hh (by omega)) (fun _ => ?_) | refine ⟨_, rfl, ?_⟩ | rw [← List.map_drop, ← List.map_take]); conv => whnf)
          exact ⟨Ends.grounds (H := []) (L := []) 0 (ts := [tsizes [], .b false]) rfl ⟨rfl, rfl⟩⟩
        · (try conv => whnf); repeat ((first | refine And.intro (show cellsAll _ _ from by repeat (first | exact trivial | refine ⟨⟨rfl, rfl⟩, ?_⟩)) ?_ | refine ⟨_, getZ (by omega), ?_⟩ | refine ⟨_, getI (by omega) (by omega), ?_⟩ | refine ⟨by omega, rfl, ?_⟩ | refine ⟨by (simp; omega), rfl, ?_⟩ | refine ⟨rfl, _, rfl, ⟨rfl, rfl, by decide⟩, ?_⟩ | refine ⟨rfl, _, rfl, ?_⟩ | refine ⟨rfl, _, getO (by omega), ?_⟩ | refine ⟨rfl, ⟨by omega, by omega, by omega⟩, ?_⟩ | refine ⟨⟨rfl, rfl⟩, ?_⟩ | refine ⟨⟨rfl, rfl, rfl⟩, ?_⟩ | refine ⟨⟨rfl, rfl, by decide⟩, ?_⟩ | refine ⟨rfl, ?_⟩ | refine ⟨⟨by omega, by omega⟩, ⟨rfl, rfl⟩, ?_⟩ | refine ⟨in64 (by omega) (by omega), ?_⟩ | refine Br.dec (fun _ => ?_) (fun hh => absurd (by omega) hh) | refine Br.dec (fun hh => absurd hh (by omega)) (fun _ => ?_) | refine Br.eq (fun _ => ?_) (fun hh => absurd (by omega) hh) | refine Br.eq (fun hh => absurd hh (by omega)) (fun _ => ?_) | refine Br.ne (fun _ => ?_) (fun hh => absurd (by omega) hh) | refine Br.ne (fun hh => absurd hh (by omega)) (fun _ => ?_) | refine ⟨_, rfl, ?_⟩ | rw [← List.map_drop, ← List.map_take]); conv => whnf)
          refine Br.dec (fun h3 => ?_) (fun h3 => ?_)
          · rw [hnone (.inr (.inr (.inl (by omega))))]
            (try conv => whnf); repeat ((first | refine And.intro (show cellsAll _ _ from by repeat (first | exact trivial | refine ⟨⟨rfl, rfl⟩, ?_⟩)) ?_ | refine ⟨_, getZ (by omega), ?_⟩ | refine ⟨_, getI (by omega) (by omega), ?_⟩ | refine ⟨by omega, rfl, ?_⟩ | refine ⟨by (simp; omega), rfl, ?_⟩ | refine ⟨rfl, _, rfl, ⟨rfl, rfl, by decide⟩, ?_⟩ | refine ⟨rfl, _, rfl, ?_⟩ | refine ⟨rfl, _, getO (by omega), ?_⟩ | refine ⟨rfl, ⟨by omega, by omega, by omega⟩, ?_⟩ | refine ⟨⟨rfl, rfl⟩, ?_⟩ | refine ⟨⟨rfl, rfl, rfl⟩, ?_⟩ | refine ⟨⟨rfl, rfl, by decide⟩, ?_⟩ | refine ⟨rfl, ?_⟩ | refine ⟨⟨by omega, by omega⟩, ⟨rfl, rfl⟩, ?_⟩ | refine ⟨in64 (by omega) (by omega), ?_⟩ | refine Br.dec (fun _ => ?_) (fun hh => absurd (by omega) hh) | refine Br.dec (fun hh => absurd hh (by omega)) (fun _ => ?_) | refine Br.eq (fun _ => ?_) (fun hh => absurd (by omega) hh) | refine Br.eq (fun hh => absurd hh (by omega)) (fun _ => ?_) | refine Br.ne (fun _ => ?_) (fun hh => absurd (by omega) hh) | refine Br.ne (fun hh => absurd hh (by omega)) (fun _ => ?_) | refine ⟨_, rfl, ?_⟩ | rw [← List.map_drop, ← List.map_take]); conv => whnf)
            exact ⟨Ends.grounds (H := []) (L := []) 0 (ts := [tsizes [], .b false]) rfl ⟨rfl, rfl⟩⟩
          · (try conv => whnf); repeat ((first | refine And.intro (show cellsAll _ _ from by repeat (first | exact trivial | refine ⟨⟨rfl, rfl⟩, ?_⟩)) ?_ | refine ⟨_, getZ (by omega), ?_⟩ | refine ⟨_, getI (by omega) (by omega), ?_⟩ | refine ⟨by omega, rfl, ?_⟩ | refine ⟨by (simp; omega), rfl, ?_⟩ | refine ⟨rfl, _, rfl, ⟨rfl, rfl, by decide⟩, ?_⟩ | refine ⟨rfl, _, rfl, ?_⟩ | refine ⟨rfl, _, getO (by omega), ?_⟩ | refine ⟨rfl, ⟨by omega, by omega, by omega⟩, ?_⟩ | refine ⟨⟨rfl, rfl⟩, ?_⟩ | refine ⟨⟨rfl, rfl, rfl⟩, ?_⟩ | refine ⟨⟨rfl, rfl, by decide⟩, ?_⟩ | refine ⟨rfl, ?_⟩ | refine ⟨⟨by omega, by omega⟩, ⟨rfl, rfl⟩, ?_⟩ | refine ⟨in64 (by omega) (by omega), ?_⟩ | refine Br.dec (fun _ => ?_) (fun hh => absurd (by omega) hh) | refine Br.dec (fun hh => absurd hh (by omega)) (fun _ => ?_) | refine Br.eq (fun _ => ?_) (fun hh => absurd (by omega) hh) | refine Br.eq (fun hh => absurd hh (by omega)) (fun _ => ?_) | refine Br.ne (fun _ => ?_) (fun hh => absurd (by omega) hh) | refine Br.ne (fun hh => absurd hh (by omega)) (fun _ => ?_) | refine ⟨_, rfl, ?_⟩ | rw [← List.map_drop, ← List.map_take]); conv => whnf)
            refine Br.dec (fun h4 => ?_) (fun h4 => ?_)
            · rw [hnone (.inr (.inr (.inr (by omega))))]
              (try conv => whnf); repeat ((first | refine And.intro (show cellsAll _ _ from by repeat (first | exact trivial | refine ⟨⟨rfl, rfl⟩, ?_⟩)) ?_ | refine ⟨_, getZ (by omega), ?_⟩ | refine ⟨_, getI (by omega) (by omega), ?_⟩ | refine ⟨by omega, rfl, ?_⟩ | refine ⟨by (simp; omega), rfl, ?_⟩ | refine ⟨rfl, _, rfl, ⟨rfl, rfl, by decide⟩, ?_⟩ | refine ⟨rfl, _, rfl, ?_⟩ | refine ⟨rfl, _, getO (by omega), ?_⟩ | refine ⟨rfl, ⟨by omega, by omega, by omega⟩, ?_⟩ | refine ⟨⟨rfl, rfl⟩, ?_⟩ | refine ⟨⟨rfl, rfl, rfl⟩, ?_⟩ | refine ⟨⟨rfl, rfl, by decide⟩, ?_⟩ | refine ⟨rfl, ?_⟩ | refine ⟨⟨by omega, by omega⟩, ⟨rfl, rfl⟩, ?_⟩ | refine ⟨in64 (by omega) (by omega), ?_⟩ | refine Br.dec (fun _ => ?_) (fun hh => absurd (by omega) hh) | refine Br.dec (fun hh => absurd hh (by omega)) (fun _ => ?_) | refine Br.eq (fun _ => ?_) (fun hh => absurd (by omega) hh) | refine Br.eq (fun hh => absurd hh (by omega)) (fun _ => ?_) | refine Br.ne (fun _ => ?_) (fun hh => absurd (by omega) hh) | refine Br.ne (fun hh => absurd hh (by omega)) (fun _ => ?_) | refine ⟨_, rfl, ?_⟩ | rw [← List.map_drop, ← List.map_take]); conv => whnf)
              exact ⟨Ends.grounds (H := []) (L := []) 0 (ts := [tsizes [], .b false]) rfl ⟨rfl, rfl⟩⟩
            · have hsome : oneS l p gen = some (outK l p (merged gen (allS (pick l p))) l.length) := by
                rw [oneS, if_neg]
                have := firK_none (l := l) (p := p)
                rintro (h | h | h | h)
                · exact h1 (this.2 h)
                · omega
                · omega
                · omega
              rw [hsome]
              obtain ⟨M, hM⟩ : ∃ M, M = merged gen (allS (pick l p)) := ⟨_, rfl⟩
              rw [← hM]
              have hMd : M.docs = allS (pick l p) := by rw [hM]; rfl
              have hMt : tsize M = .ag [.i gen, .i (allS (pick l p)), .i 0, .b false] := by rw [hM]; rfl
              (try conv => whnf); repeat ((first | refine And.intro (show cellsAll _ _ from by repeat (first | exact trivial | refine ⟨⟨rfl, rfl⟩, ?_⟩)) ?_ | refine ⟨_, getZ (by omega), ?_⟩ | refine ⟨_, getI (by omega) (by omega), ?_⟩ | refine ⟨by omega, rfl, ?_⟩ | refine ⟨by (simp; omega), rfl, ?_⟩ | refine ⟨rfl, _, rfl, ⟨rfl, rfl, by decide⟩, ?_⟩ | refine ⟨rfl, _, rfl, ?_⟩ | refine ⟨rfl, _, getO (by omega), ?_⟩ | refine ⟨rfl, ⟨by omega, by omega, by omega⟩, ?_⟩ | refine ⟨⟨rfl, rfl⟩, ?_⟩ | refine ⟨⟨rfl, rfl, rfl⟩, ?_⟩ | refine ⟨⟨rfl, rfl, by decide⟩, ?_⟩ | refine ⟨rfl, ?_⟩ | refine ⟨⟨by omega, by omega⟩, ⟨rfl, rfl⟩, ?_⟩ | refine ⟨in64 (by omega) (by omega), ?_⟩ | refine Br.dec (fun _ => ?_) (fun hh => absurd (by omega) hh) | refine Br.dec (fun hh => absurd hh (by omega)) (fun _ => ?_) | refine Br.eq (fun _ => ?_) (fun hh => absurd (by omega) hh) | refine Br.eq (fun hh => absurd hh (by omega)) (fun _ => ?_) | refine Br.ne (fun _ => ?_) (fun hh => absurd (by omega) hh) | refine Br.ne (fun hh => absurd hh (by omega)) (fun _ => ?_) | refine ⟨_, rfl, ?_⟩ | rw [← List.map_drop, ← List.map_take]); conv => whnf)
              refine SW.loopR (α := Nat) (fun k => tm 86 [(0, sizes l), (1, ints p), (2, .g (.i gen)), (8, .g (.i (firK l p l.length))), (9, .g (.i (allS (pick l p)))), (13, .own 0 (outK l p M k).length 0 (outK l p M k).length), (53, sizes l), (54, .g (.i l.length)), (55, .g (.i k))]) (fun k => [.arr (outK l p M k).length 4 (vsz (outK l p M k))]) (fun k => k ≤ l.length) (fun k => l.length - k) 0 ?_ ?_ ?_
              · exact Nat.zero_le _
              · exact (Refi.valloc 13 4 rfl).trans (Refi.sub rfl (by simp [subT, subV, tm, tmGo, sizes, tsizes, ints, tints, setT, outK]))
              · intro k hk
                dsimp only at hk ⊢
                conv => whnf
                refine Br.dec (fun h => ?_) (fun h => ?_)
                · have hk' : k < l.length := by omega
                  have hst := outK_succ (p := p) (m := M) hk'
                  have hfi := first_iff (p := p) hk'
                  have hol := outK_len (l := l) (p := p) (m := M) (k := k)
                  have hcon := c_slices_Contains_Lint_int p l[k].gen hp
                  have same : stepO l p M k l[k] = [] → outK l p M (k + 1) = outK l p M k := fun h => by rw [hst, h, List.append_nil]
                  by_cases h5 : firK l p l.length = (k : Int)
                  · obtain ⟨hi, hno⟩ := hfi.1 h5
                    have hin : l[k].gen ∈ p := of_decide_eq_true hi
                    rw [decide_eq_true hin] at hcon
                    rw [h5]
                    (try conv => whnf); repeat ((first | refine (hcon).go rfl ?_ | refine ⟨_, (hcon).go rfl ⟨rfl, rfl⟩, ?_⟩ | refine And.intro (show cellsAll _ _ from by repeat (first | exact trivial | refine ⟨⟨rfl, rfl⟩, ?_⟩)) ?_ | refine ⟨_, getZ (by omega), ?_⟩ | refine ⟨_, getI (by omega) (by omega), ?_⟩ | refine ⟨by omega, rfl, ?_⟩ | refine ⟨by (simp; omega), rfl, ?_⟩ | refine ⟨rfl, _, rfl, ⟨rfl, rfl, by decide⟩, ?_⟩ | refine ⟨rfl, _, rfl, ?_⟩ | refine ⟨rfl, _, getO (by omega), ?_⟩ | refine ⟨rfl, ⟨by omega, by omega, by omega⟩, ?_⟩ | refine ⟨⟨rfl, rfl⟩, ?_⟩ | refine ⟨⟨rfl, rfl, rfl⟩, ?_⟩ | refine ⟨⟨rfl, rfl, by decide⟩, ?_⟩ | refine ⟨rfl, ?_⟩ | refine ⟨⟨by omega, by omega⟩, ⟨rfl, rfl⟩, ?_⟩ | refine ⟨in64 (by omega) (by omega), ?_⟩ | refine Br.dec (fun _ => ?_) (fun hh => absurd (by omega) hh) | refine Br.dec (fun hh => absurd hh (by omega)) (fun _ => ?_) | refine Br.eq (fun _ => ?_) (fun hh => absurd (by omega) hh) | refine Br.eq (fun hh => absurd hh (by omega)) (fun _ => ?_) | refine Br.ne (fun _ => ?_) (fun hh => absurd (by omega) hh) | refine Br.ne (fun hh => absurd hh (by omega)) (fun _ => ?_) | refine ⟨_, rfl, ?_⟩ | rw [← List.map_drop, ← List.map_take]); conv => whnf)
                    refine Br.dec (fun h6 => ?_) (fun h6 => ?_)
                    · rw [stepO, if_pos hi, if_neg (by rw [hMd, hno]; simp; omega)] at hst
                      (try conv => whnf); repeat ((first | refine And.intro (show cellsAll _ _ from by repeat (first | exact trivial | refine ⟨⟨rfl, rfl⟩, ?_⟩)) ?_ | refine ⟨_, getZ (by omega), ?_⟩ | refine ⟨_, getI (by omega) (by omega), ?_⟩ | refine ⟨by omega, rfl, ?_⟩ | refine ⟨by (simp; omega), rfl, ?_⟩ | refine ⟨rfl, _, rfl, ⟨rfl, rfl, by decide⟩, ?_⟩ | refine ⟨rfl, _, rfl, ?_⟩ | refine ⟨rfl, _, getO (by omega), ?_⟩ | refine ⟨rfl, ⟨by omega, by omega, by omega⟩, ?_⟩ | refine ⟨⟨rfl, rfl⟩, ?_⟩ | refine ⟨⟨rfl, rfl, rfl⟩, ?_⟩ | refine ⟨⟨rfl, rfl, by decide⟩, ?_⟩ | refine ⟨rfl, ?_⟩ | refine ⟨⟨by omega, by omega⟩, ⟨rfl, rfl⟩, ?_⟩ | refine ⟨in64 (by omega) (by omega), ?_⟩ | refine Br.dec (fun _ => ?_) (fun hh => absurd (by omega) hh) | refine Br.dec (fun hh => absurd hh (by omega)) (fun _ => ?_) | refine Br.eq (fun _ => ?_) (fun hh => absurd (by omega) hh) | refine Br.eq (fun hh => absurd hh (by omega)) (fun _ => ?_) | refine Br.ne (fun _ => ?_) (fun hh => absurd (by omega) hh) | refine Br.ne (fun hh => absurd hh (by omega)) (fun _ => ?_) | refine ⟨_, rfl, ?_⟩ | rw [← List.map_drop, ← List.map_take]); conv => whnf)
                      refine ⟨by simp; omega, ⟨rfl, rfl, rfl⟩, _, ⟨[], (List.append_nil _).symm⟩, by simp [vsz], ?_⟩
                      (try conv => whnf); repeat ((first | refine And.intro (show cellsAll _ _ from by repeat (first | exact trivial | refine ⟨⟨rfl, rfl⟩, ?_⟩)) ?_ | refine ⟨_, getZ (by omega), ?_⟩ | refine ⟨_, getI (by omega) (by omega), ?_⟩ | refine ⟨by omega, rfl, ?_⟩ | refine ⟨by (simp; omega), rfl, ?_⟩ | refine ⟨rfl, _, rfl, ⟨rfl, rfl, by decide⟩, ?_⟩ | refine ⟨rfl, _, rfl, ?_⟩ | refine ⟨rfl, _, getO (by omega), ?_⟩ | refine ⟨rfl, ⟨by omega, by omega, by omega⟩, ?_⟩ | refine ⟨⟨rfl, rfl⟩, ?_⟩ | refine ⟨⟨rfl, rfl, rfl⟩, ?_⟩ | refine ⟨⟨rfl, rfl, by decide⟩, ?_⟩ | refine ⟨rfl, ?_⟩ | refine ⟨⟨by omega, by omega⟩, ⟨rfl, rfl⟩, ?_⟩ | refine ⟨in64 (by omega) (by omega), ?_⟩ | refine Br.dec (fun _ => ?_) (fun hh => absurd (by omega) hh) | refine Br.dec (fun hh => absurd hh (by omega)) (fun _ => ?_) | refine Br.eq (fun _ => ?_) (fun hh => absurd (by omega) hh) | refine Br.eq (fun hh => absurd hh (by omega)) (fun _ => ?_) | refine Br.ne (fun _ => ?_) (fun hh => absurd (by omega) hh) | refine Br.ne (fun hh => absurd hh (by omega)) (fun _ => ?_) | refine ⟨_, rfl, ?_⟩ | rw [← List.map_drop, ← List.map_take]); conv => whnf)
                      refine ⟨⟨k + 1, hk', by omega, Refi.back (L := [.arr 0 4 [.g (tsize l[k])]]) ?_ (Nat.zero_le _) (lt_all1 Blk.lt_g) ?_⟩⟩
                      · rw [hst]; simp [vsz, hMt]; rfl
                      · rw [hst]; simp [subT, subV, tm, tmGo, sizes, ints, cutV, ltB, ltS]
                    · have hsame := same (by rw [stepO, if_pos hi, if_pos (.inl (by rw [hMd]; omega))])
                      (try conv => whnf); repeat ((first | refine (hcon).go rfl ?_ | refine ⟨_, (hcon).go rfl ⟨rfl, rfl⟩, ?_⟩ | refine And.intro (show cellsAll _ _ from by repeat (first | exact trivial | refine ⟨⟨rfl, rfl⟩, ?_⟩)) ?_ | refine ⟨_, getZ (by omega), ?_⟩ | refine ⟨_, getI (by omega) (by omega), ?_⟩ | refine ⟨by omega, rfl, ?_⟩ | refine ⟨by (simp; omega), rfl, ?_⟩ | refine ⟨rfl, _, rfl, ⟨rfl, rfl, by decide⟩, ?_⟩ | refine ⟨rfl, _, rfl, ?_⟩ | refine ⟨rfl, _, getO (by omega), ?_⟩ | refine ⟨rfl, ⟨by omega, by omega, by omega⟩, ?_⟩ | refine ⟨⟨rfl, rfl⟩, ?_⟩ | refine ⟨⟨rfl, rfl, rfl⟩, ?_⟩ | refine ⟨⟨rfl, rfl, by decide⟩, ?_⟩ | refine ⟨rfl, ?_⟩ | refine ⟨⟨by omega, by omega⟩, ⟨rfl, rfl⟩, ?_⟩ | refine ⟨in64 (by omega) (by omega), ?_⟩ | refine Br.dec (fun _ => ?_) (fun hh => absurd (by omega) hh) | refine Br.dec (fun hh => absurd hh (by omega)) (fun _ => ?_) | refine Br.eq (fun _ => ?_) (fun hh => absurd (by omega) hh) | refine Br.eq (fun hh => absurd hh (by omega)) (fun _ => ?_) | refine Br.ne (fun _ => ?_) (fun hh => absurd (by omega) hh) | refine Br.ne (fun hh => absurd hh (by omega)) (fun _ => ?_) | refine ⟨_, rfl, ?_⟩ | rw [← List.map_drop, ← List.map_take]); conv => whnf)
                      refine ⟨⟨k + 1, hk', by omega, Refi.back (L := [.arr 0 4 [.g (tsize l[k])]]) ?_ (Nat.zero_le _) (lt_all1 Blk.lt_g) ?_⟩⟩
                      · rw [hsame]; rfl
                      · rw [hsame]; simp [subT, subV, tm, tmGo, sizes, ints, cutV, ltB, ltS]
                  · by_cases hin : l[k].gen ∈ p
                    · have hi : inP p l[k] = true := decide_eq_true hin
                      have hb : (l.take k).any (inP p) = true := by
                        rw [← Bool.not_eq_false]; exact fun h => h5 (hfi.2 ⟨hi, h⟩)
                      have hsame := same (by rw [stepO, if_pos hi, if_pos (.inr hb)])
                      rw [decide_eq_true hin] at hcon
                      (try conv => whnf); repeat ((first | refine (hcon).go rfl ?_ | refine ⟨_, (hcon).go rfl ⟨rfl, rfl⟩, ?_⟩ | refine And.intro (show cellsAll _ _ from by repeat (first | exact trivial | refine ⟨⟨rfl, rfl⟩, ?_⟩)) ?_ | refine ⟨_, getZ (by omega), ?_⟩ | refine ⟨_, getI (by omega) (by omega), ?_⟩ | refine ⟨by omega, rfl, ?_⟩ | refine ⟨by (simp; omega), rfl, ?_⟩ | refine ⟨rfl, _, rfl, ⟨rfl, rfl, by decide⟩, ?_⟩ | refine ⟨rfl, _, rfl, ?_⟩ | refine ⟨rfl, _, getO (by omega), ?_⟩ | refine ⟨rfl, ⟨by omega, by omega, by omega⟩, ?_⟩ | refine ⟨⟨rfl, rfl⟩, ?_⟩ | refine ⟨⟨rfl, rfl, rfl⟩, ?_⟩ | refine ⟨⟨rfl, rfl, by decide⟩, ?_⟩ | refine ⟨rfl, ?_⟩ | refine ⟨⟨by omega, by omega⟩, ⟨rfl, rfl⟩, ?_⟩ | refine ⟨in64 (by omega) (by omega), ?_⟩ | refine Br.dec (fun _ => ?_) (fun hh => absurd (by omega) hh) | refine Br.dec (fun hh => absurd hh (by omega)) (fun _ => ?_) | refine Br.eq (fun _ => ?_) (fun hh => absurd (by omega) hh) | refine Br.eq (fun hh => absurd hh (by omega)) (fun _ => ?_) | refine Br.ne (fun _ => ?_) (fun hh => absurd (by omega) hh) | refine Br.ne (fun hh => absurd hh (by omega)) (fun _ => ?_) | refine ⟨_, rfl, ?_⟩ | rw [← List.map_drop, ← List.map_take]); conv => whnf)
                      refine ⟨⟨k + 1, hk', by omega, Refi.back (L := [.arr 0 4 [.g (tsize l[k])]]) ?_ (Nat.zero_le _) (lt_all1 Blk.lt_g) ?_⟩⟩
                      · rw [hsame]; rfl
                      · rw [hsame]; simp [subT, subV, tm, tmGo, sizes, ints, cutV, ltB, ltS]
                    · have hi : inP p l[k] = false := decide_eq_false hin
                      rw [stepO, hi, if_neg (by simp)] at hst
                      rw [decide_eq_false hin] at hcon
                      (try conv => whnf); repeat ((first | refine (hcon).go rfl ?_ | refine ⟨_, (hcon).go rfl ⟨rfl, rfl⟩, ?_⟩ | refine And.intro (show cellsAll _ _ from by repeat (first | exact trivial | refine ⟨⟨rfl, rfl⟩, ?_⟩)) ?_ | refine ⟨_, getZ (by omega), ?_⟩ | refine ⟨_, getI (by omega) (by omega), ?_⟩ | refine ⟨by omega, rfl, ?_⟩ | refine ⟨by (simp; omega), rfl, ?_⟩ | refine ⟨rfl, _, rfl, ⟨rfl, rfl, by decide⟩, ?_⟩ | refine ⟨rfl, _, rfl, ?_⟩ | refine ⟨rfl, _, getO (by omega), ?_⟩ | refine ⟨rfl, ⟨by omega, by omega, by omega⟩, ?_⟩ | refine ⟨⟨rfl, rfl⟩, ?_⟩ | refine ⟨⟨rfl, rfl, rfl⟩, ?_⟩ | refine ⟨⟨rfl, rfl, by decide⟩, ?_⟩ | refine ⟨rfl, ?_⟩ | refine ⟨⟨by omega, by omega⟩, ⟨rfl, rfl⟩, ?_⟩ | refine ⟨in64 (by omega) (by omega), ?_⟩ | refine Br.dec (fun _ => ?_) (fun hh => absurd (by omega) hh) | refine Br.dec (fun hh => absurd hh (by omega)) (fun _ => ?_) | refine Br.eq (fun _ => ?_) (fun hh => absurd (by omega) hh) | refine Br.eq (fun hh => absurd hh (by omega)) (fun _ => ?_) | refine Br.ne (fun _ => ?_) (fun hh => absurd (by omega) hh) | refine Br.ne (fun hh => absurd hh (by omega)) (fun _ => ?_) | refine ⟨_, rfl, ?_⟩ | rw [← List.map_drop, ← List.map_take]); conv => whnf)
                      refine ⟨by simp; omega, ⟨rfl, rfl, rfl⟩, _, ⟨[], (List.append_nil _).symm⟩, by simp [vsz], ?_⟩
                      (try conv => whnf); repeat ((first | refine And.intro (show cellsAll _ _ from by repeat (first | exact trivial | refine ⟨⟨rfl, rfl⟩, ?_⟩)) ?_ | refine ⟨_, getZ (by omega), ?_⟩ | refine ⟨_, getI (by omega) (by omega), ?_⟩ | refine ⟨by omega, rfl, ?_⟩ | refine ⟨by (simp; omega), rfl, ?_⟩ | refine ⟨rfl, _, rfl, ⟨rfl, rfl, by decide⟩, ?_⟩ | refine ⟨rfl, _, rfl, ?_⟩ | refine ⟨rfl, _, getO (by omega), ?_⟩ | refine ⟨rfl, ⟨by omega, by omega, by omega⟩, ?_⟩ | refine ⟨⟨rfl, rfl⟩, ?_⟩ | refine ⟨⟨rfl, rfl, rfl⟩, ?_⟩ | refine ⟨⟨rfl, rfl, by decide⟩, ?_⟩ | refine ⟨rfl, ?_⟩ | refine ⟨⟨by omega, by omega⟩, ⟨rfl, rfl⟩, ?_⟩ | refine ⟨in64 (by omega) (by omega), ?_⟩ | refine Br.dec (fun _ => ?_) (fun hh => absurd (by omega) hh) | refine Br.dec (fun hh => absurd hh (by omega)) (fun _ => ?_) | refine Br.eq (fun _ => ?_) (fun hh => absurd (by omega) hh) | refine Br.eq (fun hh => absurd hh (by omega)) (fun _ => ?_) | refine Br.ne (fun _ => ?_) (fun hh => absurd (by omega) hh) | refine Br.ne (fun hh => absurd hh (by omega)) (fun _ => ?_) | refine ⟨_, rfl, ?_⟩ | rw [← List.map_drop, ← List.map_take]); conv => whnf)
                      refine ⟨⟨k + 1, hk', by omega, Refi.back (L := [.arr 0 4 [.g (tsize l[k])]]) ?_ (Nat.zero_le _) (lt_all1 Blk.lt_g) ?_⟩⟩
                      · rw [hst]; simp [vsz, tsize]; rfl
                      · rw [hst]; simp [subT, subV, tm, tmGo, sizes, ints, cutV, ltB, ltS]
                · have : k = l.length := by omega
                  subst this
                  (try conv => whnf); repeat ((first | refine And.intro (show cellsAll _ _ from by repeat (first | exact trivial | refine ⟨⟨rfl, rfl⟩, ?_⟩)) ?_ | refine ⟨_, getZ (by omega), ?_⟩ | refine ⟨_, getI (by omega) (by omega), ?_⟩ | refine ⟨by omega, rfl, ?_⟩ | refine ⟨by (simp; omega), rfl, ?_⟩ | refine ⟨rfl, _, rfl, ⟨rfl, rfl, by decide⟩, ?_⟩ | refine ⟨rfl, _, rfl, ?_⟩ | refine ⟨rfl, _, getO (by omega), ?_⟩ | refine ⟨rfl, ⟨by omega, by omega, by omega⟩, ?_⟩ | refine ⟨⟨rfl, rfl⟩, ?_⟩ | refine ⟨⟨rfl, rfl, rfl⟩, ?_⟩ | refine ⟨⟨rfl, rfl, by decide⟩, ?_⟩ | refine ⟨rfl, ?_⟩ | refine ⟨⟨by omega, by omega⟩, ⟨rfl, rfl⟩, ?_⟩ | refine ⟨in64 (by omega) (by omega), ?_⟩ | refine Br.dec (fun _ => ?_) (fun hh => absurd (by omega) hh) | refine Br.dec (fun hh => absurd hh (by omega)) (fun _ => ?_) | refine Br.eq (fun _ => ?_) (fun hh => absurd (by omega) hh) | refine Br.eq (fun hh => absurd hh (by omega)) (fun _ => ?_) | refine Br.ne (fun _ => ?_) (fun hh => absurd (by omega) hh) | refine Br.ne (fun hh => absurd hh (by omega)) (fun _ => ?_) | refine ⟨_, rfl, ?_⟩ | rw [← List.map_drop, ← List.map_take]); conv => whnf)
                  refine ⟨Ends.grounds (H := []) (L := [_]) 1 (ts := [tsizes (outK l p M l.length), .b true]) (optL2 ?_ rfl) ⟨rfl, rfl⟩⟩
                  have := gr_vsz (n := 0) (d := 0) (b := 0) (g := (outK l p M l.length).length) (off := 0) (len := (outK l p M l.length).length) (h := [.arr (outK l p M l.length).length 4 (vsz (outK l p M l.length))]) (E := outK l p M l.length) rfl (Nat.zero_le _) (by omega)
                  rw [List.drop_zero, List.take_length] at this
                  exact this
end Go.Aw
namespace Go.Aw
open Go.Proofs
set_option maxRecDepth 100000
set_option maxHeartbeats 4000000

theorem outK_mem {l : List Sz} {p : List Int} {m : Sz} : ∀ {k : Nat} {s : Sz}, s ∈ outK l p m k → s ∈ l ∨ s = m
  | 0, s, h => by simp [outK] at h
  | k + 1, s, h => by
    rw [outK, List.mem_append] at h
    rcases h with h | h
    · exact outK_mem h
    · split at h
      · rename_i x hx
        unfold stepO at h
        split at h
        · split at h
          · simp at h
          · exact .inr (by simpa using h)
        · simp at h; subst h; exact .inl (List.mem_of_getElem? hx)
      · simp at h
theorem one_sane {l o : List Sz} {p : List Int} {gen : Int} (hs : ∀ s ∈ l, sane s) (h : oneS l p gen = some o) : (∀ s ∈ o, sane s) ∧ o.length ≤ l.length := by
  unfold oneS at h
  split at h
  · cases h
  · rename_i hn
    cases h
    refine ⟨fun s hm => ?_, outK_len⟩
    rcases outK_mem hm with h1 | rfl
    · exact hs s h1
    · have := allS_le (pick_sane (p := p) hs)
      unfold sane merged
      dsimp only
      omega

def foldA (was : List Int) : List (List Int) → List Sz → Int → Option (List Sz)
  | [], out, _ => some out
  | x :: r, out, g => match oneS out x (g + 1) with
    | none => none
    | some now => if x.any (fun y => !decide (y ∈ was)) = true then none else foldA was r now (g + 1)
def topS (l : List Sz) : Int := (gensS l).foldl max 0
def afterS (l : List Sz) (p : List (List Int)) : List Sz := if mayS l = true ∧ p.flatten.Nodup then (foldA (gensS l) p l (topS l)).getD [] else []
theorem foldl_max_le {b : Int} : ∀ {xs : List Int} {a : Int}, a ≤ b → (∀ x ∈ xs, x ≤ b) → xs.foldl max a ≤ b ∧ a ≤ xs.foldl max a
  | [], a, h, _ => ⟨h, Int.le_refl _⟩
  | x :: xs, a, h, k => by
    have := foldl_max_le (xs := xs) (a := max a x) (b := b) (by have := k x (by simp); omega) fun y hy => k y (by simp [hy])
    rw [List.foldl_cons]; omega
theorem topS_le {l : List Sz} (h : mayS l = true) : 0 ≤ topS l ∧ topS l ≤ 34359738367 := by
  have := foldl_max_le (xs := gensS l) (a := 0) (b := 34359738367) (by omega) fun x hx => by
    obtain ⟨s, hs, rfl⟩ := List.mem_map.1 hx
    simp only [mayS, Bool.and_eq_true, List.all_eq_true] at h
    exact (okS_iff.1 (h.2.1 s hs)).2.1
  exact ⟨this.2, this.1⟩

theorem c_policy_After (l : List Sz) (p : List (List Int)) (hl : l.length < 1000000000) (hp : p.length < 1000000000) (hpf : p.flatten.length < 1000000000) :
    CG Try.prog 28 [tsizes l, intss p] (tsizes (afterS l p)) := by
  refine ⟨k_policy_After.calls ?_⟩
  have hmp : (p.map tints).length = p.length := by simp
  have g1 := c_policy_May l hl
  have g2 := c_policy_twice p.flatten hpf
  conv => whnf
  refine (c_slices_Concat_Lint_int p hp hpf).mono ?_
  rintro r h ⟨g, rfl, rfl⟩
  have hgr : gr 0 [Blk.arr g 1 (vintl p.flatten)] 1 (.own 0 g 0 p.flatten.length) = some (tints p.flatten) := gr_vintl rfl (Nat.le_refl _) rfl
  cases hm : mayS l <;> rw [hm] at g1
  · rw [afterS, if_neg (by simp [hm])]
    (try conv => whnf); repeat ((first | refine (g1).go rfl ?_ | refine ⟨_, (g1).go rfl ⟨rfl, rfl⟩, ?_⟩ | refine And.intro (show cellsAll _ _ from by repeat (first | exact trivial | refine ⟨⟨rfl, rfl⟩, ?_⟩)) ?_ | refine ⟨_, getZ (by omega), ?_⟩ | refine ⟨_, getI (by omega) (by omega), ?_⟩ | refine ⟨by omega, rfl, ?_⟩ | refine ⟨by (simp; omega), rfl, ?_⟩ | refine ⟨rfl, _, rfl, ⟨rfl, rfl, by decide⟩, ?_⟩ | refine ⟨rfl, _, rfl, ?_⟩ | refine ⟨rfl, _, getO (by omega), ?_⟩ | refine ⟨rfl, ⟨by omega, by omega, by omega⟩, ?_⟩ | refine ⟨⟨rfl, rfl⟩, ?_⟩ | refine ⟨⟨rfl, rfl, rfl⟩, ?_⟩ | refine ⟨⟨rfl, rfl, by decide⟩, ?_⟩ | refine ⟨rfl, ?_⟩ | refine ⟨⟨by omega, by omega⟩, ⟨rfl, rfl⟩, ?_⟩ | refine ⟨in64 (by omega) (by omega), ?_⟩ | refine Br.dec (fun _ => ?_) (fun hh => absurd (by omega) hh) | refine Br.dec (fun hh => absurd hh (by omega)) (fun _ => ?_) | refine Br.eq (fun _ => ?_) (fun hh => absurd (by omega) hh) | refine Br.eq (fun hh => absurd hh (by omega)) (fun _ => ?_) | refine Br.ne (fun _ => ?_) (fun hh => absurd (by omega) hh) | refine Br.ne (fun hh => absurd hh (by omega)) (fun _ => ?_) | refine ⟨_, rfl, ?_⟩ | rw [← List.map_drop, ← List.map_take]); conv => whnf)
    exact ⟨Ends.ground (H := []) (L := [_]) 0 rfl ⟨rfl, rfl⟩⟩
  by_cases hn : p.flatten.Nodup
  · rw [decide_eq_true hn] at g2
    have hlen := mayS_len hm
    have hs := mayS_sane hm
    have htop := topS_le hm
    rw [afterS, if_pos ⟨hm, hn⟩]
    (try conv => whnf); repeat ((first | refine (g1).go rfl ?_ | refine ⟨_, (g1).go rfl ⟨rfl, rfl⟩, ?_⟩ | refine And.intro (show cellsAll _ _ from by repeat (first | exact trivial | refine ⟨⟨rfl, rfl⟩, ?_⟩)) ?_ | refine ⟨_, getZ (by omega), ?_⟩ | refine ⟨_, getI (by omega) (by omega), ?_⟩ | refine ⟨by omega, rfl, ?_⟩ | refine ⟨by (simp; omega), rfl, ?_⟩ | refine ⟨rfl, _, rfl, ⟨rfl, rfl, by decide⟩, ?_⟩ | refine ⟨rfl, _, rfl, ?_⟩ | refine ⟨rfl, _, getO (by omega), ?_⟩ | refine ⟨rfl, ⟨by omega, by omega, by omega⟩, ?_⟩ | refine ⟨⟨rfl, rfl⟩, ?_⟩ | refine ⟨⟨rfl, rfl, rfl⟩, ?_⟩ | refine ⟨⟨rfl, rfl, by decide⟩, ?_⟩ | refine ⟨rfl, ?_⟩ | refine ⟨⟨by omega, by omega⟩, ⟨rfl, rfl⟩, ?_⟩ | refine ⟨in64 (by omega) (by omega), ?_⟩ | refine Br.dec (fun _ => ?_) (fun hh => absurd (by omega) hh) | refine Br.dec (fun hh => absurd hh (by omega)) (fun _ => ?_) | refine Br.eq (fun _ => ?_) (fun hh => absurd (by omega) hh) | refine Br.eq (fun hh => absurd hh (by omega)) (fun _ => ?_) | refine Br.ne (fun _ => ?_) (fun hh => absurd (by omega) hh) | refine Br.ne (fun hh => absurd hh (by omega)) (fun _ => ?_) | refine ⟨_, rfl, ?_⟩ | rw [← List.map_drop, ← List.map_take]); conv => whnf)
    refine CG.lend1 g2 trivial 1 hgr ?_
    (try conv => whnf); repeat ((first | refine (c_policy_gens l hl).go rfl ?_ | refine ⟨_, (c_policy_gens l hl).go rfl ⟨rfl, rfl⟩, ?_⟩ | refine And.intro (show cellsAll _ _ from by repeat (first | exact trivial | refine ⟨⟨rfl, rfl⟩, ?_⟩)) ?_ | refine ⟨_, getZ (by omega), ?_⟩ | refine ⟨_, getI (by omega) (by omega), ?_⟩ | refine ⟨by omega, rfl, ?_⟩ | refine ⟨by (simp; omega), rfl, ?_⟩ | refine ⟨rfl, _, rfl, ⟨rfl, rfl, by decide⟩, ?_⟩ | refine ⟨rfl, _, rfl, ?_⟩ | refine ⟨rfl, _, getO (by omega), ?_⟩ | refine ⟨rfl, ⟨by omega, by omega, by omega⟩, ?_⟩ | refine ⟨⟨rfl, rfl⟩, ?_⟩ | refine ⟨⟨rfl, rfl, rfl⟩, ?_⟩ | refine ⟨⟨rfl, rfl, by decide⟩, ?_⟩ | refine ⟨rfl, ?_⟩ | refine ⟨⟨by omega, by omega⟩, ⟨rfl, rfl⟩, ?_⟩ | refine ⟨in64 (by omega) (by omega), ?_⟩ | refine Br.dec (fun _ => ?_) (fun hh => absurd (by omega) hh) | refine Br.dec (fun hh => absurd hh (by omega)) (fun _ => ?_) | refine Br.eq (fun _ => ?_) (fun hh => absurd (by omega) hh) | refine Br.eq (fun hh => absurd hh (by omega)) (fun _ => ?_) | refine Br.ne (fun _ => ?_) (fun hh => absurd (by omega) hh) | refine Br.ne (fun hh => absurd hh (by omega)) (fun _ => ?_) | refine ⟨_, rfl, ?_⟩ | rw [← List.map_drop, ← List.map_take]); conv => whnf)
    refine ⟨by simp [gensS]; omega, ⟨rfl, rfl, rfl⟩, _, ⟨[], (List.append_nil _).symm⟩, rfl, ?_⟩
    conv => whnf
    have e1 : ([V.g (.i 0)] ++ (gensS l).map fun x => V.g (.i x)) = vintl (0 :: gensS l) := rfl
    have e2 : ((gensS l).map T.i).map V.g = (gensS l).map fun x => V.g (.i x) := by rw [List.map_map]; rfl
    rw [e2]
    refine CG.lend1 (c_slices_Max 0 (gensS l) (by simp [gensS]; omega)) trivial 1 (gr_vintl (l := 0 :: gensS l) rfl (Nat.zero_le _) (by simp [gensS]; omega)) ?_
    (try conv => whnf); repeat ((first | refine (c_Clone_sizes_g l hl).go rfl ?_ | refine ⟨_, (c_Clone_sizes_g l hl).go rfl ⟨rfl, rfl⟩, ?_⟩ | refine And.intro (show cellsAll _ _ from by repeat (first | exact trivial | refine ⟨⟨rfl, rfl⟩, ?_⟩)) ?_ | refine ⟨_, getZ (by omega), ?_⟩ | refine ⟨_, getI (by omega) (by omega), ?_⟩ | refine ⟨by omega, rfl, ?_⟩ | refine ⟨by (simp; omega), rfl, ?_⟩ | refine ⟨rfl, _, rfl, ⟨rfl, rfl, by decide⟩, ?_⟩ | refine ⟨rfl, _, rfl, ?_⟩ | refine ⟨rfl, _, getO (by omega), ?_⟩ | refine ⟨rfl, ⟨by omega, by omega, by omega⟩, ?_⟩ | refine ⟨⟨rfl, rfl⟩, ?_⟩ | refine ⟨⟨rfl, rfl, rfl⟩, ?_⟩ | refine ⟨⟨rfl, rfl, by decide⟩, ?_⟩ | refine ⟨rfl, ?_⟩ | refine ⟨⟨by omega, by omega⟩, ⟨rfl, rfl⟩, ?_⟩ | refine ⟨in64 (by omega) (by omega), ?_⟩ | refine Br.dec (fun _ => ?_) (fun hh => absurd (by omega) hh) | refine Br.dec (fun hh => absurd hh (by omega)) (fun _ => ?_) | refine Br.eq (fun _ => ?_) (fun hh => absurd (by omega) hh) | refine Br.eq (fun hh => absurd hh (by omega)) (fun _ => ?_) | refine Br.ne (fun _ => ?_) (fun hh => absurd (by omega) hh) | refine Br.ne (fun hh => absurd hh (by omega)) (fun _ => ?_) | refine ⟨_, rfl, ?_⟩ | rw [← List.map_drop, ← List.map_take]); conv => whnf)
    have hgl : (gensS l).length < 1000000000 := by simp [gensS]; omega
    have hpk : ∀ k, (h : k < p.length) → p[k].length < 1000000000 := fun k h => by
      have : p[k].length ≤ p.flatten.length := (List.sublist_flatten_of_mem (List.getElem_mem h)).length_le
      omega
    obtain ⟨A, hA⟩ : ∃ A, foldA (gensS l) p l (topS l) = A := ⟨_, rfl⟩
    rw [hA]
    refine SW.loopR (α := Nat × List Sz) (fun a => tm 55 [(6, .pa 1 0 0 0), (7, .g (.i (topS l + a.1))), (8, sizes a.2), (30, .g (intss p)), (31, .g (.i p.length)), (32, .g (.i a.1))]) (fun _ => [.arr g 1 (vintl p.flatten), .arr 0 1 [ints (gensS l)], .arr 1 1 (vintl (0 :: gensS l))])
      (fun a => a.1 ≤ p.length ∧ (∀ s ∈ a.2, sane s) ∧ a.2.length ≤ 16 ∧ foldA (gensS l) (p.drop a.1) a.2 (topS l + a.1) = A) (fun a => p.length - a.1) (0, l) ?_ ?_ ?_
    · exact ⟨Nat.zero_le _, hs, hlen, by rw [← hA]; simp⟩
    · exact Refi.sub rfl (by simp [subT, subV, tm, tmGo, sizes, intss, topS])
    · rintro ⟨k, out⟩ ⟨hk, hos, hol, hf⟩
      dsimp only at hk hos hol hf ⊢
      have hmo : (out.map tsize).length = out.length := by simp
      conv => whnf
      refine Br.dec (fun h => ?_) (fun h => ?_)
      · have hk' : k < p.length := by omega
        rw [List.drop_eq_getElem_cons hk', foldA] at hf
        have hone := c_policy_one out p[k] (topS l + k + 1) (by omega) (hpk k hk') hos
        have hcon := c_ContainsFuncW p[k] (gensS l) (hpk k hk') hgl
        (try conv => whnf); repeat ((first | refine And.intro (show cellsAll _ _ from by repeat (first | exact trivial | refine ⟨⟨rfl, rfl⟩, ?_⟩)) ?_ | refine ⟨_, getZ (by omega), ?_⟩ | refine ⟨_, getI (by omega) (by omega), ?_⟩ | refine ⟨by omega, rfl, ?_⟩ | refine ⟨by (simp; omega), rfl, ?_⟩ | refine ⟨rfl, _, rfl, ⟨rfl, rfl, by decide⟩, ?_⟩ | refine ⟨rfl, _, rfl, ?_⟩ | refine ⟨rfl, _, getO (by omega), ?_⟩ | refine ⟨rfl, ⟨by omega, by omega, by omega⟩, ?_⟩ | refine ⟨⟨rfl, rfl⟩, ?_⟩ | refine ⟨⟨rfl, rfl, rfl⟩, ?_⟩ | refine ⟨⟨rfl, rfl, by decide⟩, ?_⟩ | refine ⟨rfl, ?_⟩ | refine ⟨⟨by omega, by omega⟩, ⟨rfl, rfl⟩, ?_⟩ | refine ⟨in64 (by omega) (by omega), ?_⟩ | refine Br.dec (fun _ => ?_) (fun hh => absurd (by omega) hh) | refine Br.dec (fun hh => absurd hh (by omega)) (fun _ => ?_) | refine Br.eq (fun _ => ?_) (fun hh => absurd (by omega) hh) | refine Br.eq (fun hh => absurd hh (by omega)) (fun _ => ?_) | refine Br.ne (fun _ => ?_) (fun hh => absurd (by omega) hh) | refine Br.ne (fun hh => absurd hh (by omega)) (fun _ => ?_) | refine ⟨_, rfl, ?_⟩ | rw [← List.map_drop, ← List.map_take]); conv => whnf)
        refine ACalls.fl hone [] rfl rfl rfl flatH.nil (by rintro r h ⟨_, rfl⟩; exact flatH.nil) ?_
        rintro r h ⟨rfl, rfl⟩
        cases ho : oneS out p[k] (topS l + k + 1) with
        | none =>
          rw [ho] at hf
          dsimp only at hf
          (try conv => whnf); repeat ((first | refine And.intro (show cellsAll _ _ from by repeat (first | exact trivial | refine ⟨⟨rfl, rfl⟩, ?_⟩)) ?_ | refine ⟨_, getZ (by omega), ?_⟩ | refine ⟨_, getI (by omega) (by omega), ?_⟩ | refine ⟨by omega, rfl, ?_⟩ | refine ⟨by (simp; omega), rfl, ?_⟩ | refine ⟨rfl, _, rfl, ⟨rfl, rfl, by decide⟩, ?_⟩ | refine ⟨rfl, _, rfl, ?_⟩ | refine ⟨rfl, _, getO (by omega), ?_⟩ | refine ⟨rfl, ⟨by omega, by omega, by omega⟩, ?_⟩ | refine ⟨⟨rfl, rfl⟩, ?_⟩ | refine ⟨⟨rfl, rfl, rfl⟩, ?_⟩ | refine ⟨⟨rfl, rfl, by decide⟩, ?_⟩ | refine ⟨rfl, ?_⟩ | refine ⟨⟨by omega, by omega⟩, ⟨rfl, rfl⟩, ?_⟩ | refine ⟨in64 (by omega) (by omega), ?_⟩ | refine Br.dec (fun _ => ?_) (fun hh => absurd (by omega) hh) | refine Br.dec (fun hh => absurd hh (by omega)) (fun _ => ?_) | refine Br.eq (fun _ => ?_) (fun hh => absurd (by omega) hh) | refine Br.eq (fun hh => absurd hh (by omega)) (fun _ => ?_) | refine Br.ne (fun _ => ?_) (fun hh => absurd (by omega) hh) | refine Br.ne (fun hh => absurd hh (by omega)) (fun _ => ?_) | refine ⟨_, rfl, ?_⟩ | rw [← List.map_drop, ← List.map_take]); conv => whnf)
          subst hf
          exact ⟨Ends.ground (H := []) (L := _) 0 rfl ⟨rfl, rfl⟩⟩
        | some now =>
          rw [ho] at hf
          dsimp only at hf
          obtain ⟨hns, hnl⟩ := one_sane hos ho
          (try conv => whnf); repeat ((first | refine And.intro (show cellsAll _ _ from by repeat (first | exact trivial | refine ⟨⟨rfl, rfl⟩, ?_⟩)) ?_ | refine ⟨_, getZ (by omega), ?_⟩ | refine ⟨_, getI (by omega) (by omega), ?_⟩ | refine ⟨by omega, rfl, ?_⟩ | refine ⟨by (simp; omega), rfl, ?_⟩ | refine ⟨rfl, _, rfl, ⟨rfl, rfl, by decide⟩, ?_⟩ | refine ⟨rfl, _, rfl, ?_⟩ | refine ⟨rfl, _, getO (by omega), ?_⟩ | refine ⟨rfl, ⟨by omega, by omega, by omega⟩, ?_⟩ | refine ⟨⟨rfl, rfl⟩, ?_⟩ | refine ⟨⟨rfl, rfl, rfl⟩, ?_⟩ | refine ⟨⟨rfl, rfl, by decide⟩, ?_⟩ | refine ⟨rfl, ?_⟩ | refine ⟨⟨by omega, by omega⟩, ⟨rfl, rfl⟩, ?_⟩ | refine ⟨in64 (by omega) (by omega), ?_⟩ | refine Br.dec (fun _ => ?_) (fun hh => absurd (by omega) hh) | refine Br.dec (fun hh => absurd hh (by omega)) (fun _ => ?_) | refine Br.eq (fun _ => ?_) (fun hh => absurd (by omega) hh) | refine Br.eq (fun hh => absurd hh (by omega)) (fun _ => ?_) | refine Br.ne (fun _ => ?_) (fun hh => absurd (by omega) hh) | refine Br.ne (fun hh => absurd hh (by omega)) (fun _ => ?_) | refine ⟨_, rfl, ?_⟩ | rw [← List.map_drop, ← List.map_take]); conv => whnf)
          refine ACalls.fl hcon [1] rfl rfl rfl (flatH.cons Blk.lt_g1 flatH.nil) (by rintro r h ⟨_, rfl⟩; exact flatH.cons Blk.lt_g1 flatH.nil) ?_
          rintro r h ⟨rfl, rfl⟩
          cases hany : p[k].any (fun y => !decide (y ∈ gensS l)) with
          | true =>
            rw [hany, if_pos rfl] at hf
            (try conv => whnf); repeat ((first | refine And.intro (show cellsAll _ _ from by repeat (first | exact trivial | refine ⟨⟨rfl, rfl⟩, ?_⟩)) ?_ | refine ⟨_, getZ (by omega), ?_⟩ | refine ⟨_, getI (by omega) (by omega), ?_⟩ | refine ⟨by omega, rfl, ?_⟩ | refine ⟨by (simp; omega), rfl, ?_⟩ | refine ⟨rfl, _, rfl, ⟨rfl, rfl, by decide⟩, ?_⟩ | refine ⟨rfl, _, rfl, ?_⟩ | refine ⟨rfl, _, getO (by omega), ?_⟩ | refine ⟨rfl, ⟨by omega, by omega, by omega⟩, ?_⟩ | refine ⟨⟨rfl, rfl⟩, ?_⟩ | refine ⟨⟨rfl, rfl, rfl⟩, ?_⟩ | refine ⟨⟨rfl, rfl, by decide⟩, ?_⟩ | refine ⟨rfl, ?_⟩ | refine ⟨⟨by omega, by omega⟩, ⟨rfl, rfl⟩, ?_⟩ | refine ⟨in64 (by omega) (by omega), ?_⟩ | refine Br.dec (fun _ => ?_) (fun hh => absurd (by omega) hh) | refine Br.dec (fun hh => absurd hh (by omega)) (fun _ => ?_) | refine Br.eq (fun _ => ?_) (fun hh => absurd (by omega) hh) | refine Br.eq (fun hh => absurd hh (by omega)) (fun _ => ?_) | refine Br.ne (fun _ => ?_) (fun hh => absurd (by omega) hh) | refine Br.ne (fun hh => absurd hh (by omega)) (fun _ => ?_) | refine ⟨_, rfl, ?_⟩ | rw [← List.map_drop, ← List.map_take]); conv => whnf)
            subst hf
            exact ⟨Ends.ground (H := []) (L := _) 0 rfl ⟨rfl, rfl⟩⟩
          | false =>
            rw [hany, if_neg (by simp)] at hf
            (try conv => whnf); repeat ((first | refine And.intro (show cellsAll _ _ from by repeat (first | exact trivial | refine ⟨⟨rfl, rfl⟩, ?_⟩)) ?_ | refine ⟨_, getZ (by omega), ?_⟩ | refine ⟨_, getI (by omega) (by omega), ?_⟩ | refine ⟨by omega, rfl, ?_⟩ | refine ⟨by (simp; omega), rfl, ?_⟩ | refine ⟨rfl, _, rfl, ⟨rfl, rfl, by decide⟩, ?_⟩ | refine ⟨rfl, _, rfl, ?_⟩ | refine ⟨rfl, _, getO (by omega), ?_⟩ | refine ⟨rfl, ⟨by omega, by omega, by omega⟩, ?_⟩ | refine ⟨⟨rfl, rfl⟩, ?_⟩ | refine ⟨⟨rfl, rfl, rfl⟩, ?_⟩ | refine ⟨⟨rfl, rfl, by decide⟩, ?_⟩ | refine ⟨rfl, ?_⟩ | refine ⟨⟨by omega, by omega⟩, ⟨rfl, rfl⟩, ?_⟩ | refine ⟨in64 (by omega) (by omega), ?_⟩ | refine Br.dec (fun _ => ?_) (fun hh => absurd (by omega) hh) | refine Br.dec (fun hh => absurd hh (by omega)) (fun _ => ?_) | refine Br.eq (fun _ => ?_) (fun hh => absurd (by omega) hh) | refine Br.eq (fun hh => absurd hh (by omega)) (fun _ => ?_) | refine Br.ne (fun _ => ?_) (fun hh => absurd (by omega) hh) | refine Br.ne (fun hh => absurd hh (by omega)) (fun _ => ?_) | refine ⟨_, rfl, ?_⟩ | rw [← List.map_drop, ← List.map_take]); conv => whnf)
            refine ⟨⟨(k + 1, now), ⟨hk', hns, by dsimp only; omega, ?_⟩, by dsimp only; omega, Refi.sub rfl ?_⟩⟩
            · dsimp only
              rw [← hf]; congr 1; omega
            · simp [subT, subV, tm, tmGo, sizes, intss]; omega
      · have : k = p.length := by omega
        subst this
        rw [List.drop_length] at hf
        (try conv => whnf); repeat ((first | refine And.intro (show cellsAll _ _ from by repeat (first | exact trivial | refine ⟨⟨rfl, rfl⟩, ?_⟩)) ?_ | refine ⟨_, getZ (by omega), ?_⟩ | refine ⟨_, getI (by omega) (by omega), ?_⟩ | refine ⟨by omega, rfl, ?_⟩ | refine ⟨by (simp; omega), rfl, ?_⟩ | refine ⟨rfl, _, rfl, ⟨rfl, rfl, by decide⟩, ?_⟩ | refine ⟨rfl, _, rfl, ?_⟩ | refine ⟨rfl, _, getO (by omega), ?_⟩ | refine ⟨rfl, ⟨by omega, by omega, by omega⟩, ?_⟩ | refine ⟨⟨rfl, rfl⟩, ?_⟩ | refine ⟨⟨rfl, rfl, rfl⟩, ?_⟩ | refine ⟨⟨rfl, rfl, by decide⟩, ?_⟩ | refine ⟨rfl, ?_⟩ | refine ⟨⟨by omega, by omega⟩, ⟨rfl, rfl⟩, ?_⟩ | refine ⟨in64 (by omega) (by omega), ?_⟩ | refine Br.dec (fun _ => ?_) (fun hh => absurd (by omega) hh) | refine Br.dec (fun hh => absurd hh (by omega)) (fun _ => ?_) | refine Br.eq (fun _ => ?_) (fun hh => absurd (by omega) hh) | refine Br.eq (fun hh => absurd hh (by omega)) (fun _ => ?_) | refine Br.ne (fun _ => ?_) (fun hh => absurd (by omega) hh) | refine Br.ne (fun hh => absurd hh (by omega)) (fun _ => ?_) | refine ⟨_, rfl, ?_⟩ | rw [← List.map_drop, ← List.map_take]); conv => whnf)
        rw [foldA] at hf
        subst hf
        exact ⟨Ends.ground (H := []) (L := _) 0 rfl ⟨rfl, rfl⟩⟩
  · rw [decide_eq_false hn] at g2
    rw [afterS, if_neg (fun h => hn h.2)]
    (try conv => whnf); repeat ((first | refine (g1).go rfl ?_ | refine ⟨_, (g1).go rfl ⟨rfl, rfl⟩, ?_⟩ | refine And.intro (show cellsAll _ _ from by repeat (first | exact trivial | refine ⟨⟨rfl, rfl⟩, ?_⟩)) ?_ | refine ⟨_, getZ (by omega), ?_⟩ | refine ⟨_, getI (by omega) (by omega), ?_⟩ | refine ⟨by omega, rfl, ?_⟩ | refine ⟨by (simp; omega), rfl, ?_⟩ | refine ⟨rfl, _, rfl, ⟨rfl, rfl, by decide⟩, ?_⟩ | refine ⟨rfl, _, rfl, ?_⟩ | refine ⟨rfl, _, getO (by omega), ?_⟩ | refine ⟨rfl, ⟨by omega, by omega, by omega⟩, ?_⟩ | refine ⟨⟨rfl, rfl⟩, ?_⟩ | refine ⟨⟨rfl, rfl, rfl⟩, ?_⟩ | refine ⟨⟨rfl, rfl, by decide⟩, ?_⟩ | refine ⟨rfl, ?_⟩ | refine ⟨⟨by omega, by omega⟩, ⟨rfl, rfl⟩, ?_⟩ | refine ⟨in64 (by omega) (by omega), ?_⟩ | refine Br.dec (fun _ => ?_) (fun hh => absurd (by omega) hh) | refine Br.dec (fun hh => absurd hh (by omega)) (fun _ => ?_) | refine Br.eq (fun _ => ?_) (fun hh => absurd (by omega) hh) | refine Br.eq (fun hh => absurd hh (by omega)) (fun _ => ?_) | refine Br.ne (fun _ => ?_) (fun hh => absurd (by omega) hh) | refine Br.ne (fun hh => absurd hh (by omega)) (fun _ => ?_) | refine ⟨_, rfl, ?_⟩ | rw [← List.map_drop, ← List.map_take]); conv => whnf)
    refine CG.lend1 g2 trivial 1 hgr ?_
    (try conv => whnf); repeat ((first | refine And.intro (show cellsAll _ _ from by repeat (first | exact trivial | refine ⟨⟨rfl, rfl⟩, ?_⟩)) ?_ | refine ⟨_, getZ (by omega), ?_⟩ | refine ⟨_, getI (by omega) (by omega), ?_⟩ | refine ⟨by omega, rfl, ?_⟩ | refine ⟨by (simp; omega), rfl, ?_⟩ | refine ⟨rfl, _, rfl, ⟨rfl, rfl, by decide⟩, ?_⟩ | refine ⟨rfl, _, rfl, ?_⟩ | refine ⟨rfl, _, getO (by omega), ?_⟩ | refine ⟨rfl, ⟨by omega, by omega, by omega⟩, ?_⟩ | refine ⟨⟨rfl, rfl⟩, ?_⟩ | refine ⟨⟨rfl, rfl, rfl⟩, ?_⟩ | refine ⟨⟨rfl, rfl, by decide⟩, ?_⟩ | refine ⟨rfl, ?_⟩ | refine ⟨⟨by omega, by omega⟩, ⟨rfl, rfl⟩, ?_⟩ | refine ⟨in64 (by omega) (by omega), ?_⟩ | refine Br.dec (fun _ => ?_) (fun hh => absurd (by omega) hh) | refine Br.dec (fun hh => absurd hh (by omega)) (fun _ => ?_) | refine Br.eq (fun _ => ?_) (fun hh => absurd (by omega) hh) | refine Br.eq (fun hh => absurd hh (by omega)) (fun _ => ?_) | refine Br.ne (fun _ => ?_) (fun hh => absurd (by omega) hh) | refine Br.ne (fun hh => absurd hh (by omega)) (fun _ => ?_) | refine ⟨_, rfl, ?_⟩ | rw [← List.map_drop, ← List.map_take]); conv => whnf)
    exact ⟨Ends.ground (H := []) (L := [_]) 0 rfl ⟨rfl, rfl⟩⟩
end Go.Aw
namespace Go.Aw
open Go.Proofs
set_option maxRecDepth 100000
set_option maxHeartbeats 4000000

theorem fold_sane {was : List Int} : ∀ {p : List (List Int)} {l o : List Sz} {g : Int}, (∀ s ∈ l, sane s) → foldA was p l g = some o → (∀ s ∈ o, sane s) ∧ o.length ≤ l.length
  | [], l, o, g, hs, h => by rw [foldA] at h; cases h; exact ⟨hs, Nat.le_refl _⟩
  | x :: r, l, o, g, hs, h => by
    rw [foldA] at h
    split at h
    · cases h
    · rename_i now hn
      split at h
      · cases h
      · obtain ⟨h1, h2⟩ := one_sane hs hn
        obtain ⟨h3, h4⟩ := fold_sane h1 h
        exact ⟨h3, Nat.le_trans h4 h2⟩
theorem after_sane {l : List Sz} {p : List (List Int)} : (∀ s ∈ afterS l p, sane s) ∧ (afterS l p).length ≤ 16 := by
  rw [afterS]
  split
  · rename_i h
    cases ho : foldA (gensS l) p l (topS l) with
    | none => simp
    | some o =>
      obtain ⟨h1, h2⟩ := fold_sane (mayS_sane h.1) ho
      have := mayS_len h.1
      exact ⟨h1, by rw [Option.getD_some]; omega⟩
  · simp
theorem by_len {kind : Nat} {l : List Sz} {c : Int × Int} (hl : l.length ≤ 16) (hc : 1 ≤ c.1) : (byS kind l c).length ≤ 2000 ∧ (byS kind l c).flatten.length ≤ 2000 := by
  rw [byS]
  split
  · have hk := kind_len (kind := kind) hl hc
    have ha := alone_len (l := l) (ps := kindS kind l c) (is := halfS)
    have hf : ∀ L : List Sz, (L.map fun x => [x.gen]).flatten.length = L.length := fun L => by induction L with | nil => rfl | cons a L ih => simp only [List.map_cons, List.flatten_cons, List.length_append, ih, List.length_cons, List.length_nil]; omega
    rw [aloneS, List.length_append, List.flatten_append, List.length_append, hf, List.length_map]
    omega
  · simp
/-- till nothing is proposed; of so many rounds at most -/
def untilF (kind : Nat) (c : Int × Int) : Nat → List Sz → Option (List Sz × Nat)
  | 0, _ => none
  | f + 1, l => if byS kind l c = [] then some (l, 0) else if afterS l (byS kind l c) = [] ∧ 0 < allS l then some (l, 0) else (untilF kind c f (afterS l (byS kind l c))).map fun r => (r.1, r.2 + 1)
def untilS (kind : Nat) (l : List Sz) (c : Int × Int) : List Sz × Nat := if mayS l = true ∧ mayT c = true then (untilF kind c 40 l).getD ([], 0) else ([], 0)
def kindOf (logs : Bool) : Nat := if logs = true then 1 else 0

theorem un_step {X : Option (List Sz × Nat)} {R : List Sz × Nat} {n : Nat} (h : (X.map fun r => (r.1, r.2 + 1)).map (fun r => (r.1, r.2 + n)) = some R) : X.map (fun r => (r.1, r.2 + (n + 1))) = some R := by
  cases X with
  | none => cases h
  | some x => simp at h ⊢; rw [← h]; congr 1; omega

theorem c_policy_Until (l : List Sz) (c : Int × Int) (logs : Bool) (hl : l.length < 1000000000) (hu : mayS l = true → mayT c = true → (untilF (kindOf logs) c 40 l).isSome = true) :
    ACalls Try.prog 26 [.g (tsizes l), .g (ttier c), .g (.b logs)] [] (fun r h => r = .tu [.g (tsizes (untilS (kindOf logs) l c).1), .g (.i ((untilS (kindOf logs) l c).2 : Nat))] ∧ h = []) := by
  refine k_policy_Until.calls ?_
  have g1 := c_policy_May l hl
  have g2 := c_policy_may c
  obtain ⟨c1, q⟩ := c
  cases hm : mayS l <;> rw [hm] at g1
  · rw [untilS, if_neg (by simp [hm])]
    cases logs
    · (try conv => whnf); repeat ((first | refine (g1).go rfl ?_ | refine ⟨_, (g1).go rfl ⟨rfl, rfl⟩, ?_⟩ | refine And.intro (show cellsAll _ _ from by repeat (first | exact trivial | refine ⟨⟨rfl, rfl⟩, ?_⟩)) ?_ | refine ⟨_, getZ (by omega), ?_⟩ | refine ⟨_, getI (by omega) (by omega), ?_⟩ | refine ⟨by omega, rfl, ?_⟩ | refine ⟨by (simp; omega), rfl, ?_⟩ | refine ⟨rfl, _, rfl, ⟨rfl, rfl, by decide⟩, ?_⟩ | refine ⟨rfl, _, rfl, ?_⟩ | refine ⟨rfl, _, getO (by omega), ?_⟩ | refine ⟨rfl, ⟨by omega, by omega, by omega⟩, ?_⟩ | refine ⟨⟨rfl, rfl⟩, ?_⟩ | refine ⟨⟨rfl, rfl, rfl⟩, ?_⟩ | refine ⟨⟨rfl, rfl, by decide⟩, ?_⟩ | refine ⟨rfl, ?_⟩ | refine ⟨⟨by omega, by omega⟩, ⟨rfl, rfl⟩, ?_⟩ | refine ⟨in64 (by omega) (by omega), ?_⟩ | refine Br.dec (fun _ => ?_) (fun hh => absurd (by omega) hh) | refine Br.dec (fun hh => absurd hh (by omega)) (fun _ => ?_) | refine Br.eq (fun _ => ?_) (fun hh => absurd (by omega) hh) | refine Br.eq (fun hh => absurd hh (by omega)) (fun _ => ?_) | refine Br.ne (fun _ => ?_) (fun hh => absurd (by omega) hh) | refine Br.ne (fun hh => absurd hh (by omega)) (fun _ => ?_) | refine ⟨_, rfl, ?_⟩ | rw [← List.map_drop, ← List.map_take]); conv => whnf)
      exact ⟨Ends.grounds (H := []) (L := [_]) 0 (ts := [tsizes [], .i 0]) rfl ⟨rfl, rfl⟩⟩
    · (try conv => whnf); repeat ((first | refine (g1).go rfl ?_ | refine ⟨_, (g1).go rfl ⟨rfl, rfl⟩, ?_⟩ | refine And.intro (show cellsAll _ _ from by repeat (first | exact trivial | refine ⟨⟨rfl, rfl⟩, ?_⟩)) ?_ | refine ⟨_, getZ (by omega), ?_⟩ | refine ⟨_, getI (by omega) (by omega), ?_⟩ | refine ⟨by omega, rfl, ?_⟩ | refine ⟨by (simp; omega), rfl, ?_⟩ | refine ⟨rfl, _, rfl, ⟨rfl, rfl, by decide⟩, ?_⟩ | refine ⟨rfl, _, rfl, ?_⟩ | refine ⟨rfl, _, getO (by omega), ?_⟩ | refine ⟨rfl, ⟨by omega, by omega, by omega⟩, ?_⟩ | refine ⟨⟨rfl, rfl⟩, ?_⟩ | refine ⟨⟨rfl, rfl, rfl⟩, ?_⟩ | refine ⟨⟨rfl, rfl, by decide⟩, ?_⟩ | refine ⟨rfl, ?_⟩ | refine ⟨⟨by omega, by omega⟩, ⟨rfl, rfl⟩, ?_⟩ | refine ⟨in64 (by omega) (by omega), ?_⟩ | refine Br.dec (fun _ => ?_) (fun hh => absurd (by omega) hh) | refine Br.dec (fun hh => absurd hh (by omega)) (fun _ => ?_) | refine Br.eq (fun _ => ?_) (fun hh => absurd (by omega) hh) | refine Br.eq (fun hh => absurd hh (by omega)) (fun _ => ?_) | refine Br.ne (fun _ => ?_) (fun hh => absurd (by omega) hh) | refine Br.ne (fun hh => absurd hh (by omega)) (fun _ => ?_) | refine ⟨_, rfl, ?_⟩ | rw [← List.map_drop, ← List.map_take]); conv => whnf)
      exact ⟨Ends.grounds (H := []) (L := [_]) 0 (ts := [tsizes [], .i 0]) rfl ⟨rfl, rfl⟩⟩
  cases ht : mayT (c1, q) <;> rw [ht] at g2
  · rw [untilS, if_neg (by simp [ht])]
    cases logs
    · (try conv => whnf); repeat ((first | refine (g1).go rfl ?_ | refine ⟨_, (g1).go rfl ⟨rfl, rfl⟩, ?_⟩ | refine (g2).go rfl ?_ | refine ⟨_, (g2).go rfl ⟨rfl, rfl⟩, ?_⟩ | refine And.intro (show cellsAll _ _ from by repeat (first | exact trivial | refine ⟨⟨rfl, rfl⟩, ?_⟩)) ?_ | refine ⟨_, getZ (by omega), ?_⟩ | refine ⟨_, getI (by omega) (by omega), ?_⟩ | refine ⟨by omega, rfl, ?_⟩ | refine ⟨by (simp; omega), rfl, ?_⟩ | refine ⟨rfl, _, rfl, ⟨rfl, rfl, by decide⟩, ?_⟩ | refine ⟨rfl, _, rfl, ?_⟩ | refine ⟨rfl, _, getO (by omega), ?_⟩ | refine ⟨rfl, ⟨by omega, by omega, by omega⟩, ?_⟩ | refine ⟨⟨rfl, rfl⟩, ?_⟩ | refine ⟨⟨rfl, rfl, rfl⟩, ?_⟩ | refine ⟨⟨rfl, rfl, by decide⟩, ?_⟩ | refine ⟨rfl, ?_⟩ | refine ⟨⟨by omega, by omega⟩, ⟨rfl, rfl⟩, ?_⟩ | refine ⟨in64 (by omega) (by omega), ?_⟩ | refine Br.dec (fun _ => ?_) (fun hh => absurd (by omega) hh) | refine Br.dec (fun hh => absurd hh (by omega)) (fun _ => ?_) | refine Br.eq (fun _ => ?_) (fun hh => absurd (by omega) hh) | refine Br.eq (fun hh => absurd hh (by omega)) (fun _ => ?_) | refine Br.ne (fun _ => ?_) (fun hh => absurd (by omega) hh) | refine Br.ne (fun hh => absurd hh (by omega)) (fun _ => ?_) | refine ⟨_, rfl, ?_⟩ | rw [← List.map_drop, ← List.map_take]); conv => whnf)
      exact ⟨Ends.grounds (H := []) (L := [_]) 0 (ts := [tsizes [], .i 0]) rfl ⟨rfl, rfl⟩⟩
    · (try conv => whnf); repeat ((first | refine (g1).go rfl ?_ | refine ⟨_, (g1).go rfl ⟨rfl, rfl⟩, ?_⟩ | refine (g2).go rfl ?_ | refine ⟨_, (g2).go rfl ⟨rfl, rfl⟩, ?_⟩ | refine And.intro (show cellsAll _ _ from by repeat (first | exact trivial | refine ⟨⟨rfl, rfl⟩, ?_⟩)) ?_ | refine ⟨_, getZ (by omega), ?_⟩ | refine ⟨_, getI (by omega) (by omega), ?_⟩ | refine ⟨by omega, rfl, ?_⟩ | refine ⟨by (simp; omega), rfl, ?_⟩ | refine ⟨rfl, _, rfl, ⟨rfl, rfl, by decide⟩, ?_⟩ | refine ⟨rfl, _, rfl, ?_⟩ | refine ⟨rfl, _, getO (by omega), ?_⟩ | refine ⟨rfl, ⟨by omega, by omega, by omega⟩, ?_⟩ | refine ⟨⟨rfl, rfl⟩, ?_⟩ | refine ⟨⟨rfl, rfl, rfl⟩, ?_⟩ | refine ⟨⟨rfl, rfl, by decide⟩, ?_⟩ | refine ⟨rfl, ?_⟩ | refine ⟨⟨by omega, by omega⟩, ⟨rfl, rfl⟩, ?_⟩ | refine ⟨in64 (by omega) (by omega), ?_⟩ | refine Br.dec (fun _ => ?_) (fun hh => absurd (by omega) hh) | refine Br.dec (fun hh => absurd hh (by omega)) (fun _ => ?_) | refine Br.eq (fun _ => ?_) (fun hh => absurd (by omega) hh) | refine Br.eq (fun hh => absurd hh (by omega)) (fun _ => ?_) | refine Br.ne (fun _ => ?_) (fun hh => absurd (by omega) hh) | refine Br.ne (fun hh => absurd hh (by omega)) (fun _ => ?_) | refine ⟨_, rfl, ?_⟩ | rw [← List.map_drop, ← List.map_take]); conv => whnf)
      exact ⟨Ends.grounds (H := []) (L := [_]) 0 (ts := [tsizes [], .i 0]) rfl ⟨rfl, rfl⟩⟩
  have hs := mayS_sane hm
  have hlen := mayS_len hm
  have hcc : 2 ≤ c1 ∧ c1 ≤ 8 ∧ 1 ≤ q ∧ q ≤ 64 := by simpa [mayT] using ht
  obtain ⟨R, hR⟩ := Option.isSome_iff_exists.1 (hu hm ht)
  rw [untilS, if_pos ⟨hm, ht⟩, hR, Option.getD_some]
  cases logs
  · have hK : kindOf false = 0 := rfl
    rw [hK] at hR
    (try conv => whnf); repeat ((first | refine (g1).go rfl ?_ | refine ⟨_, (g1).go rfl ⟨rfl, rfl⟩, ?_⟩ | refine (g2).go rfl ?_ | refine ⟨_, (g2).go rfl ⟨rfl, rfl⟩, ?_⟩ | refine (c_Clone_sizes_g l hl).go rfl ?_ | refine ⟨_, (c_Clone_sizes_g l hl).go rfl ⟨rfl, rfl⟩, ?_⟩ | refine (c_policy_by 0 (by omega) l (c1, q) hl).go rfl ?_ | refine ⟨_, (c_policy_by 0 (by omega) l (c1, q) hl).go rfl ⟨rfl, rfl⟩, ?_⟩ | refine And.intro (show cellsAll _ _ from by repeat (first | exact trivial | refine ⟨⟨rfl, rfl⟩, ?_⟩)) ?_ | refine ⟨_, getZ (by omega), ?_⟩ | refine ⟨_, getI (by omega) (by omega), ?_⟩ | refine ⟨by omega, rfl, ?_⟩ | refine ⟨by (simp; omega), rfl, ?_⟩ | refine ⟨rfl, _, rfl, ⟨rfl, rfl, by decide⟩, ?_⟩ | refine ⟨rfl, _, rfl, ?_⟩ | refine ⟨rfl, _, getO (by omega), ?_⟩ | refine ⟨rfl, ⟨by omega, by omega, by omega⟩, ?_⟩ | refine ⟨⟨rfl, rfl⟩, ?_⟩ | refine ⟨⟨rfl, rfl, rfl⟩, ?_⟩ | refine ⟨⟨rfl, rfl, by decide⟩, ?_⟩ | refine ⟨rfl, ?_⟩ | refine ⟨⟨by omega, by omega⟩, ⟨rfl, rfl⟩, ?_⟩ | refine ⟨in64 (by omega) (by omega), ?_⟩ | refine Br.dec (fun _ => ?_) (fun hh => absurd (by omega) hh) | refine Br.dec (fun hh => absurd hh (by omega)) (fun _ => ?_) | refine Br.eq (fun _ => ?_) (fun hh => absurd (by omega) hh) | refine Br.eq (fun hh => absurd hh (by omega)) (fun _ => ?_) | refine Br.ne (fun _ => ?_) (fun hh => absurd (by omega) hh) | refine Br.ne (fun hh => absurd hh (by omega)) (fun _ => ?_) | refine ⟨_, rfl, ?_⟩ | rw [← List.map_drop, ← List.map_take]); conv => whnf)
    refine SW.loopR (α := Nat × List Sz × Nat) (fun a => tm 53 [(4, .pa 0 0 0 0), (8, .g (.i 0)), (9, .g (.i a.1)), (10, sizes a.2.1), (11, .g (intss (byS 0 a.2.1 (c1, q))))]) (fun _ => [.arr 0 2 [.g (ttier (c1, q))]])
      (fun a => (untilF 0 (c1, q) a.2.2 a.2.1).map (fun r => (r.1, r.2 + a.1)) = some R ∧ (∀ s ∈ a.2.1, sane s) ∧ a.2.1.length ≤ 16 ∧ a.1 + a.2.2 = 40) (fun a => a.2.2) (0, l, 40) ?_ ?_ ?_
    · exact ⟨by dsimp only; rw [hR]; rfl, hs, hlen, rfl⟩
    · exact Refi.sub rfl (by simp [subT, subV, tm, tmGo, sizes, tsizes, intss])
    · rintro ⟨n, now, f⟩ ⟨hf, hns, hnl, hnf⟩
      dsimp only at hf hns hnl hnf ⊢
      obtain ⟨B, hB⟩ : ∃ B, byS 0 now (c1, q) = B := ⟨_, rfl⟩
      have hbl := by_len (kind := 0) (c := (c1, q)) hnl (by dsimp only; omega)
      rw [hB] at hbl ⊢
      have hmB : (B.map tints).length = B.length := by simp
      cases f with
      | zero => rw [untilF] at hf; cases hf
      | succ f =>
      rw [untilF, hB] at hf
      conv => whnf
      refine Br.dec (fun h1 => ?_) (fun h1 => ?_)
      · have hBn : B ≠ [] := fun e => by rw [e] at h1; simp at h1
        rw [if_neg hBn] at hf
        obtain ⟨N, hN⟩ : ∃ N, afterS now B = N := ⟨_, rfl⟩
        have haf := c_policy_After now B (by omega) (by omega) (by omega)
        have has := after_sane (l := now) (p := B)
        rw [hN] at hf haf has
        have hmN : (N.map tsize).length = N.length := by simp
        have hall := c_policy_all now (by omega) hns
        by_cases hN0 : N = []
        · subst hN0
          (try conv => whnf); repeat ((first | refine (haf).go rfl ?_ | refine ⟨_, (haf).go rfl ⟨rfl, rfl⟩, ?_⟩ | refine (hall).go rfl ?_ | refine ⟨_, (hall).go rfl ⟨rfl, rfl⟩, ?_⟩ | refine And.intro (show cellsAll _ _ from by repeat (first | exact trivial | refine ⟨⟨rfl, rfl⟩, ?_⟩)) ?_ | refine ⟨_, getZ (by omega), ?_⟩ | refine ⟨_, getI (by omega) (by omega), ?_⟩ | refine ⟨by omega, rfl, ?_⟩ | refine ⟨by (simp; omega), rfl, ?_⟩ | refine ⟨rfl, _, rfl, ⟨rfl, rfl, by decide⟩, ?_⟩ | refine ⟨rfl, _, rfl, ?_⟩ | refine ⟨rfl, _, getO (by omega), ?_⟩ | refine ⟨rfl, ⟨by omega, by omega, by omega⟩, ?_⟩ | refine ⟨⟨rfl, rfl⟩, ?_⟩ | refine ⟨⟨rfl, rfl, rfl⟩, ?_⟩ | refine ⟨⟨rfl, rfl, by decide⟩, ?_⟩ | refine ⟨rfl, ?_⟩ | refine ⟨⟨by omega, by omega⟩, ⟨rfl, rfl⟩, ?_⟩ | refine ⟨in64 (by omega) (by omega), ?_⟩ | refine Br.dec (fun _ => ?_) (fun hh => absurd (by omega) hh) | refine Br.dec (fun hh => absurd hh (by omega)) (fun _ => ?_) | refine Br.eq (fun _ => ?_) (fun hh => absurd (by omega) hh) | refine Br.eq (fun hh => absurd hh (by omega)) (fun _ => ?_) | refine Br.ne (fun _ => ?_) (fun hh => absurd (by omega) hh) | refine Br.ne (fun hh => absurd hh (by omega)) (fun _ => ?_) | refine ⟨_, rfl, ?_⟩ | rw [← List.map_drop, ← List.map_take]); conv => whnf)
          refine Br.dec (fun h2 => ?_) (fun h2 => ?_)
          · rw [if_pos ⟨rfl, h2⟩] at hf
            cases hf
            (try conv => whnf); repeat ((first | refine And.intro (show cellsAll _ _ from by repeat (first | exact trivial | refine ⟨⟨rfl, rfl⟩, ?_⟩)) ?_ | refine ⟨_, getZ (by omega), ?_⟩ | refine ⟨_, getI (by omega) (by omega), ?_⟩ | refine ⟨by omega, rfl, ?_⟩ | refine ⟨by (simp; omega), rfl, ?_⟩ | refine ⟨rfl, _, rfl, ⟨rfl, rfl, by decide⟩, ?_⟩ | refine ⟨rfl, _, rfl, ?_⟩ | refine ⟨rfl, _, getO (by omega), ?_⟩ | refine ⟨rfl, ⟨by omega, by omega, by omega⟩, ?_⟩ | refine ⟨⟨rfl, rfl⟩, ?_⟩ | refine ⟨⟨rfl, rfl, rfl⟩, ?_⟩ | refine ⟨⟨rfl, rfl, by decide⟩, ?_⟩ | refine ⟨rfl, ?_⟩ | refine ⟨⟨by omega, by omega⟩, ⟨rfl, rfl⟩, ?_⟩ | refine ⟨in64 (by omega) (by omega), ?_⟩ | refine Br.dec (fun _ => ?_) (fun hh => absurd (by omega) hh) | refine Br.dec (fun hh => absurd hh (by omega)) (fun _ => ?_) | refine Br.eq (fun _ => ?_) (fun hh => absurd (by omega) hh) | refine Br.eq (fun hh => absurd hh (by omega)) (fun _ => ?_) | refine Br.ne (fun _ => ?_) (fun hh => absurd (by omega) hh) | refine Br.ne (fun hh => absurd hh (by omega)) (fun _ => ?_) | refine ⟨_, rfl, ?_⟩ | rw [← List.map_drop, ← List.map_take]); conv => whnf)
            exact ⟨Ends.grounds (H := []) (L := [_]) 0 (ts := [tsizes now, .i n]) rfl ⟨by simp, rfl⟩⟩
          · rw [if_neg (fun h => h2 h.2)] at hf
            (try conv => whnf); repeat ((first | refine (c_policy_by 0 (by omega) [] (c1, q) (by simp)).go rfl ?_ | refine ⟨_, (c_policy_by 0 (by omega) [] (c1, q) (by simp)).go rfl ⟨rfl, rfl⟩, ?_⟩ | refine And.intro (show cellsAll _ _ from by repeat (first | exact trivial | refine ⟨⟨rfl, rfl⟩, ?_⟩)) ?_ | refine ⟨_, getZ (by omega), ?_⟩ | refine ⟨_, getI (by omega) (by omega), ?_⟩ | refine ⟨by omega, rfl, ?_⟩ | refine ⟨by (simp; omega), rfl, ?_⟩ | refine ⟨rfl, _, rfl, ⟨rfl, rfl, by decide⟩, ?_⟩ | refine ⟨rfl, _, rfl, ?_⟩ | refine ⟨rfl, _, getO (by omega), ?_⟩ | refine ⟨rfl, ⟨by omega, by omega, by omega⟩, ?_⟩ | refine ⟨⟨rfl, rfl⟩, ?_⟩ | refine ⟨⟨rfl, rfl, rfl⟩, ?_⟩ | refine ⟨⟨rfl, rfl, by decide⟩, ?_⟩ | refine ⟨rfl, ?_⟩ | refine ⟨⟨by omega, by omega⟩, ⟨rfl, rfl⟩, ?_⟩ | refine ⟨in64 (by omega) (by omega), ?_⟩ | refine Br.dec (fun _ => ?_) (fun hh => absurd (by omega) hh) | refine Br.dec (fun hh => absurd hh (by omega)) (fun _ => ?_) | refine Br.eq (fun _ => ?_) (fun hh => absurd (by omega) hh) | refine Br.eq (fun hh => absurd hh (by omega)) (fun _ => ?_) | refine Br.ne (fun _ => ?_) (fun hh => absurd (by omega) hh) | refine Br.ne (fun hh => absurd hh (by omega)) (fun _ => ?_) | refine ⟨_, rfl, ?_⟩ | rw [← List.map_drop, ← List.map_take]); conv => whnf)
            refine ⟨⟨(n + 1, [], f), ⟨un_step hf, by simp, by simp, by dsimp only; omega⟩, by dsimp only; omega, Refi.sub rfl ?_⟩⟩
            simp [subT, subV, tm, tmGo, sizes, intss]
        · have hNl : N.length ≠ 0 := fun e => hN0 (List.length_eq_zero_iff.1 e)
          rw [if_neg (fun h => hN0 h.1)] at hf
          (try conv => whnf); repeat ((first | refine (haf).go rfl ?_ | refine ⟨_, (haf).go rfl ⟨rfl, rfl⟩, ?_⟩ | refine (hall).go rfl ?_ | refine ⟨_, (hall).go rfl ⟨rfl, rfl⟩, ?_⟩ | refine (c_policy_by 0 (by omega) N (c1, q) (by have := has.2; omega)).go rfl ?_ | refine ⟨_, (c_policy_by 0 (by omega) N (c1, q) (by have := has.2; omega)).go rfl ⟨rfl, rfl⟩, ?_⟩ | refine And.intro (show cellsAll _ _ from by repeat (first | exact trivial | refine ⟨⟨rfl, rfl⟩, ?_⟩)) ?_ | refine ⟨_, getZ (by omega), ?_⟩ | refine ⟨_, getI (by omega) (by omega), ?_⟩ | refine ⟨by omega, rfl, ?_⟩ | refine ⟨by (simp; omega), rfl, ?_⟩ | refine ⟨rfl, _, rfl, ⟨rfl, rfl, by decide⟩, ?_⟩ | refine ⟨rfl, _, rfl, ?_⟩ | refine ⟨rfl, _, getO (by omega), ?_⟩ | refine ⟨rfl, ⟨by omega, by omega, by omega⟩, ?_⟩ | refine ⟨⟨rfl, rfl⟩, ?_⟩ | refine ⟨⟨rfl, rfl, rfl⟩, ?_⟩ | refine ⟨⟨rfl, rfl, by decide⟩, ?_⟩ | refine ⟨rfl, ?_⟩ | refine ⟨⟨by omega, by omega⟩, ⟨rfl, rfl⟩, ?_⟩ | refine ⟨in64 (by omega) (by omega), ?_⟩ | refine Br.dec (fun _ => ?_) (fun hh => absurd (by omega) hh) | refine Br.dec (fun hh => absurd hh (by omega)) (fun _ => ?_) | refine Br.eq (fun _ => ?_) (fun hh => absurd (by omega) hh) | refine Br.eq (fun hh => absurd hh (by omega)) (fun _ => ?_) | refine Br.ne (fun _ => ?_) (fun hh => absurd (by omega) hh) | refine Br.ne (fun hh => absurd hh (by omega)) (fun _ => ?_) | refine ⟨_, rfl, ?_⟩ | rw [← List.map_drop, ← List.map_take]); conv => whnf)
          refine ⟨⟨(n + 1, N, f), ⟨un_step hf, has.1, has.2, by dsimp only; omega⟩, by dsimp only; omega, Refi.sub rfl ?_⟩⟩
          simp [subT, subV, tm, tmGo, sizes, intss]
      · have hB0 : B = [] := by
          cases B with
          | nil => rfl
          | cons a b => simp at h1
        rw [if_pos hB0] at hf
        cases hf
        (try conv => whnf); repeat ((first | refine And.intro (show cellsAll _ _ from by repeat (first | exact trivial | refine ⟨⟨rfl, rfl⟩, ?_⟩)) ?_ | refine ⟨_, getZ (by omega), ?_⟩ | refine ⟨_, getI (by omega) (by omega), ?_⟩ | refine ⟨by omega, rfl, ?_⟩ | refine ⟨by (simp; omega), rfl, ?_⟩ | refine ⟨rfl, _, rfl, ⟨rfl, rfl, by decide⟩, ?_⟩ | refine ⟨rfl, _, rfl, ?_⟩ | refine ⟨rfl, _, getO (by omega), ?_⟩ | refine ⟨rfl, ⟨by omega, by omega, by omega⟩, ?_⟩ | refine ⟨⟨rfl, rfl⟩, ?_⟩ | refine ⟨⟨rfl, rfl, rfl⟩, ?_⟩ | refine ⟨⟨rfl, rfl, by decide⟩, ?_⟩ | refine ⟨rfl, ?_⟩ | refine ⟨⟨by omega, by omega⟩, ⟨rfl, rfl⟩, ?_⟩ | refine ⟨in64 (by omega) (by omega), ?_⟩ | refine Br.dec (fun _ => ?_) (fun hh => absurd (by omega) hh) | refine Br.dec (fun hh => absurd hh (by omega)) (fun _ => ?_) | refine Br.eq (fun _ => ?_) (fun hh => absurd (by omega) hh) | refine Br.eq (fun hh => absurd hh (by omega)) (fun _ => ?_) | refine Br.ne (fun _ => ?_) (fun hh => absurd (by omega) hh) | refine Br.ne (fun hh => absurd hh (by omega)) (fun _ => ?_) | refine ⟨_, rfl, ?_⟩ | rw [← List.map_drop, ← List.map_take]); conv => whnf)
        exact ⟨Ends.grounds (H := []) (L := [_]) 0 (ts := [tsizes now, .i n]) rfl ⟨by simp, rfl⟩⟩
  · have hK : kindOf true = 1 := rfl
    rw [hK] at hR
    (try conv => whnf); repeat ((first | refine (g1).go rfl ?_ | refine ⟨_, (g1).go rfl ⟨rfl, rfl⟩, ?_⟩ | refine (g2).go rfl ?_ | refine ⟨_, (g2).go rfl ⟨rfl, rfl⟩, ?_⟩ | refine (c_Clone_sizes_g l hl).go rfl ?_ | refine ⟨_, (c_Clone_sizes_g l hl).go rfl ⟨rfl, rfl⟩, ?_⟩ | refine (c_policy_by 1 (by omega) l (c1, q) hl).go rfl ?_ | refine ⟨_, (c_policy_by 1 (by omega) l (c1, q) hl).go rfl ⟨rfl, rfl⟩, ?_⟩ | refine And.intro (show cellsAll _ _ from by repeat (first | exact trivial | refine ⟨⟨rfl, rfl⟩, ?_⟩)) ?_ | refine ⟨_, getZ (by omega), ?_⟩ | refine ⟨_, getI (by omega) (by omega), ?_⟩ | refine ⟨by omega, rfl, ?_⟩ | refine ⟨by (simp; omega), rfl, ?_⟩ | refine ⟨rfl, _, rfl, ⟨rfl, rfl, by decide⟩, ?_⟩ | refine ⟨rfl, _, rfl, ?_⟩ | refine ⟨rfl, _, getO (by omega), ?_⟩ | refine ⟨rfl, ⟨by omega, by omega, by omega⟩, ?_⟩ | refine ⟨⟨rfl, rfl⟩, ?_⟩ | refine ⟨⟨rfl, rfl, rfl⟩, ?_⟩ | refine ⟨⟨rfl, rfl, by decide⟩, ?_⟩ | refine ⟨rfl, ?_⟩ | refine ⟨⟨by omega, by omega⟩, ⟨rfl, rfl⟩, ?_⟩ | refine ⟨in64 (by omega) (by omega), ?_⟩ | refine Br.dec (fun _ => ?_) (fun hh => absurd (by omega) hh) | refine Br.dec (fun hh => absurd hh (by omega)) (fun _ => ?_) | refine Br.eq (fun _ => ?_) (fun hh => absurd (by omega) hh) | refine Br.eq (fun hh => absurd hh (by omega)) (fun _ => ?_) | refine Br.ne (fun _ => ?_) (fun hh => absurd (by omega) hh) | refine Br.ne (fun hh => absurd hh (by omega)) (fun _ => ?_) | refine ⟨_, rfl, ?_⟩ | rw [← List.map_drop, ← List.map_take]); conv => whnf)
    refine SW.loopR (α := Nat × List Sz × Nat) (fun a => tm 53 [(4, .pa 0 0 0 0), (8, .g (.i 1)), (9, .g (.i a.1)), (10, sizes a.2.1), (11, .g (intss (byS 1 a.2.1 (c1, q))))]) (fun _ => [.arr 0 2 [.g (ttier (c1, q))]])
      (fun a => (untilF 1 (c1, q) a.2.2 a.2.1).map (fun r => (r.1, r.2 + a.1)) = some R ∧ (∀ s ∈ a.2.1, sane s) ∧ a.2.1.length ≤ 16 ∧ a.1 + a.2.2 = 40) (fun a => a.2.2) (0, l, 40) ?_ ?_ ?_
    · exact ⟨by dsimp only; rw [hR]; rfl, hs, hlen, rfl⟩
    · exact Refi.sub rfl (by simp [subT, subV, tm, tmGo, sizes, tsizes, intss])
    · rintro ⟨n, now, f⟩ ⟨hf, hns, hnl, hnf⟩
      dsimp only at hf hns hnl hnf ⊢
      obtain ⟨B, hB⟩ : ∃ B, byS 1 now (c1, q) = B := ⟨_, rfl⟩
      have hbl := by_len (kind := 1) (c := (c1, q)) hnl (by dsimp only; omega)
      rw [hB] at hbl ⊢
      have hmB : (B.map tints).length = B.length := by simp
      cases f with
      | zero => rw [untilF] at hf; cases hf
      | succ f =>
      rw [untilF, hB] at hf
      conv => whnf
      refine Br.dec (fun h1 => ?_) (fun h1 => ?_)
      · have hBn : B ≠ [] := fun e => by rw [e] at h1; simp at h1
        rw [if_neg hBn] at hf
        obtain ⟨N, hN⟩ : ∃ N, afterS now B = N := ⟨_, rfl⟩
        have haf := c_policy_After now B (by omega) (by omega) (by omega)
        have has := after_sane (l := now) (p := B)
        rw [hN] at hf haf has
        have hmN : (N.map tsize).length = N.length := by simp
        have hall := c_policy_all now (by omega) hns
        by_cases hN0 : N = []
        · subst hN0
          (try conv => whnf); repeat ((first | refine (haf).go rfl ?_ | refine ⟨_, (haf).go rfl ⟨rfl, rfl⟩, ?_⟩ | refine (hall).go rfl ?_ | refine ⟨_, (hall).go rfl ⟨rfl, rfl⟩, ?_⟩ | refine And.intro (show cellsAll _ _ from by repeat (first | exact trivial | refine ⟨⟨rfl, rfl⟩, ?_⟩)) ?_ | refine ⟨_, getZ (by omega), ?_⟩ | refine ⟨_, getI (by omega) (by omega), ?_⟩ | refine ⟨by omega, rfl, ?_⟩ | refine ⟨by (simp; omega), rfl, ?_⟩ | refine ⟨rfl, _, rfl, ⟨rfl, rfl, by decide⟩, ?_⟩ | refine ⟨rfl, _, rfl, ?_⟩ | refine ⟨rfl, _, getO (by omega), ?_⟩ | refine ⟨rfl, ⟨by omega, by omega, by omega⟩, ?_⟩ | refine ⟨⟨rfl, rfl⟩, ?_⟩ | refine ⟨⟨rfl, rfl, rfl⟩, ?_⟩ | refine ⟨⟨rfl, rfl, by decide⟩, ?_⟩ | refine ⟨rfl, ?_⟩ | refine ⟨⟨by omega, by omega⟩, ⟨rfl, rfl⟩, ?_⟩ | refine ⟨in64 (by omega) (by omega), ?_⟩ | refine Br.dec (fun _ => ?_) (fun hh => absurd (by omega) hh) | refine Br.dec (fun hh => absurd hh (by omega)) (fun _ => ?_) | refine Br.eq (fun _ => ?_) (fun hh => absurd (by omega) hh) | refine Br.eq (fun hh => absurd hh (by omega)) (fun _ => ?_) | refine Br.ne (fun _ => ?_) (fun hh => absurd (by omega) hh) | refine Br.ne (fun hh => absurd hh (by omega)) (fun _ => ?_) | refine ⟨_, rfl, ?_⟩ | rw [← List.map_drop, ← List.map_take]); conv => whnf)
          refine Br.dec (fun h2 => ?_) (fun h2 => ?_)
          · rw [if_pos ⟨rfl, h2⟩] at hf
            cases hf
            (try conv => whnf); repeat ((first | refine And.intro (show cellsAll _ _ from by repeat (first | exact trivial | refine ⟨⟨rfl, rfl⟩, ?_⟩)) ?_ | refine ⟨_, getZ (by omega), ?_⟩ | refine ⟨_, getI (by omega) (by omega), ?_⟩ | refine ⟨by omega, rfl, ?_⟩ | refine ⟨by (simp; omega), rfl, ?_⟩ | refine ⟨rfl, _, rfl, ⟨rfl, rfl, by decide⟩, ?_⟩ | refine ⟨rfl, _, rfl, ?_⟩ | refine ⟨rfl, _, getO (by omega), ?_⟩ | refine ⟨rfl, ⟨by omega, by omega, by omega⟩, ?_⟩ | refine ⟨⟨rfl, rfl⟩, ?_⟩ | refine ⟨⟨rfl, rfl, rfl⟩, ?_⟩ | refine ⟨⟨rfl, rfl, by decide⟩, ?_⟩ | refine ⟨rfl, ?_⟩ | refine ⟨⟨by omega, by omega⟩, ⟨rfl, rfl⟩, ?_⟩ | refine ⟨in64 (by omega) (by omega), ?_⟩ | refine Br.dec (fun _ => ?_) (fun hh => absurd (by omega) hh) | refine Br.dec (fun hh => absurd hh (by omega)) (fun _ => ?_) | refine Br.eq (fun _ => ?_) (fun hh => absurd (by omega) hh) | refine Br.eq (fun hh => absurd hh (by omega)) (fun _ => ?_) | refine Br.ne (fun _ => ?_) (fun hh => absurd (by omega) hh) | refine Br.ne (fun hh => absurd hh (by omega)) (fun _ => ?_) | refine ⟨_, rfl, ?_⟩ | rw [← List.map_drop, ← List.map_take]); conv => whnf)
            exact ⟨Ends.grounds (H := []) (L := [_]) 0 (ts := [tsizes now, .i n]) rfl ⟨by simp, rfl⟩⟩
          · rw [if_neg (fun h => h2 h.2)] at hf
            (try conv => whnf); repeat ((first | refine (c_policy_by 1 (by omega) [] (c1, q) (by simp)).go rfl ?_ | refine ⟨_, (c_policy_by 1 (by omega) [] (c1, q) (by simp)).go rfl ⟨rfl, rfl⟩, ?_⟩ | refine And.intro (show cellsAll _ _ from by repeat (first | exact trivial | refine ⟨⟨rfl, rfl⟩, ?_⟩)) ?_ | refine ⟨_, getZ (by omega), ?_⟩ | refine ⟨_, getI (by omega) (by omega), ?_⟩ | refine ⟨by omega, rfl, ?_⟩ | refine ⟨by (simp; omega), rfl, ?_⟩ | refine ⟨rfl, _, rfl, ⟨rfl, rfl, by decide⟩, ?_⟩ | refine ⟨rfl, _, rfl, ?_⟩ | refine ⟨rfl, _, getO (by omega), ?_⟩ | refine ⟨rfl, ⟨by omega, by omega, by omega⟩, ?_⟩ | refine ⟨⟨rfl, rfl⟩, ?_⟩ | refine ⟨⟨rfl, rfl, rfl⟩, ?_⟩ | refine ⟨⟨rfl, rfl, by decide⟩, ?_⟩ | refine ⟨rfl, ?_⟩ | refine ⟨⟨by omega, by omega⟩, ⟨rfl, rfl⟩, ?_⟩ | refine ⟨in64 (by omega) (by omega), ?_⟩ | refine Br.dec (fun _ => ?_) (fun hh => absurd (by omega) hh) | refine Br.dec (fun hh => absurd hh (by omega)) (fun _ => ?_) | refine Br.eq (fun _ => ?_) (fun hh => absurd (by omega) hh) | refine Br.eq (fun hh => absurd hh (by omega)) (fun _ => ?_) | refine Br.ne (fun _ => ?_) (fun hh => absurd (by omega) hh) | refine Br.ne (fun hh => absurd hh (by omega)) (fun _ => ?_) | refine ⟨_, rfl, ?_⟩ | rw [← List.map_drop, ← List.map_take]); conv => whnf)
            refine ⟨⟨(n + 1, [], f), ⟨un_step hf, by simp, by simp, by dsimp only; omega⟩, by dsimp only; omega, Refi.sub rfl ?_⟩⟩
            simp [subT, subV, tm, tmGo, sizes, intss]
        · have hNl : N.length ≠ 0 := fun e => hN0 (List.length_eq_zero_iff.1 e)
          rw [if_neg (fun h => hN0 h.1)] at hf
          (try conv => whnf); repeat ((first | refine (haf).go rfl ?_ | refine ⟨_, (haf).go rfl ⟨rfl, rfl⟩, ?_⟩ | refine (hall).go rfl ?_ | refine ⟨_, (hall).go rfl ⟨rfl, rfl⟩, ?_⟩ | refine (c_policy_by 1 (by omega) N (c1, q) (by have := has.2; omega)).go rfl ?_ | refine ⟨_, (c_policy_by 1 (by omega) N (c1, q) (by have := has.2; omega)).go rfl ⟨rfl, rfl⟩, ?_⟩ | refine And.intro (show cellsAll _ _ from by repeat (first | exact trivial | refine ⟨⟨rfl, rfl⟩, ?_⟩)) ?_ | refine ⟨_, getZ (by omega), ?_⟩ | refine ⟨_, getI (by omega) (by omega), ?_⟩ | refine ⟨by omega, rfl, ?_⟩ | refine ⟨by (simp; omega), rfl, ?_⟩ | refine ⟨rfl, _, rfl, ⟨rfl, rfl, by decide⟩, ?_⟩ | refine ⟨rfl, _, rfl, ?_⟩ | refine ⟨rfl, _, getO (by omega), ?_⟩ | refine ⟨rfl, ⟨by omega, by omega, by omega⟩, ?_⟩ | refine ⟨⟨rfl, rfl⟩, ?_⟩ | refine ⟨⟨rfl, rfl, rfl⟩, ?_⟩ | refine ⟨⟨rfl, rfl, by decide⟩, ?_⟩ | refine ⟨rfl, ?_⟩ | refine ⟨⟨by omega, by omega⟩, ⟨rfl, rfl⟩, ?_⟩ | refine ⟨in64 (by omega) (by omega), ?_⟩ | refine Br.dec (fun _ => ?_) (fun hh => absurd (by omega) hh) | refine Br.dec (fun hh => absurd hh (by omega)) (fun _ => ?_) | refine Br.eq (fun _ => ?_) (fun hh => absurd (by omega) hh) | refine Br.eq (fun hh => absurd hh (by omega)) (fun _ => ?_) | refine Br.ne (fun _ => ?_) (fun hh => absurd (by omega) hh) | refine Br.ne (fun hh => absurd hh (by omega)) (fun _ => ?_) | refine ⟨_, rfl, ?_⟩ | rw [← List.map_drop, ← List.map_take]); conv => whnf)
          refine ⟨⟨(n + 1, N, f), ⟨un_step hf, has.1, has.2, by dsimp only; omega⟩, by dsimp only; omega, Refi.sub rfl ?_⟩⟩
          simp [subT, subV, tm, tmGo, sizes, intss]
      · have hB0 : B = [] := by
          cases B with
          | nil => rfl
          | cons a b => simp at h1
        rw [if_pos hB0] at hf
        cases hf
        (try conv => whnf); repeat ((first | refine And.intro (show cellsAll _ _ from by repeat (first | exact trivial | refine ⟨⟨rfl, rfl⟩, ?_⟩)) ?_ | refine ⟨_, getZ (by omega), ?_⟩ | refine ⟨_, getI (by omega) (by omega), ?_⟩ | refine ⟨by omega, rfl, ?_⟩ | refine ⟨by (simp; omega), rfl, ?_⟩ | refine ⟨rfl, _, rfl, ⟨rfl, rfl, by decide⟩, ?_⟩ | refine ⟨rfl, _, rfl, ?_⟩ | refine ⟨rfl, _, getO (by omega), ?_⟩ | refine ⟨rfl, ⟨by omega, by omega, by omega⟩, ?_⟩ | refine ⟨⟨rfl, rfl⟩, ?_⟩ | refine ⟨⟨rfl, rfl, rfl⟩, ?_⟩ | refine ⟨⟨rfl, rfl, by decide⟩, ?_⟩ | refine ⟨rfl, ?_⟩ | refine ⟨⟨by omega, by omega⟩, ⟨rfl, rfl⟩, ?_⟩ | refine ⟨in64 (by omega) (by omega), ?_⟩ | refine Br.dec (fun _ => ?_) (fun hh => absurd (by omega) hh) | refine Br.dec (fun hh => absurd hh (by omega)) (fun _ => ?_) | refine Br.eq (fun _ => ?_) (fun hh => absurd (by omega) hh) | refine Br.eq (fun hh => absurd hh (by omega)) (fun _ => ?_) | refine Br.ne (fun _ => ?_) (fun hh => absurd (by omega) hh) | refine Br.ne (fun hh => absurd hh (by omega)) (fun _ => ?_) | refine ⟨_, rfl, ?_⟩ | rw [← List.map_drop, ← List.map_take]); conv => whnf)
        exact ⟨Ends.grounds (H := []) (L := [_]) 0 (ts := [tsizes now, .i n]) rfl ⟨by simp, rfl⟩⟩
end Go.Aw
namespace Go.Aw
open Go.Proofs
set_option maxRecDepth 100000
set_option maxHeartbeats 4000000

theorem c_ref12_Same (xs ys : List Sz) (hl : xs.length < 1000000000) : CG Try.prog 52 [tsizes xs, tsizes ys] (.b (decide (xs = ys))) := by
  refine ⟨k_ref12_Same.calls ?_⟩
  have hm : (xs.map tsize).length = xs.length := by simp
  have hm2 : (ys.map tsize).length = ys.length := by simp
  conv => whnf
  refine Br.ne (fun h => ?_) (fun h => ?_)
  · conv => whnf
    rw [decide_eq_false (fun e => h (by rw [hm, hm2, e]))]
    exact ⟨Ends.keep ⟨rfl, rfl⟩⟩
  have he : xs.length = ys.length := by omega
  conv => whnf
  refine SW.loop (α := Nat) (fun a => tm 26 [(0, sizes xs), (1, sizes ys), (5, .g (.i a))]) (fun _ => []) (fun a => a ≤ xs.length ∧ xs.take a = ys.take a) (fun a => xs.length - a) 0 ?_ ?_ ?_ ?_
  · simp
  · rfl
  · simp [subT, subV, tm, tmGo, sizes, tsizes]
  · rintro k ⟨hk, hr⟩
    dsimp only at hk hr ⊢
    conv => whnf
    refine Br.dec (fun h => ?_) (fun h => ?_)
    · have hk' : k < xs.length := by omega
      have hk2 : k < ys.length := by omega
      obtain ⟨a, ha⟩ : ∃ a, xs[k] = a := ⟨_, rfl⟩
      obtain ⟨b, hb⟩ : ∃ b, ys[k] = b := ⟨_, rfl⟩
      (try conv => whnf); repeat ((first | refine And.intro (show cellsAll _ _ from by repeat (first | exact trivial | refine ⟨⟨rfl, rfl⟩, ?_⟩)) ?_ | refine ⟨_, getZ (by omega), ?_⟩ | refine ⟨_, getI (by omega) (by omega), ?_⟩ | refine ⟨by omega, rfl, ?_⟩ | refine ⟨by (simp; omega), rfl, ?_⟩ | refine ⟨rfl, _, rfl, ⟨rfl, rfl, by decide⟩, ?_⟩ | refine ⟨rfl, _, rfl, ?_⟩ | refine ⟨rfl, _, getO (by omega), ?_⟩ | refine ⟨rfl, ⟨by omega, by omega, by omega⟩, ?_⟩ | refine ⟨⟨rfl, rfl⟩, ?_⟩ | refine ⟨⟨rfl, rfl, rfl⟩, ?_⟩ | refine ⟨⟨rfl, rfl, by decide⟩, ?_⟩ | refine ⟨rfl, ?_⟩ | refine ⟨⟨by omega, by omega⟩, ⟨rfl, rfl⟩, ?_⟩ | refine ⟨in64 (by omega) (by omega), ?_⟩ | refine Br.dec (fun _ => ?_) (fun hh => absurd (by omega) hh) | refine Br.dec (fun hh => absurd hh (by omega)) (fun _ => ?_) | refine Br.eq (fun _ => ?_) (fun hh => absurd (by omega) hh) | refine Br.eq (fun hh => absurd hh (by omega)) (fun _ => ?_) | refine Br.ne (fun _ => ?_) (fun hh => absurd (by omega) hh) | refine Br.ne (fun hh => absurd hh (by omega)) (fun _ => ?_) | refine ⟨_, rfl, ?_⟩ | rw [← List.map_drop, ← List.map_take]); conv => whnf)
      rw [ha, hb]
      have e : (a.gen == b.gen && (a.docs == b.docs && (a.dead == b.dead && (a.busy == b.busy && true)))) = decide (a = b) := by
        cases a; cases b; rw [Bool.eq_iff_iff]; simp [Sz.mk.injEq]
      rw [e]
      by_cases h2 : a = b
      · rw [decide_eq_true h2]
        (try conv => whnf); repeat ((first | refine And.intro (show cellsAll _ _ from by repeat (first | exact trivial | refine ⟨⟨rfl, rfl⟩, ?_⟩)) ?_ | refine ⟨_, getZ (by omega), ?_⟩ | refine ⟨_, getI (by omega) (by omega), ?_⟩ | refine ⟨by omega, rfl, ?_⟩ | refine ⟨by (simp; omega), rfl, ?_⟩ | refine ⟨rfl, _, rfl, ⟨rfl, rfl, by decide⟩, ?_⟩ | refine ⟨rfl, _, rfl, ?_⟩ | refine ⟨rfl, _, getO (by omega), ?_⟩ | refine ⟨rfl, ⟨by omega, by omega, by omega⟩, ?_⟩ | refine ⟨⟨rfl, rfl⟩, ?_⟩ | refine ⟨⟨rfl, rfl, rfl⟩, ?_⟩ | refine ⟨⟨rfl, rfl, by decide⟩, ?_⟩ | refine ⟨rfl, ?_⟩ | refine ⟨⟨by omega, by omega⟩, ⟨rfl, rfl⟩, ?_⟩ | refine ⟨in64 (by omega) (by omega), ?_⟩ | refine Br.dec (fun _ => ?_) (fun hh => absurd (by omega) hh) | refine Br.dec (fun hh => absurd hh (by omega)) (fun _ => ?_) | refine Br.eq (fun _ => ?_) (fun hh => absurd (by omega) hh) | refine Br.eq (fun hh => absurd hh (by omega)) (fun _ => ?_) | refine Br.ne (fun _ => ?_) (fun hh => absurd (by omega) hh) | refine Br.ne (fun hh => absurd hh (by omega)) (fun _ => ?_) | refine ⟨_, rfl, ?_⟩ | rw [← List.map_drop, ← List.map_take]); conv => whnf)
        refine ⟨⟨k + 1, ⟨hk', ?_⟩, by omega, rfl, by simp [subT, subV, tm, tmGo, sizes]⟩⟩
        rw [List.take_succ_eq_append_getElem hk', List.take_succ_eq_append_getElem hk2, hr, ha, hb, h2]
      · rw [decide_eq_false h2]
        (try conv => whnf); repeat ((first | refine And.intro (show cellsAll _ _ from by repeat (first | exact trivial | refine ⟨⟨rfl, rfl⟩, ?_⟩)) ?_ | refine ⟨_, getZ (by omega), ?_⟩ | refine ⟨_, getI (by omega) (by omega), ?_⟩ | refine ⟨by omega, rfl, ?_⟩ | refine ⟨by (simp; omega), rfl, ?_⟩ | refine ⟨rfl, _, rfl, ⟨rfl, rfl, by decide⟩, ?_⟩ | refine ⟨rfl, _, rfl, ?_⟩ | refine ⟨rfl, _, getO (by omega), ?_⟩ | refine ⟨rfl, ⟨by omega, by omega, by omega⟩, ?_⟩ | refine ⟨⟨rfl, rfl⟩, ?_⟩ | refine ⟨⟨rfl, rfl, rfl⟩, ?_⟩ | refine ⟨⟨rfl, rfl, by decide⟩, ?_⟩ | refine ⟨rfl, ?_⟩ | refine ⟨⟨by omega, by omega⟩, ⟨rfl, rfl⟩, ?_⟩ | refine ⟨in64 (by omega) (by omega), ?_⟩ | refine Br.dec (fun _ => ?_) (fun hh => absurd (by omega) hh) | refine Br.dec (fun hh => absurd hh (by omega)) (fun _ => ?_) | refine Br.eq (fun _ => ?_) (fun hh => absurd (by omega) hh) | refine Br.eq (fun hh => absurd hh (by omega)) (fun _ => ?_) | refine Br.ne (fun _ => ?_) (fun hh => absurd (by omega) hh) | refine Br.ne (fun hh => absurd hh (by omega)) (fun _ => ?_) | refine ⟨_, rfl, ?_⟩ | rw [← List.map_drop, ← List.map_take]); conv => whnf)
        rw [decide_eq_false (fun e => h2 (by subst e; rw [← ha, ← hb]))]
        exact ⟨Ends.keep ⟨rfl, rfl⟩⟩
    · (try conv => whnf); repeat ((first | refine And.intro (show cellsAll _ _ from by repeat (first | exact trivial | refine ⟨⟨rfl, rfl⟩, ?_⟩)) ?_ | refine ⟨_, getZ (by omega), ?_⟩ | refine ⟨_, getI (by omega) (by omega), ?_⟩ | refine ⟨by omega, rfl, ?_⟩ | refine ⟨by (simp; omega), rfl, ?_⟩ | refine ⟨rfl, _, rfl, ⟨rfl, rfl, by decide⟩, ?_⟩ | refine ⟨rfl, _, rfl, ?_⟩ | refine ⟨rfl, _, getO (by omega), ?_⟩ | refine ⟨rfl, ⟨by omega, by omega, by omega⟩, ?_⟩ | refine ⟨⟨rfl, rfl⟩, ?_⟩ | refine ⟨⟨rfl, rfl, rfl⟩, ?_⟩ | refine ⟨⟨rfl, rfl, by decide⟩, ?_⟩ | refine ⟨rfl, ?_⟩ | refine ⟨⟨by omega, by omega⟩, ⟨rfl, rfl⟩, ?_⟩ | refine ⟨in64 (by omega) (by omega), ?_⟩ | refine Br.dec (fun _ => ?_) (fun hh => absurd (by omega) hh) | refine Br.dec (fun hh => absurd hh (by omega)) (fun _ => ?_) | refine Br.eq (fun _ => ?_) (fun hh => absurd (by omega) hh) | refine Br.eq (fun hh => absurd hh (by omega)) (fun _ => ?_) | refine Br.ne (fun _ => ?_) (fun hh => absurd (by omega) hh) | refine Br.ne (fun hh => absurd hh (by omega)) (fun _ => ?_) | refine ⟨_, rfl, ?_⟩ | rw [← List.map_drop, ← List.map_take]); conv => whnf)
      have : k = xs.length := by omega
      subst this
      have e : xs = ys := by rw [List.take_length, he, List.take_length] at hr; exact hr
      rw [decide_eq_true e]
      exact ⟨Ends.keep ⟨rfl, rfl⟩⟩

/- THE CHAPTER'S EXAMPLE -/
def exL : List Sz := [⟨1, 1, 0, false⟩, ⟨2, 5, 0, false⟩, ⟨3, 1, 0, false⟩]
def exC : Int × Int := (2, 9)
def exA : List Sz := [⟨4, 2, 0, false⟩, ⟨2, 5, 0, false⟩]
theorem ex_may : mayS exL = true := by decide
theorem ex_tiered : byS 0 exL exC = [[1, 3]] := by decide +kernel
theorem ex_logs : byS 1 exL exC = [] := by decide +kernel
theorem ex_after : afterS exL [[1, 3]] = exA := by decide +kernel
theorem ex_until : untilF 0 exC 40 exL = some (exA, 1) := by decide +kernel
theorem ex_force : forceS exL 2 = [[1, 2]] := by decide +kernel
theorem c_law12_awake : CG Try.prog 14 [] (.b true) := by
  refine ⟨k_law12_awake.calls ?_⟩
  have g1 := c_policy_Tiered exL exC (by decide)
  have g2 := c_policy_Until exL exC false (by decide) (fun _ _ => by rw [show kindOf false = 0 from rfl, ex_until]; rfl)
  have g3 := c_policy_Logs exL exC (by decide)
  have g4 := c_policy_May exL (by decide)
  have g5 := c_policy_After exL [[1, 3]] (by decide) (by decide) (by decide)
  have g6 := c_policy_Force exL 2 (by decide) ⟨by decide, by decide⟩
  have g7 := c_law11_Tables [[1, 3]] [[1, 3]] (by decide) (by decide)
  have g8 := c_ref12_Same exA exA (by decide)
  have g9 := c_law11_Tables [[1, 2]] [[1, 2]] (by decide) (by decide)
  have hu : untilS (kindOf false) exL exC = (exA, 1) := by
    rw [untilS, if_pos ⟨ex_may, by decide⟩, show kindOf false = 0 from rfl, ex_until]; rfl
  rw [ex_tiered] at g1
  rw [hu] at g2
  rw [ex_logs] at g3
  rw [ex_may] at g4
  rw [ex_after] at g5
  rw [ex_force] at g6
  rw [decide_eq_true rfl] at g7 g8 g9
  (try conv => whnf); repeat ((first | refine (g1).go rfl ?_ | refine ⟨_, (g1).go rfl ⟨rfl, rfl⟩, ?_⟩ | refine And.intro (show cellsAll _ _ from by repeat (first | exact trivial | refine ⟨⟨rfl, rfl⟩, ?_⟩)) ?_ | refine ⟨_, getZ (by omega), ?_⟩ | refine ⟨_, getI (by omega) (by omega), ?_⟩ | refine ⟨by omega, rfl, ?_⟩ | refine ⟨by (simp; omega), rfl, ?_⟩ | refine ⟨rfl, _, rfl, ⟨rfl, rfl, by decide⟩, ?_⟩ | refine ⟨rfl, _, rfl, ?_⟩ | refine ⟨rfl, _, getO (by omega), ?_⟩ | refine ⟨rfl, ⟨by omega, by omega, by omega⟩, ?_⟩ | refine ⟨⟨rfl, rfl⟩, ?_⟩ | refine ⟨⟨rfl, rfl, rfl⟩, ?_⟩ | refine ⟨⟨rfl, rfl, by decide⟩, ?_⟩ | refine ⟨rfl, ?_⟩ | refine ⟨⟨by omega, by omega⟩, ⟨rfl, rfl⟩, ?_⟩ | refine ⟨in64 (by omega) (by omega), ?_⟩ | refine Br.dec (fun _ => ?_) (fun hh => absurd (by omega) hh) | refine Br.dec (fun hh => absurd hh (by omega)) (fun _ => ?_) | refine Br.eq (fun _ => ?_) (fun hh => absurd (by omega) hh) | refine Br.eq (fun hh => absurd hh (by omega)) (fun _ => ?_) | refine Br.ne (fun _ => ?_) (fun hh => absurd (by omega) hh) | refine Br.ne (fun hh => absurd hh (by omega)) (fun _ => ?_) | refine ⟨_, rfl, ?_⟩ | rw [← List.map_drop, ← List.map_take]); conv => whnf)
  refine ACalls.fl g2 [] rfl rfl rfl flatH.nil (by rintro r h ⟨_, rfl⟩; exact flatH.nil) ?_
  rintro r h ⟨rfl, rfl⟩
  (try conv => whnf); repeat ((first | refine (g7).go rfl ?_ | refine ⟨_, (g7).go rfl ⟨rfl, rfl⟩, ?_⟩ | refine (g3).go rfl ?_ | refine ⟨_, (g3).go rfl ⟨rfl, rfl⟩, ?_⟩ | refine (g4).go rfl ?_ | refine ⟨_, (g4).go rfl ⟨rfl, rfl⟩, ?_⟩ | refine (g5).go rfl ?_ | refine ⟨_, (g5).go rfl ⟨rfl, rfl⟩, ?_⟩ | refine (g8).go rfl ?_ | refine ⟨_, (g8).go rfl ⟨rfl, rfl⟩, ?_⟩ | refine (g6).go rfl ?_ | refine ⟨_, (g6).go rfl ⟨rfl, rfl⟩, ?_⟩ | refine (g9).go rfl ?_ | refine ⟨_, (g9).go rfl ⟨rfl, rfl⟩, ?_⟩ | refine And.intro (show cellsAll _ _ from by repeat (first | exact trivial | refine ⟨⟨rfl, rfl⟩, ?_⟩)) ?_ | refine ⟨_, getZ (by omega), ?_⟩ | refine ⟨_, getI (by omega) (by omega), ?_⟩ | refine ⟨by omega, rfl, ?_⟩ | refine ⟨by (simp; omega), rfl, ?_⟩ | refine ⟨rfl, _, rfl, ⟨rfl, rfl, by decide⟩, ?_⟩ | refine ⟨rfl, _, rfl, ?_⟩ | refine ⟨rfl, _, getO (by omega), ?_⟩ | refine ⟨rfl, ⟨by omega, by omega, by omega⟩, ?_⟩ | refine ⟨⟨rfl, rfl⟩, ?_⟩ | refine ⟨⟨rfl, rfl, rfl⟩, ?_⟩ | refine ⟨⟨rfl, rfl, by decide⟩, ?_⟩ | refine ⟨rfl, ?_⟩ | refine ⟨⟨by omega, by omega⟩, ⟨rfl, rfl⟩, ?_⟩ | refine ⟨in64 (by omega) (by omega), ?_⟩ | refine Br.dec (fun _ => ?_) (fun hh => absurd (by omega) hh) | refine Br.dec (fun hh => absurd hh (by omega)) (fun _ => ?_) | refine Br.eq (fun _ => ?_) (fun hh => absurd (by omega) hh) | refine Br.eq (fun hh => absurd hh (by omega)) (fun _ => ?_) | refine Br.ne (fun _ => ?_) (fun hh => absurd (by omega) hh) | refine Br.ne (fun hh => absurd hh (by omega)) (fun _ => ?_) | refine ⟨_, rfl, ?_⟩ | rw [← List.map_drop, ← List.map_take]); conv => whnf)
  exact ⟨Ends.ground (H := []) (L := [_]) 0 rfl ⟨rfl, rfl⟩⟩
end Go.Aw
