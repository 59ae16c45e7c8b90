/- Contracts of functions of the given program, by the abstract walk, for law MergeCardsUpto: what each one hands back; no condition but those that each theorem states. -/
import Derived.Test.YthcihkgopmmolaaGreatC3
import Derived.Test.YthcihkgopmmolaaGreatL1
namespace Go.Aw
open Go.Proofs
set_option maxRecDepth 100000

def tbools (bs : List Bool) : T := .sl 1 (bs.map T.b)
theorem c_slices_Clone_Lint_int (xs : List Int) (hl : xs.length < 1000000000) : CG Tryz.prog 51 [tints xs] (tints xs) := by
  refine ⟨k_slices_Clone_Lint_int.calls ?_⟩
  conv => whnf
  intro r hr
  conv => whnf
  refine Br.intro (fun h => ?_) (fun h => ?_)
  · conv => whnf
    have : xs = [] := by simpa using hr h
    subst this
    exact ⟨Ends.ground (H := []) (L := []) 0 rfl ⟨rfl, rfl⟩⟩
  · conv => whnf
    refine ⟨rfl, ?_⟩
    conv => whnf
    refine ⟨by simp; omega, ⟨rfl, rfl, rfl⟩, [], ⟨[], rfl⟩, rfl, ?_⟩
    conv => whnf
    refine ⟨Ends.ground (H := []) (L := [_]) (t := tints xs) 1 ?_ ⟨rfl, rfl⟩⟩
    have e : ((xs.map T.i).map V.g) = xs.map fun x => V.g (.i x) := by rw [List.map_map]; rfl
    have := gr_own (n := 0) (d := 0) (b := 0) (g := 1) (sz := 1) (len := 0 + ((xs.map T.i).map V.g).length) (h := [.arr 1 1 ([] ++ (xs.map T.i).map V.g)]) (l := xs) (f := fun x => V.g (.i x)) (e := T.i) (by rw [e]; rfl) (Nat.le_refl _) (by simp) (fun x _ => gr_g)
    exact this

end Go.Aw
namespace Go.Aw
open Go.Proofs
set_option maxRecDepth 100000

end Go.Aw
namespace Go.Aw
open Go.Proofs
set_option maxRecDepth 100000

theorem c_bits_Mul (x y : Nat) (hx : x < 18446744073709551616) (hy : y < 18446744073709551616) :
    CV Tryz.prog 70 [.sc (.int .u64 x), .sc (.int .u64 y)] (.tu [.g (.sc (.int .u64 ((x * y / 18446744073709551616 : Nat) : Int))), .g (.sc (.int .u64 ((x * y % 18446744073709551616 : Nat) : Int)))]) := by
  refine ⟨⟨⟨Tryz.f70, Tryz.func70, by kernel_rfl, rfl⟩, fun γ I w vs r hl hv => ?_⟩, V.lt.gs (ts := [_, _])⟩
  match vs, hl with
  | [a, b], _ =>
    have ha := hv 0 _ rfl
    have hb := hv 1 _ rfl
    simp only [List.getD_cons_zero, List.getD_cons_succ] at ha hb
    cases ha with | g ha =>
    cases hb with | g hb =>
    cases ha; cases hb
    refine (Tryz.bits_Mul x y hx hy w).mono ?_
    rintro e w' ⟨rfl, rfl⟩
    refine ⟨_, _, [], γ, I, rfl, ⟨rfl, rfl⟩, r, ?_, Ext.refl ..⟩
    refine .tu (vs := [_, _]) rfl (fun i t ht => ?_)
    match i, ht with
    | 0, ht => cases ht; exact .g (.sc rfl)
    | 1, ht => cases ht; exact .g (.sc rfl)

end Go.Aw
namespace Go.Aw
open Go.Proofs
set_option maxRecDepth 100000

def fewP (l : List Po) : Bool := decide (l.length ≤ 70) && l.all fun p => decide (p.2.length ≤ 130)
theorem c_Few (l : List Po) (hl : l.length < 9223372036854775808) : CG Tryz.prog 34 [tposts l] (.b (fewP l)) := c_law06_Few l hl

/-- arguments -/
theorem tv_posts {t : T} (h : TV (.sl 2 (.fc (.i .i64) (.fc (.sl 1 (.i .i64)) .fn))) t) : ∃ l : List Po, t = tposts l ∧ l.length ≤ maxLen := by
  obtain ⟨cs, ⟨es, rfl, hl, he⟩, rfl⟩ := h
  have : ∃ l : List Po, es = l.map tpost := by
    clear hl
    induction es with
    | nil => exact ⟨[], rfl⟩
    | cons e es ih =>
      obtain ⟨xs, rfl⟩ := ih fun x hx => he x (by simp [hx])
      obtain ⟨ys, h1, rfl⟩ := he e (by simp)
      obtain ⟨a, b, rfl, ⟨n, rfl, _⟩, b1, b2, rfl, h3, h4⟩ := h1
      obtain ⟨zs, hz, _⟩ := tv_ints (t := mkT (Ty.sl 1 (.i .i64)).ag b1) ⟨b1, h3, rfl⟩
      cases h4
      obtain ⟨es2, rfl, _, _⟩ := h3
      exact ⟨(n, zs) :: xs, by
        have hz : T.sl 1 es2 = tints zs := hz
        rw [hz]; rfl⟩
  obtain ⟨l, rfl⟩ := this
  exact ⟨l, rfl, by simpa using hl⟩
theorem tv_bools {t : T} (h : TV (.sl 1 .b) t) : ∃ l : List Bool, t = tbools l ∧ l.length ≤ maxLen := by
  obtain ⟨cs, ⟨es, rfl, hl, he⟩, rfl⟩ := h
  have : ∃ l : List Bool, es = l.map T.b := by
    clear hl
    induction es with
    | nil => exact ⟨[], rfl⟩
    | cons e es ih =>
      obtain ⟨xs, rfl⟩ := ih fun x hx => he x (by simp [hx])
      obtain ⟨ys, ⟨n, rfl⟩, rfl⟩ := he e (by simp)
      exact ⟨n :: xs, rfl⟩
  obtain ⟨l, rfl⟩ := this
  exact ⟨l, rfl, by simpa using hl⟩

end Go.Aw
namespace Go.Aw
open Go.Proofs
set_option maxRecDepth 100000

end Go.Aw
