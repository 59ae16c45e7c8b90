/- Contracts of functions of the given program, by the abstract walk, for law PolicyKeepsUpto: what each one hands back; no condition but those that each theorem states. -/
import Derived.RangeFuncBox
import Derived.RangeFuncLeaves
import Derived.Shelf.Abstract
import Derived.WalkKit
import Derived.OwnWalkIn
import Derived.TacticsInMore
import Derived.LoopNIn
import Derived.LoopIn
import Derived.Test.YthpnnkoaomekfaaProg
import Derived.Test.YthpnnkoaomekfaaC1
import Derived.Test.YthpnnkoaomekfaaW3
namespace Go.Aw
open Go.Proofs Go.RowKit Go.Shelf
attribute [local go_sem] Oper.semAt_some

/- slices.Values GIVES THE VALUES -/
def svI (x : Int) : SV := ⟨.int .i64 x, rfl⟩
def vlK (xs : List Int) (k : Nat) : List SV := (xs.take k).map svI
theorem vlK_succ {xs : List Int} {k : Nat} (hk : k < xs.length) : vlK xs (k + 1) = vlK xs k ++ [svI (xs[k]?.getD 0)] := by
  simp only [vlK, List.take_add_one, hk, List.getElem?_eq_getElem, Option.toList, List.map_append, Option.getD, List.map_cons, List.map_nil]
theorem vlK_all {xs : List Int} : vlK xs xs.length = xs.map svI := by simp [vlK]
theorem vlK_lt {xs : List Int} {k : Nat} (hk : k < xs.length) : (vlK xs k).length < (xs.map svI).length := by simp [vlK]; omega
theorem KpI.cell2 {I : Nat → Prop} {A B : World} (h : KpI I A B) {p : Addr} (hp : I p.block) : B.cell? p = A.cell? p := World.cell?_of_block (h _ hp)

set_option maxRecDepth 100000 in
set_option maxHeartbeats 2000000 in
theorem values1_in (F : Fence) (n : Nat) (hf : F.fn 148) (hro : F.round = none) (hn : 1 ≤ n) (I : Nat → Prop) (l kp op b off cap : Nat) (xs : List Int) (hreach : xs.length * 8 ≤ 140737488351232)
    (_ : I kp) (hIb : I b) (J Jx : List SV → World → Prop)
    (hY : ∀ pre x W, J pre W → pre.length < (xs.map svI).length → YieldAt F (n - 1) Try.prog l #[x.1] W fun e W' =>
      (e = .returned (.bool true) ∧ J (pre ++ [x]) W' ∧ KpI I W W') ∨ (e = .returned (.bool false) ∧ Jx (pre ++ [x]) W'))
    (W : World) (hP : W.cell? ⟨kp, op, none⟩ = some (.slice (some ⟨b, off, none⟩) xs.length cap))
    (hc : ∀ j, j < xs.length → W.cell? ⟨b, off + j, none⟩ = some (.int .i64 (xs[j]?.getD 0))) (h0 : J [] W) :
    CallsIn F n Try.prog 148 #[.func (.yield l) #[] #[], .pointer (some ⟨kp, op, none⟩)] W fun e W' => (∃ v, e = .returned v) ∧
      ((∃ ys, ys = vlK xs xs.length ∧ J ys W') ∨ (∃ pre, True ∧ Jx pre W')) := by
  refine callsIn_of_wp Try.func148 rfl hf ?_ hro
  simp only [Try.ntmps148, List.size_toArray, List.length_cons, List.length_nil, Nat.reduceAdd, Nat.reduceSub, Array.replicate_succ, Array.replicate_zero, List.push_toArray, List.append_toArray, List.nil_append, List.cons_append]
  gi_wp2
  gi_loopw [7] (fun i wr => ∃ k : Nat, k ≤ xs.length ∧ i = .int .i64 k ∧ J (vlK xs k) wr ∧ KpI I W wr)
    (fun i _ => xs.length - (intOf i).toNat)
  case atStart => exact ⟨0, Nat.zero_le _, rfl, h0, fun _ _ => rfl⟩
  case round =>
    obtain ⟨k, hk, rfl, hJs, hnx⟩ := hrel
    have hcx : k < xs.length → wr.cell? ⟨b, off + k, none⟩ = some (.int .i64 (xs[k]?.getD 0)) := fun h => (hnx.cell2 (p := ⟨b, off + k, none⟩) hIb).trans (hc k h)
    by_cases hlt : k < xs.length
    · have hS := vlK_succ hlt
      have hcx' := hcx hlt
      clear hcx
      have hlN := vlK_lt hlt
      generalize xs[k]?.getD 0 = y at hS hcx'
      obtain ⟨fn, tmps, assign, body, hy, hR⟩ := hY _ (svI y) wr hJs hlN
      dsimp only [svI] at hy
      clear hc
      gi_wp2
      refine hR.mono ?_
      rintro e W3 (⟨rfl, hJ3, hk3⟩ | ⟨rfl, hJx3⟩)
      · gi_wp2
        go_roundw
        case rel => exact ⟨k + 1, by omega, by simp, by rw [hS]; exact hJ3, fun i hi => (hk3 i hi).trans (hnx i hi)⟩
        case measure => simp [intOf]; omega
      · gi_wp2
        refine bodyPost_ret (results_none rfl _ _ _) rfl ?_
        exact ⟨⟨_, rfl⟩, .inr ⟨_, trivial, hJx3⟩⟩
    · obtain rfl : k = xs.length := by omega
      gi_wp2
      go_end0
      exact ⟨⟨_, rfl⟩, .inl ⟨_, rfl, hJs⟩⟩
set_option maxRecDepth 100000 in
set_option maxHeartbeats 2000000 in
theorem values1_nil (F : Fence) (n : Nat) (hf : F.fn 148) (hro : F.round = none) (l kp op cap : Nat) (a : Option Addr) (J : List SV → World → Prop)
    (W : World) (hP : W.cell? ⟨kp, op, none⟩ = some (.slice a 0 cap)) (h0 : J [] W) :
    CallsIn F n Try.prog 148 #[.func (.yield l) #[] #[], .pointer (some ⟨kp, op, none⟩)] W fun e W' => (∃ v, e = .returned v) ∧ J [] W' := by
  refine callsIn_of_wp Try.func148 rfl hf ?_ hro
  simp only [Try.ntmps148, List.size_toArray, List.length_cons, List.length_nil, Nat.reduceAdd, Nat.reduceSub, Array.replicate_succ, Array.replicate_zero, List.push_toArray, List.append_toArray, List.nil_append, List.cons_append]
  gi_wp2
  gi_loopw [7] (fun i wr => i = .int .i64 0 ∧ J [] wr) (fun _ _ => 0)
  case atStart => exact ⟨rfl, h0⟩
  case round =>
    obtain ⟨rfl, hJs⟩ := hrel
    gi_wp2
    go_end0
    exact ⟨⟨_, rfl⟩, hJs⟩

theorem g_values (xs : List Int) (hl : xs.length < 1000000000) : Gives Try.prog 148 [.ra 1 [tints xs] 0 0] (xs.map svI) := by
  refine ⟨⟨Try.f148, Try.func148, by kernel_rfl, rfl⟩, fun n hn γ H I w vs r hlen hv => ?_⟩
  have v0 := hv 0 _ rfl
  match vs, hlen with
  | [p], _ =>
  simp only [List.getD_cons_zero] at v0
  cases v0 with
  | ra kp op us hi hIp hw hc h1 hr =>
  have c1 := hc 0 (tints xs) rfl
  have r1 := hr 0 (tints xs) rfl
  generalize us 0 = u1 at c1 r1
  intro l J Jx W hW _ _ hY h0
  have hWI : ∀ k, I k → W.heap[k]? = w.heap[k]? := fun k hk => hW.block k (r.immlt hk)
  have cW : ∀ {p : Addr}, I p.block → W.cell? p = w.cell? p := fun h => World.cell?_of_block (hWI _ h)
  have e1 : #[Value.func (.yield l) #[] #[]] ++ [Value.pointer (some ⟨kp, op + (0 * 1 + 0), none⟩)].toArray = #[.func (.yield l) #[] #[], .pointer (some ⟨kp, op, none⟩)] := by simp
  rw [e1]
  have hP := (cW (p := ⟨kp, op, none⟩) hIp).trans c1
  unfold tints at r1
  generalize hz : xs.map T.i = zs at r1
  cases r1 with
  | @sl sz es a cap kb ob vs hx hw2 hl2 hc2 h12 hr2 =>
  subst hz
  have hsz : (xs.map T.i).length = xs.length := by simp
  rw [hsz] at hP
  cases xs with
  | nil => exact (values1_nil Fence.wide n trivial rfl l kp op cap a J W hP h0).mono fun e W' ⟨he, hj⟩ => ⟨he, .inl ⟨_, rfl, hj⟩⟩
  | cons x xs =>
    obtain ⟨rfl, hIb⟩ := hx (by simp)
    have hcell : ∀ j, j < (x :: xs).length → W.cell? ⟨kb, ob + j, none⟩ = some (.int .i64 ((x :: xs)[j]?.getD 0)) := fun j hj => by
      have hf : (flatT ((x :: xs).map T.i))[j]? = some (T.i ((x :: xs)[j]'hj)) := by
        have := flatT_get (sz := 1) hw2 j (T.i ((x :: xs)[j]'hj)) (getM hj) 0 (by omega)
        rw [Nat.mul_one, Nat.add_zero] at this
        rw [this]; rfl
      have h3 := hc2 j _ hf
      have h4 := hr2 j _ hf
      generalize vs j = u at h3 h4
      cases h4
      rw [cW (p := ⟨kb, ob + j, none⟩) hIb, h3, List.getElem?_eq_getElem hj]
      rfl
    refine (values1_in Fence.wide n trivial rfl hn I l kp op kb ob cap (x :: xs) (by omega) hIp hIb J Jx hY W hP hcell h0).mono fun e W' ⟨he, h5⟩ => ⟨he, ?_⟩
    rcases h5 with ⟨ys, rfl, hj⟩ | ⟨pre, _, hj⟩
    · exact .inl ⟨_, vlK_all, hj⟩
    · exact .inr ⟨pre, trivial, hj⟩

theorem c_Values_ints (xs : List Int) : CV Try.prog 112 [tints xs] (.fn 148 [.ra 1 [tints xs] 0 0]) := by
  refine ⟨k_slices_Values_Lint_int.calls ?_, .fn fun i v h => ?_⟩
  · conv => whnf
    refine ⟨⟨rfl, rfl⟩, ?_⟩
    conv => whnf
    exact ⟨Ends.closure (H := []) (L := [_]) 1 rfl ⟨rfl, rfl⟩⟩
  · match i, h with
    | 0, h => cases h; exact .ra
end Go.Aw
