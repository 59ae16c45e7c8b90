/- Contracts of functions of the given program, by the abstract walk, for law PhraseWordsUpto: what each one hands back; no condition but those that each theorem states. -/
import Derived.RangeFuncBox
import Derived.RangeFuncLeaves
import Derived.Shelf.Abstract
import Derived.WalkKit
import Derived.OwnWalkIn
import Derived.TacticsInMore
import Derived.LoopNIn
import Derived.LoopIn
import Derived.Test.YthpnnkoaomekfaaProg
import Derived.Test.YthpnnkoaomekfaaC1
import Derived.Test.YthpnnkoaomekfaaW3
namespace Go.Aw
open Go.Proofs Go.RowKit Go.Shelf
attribute [local go_sem] Oper.semAt_some

def sv (x : Int) : SV := ⟨.int .i64 x, rfl⟩
/-- what a phrase's word starts give -/
def stF (ahead : Int) (ats : List Int) : List Int := (ats.filter (fun x => decide (ahead ≤ x))).map (· - ahead)
def stK (ahead : Int) (ats : List Int) (k : Nat) : List SV := (stF ahead (ats.take k)).map sv
theorem stK_succ {ahead : Int} {ats : List Int} {k : Nat} (hk : k < ats.length) : stK ahead ats (k + 1) = stK ahead ats k ++ (if ahead ≤ ats[k]?.getD 0 then [sv (ats[k]?.getD 0 - ahead)] else []) := by
  simp only [stK, stF, List.take_add_one, hk, List.getElem?_eq_getElem, Option.toList, List.filter_append, List.map_append, Option.getD]
  split <;> rename_i h <;> simp [h]
theorem stK_all {ahead : Int} {ats : List Int} : stK ahead ats ats.length = (stF ahead ats).map sv := by simp [stK]
theorem stK_lt {ahead : Int} {ats : List Int} {k : Nat} (hk : k < ats.length) (h : ahead ≤ ats[k]?.getD 0) : (stK ahead ats k).length < ((stF ahead ats).map sv).length := by
  have h1 : (stK ahead ats (k + 1)).length ≤ ((stF ahead ats).map sv).length := by
    simp only [stK, stF, List.length_map]
    exact ((List.take_sublist _ _).filter _).length_le
  rw [stK_succ hk, if_pos h] at h1
  simp at h1 ⊢; omega

theorem KpI.cell {I : Nat → Prop} {A B : World} (h : KpI I A B) {p : Addr} (hp : I p.block) : B.cell? p = A.cell? p := World.cell?_of_block (h _ hp)

set_option maxRecDepth 100000 in
set_option maxHeartbeats 2000000 in
theorem starts1_in (F : Fence) (n : Nat) (h72 : F.fn 171) (hro : F.round = none) (hn : 1 ≤ n) (I : Nat → Prop) (l kp op ka oa b off cap : Nat) (ats : List Int) (ahead : Int) (hreach : ats.length * 8 ≤ 140737488351232)
    (h0a : 0 ≤ ahead) (hat : ∀ x ∈ ats, 0 ≤ x ∧ x < 4611686018427387904) (ha : ahead < 4611686018427387904) (_ : I kp) (hIa : I ka) (hIb : I b) (J Jx : List SV → World → Prop)
    (hY : ∀ pre x W, J pre W → pre.length < ((stF ahead ats).map sv).length → YieldAt F (n - 1) Try.prog l #[x.1] W fun e W' =>
      (e = .returned (.bool true) ∧ J (pre ++ [x]) W' ∧ KpI I W W') ∨ (e = .returned (.bool false) ∧ Jx (pre ++ [x]) W'))
    (W : World) (hP : W.cell? ⟨kp, op + 1, none⟩ = some (.slice (some ⟨b, off, none⟩) ats.length cap)) (hA : W.cell? ⟨ka, oa, none⟩ = some (.int .i64 ahead))
    (hc : ∀ j, j < ats.length → W.cell? ⟨b, off + j, none⟩ = some (.int .i64 (ats[j]?.getD 0))) (h0 : J [] W) :
    CallsIn F n Try.prog 171 #[.func (.yield l) #[] #[], .pointer (some ⟨kp, op, none⟩), .pointer (some ⟨ka, oa, none⟩)] W fun e W' => (∃ v, e = .returned v) ∧
      ((∃ ys, ys = stK ahead ats ats.length ∧ J ys W') ∨ (∃ pre, True ∧ Jx pre W')) := by
  refine callsIn_of_wp Try.func171 rfl h72 ?_ hro
  simp only [Try.ntmps171, List.size_toArray, List.length_cons, List.length_nil, Nat.reduceAdd, Nat.reduceSub, Array.replicate_succ, Array.replicate_zero, List.push_toArray, List.append_toArray, List.nil_append, List.cons_append]
  gi_wp2
  gi_loopw [9] (fun i wr => ∃ k : Nat, k ≤ ats.length ∧ i = .int .i64 k ∧ J (stK ahead ats k) wr ∧ KpI I W wr)
    (fun i _ => ats.length - (Go.RowKit.intOf i).toNat)
  case atStart => exact ⟨0, Nat.zero_le _, rfl, h0, fun _ _ => rfl⟩
  case round =>
    obtain ⟨k, hk, rfl, hJs, hnx⟩ := hrel
    have hAx : wr.cell? ⟨ka, oa, none⟩ = some (.int .i64 ahead) := (hnx.cell (p := ⟨ka, oa, none⟩) hIa).trans hA
    have hcx : k < ats.length → wr.cell? ⟨b, off + k, none⟩ = some (.int .i64 (ats[k]?.getD 0)) := fun h => (hnx.cell (p := ⟨b, off + k, none⟩) hIb).trans (hc k h)
    by_cases hlt : k < ats.length
    · have hS := stK_succ (ahead := ahead) hlt
      have hcx' := hcx hlt
      clear hcx
      have hlN := stK_lt (ahead := ahead) hlt
      have hb := hat (ats[k]?.getD 0) (by simp [hlt])
      generalize ats[k]?.getD 0 = y at hS hcx' hlN hb
      obtain ⟨hb0, hb1⟩ := hb
      by_cases hge : ahead ≤ y
      · obtain ⟨fn, tmps, assign, body, hy, hR⟩ := hY _ (sv (y - ahead)) wr hJs (hlN hge)
        rw [if_pos hge] at hS
        dsimp only [sv] at hy
        clear hc hat
        gi_wp2
        refine hR.mono ?_
        rintro e W3 (⟨rfl, hJ3, hk3⟩ | ⟨rfl, hJx3⟩)
        · gi_wp2
          go_roundw
          case rel => exact ⟨k + 1, by omega, by simp, by rw [hS]; exact hJ3, fun i hi => (hk3 i hi).trans (hnx i hi)⟩
          case measure => simp [Go.RowKit.intOf]; omega
        · gi_wp2
          refine bodyPost_ret (results_none rfl _ _ _) rfl ?_
          exact ⟨⟨_, rfl⟩, .inr ⟨_, trivial, hJx3⟩⟩
      · rw [if_neg hge] at hS
        clear hc hat
        gi_wp2
        refine ⟨fun _ h => (by cases h), ?_⟩
        gi_wp2
        go_roundw
        case rel => exact ⟨k + 1, by omega, by simp, by rw [hS, List.append_nil]; exact hJs, hnx⟩
        case measure => simp [Go.RowKit.intOf]; omega
    · obtain rfl : k = ats.length := by omega
      gi_wp2
      go_end0
      exact ⟨⟨_, rfl⟩, .inl ⟨_, rfl, hJs⟩⟩
set_option maxRecDepth 100000 in
set_option maxHeartbeats 2000000 in
theorem starts1_nil (F : Fence) (n : Nat) (h72 : F.fn 171) (hro : F.round = none) (l kp op ka oa cap : Nat) (a : Option Addr) (J : List SV → World → Prop)
    (W : World) (hP : W.cell? ⟨kp, op + 1, none⟩ = some (.slice a 0 cap)) (h0 : J [] W) :
    CallsIn F n Try.prog 171 #[.func (.yield l) #[] #[], .pointer (some ⟨kp, op, none⟩), .pointer (some ⟨ka, oa, none⟩)] W fun e W' => (∃ v, e = .returned v) ∧ J [] W' := by
  refine callsIn_of_wp Try.func171 rfl h72 ?_ hro
  simp only [Try.ntmps171, List.size_toArray, List.length_cons, List.length_nil, Nat.reduceAdd, Nat.reduceSub, Array.replicate_succ, Array.replicate_zero, List.push_toArray, List.append_toArray, List.nil_append, List.cons_append]
  gi_wp2
  gi_loopw [9] (fun i wr => i = .int .i64 0 ∧ J [] wr) (fun _ _ => 0)
  case atStart => exact ⟨rfl, h0⟩
  case round =>
    obtain ⟨rfl, hJs⟩ := hrel
    gi_wp2
    go_end0
    exact ⟨⟨_, rfl⟩, hJs⟩

theorem g_starts (ats : List Int) (ahead : Int) (doc : T) (hl : ats.length < 1000000000) (h0a : 0 ≤ ahead) (hat : ∀ x ∈ ats, 0 ≤ x ∧ x < 4611686018427387904) (ha : ahead < 4611686018427387904) (_hd : doc.cells.length = 1) :
    Gives Try.prog 171 [.ra 2 [.ag [doc, tints ats]] 0 0, .ra 1 [.i ahead] 0 0] ((stF ahead ats).map sv) := by
  refine ⟨⟨Try.f171, Try.func171, by kernel_rfl, rfl⟩, fun n hn γ H I w vs r hlen hv => ?_⟩
  have v0 := hv 0 _ rfl
  have v1 := hv 1 _ rfl
  match vs, hlen with
  | [p, q], _ =>
  simp only [List.getD_cons_zero, List.getD_cons_succ] at v0 v1
  cases v0 with
  | ra kp op us hi hIp hw hc h1 hr =>
  cases v1 with
  | ra ka oa us1 hi1 hIa hw1 hc1 h11 hr1 =>
  have c1 := hc 1 (tints ats) (by simp [flatT, T.cells])
  have r1 := hr 1 (tints ats) (by simp [flatT, T.cells])
  have c2 := hc1 0 (.i ahead) (by simp [flatT, T.cells])
  have r2 := hr1 0 (.i ahead) (by simp [flatT, T.cells])
  generalize us 1 = u1 at c1 r1
  generalize us1 0 = u2 at c2 r2
  cases r2 with
  | sc h2 =>
  intro l J Jx W hW _ _ hY h0
  have hWI : ∀ k, I k → W.heap[k]? = w.heap[k]? := fun k hk => hW.block k (r.immlt hk)
  have cW : ∀ {p : Addr}, I p.block → W.cell? p = w.cell? p := fun h => World.cell?_of_block (hWI _ h)
  have e1 : #[Value.func (.yield l) #[] #[]] ++ [Value.pointer (some ⟨kp, op + (0 * 2 + 0), none⟩), .pointer (some ⟨ka, oa + (0 * 1 + 0), none⟩)].toArray = #[.func (.yield l) #[] #[], .pointer (some ⟨kp, op, none⟩), .pointer (some ⟨ka, oa, none⟩)] := by simp
  rw [e1]
  have hP := (cW (p := ⟨kp, op + 1, none⟩) hIp).trans c1
  have hA := (cW (p := ⟨ka, oa, none⟩) hIa).trans c2
  unfold tints at r1
  generalize hz : ats.map T.i = zs at r1
  cases r1 with
  | @sl sz es a cap kb ob vs hx hw2 hl2 hc2 h12 hr2 =>
  subst hz
  have hsz : (ats.map T.i).length = ats.length := by simp
  rw [hsz] at hP
  cases ats with
  | nil => exact (starts1_nil Fence.wide n trivial rfl l kp op ka oa cap a J W hP h0).mono fun e W' ⟨he, hj⟩ => ⟨he, .inl ⟨_, rfl, hj⟩⟩
  | cons x xs =>
    obtain ⟨rfl, hIb⟩ := hx (by simp)
    have hcell : ∀ j, j < (x :: xs).length → W.cell? ⟨kb, ob + j, none⟩ = some (.int .i64 ((x :: xs)[j]?.getD 0)) := fun j hj => by
      have hf : (flatT ((x :: xs).map T.i))[j]? = some (T.i ((x :: xs)[j]'hj)) := by
        have := flatT_get (sz := 1) hw2 j (T.i ((x :: xs)[j]'hj)) (getM hj) 0 (by omega)
        rw [Nat.mul_one, Nat.add_zero] at this
        rw [this]; rfl
      have h3 := hc2 j _ hf
      have h4 := hr2 j _ hf
      generalize vs j = u at h3 h4
      cases h4
      rw [cW (p := ⟨kb, ob + j, none⟩) hIb, h3, List.getElem?_eq_getElem hj]
      rfl
    refine (starts1_in Fence.wide n trivial rfl hn I l kp op ka oa kb ob cap (x :: xs) ahead (by omega) h0a hat ha hIp hIa hIb J Jx hY W hP hA hcell h0).mono fun e W' ⟨he, h5⟩ => ⟨he, ?_⟩
    rcases h5 with ⟨ys, rfl, hj⟩ | ⟨pre, _, hj⟩
    · exact .inl ⟨_, stK_all, hj⟩
    · exact .inr ⟨pre, trivial, hj⟩
end Go.Aw
