/- Contracts of functions of the given program, by the abstract walk, for law ShelfPutsUpto: what each one hands back; no condition but those that each theorem states. -/
import Derived.Lib.AppendZerosOnto
import Derived.Test.YthcihkgopmmolaaF
import Derived.Test.YthcihkgopmmolaaL2
import Derived.Test.YthcihkgopmmolaaW3
namespace Go.Aw
open Go Go.Proofs Go.Sort Go.RowKit Go.Shelf
set_option maxRecDepth 1000000
set_option maxHeartbeats 4000000

/- slices.Insert OF ONE CARD, slices.Delete OF ONE, AS THE MODEL RUNS THEM -/
theorem kOverlaps {w : World} {ka kb oa ob la ca lb cb : Nat} {ac bc : Array Value} {ea eb : TypeId} (hne : ka ≠ kb) (ha : w.heap[ka]? = some (.cells ac ea (0, 0))) (hb : w.heap[kb]? = some (.cells bc eb (0, 0))) (hsz : bc.size ≠ 0) :
    (callFunc 48 #[.slice (some ⟨ka, oa, none⟩) la ca, .slice (some ⟨kb, ob, none⟩) lb cb]).run Try.prog w = .ok (.value (.bool false)) w := by
  rw [run_callFunc_extern Try.func48 (by kernel_rfl) (by kernel_rfl) (by kernel_rfl) (e := Extern.SlicesOverlaps.overlaps #[22, 22] #[4]) (by kernel_rfl),
    run_overlaps_row (sz := 3) (e := 30) Try.underlying22 (by kernel_rfl) hne ha hb hsz]
  rfl
theorem kCopy {w : World} {k o dl dc m n : Nat} {c : Array Value} {el ty : TypeId} {Y : Value} {xs : List Value} (cs : Array Bool) (hk : w.heap[k]? = some (.cells c el (0, 0))) (hY : (Builtin.lenOf Y).run Try.prog w = .ok m w) (hn : min m dl = n)
    (hf : (Builtin.firstCells 3 n Y).run Try.prog w = .ok xs.toArray w) (hb : o + xs.length ≤ c.size) (h1 : ∀ x ∈ xs, x.oneCell' = true) :
    (builtin .copy #[22, 22] ty cs #[.slice (some ⟨k, o, none⟩) dl dc, Y]).run Try.prog w = .ok (.value (.int .i64 (n : Nat))) (World.setB w k (.cells (wr c o xs) el (0, 0))) := by
  have := run_copy_row (P := Try.prog) (t2 := 22) (ty := ty) (dCap := dc) (sz := 3) (e := 30) Try.underlying22 (by kernel_rfl) hk hY hn hf hb h1
  simp [builtin, this]
theorem kInsRoom (n cap i k kv vc : Nat) (c cv : Array Value) (el ev : TypeId) (w : World) (hn9 : n < 1000000000) (hi : i < n) (hroom : n + 1 ≤ cap) (hne : kv ≠ k)
    (hk : w.heap[k]? = some (.cells c el (0, 0))) (hsz : cap * 3 ≤ c.size) (hv : w.heap[kv]? = some (.cells cv ev (0, 0))) (hvs : 3 ≤ cv.size)
    (h1c : ∀ x ∈ (c.toList.drop (i * 3)).take ((n - i) * 3), x.oneCell' = true) (h1v : ∀ x ∈ (cv.toList.drop 0).take (1 * 3), x.oneCell' = true) :
    Calls Try.prog 35 #[.slice (some ⟨k, 0, none⟩) n cap, .int .i64 i, .slice (some ⟨kv, 0, none⟩) 1 vc] w fun e w' =>
      e = .returned (.slice (some ⟨k, 0, none⟩) (n + 1) cap) ∧ ∃ q, w' = World.setB (w.drewN q) k (.cells (wr (wr c ((i + 1) * 3) ((c.toList.drop (i * 3)).take ((n - i) * 3))) (i * 3) ((cv.toList.drop 0).take (1 * 3))) el (0, 0)) := by
  have hz2 : ¬ ((i : Int) = (n : Int)) := by omega
  have hin : i ≤ n := by omega
  have hb2 : ¬ (cap = i + 1) := by omega
  have hb4 : ¬ (cap = i) := by omega
  have hz3 : ¬ ((cap : Int) < (n : Int) + 1) := by omega
  have hw1 : IntKind.i64.wrap ((i : Int) + 1) = (i : Int) + 1 := by rw [IntKind.wrap_i64]; omega
  have mixed : Try.prog.follows .mixedOrders = true := by kernel_rfl
  have hb1 : (0 : Int) ≤ (i : Int) + 1 := by omega
  have htn : ((i : Int) + 1).toNat = i + 1 := by omega
  have hb3 : (i : Int) ≤ (n : Int) + 1 := by omega
  have hov : ∀ (x : Nat) lb cb, (callFunc 48 #[.slice (some ⟨kv, 0, none⟩) 1 vc, .slice (some ⟨k, x, none⟩) lb cb]).run Try.prog w = .ok (.value (.bool false)) w := fun x lb cb => kOverlaps hne hv hk (by omega)
  have hl1 : ((c.toList.drop (i * 3)).take ((n - i) * 3)).length = (n - i) * 3 := by simp; omega
  have hl2 : ((cv.toList.drop 0).take (1 * 3)).length = 3 := by simp; omega
  have hcp1 : ∀ ty cs dl dc sl sc, min sl dl = n - i → (builtin .copy #[22, 22] ty cs #[.slice (some ⟨k, (i + 1) * 3, none⟩) dl dc, .slice (some ⟨k, i * 3, none⟩) sl sc]).run Try.prog w.drew = .ok (.value (.int .i64 ((n - i : Nat) : Int))) (World.setB w.drew k (.cells (wr c ((i + 1) * 3) ((c.toList.drop (i * 3)).take ((n - i) * 3))) el (0, 0))) :=
    fun ty cs dl dc sl sc hm => kCopy (w := w.drew) cs hk rfl hm (run_first_row (w := w.drew) hk (by omega)) (by rw [hl1]; omega) h1c
  obtain ⟨c1, hc1⟩ : ∃ c1, c1 = wr c ((i + 1) * 3) ((c.toList.drop (i * 3)).take ((n - i) * 3)) := ⟨_, rfl⟩
  have hcs : c1.size = c.size := by rw [hc1]; simp
  rw [← hc1] at hcp1 ⊢
  obtain ⟨W1, hW1⟩ : ∃ W1, W1 = World.setB w.drew k (.cells c1 el (0, 0)) := ⟨_, rfl⟩
  have hk1 : W1.heap[k]? = some (.cells c1 el (0, 0)) := by rw [hW1]; exact setB_same _ _ _ (heap_lt (w := w.drew) hk)
  have hv1 : W1.heap[kv]? = some (.cells cv ev (0, 0)) := by rw [hW1, setB_get _ _ _ _ hne]; exact hv
  rw [← hW1] at hcp1
  have hcp2 : ∀ ty dl dc, 1 ≤ dl → (Builtin.copy_ #[22, 22] ty #[.slice (some ⟨k, i * 3, none⟩) dl dc, .slice (some ⟨kv, 0, none⟩) 1 vc]).run Try.prog W1 = .ok (.int .i64 1) (World.setB W1 k (.cells (wr c1 (i * 3) ((cv.toList.drop 0).take (1 * 3))) el (0, 0))) :=
    fun ty dl dc hm => run_copy_row (n := 1) (m := 1) (sz := 3) (e := 30) Try.underlying22 (by kernel_rfl) hk1 rfl (by omega) (run_first_row (w := W1) hv1 (by omega)) (by rw [hl2]; omega) h1v
  have hcp3 := hcp2 3 (n + 1 - i) (cap - i) (by omega)
  clear hcp2
  have hW : Aside (W1 = World.setB w.drew k (.cells c1 el (0, 0))) := hW1
  have hC : Aside (c1.size = c.size) := hcs
  clear hW1 hc1 hcs hk1 hv1
  go_enter Try.func35, Try.ntmps35
  go_wp2_with (simp only [hov])
  go_region_law_o (refine step_builtin_run rfl .copy _ _ 22 22 rfl (.slice (some ⟨k, (i + 1) * 3, none⟩) (n - i) (cap - (i + 1))) (.slice (some ⟨k, i * 3, none⟩) (n + 1 - i) (cap - i)) (by simp [Act.eval, Act.put]) (by simp [Act.eval, Act.put]) (fun cs => hcp1 _ cs (n - i) (cap - (i + 1)) (n + 1 - i) (cap - i) (by omega)) ?_)
  go_wp2_with (rw [hcp3])
  go_ret
  exact ⟨rfl, 1, by rw [hW.out, setB_setB]; rfl⟩
theorem setB_alloc (w : World) (o o' : Obj) : World.setB (w.alloc o) w.heap.size o' = w.alloc o' := by
  have : ((w.heap.push o).setIfInBounds w.heap.size o') = w.heap.push o' := by
    apply Array.ext_getElem?
    intro j
    rw [Array.getElem?_setIfInBounds, Array.getElem?_push, Array.getElem?_push]
    by_cases h : w.heap.size = j
    · subst h; simp
    · rw [if_neg h, if_neg (fun e => h e.symm), if_neg (fun e => h e.symm)]
  unfold World.setB World.alloc
  rw [this]
theorem kInsGrow (n cap i k kv vc : Nat) (c cv : Array Value) (el ev : TypeId) (w : World) (hn9 : n < 1000000000) (hi : i < n) (hroom : cap < n + 1) (hnc : n ≤ cap)
    (hk : w.heap[k]? = some (.cells c el (0, 0))) (hsz : cap * 3 ≤ c.size) (hv : w.heap[kv]? = some (.cells cv ev (0, 0))) (hvs : 3 ≤ cv.size)
    (h1c : ∀ x ∈ (c.toList.drop (i * 3)).take ((n - i) * 3), x.oneCell' = true) (h1v : ∀ x ∈ (cv.toList.drop 0).take (1 * 3), x.oneCell' = true) :
    Calls Try.prog 35 #[.slice (some ⟨k, 0, none⟩) n cap, .int .i64 i, .slice (some ⟨kv, 0, none⟩) 1 vc] w fun e w' =>
      ∃ G ROW q, e = .returned (.slice (some ⟨w.heap.size, 0, none⟩) (n + 1) G) ∧ n + 1 ≤ G ∧ (ROW : Array Value).size = G * 3 ∧ (∀ j, j < i * 3 → ROW[j]? = c[j]?) ∧
        w' = (w.drewN q).alloc (.cells (wr (wr ROW (i * 3) ((cv.toList.drop 0).take (1 * 3))) ((i + 1) * 3) ((c.toList.drop (i * 3)).take ((n - i) * 3))) 30) := by
  have hz2 : ¬ ((i : Int) = (n : Int)) := by omega
  have hin : i ≤ n := by omega
  have hz3 : (cap : Int) < (n : Int) + 1 := by omega
  have hci : ¬ (cap = i) := by omega
  have mixed : Try.prog.follows .mixedOrders = true := by kernel_rfl
  have hkk : (n : Int) + 1 - (i : Int) = ((n + 1 - i : Nat) : Int) := by omega
  have hik : i + (n + 1 - i) = n + 1 := by omega
  have hkw := heap_lt hk
  have hvw := heap_lt hv
  have hl1 : ((c.toList.drop (i * 3)).take ((n - i) * 3)).length = (n - i) * 3 := by simp; omega
  have hl2 : ((cv.toList.drop 0).take (1 * 3)).length = 3 := by simp; omega
  have hold : (Builtin.firstCells Try.t30.size i (.slice (some ⟨k, 0, none⟩) i cap)).run Try.prog w.drew = .ok ((c.toList.drop 0).take (i * 3)).toArray w.drew := run_first_row (sz := 3) (w := w.drew) hk (by omega)
  have hrz : ∀ ty, (Builtin.append_ #[22, 3] ty #[.slice (some ⟨k, 0, none⟩) i cap, .int .i64 ((n : Int) + 1 - (i : Int))]).run Try.prog w = .ok (.slice (some ⟨w.heap.size, 0, none⟩) (i + (n + 1 - i)) (grownCap w (i + (n + 1 - i)) cap 30)) (w.drew.alloc (.cells (((c.toList.drop 0).take (i * 3)).toArray ++ Builtin.zeroCells (Value.agg #[.string ⟨#[]⟩, .int .i64 0, .slice none 0 0]).cells (n + 1 - i) ++ Builtin.zeroCells (Value.agg #[.string ⟨#[]⟩, .int .i64 0, .slice none 0 0]).cells (grownCap w (i + (n + 1 - i)) cap 30 - (i + (n + 1 - i)))) 30)) := fun ty => by
    rw [hkk]
    exact Lib.run_append_grow_zeros w 22 3 ty 30 Try.t30 (.agg #[.string ⟨#[]⟩, .int .i64 0, .slice none 0 0]) .i64 .i64 Try.underlying22 Try.underlying3 (by kernel_rfl) (by kernel_rfl) (some ⟨k, 0, none⟩) i cap _ hold (n + 1 - i) (by omega) (by show 0 < 3; omega) (by omega) (by omega) (by show _ * 48 ≤ _; omega) (by
      have := growslice_fits (need := i + (n + 1 - i)) (old := cap) (bytes := 48) (by omega) (by omega)
      exact this)
  rw [hik] at hrz
  have hGn : n + 1 ≤ grownCap w (n + 1) cap 30 := grownCap_ge w _ _ _
  have hG63 : grownCap w (n + 1) cap 30 ≤ 9223372036854775807 := by
    have := grownCap_le_maxLen w (n + 1) cap 30 (by unfold maxLen; omega)
    unfold maxLen at this
    omega
  obtain ⟨G, hG⟩ : ∃ G, G = grownCap w (n + 1) cap 30 := ⟨_, rfl⟩
  obtain ⟨ROW, hROW⟩ : ∃ ROW : Array Value, ROW = ((c.toList.drop 0).take (i * 3)).toArray ++ Builtin.zeroCells (Value.agg #[.string ⟨#[]⟩, .int .i64 0, .slice none 0 0]).cells (n + 1 - i) ++ Builtin.zeroCells (Value.agg #[.string ⟨#[]⟩, .int .i64 0, .slice none 0 0]).cells (G - (n + 1)) := ⟨_, rfl⟩
  rw [← hG] at hrz hGn hG63
  rw [← hROW] at hrz
  have hRs : ROW.size = G * 3 := by
    rw [hROW]
    simp [Builtin.zeroCells, Value.cells]
    omega
  have hRp : ∀ j, j < i * 3 → ROW[j]? = c[j]? := fun j hj => by
    have hjc : j < c.size := by omega
    rw [hROW, Array.append_assoc, Array.getElem?_append_left (by simp; omega)]
    simp [hj, hjc]
  clear hROW hkk hold
  obtain ⟨N, hN⟩ : ∃ N, N = w.heap.size := ⟨_, rfl⟩
  obtain ⟨W1, hW1⟩ : ∃ W1, W1 = w.drew.alloc (.cells ROW 30) := ⟨_, rfl⟩
  rw [← hW1, ← hN] at hrz
  have e1 : W1.heap[N]? = some (.cells ROW 30 (0, 0)) := by rw [hW1, hN]; show (w.heap.push _)[w.heap.size]? = _; simp
  have eo : ∀ j, j < w.heap.size → W1.heap[j]? = w.heap[j]? := fun j hj => by rw [hW1]; show (w.heap.push _)[j]? = _; rw [Array.getElem?_push, if_neg (by omega)]
  have hv1 : W1.heap[kv]? = some (.cells cv ev (0, 0)) := (eo _ hvw).trans hv
  have hk1 : W1.heap[k]? = some (.cells c el (0, 0)) := (eo _ hkw).trans hk
  have hcp1 : ∀ ty dc, (Builtin.copy_ #[22, 22] ty #[.slice (some ⟨N, i * 3, none⟩) (n + 1 - i) dc, .slice (some ⟨kv, 0, none⟩) 1 vc]).run Try.prog W1 = .ok (.int .i64 1) (World.setB W1 N (.cells (wr ROW (i * 3) ((cv.toList.drop 0).take (1 * 3))) 30 (0, 0))) :=
    fun ty dc => run_copy_row (n := 1) (m := 1) (sz := 3) (e := 30) Try.underlying22 (by kernel_rfl) e1 rfl (by omega) (run_first_row (w := W1) hv1 (by omega)) (by rw [hl2]; omega) h1v
  obtain ⟨R1, hR1⟩ : ∃ R1, R1 = wr ROW (i * 3) ((cv.toList.drop 0).take (1 * 3)) := ⟨_, rfl⟩
  have hR1s : R1.size = ROW.size := by rw [hR1]; simp
  rw [← hR1] at hcp1
  obtain ⟨W2, hW2⟩ : ∃ W2, W2 = World.setB W1 N (.cells R1 30 (0, 0)) := ⟨_, rfl⟩
  have hNW : N < W1.heap.size := heap_lt e1
  have e2 : W2.drew.heap[N]? = some (.cells R1 30 (0, 0)) := by rw [hW2]; exact setB_same _ _ _ hNW
  have hk2 : W2.drew.heap[k]? = some (.cells c el (0, 0)) := by rw [hW2]; exact (setB_get _ _ _ _ (by omega)).trans hk1
  rw [← hW2] at hcp1
  have hcp2 : ∀ ty dc sc, (Builtin.copy_ #[22, 22] ty #[.slice (some ⟨N, (i + 1) * 3, none⟩) (n - i) dc, .slice (some ⟨k, i * 3, none⟩) (n - i) sc]).run Try.prog W2.drew = .ok (.int .i64 ((n - i : Nat) : Int)) (World.setB W2.drew N (.cells (wr R1 ((i + 1) * 3) ((c.toList.drop (i * 3)).take ((n - i) * 3))) 30 (0, 0))) :=
    fun ty dc sc => run_copy_row (n := n - i) (m := n - i) (sz := 3) (e := 30) Try.underlying22 (by kernel_rfl) e2 rfl (by omega) (run_first_row (w := W2.drew) hk2 (by omega)) (by rw [hl1]; omega) h1c
  suffices h : Calls Try.prog 35 #[.slice (some ⟨k, 0, none⟩) n cap, .int .i64 i, .slice (some ⟨kv, 0, none⟩) 1 vc] w fun e w' =>
      e = .returned (.slice (some ⟨N, 0, none⟩) (n + 1) G) ∧ w' = World.setB W2.drew N (.cells (wr R1 ((i + 1) * 3) ((c.toList.drop (i * 3)).take ((n - i) * 3))) 30 (0, 0)) by
    refine h.mono ?_
    rintro e w' ⟨rfl, rfl⟩
    refine ⟨G, ROW, 2, by rw [hN], hGn, hRs, hRp, ?_⟩
    rw [hW2, hW1, hN, ← hR1]
    show World.setB (World.setB (w.drew.drew.alloc (.cells ROW 30)) w.heap.size _) w.heap.size _ = _
    rw [setB_setB]
    exact setB_alloc w.drew.drew _ _
  have hGi : ¬ (G = i) := by omega
  have hGim : ¬ (G = i + 1) := by omega
  have hw1 : IntKind.i64.wrap ((i : Int) + 1) = (i : Int) + 1 := by rw [IntKind.wrap_i64]; omega
  have hb1 : (0 : Int) ≤ (i : Int) + 1 := by omega
  have htn : ((i : Int) + 1).toNat = i + 1 := by omega
  have hb3 : (i : Int) ≤ (n : Int) + 1 := by omega
  have hb5 : (i : Int) ≤ (n : Int) := by omega
  clear hW1 hW2 hR1 hG hN e1 e2 hk1 hk2 hv1 eo hRs hR1s hRp hl1 hl2 hik hNW
  go_enter Try.func35, Try.ntmps35
  go_wp2_with (first | (at_builtin; refine Lib.wpList_append_run _ rfl _ _ _ _ rfl _ _ rfl rfl _ _ (hrz _) ?_) | rw [hcp1])
  have hcpB : ∀ cs, (builtin .copy #[22, 22] 3 cs #[.slice (some ⟨N, (i + 1) * 3, none⟩) (n - i) (G - (i + 1)), .slice (some ⟨k, i * 3, none⟩) (n - i) (cap - i)]).run Try.prog W2.drew = .ok (.value (.int .i64 ((n - i : Nat) : Int))) (World.setB W2.drew N (.cells (wr R1 ((i + 1) * 3) ((c.toList.drop (i * 3)).take ((n - i) * 3))) 30 (0, 0))) := fun cs => by simp [builtin, hcp2]
  go_region_law_o (refine step_builtin_run rfl .copy _ _ 22 22 rfl (.slice (some ⟨N, (i + 1) * 3, none⟩) (n - i) (G - (i + 1))) (.slice (some ⟨k, i * 3, none⟩) (n - i) (cap - i)) (by simp [Act.eval, Act.put]) (by simp [Act.eval, Act.put]) hcpB ?_)
  go_wp2
  go_ret
  exact ⟨rfl, rfl⟩
end Go.Aw
namespace Go.Aw
open Go Go.Proofs Go.Sort Go.RowKit Go.Shelf
set_option maxRecDepth 1000000
set_option maxHeartbeats 4000000

theorem zcard : Builtin.zeroCells (Value.agg #[.string ⟨#[]⟩, .int .i64 0, .slice none 0 0]).cells (0 + 1) = #[.string ⟨#[]⟩, .int .i64 0, .slice none 0 0] := by
  simp [Builtin.zeroCells, Value.cells]
  apply Array.ext'
  rw [Array.toList_map, Array.toList_range]
  rfl
theorem kDel (n cap i k : Nat) (c : Array Value) (el : TypeId) (w : World) (hn9 : n < 1000000000) (hi : i < n) (hnc : n ≤ cap)
    (hk : w.heap[k]? = some (.cells c el (0, 0))) (hsz : cap * 3 ≤ c.size)
    (h1c : ∀ x ∈ (c.toList.drop ((i + 1) * 3)).take ((n - (i + 1)) * 3), x.oneCell' = true) :
    Calls Try.prog 38 #[.slice (some ⟨k, 0, none⟩) n cap, .int .i64 i, .int .i64 ((i : Int) + 1)] w fun e w' =>
      e = .returned (.slice (some ⟨k, 0, none⟩) (n - 1) cap) ∧ ∃ q, w' = World.setB (w.drewN q) k (.cells (wr (wr c (i * 3) ((c.toList.drop ((i + 1) * 3)).take ((n - (i + 1)) * 3))) ((n - 1) * 3) [.string ⟨#[]⟩, .int .i64 0, .slice none 0 0]) el (0, 0)) := by
  have mixed : Try.prog.follows .mixedOrders = true := by kernel_rfl
  have hl1 : ((c.toList.drop ((i + 1) * 3)).take ((n - (i + 1)) * 3)).length = (n - (i + 1)) * 3 := by simp; omega
  obtain ⟨c1, hc1⟩ : ∃ c1, c1 = wr c (i * 3) ((c.toList.drop ((i + 1) * 3)).take ((n - (i + 1)) * 3)) := ⟨_, rfl⟩
  have hcs : c1.size = c.size := by rw [hc1]; simp
  obtain ⟨A, hA, hrd⟩ : ∃ A : Addr, (if cap = i + 1 then (some ⟨k, 0, none⟩ : Option Addr) else some ⟨k, (i + 1) * 3, none⟩) = some A ∧ Hid (∀ sc, (Builtin.firstCells 3 (n - (i + 1)) (.slice (some A) (n - (i + 1)) sc)).run Try.prog w.drew = .ok ((c.toList.drop ((i + 1) * 3)).take ((n - (i + 1)) * 3)).toArray w.drew) := by
    by_cases h : cap = i + 1
    · refine ⟨⟨k, 0, none⟩, by simp [h], fun sc => ?_⟩
      have h0 : n - (i + 1) = 0 := by omega
      have := run_first_row (P := Try.prog) (sz := 3) (n := 0) (o := 0) (len := 0) (cap := sc) (w := w.drew) hk (by omega)
      rw [h0]
      simpa using this
    · exact ⟨⟨k, (i + 1) * 3, none⟩, by simp [h], fun sc => run_first_row (w := w.drew) hk (by omega)⟩
  obtain ⟨W1, hW1⟩ : ∃ W1, W1 = World.setB w.drew k (.cells c1 el (0, 0)) := ⟨_, rfl⟩
  have hk1 : W1.heap[k]? = some (.cells c1 el (0, 0)) := by rw [hW1]; exact setB_same _ _ _ (heap_lt (w := w.drew) hk)
  have hap : ∀ ty cs sc, (builtin .append #[22, 22] ty cs #[.slice (some ⟨k, 0, none⟩) i cap, .slice (some A) (n - (i + 1)) sc]).run Try.prog w.drew = .ok (.value (.slice (some ⟨k, 0, none⟩) (i + (n - (i + 1))) cap)) W1 := fun ty cs sc => by
    have := run_append_row (P := Try.prog) (t := 22) (e := 30) (ty := ty) (sLen := i) (sCap := cap) (w := w.drew) (by kernel_rfl) (by kernel_rfl) hk (rfl : (Builtin.lenOf (.slice (some A) (n - (i + 1)) sc)).run Try.prog w.drew = .ok (n - (i + 1)) w.drew) (hrd.out sc) (by omega) (by rw [hl1]; omega) h1c
    rw [← hc1, ← hW1] at this
    simp [builtin, this]
  have hcl : ∀ ty dc, (Builtin.clear_ #[22] ty #[.slice (some ⟨k, (n - 1) * 3, none⟩) (0 + 1) dc]).run Try.prog W1 = .ok (.tuple #[]) (World.setB W1 k (.cells (wr c1 ((n - 1) * 3) [.string ⟨#[]⟩, .int .i64 0, .slice none 0 0]) el (0, 0))) := fun ty dc =>
by
    have := run_clear_row (P := Try.prog) (m := 0) (ty := ty) (o := (n - 1) * 3) (dCap := dc) Try.underlying22 (Try.zeroValue30 W1) hk1 (by rw [zcard]; simp; omega) (by rw [zcard]; simp [Value.oneCell'])
    rw [zcard] at this
    exact this
  have hW : Aside (W1 = World.setB w.drew k (.cells c1 el (0, 0))) := hW1
  have hC : Aside (c1 = wr c (i * 3) ((c.toList.drop ((i + 1) * 3)).take ((n - (i + 1)) * 3))) := hc1
  have hn1 : i + (n - (i + 1)) = n - 1 := by omega
  have hb1 : ((i : Int) + 1).toNat = i + 1 := by omega
  have hb2 : (i : Int) + 1 ≤ (n : Int) := by omega
  have hb3 : (n : Int) ≤ (cap : Int) := by omega
  have hb4 : ¬ (cap = n - 1) := by omega
  have hb5 : ¬ ((i : Int) = (i : Int) + 1) := by omega
  have hb6 : n - (n - 1) = 1 := by omega
  have hb7 : (((n - 1 : Nat) : Int)) ≤ (n : Int) := by omega
  have hic : i ≤ cap := by omega
  have hb0 : (0 : Int) ≤ (i : Int) + 1 := by omega
  have hjc : i + 1 ≤ cap := by omega
  rw [hn1] at hap
  clear hW1 hc1 hcs hk1 hl1 hrd
  go_enter Try.func38, Try.ntmps38
  go_wp2_with fail
  go_region_law_o (refine step_builtin_run rfl .append _ _ 22 22 rfl (.slice (some ⟨k, 0, none⟩) i cap) (.slice (some A) (n - (i + 1)) (cap - (i + 1))) (by simp [Act.eval, Act.put]) (by simp [Act.eval, Act.put]) (fun cs => hap _ cs _) ?_)
  go_wp2_with (rw [hcl])
  go_ret
  exact ⟨rfl, 1, by rw [hW.out, hC.out, setB_setB]; rfl⟩
end Go.Aw
