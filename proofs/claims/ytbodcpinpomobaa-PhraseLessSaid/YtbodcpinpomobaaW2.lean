/- The abstract walk over the model (second half): the operations are sound, loops, what arguments read as, the row of a law; no condition. -/
import Derived.Scope
import Derived.Sort.Row
import Derived.Sort.Grow
import Derived.RangeFuncWrites
import Derived.RangeFuncCalls
import Derived.TacticsIn
import Derived.ProofKit
import Derived.Test.YtbodcpinpomobaaW1
namespace Go.Aw

theorem flatV_map_g (es : List T) : flatV (es.map .g) = (flatT es).map .g := by
  induction es with
  | nil => rfl
  | cons e es ih => simp only [flatV, flatT, List.map_cons, List.flatMap_cons, List.map_append] at ih ⊢; rw [ih]; rfl

theorem flatV_sub {es : List V} {sz off len : Nat} (hw : ∀ e ∈ es, e.cells.length = sz) (hl : off + len ≤ es.length) (j : Nat) (v : V)
    (h : (flatV ((es.drop off).take len))[j]? = some v) : (flatV es)[off * sz + j]? = some v := by
  have hw' : ∀ e ∈ (es.drop off).take len, e.cells.length = sz := fun e he => hw e (List.mem_of_mem_drop (List.mem_of_mem_take he))
  have hj := lt_of_get h
  rw [flatV_len hw'] at hj
  have hlen : ((es.drop off).take len).length = len := by simp; omega
  rw [hlen] at hj
  obtain ⟨s1, s2, s3⟩ := flat_split hj
  have hlt : off + j / sz < es.length := by omega
  have hq : ((es.drop off).take len)[j / sz]? = some es[off + j / sz] := by
    rw [List.getElem?_take, if_pos s1, List.getElem?_drop]; simp [hlt]
  rw [s3, flatV_get hw' _ _ hq _ s2] at h
  have : off * sz + j = (off + j / sz) * sz + j % sz := by rw [Nat.add_mul]; omega
  rw [this, flatV_get hw _ es[off + j / sz] (by simp [hlt]) _ s2]; exact h

section
variable {γ : List (Option Nat)} {H : List Blk} {I : Nat → Prop} {w : World}

theorem firstCells_ok {P : Program} {k o n sz : Nat} {ys : List V} (h : Reads γ H I w k o (flatV ys)) (hw : ∀ e ∈ ys, e.cells.length = sz) (hn : ys.length = n) (m cap : Nat) :
    ∃ xs, RCs γ H I w (flatV ys) xs ∧ (Builtin.firstCells sz n (.slice (some ⟨k, o, none⟩) m cap)).run P w = .ok xs.toArray w := by
  obtain ⟨xs, h1, h2⟩ := h.vals
  refine ⟨xs, h1, ?_⟩
  have hl : xs.length = n * sz := by rw [h1.rv.1, flatV_len hw, hn]
  have := run_loadCells (P := P) (w := w) (k := k) (o := o) xs 0 #[] (fun j x hj => by rw [Nat.add_zero]; exact h2 j x hj)
  simp [Builtin.firstCells, loadCells, ← hl, this]

theorem firstCells_nil {P : Program} {sz : Nat} (a : Option Addr) (m cap : Nat) : (Builtin.firstCells sz 0 (.slice a m cap)).run P w = .ok #[] w := by
  cases a <;> simp [Builtin.firstCells, loadCells, loadCellsFrom]

theorem elems_ok {P : Program} (r : RelH γ I w H) {y : V} {Y : Value} {sy : Nat} {ys : List V} (hy : RV γ H I w y Y) (h : elems H y = some (sy, ys)) :
    (∃ a cap, Y = .slice a ys.length cap) ∧ (∀ e ∈ ys, e.cells.length = sy) ∧ ∃ xs, RCs γ H I w (flatV ys) xs ∧ (Builtin.firstCells sy ys.length Y).run P w = .ok xs.toArray w := by
  cases y with
  | g t =>
    cases t with
    | sl s es =>
      simp [elems] at h; obtain ⟨rfl, rfl⟩ := h
      cases hy with | g hy =>
      cases hy with
      | @sl _ _ a cap k o vs ha hw hl hc h1 hr =>
      have hw' : ∀ e ∈ es.map V.g, e.cells.length = s := by
        intro e he; obtain ⟨t, ht, rfl⟩ := List.mem_map.1 he
        simp [V.cells, hw t ht]
      refine ⟨⟨a, cap, by simp⟩, hw', ?_⟩
      by_cases hne : es = []
      · subst hne; exact ⟨[], .nil, firstCells_nil ..⟩
      · obtain ⟨rfl, hI⟩ := ha hne
        refine firstCells_ok (k := k) (o := o) (fun j v hj => ?_) hw' rfl _ _
        rw [flatV_map_g, List.getElem?_map] at hj
        cases ht : (flatT es)[j]? with
        | none => rw [ht] at hj; simp at hj
        | some t => rw [ht] at hj; simp at hj; subst hj; exact ⟨_, hc j t ht, h1 j t ht, .g (hr j t ht)⟩
    | _ => simp [elems] at h
  | nil s =>
    simp [elems] at h; obtain ⟨rfl, rfl⟩ := h
    cases hy
    exact ⟨⟨none, 0, rfl⟩, by simp, [], .nil, firstCells_nil ..⟩
  | own b g off len =>
    simp only [elems] at h
    split at h
    case h_2 => simp at h
    rename_i g' sz es hb
    split at h
    case isFalse => simp at h
    rename_i hcond
    obtain ⟨rfl, hlen⟩ := hcond
    simp at h; obtain ⟨rfl, rfl⟩ := h
    cases hy with
    | @own _ _ g2 sz2 _ _ cap es2 a hb2 hg hl hc =>
    rw [hb] at hb2; cases hb2
    have hll : ((es.drop off).take len).length = len := by simp; omega
    obtain ⟨c1, c2⟩ := hc rfl
    rcases r.arr _ _ _ _ hb with ⟨h0, rfl⟩ | ⟨k, c, el, h1, h2, h3, h4, h5⟩
    · have : len = 0 := by simp at c1; omega
      subst this
      exact ⟨⟨a, cap, by simp⟩, by simp, [], by simpa [flatV] using RCs.nil, by simpa using firstCells_nil ..⟩
    · have hw' : ∀ e ∈ (es.drop off).take len, e.cells.length = sz := fun e he => h3 e (List.mem_of_mem_drop (List.mem_of_mem_take he))
      refine ⟨⟨a, cap, by rw [hll]⟩, hw', ?_⟩
      by_cases hz : len = 0
      · subst hz
        exact ⟨[], by simpa [flatV] using RCs.nil, by simpa using firstCells_nil ..⟩
      · rcases c2 with ⟨_, _, _, h0⟩ | ⟨k', hk, ha, _⟩
        · omega
        · rw [h1] at hk; cases hk
          rcases ha with ha | rfl
          · omega
          · refine firstCells_ok (k := k) (o := off * sz) (fun j v hj => ?_) hw' rfl _ _
            obtain ⟨x, e1, e2, e3⟩ := h5 _ v (flatV_sub h3 hlen j v hj)
            exact ⟨x, by simp [World.cell?, h2, e1], e2, e3⟩
  | _ => simp [elems] at h

theorem growBy_le (n : Nat) : ∀ (r c : Nat), c ≤ n → Builtin.growBy n r c ≤ 2 * n + 768
  | 0, c, h => by simp [Builtin.growBy]; omega
  | r + 1, c, h => by
    simp only [Builtin.growBy]
    split
    · omega
    · rename_i hlt
      rcases Nat.lt_or_ge n (c + (c + 768) / 4) with h2 | h2
      · cases r with
        | zero => simp [Builtin.growBy]; omega
        | succ r => simp only [Builtin.growBy]; rw [if_pos (by omega)]; omega
      · exact growBy_le n r _ h2

theorem nextslicecap_le (n c : Nat) (h : c < n) : Builtin.nextslicecap n c ≤ 2 * n + 768 := by
  unfold Builtin.nextslicecap
  split
  · omega
  · split
    · omega
    · exact growBy_le n 4 c (by omega)

/-- the model's append: in place -/
theorem run_append_in {P : Program} {t t2 e e2 : TypeId} {sz : Nat} {o : TypeId} {base : Option Addr} {sLen sCap : Nat} {Y : Value} {n : Nat} {xs : List Value} {w' : World}
    (ht : elemOfS P t = some e) (hn : szOf P e = some sz) (ht2 : P.underlying t2 = some (.slice e2)) (hY : (Builtin.lenOf Y).run P w = .ok n w)
    (hf : (Builtin.firstCells sz n Y).run P w = .ok xs.toArray w) (hle : sLen + n ≤ sCap)
    (hs : (match base with | some a => storeCells (a.add (sLen * sz)) xs | none => pure ()).run P w = .ok () w') :
    (Builtin.append_ #[t, t2] o #[.slice base sLen sCap, Y]).run P w = .ok (.slice base (sLen + n) sCap) w' := by
  cases base with
  | none =>
    simp at hs; subst hs
    simp [Builtin.append_, run_underlying (run_elem ht), run_sizeOf hn, run_underlying ht2, hY, hle, hf]
  | some a =>
    simp only [] at hs
    simp [Builtin.append_, run_underlying (run_elem ht), run_sizeOf hn, run_underlying ht2, hY, hle, hf, hs]

/-- the model's append: into new memory -/
theorem run_append_new {P : Program} {t t2 e e2 : TypeId} {sz bytes : Nat} {o : TypeId} {base : Option Addr} {sLen sCap : Nat} {Y : Value} {n : Nat} {xs ys : List Value}
    (ht : elemOfS P t = some e) (hn : szOf P e = some sz) (hb : bytesIn P e = some bytes) {z : List V} (hz : zeroVs P e = some z) (hzl : z.length = sz) (ht2 : P.underlying t2 = some (.slice e2)) (hY : (Builtin.lenOf Y).run P w = .ok n w)
    (hf : (Builtin.firstCells sz n Y).run P w.drew = .ok xs.toArray w.drew)
    (hg : (Builtin.firstCells sz sLen (.slice base sLen sCap)).run P w.drew = .ok ys.toArray w.drew)
    (hle : sCap < sLen + n) (hbound : (2 * (sLen + n) + 1024) * (bytes + 1) ≤ 281474976710656) :
    ∃ (cap : Nat) (rest : Array Value), sLen + n ≤ cap ∧ (Builtin.append_ #[t, t2] o #[.slice base sLen sCap, Y]).run P w =
      .ok (.slice (some ⟨w.heap.size, 0, none⟩) (sLen + n) cap) (w.drew.alloc (.cells (ys.toArray ++ (xs.toArray ++ rest)) e)) ∧ rest.size = (cap - (sLen + n)) * sz := by
  unfold zeroVs at hz
  unfold bytesIn at hb
  cases hi : P.info? e with
  | none => rw [hi] at hb; simp at hb
  | some i =>
    rw [hi] at hb hz; simp at hb hz
    subst hb
    cases hzz : i.zero with
    | none => rw [hzz] at hz; simp at hz
    | some zv =>
      rw [hzz] at hz; simp at hz
      have hzs : zv.cells.size = sz := by
        have := (litV_ok (γ := []) (H := []) (I := fun _ => False) (w := w) hz).rv.1
        simp at this; omega
      have hbn : sLen + n ≤ 281474976710656 := by
        have h1 : (sLen + n) * 1 ≤ (2 * (sLen + n) + 1024) * (i.bytes + 1) := Nat.mul_le_mul (by omega) (by omega)
        rw [Nat.mul_one] at h1
        exact Nat.le_trans h1 hbound
      have hcap : Builtin.nextslicecap (sLen + n) sCap * i.bytes ≤ 281474976710656 := by
        have h1 := nextslicecap_le (sLen + n) sCap hle
        exact Nat.le_trans (Nat.mul_le_mul (by omega) (by omega)) hbound
      have hnot : ¬ (sLen + n ≤ sCap) := by omega
      have hmax : ¬ ((9223372036854775807 : Int) < (sLen : Int) + (n : Int)) := by omega
      refine ⟨(Question.appendCap (sLen + n) sCap e).cut (w.tape w.drawn (.appendCap (sLen + n) sCap e)), Builtin.zeroCells zv.cells ((Question.appendCap (sLen + n) sCap e).cut (w.tape w.drawn (.appendCap (sLen + n) sCap e)) - (sLen + n)), by simp [Question.cut], ?_, ?_⟩
      · have hm : (IntKind.i64.max : Int) = 9223372036854775807 := rfl
        have hcap' : ¬ (281474976710656 < Builtin.nextslicecap (sLen + n) sCap * i.bytes) := by omega
        simp [Builtin.append_, run_underlying (run_elem ht), run_sizeOf hn, run_underlying ht2, hY, hnot, run_typeInfo hi, hm, hmax, hcap', Question.forced, hf, hg, zeroValue, hzz, newRow]
      · simp [Builtin.zeroCells, hzs]

end
end Go.Aw
namespace Go.Aw

theorem flatV_append (a b : List V) : flatV (a ++ b) = flatV a ++ flatV b := by simp [flatV]

section
variable {γ : List (Option Nat)} {H : List Blk} {I : Nat → Prop} {w : World}

/-- a block that is no memory yet -/
theorem valloc_ok (r : RelH γ I w H) (g sz : Nat) : RelH (γ ++ [none]) I w (H ++ [.arr g sz []]) ∧ Ext γ H I w (γ ++ [none]) (H ++ [.arr g sz []]) I w := by
  have hcase : ∀ (b k : Nat), (γ ++ [none])[b]? = some (some k) → γ[b]? = some (some k) ∧ b < H.length := by
    intro b k hk
    rcases Nat.lt_or_ge b γ.length with hb | hb
    · rw [List.getElem?_append_left hb] at hk; exact ⟨hk, by rw [← r.len]; exact hb⟩
    · rw [List.getElem?_append_right hb] at hk
      cases hd : b - γ.length with
      | zero => rw [hd] at hk; simp at hk
      | succ n => rw [hd] at hk; simp at hk
  have hold : ∀ b : Nat, b < H.length → (γ ++ [none])[b]? = γ[b]? := fun b hb => List.getElem?_append_left (by rw [r.len]; exact hb)
  have hx : Ext γ H I w (γ ++ [none]) (H ++ [.arr g sz []]) I w :=
    ⟨rfl, rfl, rfl, Nat.le_refl _, fun _ h => h, fun _ h => .inl h, fun _ _ _ => rfl, fun _ _ h => h,
      fun b x h => ⟨x, by rw [List.getElem?_append_left (lt_of_get h)]; exact h, x.upto_refl, fun _ => ⟨hold b (lt_of_get h), fun g sz es es' h1 h2 => by subst h1; cases h2; exact Nat.le_refl _⟩⟩,
      fun b k h => .inr ⟨b, (hcase b k h).1⟩⟩
  refine ⟨⟨by simp [r.len], fun b g' sz' es' hb => ?_, fun b kvs hb => ?_, fun b b' k h1 h2 => r.inj b b' k (hcase b k h1).1 (hcase b' k h2).1, fun b k h1 => r.off b k (hcase b k h1).1, r.imm⟩, hx⟩
  · rcases Nat.lt_or_ge b H.length with hlt | hge
    · rw [List.getElem?_append_left hlt] at hb
      rw [hold b hlt]
      rcases r.arr b g' sz' es' hb with h | ⟨k, c', el', h1, h2, h3, h4, h5⟩
      · exact .inl h
      · exact .inr ⟨k, c', el', h1, h2, h3, h4, fun i v hv => by obtain ⟨x, e1, e3, e2⟩ := h5 i v hv; exact ⟨x, e1, e3, e2.mono hx r⟩⟩
    · rw [List.getElem?_append_right hge] at hb
      cases hd : b - H.length with
      | succ n => rw [hd] at hb; simp at hb
      | zero =>
        rw [hd] at hb; simp at hb
        obtain ⟨rfl, rfl, rfl⟩ := hb
        left
        have : b = γ.length := by rw [r.len]; omega
        subst this; simp
  · rcases Nat.lt_or_ge b H.length with hlt | hge
    · rw [List.getElem?_append_left hlt] at hb
      obtain ⟨k, es', cl, h1, h2, h3⟩ := r.mp b kvs hb
      exact ⟨k, es', cl, by rw [hold b hlt]; exact h1, h2, h3⟩
    · rw [List.getElem?_append_right hge] at hb
      cases hd : b - H.length with
      | succ n => rw [hd] at hb; simp at hb
      | zero => rw [hd] at hb; simp at hb

/-- a block's elder slices are let go of -/
theorem bump_ok (r : RelH γ I w H) {b g sz : Nat} {es e0 r0 : List V} (hb : H[b]? = some (.arr g sz es)) (he : es = e0 ++ r0) :
    RelH γ I w (H.set b (.arr (g + 1) sz e0)) ∧ Ext γ H I w γ (H.set b (.arr (g + 1) sz e0)) I w := by
  have hbl := lt_of_get hb
  have hx : Ext γ H I w γ (H.set b (.arr (g + 1) sz e0)) I w :=
    ⟨rfl, rfl, rfl, Nat.le_refl _, fun _ h => h, fun _ h => .inl h, fun _ _ _ => rfl, fun _ _ h => h,
      fun j y hy => by
        by_cases hjb : j = b
        · subst hjb
          rw [hb] at hy; cases hy
          exact ⟨.arr (g + 1) sz e0, by simp [hbl], by simp [Blk.upto], fun e => by simp [Blk.same] at e⟩
        · exact ⟨y, by rw [List.getElem?_set, if_neg (fun e => hjb e.symm)]; exact hy, y.upto_refl, fun _ => ⟨rfl, fun g1 s1 e1 e2 h1 h2 => by subst h1; cases h2; exact Nat.le_refl _⟩⟩,
      fun b _ h => .inr ⟨b, h⟩⟩
  have key : ∀ (j g1 s1 : Nat) (e1 : List V), (H.set b (.arr (g + 1) sz e0))[j]? = some (.arr g1 s1 e1) → ∃ g2 r1, H[j]? = some (.arr g2 s1 (e1 ++ r1)) := by
    intro j g1 s1 e1 hj
    by_cases hjb : j = b
    · subst hjb; simp [hbl] at hj; obtain ⟨_, rfl, rfl⟩ := hj; exact ⟨g, r0, by rw [hb, he]⟩
    · rw [List.getElem?_set, if_neg (fun e => hjb e.symm)] at hj; exact ⟨g1, [], by rw [hj, List.append_nil]⟩
  refine ⟨⟨by simp [r.len], fun j g1 s1 e1 hj => ?_, fun j kvs hj => ?_, r.inj, r.off, r.imm⟩, hx⟩
  · obtain ⟨g2, r1, h2⟩ := key j g1 s1 e1 hj
    rcases r.arr j g2 s1 _ h2 with h | ⟨k, c', el', h1, h2, h3, h4, h5⟩
    · exact .inl ⟨h.1, (List.append_eq_nil_iff.1 h.2).1⟩
    · refine .inr ⟨k, c', el', h1, h2, fun e he => h3 e (List.mem_append_left _ he), ?_, fun i v hv => ?_⟩
      · rw [List.length_append, Nat.add_mul] at h4; omega
      · have hv' : (flatV (e1 ++ r1))[i]? = some v := by rw [flatV_append, List.getElem?_append_left (lt_of_get hv)]; exact hv
        obtain ⟨x, e1, e3, e2⟩ := h5 i v hv'; exact ⟨x, e1, e3, e2.mono hx r⟩
  · have hjb : j ≠ b := fun e => by subst e; simp [hbl] at hj
    rw [List.getElem?_set, if_neg (fun e => hjb e.symm)] at hj
    exact r.mp j kvs hj

theorem row_cells {xs : List Value} {rest : Array Value} {vs : List V} (h : RCs γ H I w vs xs) (i : Nat) (v : V) (hv : vs[i]? = some v) :
    ∃ x, (xs.toArray ++ rest)[i]? = some x ∧ x.oneCell' = true ∧ RV γ H I w v x := by
  obtain ⟨x, h1, h2, h3⟩ := h.get hv
  refine ⟨x, ?_, h2, h3⟩
  rw [Array.getElem?_append_left (by simpa using lt_of_get h1)]; simpa using h1

theorem lenOf_slice {P : Program} (a : Option Addr) (n c : Nat) : (Builtin.lenOf (.slice a n c)).run P w = .ok n w := rfl

/-- the elements that a slice value shows, of a size -/
def Shown (h : List Blk) (sz : Nat) (y : V) (ys : List V) : Prop := elems h y = some (sz, ys) ∨ ∃ s, y = .nil s ∧ ys = []

theorem withElems_ok {h : List Blk} {sz : Nat} {y : V} {K : List V → Prop} (hw : withElems h sz y K) : ∃ ys, Shown h sz y ys ∧ K ys := by
  unfold withElems at hw
  split at hw
  · obtain ⟨rfl, hK⟩ := hw; exact ⟨_, .inl rfl, hK⟩
  · exact ⟨_, .inr ⟨_, rfl, rfl⟩, hw⟩
  · split at hw
    · rename_i hb
      rw [getB_eq] at hb
      obtain ⟨⟨rfl, h1, rfl⟩, hK⟩ := hw
      exact ⟨_, .inl (by simp [elems, hb, h1]), hK⟩
    · exact hw.elim
  · exact hw.elim

theorem shown_ok {P : Program} (r : RelH γ I w H) {y : V} {Y : Value} {sy : Nat} {ys : List V} (hy : RV γ H I w y Y) (h : Shown H sy y ys) :
    (∃ a cap, Y = .slice a ys.length cap) ∧ (∀ e ∈ ys, e.cells.length = sy) ∧ ∃ xs, RCs γ H I w (flatV ys) xs ∧ (Builtin.firstCells sy ys.length Y).run P w = .ok xs.toArray w := by
  rcases h with h | ⟨s, rfl, rfl⟩
  · exact elems_ok r hy h
  · cases hy
    exact ⟨⟨none, 0, rfl⟩, by simp, [], .nil, firstCells_nil ..⟩

theorem appP_ok {P : Program} {t t2 e e2 o : TypeId} {sz bytes : Nat} {z : List V} {x y : V} {X Y : Value} {K : V → List Blk → Prop}
    (ht : elemOfS P t = some e) (hn : szOf P e = some sz) (hb : bytesIn P e = some bytes) (hz : zeroVs P e = some z) (hzl : z.length = sz)
    (ht2 : P.underlying t2 = some (.slice e2)) (r : RelH γ I w H) (hx : RV γ H I w x X) (hy : RV γ H I w y Y) (h : appP H sz bytes x y K) :
    ∃ v Z H' γ' w', (Builtin.append_ #[t, t2] o #[X, Y]).run P w = .ok Z w' ∧ K v H' ∧ RelH γ' I w' H' ∧ RV γ' H' I w' v Z ∧ Ext γ H I w γ' H' I w' := by
  replace h := withElems_ok h
  obtain ⟨ys, hel, h⟩ := h
  obtain ⟨rd, xd⟩ := drew_ok r
  obtain ⟨⟨ya, yc, rfl⟩, hwy, xs, hxs, hrun⟩ := shown_ok (P := P) r hy hel
  obtain ⟨_, _, xs', hxs', hrun'⟩ := shown_ok (P := P) rd (hy.mono xd r) hel
  have hxl : xs'.length = ys.length * sz := by rw [hxs'.rv.1, flatV_len hwy]
  have hxl0 : xs.length = ys.length * sz := by rw [hxs.rv.1, flatV_len hwy]
  split at h
  · -- onto nil
    obtain ⟨hbd, hK⟩ := h
    rw [addB_eq] at hK
    cases hx
    by_cases hys : ys = []
    · subst hys
      have hxs0 : xs = [] := List.eq_nil_of_length_eq_zero (by simpa using hxl0)
      subst hxs0
      have := run_append_in (P := P) (w := w) (w' := w) (o := o) (base := none) (sLen := 0) (sCap := 0) ht hn ht2 (lenOf_slice ya 0 yc) hrun (Nat.le_refl 0) rfl
      obtain ⟨v1, v2⟩ := valloc_ok r 0 sz
      refine ⟨_, _, _, _, w, this, hK, v1, ?_, v2⟩
      refine .own (g' := 0) (sz := sz) (es := []) (by simp) (Nat.le_refl _) (by simp) (fun _ => ⟨by simp, .inl ⟨?_, rfl, rfl, rfl⟩⟩)
      rw [List.getElem?_append_right (by rw [r.len]; exact Nat.le_refl _)]; simp [r.len]
    · have hpos : 0 < ys.length := List.length_pos_iff.2 hys
      obtain ⟨cap, rest, hcap, hra, hrs⟩ := run_append_new (P := P) (w := w) (o := o) (base := none) (sLen := 0) (sCap := 0) (Y := .slice ya ys.length yc) (n := ys.length) (ys := []) ht hn hb hz hzl ht2 (lenOf_slice ya _ yc) hrun' (firstCells_nil ..) (by omega) (by simpa using hbd)
      simp only [Nat.zero_add] at hcap hra hrs
      obtain ⟨a1, a2⟩ := alloc_ok (c := #[] ++ (xs'.toArray ++ rest)) (el := e) (sz := sz) (es := ys) rd hwy (by simp; rw [hxl]; omega) (fun i v hv => by simpa using row_cells (rest := rest) hxs' i v hv) 0
      refine ⟨_, _, _, _, _, hra, hK, a1, ?_, xd.trans a2⟩
      refine .own (g' := 0) (sz := sz) (es := ys) (by simp) (Nat.le_refl _) hcap (fun _ => ⟨by simp, .inr ⟨w.heap.size, ?_, .inr (by simp), ?_⟩⟩)
      · rw [List.getElem?_append_right (by rw [r.len]; exact Nat.le_refl _)]; simp [r.len]
      · refine ⟨_, e, (0, 0), by show (w.heap.push _)[w.heap.size]? = _; simp; rfl, ?_⟩
        simp [hxl, hrs, ← Nat.add_mul]
        exact Nat.mul_le_mul_right _ (by omega)
  · rename_i b g off len
    split at h
    case h_2 => exact h.elim
    rename_i g' s es hbk
    rw [getB_eq] at hbk
    obtain ⟨hbd, ⟨rfl, rfl, rfl⟩, e0, ⟨r0, hes⟩, rfl, hK⟩ := h
    rw [setB_eq] at hK
    cases hx with
    | @own _ _ g2 sz2 _ _ cap es2 a hb2 hg hl hc =>
    rw [hbk] at hb2; cases hb2
    obtain ⟨c1, c2⟩ := hc rfl
    by_cases hys : ys = []
    · subst hys
      have hxs0 : xs = [] := List.eq_nil_of_length_eq_zero (by simpa using hxl0)
      subst hxs0
      have := run_append_in (P := P) (w := w) (w' := w) (o := o) (base := a) (sLen := e0.length) (sCap := cap) ht hn ht2 (lenOf_slice ya 0 yc) hrun (by omega) (by cases a <;> rfl)
      obtain ⟨v1, v2⟩ := bump_ok r hbk hes
      refine ⟨_, _, _, _, w, this, by simpa using hK, v1, ?_, v2⟩
      refine .own (g' := g + 1) (sz := s) (es := e0) (by simp [lt_of_get hbk]) (Nat.le_refl _) (by simpa using hl) (fun _ => ⟨by simp, c2⟩)
    · have hpos : 0 < ys.length := List.length_pos_iff.2 hys
      by_cases hin : e0.length + ys.length ≤ cap
      · -- in place
        rcases c2 with ⟨_, _, _, h0⟩ | ⟨k, hk, ha, hrow⟩
        · omega
        · rcases ha with ha | rfl
          · omega
          rcases r.arr _ _ _ _ hbk with ⟨h0, _⟩ | ⟨k', c, el, h1, h2, h3, h4, h5⟩
          · rw [h0] at hk; cases hk
          rw [hk] at h1; cases h1
          obtain ⟨c0, el0, fr0, q1, q2⟩ := hrow
          rw [h2] at q1; cases q1
          have hsz : (e0.length + ys.length) * s ≤ c.size := by
            refine Nat.le_trans (Nat.mul_le_mul_right s hin) ?_
            rw [Nat.zero_add] at q2; exact q2
          have hrs := run_storeCells (P := P) (k := k) (o := 0 * s + e0.length * s) (xs := xs) (i := 0) h2 (by rw [hxl0, ← Nat.add_mul]; rw [Nat.add_mul] at hsz ⊢; omega) hxs.one
          have := run_append_in (P := P) (w := w) (o := o) (base := some ⟨k, 0 * s, none⟩) (sLen := e0.length) (sCap := cap) ht hn ht2 (lenOf_slice ya _ yc) hrun hin (by simp only [addr_add]; exact hrs)
          have hwf' : ∀ e' ∈ e0 ++ ys, e'.cells.length = s := fun e' he' => by
            rcases List.mem_append.1 he' with h | h
            · exact h3 e' (by rw [hes]; exact List.mem_append_left _ h)
            · exact hwy e' h
          obtain ⟨u1, u2⟩ := upd_ok (g' := g + 1) (es' := e0 ++ ys) (c' := wr c (0 * s + e0.length * s + 0) xs) r hbk hk h2 (by simp) (by omega) (fun e => by omega) hwf' (by simpa using hsz) (fun j v hj => by
            rw [flatV_append] at hj
            have hget := wr_get c (0 * s + e0.length * s + 0) xs (by rw [hxl0]; rw [Nat.add_mul] at hsz; omega) j
            have hfl : (flatV e0).length = e0.length * s := flatV_len fun e he => h3 e (by rw [hes]; exact List.mem_append_left _ he)
            rcases Nat.lt_or_ge j (e0.length * s) with hlt | hge
            · rw [List.getElem?_append_left (by omega)] at hj
              obtain ⟨x, x1, x2, x3⟩ := h5 j v (by rw [hes, flatV_append, List.getElem?_append_left (by omega)]; exact hj)
              exact ⟨x, by rw [hget, if_neg (by omega)]; exact x1, x2, x3⟩
            · rw [List.getElem?_append_right (by omega), hfl] at hj
              obtain ⟨x, x1, x2, x3⟩ := hxs.get hj
              have hjl := lt_of_get x1
              exact ⟨x, by rw [hget, if_pos (by omega), ← x1]; congr 1; omega, x2, x3⟩)
          refine ⟨_, _, _, _, _, this, hK, u1, ?_, u2⟩
          refine .own (g' := g + 1) (sz := s) (es := e0 ++ ys) (by simp [lt_of_get hbk]) (Nat.le_refl _) hin (fun _ => ⟨by simp, .inr ⟨k, hk, .inr (by simp), ?_⟩⟩)
          exact ⟨_, _, _, setB_same _ _ _ (heap_lt h2), by simpa using q2⟩
      · -- into new memory
        have hold : Shown H s (.own b g 0 e0.length) e0 := .inl (by simp [elems, hbk, hes])
        obtain ⟨⟨_, _, hz1⟩, hwes, os, hos, horun⟩ := shown_ok (P := P) rd ((RV.own hbk hg hl hc).mono xd r) hold
        cases hz1
        obtain ⟨cap', rest, hcap, hra, hrs⟩ := run_append_new (P := P) (w := w) (o := o) (base := a) (sLen := e0.length) (sCap := cap) (Y := .slice ya ys.length yc) (n := ys.length) (ys := os) ht hn hb hz hzl ht2 (lenOf_slice ya _ yc) hrun' horun (by omega) hbd
        have hol : os.length = e0.length * s := by rw [hos.rv.1, flatV_len hwes]
        have hwf' : ∀ e' ∈ e0 ++ ys, e'.cells.length = s := fun e' he' => by
          rcases List.mem_append.1 he' with h | h
          · exact hwes e' h
          · exact hwy e' h
        obtain ⟨u1, u2⟩ := realloc_ok (c := os.toArray ++ (xs'.toArray ++ rest)) (el := e) (es' := e0 ++ ys) rd hbk hwf' (by simp; rw [hol, hxl, Nat.add_mul]; omega) (fun i v hv => by
          rw [flatV_append] at hv
          have := row_cells (rest := rest) (hos.append hxs') i v hv
          rw [← List.append_toArray, Array.append_assoc] at this
          exact this)
        refine ⟨_, _, _, _, _, hra, hK, u1, ?_, xd.trans u2⟩
        refine .own (g' := g + 1) (sz := s) (es := e0 ++ ys) (by simp [lt_of_get hbk]) (Nat.le_refl _) hcap (fun _ => ⟨by simp, .inr ⟨w.heap.size, ?_, .inr (by simp), ?_⟩⟩)
        · have : b < γ.length := by rw [r.len]; exact lt_of_get hbk
          simp [this]
        · refine ⟨_, e, (0, 0), by show (w.heap.push _)[w.heap.size]? = _; simp; rfl, ?_⟩
          simp [hol, hxl, hrs, ← Nat.add_mul]
          exact Nat.mul_le_mul_right _ (by omega)
  · exact h.elim

end
end Go.Aw
namespace Go.Aw

/-- what an operation owes -/
def Fits (γ : List (Option Nat)) (I : Nat → Prop) (w : World) (H : List Blk) (a : Act) (d : Option Tmp) (K : V → List Blk → Prop) (next : Act → World → Prop) : Prop :=
  ∀ v x H' γ' I' w', K v H' → RelH γ' I' w' H' → RV γ' H' I' w' v x → Ext γ H I w γ' H' I' w' → next (a.put d x) w'

section
variable {P : Program} {wf : Bool} {o : Oper} {s : St} {a : Act} {γ : List (Option Nat)} {I : Nat → Prop} {w : World} {K : V → List Blk → Prop}
  {next : Act → World → Prop} {Q : Exit → Act → World → Prop}

/-- an operation that leaves the world alone -/
theorem fits_value (r : Rel γ I w s a) (hn : Fits γ I w s.h a o.dst K next) {x : Value} {v : V} (he : (execOp a.eval o).run P w = .ok (.value x) w) (hx : RV γ s.h I w v x) (hK : K v s.h) :
    o.wp P a w next Q := wp_value he (hn v x s.h γ I w hK r.heap hx (Ext.refl ..))

theorem optL_get {α : Type} {l : List (Option α)} {r : List α} (h : optL l = some r) (i : Nat) (x : α) (hi : r[i]? = some x) : l[i]? = some (some x) := by
  rw [optL_some h]; simp [hi]

theorem slimXs_ok {tys : List TypeId} {xs : List Operand} {ys : List X} (h : slimXs P tys xs = some ys) (r : Rel γ I w s a) :
    RVs γ s.h I w (ys.map (X.ev s.t)) (xs.map a.eval) := by
  have hl : xs.length = ys.length := by simpa using congrArg List.length (optL_some h)
  refine RVs.of_get (by simp [hl]) (fun i v hi => ?_)
  rw [List.getElem?_map] at hi
  cases hy : ys[i]? with
  | none => rw [hy] at hi; simp at hi
  | some y =>
    rw [hy] at hi; simp at hi; subst hi
    have hlt : i < xs.length := by rw [hl]; exact lt_of_get hy
    have := optL_get h i y hy
    simp [hlt] at this
    exact ⟨a.eval xs[i], by simp [hlt], slimX_ok this r⟩

theorem optX_ok {ty : TypeId} {xs : List Operand} {ys : List X} (h : optL (xs.map (slimX P ty)) = some ys) (r : Rel γ I w s a) :
    RVs γ s.h I w (ys.map (X.ev s.t)) (xs.map a.eval) := by
  have hl : xs.length = ys.length := by simpa using congrArg List.length (optL_some h)
  refine RVs.of_get (by simp [hl]) (fun i v hi => ?_)
  rw [List.getElem?_map] at hi
  cases hy : ys[i]? with
  | none => rw [hy] at hi; simp at hi
  | some y =>
    rw [hy] at hi; simp at hi; subst hi
    have hlt : i < xs.length := by rw [hl]; exact lt_of_get hy
    have := optL_get h i y hy
    simp [hlt] at this
    exact ⟨a.eval xs[i], by simp [hlt], slimX_ok this r⟩

theorem lenP_ok {t e o : TypeId} {x : V} {X : Value} {K : V → Prop} (ht : P.underlying t = some (.slice e))
    (hx : RV γ s.h I w x X) (h : lenP x K) : ∃ v Z, (Builtin.len_ #[t] o #[X]).run P w = .ok Z w ∧ RV γ s.h I w v Z ∧ K v := by
  unfold lenP at h
  split at h
  · cases hx with | g hx => cases hx; exact ⟨_, _, by simp [Builtin.len_, run_underlying ht]; rfl, rv_int, h⟩
  · cases hx; exact ⟨_, _, by simp [Builtin.len_, run_underlying ht]; rfl, rv_int, h⟩
  · cases hx; exact ⟨_, _, by simp [Builtin.len_, run_underlying ht]; rfl, rv_int, h⟩
  · exact h.elim

theorem op_mv (r : Rel γ I w s a) (hn : Fits γ I w s.h a o.dst K next) {x : Operand} {ty : TypeId} {y : X} (ho : o.op = .move x ∨ o.op = .assign x) (hx : slimX P ty x = some y)
    (h : opP P s.t (.mv y) s.h K) : o.wp P a w next Q := by
  refine fits_value r hn (x := a.eval x) ?_ (slimX_ok hx r) h
  rcases ho with ho | ho <;> simp [execOp, ho]

theorem op_pick (r : Rel γ I w s a) (hn : Fits γ I w s.h a o.dst K next) {c x y : Operand} {t1 t2 t3 : TypeId} {c' x' y' : X} (ho : o.op = .pick c x y) (hc : slimX P t1 c = some c')
    (hx : slimX P t2 x = some x') (hy : slimX P t3 y = some y') (h : opP P s.t (.pick c' x' y') s.h K) : o.wp P a w next Q := by
  have hc' := slimX_ok hc r
  simp only [opP] at h
  split at h
  case h_2 => exact h.elim
  rename_i b hb
  rw [hb] at hc'
  have hcc := rv_sc hc'
  cases b with
  | true => exact fits_value r hn (x := a.eval x) (by simp [execOp, ho, hcc, asBool]) (slimX_ok hx r) h
  | false => exact fits_value r hn (x := a.eval y) (by simp [execOp, ho, hcc, asBool]) (slimX_ok hy r) h

theorem op_bin (r : Rel γ I w s a) (hn : Fits γ I w s.h a o.dst K next) {op : BinOp} {ty ty2 t1 t2 : TypeId} {x y : Operand} {x' y' : X} {b : Bool} (ho : o.op = .binOp op ty x y ty2)
    (hx : slimX P t1 x = some x') (hy : slimX P t2 y = some y') (h : binP b op (x'.ev s.t) (y'.ev s.t) fun v => K v s.h) : o.wp P a w next Q := by
  obtain ⟨v, h1, h2, h3⟩ := binP_ok (P := P) (t := ty) h (slimX_ok hx r) (slimX_ok hy r) x y
  exact fits_value r hn (x := v) (by simp only [execOp, ho]; exact run_v h1) (.g (.sc h2)) h3

theorem op_bool2 (r : Rel γ I w s a) (hn : Fits γ I w s.h a o.dst K next) {ty ty2 t1 t2 : TypeId} {x y : Operand} {x' y' : X} {neg : Bool} (ho : o.op = .binOp (if neg then .neq else .eql) ty x y ty2)
    (ht : P.underlying ty = some .bool) (hx : slimX P t1 x = some x') (hy : slimX P t2 y = some y') (h : opP P s.t (.bool2 neg x' y') s.h K) : o.wp P a w next Q := by
  have hx' := slimX_ok hx r
  have hy' := slimX_ok hy r
  simp only [opP] at h
  split at h
  case h_2 => exact h.elim
  rename_i m n h1 h2
  rw [h1] at hx'; rw [h2] at hy'
  have e1 := rv_sc hx'; have e2 := rv_sc hy'
  refine fits_value r hn (x := .bool (if neg then !(m == n) else (m == n))) ?_ rv_bool h
  simp only [execOp, ho, e1, e2]
  refine run_v ?_
  simp only [Sem.run_bind, eqGuard_bool, Result.andThen_ok]
  cases neg
  · exact run_eql_bool w ty m n ht
  · exact run_neq_bool w ty m n ht

theorem op_eqnil (r : Rel γ I w s a) (hn : Fits γ I w s.h a o.dst K next) {ty ty2 t1 e : TypeId} {x y : Operand} {x' : X} {neg : Bool} (ho : o.op = .binOp (if neg then .neq else .eql) ty x y ty2)
    (ht : P.underlying ty = some (.slice e)) (hx : slimX P t1 x = some x') (hy : a.eval y = .slice none 0 0) (h : opP P s.t (.eqnil neg x') s.h K) : o.wp P a w next Q := by
  have hx' := slimX_ok hx r
  have key : ∀ (A : Option Addr) (n c : Nat), a.eval x = .slice A n c → (execOp a.eval o).run P w = .ok (.value (.bool (if neg then !A.isNone else A.isNone))) w := by
    intro A n c hA
    simp only [execOp, ho, hA, hy]
    refine run_v ?_
    simp only [Sem.run_bind, eqGuard_slice, Result.andThen_ok]
    have : (Op.equal ty (.slice A n c) (.slice none 0 0)).run P w = .ok A.isNone w := by
      show (Op.equalIn (9999 + 1) ty (.slice A n c) (.slice none 0 0)).run P w = _
      generalize 9999 = d
      cases A <;> simp only [Op.equalIn, Sem.run_bind, run_underlying ht, Result.andThen_ok] <;> rfl
    cases neg <;> simp [binOp, this]
  simp only [opP] at h
  split at h
  · rename_i sz h1
    rw [h1] at hx'; generalize a.eval x = XX at hx' key; cases hx'
    exact fits_value r hn (key _ _ _ rfl) rv_bool (by cases neg <;> simpa using h)
  · rename_i sz es h1
    rw [h1] at hx'; generalize a.eval x = XX at hx' key
    cases hx' with | g hx' =>
    cases hx' with
    | @sl _ _ A cap k o' vs ha hw hl hc h1 hr =>
    refine fits_value r hn (key _ _ _ rfl) rv_bool (h A.isNone fun hA => ?_)
    cases es with
    | nil => rfl
    | cons t es => have := (ha (by simp)).1; subst this; simp at hA
  · rename_i b g off len h1
    rw [h1] at hx'; generalize a.eval x = XX at hx' key
    split at h
    case h_2 => exact h.elim
    rename_i g1 sz es hb
    rw [getB_eq] at hb
    obtain ⟨rfl, h⟩ := h
    cases hx' with
    | @own _ _ g' sz' _ _ cap es' A hb' hg hl hc =>
    rw [hb] at hb'; cases hb'
    refine fits_value r hn (key _ _ _ rfl) rv_bool (h A.isNone fun hA => ?_)
    rcases (hc rfl).2 with ⟨_, _, _, h0⟩ | ⟨k, _, ha, _⟩
    · omega
    · rcases ha with ha | rfl
      · omega
      · simp at hA
  · exact h.elim

theorem op_un (r : Rel γ I w s a) (hn : Fits γ I w s.h a o.dst K next) {op : UnOp} {ty t1 : TypeId} {x : Operand} {x' : X} (ho : o.op = .unOp op ty x) (hx : slimX P t1 x = some x')
    (h : opP P s.t (.un op x') s.h K) : o.wp P a w next Q := by
  have hx' := slimX_ok hx r
  simp only [opP] at h
  split at h
  · rename_i m h1
    rw [h1] at hx'; have e1 := rv_sc hx'
    exact fits_value r hn (x := .bool (!m)) (by simp [execOp, ho, e1, Op.unary]) rv_bool h
  · rename_i k m h1
    rw [h1] at hx'; have e1 := rv_sc hx'
    exact fits_value r hn (x := .int k (0 - m)) (by simp only [execOp, ho, e1, Op.unary]; exact run_v (by simp only [Op.intArith]; rw [wrap_in h.1]; rfl)) rv_int h.2
  · exact h.elim

theorem op_box (r : Rel γ I w s a) (hn : Fits γ I w s.h a o.dst K next) {e t1 : TypeId} {x : Operand} {x' : X} {n : Nat} (ho : o.op = .box e x) (hx : slimX P t1 x = some x')
    (h : opP P s.t (.box n x') s.h K) : o.wp P a w next Q := by
  have hx' := slimX_ok hx r
  simp only [opP, forceV_eq, addB_eq] at h
  obtain ⟨⟨h1, h2⟩, hK⟩ := h
  have hc := cells_ok hx' h1
  obtain ⟨a1, a2⟩ := alloc_ok (c := (a.eval x).cells) (el := e) (sz := n) (es := [x'.ev s.t]) r.heap (by simpa using h2) (by have := hc.rv.1; simp at this ⊢; omega)
    (fun i v hi => by simp only [flatV, List.flatMap_cons, List.flatMap_nil, List.append_nil] at hi; obtain ⟨y, y1, y2, y3⟩ := hc.get hi; exact ⟨y, by simpa using y1, y2, y3⟩) 0
  refine wp_value (x := .pointer (some ⟨w.heap.size, 0, none⟩)) (by simp [execOp, ho, Instr.box, newVar, newRow]) (hn _ _ _ _ _ _ hK a1 ?_ a2)
  refine .pa (g' := 0) (sz := n) (es := [x'.ev s.t]) (by simp) (Nat.le_refl _) (fun _ => ⟨by simp, w.heap.size, ?_, by simp⟩)
  rw [List.getElem?_append_right (by rw [r.heap.len]; exact Nat.le_refl _)]; simp [r.heap.len]

theorem zipLit_shape : ∀ {ks : List (Option Nat)} {xs : List Value} {vs : List V}, zipLit ks xs = some vs → ∀ v ∈ vs, okV v = true ∧ v.cells = [v]
  | [], [], vs, h => by simp [zipLit] at h; subst h; simp
  | [], _ :: _, _, h => by simp [zipLit] at h
  | _ :: _, [], _, h => by simp [zipLit] at h
  | k :: ks, x :: xs, vs, h => by
    simp only [zipLit] at h
    cases h1 : lit1 k x with
    | none => rw [h1] at h; simp at h
    | some v =>
      cases h2 : zipLit ks xs with
      | none => rw [h1, h2] at h; simp at h
      | some us =>
        rw [h1, h2] at h; simp at h; subst h
        intro u hu
        rcases List.mem_cons.1 hu with rfl | hu
        · unfold lit1 at h1
          split at h1
          · cases h1; exact ⟨rfl, rfl⟩
          · simp at h1
          · split at h1
            · cases h1; exact ⟨rfl, rfl⟩
            · simp at h1
          · simp at h1
        · exact zipLit_shape h2 u hu

theorem zeroVs_shape {t : TypeId} {vs : List V} (h : zeroVs P t = some vs) : ∀ v ∈ vs, okV v = true ∧ v.cells = [v] := by
  unfold zeroVs at h
  cases hi : P.info? t with
  | none => rw [hi] at h; simp at h
  | some i =>
    rw [hi] at h; simp at h
    cases hz : i.zero with
    | none => rw [hz] at h; simp at h
    | some z =>
      rw [hz] at h; simp [litV] at h
      cases hk : cellKinds P 20 t with
      | none => rw [hk] at h; simp at h
      | some ks => rw [hk] at h; exact zipLit_shape (by simpa using h)

theorem zeroVs_ok {t : TypeId} {vs : List V} (h : zeroVs P t = some vs) : ∃ z, (zeroValue t).run P w = .ok z w ∧ RCs γ s.h I w vs z.cells.toList := by
  unfold zeroVs at h
  cases hi : P.info? t with
  | none => rw [hi] at h; simp at h
  | some i =>
    rw [hi] at h; simp at h
    cases hz : i.zero with
    | none => rw [hz] at h; simp at h
    | some z =>
      rw [hz] at h; simp at h
      exact ⟨z, by simp [zeroValue, run_typeInfo hi, hz], litV_ok h⟩

theorem zeroV_ok {t : TypeId} {v : V} (h : zeroV P t = some v) : ∃ z, (zeroValue t).run P w = .ok z w ∧ RCs γ s.h I w v.cells z.cells.toList ∧ okV v = true := by
  unfold zeroV at h
  cases hz : zeroVs P t with
  | none => rw [hz] at h; simp at h
  | some vs =>
    rw [hz] at h; simp only [Option.bind_some] at h
    obtain ⟨z, h1, h2⟩ := zeroVs_ok (s := s) (γ := γ) (I := I) (w := w) hz
    refine ⟨z, h1, ?_⟩
    split at h
    · cases h
      refine ⟨by rw [mkAg_cells]; exact h2, ?_⟩
      unfold mkAg; split <;> rfl
    · split at h
      · cases h
        rename_i u _
        have hu : okV v = true ∧ v.cells = [v] := zeroVs_shape hz v (by simp)
        exact ⟨by rw [hu.2]; exact h2, hu.1⟩
      · simp at h

end
end Go.Aw
namespace Go.Aw

theorem amap {α β : Type} (f : α → β) (xs : Array α) : xs.map f = (xs.toList.map f).toArray := by apply Array.ext'; simp

def partV (cs : List V) (off : Nat) : Option Nat → Option V
  | none => cs[off]?
  | some n => if off + n ≤ cs.length then some (mkAg ((cs.drop off).take n)) else none

section
variable {P : Program} {wf : Bool} {o : Oper} {s : St} {a : Act} {γ : List (Option Nat)} {I : Nat → Prop} {w : World} {K : V → List Blk → Prop}
  {next : Act → World → Prop} {Q : Exit → Act → World → Prop}

theorem op_new (r : Rel γ I w s a) (hn : Fits γ I w s.h a o.dst K next) {e : TypeId} {z : V} {n : Nat} (ho : o.op = .alloc e) (hz : zeroV P e = some z)
    (h : opP P s.t (.new n z) s.h K) : o.wp P a w next Q := by
  simp only [opP, addB_eq] at h
  obtain ⟨h2, hK⟩ := h
  obtain ⟨zv, z1, hc, _⟩ := zeroV_ok (s := s) (γ := γ) (I := I) (w := w) hz
  obtain ⟨a1, a2⟩ := alloc_ok (c := zv.cells) (el := e) (sz := n) (es := [z]) r.heap (by simpa using h2) (by have := hc.rv.1; simp at this ⊢; omega)
    (fun i v hi => by simp only [flatV, List.flatMap_cons, List.flatMap_nil, List.append_nil] at hi; obtain ⟨y, y1, y2, y3⟩ := hc.get hi; exact ⟨y, by simpa using y1, y2, y3⟩) 0
  refine wp_value (x := .pointer (some ⟨w.heap.size, 0, none⟩)) (by simp [execOp, ho, Instr.alloc, z1, newVar, newRow]) (hn _ _ _ _ _ _ hK a1 ?_ a2)
  refine .pa (g' := 0) (sz := n) (es := [z]) (by simp) (Nat.le_refl _) (fun _ => ⟨by simp, w.heap.size, ?_, by simp⟩)
  rw [List.getElem?_append_right (by rw [r.heap.len]; exact Nat.le_refl _)]; simp [r.heap.len]

theorem op_load (r : Rel γ I w s a) (hn : Fits γ I w s.h a o.dst K next) {t t1 : TypeId} {x : Operand} {x' : X} {n : Option Nat} (ho : o.op = .load t x) (ht : slimN P t n) (hx : slimX P t1 x = some x')
    (h : opP P s.t (.load n x') s.h K) : o.wp P a w next Q := by
  obtain ⟨y, v, h1, h2, h3⟩ := loadP_ok ht r.heap (slimX_ok hx r) h
  exact fits_value r hn (by simp only [execOp, ho]; exact run_v h1) h2 h3

theorem op_store (r : Rel γ I w s a) (hn : Fits γ I w s.h a o.dst K next) {t t1 t2 : TypeId} {x y : Operand} {x' y' : X} {n : Nat} (ho : o.op = .store t x y) (ht : szOf P t = some n) (hx : slimX P t1 x = some x') (hy : slimX P t2 y = some y')
    (h : opP P s.t (.store n x' y') s.h K) : o.wp P a w next Q := by
  simp only [opP, forceV_eq] at h
  obtain ⟨H', w', h1, h2, h3, h4⟩ := storeP_ok ht r.heap (slimX_ok hx r) (slimX_ok hy r) h
  exact wp_skp (by simp [execOp, ho, h1]) (hn _ _ _ _ _ _ h2 h3 (.tu (vs := []) rfl (by simp)) h4)

theorem op_nilc (r : Rel γ I w s a) (hn : Fits γ I w s.h a o.dst K next) {t1 : TypeId} {x : Operand} {x' : X} (ho : o.op = .nilCheck x) (hx : slimX P t1 x = some x')
    (h : opP P s.t (.nilc x') s.h K) : o.wp P a w next Q := by
  have hx' := slimX_ok hx r
  have hx0 := hx'
  simp only [opP] at h
  split at h
  · rename_i h1
    rw [h1] at hx' hx0; generalize hX : a.eval x = XX at hx' hx0; cases hx'
    exact fits_value r hn (by simp [execOp, ho, hX]) hx0 h
  · rename_i h1
    rw [h1] at hx' hx0; generalize hX : a.eval x = XX at hx' hx0; cases hx'
    exact fits_value r hn (by simp [execOp, ho, hX]) hx0 h
  · rename_i h1
    rw [h1] at hx' hx0; generalize hX : a.eval x = XX at hx' hx0; cases hx'
    exact fits_value r hn (by simp [execOp, ho, hX]) hx0 h
  · exact h.elim

theorem op_conv (r : Rel γ I w s a) (hn : Fits γ I w s.h a o.dst K next) {src dst t1 : TypeId} {k k' : IntKind} {x : Operand} {x' : X} (ho : o.op = .convert src dst x) (h1 : P.underlying src = some (.int k')) (h2 : P.underlying dst = some (.int k)) (hx : slimX P t1 x = some x')
    (h : opP P s.t (.conv k x') s.h K) : o.wp P a w next Q := by
  have hx' := slimX_ok hx r
  simp only [opP] at h
  split at h
  · rename_i j m e1
    rw [e1] at hx'; have e2 := rv_sc hx'
    exact fits_value r hn (x := .int k (k.wrap m)) (by simp [execOp, ho, e2, convert, run_underlying h1, run_underlying h2, Conv.intToInt]) rv_int h
  · exact h.elim

theorem op_convs (r : Rel γ I w s a) (hn : Fits γ I w s.h a o.dst K next) {src dst t1 : TypeId} {x : Operand} {x' : X} (ho : o.op = .convert src dst x) (h1 : P.underlying src = some .string) (h2 : P.underlying dst = some .string) (hx : slimX P t1 x = some x')
    (h : opP P s.t (.cvs x') s.h K) : o.wp P a w next Q := by
  have hx' := slimX_ok hx r
  simp only [opP] at h
  split at h
  · rename_i m e1
    rw [e1] at hx'; have e2 := rv_sc hx'
    exact fits_value r hn (x := .string m) (by simp [execOp, ho, e2, convert, run_underlying h1, run_underlying h2]) rv_str h
  · exact h.elim

theorem op_mkf (r : Rel γ I w s a) (hn : Fits γ I w s.h a o.dst K next) {f : Nat} {first caps : Array Operand} {cs : List X} {t1 : TypeId} (ho : o.op = .makeFunc (.func f) first caps) (hf : first = #[]) (hx : optL (caps.toList.map (slimX P t1)) = some cs)
    (h : opP P s.t (.mkf f cs) s.h K) : o.wp P a w next Q := by
  have hx' := optX_ok hx r
  subst hf
  simp only [opP, forceT_eq] at h
  refine fits_value r hn (x := .func (.func f) #[] (caps.toList.map a.eval).toArray) (by simp [execOp, ho, Instr.makeFunc, amap]) (.fn hx'.1 hx'.2) h

theorem op_slc (r : Rel γ I w s a) (hn : Fits γ I w s.h a o.dst K next) {t e t1 t2 t3 : TypeId} {n : Nat} {x : Operand} {x' : X} {lo hi : Option Operand} {lo' hi' : Option X} (ho : o.op = .slice t x lo hi none) (ht : elemOfS P t = some e) (hs : szOf P e = some n)
    (hx : slimX P t1 x = some x') (hlo : (lo = none ∧ lo' = none) ∨ ∃ l l', lo = some l ∧ lo' = some l' ∧ slimX P t2 l = some l')
    (hhi : (hi = none ∧ hi' = none) ∨ ∃ l l', hi = some l ∧ hi' = some l' ∧ slimX P t3 l = some l') (h : opP P s.t (.slc n x' lo' hi') s.h K) : o.wp P a w next Q := by
  simp only [opP] at h
  obtain ⟨v, Z, h1, h2, h3⟩ := slcP_ok (P := P) (LO := lo.map a.eval) (HI := hi.map a.eval) ht hs (slimX_ok hx r) (by
      intro v hv
      rcases hlo with ⟨rfl, rfl⟩ | ⟨l, l', rfl, rfl, hl⟩
      · simp at hv
      · simp at hv; subst hv; exact ⟨_, rfl, slimX_ok hl r⟩) (by
      intro hv
      rcases hlo with ⟨rfl, rfl⟩ | ⟨l, l', rfl, rfl, hl⟩
      · rfl
      · simp at hv) (by
      intro v hv
      rcases hhi with ⟨rfl, rfl⟩ | ⟨l, l', rfl, rfl, hl⟩
      · simp at hv
      · simp at hv; subst hv; exact ⟨_, rfl, slimX_ok hl r⟩) (by
      intro hv
      rcases hhi with ⟨rfl, rfl⟩ | ⟨l, l', rfl, rfl, hl⟩
      · rfl
      · simp at hv) h
  refine fits_value r hn (x := Z) ?_ h2 h3
  simp only [execOp, ho]
  refine run_v ?_
  simp [Instr.sliceAt, run_underlying (run_elem ht), h1]

theorem op_fa (r : Rel γ I w s a) (hn : Fits γ I w s.h a o.dst K next) {t t1 : TypeId} {fs : Array Field} {i n : Nat} {f : Field} {x : Operand} {x' : X} (ho : o.op = .fieldAddr t x i) (ht : P.underlying t = some (.struct fs)) (hf : fs[i]? = some f)
    (hs : szOf P f.type = some n) (hnz : n ≠ 0) (hx : slimX P t1 x = some x') (h : opP P s.t (.fa f.offset x') s.h K) : o.wp P a w next Q := by
  have hx' := slimX_ok hx r
  have run : ∀ A : Addr, a.eval x = .pointer (some A) → (execOp a.eval o).run P w = .ok (.value (.pointer (some (A.add f.offset)))) w := by
    intro A hX
    simp only [execOp, ho]
    refine run_v ?_
    simp [Instr.fieldAt, run_underlying ht, hf, hX, Instr.sureAddr, fieldPlace, run_sizeOf hs, hnz]
  simp only [opP] at h
  split at h
  · rename_i b g j off e1
    rw [e1] at hx'; generalize hX : a.eval x = XX at hx' run
    cases hx' with
    | @pa _ _ g' sz _ _ es A hb hg hc =>
    refine fits_value r hn (run _ rfl) (.pa hb hg (fun e => ?_)) h
    obtain ⟨c1, k, hk, rfl⟩ := hc e
    exact ⟨c1, k, hk, by rw [addr_add, Nat.add_assoc]⟩
  · rename_i sz es j off e1
    rw [e1] at hx'; generalize hX : a.eval x = XX at hx' run
    cases hx' with
    | ra k o' vs hi hI hw hc h1 hr =>
    have := run _ rfl
    rw [addr_add] at this
    exact fits_value r hn this (by have := RV.ra (γ := γ) (H := s.h) (off := off + f.offset) k o' vs hi hI hw hc h1 hr; simpa [Nat.add_assoc] using this) h
  · exact h.elim

theorem part_ok {t : TypeId} {n : Option Nat} {cs : List V} {xs : List Value} {off : Nat} (ht : slimN P t n) (hx : RCs γ s.h I w cs xs) {v : V}
    (hv : partV cs off n = some v) :
    ∃ x, (part t xs.toArray off).run P w = .ok x w ∧ RV γ s.h I w v x := by
  rcases ht with ⟨ha, rfl⟩ | ⟨ha, m, hm, rfl⟩
  · obtain ⟨x, h1, _, h2⟩ := hx.get hv
    exact ⟨x, by simp [part, run_isAgg ha, h1], h2⟩
  · simp only [partV] at hv
    split at hv
    · cases hv
      rename_i hle
      refine ⟨.agg ((xs.drop off).take m).toArray, ?_, mkAg_ok ((hx.drop off).take m)⟩
      simp [part, run_isAgg ha, run_sizeOf hm]
    · simp at hv

theorem op_fld (r : Rel γ I w s a) (hn : Fits γ I w s.h a o.dst K next) {t t1 : TypeId} {fs : Array Field} {i : Nat} {n : Option Nat} {f : Field} {x : Operand} {x' : X} (ho : o.op = .field t x i) (ht : P.underlying t = some (.struct fs)) (hf : fs[i]? = some f)
    (hs : slimN P f.type n) (hx : slimX P t1 x = some x') (h : opP P s.t (.fld f.offset n x') s.h K) : o.wp P a w next Q := by
  have hx' := slimX_ok hx r
  simp only [opP] at h
  split at h
  case h_2 => exact h.elim
  rename_i cs hcs
  obtain ⟨xs, hX, hc⟩ := asAg_ok hcs hx'
  have fin : ∀ v, partV cs f.offset n = some v → K v s.h → o.wp P a w next Q := by
    intro v hv hK
    obtain ⟨y, h1, h2⟩ := part_ok (s := s) hs hc hv
    refine fits_value r hn (x := y) ?_ h2 hK
    simp only [execOp, ho]
    refine run_v ?_
    simp [Instr.field, run_underlying ht, hf, hX, asAgg, h1]
  cases n with
  | none =>
    simp only [] at h
    split at h
    · rename_i v hv; exact fin v hv h
    · exact h.elim
  | some n =>
    simp only [] at h
    exact fin _ (by simp [partV, h.1]) h.2

theorem op_ia (r : Rel γ I w s a) (hn : Fits γ I w s.h a o.dst K next) {t e t1 t2 : TypeId} {n : Nat} {x y : Operand} {x' y' : X} (ho : o.op = .indexAddr t x y) (ht : elemOfS P t = some e) (hs : szOf P e = some n)
    (hx : slimX P t1 x = some x') (hy : slimX P t2 y = some y') (h : opP P s.t (.ia n x' y') s.h K) : o.wp P a w next Q := by
  simp only [opP] at h
  obtain ⟨v, Z, h1, h2, h3⟩ := iaP_ok (P := P) ht hs (slimX_ok hx r) (slimX_ok hy r) h
  exact fits_value r hn (by simp only [execOp, ho]; exact run_v h1) h2 h3

theorem op_ixs (r : Rel γ I w s a) (hn : Fits γ I w s.h a o.dst K next) {t t1 t2 : TypeId} {x y : Operand} {x' y' : X} (ho : o.op = .index t x y) (ht : P.underlying t = some .string)
    (hx : slimX P t1 x = some x') (hy : slimX P t2 y = some y') (h : opP P s.t (.ixs x' y') s.h K) : o.wp P a w next Q := by
  have hx' := slimX_ok hx r
  have hy' := slimX_ok hy r
  simp only [opP] at h
  split at h
  · rename_i b k i e1 e2
    rw [e1] at hx'; rw [e2] at hy'
    have f1 := rv_sc hx'; have f2 := rv_sc hy'
    obtain ⟨⟨i0, i1⟩, hK⟩ := h
    have hlt : i.toNat < b.size := by omega
    refine fits_value r hn (x := .int .u8 (b.data.getD i.toNat 0).toNat) ?_ rv_int hK
    simp only [execOp, ho]
    refine run_v ?_
    have hg : b[i.toNat]? = some (b.data.getD i.toNat 0) := by
      have : i.toNat < b.data.size := hlt
      simp [hlt, Array.getD]; rfl
    simp [Instr.index, f1, f2, asIntOf, run_underlying ht, i0, hg]
  · exact h.elim

theorem op_ext (r : Rel γ I w s a) (hn : Fits γ I w s.h a o.dst K next) {t1 : TypeId} {i : Nat} {x : Operand} {x' : X} (ho : o.op = .extract x i) (hx : slimX P t1 x = some x')
    (h : opP P s.t (.ext x' i) s.h K) : o.wp P a w next Q := by
  have hx' := slimX_ok hx r
  simp only [opP] at h
  split at h
  case h_2 => exact h.elim
  rename_i vs e1
  split at h
  case h_2 => exact h.elim
  rename_i v hv
  rw [e1] at hx'; generalize hX : a.eval x = XX at hx'
  cases hx' with
  | @tu _ xs hl hr =>
  obtain ⟨y, y1, y2⟩ := RVs.get (vs := vs) (xs := xs) ⟨hl, hr⟩ hv
  exact fits_value r hn (x := y) (by simp [execOp, ho, hX, Instr.extract, y1]) y2 h

theorem op_len (r : Rel γ I w s a) (hn : Fits γ I w s.h a o.dst K next) {t e t1 : TypeId} {c : Call} {x : Operand} {x' : X} (ho : o.op = .call c) (hc : c.callee = .builtin .len) (ha : c.args = #[x]) (hat : c.argTypes = #[t]) (ht : P.underlying t = some (.slice e)) (hx : slimX P t1 x = some x')
    (h : opP P s.t (.len x') s.h K) : o.wp P a w next Q := by
  simp only [opP] at h
  obtain ⟨v, Z, h1, h2, h3⟩ := lenP_ok (P := P) (o := o.type) ht (slimX_ok hx r) h
  refine fits_value r hn (x := Z) ?_ h2 h3
  simp [execOp, ho, resolve, hc, ha, hat, invoke, builtin, h1]

theorem op_lens (r : Rel γ I w s a) (hn : Fits γ I w s.h a o.dst K next) {t t1 : TypeId} {c : Call} {x : Operand} {x' : X} (ho : o.op = .call c) (hc : c.callee = .builtin .len) (ha : c.args = #[x]) (hat : c.argTypes = #[t]) (ht : P.underlying t = some .string) (hx : slimX P t1 x = some x')
    (h : opP P s.t (.lens x') s.h K) : o.wp P a w next Q := by
  have hx' := slimX_ok hx r
  simp only [opP] at h
  split at h
  · rename_i b e1
    rw [e1] at hx'; have e2 := rv_sc hx'
    refine fits_value r hn (x := .int .i64 b.size) ?_ rv_int h
    simp [execOp, ho, resolve, hc, ha, hat, invoke, builtin, e2, Builtin.len_, run_underlying ht, goInt]
  · exact h.elim

theorem op_app (r : Rel γ I w s a) (hn : Fits γ I w s.h a o.dst K next) {t t2 e e2 u1 u2 : TypeId} {n b : Nat} {z : List V} {c : Call} {x y : Operand} {x' y' : X} (ho : o.op = .call c) (hc : c.callee = .builtin .append) (ha : c.args = #[x, y]) (hat : c.argTypes = #[t, t2])
    (ht : elemOfS P t = some e) (hs : szOf P e = some n) (hb : bytesIn P e = some b) (hz : zeroVs P e = some z) (hzl : z.length = n) (ht2 : P.underlying t2 = some (.slice e2)) (hx : slimX P u1 x = some x') (hy : slimX P u2 y = some y')
    (h : opP P s.t (.app n b x' y') s.h K) : o.wp P a w next Q := by
  obtain ⟨v, Z, H', γ', w', h1, h2, h3, h4, h5⟩ := appP_ok (o := o.type) ht hs hb hz hzl ht2 r.heap (slimX_ok hx r) (slimX_ok hy r) h
  refine wp_value (x := Z) ?_ (hn _ _ _ _ _ _ h2 h3 h4 h5)
  simp [execOp, ho, resolve, hc, ha, hat, invoke, builtin, h1]

theorem op_minmax (r : Rel γ I w s a) (hn : Fits γ I w s.h a o.dst K next) {u1 u2 : TypeId} {c : Call} {x y : Operand} {x' y' : X} {m : Bool} (ho : o.op = .call c) (hc : c.callee = .builtin (if m then .min else .max)) (ha : c.args = #[x, y])
    (hx : slimX P u1 x = some x') (hy : slimX P u2 y = some y') (h : opP P s.t (.minmax m x' y') s.h K) : o.wp P a w next Q := by
  have hx' := slimX_ok hx r
  have hy' := slimX_ok hy r
  simp only [opP] at h
  split at h
  · rename_i k i k' j e1 e2
    rw [e1] at hx'; rw [e2] at hy'
    have f1 := rv_sc hx'; have f2 := rv_sc hy'
    split at h
    case h_2 => exact h.elim
    rename_i hk
    have := ikEq_ok hk
    subst this
    cases m
    · refine fits_value r hn (x := .int k (max i j)) ?_ rv_int h
      simp [execOp, ho, resolve, hc, ha, invoke, builtin, f1, f2, run_max_int2]; omega
    · refine fits_value r hn (x := .int k (min i j)) ?_ rv_int h
      simp [execOp, ho, resolve, hc, ha, invoke, builtin, f1, f2, run_min_int2]; omega
  · exact h.elim

theorem op_call (r : Rel γ I w s a) (hn : Fits γ I w s.h a o.dst K next) {u : TypeId} {tys : List TypeId} {c : Call} {f : Operand} {f' : X} {as : List X} (ho : o.op = .call c) (hc : c.callee = .value f) (hf : slimX P u f = some f') (ha : slimXs P tys c.args.toList = some as)
    (h : opP P s.t (.call f' as) s.h K) : o.wp P a w next Q := by
  have hf' := slimX_ok hf r
  have ha' := slimXs_ok ha r
  simp only [opP, forceT_eq] at h
  split at h
  case h_2 => exact h.elim
  rename_i fid caps e1
  rw [e1] at hf'; generalize hF : a.eval f = FF at hf'
  cases hf' with
  | @fn _ _ vs hl hr =>
  obtain ⟨⟨fn, q1, q2, q3⟩, hcall⟩ := h
  have hvs : RVs γ s.h I w (as.map (X.ev s.t) ++ caps) (c.args.toList.map a.eval ++ vs) := ha'.append ⟨hl, hr⟩
  have := hcall γ I w _ r.heap hvs.1 hvs.2
  unfold Oper.wp
  have hrun : (execOp a.eval o).run P w = .ok (.enter fid (c.args.toList.map a.eval ++ vs).toArray) w := by
    have q2' : ¬ fn.name = "runtime.NumGoroutine" := by simpa using q2
    have q3' : ¬ fn.body = none := by intro e; rw [e] at q3; simp at q3
    simp [execOp, ho, resolve, hc, hF, Deferred.ofValue, invoke, callFunc, q1, q2', q3', amap]
  rw [hrun]
  simp only [Oper.upon]
  refine this.mono fun e w' ⟨r1, x, H', γ', I', h1, h2, h3, h4, h5⟩ => ?_
  subst h1
  exact hn _ _ _ _ _ _ h2 h3 h4 h5

end
end Go.Aw
namespace Go.Aw

inductive All2 {α β : Type} (R : α → β → Prop) : List α → List β → Prop where
  | nil : All2 R [] []
  | cons {a : α} {b : β} {l : List α} {m : List β} (h : R a b) (t : All2 R l m) : All2 R (a :: l) (b :: m)

theorem wr_toList (c : Array Value) (o : Nat) (xs : List Value) (h : o + xs.length ≤ c.size) : (wr c o xs).toList = c.toList.take o ++ xs ++ c.toList.drop (o + xs.length) := by
  apply List.ext_getElem?
  intro j
  have := wr_get c o xs h j
  rw [Array.getElem?_toList, this]
  by_cases h1 : j < o
  · rw [if_neg (by omega), List.append_assoc, List.getElem?_append_left (by simp; omega), List.getElem?_take, if_pos h1]; simp
  · by_cases h2 : j < o + xs.length
    · rw [if_pos (by omega), List.append_assoc, List.getElem?_append_right (by simp; omega), List.getElem?_append_left (by simp; omega)]
      congr 1; simp; omega
    · rw [if_neg (by omega), List.getElem?_append_right (by simp; omega), List.getElem?_drop]
      simp only [Array.getElem?_toList]
      congr 1; simp; omega

theorem foldl_wr (o : Nat) : ∀ (xs : List Value) (k : Nat) (c : Array Value), (xs.zipIdx k).foldl (fun cs (p : Value × Nat) => cs.setIfInBounds (o + p.2) p.1) c = wr c (o + k) xs
  | [], _, _ => rfl
  | x :: xs, k, c => by simp only [List.zipIdx_cons, List.foldl_cons, wr]; rw [foldl_wr o xs (k + 1)]; rfl

theorem fill_step {place : Nat → Option (Nat × Nat)} {c : Array Value} {i off n : Nat} {v : Value} {rest : List (Nat × Value)} (hp : place i = some (off, n)) (hn : v.cells.size = n) (hle : off + n ≤ c.size) :
    Instr.fill place c ((i, v) :: rest) = Instr.fill place (wr c off v.cells.toList) rest := by
  simp only [Instr.fill, hp]
  rw [if_neg (by simp; omega)]
  congr 1
  have := foldl_wr off v.cells.toList 0 c
  rw [Nat.add_zero] at this
  rw [← this, ← Array.foldl_toList]
  simp [Array.toList_zipIdx]

section
variable {P : Program} {wf : Bool} {o : Oper} {s : St} {a : Act} {γ : List (Option Nat)} {I : Nat → Prop} {w : World} {K : V → List Blk → Prop}
  {next : Act → World → Prop} {Q : Exit → Act → World → Prop}

theorem fill_build {place : Nat → Option (Nat × Nat)} : ∀ {ps : List (Nat × Nat × V)} {vs : List (Nat × Value)} {z cs : List V} {c : Array Value}, RCs γ s.h I w z c.toList → buildV z ps = some cs →
    All2 (fun p v => place v.1 = some (p.1, p.2.1) ∧ RV γ s.h I w p.2.2 v.2) ps vs → ∃ c', Instr.fill place c vs = some c' ∧ RCs γ s.h I w cs c'.toList
  | [], vs, z, cs, c, hz, hb, hf => by cases hf; simp [buildV] at hb; subst hb; exact ⟨c, rfl, hz⟩
  | (off, n, v) :: ps, _, z, cs, c, hz, hb, .cons (b := x) h1 hf => by
    simp only [buildV] at hb
    split at hb
    · rename_i hcond
      obtain ⟨q1, q2, q3⟩ := hcond
      obtain ⟨i, X⟩ := x
      have hc := cells_ok h1.2 q1
      have hlen : X.cells.toList.length = n := by rw [hc.rv.1]; exact q2
      have hcz : c.size = z.length := by have := hz.rv.1; simpa using this
      have hp : place i = some (off, n) := h1.1
      rw [fill_step hp (by simpa using hlen) (by omega)]
      refine fill_build ?_ hb hf
      rw [wr_toList _ _ _ (by rw [hlen]; omega), hlen]
      exact ((hz.take off).append hc).append (hz.drop (off + n))
    · simp at hb

theorem optL_forall {α β : Type} {f : α → Option β} : ∀ {l : List α} {r : List β}, optL (l.map f) = some r → All2 (fun a b => f a = some b) l r
  | [], r, h => by simp [optL] at h; subst h; exact .nil
  | x :: l, r, h => by
    simp only [List.map_cons] at h
    cases hf : f x with
    | none => rw [hf] at h; simp [optL] at h
    | some y =>
      rw [hf] at h
      simp only [optL] at h
      cases hr : optL (l.map f) with
      | none => rw [hr] at h; simp at h
      | some r' => rw [hr] at h; simp at h; subst h; exact .cons hf (optL_forall hr)

theorem places_ok {fs : List Field} {ns : List Nat} (h : optL (fs.map fun f => szOf P f.type) = some ns) :
    (fs.mapM (m := Sem) fun f => do pure (f.offset, ← sizeOf f.type)).run P w = .ok ((fs.zip ns).map fun p => (p.1.offset, p.2)) w := by
  induction fs generalizing ns with
  | nil => simp [optL] at h; subst h; rfl
  | cons f fs ih =>
    simp only [List.map_cons] at h
    cases hf : szOf P f.type with
    | none => rw [hf] at h; simp [optL] at h
    | some n =>
      rw [hf] at h; simp only [optL] at h
      cases hr : optL (fs.map fun f => szOf P f.type) with
      | none => rw [hr] at h; simp at h
      | some r' =>
        rw [hr] at h; simp at h; subst h
        rw [List.mapM_cons]
        simp only [Sem.run_bind, run_sizeOf hf, Result.andThen_ok, Sem.run_pure, ih hr]
        rfl

theorem op_build (r : Rel γ I w s a) (hn : Fits γ I w s.h a o.dst K next) {t : TypeId} {fs : Array Field} {parts : Array (Nat × Operand)} {z : List V} {ns : List Nat} {ps : List (Nat × Nat × X)} (ho : o.op = .build t parts) (ht : P.underlying t = some (.struct fs)) (hz : zeroVs P t = some z)
    (hns : optL (fs.toList.map fun f => szOf P f.type) = some ns)
    (hp : optL (parts.toList.map fun p => (fs[p.1]?).bind fun f => (szOf P f.type).bind fun n => (slimX P f.type p.2).map fun x => (f.offset, n, x)) = some ps)
    (h : opP P s.t (.build z ps) s.h K) : o.wp P a w next Q := by
  simp only [opP] at h
  split at h
  case h_2 => exact h.elim
  rename_i cs hcs
  obtain ⟨zv, z1, hzc⟩ := zeroVs_ok (s := s) (γ := γ) (I := I) (w := w) hz
  have hpl := places_ok (P := P) (w := w) hns
  have hnsf := optL_forall hns
  have hget : ∀ (i n : Nat) (f : Field), fs[i]? = some f → szOf P f.type = some n → (((fs.toList.zip ns).map fun p => (p.1.offset, p.2)).toArray)[i]? = some (f.offset, n) := by
    intro i n f hf hsz
    have h1 : fs.toList[i]? = some f := by simpa using hf
    have h2 : ns[i]? = some n := by
      have := congrArg (·[i]?) (optL_some hns)
      simp [hf, hsz] at this
      cases hni : ns[i]? with
      | none => rw [hni] at this; simp at this
      | some m => rw [hni] at this; simp at this; rw [this]
    have h3 : (fs.toList.zip ns)[i]? = some (f, n) := List.getElem?_zip_eq_some.2 ⟨h1, h2⟩
    simp [h3]
  obtain ⟨c', hfill, hc'⟩ := fill_build (s := s) (γ := γ) (I := I) (w := w) (place := fun i => (((fs.toList.zip ns).map fun p => (p.1.offset, p.2)).toArray)[i]?) (vs := parts.toList.map fun p => (p.1, a.eval p.2)) hzc hcs (by
    have := optL_forall hp
    clear hp hcs
    generalize parts.toList = pl at this
    induction this with
    | nil => exact .nil
    | @cons p x pl ps hpx _ ih =>
      refine .cons ?_ ih
      obtain ⟨i, op⟩ := p
      cases hf : fs[i]? with
      | none => simp [hf] at hpx
      | some f =>
        cases hsz : szOf P f.type with
        | none => simp [hf, hsz] at hpx
        | some n =>
          cases hx : slimX P f.type op with
          | none => simp [hf, hsz, hx] at hpx
          | some x' =>
            simp [hf, hsz, hx] at hpx; subst hpx
            exact ⟨hget i n f hf hsz, slimX_ok hx r⟩)
  refine fits_value r hn (x := .agg c') ?_ (by have := mkAg_ok hc'; simpa using this) h
  simp only [execOp, ho]
  refine run_v ?_
  have hfs : (fs.mapM (m := Sem) fun f => do pure (f.offset, ← sizeOf f.type)).run P w = .ok ((fs.toList.zip ns).map fun p => (p.1.offset, p.2)).toArray w := by
    have : fs = fs.toList.toArray := by simp
    rw [this, List.mapM_toArray, Sem.run_map, ← this, hpl]
    rfl
  simp only [Instr.build, Sem.run_bind, z1, Result.andThen_ok, run_underlying ht, hfs]
  have hmap : (parts.map fun x : Nat × Operand => (x.1, a.eval x.2)).toList = parts.toList.map fun p => (p.1, a.eval p.2) := by simp
  simp only [hmap, hfill]
  rfl

theorem fill_seq {sz : Nat} : ∀ {ps : List (Nat × Value)} {vs : List V} {k : Nat} {c : Array Value}, ps.map (·.1) = (List.range' k vs.length) → cellsAll sz vs →
    RVs γ s.h I w vs (ps.map (·.2)) → c.size = (k + vs.length) * sz →
    ∃ c', Instr.fill (fun i => some (i * sz, sz)) c ps = some c' ∧ c'.size = c.size ∧ (∀ j, j < k * sz → c'[j]? = c[j]?) ∧ RCs γ s.h I w (flatV vs) (c'.toList.drop (k * sz))
  | [], [], k, c, _, _, _, hs => by
    have : c.toList.drop (k * sz) = [] := by simp at hs ⊢; omega
    exact ⟨c, rfl, rfl, fun _ _ => rfl, by rw [this]; exact RCs.nil⟩
  | [], v :: vs, k, c, hp, _, _, _ => by simp at hp
  | (i, X) :: ps, [], k, c, hp, _, _, _ => by simp at hp
  | (i, X) :: ps, v :: vs, k, c, hp, ha, hv, hs => by
    simp only [List.map_cons, List.length_cons, List.range'_succ, List.cons.injEq] at hp
    obtain ⟨rfl, hp⟩ := hp
    obtain ⟨⟨q1, q2⟩, ha⟩ := ha
    obtain ⟨x, xs, he, hv1, hv2⟩ := hv.uncons
    simp only [List.map_cons, List.cons.injEq] at he
    obtain ⟨rfl, rfl⟩ := he
    have hc := cells_ok hv1 q1
    have hlen : X.cells.toList.length = sz := by rw [hc.rv.1]; exact q2
    simp only [List.length_cons] at hs
    have hle : i * sz + sz ≤ c.size := by
      rw [hs]; have : (i + 1) * sz ≤ (i + (vs.length + 1)) * sz := Nat.mul_le_mul_right sz (by omega)
      rw [Nat.add_mul] at this; omega
    obtain ⟨c', f1, f2, f3, f4⟩ := fill_seq (k := i + 1) (c := wr c (i * sz) X.cells.toList) hp ha hv2 (by simp [hs]; congr 1; omega)
    refine ⟨c', ?_, by simpa using f2, fun j hj => ?_, ?_⟩
    · rw [fill_step (n := sz) rfl (by simpa using hlen) hle]; exact f1
    · rw [f3 j (by rw [Nat.add_mul]; omega), wr_get _ _ _ (by rw [hlen]; exact hle), if_neg (by omega)]
    · have hsplit : c'.toList.drop (i * sz) = X.cells.toList ++ c'.toList.drop ((i + 1) * sz) := by
        apply List.ext_getElem?
        intro j
        rw [List.getElem?_drop, Array.getElem?_toList]
        rcases Nat.lt_or_ge j sz with h1 | h1
        · rw [List.getElem?_append_left (by omega), f3 _ (by rw [Nat.add_mul]; omega), wr_get _ _ _ (by rw [hlen]; exact hle), if_pos (by omega)]
          congr 1; omega
        · rw [List.getElem?_append_right (by omega), List.getElem?_drop, Array.getElem?_toList, hlen]
          congr 1; rw [Nat.add_mul]; omega
      rw [hsplit]
      simp only [flatV, List.flatMap_cons]
      exact hc.append f4

theorem op_bsl (r : Rel γ I w s a) (hn : Fits γ I w s.h a o.dst K next) {t e : TypeId} {len n : Nat} {parts : Array (Nat × Operand)} {z : List V} {ps : List X} (ho : o.op = .buildSlice t len parts) (ht : elemOfS P t = some e) (hs : szOf P e = some n) (hz : zeroVs P e = some z)
    (hidx : parts.toList.map (·.1) = List.range len) (hbd : len * n ≤ 2 ^ 24) (hp : optL (parts.toList.map fun p => slimX P e p.2) = some ps)
    (h : opP P s.t (.bsl n ps) s.h K) : o.wp P a w next Q := by
  have hdis : cellsAll n (ps.map (X.ev s.t)) ∧ ((∃ ts, optL ((ps.map (X.ev s.t)).map lit0) = some ts ∧ K (.g (.sl n ts)) s.h) ∨ K (.own s.h.length 0 0 ps.length) (s.h ++ [.arr 0 n (ps.map (X.ev s.t))])) := by
    cases ps with
    | nil => simp only [opP, addB_eq] at h; exact ⟨trivial, .inr h⟩
    | cons x xs =>
      simp only [opP, forceT_eq, addB_eq, List.length_map] at h
      exact ⟨h.1, litK_or _ _ _ h.2⟩
  obtain ⟨hall, hK⟩ := hdis
  obtain ⟨zv, z1, hzc⟩ := zeroVs_ok (s := s) (γ := γ) (I := I) (w := w) hz
  have hlen : parts.toList.length = len := by have := congrArg List.length hidx; simpa using this
  have hpl : ps.length = len := by have := congrArg List.length (optL_some hp); simp at this; simp at hlen; omega
  have hev : RVs γ s.h I w (ps.map (X.ev s.t)) ((parts.toList.map fun p => (p.1, a.eval p.2)).map (·.2)) := by
    have : (parts.toList.map fun p : Nat × Operand => (p.1, a.eval p.2)).map (·.2) = (parts.toList.map (·.2)).map a.eval := by simp
    rw [this]
    exact optX_ok (ty := e) (xs := parts.toList.map (·.2)) (by simpa [List.map_map, Function.comp_def] using hp) r
  have hc0 : ∀ zero : Array Value, ((Array.range (len * n)).map (fun i => zero[i % zero.size]!)).size = len * n := by intro zero; simp
  have fin : ∀ zero : Array Value, ∃ c', Instr.fill (fun i => some (i * n, n)) ((Array.range (len * n)).map (fun i => zero[i % zero.size]!)) (parts.toList.map fun p => (p.1, a.eval p.2)) = some c' ∧ c'.size = len * n ∧ RCs γ s.h I w (flatV (ps.map (X.ev s.t))) c'.toList := by
    intro zero
    obtain ⟨c', f1, f2, _, f4⟩ := fill_seq (s := s) (γ := γ) (I := I) (w := w) (sz := n) (ps := parts.toList.map fun p => (p.1, a.eval p.2)) (vs := ps.map (X.ev s.t)) (k := 0) (c := (Array.range (len * n)).map (fun i => zero[i % zero.size]!))
      (by rw [List.map_map]; simp only [Function.comp_def, List.length_map, hpl]; rw [← List.range_eq_range']; exact hidx) hall hev (by rw [hc0]; simp [hpl])
    exact ⟨c', f1, by rw [f2, hc0], by simpa using f4⟩
  have hmap : (parts.map fun x : Nat × Operand => (x.1, a.eval x.2)).toList = parts.toList.map fun p => (p.1, a.eval p.2) := by simp
  have hrun : ∃ c', (execOp a.eval o).run P w = .ok (.value (.slice (some ⟨w.heap.size, 0, none⟩) len len)) (w.alloc (.cells c' e)) ∧ c'.size = len * n ∧ RCs γ s.h I w (flatV (ps.map (X.ev s.t))) c'.toList := by
    by_cases h0 : len * n = 0
    · obtain ⟨c', f1, f2, f3⟩ := fin #[]
      refine ⟨c', ?_, f2, f3⟩
      simp only [execOp, ho]
      refine run_v ?_
      simp only [Instr.buildSlice, Sem.run_bind, run_underlying (run_elem ht), Result.andThen_ok, run_sizeOf hs, hmap]
      rw [if_neg (by omega), if_pos h0]
      simp only [Sem.run_pure, Sem.run_bind, Result.andThen_ok, f1, newRow, run_newObj, World.alloc_eq]
    · obtain ⟨c', f1, f2, f3⟩ := fin zv.cells
      refine ⟨c', ?_, f2, f3⟩
      simp only [execOp, ho]
      refine run_v ?_
      simp only [Instr.buildSlice, Sem.run_bind, run_underlying (run_elem ht), Result.andThen_ok, run_sizeOf hs, hmap]
      rw [if_neg (by omega), if_neg h0]
      simp only [Sem.run_pure, Sem.run_bind, Result.andThen_ok, z1, f1, newRow, run_newObj, World.alloc_eq]
  obtain ⟨c', h1, h2, h3⟩ := hrun
  have hwf : ∀ v ∈ ps.map (X.ev s.t), v.cells.length = n := fun v hv => (cellsAll_mem hall v hv).2
  obtain ⟨a1, a2⟩ := alloc_ok (c := c') (el := e) (sz := n) (es := ps.map (X.ev s.t)) r.heap hwf (by rw [h2]; simp [hpl]) (fun i v hi => by obtain ⟨y, y1, y2, y3⟩ := h3.get hi; exact ⟨y, by simpa using y1, y2, y3⟩) 0
  have hown : RV (γ ++ [some w.heap.size]) (s.h ++ [.arr 0 n (ps.map (X.ev s.t))]) I (w.alloc (.cells c' e)) (.own s.h.length 0 0 ps.length) (.slice (some ⟨w.heap.size, 0, none⟩) len len) := by
   rw [← hpl]
   refine .own (g' := 0) (sz := n) (es := ps.map (X.ev s.t)) (by simp) (Nat.le_refl _) (Nat.le_refl _) (fun _ => ⟨by simp, .inr ⟨w.heap.size, ?_, .inr (by simp), ?_⟩⟩)
   · rw [List.getElem?_append_right (by rw [r.heap.len]; exact Nat.le_refl _)]; simp [r.heap.len]
   · exact ⟨c', e, (0, 0), by show (w.heap.push _)[w.heap.size]? = _; simp, by rw [h2, hpl]; simp⟩
  rcases hK with ⟨ts, l1, hK⟩ | hK
  · have hge : ∀ (b k g sz : Nat) (es : List V), s.h.length ≤ b → (s.h ++ [.arr 0 n (ps.map (X.ev s.t))])[b]? = some (.arr g sz es) → (γ ++ [some w.heap.size])[b]? = some (some k) → (I k ∨ k = w.heap.size) := fun b k _ _ _ hb _ hk => by
      rw [List.getElem?_append_right (by rw [r.heap.len]; exact hb)] at hk
      have : b - γ.length = 0 := by have := lt_of_get hk; simpa using this
      rw [this] at hk; simp at hk; exact .inr hk.symm
    have hgr : gr s.h.length (s.h ++ [.arr 0 n (ps.map (X.ev s.t))]) 1 (.own s.h.length 0 0 ps.length) = some (.sl n ts) := by
      have e0 : gr s.h.length (s.h ++ [.arr 0 n (ps.map (X.ev s.t))]) 0 = lit0 := by
        funext v; cases v <;> rfl
      have hget : (s.h ++ [.arr 0 n (ps.map (X.ev s.t))])[s.h.length]? = some (.arr 0 n (ps.map (X.ev s.t))) := by simp
      rw [gr, hget]
      simp only
      rw [if_pos (by simp)]
      have : ((ps.map (X.ev s.t)).drop 0).take ps.length = ps.map (X.ev s.t) := by rw [List.drop_zero, List.take_of_length_le (by simp)]
      rw [this, e0, l1]
      rfl
    have hrt := gr_sound (I1 := fun k => I k ∨ k = w.heap.size) a1 (fun k hk => .inl hk) hge 1 _ _ _ hgr hown
    have r2 : RelH ((γ ++ [some w.heap.size]).take s.h.length) (fun k => I k ∨ k = w.heap.size) (w.alloc (.cells c' e)) s.h := by
      refine a1.take (fun b x hb => r.heap.lt hb) (fun k hk => .inl hk) (fun k hk => ?_)
      rcases hk with hk | rfl
      · exact ⟨a1.imm k hk, fun b _ hb => (a1.off b k hb).1 hk⟩
      · refine ⟨⟨c', e, (0, 0), by show (w.heap.push _)[w.heap.size]? = _; simp⟩, fun b hb hk => ?_⟩
        · rw [List.getElem?_append_left (by rw [r.heap.len]; exact hb)] at hk
          exact absurd (r.heap.off b _ hk).2 (Nat.lt_irrefl _)
    have ht : (γ ++ [some w.heap.size]).take s.h.length = γ := by rw [← r.heap.len]; simp
    rw [ht] at r2
    refine wp_value h1 (hn _ _ _ _ _ _ hK r2 (.g hrt) ?_)
    have a3 := a2.take r.heap rfl
    rw [ht] at a3
    exact {
      os := a3.os, tape := a3.tape, output := a3.output, size := a3.size
      sub := fun k hk => .inl hk
      sub' := fun k hk => by
        rcases hk with hk | rfl
        · exact .inl hk
        · exact .inr (.inl (Nat.le_refl _))
      frame := a3.frame, rows := a3.rows, blk := a3.blk, new := a3.new }
  · exact wp_value h1 (hn _ _ _ _ _ _ hK a1 hown a2)

theorem flatV_rep (z : V) (sz : Nat) (hz : z.cells.length = sz) (m j : Nat) (v : V) (h : (flatV (List.replicate m z))[j]? = some v) : j < m * sz ∧ z.cells[j % sz]? = some v := by
  have hwf : ∀ e ∈ List.replicate m z, e.cells.length = sz := fun e he => by rw [(List.mem_replicate.1 he).2]; exact hz
  have hj := lt_of_get h
  rw [flatV_len hwf, List.length_replicate] at hj
  refine ⟨hj, ?_⟩
  obtain ⟨s1, s2, s3⟩ := flat_split hj
  rw [s3, flatV_get hwf (j / sz) z (by simp [s1]) _ s2] at h
  exact h

theorem op_mks (r : Rel γ I w s a) (hn : Fits γ I w s.h a o.dst K next) {t e t1 : TypeId} {n b : Nat} {z : V} {l c : Operand} {l' : X} (ho : o.op = .makeSlice t l c) (ht : elemOfS P t = some e) (hs : szOf P e = some n) (hb : bytesIn P e = some b) (hz : zeroV P e = some z)
    (hl : slimX P t1 l = some l') (hc : a.eval c = a.eval l) (hpos : 0 < n) (h : opP P s.t (.mks n b z l') s.h K) : o.wp P a w next Q := by
  have hl' := slimX_ok hl r
  simp only [opP, addB_eq] at h
  split at h
  case h_2 => exact h.elim
  rename_i i e1
  rw [e1] at hl'
  have hL := rv_sc hl'
  obtain ⟨⟨i0, i1⟩, hzn, hK⟩ := h
  obtain ⟨zv, z1, hzc, _⟩ := zeroV_ok (s := s) (γ := γ) (I := I) (w := w) hz
  obtain ⟨m, rfl⟩ : ∃ m : Nat, i = m := ⟨i.toNat, by omega⟩
  have hzs : zv.cells.size = n := by have := hzc.rv.1; simp at this; omega
  have hle : (m : Int) ≤ 140737488355328 := by
    have : (m : Int) * 1 ≤ (m : Int) * (b + 1) := Int.mul_le_mul_of_nonneg_left (by omega) (by omega)
    omega
  have hbm : (b : Int) * m ≤ 140737488355328 := by
    have : (m : Int) * b ≤ (m : Int) * (b + 1) := Int.mul_le_mul_of_nonneg_left (by omega) (by omega)
    rw [Int.mul_comm]; omega
  have hw : IntKind.i64.wrap (m : Int) = m := wrap_in (by simp [inR, IntKind.min, IntKind.max, IntKind.signed, IntKind.bits]; omega)
  unfold bytesIn at hb
  cases hi : P.info? e with
  | none => rw [hi] at hb; simp at hb
  | some info =>
  rw [hi] at hb; simp at hb; subst hb
  have hrun : ∃ cc : Array Value, (execOp a.eval o).run P w = .ok (.value (.slice (some ⟨w.heap.size, 0, none⟩) m m)) (w.alloc (.cells cc e)) ∧ cc.size = m * n ∧ ∀ j, j < m * n → cc[j]? = some (zv.cells.getD (j % n) undef) := by
    refine ⟨(Array.range (m * n)).map (fun i => (if m * n = 0 then #[] else zv.cells)[i % (if m * n = 0 then #[] else zv.cells).size]!), ?_, by simp, fun j hj => ?_⟩
    · simp only [execOp, ho]
      refine run_v ?_
      simp only [Instr.makeSlice, Sem.run_bind, run_underlying (run_elem ht), Result.andThen_ok, hc, hL, asInt, asIntOf, Sem.run_pure, run_typeInfo hi, hw]
      split
      · rename_i hh; exfalso; simp at hh; omega
      · simp only [Sem.run_bind, run_askRoom, Result.andThen_ok, run_sizeOf hs, Int.toNat_natCast]
        by_cases h0 : m * n = 0
        · simp only [h0, if_true, Sem.run_bind, Sem.run_pure, Result.andThen_ok, newRow, run_newObj, World.alloc_eq]
        · simp only [h0, if_false, Sem.run_bind, Sem.run_pure, Result.andThen_ok, newRow, run_newObj, World.alloc_eq, z1]
    · have : ¬ m * n = 0 := by omega
      have hmod : j % n < n := Nat.mod_lt _ hpos
      simp [this, hj, hzs, hmod]
  obtain ⟨cc, h1, h2, h3⟩ := hrun
  simp only [Int.toNat_natCast] at hK
  have hzn' : ∀ v ∈ List.replicate m z, v.cells.length = n := fun v hv => by rw [(List.mem_replicate.1 hv).2]; exact hzn
  obtain ⟨a1, a2⟩ := alloc_ok (c := cc) (el := e) (sz := n) (es := List.replicate m z) r.heap hzn' (by rw [h2]; simp) (fun j v hj => by
    obtain ⟨k1, k2⟩ := flatV_rep z n hzn m j v hj
    obtain ⟨y, y1, y2, y3⟩ := hzc.get k2
    refine ⟨y, ?_, y2, y3⟩
    rw [h3 j k1]
    have : zv.cells[j % n]? = some y := by simpa using y1
    simp [Array.getD_eq_getD_getElem?, this]) 0
  refine wp_value h1 (hn _ _ _ _ _ _ hK a1 ?_ a2)
  refine .own (g' := 0) (sz := n) (es := List.replicate m z) (by simp) (Nat.le_refl _) (Nat.le_refl _) (fun _ => ⟨by simp, .inr ⟨w.heap.size, ?_, .inr (by simp), ?_⟩⟩)
  · rw [List.getElem?_append_right (by rw [r.heap.len]; exact Nat.le_refl _)]; simp [r.heap.len]
  · exact ⟨cc, e, (0, 0), by show (w.heap.push _)[w.heap.size]? = _; simp, by rw [h2]; simp⟩

theorem op_slcs (r : Rel γ I w s a) (hn : Fits γ I w s.h a o.dst K next) {t t1 t2 t3 : TypeId} {x : Operand} {x' : X} {lo hi : Option Operand} {lo' hi' : Option X} (ho : o.op = .slice t x lo hi none) (ht : P.underlying t = some .string)
    (hx : slimX P t1 x = some x') (hlo : (lo = none ∧ lo' = none) ∨ ∃ l l', lo = some l ∧ lo' = some l' ∧ slimX P t2 l = some l')
    (hhi : (hi = none ∧ hi' = none) ∨ ∃ l l', hi = some l ∧ hi' = some l' ∧ slimX P t3 l = some l') (h : opP P s.t (.slcs x' lo' hi') s.h K) : o.wp P a w next Q := by
  have hx' := slimX_ok hx r
  simp only [opP, slcsP] at h
  split at h
  case h_2 => exact h.elim
  rename_i b e1
  split at h
  case h_2 => exact h.elim
  rename_i l m hl hm
  obtain ⟨⟨b1, b2, b3⟩, hK⟩ := h
  rw [e1] at hx'; have e2 := rv_sc hx'
  refine fits_value r hn (x := .string (b.extract l.toNat m.toNat)) ?_ rv_str hK
  simp only [execOp, ho]
  refine run_v ?_
  have r1 : ∀ k c, (Instr.sliceBound (.int k m) b.size c).run P w = .ok m.toNat w := fun k c => run_bound (by omega) (by omega)
  have r2 : ∀ k c, (Instr.sliceBound (.int k l) m.toNat c).run P w = .ok l.toNat w := fun k c => run_bound (by omega) (by omega)
  have hB : (Instr.sliceBounds false b.size b.size (lo.map a.eval) (hi.map a.eval) none).run P w = .ok (l.toNat, m.toNat, b.size) w := by
    rcases hhi with ⟨rfl, rfl⟩ | ⟨u, u', rfl, rfl, hu⟩
    · simp at hm; subst hm
      simp only [Int.toNat_natCast] at r2
      rcases hlo with ⟨rfl, rfl⟩ | ⟨v, v', rfl, rfl, hv⟩
      · simp at hl; subst hl; simp [Instr.sliceBounds]
      · obtain ⟨k, hk⟩ := bound_ok hl (slimX_ok hv r)
        simp [Instr.sliceBounds, hk, r2]
    · obtain ⟨k, hk⟩ := bound_ok hm (slimX_ok hu r)
      rcases hlo with ⟨rfl, rfl⟩ | ⟨v, v', rfl, rfl, hv⟩
      · simp at hl; subst hl; simp [Instr.sliceBounds, hk, r1]
      · obtain ⟨k2, hk2⟩ := bound_ok hl (slimX_ok hv r)
        simp [Instr.sliceBounds, hk, hk2, r1, r2]
  simp [Instr.sliceAt, Instr.slice, run_underlying ht, e2, hB]

end
end Go.Aw
namespace Go.Aw

section
variable {P : Program} {wf : Bool} {o : Oper} {s : St} {a : Act} {γ : List (Option Nat)} {I : Nat → Prop} {w : World} {K : V → List Blk → Prop}
  {next : Act → World → Prop} {Q : Exit → Act → World → Prop} {H : List Blk}

theorem op_cap (r : Rel γ I w s a) (hn : Fits γ I w s.h a o.dst K next) {t e t1 : TypeId} {c : Call} {x : Operand} {x' : X} (ho : o.op = .call c) (hc : c.callee = .builtin .cap) (ha : c.args = #[x]) (hat : c.argTypes = #[t]) (ht : P.underlying t = some (.slice e)) (hx : slimX P t1 x = some x')
    (h : opP P s.t (.cap x') s.h K) : o.wp P a w next Q := by
  have hx' := slimX_ok hx r
  simp only [opP] at h
  have key : ∃ (b : Option Addr) (len cap : Nat), a.eval x = .slice b len cap ∧ K (.g (.i cap)) s.h := by
    unfold capP at h
    generalize X.ev s.t x' = Y at *
    split at h
    · generalize a.eval x = Z at *
      cases hx'; exact ⟨_, _, _, rfl, h⟩
    · generalize a.eval x = Z at *
      cases hx' with
      | own hb hg hl hcc => exact ⟨_, _, _, rfl, h _ hl⟩
    · generalize a.eval x = Z at *
      cases hx' with
      | g hx' => cases hx' with
        | sl k o vs ha hw hl => exact ⟨_, _, _, rfl, h _ hl⟩
    · exact h.elim
  obtain ⟨b, len, cap, e1, hK⟩ := key
  refine fits_value r hn (x := .int .i64 cap) ?_ rv_int hK
  simp [execOp, ho, resolve, hc, ha, hat, invoke, builtin, e1, Builtin.cap_, run_underlying ht, goInt]

theorem shown_take (r : RelH γ I w H) {y : V} {Y : Value} {sy : Nat} {ys : List V} (hy : RV γ H I w y Y) (h : Shown H sy y ys) {m : Nat} (hm : m ≤ ys.length) :
    ∃ xs, RCs γ H I w (flatV (ys.take m)) xs ∧ (Builtin.firstCells sy m Y).run P w = .ok xs.toArray w := by
  rcases h with h | ⟨s, rfl, rfl⟩
  · cases y with
    | g t =>
      cases t with
      | sl s es =>
        simp [elems] at h; obtain ⟨rfl, rfl⟩ := h
        cases hy with | g hy =>
        cases hy with
        | @sl _ _ a cap k o vs ha hw hl hc h1 hr =>
        simp at hm
        have hf : ∀ (i : Nat) (t : T), (flatT (es.take m))[i]? = some t → (flatT es)[i]? = some t := fun i t hi => by
          have : flatT es = flatT (es.take m) ++ flatT (es.drop m) := by unfold flatT; rw [← List.flatMap_append, List.take_append_drop]
          rw [this, List.getElem?_append_left (lt_of_get hi)]; exact hi
        have hy' : RV γ H I w (.g (.sl s (es.take m))) (.slice a (es.take m).length cap) := .g (.sl k o vs (fun hne => ha (fun e => hne (by rw [e]; simp))) (fun e he => hw e (List.mem_of_mem_take he)) (by simp; omega)
          (fun i t hi => hc i t (hf i t hi)) (fun i t hi => h1 i t (hf i t hi)) (fun i t hi => hr i t (hf i t hi)))
        obtain ⟨_, _, xs, e1, e2⟩ := elems_ok (P := P) r hy' (sy := s) (ys := (es.take m).map V.g) (by simp [elems])
        refine ⟨xs, by rw [← List.map_take]; exact e1, ?_⟩
        simp at e2
        rw [Nat.min_eq_left hm] at e2
        cases a <;> exact e2
      | _ => simp [elems] at h
    | nil s =>
      simp [elems] at h; obtain ⟨rfl, rfl⟩ := h
      cases hy
      simp at hm; subst hm
      exact ⟨[], .nil, firstCells_nil ..⟩
    | own b g off len =>
      cases hy with
      | @own _ _ g2 sz2 _ _ cap es2 a hb2 hg hl hc =>
      simp only [elems, hb2] at h
      split at h
      case isFalse => simp at h
      rename_i hcond
      obtain ⟨rfl, hlen⟩ := hcond
      simp at h; obtain ⟨rfl, rfl⟩ := h
      have hml : m ≤ len := by simp at hm; omega
      obtain ⟨c1, c2⟩ := hc rfl
      have hy' : RV γ H I w (.own b g off m) (.slice a m cap) := .own hb2 hg (by omega) (fun _ => ⟨by omega, c2⟩)
      obtain ⟨_, _, xs, e1, e2⟩ := elems_ok (P := P) r hy' (sy := sz2) (ys := (es2.drop off).take m) (by simp [elems, hb2]; omega)
      have hl' : ((es2.drop off).take m).length = m := by simp; omega
      rw [hl'] at e2
      refine ⟨xs, ?_, by cases a <;> exact e2⟩
      have : List.take m (List.take len (List.drop off es2)) = (es2.drop off).take m := by rw [List.take_take, Nat.min_eq_left hml]
      rw [this]; exact e1
    | _ => simp [elems] at h
  · cases hy
    simp at hm; subst hm
    exact ⟨[], .nil, firstCells_nil ..⟩

/-- some elements are written over -/
theorem splice_ok (r : RelH γ I w H) {b g sz k off : Nat} {es ys : List V} {c : Array Value} {el : TypeId} {xs : List Value} (hb : H[b]? = some (.arr g sz es)) (hk : γ[b]? = some (some k))
    (hh : w.heap[k]? = some (.cells c el (0, 0))) (h3 : ∀ e ∈ es, e.cells.length = sz) (h4 : es.length * sz ≤ c.size)
    (h5 : ∀ (i : Nat) (v : V), (flatV es)[i]? = some v → ∃ x : Value, c[i]? = some x ∧ x.oneCell' = true ∧ RV γ H I w v x)
    (hys : ∀ e ∈ ys, e.cells.length = sz) (hxs : RCs γ H I w (flatV ys) xs) (hle : off + ys.length ≤ es.length) :
    RelH γ I (World.setB w k (.cells (wr c (off * sz) xs) el (0, 0))) (H.set b (.arr g sz (es.take off ++ ys ++ es.drop (off + ys.length)))) ∧
    Ext γ H I w γ (H.set b (.arr g sz (es.take off ++ ys ++ es.drop (off + ys.length)))) I (World.setB w k (.cells (wr c (off * sz) xs) el (0, 0))) := by
  have hxl : xs.length = ys.length * sz := by rw [hxs.rv.1, flatV_len hys]
  have hmul : off * sz + ys.length * sz ≤ es.length * sz := by rw [← Nat.add_mul]; exact Nat.mul_le_mul_right _ hle
  have htl : (es.take off).length = off := by simp; omega
  have hft : (flatV (es.take off)).length = off * sz := by rw [flatV_len (fun e he => h3 e (List.mem_of_mem_take he)), htl]
  have hfy : (flatV ys).length = ys.length * sz := flatV_len hys
  have hsplit : ∀ m, flatV es = flatV (es.take m) ++ flatV (es.drop m) := fun m => by rw [← flatV_append, List.take_append_drop]
  have hlen' : (es.take off ++ ys ++ es.drop (off + ys.length)).length = es.length := by simp; omega
  refine upd_ok (es' := es.take off ++ ys ++ es.drop (off + ys.length)) (c' := wr c (off * sz) xs) r hb hk hh (by simp) (Nat.le_refl _) (fun _ => by omega) (fun e he => ?_) (by rw [hlen']; exact h4) (fun j v hj => ?_)
  · rcases List.mem_append.1 he with he | he
    · rcases List.mem_append.1 he with he | he
      · exact h3 e (List.mem_of_mem_take he)
      · exact hys e he
    · exact h3 e (List.mem_of_mem_drop he)
  · have hget := wr_get c (off * sz) xs (by rw [hxl]; omega) j
    rw [flatV_append, flatV_append] at hj
    rcases Nat.lt_or_ge j (off * sz) with h1 | h1
    · rw [List.getElem?_append_left (by rw [List.length_append]; omega), List.getElem?_append_left (by omega)] at hj
      obtain ⟨x, x1, x2, x3⟩ := h5 j v (by rw [hsplit off, List.getElem?_append_left (by omega)]; exact hj)
      exact ⟨x, by rw [hget, if_neg (by omega)]; exact x1, x2, x3⟩
    · rcases Nat.lt_or_ge j (off * sz + ys.length * sz) with h2 | h2
      · rw [List.getElem?_append_left (by rw [List.length_append]; omega), List.getElem?_append_right (by omega), hft] at hj
        obtain ⟨x, x1, x2, x3⟩ := hxs.get hj
        exact ⟨x, by rw [hget, if_pos (by omega)]; exact x1, x2, x3⟩
      · have hdl : (flatV (es.take (off + ys.length))).length = off * sz + ys.length * sz := by
          rw [flatV_len (fun e he => h3 e (List.mem_of_mem_take he)), List.length_take, Nat.min_eq_left hle, Nat.add_mul]
        rw [List.getElem?_append_right (by rw [List.length_append]; omega), List.length_append, hft, hfy] at hj
        obtain ⟨x, x1, x2, x3⟩ := h5 j v (by rw [hsplit (off + ys.length), List.getElem?_append_right (by omega), hdl]; exact hj)
        exact ⟨x, by rw [hget, if_neg (by omega)]; exact x1, x2, x3⟩

theorem set_self {b : Nat} {x : Blk} (h : H[b]? = some x) : H.set b x = H := by
  apply List.ext_getElem?
  intro i
  rw [List.getElem?_set]
  split
  · rename_i e; subst e
    have := lt_of_get h
    rw [if_pos this, h]
  · rfl

theorem op_cpy (r : Rel γ I w s a) (hn : Fits γ I w s.h a o.dst K next) {t t2 e e2 u1 u2 : TypeId} {n : Nat} {c : Call} {x y : Operand} {x' y' : X} (ho : o.op = .call c) (hc : c.callee = .builtin .copy) (ha : c.args = #[x, y]) (hat : c.argTypes = #[t, t2])
    (ht : elemOfS P t = some e) (hs : szOf P e = some n) (_ht2 : elemOfS P t2 = some e2) (hx : slimX P u1 x = some x') (hy : slimX P u2 y = some y')
    (h : opP P s.t (.cpy n x' y') s.h K) : o.wp P a w next Q := by
  have hx' := slimX_ok hx r
  have hy' := slimX_ok hy r
  simp only [opP, cpyP] at h
  obtain ⟨ys, hel, h⟩ := withElems_ok h
  obtain ⟨⟨ya, yc, hY⟩, hwy, _⟩ := shown_ok (P := P) r.heap hy' hel
  split at h
  case h_2 => exact h.elim
  rename_i b g off len e1
  rw [e1] at hx'
  split at h
  case h_2 => exact h.elim
  rename_i g' sz es hb
  rw [getB_eq] at hb
  obtain ⟨⟨rfl, rfl⟩, hK⟩ := h
  rw [setB_eq] at hK
  generalize hX : a.eval x = XX at hx'
  cases hx' with
  | @own _ _ g2 sz2 _ _ cap es2 aa hb2 hg hl hcc =>
  rw [hb] at hb2; cases hb2
  obtain ⟨c1, c2⟩ := hcc rfl
  obtain ⟨xs, hxs, hrun⟩ := shown_take (P := P) r.heap hy' hel (m := min ys.length len) (Nat.min_le_left _ _)
  have hmin : Nat.min ys.length len = min ys.length len := rfl
  have hrunC : ∀ w', (match aa with | some a' => storeCells a' xs | none => pure ()).run P w = .ok () w' → (execOp a.eval o).run P w = .ok (.value (.int .i64 (min ys.length len : Nat))) w' := by
    intro w' hst
    have hlen : (Builtin.lenOf (a.eval y)).run P w = .ok ys.length w := by rw [hY]; rfl
    cases aa with
    | none => simp at hst; subst hst; simp [execOp, ho, resolve, hc, ha, hat, invoke, builtin, hX, Builtin.copy_, run_underlying (run_elem ht), hlen, run_sizeOf hs, hmin, hrun, goInt]
    | some a' => simp at hst; simp [execOp, ho, resolve, hc, ha, hat, invoke, builtin, hX, Builtin.copy_, run_underlying (run_elem ht), hlen, run_sizeOf hs, hmin, hrun, hst, goInt]
  have hty : (ys.take (min ys.length len)).length = min ys.length len := by simp
  have hwt : ∀ e ∈ ys.take (min ys.length len), e.cells.length = sz := fun e he => hwy e (List.mem_of_mem_take he)
  by_cases h0 : min ys.length len = 0
  · have hx0 : xs = [] := List.eq_nil_of_length_eq_zero (by rw [hxs.rv.1, flatV_len hwt, hty, h0]; simp)
    subst hx0
    have := hrunC w (by cases aa <;> rfl)
    rw [h0] at hK
    simp only [List.take_zero, List.append_nil, Nat.add_zero, List.take_append_drop, set_self hb] at hK
    rw [h0] at this
    exact wp_value this (hn _ _ _ _ _ _ hK r.heap rv_int (Ext.refl ..))
  · rcases c2 with ⟨_, _, _, hz⟩ | ⟨k, hk, haa, hrow⟩
    · omega
    · rcases haa with hz | rfl
      · omega
      rcases r.heap.arr _ _ _ _ hb with ⟨hz, _⟩ | ⟨k', cc, el, h1, h2, h3, h4, h5⟩
      · rw [hz] at hk; cases hk
      rw [hk] at h1; cases h1
      have hle : off + (ys.take (min ys.length len)).length ≤ es.length := by rw [hty]; omega
      have hbd : off * sz + 0 + xs.length ≤ cc.size := by
        rw [hxs.rv.1, flatV_len hwt]
        have : (off + (ys.take (min ys.length len)).length) * sz ≤ es.length * sz := Nat.mul_le_mul_right _ hle
        rw [Nat.add_mul] at this; omega
      have hst := run_storeCells (P := P) (k := k) (o := off * sz) (xs := xs) (i := 0) h2 hbd hxs.one
      rw [Nat.add_zero] at hst
      obtain ⟨p1, p2⟩ := splice_ok r.heap hb hk h2 h3 h4 h5 hwt hxs hle
      rw [hty] at p1 p2
      exact wp_value (hrunC _ hst) (hn _ _ _ _ _ _ hK p1 rv_int p2)

theorem op_clr (r : Rel γ I w s a) (hn : Fits γ I w s.h a o.dst K next) {t e u1 : TypeId} {n : Nat} {z : V} {c : Call} {x : Operand} {x' : X} (ho : o.op = .call c) (hc : c.callee = .builtin .clear) (ha : c.args = #[x]) (hat : c.argTypes = #[t])
    (ht : elemOfS P t = some e) (hs : szOf P e = some n) (hpos : 0 < n) (hz : zeroV P e = some z) (hx : slimX P u1 x = some x')
    (h : opP P s.t (.clr n z x') s.h K) : o.wp P a w next Q := by
  have hx' := slimX_ok hx r
  simp only [opP, clrP] at h
  split at h
  case h_2 => exact h.elim
  rename_i b g off len e1
  rw [e1] at hx'
  split at h
  case h_2 => exact h.elim
  rename_i g' sz es hb
  rw [getB_eq] at hb
  obtain ⟨⟨rfl, rfl, hzn⟩, hK⟩ := h
  rw [setB_eq] at hK
  generalize hX : a.eval x = XX at hx'
  cases hx' with
  | @own _ _ g2 sz2 _ _ cap es2 aa hb2 hg hl hcc =>
  rw [hb] at hb2; cases hb2
  obtain ⟨c1, c2⟩ := hcc rfl
  obtain ⟨zv, z1, hzc, _⟩ := zeroV_ok (s := s) (γ := γ) (I := I) (w := w) hz
  have hzs : zv.cells.size = sz := by have := hzc.rv.1; simp at this; omega
  by_cases h0 : len = 0
  · subst h0
    have : (execOp a.eval o).run P w = .ok (.value (.tuple #[])) w := by
      cases aa <;> simp [execOp, ho, resolve, hc, ha, hat, invoke, builtin, hX, Builtin.clear_, run_underlying (run_elem ht)]
    simp only [List.replicate_zero, List.append_nil, Nat.add_zero, List.take_append_drop, set_self hb] at hK
    exact wp_value this (hn _ _ _ _ _ _ hK r.heap (.tu (vs := []) rfl (by simp)) (Ext.refl ..))
  · rcases c2 with ⟨_, _, _, hz⟩ | ⟨k, hk, haa, hrow⟩
    · omega
    · rcases haa with hz | rfl
      · omega
      rcases r.heap.arr _ _ _ _ hb with ⟨hz, _⟩ | ⟨k', cc, el, h1, h2, h3, h4, h5⟩
      · rw [hz] at hk; cases hk
      rw [hk] at h1; cases h1
      have hwt : ∀ e ∈ List.replicate len z, e.cells.length = sz := fun e he => by rw [(List.mem_replicate.1 he).2]; exact hzn
      have hfl := flatV_len hwt
      rw [List.length_replicate] at hfl
      let xs := (Builtin.zeroCells zv.cells len).toList
      have hxl : xs.length = len * sz := by simp [xs, Builtin.zeroCells, hzs]
      have hxs : RCs γ s.h I w (flatV (List.replicate len z)) xs := by
        have key : ∀ (i : Nat) (v : V), (flatV (List.replicate len z))[i]? = some v → ∃ y, xs[i]? = some y ∧ y.oneCell' = true ∧ RV γ s.h I w v y := by
          intro i v hi
          obtain ⟨k1, k2⟩ := flatV_rep z sz hzn len i v hi
          obtain ⟨y, y1, y2, y3⟩ := hzc.get k2
          refine ⟨y, ?_, y2, y3⟩
          have hmod : i % sz < sz := Nat.mod_lt _ hpos
          have hy1 : zv.cells[i % sz]? = some y := by simpa using y1
          have hgd : zv.cells[i % sz]! = y := by rw [getElem!_def, hy1]
          simp [xs, Builtin.zeroCells, hzs]
          exact ⟨i, by simp [k1], hgd⟩
        refine ⟨RVs.of_get (by rw [hxl, hfl]) (fun i v hi => by obtain ⟨y, y1, _, y3⟩ := key i v hi; exact ⟨y, y1, y3⟩), fun y hy => ?_⟩
        obtain ⟨i, hi, rfl⟩ := List.getElem_of_mem hy
        have hi' : i < (flatV (List.replicate len z)).length := by rw [hfl, ← hxl]; exact hi
        obtain ⟨y, y1, y2, _⟩ := key i _ (List.getElem?_eq_getElem hi')
        rw [List.getElem?_eq_getElem hi] at y1; cases y1; exact y2
      have hle : off + (List.replicate len z).length ≤ es.length := by simp; omega
      have hbd : off * sz + 0 + xs.length ≤ cc.size := by
        have : (off + len) * sz ≤ es.length * sz := Nat.mul_le_mul_right _ (by omega)
        rw [Nat.add_mul] at this; omega
      have hst := run_storeCells (P := P) (k := k) (o := off * sz) (xs := xs) (i := 0) h2 hbd hxs.one
      rw [Nat.add_zero] at hst
      obtain ⟨p1, p2⟩ := splice_ok r.heap hb hk h2 h3 h4 h5 hwt hxs hle
      rw [List.length_replicate] at p1 p2
      have : (execOp a.eval o).run P w = .ok (.value (.tuple #[])) (World.setB w k (.cells (wr cc (off * sz) xs) el (0, 0))) := by
        obtain ⟨m, rfl⟩ : ∃ m, len = m + 1 := ⟨len - 1, by omega⟩
        simp [execOp, ho, resolve, hc, ha, hat, invoke, builtin, hX, Builtin.clear_, run_underlying (run_elem ht), z1]
        rw [show (Builtin.zeroCells zv.cells (m + 1)).toList = xs from rfl, hst]
        rfl
      exact wp_value this (hn _ _ _ _ _ _ hK p1 (.tu (vs := []) rfl (by simp)) p2)

set_option maxRecDepth 100000 in
theorem op_appz (r : Rel γ I w s a) (hn : Fits γ I w s.h a o.dst K next) {t t2 e u1 u2 : TypeId} {kk : IntKind} {n b : Nat} {z : V} {c : Call} {x y : Operand} {x' y' : X} (ho : o.op = .call c) (hc : c.callee = .builtin .append) (ha : c.args = #[x, y]) (hat : c.argTypes = #[t, t2])
    (ht : elemOfS P t = some e) (hs : szOf P e = some n) (hb : bytesIn P e = some b) (ht2 : P.underlying t2 = some (.int kk)) (hpos : 0 < n) (hz : zeroV P e = some z) (hx : slimX P u1 x = some x') (hy : slimX P u2 y = some y')
    (h : opP P s.t (.appz n b z x' y') s.h K) : o.wp P a w next Q := by
  have hx' := slimX_ok hx r
  have hy' := slimX_ok hy r
  simp only [opP, appzP, addB_eq] at h
  split at h
  case h_2 => exact h.elim
  rename_i i e1
  rw [e1] at hy'
  have hY := rv_sc hy'
  obtain ⟨⟨i0, i1⟩, hzn, h⟩ := h
  split at h
  case h_2 => exact h.elim
  rename_i ss e2
  rw [e2] at hx'
  have hX : a.eval x = .slice none 0 0 := by
    generalize a.eval x = XX at hx'; cases hx'; rfl
  obtain ⟨m, rfl⟩ : ∃ m : Nat, i = m := ⟨i.toNat, by omega⟩
  simp only [Int.toNat_natCast] at h
  obtain ⟨zv, z1, hzc, _⟩ := zeroV_ok (s := s) (γ := γ) (I := I) (w := w) hz
  have hzs : zv.cells.size = n := by have := hzc.rv.1; simp at this; omega
  have hmb : (m : Int) ≤ 281474976710656 := by
    have h1 : (m : Int) * 1 ≤ (2 * m + 1024) * ((b : Int) + 1) := Int.mul_le_mul (by omega) (by omega) (by omega) (by omega)
    omega
  have hwr : IntKind.i64.wrap (m : Int) = m := wrap_in (by simp [inR, IntKind.min, IntKind.max, IntKind.signed, IntKind.bits]; omega)
  unfold bytesIn at hb
  cases hi : P.info? e with
  | none => rw [hi] at hb; simp at hb
  | some info =>
  rw [hi] at hb; simp at hb; subst hb
  obtain ⟨rd, xd⟩ := drew_ok r.heap
  have hmB : ¬ (281474976710656 < (m : Int) * info.bytes) := by
    have h1 : (m : Int) * info.bytes ≤ (2 * m + 1024) * ((info.bytes : Int) + 1) := Int.mul_le_mul (by omega) (by omega) (by omega) (by omega)
    omega
  by_cases hm0 : m = 0
  · subst hm0
    have hw0 : IntKind.i64.wrap 0 = 0 := wrap_in (by simp [inR, IntKind.min, IntKind.max, IntKind.signed, IntKind.bits])
    have hrun : (execOp a.eval o).run P w = .ok (.value (.slice none 0 0)) w := by
      simp [execOp, ho, resolve, hc, ha, hat, invoke, builtin, hX, hY, Builtin.append_, run_underlying (run_elem ht), run_underlying ht2, run_sizeOf hs, asInt, asIntOf, run_typeInfo hi, hw0]
    obtain ⟨v1, v2⟩ := valloc_ok r.heap 0 n
    refine wp_value hrun (hn _ _ _ _ _ _ h v1 ?_ v2)
    refine .own (g' := 0) (sz := n) (es := []) (by simp) (Nat.le_refl _) (by simp) (fun _ => ⟨by simp, .inl ⟨?_, rfl, rfl, rfl⟩⟩)
    rw [List.getElem?_append_right (by rw [r.heap.len]; exact Nat.le_refl _)]; simp [r.heap.len]
  · have hcapn : Builtin.nextslicecap m 0 * info.bytes ≤ 281474976710656 := by
      have h1 := nextslicecap_le m 0 (by omega)
      have h2 : Builtin.nextslicecap m 0 * info.bytes ≤ (2 * m + 1024) * (info.bytes + 1) := Nat.mul_le_mul (by omega) (by omega)
      have h3 : ((2 * m + 1024) * (info.bytes + 1) : Nat) ≤ 281474976710656 := by
        have : (((2 * m + 1024) * (info.bytes + 1) : Nat) : Int) ≤ 281474976710656 := by push_cast; exact i1
        omega
      omega
    have hnot : ¬ (m ≤ 0) := by omega
    have hzd : (zeroValue e).run P w.drew = .ok zv w.drew := by
      obtain ⟨zv', z1', _⟩ := zeroV_ok (s := s) (γ := γ) (I := I) (w := w.drew) hz
      unfold zeroValue at z1 z1' ⊢
      simp only [Sem.run_bind, run_typeInfo hi, Result.andThen_ok] at z1 z1' ⊢
      cases hzz : info.zero with
      | none => rw [hzz] at z1; simp at z1
      | some q => rw [hzz] at z1; simp at z1 ⊢; exact z1
    have hrun : ∃ (cap : Nat) (cc : Array Value), m ≤ cap ∧ (execOp a.eval o).run P w = .ok (.value (.slice (some ⟨w.heap.size, 0, none⟩) m cap)) (w.drew.alloc (.cells cc e)) ∧ cc.size = cap * n ∧ ∀ j, j < m * n → cc[j]? = some (zv.cells.getD (j % n) undef) := by
      have hsome : m * n ≠ 0 := by
        have := Nat.mul_pos (Nat.pos_of_ne_zero hm0) hpos; omega
      refine ⟨(Question.appendCap m 0 e).cut (w.tape w.drawn (.appendCap m 0 e)), Builtin.zeroCells zv.cells m ++ Builtin.zeroCells zv.cells ((Question.appendCap m 0 e).cut (w.tape w.drawn (.appendCap m 0 e)) - m), by simp [Question.cut], ?_, ?_, ?_⟩
      · have hm : (IntKind.i64.max : Int) = 9223372036854775807 := rfl
        have hmax : ¬ ((9223372036854775807 : Int) < (m : Int)) := by omega
        have hcap' : ¬ (281474976710656 < Builtin.nextslicecap m 0 * info.bytes) := by omega
        simp [execOp, ho, resolve, hc, ha, hat, invoke, builtin, hX, hY, Builtin.append_, run_underlying (run_elem ht), run_underlying ht2, run_sizeOf hs, asInt, asIntOf, run_typeInfo hi, hwr, hm0, hm, hmax, hcap', hmB, Question.forced, hzd, newRow, firstCells_nil, hsome]
        intro hneg; omega
      · have hle : m ≤ (Question.appendCap m 0 e).cut (w.tape w.drawn (.appendCap m 0 e)) := by simp [Question.cut]
        simp [Builtin.zeroCells, hzs, ← Nat.add_mul]
        congr 1; omega
      · intro j hj
        have hmod : j % n < n := Nat.mod_lt _ hpos
        rw [Array.getElem?_append_left (by simp [Builtin.zeroCells, hzs]; exact hj)]
        simp [Builtin.zeroCells, hzs, hj, hmod]
    obtain ⟨cap, cc, q1, q2, q3, q4⟩ := hrun
    have hzn' : ∀ v ∈ List.replicate m z, v.cells.length = n := fun v hv => by rw [(List.mem_replicate.1 hv).2]; exact hzn
    obtain ⟨a1, a2⟩ := alloc_ok (c := cc) (el := e) (sz := n) (es := List.replicate m z) rd hzn' (by rw [q3]; simp; exact Nat.mul_le_mul_right _ q1) (fun j v hj => by
      obtain ⟨k1, k2⟩ := flatV_rep z n hzn m j v hj
      obtain ⟨y, y1, y2, y3⟩ := hzc.get k2
      refine ⟨y, ?_, y2, y3.mono xd r.heap⟩
      rw [q4 j k1]
      have : zv.cells[j % n]? = some y := by simpa using y1
      simp [Array.getD_eq_getD_getElem?, this]) 0
    refine wp_value q2 (hn _ _ _ _ _ _ h a1 ?_ (xd.trans a2))
    refine .own (g' := 0) (sz := n) (es := List.replicate m z) (by simp) (Nat.le_refl _) q1 (fun _ => ⟨by simp, .inr ⟨w.heap.size, ?_, .inr (by simp), ?_⟩⟩)
    · rw [List.getElem?_append_right (by rw [r.heap.len]; exact Nat.le_refl _)]; simp [r.heap.len]
    · exact ⟨cc, e, (0, 0), by show (w.heap.push _)[w.heap.size]? = _; simp, by rw [q3]; simp⟩
end
end Go.Aw
namespace Go.Aw

section
variable {P : Program} {wf : Bool} {o : Oper} {s : St} {a : Act} {γ : List (Option Nat)} {I : Nat → Prop} {w : World} {K : V → List Blk → Prop}
  {next : Act → World → Prop} {Q : Exit → Act → World → Prop}

theorem aggO_N {t : TypeId} {g : Bool} {n : Option Nat} (hg : aggO P t = some g) (h : (g = true ∧ ∃ m, szOf P t = some m ∧ n = some m) ∨ (g = false ∧ n = none)) : slimN P t n := by
  rcases h with ⟨rfl, h⟩ | ⟨rfl, h⟩
  · exact .inr ⟨hg, h⟩
  · exact .inl ⟨hg, h⟩

theorem slimX_nil {ty : TypeId} {y : Operand} {sz : Nat} (h : slimX P ty y = some (.n sz)) : a.eval y = .slice none 0 0 := by
  unfold slimX at h
  split at h
  · simp at h
  · simp at h
  · simp at h
  · split at h
    · rfl
    · split at h
      · rename_i cs _
        cases hl : litV P ty (.agg cs) with
        | none => rw [hl] at h; simp at h
        | some vs => rw [hl] at h; simp at h
      · simp at h
    · simp at h
    · split at h <;> simp at h

theorem opP_ok {so : SO} (hs : slimO P wf o = some so) (r : Rel γ I w s a) (hn : Fits γ I w s.h a o.dst K next) (h : opP P s.t so s.h K) : o.wp P a w next Q := by
  unfold slimO at hs
  split at hs
  case h_1 x ho =>
    obtain ⟨x', h1, rfl⟩ := Option.map_eq_some_iff.1 hs
    exact op_mv r hn (.inl ho) h1 h
  case h_2 x ho =>
    obtain ⟨x', h1, rfl⟩ := Option.map_eq_some_iff.1 hs
    exact op_mv r hn (.inr ho) h1 h
  case h_3 c x y ho =>
    replace hs := Option.bind_eq_some_iff.1 hs; obtain ⟨c', h1, hs⟩ := hs
    replace hs := Option.bind_eq_some_iff.1 hs; obtain ⟨x', h2, hs⟩ := hs
    obtain ⟨y', h3, rfl⟩ := Option.map_eq_some_iff.1 hs
    exact op_pick r hn ho h1 h2 h3 h
  case h_4 op ty x y ty2 ho =>
    replace hs := Option.bind_eq_some_iff.1 hs; obtain ⟨x', h1, hs⟩ := hs
    replace hs := Option.bind_eq_some_iff.1 hs; obtain ⟨y', h2, hs⟩ := hs
    split at hs
    · rename_i ht; cases hs; exact op_bool2 (neg := false) r hn (by simpa using ho) ht h1 h2 h
    · rename_i ht; cases hs; exact op_bool2 (neg := true) r hn (by simpa using ho) ht h1 h2 h
    · rename_i ht
      split at hs
      · cases hs; exact op_eqnil (neg := false) r hn (by simpa using ho) ht h1 (slimX_nil h2) h
      · simp at hs
    · rename_i ht
      split at hs
      · cases hs; exact op_eqnil (neg := true) r hn (by simpa using ho) ht h1 (slimX_nil h2) h
      · simp at hs
    · cases hs
      cases wf
      · exact op_bin (b := false) r hn ho h1 h2 h
      · exact op_bin (b := true) r hn ho h1 h2 h
    · cases hs; exact op_bin (b := false) r hn ho h1 h2 h
    · simp at hs
  case h_5 op ty x ho =>
    obtain ⟨x', h1, rfl⟩ := Option.map_eq_some_iff.1 hs
    exact op_un r hn ho h1 h
  case h_6 e x ho =>
    replace hs := Option.bind_eq_some_iff.1 hs; obtain ⟨x', h1, hs⟩ := hs
    obtain ⟨n, h2, rfl⟩ := Option.map_eq_some_iff.1 hs
    exact op_box r hn ho h1 h
  case h_7 e ho =>
    replace hs := Option.bind_eq_some_iff.1 hs; obtain ⟨n, h1, hs⟩ := hs
    obtain ⟨z, h2, rfl⟩ := Option.map_eq_some_iff.1 hs
    exact op_new r hn ho h2 h
  case h_8 t parts ho =>
    split at hs
    · rename_i fs ht
      replace hs := Option.bind_eq_some_iff.1 hs; obtain ⟨z, h1, hs⟩ := hs
      replace hs := Option.bind_eq_some_iff.1 hs; obtain ⟨ns, h2, hs⟩ := hs
      obtain ⟨ps, h3, rfl⟩ := Option.map_eq_some_iff.1 hs
      exact op_build r hn ho ht h1 h2 h3 h
    · simp at hs
  case h_9 t len parts ho =>
    replace hs := Option.bind_eq_some_iff.1 hs; obtain ⟨e, h1, hs⟩ := hs
    replace hs := Option.bind_eq_some_iff.1 hs; obtain ⟨n, h2, hs⟩ := hs
    replace hs := Option.bind_eq_some_iff.1 hs; obtain ⟨z, h3, hs⟩ := hs
    split at hs
    · rename_i hc
      obtain ⟨ps, h4, rfl⟩ := Option.map_eq_some_iff.1 hs
      exact op_bsl r hn ho h1 h2 h3 hc.1 hc.2.1 h4 h
    · simp at hs
  case h_10 t x ho =>
    replace hs := Option.bind_eq_some_iff.1 hs; obtain ⟨x', h1, hs⟩ := hs
    replace hs := Option.bind_eq_some_iff.1 hs; obtain ⟨g, h2, hs⟩ := hs
    cases g with
    | true =>
      simp at hs
      obtain ⟨n, h3, rfl⟩ := hs
      exact op_load r hn ho (.inr ⟨h2, n, h3, rfl⟩) h1 h
    | false =>
      simp at hs; subst hs
      exact op_load r hn ho (.inl ⟨h2, rfl⟩) h1 h
  case h_11 t x y ho =>
    replace hs := Option.bind_eq_some_iff.1 hs; obtain ⟨x', h1, hs⟩ := hs
    replace hs := Option.bind_eq_some_iff.1 hs; obtain ⟨y', h2, hs⟩ := hs
    obtain ⟨n, h3, rfl⟩ := Option.map_eq_some_iff.1 hs
    exact op_store r hn ho h3 h1 h2 h
  case h_12 x ho =>
    obtain ⟨x', h1, rfl⟩ := Option.map_eq_some_iff.1 hs
    exact op_nilc r hn ho h1 h
  case h_13 src dst x ho =>
    split at hs
    · rename_i k' k t1 t2
      obtain ⟨x', h1, rfl⟩ := Option.map_eq_some_iff.1 hs
      exact op_conv r hn ho t1 t2 h1 h
    · rename_i t1 t2
      obtain ⟨x', h1, rfl⟩ := Option.map_eq_some_iff.1 hs
      exact op_convs r hn ho t1 t2 h1 h
    · simp at hs
  case h_14 f first caps ho =>
    split at hs
    · rename_i hf
      obtain ⟨cs, h1, rfl⟩ := Option.map_eq_some_iff.1 hs
      exact op_mkf r hn ho (by simpa using hf) h1 h
    · simp at hs
  case h_15 t l c ho =>
    replace hs := Option.bind_eq_some_iff.1 hs; obtain ⟨e, h1, hs⟩ := hs
    replace hs := Option.bind_eq_some_iff.1 hs; obtain ⟨n, h2, hs⟩ := hs
    replace hs := Option.bind_eq_some_iff.1 hs; obtain ⟨b, h3, hs⟩ := hs
    replace hs := Option.bind_eq_some_iff.1 hs; obtain ⟨z, h4, hs⟩ := hs
    replace hs := Option.bind_eq_some_iff.1 hs; obtain ⟨l', h5, hs⟩ := hs
    split at hs
    · split at hs
      · rename_i hc; cases hs; obtain ⟨rfl, hp⟩ := hc; exact op_mks r hn ho h1 h2 h3 h4 h5 rfl hp h
      · simp at hs
    · split at hs
      · rename_i hc; cases hs; obtain ⟨rfl, hp⟩ := hc; exact op_mks r hn ho h1 h2 h3 h4 h5 rfl hp h
      · simp at hs
    · simp at hs
  case h_16 t x lo hi ho =>
    replace hs := Option.bind_eq_some_iff.1 hs; obtain ⟨x', h1, hs⟩ := hs
    replace hs := Option.bind_eq_some_iff.1 hs; obtain ⟨lo', h2, hs⟩ := hs
    replace hs := Option.bind_eq_some_iff.1 hs; obtain ⟨hi', h3, hs⟩ := hs
    have f2 : (lo = none ∧ lo' = none) ∨ ∃ l l', lo = some l ∧ lo' = some l' ∧ slimX P 0 l = some l' := by
      cases lo with
      | none => simp at h2; exact .inl ⟨rfl, h2.symm⟩
      | some l => obtain ⟨l', e1, e2⟩ := Option.map_eq_some_iff.1 h2; exact .inr ⟨l, l', rfl, e2.symm, e1⟩
    have f3 : (hi = none ∧ hi' = none) ∨ ∃ l l', hi = some l ∧ hi' = some l' ∧ slimX P 0 l = some l' := by
      cases hi with
      | none => simp at h3; exact .inl ⟨rfl, h3.symm⟩
      | some l => obtain ⟨l', e1, e2⟩ := Option.map_eq_some_iff.1 h3; exact .inr ⟨l, l', rfl, e2.symm, e1⟩
    split at hs
    · rename_i e ht
      obtain ⟨n, h4, rfl⟩ := Option.map_eq_some_iff.1 hs
      exact op_slc r hn ho (by unfold elemOfS; rw [ht]) h4 h1 f2 f3 h
    · rename_i ht; cases hs; exact op_slcs r hn ho ht h1 f2 f3 h
    · simp at hs
  case h_17 t x i ho =>
    split at hs
    · rename_i fs ht
      replace hs := Option.bind_eq_some_iff.1 hs; obtain ⟨f, h1, hs⟩ := hs
      replace hs := Option.bind_eq_some_iff.1 hs; obtain ⟨n, h2, hs⟩ := hs
      split at hs
      · simp at hs
      · rename_i hnz
        obtain ⟨x', h3, rfl⟩ := Option.map_eq_some_iff.1 hs
        exact op_fa r hn ho ht h1 h2 hnz h3 h
    · simp at hs
  case h_18 t x i ho =>
    split at hs
    · rename_i fs ht
      replace hs := Option.bind_eq_some_iff.1 hs; obtain ⟨f, h1, hs⟩ := hs
      replace hs := Option.bind_eq_some_iff.1 hs; obtain ⟨x', h2, hs⟩ := hs
      replace hs := Option.bind_eq_some_iff.1 hs; obtain ⟨g, h3, hs⟩ := hs
      cases g with
      | true =>
        simp at hs
        obtain ⟨n, h4, rfl⟩ := hs
        exact op_fld r hn ho ht h1 (.inr ⟨h3, n, h4, rfl⟩) h2 h
      | false =>
        simp at hs; subst hs
        exact op_fld r hn ho ht h1 (.inl ⟨h3, rfl⟩) h2 h
    · simp at hs
  case h_19 t x i ho =>
    replace hs := Option.bind_eq_some_iff.1 hs; obtain ⟨e, h1, hs⟩ := hs
    replace hs := Option.bind_eq_some_iff.1 hs; obtain ⟨n, h2, hs⟩ := hs
    replace hs := Option.bind_eq_some_iff.1 hs; obtain ⟨x', h3, hs⟩ := hs
    obtain ⟨i', h4, rfl⟩ := Option.map_eq_some_iff.1 hs
    exact op_ia r hn ho h1 h2 h3 h4 h
  case h_20 t x i ho =>
    split at hs
    · rename_i ht
      replace hs := Option.bind_eq_some_iff.1 hs; obtain ⟨x', h3, hs⟩ := hs
      obtain ⟨i', h4, rfl⟩ := Option.map_eq_some_iff.1 hs
      exact op_ixs r hn ho ht h3 h4 h
    · simp at hs
  case h_21 x i ho =>
    obtain ⟨x', h1, rfl⟩ := Option.map_eq_some_iff.1 hs
    exact op_ext r hn ho h1 h
  case h_22 c ho =>
    split at hs
    · rename_i f hc
      replace hs := Option.bind_eq_some_iff.1 hs; obtain ⟨f', h1, hs⟩ := hs
      obtain ⟨as, h2, rfl⟩ := Option.map_eq_some_iff.1 hs
      exact op_call r hn ho hc h1 h2 h
    · rename_i hc
      split at hs
      · rename_i x t ha hat
        have ha' : c.args = #[x] := by rw [← ha]
        have hat' : c.argTypes = #[t] := by rw [← hat]
        split at hs
        · rename_i e ht
          obtain ⟨x', h1, rfl⟩ := Option.map_eq_some_iff.1 hs
          exact op_len r hn ho hc ha' hat' ht h1 h
        · rename_i ht
          obtain ⟨x', h1, rfl⟩ := Option.map_eq_some_iff.1 hs
          exact op_lens r hn ho hc ha' hat' ht h1 h
        · simp at hs
      · simp at hs
    · rename_i hc
      split at hs
      · rename_i x y t t2 ha hat
        have ha' : c.args = #[x, y] := by rw [← ha]
        have hat' : c.argTypes = #[t, t2] := by rw [← hat]
        replace hs := Option.bind_eq_some_iff.1 hs; obtain ⟨e, h1, hs⟩ := hs
        replace hs := Option.bind_eq_some_iff.1 hs; obtain ⟨n, h2, hs⟩ := hs
        replace hs := Option.bind_eq_some_iff.1 hs; obtain ⟨b, h3, hs⟩ := hs
        replace hs := Option.bind_eq_some_iff.1 hs; obtain ⟨z, h4, hs⟩ := hs
        split at hs
        · rename_i e2 ht2
          split at hs
          · rename_i hcond
            replace hs := Option.bind_eq_some_iff.1 hs; obtain ⟨x', h5, hs⟩ := hs
            obtain ⟨y', h6, rfl⟩ := Option.map_eq_some_iff.1 hs
            exact op_app r hn ho hc ha' hat' h1 h2 h3 h4 hcond.2 ht2 h5 h6 h
          · simp at hs
        · rename_i kk ht2
          split at hs
          · rename_i hpos
            replace hs := Option.bind_eq_some_iff.1 hs; obtain ⟨zv, h5, hs⟩ := hs
            replace hs := Option.bind_eq_some_iff.1 hs; obtain ⟨x', h6, hs⟩ := hs
            obtain ⟨y', h7, rfl⟩ := Option.map_eq_some_iff.1 hs
            exact op_appz r hn ho hc ha' hat' h1 h2 h3 ht2 hpos h5 h6 h7 h
          · simp at hs
        · simp at hs
      · simp at hs
    · rename_i hc
      split at hs
      · rename_i x t ha hat
        have ha' : c.args = #[x] := by rw [← ha]
        have hat' : c.argTypes = #[t] := by rw [← hat]
        split at hs
        · rename_i e ht
          obtain ⟨x', h1, rfl⟩ := Option.map_eq_some_iff.1 hs
          exact op_cap r hn ho hc ha' hat' ht h1 h
        · simp at hs
      · simp at hs
    · rename_i hc
      split at hs
      · rename_i x y t t2 ha hat
        have ha' : c.args = #[x, y] := by rw [← ha]
        have hat' : c.argTypes = #[t, t2] := by rw [← hat]
        replace hs := Option.bind_eq_some_iff.1 hs; obtain ⟨e, h1, hs⟩ := hs
        replace hs := Option.bind_eq_some_iff.1 hs; obtain ⟨n, h2, hs⟩ := hs
        replace hs := Option.bind_eq_some_iff.1 hs; obtain ⟨e2, h3, hs⟩ := hs
        replace hs := Option.bind_eq_some_iff.1 hs; obtain ⟨x', h5, hs⟩ := hs
        obtain ⟨y', h6, rfl⟩ := Option.map_eq_some_iff.1 hs
        exact op_cpy r hn ho hc ha' hat' h1 h2 h3 h5 h6 h
      · simp at hs
    · rename_i hc
      split at hs
      · rename_i x t ha hat
        have ha' : c.args = #[x] := by rw [← ha]
        have hat' : c.argTypes = #[t] := by rw [← hat]
        replace hs := Option.bind_eq_some_iff.1 hs; obtain ⟨e, h1, hs⟩ := hs
        replace hs := Option.bind_eq_some_iff.1 hs; obtain ⟨n, h2, hs⟩ := hs
        split at hs
        · rename_i hpos
          replace hs := Option.bind_eq_some_iff.1 hs; obtain ⟨zv, h5, hs⟩ := hs
          obtain ⟨x', h6, rfl⟩ := Option.map_eq_some_iff.1 hs
          exact op_clr r hn ho hc ha' hat' h1 h2 hpos h5 h6 h
        · simp at hs
      · simp at hs
    · rename_i hc
      split at hs
      · rename_i x y k ha ht
        have ha' : c.args = #[x, y] := by rw [← ha]
        replace hs := Option.bind_eq_some_iff.1 hs; obtain ⟨x', h5, hs⟩ := hs
        obtain ⟨y', h6, rfl⟩ := Option.map_eq_some_iff.1 hs
        exact op_minmax (m := true) r hn ho (by simpa using hc) ha' h5 h6 h
      · simp at hs
    · rename_i hc
      split at hs
      · rename_i x y k ha ht
        have ha' : c.args = #[x, y] := by rw [← ha]
        replace hs := Option.bind_eq_some_iff.1 hs; obtain ⟨x', h5, hs⟩ := hs
        obtain ⟨y', h6, rfl⟩ := Option.map_eq_some_iff.1 hs
        exact op_minmax (m := false) r hn ho (by simpa using hc) ha' h5 h6 h
      · simp at hs
    · simp at hs
  case h_23 => simp at hs

theorem opP_okB {so : SO} (hs : slimB P wf o = some so) (r : Rel γ I w s a) (hn : Fits γ I w s.h a o.dst K next) (h : opP P s.t so s.h K) : o.wp P a w next Q := by
  unfold slimB at hs
  split at hs
  · rename_i so' h1; cases hs; exact opP_ok h1 r hn h
  · cases hs; exact h.elim

end
end Go.Aw
namespace Go.Aw

section
variable {P : Program} {wf : Bool} {γ γ' : List (Option Nat)} {I I' : Nat → Prop} {w w' : World}

theorem rel_put {s : St} {a : Act} {H' : List Blk} (r : Rel γ I w s a) (h : Ext γ s.h I w γ' H' I' w') (r' : RelH γ' I' w' H') {d : Option Nat} {v : V} {x : Value} (hv : RV γ' H' I' w' v x) :
    Rel γ' I' w' ⟨putT s.t d v, H'⟩ (a.put d x) := by
  cases d with
  | none => exact r.ext h r'
  | some d =>
    refine ⟨r.defers.ext h, by simp [putT, setT_eq, Act.put, r.size], fun i u hi => ?_, r'⟩
    simp only [putT, setT_eq] at hi
    by_cases hd : i = d
    · subst hd
      have hlt : i < s.t.length := by have := lt_of_get hi; simpa using this
      simp [hlt] at hi; subst hi
      have : i < a.tmps.size := by rw [r.size]; exact hlt
      simpa [Act.put, this] using hv
    · rw [List.getElem?_set, if_neg (fun e => hd e.symm)] at hi
      have := (r.tmps i u hi).mono h r.heap
      have e : (a.put (some d) x).tmps.getD i undef = a.tmps.getD i undef := by
        have hd' : ¬ d = i := fun e => hd e.symm
        simp [Act.put, hd']
      rw [e]; exact this

theorem tmp_get {s : St} {a : Act} (r : Rel γ I w s a) {t : Nat} {v : V} (h : getT s.t t = v) (hv : v ≠ .any) : ∃ x, a.tmps[t]? = some x ∧ RV γ s.h I w v x := by
  rw [getT_eq] at h
  cases ht : s.t[t]? with
  | none => rw [List.getD_eq_getElem?_getD, ht] at h; exact absurd h.symm hv
  | some u =>
    rw [getD_eq ht] at h; subst h
    have hlt : t < a.tmps.size := by rw [r.size]; exact lt_of_get ht
    refine ⟨a.tmps[t], by simp [hlt], ?_⟩
    have := r.tmps t u ht
    simpa [hlt] using this

theorem put_defers (a : Act) (d : Option Tmp) (x : Value) : (a.put d x).defers = a.defers := by cases d <;> rfl

/-- a value that is known is written down -/
theorem rel_know {s : St} {a : Act} (r : Rel γ I w s a) {t : Nat} {v v' : V} (h : getT s.t t = v) (hv : v = v') : Rel γ I w ⟨setT s.t t v', s.h⟩ a := by
  subst hv
  rw [getT_eq] at h
  refine ⟨r.defers, by simp [setT_eq, r.size], fun i u hi => ?_, r.heap⟩
  rw [setT_eq] at hi
  by_cases hd : i = t
  · subst hd
    have hlt : i < s.t.length := by have := lt_of_get hi; simpa using this
    simp [hlt] at hi; subst hi
    have : s.t[i]? = some (s.t.getD i .any) := by simp [hlt]
    rw [h] at this
    exact r.tmps i v this
  · rw [List.getElem?_set, if_neg (fun e => hd e.symm)] at hi
    exact r.tmps i u hi

theorem AX_ok {ops : Array Oper} {Q : List V → List Blk → Prop} {Q' : Exit → Act → World → Prop} : ∀ {l : List Oper} {sl : List SOp} {s : St} {a : Act} {γ : List (Option Nat)} {I : Nat → Prop} {w : World},
    All2 (fun o so => slimOp P wf ops o = some so) l sl → Rel γ I w s a → AX P sl Q s.t s.h →
    (∀ (s' : St) γ' I' w' a', Q s'.t s'.h → Rel γ' I' w' s' a' → Ext γ s.h I w γ' s'.h I' w' → a'.defers = a.defers → Q' .normal a' w') → wpList P ops Q' l a w := by
  intro l
  induction l with
  | nil => intro sl s a γ I w hs r h hq; cases hs; exact hq s γ I w a h r (Ext.refl ..) rfl
  | cons o l ih =>
    intro sl s a γ I w hs r h hq
    cases hs with
    | @cons _ so _ sl ho hs =>
    unfold slimOp at ho
    obtain ⟨so', h1, ho⟩ := Option.bind_eq_some_iff.1 ho
    have go' : ∀ (t' : List V), Rel γ I w ⟨t', s.h⟩ a → opP P t' so' s.h (fun v h => forceV v fun v => forceH h fun h => forceT (putT t' o.dst v) fun t => AX P sl Q t h) → o.wp P a w (wpList P ops Q' l) Q' := by
      intro t' r1 hop
      refine opP_okB h1 r1 ?_ hop
      intro v x H' γ' I' w' hK r' hv e'
      rw [forceV_eq, forceH_eq, forceT_eq] at hK
      exact ih hs (rel_put r1 e' r' hv) hK (fun s2 γ2 I2 w2 a2 q2 r2 e2 d2 => hq s2 γ2 I2 w2 a2 q2 r2 (e'.trans e2) (d2.trans (put_defers ..)))
    have skip' : ∀ (t' : List V), Rel γ I w ⟨t', s.h⟩ a → (forceT (putT t' o.dst (.tu [])) fun t => AX P sl Q t s.h) → wpList P ops Q' l (a.put o.dst undef) w := fun t' r1 h => by
      rw [forceT_eq] at h
      exact ih hs (rel_put r1 (Ext.refl ..) r1.heap (.tu (vs := []) rfl (by simp))) h (fun s2 γ2 I2 w2 a2 q2 r2 e2 d2 => hq s2 γ2 I2 w2 a2 q2 r2 e2 (d2.trans (put_defers ..)))
    unfold wpList
    cases hg : o.guard with
    | none =>
      rw [hg] at ho; simp at ho; subst ho
      rw [if_pos (by simp [Region.wanted, hg])]
      exact .inl (go' s.t r h)
    | some jb =>
      obtain ⟨j, b⟩ := jb
      rw [hg] at ho; simp only at ho
      obtain ⟨t, h2, ho⟩ := Option.map_eq_some_iff.1 ho
      subst ho
      simp only [AX_c, AXc] at h
      split at h
      · rename_i c hc
        obtain ⟨x, hx, hrv⟩ := tmp_get r hc (by simp)
        have := rv_sc hrv; subst this
        have hw : Region.wanted o (yielded ops a.tmps) = (c == b) := by
          simp [Region.wanted, hg, yielded, h2, hx]
        rw [hw]
        cases c with
        | true =>
          have r2 := rel_know (v' := .g (.b true)) r hc rfl
          cases b with
          | true => exact .inl (go' _ r2 (by simpa only [Br, forceT_eq] using h))
          | false => exact skip' _ r2 (by simpa only [Br, forceT_eq] using h)
        | false =>
          have r2 := rel_know (v' := .g (.b false)) r hc rfl
          cases b with
          | false => exact .inl (go' _ r2 (by simpa only [Br, forceT_eq] using h))
          | true => exact skip' _ r2 (by simpa only [Br, forceT_eq] using h)
      · rename_i hc
        obtain ⟨x, hx, hrv⟩ := tmp_get r hc (by simp)
        have hw : Region.wanted o (yielded ops a.tmps) = false := by
          cases hrv with
          | @tu _ vs hl hr =>
            simp [Region.wanted, hg, yielded, h2, hx]
        rw [hw]
        exact skip' s.t r h
      · exact h.elim

theorem opP_flav {t : List V} {so : SO} {ld : Bool} {q : Nat} {ty : TypeId} {h : List Blk} {K : V → List Blk → Prop} (ho : opP P t (so.flav ld q P ty) h K) : opP P t so h K := by
  cases so <;> simp only [SO.flav] at ho <;> try exact ho
  case load n a =>
    split at ho
    · simp only [opP] at ho ⊢
      unfold loadP
      split at ho
      · rename_i he; rw [he]; exact ho
      · exact ho.elim
    · exact ho
  case call f as =>
    have key : opP P t (.qcall f as) h K → opP P t (.call f as) h K := fun ho => by
      simp only [opP] at ho ⊢
      split
      · rename_i he; rw [he] at ho; simp only [forceT_eq] at ho ⊢
        obtain ⟨v, h1, h2⟩ := ho
        exact h1.mono fun r h' e => by rw [e.1, e.2]; exact h2
      · rename_i h1
        split at ho
        · rename_i he; exact absurd he (h1 _ _)
        · exact ho.elim
    generalize qTy P q ty = b at ho
    cases b
    · exact ho
    · exact key ho

theorem any_ok {ops : Array Oper} {sl : List SOp} {Q : List V → List Blk → Prop} {Q' : Exit → Act → World → Prop}
    (hsl : ∀ (i : Nat) o so, ops[i]? = some o → sl[i]? = some so → ∃ so0, slimOp P wf ops o = some so0 ∧ so.d = so0.d ∧ so.g = so0.g ∧ ∀ t h K, opP P t so.o h K → opP P t so0.o h K) :
    ∀ (n : Nat) (l : Array Bool) (s : St) (a : Act) (γ : List (Option Nat)) (I : Nat → Prop) (w : World), Rel γ I w s a → aAny P ops sl Q n l s.t s.h →
    (∀ (s' : St) γ' I' w' a', Q s'.t s'.h → Rel γ' I' w' s' a' → Ext γ s.h I w γ' s'.h I' w' → a'.defers = a.defers → Q' .normal a' w') → wpAny P .any ops Q' n l a w := by
  intro n
  induction n with
  | zero => intro l s a γ I w r h hq; exact ⟨h.1, hq s γ I w a h.2 r (Ext.refl ..) rfl⟩
  | succ n ih =>
    intro l s a γ I w r h hq
    refine ⟨fun h0 => hq s γ I w a (h.1 h0) r (Ext.refl ..) rfl, fun i hi => ?_⟩
    obtain ⟨so, hso, h⟩ := h.2 i hi
    obtain ⟨_, o, ho, _⟩ := mem_ready.1 hi
    obtain ⟨so0, hs0, hd, hg0, himp⟩ := hsl i o so ho hso
    unfold slimOp at hs0
    obtain ⟨so', h1, hs0⟩ := Option.bind_eq_some_iff.1 hs0
    unfold wpOp
    rw [ho]
    simp only
    have dd : so0.d = o.dst ∧ so0.o = so' := by
      cases hg : o.guard with
      | none => rw [hg] at hs0; simp at hs0; subst hs0; exact ⟨rfl, rfl⟩
      | some jb =>
        obtain ⟨j, b⟩ := jb
        rw [hg] at hs0; simp only at hs0
        obtain ⟨t, _, hs0⟩ := Option.map_eq_some_iff.1 hs0
        subst hs0; exact ⟨rfl, rfl⟩
    have go' : opP P s.t so.o s.h (fun v h' => aAny P ops sl Q n (l.setIfInBounds i true) (putT s.t so.d v) h') → o.wp P a w (wpAny P .any ops Q' n (l.setIfInBounds i true)) Q' := by
      intro hop
      have hop := himp _ _ _ hop
      rw [dd.2] at hop
      refine opP_okB h1 r ?_ hop
      intro v x H' γ' I' w' hK r' hv e'
      rw [hd, dd.1] at hK
      exact ih _ _ _ _ _ _ (rel_put r e' r' hv) hK (fun s2 γ2 I2 w2 a2 q2 r2 e2 d2 => hq s2 γ2 I2 w2 a2 q2 r2 (e'.trans e2) (d2.trans (put_defers ..)))
    have skip' : aAny P ops sl Q n (l.setIfInBounds i true) (putT s.t so.d (.tu [])) s.h → wpAny P .any ops Q' n (l.setIfInBounds i true) (a.put o.dst undef) w := fun hK => by
      rw [hd, dd.1] at hK
      exact ih _ _ _ _ _ _ (rel_put r (Ext.refl ..) r.heap (.tu (vs := []) rfl (by simp))) hK (fun s2 γ2 I2 w2 a2 q2 r2 e2 d2 => hq s2 γ2 I2 w2 a2 q2 r2 e2 (d2.trans (put_defers ..)))
    unfold aOpV at h
    cases hg : o.guard with
    | none =>
      rw [hg] at hs0; simp at hs0; subst hs0
      rw [hg0] at h
      rw [if_pos (by simp [Region.wanted, hg])]
      exact .inl (go' h)
    | some jb =>
      obtain ⟨j, b⟩ := jb
      rw [hg] at hs0; simp only at hs0
      obtain ⟨t, h2, hs0⟩ := Option.map_eq_some_iff.1 hs0
      subst hs0
      rw [hg0] at h
      simp only at h
      split at h
      · rename_i c hc
        obtain ⟨x, hx, hrv⟩ := tmp_get r hc (by simp)
        have := rv_sc hrv; subst this
        have hw : Region.wanted o (yielded ops a.tmps) = (c == b) := by
          simp [Region.wanted, hg, yielded, h2, hx]
        rw [hw]
        split at h
        · rename_i hcb; subst hcb; simp only [beq_self_eq_true, if_true]; exact .inl (go' h)
        · rename_i hcb
          rw [if_neg (by simpa using hcb)]
          exact skip' h
      · rename_i hc
        obtain ⟨x, hx, hrv⟩ := tmp_get r hc (by simp)
        have hw : Region.wanted o (yielded ops a.tmps) = false := by
          cases hrv with
          | @tu _ vs hl hr =>
            simp [Region.wanted, hg, yielded, h2, hx]
        rw [hw]
        exact skip' h
      · exact h.elim

theorem drawnL_ok {ops : Array Oper} {sl os : List SOp} {Q : List V → List Blk → Prop} {Q' : Exit → Act → World → Prop} {id : Nat} {s : St} {a : Act} {γ : List (Option Nat)} {I : Nat → Prop} {w : World} (hm : P.follows .mixedOrders = true)
    (hd : drawnL ops sl = some os)
    (hsl : ∀ (i : Nat) o so, ops[i]? = some o → sl[i]? = some so → ∃ so0, slimOp P wf ops o = some so0 ∧ so.d = so0.d ∧ so.g = so0.g ∧ ∀ t h K, opP P t so.o h K → opP P t so0.o h K)
    (r : Rel γ I w s a) (h : AX P os Q s.t s.h) (hq : ∀ (s' : St) γ' I' w' a', Q s'.t s'.h → Rel γ' I' w' s' a' → Ext γ s.h I w γ' s'.h I' w' → a'.defers = a.defers → Q' .normal a' w') : (Code.region id ops true).wp P Q' a w := by
  unfold drawnL at hd
  simp only at hd
  split at hd
  case isFalse => cases hd
  rename_i hc
  simp only [Bool.and_eq_true] at hc
  obtain ⟨⟨h1, h2⟩, h3⟩ := hc
  have hl := Nat.eq_of_beq_eq_true h1
  have := ordOK_any (P := P) (Q := Q) _ _ s.t s.h os (by simp) h3 hd h
  rw [hl] at this
  obtain ⟨r1, e1⟩ := drew_ok r.heap
  exact wp_region_any hm (any_ok hsl _ _ s a γ I _ (r.ext e1 r1) this (fun s' γ' I' w' a' q r' e d => hq s' γ' I' w' a' q r' (e1.trans e) d))

theorem flavL_ok {ops : Array Oper} {sl : List SOp} (h1 : All2 (fun o so => slimOp P wf ops o = some so) ops.toList sl) (ld : Bool) (q : Nat) :
    ∀ (i : Nat) o so, ops[i]? = some o → (flavL ld q P ops sl)[i]? = some so → ∃ so0, slimOp P wf ops o = some so0 ∧ so.d = so0.d ∧ so.g = so0.g ∧ ∀ t h K, opP P t so.o h K → opP P t so0.o h K := by
  intro i o so ho hs
  unfold flavL at hs
  rw [List.getElem?_map] at hs
  cases hz : (sl.zip ops.toList)[i]? with
  | none => rw [hz] at hs; cases hs
  | some p =>
    rw [hz] at hs; simp at hs; subst hs
    obtain ⟨h3, h4⟩ := List.getElem?_zip_eq_some.1 hz
    refine ⟨p.1, ?_, rfl, rfl, fun t h K => opP_flav⟩
    have : ∀ {l : List Oper} {sl : List SOp}, All2 (fun o so => slimOp P wf ops o = some so) l sl → ∀ (i : Nat) o so, l[i]? = some o → sl[i]? = some so → slimOp P wf ops o = some so := by
      intro l sl ha
      induction ha with
      | nil => intro i o so h; simp at h
      | cons h _ ih =>
        intro i o so h' h2'
        cases i with
        | zero => simp at h' h2'; subst h'; subst h2'; exact h
        | succ i => simp at h' h2'; exact ih i o so h' h2'
    exact this h1 i o p.1 (by simpa using ho) h3

theorem plainL_ok {ops : Array Oper} {sl : List SOp} (h1 : All2 (fun o so => slimOp P wf ops o = some so) ops.toList sl) :
    ∀ (i : Nat) o so, ops[i]? = some o → sl[i]? = some so → ∃ so0, slimOp P wf ops o = some so0 ∧ so.d = so0.d ∧ so.g = so0.g ∧ ∀ t h K, opP P t so.o h K → opP P t so0.o h K := by
  intro i o so ho hs
  have : ∀ {l : List Oper} {sl : List SOp}, All2 (fun o so => slimOp P wf ops o = some so) l sl → ∀ (i : Nat) o so, l[i]? = some o → sl[i]? = some so → slimOp P wf ops o = some so := by
    intro l sl ha
    induction ha with
    | nil => intro i o so h; simp at h
    | cons h _ ih =>
      intro i o so h' h2'
      cases i with
      | zero => simp at h' h2'; subst h'; subst h2'; exact h
      | succ i => simp at h' h2'; exact ih i o so h' h2'
  exact ⟨so, this h1 i o so (by simpa using ho) hs, rfl, rfl, fun _ _ _ h => h⟩

theorem drawn_ok {ops : Array Oper} {sl os : List SOp} {Q : List V → List Blk → Prop} {Q' : Exit → Act → World → Prop} {id : Nat} {s : St} {a : Act} {γ : List (Option Nat)} {I : Nat → Prop} {w : World}
    (h1 : All2 (fun o so => slimOp P wf ops o = some so) ops.toList sl) (hd : drawn P ops sl = some os)
    (r : Rel γ I w s a) (h : AX P os Q s.t s.h) (hq : ∀ (s' : St) γ' I' w' a', Q s'.t s'.h → Rel γ' I' w' s' a' → Ext γ s.h I w γ' s'.h I' w' → a'.defers = a.defers → Q' .normal a' w') : (Code.region id ops true).wp P Q' a w := by
  unfold drawn at hd
  split at hd
  case isFalse => cases hd
  rename_i hm
  split at hd
  · rename_i l hl; cases hd; exact drawnL_ok hm hl (plainL_ok h1) r h hq
  · split at hd
    · rename_i l hl; cases hd; exact drawnL_ok hm hl (flavL_ok h1 _ _) r h hq
    · split at hd
      · rename_i l hl; cases hd; exact drawnL_ok hm hl (flavL_ok h1 _ _) r h hq
      · split at hd
        · rename_i l hl; cases hd; exact drawnL_ok hm hl (flavL_ok h1 _ _) r h hq
        · exact drawnL_ok hm hd (flavL_ok h1 _ _) r h hq

theorem AC_ok {z : Nat} {c : Code} : ∀ {sc : SC} {Q : Exit → List V → List Blk → Prop} {s : St}, slimC P wf c = some sc → AC z P sc Q s.t s.h → AW z P c (fun e s => Q e s.t s.h) s := by
  induction c with
  | skip => intro sc Q s hs h; simp [slimC] at hs; subst hs; exact .skip h
  | ret => intro sc Q s hs h; simp [slimC] at hs; subst hs; exact .ret h
  | exit id => intro sc Q s hs h; simp [slimC] at hs; subst hs; exact .exit h
  | goto l => intro sc Q s hs h; simp [slimC] at hs; subst hs; exact .goto h
  | label l => intro sc Q s hs h; simp [slimC] at hs; subst hs; exact .label h
  | seq x y ihx ihy =>
    intro sc Q s hs h
    obtain ⟨x', h1, hs⟩ := Option.bind_eq_some_iff.1 hs
    obtain ⟨y', h2, hs⟩ := Option.map_eq_some_iff.1 hs
    subst hs
    simp only [AC_seq] at h
    refine .seq ((ihx h1 h).mono fun e s' q => ?_)
    cases e with
    | normal => exact ihy h2 q
    | _ => exact q
  | cond c x y ihx ihy =>
    intro sc Q s hs h
    obtain ⟨c', h0, hs⟩ := Option.bind_eq_some_iff.1 hs
    obtain ⟨x', h1, hs⟩ := Option.bind_eq_some_iff.1 hs
    obtain ⟨y', h2, hs⟩ := Option.map_eq_some_iff.1 hs
    subst hs
    simp only [AC_cond, ACcond] at h
    split at h
    · rename_i b hb
      intro γ I w a r
      have := slimX_ok h0 r
      rw [hb] at this
      have hc := rv_sc this
      have r2 : Rel γ I w ⟨c'.know s.t b, s.h⟩ a := by
        cases c' with
        | t i => exact rel_know r hb rfl
        | _ => exact r
      cases b with
      | true => exact wp_cond_true hc (ihx (s := ⟨c'.know s.t true, s.h⟩) h1 (by simpa only [Br, forceT_eq] using h) γ I w a r2)
      | false => exact wp_cond_false hc (ihy (s := ⟨c'.know s.t false, s.h⟩) h2 (by simpa only [Br, forceT_eq] using h) γ I w a r2)
    · exact h.elim
  | block id c ih =>
    intro sc Q s hs h
    obtain ⟨c', h1, hs⟩ := Option.map_eq_some_iff.1 hs
    subst hs
    refine .block ((ih h1 h).mono fun e s' q => ?_)
    cases e with
    | exit id' =>
      simp only [InQ, InBlock] at q ⊢
      split at q <;> rename_i hb
      · rw [if_pos (Nat.eq_of_beq_eq_true hb)]; exact q
      · rw [if_neg (fun e => by rw [e, Nat.beq_refl] at hb; cases hb)]; exact q
    | _ => exact q
  | scope c ih =>
    intro sc Q s hs h
    obtain ⟨c', h1, hs⟩ := Option.map_eq_some_iff.1 hs
    subst hs
    intro γ I w a r
    refine wp_scope_straight (wp_mono (ih h1 h γ I w a r) fun e a' w' ⟨s', γ', I', q1, q2, q3⟩ => ?_)
    cases e with
    | goto l => exact q1.elim
    | _ => exact ⟨s', γ', I', q1, q2, q3⟩
  | loop c ih =>
    intro sc Q s hs h
    obtain ⟨c', h1, rfl⟩ := Option.map_eq_some_iff.1 hs
    exact h.run wf _ hs
  | region id ops draw =>
    intro sc Q s hs h
    cases draw with
    | true =>
      obtain ⟨sl, h1, hs⟩ := Option.bind_eq_some_iff.1 hs
      obtain ⟨os, h2, hs⟩ := Option.map_eq_some_iff.1 hs
      subst hs
      intro γ I w a r
      exact drawn_ok (optL_forall h1) h2 r h fun s' γ' I' w' a' q r' e d => ⟨s', γ', I', q, r', e.toM, by rw [d]; exact NewD.refl⟩
    | false =>
      obtain ⟨l, h1, hs⟩ := Option.map_eq_some_iff.1 hs
      subst hs
      intro γ I w a r
      refine wp_region_list (AX_ok (optL_forall h1) r h (fun s' γ' I' w' a' q r' e d => ⟨s', γ', I', q, r', e.toM, by rw [d]; exact NewD.refl⟩))
  | rangeFunc g ps x y _ _ =>
    intro sc Q s hs h
    have hs0 := hs
    obtain ⟨_, _, hs⟩ := Option.bind_eq_some_iff.1 hs
    split at hs
    · obtain ⟨_, _, hs⟩ := Option.bind_eq_some_iff.1 hs
      obtain ⟨_, _, rfl⟩ := Option.map_eq_some_iff.1 hs
      exact h.run wf _ hs0
    · cases hs
  | _ => intro sc Q s hs h; simp [slimC] at hs

end

/-- function f of the program: so many temporaries, these results, this slim text -/
def Fn (P : Program) (wf : Bool) (f nt : Nat) (ts : List Nat) (sc : SC) : Prop :=
  ∃ fn, P.funcs[f]? = some fn ∧ (fn.name == "runtime.NumGoroutine") = false ∧ fn.body.bind (slimC P wf) = some sc ∧ fn.results = (ts.map ResultVar.tmp).toArray ∧ fn.ntmps = nt

def retF (ts : List Nat) (t : List V) (k : V → Prop) : Prop := match ts with
  | [x] => forceV (getT t x) k
  | ts => forceT (ts.map (getT t)) fun vs => k (.tu vs)
structure Fin (H : List Blk) (R : V → List Blk → Prop) (v : V) (h : List Blk) : Prop where
  ends : Ends H R v h
def Done (H : List Blk) (R : V → List Blk → Prop) (ts : List Nat) (e : Exit) (t : List V) (h : List Blk) : Prop :=
  match e with
  | .ret | .normal => retF ts t fun v => forceH h fun h => Fin H R v h
  | _ => False
theorem Done.ok {H : List Blk} {R : V → List Blk → Prop} {ts : List Nat} {t : List V} {h : List Blk} (k : retF ts t fun v => forceH h fun h => Fin H R v h) : Ends H R (retV ts t) h := by
  have e : (fun x => t.getD x V.any) = getT t := funext fun x => (getT_eq t x).symm
  unfold retF at k
  unfold retV
  split at k
  · rw [forceV_eq, forceH_eq, getT_eq] at k; exact k.ends
  · rename_i hne
    rw [forceT_eq, forceH_eq] at k
    split
    · rename_i x; exact absurd rfl (hne x)
    · rw [e]; exact k.ends

theorem Fn.calls {P : Program} {wf : Bool} {f nt : Nat} {ts : List Nat} {sc : SC} (h : Fn P wf f nt ts sc) {args : List V} {H : List Blk} {R : V → List Blk → Prop}
    (k : forceT (args ++ List.replicate (nt - args.length) .any) fun t => AC H.length P sc (Done H R ts) t H) : ACalls P f args H R := by
  rw [forceT_eq] at k
  obtain ⟨fn, h1, h2, h3, h4, rfl⟩ := h
  obtain ⟨c, hb, hs⟩ := Option.bind_eq_some_iff.1 h3
  refine ACalls.of_body ts h1 h2 hb h4 ((AC_ok (sc := sc) (s := ⟨args ++ List.replicate (fn.ntmps - args.length) .any, H⟩) hs k).mono fun e s' q => ?_)
  cases e <;> first | exact Done.ok q | exact q


/-- the second one says no more than the first -/
def subV : V → V → Prop
  | _, .any => True
  | .nil sz, y => y = .nil sz ∨ y = .g (.sl sz [])
  | x, y => x = y
/-- the temporaries agree where the second ones say anything -/
def subT : List V → List V → Prop
  | [], [] => True
  | x :: xs, y :: ys => subV x y ∧ subT xs ys
  | _, _ => False

theorem RV.sub {γ : List (Option Nat)} {H : List Blk} {I : Nat → Prop} {w : World} {x y : V} {v : Value} (hs : subV x y) (h : RV γ H I w x v) : RV γ H I w y v := by
  have key : y = .any ∨ x = y ∨ ∃ sz, x = .nil sz ∧ y = .g (.sl sz []) := by
    cases x <;> cases y <;> first | exact .inl rfl | exact .inr (.inl hs) | (rcases hs with hs | hs <;> first | exact .inr (.inl hs.symm) | exact .inr (.inr ⟨_, rfl, hs⟩))
  rcases key with rfl | rfl | ⟨sz, rfl, rfl⟩
  · exact .any
  · exact h
  · cases h with
    | nil => exact .g (.sl (es := []) 0 0 (fun _ => undef) (fun e => absurd rfl e) (fun _ h => by simp at h) (Nat.le_refl _) (fun _ _ h => by simp [flatT] at h) (fun _ _ h => by simp [flatT] at h) (fun _ _ h => by simp [flatT] at h))

theorem subT_ok : ∀ {xs ys : List V}, subT xs ys → xs.length = ys.length ∧ ∀ (i : Nat) (v : V), ys[i]? = some v → ∃ u, xs[i]? = some u ∧ subV u v
  | [], [], _ => ⟨rfl, fun _ _ h => by simp at h⟩
  | [], _ :: _, h => h.elim
  | _ :: _, [], h => h.elim
  | x :: xs, y :: ys, h => by
    obtain ⟨h1, h2⟩ := subT_ok h.2
    refine ⟨by simp [h1], fun i v hi => ?_⟩
    cases i with
    | zero => simp at hi; subst hi; exact ⟨x, rfl, h.1⟩
    | succ i => simp at hi; simpa using h2 i v hi

theorem subV_refl (x : V) : subV x x := by cases x <;> first | trivial | rfl | exact .inl rfl
theorem subT_refl : ∀ (t : List V), subT t t
  | [] => trivial
  | x :: xs => ⟨subV_refl x, subT_refl xs⟩

theorem Rel.sub {γ : List (Option Nat)} {I : Nat → Prop} {w : World} {t t' : List V} {h : List Blk} {a : Act} (r : Rel γ I w ⟨t, h⟩ a) (hs : subT t t') : Rel γ I w ⟨t', h⟩ a := by
  obtain ⟨h1, h2⟩ := subT_ok hs
  refine ⟨r.defers, by rw [r.size]; exact h1, fun i v hi => ?_, r.heap⟩
  obtain ⟨u, hu, hs⟩ := h2 i v hi
  exact (r.tmps i u hu).sub hs

theorem AW.sub {z : Nat} {P : Program} {c : Code} {Q : Exit → St → Prop} {t t' : List V} {h : List Blk} (hs : subT t t') (k : AW z P c Q ⟨t', h⟩) : AW z P c Q ⟨t, h⟩ :=
  fun γ I w a r => k γ I w a (r.sub hs)

/-- so many temporaries, of which these are known -/
def tmGo : Nat → Nat → List (Nat × V) → List V
  | 0, _, _ => []
  | n + 1, i, [] => .any :: tmGo n (i + 1) []
  | n + 1, i, (j, v) :: l => if i = j then v :: tmGo n (i + 1) l else .any :: tmGo n (i + 1) ((j, v) :: l)
def tm (n : Nat) (l : List (Nat × V)) : List V := tmGo n 0 l

/-- how a round of a loop may end -/
structure Again {α : Type} (T : α → List V) (h : α → List Blk) (inv : α → Prop) (m : α → Nat) (n : Nat) (t : List V) (k : List Blk) : Prop where
  intro ::
  ex : ∃ a, inv a ∧ m a < n ∧ k = h a ∧ subT t (T a)

/-- A LOOP: its states, by a parameter; what holds of it at each round's head; a measure -/
theorem SW.loop {z : Nat} {P : Program} {c : SC} {Q : Exit → St → Prop} {t : List V} {k : List Blk} {α : Type} (T : α → List V) (h : α → List Blk) (inv : α → Prop) (m : α → Nat) (a0 : α)
    (hi : inv a0) (hh : k = h a0) (hs : subT t (T a0)) (hr : ∀ a, inv a → AC z P c (ThnQ (Again T h inv m (m a)) (fun e t h => Q e ⟨t, h⟩)) (T a) (h a)) : SW z P (.loop c) Q ⟨t, k⟩ := by
  refine ⟨fun wf code hc => ?_⟩
  cases code with
  | loop b =>
    obtain ⟨c', h1, h2⟩ := Option.map_eq_some_iff.1 hc
    cases h2
    subst hh
    refine AW.sub hs ?_
    refine AW.loop (fun n s' => ∃ a, inv a ∧ m a = n ∧ s'.h = h a ∧ subT s'.t (T a)) (m a0) ⟨a0, hi, rfl, rfl, subT_refl _⟩ ?_
    rintro n ⟨st', sh'⟩ ⟨a, ha, rfl, hh', hs'⟩
    simp only at hh' hs'
    subst hh'
    refine AW.sub hs' ((AC_ok (s := ⟨T a, h a⟩) h1 (hr a ha)).mono fun e s2 q => ?_)
    cases e with
    | normal =>
      obtain ⟨a2, i2, l2, e2, u2⟩ := q.ex
      exact ⟨m a2, l2, a2, i2, rfl, e2, u2⟩
    | _ => exact q
  | region _ _ d =>
    cases d with
    | false => simp [slimC] at hc
    | true =>
      obtain ⟨_, _, hc⟩ := Option.bind_eq_some_iff.1 hc
      obtain ⟨_, _, hc⟩ := Option.map_eq_some_iff.1 hc
      cases hc
  | seq x y => obtain ⟨_, _, hc⟩ := Option.bind_eq_some_iff.1 hc; obtain ⟨_, _, hc⟩ := Option.map_eq_some_iff.1 hc; cases hc
  | cond c x y => obtain ⟨_, _, hc⟩ := Option.bind_eq_some_iff.1 hc; obtain ⟨_, _, hc⟩ := Option.bind_eq_some_iff.1 hc; obtain ⟨_, _, hc⟩ := Option.map_eq_some_iff.1 hc; cases hc
  | block id x => obtain ⟨_, _, hc⟩ := Option.map_eq_some_iff.1 hc; cases hc
  | scope x => obtain ⟨_, _, hc⟩ := Option.map_eq_some_iff.1 hc; cases hc
  | rangeFunc g ps x y =>
    obtain ⟨_, _, hc⟩ := Option.bind_eq_some_iff.1 hc
    split at hc
    · obtain ⟨_, _, hc⟩ := Option.bind_eq_some_iff.1 hc; obtain ⟨_, _, hc⟩ := Option.map_eq_some_iff.1 hc; cases hc
    · cases hc
  | _ => simp [slimC] at hc


theorem Br.dec {p : Prop} [Decidable p] {A B : Prop} (h : p → A) (k : ¬ p → B) : Br (decide p) A B := Br.intro (fun e => h (of_decide_eq_true e)) (fun e => k (of_decide_eq_false e))

theorem Br.ne {a b : Int} {A B : Prop} (h : a ≠ b → A) (k : a = b → B) : Br (a != b) A B := Br.intro (fun e => h (by simpa using e)) (fun e => k (by simpa using e))
theorem Br.eq {a b : Int} {A B : Prop} (h : a = b → A) (k : a ≠ b → B) : Br (a == b) A B := Br.intro (fun e => h (by simpa using e)) (fun e => k (by simpa using e))
theorem Br.not {c : Bool} {A B : Prop} (h : c = false → A) (k : c = true → B) : Br (!c) A B := Br.intro (fun e => h (by simpa using e)) (fun e => k (by simpa using e))
theorem getM {α β : Type} {f : α → β} {xs : List α} {n : Nat} (h : n < xs.length) : (xs.map f)[n]? = some (f xs[n]) := by simp [h]

theorem in64 {n : Int} (h : -9223372036854775808 ≤ n) (k : n ≤ 9223372036854775807) : inR .i64 n := by
  simp [inR, IntKind.min, IntKind.max, IntKind.signed, IntKind.bits]; omega

theorem lit0_sub {v : V} {t : T} (h : lit0 v = some t) : subV v (.g t) := by
  cases v <;> simp [lit0] at h
  · subst h; rfl
  · subst h; exact .inr rfl

/-- A CALL OVER PLAIN DATA, THAT HANDS BACK PLAIN DATA -/
structure CG (P : Program) (f : Nat) (ts : List T) (t : T) : Prop where
  ok : ACalls P f (ts.map .g) [] (fun r h => r = .g t ∧ h = [])
theorem CG.go {P : Program} {f : Nat} {ts : List T} {t : T} (c : CG P f ts t) {args : List V} (ha : optL (args.map lit0) = some ts) {H : List Blk} {K : V → List Blk → Prop} (k : K (.g t) H) : ACalls P f args H K := by
  have h1 : ACalls P f (ts.map .g) H K := (c.ok.frame (fun i v h => by
    rw [List.getElem?_map] at h
    cases hi : ts[i]? with
    | none => rw [hi] at h; cases h
    | some x => rw [hi] at h; simp at h; subst h; exact .g) (fun r h' e => ⟨e.2, by rw [e.1]; exact .g⟩) H).mono fun r h' e => by rw [e.1.1, e.2]; exact k
  have hts := optL_some ha
  have hl : args.length = ts.length := by simpa using congrArg List.length hts
  refine ⟨h1.1, fun γ I w vs r hlen hv => h1.2 γ I w vs r (by simp; omega) fun i v hi => ?_⟩
  rw [List.getElem?_map] at hi
  cases ht : ts[i]? with
  | none => rw [ht] at hi; cases hi
  | some x =>
    rw [ht] at hi; simp at hi; subst hi
    have h2 := congrArg (·[i]?) hts
    simp only [List.getElem?_map, ht, Option.map_some] at h2
    cases he : args[i]? with
    | none => rw [he] at h2; simp at h2
    | some e => rw [he] at h2; simp at h2; exact (hv i e he).sub (lit0_sub h2)

/-- the same, the result any value that holds no memory -/
structure CV (P : Program) (f : Nat) (ts : List T) (v : V) : Prop where
  ok : ACalls P f (ts.map .g) [] (fun r h => r = v ∧ h = [])
  lt : v.lt 0
theorem CV.go {P : Program} {f : Nat} {ts : List T} {v : V} (c : CV P f ts v) {args : List V} (ha : optL (args.map lit0) = some ts) {H : List Blk} {K : V → List Blk → Prop} (k : K v H) : ACalls P f args H K := by
  have h1 : ACalls P f (ts.map .g) H K := (c.ok.frame (fun i v h => by
    rw [List.getElem?_map] at h
    cases hi : ts[i]? with
    | none => rw [hi] at h; cases h
    | some x => rw [hi] at h; simp at h; subst h; exact .g) (fun r h' e => ⟨e.2, by rw [e.1]; exact c.lt⟩) H).mono fun r h' e => by rw [e.1.1, e.2]; exact k
  have hts := optL_some ha
  have hl : args.length = ts.length := by simpa using congrArg List.length hts
  refine ⟨h1.1, fun γ I w vs r hlen hv => h1.2 γ I w vs r (by simp; omega) fun i v hi => ?_⟩
  rw [List.getElem?_map] at hi
  cases ht : ts[i]? with
  | none => rw [ht] at hi; cases hi
  | some x =>
    rw [ht] at hi; simp at hi; subst hi
    have h2 := congrArg (·[i]?) hts
    simp only [List.getElem?_map, ht, Option.map_some] at h2
    cases he : args[i]? with
    | none => rw [he] at h2; simp at h2
    | some e => rw [he] at h2; simp at h2; exact (hv i e he).sub (lit0_sub h2)
theorem V.lt.gs {n : Nat} {ts : List T} : (V.tu (ts.map .g)).lt n := .tu fun i v h => by
  rw [List.getElem?_map] at h
  cases hi : ts[i]? with
  | none => rw [hi] at h; cases h
  | some x => rw [hi] at h; simp at h; subst h; exact .g

theorem getZ {α β : Type} {f : α → β} {xs : List α} {n : Nat} (h : n < xs.length) : (xs.map f)[((n : Nat) : Int).toNat]? = some (f xs[n]) := by simp [h]
theorem getI {α β : Type} {f : α → β} {xs : List α} {i : Int} (h0 : 0 ≤ i) (h : i < xs.length) : (xs.map f)[i.toNat]? = some (f (xs[i.toNat]'(by omega))) := getM (by omega)

end Go.Aw
namespace Go.Aw

/-- the second state stands wherever the first one does -/
def Refi (z : Nat) (s s' : St) : Prop := ∀ γ I w a, Rel γ I w s a → ∃ γ' I', Rel γ' I' w s' a ∧ ExtM z γ s.h I w γ' s'.h I' w

theorem Refi.refl {z : Nat} (s : St) : Refi z s s := fun γ I _ _ r => ⟨γ, I, r, ExtM.refl ..⟩
theorem Refi.trans {z : Nat} {s s' s'' : St} (h : Refi z s s') (k : Refi z s' s'') : Refi z s s'' := fun γ I w a r => by
  obtain ⟨γ1, I1, r1, e1⟩ := h γ I w a r
  obtain ⟨γ2, I2, r2, e2⟩ := k γ1 I1 w a r1
  exact ⟨γ2, I2, r2, e1.trans e2⟩
theorem Refi.sub {z : Nat} {t t' : List V} {h h' : List Blk} (e : h = h') (hs : subT t t') : Refi z ⟨t, h⟩ ⟨t', h'⟩ := fun γ I w a r => by
  subst e; exact ⟨γ, I, r.sub hs, ExtM.refl ..⟩

/-- a nil slice as an empty slice of the call's own -/
theorem Refi.valloc {z : Nat} {t : List V} {h : List Blk} (i sz : Nat) (hi : getT t i = .nil sz) : Refi z ⟨t, h⟩ ⟨setT t i (.own h.length 0 0 0), addB h (.arr 0 sz [])⟩ := fun γ I w a r => by
  obtain ⟨v1, v2⟩ := valloc_ok r.heap 0 sz
  rw [addB_eq, setT_eq]
  refine ⟨γ ++ [none], I, ⟨r.defers.ext v2, by simpa using r.size, fun j v hj => ?_, v1⟩, v2.toM⟩
  by_cases hd : j = i
  · subst hd
    have hlt : j < t.length := by have := lt_of_get hj; simpa using this
    simp [hlt] at hj; subst hj
    rw [getT_eq] at hi
    have : t[j]? = some (.nil sz) := by rw [List.getD_eq_getElem?_getD] at hi; simp [hlt] at hi ⊢; exact hi
    have hv := r.tmps j _ this
    generalize a.tmps.getD j undef = x at hv
    cases hv
    refine .own (g' := 0) (sz := sz) (es := []) (by simp) (Nat.le_refl _) (Nat.le_refl _) (fun _ => ⟨by simp, .inl ⟨?_, rfl, rfl, rfl⟩⟩)
    rw [List.getElem?_append_right (by rw [r.heap.len]; exact Nat.le_refl _)]; simp [r.heap.len]
  · rw [List.getElem?_set, if_neg (fun e => hd e.symm)] at hj
    exact (r.tmps j v hj).mono v2 r.heap

theorem AW.refi {z : Nat} {P : Program} {c : Code} {Q : Exit → St → Prop} {s s' : St} (hs : Refi z s s') (k : AW z P c Q s') : AW z P c Q s := fun γ I w a r => by
  obtain ⟨γ1, I1, r1, e1⟩ := hs γ I w a r
  exact wp_mono (k γ1 I1 w a r1) fun e a2 w2 ⟨s2, γ2, I2, k1, k2, k3, k4⟩ => ⟨s2, γ2, I2, k1, k2, e1.trans k3, fun d hd => (k4 d hd).imp id fun ⟨D, e, hD⟩ => ⟨D, e, hD⟩⟩
theorem SW.refi {z : Nat} {P : Program} {sc : SC} {Q : Exit → St → Prop} {s s' : St} (hs : Refi z s s') (k : SW z P sc Q s') : SW z P sc Q s :=
  ⟨fun wf c hc => (k.run wf c hc).refi hs⟩
theorem SW.valloc {z : Nat} {P : Program} {sc : SC} {Q : Exit → St → Prop} {t : List V} {h : List Blk} (i sz : Nat) (hi : getT t i = .nil sz) (k : SW z P sc Q ⟨setT t i (.own h.length 0 0 0), addB h (.arr 0 sz [])⟩) : SW z P sc Q ⟨t, h⟩ :=
  k.refi (.valloc i sz hi)

structure AgainR (z : Nat) {α : Type} (T : α → List V) (h : α → List Blk) (inv : α → Prop) (m : α → Nat) (n : Nat) (t : List V) (k : List Blk) : Prop where
  intro ::
  ex : ∃ a, inv a ∧ m a < n ∧ Refi z ⟨t, k⟩ ⟨T a, h a⟩

/-- A LOOP: the states at its head are met by refinement -/
theorem SW.loopR {z : Nat} {P : Program} {c : SC} {Q : Exit → St → Prop} {t : List V} {k : List Blk} {α : Type} (T : α → List V) (h : α → List Blk) (inv : α → Prop) (m : α → Nat) (a0 : α)
    (hi : inv a0) (hs : Refi z ⟨t, k⟩ ⟨T a0, h a0⟩) (hr : ∀ a, inv a → AC z P c (ThnQ (AgainR z T h inv m (m a)) (fun e t h => Q e ⟨t, h⟩)) (T a) (h a)) : SW z P (.loop c) Q ⟨t, k⟩ := by
  refine SW.refi hs ⟨fun wf code hc => ?_⟩
  cases code with
  | loop b =>
    obtain ⟨c', h1, h2⟩ := Option.map_eq_some_iff.1 hc
    cases h2
    refine AW.loop (fun n s' => ∃ a, inv a ∧ m a = n ∧ Refi z s' ⟨T a, h a⟩) (m a0) ⟨a0, hi, rfl, .refl _⟩ ?_
    rintro n s' ⟨a, ha, rfl, hs'⟩
    refine AW.refi hs' ((AC_ok (s := ⟨T a, h a⟩) h1 (hr a ha)).mono fun e s2 q => ?_)
    cases e with
    | normal =>
      obtain ⟨a2, i2, l2, e2⟩ := q.ex
      exact ⟨m a2, l2, a2, i2, rfl, e2⟩
    | _ => exact q
  | region _ _ d =>
    cases d with
    | false => simp [slimC] at hc
    | true =>
      obtain ⟨_, _, hc⟩ := Option.bind_eq_some_iff.1 hc
      obtain ⟨_, _, hc⟩ := Option.map_eq_some_iff.1 hc
      cases hc
  | seq x y => obtain ⟨_, _, hc⟩ := Option.bind_eq_some_iff.1 hc; obtain ⟨_, _, hc⟩ := Option.map_eq_some_iff.1 hc; cases hc
  | cond c x y => obtain ⟨_, _, hc⟩ := Option.bind_eq_some_iff.1 hc; obtain ⟨_, _, hc⟩ := Option.bind_eq_some_iff.1 hc; obtain ⟨_, _, hc⟩ := Option.map_eq_some_iff.1 hc; cases hc
  | block id x => obtain ⟨_, _, hc⟩ := Option.map_eq_some_iff.1 hc; cases hc
  | scope x => obtain ⟨_, _, hc⟩ := Option.map_eq_some_iff.1 hc; cases hc
  | rangeFunc g ps x y =>
    obtain ⟨_, _, hc⟩ := Option.bind_eq_some_iff.1 hc
    split at hc
    · obtain ⟨_, _, hc⟩ := Option.bind_eq_some_iff.1 hc; obtain ⟨_, _, hc⟩ := Option.map_eq_some_iff.1 hc; cases hc
    · cases hc
  | _ => simp [slimC] at hc

theorem addB_len (h : List Blk) (x : Blk) : (addB h x).length = h.length + 1 := by rw [addB_eq]; simp
end Go.Aw
namespace Go.Aw
theorem optL_map_of {α β : Type} {f : α → Option β} {g : α → β} : ∀ {l : List α}, (∀ x ∈ l, f x = some (g x)) → optL (l.map f) = some (l.map g)
  | [], _ => rfl
  | x :: l, h => by
    have ih := optL_map_of (f := f) (g := g) (l := l) fun y hy => h y (List.mem_cons_of_mem _ hy)
    rw [List.map_cons, h x List.mem_cons_self, optL, ih]; rfl
theorem gr_own {n d b g sz len : Nat} {h : List Blk} {α : Type} {l : List α} {f : α → V} {e : α → T} (hb : h[b]? = some (.arr g sz (l.map f))) (hn : n ≤ b) (hl : len = l.length) (he : ∀ x ∈ l, gr n h d (f x) = some (e x)) :
    gr n h (d + 1) (.own b g 0 len) = some (.sl sz (l.map e)) := by
  subst hl
  have hk : gr n h (d + 1) (.own b g 0 l.length) = (if n ≤ b ∧ g = g ∧ 0 + l.length ≤ (l.map f).length then (optL ((((l.map f).drop 0).take l.length).map (gr n h d))).map (T.sl sz) else none) := by
    simp only [gr, hb]
  rw [hk, if_pos ⟨hn, rfl, by simp⟩, List.drop_zero, List.take_of_length_le (by simp), List.map_map, optL_map_of (f := gr n h d ∘ f) (g := e) (fun x hx => he x hx)]
  rfl
theorem gr_g {n d : Nat} {h : List Blk} {t : T} : gr n h d (.g t) = some t := by cases d <;> rfl
theorem Blk.lt_of {n g sz : Nat} {es : List V} (h : ∀ e ∈ es, ∀ v ∈ e.cells, v.lt n) : (Blk.arr g sz es).lt n := fun i v hv => by
  have hm := List.mem_of_getElem? hv
  obtain ⟨e, he, hv⟩ := List.mem_flatMap.1 hm
  exact h e he v hv
theorem Blk.lt_gs {n g sz : Nat} {α : Type} {l : List α} {f : α → T} : (Blk.arr g sz (l.map fun x => V.g (f x))).lt n := Blk.lt_of fun e he v hv => by
  obtain ⟨x, _, rfl⟩ := List.mem_map.1 he
  obtain ⟨y, _, rfl⟩ := List.mem_map.1 hv
  exact .g
theorem Blk.lt_one {n g sz : Nat} {v : V} (hc : v.cells = [v]) (h : v.lt n) : (Blk.arr g sz [v]).lt n := Blk.lt_of fun e he u hu => by
  simp at he; subst he; rw [hc] at hu; simp at hu; subst hu; exact h
end Go.Aw
namespace Go.Aw
theorem Fn.callOk {P : Program} {wf : Bool} {f nt : Nat} {ts : List Nat} {sc : SC} (h : Fn P wf f nt ts sc) : callOk P f := by
  obtain ⟨fn, h1, h2, h3, _, _⟩ := h
  obtain ⟨c, hb, _⟩ := Option.bind_eq_some_iff.1 h3
  exact ⟨fn, h1, h2, by rw [hb]; rfl⟩
end Go.Aw
namespace Go.Aw
theorem gr_part {n d b g sz len : Nat} {h : List Blk} {α : Type} {l : List α} {f : α → V} {e : α → T} {junk : List V} (hb : h[b]? = some (.arr g sz (l.map f ++ junk))) (hn : n ≤ b) (hl : len = l.length) (he : ∀ x ∈ l, gr n h d (f x) = some (e x)) :
    gr n h (d + 1) (.own b g 0 len) = some (.sl sz (l.map e)) := by
  subst hl
  have hk : gr n h (d + 1) (.own b g 0 l.length) = (if n ≤ b ∧ g = g ∧ 0 + l.length ≤ (l.map f ++ junk).length then (optL ((((l.map f ++ junk).drop 0).take l.length).map (gr n h d))).map (T.sl sz) else none) := by
    simp only [gr, hb]
  have ht : (l.map f ++ junk).take l.length = l.map f := by rw [List.take_append_of_le_length (by simp), List.take_of_length_le (by simp)]
  rw [hk, if_pos ⟨hn, rfl, by simp⟩, List.drop_zero, ht, List.map_map, optL_map_of (f := gr n h d ∘ f) (g := e) (fun x hx => he x hx)]
  rfl
end Go.Aw
namespace Go.Aw
open Go.Sort Go.RowKit

section
variable {γ : List (Option Nat)} {I : Nat → Prop} {w : World} {H : List Blk}

theorem ahead_ok (r : RelH γ I w H) (n : Nat) : RelH γ I (Sort.ahead w n) H ∧ Ext γ H I w γ H I (Sort.ahead w n) := by
  have hx : Ext γ H I w γ H I (Sort.ahead w n) := ⟨rfl, rfl, rfl, Nat.le_refl _, fun _ h => h, fun _ h => .inl h, fun _ _ _ => rfl, fun _ _ h => h,
    fun b x h => ⟨x, h, x.upto_refl, fun _ => ⟨rfl, fun g sz es es' h1 h2 => by subst h1; cases h2; exact Nat.le_refl _⟩⟩, fun b _ h => .inr ⟨b, h⟩⟩
  refine ⟨⟨r.len, fun b g sz es hb => ?_, r.mp, r.inj, r.off, r.imm⟩, hx⟩
  rcases r.arr b g sz es hb with h | ⟨k, c, el, h1, h2, h3, h4, h5⟩
  · exact .inl h
  · exact .inr ⟨k, c, el, h1, h2, h3, h4, fun i v hv => by obtain ⟨x, x1, x2, x3⟩ := h5 i v hv; exact ⟨x, x1, x2, x3.mono hx r⟩⟩

theorem grow_ok (r : RelH γ I w H) (os : Array Obj) : RelH γ I (grow w os) H ∧ Ext γ H I w γ H I (grow w os) := by
  have hold : ∀ k, k < w.heap.size → (grow w os).heap[k]? = w.heap[k]? := fun k hk => heap_grow_old w os hk
  have hsz : w.heap.size ≤ (grow w os).heap.size := by simp
  have hx : Ext γ H I w γ H I (grow w os) := ⟨rfl, rfl, rfl, hsz, fun _ h => h, fun _ h => .inl h, fun k hk _ => hold k hk,
    fun k n ⟨c, el, fr, h1, h2⟩ => ⟨c, el, fr, by rw [hold k (heap_lt h1)]; exact h1, h2⟩,
    fun b x h => ⟨x, h, x.upto_refl, fun _ => ⟨rfl, fun g sz es es' h1 h2 => by subst h1; cases h2; exact Nat.le_refl _⟩⟩, fun b _ h => .inr ⟨b, h⟩⟩
  refine ⟨⟨r.len, fun b g sz es hb => ?_, fun b kvs hb => ?_, r.inj, fun b k hb => ⟨(r.off b k hb).1, Nat.lt_of_lt_of_le (r.off b k hb).2 hsz⟩, r.immx fun k hk => hold k (r.immlt hk)⟩, hx⟩
  · rcases r.arr b g sz es hb with h | ⟨k, c, el, h1, h2, h3, h4, h5⟩
    · exact .inl h
    · exact .inr ⟨k, c, el, h1, by rw [hold k (heap_lt h2)]; exact h2, h3, h4, fun i v hv => by obtain ⟨x, x1, x2, x3⟩ := h5 i v hv; exact ⟨x, x1, x2, x3.mono hx r⟩⟩
  · obtain ⟨k, es, cl, h1, h2, h3⟩ := r.mp b kvs hb
    exact ⟨k, es, cl, h1, by rw [hold k (heap_lt h2)]; exact h2, h3⟩

theorem putRow_setB {α : Type} [Inhabited α] {enc : α → Value} {k off : Nat} {d : Array α} {c : Array Value} {el : TypeId} (h : w.heap[k]? = some (.cells c el (0, 0))) :
    putRow enc w k off d = World.setB w k (.cells (putCells enc off d c) el (0, 0)) := by
  unfold putRow mapBlock World.setB
  congr 1
  apply Array.ext_getElem?
  intro j
  simp only [Array.getElem?_modify, Array.getElem?_setIfInBounds]
  by_cases hj : k = j
  · subst hj; rw [if_pos rfl, if_pos rfl, h, if_pos (heap_lt h)]; rfl
  · simp [hj]

theorem flat_ints : ∀ (xs : List Int), flatV (xs.map fun x => V.g (.i x)) = xs.map fun x => V.g (.i x)
  | [] => rfl
  | x :: xs => by have ih := flat_ints xs; simp only [flatV, List.map_cons, List.flatMap_cons] at ih ⊢; rw [ih]; rfl

/-- slices.Sort of whole numbers, by the kit's contract -/
theorem sortI_ok {P : Program} {f : Nat} (ok : callOk P f)
    (hc : ∀ (blk off cap : Nat) (zs : List Int) (w : World), Holds (Value.int .i64) w blk off zs.toArray → blk < w.heap.size → zs.length < 4611686018427387904 →
      Calls P f #[.slice (some ⟨blk, off, none⟩) zs.length cap] w fun e w' => e = .returned (.tuple #[]) ∧ ∃ n os, w' = grow (putRow (Value.int .i64) (Sort.ahead w n) blk off (zs.mergeSort fun x y => decide (x ≤ y)).toArray) os)
    (h0 : ∀ (p : Option Addr) (cap : Nat) (w : World), Calls P f #[.slice p 0 cap] w fun e w' => e = .returned (.tuple #[]) ∧ w' = w)
    {b g : Nat} {xs : List Int} (hl : xs.length < 4611686018427387904) (hb : H[b]? = some (.arr g 1 (xs.map fun x => V.g (.i x)))) :
    ACalls P f [.own b g 0 xs.length] H (fun r h' => r = .tu [] ∧ h' = H.set b (.arr g 1 ((xs.mergeSort fun x y => decide (x ≤ y)).map fun x => V.g (.i x)))) := by
  refine ⟨ok, fun γ I w vs r hlen hv => ?_⟩
  obtain ⟨X, rfl⟩ : ∃ X, vs = [X] := by
    match vs, hlen with
    | [X], _ => exact ⟨X, rfl⟩
  have hX := hv 0 _ rfl
  simp only [List.getD_eq_getElem?_getD, List.getElem?_cons_zero, Option.getD_some] at hX
  cases hX with
  | @own _ _ g2 sz2 _ _ cap es2 a hb2 hg hlc hcc =>
  rw [hb] at hb2; cases hb2
  obtain ⟨c1, c2⟩ := hcc rfl
  have htu : ∀ {γ H I w}, RV γ H I w (.tu []) (.tuple #[]) := .tu (vs := []) rfl (by simp)
  by_cases hne : xs = []
  · subst hne
    refine (h0 a cap w).mono ?_
    rintro e w' ⟨rfl, rfl⟩
    refine ⟨.tu [], _, H, γ, I, rfl, ⟨rfl, ?_⟩, r, htu, Ext.refl ..⟩
    rw [List.mergeSort_nil]; exact (set_self hb).symm
  · have hpos : 0 < xs.length := List.length_pos_iff.2 hne
    rcases c2 with ⟨_, _, _, hz⟩ | ⟨k, hk, ha, hrow⟩
    · omega
    rcases ha with hz | rfl
    · omega
    rcases r.arr _ _ _ _ hb with ⟨hz, _⟩ | ⟨k', c, el, h1, h2, h3, h4, h5⟩
    · rw [hz] at hk; cases hk
    rw [hk] at h1; cases h1
    have hfl : flatV (xs.map fun x => V.g (.i x)) = xs.map fun x => V.g (.i x) := flat_ints xs
    have hcell : ∀ j (hj : j < xs.length), c[j]? = some (.int .i64 xs[j]) := fun j hj => by
      obtain ⟨x, x1, _, x3⟩ := h5 j (V.g (.i xs[j])) (by rw [hfl]; simp [hj])
      have := rv_sc x3; subst this; exact x1
    have hcs : xs.length ≤ c.size := by simpa using h4
    have hH : Holds (Value.int .i64) w k (0 * 1) xs.toArray := fun j hj => by
      have hj' : j < xs.length := by simpa using hj
      refine ⟨?_, ?_⟩
      · simp [World.cell?, h2, hcell j hj', hj']
      · simp [World.frozen?, h2]
    refine (hc k (0 * 1) cap xs w hH (heap_lt h2) hl).mono ?_
    rintro e w' ⟨rfl, n, os, rfl⟩
    generalize hys : (xs.mergeSort fun x y => decide (x ≤ y)) = ys
    have hyl : ys.length = xs.length := by rw [← hys, List.length_mergeSort]
    rw [putRow_ahead, putRow_setB h2]
    have hfy : flatV (ys.map fun x => V.g (.i x)) = ys.map fun x => V.g (.i x) := flat_ints ys
    obtain ⟨u1, u2⟩ := upd_ok (es' := ys.map fun x => V.g (.i x)) (c' := putCells (Value.int .i64) (0 * 1) ys.toArray c) r hb hk h2 (by simp [putCells]) (Nat.le_refl _) (fun _ => by simp [hyl])
      (fun e he => by obtain ⟨x, _, rfl⟩ := List.mem_map.1 he; rfl) (by simp [hyl]; omega) (fun j v hj => by
        rw [hfy] at hj
        have hjl : j < ys.length := by have := lt_of_get hj; simpa using this
        simp [hjl] at hj; subst hj
        refine ⟨.int .i64 ys[j], ?_, rfl, .g (.sc rfl)⟩
        have : j < c.size := by omega
        simp [putCells, hjl, this])
    obtain ⟨a1, a2⟩ := ahead_ok u1 n
    obtain ⟨g1, g2⟩ := grow_ok a1 os
    exact ⟨.tu [], _, _, γ, I, rfl, ⟨rfl, rfl⟩, g1, htu, (u2.trans a2).trans g2⟩
end
end Go.Aw
namespace Go.Aw
open Go.RowKit

/- IN A ROUND -/
theorem rowsIn_wide {n : Nat} {P : Program} {row : String} {args : Array Value} {w : World} {R : Value → World → Prop} : Rows P row args w R → RowsIn Fence.wide n P row args w R := fun h c cs _ => by
  obtain ⟨v, w', r, s⟩ := h c cs
  exact ⟨v, w', r, stepsIn_wide.2 s⟩
theorem wpIn_of_wp {n l : Nat} {P : Program} {o : Oper} {a : Act} {w : World} {next : Act → World → Prop} {Q : Exit → Act → World → Prop} (hd : ∀ c, o.op ≠ .defer c) (h : o.wp P a w next Q) : o.wpIn (Fence.wide.inRound l) n P a w next Q := by
  refine ⟨fun _ _ => trivial, ?_⟩
  have e : Oper.semAt (Fence.wide.inRound l).round a.eval o = execOp a.eval o := Oper.semAt_some l _ _ hd
  rw [e]
  unfold Oper.wp at h
  generalize (execOp a.eval o).run P w = r at h ⊢
  cases r with
  | ok nx w' =>
    cases nx with
    | value v => exact h
    | skip => exact h
    | defer d => exact h
    | enter f args => exact ⟨fun h => (by cases h), (callsIn_wide (n := n - 1)).2 h⟩
    | row row args => exact ⟨fun h => (by cases h), rowsIn_wide h⟩
    | _ => exact h.elim
  | halt x w' =>
    cases x with
    | panic v => exact h
    | _ => exact h.elim

theorem slim_defer {P : Program} {wf : Bool} {o : Oper} {so : SO} (h : slimB P wf o = some so) (hb : so ≠ .bad) : ∀ c, o.op ≠ .defer c := fun c hc => by
  have : slimO P wf o = none := by unfold slimO; rw [hc]
  unfold slimB at h
  rw [this] at h
  cases h
  exact hb rfl

section
variable {P : Program} {wf : Bool} {γ γ' : List (Option Nat)} {I I' : Nat → Prop} {w w' : World}
theorem AX_in {l0 n : Nat} {ops : Array Oper} {Q : List V → List Blk → Prop} {Q' : Exit → Act → World → Prop} : ∀ {l : List Oper} {sl : List SOp} {s : St} {a : Act} {γ : List (Option Nat)} {I : Nat → Prop} {w : World},
    All2 (fun o so => slimOp P wf ops o = some so) l sl → Rel γ I w s a → AX P sl Q s.t s.h →
    (∀ (s' : St) γ' I' w' a', Q s'.t s'.h → Rel γ' I' w' s' a' → Ext γ s.h I w γ' s'.h I' w' → a'.defers = a.defers → Q' .normal a' w') → wpListIn (Fence.wide.inRound l0) n P ops Q' l a w := by
  intro l
  induction l with
  | nil => intro sl s a γ I w hs r h hq; cases hs; exact hq s γ I w a h r (Ext.refl ..) rfl
  | cons o l ih =>
    intro sl s a γ I w hs r h hq
    cases hs with
    | @cons _ so _ sl ho hs =>
    unfold slimOp at ho
    obtain ⟨so', h1, ho⟩ := Option.bind_eq_some_iff.1 ho
    have go' : ∀ (t' : List V), Rel γ I w ⟨t', s.h⟩ a → opP P t' so' s.h (fun v h => forceV v fun v => forceH h fun h => forceT (putT t' o.dst v) fun t => AX P sl Q t h) → o.wpIn (Fence.wide.inRound l0) n P a w (wpListIn (Fence.wide.inRound l0) n P ops Q' l) Q' := by
      intro t' r1 hop
      refine wpIn_of_wp (slim_defer h1 fun e => by subst e; exact hop.elim) (opP_okB h1 r1 ?_ hop)
      intro v x H' γ' I' w' hK r' hv e'
      rw [forceV_eq, forceH_eq, forceT_eq] at hK
      exact ih hs (rel_put r1 e' r' hv) hK (fun s2 γ2 I2 w2 a2 q2 r2 e2 d2 => hq s2 γ2 I2 w2 a2 q2 r2 (e'.trans e2) (d2.trans (put_defers ..)))
    have skip' : ∀ (t' : List V), Rel γ I w ⟨t', s.h⟩ a → (forceT (putT t' o.dst (.tu [])) fun t => AX P sl Q t s.h) → (∀ f, o.about P w a.eval = some f → (Fence.wide.inRound l0).fn f) ∧ wpListIn (Fence.wide.inRound l0) n P ops Q' l (a.put o.dst undef) w := fun t' r1 h => by
      rw [forceT_eq] at h
      exact ⟨fun _ _ => trivial, ih hs (rel_put r1 (Ext.refl ..) r1.heap (.tu (vs := []) rfl (by simp))) h (fun s2 γ2 I2 w2 a2 q2 r2 e2 d2 => hq s2 γ2 I2 w2 a2 q2 r2 e2 (d2.trans (put_defers ..)))⟩
    unfold wpListIn
    cases hg : o.guard with
    | none =>
      rw [hg] at ho; simp at ho; subst ho
      rw [if_pos (by simp [Region.wanted, hg])]
      exact go' s.t r h
    | some jb =>
      obtain ⟨j, b⟩ := jb
      rw [hg] at ho; simp only at ho
      obtain ⟨t, h2, ho⟩ := Option.map_eq_some_iff.1 ho
      subst ho
      simp only [AX_c, AXc] at h
      split at h
      · rename_i c hc
        obtain ⟨x, hx, hrv⟩ := tmp_get r hc (by simp)
        have := rv_sc hrv; subst this
        have hw : Region.wanted o (yielded ops a.tmps) = (c == b) := by
          simp [Region.wanted, hg, yielded, h2, hx]
        rw [hw]
        cases c with
        | true =>
          have r2 := rel_know (v' := .g (.b true)) r hc rfl
          cases b with
          | true => exact go' _ r2 (by simpa only [Br, forceT_eq] using h)
          | false => exact skip' _ r2 (by simpa only [Br, forceT_eq] using h)
        | false =>
          have r2 := rel_know (v' := .g (.b false)) r hc rfl
          cases b with
          | false => exact go' _ r2 (by simpa only [Br, forceT_eq] using h)
          | true => exact skip' _ r2 (by simpa only [Br, forceT_eq] using h)
      · rename_i hc
        obtain ⟨x, hx, hrv⟩ := tmp_get r hc (by simp)
        have hw : Region.wanted o (yielded ops a.tmps) = false := by
          cases hrv with
          | @tu _ vs hl hr =>
            simp [Region.wanted, hg, yielded, h2, hx]
        rw [hw]
        exact skip' s.t r h
      · exact h.elim

theorem AC_in {z l n : Nat} {c : Code} : ∀ {sc : SC} {Q : Exit → List V → List Blk → Prop} {s : St}, straight c = true → slimC P wf c = some sc → AC z P sc Q s.t s.h →
    ∀ γ I w a, Rel γ I w s a → c.wpIn (Fence.wide.inRound l) n P (lift z γ I w s.h a.defers (fun e s => Q e s.t s.h)) a w := by
  induction c with
  | skip => intro sc Q s _ hs h γ I w a r; simp [slimC] at hs; subst hs; exact wpIn_skip ⟨s, γ, I, h, r, ExtM.refl .., NewD.refl⟩
  | seq x y ihx ihy =>
    intro sc Q s hst hs h γ I w a r
    simp only [straight, Bool.and_eq_true] at hst
    obtain ⟨x', h1, hs⟩ := Option.bind_eq_some_iff.1 hs
    obtain ⟨y', h2, hs⟩ := Option.map_eq_some_iff.1 hs
    subst hs
    simp only [AC_seq] at h
    refine wpIn_seq (wpIn_mono (ihx hst.1 h1 h γ I w a r) fun e a' w' ⟨s', γ', I', q1, q2, q3⟩ => ?_)
    cases e with
    | normal => exact wpIn_mono (ihy hst.2 h2 q1 γ' I' w' a' q2) fun e a2 w2 ⟨s2, γ2, I2, k1, k2, k3⟩ => ⟨s2, γ2, I2, k1, k2, goes_trans q3 k3⟩
    | _ => exact ⟨s', γ', I', q1, q2, q3⟩
  | block id c ih =>
    intro sc Q s hst hs h γ I w a r
    obtain ⟨c', h1, hs⟩ := Option.map_eq_some_iff.1 hs
    subst hs
    refine wpIn_block (wpIn_mono (ih hst h1 h γ I w a r) fun e a' w' ⟨s', γ', I', q, q2, q3⟩ => ?_)
    cases e with
    | exit id' =>
      simp only [InQ] at q
      simp only [Exit.inBlock]
      split at q <;> rename_i hb
      · rw [if_pos (Nat.eq_of_beq_eq_true hb)]; exact ⟨s', γ', I', q, q2, q3⟩
      · rw [if_neg (fun e => by rw [e, Nat.beq_refl] at hb; cases hb)]; exact ⟨s', γ', I', q, q2, q3⟩
    | _ => exact ⟨s', γ', I', q, q2, q3⟩
  | region id ops draw =>
    intro sc Q s hst hs h γ I w a r
    cases draw with
    | true => simp [straight] at hst
    | false =>
      obtain ⟨sl, h1, hs⟩ := Option.map_eq_some_iff.1 hs
      subst hs
      exact wpIn_region_list (AX_in (optL_forall h1) r h (fun s' γ' I' w' a' q r' e d => ⟨s', γ', I', q, r', e.toM, by rw [d]; exact NewD.refl⟩))
  | _ => intro sc Q s hst; simp [straight] at hst
end

/- A RANGE OVER A FUNCTION -/
abbrev SV : Type := { v : Value // v.oneCell' = true }
def KpI (I : Nat → Prop) (A B : World) : Prop := ∀ k, I k → B.heap[k]? = A.heap[k]?
/-- an iterator's value: it gives these -/
structure Gives (P : Program) (gf : Nat) (caps : List V) (zs : List SV) : Prop where
  ok : callOk P gf
  run : ∀ (n : Nat) (_ : 1 ≤ n) (γ : List (Option Nat)) (H : List Blk) (I : Nat → Prop) (w : World) (vs : List Value), RelH γ I w H → vs.length = caps.length → (∀ (i : Nat) (v : V), caps[i]? = some v → RV γ H I w v (vs.getD i undef)) →
    SeqStopsK Fence.wide n P gf vs.toArray (fun x : SV => #[x.1]) (KpI I) (fun ys => ys = zs) (fun _ => True) zs.length w

theorem callOk.enter {P : Program} {f : Nat} (h : callOk P f) : ∀ args w, (callFunc f args).run P w = .ok (.enter f args) w := by
  obtain ⟨fn, q1, q2, q3⟩ := h
  intro args w
  have q2' : fn.name ≠ "runtime.NumGoroutine" := by simpa using q2
  have q3' : fn.body ≠ none := fun e => by rw [e] at q3; cases q3
  simp [callFunc, q1, q2', q3']

/-- the heap of the second one stands wherever that of the first one does -/
def ReH (z : Nat) (h h' : List Blk) : Prop := ∀ γ I w, RelH γ I w h → ∃ γ' I', RelH γ' I' w h' ∧ ExtM z γ h I w γ' h' I' w
theorem ReH.refl {z : Nat} (h : List Blk) : ReH z h h := fun γ I _ r => ⟨γ, I, r, ExtM.refl ..⟩

def noMp (h : List Blk) : Prop := ∀ (b : Nat) (kvs : List (Value × Value)), h[b]? ≠ some (.mp kvs)

section
variable {P : Program} {γ γ' : List (Option Nat)} {H H' : List Blk} {I I' : Nat → Prop} {w w' : World}
theorem RelH.cellsAt (r : RelH γ I w H) (hm : noMp H) {b k : Nat} (hk : γ[b]? = some (some k)) : ∃ (c : Array Value) (el : TypeId) (fr : Nat × Nat), w.heap[k]? = some (Obj.cells c el fr) := by
  have hb : b < H.length := by rw [← r.len]; exact lt_of_get hk
  cases hx : H[b]'hb with
  | arr g sz es => exact r.cellsOf (by rw [List.getElem?_eq_getElem hb, hx]) hk
  | mp kvs => exact absurd (by rw [List.getElem?_eq_getElem hb, hx]) (hm b kvs)

theorem RV.turn (hw : ∀ (k : Nat) (c : Array Value) (el : TypeId) (fr : Nat × Nat), w.heap[k]? = some (Obj.cells c el fr) → w'.heap[k]? = w.heap[k]?) (hI : ∀ k : Nat, I k → w'.heap[k]? = w.heap[k]?) {v : V} {x : Value} (hv : RV γ H I w v x) : RV γ H I w' v x := by
  induction hv with
  | g hv => exact .g (hv.mono (fun _ h => h) (fun k hk => hI k hk))
  | any => exact .any
  | nil => exact .nil
  | own hb hg hl hc => exact .own hb hg hl (fun e => ⟨(hc e).1, (hc e).2.imp id fun ⟨k, c3, c4, ⟨c, el, fr, c5, c6⟩⟩ => ⟨k, c3, c4, ⟨c, el, fr, by rw [hw k c el fr c5]; exact c5, c6⟩⟩⟩)
  | pa hb hg hc => exact .pa hb hg hc
  | ra k o vs hi hIk hw' hc h1 hr =>
    refine .ra k o vs hi hIk hw' (fun i t ht => ?_) h1 (fun i t ht => (hr i t ht).mono (fun _ h => h) (fun k hk => hI k hk))
    rw [← hc i t ht]; simp [World.cell?, hI k hIk]
  | fn hl _ ih => exact .fn hl ih
  | ag hl h1 _ ih => exact .ag hl h1 ih
  | tu hl _ ih => exact .tu hl ih
  | mp hb hk => exact .mp hb hk
theorem RelH.turn (r : RelH γ I w H) (hm : noMp H) (hs : w.heap.size ≤ w'.heap.size) (hw : ∀ (k : Nat) (c : Array Value) (el : TypeId) (fr : Nat × Nat), w.heap[k]? = some (Obj.cells c el fr) → w'.heap[k]? = w.heap[k]?) : RelH γ I w' H where
  len := r.len
  arr := fun b g sz es hb => by
    rcases r.arr b g sz es hb with h0 | ⟨k, c, el, h1, h2, h3, h4, h5⟩
    · exact .inl h0
    · refine .inr ⟨k, c, el, h1, by rw [hw k c el _ h2]; exact h2, h3, h4, fun i v hv => ?_⟩
      obtain ⟨x, x1, x2, x3⟩ := h5 i v hv
      exact ⟨x, x1, x2, x3.turn hw (fun k hk => by obtain ⟨c, el, fr, h⟩ := r.imm k hk; exact hw k c el fr h)⟩
  mp := fun b kvs hb => absurd hb (hm b kvs)
  inj := r.inj
  off := fun b k hb => ⟨(r.off b k hb).1, Nat.lt_of_lt_of_le (r.off b k hb).2 hs⟩
  imm := r.immx fun k hk => by obtain ⟨c, el, fr, h⟩ := r.imm k hk; exact hw k c el fr h

theorem rf_run {z : Nat} {g : Operand} {p d : Nat} {id : Nat} {ty : TypeId} {ps : String} {af : Array Edge} {body : Code} {wf : Bool} {bs : SC} {t : List V} {h : List Blk} {Q : Exit → St → Prop} {gf : Nat} {caps : List V} {zs : List SV} {vs : List Value} {a : Act}
    (r : Rel γ I w ⟨t, h⟩ a) (he : a.eval g = .func (.func gf) #[] vs.toArray) (hl : vs.length = caps.length) (hc : ∀ (i : Nat) (v : V), caps[i]? = some v → RV γ h I w v (vs.getD i undef))
    (hst : straight body = true) (hb : slimC P wf body = some bs) (hg : Gives P gf caps zs) (hp : p < t.length)
    (Hp : List SV → List Blk) (hm : ∀ pre, noMp (Hp pre)) (h0 : Hp [] = h)
    (hr : ∀ pre y, pre.length < zs.length → AC h.length P bs (fun e _ h' => match e with | .normal => ReH h.length h' (Hp (pre ++ [y])) | _ => False) (setT (setT t p (.g (.sc y.1))) d (.g (.sc y.1))) (Hp pre))
    (hq : Q .normal ⟨t, Hp zs⟩) : (Code.rangeFunc g #[p] (.region id #[⟨some d, .assign (.tmp p), ty, ps, af, none⟩] false) body).wp P (lift z γ I w h a.defers Q) a w := by
  refine (wpIn_wide (n := 2)).1 ?_
  have hcel : ∀ {γ' I' W pre}, RelH γ' I' W (Hp pre) → ∀ k, ((∃ b : Nat, γ'[b]? = some (some k)) ∨ I' k) → ∃ (c : Array Value) (el : TypeId) (fr : Nat × Nat), W.heap[k]? = some (Obj.cells c el fr) := fun r k hk => by
    rcases hk with ⟨b, hk⟩ | hk
    · exact r.cellsAt (hm _) hk
    · exact r.imm k hk
  refine wpIn_rangeFunc_ownG (F := Fence.wide) (n := 2) rfl (by omega) (gf := gf) (lb := vs.toArray) he trivial hg.ok.enter (w0 := w) (hg.run 1 (by omega) γ h I w vs r.heap hl hc)
    (fun h k => fun i hi => (k i hi).trans (h i hi)) (fun W l o o' hl _ _ _ => fun k hk => World.putObj_heap_other (fun e => by have := r.heap.immlt hk; omega)) (Below.refl _ _) (fun _ => rfl)
    (fun pre W => ∃ γ' I', RelH γ' I' W (Hp pre) ∧ ExtM h.length γ h I w γ' (Hp pre) I' W) (fun _ _ _ => False) ?_ (fun _ _ _ _ _ hs _ _ => hs) ⟨γ, I, by rw [h0]; exact r.heap, by rw [h0]; exact ExtM.refl ..⟩
    (fun x => ({ tmps := a.tmps.setIfInBounds p x.1, defers := [] } : Act).put (some d) x.1) ?assign ?body ?done ?stop
  · rintro pre A B row ⟨γ', I', r1, e1⟩ hgr hrow
    have hcs : ∀ (k : Nat) (c : Array Value) (el : TypeId) (fr : Nat × Nat), A.heap[k]? = some (Obj.cells c el fr) → B.heap[k]? = A.heap[k]? := fun k c el fr hk => hgr.block k (Array.getElem?_eq_some_iff.1 hk).1 (fun e => by
      obtain ⟨_, o, ho, hoc⟩ := hrow k e.symm
      rw [hk] at ho; cases ho; cases hoc)
    refine ⟨γ', I', r1.turn (hm _) hgr.size hcs, ?_⟩
    exact {
      os := hgr.os.trans e1.os, tape := hgr.tape.trans e1.tape, output := hgr.output.trans e1.output, size := Nat.le_trans e1.size hgr.size
      sub := e1.sub, sub' := e1.sub'
      frame := fun k hk hb => by rw [hgr.block k (Nat.lt_of_lt_of_le hk e1.size) (fun e => by have := (hrow k e.symm).1; omega)]; exact e1.frame k hk hb
      rows := fun k n hr => by obtain ⟨c, el, fr, h1, h2⟩ := e1.rows k n hr; exact ⟨c, el, fr, by rw [hcs k c el fr h1]; exact h1, h2⟩
      blk := e1.blk, new := e1.new }
  case assign =>
    intro l x W K hK
    have hlt : p < a.tmps.size := by rw [r.size]; exact hp
    refine wpIn_region_list ?_
    simp only [wpListIn]
    rw [if_pos (by simp [Region.wanted])]
    refine ⟨fun _ _ => trivial, ?_⟩
    have e0 : ((#[p] : Array Tmp).zip #[x.1]).foldl (fun t (p, v) => t.setIfInBounds p v) a.tmps = a.tmps.setIfInBounds p x.1 := by simp
    rw [e0]
    have e : Oper.semAt (Fence.wide.inRound l).round (Act.eval { tmps := a.tmps.setIfInBounds p x.1, defers := [] }) ⟨some d, .assign (.tmp p), ty, ps, af, none⟩ = execOp _ _ := Oper.semAt_some l _ _ (by simp)
    rw [e]
    have e2 : (execOp (Act.eval { tmps := a.tmps.setIfInBounds p x.1, defers := [] }) ⟨some d, .assign (.tmp p), ty, ps, af, none⟩).run P W = .ok (.value x.1) W := by
      simp [execOp, Act.eval, hlt]
    rw [e2]
    exact hK
  case body =>
    rintro l pre x W ⟨γ', I', r1, e1⟩ hlen
    have r0 : Rel γ' I' W ⟨t, Hp pre⟩ { tmps := a.tmps, defers := [] } := ⟨.none, r.size, fun i v hv => (r.tmps i v hv).mono e1.full r.heap, r1⟩
    have r2 := rel_put r0 (Ext.refl ..) r1 (d := some p) (v := .g (.sc x.1)) (x := x.1) (.g (.sc x.2))
    have r3 := rel_put r2 (Ext.refl ..) r1 (d := some d) (v := .g (.sc x.1)) (x := x.1) (.g (.sc x.2))
    refine wpIn_mono (AC_in hst hb (hr pre x hlen) γ' I' W _ r3) ?_
    rintro e a2 W2 ⟨s2, γ2, I2, q, r4, e4, _⟩
    cases e with
    | normal =>
      obtain ⟨γ3, I3, r5, e5⟩ := q γ2 I2 W2 r4.heap
      refine ⟨⟨e4.size, fun k o _ hk ho => ?_⟩, fun k hk => e4.immM r1 (e1.sub k hk), γ3, I3, r5, e1.trans (e4.trans e5)⟩
      rw [e4.frame k (Array.getElem?_eq_some_iff.1 hk).1 (fun b hb => by
        obtain ⟨c, el, fr, h⟩ := hcel r1 k (.inl ⟨b, hb⟩)
        rw [hk] at h; cases h; cases ho)]
      exact hk
    | _ => exact q.elim
  case done =>
    rintro D ys W hD rfl ⟨γ', I', r1, e1⟩ hK
    have hDn : ¬ ((∃ b : Nat, γ'[b]? = some (some D)) ∨ I' D) := fun h => by
      obtain ⟨c, el, fr, h⟩ := hcel r1 D h
      rw [hK] at h; cases h
    obtain ⟨Ds, d1, d2, d3⟩ := (r.defers.extM e1).ex
    obtain ⟨Ds0, f1, f2, f3⟩ := r.defers.ex
    have hinj : Ds = Ds0 := by
      have : Ds.map mkD = Ds0.map mkD := by rw [← d1, ← f1]
      exact (List.map_inj_right (fun x y h => by simpa [mkD] using h)).1 this
    subst hinj
    refine ⟨⟨t, Hp ys⟩, γ', I', hq, ⟨⟨D :: Ds, ?_, List.nodup_cons.2 ⟨fun hm => ?_, d2⟩, fun D' hD' => ?_⟩, r.size, fun i v hv => (r.tmps i v hv).mono e1.full r.heap, r1⟩, e1.full.toM, fun x hx => ?_⟩
    · show mkD D :: a.defers = _
      rw [d1]; rfl
    · have := (f3 D hm).1; omega
    · rcases List.mem_cons.1 hD' with rfl | h
      · exact ⟨(Array.getElem?_eq_some_iff.1 hK).1, hK, fun h => hDn (.inr h), fun b hb => hDn (.inl ⟨b, hb⟩)⟩
      · exact d3 D' h
    · rcases List.mem_cons.1 hx with rfl | h
      · exact .inr ⟨D, rfl, hD⟩
      · exact .inl h
  case stop =>
    rintro D c pre W _ _ hf
    exact hf.elim

/-- THE STATEMENT: a loop over what an iterator gives; its body turns the heap, as told -/
theorem SW.rf {z : Nat} {x : X} {p d : Nat} {bs : SC} {Q : Exit → St → Prop} {t : List V} {h : List Blk} {gf : Nat} {caps : List V} (zs : List SV) (hx : x.ev t = .fn gf caps) (hg : Gives P gf caps zs) (hp : p < t.length)
    (Hp : List SV → List Blk) (hm : ∀ pre, noMp (Hp pre)) (h0 : Hp [] = h)
    (hr : ∀ pre y, pre.length < zs.length → AC h.length P bs (fun e _ h' => match e with | .normal => ReH h.length h' (Hp (pre ++ [y])) | _ => False) (setT (setT t p (.g (.sc y.1))) d (.g (.sc y.1))) (Hp pre))
    (hq : Q .normal ⟨t, Hp zs⟩) : SW z P (.rf x p d bs) Q ⟨t, h⟩ := by
  refine ⟨fun wf code hc => ?_⟩
  cases code with
  | rangeFunc g ps a body =>
    obtain ⟨⟨p', d'⟩, hv, hc⟩ := Option.bind_eq_some_iff.1 hc
    split at hc
    · rename_i hst
      obtain ⟨x', h1, hc⟩ := Option.bind_eq_some_iff.1 hc
      obtain ⟨bs', h2, hc⟩ := Option.map_eq_some_iff.1 hc
      cases hc
      unfold rfVars at hv
      split at hv
      · split at hv
        · rename_i e
          subst e
          cases hv
          intro γ I w a r
          have hev := slimX_ok h1 r
          rw [hx] at hev
          generalize he : a.eval g = v at hev
          cases hev with
          | fn hl hc => exact rf_run r he hl hc hst h2 hg hp Hp hm h0 hr hq
        · cases hv
      · cases hv
    · cases hc
  | region _ _ d =>
    cases d with
    | false => simp [slimC] at hc
    | true =>
      obtain ⟨_, _, hc⟩ := Option.bind_eq_some_iff.1 hc
      obtain ⟨_, _, hc⟩ := Option.map_eq_some_iff.1 hc
      cases hc
  | seq x y => obtain ⟨_, _, hc⟩ := Option.bind_eq_some_iff.1 hc; obtain ⟨_, _, hc⟩ := Option.map_eq_some_iff.1 hc; cases hc
  | cond c x y => obtain ⟨_, _, hc⟩ := Option.bind_eq_some_iff.1 hc; obtain ⟨_, _, hc⟩ := Option.bind_eq_some_iff.1 hc; obtain ⟨_, _, hc⟩ := Option.map_eq_some_iff.1 hc; cases hc
  | block id x => obtain ⟨_, _, hc⟩ := Option.map_eq_some_iff.1 hc; cases hc
  | scope x => obtain ⟨_, _, hc⟩ := Option.map_eq_some_iff.1 hc; cases hc
  | loop x => obtain ⟨_, _, hc⟩ := Option.map_eq_some_iff.1 hc; cases hc
  | _ => simp [slimC] at hc
end
end Go.Aw
namespace Go.Aw

section
variable {n d : Nat} {γ : List (Option Nat)} {H : List Blk} {I I1 : Nat → Prop} {w : World}

/-- a row's cells as data -/
theorem row_data (r : RelH γ I w H) (hI : ∀ k, I k → I1 k) (hL : ∀ (b k g sz : Nat) (es : List V), n ≤ b → H[b]? = some (.arr g sz es) → γ[b]? = some (some k) → I1 k)
    {sz : Nat} {es : List V} {ts : List T} {c : Array Value} (hg : optL (es.map (gr n H d)) = some ts) (hwf : ∀ e ∈ es, e.cells.length = sz)
    (hcells : ∀ (i : Nat) (v : V), (flatV es)[i]? = some v → ∃ x : Value, c[i]? = some x ∧ x.oneCell' = true ∧ RV γ H I w v x) :
    (∀ e ∈ ts, e.cells.length = sz) ∧ ∀ (i : Nat) (t : T), (flatT ts)[i]? = some t → ∃ x, c[i]? = some x ∧ x.oneCell' = true ∧ RT I1 w t x := by
  have hts := optL_some hg
  have hget : ∀ (q : Nat) (tq : T), ts[q]? = some tq → ∃ e, es[q]? = some e ∧ gr n H d e = some tq := by
    intro q tq hq
    have h2 := congrArg (·[q]?) hts
    simp only [List.getElem?_map, hq, Option.map_some] at h2
    cases he : es[q]? with
    | none => rw [he] at h2; simp at h2
    | some e => rw [he] at h2; simp at h2; exact ⟨e, rfl, h2⟩
  have hwt : ∀ e ∈ ts, e.cells.length = sz := by
    intro e he
    obtain ⟨q, hq, rfl⟩ := List.getElem_of_mem he
    obtain ⟨e', he', hge⟩ := hget q ts[q] (by simp [hq])
    rw [(gr_cells hge).1]; exact hwf _ (List.mem_of_getElem? he')
  refine ⟨hwt, fun i t' hi => ?_⟩
  have hi' : i < ts.length * sz := by rw [← flatT_len hwt]; exact (List.getElem?_eq_some_iff.1 hi).1
  obtain ⟨s1, s2, s3⟩ := flat_split hi'
  rw [s3, flatT_get hwt (i / sz) ts[i / sz] (by simp [s1]) (i % sz) s2] at hi
  obtain ⟨e, he, hge⟩ := hget (i / sz) ts[i / sz] (by simp [s1])
  obtain ⟨vc, d', hvc, hd', hg'⟩ := (gr_cells hge).2 _ _ hi
  have hfl := flatV_get hwf (i / sz) e he (i % sz) s2
  rw [hvc, ← s3] at hfl
  obtain ⟨x, hx, hone, hrv⟩ := hcells _ _ hfl
  exact ⟨x, hx, hone, gr_sound r hI hL d' vc t' x hg' hrv⟩

theorem pa_ra (r : RelH γ I w H) (hI : ∀ k, I k → I1 k) (hL : ∀ (b k g sz : Nat) (es : List V), n ≤ b → H[b]? = some (.arr g sz es) → γ[b]? = some (some k) → I1 k)
    {b g i off sz : Nat} {es : List V} {ts : List T} {x : Value} (hb : H[b]? = some (.arr g sz es)) (hn : n ≤ b) (hg : optL (es.map (gr n H d)) = some ts) (hv : RV γ H I w (.pa b g i off) x) {γ2 : List (Option Nat)} {H2 : List Blk} :
    RV γ2 H2 I1 w (.ra sz ts i off) x := by
  cases hv with
  | @pa _ _ g' sz' _ _ es' a hb' hgg hc =>
  rw [hb] at hb'; cases hb'
  obtain ⟨hi, k, hk, rfl⟩ := hc rfl
  rcases r.arr _ _ _ _ hb with ⟨h0, _⟩ | ⟨k', c, el, hk', hh, hwf, _, hcells⟩
  · rw [h0] at hk; cases hk
  · rw [hk] at hk'; cases hk'
    obtain ⟨h1, h2⟩ := row_data r hI hL hg hwf hcells
    have hlen : es.length = ts.length := by simpa using congrArg List.length (optL_some hg)
    have := RV.ra (γ := γ2) (H := H2) (I := I1) (w := w) (sz := sz) (es := ts) (i := i) (off := off) k 0 (fun i => c.getD i undef) (by omega) (hL _ _ _ _ _ hn hb hk) h1
      (fun j t ht => by obtain ⟨x, hx, _⟩ := h2 j t ht; simp [World.cell?, hh, hx])
      (fun j t ht => by obtain ⟨x, hx, ho, _⟩ := h2 j t ht; simp [hx, ho])
      (fun j t ht => by obtain ⟨x, hx, _, hr⟩ := h2 j t ht; simpa [hx] using hr)
    rw [Nat.zero_add] at this
    exact this
end

/-- a value out of a heap that is let go -/
def grV (n : Nat) (h : List Blk) (d : Nat) : V → Option V
  | .pa b g i off => match h[b]? with
    | some (.arr g' sz es) => if n ≤ b ∧ g = g' then (optL (es.map (gr n h d))).map fun ts => .ra sz ts i off else none
    | _ => none
  | .any => some .any
  | .ra sz es i off => some (.ra sz es i off)
  | v => (gr n h d v).map .g

theorem grV_ok {n d : Nat} {γ γ2 : List (Option Nat)} {H H2 : List Blk} {I I1 : Nat → Prop} {w : World} (r : RelH γ I w H) (hI : ∀ k, I k → I1 k) (hL : ∀ (b k g sz : Nat) (es : List V), n ≤ b → H[b]? = some (.arr g sz es) → γ[b]? = some (some k) → I1 k)
    {v v' : V} {x : Value} (hg : grV n H d v = some v') (hv : RV γ H I w v x) : RV γ2 H2 I1 w v' x := by
  have gen : ∀ {v : V}, (gr n H d v).map V.g = some v' → RV γ H I w v x → RV γ2 H2 I1 w v' x := fun hg hv => by
    obtain ⟨t, h1, rfl⟩ := Option.map_eq_some_iff.1 hg
    exact .g (gr_sound r hI hL d _ t x h1 hv)
  cases v with
  | pa b g i off =>
    simp only [grV] at hg
    split at hg
    · rename_i hb
      split at hg
      · rename_i hc
        obtain ⟨hn, rfl⟩ := hc
        obtain ⟨ts, h1, rfl⟩ := Option.map_eq_some_iff.1 hg
        exact pa_ra r hI hL hb hn h1 hv
      · cases hg
    · cases hg
  | any => cases hg; exact .any
  | ra sz es i off =>
    cases hg
    cases hv with
    | ra k o vs hi hIk hw hc h1 hr => exact .ra k o vs hi (hI _ hIk) hw hc h1 (fun i t ht => (hr i t ht).mono hI (fun _ _ => rfl))
  | _ => exact gen hg hv

/-- a function value: what it has captured is immutable from now on -/
theorem Ends.closure {H L : List Blk} {R : V → List Blk → Prop} {f : Nat} {cs cs' : List V} (d : Nat) (hg : optL (cs.map (grV H.length (H ++ L) d)) = some cs') (h : R (.fn f cs') H) : Ends H R (.fn f cs) (H ++ L) :=
  Ends.drop rfl (fun _ _ hx => .inr hx) (fun γ I I1 w x r hI hL hx => by
    have hts := optL_some hg
    have hlen : cs.length = cs'.length := by simpa using congrArg List.length hts
    cases hx with
    | fn hl hr =>
      refine .fn (by omega) (fun i t ht => ?_)
      have h2 := congrArg (·[i]?) hts
      simp only [List.getElem?_map, ht, Option.map_some] at h2
      cases he : cs[i]? with
      | none => rw [he] at h2; simp at h2
      | some e =>
        rw [he] at h2; simp at h2
        exact grV_ok r hI hL h2 (hr i e he)) h

/- BLOCKS ARE LET GO -/
def VG (n : Nat) (H : List Blk) (d : Nat) (v v' : V) : Prop := v' = .any ∨ (v' = v ∧ v.lt n) ∨ grV n H d v = some v'
def BG (n : Nat) (H : List Blk) (d : Nat) (x x' : Blk) : Prop := (x' = x ∧ x.lt n) ∨ ∃ g sz es ts, x = .arr g sz es ∧ x' = .arr g sz (ts.map V.g) ∧ optL (es.map (gr n H d)) = some ts
def dropT (n : Nat) (H : List Blk) (d : Nat) : List V → List V → Prop
  | [], [] => True
  | x :: xs, y :: ys => VG n H d x y ∧ dropT n H d xs ys
  | _, _ => False
def dropH (n : Nat) (H : List Blk) (d : Nat) : List Blk → List Blk → Prop
  | [], [] => True
  | x :: xs, y :: ys => BG n H d x y ∧ dropH n H d xs ys
  | _, _ => False
theorem dropT_ok {n : Nat} {H : List Blk} {d : Nat} : ∀ {xs ys : List V}, dropT n H d xs ys → xs.length = ys.length ∧ ∀ (i : Nat) (v' : V), ys[i]? = some v' → ∃ v, xs[i]? = some v ∧ VG n H d v v'
  | [], [], _ => ⟨rfl, fun i v h => by simp at h⟩
  | x :: xs, y :: ys, h => by
    obtain ⟨h1, h2⟩ := dropT_ok h.2
    refine ⟨by simp [h1], fun i v hi => ?_⟩
    cases i with
    | zero => simp at hi; subst hi; exact ⟨x, rfl, h.1⟩
    | succ i => simp at hi; simpa using h2 i v hi
theorem dropH_ok {n : Nat} {H : List Blk} {d : Nat} : ∀ {xs ys : List Blk}, dropH n H d xs ys → xs.length = ys.length ∧ ∀ (i : Nat) (v' : Blk), ys[i]? = some v' → ∃ v, xs[i]? = some v ∧ BG n H d v v'
  | [], [], _ => ⟨rfl, fun i v h => by simp at h⟩
  | x :: xs, y :: ys, h => by
    obtain ⟨h1, h2⟩ := dropH_ok h.2
    refine ⟨by simp [h1], fun i v hi => ?_⟩
    cases i with
    | zero => simp at hi; subst hi; exact ⟨x, rfl, h.1⟩
    | succ i => simp at hi; simpa using h2 i v hi

theorem ReH.drop {z d : Nat} {H2 H3 L : List Blk} (hz : z ≤ H2.length) (hb : dropH H2.length (H2 ++ L) d H2 H3) {γ : List (Option Nat)} {I : Nat → Prop} {w : World} (r : RelH γ I w (H2 ++ L)) :
    RelH (γ.take H2.length) (frz I γ (H2 ++ L) H2.length) w H3 ∧ ExtM z γ (H2 ++ L) I w (γ.take H2.length) H3 (frz I γ (H2 ++ L) H2.length) w ∧
      ∀ (v v' : V) (x : Value), VG H2.length (H2 ++ L) d v v' → RV γ (H2 ++ L) I w v x → RV (γ.take H2.length) H3 (frz I γ (H2 ++ L) H2.length) w v' x := by
  obtain ⟨hl, hb⟩ := dropH_ok hb
  have hI : ∀ k, I k → frz I γ (H2 ++ L) H2.length k := fun k hk => .inl hk
  have hL : ∀ (b k g sz : Nat) (es : List V), H2.length ≤ b → (H2 ++ L)[b]? = some (.arr g sz es) → γ[b]? = some (some k) → frz I γ (H2 ++ L) H2.length k := fun b k g sz es h1 h2 h3 => .inr ⟨b, g, sz, es, h1, h2, h3⟩
  -- the kept block's shape
  have hshape : ∀ b x', H3[b]? = some x' → ∃ x, (H2 ++ L)[b]? = some x ∧ b < H2.length ∧ BG H2.length (H2 ++ L) d x x' := fun b x' hx => by
    obtain ⟨x, h1, h2⟩ := hb b x' hx
    have hlt := lt_of_get h1
    exact ⟨x, by rw [List.getElem?_append_left hlt]; exact h1, hlt, h2⟩
  have hinv : ∀ b x, b < H2.length → (H2 ++ L)[b]? = some x → ∃ x', H3[b]? = some x' ∧ BG H2.length (H2 ++ L) d x x' := fun b x hlt hx => by
    have h3 : H3[b]? = some (H3[b]'(by omega)) := by simp
    obtain ⟨y, h1, _, h2⟩ := hshape b _ h3
    rw [hx] at h1; cases h1
    exact ⟨_, h3, h2⟩
  have keep : ∀ {v : V} {x : Value}, v.lt H2.length → RV γ (H2 ++ L) I w v x → RV (γ.take H2.length) H3 (frz I γ (H2 ++ L) H2.length) w v x := by
    intro v x hv h
    induction h with
    | g h => exact .g (h.mono hI (fun _ _ => rfl))
    | any => exact .any
    | nil => exact .nil
    | @own b g g' sz off len cap es a hb1 hg hl1 hc =>
      cases hv with | own hlt =>
      obtain ⟨x', hx', hbg⟩ := hinv b _ hlt hb1
      rcases hbg with ⟨rfl, _⟩ | ⟨_, _, _, ts, e1, rfl, e3⟩
      · refine .own hx' hg hl1 (fun e => ⟨(hc e).1, ?_⟩)
        rw [List.getElem?_take, if_pos hlt]; exact (hc e).2
      · cases e1
        have hlen : es.length = ts.length := by simpa using congrArg List.length (optL_some e3)
        refine .own hx' hg hl1 (fun e => ⟨by have := (hc e).1; simp; omega, ?_⟩)
        rw [List.getElem?_take, if_pos hlt]; exact (hc e).2
    | @pa b g g' sz i off es a hb1 hg hc =>
      cases hv with | pa hlt =>
      obtain ⟨x', hx', hbg⟩ := hinv b _ hlt hb1
      rcases hbg with ⟨rfl, _⟩ | ⟨_, _, _, ts, e1, rfl, e3⟩
      · refine .pa hx' hg (fun e => ⟨(hc e).1, ?_⟩)
        rw [List.getElem?_take, if_pos hlt]; exact (hc e).2
      · cases e1
        have hlen : es.length = ts.length := by simpa using congrArg List.length (optL_some e3)
        refine .pa hx' hg (fun e => ⟨by have := (hc e).1; simp; omega, ?_⟩)
        rw [List.getElem?_take, if_pos hlt]; exact (hc e).2
    | ra k o vs hi hIk hw hc h1 hr => exact .ra k o vs hi (hI _ hIk) hw hc h1 (fun i t ht => (hr i t ht).mono hI (fun _ _ => rfl))
    | fn hl _ ih => cases hv with | fn hh => exact .fn hl (fun i t ht => ih i t ht (hh i t ht))
    | ag hl h1 _ ih => cases hv with | ag hh => exact .ag hl h1 (fun i t ht => ih i t ht (hh i t ht))
    | tu hl _ ih => cases hv with | tu hh => exact .tu hl (fun i t ht => ih i t ht (hh i t ht))
    | @mp b k kvs hb1 hk =>
      cases hv with | mp hlt =>
      obtain ⟨x', hx', hbg⟩ := hinv b _ hlt hb1
      rcases hbg with ⟨rfl, _⟩ | ⟨_, _, _, ts, e1, _, _⟩
      · exact .mp hx' (by rw [List.getElem?_take, if_pos hlt]; exact hk)
      · cases e1
  refine ⟨⟨by have := r.len; simp at this ⊢; omega, fun b g sz es hx => ?_, fun b kvs hx => ?_, fun b b' k h1 h2 => ?_, fun b k h1 => ?_, fun k hk => ?_⟩, ⟨rfl, rfl, rfl, Nat.le_refl _, hI, fun k hk => ?_, fun _ _ _ => rfl, fun _ _ h => h, fun b x hz1 hx => ?_, fun b k hk => ?_⟩, fun v v' x hvg hv => ?_⟩
  · obtain ⟨x, h1, hlt, hbg⟩ := hshape b _ hx
    rcases hbg with ⟨rfl, hlt2⟩ | ⟨g2, sz2, es2, ts, rfl, e2, e3⟩
    · rcases r.arr b g sz es h1 with ⟨q1, q2⟩ | ⟨k, c, el, q1, q2, q3, q4, q5⟩
      · exact .inl ⟨by rw [List.getElem?_take, if_pos hlt]; exact q1, q2⟩
      · refine .inr ⟨k, c, el, by rw [List.getElem?_take, if_pos hlt]; exact q1, q2, q3, q4, fun i v hv => ?_⟩
        obtain ⟨x, y1, y2, y3⟩ := q5 i v hv
        exact ⟨x, y1, y2, keep (hlt2 i v hv) y3⟩
    · cases e2
      have hlen : es2.length = ts.length := by simpa using congrArg List.length (optL_some e3)
      rcases r.arr b g sz es2 h1 with ⟨q1, q2⟩ | ⟨k, c, el, q1, q2, q3, q4, q5⟩
      · refine .inl ⟨by rw [List.getElem?_take, if_pos hlt]; exact q1, ?_⟩
        subst q2
        simp at hlen
        rw [List.eq_nil_of_length_eq_zero hlen.symm]; rfl
      · obtain ⟨y1, y2⟩ := row_data r hI hL e3 q3 q5
        refine .inr ⟨k, c, el, by rw [List.getElem?_take, if_pos hlt]; exact q1, q2, fun e he => ?_, by simp; rw [← hlen]; exact q4, fun i v hv => ?_⟩
        · obtain ⟨t, ht, rfl⟩ := List.mem_map.1 he
          simpa [V.cells] using y1 t ht
        · have : flatV (ts.map V.g) = (flatT ts).map V.g := by
            simp [flatV, flatT, List.flatMap_map, List.map_flatMap, V.cells]
          rw [this, List.getElem?_map] at hv
          obtain ⟨t, ht, rfl⟩ := Option.map_eq_some_iff.1 hv
          obtain ⟨x, k1, k2, k3⟩ := y2 i t ht
          exact ⟨x, k1, k2, .g k3⟩
  · obtain ⟨x, h1, hlt, hbg⟩ := hshape b _ hx
    rcases hbg with ⟨rfl, _⟩ | ⟨_, _, _, ts, _, e2, _⟩
    · obtain ⟨k, es, cl, q1, q2⟩ := r.mp b kvs h1
      exact ⟨k, es, cl, by rw [List.getElem?_take, if_pos hlt]; exact q1, q2⟩
    · cases e2
  · rw [List.getElem?_take] at h1 h2
    split at h1 <;> split at h2 <;> first | exact r.inj b b' k h1 h2 | simp at h1 | simp at h2
  · rw [List.getElem?_take] at h1
    split at h1
    · rename_i hlt
      refine ⟨fun h => ?_, (r.off b k h1).2⟩
      rcases h with h | ⟨b', _, _, _, hb', _, hk⟩
      · exact (r.off b k h1).1 h
      · have := r.inj b b' k h1 hk; omega
    · simp at h1
  · rcases hk with hk | ⟨b, g, sz, es, _, h2, h3⟩
    · exact r.imm k hk
    · exact r.cellsOf h2 h3
  · rcases hk with hk | ⟨b, _, _, _, _, _, hk⟩
    · exact .inl hk
    · exact .inr (.inr ⟨b, hk⟩)
  · obtain ⟨x', hx', hbg⟩ := hinv b x (by omega) hx
    refine ⟨x', hx', ?_⟩
    rcases hbg with ⟨rfl, _⟩ | ⟨g2, sz2, es2, ts, rfl, rfl, e3⟩
    · exact ⟨x'.upto_refl, fun _ => ⟨by rw [List.getElem?_take, if_pos (by omega)], fun g sz es es' h1 h2 => by subst h1; cases h2; exact Nat.le_refl _⟩⟩
    · have hlen : es2.length = ts.length := by simpa using congrArg List.length (optL_some e3)
      exact ⟨by simp [Blk.upto], fun _ => ⟨by rw [List.getElem?_take, if_pos (by omega)], fun g sz es es' h1 h2 => by cases h1; cases h2; simp; omega⟩⟩
  · rw [List.getElem?_take] at hk
    split at hk
    · exact .inr ⟨b, hk⟩
    · simp at hk
  · rcases hvg with rfl | ⟨rfl, h⟩ | h
    · exact .any
    · exact keep h hv
    · exact grV_ok r hI hL h hv

/-- the blocks behind are let go; what is left of them is immutable data -/
theorem Refi.drop {z : Nat} {t t' : List V} {H2 H3 L : List Blk} (d : Nat) (hz : z ≤ H2.length) (hb : dropH H2.length (H2 ++ L) d H2 H3) (ht : dropT H2.length (H2 ++ L) d t t') : Refi z ⟨t, H2 ++ L⟩ ⟨t', H3⟩ := fun γ I w a r => by
  obtain ⟨h1, h2, h3⟩ := ReH.drop hz hb r.heap
  obtain ⟨hl, ht⟩ := dropT_ok ht
  refine ⟨_, _, ⟨r.defers.extM h2, by rw [r.size]; exact hl, fun i v' hv => ?_, h1⟩, h2⟩
  obtain ⟨v, hv1, hvg⟩ := ht i v' hv
  exact h3 v v' _ hvg (r.tmps i v hv1)

/-- the loop over an iterator, its last state told otherwise -/
theorem SW.rfR {P : Program} {z : Nat} {x : X} {p d : Nat} {bs : SC} {Q : Exit → St → Prop} {t : List V} {h : List Blk} {gf : Nat} {caps : List V} (zs : List SV) (hx : x.ev t = .fn gf caps) (hg : Gives P gf caps zs) (hp : p < t.length)
    (Hp : List SV → List Blk) (hm : ∀ pre, noMp (Hp pre)) (h0 : Hp [] = h)
    (hr : ∀ pre y, pre.length < zs.length → AC h.length P bs (fun e _ h' => match e with | .normal => ReH h.length h' (Hp (pre ++ [y])) | _ => False) (setT (setT t p (.g (.sc y.1))) d (.g (.sc y.1))) (Hp pre))
    (s' : St) (hs : Refi z ⟨t, Hp zs⟩ s') (hq : Q .normal s') : SW z P (.rf x p d bs) Q ⟨t, h⟩ :=
  ⟨fun wf c hc => by
    have h1 := (SW.rf (z := z) (Q := fun e s => ∃ s', Refi z s s' ∧ Q e s') zs hx hg hp Hp hm h0 hr ⟨s', hs, hq⟩).run wf c hc
    intro γ I w a r
    refine wp_mono (h1 γ I w a r) fun e a2 w2 ⟨s1, γ1, I1, ⟨s2, k1, k2⟩, k3, k4, k5⟩ => ?_
    obtain ⟨γ2, I2, q1, q2⟩ := k1 γ1 I1 w2 a2 k3
    exact ⟨s2, γ2, I2, k2, q1, k4.trans q2, k5⟩⟩
end Go.Aw
namespace Go.Aw

/-- a value that names no block from n on -/
def ltS (n : Nat) : V → Bool
  | .g _ | .nil _ | .any | .ra .. => true
  | .own b _ _ _ | .pa b _ _ _ | .mp b => decide (b < n)
  | _ => false
def ltB (n : Nat) : V → Bool
  | .fn _ cs | .ag cs | .tu cs => cs.all (ltS n)
  | v => ltS n v
def cutV (n : Nat) (v : V) : V := match ltB n v with
  | true => v
  | false => .any
theorem ltS_ok {n : Nat} {v : V} (h : ltS n v = true) : v.lt n := by
  cases v <;> simp [ltS] at h
  · exact .g
  · exact .nil
  · exact .own h
  · exact .pa h
  · exact .ra
  · exact .mp h
  · exact .any
theorem ltB_ok {n : Nat} {v : V} (h : ltB n v = true) : v.lt n := by
  have all : ∀ {cs : List V}, cs.all (ltS n) = true → ∀ (i : Nat) (u : V), cs[i]? = some u → u.lt n := fun h i u hu => ltS_ok (List.all_eq_true.1 h u (List.mem_of_getElem? hu))
  cases v with
  | fn f cs => exact .fn (all h)
  | ag cs => exact .ag (all h)
  | tu cs => exact .tu (all h)
  | _ => exact ltS_ok h
theorem cut_ok {n : Nat} {H : List Blk} {d : Nat} : ∀ (t : List V), dropT n H d t (t.map (cutV n))
  | [] => trivial
  | v :: t => by
    refine ⟨?_, cut_ok t⟩
    unfold cutV
    split
    · rename_i h; exact .inr (.inl ⟨rfl, ltB_ok h⟩)
    · exact .inl rfl
theorem dropH_same {n : Nat} {H : List Blk} {d : Nat} : ∀ {h : List Blk}, (∀ x ∈ h, x.lt n) → dropH n H d h h
  | [], _ => trivial
  | x :: h, hx => ⟨.inl ⟨rfl, hx x (by simp)⟩, dropH_same fun y hy => hx y (by simp [hy])⟩

/-- AT A LOOP'S BACK EDGE: what the round has made of its own is let go -/
theorem Refi.back {z : Nat} {t t' : List V} {H H' L : List Blk} (hH : H = H' ++ L) (hz : z ≤ H'.length) (hl : ∀ x ∈ H', x.lt H'.length) (hs : subT (t.map (cutV H'.length)) t') : Refi z ⟨t, H⟩ ⟨t', H'⟩ := by
  subst hH
  exact (Refi.drop 0 hz (dropH_same hl) (cut_ok t)).trans (Refi.sub rfl hs)
theorem lt_all1 {n : Nat} {x : Blk} (h : x.lt n) : ∀ y ∈ [x], y.lt n := fun y hy => by simp at hy; subst hy; exact h
theorem lt_all2 {n : Nat} {x y : Blk} (h : x.lt n) (k : y.lt n) : ∀ u ∈ [x, y], u.lt n := fun u hu => by
  simp at hu
  rcases hu with rfl | rfl
  · exact h
  · exact k
end Go.Aw
namespace Go.Aw

/- WHAT IS GIVEN TO A CALL FOR GOOD: its blocks are dead from then on, their memory immutable -/
def deadB : Blk → Blk
  | .arr g sz _ => .arr (g + 1) sz []
  | .mp kvs => .mp kvs
def killH : Nat → List Blk → List Blk
  | _, [] => []
  | 0, x :: h => deadB x :: killH 0 h
  | n + 1, x :: h => x :: killH n h
def killG : Nat → List (Option Nat) → List (Option Nat)
  | _, [] => []
  | 0, _ :: h => none :: killG 0 h
  | n + 1, x :: h => x :: killG n h
theorem killH_get : ∀ (n : Nat) (h : List Blk) (b : Nat), (killH n h)[b]? = if b < n then h[b]? else (h[b]?).map deadB
  | _, [], b => by simp [killH]
  | 0, x :: h, 0 => by simp [killH]
  | 0, x :: h, b + 1 => by simp only [killH, List.getElem?_cons_succ]; rw [killH_get 0 h b]; simp
  | n + 1, x :: h, 0 => by simp [killH]
  | n + 1, x :: h, b + 1 => by simp only [killH, List.getElem?_cons_succ]; rw [killH_get n h b]; simp
theorem killG_get : ∀ (n : Nat) (h : List (Option Nat)) (b : Nat), (killG n h)[b]? = if b < n then h[b]? else (h[b]?).map fun _ => none
  | _, [], b => by simp [killG]
  | 0, x :: h, 0 => by simp [killG]
  | 0, x :: h, b + 1 => by simp only [killG, List.getElem?_cons_succ]; rw [killG_get 0 h b]; simp
  | n + 1, x :: h, 0 => by simp [killG]
  | n + 1, x :: h, b + 1 => by simp only [killG, List.getElem?_cons_succ]; rw [killG_get n h b]; simp
theorem killH_len : ∀ (n : Nat) (h : List Blk), (killH n h).length = h.length
  | _, [] => rfl
  | 0, x :: h => by simp [killH, killH_len 0 h]
  | n + 1, x :: h => by simp [killH, killH_len n h]
theorem killG_len : ∀ (n : Nat) (h : List (Option Nat)), (killG n h).length = h.length
  | _, [] => rfl
  | 0, x :: h => by simp [killG, killG_len 0 h]
  | n + 1, x :: h => by simp [killG, killG_len n h]

theorem kill_ok {γ : List (Option Nat)} {H : List Blk} {I : Nat → Prop} {w : World} (r : RelH γ I w H) (hm : noMp H) (n : Nat) :
    RelH (killG n γ) (frz I γ H n) w (killH n H) ∧ Ext γ H I w (killG n γ) (killH n H) (frz I γ H n) w := by
  have hx : Ext γ H I w (killG n γ) (killH n H) (frz I γ H n) w := {
    os := rfl, tape := rfl, output := rfl, size := Nat.le_refl _
    sub := fun k hk => .inl hk
    sub' := fun k hk => by
      rcases hk with hk | ⟨b, _, _, _, _, _, hk⟩
      · exact .inl hk
      · exact .inr (.inr ⟨b, hk⟩)
    frame := fun _ _ _ => rfl
    rows := fun _ _ h => h
    blk := fun b x hb => by
      rcases Nat.lt_or_ge b n with hlt | hge
      · exact ⟨x, by rw [killH_get, if_pos hlt]; exact hb, x.upto_refl, fun _ => ⟨by rw [killG_get, if_pos hlt], fun g sz es es' h1 h2 => by subst h1; cases h2; exact Nat.le_refl _⟩⟩
      · cases x with
        | mp kvs => exact absurd hb (hm b kvs)
        | arr g sz es => exact ⟨.arr (g + 1) sz [], by rw [killH_get, if_neg (by omega), hb]; rfl, by simp [Blk.upto], fun e => by simp [Blk.same] at e⟩
    new := fun b k hk => by
      rw [killG_get] at hk
      split at hk
      · exact .inr ⟨b, hk⟩
      · cases h : γ[b]? <;> rw [h] at hk <;> simp at hk }
  refine ⟨⟨by rw [killH_len, killG_len, r.len], fun b g sz es hb => ?_, fun b kvs hb => ?_, fun b b' k h1 h2 => ?_, fun b k h1 => ?_, fun k hk => ?_⟩, hx⟩
  · rw [killH_get] at hb
    split at hb
    · rename_i hlt
      rcases r.arr b g sz es hb with ⟨h1, h2⟩ | ⟨k, c, el, h1, h2, h3, h4, h5⟩
      · exact .inl ⟨by rw [killG_get, if_pos hlt]; exact h1, h2⟩
      · exact .inr ⟨k, c, el, by rw [killG_get, if_pos hlt]; exact h1, h2, h3, h4, fun i v hv => by obtain ⟨x, y1, y2, y3⟩ := h5 i v hv; exact ⟨x, y1, y2, y3.mono hx r⟩⟩
    · rename_i hge
      cases hH : H[b]? with
      | none => rw [hH] at hb; simp at hb
      | some x =>
        rw [hH] at hb; simp at hb
        have hg : b < γ.length := by rw [r.len]; exact lt_of_get hH
        cases x with
        | mp kvs => cases hb
        | arr g0 s0 e0 => cases hb; exact .inl ⟨by rw [killG_get, if_neg hge]; simp [hg], rfl⟩
  · rw [killH_get] at hb
    split at hb
    · exact absurd hb (hm b kvs)
    · cases hH : H[b]? with
      | none => rw [hH] at hb; simp at hb
      | some x =>
        rw [hH] at hb; simp at hb
        cases x with
        | mp kvs => exact absurd hH (hm b kvs)
        | arr => cases hb
  · rw [killG_get] at h1 h2
    split at h1
    · split at h2
      · exact r.inj b b' k h1 h2
      · cases h : γ[b']? <;> rw [h] at h2 <;> simp at h2
    · cases h : γ[b]? <;> rw [h] at h1 <;> simp at h1
  · rw [killG_get] at h1
    split at h1
    · rename_i hlt
      refine ⟨fun hI => ?_, (r.off b k h1).2⟩
      rcases hI with hI | ⟨b', _, _, _, hb', _, hk⟩
      · exact (r.off b k h1).1 hI
      · have := r.inj b b' k h1 hk; omega
    · cases h : γ[b]? <;> rw [h] at h1 <;> simp at h1
  · rcases hk with hk | ⟨b, g, sz, es, _, h2, h3⟩
    · exact r.imm k hk
    · exact r.cellsOf h2 h3

theorem CG.give {P : Program} {f : Nat} {ts : List T} {t : T} (c : CG P f ts t) (n d : Nat) {H : List Blk} (hm : noMp H) {args : List V} (ha : optL (args.map (gr n H d)) = some ts) {K : V → List Blk → Prop} (k : K (.g t) (killH n H)) : ACalls P f args H K := by
  have h1 : ACalls P f (ts.map .g) (killH n H) K := c.go (by rw [List.map_map]; exact optL_map_some _) k
  have hts := optL_some ha
  have hl : args.length = ts.length := by simpa using congrArg List.length hts
  refine ⟨h1.1, fun γ I w vs r hlen hv => ?_⟩
  obtain ⟨r2, x2⟩ := kill_ok r hm n
  refine (h1.2 _ _ w vs r2 (by simp; omega) fun i v hi => ?_).mono fun e w' ⟨r1, x, H', γ', I', h1, h2, h3, h4, h5⟩ => ⟨r1, x, H', γ', I', h1, h2, h3, h4, x2.trans h5⟩
  rw [List.getElem?_map] at hi
  cases ht : ts[i]? with
  | none => rw [ht] at hi; cases hi
  | some y =>
    rw [ht] at hi; simp at hi; subst hi
    have h2 := congrArg (·[i]?) hts
    simp only [List.getElem?_map, ht, Option.map_some] at h2
    cases he : args[i]? with
    | none => rw [he] at h2; simp at h2
    | some e =>
      rw [he] at h2; simp at h2
      exact .g (gr_sound r (fun k hk => .inl hk) (fun b k g sz es h1 h2 h3 => .inr ⟨b, g, sz, es, h1, h2, h3⟩) d e y _ h2 (hv i e he))
theorem noMp_nil : noMp [] := fun b kvs h => by simp at h
theorem noMp_cons {g sz : Nat} {es : List V} {h : List Blk} (k : noMp h) : noMp (.arr g sz es :: h) := fun b kvs hb => by
  cases b with
  | zero => simp at hb
  | succ b => simp at hb; exact k b kvs hb

/-- the loop over an iterator; behind it the blocks from some on are let go -/
theorem SW.rfD {P : Program} {z : Nat} {x : X} {p d : Nat} {bs : SC} {Q : Exit → St → Prop} {t : List V} {h : List Blk} {gf : Nat} {caps : List V} (zs : List SV) (hx : x.ev t = .fn gf caps) (hg : Gives P gf caps zs) (hp : p < t.length)
    (Hp : List SV → List Blk) (hm : ∀ pre, noMp (Hp pre)) (h0 : Hp [] = h)
    (hr : ∀ pre y, pre.length < zs.length → AC h.length P bs (fun e _ h' => match e with | .normal => ReH h.length h' (Hp (pre ++ [y])) | _ => False) (setT (setT t p (.g (.sc y.1))) d (.g (.sc y.1))) (Hp pre))
    (d2 : Nat) (H2 H3 L : List Blk) (he : Hp zs = H2 ++ L) (hz : z ≤ H2.length) (hb : dropH H2.length (H2 ++ L) d2 H2 H3) (hq : ∀ t', t' = t.map (cutV H2.length) → Q .normal ⟨t', H3⟩) : SW z P (.rf x p d bs) Q ⟨t, h⟩ :=
  SW.rfR zs hx hg hp Hp hm h0 hr ⟨t.map (cutV H2.length), H3⟩ (by rw [he]; exact Refi.drop d2 hz hb (cut_ok t)) (hq _ rfl)
theorem noMp_app {h k : List Blk} (a : noMp h) (b : noMp k) : noMp (h ++ k) := fun i kvs hi => by
  rcases Nat.lt_or_ge i h.length with hlt | hge
  · rw [List.getElem?_append_left hlt] at hi; exact a i kvs hi
  · rw [List.getElem?_append_right hge] at hi; exact b _ kvs hi
end Go.Aw
/- THE BRIDGE: arguments that read as data without depth are plain data; a law's row. -/
namespace Go.Aw
open Go.ChangeShapes Go.WideShapes Go.RowKit

inductive Ty where
  | b | i (k : IntKind) | s | sl (n : Nat) (e : Ty) | fn | fc (a r : Ty)

def Ty.ag : Ty → Bool
  | .fn | .fc .. => true
  | _ => false
def mkT (ag : Bool) (cs : List T) : T := match ag, cs with
  | false, [c] => c
  | _, cs => .ag cs

/-- cells of a type -/
def TC : Ty → List T → Prop
  | .b, cs => ∃ x, cs = [.b x]
  | .i k, cs => ∃ n, cs = [.sc (.int k n)] ∧ inR k n
  | .s, cs => ∃ x, cs = [.s x] ∧ x.size ≤ maxLen
  | .sl n e, cs => ∃ es, cs = [.sl n es] ∧ es.length ≤ maxLen ∧ ∀ x ∈ es, ∃ ys, TC e ys ∧ x = mkT e.ag ys
  | .fn, cs => cs = []
  | .fc a r, cs => ∃ x y, cs = x ++ y ∧ TC a x ∧ TC r y
/-- a value of a type -/
def TV (ty : Ty) (t : T) : Prop := ∃ cs, TC ty cs ∧ t = mkT ty.ag cs

def tyFs (P : Program) (f : TypeId → Option Ty) : Nat → List Field → Nat → Option Ty
  | o, [], n => if o = n then some .fn else none
  | o, x :: r, n => if x.offset = o then (f x.type).bind fun a => (tyFs P f (o + P.cellsOf x.type) r n).map (Ty.fc a) else none
def tyOf (P : Program) : Nat → TypeId → Option Ty
  | 0, _ => none
  | d + 1, t => match P.underlying t with
    | some .bool => some .b
    | some (.int k) => some (.i k)
    | some .string => some .s
    | some (.slice e) => if P.cellsOf e = 0 then none else (tyOf P d e).map (Ty.sl (P.cellsOf e))
    | some (.struct fs) => tyFs P (tyOf P d) 0 fs.toList (P.cellsOf t)
    | _ => none

theorem TC.cells {ty : Ty} {cs : List T} (h : TC ty cs) : (mkT ty.ag cs).cells = cs := by
  cases ty with
  | b => obtain ⟨x, rfl⟩ := h; rfl
  | i k => obtain ⟨x, rfl, _⟩ := h; rfl
  | s => obtain ⟨x, rfl, _⟩ := h; rfl
  | sl n e => obtain ⟨x, rfl, _⟩ := h; rfl
  | fn => rfl
  | fc a r => rfl

def RTs (I : Nat → Prop) (w : World) (cs : List T) (vs : List Value) : Prop :=
  vs.length = cs.length ∧ (∀ v ∈ vs, v.oneCell' = true) ∧ ∀ (i : Nat) (c : T), cs[i]? = some c → RT I w c (vs.getD i undef)

theorem RTs.one {I : Nat → Prop} {w : World} {c : T} {v : Value} (h1 : v.oneCell' = true) (h : RT I w c v) : RTs I w [c] [v] :=
  ⟨rfl, by simpa using h1, fun i c' hi => by cases i with | zero => simp at hi; subst hi; exact h | succ i => simp at hi⟩
theorem RTs.append {I : Nat → Prop} {w : World} {cs ds : List T} {vs us : List Value} (h : RTs I w cs vs) (k : RTs I w ds us) : RTs I w (cs ++ ds) (vs ++ us) := by
  refine ⟨by simp [h.1, k.1], fun v hv => (List.mem_append.1 hv).elim (h.2.1 v) (k.2.1 v), fun i c hi => ?_⟩
  by_cases hlt : i < cs.length
  · rw [List.getElem?_append_left hlt] at hi
    have := h.2.2 i c hi
    rw [List.getD_eq_getElem?_getD, List.getElem?_append_left (by rw [h.1]; exact hlt), ← List.getD_eq_getElem?_getD]; exact this
  · rw [List.getElem?_append_right (by omega)] at hi
    have := k.2.2 _ c hi
    rw [List.getD_eq_getElem?_getD, List.getElem?_append_right (by rw [h.1]; omega), h.1, ← List.getD_eq_getElem?_getD]; exact this

theorem add_spot {a : Addr} (h : a.spot = none) (m : Nat) : a.add m = ⟨a.block, a.off + m, none⟩ := by
  cases a; simp at h; subst h
  unfold Addr.add; split
  · rename_i h0; subst h0; rfl
  · rfl
theorem cell_spot {w : World} {a : Addr} {v : Value} (h : w.cell? a = some v) : a.spot = none ∧ ∃ (c : Array Value) (el : TypeId) (fr : Nat × Nat), w.heap[a.block]? = some (Obj.cells c el fr) := by
  unfold World.cell? at h
  split at h
  · rename_i c _ _ hh
    refine ⟨?_, _, _, _, hh⟩
    cases hs : a.spot with
    | none => rfl
    | some x => rw [hs] at h; simp at h
  · cases h

section
variable {H : Type} {enc : TypeId × Value → H} {P : Program} {w : World} {I : Nat → Prop}

theorem fields_plain {f : TypeId → Option Ty} {n : Nat} {vs : List Value} (hn : vs.length = n)
    (ih : ∀ t ty us, f t = some ty → (∃ fuel x, DataW.trod enc P w 0 (fun _ => true) true fuel t us = some x) → ∃ cs, TC ty cs ∧ RTs I w cs us) :
    ∀ {fs : List Field} {o : Nat} {ty : Ty}, tyFs P f o fs n = some ty → o ≤ n → (∀ x ∈ fs, ∃ fuel y, DataW.trod enc P w 0 (fun _ => true) true fuel x.type ((vs.drop x.offset).take (P.cellsOf x.type)) = some y) →
      o ≤ n ∧ ∃ cs, TC ty cs ∧ RTs I w cs (vs.drop o)
  | [], o, ty, h, ho, _ => by
    unfold tyFs at h
    split at h
    · rename_i e; cases h; subst e
      exact ⟨Nat.le_refl _, [], rfl, by rw [← hn, List.drop_length]; exact ⟨rfl, by simp, fun i c hi => by simp at hi⟩⟩
    · cases h
  | x :: fs, o, ty, h, ho, hf => by
    unfold tyFs at h
    split at h
    case isFalse => cases h
    rename_i e
    obtain ⟨a, h1, h⟩ := Option.bind_eq_some_iff.1 h
    obtain ⟨r, h2, rfl⟩ := Option.map_eq_some_iff.1 h
    have hle : o + P.cellsOf x.type ≤ n := by
      clear hf h1
      have : ∀ (fs : List Field) (o : Nat) (r : Ty), tyFs P f o fs n = some r → o ≤ n := by
        intro fs
        induction fs with
        | nil =>
          intro o r h; unfold tyFs at h; split at h
          · omega
          · cases h
        | cons y fs ihf =>
          intro o r h; unfold tyFs at h; split at h
          · obtain ⟨_, _, h⟩ := Option.bind_eq_some_iff.1 h
            obtain ⟨_, h, _⟩ := Option.map_eq_some_iff.1 h
            have := ihf _ _ h; omega
          · cases h
      exact this _ _ _ h2
    obtain ⟨_, cr, t2, r2⟩ := fields_plain hn ih h2 hle (fun y hy => hf y (by simp [hy]))
    obtain ⟨ca, t1, r1⟩ := ih x.type a _ h1 (hf x (by simp))
    refine ⟨ho, ca ++ cr, ⟨ca, cr, rfl, t1, t2⟩, ?_⟩
    rw [e] at r1
    have : vs.drop o = (vs.drop o).take (P.cellsOf x.type) ++ vs.drop (o + P.cellsOf x.type) := by
      rw [← List.drop_drop, List.take_append_drop]
    rw [this]
    exact r1.append r2

theorem trod_plain (hI : ∀ k, (∃ (c : Array Value) (el : TypeId) (fr : Nat × Nat), w.heap[k]? = some (Obj.cells c el fr)) → I k) : ∀ (d : Nat) (t : TypeId) (ty : Ty) (vs : List Value), tyOf P d t = some ty →
    (∃ fuel x, DataW.trod enc P w 0 (fun _ => true) true fuel t vs = some x) → ∃ cs, TC ty cs ∧ RTs I w cs vs := by
  intro d
  induction d with
  | zero => intro t ty vs h; simp [tyOf] at h
  | succ d ih =>
    rintro t ty vs h ⟨fuel, x, hx⟩
    unfold tyOf at h
    split at h
    case h_1 ht =>
      cases h
      cases fuel with
      | zero => simp [DataW.trod] at hx
      | succ n =>
        unfold DataW.trod at hx
        rw [ht] at hx
        split at hx <;> simp_all
        exact ⟨_, ⟨_, rfl⟩, .one rfl (.sc rfl)⟩
    case h_2 k ht =>
      cases h
      obtain ⟨n, rfl, _, hw⟩ := DataW.trod_int ht hx
      simp only [Lit.wf, Bool.and_eq_true, decide_eq_true_eq] at hw
      exact ⟨_, ⟨n, rfl, by simpa [inR, IntKind.has] using hw⟩, .one rfl (.sc rfl)⟩
    case h_3 ht =>
      cases h
      obtain ⟨s, rfl, _, hs⟩ := DataW.trod_string ht hx
      exact ⟨_, ⟨s, rfl, hs⟩, .one rfl (.sc rfl)⟩
    case h_4 e ht =>
      split at h
      case isTrue => cases h
      rename_i hz
      obtain ⟨te, h1, rfl⟩ := Option.map_eq_some_iff.1 h
      rcases DataW.trod_slice ht hx with ⟨rfl, _⟩ | ⟨a, len, cap, elems, rest, n, _, rfl, _, _, hlc, hcap, hlen, hel, _, _⟩
      · exact ⟨[.sl (P.cellsOf e) []], ⟨[], rfl, by simp, by simp⟩, .one rfl (.sl (es := []) 0 0 (fun _ => undef) (by simp) (by simp) (by simp) (by simp [flatT]) (by simp [flatT]) (by simp [flatT]))⟩
      · have each : ∀ i, i < len → ∃ cs vs, TC te cs ∧ RTs I w cs vs ∧ w.cells? 0 (a.add (i * P.cellsOf e)) (P.cellsOf e) = some vs := by
          intro i hi
          have := hel i hi
          have hsome : elems[i]? = some (elems[i]'(by omega)) := by simp
          rw [hsome] at this
          obtain ⟨us, h2, h3⟩ := Option.bind_eq_some_iff.1 this
          obtain ⟨cs, h4, h5⟩ := ih e te us h1 ⟨n, _, h3⟩
          exact ⟨cs, us, h4, h5, h2⟩
        have hspot : 0 < len → a.spot = none ∧ ∃ (c : Array Value) (el : TypeId) (fr : Nat × Nat), w.heap[a.block]? = some (Obj.cells c el fr) := by
          intro h0
          obtain ⟨cs, vs, _, _, h2⟩ := each 0 h0
          obtain ⟨_, hl, hc⟩ := World.cells?_some h2
          have := hc 0 (by omega)
          have h3 : vs[0]? = some (vs[0]'(by omega)) := by simp
          rw [h3] at this
          have e1 : (a.add (0 * P.cellsOf e)).add 0 = a := by simp [Addr.add]
          rw [e1] at this
          exact cell_spot this
        let C : Nat → List T := fun i => if h : i < len then (each i h).choose else []
        let V : Nat → List Value := fun i => if h : i < len then (each i h).choose_spec.choose else []
        have hCV : ∀ i, i < len → TC te (C i) ∧ RTs I w (C i) (V i) ∧ w.cells? 0 (a.add (i * P.cellsOf e)) (P.cellsOf e) = some (V i) := by
          intro i hi
          have := (each i hi).choose_spec.choose_spec
          simp only [C, V, hi, dif_pos]
          exact this
        let es : List T := (List.range len).map fun i => mkT te.ag (C i)
        have hes : es.length = len := by simp [es]
        have hget : ∀ i, i < len → es[i]? = some (mkT te.ag (C i)) := fun i hi => by simp [es, hi]
        have hVl : ∀ i, i < len → (V i).length = P.cellsOf e := fun i hi => (World.cells?_some (hCV i hi).2.2).2.1
        have hw : ∀ x ∈ es, x.cells.length = P.cellsOf e := by
          intro x hx
          simp only [es, List.mem_map, List.mem_range] at hx
          obtain ⟨i, hi, rfl⟩ := hx
          rw [(hCV i hi).1.cells, ← (hCV i hi).2.1.1, hVl i hi]
        have key : ∀ (i : Nat) (t : T), (flatT es)[i]? = some t → ∃ v, w.cell? ⟨a.block, a.off + i, none⟩ = some v ∧ v.oneCell' = true ∧ RT I w t v := by
          intro i t hi
          have hi' : i < es.length * P.cellsOf e := by rw [← flatT_len hw]; exact (List.getElem?_eq_some_iff.1 hi).1
          obtain ⟨s1, s2, s3⟩ := flat_split hi'
          rw [hes] at s1
          rw [s3, flatT_get hw _ _ (hget _ s1) _ s2, (hCV _ s1).1.cells] at hi
          have hR := (hCV _ s1).2.1
          have hj : i % P.cellsOf e < (V (i / P.cellsOf e)).length := by rw [hVl _ s1]; exact s2
          obtain ⟨hp, _⟩ := hspot (Nat.lt_of_le_of_lt (Nat.zero_le _) s1)
          have hc := (World.cells?_some (hCV _ s1).2.2).2.2 (i % P.cellsOf e) s2
          rw [add_spot hp, add_spot rfl] at hc
          have hv : (V (i / P.cellsOf e))[i % P.cellsOf e]? = some ((V (i / P.cellsOf e))[i % P.cellsOf e]) := by simp [hj]
          refine ⟨(V (i / P.cellsOf e))[i % P.cellsOf e], ?_, hR.2.1 _ (List.getElem_mem _), ?_⟩
          · rw [← hv, ← hc]; congr 2
            show a.off + i = a.off + i / P.cellsOf e * P.cellsOf e + i % P.cellsOf e
            omega
          · have := hR.2.2 _ _ hi
            rw [List.getD_eq_getElem?_getD, hv] at this
            exact this
        refine ⟨[.sl (P.cellsOf e) es], ⟨es, rfl, by rw [hes]; omega, ?_⟩, .one rfl ?_⟩
        · intro x hx
          simp only [es, List.mem_map, List.mem_range] at hx
          obtain ⟨i, hi, rfl⟩ := hx
          exact ⟨C i, (hCV i hi).1, rfl⟩
        · have hsl : RT I w (.sl (P.cellsOf e) es) (.slice (some a) es.length cap) := by
            refine .sl a.block a.off (fun i => (w.cell? ⟨a.block, a.off + i, none⟩).getD undef) (fun hne => ?_) hw (by omega) (fun i t hi => ?_) (fun i t hi => ?_) (fun i t hi => ?_)
            · obtain ⟨hp, hb⟩ := hspot (by rw [← hes]; exact List.length_pos_iff.2 hne)
              refine ⟨?_, hI _ hb⟩
              cases a; simp at hp; subst hp; rfl
            · obtain ⟨v, h2, _, _⟩ := key i t hi
              simp [h2]
            · obtain ⟨v, h2, h3, _⟩ := key i t hi
              simp [h2, h3]
            · obtain ⟨v, h2, _, h3⟩ := key i t hi
              simp [h2, h3]
          rw [hes] at hsl
          exact hsl
    case h_5 fs ht =>
      obtain ⟨xs, n, _, _, hl, hxl, hf⟩ := DataW.trod_struct ht hx
      have := fields_plain (enc := enc) (w := w) (I := I) (vs := vs) hl (fun t ty us h1 h2 => ih t ty us h1 h2) h (Nat.zero_le _) (fun x hx => by
        obtain ⟨i, hi, rfl⟩ := List.getElem_of_mem hx
        have h3 := hf i fs.toList[i] (by simp at hi; simp [hi])
        have h4 : i < xs.length := by rw [hxl]; simpa using hi
        exact ⟨n, xs[i], by rw [h3]; simp [h4]⟩)
      obtain ⟨_, cs, h1, h2⟩ := this
      exact ⟨cs, h1, by simpa using h2⟩
    case h_6 => cases h

theorem trod_value (hI : ∀ k, (∃ (c : Array Value) (el : TypeId) (fr : Nat × Nat), w.heap[k]? = some (Obj.cells c el fr)) → I k) {d : Nat} {t : TypeId} {ty : Ty} {v : Value} {x : DataW H} {ps : List MemPlace} {r : Reach} {base : Nat} (ht : tyOf P d t = some ty) (hok : Value.okWide P w r base t v)
    (h : DataW.Trod enc P w 0 (fun _ => true) true t v x ps) : ∃ y, TV ty y ∧ RT I w y v := by
  obtain ⟨fuel, h⟩ := h
  obtain ⟨cs, h1, h2⟩ := trod_plain hI d t ty _ ht ⟨fuel, _, h⟩
  refine ⟨mkT ty.ag cs, ⟨cs, h1, rfl⟩, ?_⟩
  have scal : ty.ag = false → v.cells = #[v] → RT I w (mkT ty.ag cs) v := by
    intro hag hc
    have hl : cs.length = 1 := by rw [← h2.1, hc]; rfl
    match cs, hl with
    | [c], _ =>
      rw [hag]
      have := h2.2.2 0 c rfl
      rw [hc] at this
      exact this
  cases d with
  | zero => simp [tyOf] at ht
  | succ d =>
    unfold tyOf at ht
    unfold Value.okWide at hok
    split at ht
    case h_5 fs hu =>
      rw [hu] at hok
      obtain ⟨arr, rfl, _, _⟩ := hok
      have hag : ty.ag = true := by
        cases hfs : fs.toList with
        | nil =>
          rw [hfs] at ht; unfold tyFs at ht; split at ht
          · cases ht; rfl
          · cases ht
        | cons f fs' =>
          rw [hfs] at ht; unfold tyFs at ht; split at ht
          · obtain ⟨_, _, ht⟩ := Option.bind_eq_some_iff.1 ht
            obtain ⟨_, _, rfl⟩ := Option.map_eq_some_iff.1 ht
            rfl
          · cases ht
      rw [hag]
      have : RT I w (.ag cs) (.agg (arr.toList.toArray)) := .ag h2.1 h2.2.1 h2.2.2
      have e : mkT true cs = .ag cs := rfl
      rw [e]
      simpa using this
    case h_6 => cases ht
    all_goals
      rename_i hu
      rw [hu] at hok
      simp only [Cell.okWide, hu, Cell.ok] at hok
      refine scal ?_ ?_
      · first
        | (cases ht; rfl)
        | (split at ht
           · cases ht
           · obtain ⟨_, _, rfl⟩ := Option.map_eq_some_iff.1 ht; rfl)
      · cases v <;> first | rfl | exact hok.elim

/-- arguments of types -/
def TVs : List Ty → List T → Prop
  | [], [] => True
  | a :: r, t :: ts => TV a t ∧ TVs r ts
  | _, _ => False

theorem trodAll_plain (hI : ∀ k, (∃ (c : Array Value) (el : TypeId) (fr : Nat × Nat), w.heap[k]? = some (Obj.cells c el fr)) → I k) {d : Nat} {r : Reach} {base : Nat} : ∀ {ts : List TypeId} {tys : List Ty} {vs : List Value} {ds : List (DataW H)} {ps : List MemPlace}, optL (ts.map (tyOf P d)) = some tys →
    (∀ (j : Nat) t v, ts[j]? = some t → vs[j]? = some v → Value.okWide P w r base t v) → DataW.TrodAll enc P w 0 (fun _ => true) true ts vs ds ps →
    ∃ ys, TVs tys ys ∧ vs.length = ys.length ∧ ∀ (i : Nat) (y : T), ys[i]? = some y → RT I w y (vs.getD i undef)
  | [], tys, vs, ds, ps, h, _, hd => by
    simp [optL] at h; subst h
    obtain ⟨rfl, _, _⟩ := trodAll_nil hd
    exact ⟨[], trivial, rfl, fun i y hi => by simp at hi⟩
  | t :: ts, tys, vs, ds, ps, h, hok, hd => by
    obtain ⟨v, vs', x, ds', p, q, rfl, rfl, rfl, h1, h2⟩ := trodAll_cons hd
    simp only [List.map_cons] at h
    cases ht : tyOf P d t with
    | none => rw [ht] at h; simp [optL] at h
    | some ty =>
      rw [ht] at h
      simp only [optL] at h
      cases hr : optL (ts.map (tyOf P d)) with
      | none => rw [hr] at h; simp at h
      | some tys' =>
        rw [hr] at h; simp at h; subst h
        obtain ⟨y, hy, hry⟩ := trod_value hI ht (hok 0 t v rfl rfl) h1
        obtain ⟨ys, hys, hl, hrs⟩ := trodAll_plain hI hr (fun j t' v' hj hv => hok (j + 1) t' v' hj hv) h2
        refine ⟨y :: ys, ⟨hy, hys⟩, by simp [hl], fun i y' hi => ?_⟩
        cases i with
        | zero => simp at hi; subst hi; exact hry
        | succ i => simp at hi; simpa using hrs i y' hi

theorem below_of_ext {γ' : List (Option Nat)} {H' : List Blk} {I I' : Nat → Prop} {w w' : World} (x : Ext [] [] I w γ' H' I' w') : Below w.heap.size w w' :=
  ⟨x.os, x.tape, x.output, x.size, fun k hk => x.frame k hk (by simp)⟩

theorem trodAll_stays (hl : laidOutB P = true) {W W' : World} {sp : Nat → Bool} : ∀ {ts : List TypeId} {vs : List Value} {ds : List (DataW H)} {ps : List MemPlace}, (∀ t ∈ ts, P.readableRec t = true ∧ t < P.types.size) →
    DataW.TrodAll enc P W 0 (fun _ => true) true ts vs ds ps → (∀ p ∈ ps, W.sameAt W' p) → (∀ p ∈ ps, sp p.block = true) → DataW.TrodAll enc P W' 0 sp true ts vs ds ps
  | [], _, _, _, _, h, _, _ => by
    obtain ⟨rfl, rfl, rfl⟩ := trodAll_nil h
    exact rfl
  | t :: ts, _, _, _, hr, h, hs, hp => by
    obtain ⟨v, vs', x, ds', p, q, rfl, rfl, rfl, h1, h2⟩ := trodAll_cons h
    exact ⟨p, q, WideElems.Trod_stays hl (hr t (by simp)).1 (hr t (by simp)).2 h1 (fun p hp => hs p (by simp [hp])) (fun x hx => hp x (by simp [hx])),
      trodAll_stays hl (fun t ht => hr t (by simp [ht])) h2 (fun p hp => hs p (by simp [hp])) (fun x hx => hp x (by simp [hx])), rfl⟩

theorem trodAll_len {ts : List TypeId} : ∀ {vs : List Value} {ds : List (DataW H)} {ps : List MemPlace}, DataW.TrodAll enc P w 0 (fun _ => true) true ts vs ds ps → ds.length = ts.length := by
  induction ts with
  | nil => intro vs ds ps h; obtain ⟨_, rfl, _⟩ := trodAll_nil h; rfl
  | cons t ts ih =>
    intro vs ds ps h
    obtain ⟨v, vs', x, ds', p, q, rfl, rfl, rfl, h1, h2⟩ := trodAll_cons h
    simp [ih h2]

theorem post_of_below {f : Func} {s : ChangeSpec} {apart fresh handsOn again : Bool} {W W' : World} {args : Array Value} {v : Value} {ds gs : List (DataW H)} {before pa pv : List MemPlace}
    (hW : DataW.Whole enc P f.params.toList s.vars apart W args.toList ds gs before)
    (hres : ∀ (b : Nat) (sp : Nat → Bool) (hd : Bool), DataW.TrodAll enc P W' b sp hd f.resultTypes.toList (v.resultList f.resultTypes.size) (s.fn H (ds ++ gs)).results [])
    (hargs : ∀ sp : Nat → Bool, (∀ p ∈ before, sp p.block = true) → DataW.TrodAll enc P W' 0 sp true f.params.toList args.toList (s.fn H (ds ++ gs)).args pa)
    (hvars : ∀ sp : Nat → Bool, (∀ p ∈ before, sp p.block = true) → DataW.TrodVars enc P W' sp s.vars (s.fn H (ds ++ gs)).vars pv)
    (hps : before = pa ++ pv) (hb : Below W.heap.size W W')
    (hok : ∀ (j : Nat) (t : TypeId) (r : Value), f.resultTypes[j]? = some t → (v.resultList f.resultTypes.size)[j]? = some r → Value.okWide P W' .any 0 t r) :
    s.post enc P f apart fresh handsOn again W args v W' := by
  have hlt : ∀ p ∈ before, p.block < W.heap.size := fun p hp => hW.lt p hp
  have hold : ∀ p ∈ before, (fun b => decide (b < W.heap.size)) p.block = true := fun p hp => by simpa using hlt p hp
  refine ⟨ds, gs, before, [], pa, pv, hW, hres _ _ _, hargs _ hold, hvars _ hold, World.keptBut_mono (fun p hp => ⟨hp, ?_⟩) (hb.frame (· ∈ before)), fun _ => ?_⟩
  · rw [hps, List.mem_append] at hp
    exact Or.inr hp
  · obtain ⟨_, _, _, _, _, hz, hn⟩ := hW
    refine ⟨hok, _, _, ([] ++ pa) ++ pv, ⟨[] ++ pa, pv, trodAll_append (hargs _ (fun _ _ => rfl)) (hres _ _ _), hvars _ (fun _ _ => rfl), rfl, ?_, ?_⟩, ?_⟩
    · intro b off hp
      have hin : MemPlace.cell b off ∈ before := by rw [hps]; simpa using hp
      rw [hb.frozen (hlt _ hin)]
      exact hz b off hin
    · intro ha
      have := hn ha
      rw [hps] at this
      simpa using this
    · intro p hp _
      rw [hps]
      simpa using hp

/-- THE CONTRACT OF A LAW'S ROW -/
theorem law_contract {C : Checked} {f : Nat} {fn : Func} {s : ChangeSpec} {apart fresh handsOn again : Bool} {tys : List Ty} (hl : laidOutB C.prog = true)
    (hp : optL (fn.params.toList.map (tyOf C.prog 20)) = some tys) (hrb : fn.resultTypes.toList.map C.prog.underlying = [some .bool])
    (hread : (fn.params.toList.all fun t => C.prog.readableRec t && decide (t < C.prog.types.size)) = true) (hvars : s.vars = [])
    (hs : ∀ (ds : List (DataW H)), ds.length = fn.params.toList.length → s.fn H ds = { results := [.lit (.bool true)], args := ds })
    (law : ∀ ys, TVs tys ys → CG C.prog f ys (.b true)) :
    ∀ (W : World) (base : Nat) (args : Array Value) (ds gs : List (DataW H)) (before : List MemPlace),
      (∀ (j : Nat) t v, fn.params[j]? = some t → args[j]? = some v → Value.okWide C.prog W .any base t v) →
      DataW.Whole enc C.prog fn.params.toList s.vars apart W args.toList ds gs before →
      Calls C.prog f args W fun e W' => ∃ v, e = .returned v ∧ s.post enc C.prog fn apart fresh handsOn again W args v W' := by
  obtain ⟨tb, hr, hb⟩ : ∃ tb, fn.resultTypes = #[tb] ∧ C.prog.underlying tb = some .bool := by
    cases h : fn.resultTypes.toList with
    | nil => rw [h] at hrb; simp at hrb
    | cons tb r =>
      rw [h] at hrb
      simp only [List.map_cons, List.cons.injEq, List.map_eq_nil_iff] at hrb
      obtain ⟨h1, rfl⟩ := hrb
      exact ⟨tb, Array.toList_inj.1 (by rw [h]), h1⟩
  intro W base args ds gs before hval hW
  have hW' := hW
  obtain ⟨p, q, hA, hV, rfl, hfz, hnd⟩ := hW
  rw [hvars] at hV
  obtain ⟨rfl, rfl⟩ := trodVars_none hV
  obtain ⟨ys, hys, hlen, hrt⟩ := trodAll_plain (w := W) (I := fun k => ∃ (c : Array Value) (el : TypeId) (fr : Nat × Nat), W.heap[k]? = some (Obj.cells c el fr)) (fun _ h => h) hp (fun j t v hj hv => hval j t v (by simpa using hj) (by simpa using hv)) hA
  have hc := (law ys hys).ok.run [] (fun k => ∃ (c : Array Value) (el : TypeId) (fr : Nat × Nat), W.heap[k]? = some (Obj.cells c el fr)) W args.toList (.empty fun _ h => h) (by simpa using hlen) (fun i v hi => by
    rw [List.getElem?_map] at hi
    cases hy : ys[i]? with
    | none => rw [hy] at hi; cases hi
    | some y => rw [hy] at hi; simp at hi; subst hi; exact .g (hrt i y hy))
  have e1 : args.toList.toArray = args := by simp
  rw [e1] at hc
  refine hc.mono ?_
  rintro e W' ⟨r, x, H', γ', I', rfl, ⟨rfl, rfl⟩, h3, h4, h5⟩
  have hx : x = .bool true := by
    cases h4 with | g h => cases h; rfl
  subst hx
  have hbl := below_of_ext h5
  have hfn := hs ds (trodAll_len hA)
  refine ⟨_, rfl, post_of_below (pa := p) (pv := []) hW' (fun b sp hd => ?_) (fun sp hsp => ?_) (fun sp _ => ?_) rfl hbl (ok_one hr rfl (okWide_bool_mk hb true))⟩
  · simp only [List.append_nil, hfn, hr]
    refine ⟨[], [], ⟨1, ?_⟩, rfl, rfl⟩
    simp [DataW.trod, hb, Value.cells]
  · simp only [List.append_nil, hfn]
    refine trodAll_stays hl (fun t ht => ?_) hA (fun x hx => hbl.same (hW'.lt x (by simpa using hx))) (fun x hx => hsp x (by simpa using hx))
    have := List.all_eq_true.1 hread t ht
    simpa using this
  · simp only [List.append_nil, hfn, hvars]
    exact rfl
end
end Go.Aw
