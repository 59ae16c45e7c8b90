/- The abstract walk over the model (last third): the operations are sound, loops, what arguments read as, the row of a law; no condition. -/
import Derived.Sort.Row
import Derived.Sort.Grow
import Derived.RangeFuncWrites
import Derived.RangeFuncCalls
import Derived.TacticsIn
import Derived.ProofKit
import Derived.Shelf.SlSortCmp.NoneTotal
import Derived.RecoverIn
import Derived.Test.YtocdciahhlbknaaGreatW1
import Derived.Test.YtocdciahhlbknaaGreatW2
namespace Go.Aw
open Go.Sort Go.RowKit
section
variable {γ:List (Option Nat)} {I:Nat→Prop} {w:World} {H:List Blk}
theorem ahead_ok (r:RelH γ I w H) (n:Nat):RelH γ I (Sort.ahead w n) H∧Ext γ H I w γ H I (Sort.ahead w n):=by
  have hx:Ext γ H I w γ H I (Sort.ahead w n):=⟨rfl,rfl,rfl,Nat.le_refl _,fun _ h=>h,fun _ h=>.inl h,fun _ _ _=>rfl,fun _ _ h=>h,
    fun b x h=>⟨x,h,x.upto_refl,fun _=>⟨rfl,fun g sz es es' h1 h2=>by subst h1;cases h2;exact Nat.le_refl _⟩⟩,fun b _ h=>.inr ⟨b,h⟩⟩
  refine ⟨⟨r.len,fun b g sz es hb=>?_,r.mp,r.inj,r.off,r.imm⟩,hx⟩
  rcases r.arr b g sz es hb with h|⟨k,c,el,h1,h2,h3,h4,h5⟩
  · exact .inl h
  · exact .inr ⟨k,c,el,h1,h2,h3,h4,fun i v hv=>by obtain ⟨x,x1,x2,x3⟩:=h5 i v hv;exact ⟨x,x1,x2,x3.mono hx r⟩⟩
theorem grow_ok (r:RelH γ I w H) (os:Array Obj):RelH γ I (grow w os) H∧Ext γ H I w γ H I (grow w os):=by
  have hold:∀ k,k < w.heap.size→(grow w os).heap[k]?=w.heap[k]?:=fun k hk=>heap_grow_old w os hk
  have hsz:w.heap.size≤(grow w os).heap.size:=by simp
  have hx:Ext γ H I w γ H I (grow w os):=⟨rfl,rfl,rfl,hsz,fun _ h=>h,fun _ h=>.inl h,fun k hk _=>hold k hk,
    fun k n ⟨c,el,fr,h1,h2⟩=>⟨c,el,fr,by rw [hold k (heap_lt h1)];exact h1,h2⟩,
    fun b x h=>⟨x,h,x.upto_refl,fun _=>⟨rfl,fun g sz es es' h1 h2=>by subst h1;cases h2;exact Nat.le_refl _⟩⟩,fun b _ h=>.inr ⟨b,h⟩⟩
  refine ⟨⟨r.len,fun b g sz es hb=>?_,fun b kvs hb=>?_,r.inj,fun b k hb=>⟨(r.off b k hb).1,Nat.lt_of_lt_of_le (r.off b k hb).2 hsz⟩,r.immx fun k hk=>hold k (r.immlt hk)⟩,hx⟩
  · rcases r.arr b g sz es hb with h|⟨k,c,el,h1,h2,h3,h4,h5⟩
    · exact .inl h
    · exact .inr ⟨k,c,el,h1,by rw [hold k (heap_lt h2)];exact h2,h3,h4,fun i v hv=>by obtain ⟨x,x1,x2,x3⟩:=h5 i v hv;exact ⟨x,x1,x2,x3.mono hx r⟩⟩
  · obtain ⟨k,es,cl,h1,h2,h3⟩:=r.mp b kvs hb
    exact ⟨k,es,cl,h1,by rw [hold k (heap_lt h2)];exact h2,h3⟩
theorem putRow_setB {α:Type} [Inhabited α] {enc:α→Value} {k off:Nat} {d:Array α} {c:Array Value} {el:TypeId} (h:w.heap[k]?=some (.cells c el (0,0))) :
    putRow enc w k off d=World.setB w k (.cells (putCells enc off d c) el (0,0)):=by
  unfold putRow mapBlock World.setB
  congr 1
  apply Array.ext_getElem?
  intro j
  simp only [Array.getElem?_modify,Array.getElem?_setIfInBounds]
  by_cases hj:k=j
  · subst hj;rw [if_pos rfl,if_pos rfl,h,if_pos (heap_lt h)];rfl
  · simp [hj]
theorem flat_ints:∀ (xs:List Int),flatV (xs.map fun x=>V.g (.i x))=xs.map fun x=>V.g (.i x)
  | []=>rfl
  | x::xs=>by have ih:=flat_ints xs;simp only [flatV,List.map_cons,List.flatMap_cons] at ih ⊢;rw [ih];rfl
end
end Go.Aw
namespace Go.Aw
open Go.RowKit
theorem rowsIn_wide {n:Nat} {P:Program} {row:String} {args:Array Value} {w:World} {R:Value→World→Prop}:Rows P row args w R→RowsIn Fence.wide n P row args w R:=fun h c cs _=>by
  obtain ⟨v,w',r,s⟩:=h c cs
  exact ⟨v,w',r,stepsIn_wide.2 s⟩
theorem wpIn_of_wp {n l:Nat} {P:Program} {o:Oper} {a:Act} {w:World} {next:Act→World→Prop} {Q:Exit→Act→World→Prop} (hd:∀ c,o.op≠.defer c) (h:o.wp P a w next Q):o.wpIn (Fence.wide.inRound l) n P a w next Q:=by
  refine ⟨fun _ _=>trivial,?_⟩
  have e:Oper.semAt (Fence.wide.inRound l).round a.eval o=execOp a.eval o:=Oper.semAt_some l _ _ hd
  rw [e]
  unfold Oper.wp at h
  generalize (execOp a.eval o).run P w=r at h ⊢
  cases r with
  | ok nx w' =>
    cases nx with
    | value v=>exact h
    | skip=>exact h
    | defer d=>exact h
    | enter f args=>exact ⟨fun h=>(by cases h),(callsIn_wide (n:=n-1)).2 h⟩
    | row row args=>exact ⟨fun h=>(by cases h),rowsIn_wide h⟩
    | _=>exact h.elim
  | halt x w' =>
    cases x with
    | panic v=>exact h
    | _=>exact h.elim
theorem slim_defer {P:Program} {wf:Nat} {o:Oper} {so:SO} (h:slimB P wf o=some so) (hb:so≠.bad):∀ c,o.op≠.defer c:=fun c hc=>by
  have:slimO P wf o=none:=by
    have h0:slimO0 P wf o=none:=by unfold slimO0;rw [hc]
    unfold slimO;rw [h0];unfold slimN1;rw [hc]
  have h2:panO P o=none:=by simp [panO,hc]
  have h3:(if (Nat.beq wf 9 || Nat.beq wf 13)=true then panO P o else none)=none:=by rw [h2];split <;> rfl
  unfold slimB at h
  rw [h3,this] at h
  cases h
  exact hb rfl
section
variable {P:Program} {wf:Nat} {γ γ':List (Option Nat)} {I I':Nat→Prop} {w w':World}
theorem AX_in {l0 n:Nat} {ops:Array Oper} {Q:List V→List Blk→Prop} {Q':Exit→Act→World→Prop}:∀ {l:List Oper} {sl:List SOp} {s:St} {a:Act} {γ:List (Option Nat)} {I:Nat→Prop} {w:World},
    All2 (fun o so=>slimOp P wf ops o=some so) l sl→Rel γ I w s a→AX (npP P) sl Q s.t s.h →
    (∀ (s':St) γ' I' w' a',Q s'.t s'.h→Rel γ' I' w' s' a'→Ext γ s.h I w γ' s'.h I' w'→a'.defers=a.defers→Q' .normal a' w')→wpListIn (Fence.wide.inRound l0) n P ops Q' l a w:=by
  intro l
  induction l with
  | nil=>intro sl s a γ I w hs r h hq;cases hs;exact hq s γ I w a h r (Ext.refl ..) rfl
  | cons o l ih =>
    intro sl s a γ I w hs r h hq
    cases hs with
    | @cons _ so _ sl ho hs =>
    unfold slimOp at ho
    obtain ⟨so',h1,ho⟩:=Option.bind_eq_some_iff.1 ho
    have go':∀ (t':List V),Rel γ I w ⟨t',s.h⟩ a→opP (npP P) t' so' s.h (fun v h=>forceV v fun v=>forceH h fun h=>forceT (putT t' o.dst v) fun t=>AX (npP P) sl Q t h)→o.wpIn (Fence.wide.inRound l0) n P a w (wpListIn (Fence.wide.inRound l0) n P ops Q' l) Q':=by
      intro t' r1 hop
      refine wpIn_of_wp (slim_defer h1 fun e=>by subst e;exact hop.elim) (opP_okB (P:=npP P) h1 r1 ?_ (fun _ _ _ _ _ _ h=>h.elim) hop)
      intro v x H' γ' I' w' hK r' hv e'
      rw [forceV_eq,forceH_eq,forceT_eq] at hK
      exact ih hs (rel_put r1 e' r' hv) hK (fun s2 γ2 I2 w2 a2 q2 r2 e2 d2=>hq s2 γ2 I2 w2 a2 q2 r2 (e'.trans e2) (d2.trans (put_defers ..)))
    have skip':∀ (t':List V),Rel γ I w ⟨t',s.h⟩ a→(forceT (putT t' o.dst (.tu [])) fun t=>AX (npP P) sl Q t s.h)→(∀ f,o.about P w a.eval=some f→(Fence.wide.inRound l0).fn f)∧wpListIn (Fence.wide.inRound l0) n P ops Q' l (a.put o.dst undef) w:=fun t' r1 h=>by
      rw [forceT_eq] at h
      exact ⟨fun _ _=>trivial,ih hs (rel_put r1 (Ext.refl ..) r1.heap (.tu (vs:=[]) rfl (by simp))) h (fun s2 γ2 I2 w2 a2 q2 r2 e2 d2=>hq s2 γ2 I2 w2 a2 q2 r2 e2 (d2.trans (put_defers ..)))⟩
    unfold wpListIn
    cases hg:o.guard with
    | none =>
      rw [hg] at ho;simp at ho;subst ho
      rw [if_pos (by simp [Region.wanted,hg])]
      exact go' s.t r h
    | some jb =>
      obtain ⟨j,b⟩:=jb
      rw [hg] at ho;simp only at ho
      obtain ⟨t,h2,ho⟩:=Option.map_eq_some_iff.1 ho
      subst ho
      simp only [AX_c,AXc] at h
      split at h
      · rename_i c hc
        obtain ⟨x,hx,hrv⟩:=tmp_get r hc (by simp)
        have:=rv_sc hrv;subst this
        have hw:Region.wanted o (yielded ops a.tmps)=(c == b):=by
          simp [Region.wanted,hg,yielded,h2,hx]
        rw [hw]
        cases c with
        | true =>
          have r2:=rel_know (v':=.g (.b true)) r hc rfl
          cases b with
          | true=>exact go' _ r2 (by simpa only [Br,forceT_eq] using h)
          | false=>exact skip' _ r2 (by simpa only [Br,forceT_eq] using h)
        | false =>
          have r2:=rel_know (v':=.g (.b false)) r hc rfl
          cases b with
          | false=>exact go' _ r2 (by simpa only [Br,forceT_eq] using h)
          | true=>exact skip' _ r2 (by simpa only [Br,forceT_eq] using h)
      · rename_i hc
        obtain ⟨x,hx,hrv⟩:=tmp_get r hc (by simp)
        have hw:Region.wanted o (yielded ops a.tmps)=false:=by
          cases hrv with
          | @tu _ vs hl hr =>
            simp [Region.wanted,hg,yielded,h2,hx]
        rw [hw]
        exact skip' s.t r h
      · exact h.elim
theorem AC_in {z l n:Nat} {c:Code}:∀ {sc:SC} {Q:Exit→List V→List Blk→Prop} {s:St},straight c=true→slimC P wf c=some sc→AC z (npP P) sc Q s.t s.h →
    ∀ γ I w a,Rel γ I w s a→c.wpIn (Fence.wide.inRound l) n P (lift z γ I w s.h a.defers (fun e s=>Q e s.t s.h)) a w:=by
  induction c with
  | skip=>intro sc Q s _ hs h γ I w a r;simp [slimC] at hs;subst hs;exact wpIn_skip ⟨s,γ,I,h,r,ExtM.refl ..,NewD.refl⟩
  | seq x y ihx ihy =>
    intro sc Q s hst hs h γ I w a r
    simp only [straight,Bool.and_eq_true] at hst
    obtain ⟨x',h1,hs⟩:=Option.bind_eq_some_iff.1 hs
    obtain ⟨y',h2,hs⟩:=Option.map_eq_some_iff.1 hs
    subst hs
    simp only [AC_seq] at h
    refine wpIn_seq (wpIn_mono (ihx hst.1 h1 h γ I w a r) fun e a' w' ⟨s',γ',I',q1,q2,q3⟩=>?_)
    cases e with
    | normal=>exact wpIn_mono (ihy hst.2 h2 q1 γ' I' w' a' q2) fun e a2 w2 ⟨s2,γ2,I2,k1,k2,k3⟩=>⟨s2,γ2,I2,k1,k2,goes_trans q3 k3⟩
    | _=>exact ⟨s',γ',I',q1,q2,q3⟩
  | block id c ih =>
    intro sc Q s hst hs h γ I w a r
    obtain ⟨c',h1,hs⟩:=Option.map_eq_some_iff.1 hs
    subst hs
    refine wpIn_block (wpIn_mono (ih hst h1 h γ I w a r) fun e a' w' ⟨s',γ',I',q,q2,q3⟩=>?_)
    cases e with
    | exit id' =>
      simp only [InQ] at q
      simp only [Exit.inBlock]
      split at q <;> rename_i hb
      · rw [if_pos (Nat.eq_of_beq_eq_true hb)];exact ⟨s',γ',I',q,q2,q3⟩
      · rw [if_neg (fun e=>by rw [e,Nat.beq_refl] at hb;cases hb)];exact ⟨s',γ',I',q,q2,q3⟩
    | _=>exact ⟨s',γ',I',q,q2,q3⟩
  | region id ops draw =>
    intro sc Q s hst hs h γ I w a r
    cases draw with
    | true=>simp [straight] at hst
    | false =>
      obtain ⟨sl,h1,hs⟩:=Option.map_eq_some_iff.1 hs
      subst hs
      exact wpIn_region_list (AX_in (optL_forall h1) r h (fun s' γ' I' w' a' q r' e d=>⟨s',γ',I',q,r',e.toM,by rw [d];exact NewD.refl⟩))
  | _=>intro sc Q s hst;simp [straight] at hst
end
abbrev SV:Type:={ v:Value // v.oneCell'=true }
def KpI (I:Nat→Prop) (A B:World):Prop:=∀ k,I k→B.heap[k]?=A.heap[k]?
structure Gives (P:Program) (gf:Nat) (caps:List V) (zs:List SV):Prop where
  ok:callOk P gf
  run:∀ (n:Nat) (_:1≤n) (γ:List (Option Nat)) (H:List Blk) (I:Nat→Prop) (w:World) (vs:List Value),RelH γ I w H→vs.length=caps.length→(∀ (i:Nat) (v:V),caps[i]?=some v→RV γ H I w v (vs.getD i undef)) →
    SeqStopsK Fence.wide n P gf vs.toArray (fun x:SV=>#[x.1]) (KpI I) (fun ys=>ys=zs) (fun _=>True) zs.length w
theorem callOk.enter {P:Program} {f:Nat} (h:callOk P f):∀ args w,(callFunc f args).run P w=.ok (.enter f args) w:=by
  obtain ⟨fn,q1,q2,q3⟩:=h
  intro args w
  have q2':fn.name ≠ "runtime.NumGoroutine" := by simpa using q2
  have q3':fn.body≠none:=fun e=>by rw [e] at q3;cases q3
  simp [callFunc,q1,q2',q3']
def ReH (z:Nat) (h h':List Blk):Prop:=∀ γ I w,RelH γ I w h→∃ γ' I',RelH γ' I' w h'∧ExtM z γ h I w γ' h' I' w
theorem ReH.refl {z:Nat} (h:List Blk):ReH z h h:=fun γ I _ r=>⟨γ,I,r,ExtM.refl ..⟩
def noMp (h:List Blk):Prop:=∀ (b:Nat) (kvs:List (Value×Value)),h[b]?≠some (.mp kvs)
section
variable {P:Program} {γ γ':List (Option Nat)} {H H':List Blk} {I I':Nat→Prop} {w w':World}
theorem RelH.cellsAt (r:RelH γ I w H) (hm:noMp H) {b k:Nat} (hk:γ[b]?=some (some k)):∃ (c:Array Value) (el:TypeId) (fr:Nat×Nat),w.heap[k]?=some (Obj.cells c el fr):=by
  have hb:b < H.length:=by rw [← r.len];exact lt_of_get hk
  cases hx:H[b]'hb with
  | arr g sz es=>exact r.cellsOf (by rw [List.getElem?_eq_getElem hb,hx]) hk
  | mp kvs=>exact absurd (by rw [List.getElem?_eq_getElem hb,hx]) (hm b kvs)
theorem RV.turn (hw:∀ (k:Nat) (c:Array Value) (el:TypeId) (fr:Nat×Nat),w.heap[k]?=some (Obj.cells c el fr)→w'.heap[k]?=w.heap[k]?) (hI:∀ k:Nat,I k→w'.heap[k]?=w.heap[k]?) {v:V} {x:Value} (hv:RV γ H I w v x):RV γ H I w' v x:=by
  induction hv with
  | g hv=>exact .g (hv.mono (fun _ h=>h) (fun k hk=>hI k hk))
  | any=>exact .any
  | nil=>exact .nil
  | own hb hg hl hc=>exact .own hb hg hl (fun e=>⟨(hc e).1,(hc e).2.imp id fun ⟨k,c3,c4,⟨c,el,fr,c5,c6⟩⟩=>⟨k,c3,c4,⟨c,el,fr,by rw [hw k c el fr c5];exact c5,c6⟩⟩⟩)
  | pa hb hg hc=>exact .pa hb hg hc
  | ra k o vs hi hIk hw' hc h1 hr =>
    refine .ra k o vs hi hIk hw' (fun i t ht=>?_) h1 (fun i t ht=>(hr i t ht).mono (fun _ h=>h) (fun k hk=>hI k hk))
    rw [← hc i t ht];simp [World.cell?,hI k hIk]
  | fn hl _ ih=>exact .fn hl ih
  | ag hl h1 _ ih=>exact .ag hl h1 ih
  | tu hl _ ih=>exact .tu hl ih
  | mp hb hk=>exact .mp hb hk
theorem RelH.turn (r:RelH γ I w H) (hm:noMp H) (hs:w.heap.size≤w'.heap.size) (hw:∀ (k:Nat) (c:Array Value) (el:TypeId) (fr:Nat×Nat),w.heap[k]?=some (Obj.cells c el fr)→w'.heap[k]?=w.heap[k]?):RelH γ I w' H where
  len:=r.len
  arr:=fun b g sz es hb=>by
    rcases r.arr b g sz es hb with h0|⟨k,c,el,h1,h2,h3,h4,h5⟩
    · exact .inl h0
    · refine .inr ⟨k,c,el,h1,by rw [hw k c el _ h2];exact h2,h3,h4,fun i v hv=>?_⟩
      obtain ⟨x,x1,x2,x3⟩:=h5 i v hv
      exact ⟨x,x1,x2,x3.turn hw (fun k hk=>by obtain ⟨c,el,fr,h⟩:=r.imm k hk;exact hw k c el fr h)⟩
  mp:=fun b kvs hb=>absurd hb (hm b kvs)
  inj:=r.inj
  off:=fun b k hb=>⟨(r.off b k hb).1,Nat.lt_of_lt_of_le (r.off b k hb).2 hs⟩
  imm:=r.immx fun k hk=>by obtain ⟨c,el,fr,h⟩:=r.imm k hk;exact hw k c el fr h
theorem rf_run {z:Nat} {g:Operand} {p d:Nat} {id:Nat} {ty:TypeId} {ps:String} {af:Array Edge} {body:Code} {wf:Nat} {bs:SC} {t:List V} {h:List Blk} {Q:Exit→St→Prop} {gf:Nat} {caps:List V} {zs:List SV} {vs:List Value} {a:Act}
    (r:Rel γ I w ⟨t,h⟩ a) (he:a.eval g=.func (.func gf) #[] vs.toArray) (hl:vs.length=caps.length) (hc:∀ (i:Nat) (v:V),caps[i]?=some v→RV γ h I w v (vs.getD i undef))
    (hst:straight body=true) (hb:slimC P wf body=some bs) (hg:Gives P gf caps zs) (hp:p < t.length)
    (Hp:List SV→List Blk) (hm:∀ pre,noMp (Hp pre)) (h0:Hp []=h)
    (hr:∀ pre y,pre.length < zs.length→AC h.length (npP P) bs (fun e _ h'=>match e with|.normal=>ReH h.length h' (Hp (pre++[y]))|_=>False) (setT (setT t p (.g (.sc y.1))) d (.g (.sc y.1))) (Hp pre))
    (hq:Q .normal ⟨t,Hp zs⟩):(Code.rangeFunc g #[p] (.region id #[⟨some d,.assign (.tmp p),ty,ps,af,none⟩] false) body).wp P (lift z γ I w h a.defers Q) a w:=by
  refine (wpIn_wide (n:=2)).1 ?_
  have hcel:∀ {γ' I' W pre},RelH γ' I' W (Hp pre)→∀ k,((∃ b:Nat,γ'[b]?=some (some k))∨I' k)→∃ (c:Array Value) (el:TypeId) (fr:Nat×Nat),W.heap[k]?=some (Obj.cells c el fr):=fun r k hk=>by
    rcases hk with ⟨b,hk⟩|hk
    · exact r.cellsAt (hm _) hk
    · exact r.imm k hk
  refine wpIn_rangeFunc_ownG (F:=Fence.wide) (n:=2) rfl (by omega) (gf:=gf) (lb:=vs.toArray) he trivial hg.ok.enter (w0:=w) (hg.run 1 (by omega) γ h I w vs r.heap hl hc)
    (fun h k=>fun i hi=>(k i hi).trans (h i hi)) (fun W l o o' hl _ _ _=>fun k hk=>World.putObj_heap_other (fun e=>by have:=r.heap.immlt hk;omega)) (Below.refl _ _) (fun _=>rfl)
    (fun pre W=>∃ γ' I',RelH γ' I' W (Hp pre)∧ExtM h.length γ h I w γ' (Hp pre) I' W) (fun _ _ _=>False) ?_ (fun _ _ _ _ _ hs _ _=>hs) ⟨γ,I,by rw [h0];exact r.heap,by rw [h0];exact ExtM.refl ..⟩
    (fun x=>({ tmps:=a.tmps.setIfInBounds p x.1,defers:=[] }:Act).put (some d) x.1) ?assign ?body ?done ?stop
  · rintro pre A B row ⟨γ',I',r1,e1⟩ hgr hrow
    have hcs:∀ (k:Nat) (c:Array Value) (el:TypeId) (fr:Nat×Nat),A.heap[k]?=some (Obj.cells c el fr)→B.heap[k]?=A.heap[k]?:=fun k c el fr hk=>hgr.block k (Array.getElem?_eq_some_iff.1 hk).1 (fun e=>by
      obtain ⟨_,o,ho,hoc⟩:=hrow k e.symm
      rw [hk] at ho;cases ho;cases hoc)
    refine ⟨γ',I',r1.turn (hm _) hgr.size hcs,?_⟩
    exact {
      os:=hgr.os.trans e1.os,tape:=hgr.tape.trans e1.tape,output:=hgr.output.trans e1.output,size:=Nat.le_trans e1.size hgr.size
      sub:=e1.sub,sub':=e1.sub'
      frame:=fun k hk hb=>by rw [hgr.block k (Nat.lt_of_lt_of_le hk e1.size) (fun e=>by have:=(hrow k e.symm).1;omega)];exact e1.frame k hk hb
      rows:=fun k n hr=>by obtain ⟨c,el,fr,h1,h2⟩:=e1.rows k n hr;exact ⟨c,el,fr,by rw [hcs k c el fr h1];exact h1,h2⟩
      blk:=e1.blk,new:=e1.new }
  case assign =>
    intro l x W K hK
    have hlt:p < a.tmps.size:=by rw [r.size];exact hp
    refine wpIn_region_list ?_
    simp only [wpListIn]
    rw [if_pos (by simp [Region.wanted])]
    refine ⟨fun _ _=>trivial,?_⟩
    have e0:((#[p]:Array Tmp).zip #[x.1]).foldl (fun t (p,v)=>t.setIfInBounds p v) a.tmps=a.tmps.setIfInBounds p x.1:=by simp
    rw [e0]
    have e:Oper.semAt (Fence.wide.inRound l).round (Act.eval { tmps:=a.tmps.setIfInBounds p x.1,defers:=[] }) ⟨some d,.assign (.tmp p),ty,ps,af,none⟩=execOp _ _:=Oper.semAt_some l _ _ (by simp)
    rw [e]
    have e2:(execOp (Act.eval { tmps:=a.tmps.setIfInBounds p x.1,defers:=[] }) ⟨some d,.assign (.tmp p),ty,ps,af,none⟩).run P W=.ok (.value x.1) W:=by
      simp [execOp,Act.eval,hlt]
    rw [e2]
    exact hK
  case body =>
    rintro l pre x W ⟨γ',I',r1,e1⟩ hlen
    have r0:Rel γ' I' W ⟨t,Hp pre⟩ { tmps:=a.tmps,defers:=[] }:=⟨.none,r.size,fun i v hv=>(r.tmps i v hv).mono e1.full r.heap,r1⟩
    have r2:=rel_put r0 (Ext.refl ..) r1 (d:=some p) (v:=.g (.sc x.1)) (x:=x.1) (.g (.sc x.2))
    have r3:=rel_put r2 (Ext.refl ..) r1 (d:=some d) (v:=.g (.sc x.1)) (x:=x.1) (.g (.sc x.2))
    refine wpIn_mono (AC_in hst hb (hr pre x hlen) γ' I' W _ r3) ?_
    rintro e a2 W2 ⟨s2,γ2,I2,q,r4,e4,_⟩
    cases e with
    | normal =>
      obtain ⟨γ3,I3,r5,e5⟩:=q γ2 I2 W2 r4.heap
      refine ⟨⟨e4.size,fun k o _ hk ho=>?_⟩,fun k hk=>e4.immM r1 (e1.sub k hk),γ3,I3,r5,e1.trans (e4.trans e5)⟩
      rw [e4.frame k (Array.getElem?_eq_some_iff.1 hk).1 (fun b hb=>by
        obtain ⟨c,el,fr,h⟩:=hcel r1 k (.inl ⟨b,hb⟩)
        rw [hk] at h;cases h;cases ho)]
      exact hk
    | _=>exact q.elim
  case done =>
    rintro D ys W hD rfl ⟨γ',I',r1,e1⟩ hK
    have hDn:¬ ((∃ b:Nat,γ'[b]?=some (some D))∨I' D):=fun h=>by
      obtain ⟨c,el,fr,h⟩:=hcel r1 D h
      rw [hK] at h;cases h
    have d0:=r.defers.extM e1
    refine ⟨⟨t,Hp ys⟩,γ',I',hq,⟨⟨?_,fun D' hD'=>?_⟩,r.size,fun i v hv=>(r.tmps i v hv).mono e1.full r.heap,r1⟩,e1.full.toM,⟨[D],rfl,by simpa using hD⟩⟩
    · show ((mkD D::a.defers).filterMap markOf).Nodup
      have e0:(mkD D::a.defers).filterMap markOf=D::a.defers.filterMap markOf:=by simp [markOf,mkD]
      rw [e0]
      refine List.nodup_cons.2 ⟨fun hm=>?_,d0.nodup⟩
      have:=(r.defers.ok D hm).1;omega
    · have hD'':D'∈(mkD D::a.defers).filterMap markOf:=hD'
      have e0:(mkD D::a.defers).filterMap markOf=D::a.defers.filterMap markOf:=by simp [markOf,mkD]
      rw [e0] at hD''
      rcases List.mem_cons.1 hD'' with rfl|h
      · exact ⟨(Array.getElem?_eq_some_iff.1 hK).1,hK,fun h=>hDn (.inr h),fun b hb=>hDn (.inl ⟨b,hb⟩)⟩
      · exact d0.ok D' h
  case stop =>
    rintro D c pre W _ _ hf
    exact hf.elim
theorem SW.rf {z:Nat} {x:X} {p d:Nat} {bs:SC} {Q:Exit→St→Prop} {t:List V} {h:List Blk} {gf:Nat} {caps:List V} (zs:List SV) (hx:x.ev t=.fn gf caps) (hg:Gives P gf caps zs) (hp:p < t.length)
    (Hp:List SV→List Blk) (hm:∀ pre,noMp (Hp pre)) (h0:Hp []=h)
    (hr:∀ pre y,pre.length < zs.length→AC h.length (npP P) bs (fun e _ h'=>match e with|.normal=>ReH h.length h' (Hp (pre++[y]))|_=>False) (setT (setT t p (.g (.sc y.1))) d (.g (.sc y.1))) (Hp pre))
    (hq:Q .normal ⟨t,Hp zs⟩):SW z (npP P) (.rf x p d bs) Q ⟨t,h⟩:=by
  refine ⟨fun _ wf code hc=>?_⟩
  cases code with
  | rangeFunc g ps a body =>
    obtain ⟨⟨p',d'⟩,hv,hc⟩:=Option.bind_eq_some_iff.1 hc
    split at hc
    · rename_i hst
      obtain ⟨x',h1,hc⟩:=Option.bind_eq_some_iff.1 hc
      obtain ⟨bs',h2,hc⟩:=Option.map_eq_some_iff.1 hc
      cases hc
      unfold rfVars at hv
      split at hv
      · split at hv
        · rename_i e
          subst e
          cases hv
          intro γ I w a r
          have hev:=slimX_ok h1 r
          rw [hx] at hev
          generalize he:a.eval g=v at hev
          cases hev with
          | fn hl hc=>exact rf_run r he hl hc hst h2 hg hp Hp hm h0 hr hq
        · cases hv
      · cases hv
    · cases hc
  | region _ _ d =>
    cases d with
    | false=>simp [slimC] at hc
    | true =>
      obtain ⟨_,_,hc⟩:=Option.bind_eq_some_iff.1 hc
      obtain ⟨_,_,hc⟩:=Option.map_eq_some_iff.1 hc
      cases hc
  | seq x y=>obtain ⟨_,_,hc⟩:=Option.bind_eq_some_iff.1 hc;obtain ⟨_,_,hc⟩:=Option.map_eq_some_iff.1 hc;cases hc
  | cond c x y=>obtain ⟨_,_,hc⟩:=Option.bind_eq_some_iff.1 hc;obtain ⟨_,_,hc⟩:=Option.bind_eq_some_iff.1 hc;obtain ⟨_,_,hc⟩:=Option.map_eq_some_iff.1 hc;cases hc
  | block id x=>obtain ⟨_,_,hc⟩:=Option.map_eq_some_iff.1 hc;cases hc
  | scope x=>obtain ⟨_,_,hc⟩:=Option.map_eq_some_iff.1 hc;cases hc
  | loop x=>obtain ⟨_,_,hc⟩:=Option.map_eq_some_iff.1 hc;cases hc
  | _=>simp [slimC] at hc
end
end Go.Aw
namespace Go.Aw
section
variable {n d:Nat} {γ:List (Option Nat)} {H:List Blk} {I I1:Nat→Prop} {w:World}
theorem row_data (r:RelH γ I w H) (hI:∀ k,I k→I1 k) (hL:∀ (b k g sz:Nat) (es:List V),n≤b→H[b]?=some (.arr g sz es)→γ[b]?=some (some k)→I1 k)
    {sz:Nat} {es:List V} {ts:List T} {c:Array Value} (hg:optL (es.map (gr n H d))=some ts) (hwf:∀ e∈es,e.cells.length=sz)
    (hcells:∀ (i:Nat) (v:V),(flatV es)[i]?=some v→∃ x:Value,c[i]?=some x∧x.oneCell'=true∧RV γ H I w v x) :
    (∀ e∈ts,e.cells.length=sz)∧∀ (i:Nat) (t:T),(flatT ts)[i]?=some t→∃ x,c[i]?=some x∧x.oneCell'=true∧RT I1 w t x:=by
  have hts:=optL_some hg
  have hget:∀ (q:Nat) (tq:T),ts[q]?=some tq→∃ e,es[q]?=some e∧gr n H d e=some tq:=by
    intro q tq hq
    have h2:=congrArg (·[q]?) hts
    simp only [List.getElem?_map,hq,Option.map_some] at h2
    cases he:es[q]? with
    | none=>rw [he] at h2;simp at h2
    | some e=>rw [he] at h2;simp at h2;exact ⟨e,rfl,h2⟩
  have hwt:∀ e∈ts,e.cells.length=sz:=by
    intro e he
    obtain ⟨q,hq,rfl⟩:=List.getElem_of_mem he
    obtain ⟨e',he',hge⟩:=hget q ts[q] (by simp [hq])
    rw [(gr_cells hge).1];exact hwf _ (List.mem_of_getElem? he')
  refine ⟨hwt,fun i t' hi=>?_⟩
  have hi':i < ts.length*sz:=by rw [← flatT_len hwt];exact (List.getElem?_eq_some_iff.1 hi).1
  obtain ⟨s1,s2,s3⟩:=flat_split hi'
  rw [s3,flatT_get hwt (i / sz) ts[i / sz] (by simp [s1]) (i % sz) s2] at hi
  obtain ⟨e,he,hge⟩:=hget (i / sz) ts[i / sz] (by simp [s1])
  obtain ⟨vc,d',hvc,hd',hg'⟩:=(gr_cells hge).2 _ _ hi
  have hfl:=flatV_get hwf (i / sz) e he (i % sz) s2
  rw [hvc,← s3] at hfl
  obtain ⟨x,hx,hone,hrv⟩:=hcells _ _ hfl
  exact ⟨x,hx,hone,gr_sound r hI hL d' vc t' x hg' hrv⟩
theorem pa_ra (r:RelH γ I w H) (hI:∀ k,I k→I1 k) (hL:∀ (b k g sz:Nat) (es:List V),n≤b→H[b]?=some (.arr g sz es)→γ[b]?=some (some k)→I1 k)
    {b g i off sz:Nat} {es:List V} {ts:List T} {x:Value} (hb:H[b]?=some (.arr g sz es)) (hn:n≤b) (hg:optL (es.map (gr n H d))=some ts) (hv:RV γ H I w (.pa b g i off) x) {γ2:List (Option Nat)} {H2:List Blk} :
    RV γ2 H2 I1 w (.ra sz ts i off) x:=by
  cases hv with
  | @pa _ _ g' sz' _ _ es' a hb' hgg hc =>
  rw [hb] at hb';cases hb'
  obtain ⟨hi,k,hk,rfl⟩:=hc rfl
  rcases r.arr _ _ _ _ hb with ⟨h0,_⟩|⟨k',c,el,hk',hh,hwf,_,hcells⟩
  · rw [h0] at hk;cases hk
  · rw [hk] at hk';cases hk'
    obtain ⟨h1,h2⟩:=row_data r hI hL hg hwf hcells
    have hlen:es.length=ts.length:=by simpa using congrArg List.length (optL_some hg)
    have:=RV.ra (γ:=γ2) (H:=H2) (I:=I1) (w:=w) (sz:=sz) (es:=ts) (i:=i) (off:=off) k 0 (fun i=>c.getD i undef) (by omega) (hL _ _ _ _ _ hn hb hk) h1
      (fun j t ht=>by obtain ⟨x,hx,_⟩:=h2 j t ht;simp [World.cell?,hh,hx])
      (fun j t ht=>by obtain ⟨x,hx,ho,_⟩:=h2 j t ht;simp [hx,ho])
      (fun j t ht=>by obtain ⟨x,hx,_,hr⟩:=h2 j t ht;simpa [hx] using hr)
    rw [Nat.zero_add] at this
    exact this
end
def grV (n:Nat) (h:List Blk) (d:Nat):V→Option V
  | .pa b g i off=>match h[b]? with
    | some (.arr g' sz es)=>if n≤b∧g=g' then (optL (es.map (gr n h d))).map fun ts=>.ra sz ts i off else none
    | _=>none
  | .any=>some .any
  | .ra sz es i off=>some (.ra sz es i off)
  | v=>(gr n h d v).map .g
theorem grV_ok {n d:Nat} {γ γ2:List (Option Nat)} {H H2:List Blk} {I I1:Nat→Prop} {w:World} (r:RelH γ I w H) (hI:∀ k,I k→I1 k) (hL:∀ (b k g sz:Nat) (es:List V),n≤b→H[b]?=some (.arr g sz es)→γ[b]?=some (some k)→I1 k)
    {v v':V} {x:Value} (hg:grV n H d v=some v') (hv:RV γ H I w v x):RV γ2 H2 I1 w v' x:=by
  have gen:∀ {v:V},(gr n H d v).map V.g=some v'→RV γ H I w v x→RV γ2 H2 I1 w v' x:=fun hg hv=>by
    obtain ⟨t,h1,rfl⟩:=Option.map_eq_some_iff.1 hg
    exact .g (gr_sound r hI hL d _ t x h1 hv)
  cases v with
  | pa b g i off =>
    simp only [grV] at hg
    split at hg
    · rename_i hb
      split at hg
      · rename_i hc
        obtain ⟨hn,rfl⟩:=hc
        obtain ⟨ts,h1,rfl⟩:=Option.map_eq_some_iff.1 hg
        exact pa_ra r hI hL hb hn h1 hv
      · cases hg
    · cases hg
  | any=>cases hg;exact .any
  | ra sz es i off =>
    cases hg
    cases hv with
    | ra k o vs hi hIk hw hc h1 hr=>exact .ra k o vs hi (hI _ hIk) hw hc h1 (fun i t ht=>(hr i t ht).mono hI (fun _ _=>rfl))
  | _=>exact gen hg hv
theorem Ends.closure {H L:List Blk} {R:V→List Blk→Prop} {f:Nat} {cs cs':List V} (d:Nat) (hg:optL (cs.map (grV H.length (H++L) d))=some cs') (h:R (.fn f cs') H):Ends H R (.fn f cs) (H++L) :=
  Ends.drop rfl (fun _ _ hx=>.inr hx) (fun γ I I1 w x r hI hL hx=>by
    have hts:=optL_some hg
    have hlen:cs.length=cs'.length:=by simpa using congrArg List.length hts
    cases hx with
    | fn hl hr =>
      refine .fn (by omega) (fun i t ht=>?_)
      have h2:=congrArg (·[i]?) hts
      simp only [List.getElem?_map,ht,Option.map_some] at h2
      cases he:cs[i]? with
      | none=>rw [he] at h2;simp at h2
      | some e =>
        rw [he] at h2;simp at h2
        exact grV_ok r hI hL h2 (hr i e he)) h
def VG (n:Nat) (H:List Blk) (d:Nat) (v v':V):Prop:=v'=.any∨(v'=v∧v.lt n)∨grV n H d v=some v'
def BG (n:Nat) (H:List Blk) (d:Nat) (x x':Blk):Prop:=(x'=x∧x.lt n)∨∃ g sz es ts,x=.arr g sz es∧x'=.arr g sz (ts.map V.g)∧optL (es.map (gr n H d))=some ts
def dropT (n:Nat) (H:List Blk) (d:Nat):List V→List V→Prop
  | [],[]=>True
  | x::xs,y::ys=>VG n H d x y∧dropT n H d xs ys
  | _,_=>False
def dropH (n:Nat) (H:List Blk) (d:Nat):List Blk→List Blk→Prop
  | [],[]=>True
  | x::xs,y::ys=>BG n H d x y∧dropH n H d xs ys
  | _,_=>False
theorem dropT_ok {n:Nat} {H:List Blk} {d:Nat}:∀ {xs ys:List V},dropT n H d xs ys→xs.length=ys.length∧∀ (i:Nat) (v':V),ys[i]?=some v'→∃ v,xs[i]?=some v∧VG n H d v v'
  | [],[],_=>⟨rfl,fun i v h=>by simp at h⟩
  | x::xs,y::ys,h=>by
    obtain ⟨h1,h2⟩:=dropT_ok h.2
    refine ⟨by simp [h1],fun i v hi=>?_⟩
    cases i with
    | zero=>simp at hi;subst hi;exact ⟨x,rfl,h.1⟩
    | succ i=>simp at hi;simpa using h2 i v hi
theorem dropH_ok {n:Nat} {H:List Blk} {d:Nat}:∀ {xs ys:List Blk},dropH n H d xs ys→xs.length=ys.length∧∀ (i:Nat) (v':Blk),ys[i]?=some v'→∃ v,xs[i]?=some v∧BG n H d v v'
  | [],[],_=>⟨rfl,fun i v h=>by simp at h⟩
  | x::xs,y::ys,h=>by
    obtain ⟨h1,h2⟩:=dropH_ok h.2
    refine ⟨by simp [h1],fun i v hi=>?_⟩
    cases i with
    | zero=>simp at hi;subst hi;exact ⟨x,rfl,h.1⟩
    | succ i=>simp at hi;simpa using h2 i v hi
theorem ReH.drop {z d:Nat} {H2 H3 L:List Blk} (hz:z≤H2.length) (hb:dropH H2.length (H2++L) d H2 H3) {γ:List (Option Nat)} {I:Nat→Prop} {w:World} (r:RelH γ I w (H2++L)) :
    RelH (γ.take H2.length) (frz I γ (H2++L) H2.length) w H3∧ExtM z γ (H2++L) I w (γ.take H2.length) H3 (frz I γ (H2++L) H2.length) w ∧
      ∀ (v v':V) (x:Value),VG H2.length (H2++L) d v v'→RV γ (H2++L) I w v x→RV (γ.take H2.length) H3 (frz I γ (H2++L) H2.length) w v' x:=by
  obtain ⟨hl,hb⟩:=dropH_ok hb
  have hI:∀ k,I k→frz I γ (H2++L) H2.length k:=fun k hk=>.inl hk
  have hL:∀ (b k g sz:Nat) (es:List V),H2.length≤b→(H2++L)[b]?=some (.arr g sz es)→γ[b]?=some (some k)→frz I γ (H2++L) H2.length k:=fun b k g sz es h1 h2 h3=>.inr ⟨b,g,sz,es,h1,h2,h3⟩
  have hshape:∀ b x',H3[b]?=some x'→∃ x,(H2++L)[b]?=some x∧b < H2.length∧BG H2.length (H2++L) d x x':=fun b x' hx=>by
    obtain ⟨x,h1,h2⟩:=hb b x' hx
    have hlt:=lt_of_get h1
    exact ⟨x,by rw [List.getElem?_append_left hlt];exact h1,hlt,h2⟩
  have hinv:∀ b x,b < H2.length→(H2++L)[b]?=some x→∃ x',H3[b]?=some x'∧BG H2.length (H2++L) d x x':=fun b x hlt hx=>by
    have h3:H3[b]?=some (H3[b]'(by omega)):=by simp
    obtain ⟨y,h1,_,h2⟩:=hshape b _ h3
    rw [hx] at h1;cases h1
    exact ⟨_,h3,h2⟩
  have keep:∀ {v:V} {x:Value},v.lt H2.length→RV γ (H2++L) I w v x→RV (γ.take H2.length) H3 (frz I γ (H2++L) H2.length) w v x:=by
    intro v x hv h
    induction h with
    | g h=>exact .g (h.mono hI (fun _ _=>rfl))
    | any=>exact .any
    | nil=>exact .nil
    | @own b g g' sz off len cap es a hb1 hg hl1 hc =>
      cases hv with|own hlt =>
      obtain ⟨x',hx',hbg⟩:=hinv b _ hlt hb1
      rcases hbg with ⟨rfl,_⟩|⟨_,_,_,ts,e1,rfl,e3⟩
      · refine .own hx' hg hl1 (fun e=>⟨(hc e).1,?_⟩)
        rw [List.getElem?_take,if_pos hlt];exact (hc e).2
      · cases e1
        have hlen:es.length=ts.length:=by simpa using congrArg List.length (optL_some e3)
        refine .own hx' hg hl1 (fun e=>⟨by have:=(hc e).1;simp;omega,?_⟩)
        rw [List.getElem?_take,if_pos hlt];exact (hc e).2
    | @pa b g g' sz i off es a hb1 hg hc =>
      cases hv with|pa hlt =>
      obtain ⟨x',hx',hbg⟩:=hinv b _ hlt hb1
      rcases hbg with ⟨rfl,_⟩|⟨_,_,_,ts,e1,rfl,e3⟩
      · refine .pa hx' hg (fun e=>⟨(hc e).1,?_⟩)
        rw [List.getElem?_take,if_pos hlt];exact (hc e).2
      · cases e1
        have hlen:es.length=ts.length:=by simpa using congrArg List.length (optL_some e3)
        refine .pa hx' hg (fun e=>⟨by have:=(hc e).1;simp;omega,?_⟩)
        rw [List.getElem?_take,if_pos hlt];exact (hc e).2
    | ra k o vs hi hIk hw hc h1 hr=>exact .ra k o vs hi (hI _ hIk) hw hc h1 (fun i t ht=>(hr i t ht).mono hI (fun _ _=>rfl))
    | fn hl _ ih=>cases hv with|fn hh=>exact .fn hl (fun i t ht=>ih i t ht (hh i t ht))
    | ag hl h1 _ ih=>cases hv with|ag hh=>exact .ag hl h1 (fun i t ht=>ih i t ht (hh i t ht))
    | tu hl _ ih=>cases hv with|tu hh=>exact .tu hl (fun i t ht=>ih i t ht (hh i t ht))
    | @mp b k kvs hb1 hk =>
      cases hv with|mp hlt =>
      obtain ⟨x',hx',hbg⟩:=hinv b _ hlt hb1
      rcases hbg with ⟨rfl,_⟩|⟨_,_,_,ts,e1,_,_⟩
      · exact .mp hx' (by rw [List.getElem?_take,if_pos hlt];exact hk)
      · cases e1
  refine ⟨⟨by have:=r.len;simp at this ⊢;omega,fun b g sz es hx=>?_,fun b kvs hx=>?_,fun b b' k h1 h2=>?_,fun b k h1=>?_,fun k hk=>?_⟩,⟨rfl,rfl,rfl,Nat.le_refl _,hI,fun k hk=>?_,fun _ _ _=>rfl,fun _ _ h=>h,fun b x hz1 hx=>?_,fun b k hk=>?_⟩,fun v v' x hvg hv=>?_⟩
  · obtain ⟨x,h1,hlt,hbg⟩:=hshape b _ hx
    rcases hbg with ⟨rfl,hlt2⟩|⟨g2,sz2,es2,ts,rfl,e2,e3⟩
    · rcases r.arr b g sz es h1 with ⟨q1,q2⟩|⟨k,c,el,q1,q2,q3,q4,q5⟩
      · exact .inl ⟨by rw [List.getElem?_take,if_pos hlt];exact q1,q2⟩
      · refine .inr ⟨k,c,el,by rw [List.getElem?_take,if_pos hlt];exact q1,q2,q3,q4,fun i v hv=>?_⟩
        obtain ⟨x,y1,y2,y3⟩:=q5 i v hv
        exact ⟨x,y1,y2,keep (hlt2 i v hv) y3⟩
    · cases e2
      have hlen:es2.length=ts.length:=by simpa using congrArg List.length (optL_some e3)
      rcases r.arr b g sz es2 h1 with ⟨q1,q2⟩|⟨k,c,el,q1,q2,q3,q4,q5⟩
      · refine .inl ⟨by rw [List.getElem?_take,if_pos hlt];exact q1,?_⟩
        subst q2
        simp at hlen
        rw [List.eq_nil_of_length_eq_zero hlen.symm];rfl
      · obtain ⟨y1,y2⟩:=row_data r hI hL e3 q3 q5
        refine .inr ⟨k,c,el,by rw [List.getElem?_take,if_pos hlt];exact q1,q2,fun e he=>?_,by simp;rw [← hlen];exact q4,fun i v hv=>?_⟩
        · obtain ⟨t,ht,rfl⟩:=List.mem_map.1 he
          simpa [V.cells] using y1 t ht
        · have:flatV (ts.map V.g)=(flatT ts).map V.g:=by
            simp [flatV,flatT,List.flatMap_map,List.map_flatMap,V.cells]
          rw [this,List.getElem?_map] at hv
          obtain ⟨t,ht,rfl⟩:=Option.map_eq_some_iff.1 hv
          obtain ⟨x,k1,k2,k3⟩:=y2 i t ht
          exact ⟨x,k1,k2,.g k3⟩
  · obtain ⟨x,h1,hlt,hbg⟩:=hshape b _ hx
    rcases hbg with ⟨rfl,_⟩|⟨_,_,_,ts,_,e2,_⟩
    · obtain ⟨k,es,cl,q1,q2⟩:=r.mp b kvs h1
      exact ⟨k,es,cl,by rw [List.getElem?_take,if_pos hlt];exact q1,q2⟩
    · cases e2
  · rw [List.getElem?_take] at h1 h2
    split at h1 <;> split at h2 <;> first|exact r.inj b b' k h1 h2|simp at h1|simp at h2
  · rw [List.getElem?_take] at h1
    split at h1
    · rename_i hlt
      refine ⟨fun h=>?_,(r.off b k h1).2⟩
      rcases h with h|⟨b',_,_,_,hb',_,hk⟩
      · exact (r.off b k h1).1 h
      · have:=r.inj b b' k h1 hk;omega
    · simp at h1
  · rcases hk with hk|⟨b,g,sz,es,_,h2,h3⟩
    · exact r.imm k hk
    · exact r.cellsOf h2 h3
  · rcases hk with hk|⟨b,_,_,_,_,_,hk⟩
    · exact .inl hk
    · exact .inr (.inr ⟨b,hk⟩)
  · obtain ⟨x',hx',hbg⟩:=hinv b x (by omega) hx
    refine ⟨x',hx',?_⟩
    rcases hbg with ⟨rfl,_⟩|⟨g2,sz2,es2,ts,rfl,rfl,e3⟩
    · exact ⟨x'.upto_refl,fun _=>⟨by rw [List.getElem?_take,if_pos (by omega)],fun g sz es es' h1 h2=>by subst h1;cases h2;exact Nat.le_refl _⟩⟩
    · have hlen:es2.length=ts.length:=by simpa using congrArg List.length (optL_some e3)
      exact ⟨by simp [Blk.upto],fun _=>⟨by rw [List.getElem?_take,if_pos (by omega)],fun g sz es es' h1 h2=>by cases h1;cases h2;simp;omega⟩⟩
  · rw [List.getElem?_take] at hk
    split at hk
    · exact .inr ⟨b,hk⟩
    · simp at hk
  · rcases hvg with rfl|⟨rfl,h⟩|h
    · exact .any
    · exact keep h hv
    · exact grV_ok r hI hL h hv
theorem Refi.drop {z:Nat} {t t':List V} {H2 H3 L:List Blk} (d:Nat) (hz:z≤H2.length) (hb:dropH H2.length (H2++L) d H2 H3) (ht:dropT H2.length (H2++L) d t t'):Refi z ⟨t,H2++L⟩ ⟨t',H3⟩:=fun γ I w a r=>by
  obtain ⟨h1,h2,h3⟩:=ReH.drop hz hb r.heap
  obtain ⟨hl,ht⟩:=dropT_ok ht
  refine ⟨_,_,⟨r.defers.extM h2,by rw [r.size];exact hl,fun i v' hv=>?_,h1⟩,h2⟩
  obtain ⟨v,hv1,hvg⟩:=ht i v' hv
  exact h3 v v' _ hvg (r.tmps i v hv1)
end Go.Aw
namespace Go.Aw
def ltS (n:Nat):V→Bool
  | .g _|.nil _|.any|.ra ..=>true
  | .own b _ _ _|.pa b _ _ _|.mp b=>decide (b < n)
  | _=>false
def ltB (n:Nat):V→Bool
  | .fn _ cs|.ag cs|.tu cs=>cs.all (ltS n)
  | v=>ltS n v
def cutV (n:Nat) (v:V):V:=match ltB n v with
  | true=>v
  | false=>.any
theorem ltS_ok {n:Nat} {v:V} (h:ltS n v=true):v.lt n:=by
  cases v <;> simp [ltS] at h
  · exact .g
  · exact .nil
  · exact .own h
  · exact .pa h
  · exact .ra
  · exact .mp h
  · exact .any
theorem ltB_ok {n:Nat} {v:V} (h:ltB n v=true):v.lt n:=by
  have all:∀ {cs:List V},cs.all (ltS n)=true→∀ (i:Nat) (u:V),cs[i]?=some u→u.lt n:=fun h i u hu=>ltS_ok (List.all_eq_true.1 h u (List.mem_of_getElem? hu))
  cases v with
  | fn f cs=>exact .fn (all h)
  | ag cs=>exact .ag (all h)
  | tu cs=>exact .tu (all h)
  | _=>exact ltS_ok h
theorem cut_ok {n:Nat} {H:List Blk} {d:Nat}:∀ (t:List V),dropT n H d t (t.map (cutV n))
  | []=>trivial
  | v::t=>by
    refine ⟨?_,cut_ok t⟩
    unfold cutV
    split
    · rename_i h;exact .inr (.inl ⟨rfl,ltB_ok h⟩)
    · exact .inl rfl
theorem dropH_same {n:Nat} {H:List Blk} {d:Nat}:∀ {h:List Blk},(∀ x∈h,x.lt n)→dropH n H d h h
  | [],_=>trivial
  | x::h,hx=>⟨.inl ⟨rfl,hx x (by simp)⟩,dropH_same fun y hy=>hx y (by simp [hy])⟩
theorem Refi.back {z:Nat} {t t':List V} {H H' L:List Blk} (hH:H=H'++L) (hz:z≤H'.length) (hl:∀ x∈H',x.lt H'.length) (hs:subT (t.map (cutV H'.length)) t'):Refi z ⟨t,H⟩ ⟨t',H'⟩:=by
  subst hH
  exact (Refi.drop 0 hz (dropH_same hl) (cut_ok t)).trans (Refi.sub rfl hs)
theorem lt_all1 {n:Nat} {x:Blk} (h:x.lt n):∀ y∈[x],y.lt n:=fun y hy=>by simp at hy;subst hy;exact h
theorem lt_all2 {n:Nat} {x y:Blk} (h:x.lt n) (k:y.lt n):∀ u∈[x,y],u.lt n:=fun u hu=>by
  simp at hu
  rcases hu with rfl|rfl
  · exact h
  · exact k
end Go.Aw
namespace Go.Aw
def deadB:Blk→Blk
  | .arr g sz _=>.arr (g+1) sz []
  | .mp kvs=>.mp kvs
def killH:Nat→List Blk→List Blk
  | _,[]=>[]
  | 0,x::h=>deadB x::killH 0 h
  | n+1,x::h=>x::killH n h
def killG:Nat→List (Option Nat)→List (Option Nat)
  | _,[]=>[]
  | 0,_::h=>none::killG 0 h
  | n+1,x::h=>x::killG n h
theorem killH_get:∀ (n:Nat) (h:List Blk) (b:Nat),(killH n h)[b]?=if b < n then h[b]? else (h[b]?).map deadB
  | _,[],b=>by simp [killH]
  | 0,x::h,0=>by simp [killH]
  | 0,x::h,b+1=>by simp only [killH,List.getElem?_cons_succ];rw [killH_get 0 h b];simp
  | n+1,x::h,0=>by simp [killH]
  | n+1,x::h,b+1=>by simp only [killH,List.getElem?_cons_succ];rw [killH_get n h b];simp
theorem killG_get:∀ (n:Nat) (h:List (Option Nat)) (b:Nat),(killG n h)[b]?=if b < n then h[b]? else (h[b]?).map fun _=>none
  | _,[],b=>by simp [killG]
  | 0,x::h,0=>by simp [killG]
  | 0,x::h,b+1=>by simp only [killG,List.getElem?_cons_succ];rw [killG_get 0 h b];simp
  | n+1,x::h,0=>by simp [killG]
  | n+1,x::h,b+1=>by simp only [killG,List.getElem?_cons_succ];rw [killG_get n h b];simp
theorem killH_len:∀ (n:Nat) (h:List Blk),(killH n h).length=h.length
  | _,[]=>rfl
  | 0,x::h=>by simp [killH,killH_len 0 h]
  | n+1,x::h=>by simp [killH,killH_len n h]
theorem killG_len:∀ (n:Nat) (h:List (Option Nat)),(killG n h).length=h.length
  | _,[]=>rfl
  | 0,x::h=>by simp [killG,killG_len 0 h]
  | n+1,x::h=>by simp [killG,killG_len n h]
theorem kill_ok {γ:List (Option Nat)} {H:List Blk} {I:Nat→Prop} {w:World} (r:RelH γ I w H) (hm:noMp H) (n:Nat) :
    RelH (killG n γ) (frz I γ H n) w (killH n H)∧Ext γ H I w (killG n γ) (killH n H) (frz I γ H n) w:=by
  have hx:Ext γ H I w (killG n γ) (killH n H) (frz I γ H n) w:={
    os:=rfl,tape:=rfl,output:=rfl,size:=Nat.le_refl _
    sub:=fun k hk=>.inl hk
    sub':=fun k hk=>by
      rcases hk with hk|⟨b,_,_,_,_,_,hk⟩
      · exact .inl hk
      · exact .inr (.inr ⟨b,hk⟩)
    frame:=fun _ _ _=>rfl
    rows:=fun _ _ h=>h
    blk:=fun b x hb=>by
      rcases Nat.lt_or_ge b n with hlt|hge
      · exact ⟨x,by rw [killH_get,if_pos hlt];exact hb,x.upto_refl,fun _=>⟨by rw [killG_get,if_pos hlt],fun g sz es es' h1 h2=>by subst h1;cases h2;exact Nat.le_refl _⟩⟩
      · cases x with
        | mp kvs=>exact absurd hb (hm b kvs)
        | arr g sz es=>exact ⟨.arr (g+1) sz [],by rw [killH_get,if_neg (by omega),hb];rfl,by simp [Blk.upto],fun e=>by simp [Blk.same] at e⟩
    new:=fun b k hk=>by
      rw [killG_get] at hk
      split at hk
      · exact .inr ⟨b,hk⟩
      · cases h:γ[b]? <;> rw [h] at hk <;> simp at hk }
  refine ⟨⟨by rw [killH_len,killG_len,r.len],fun b g sz es hb=>?_,fun b kvs hb=>?_,fun b b' k h1 h2=>?_,fun b k h1=>?_,fun k hk=>?_⟩,hx⟩
  · rw [killH_get] at hb
    split at hb
    · rename_i hlt
      rcases r.arr b g sz es hb with ⟨h1,h2⟩|⟨k,c,el,h1,h2,h3,h4,h5⟩
      · exact .inl ⟨by rw [killG_get,if_pos hlt];exact h1,h2⟩
      · exact .inr ⟨k,c,el,by rw [killG_get,if_pos hlt];exact h1,h2,h3,h4,fun i v hv=>by obtain ⟨x,y1,y2,y3⟩:=h5 i v hv;exact ⟨x,y1,y2,y3.mono hx r⟩⟩
    · rename_i hge
      cases hH:H[b]? with
      | none=>rw [hH] at hb;simp at hb
      | some x =>
        rw [hH] at hb;simp at hb
        have hg:b < γ.length:=by rw [r.len];exact lt_of_get hH
        cases x with
        | mp kvs=>cases hb
        | arr g0 s0 e0=>cases hb;exact .inl ⟨by rw [killG_get,if_neg hge];simp [hg],rfl⟩
  · rw [killH_get] at hb
    split at hb
    · exact absurd hb (hm b kvs)
    · cases hH:H[b]? with
      | none=>rw [hH] at hb;simp at hb
      | some x =>
        rw [hH] at hb;simp at hb
        cases x with
        | mp kvs=>exact absurd hH (hm b kvs)
        | arr=>cases hb
  · rw [killG_get] at h1 h2
    split at h1
    · split at h2
      · exact r.inj b b' k h1 h2
      · cases h:γ[b']? <;> rw [h] at h2 <;> simp at h2
    · cases h:γ[b]? <;> rw [h] at h1 <;> simp at h1
  · rw [killG_get] at h1
    split at h1
    · rename_i hlt
      refine ⟨fun hI=>?_,(r.off b k h1).2⟩
      rcases hI with hI|⟨b',_,_,_,hb',_,hk⟩
      · exact (r.off b k h1).1 hI
      · have:=r.inj b b' k h1 hk;omega
    · cases h:γ[b]? <;> rw [h] at h1 <;> simp at h1
  · rcases hk with hk|⟨b,g,sz,es,_,h2,h3⟩
    · exact r.imm k hk
    · exact r.cellsOf h2 h3
theorem CG.give {P:Program} {f:Nat} {ts:List T} {t:T} (c:CG P f ts t) (n d:Nat) {H:List Blk} (hm:noMp H) {args:List V} (ha:optL (args.map (gr n H d))=some ts) {K:V→List Blk→Prop} (k:K (.g t) (killH n H)):ACalls P f args H K:=by
  have h1:ACalls P f (ts.map .g) (killH n H) K:=c.go (by rw [List.map_map];exact optL_map_some _) k
  have hts:=optL_some ha
  have hl:args.length=ts.length:=by simpa using congrArg List.length hts
  refine ⟨h1.1,fun γ I w vs r hlen hv=>?_⟩
  obtain ⟨r2,x2⟩:=kill_ok r hm n
  refine (h1.2 _ _ w vs r2 (by simp;omega) fun i v hi=>?_).mono fun e w' ⟨r1,x,H',γ',I',h1,h2,h3,h4,h5⟩=>⟨r1,x,H',γ',I',h1,h2,h3,h4,x2.trans h5⟩
  rw [List.getElem?_map] at hi
  cases ht:ts[i]? with
  | none=>rw [ht] at hi;cases hi
  | some y =>
    rw [ht] at hi;simp at hi;subst hi
    have h2:=congrArg (·[i]?) hts
    simp only [List.getElem?_map,ht,Option.map_some] at h2
    cases he:args[i]? with
    | none=>rw [he] at h2;simp at h2
    | some e =>
      rw [he] at h2;simp at h2
      exact .g (gr_sound r (fun k hk=>.inl hk) (fun b k g sz es h1 h2 h3=>.inr ⟨b,g,sz,es,h1,h2,h3⟩) d e y _ h2 (hv i e he))
theorem noMp_nil:noMp []:=fun b kvs h=>by simp at h
theorem noMp_cons {g sz:Nat} {es:List V} {h:List Blk} (k:noMp h):noMp (.arr g sz es::h):=fun b kvs hb=>by
  cases b with
  | zero=>simp at hb
  | succ b=>simp at hb;exact k b kvs hb
end Go.Aw
namespace Go.Aw
inductive RX where
  | t (n:Nat)
  | c (n:Nat) (sz:Option Nat)
def slimR (P:Program):ResultVar→Option RX
  | .tmp n=>some (.t n)
  | .cell n ty=>(aggO P ty).bind fun g=>match g with
    | true=>(szOf P ty).map fun s=>.c n (some s)
    | false=>some (.c n none)
def RX.val (t:List V) (h:List Blk):RX→(V→Prop)→Prop
  | .t n,K=>K (getT t n)
  | .c n sz,K=>loadP h sz (getT t n) K
def retL (t:List V) (h:List Blk):List RX→(List V→Prop)→Prop
  | [],K=>K []
  | x::xs,K=>x.val t h fun v=>forceV v fun v=>retL t h xs fun vs=>K (v::vs)
def retG (rs:List RX) (t:List V) (h:List Blk) (k:V→Prop):Prop:=match rs with
  | [x]=>x.val t h fun v=>forceV v k
  | rs=>retL t h rs fun vs=>k (.tu vs)
section
variable {P:Program} {γ:List (Option Nat)} {H:List Blk} {I:Nat→Prop} {w:World}
theorem getT_rv {t:List V} {a:Array Value} (hv:∀ (i:Nat) (v:V),t[i]?=some v→RV γ H I w v (a.getD i undef)) (n:Nat):RV γ H I w (getT t n) (a.getD n undef):=by
  rw [getT_eq]
  cases ht:t[n]? with
  | none=>rw [List.getD_eq_getElem?_getD,ht];exact .any
  | some v=>rw [getD_eq ht];exact hv n v ht
def resV (a:Array Value):ResultVar→Sem Value
  | .tmp t=>pure (a.getD t undef)
  | .cell c t=>do loadVar t (← asAddr (a.getD c undef))
theorem val_ok {t:List V} {a:Array Value} {x:ResultVar} {y:RX} {K:V→Prop} (hs:slimR P x=some y) (r:RelH γ I w H) (hv:∀ (i:Nat) (v:V),t[i]?=some v→RV γ H I w v (a.getD i undef))
    (h:y.val t H K):∃ v z,(resV a x).run P w=.ok z w∧RV γ H I w v z∧K v:=by
  cases x with
  | tmp n =>
    simp only [slimR,Option.some.injEq] at hs;subst hs
    exact ⟨_,_,rfl,getT_rv hv n,h⟩
  | cell n ty =>
    simp only [slimR] at hs
    obtain ⟨g,h1,hs⟩:=Option.bind_eq_some_iff.1 hs
    have key:∀ sz,slimN P ty sz→loadP H sz (getT t n) K→∃ v z,(resV a (.cell n ty)).run P w=.ok z w∧RV γ H I w v z∧K v:=by
      intro sz hsz hl
      have hx:=getT_rv hv n
      obtain ⟨z,v,q1,q2,q3⟩:=loadP_ok hsz r hx hl
      refine ⟨v,z,?_,q2,q3⟩
      simp only [resV]
      unfold loadP at hl
      split at hl
      · rename_i e;rw [e] at hx
        generalize a.getD n undef=X at hx q1
        cases hx with
        | pa=>simpa [Instr.loadAt,Instr.sureAddr,asAddr] using q1
      · rename_i e;rw [e] at hx
        generalize a.getD n undef=X at hx q1
        cases hx with
        | ra=>simpa [Instr.loadAt,Instr.sureAddr,asAddr] using q1
      · exact hl.elim
    cases g with
    | true =>
      obtain ⟨s,h2,rfl⟩:=Option.map_eq_some_iff.1 hs
      exact key _ (.inr ⟨h1,s,h2,rfl⟩) h
    | false =>
      cases hs
      exact key _ (.inl ⟨h1,rfl⟩) h
theorem retL_ok {t:List V} {a:Array Value} (r:RelH γ I w H) (hv:∀ (i:Nat) (v:V),t[i]?=some v→RV γ H I w v (a.getD i undef)):∀ {xs:List ResultVar} {ys:List RX} {K:List V→Prop},optL (xs.map (slimR P))=some ys →
    retL t H ys K→∃ vs zs,(xs.mapM (m:=Sem) (resV a)).run P w=.ok zs w∧RVs γ H I w vs zs∧zs.length=ys.length∧K vs
  | [],ys,K,hs,h=>by simp [optL] at hs;subst hs;exact ⟨[],[],rfl,.nil,rfl,h⟩
  | x::xs,ys,K,hs,h=>by
    simp only [List.map_cons] at hs
    cases hx:slimR P x with
    | none=>rw [hx] at hs;cases hs
    | some y =>
      rw [hx] at hs
      simp only [optL] at hs
      cases hr:optL (xs.map (slimR P)) with
      | none=>rw [hr] at hs;cases hs
      | some ys' =>
        rw [hr] at hs;cases hs
        obtain ⟨v,z,h1,h2,h3⟩:=val_ok hx r hv h
        rw [forceV_eq] at h3
        obtain ⟨vs,zs,h4,h5,h6,h7⟩:=retL_ok r hv hr h3
        exact ⟨v::vs,z::zs,by rw [List.mapM_cons];simp [h1,h4],.cons h2 h5,by simp [h6],h7⟩
theorem results_eq (fn:Func) (a:Array Value):(results fn a).run P w=((fn.results.toList.mapM (m:=Sem) (resV a)).run P w).andThen fun vs w'=>.ok (if h:vs.toArray.size=1 then vs.toArray[0] else .tuple vs.toArray) w':=by
  have e:(fn.results.mapM (m:=Sem) (resV a))=List.toArray <$> fn.results.toList.mapM (resV a):=by
    have:fn.results=fn.results.toList.toArray:=by simp
    rw [this,List.mapM_toArray]
  have e2:results fn a=(do let vs ← fn.results.mapM (m:=Sem) (resV a);pure (if h:vs.size=1 then vs[0] else .tuple vs)):=by
    unfold results
    congr 1
  rw [e2,e]
  simp only [map_eq_pure_bind,bind_assoc,pure_bind,Sem.run_bind,Sem.run_pure]
theorem retG_ok {fn:Func} {rs:List RX} {t:List V} {a:Array Value} {K:V→Prop} (hs:optL (fn.results.toList.map (slimR P))=some rs) (r:RelH γ I w H) (hv:∀ (i:Nat) (v:V),t[i]?=some v→RV γ H I w v (a.getD i undef))
    (h:retG rs t H K):∃ v z,(results fn a).run P w=.ok z w∧RV γ H I w v z∧K v:=by
  unfold retG at h
  split at h
  · rename_i x
    have h':retL t H [x] fun vs=>∃ v,vs=[v]∧K v:=by
      cases x with
      | t n=>simp only [RX.val] at h;simp only [retL,RX.val,forceV_eq] at h ⊢;exact ⟨_,rfl,h⟩
      | c n sz =>
        have hm:∀ {K K':V→Prop},(∀ v,K v→K' v)→loadP H sz (getT t n) K→loadP H sz (getT t n) K':=fun hk hl=>by
          obtain ⟨v,h1,h2⟩:=loadP_one _ hl;exact h2 _ (hk _ h1)
        refine hm (fun v hk=>?_) h
        rw [forceV_eq] at hk
        simp only [forceV_eq,retL]
        exact ⟨v,rfl,hk⟩
    obtain ⟨vs,zs,h1,h2,_,v,rfl,h3⟩:=retL_ok r hv hs h'
    obtain ⟨z,zs',rfl,q1,q2⟩:=h2.uncons
    have:zs'=[]:=List.eq_nil_of_length_eq_zero (by simpa using q2.1)
    subst this
    exact ⟨v,z,by rw [results_eq,h1];rfl,q1,h3⟩
  · rename_i hne
    obtain ⟨vs,zs,h1,h2,h4,h3⟩:=retL_ok r hv hs h
    refine ⟨_,.tuple zs.toArray,?_,.tu h2.1 h2.2,h3⟩
    rw [results_eq,h1]
    have:zs.length≠1:=by
      intro e
      match rs,h4,hne with
      | [x],_,hne=>exact hne x rfl
      | [],h4,_=>rw [h4] at e;cases e
      | _::_::_,h4,_=>rw [h4] at e;simp at e
    simp [Result.andThen,this]
theorem ACalls.of_bodyG {fn:Func} {f:Nat} {c:Code} {args:List V} {R:V→List Blk→Prop} (rs:List RX)
    (hf:P.funcs[f]?=some fn) (hnm:(fn.name == "runtime.NumGoroutine")=false) (hb:fn.body=some c) (hres:optL (fn.results.toList.map (slimR P))=some rs)
    (h:AW H.length P c (fun e s'=>match e with|.ret|.normal=>retG rs s'.t s'.h fun v=>Ends H R v s'.h|_=>False) ⟨args++List.replicate (fn.ntmps-args.length) .any,H⟩) :
    ACalls P f args H R:=by
  refine ⟨⟨fn,hf,hnm,by rw [hb];rfl⟩,?_⟩
  intro γ I w vs r hl hv
  refine callsIn_wide.1 (callsIn_of_wp_marks (F:=Fence.wide) (n:=0) hf hb trivial (wpIn_wide.2 (wp_mono (h γ I w _ ⟨.none,?_,?_,r⟩) ?_)))
  · simp [hl]
  · intro i v hi
    rcases Nat.lt_or_ge i args.length with hlt|hge
    · rw [List.getElem?_append_left hlt] at hi
      have:=hv i v hi
      have e:(vs.toArray++Array.replicate (fn.ntmps-vs.toArray.size) undef).getD i undef=vs.getD i undef:=by
        simp [Array.getElem?_append,hl,hlt]
      rw [e];exact this
    · rw [List.getElem?_append_right hge] at hi
      rw [List.getElem?_replicate] at hi
      split at hi
      · cases hi;exact .any
      · simp at hi
  · intro e a' w' ⟨s',γ',I',q,r',x1,nd⟩
    have x':=x1.full
    have hret:∀ (_:retG rs s'.t s'.h fun v=>Ends H R v s'.h),bodyPostM Fence.wide 0 P fn (fun e w'=>∃ r x H' γ' I',e=.returned x∧R r H'∧RelH γ' I' w' H'∧RV γ' H' I' w' r x∧Ext γ H I w γ' H' I' w') .ret a' w':=by
      intro he
      obtain ⟨Ds,e1,hlo⟩:=nd
      obtain ⟨e2,e3⟩:=(show Inert γ' I' w' (Ds.map mkD++[]) from e1▸r'.defers).ex
      simp only [List.append_nil] at e1
      show LeavesInM Fence.wide 0 P fn a'.tmps _ a'.defers .returning w'
      rw [e1]
      refine leaves_marks (γ:=γ') (I:=I') (lo:=w.heap.size) Ds w' e2 e3 hlo fun w2 hw=>?_
      · obtain ⟨v,z,q1,q2,q3⟩:=retG_ok (w:=w2) (γ:=γ') (H:=s'.h) (I:=I') (a:=a'.tmps) hres (hw.rel r'.heap) (fun i u hu=>hw.rv (r'.tmps i u hu)) he
        obtain ⟨r1,H1,γ1,I1,k1,k2,k3,k4⟩:=q3 γ I w γ' I' w2 _ r (hw.rel r'.heap) q2 (hw.ext x')
        exact ⟨_,q1,r1,_,H1,γ1,I1,rfl,k1,k2,k3,k4⟩
    cases e with
    | ret=>exact hret q
    | normal=>exact hret q
    | _=>exact q.elim
theorem retG_mono {rs:List RX} {t:List V} {K K':V→Prop} (hk:∀ v,K v→K' v) (h:retG rs t H K):retG rs t H K':=by
  have one:∀ {x:RX} {K K':V→Prop},(∀ v,K v→K' v)→x.val t H K→x.val t H K':=by
    intro x K K' hk h
    cases x with
    | t n=>exact hk _ h
    | c n sz=>obtain ⟨v,h1,h2⟩:=loadP_one _ h;exact h2 _ (hk _ h1)
  have many:∀ {xs:List RX} {K K':List V→Prop},(∀ v,K v→K' v)→retL t H xs K→retL t H xs K':=by
    intro xs
    induction xs with
    | nil=>intro K K' hk h;exact hk _ h
    | cons x xs ih =>
      intro K K' hk h
      refine one (fun v h=>?_) h
      rw [forceV_eq] at h ⊢
      exact ih (fun vs=>hk _) h
  unfold retG at h ⊢
  split
  · exact one (fun v h=>by rw [forceV_eq] at h ⊢;exact hk _ h) h
  · rename_i hne
    split at h
    · rename_i x;exact absurd rfl (hne x)
    · exact many (fun vs=>hk _) h
def FnR (P:Program) (wf:Nat) (f nt:Nat) (rs:List RX) (sc:SC):Prop :=
  ∃ fn,P.funcs[f]?=some fn∧(fn.name == "runtime.NumGoroutine")=false∧fn.body.bind (slimC P wf)=some sc∧optL (fn.results.toList.map (slimR P))=some rs∧fn.ntmps=nt
def DoneR (H:List Blk) (R:V→List Blk→Prop) (rs:List RX) (e:Exit) (t:List V) (h:List Blk):Prop :=
  match e with
  | .ret|.normal=>retG rs t h fun v=>forceH h fun h=>Fin H R v h
  | _=>False
theorem FnR.calls {P:Program} {wf:Nat} {f nt:Nat} {rs:List RX} {sc:SC} (h:FnR P wf f nt rs sc) {args:List V} {H:List Blk} {R:V→List Blk→Prop}
    (k:forceT (args++List.replicate (nt-args.length) .any) fun t=>AC H.length (npP P) sc (DoneR H R rs) t H):ACalls P f args H R:=by
  rw [forceT_eq] at k
  obtain ⟨fn,h1,h2,h3,h4,rfl⟩:=h
  obtain ⟨c,hb,hs⟩:=Option.bind_eq_some_iff.1 h3
  refine ACalls.of_bodyG rs h1 h2 hb h4 ((AC_ok (P:=npP P) (sc:=sc) (fun _ _ _ h=>h.elim) (s:=⟨args++List.replicate (fn.ntmps-args.length) .any,H⟩) hs k).mono fun e s' q=>?_)
  cases e <;> first|exact retG_mono (fun v h=>by rw [forceH_eq] at h;exact h.ends) q|exact q
end
abbrev oP (d:Nat) (o:SO):SOp:=⟨some d,none,o⟩
abbrev oV (d k:Nat):SOp:=⟨some d,none,.mv (.t k)⟩
abbrev oF (d i:Nat) (o:SO):SOp:=⟨some d,some (i,false),o⟩
abbrev oT (d i:Nat) (o:SO):SOp:=⟨some d,some (i,true),o⟩
abbrev oFv (d i k:Nat):SOp:=⟨some d,some (i,false),.mv (.t k)⟩
abbrev oTv (d i k:Nat):SOp:=⟨some d,some (i,true),.mv (.t k)⟩
abbrev xi (n:Int):X:=.c (.int .i64 n)
abbrev xb (b:Bool):X:=.c (.bool b)
end Go.Aw
namespace Go.Aw
open Go.ChangeShapes Go.WideShapes Go.RowKit
inductive Ty where
  | b|i (k:IntKind)|s|sl (n:Nat) (e:Ty)|fn|fc (a r:Ty)
def Ty.ag:Ty→Bool
  | .fn|.fc ..=>true
  | _=>false
def mkT (ag:Bool) (cs:List T):T:=match ag,cs with
  | false,[c]=>c
  | _,cs=>.ag cs
def TC:Ty→List T→Prop
  | .b,cs=>∃ x,cs=[.b x]
  | .i k,cs=>∃ n,cs=[.sc (.int k n)]∧inR k n
  | .s,cs=>∃ x,cs=[.s x]∧x.size≤maxLen
  | .sl n e,cs=>∃ es,cs=[.sl n es]∧es.length≤maxLen∧∀ x∈es,∃ ys,TC e ys∧x=mkT e.ag ys
  | .fn,cs=>cs=[]
  | .fc a r,cs=>∃ x y,cs=x++y∧TC a x∧TC r y
def TV (ty:Ty) (t:T):Prop:=∃ cs,TC ty cs∧t=mkT ty.ag cs
def tyFs (P:Program) (f:TypeId→Option Ty):Nat→List Field→Nat→Option Ty
  | o,[],n=>if o=n then some .fn else none
  | o,x::r,n=>if x.offset=o then (f x.type).bind fun a=>(tyFs P f (o+P.cellsOf x.type) r n).map (Ty.fc a) else none
def tyOf (P:Program):Nat→TypeId→Option Ty
  | 0,_=>none
  | d+1,t=>match P.underlying t with
    | some .bool=>some .b
    | some (.int k)=>some (.i k)
    | some .string=>some .s
    | some (.slice e)=>if P.cellsOf e=0 then none else (tyOf P d e).map (Ty.sl (P.cellsOf e))
    | some (.struct fs)=>tyFs P (tyOf P d) 0 fs.toList (P.cellsOf t)
    | _=>none
theorem TC.cells {ty:Ty} {cs:List T} (h:TC ty cs):(mkT ty.ag cs).cells=cs:=by
  cases ty with
  | b=>obtain ⟨x,rfl⟩:=h;rfl
  | i k=>obtain ⟨x,rfl,_⟩:=h;rfl
  | s=>obtain ⟨x,rfl,_⟩:=h;rfl
  | sl n e=>obtain ⟨x,rfl,_⟩:=h;rfl
  | fn=>rfl
  | fc a r=>rfl
def RTs (I:Nat→Prop) (w:World) (cs:List T) (vs:List Value):Prop :=
  vs.length=cs.length∧(∀ v∈vs,v.oneCell'=true)∧∀ (i:Nat) (c:T),cs[i]?=some c→RT I w c (vs.getD i undef)
theorem RTs.one {I:Nat→Prop} {w:World} {c:T} {v:Value} (h1:v.oneCell'=true) (h:RT I w c v):RTs I w [c] [v] :=
  ⟨rfl,by simpa using h1,fun i c' hi=>by cases i with|zero=>simp at hi;subst hi;exact h|succ i=>simp at hi⟩
theorem RTs.append {I:Nat→Prop} {w:World} {cs ds:List T} {vs us:List Value} (h:RTs I w cs vs) (k:RTs I w ds us):RTs I w (cs++ds) (vs++us):=by
  refine ⟨by simp [h.1,k.1],fun v hv=>(List.mem_append.1 hv).elim (h.2.1 v) (k.2.1 v),fun i c hi=>?_⟩
  by_cases hlt:i < cs.length
  · rw [List.getElem?_append_left hlt] at hi
    have:=h.2.2 i c hi
    rw [List.getD_eq_getElem?_getD,List.getElem?_append_left (by rw [h.1];exact hlt),← List.getD_eq_getElem?_getD];exact this
  · rw [List.getElem?_append_right (by omega)] at hi
    have:=k.2.2 _ c hi
    rw [List.getD_eq_getElem?_getD,List.getElem?_append_right (by rw [h.1];omega),h.1,← List.getD_eq_getElem?_getD];exact this
theorem add_spot {a:Addr} (h:a.spot=none) (m:Nat):a.add m=⟨a.block,a.off+m,none⟩:=by
  cases a;simp at h;subst h
  unfold Addr.add;split
  · rename_i h0;subst h0;rfl
  · rfl
theorem cell_spot {w:World} {a:Addr} {v:Value} (h:w.cell? a=some v):a.spot=none∧∃ (c:Array Value) (el:TypeId) (fr:Nat×Nat),w.heap[a.block]?=some (Obj.cells c el fr):=by
  unfold World.cell? at h
  split at h
  · rename_i c _ _ hh
    refine ⟨?_,_,_,_,hh⟩
    cases hs:a.spot with
    | none=>rfl
    | some x=>rw [hs] at h;simp at h
  · cases h
mutual
def bT:T→Nat
  | .sc (.string s)=>s.size+1
  | .sc _=>1
  | .sl _ es=>bTs es+1
  | .ag cs=>bTs cs
def bTs:List T→Nat
  | []=>0
  | t::ts=>bT t+bTs ts
end
theorem bTs_app:∀ (a b:List T),bTs (a++b)=bTs a+bTs b
  | [],b=>by simp [bTs]
  | t::a,b=>by simp [bTs,bTs_app a b];omega
theorem bT_mk {ag:Bool} {cs:List T}:bT (mkT ag cs)=bTs cs:=by
  unfold mkT;split
  · simp [bTs]
  · simp [bT]
structure Meas {H:Type} (s:Nat) (B:DataW H→Nat):Prop where
  b:∀ b,s≤B (.lit (.bool b))
  i:∀ k n,s≤B (.lit (.int k n))
  str:∀ l,s*(l.length+1)≤B (.lit (.string l))
  nil:s≤B .nil
  sl:∀ e r,s+(e.map B).sum≤B (.slice e r)
  ag:∀ l,(l.map B).sum≤B (.agg l)
theorem Meas.none {H:Type}:Meas (H:=H) 0 (fun _=>0):=by
  have h:∀ l:List (DataW H),(l.map fun _=>0).sum=0:=fun l=>by induction l <;> simp_all
  exact ⟨fun _=>Nat.le_refl _,fun _ _=>Nat.le_refl _,fun _=>by simp,Nat.le_refl _,fun e _=>by simp [h],fun l=>by simp [h]⟩
theorem sum_le {H:Type} {s:Nat} {B:DataW H→Nat}:∀ {es:List T} {ds:List (DataW H)},es.length=ds.length→(∀ (i:Nat) t d,es[i]?=some t→ds[i]?=some d→s*bT t≤B d)→s*bTs es≤(ds.map B).sum
  | [],[],_,_=>by simp [bTs]
  | t::es,d::ds,hl,h=>by
    have h1:=h 0 t d rfl rfl
    have h2:=sum_le (es:=es) (ds:=ds) (by simpa using hl) (fun i t d ht hd=>h (i+1) t d ht hd)
    simp only [bTs,List.map_cons,List.sum_cons,Nat.mul_add];omega
  | [],_::_,hl,_=>by simp at hl
  | _::_,[],hl,_=>by simp at hl
section
variable {H:Type} {enc:TypeId×Value→H} {P:Program} {w:World} {I:Nat→Prop} {s:Nat} {B:DataW H→Nat}
theorem fields_plain {f:TypeId→Option Ty} {n:Nat} {vs:List Value} (hn:vs.length=n)
    (ih:∀ t ty us x,f t=some ty→(∃ fuel,DataW.trod enc P w 0 (fun _=>true) true fuel t us=some x)→∃ cs,TC ty cs∧RTs I w cs us∧s*bTs cs≤B x.1) :
    ∀ {fs:List Field} {xs:List (DataW H×List MemPlace)} {o:Nat} {ty:Ty},tyFs P f o fs n=some ty→o≤n→xs.length=fs.length→(∀ (i:Nat) x,fs[i]?=some x→∃ fuel,DataW.trod enc P w 0 (fun _=>true) true fuel x.type ((vs.drop x.offset).take (P.cellsOf x.type))=xs[i]?) →
      o≤n∧∃ cs,TC ty cs∧RTs I w cs (vs.drop o)∧s*bTs cs≤(xs.map fun x=>B x.1).sum
  | [],xs,o,ty,h,ho,hxl,_=>by
    unfold tyFs at h
    split at h
    · rename_i e;cases h;subst e
      exact ⟨Nat.le_refl _,[],rfl,by rw [← hn,List.drop_length];exact ⟨rfl,by simp,fun i c hi=>by simp at hi⟩,by simp [bTs]⟩
    · cases h
  | x::fs,[],o,ty,h,ho,hxl,_=>by simp at hxl
  | x::fs,y::xs,o,ty,h,ho,hxl,hf=>by
    unfold tyFs at h
    split at h
    case isFalse=>cases h
    rename_i e
    obtain ⟨a,h1,h⟩:=Option.bind_eq_some_iff.1 h
    obtain ⟨r,h2,rfl⟩:=Option.map_eq_some_iff.1 h
    have hle:o+P.cellsOf x.type≤n:=by
      clear hf h1
      have:∀ (fs:List Field) (o:Nat) (r:Ty),tyFs P f o fs n=some r→o≤n:=by
        intro fs
        induction fs with
        | nil =>
          intro o r h;unfold tyFs at h;split at h
          · omega
          · cases h
        | cons y fs ihf =>
          intro o r h;unfold tyFs at h;split at h
          · obtain ⟨_,_,h⟩:=Option.bind_eq_some_iff.1 h
            obtain ⟨_,h,_⟩:=Option.map_eq_some_iff.1 h
            have:=ihf _ _ h;omega
          · cases h
      exact this _ _ _ h2
    obtain ⟨_,cr,t2,r2,b2⟩:=fields_plain hn ih h2 hle (by simpa using hxl) (fun i y hy=>hf (i+1) y hy)
    obtain ⟨fuel,hfy⟩:=hf 0 x rfl
    obtain ⟨ca,t1,r1,b1⟩:=ih x.type a _ y h1 ⟨fuel,hfy⟩
    refine ⟨ho,ca++cr,⟨ca,cr,rfl,t1,t2⟩,?_,?_⟩
    · rw [e] at r1
      have:vs.drop o=(vs.drop o).take (P.cellsOf x.type)++vs.drop (o+P.cellsOf x.type):=by
        rw [← List.drop_drop,List.take_append_drop]
      rw [this]
      exact r1.append r2
    · rw [bTs_app,Nat.mul_add];simp only [List.map_cons,List.sum_cons];omega
theorem trod_plain (hB:Meas s B) (hI:∀ k,(∃ (c:Array Value) (el:TypeId) (fr:Nat×Nat),w.heap[k]?=some (Obj.cells c el fr))→I k):∀ (d:Nat) (t:TypeId) (ty:Ty) (vs:List Value) (x:DataW H×List MemPlace),tyOf P d t=some ty →
    (∃ fuel,DataW.trod enc P w 0 (fun _=>true) true fuel t vs=some x)→∃ cs,TC ty cs∧RTs I w cs vs∧s*bTs cs≤B x.1:=by
  intro d
  induction d with
  | zero=>intro t ty vs x h;simp [tyOf] at h
  | succ d ih =>
    rintro t ty vs x h ⟨fuel,hx⟩
    unfold tyOf at h
    split at h
    case h_1 ht =>
      cases h
      cases fuel with
      | zero=>simp [DataW.trod] at hx
      | succ n =>
        unfold DataW.trod at hx
        rw [ht] at hx
        split at hx <;> simp_all
        subst hx
        exact ⟨_,⟨_,rfl⟩,.one rfl (.sc rfl),by simpa [bTs,bT] using hB.b _⟩
    case h_2 k ht =>
      cases h
      obtain ⟨n,rfl,rfl,hw⟩:=DataW.trod_int ht hx
      simp only [Lit.wf,Bool.and_eq_true,decide_eq_true_eq] at hw
      exact ⟨_,⟨n,rfl,by simpa [inR,IntKind.has] using hw⟩,.one rfl (.sc rfl),by simpa [bTs,bT] using hB.i k n⟩
    case h_3 ht =>
      cases h
      obtain ⟨s,rfl,rfl,hs⟩:=DataW.trod_string ht hx
      exact ⟨_,⟨s,rfl,hs⟩,.one rfl (.sc rfl),by
        have:=hB.str s.data.toList
        have e:s.data.toList.length=s.size:=Array.length_toList
        rw [e] at this
        have e2:bTs [T.sc (.string s)]=s.size+1:=by simp only [bTs,bT]
        rw [e2];exact this⟩
    case h_4 e ht =>
      split at h
      case isTrue=>cases h
      rename_i hz
      obtain ⟨te,h1,rfl⟩:=Option.map_eq_some_iff.1 h
      rcases DataW.trod_slice ht hx with ⟨rfl,rfl⟩|⟨a,len,cap,elems,rest,n,_,rfl,rfl,_,hlc,hcap,hlen,hel,_,_⟩
      · exact ⟨[.sl (P.cellsOf e) []],⟨[],rfl,by simp,by simp⟩,.one rfl (.sl (es:=[]) 0 0 (fun _=>undef) (by simp) (by simp) (by simp) (by simp [flatT]) (by simp [flatT]) (by simp [flatT])),by simpa [bTs,bT] using hB.nil⟩
      · have each:∀ i,i < len→∃ cs vs,TC te cs∧RTs I w cs vs∧w.cells? 0 (a.add (i*P.cellsOf e)) (P.cellsOf e)=some vs∧∀ y,elems[i]?=some y→s*bTs cs≤B y.1:=by
          intro i hi
          have:=hel i hi
          have hsome:elems[i]?=some (elems[i]'(by omega)):=by simp
          rw [hsome] at this
          obtain ⟨us,h2,h3⟩:=Option.bind_eq_some_iff.1 this
          obtain ⟨cs,h4,h5,h6⟩:=ih e te us _ h1 ⟨n,h3⟩
          exact ⟨cs,us,h4,h5,h2,fun y hy=>by rw [hsome] at hy;cases hy;exact h6⟩
        have hspot:0 < len→a.spot=none∧∃ (c:Array Value) (el:TypeId) (fr:Nat×Nat),w.heap[a.block]?=some (Obj.cells c el fr):=by
          intro h0
          obtain ⟨cs,vs,_,_,h2,_⟩:=each 0 h0
          obtain ⟨_,hl,hc⟩:=World.cells?_some h2
          have:=hc 0 (by omega)
          have h3:vs[0]?=some (vs[0]'(by omega)):=by simp
          rw [h3] at this
          have e1:(a.add (0*P.cellsOf e)).add 0=a:=by simp [Addr.add]
          rw [e1] at this
          exact cell_spot this
        let C:Nat→List T:=fun i=>if h:i < len then (each i h).choose else []
        let V:Nat→List Value:=fun i=>if h:i < len then (each i h).choose_spec.choose else []
        have hCV:∀ i,i < len→TC te (C i)∧RTs I w (C i) (V i)∧w.cells? 0 (a.add (i*P.cellsOf e)) (P.cellsOf e)=some (V i)∧∀ y,elems[i]?=some y→s*bTs (C i)≤B y.1:=by
          intro i hi
          have:=(each i hi).choose_spec.choose_spec
          simp only [C,V,hi,dif_pos]
          exact this
        let es:List T:=(List.range len).map fun i=>mkT te.ag (C i)
        have hes:es.length=len:=by simp [es]
        have hget:∀ i,i < len→es[i]?=some (mkT te.ag (C i)):=fun i hi=>by simp [es,hi]
        have hVl:∀ i,i < len→(V i).length=P.cellsOf e:=fun i hi=>(World.cells?_some (hCV i hi).2.2.1).2.1
        have hw:∀ x∈es,x.cells.length=P.cellsOf e:=by
          intro x hx
          simp only [es,List.mem_map,List.mem_range] at hx
          obtain ⟨i,hi,rfl⟩:=hx
          rw [(hCV i hi).1.cells,← (hCV i hi).2.1.1,hVl i hi]
        have key:∀ (i:Nat) (t:T),(flatT es)[i]?=some t→∃ v,w.cell? ⟨a.block,a.off+i,none⟩=some v∧v.oneCell'=true∧RT I w t v:=by
          intro i t hi
          have hi':i < es.length*P.cellsOf e:=by rw [← flatT_len hw];exact (List.getElem?_eq_some_iff.1 hi).1
          obtain ⟨s1,s2,s3⟩:=flat_split hi'
          rw [hes] at s1
          rw [s3,flatT_get hw _ _ (hget _ s1) _ s2,(hCV _ s1).1.cells] at hi
          have hR:=(hCV _ s1).2.1
          have hj:i % P.cellsOf e < (V (i / P.cellsOf e)).length:=by rw [hVl _ s1];exact s2
          obtain ⟨hp,_⟩:=hspot (Nat.lt_of_le_of_lt (Nat.zero_le _) s1)
          have hc:=(World.cells?_some (hCV _ s1).2.2.1).2.2 (i % P.cellsOf e) s2
          rw [add_spot hp,add_spot rfl] at hc
          have hv:(V (i / P.cellsOf e))[i % P.cellsOf e]?=some ((V (i / P.cellsOf e))[i % P.cellsOf e]):=by simp [hj]
          refine ⟨(V (i / P.cellsOf e))[i % P.cellsOf e],?_,hR.2.1 _ (List.getElem_mem _),?_⟩
          · rw [← hv,← hc];congr 2
            show a.off+i=a.off+i / P.cellsOf e*P.cellsOf e+i % P.cellsOf e
            omega
          · have:=hR.2.2 _ _ hi
            rw [List.getD_eq_getElem?_getD,hv] at this
            exact this
        refine ⟨[.sl (P.cellsOf e) es],⟨es,rfl,by rw [hes];omega,?_⟩,.one rfl ?_,?_⟩
        rotate_left 2
        · have h1:s*bTs es≤((elems.map (·.1)).map B).sum:=sum_le (by simp [hes,hlen]) (fun i t d ht hd=>by
            have hi:i < len:=by rw [← hes];exact (List.getElem?_eq_some_iff.1 ht).1
            rw [hget i hi] at ht;cases ht
            rw [bT_mk]
            rw [List.getElem?_map] at hd
            cases hy:elems[i]? with
            | none=>rw [hy] at hd;cases hd
            | some y=>rw [hy] at hd;cases hd;exact (hCV i hi).2.2.2 y hy)
          have h2:=hB.sl (elems.map (·.1)) (rest.map (·.1))
          simp only [bTs,bT,Nat.add_zero,Nat.mul_add,Nat.mul_one];omega
        · intro x hx
          simp only [es,List.mem_map,List.mem_range] at hx
          obtain ⟨i,hi,rfl⟩:=hx
          exact ⟨C i,(hCV i hi).1,rfl⟩
        · have hsl:RT I w (.sl (P.cellsOf e) es) (.slice (some a) es.length cap):=by
            refine .sl a.block a.off (fun i=>(w.cell? ⟨a.block,a.off+i,none⟩).getD undef) (fun hne=>?_) hw (by omega) (fun i t hi=>?_) (fun i t hi=>?_) (fun i t hi=>?_)
            · obtain ⟨hp,hb⟩:=hspot (by rw [← hes];exact List.length_pos_iff.2 hne)
              refine ⟨?_,hI _ hb⟩
              cases a;simp at hp;subst hp;rfl
            · obtain ⟨v,h2,_,_⟩:=key i t hi
              simp [h2]
            · obtain ⟨v,h2,h3,_⟩:=key i t hi
              simp [h2,h3]
            · obtain ⟨v,h2,_,h3⟩:=key i t hi
              simp [h2,h3]
          rw [hes] at hsl
          exact hsl
    case h_5 fs ht =>
      obtain ⟨xs,n,_,rfl,hl,hxl,hf⟩:=DataW.trod_struct ht hx
      have:=fields_plain (enc:=enc) (w:=w) (I:=I) (vs:=vs) (s:=s) (B:=B) hl (fun t ty us y h1 h2=>ih t ty us y h1 h2) h (Nat.zero_le _) (xs:=xs) (by simpa using hxl) (fun i x hx=>⟨n,by
        have h3:=hf i x (by simpa using hx)
        exact h3⟩)
      obtain ⟨_,cs,h1,h2,h3⟩:=this
      refine ⟨cs,h1,by simpa using h2,?_⟩
      have h4:=hB.ag (xs.map (·.1))
      rw [List.map_map] at h4
      exact Nat.le_trans h3 h4
    case h_6=>cases h
theorem trod_value (hB:Meas s B) (hI:∀ k,(∃ (c:Array Value) (el:TypeId) (fr:Nat×Nat),w.heap[k]?=some (Obj.cells c el fr))→I k) {d:Nat} {t:TypeId} {ty:Ty} {v:Value} {x:DataW H} {ps:List MemPlace} {r:Reach} {base:Nat} (ht:tyOf P d t=some ty) (hok:Value.okWide P w r base t v)
    (h:DataW.Trod enc P w 0 (fun _=>true) true t v x ps):∃ y,TV ty y∧RT I w y v∧s*bT y≤B x:=by
  obtain ⟨fuel,h⟩:=h
  obtain ⟨cs,h1,h2,hb⟩:=trod_plain hB hI d t ty _ _ ht ⟨fuel,h⟩
  refine ⟨mkT ty.ag cs,⟨cs,h1,rfl⟩,?_,by rw [bT_mk];exact hb⟩
  have scal:ty.ag=false→v.cells=#[v]→RT I w (mkT ty.ag cs) v:=by
    intro hag hc
    have hl:cs.length=1:=by rw [← h2.1,hc];rfl
    match cs,hl with
    | [c],_ =>
      rw [hag]
      have:=h2.2.2 0 c rfl
      rw [hc] at this
      exact this
  cases d with
  | zero=>simp [tyOf] at ht
  | succ d =>
    unfold tyOf at ht
    unfold Value.okWide at hok
    split at ht
    case h_5 fs hu =>
      rw [hu] at hok
      obtain ⟨arr,rfl,_,_⟩:=hok
      have hag:ty.ag=true:=by
        cases hfs:fs.toList with
        | nil =>
          rw [hfs] at ht;unfold tyFs at ht;split at ht
          · cases ht;rfl
          · cases ht
        | cons f fs' =>
          rw [hfs] at ht;unfold tyFs at ht;split at ht
          · obtain ⟨_,_,ht⟩:=Option.bind_eq_some_iff.1 ht
            obtain ⟨_,_,rfl⟩:=Option.map_eq_some_iff.1 ht
            rfl
          · cases ht
      rw [hag]
      have:RT I w (.ag cs) (.agg (arr.toList.toArray)):=.ag h2.1 h2.2.1 h2.2.2
      have e:mkT true cs=.ag cs:=rfl
      rw [e]
      simpa using this
    case h_6=>cases ht
    all_goals
      rename_i hu
      rw [hu] at hok
      simp only [Cell.okWide,hu,Cell.ok] at hok
      refine scal ?_ ?_
      · first
        | (cases ht;rfl)
        | (split at ht
           · cases ht
           · obtain ⟨_,_,rfl⟩:=Option.map_eq_some_iff.1 ht;rfl)
      · cases v <;> first|rfl|exact hok.elim
def TVs:List Ty→List T→Prop
  | [],[]=>True
  | a::r,t::ts=>TV a t∧TVs r ts
  | _,_=>False
theorem trodAll_plain (hB:Meas s B) (hI:∀ k,(∃ (c:Array Value) (el:TypeId) (fr:Nat×Nat),w.heap[k]?=some (Obj.cells c el fr))→I k) {d:Nat} {r:Reach} {base:Nat}:∀ {ts:List TypeId} {tys:List Ty} {vs:List Value} {ds:List (DataW H)} {ps:List MemPlace},optL (ts.map (tyOf P d))=some tys →
    (∀ (j:Nat) t v,ts[j]?=some t→vs[j]?=some v→Value.okWide P w r base t v)→DataW.TrodAll enc P w 0 (fun _=>true) true ts vs ds ps →
    ∃ ys,TVs tys ys∧vs.length=ys.length∧(∀ (i:Nat) (y:T),ys[i]?=some y→RT I w y (vs.getD i undef))∧s*bTs ys≤(ds.map B).sum
  | [],tys,vs,ds,ps,h,_,hd=>by
    simp [optL] at h;subst h
    obtain ⟨rfl,rfl,_⟩:=trodAll_nil hd
    exact ⟨[],trivial,rfl,fun i y hi=>by simp at hi,by simp [bTs]⟩
  | t::ts,tys,vs,ds,ps,h,hok,hd=>by
    obtain ⟨v,vs',x,ds',p,q,rfl,rfl,rfl,h1,h2⟩:=trodAll_cons hd
    simp only [List.map_cons] at h
    cases ht:tyOf P d t with
    | none=>rw [ht] at h;simp [optL] at h
    | some ty =>
      rw [ht] at h
      simp only [optL] at h
      cases hr:optL (ts.map (tyOf P d)) with
      | none=>rw [hr] at h;simp at h
      | some tys' =>
        rw [hr] at h;simp at h;subst h
        obtain ⟨y,hy,hry,hb1⟩:=trod_value hB hI ht (hok 0 t v rfl rfl) h1
        obtain ⟨ys,hys,hl,hrs,hb2⟩:=trodAll_plain hB hI hr (fun j t' v' hj hv=>hok (j+1) t' v' hj hv) h2
        refine ⟨y::ys,⟨hy,hys⟩,by simp [hl],fun i y' hi=>?_,by simp only [bTs,List.map_cons,List.sum_cons,Nat.mul_add];omega⟩
        cases i with
        | zero=>simp at hi;subst hi;exact hry
        | succ i=>simp at hi;simpa using hrs i y' hi
theorem below_of_ext {γ':List (Option Nat)} {H':List Blk} {I I':Nat→Prop} {w w':World} (x:Ext [] [] I w γ' H' I' w'):Below w.heap.size w w' :=
  ⟨x.os,x.tape,x.output,x.size,fun k hk=>x.frame k hk (by simp)⟩
theorem trodAll_stays (hl:laidOutB P=true) {W W':World} {sp:Nat→Bool}:∀ {ts:List TypeId} {vs:List Value} {ds:List (DataW H)} {ps:List MemPlace},(∀ t∈ts,P.readableRec t=true∧t < P.types.size) →
    DataW.TrodAll enc P W 0 (fun _=>true) true ts vs ds ps→(∀ p∈ps,W.sameAt W' p)→(∀ p∈ps,sp p.block=true)→DataW.TrodAll enc P W' 0 sp true ts vs ds ps
  | [],_,_,_,_,h,_,_=>by
    obtain ⟨rfl,rfl,rfl⟩:=trodAll_nil h
    exact rfl
  | t::ts,_,_,_,hr,h,hs,hp=>by
    obtain ⟨v,vs',x,ds',p,q,rfl,rfl,rfl,h1,h2⟩:=trodAll_cons h
    exact ⟨p,q,WideElems.Trod_stays hl (hr t (by simp)).1 (hr t (by simp)).2 h1 (fun p hp=>hs p (by simp [hp])) (fun x hx=>hp x (by simp [hx])),
      trodAll_stays hl (fun t ht=>hr t (by simp [ht])) h2 (fun p hp=>hs p (by simp [hp])) (fun x hx=>hp x (by simp [hx])),rfl⟩
theorem trodAll_len {ts:List TypeId}:∀ {vs:List Value} {ds:List (DataW H)} {ps:List MemPlace},DataW.TrodAll enc P w 0 (fun _=>true) true ts vs ds ps→ds.length=ts.length:=by
  induction ts with
  | nil=>intro vs ds ps h;obtain ⟨_,rfl,_⟩:=trodAll_nil h;rfl
  | cons t ts ih =>
    intro vs ds ps h
    obtain ⟨v,vs',x,ds',p,q,rfl,rfl,rfl,h1,h2⟩:=trodAll_cons h
    simp [ih h2]
theorem post_of_below {f:Func} {s:ChangeSpec} {apart fresh handsOn again:Bool} {W W':World} {args:Array Value} {v:Value} {ds gs:List (DataW H)} {before pa pv:List MemPlace}
    (hW:DataW.Whole enc P f.params.toList s.vars apart W args.toList ds gs before)
    (hres:∀ (b:Nat) (sp:Nat→Bool) (hd:Bool),DataW.TrodAll enc P W' b sp hd f.resultTypes.toList (v.resultList f.resultTypes.size) (s.fn H (ds++gs)).results [])
    (hargs:∀ sp:Nat→Bool,(∀ p∈before,sp p.block=true)→DataW.TrodAll enc P W' 0 sp true f.params.toList args.toList (s.fn H (ds++gs)).args pa)
    (hvars:∀ sp:Nat→Bool,(∀ p∈before,sp p.block=true)→DataW.TrodVars enc P W' sp s.vars (s.fn H (ds++gs)).vars pv)
    (hps:before=pa++pv) (hb:Below W.heap.size W W')
    (hok:∀ (j:Nat) (t:TypeId) (r:Value),f.resultTypes[j]?=some t→(v.resultList f.resultTypes.size)[j]?=some r→Value.okWide P W' .any 0 t r) :
    s.post enc P f apart fresh handsOn again W args v W':=by
  have hlt:∀ p∈before,p.block < W.heap.size:=fun p hp=>hW.lt p hp
  have hold:∀ p∈before,(fun b=>decide (b < W.heap.size)) p.block=true:=fun p hp=>by simpa using hlt p hp
  refine ⟨ds,gs,before,[],pa,pv,hW,hres _ _ _,hargs _ hold,hvars _ hold,World.keptBut_mono (fun p hp=>⟨hp,?_⟩) (hb.frame (·∈before)),fun _=>?_⟩
  · rw [hps,List.mem_append] at hp
    exact Or.inr hp
  · obtain ⟨_,_,_,_,_,hz,hn⟩:=hW
    refine ⟨hok,_,_,([]++pa)++pv,⟨[]++pa,pv,trodAll_append (hargs _ (fun _ _=>rfl)) (hres _ _ _),hvars _ (fun _ _=>rfl),rfl,?_,?_⟩,?_⟩
    · intro b off hp
      have hin:MemPlace.cell b off∈before:=by rw [hps];simpa using hp
      rw [hb.frozen (hlt _ hin)]
      exact hz b off hin
    · intro ha
      have:=hn ha
      rw [hps] at this
      simpa using this
    · intro p hp _
      rw [hps]
      simpa using hp
theorem law_contractB {C:Checked} {f:Nat} {fn:Func} {s:ChangeSpec} {apart fresh handsOn again:Bool} {tys:List Ty} {s0:Nat} {B:DataW H→Nat} (hl:laidOutB C.prog=true)
    (hp:optL (fn.params.toList.map (tyOf C.prog 20))=some tys) (hrb:fn.resultTypes.toList.map C.prog.underlying=[some .bool])
    (hread:(fn.params.toList.all fun t=>C.prog.readableRec t && decide (t < C.prog.types.size))=true) (hvars:s.vars=[])
    (hs:∀ (ds:List (DataW H)),ds.length=fn.params.toList.length→s.fn H ds={ results:=[.lit (.bool true)],args:=ds })
    (hB:Meas s0 B) (M:List (DataW H)→List (DataW H)→Prop)
    (law:∀ ys,TVs tys ys→(∃ ds gs,M ds gs∧s0*bTs ys≤(ds.map B).sum)→CG C.prog f ys (.b true)) :
    ∀ (W:World) (base:Nat) (args:Array Value) (ds gs:List (DataW H)) (before:List MemPlace),
      (∀ (j:Nat) t v,fn.params[j]?=some t→args[j]?=some v→Value.okWide C.prog W .any base t v) →
      DataW.Whole enc C.prog fn.params.toList s.vars apart W args.toList ds gs before →
      M ds gs→Calls C.prog f args W fun e W'=>∃ v,e=.returned v∧s.post enc C.prog fn apart fresh handsOn again W args v W':=by
  obtain ⟨tb,hr,hb⟩:∃ tb,fn.resultTypes=#[tb]∧C.prog.underlying tb=some .bool:=by
    cases h:fn.resultTypes.toList with
    | nil=>rw [h] at hrb;simp at hrb
    | cons tb r =>
      rw [h] at hrb
      simp only [List.map_cons,List.cons.injEq,List.map_eq_nil_iff] at hrb
      obtain ⟨h1,rfl⟩:=hrb
      exact ⟨tb,Array.toList_inj.1 (by rw [h]),h1⟩
  intro W base args ds gs before hval hW hM
  have hW':=hW
  obtain ⟨p,q,hA,hV,rfl,hfz,hnd⟩:=hW
  rw [hvars] at hV
  obtain ⟨rfl,rfl⟩:=trodVars_none hV
  obtain ⟨ys,hys,hlen,hrt,hbk⟩:=trodAll_plain (w:=W) hB (I:=fun k=>∃ (c:Array Value) (el:TypeId) (fr:Nat×Nat),W.heap[k]?=some (Obj.cells c el fr)) (fun _ h=>h) hp (fun j t v hj hv=>hval j t v (by simpa using hj) (by simpa using hv)) hA
  have hc:=(law ys hys ⟨ds,_,hM,hbk⟩).ok.run [] (fun k=>∃ (c:Array Value) (el:TypeId) (fr:Nat×Nat),W.heap[k]?=some (Obj.cells c el fr)) W args.toList (.empty fun _ h=>h) (by simpa using hlen) (fun i v hi=>by
    rw [List.getElem?_map] at hi
    cases hy:ys[i]? with
    | none=>rw [hy] at hi;cases hi
    | some y=>rw [hy] at hi;simp at hi;subst hi;exact .g (hrt i y hy))
  have e1:args.toList.toArray=args:=by simp
  rw [e1] at hc
  refine hc.mono ?_
  rintro e W' ⟨r,x,H',γ',I',rfl,⟨rfl,rfl⟩,h3,h4,h5⟩
  have hx:x=.bool true:=by
    cases h4 with|g h=>cases h;rfl
  subst hx
  have hbl:=below_of_ext h5
  have hfn:=hs ds (trodAll_len hA)
  refine ⟨_,rfl,post_of_below (pa:=p) (pv:=[]) hW' (fun b sp hd=>?_) (fun sp hsp=>?_) (fun sp _=>?_) rfl hbl (ok_one hr rfl (okWide_bool_mk hb true))⟩
  · simp only [List.append_nil,hfn,hr]
    refine ⟨[],[],⟨1,?_⟩,rfl,rfl⟩
    simp [DataW.trod,hb,Value.cells]
  · simp only [List.append_nil,hfn]
    refine trodAll_stays hl (fun t ht=>?_) hA (fun x hx=>hbl.same (hW'.lt x (by simpa using hx))) (fun x hx=>hsp x (by simpa using hx))
    have:=List.all_eq_true.1 hread t ht
    simpa using this
  · simp only [List.append_nil,hfn,hvars]
    exact rfl
theorem law_contract {C:Checked} {f:Nat} {fn:Func} {s:ChangeSpec} {apart fresh handsOn again:Bool} {tys:List Ty} (hl:laidOutB C.prog=true)
    (hp:optL (fn.params.toList.map (tyOf C.prog 20))=some tys) (hrb:fn.resultTypes.toList.map C.prog.underlying=[some .bool])
    (hread:(fn.params.toList.all fun t=>C.prog.readableRec t && decide (t < C.prog.types.size))=true) (hvars:s.vars=[])
    (hs:∀ (ds:List (DataW H)),ds.length=fn.params.toList.length→s.fn H ds={ results:=[.lit (.bool true)],args:=ds })
    (law:∀ ys,TVs tys ys→CG C.prog f ys (.b true)) :
    ∀ (W:World) (base:Nat) (args:Array Value) (ds gs:List (DataW H)) (before:List MemPlace),
      (∀ (j:Nat) t v,fn.params[j]?=some t→args[j]?=some v→Value.okWide C.prog W .any base t v) →
      DataW.Whole enc C.prog fn.params.toList s.vars apart W args.toList ds gs before →
      Calls C.prog f args W fun e W'=>∃ v,e=.returned v∧s.post enc C.prog fn apart fresh handsOn again W args v W' :=
  fun W base args ds gs before hval hW=>law_contractB hl hp hrb hread hvars hs (Meas.none (H:=H)) (fun _ _=>True) (fun ys h _=>law ys h) W base args ds gs before hval hW trivial
end
end Go.Aw
namespace Go.Aw
open Go.Sort Go.RowKit Go.Shelf Go.Proofs
theorem flatV_gs:∀ (ts:List T),flatV (ts.map V.g)=(flatT ts).map V.g
  | []=>rfl
  | t::ts=>by
    have ih:=flatV_gs ts
    simp only [flatV,flatT,List.map_cons,List.flatMap_cons,List.map_append] at ih ⊢
    rw [ih];rfl
def CmpT (P:Program) (g k:Nat) (shape:T→Prop) (cf:T→T→Int):Prop :=
  ∀ (t u:T) (vs us:List Value) (W:World),shape t→shape u→vs.length=k→us.length=k →
    (∀ (i:Nat) v,t.cells[i]?=some (.sc v)→vs[i]?=some v)→(∀ (i:Nat) v,u.cells[i]?=some (.sc v)→us[i]?=some v) →
    Calls P g #[.agg vs.toArray,.agg us.toArray] W fun e w'=>e=.returned (.int .i64 (cf t u))∧∃ q os',w'=grow (W.drewN q) os'
section
variable {γ:List (Option Nat)} {I:Nat→Prop} {w:World} {H:List Blk} {P:Program} {ρ:Go.Shelf.Ren}
theorem sortF_ok (L:SlLaysF0.n6 P ρ) {f:Nat} (hf:ρ.f 6=f) (ok:callOk P f) {k g:Nat} (_hk0:0 < k) (aE:∀ w,(isAgg (ρ.t 24)).run P w=.ok true w) (zE:∀ w,(Go.sizeOf (ρ.t 24)).run P w=.ok k w)
    (eg:∀ args w,(callFunc g args).run P w=.ok (.enter g args) w) {shape:T→Prop} {cf:T→T→Int} (hO:SWO (ltOf cf)) (hc:CmpT P g k shape cf)
    {b g0:Nat} {ts:List T} (hsh:∀ t∈ts,shape t) (hl:ts.length < 4611686018427387904) (hb:H[b]?=some (.arr g0 k (ts.map .g))) :
    ACalls P f [.own b g0 0 ts.length,.fn g []] H (fun r h'=>r=.tu []∧∃ ts':List T,ts'.Perm ts∧ts'.Pairwise (fun x y=>¬ cf y x < 0)∧h'=H.set b (.arr g0 k (ts'.map .g))):=by
  refine ⟨ok,fun γ I w vs r hlen hv=>?_⟩
  obtain ⟨X,Y,rfl⟩:∃ X Y,vs=[X,Y]:=by
    match vs,hlen with
    | [X,Y],_=>exact ⟨X,Y,rfl⟩
  have hX:=hv 0 _ rfl
  have hY:=hv 1 _ rfl
  simp only [List.getD_eq_getElem?_getD,List.getElem?_cons_zero,List.getElem?_cons_succ,Option.getD_some] at hX hY
  obtain rfl:Y=.func (.func g) #[] #[]:=by
    cases hY with
    | fn hl _ =>
      have:=List.eq_nil_of_length_eq_zero hl
      subst this;rfl
  cases hX with
  | @own _ _ g2 sz2 _ _ cap es2 a hb2 hg hlc hcc =>
  rw [hb] at hb2;cases hb2
  obtain ⟨c1,c2⟩:=hcc rfl
  have htu:∀ {γ H I w},RV γ H I w (.tu []) (.tuple #[]):=.tu (vs:=[]) rfl (by simp)
  subst hf
  by_cases hne:ts=[]
  · subst hne
    refine (AnyF.slices_SortFunc_none L a cap _ w).mono ?_
    rintro e w' ⟨rfl,rfl⟩
    exact ⟨.tu [],_,H,γ,I,rfl,⟨rfl,[],.refl _,.nil,(set_self hb).symm⟩,r,htu,Ext.refl ..⟩
  · have hpos:0 < ts.length:=List.length_pos_iff.2 hne
    rcases c2 with ⟨_,_,_,hz⟩|⟨q,hq,ha,hrow⟩
    · omega
    rcases ha with hz|rfl
    · omega
    rcases r.arr _ _ _ _ hb with ⟨hz,_⟩|⟨k',c,el,h1,h2,h3,h4,h5⟩
    · rw [hz] at hq;cases hq
    rw [hq] at h1;cases h1
    have hwT:∀ t∈ts,t.cells.length=k:=fun t ht=>by
      have:=h3 (.g t) (List.mem_map_of_mem ht)
      simpa [V.cells] using this
    have hcs:ts.length*k≤c.size:=by simpa using h4
    let ix:Nat→Nat:=fun i=>if i < ts.length then i else 0
    have hix:∀ i,ix i < ts.length:=fun i=>by simp only [ix];split <;> omega
    let tt:Nat→T:=fun i=>ts[ix i]'(hix i)
    have htt:∀ i,tt i∈ts:=fun i=>List.getElem_mem _
    have hixr:∀ {i},i < ts.length→ix i=i:=fun {i} h=>by simp only [ix,if_pos h]
    let enc:Nat→List Value:=fun i=>(List.range k).map fun j=>c.getD (ix i*k+j) undef
    have henc:∀ i,(enc i).length=k:=fun i=>by simp [enc]
    have hin:∀ i j,j < k→ix i*k+j < ts.length*k:=fun i j hj=>by
      have:=Nat.mul_le_mul_right k (hix i)
      rw [Nat.succ_mul] at this;omega
    have hcell:∀ i j,j < k→∃ ct,(tt i).cells[j]?=some ct∧∃ x,c[ix i*k+j]?=some x∧x.oneCell'=true∧RV γ H I w (.g ct) x:=fun i j hj=>by
      have hct:(tt i).cells[j]?=some ((tt i).cells[j]'(by rw [hwT _ (htt i)];exact hj)):=List.getElem?_eq_getElem _
      refine ⟨_,hct,h5 _ _ ?_⟩
      rw [flatV_gs,List.getElem?_map,flatT_get hwT (ix i) (tt i) (List.getElem?_eq_getElem _) j hj,hct];rfl
    have hencj:∀ i j,j < k→(enc i)[j]?=some (c.getD (ix i*k+j) undef):=fun i j hj=>by simp [enc,hj]
    have h1c:∀ x,∀ v∈enc x,v.oneCell'=true:=fun x v hv=>by
      obtain ⟨j,hj,rfl⟩:=List.mem_map.1 hv
      obtain ⟨_,_,y,hy,h1y,_⟩:=hcell x j (by simpa using hj)
      have:c.getD (ix x*k+j) undef=y:=by simp [hy]
      rw [this];exact h1y
    have hsc:∀ x (j:Nat) v,(tt x).cells[j]?=some (.sc v)→(enc x)[j]?=some v:=fun x j v hj=>by
      have hjk:j < k:=by rw [← hwT _ (htt x)];exact lt_of_get hj
      obtain ⟨ct,e1,y,hy,_,hr⟩:=hcell x j hjk
      rw [hj] at e1;cases e1
      have:=rv_sc hr;subst this
      rw [hencj x j hjk];simp [hy]
    let cf':Nat→Nat→Int:=fun x y=>cf (tt x) (tt y)
    have hO':SWO (ltOf cf'):=⟨fun x=>hO.irrefl _,fun x y z=>hO.trans _ _ _,fun x y z=>hO.ntrans _ _ _⟩
    have hd:(Array.range ts.length).size=ts.length:=by simp
    have hH:HoldsK enc k w q (0*k) (Array.range ts.length):=fun j hj=>by
      have hj':j < ts.length*k:=by simpa using hj
      obtain ⟨s1,s2,s3⟩:=flat_split hj'
      refine ⟨?_,by simp [World.frozen?,h2]⟩
      rw [get_flatK _ _ _ _ (by rw [hd];exact hj')]
      have e1:(Array.range ts.length)[j / k]! = j / k:=by rw [getElem!_pos _ _ (by simpa using s1)];simp
      rw [e1]
      have e2:(enc (j / k))[j % k]! = c.getD j undef:=by
        have:=hencj (j / k) (j % k) s2
        rw [hixr s1] at this
        rw [getElem!_pos _ _ (by rw [henc];exact s2)]
        rw [List.getElem?_eq_getElem (by rw [henc];exact s2)] at this
        have e3:j / k*k+j % k=j:=s3.symm
        rw [e3] at this
        exact Option.some.inj this
      rw [e2]
      have hjc:j < c.size:=by omega
      simp [World.cell?,h2,hjc]
    have hcmp:CmpLays P g #[] enc k cf' q (0*k) (Array.range ts.length).size w:=fun m os dk _ x y=>by
      have:=hc (tt x) (tt y) (enc x) (enc y) (sortWorldK enc k w q (0*k) m dk os) (hsh _ (htt x)) (hsh _ (htt y)) (henc x) (henc y) (hsc x) (hsc y)
      simpa using this
    have key:=AnyQ.slices_SortFunc L k aE zE enc henc h1c cf' hO' g #[] q (0*k) cap (Array.range ts.length) w eg hcmp hH (heap_lt h2) (by rw [hd];exact hl)
    rw [hd] at key
    refine key.mono ?_
    rintro e w' ⟨rfl,d',n,os,hp,hs,rfl⟩
    obtain ⟨p1,_,p3⟩:=hp
    rw [hd] at p1
    have hdl:d'.toList.length=ts.length:=by simpa using p1
    have hperm:d'.toList.Perm (List.range ts.length):=by
      have e1:(d'.extract 0 ts.length).toList=d'.toList:=by rw [← p1,Array.extract_size]
      have e2:((Array.range ts.length).extract 0 ts.length).toList=List.range ts.length:=by
        have:(Array.range ts.length).extract 0 ts.length=Array.range ts.length:=by
          conv=>lhs;rw [show ts.length=(Array.range ts.length).size from hd.symm]
          simp
        rw [this];simp
      rw [e1,e2] at p3;exact p3
    have hlt:∀ x∈d'.toList,x < ts.length:=fun x hx=>by simpa using hperm.mem_iff.1 hx
    have hts:(List.range ts.length).map tt=ts:=by
      apply List.ext_getElem
      · simp
      · intro i h1 h2
        have hi:i < ts.length:=h2
        simp only [List.getElem_map,List.getElem_range,tt]
        exact getElem_congr_idx (hixr hi)
    refine ⟨.tu [],_,H.set b (.arr g0 k ((d'.toList.map tt).map .g)),γ,I,rfl,⟨rfl,d'.toList.map tt,?_,?_,rfl⟩,?_⟩
    · have:=hperm.map tt
      rw [hts] at this;exact this
    · rw [List.pairwise_map,List.pairwise_iff_getElem]
      intro i j hi hj hij
      have:=hs i j (Nat.zero_le _) hij (by simp only [Array.length_toList] at hj;omega)
      simp only [Array.length_toList] at hi hj
      rw [getElem!_pos d' i hi,getElem!_pos d' j hj] at this
      simpa [ltOf,cf'] using this
    · generalize hys:d'.toList.map tt=ys
      have hyl:ys.length=ts.length:=by rw [← hys];simpa using p1
      have hyw:∀ t∈ys,t.cells.length=k:=fun t ht=>by
        rw [← hys] at ht
        obtain ⟨i,_,rfl⟩:=List.mem_map.1 ht
        exact hwT _ (htt i)
      unfold sortWorldK putRowK
      rw [putRow_ahead,putRow_setB h2]
      have hwV:∀ e∈ys.map V.g,e.cells.length=k:=fun e he=>by
        obtain ⟨t,ht,rfl⟩:=List.mem_map.1 he
        simpa [V.cells] using hyw t ht
      obtain ⟨u1,u2⟩:=upd_ok (es':=ys.map .g) (c':=putCells id (0*k) (flatK enc k d') c) r hb hq h2 (by simp [putCells]) (Nat.le_refl _) (fun _=>by simp [hyl])
        hwV (by simp [hyl];exact hcs) (fun j v hj=>by
          have hjl:j < ts.length*k:=by
            have:=lt_of_get hj
            rw [flatV_len hwV] at this;simpa [hyl] using this
          obtain ⟨s1,s2,s3⟩:=flat_split hjl
          have hjd:j / k < d'.toList.length:=by rw [hdl];exact s1
          have hyg:ys[j / k]?=some (tt d'.toList[j / k]):=by rw [← hys,List.getElem?_map,List.getElem?_eq_getElem hjd];rfl
          have hvg:(ys.map V.g)[j / k]?=some (.g (tt d'.toList[j / k])):=by rw [List.getElem?_map,hyg];rfl
          obtain ⟨ct,e1,x,hx,h1x,hr⟩:=hcell d'.toList[j / k] (j % k) s2
          rw [s3,flatV_get hwV _ _ hvg _ s2] at hj
          have hct:(V.g (tt d'.toList[j / k])).cells[j % k]?=some (.g ct):=by
            simp only [V.cells,List.getElem?_map,e1];rfl
          rw [hct] at hj;cases hj
          refine ⟨x,?_,h1x,hr⟩
          have hjc:j < c.size:=by omega
          have hfs:(flatK enc k d').size=ts.length*k:=by rw [size_flatK,p1]
          have e4:(flatK enc k d')[j]! = x:=by
            rw [get_flatK _ _ _ _ (by rw [p1];exact hjl)]
            have e5:d'[j / k]! = d'.toList[j / k]:=by
              rw [getElem!_pos _ _ (by rw [p1];exact s1)];simp
            rw [e5]
            have:=hencj d'.toList[j / k] (j % k) s2
            rw [getElem!_pos _ _ (by rw [henc];exact s2)]
            rw [List.getElem?_eq_getElem (by rw [henc];exact s2)] at this
            rw [Option.some.inj this,Array.getD_eq_getD_getElem?,hx];rfl
          simp only [putCells,Array.getElem?_mapIdx]
          have:c[j]?=some c[j]:=Array.getElem?_eq_getElem hjc
          rw [this]
          simp only [Option.map_some,Nat.zero_mul,Nat.zero_le,Nat.zero_add,Nat.sub_zero,true_and,hfs,hjl,if_true,id,e4])
      obtain ⟨a1,a2⟩:=ahead_ok u1 n
      obtain ⟨g1,g2⟩:=grow_ok a1 os
      exact ⟨g1,htu,(u2.trans a2).trans g2⟩
end
end Go.Aw
namespace Go.Aw
mutual
def ren (σ:Nat→Nat):V→V
  | .g t=>.g t
  | .nil s=>.nil s
  | .own b g o l=>.own (σ b) g o l
  | .pa b g i o=>.pa (σ b) g i o
  | .ra s es i o=>.ra s es i o
  | .fn f cs=>.fn f (renL σ cs)
  | .ag cs=>.ag (renL σ cs)
  | .tu cs=>.tu (renL σ cs)
  | .mp b=>.mp (σ b)
  | .any=>.any
def renL (σ:Nat→Nat):List V→List V
  | []=>[]
  | v::vs=>ren σ v::renL σ vs
end
theorem renL_eq (σ:Nat→Nat):∀ l,renL σ l=l.map (ren σ)
  | []=>by simp [renL]
  | v::vs=>by simp [renL,renL_eq σ vs]
def renB (σ:Nat→Nat):Blk→Blk
  | .arr g sz es=>.arr g sz (es.map (ren σ))
  | .mp kvs=>.mp kvs
theorem ren_cells (σ:Nat→Nat) (v:V):(ren σ v).cells=v.cells.map (ren σ):=by
  cases v <;> simp [ren,V.cells,renL_eq]
theorem ren_flat (σ:Nat→Nat) (es:List V):flatV (es.map (ren σ))=(flatV es).map (ren σ):=by
  induction es with
  | nil=>rfl
  | cons e es ih =>
    simp only [flatV,List.map_cons,List.flatMap_cons,List.map_append] at ih ⊢
    rw [ren_cells,ih]
section
variable {γ γ0:List (Option Nat)} {H H0:List Blk} {I:Nat→Prop} {w:World} {σ:Nat→Nat}
theorem RV.ren (hγ:∀ b,b < H0.length→γ[σ b]?=γ0[b]?) (hH:∀ b x,H0[b]?=some x→H[σ b]?=some (renB σ x)) {v:V} {x:Value} (h:RV γ0 H0 I w v x):RV γ H I w (Go.Aw.ren σ v) x:=by
  induction h with
  | g h=>exact .g h
  | any=>exact .any
  | nil=>exact .nil
  | @own b g g' sz off len cap es a hb hg hl hc =>
    have hlt:=lt_of_get hb
    refine .own (hH _ _ hb) hg hl fun e=>?_
    rw [hγ _ hlt]
    simpa using hc e
  | @pa b g g' sz i off es a hb hg hc =>
    have hlt:=lt_of_get hb
    refine .pa (hH _ _ hb) hg fun e=>?_
    rw [hγ _ hlt]
    simpa using hc e
  | ra k o vs hi hI hw hc h1 hr=>exact .ra k o vs hi hI hw hc h1 hr
  | @fn f cs vs hl hr ih =>
    simp only [Go.Aw.ren,renL_eq]
    refine .fn (by simpa using hl) fun i t ht=>?_
    rw [List.getElem?_map] at ht
    cases hi:cs[i]? with
    | none=>rw [hi] at ht;cases ht
    | some c=>rw [hi] at ht;cases ht;exact ih i c hi
  | @ag cs vs hl h1 hr ih =>
    simp only [Go.Aw.ren,renL_eq]
    refine .ag (by simpa using hl) h1 fun i t ht=>?_
    rw [List.getElem?_map] at ht
    cases hi:cs[i]? with
    | none=>rw [hi] at ht;cases ht
    | some c=>rw [hi] at ht;cases ht;exact ih i c hi
  | @tu cs vs hl hr ih =>
    simp only [Go.Aw.ren,renL_eq]
    refine .tu (by simpa using hl) fun i t ht=>?_
    rw [List.getElem?_map] at ht
    cases hi:cs[i]? with
    | none=>rw [hi] at ht;cases ht
    | some c=>rw [hi] at ht;cases ht;exact ih i c hi
  | @mp b k kvs hb hk =>
    have hlt:=lt_of_get hb
    exact .mp (hH _ _ hb) (by rw [hγ _ hlt];exact hk)
theorem RV.unren (hγ:∀ b,b < H0.length→γ[σ b]?=γ0[b]?) (hH:∀ b x,H0[b]?=some x→H[σ b]?=some (renB σ x)) {v:V} (hv:v.lt H0.length):∀ {x:Value},RV γ H I w (Go.Aw.ren σ v) x→RV γ0 H0 I w v x:=by
  have blk:∀ b,b < H0.length→∃ y,H0[b]?=some y∧H[σ b]?=some (renB σ y):=fun b hb=>⟨H0[b],by simp [hb],hH _ _ (by simp [hb])⟩
  induction hv with
  | g=>intro x h;cases h with|g h=>exact .g h
  | any=>intro x _;exact .any
  | nil=>intro x h;cases h;exact .nil
  | @own b g off len hb =>
    intro x h
    obtain ⟨y,h1,h2⟩:=blk b hb
    cases h with
    | own hb' hg hl hc =>
    rw [h2] at hb'
    cases y with
    | mp=>cases hb'
    | arr g1 sz1 es1 =>
      cases hb'
      rw [hγ _ hb] at hc
      exact .own h1 hg hl fun e=>by simpa using hc e
  | @pa b g i off hb =>
    intro x h
    obtain ⟨y,h1,h2⟩:=blk b hb
    cases h with
    | pa hb' hg hc =>
    rw [h2] at hb'
    cases y with
    | mp=>cases hb'
    | arr g1 sz1 es1 =>
      cases hb'
      rw [hγ _ hb] at hc
      exact .pa h1 hg fun e=>by simpa using hc e
  | ra=>intro x h;cases h with|ra k o vs hi hI hw hc h1 hr=>exact .ra k o vs hi hI hw hc h1 hr
  | @fn f cs hh ih =>
    intro x h
    simp only [Go.Aw.ren,renL_eq] at h
    cases h with
    | fn hl hr=>exact .fn (by simpa using hl) fun i t ht=>ih i t ht (hr i (Go.Aw.ren σ t) (by simp [ht]))
  | @ag cs hh ih =>
    intro x h
    simp only [Go.Aw.ren,renL_eq] at h
    cases h with
    | ag hl h1 hr=>exact .ag (by simpa using hl) h1 fun i t ht=>ih i t ht (hr i (Go.Aw.ren σ t) (by simp [ht]))
  | @tu cs hh ih =>
    intro x h
    simp only [Go.Aw.ren,renL_eq] at h
    cases h with
    | tu hl hr=>exact .tu (by simpa using hl) fun i t ht=>ih i t ht (hr i (Go.Aw.ren σ t) (by simp [ht]))
  | @mp b hb =>
    intro x h
    obtain ⟨y,h1,h2⟩:=blk b hb
    cases h with
    | mp hb' hk =>
    rw [h2] at hb'
    cases y with
    | arr=>cases hb'
    | mp kvs=>exact .mp h1 (by rw [hγ _ hb] at hk;exact hk)
end
def sig (n:Nat):List Nat→Nat→Nat
  | [],i=>n+i
  | b::_,0=>b
  | _::bs,i+1=>sig n bs i
def place {α:Type}:List Nat→List α→List α→List α
  | [],l,m=>l++m
  | _::_,l,[]=>l
  | b::bs,l,x::m=>place bs (l.set b x) m
section
variable {α:Type}
theorem place_len:∀ {bs:List Nat} {l m:List α},bs.length≤m.length→(place bs l m).length=l.length+(m.length-bs.length)
  | [],l,m,_=>by simp [place]
  | b::bs,l,[],h=>by simp at h
  | b::bs,l,x::m,h=>by rw [place,place_len (by simpa using h)];simp
theorem place_frame:∀ {bs:List Nat} {l m:List α} {j:Nat},bs.length≤m.length→j < l.length→j∉bs→(place bs l m)[j]?=l[j]?
  | [],l,m,j,_,hj,_=>by rw [place,List.getElem?_append_left hj]
  | b::bs,l,[],j,h,_,_=>by simp at h
  | b::bs,l,x::m,j,h,hj,hn=>by
    simp only [List.mem_cons,not_or] at hn
    rw [place,place_frame (by simpa using h) (by simpa using hj) hn.2,List.getElem?_set,if_neg (fun e=>hn.1 e.symm)]
theorem sig_lt {n:Nat}:∀ {bs:List Nat} {i:Nat},(∀ b∈bs,b < n)→i < bs.length→sig n bs i∈bs
  | [],i,_,h=>by simp at h
  | b::bs,0,_,_=>by simp [sig]
  | b::bs,i+1,hb,h=>by
    rw [sig];exact List.mem_cons_of_mem _ (sig_lt (fun x hx=>hb x (by simp [hx])) (by simpa using h))
theorem sig_ge {n:Nat}:∀ {bs:List Nat} {i:Nat},bs.length≤i→sig n bs i=n+(i-bs.length)
  | [],i,_=>by simp [sig]
  | b::bs,0,h=>by simp at h
  | b::bs,i+1,h=>by rw [sig,sig_ge (by simpa using h)];simp
theorem sig_get {n:Nat}:∀ {bs:List Nat} {i:Nat},i < bs.length→bs[i]?=some (sig n bs i)
  | [],i,h=>by simp at h
  | b::bs,0,_=>by simp [sig]
  | b::bs,i+1,h=>by rw [sig];simpa using sig_get (by simpa using h)
theorem place_own {bs:List Nat} {l m:List α} (hb:∀ b∈bs,b < l.length) (hn:bs.Nodup) {i:Nat} (hi:i < m.length) (hl:bs.length≤m.length):(place bs l m)[sig l.length bs i]?=m[i]?:=by
  induction bs generalizing l m i with
  | nil=>rw [place,sig,List.getElem?_append_right (by omega)];congr 1;omega
  | cons b bs ih =>
    cases m with
    | nil=>simp at hl
    | cons x m =>
      rw [place]
      obtain ⟨hn1,hn2⟩:=List.nodup_cons.1 hn
      have hb':∀ c∈bs,c < (l.set b x).length:=fun c hc=>by simpa using hb c (by simp [hc])
      cases i with
      | zero =>
        rw [sig,place_frame (by simpa using hl) (by simpa using hb b (by simp)) hn1]
        have:=hb b (by simp)
        simp [this]
      | succ i =>
        rw [sig]
        have:=ih (l:=l.set b x) (m:=m) (i:=i) hb' hn2 (by simpa using hi) (by simpa using hl)
        rw [List.length_set] at this
        rw [this];simp
theorem sig_inj {n:Nat} {bs:List Nat} (hb:∀ b∈bs,b < n) (hn:bs.Nodup) {i j:Nat} (h:sig n bs i=sig n bs j):i=j:=by
  rcases Nat.lt_or_ge i bs.length with hi|hi <;> rcases Nat.lt_or_ge j bs.length with hj|hj
  · have h1:=sig_get (n:=n) hi
    have h2:=sig_get (n:=n) hj
    rw [h] at h1
    have hp:=List.pairwise_iff_getElem.1 hn
    have e1:bs[i]=bs[j]:=by
      rw [List.getElem?_eq_getElem hi] at h1
      rw [List.getElem?_eq_getElem hj] at h2
      exact Option.some.inj (h1.trans h2.symm)
    rcases Nat.lt_trichotomy i j with h3|h3|h3
    · exact absurd e1 (hp i j hi hj h3)
    · exact h3
    · exact absurd e1.symm (hp j i hj hi h3)
  · have h1:=hb _ (sig_lt hb hi)
    rw [h,sig_ge hj] at h1;omega
  · have h1:=hb _ (sig_lt hb hj)
    rw [← h,sig_ge hi] at h1;omega
  · rw [sig_ge hi,sig_ge hj] at h;omega
end
section
variable {P:Program} {γ:List (Option Nat)} {H H0:List Blk} {I:Nat→Prop} {w:World}
def own0 (γ:List (Option Nat)) (bs:List Nat):List (Option Nat):=bs.map fun b=>(γ[b]?).getD none
theorem own0_at (r:RelH γ I w H) {bs:List Nat} (hb:∀ b∈bs,b < H.length) (hk:bs.length=H0.length):∀ i,i < H0.length→γ[sig H.length bs i]?=(own0 γ bs)[i]?:=fun i hi=>by
  have h1:=sig_get (n:=H.length) (bs:=bs) (i:=i) (by omega)
  have h2:=hb _ (sig_lt hb (i:=i) (by omega))
  simp only [own0,List.getElem?_map,h1,Option.map_some]
  rw [List.getElem?_eq_getElem (by rw [r.len];exact h2)]
  rfl
theorem own0_find (r:RelH γ I w H) {bs:List Nat} (hb:∀ b∈bs,b < H.length) (hk:bs.length=H0.length):∀ i k,(own0 γ bs)[i]?=some (some k)→γ[sig H.length bs i]?=some (some k):=fun i k hk'=>by
  rw [own0_at r hb hk i (by have:=lt_of_get hk';simp [own0] at this;omega)];exact hk'
theorem own0_rel (r:RelH γ I w H) (bs:List Nat) (hn:bs.Nodup) (hb:∀ b∈bs,b < H.length) (hk:bs.length=H0.length)
    (hH:∀ (i:Nat) (x:Blk),H0[i]?=some x→H[sig H.length bs i]?=some (renB (sig H.length bs) x)∧x.lt H0.length):RelH (own0 γ bs) I w H0:=by
  have hγlen:(own0 γ bs).length=H0.length:=by simp [own0,hk]
  have hγ:=own0_at r hb hk
  have hfind:=own0_find r hb hk
  exact {
    len:=hγlen
    arr:=fun b g sz es hb'=>by
      have hlt:=lt_of_get hb'
      obtain ⟨h1,h2⟩:=hH b _ hb'
      rcases r.arr _ _ _ _ h1 with ⟨q1,q2⟩|⟨k,c,el,q1,q2,q3,q4,q5⟩
      · exact .inl ⟨by rw [← hγ b hlt];exact q1,by simpa using q2⟩
      · refine .inr ⟨k,c,el,by rw [← hγ b hlt];exact q1,q2,fun e he=>?_,by simpa using q4,fun i v hv'=>?_⟩
        · have:=q3 (ren _ e) (List.mem_map_of_mem he)
          rw [ren_cells,List.length_map] at this;exact this
        · obtain ⟨x,e1,e2,e3⟩:=q5 i (ren (sig H.length bs) v) (by rw [ren_flat,List.getElem?_map,hv'];rfl)
          exact ⟨x,e1,e2,e3.unren hγ (fun b x hx=>(hH b x hx).1) (h2 i v hv')⟩
    mp:=fun b kvs hb'=>by
      have hlt:=lt_of_get hb'
      obtain ⟨k,es,cl,q1,q2⟩:=r.mp _ _ (hH b _ hb').1
      exact ⟨k,es,cl,by rw [← hγ b hlt];exact q1,q2⟩
    inj:=fun b b' k h1 h2=>sig_inj hb hn (r.inj _ _ k (hfind _ _ h1) (hfind _ _ h2))
    off:=fun b k h1=>r.off _ _ (hfind _ _ h1)
    imm:=r.imm }
theorem frame_core (r:RelH γ I w H) (bs:List Nat) (hn:bs.Nodup) (hb:∀ b∈bs,b < H.length) (hk:bs.length=H0.length)
    (hH:∀ (i:Nat) (x:Blk),H0[i]?=some x→H[sig H.length bs i]?=some (renB (sig H.length bs) x)∧x.lt H0.length)
    {γ':List (Option Nat)} {H':List Blk} {I':Nat→Prop} {w':World} (r':RelH γ' I' w' H') (ex:Ext (own0 γ bs) H0 I w γ' H' I' w') :
    RelH (place bs γ γ') I' w' (place bs H (H'.map (renB (sig H.length bs))))∧Ext γ H I w (place bs γ γ') (place bs H (H'.map (renB (sig H.length bs)))) I' w' ∧
      ∀ q x,RV γ' H' I' w' q x→RV (place bs γ γ') (place bs H (H'.map (renB (sig H.length bs)))) I' w' (ren (sig H.length bs) q) x:=by
  have hγ:=own0_at r hb hk
  have hfind:=own0_find r hb hk
  have hlen:H0.length≤H'.length:=by
    rcases Nat.eq_zero_or_pos H0.length with h0|h0
    · omega
    · obtain ⟨y,hy,_⟩:=ex.blk (H0.length-1) H0[H0.length-1] (by simp)
      have:=lt_of_get hy;omega
  have hglen:γ'.length=H'.length:=r'.len
  have pl:bs.length≤(H'.map (renB (sig H.length bs))).length:=by simp;omega
  have pg:bs.length≤γ'.length:=by omega
  have Hget:∀ i,i < H'.length→(place bs H (H'.map (renB (sig H.length bs))))[sig H.length bs i]?=(H'[i]?).map (renB (sig H.length bs)):=fun i hi=>by
    rw [place_own hb hn (by simpa using hi) pl,List.getElem?_map]
  have Gget:∀ i,i < H'.length→(place bs γ γ')[sig H.length bs i]?=γ'[i]?:=fun i hi=>by
    rw [← r.len]
    exact place_own (fun b h=>by rw [r.len];exact hb b h) hn (by omega) pg
  have Hlen:(place bs H (H'.map (renB (sig H.length bs)))).length=H.length+(H'.length-bs.length):=by rw [place_len pl];simp
  have Glen:(place bs γ γ').length=H.length+(H'.length-bs.length):=by rw [place_len pg,r.len,hglen]
  have cover:∀ j,j < H.length+(H'.length-bs.length)→(∃ i,i < H'.length∧j=sig H.length bs i)∨(j < H.length∧j∉bs):=fun j hj=>by
    rcases Nat.lt_or_ge j H.length with h1|h1
    · by_cases h2:j∈bs
      · obtain ⟨i,hi,e⟩:=List.getElem_of_mem h2
        refine .inl ⟨i,by omega,?_⟩
        have:=sig_get (n:=H.length) hi
        rw [List.getElem?_eq_getElem hi,e] at this
        exact Option.some.inj this
      · exact .inr ⟨h1,h2⟩
    · refine .inl ⟨bs.length+(j-H.length),by omega,?_⟩
      rw [sig_ge (by omega)];omega
  have Hfr:∀ j,j < H.length→j∉bs→(place bs H (H'.map (renB (sig H.length bs))))[j]?=H[j]?:=fun j h1 h2=>place_frame pl h1 h2
  have Gfr:∀ j,j < H.length→j∉bs→(place bs γ γ')[j]?=γ[j]?:=fun j h1 h2=>place_frame pg (by rw [r.len];exact h1) h2
  have apart:∀ (b k i:Nat),b < H.length→b∉bs→γ[b]?=some (some k)→(own0 γ bs)[i]?≠some (some k):=fun b k i h1 h2 h3 h4=>by
    have h5:=r.inj _ _ k (hfind i k h4) h3
    have hi:i < H0.length:=by have:=lt_of_get h4;simp only [own0,List.length_map] at this;omega
    exact h2 (h5▸sig_lt hb (by omega))
  have up:∀ {x y:Blk},x.upto y→(renB (sig H.length bs) x).upto (renB (sig H.length bs) y):=fun {x y} h=>by cases x <;> cases y <;> exact h
  have sm:∀ {x y:Blk},(renB (sig H.length bs) x).same (renB (sig H.length bs) y)→x.same y:=fun {x y} h=>by cases x <;> cases y <;> exact h
  have X:Ext γ H I w (place bs γ γ') (place bs H (H'.map (renB (sig H.length bs)))) I' w':={
    os:=ex.os
    tape:=ex.tape
    output:=ex.output
    size:=ex.size
    sub:=ex.sub
    sub':=fun k hk=>by
      rcases ex.sub' k hk with h1|h1|⟨b,h1⟩
      · exact .inl h1
      · exact .inr (.inl h1)
      · exact .inr (.inr ⟨_,hfind b k h1⟩)
    frame:=fun k hk hbk=>ex.frame k hk fun b h1=>hbk _ (hfind b k h1)
    rows:=ex.rows
    blk:=fun b y hy=>by
      have hbl:=lt_of_get hy
      rcases cover b (by omega) with ⟨i,hi,rfl⟩|⟨_,h2⟩
      · have hi':i < H0.length:=by
          rcases Nat.lt_or_ge i bs.length with h|h
          · omega
          · rw [sig_ge h] at hbl;omega
        have h1:=(hH i H0[i] (by simp [hi'])).1
        rw [hy] at h1
        cases h1
        obtain ⟨y',q1,q2,q3⟩:=ex.blk i H0[i] (by simp [hi'])
        refine ⟨renB (sig H.length bs) y',by rw [Hget i hi,q1];rfl,up q2,fun hs=>?_⟩
        obtain ⟨q4,q5⟩:=q3 (sm hs)
        refine ⟨by rw [Gget i hi,q4,hγ i hi'],fun g sz es es' e1 e2=>?_⟩
        generalize H0[i]=z at e1 q5
        cases z with
        | mp=>cases e1
        | arr g1 s1 es1 =>
          cases y' with
          | mp=>cases e2
          | arr g2 s2 es2 =>
            cases e1;cases e2
            simpa using q5 _ _ _ _ rfl rfl
      · exact ⟨y,by rw [Hfr b hbl h2];exact hy,y.upto_refl,fun _=>⟨Gfr b hbl h2,fun g sz es es' e1 e2=>by subst e1;cases e2;exact Nat.le_refl _⟩⟩
    new:=fun b k hk'=>by
      have hbl:=lt_of_get hk'
      rw [Glen] at hbl
      rcases cover b hbl with ⟨i,hi,rfl⟩|⟨h1,h2⟩
      · rw [Gget i hi] at hk'
        rcases ex.new i k hk' with h3|⟨b',h3⟩
        · exact .inl h3
        · exact .inr ⟨_,hfind b' k h3⟩
      · rw [Gfr b h1 h2] at hk';exact .inr ⟨b,hk'⟩ }
  have hγ':∀ i,i < H'.length→(place bs γ γ')[sig H.length bs i]?=γ'[i]?:=Gget
  have hH':∀ i y,H'[i]?=some y→(place bs H (H'.map (renB (sig H.length bs))))[sig H.length bs i]?=some (renB (sig H.length bs) y):=fun i y hy=>by
    rw [Hget i (lt_of_get hy),hy];rfl
  have old:∀ b k,b < H.length→b∉bs→γ[b]?=some (some k)→w'.heap[k]?=w.heap[k]?:=fun b k h1 h2 h3=>ex.frame k (r.off b k h3).2 fun i=>apart b k i h1 h2 h3
  refine ⟨?_,X,fun q x hq=>hq.ren hγ' hH'⟩
  constructor
  · rw [Hlen,Glen]
  · intro b g sz es hbb
    have hbl:=lt_of_get hbb
    rw [Hlen] at hbl
    rcases cover b hbl with ⟨i,hi,rfl⟩|⟨h1,h2⟩
    · rw [Hget i hi] at hbb
      obtain ⟨y,hy,e⟩:=Option.map_eq_some_iff.1 hbb
      cases y with
      | mp=>cases e
      | arr g1 s1 es1 =>
        cases e
        rw [Gget i hi]
        rcases r'.arr i _ _ _ hy with ⟨q1,q2⟩|⟨k,c,el,q1,q2,q3,q4,q5⟩
        · exact .inl ⟨q1,by rw [q2];rfl⟩
        · refine .inr ⟨k,c,el,q1,q2,fun e he=>?_,by simpa using q4,fun j v hv'=>?_⟩
          · obtain ⟨e0,he0,rfl⟩:=List.mem_map.1 he
            rw [ren_cells,List.length_map];exact q3 e0 he0
          · rw [ren_flat,List.getElem?_map] at hv'
            obtain ⟨v0,hv0,rfl⟩:=Option.map_eq_some_iff.1 hv'
            obtain ⟨x,e1,e2,e3⟩:=q5 j v0 hv0
            exact ⟨x,e1,e2,e3.ren hγ' hH'⟩
    · rw [Hfr b h1 h2] at hbb
      rw [Gfr b h1 h2]
      rcases r.arr b _ _ _ hbb with q1|⟨k,c,el,q1,q2,q3,q4,q5⟩
      · exact .inl q1
      · refine .inr ⟨k,c,el,q1,by rw [old b k h1 h2 q1];exact q2,q3,q4,fun j v hv'=>?_⟩
        obtain ⟨x,e1,e2,e3⟩:=q5 j v hv'
        exact ⟨x,e1,e2,e3.mono X r⟩
  · intro b kvs hbb
    have hbl:=lt_of_get hbb
    rw [Hlen] at hbl
    rcases cover b hbl with ⟨i,hi,rfl⟩|⟨h1,h2⟩
    · rw [Hget i hi] at hbb
      obtain ⟨y,hy,e⟩:=Option.map_eq_some_iff.1 hbb
      cases y with
      | arr=>cases e
      | mp kvs1 =>
        cases e
        rw [Gget i hi]
        exact r'.mp i _ hy
    · rw [Hfr b h1 h2] at hbb
      rw [Gfr b h1 h2]
      obtain ⟨k,es,cl,q1,q2,q3⟩:=r.mp b _ hbb
      exact ⟨k,es,cl,q1,by rw [old b k h1 h2 q1];exact q2,q3⟩
  · intro b b' k h1 h2
    have hl1:=lt_of_get h1
    have hl2:=lt_of_get h2
    rw [Glen] at hl1 hl2
    have mix:∀ i b,i < H'.length→b < H.length→b∉bs→γ'[i]?=some (some k)→γ[b]?=some (some k)→False:=fun i b _ q1 q2 q3 q4=>by
      rcases ex.new i k q3 with q5|⟨b0,q5⟩
      · have:=(r.off b k q4).2;omega
      · exact apart b k b0 q1 q2 q4 q5
    rcases cover b hl1 with ⟨i,hi,rfl⟩|⟨q1,q2⟩ <;> rcases cover b' hl2 with ⟨i',hi',rfl⟩|⟨q3,q4⟩
    · rw [Gget i hi] at h1
      rw [Gget i' hi'] at h2
      rw [r'.inj i i' k h1 h2]
    · rw [Gget i hi] at h1
      rw [Gfr b' q3 q4] at h2
      exact (mix i b' hi q3 q4 h1 h2).elim
    · rw [Gget i' hi'] at h2
      rw [Gfr b q1 q2] at h1
      exact (mix i' b hi' q1 q2 h2 h1).elim
    · rw [Gfr b q1 q2] at h1
      rw [Gfr b' q3 q4] at h2
      exact r.inj b b' k h1 h2
  · intro b k h1
    have hl1:=lt_of_get h1
    rw [Glen] at hl1
    rcases cover b hl1 with ⟨i,hi,rfl⟩|⟨q1,q2⟩
    · rw [Gget i hi] at h1;exact r'.off i k h1
    · rw [Gfr b q1 q2] at h1
      refine ⟨fun hI=>?_,Nat.lt_of_lt_of_le (r.off b k h1).2 ex.size⟩
      rcases ex.sub' k hI with q3|q3|⟨b0,q3⟩
      · exact (r.off b k h1).1 q3
      · have:=(r.off b k h1).2;omega
      · exact apart b k b0 q1 q2 h1 q3
  · exact r'.imm
theorem ACalls.at {f:Nat} {args:List V} {R:V→List Blk→Prop} (h:ACalls P f args H0 R) (bs:List Nat) (hn:bs.Nodup) (hb:∀ b∈bs,b < H.length) (hk:bs.length=H0.length)
    (hH:∀ (i:Nat) (x:Blk),H0[i]?=some x→H[sig H.length bs i]?=some (renB (sig H.length bs) x)∧x.lt H0.length)
    (ha:∀ (i:Nat) (v:V),args[i]?=some v→v.lt H0.length) :
    ACalls P f (args.map (ren (sig H.length bs))) H (fun r h'=>∃ r0 h0,R r0 h0∧r=ren (sig H.length bs) r0∧h'=place bs H (h0.map (renB (sig H.length bs)))):=by
  refine ⟨h.1,?_⟩
  intro γ I w vs r hl hv
  have r0:=own0_rel r bs hn hb hk hH
  refine (h.2 (own0 γ bs) I w vs r0 (by simpa using hl) fun i v hi=>?_).mono ?_
  · exact (hv i (ren (sig H.length bs) v) (by rw [List.getElem?_map,hi];rfl)).unren (own0_at r hb hk) (fun b x hx=>(hH b x hx).1) (ha i v hi)
  · rintro e w' ⟨q,x,H',γ',I',rfl,hR,r',hq,ex⟩
    obtain ⟨k1,k2,k3⟩:=frame_core r bs hn hb hk hH r' ex
    exact ⟨_,x,_,_,I',rfl,⟨q,H',hR,rfl,rfl⟩,k1,k3 q x hq,k2⟩
theorem PCalls.at {pv:Int→Value} {q0 q1:Int→List Blk→Prop} {f:Nat} {args:List V} {R:V→List Blk→Prop} (h:PCalls { P with pv:=pv,pq:=q0 } f args H0 R) (bs:List Nat) (hn:bs.Nodup) (hb:∀ b∈bs,b < H.length) (hk:bs.length=H0.length)
    (hH:∀ (i:Nat) (x:Blk),H0[i]?=some x→H[sig H.length bs i]?=some (renB (sig H.length bs) x)∧x.lt H0.length)
    (ha:∀ (i:Nat) (v:V),args[i]?=some v→v.lt H0.length) (hq:∀ c h0,q0 c h0→q1 c (place bs H (h0.map (renB (sig H.length bs))))) :
    PCalls { P with pv:=pv,pq:=q1 } f (args.map (ren (sig H.length bs))) H (fun r h'=>∃ r0 h0,R r0 h0∧r=ren (sig H.length bs) r0∧h'=place bs H (h0.map (renB (sig H.length bs)))):=by
  refine ⟨h.1,?_⟩
  intro γ I w vs r hl hv
  have r0:=own0_rel r bs hn hb hk hH
  refine (h.2 (own0 γ bs) I w vs r0 (by simpa using hl) fun i v hi=>?_).mono ?_
  · exact (hv i (ren (sig H.length bs) v) (by rw [List.getElem?_map,hi];rfl)).unren (own0_at r hb hk) (fun b x hx=>(hH b x hx).1) (ha i v hi)
  · rintro e w' (⟨q,x,H',γ',I',rfl,hR,r',hq,ex⟩|⟨c,H',γ',I',rfl,hp,r',ex⟩)
    · obtain ⟨k1,k2,k3⟩:=frame_core r bs hn hb hk hH r' ex
      exact .inl ⟨_,x,_,_,I',rfl,⟨q,H',hR,rfl,rfl⟩,k1,k3 q x hq,k2⟩
    · obtain ⟨k1,k2,_⟩:=frame_core r bs hn hb hk hH r' ex
      exact .inr ⟨c,_,_,I',rfl,hq c H' hp,k1,k2⟩
end
end Go.Aw
namespace Go.Aw
theorem ren_lt0 (σ:Nat→Nat) {v:V} (h:v.lt 0):ren σ v=v:=by
  have key:∀ n,n=0→∀ {v:V},V.lt n v→ren σ v=v:=by
    intro n hn v h
    induction h with
    | g=>simp [ren]
    | any=>simp [ren]
    | nil=>simp [ren]
    | own h=>omega
    | pa h=>omega
    | ra=>simp [ren]
    | @fn f cs h ih =>
      simp only [ren,renL_eq,V.fn.injEq,true_and]
      refine List.ext_getElem? fun i=>?_
      rw [List.getElem?_map]
      cases hi:cs[i]? with
      | none=>rfl
      | some c=>simp [ih i c hi]
    | @ag cs h ih =>
      simp only [ren,renL_eq,V.ag.injEq]
      refine List.ext_getElem? fun i=>?_
      rw [List.getElem?_map]
      cases hi:cs[i]? with
      | none=>rfl
      | some c=>simp [ih i c hi]
    | @tu cs h ih =>
      simp only [ren,renL_eq,V.tu.injEq]
      refine List.ext_getElem? fun i=>?_
      rw [List.getElem?_map]
      cases hi:cs[i]? with
      | none=>rfl
      | some c=>simp [ih i c hi]
    | mp h=>omega
  exact key 0 rfl h
theorem cells_lt {n:Nat} {v:V} (h:∀ c∈v.cells,c.lt n):v=.any∨v.lt n:=by
  cases v with
  | any=>exact .inl rfl
  | ag cs=>exact .inr (.ag fun i c hc=>h c (List.mem_of_getElem? hc))
  | g t=>exact .inr .g
  | _=>exact .inr (h _ (by simp [V.cells]))
theorem renB_flat (σ:Nat→Nat) {x:Blk} (h:x.lt 0):renB σ x=x:=by
  cases x with
  | mp=>rfl
  | arr g sz es =>
    simp only [renB,Blk.arr.injEq,true_and]
    have:∀ e∈es,ren σ e=e:=fun e he=>by
      rcases cells_lt (n:=0) (v:=e) (fun c hc=>by
        have:c∈flatV es:=List.mem_flatMap.2 ⟨e,he,hc⟩
        obtain ⟨i,hi,rfl⟩:=List.getElem_of_mem this
        exact h i _ (by simp [hi])) with rfl|hl
      · simp [ren]
      · exact ren_lt0 σ hl
    exact (List.map_congr_left this).trans (List.map_id' es)
def flatH (h:List Blk):Prop:=∀ x∈h,x.lt 0
theorem flatH.nil:flatH []:=fun _ h=>by cases h
theorem flatH.cons {x:Blk} {h:List Blk} (hx:x.lt 0) (hh:flatH h):flatH (x::h):=fun y hy=>by
  rcases List.mem_cons.1 hy with rfl|hy
  · exact hx
  · exact hh y hy
theorem flatH.map {σ:Nat→Nat} {h:List Blk} (f:flatH h):h.map (renB σ)=h:=(List.map_congr_left fun x hx=>renB_flat σ (f x hx)).trans (List.map_id' h)
theorem Blk.lt_mono {n:Nat} {x:Blk} (h:x.lt 0):x.lt n:=by
  cases x with
  | mp=>trivial
  | arr g sz es =>
    intro i v hv
    have key:∀ m,m=0→∀ {v:V},V.lt m v→V.lt n v:=by
      intro m hm v h
      induction h with
      | g=>exact .g
      | any=>exact .any
      | nil=>exact .nil
      | own h=>omega
      | pa h=>omega
      | ra=>exact .ra
      | fn h ih=>exact .fn ih
      | ag h ih=>exact .ag ih
      | tu h ih=>exact .tu ih
      | mp h=>omega
    exact key 0 rfl (h i v hv)
theorem Blk.lt_g {g sz n:Nat} {α:Type} {l:List α} {f:α→T}:(Blk.arr g sz (l.map fun x=>V.g (f x))).lt n:=by
  intro i v hv
  obtain ⟨e,he,hc⟩:=List.mem_flatMap.1 (List.mem_of_getElem? hv)
  obtain ⟨x,_,rfl⟩:=List.mem_map.1 he
  simp only [V.cells] at hc
  obtain ⟨t,_,rfl⟩:=List.mem_map.1 hc
  exact .g
theorem Blk.lt_g1 {g sz n:Nat} {t:T}:(Blk.arr g sz [V.g t]).lt n:=Blk.lt_g (l:=[t]) (f:=id)
noncomputable def placeB:List Nat→List Blk→List Blk→List Blk:=fun bs=>List.rec (motive:=fun _=>List Blk→List Blk→List Blk)
  (fun l m=>List.rec (motive:=fun _=>List Blk→List Blk) (fun l=>l) (fun x _ ih l=>ih (addB l x)) m l)
  (fun b _ ih l m=>List.rec (motive:=fun _=>List Blk) l (fun x m _=>ih (setB l b x) m) m) bs
theorem placeB_eq:∀ (bs:List Nat) (l m:List Blk),placeB bs l m=place bs l m
  | [],l,m=>by
    show List.rec (motive:=fun _=>List Blk→List Blk) (fun l=>l) (fun x _ ih l=>ih (addB l x)) m l=l++m
    induction m generalizing l with
    | nil=>simp
    | cons x m ih =>
      show List.rec (motive:=fun _=>List Blk→List Blk) (fun l=>l) (fun x _ ih l=>ih (addB l x)) m (addB l x)=_
      rw [ih,addB_eq];simp
  | b::bs,l,[]=>rfl
  | b::bs,l,x::m=>by
    show placeB bs (setB l b x) m=place bs (l.set b x) m
    rw [placeB_eq,setB_eq]
def ltS' (n:Nat):V→Bool
  | .own b _ _ _|.pa b _ _ _|.mp b=>Nat.ble (b+1) n
  | .g _|.nil _|.ra ..=>true
  | _=>false
def ltA (n:Nat):V→Bool
  | .fn _ cs=>cs.all (ltS' n)
  | v=>ltS' n v
theorem ltS'_ok {n:Nat} {v:V} (h:ltS' n v=true):v.lt n:=by
  cases v <;> simp only [ltS',Bool.false_eq_true] at h
  · exact .g
  · exact .nil
  · exact .own (Nat.le_of_ble_eq_true h)
  · exact .pa (Nat.le_of_ble_eq_true h)
  · exact .ra
  · exact .mp (Nat.le_of_ble_eq_true h)
theorem ltA_ok {n:Nat} {v:V} (h:ltA n v=true):v.lt n:=by
  cases v with
  | fn f cs=>simp only [ltA,List.all_eq_true] at h;exact .fn fun i c hc=>ltS'_ok (h c (List.mem_of_getElem? hc))
  | _=>exact ltS'_ok h
def ltAs (n:Nat):List V→Bool
  | []=>true
  | v::vs=>ltA n v && ltAs n vs
def nodupB (n:Nat):List Nat→Bool
  | []=>true
  | b::bs=>Nat.ble (b+1) n && !memN b bs && nodupB n bs
theorem nodupB_ok {n:Nat}:∀ {bs:List Nat},nodupB n bs=true→bs.Nodup∧∀ b∈bs,b < n
  | [],_=>⟨.nil,fun _ h=>by cases h⟩
  | b::bs,h=>by
    simp only [nodupB,Bool.and_eq_true,Bool.not_eq_true'] at h
    obtain ⟨h1,h2⟩:=nodupB_ok h.2
    have mm:∀ {l:List Nat},memN b l=false→b∉l:=by
      intro l
      induction l with
      | nil=>simp
      | cons x l ih =>
        intro h hm
        simp only [memN,Bool.or_eq_false_iff] at h
        rcases List.mem_cons.1 hm with rfl|hm
        · simp at h
        · exact ih h.2 hm
    exact ⟨List.nodup_cons.2 ⟨mm h.1.2,h1⟩,fun c hc=>by
      rcases List.mem_cons.1 hc with rfl|hc
      · exact Nat.le_of_ble_eq_true h.1.1
      · exact h2 c hc⟩
theorem ACalls.fl {P:Program} {f:Nat} {args:List V} {H0 H:List Blk} {R K:V→List Blk→Prop} (c:ACalls P f args H0 R) (bs:List Nat) (h1:nodupB H.length bs=true) (h2:optL (bs.map fun b=>H[b]?)=some H0)
    (h3:ltAs H0.length args=true) (h4:flatH H0) (h5:∀ r h,R r h→flatH h) (k:∀ r h,R r h→K (ren (sig H.length bs) r) (placeB bs H h)):ACalls P f (args.map (ren (sig H.length bs))) H K:=by
  obtain ⟨n1,n2⟩:=nodupB_ok h1
  have hl:bs.length=H0.length:=by have:=congrArg List.length (optL_some h2);simpa using this
  refine (c.at bs n1 n2 hl (fun i x hx=>?_) fun i v hi=>?_).mono ?_
  · have hf:=h4 x (List.mem_of_getElem? hx)
    refine ⟨?_,Blk.lt_mono hf⟩
    rw [renB_flat _ hf]
    have:=congrArg (·[i]?) (optL_some h2)
    have hi:i < bs.length:=by have:=lt_of_get hx;omega
    simp only [List.getElem?_map,sig_get (n:=H.length) hi,hx,Option.map_some,Option.some.injEq] at this
    exact this
  · have:∀ {vs:List V},ltAs H0.length vs=true→∀ v∈vs,ltA H0.length v=true:=by
      intro vs
      induction vs with
      | nil=>intro _ v hv;cases hv
      | cons u vs ih =>
        intro h v hv
        simp only [ltAs,Bool.and_eq_true] at h
        rcases List.mem_cons.1 hv with rfl|hv
        · exact h.1
        · exact ih h.2 v hv
    exact ltA_ok (this h3 v (List.mem_of_getElem? hi))
  · rintro r h ⟨r0,h0,hR,rfl,rfl⟩
    rw [(h5 r0 h0 hR).map,← placeB_eq]
    exact k r0 h0 hR
end Go.Aw
namespace Go.Aw
theorem Ends.valloc {H:List Blk} {R:V→List Blk→Prop} {sz:Nat} (h:R (.own H.length 0 0 0) (H++[.arr 0 sz []])):Ends H R (.nil sz) H:=fun γ I w γ' I' w' x r r' hx e=>by
  obtain ⟨v1,v2⟩:=valloc_ok r' 0 sz
  cases hx
  refine ⟨_,_,_,_,h,v1,.own (g':=0) (sz:=sz) (es:=[]) (by simp) (Nat.le_refl _) (Nat.le_refl _) (fun _=>⟨Nat.le_refl _,.inl ⟨?_,rfl,rfl,rfl⟩⟩),e.trans v2⟩
  rw [List.getElem?_append_right (by rw [r'.len];exact Nat.le_refl _)];simp [r'.len]
end Go.Aw
namespace Go.Aw
inductive V.bare:V→Prop where
  | g {t:T} (h:t.scal):V.bare (.g t)
  | nil {s:Nat}:V.bare (.nil s)
  | any:V.bare .any
  | own {b g o l:Nat}:V.bare (.own b g o l)
  | pa {b g i o:Nat}:V.bare (.pa b g i o)
  | mp {b:Nat}:V.bare (.mp b)
  | tu {cs:List V} (h:∀ (i:Nat) (v:V),cs[i]?=some v→V.bare v):V.bare (.tu cs)
theorem RV.bare {γ:List (Option Nat)} {H:List Blk} {I I':Nat→Prop} {w:World} {v:V} {x:Value} (h:RV γ H I w v x) (hb:v.bare):RV γ H I' w v x:=by
  induction h with
  | g h=>cases hb with|g hs=>exact .g (h.scal hs)
  | any=>exact .any
  | nil=>exact .nil
  | own hb' hg hl hc=>exact .own hb' hg hl hc
  | pa hb' hg hc=>exact .pa hb' hg hc
  | mp hb' hk=>exact .mp hb' hk
  | tu hl _ ih=>cases hb with|tu hs=>exact .tu hl fun i t ht=>ih i t ht (hs i t ht)
  | _=>cases hb
theorem ACalls.nil {P:Program} {f:Nat} {args:List V} {H:List Blk} {K:V→List Blk→Prop} (i sz:Nat) (hi:args[i]?=some (.nil sz)) (h:ACalls P f (args.set i (.own H.length 0 0 0)) (addB H (.arr 0 sz [])) K):ACalls P f args H K:=by
  rw [addB_eq] at h
  refine ⟨h.1,?_⟩
  intro γ I w vs r hl hv
  obtain ⟨v1,v2⟩:=valloc_ok r 0 sz
  refine (h.2 _ I w vs v1 (by simpa using hl) fun j v hj=>?_).mono ?_
  · by_cases hij:i=j
    · subst hij
      have hlt:=lt_of_get hi
      rw [List.getElem?_set,if_pos rfl,if_pos hlt] at hj
      cases hj
      have:=hv i _ hi
      generalize vs.getD i undef=x at this ⊢
      cases this
      refine .own (g':=0) (sz:=sz) (es:=[]) (by simp) (Nat.le_refl _) (Nat.le_refl _) (fun _=>⟨Nat.le_refl _,.inl ⟨?_,rfl,rfl,rfl⟩⟩)
      rw [List.getElem?_append_right (by rw [r.len];exact Nat.le_refl _)];simp [r.len]
    · rw [List.getElem?_set,if_neg hij] at hj
      exact (hv j v hj).mono v2 r
  · rintro e w' ⟨q,x,H',γ',I',rfl,h2,h3,h4,h5⟩
    exact ⟨q,x,H',γ',I',rfl,h2,h3,h4,v2.trans h5⟩
end Go.Aw
namespace Go.Aw
theorem CG.lend {P:Program} {f:Nat} {ts:List T} {t:T} (c:CG P f ts t) (ht:t.scal) (d:Nat) {H:List Blk} {args:List V} (ha:optL (args.map (gr 0 H d))=some ts) {K:V→List Blk→Prop} (k:K (.g t) H):ACalls P f args H K :=
  (c.ok.lend (fun r h ⟨h1,h2⟩=>⟨h2,h1▸.g ht⟩) H args d ha).mono fun r h ⟨h1,h2⟩=>by rw [h1.1,h2];exact k
theorem CG.lend1 {P:Program} {f:Nat} {t1 t:T} (c:CG P f [t1] t) (ht:t.scal) (d:Nat) {H:List Blk} {a:V} (ha:gr 0 H d a=some t1) {K:V→List Blk→Prop} (k:K (.g t) H):ACalls P f [a] H K :=
  CG.lend c ht d (by simp [optL,ha]) k
theorem CG.lend2 {P:Program} {f:Nat} {t1 t2 t:T} (c:CG P f [t1,t2] t) (ht:t.scal) (d:Nat) {H:List Blk} {a b:V} (ha:gr 0 H d a=some t1) (hb:gr 0 H d b=some t2) {K:V→List Blk→Prop} (k:K (.g t) H):ACalls P f [a,b] H K :=
  CG.lend c ht d (by simp [optL,ha,hb]) k
end Go.Aw
namespace Go.Aw
end Go.Aw
namespace Go.Aw
section
variable {γ:List (Option Nat)} {I:Nat→Prop} {w:World} {H:List Blk}
theorem retell_ok (r:RelH γ I w H) {b g sz:Nat} {es es':List V} (hb:H[b]?=some (.arr g sz es)) (hl:es'.length=es.length) (hw:∀ e∈es',e.cells.length=sz)
    (hc:∀ (j:Nat) v',(flatV es')[j]?=some v'→∃ v,(flatV es)[j]?=some v∧∀ x,RV γ H I w v x→RV γ H I w v' x) :
    RelH γ I w (H.set b (.arr g sz es'))∧Ext γ H I w γ (H.set b (.arr g sz es')) I w:=by
  have hbl:=lt_of_get hb
  have hx:Ext γ H I w γ (H.set b (.arr g sz es')) I w :=
    ⟨rfl,rfl,rfl,Nat.le_refl _,fun _ h=>h,fun _ h=>.inl h,fun _ _ _=>rfl,fun _ _ h=>h,fun c x hx=>by
      by_cases hcb:b=c
      · subst hcb
        rw [hb] at hx;cases hx
        refine ⟨.arr g sz es',by simp [hbl],⟨Nat.le_refl _,rfl⟩,fun _=>⟨rfl,fun g1 s1 e1 e2 h1 h2=>?_⟩⟩
        cases h1;cases h2;omega
      · exact ⟨x,by rw [List.getElem?_set_ne hcb];exact hx,x.upto_refl,fun _=>⟨rfl,fun g1 s1 e1 e2 h1 h2=>by subst h1;cases h2;exact Nat.le_refl _⟩⟩,fun c _ h=>.inr ⟨c,h⟩⟩
  refine ⟨⟨by simp [r.len],fun c g1 s1 e1 hc1=>?_,fun c kvs hc1=>?_,r.inj,r.off,r.imm⟩,hx⟩
  · by_cases hcb:b=c
    · subst hcb
      simp [hbl] at hc1
      obtain ⟨rfl,rfl,rfl⟩:=hc1
      rcases r.arr _ _ _ _ hb with ⟨h1,rfl⟩|⟨k,c',el,h1,h2,h3,h4,h5⟩
      · exact .inl ⟨h1,List.eq_nil_of_length_eq_zero (by simpa using hl)⟩
      · refine .inr ⟨k,c',el,h1,h2,hw,by rw [hl];exact h4,fun i v hv=>?_⟩
        obtain ⟨u,hu,hr⟩:=hc i v hv
        obtain ⟨x,x1,x2,x3⟩:=h5 i u hu
        exact ⟨x,x1,x2,(hr x x3).mono hx r⟩
    · rw [List.getElem?_set_ne hcb] at hc1
      rcases r.arr _ _ _ _ hc1 with h|⟨k,c',el,h1,h2,h3,h4,h5⟩
      · exact .inl h
      · exact .inr ⟨k,c',el,h1,h2,h3,h4,fun i v hv=>by obtain ⟨x,x1,x2,x3⟩:=h5 i v hv;exact ⟨x,x1,x2,x3.mono hx r⟩⟩
  · by_cases hcb:b=c
    · subst hcb;simp [hbl] at hc1
    · rw [List.getElem?_set_ne hcb] at hc1
      exact r.mp c kvs hc1
theorem Refi.vallocE {z:Nat} {t:List V} {h:List Blk} (b s0:Nat) {g sz:Nat} {es es':List V} (hb:h[b]?=some (.arr g sz es)) (hl:es'.length=es.length) (hw:∀ e∈es',e.cells.length=sz)
    (hc:∀ (j:Nat) v',(flatV es')[j]?=some v'→(flatV es)[j]?=some v'∨((flatV es)[j]?=some (.nil s0)∧v'=.own h.length 0 0 0)) :
    Refi z ⟨t,h⟩ ⟨t,h.set b (.arr g sz es')++[.arr 0 s0 []]⟩:=fun γ I w a r=>by
  obtain ⟨v1,v2⟩:=valloc_ok r.heap 0 s0
  have hbl:=lt_of_get hb
  have hb':(h++[.arr 0 s0 []])[b]?=some (.arr g sz es):=by rw [List.getElem?_append_left hbl];exact hb
  obtain ⟨w1,w2⟩:=retell_ok v1 hb' hl hw (fun j v' hj=>by
    rcases hc j v' hj with h1|⟨h1,rfl⟩
    · exact ⟨v',h1,fun _ h=>h⟩
    · refine ⟨_,h1,fun x hx=>?_⟩
      cases hx
      refine .own (g':=0) (sz:=s0) (es:=[]) (by simp) (Nat.le_refl _) (Nat.le_refl _) (fun _=>⟨by simp,.inl ⟨?_,rfl,rfl,rfl⟩⟩)
      rw [List.getElem?_append_right (by rw [r.heap.len];exact Nat.le_refl _)];simp [r.heap.len])
  have e:(h++[Blk.arr 0 s0 []]).set b (Blk.arr g sz es')=h.set b (Blk.arr g sz es')++[Blk.arr 0 s0 []]:=List.set_append_left _ _ hbl
  rw [e] at w1 w2
  exact ⟨γ++[none],I,(r.ext v2 v1).ext w2 w1,(v2.trans w2).toM⟩
end
end Go.Aw
namespace Go.Aw
open Go.Sort Go.RowKit Go.Shelf Go.Proofs
def CmpI (P:Program) (g n:Nat) (ks ds:List Value) (cf:Nat→Nat→Int):Prop :=
  ∀ (A B:Addr) (W:World) (ka oa kb ob c1 c2:Nat),W.cell? A=some (.slice (some ⟨ka,oa,none⟩) n c1)→W.cell? B=some (.slice (some ⟨kb,ob,none⟩) n c2)→n≤c1→n≤c2 →
    (∀ (i:Nat) (x:Value),ks[i]?=some x→W.cell? ⟨ka,oa+i,none⟩=some x)→(∀ (i:Nat) (x:Value),ds[i]?=some x→W.cell? ⟨kb,ob+i,none⟩=some x) →
    ∀ i j:Nat,i < n→j < n→Calls P g #[.int .i64 i,.int .i64 j,.pointer (some A),.pointer (some B)] W fun e w'=>e=.returned (.int .i64 (cf i j))∧∃ q os',w'=grow (W.drewN q) os'
section
variable {γ:List (Option Nat)} {I:Nat→Prop} {w:World} {H:List Blk} {P:Program}
theorem flatT_sc:∀ ks:List Value,flatT (ks.map T.sc)=ks.map T.sc
  | []=>rfl
  | x::r=>by
    have ih:=flatT_sc r
    simp only [List.map_cons,flatT,List.flatMap_cons] at ih ⊢
    rw [ih];rfl
theorem box_row (r:RelH γ I w H) {b g:Nat} {ks:List Value} {x:Value} (hb:H[b]?=some (.arr g 1 [.g (.sl 1 (ks.map T.sc))])) (hk:ks≠[]) (hx:RV γ H I w (.pa b g 0 0) x) :
    ∃ A ka oa c1,x=.pointer (some A)∧γ[b]?=some (some A.block)∧I ka∧w.cell? A=some (.slice (some ⟨ka,oa,none⟩) ks.length c1)∧ks.length≤c1∧∀ (i:Nat) (y:Value),ks[i]?=some y→w.cell? ⟨ka,oa+i,none⟩=some y:=by
  cases hx with
  | pa hb2 hg hc =>
  rw [hb] at hb2;cases hb2
  obtain ⟨_,k,hk1,rfl⟩:=hc rfl
  rcases r.arr _ _ _ _ hb with ⟨hz,_⟩|⟨k',c,el,h1,h2,h3,h4,h5⟩
  · rw [hz] at hk1;cases hk1
  rw [hk1] at h1;cases h1
  obtain ⟨y,y1,y2,y3⟩:=h5 0 (.g (.sl 1 (ks.map T.sc))) rfl
  cases y3 with
  | g y3 =>
  generalize hes:ks.map T.sc=es at y3
  cases y3 with
  | @sl _ _ a cap ka oa vs ha hw hl hcl h1 hr =>
  have hne:es≠[]:=fun e=>by subst e;simp at hes;exact hk hes
  obtain ⟨rfl,hI⟩:=ha hne
  have hel:es.length=ks.length:=by rw [← hes];simp
  have hfl:flatT es=es:=by rw [← hes];exact flatT_sc ks
  refine ⟨⟨k,0*1+0,none⟩,ka,oa,cap,rfl,hk1,hI,?_,by omega,fun i y hy=>?_⟩
  · have:w.cell? ⟨k,0*1+0,none⟩=some (.slice (some ⟨ka,oa,none⟩) es.length cap):=by simp [World.cell?,h2,y1]
    rw [this,hel]
  · have ht:(flatT es)[i]?=some (.sc y):=by rw [hfl,← hes,List.getElem?_map,hy];rfl
    have:=hr i _ ht
    rw [hcl i _ ht]
    generalize vs i=z at this
    cases this with|sc _=>rfl
theorem sortN_ok {ρ ρ0:Go.Shelf.Ren} (L:SlLaysF.n6 P ρ) (L0:SlLaysF0.n6 P ρ0) {f:Nat} (hf:ρ.f 6=f) (hf0:ρ0.f 6=f) (ok:callOk P f) {g:Nat}
    (eg:∀ args w,(callFunc g args).run P w=.ok (.enter g args) w) {ks ds:List Value} {cf:Nat→Nat→Int} (hO:SWO (ltOf cf)) (hds:ds.length=ks.length) (hc:CmpI P g ks.length ks ds cf)
    {b g0 b1 g1 b2 g2:Nat} (hl:ks.length < 4611686018427387904) (hb:H[b]?=some (.arr g0 1 ((List.range ks.length).map fun (i:Nat)=>V.g (.i i))))
    (h1:H[b1]?=some (.arr g1 1 [.g (.sl 1 (ks.map T.sc))])) (h2:H[b2]?=some (.arr g2 1 [.g (.sl 1 (ds.map T.sc))])) (hb1:b≠b1) (hb2:b≠b2) :
    ACalls P f [.own b g0 0 ks.length,.fn g [.pa b1 g1 0 0,.pa b2 g2 0 0]] H (fun r h'=>r=.tu []∧∃ p:List Nat,p.Perm (List.range ks.length)∧p.Pairwise (fun x y=>¬ ltOf (fun x y=>cf (if x < ks.length then x else 0) (if y < ks.length then y else 0)) y x=true)∧h'=H.set b (.arr g0 1 (p.map fun (i:Nat)=>V.g (.i i)))):=by
  refine ⟨ok,fun γ I w vs r hlen hv=>?_⟩
  obtain ⟨X,Y,rfl⟩:∃ X Y,vs=[X,Y]:=by
    match vs,hlen with
    | [X,Y],_=>exact ⟨X,Y,rfl⟩
  have hX:=hv 0 _ rfl
  have hY:=hv 1 _ rfl
  simp only [List.getD_eq_getElem?_getD,List.getElem?_cons_zero,List.getElem?_cons_succ,Option.getD_some] at hX hY
  have htu:∀ {γ H I w},RV γ H I w (.tu []) (.tuple #[]):=.tu (vs:=[]) rfl (by simp)
  cases hX with
  | @own _ _ gx sz2 _ _ cap es2 a hbx hg hlc hcc =>
  rw [hb] at hbx;cases hbx
  obtain ⟨c1,c2⟩:=hcc rfl
  generalize hn:ks.length=n at *
  by_cases hne:n=0
  · subst hne
    subst hf0
    refine (AnyF.slices_SortFunc_none L0 a cap Y w).mono ?_
    rintro e w' ⟨rfl,rfl⟩
    exact ⟨.tu [],_,H,γ,I,rfl,⟨rfl,[],.refl _,.nil,(set_self hb).symm⟩,r,htu,Ext.refl ..⟩
  · have hpos:0 < n:=Nat.pos_of_ne_zero hne
    obtain ⟨Y1,Y2,rfl,hY1,hY2⟩:∃ Y1 Y2,Y=.func (.func g) #[] #[Y1,Y2]∧RV γ H I w (.pa b1 g1 0 0) Y1∧RV γ H I w (.pa b2 g2 0 0) Y2:=by
      cases hY with
      | @fn _ _ vs hl hr =>
        match vs,hl with
        | [Y1,Y2],_ =>
          exact ⟨Y1,Y2,rfl,by simpa using hr 0 _ rfl,by simpa using hr 1 _ rfl⟩
    obtain ⟨A,ka,oa,ca,rfl,hA1,hA2,hA3,hA4,hA5⟩:=box_row r h1 (fun e=>by subst e;simp at hn;omega) hY1
    obtain ⟨B,kb,ob,cb,rfl,hB1,hB2,hB3,hB4,hB5⟩:=box_row r h2 (fun e=>by subst e;simp at hds;omega) hY2
    rw [hn] at hA3 hA4
    rw [hds] at hB3 hB4
    rcases c2 with ⟨_,_,_,hz⟩|⟨q,hq,ha,hrow⟩
    · omega
    rcases ha with hz|rfl
    · omega
    rcases r.arr _ _ _ _ hb with ⟨hz,_⟩|⟨k',c,el,q1,q2,q3,q4,q5⟩
    · rw [hz] at hq;cases hq
    rw [hq] at q1;cases q1
    have hfl:∀ l:List Nat,flatV (l.map fun (i:Nat)=>V.g (.i i))=l.map fun (i:Nat)=>V.g (.i i):=fun l=>by
      have:=flat_ints (l.map fun (i:Nat)=>(i:Int))
      simpa [List.map_map,Function.comp_def] using this
    have hcell:∀ j (hj:j < n),c[j]?=some (.int .i64 (j:Nat)):=fun j hj=>by
      obtain ⟨x,x1,_,x3⟩:=q5 j (V.g (.i (j:Nat))) (by rw [hfl];simp [hj])
      have:=rv_sc x3;subst this;exact x1
    have hcs:n≤c.size:=by simpa using q4
    let ix:Nat→Nat:=fun i=>if i < n then i else 0
    have hix:∀ i,ix i < n:=fun i=>by simp only [ix];split <;> omega
    have hixr:∀ {i},i < n→ix i=i:=fun {i} h=>by simp only [ix,if_pos h]
    let enc:Nat→Value:=fun i=>.int .i64 (ix i:Nat)
    have hOne:OneCell enc:=fun _=>rfl
    let cf':Nat→Nat→Int:=fun x y=>cf (ix x) (ix y)
    have hO':SWO (ltOf cf'):=⟨fun x=>hO.irrefl _,fun x y z=>hO.trans _ _ _,fun x y z=>hO.ntrans _ _ _⟩
    have hd:(Array.range n).size=n:=by simp
    have hH:Holds enc w q (0*1) (Array.range n):=fun j hj=>by
      have hj':j < n:=by simpa using hj
      have e1:(Array.range n)[j]! = j:=by rw [getElem!_pos (Array.range n) j hj];simp
      refine ⟨?_,by simp [World.frozen?,q2]⟩
      rw [e1]
      simp [World.cell?,q2,hcell j hj',enc,hixr hj']
    have hcmp:CmpLays1 P g #[.pointer (some A),.pointer (some B)] enc cf' q (0*1) (Array.range n).size w:=fun m os dk _ x y=>by
      have oth:∀ a:Addr,a.block≠q→a.block < w.heap.size→(sortWorld enc w q (0*1) m dk os).cell? a=w.cell? a:=fun a h1 h2=>by
        unfold sortWorld
        rw [cell?_grow _ _ _ (by rw [Go.Sort.size_putRow];exact h2),cell?_putRow_other enc _ q (0*1) dk a (Or.inl h1)]
        rfl
      have nA:A.block≠q:=fun e=>by rw [e] at hA1;exact hb1 (r.inj _ _ _ hq hA1)
      have nB:B.block≠q:=fun e=>by rw [e] at hB1;exact hb2 (r.inj _ _ _ hq hB1)
      have lA:A.block < w.heap.size:=(r.off _ _ hA1).2
      have lB:B.block < w.heap.size:=(r.off _ _ hB1).2
      have na:ka≠q:=fun e=>by rw [e] at hA2;exact (r.off _ _ hq).1 hA2
      have nb:kb≠q:=fun e=>by rw [e] at hB2;exact (r.off _ _ hq).1 hB2
      have:=hc A B (sortWorld enc w q (0*1) m dk os) ka oa kb ob ca cb (by rw [oth A nA lA];exact hA3) (by rw [oth B nB lB];exact hB3) hA4 hB4
        (fun i x hx=>by rw [oth _ na (r.immlt hA2)];exact hA5 i x hx) (fun i x hx=>by rw [oth _ nb (r.immlt hB2)];exact hB5 i x hx) (ix x) (ix y) (hix x) (hix y)
      exact this
    subst hf
    have key:=Any.slices_SortFunc L enc hOne cf' hO' g #[.pointer (some A),.pointer (some B)] q (0*1) cap (Array.range n) w eg hcmp hH (heap_lt q2) (by rw [hd];exact hl)
    rw [hd] at key
    refine key.mono ?_
    rintro e w' ⟨rfl,d',m,os,hp,hs,rfl⟩
    obtain ⟨p1,_,p3⟩:=hp
    rw [hd] at p1
    have hdl:d'.toList.length=n:=by simpa using p1
    have hperm:d'.toList.Perm (List.range n):=by
      have e1:(d'.extract 0 n).toList=d'.toList:=by rw [← p1,Array.extract_size]
      have e2:((Array.range n).extract 0 n).toList=List.range n:=by
        have:(Array.range n).extract 0 n=Array.range n:=by
          conv=>lhs;rw [show n=(Array.range n).size from hd.symm]
          simp
        rw [this];simp
      rw [e1,e2] at p3;exact p3
    have hlt:∀ x∈d'.toList,x < n:=fun x hx=>by simpa using hperm.mem_iff.1 hx
    refine ⟨.tu [],_,H.set b (.arr g0 1 (d'.toList.map fun (i:Nat)=>V.g (.i i))),γ,I,rfl,⟨rfl,d'.toList,hperm,?_,rfl⟩,?_⟩
    · rw [List.pairwise_iff_getElem]
      intro i j hi hj hij
      have:=hs i j (Nat.zero_le _) hij (by simp only [Array.length_toList] at hj;omega)
      simp only [Array.length_toList] at hi hj
      rw [getElem!_pos d' i hi,getElem!_pos d' j hj] at this
      simpa [cf'] using this
    · unfold sortWorld
      rw [putRow_ahead,putRow_setB q2]
      obtain ⟨u1,u2⟩:=upd_ok (es':=d'.toList.map fun (i:Nat)=>V.g (.i i)) (c':=putCells enc (0*1) d' c) r hb hq q2 (by simp [putCells]) (Nat.le_refl _) (fun _=>by simp [p1])
        (fun e he=>by obtain ⟨x,_,rfl⟩:=List.mem_map.1 he;rfl) (by simp [p1];omega) (fun j v hj=>by
          rw [hfl] at hj
          have hjl:j < d'.toList.length:=by have:=lt_of_get hj;simpa using this
          have hjn:j < n:=by omega
          rw [List.getElem?_map,List.getElem?_eq_getElem hjl] at hj
          simp only [Option.map_some,Option.some.injEq] at hj;subst hj
          refine ⟨.int .i64 (d'.toList[j]:Nat),?_,rfl,.g (.sc rfl)⟩
          have h3:j < c.size:=by omega
          have h4:j < d'.size:=by omega
          have h5:=hlt _ (List.getElem_mem hjl)
          simp only [Array.getElem_toList] at h5 ⊢
          simp [putCells,h3,h4,enc,hixr h5])
      obtain ⟨a1,a2⟩:=ahead_ok u1 m
      obtain ⟨g1,g2⟩:=grow_ok a1 os
      exact ⟨g1,htu,(u2.trans a2).trans g2⟩
end
end Go.Aw
namespace Go.Aw
section
variable {γ:List (Option Nat)} {I:Nat→Prop}
theorem leaves_marksU {P:Program} {fn:Func} {tmps:Array Value} {R:Ending→World→Prop} {lo:Nat} {u:FrameMode} (hu:u≠.run):∀ (Ds:List Nat) (w:World),Ds.Nodup→(∀ D∈Ds,D < w.heap.size∧w.heap[D]?=some (.deferred (some []))∧¬ I D∧∀ b:Nat,γ[b]?≠some (some D)) →
    (∀ D∈Ds,lo≤D)→(∀ w',ButD γ I lo w w'→LeavesIn Fence.wide 0 P fn tmps R [] u w')→LeavesInM Fence.wide 0 P fn tmps R (Ds.map mkD) u w
  | [],w,_,_,_,h=>h w ⟨rfl,rfl,rfl,rfl,fun _=>.inl rfl⟩
  | D::Ds,w,hn,hD,hlo,h=>by
    obtain ⟨d1,d2,d3,d4⟩:=hD D (by simp)
    rw [List.nodup_cons] at hn
    have hoth:∀ k,k≠D→(w.putObj D (.deferred none)).heap[k]?=w.heap[k]?:=fun k hk=>by
      simp only [World.putObj,Array.getElem?_setIfInBounds];rw [if_neg (fun e=>hk e.symm)]
    have hsz:(w.putObj D (.deferred none)).heap.size=w.heap.size:=by simp [World.putObj]
    refine ⟨hu,.inl ⟨D,_,rfl,run_takeDeferred d2,leaves_marksU hu Ds _ hn.2 (fun D' hD'=>?_) (fun D' hD'=>hlo D' (by simp [hD'])) fun w' hw'=>h w' ?_⟩⟩
    · have hne:D'≠D:=fun e=>hn.1 (e▸hD')
      obtain ⟨a,b,c,d⟩:=hD D' (by simp [hD'])
      exact ⟨by rw [hsz];exact a,by rw [hoth D' hne];exact b,c,d⟩
    · refine ⟨hw'.os,hw'.tape,hw'.output,by rw [hw'.size,hsz],fun k=>?_⟩
      by_cases hk:k=D
      · subst hk;exact .inr ⟨hlo k (by simp),d2,d3,d4⟩
      · rcases hw'.heap k with h1|h1
        · exact .inl (by rw [h1,hoth k hk])
        · rw [hoth k hk] at h1;exact .inr h1
end
def EndP (P:Prg) (H:List Blk) (R:V→List Blk→Prop) (ts:List Nat) (e:Exit) (s':St):Prop:=match e with
  | .ret|.normal=>Ends H R (retV ts s'.t) s'.h
  | .panic ch=>∃ c,ch=[{ v:=P.pv c,recovered:=false }]∧P.pq c s'.h
  | _=>False
theorem PCalls.of_body {P:Prg} {f:Nat} {fn:Func} {c:Code} {args:List V} {H:List Blk} {R:V→List Blk→Prop} (ts:List Nat)
    (hf:P.funcs[f]?=some fn) (hnm:(fn.name == "runtime.NumGoroutine")=false) (hb:fn.body=some c) (hres:fn.results=(ts.map ResultVar.tmp).toArray)
    (h:AW H.length P.toProgram c (EndP P H R ts) ⟨args++List.replicate (fn.ntmps-args.length) .any,H⟩) :
    PCalls P f args H R:=by
  refine ⟨⟨fn,hf,hnm,by rw [hb];rfl⟩,?_⟩
  intro γ I w vs r hl hv
  refine callsIn_wide.1 (callsIn_of_wp_marks (F:=Fence.wide) (n:=0) hf hb trivial (wpIn_wide.2 (wp_mono (h γ I w _ ⟨.none,?_,?_,r⟩) ?_)))
  · simp [hl]
  · intro i v hi
    rcases Nat.lt_or_ge i args.length with hlt|hge
    · rw [List.getElem?_append_left hlt] at hi
      have:=hv i v hi
      have e:(vs.toArray++Array.replicate (fn.ntmps-vs.toArray.size) undef).getD i undef=vs.getD i undef:=by
        simp [Array.getElem?_append,hl,hlt]
      rw [e];exact this
    · rw [List.getElem?_append_right hge] at hi
      rw [List.getElem?_replicate] at hi
      split at hi
      · cases hi;exact .any
      · simp at hi
  · intro e a' w' ⟨s',γ',I',q,r',x1,nd⟩
    have x':=x1.full
    obtain ⟨Ds,e1,hlo⟩:=nd
    obtain ⟨e2,e3⟩:=(show Inert γ' I' w' (Ds.map mkD++[]) from e1▸r'.defers).ex
    simp only [List.append_nil] at e1
    have hret:∀ (_:Ends H R (retV ts s'.t) s'.h),LeavesInM Fence.wide 0 P fn a'.tmps (fun e w'=>(∃ r x H' γ' I',e=.returned x∧R r H'∧RelH γ' I' w' H'∧RV γ' H' I' w' r x∧Ext γ H I w γ' H' I' w') ∨
      ∃ c H' γ' I',e=.panicked [{ v:=P.pv c,recovered:=false }]∧P.pq c H'∧RelH γ' I' w' H'∧Ext γ H I w γ' H' I' w') a'.defers .returning w':=by
      intro he
      have hrv:RV γ' s'.h I' w' (retV ts s'.t) (retC ts a'.tmps):=by
        have one:∀ t,RV γ' s'.h I' w' (s'.t.getD t .any) (a'.tmps.getD t undef):=by
          intro t
          cases ht:s'.t[t]? with
          | none=>rw [List.getD_eq_getElem?_getD,ht];exact .any
          | some v=>rw [getD_eq ht];exact r'.tmps t v ht
        have many:RV γ' s'.h I' w' (.tu (ts.map (s'.t.getD · .any))) (.tuple (ts.map (a'.tmps.getD · undef)).toArray):=by
          refine .tu (by simp) (fun i t ht=>?_)
          rw [List.getElem?_map] at ht
          cases hi:ts[i]? with
          | none=>rw [hi] at ht;simp at ht
          | some y =>
            rw [hi] at ht;simp only [Option.map_some,Option.some.injEq] at ht;subst ht
            have:(ts.map (a'.tmps.getD · undef)).getD i undef=a'.tmps.getD y undef:=by
              rw [List.getD_eq_getElem?_getD,List.getElem?_map,hi];rfl
            rw [this];exact one y
        match ts with
        | []=>exact many
        | [t]=>exact one t
        | _::_::_=>exact many
      rw [e1]
      refine leaves_marksU (γ:=γ') (I:=I') (lo:=w.heap.size) (by simp) Ds w' e2 e3 hlo fun w2 hw=>?_
      obtain ⟨r1,H1,γ1,I1,k1,k2,k3,k4⟩:=he γ I w γ' I' w2 _ r (hw.rel r'.heap) (hw.rv hrv) (hw.ext x')
      exact ⟨_,results_ts hres _ _ _,.inl ⟨r1,_,H1,γ1,I1,rfl,k1,k2,k3,k4⟩⟩
    cases e with
    | ret=>exact hret q
    | normal=>exact hret q
    | panic ch =>
      obtain ⟨c,rfl,hc⟩:=q
      show LeavesInM Fence.wide 0 P fn a'.tmps _ a'.defers (.panicking _) w'
      rw [e1]
      refine leaves_marksU (γ:=γ') (I:=I') (lo:=w.heap.size) (by simp) Ds w' e2 e3 hlo fun w2 hw=>?_
      exact .inr ⟨c,s'.h,γ',I',rfl,hc,hw.rel r'.heap,hw.ext x'⟩
    | _=>exact q.elim
def DoneP (P:Prg) (H:List Blk) (R:V→List Blk→Prop) (ts:List Nat) (e:Exit) (t:List V) (h:List Blk):Prop :=
  match e with
  | .ret|.normal=>retF ts t fun v=>forceH h fun h=>Fin H R v h
  | .panic ch=>∃ c,ch=[{ v:=P.pv c,recovered:=false }]∧P.pq c h
  | _=>False
theorem Fn.pcalls {P:Prg} {wf:Nat} {f nt:Nat} {ts:List Nat} {sc:SC} (h:Fn P.toProgram wf f nt ts sc) {args:List V} {H:List Blk} {R:V→List Blk→Prop}
    (k:forceT (args++List.replicate (nt-args.length) .any) fun t=>AC H.length P sc (DoneP P H R ts) t H):PCalls P f args H R:=by
  rw [forceT_eq] at k
  obtain ⟨fn,h1,h2,h3,h4,rfl⟩:=h
  obtain ⟨c,hb,hs⟩:=Option.bind_eq_some_iff.1 h3
  refine PCalls.of_body ts h1 h2 hb h4 ((AC_ok (sc:=sc) (s:=⟨args++List.replicate (fn.ntmps-args.length) .any,H⟩) (fun c t h k=>⟨c,rfl,k⟩) hs k).mono fun e s' q=>?_)
  cases e <;> first|exact Done.ok q|exact q
theorem PCalls.up {P:Program} {pv:Int→Value} {q q':Int→List Blk→Prop} {f:Nat} {args:List V} {H:List Blk} {R:V→List Blk→Prop} (h:PCalls { P with pv:=pv,pq:=q } f args H R) (hq:∀ c h,q c h→q' c h):PCalls { P with pv:=pv,pq:=q' } f args H R :=
  ⟨h.1,fun γ I w vs r hl hv=>(h.2 γ I w vs r hl hv).mono fun _ _ k=>k.imp id fun ⟨c,H',γ',I',h1,h2,h3⟩=>⟨c,H',γ',I',h1,hq c _ h2,h3⟩⟩
end Go.Aw
namespace Go.Aw
section
variable {γ:List (Option Nat)} {I:Nat→Prop}
theorem leaves_marksT {P:Program} {fn:Func} {tmps:Array Value} {R:Ending→World→Prop} {lo:Nat} {u:FrameMode} {ds:List Deferred} (hu:u≠.run):∀ (Ds:List Nat) (w:World),Ds.Nodup→(∀ D∈Ds,D < w.heap.size∧w.heap[D]?=some (.deferred (some []))∧¬ I D∧∀ b:Nat,γ[b]?≠some (some D)) →
    (∀ D∈Ds,lo≤D)→(∀ w',ButD γ I lo w w'→LeavesInM Fence.wide 0 P fn tmps R ds u w')→LeavesInM Fence.wide 0 P fn tmps R (Ds.map mkD++ds) u w
  | [],w,_,_,_,h=>h w ⟨rfl,rfl,rfl,rfl,fun _=>.inl rfl⟩
  | D::Ds,w,hn,hD,hlo,h=>by
    obtain ⟨d1,d2,d3,d4⟩:=hD D (by simp)
    rw [List.nodup_cons] at hn
    have hoth:∀ k,k≠D→(w.putObj D (.deferred none)).heap[k]?=w.heap[k]?:=fun k hk=>by
      simp only [World.putObj,Array.getElem?_setIfInBounds];rw [if_neg (fun e=>hk e.symm)]
    have hsz:(w.putObj D (.deferred none)).heap.size=w.heap.size:=by simp [World.putObj]
    refine ⟨hu,.inl ⟨D,_,rfl,run_takeDeferred d2,leaves_marksT hu Ds _ hn.2 (fun D' hD'=>?_) (fun D' hD'=>hlo D' (by simp [hD'])) fun w' hw'=>h w' ?_⟩⟩
    · have hne:D'≠D:=fun e=>hn.1 (e▸hD')
      obtain ⟨a,b,c,d⟩:=hD D' (by simp [hD'])
      exact ⟨by rw [hsz];exact a,by rw [hoth D' hne];exact b,c,d⟩
    · refine ⟨hw'.os,hw'.tape,hw'.output,by rw [hw'.size,hsz],fun k=>?_⟩
      by_cases hk:k=D
      · subst hk;exact .inr ⟨hlo k (by simp),d2,d3,d4⟩
      · rcases hw'.heap k with h1|h1
        · exact .inl (by rw [h1,hoth k hk])
        · rw [hoth k hk] at h1;exact .inr h1
end
def DIdle (P:Program) (f n:Nat):Prop:=∀ (w:World) (vs:List Value),vs.length=n→CallsDIn Fence.wide 0 P f vs.toArray .returning w fun e u' w'=>(∃ x,e=.returned x)∧u'=.returning∧w'=w
def DCalls (P:Prg) (f:Nat) (args:List V) (H:List Blk) (c:Int) (R:List Blk→Prop):Prop :=
  ∀ (γ:List (Option Nat)) (I:Nat→Prop) (w:World) (vs:List Value),RelH γ I w H→vs.length=args.length→(∀ (i:Nat) (v:V),args[i]?=some v→RV γ H I w v (vs.getD i undef)) →
    CallsDIn Fence.wide 0 P.toProgram f vs.toArray (.panicking [{ v:=P.pv c,recovered:=false }]) w fun e u' w'=>(∃ x,e=.returned x)∧u'=.panicking [{ v:=P.pv c,recovered:=true }] ∧
      ∃ H' γ' I',R H'∧RelH γ' I' w' H'∧Ext γ H I w γ' H' I' w'
theorem reg_raw {P:Program} {wf id:Nat} {ops:Array Oper} {os:List SOp} {Q:List V→List Blk→Prop} {s:St} {a:Act} {γ:List (Option Nat)} {I:Nat→Prop} {w:World} (hs:slimC P wf (.region id ops true)=some (.reg os))
    (r:Rel γ I w s a) (h:AX (npP P) os Q s.t s.h):(Code.region id ops true).wp P (fun e a' w'=>e=.normal∧a'.defers=a.defers∧∃ s' γ' I',Q s'.t s'.h∧Rel γ' I' w' s' a'∧Ext γ s.h I w γ' s'.h I' w') a w:=by
  obtain ⟨sl,h1,hs⟩:=Option.bind_eq_some_iff.1 hs
  obtain ⟨os',h2,hs⟩:=Option.map_eq_some_iff.1 hs
  cases hs
  exact drawn_ok (P:=npP P) (optL_forall h1) h2 r (fun c s' γ' I' w' a' k1 _ _ _=>k1.elim) h fun s' γ' I' w' a' q r' e d=>⟨rfl,d,s',γ',I',q,r',e⟩
def dfr (fd:Nat) (xs:List Value):Deferred:={ target:=.fn (.func fd) xs.toArray,args:=#[] }
theorem ACalls.of_defer {P:Prg} {f fd:Nat} {fn:Func} {c0 cd c2:Code} {args:List V} {H:List Blk} {R:V→List Blk→Prop} (rs:List RX) (t6:Nat) (caps:List Nat)
    (hf:P.funcs[f]?=some fn) (hnm:(fn.name == "runtime.NumGoroutine")=false) (hb:fn.body=some (c0.seq (cd.seq c2))) (hres:optL (fn.results.toList.map (slimR P))=some rs)
    (hinv:∀ (w:World) (xs:List Value),(invoke (.fn (.func fd) xs.toArray) #[]).run P.toProgram w=.ok (.enter fd xs.toArray) w)
    (hcd:∀ (a:Act) (w:World),t6 < a.tmps.size→cd.wp P.toProgram (fun e a' w'=>e=.normal∧w'=w∧a'=⟨a.tmps.setIfInBounds t6 (.func (.func fd) #[] (caps.map (a.tmps.getD · undef)).toArray),dfr fd (caps.map (a.tmps.getD · undef))::a.defers⟩) a w)
    (h:AW H.length P.toProgram c0 (fun e s1=>e=.normal∧t6 < s1.t.length ∧
      AW s1.h.length P.toProgram c2 (fun e s3=>match e with
        | .ret|.normal=>DIdle P.toProgram fd caps.length∧retG rs s3.t s3.h fun v=>Ends H R v s3.h
        | .panic ch=>∃ c,ch=[{ v:=P.pv c,recovered:=false }]∧DCalls P fd (caps.map (getT s1.t)) s3.h c fun h4=>retG rs s3.t h4 fun v=>Ends H R v h4
        | _=>False) ⟨setT s1.t t6 (.fn fd (caps.map (getT s1.t))),s1.h⟩) ⟨args++List.replicate (fn.ntmps-args.length) .any,H⟩) :
    ACalls P.toProgram f args H R:=by
  refine ⟨⟨fn,hf,hnm,by rw [hb];rfl⟩,?_⟩
  intro γ I w vs r hl hv
  refine callsIn_wide.1 (callsIn_of_wp_marks (F:=Fence.wide) (n:=0) hf hb trivial (wpIn_wide.2 ?_))
  refine wp_seq (wp_mono (h γ I w _ ⟨.none,?_,?_,r⟩) ?_)
  · simp [hl]
  · intro i v hi
    rcases Nat.lt_or_ge i args.length with hlt|hge
    · rw [List.getElem?_append_left hlt] at hi
      have:=hv i v hi
      have e:(vs.toArray++Array.replicate (fn.ntmps-vs.toArray.size) undef).getD i undef=vs.getD i undef:=by
        simp [Array.getElem?_append,hl,hlt]
      rw [e];exact this
    · rw [List.getElem?_append_right hge] at hi
      rw [List.getElem?_replicate] at hi
      split at hi
      · cases hi;exact .any
      · simp at hi
  rintro e a1 w1 ⟨s1,γ1,I1,⟨rfl,ht6,h2⟩,r1,x1,Ds1,e1,hlo1⟩
  have x1:=x1.full
  simp only [List.append_nil] at e1
  refine wp_seq (wp_mono (hcd a1 w1 (by rw [r1.size];exact ht6)) ?_)
  rintro e a2 w2 ⟨rfl,rfl,rfl⟩
  have hcap:∀ (i:Nat) (v:V),(caps.map (getT s1.t))[i]?=some v→RV γ1 s1.h I1 w2 v ((caps.map (a1.tmps.getD · undef)).getD i undef):=fun i v hi=>by
    rw [List.getElem?_map] at hi
    obtain ⟨n,hn,rfl⟩:=Option.map_eq_some_iff.1 hi
    have:(caps.map (a1.tmps.getD · undef)).getD i undef=a1.tmps.getD n undef:=by
      rw [List.getD_eq_getElem?_getD,List.getElem?_map,hn];rfl
    rw [this]
    exact getT_rv r1.tmps n
  have hcl:(caps.map (a1.tmps.getD · undef)).length=(caps.map (getT s1.t)).length:=by simp
  generalize hxs:caps.map (a1.tmps.getD · undef)=xs at hcap hcl ⊢
  have r2:Rel γ1 I1 w2 ⟨setT s1.t t6 (.fn fd (caps.map (getT s1.t))),s1.h⟩ ⟨a1.tmps.setIfInBounds t6 (.func (.func fd) #[] xs.toArray),dfr fd xs::a1.defers⟩:=by
    refine ⟨⟨?_,?_⟩,?_,?_,r1.heap⟩
    · exact r1.defers.nodup
    · exact r1.defers.ok
    · simp [setT_eq,r1.size]
    · intro i v hi
      have hi:(setT s1.t t6 (.fn fd (caps.map (getT s1.t))))[i]?=some v:=hi
      rw [setT_eq,List.getElem?_set] at hi
      have hsz:t6 < a1.tmps.size:=by rw [r1.size];exact ht6
      by_cases he:t6=i
      · subst he
        rw [if_pos rfl,if_pos ht6] at hi
        cases hi
        have:(a1.tmps.setIfInBounds t6 (.func (.func fd) #[] xs.toArray)).getD t6 undef=.func (.func fd) #[] xs.toArray:=by simp [hsz]
        rw [this]
        exact .fn hcl hcap
      · rw [if_neg he] at hi
        have:(a1.tmps.setIfInBounds t6 (.func (.func fd) #[] xs.toArray)).getD i undef=a1.tmps.getD i undef:=by simp [he]
        rw [this]
        exact r1.tmps i v hi
  refine wp_mono (h2 γ1 I1 w2 _ r2) ?_
  rintro e a3 w3 ⟨s3,γ3,I3,q,r3,x3,Ds3,e3,hlo3⟩
  have x3:Ext γ1 s1.h I1 w2 γ3 s3.h I3 w3:=x3.full
  have hin1:=r1.defers
  rw [e1] at hin1
  obtain ⟨n1,m1⟩:=(show Inert γ1 I1 w2 (Ds1.map mkD++[]) by simpa using hin1).ex
  have hsub3:Inert γ3 I3 w3 (Ds3.map mkD++(dfr fd xs::a1.defers)):=by rw [← e3];exact r3.defers
  obtain ⟨n3,m3⟩:=hsub3.ex
  have tail:∀ w4,ButD γ3 I3 w2.heap.size w3 w4→∀ u,u≠.run →
      CallsDIn Fence.wide 0 P.toProgram fd xs.toArray u w4 (fun e u' w'=>(∃ x,e=.returned x)∧settle u'=.returning∧∃ h5 γ5 I5,RelH γ5 I5 w' h5∧Ext γ3 s3.h I3 w4 γ5 h5 I5 w'∧retG rs s3.t h5 fun v=>Ends H R v h5) →
      LeavesInM Fence.wide 0 P.toProgram fn a3.tmps (fun e w'=>∃ r x H' γ' I',e=.returned x∧R r H'∧RelH γ' I' w' H'∧RV γ' H' I' w' r x∧Ext γ H I w γ' H' I' w') (dfr fd xs::a1.defers) u w4:=by
    intro w4 hw4 u hu hc
    refine ⟨hu,.inr ⟨by simp [Fence.wide],.func fd,xs.toArray,fd,xs.toArray,rfl,hinv w4 xs,fun _ _=>trivial,?_⟩⟩
    refine hc.mono ?_
    rintro e u' w5 ⟨⟨x,rfl⟩,hs,h5,γ5,I5,k1,k2,k3⟩
    show LeavesInM Fence.wide 0 P.toProgram fn a3.tmps _ a1.defers (settle u') w5
    rw [hs,e1]
    have hr4:=hw4.rel r3.heap
    have m5:∀ D∈Ds1,D < w5.heap.size∧w5.heap[D]?=some (.deferred (some []))∧¬ I5 D∧∀ b:Nat,γ5[b]?≠some (some D):=by
      intro D hD
      have i3:Inert γ3 I3 w3 (Ds1.map mkD):=by
        have:=(show Inert γ1 I1 w2 (Ds1.map mkD) from hin1).ext x3
        exact this
      have i4:Inert γ3 I3 w4 (Ds1.map mkD):=by
        refine ⟨i3.nodup,fun D hD=>?_⟩
        obtain ⟨a,b,c,d⟩:=i3.ok D hD
        refine ⟨by rw [hw4.size];exact a,?_,c,d⟩
        rcases hw4.heap D with h1|h1
        · rw [h1];exact b
        · rw [marks_of] at hD
          have:=(m1 D hD).1
          omega
      have i5:Inert γ5 I5 w5 (Ds1.map mkD):=i4.ext k2
      have:=(show Inert γ5 I5 w5 (Ds1.map mkD++[]) by simpa using i5).ex
      exact this.2 D hD
    refine leaves_marks (γ:=γ5) (I:=I5) (lo:=w.heap.size) Ds1 w5 n1 m5 hlo1 fun w6 hw6=>?_
    have hext:Ext γ H I w γ5 h5 I5 w5:=(x1.trans (hw4.ext x3)).trans k2
    have ht:∀ (i:Nat) (v:V),s3.t[i]?=some v→RV γ5 h5 I5 w5 v (a3.tmps.getD i undef):=fun i v hi=>(hw4.rv (r3.tmps i v hi)).mono k2 hr4
    obtain ⟨v,z,q1,q2,q3⟩:=retG_ok (w:=w6) (γ:=γ5) (H:=h5) (I:=I5) (a:=a3.tmps) hres (hw6.rel k1) (fun i u hu=>hw6.rv (ht i u hu)) k3
    obtain ⟨r9,H9,γ9,I9,j1,j2,j3,j4⟩:=q3 γ I w γ5 I5 w6 _ r (hw6.rel k1) q2 (hw6.ext hext)
    exact ⟨_,q1,r9,_,H9,γ9,I9,rfl,j1,j2,j3,j4⟩
  have done:∀ u:FrameMode,u≠.run→(∀ w4,ButD γ3 I3 w2.heap.size w3 w4→CallsDIn Fence.wide 0 P.toProgram fd xs.toArray u w4 (fun e u' w'=>(∃ x,e=.returned x)∧settle u'=.returning∧∃ h5 γ5 I5,RelH γ5 I5 w' h5∧Ext γ3 s3.h I3 w4 γ5 h5 I5 w'∧retG rs s3.t h5 fun v=>Ends H R v h5)) →
      LeavesInM Fence.wide 0 P.toProgram fn a3.tmps (fun e w'=>∃ r x H' γ' I',e=.returned x∧R r H'∧RelH γ' I' w' H'∧RV γ' H' I' w' r x∧Ext γ H I w γ' H' I' w') a3.defers u w3:=by
    intro u hu hc
    rw [e3]
    exact leaves_marksT (γ:=γ3) (I:=I3) (lo:=w2.heap.size) hu Ds3 w3 n3 m3 hlo3 fun w4 hw4=>tail w4 hw4 u hu (hc w4 hw4)
  have hxl:xs.length=caps.length:=by rw [hcl];simp
  cases e with
  | ret =>
    refine done .returning (by simp) fun w4 hw4=>(q.1 w4 xs hxl).mono ?_
    rintro e u' w5 ⟨hx,rfl,rfl⟩
    exact ⟨hx,rfl,s3.h,γ3,I3,hw4.rel r3.heap,Ext.refl ..,q.2⟩
  | normal =>
    refine done .returning (by simp) fun w4 hw4=>(q.1 w4 xs hxl).mono ?_
    rintro e u' w5 ⟨hx,rfl,rfl⟩
    exact ⟨hx,rfl,s3.h,γ3,I3,hw4.rel r3.heap,Ext.refl ..,q.2⟩
  | panic ch =>
    obtain ⟨c,rfl,hc⟩:=q
    refine done (.panicking _) (by simp) fun w4 hw4=>(hc γ3 I3 w4 xs (hw4.rel r3.heap) hcl fun i v hi=>hw4.rv ((hcap i v hi).mono x3 r1.heap)).mono ?_
    rintro e u' w5 ⟨hx,rfl,h5,γ5,I5,k1,k2,k3⟩
    exact ⟨hx,rfl,h5,γ5,I5,k2,k3,k1⟩
  | _=>exact q.elim
end Go.Aw
namespace Go.Aw
section
variable {γ:List (Option Nat)} {H:List Blk} {I:Nat→Prop} {w:World} {n d:Nat}
inductive Cv (n:Nat) (H:List Blk) (d:Nat):V→V→Prop where
  | same {v:V}:Cv n H d v v
  | gd {v v':V} (h:grV n H d v=some v'):Cv n H d v v'
  | ag {cs cs':List V} (hl:cs'.length=cs.length) (h:∀ (i:Nat) (c c':V),cs[i]?=some c→cs'[i]?=some c'→Cv n H d c c'):Cv n H d (.ag cs) (.ag cs')
  | fn {f:Nat} {cs cs':List V} (hl:cs'.length=cs.length) (h:∀ (i:Nat) (c c':V),cs[i]?=some c→cs'[i]?=some c'→Cv n H d c c'):Cv n H d (.fn f cs) (.fn f cs')
theorem Cv.own {v:V} {t:T} (h:gr n H d v=some t):Cv n H d v (.g t):=by
  cases v with
  | pa=>cases d <;> simp [gr] at h
  | ra=>cases d <;> simp [gr] at h
  | any=>cases d <;> simp [gr] at h
  | _=>exact .gd (by simp [grV,h])
theorem Cv.ok {H2:List Blk} {γ2:List (Option Nat)} (r:RelH γ I w H) (hx:Ext γ H I w γ2 H2 (frz I γ H n) w) {v v':V} (h:Cv n H d v v'):∀ {x:Value},RV γ H I w v x→RV γ2 H2 (frz I γ H n) w v' x:=by
  induction h with
  | same=>exact fun hv=>hv.mono hx r
  | gd h=>exact fun hv=>grV_ok r (fun k hk=>.inl hk) (fun b k g sz es h1 h2 h3=>.inr ⟨b,g,sz,es,h1,h2,h3⟩) h hv
  | @ag cs cs' hl h ih =>
    intro x hv
    cases hv with
    | ag hl2 h1 hr =>
      refine .ag (by omega) h1 fun i t ht=>?_
      cases hc:cs[i]? with
      | none=>have:=List.getElem?_eq_none_iff.1 hc;have:=lt_of_get ht;omega
      | some c=>exact ih i c t hc ht (hr i c hc)
  | @fn f cs cs' hl h ih =>
    intro x hv
    cases hv with
    | fn hl2 hr =>
      refine .fn (by omega) fun i t ht=>?_
      cases hc:cs[i]? with
      | none=>have:=List.getElem?_eq_none_iff.1 hc;have:=lt_of_get ht;omega
      | some c=>exact ih i c t hc ht (hr i c hc)
def CvB (n:Nat) (H:List Blk) (d:Nat) (x x':Blk):Prop:=x'=x∨∃ g sz es es',x=.arr g sz es∧x'=.arr g sz es'∧es'.length=es.length∧(∀ e∈es',e.cells.length=sz)∧∀ (j:Nat) (v':V),(flatV es')[j]?=some v'→∃ v,(flatV es)[j]?=some v∧Cv n H d v v'
theorem cut_ok2 {A A' L:List Blk} (r:RelH γ I w (A++L)) (hm:noMp (A++L)) (hl:A'.length=A.length) (hA:∀ (b:Nat) (x x':Blk),A[b]?=some x→A'[b]?=some x'→CvB A.length (A++L) d x x') :
    RelH (killG A.length γ) (frz I γ (A++L) A.length) w (A'++L.map deadB)∧Ext γ (A++L) I w (killG A.length γ) (A'++L.map deadB) (frz I γ (A++L) A.length) w:=by
  obtain ⟨r1,x1⟩:=kill_ok r hm A.length
  have hget:∀ b x',(A'++L.map deadB)[b]?=some x'→(b < A.length∧∃ x,A[b]?=some x∧(A++L)[b]?=some x∧CvB A.length (A++L) d x x')∨(A.length≤b∧(killH A.length (A++L))[b]?=some x'):=by
    intro b x' hx
    rcases Nat.lt_or_ge b A.length with hlt|hge
    · left
      rw [List.getElem?_append_left (by omega)] at hx
      have h1:A[b]?=some (A[b]'hlt):=by simp
      exact ⟨hlt,A[b],h1,by rw [List.getElem?_append_left hlt];exact h1,hA b _ _ h1 hx⟩
    · right
      rw [List.getElem?_append_right (by omega),hl,List.getElem?_map] at hx
      refine ⟨hge,?_⟩
      rw [killH_get,if_neg (by omega),List.getElem?_append_right hge]
      exact hx
  have hx:Ext γ (A++L) I w (killG A.length γ) (A'++L.map deadB) (frz I γ (A++L) A.length) w:=by
    refine ⟨rfl,rfl,rfl,Nat.le_refl _,x1.sub,x1.sub',fun _ _ _=>rfl,fun _ _ h=>h,fun b x hb=>?_,x1.new⟩
    rcases Nat.lt_or_ge b A.length with hlt|hge
    · have h1:A'[b]?=some (A'[b]'(by omega)):=by simp
      have hb':=hb
      rw [List.getElem?_append_left hlt] at hb'
      refine ⟨A'[b]'(by omega),by rw [List.getElem?_append_left (by omega)];exact h1,?_⟩
      rcases hA b x _ hb' h1 with e|⟨g,sz,es,es',rfl,e2,e3,_⟩
      · rw [e]
        exact ⟨x.upto_refl,fun _=>⟨by rw [killG_get,if_pos hlt],fun g sz es es' h1 h2=>by subst h1;cases h2;exact Nat.le_refl _⟩⟩
      · rw [e2]
        exact ⟨⟨Nat.le_refl _,rfl⟩,fun _=>⟨by rw [killG_get,if_pos hlt],fun g1 s1 e1 e4 h1 h2=>by cases h1;cases h2;omega⟩⟩
    · obtain ⟨x',h1,h2⟩:=x1.blk b x hb
      refine ⟨x',?_,h2⟩
      rw [killH_get,if_neg (by omega),List.getElem?_append_right hge] at h1
      rw [List.getElem?_append_right (by omega),hl,List.getElem?_map];exact h1
  have old:∀ b x,b < A.length→(A++L)[b]?=some x→(killH A.length (A++L))[b]?=some x:=fun b x h1 h2=>by rw [killH_get,if_pos h1];exact h2
  refine ⟨⟨?_,fun b g sz es hb=>?_,fun b kvs hb=>?_,r1.inj,r1.off,r1.imm⟩,hx⟩
  · have:=r1.len;rw [killH_len] at this;simp at this ⊢;omega
  · rcases hget b _ hb with ⟨hlt,x,hx1,hx2,hc⟩|⟨hge,hk⟩
    · have hg:(killG A.length γ)[b]?=γ[b]?:=by rw [killG_get,if_pos hlt]
      rcases hc with rfl|⟨g2,sz2,es2,es',rfl,e2,e3,e4,e5⟩
      · rcases r.arr b g sz es hx2 with ⟨h1,h2⟩|⟨k,c,el,h1,h2,h3,h4,h5⟩
        · exact .inl ⟨by rw [hg];exact h1,h2⟩
        · exact .inr ⟨k,c,el,by rw [hg];exact h1,h2,h3,h4,fun i v hv=>by obtain ⟨x,y1,y2,y3⟩:=h5 i v hv;exact ⟨x,y1,y2,y3.mono hx r⟩⟩
      · cases e2
        rcases r.arr b g sz es2 hx2 with ⟨h1,h2⟩|⟨k,c,el,h1,h2,h3,h4,h5⟩
        · exact .inl ⟨by rw [hg];exact h1,List.eq_nil_of_length_eq_zero (by rw [e3,h2];rfl)⟩
        · refine .inr ⟨k,c,el,by rw [hg];exact h1,h2,e4,by rw [e3];exact h4,fun i v hv=>?_⟩
          obtain ⟨u,hu,hcv⟩:=e5 i v hv
          obtain ⟨x,y1,y2,y3⟩:=h5 i u hu
          exact ⟨x,y1,y2,hcv.ok r hx y3⟩
    · rcases r1.arr b g sz es hk with h|⟨k,c,el,h1,h2,h3,h4,h5⟩
      · exact .inl h
      · rw [killG_get,if_neg (by omega)] at h1
        cases h:γ[b]? <;> rw [h] at h1 <;> simp at h1
  · rcases hget b _ hb with ⟨hlt,x,hx1,hx2,hc⟩|⟨hge,hk⟩
    · rcases hc with rfl|⟨_,_,_,_,_,e2,_⟩
      · exact absurd hx2 (hm b kvs)
      · cases e2
    · exact r1.mp b kvs hk
end
def cvL (n:Nat) (H:List Blk) (d:Nat):List V→List V→Prop
  | [],[]=>True
  | v::vs,v'::vs'=>Cv n H d v v'∧cvL n H d vs vs'
  | _,_=>False
def cvBL (n:Nat) (H:List Blk) (d:Nat):List Blk→List Blk→Prop
  | [],[]=>True
  | v::vs,v'::vs'=>CvB n H d v v'∧cvBL n H d vs vs'
  | _,_=>False
theorem cvL_ok {n:Nat} {H:List Blk} {d:Nat}:∀ {a b:List V},cvL n H d a b→b.length=a.length∧∀ (i:Nat) (x y:V),a[i]?=some x→b[i]?=some y→Cv n H d x y
  | [],[],_=>⟨rfl,fun i x y h=>by simp at h⟩
  | v::vs,v'::vs',h=>by
    obtain ⟨h1,h2⟩:=cvL_ok h.2
    refine ⟨by simp [h1],fun i x y hx hy=>?_⟩
    cases i with
    | zero=>simp at hx hy;subst hx;subst hy;exact h.1
    | succ i=>simp at hx hy;exact h2 i x y hx hy
theorem cvBL_ok {n:Nat} {H:List Blk} {d:Nat}:∀ {a b:List Blk},cvBL n H d a b→b.length=a.length∧∀ (i:Nat) (x y:Blk),a[i]?=some x→b[i]?=some y→CvB n H d x y
  | [],[],_=>⟨rfl,fun i x y h=>by simp at h⟩
  | v::vs,v'::vs',h=>by
    obtain ⟨h1,h2⟩:=cvBL_ok h.2
    refine ⟨by simp [h1],fun i x y hx hy=>?_⟩
    cases i with
    | zero=>simp at hx hy;subst hx;subst hy;exact h.1
    | succ i=>simp at hx hy;exact h2 i x y hx hy
theorem CvB.one {n:Nat} {H:List Blk} {d g sz:Nat} {cs cs':List V} (hs:cs'.length=sz) (h:cvL n H d cs cs'):CvB n H d (.arr g sz [.ag cs]) (.arr g sz [.ag cs']):=by
  obtain ⟨h1,h2⟩:=cvL_ok h
  refine .inr ⟨g,sz,_,_,rfl,rfl,rfl,fun e he=>?_,fun j v' hv=>?_⟩
  · rw [List.mem_singleton] at he;subst he;exact hs
  · have e1:flatV [V.ag cs']=cs':=by simp [flatV,V.cells]
    have e2:flatV [V.ag cs]=cs:=by simp [flatV,V.cells]
    rw [e1] at hv
    rw [e2]
    have hj:=lt_of_get hv
    have:cs[j]?=some (cs[j]'(by omega)):=by simp
    exact ⟨_,this,h2 j _ _ this hv⟩
theorem PCalls.cut {P:Prg} {f:Nat} {args args':List V} {A A' L:List Blk} {K:V→List Blk→Prop} (d:Nat) (hm:noMp (A++L)) (hA:cvBL A.length (A++L) d A A') (ha:cvL A.length (A++L) d args args')
    (k:PCalls P f args' (A'++L.map deadB) K):PCalls P f args (A++L) K:=by
  obtain ⟨l1,h1⟩:=cvBL_ok hA
  obtain ⟨l2,h2⟩:=cvL_ok ha
  refine ⟨k.1,fun γ I w vs r hl hv=>?_⟩
  obtain ⟨r2,x2⟩:=cut_ok2 r hm l1 h1
  refine (k.2 _ _ w vs r2 (by omega) fun i v hi=>?_).mono fun e w' q=>?_
  · have:args[i]?=some (args[i]'(by have:=lt_of_get hi;omega)):=by simp
    exact (h2 i _ _ this hi).ok r x2 (hv i _ this)
  · rcases q with ⟨r1,x,H',γ',I',k1,k2,k3,k4,k5⟩|⟨c,H',γ',I',k1,k2,k3,k4⟩
    · exact .inl ⟨r1,x,H',γ',I',k1,k2,k3,k4,x2.trans k5⟩
    · exact .inr ⟨c,H',γ',I',k1,k2,k3,x2.trans k4⟩
theorem ACalls.cut {P:Program} {f:Nat} {args args':List V} {A A' L:List Blk} {K:V→List Blk→Prop} (d:Nat) (hm:noMp (A++L)) (hA:cvBL A.length (A++L) d A A') (ha:cvL A.length (A++L) d args args')
    (k:ACalls P f args' (A'++L.map deadB) K):ACalls P f args (A++L) K:=by
  obtain ⟨l1,h1⟩:=cvBL_ok hA
  obtain ⟨l2,h2⟩:=cvL_ok ha
  refine ⟨k.1,fun γ I w vs r hl hv=>?_⟩
  obtain ⟨r2,x2⟩:=cut_ok2 r hm l1 h1
  refine (k.2 _ _ w vs r2 (by omega) fun i v hi=>?_).mono fun e w' q=>?_
  · have:args[i]?=some (args[i]'(by have:=lt_of_get hi;omega)):=by simp
    exact (h2 i _ _ this hi).ok r x2 (hv i _ this)
  · obtain ⟨r1,x,H',γ',I',k1,k2,k3,k4,k5⟩:=q
    exact ⟨r1,x,H',γ',I',k1,k2,k3,k4,x2.trans k5⟩
theorem CG.of_own {P:Program} {f:Nat} {ts:List T} {t:T} {R:V→List Blk→Prop} (h:ACalls P f (ts.map .g) [] R) (hR:∀ r h,R r h→∃ d,gr 0 h d r=some t):CG P f ts t:=by
  refine ⟨h.1,fun γ I w vs r hl hv=>(h.2 γ I w vs r hl hv).mono fun e w' ⟨r1,x,H',γ',I',k1,k2,k3,k4,k5⟩=>?_⟩
  obtain ⟨d,hd⟩:=hR _ _ k2
  exact Ends.ground (H:=[]) (L:=H') d hd (R:=fun r h=>r=.g t∧h=[]) ⟨rfl,rfl⟩ γ I w γ' I' w' x r k3 k4 k5 |>.elim fun r2 ⟨H1,γ1,I1,j1,j2,j3,j4⟩=>⟨r2,x,H1,γ1,I1,k1,j1,j2,j3,j4⟩
theorem Ends.cut {H H2 L:List Blk} {R:V→List Blk→Prop} {v:V} (hn:H2.length=H.length) (hc:∀ x∈H2,x.lt H.length) (hv:v.lt H.length) (h:R v H2):Ends H R v (H2++L) :=
  Ends.drop hn (fun b x hx=>.inl (hc x (List.mem_of_getElem? hx))) (fun γ I I1 w x r hI hL hx=>by
    have hz:∀ (b:Nat) (x:Blk),H2[b]?=some x→x.lt H2.length:=fun b x hx=>by rw [hn];exact hc x (List.mem_of_getElem? hx)
    have hb:dropH H2.length (H2++L) 0 H2 H2:=dropH_same (fun x hx=>by rw [hn];exact hc x hx)
    have hk:∀ {v:V} {x:Value},v.lt H2.length→RV γ (H2++L) I w v x→RV (γ.take H2.length) H2 I1 w v x:=by
      intro v x hv h
      induction h with
      | g h=>exact .g (h.mono hI (fun _ _=>rfl))
      | any=>exact .any
      | nil=>exact .nil
      | own hb1 hg hl1 hc =>
        cases hv with|own hlt =>
        rw [List.getElem?_append_left hlt] at hb1
        exact .own hb1 hg hl1 (fun e=>⟨(hc e).1,by rw [List.getElem?_take,if_pos hlt];exact (hc e).2⟩)
      | pa hb1 hg hc =>
        cases hv with|pa hlt =>
        rw [List.getElem?_append_left hlt] at hb1
        exact .pa hb1 hg (fun e=>⟨(hc e).1,by rw [List.getElem?_take,if_pos hlt];exact (hc e).2⟩)
      | ra k o vs hi hIk hw hc h1 hr=>exact .ra k o vs hi (hI _ hIk) hw hc h1 (fun i t ht=>(hr i t ht).mono hI (fun _ _=>rfl))
      | fn hl _ ih=>cases hv with|fn hh=>exact .fn hl (fun i t ht=>ih i t ht (hh i t ht))
      | ag hl h1 _ ih=>cases hv with|ag hh=>exact .ag hl h1 (fun i t ht=>ih i t ht (hh i t ht))
      | tu hl _ ih=>cases hv with|tu hh=>exact .tu hl (fun i t ht=>ih i t ht (hh i t ht))
      | mp hb1 hk =>
        cases hv with|mp hlt =>
        rw [List.getElem?_append_left hlt] at hb1
        exact .mp hb1 (by rw [List.getElem?_take,if_pos hlt];exact hk)
    exact hk (by rw [hn];exact hv) hx) h
end Go.Aw
