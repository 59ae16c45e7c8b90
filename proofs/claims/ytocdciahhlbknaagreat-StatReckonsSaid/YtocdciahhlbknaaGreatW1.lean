/- The abstract walk over the model: abstract values and heaps, how they stand to the model, the slim operations and their rules (first half); no condition. -/
import Derived.WalkKit
import Derived.RangeFuncLeaves
import Derived.RangeFuncRecord
namespace Go.Aw
inductive T where
  | sc (v:Value)
  | sl (sz:Nat) (es:List T)
  | ag (cs:List T)
  deriving Inhabited
def T.cells:T→List T
  | .ag cs=>cs
  | t=>[t]
def flatT (es:List T):List T:=es.flatMap T.cells
@[match_pattern] abbrev T.i (n:Int):T:=.sc (.int .i64 n)
@[match_pattern] abbrev T.b (x:Bool):T:=.sc (.bool x)
@[match_pattern] abbrev T.s (x:ByteArray):T:=.sc (.string x)
inductive V where
  | g (t:T)
  | nil (sz:Nat)
  | own (b g off len:Nat)
  | pa (b g i off:Nat)
  | ra (sz:Nat) (es:List T) (i off:Nat)
  | fn (f:Nat) (cap:List V)
  | ag (cs:List V)
  | tu (vs:List V)
  | mp (b:Nat)
  | any
  deriving Inhabited
def V.cells:V→List V
  | .g t=>t.cells.map .g
  | .ag cs=>cs
  | .any=>[]
  | v=>[v]
def flatV (es:List V):List V:=es.flatMap V.cells
inductive Blk where
  | arr (g sz:Nat) (es:List V)
  | mp (kvs:List (Value×Value))
  deriving Inhabited
def hasRow (w:World) (k n:Nat):Prop:=∃ c el fr,w.heap[k]?=some (.cells c el fr)∧n≤c.size
inductive RT (I:Nat→Prop) (w:World):T→Value→Prop where
  | sc {v:Value} (h:v.oneCell'=true):RT I w (.sc v) v
  | sl {sz:Nat} {es:List T} {a:Option Addr} {cap:Nat} (k o:Nat) (vs:Nat→Value)
      (ha:es≠[]→a=some ⟨k,o,none⟩∧I k) (hw:∀ e∈es,e.cells.length=sz) (hl:es.length≤cap)
      (hc:∀ i t,(flatT es)[i]?=some t→w.cell? ⟨k,o+i,none⟩=some (vs i))
      (h1:∀ i t,(flatT es)[i]?=some t→(vs i).oneCell'=true)
      (hr:∀ i t,(flatT es)[i]?=some t→RT I w t (vs i)):RT I w (.sl sz es) (.slice a es.length cap)
  | ag {cs:List T} {vs:List Value} (hl:vs.length=cs.length) (h1:∀ x∈vs,x.oneCell'=true)
      (hr:∀ i t,cs[i]?=some t→RT I w t (vs.getD i undef)):RT I w (.ag cs) (.agg vs.toArray)
theorem ne_of_flat {es:List T} {i:Nat} {t:T} (h:(flatT es)[i]?=some t):es≠[]:=fun e=>by subst e;simp [flatT] at h
theorem RT.mono {I I':Nat→Prop} {w w':World} (hI:∀ k,I k→I' k) (hw:∀ k,I k→w'.heap[k]?=w.heap[k]?) {t:T} {v:Value}
    (h:RT I w t v):RT I' w' t v:=by
  induction h with
  | sc h=>exact .sc h
  | sl k o vs ha hw' hl hc h1 hr ih =>
    refine .sl k o vs (fun h=>⟨(ha h).1,hI _ (ha h).2⟩) hw' hl (fun i t ht=>?_) h1 ih
    have hne:=ne_of_flat ht
    rw [← hc i t ht]
    simp [World.cell?,hw k (ha hne).2]
  | ag hl h1 hr ih=>exact .ag hl h1 ih
inductive RV (γ:List (Option Nat)) (H:List Blk) (I:Nat→Prop) (w:World):V→Value→Prop where
  | g {t:T} {v:Value} (h:RT I w t v):RV γ H I w (.g t) v
  | any {v:Value}:RV γ H I w .any v
  | nil {sz:Nat}:RV γ H I w (.nil sz) (.slice none 0 0)
  | own {b g g' sz off len cap:Nat} {es:List V} {a:Option Addr} (hb:H[b]?=some (.arr g' sz es)) (hg:g≤g') (hl:len≤cap)
      (hc:g=g'→off+len≤es.length∧((γ[b]?=some none∧a=none∧off=0∧cap=0) ∨
        ∃ k,γ[b]?=some (some k)∧(cap=0∨a=some ⟨k,off*sz,none⟩)∧hasRow w k ((off+cap)*sz))):RV γ H I w (.own b g off len) (.slice a len cap)
  | pa {b g g' sz i off:Nat} {es:List V} {a:Addr} (hb:H[b]?=some (.arr g' sz es)) (hg:g≤g')
      (hc:g=g'→i < es.length∧∃ k,γ[b]?=some (some k)∧a=⟨k,i*sz+off,none⟩):RV γ H I w (.pa b g i off) (.pointer (some a))
  | ra {sz:Nat} {es:List T} {i off:Nat} (k o:Nat) (vs:Nat→Value) (hi:i < es.length) (hI:I k) (hw:∀ e∈es,e.cells.length=sz)
      (hc:∀ i t,(flatT es)[i]?=some t→w.cell? ⟨k,o+i,none⟩=some (vs i))
      (h1:∀ i t,(flatT es)[i]?=some t→(vs i).oneCell'=true)
      (hr:∀ i t,(flatT es)[i]?=some t→RT I w t (vs i)):RV γ H I w (.ra sz es i off) (.pointer (some ⟨k,o+(i*sz+off),none⟩))
  | fn {f:Nat} {cs:List V} {vs:List Value} (hl:vs.length=cs.length)
      (hr:∀ i t,cs[i]?=some t→RV γ H I w t (vs.getD i undef)):RV γ H I w (.fn f cs) (.func (.func f) #[] vs.toArray)
  | ag {cs:List V} {vs:List Value} (hl:vs.length=cs.length) (h1:∀ x∈vs,x.oneCell'=true)
      (hr:∀ i t,cs[i]?=some t→RV γ H I w t (vs.getD i undef)):RV γ H I w (.ag cs) (.agg vs.toArray)
  | tu {cs:List V} {vs:List Value} (hl:vs.length=cs.length)
      (hr:∀ i t,cs[i]?=some t→RV γ H I w t (vs.getD i undef)):RV γ H I w (.tu cs) (.tuple vs.toArray)
  | mp {b k:Nat} {kvs:List (Value×Value)} (hb:H[b]?=some (.mp kvs)) (hk:γ[b]?=some (some k)):RV γ H I w (.mp b) (.map (some k))
structure RelH (γ:List (Option Nat)) (I:Nat→Prop) (w:World) (H:List Blk):Prop where
  len:γ.length=H.length
  arr:∀ (b g sz:Nat) (es:List V),H[b]?=some (.arr g sz es)→(γ[b]?=some none∧es=[]) ∨
    ∃ (k:Nat) (c:Array Value) (el:TypeId),γ[b]?=some (some k)∧w.heap[k]?=some (Obj.cells c el (0,0))∧(∀ e∈es,e.cells.length=sz)∧es.length*sz≤c.size ∧
      ∀ (i:Nat) (v:V),(flatV es)[i]?=some v→∃ x:Value,c[i]?=some x∧x.oneCell'=true∧RV γ H I w v x
  mp:∀ (b:Nat) (kvs:List (Value×Value)),H[b]?=some (.mp kvs)→∃ (k:Nat) (es:Array MapEntry) (cl:Nat),γ[b]?=some (some k)∧w.heap[k]?=some (Obj.map es cl)∧es.toList.map (fun e=>(e.key,e.val))=kvs∧(∀ (i:Nat) (e:MapEntry),es[i]?=some e→e.born=i∧e.val.oneCell'=true)∧cl=es.size
  inj:∀ b b' k:Nat,γ[b]?=some (some k)→γ[b']?=some (some k)→b=b'
  off:∀ b k:Nat,γ[b]?=some (some k)→¬ I k∧k < w.heap.size
  imm:∀ k,I k→∃ (c:Array Value) (el:TypeId) (fr:Nat×Nat),w.heap[k]?=some (Obj.cells c el fr)
def Blk.upto:Blk→Blk→Prop
  | .arr g sz _,.arr g' sz' _=>g≤g'∧sz=sz'
  | .mp _,.mp _=>True
  | _,_=>False
def Blk.same:Blk→Blk→Prop
  | .arr g _ _,.arr g' _ _=>g=g'
  | .mp _,.mp _=>True
  | _,_=>False
structure Ext (γ:List (Option Nat)) (H:List Blk) (I:Nat→Prop) (w:World) (γ':List (Option Nat)) (H':List Blk) (I':Nat→Prop) (w':World):Prop where
  os:w'.os=w.os
  tape:w'.tape=w.tape
  output:w'.output=w.output
  size:w.heap.size≤w'.heap.size
  sub:∀ k,I k→I' k
  sub':∀ k,I' k→I k∨w.heap.size≤k∨∃ b:Nat,γ[b]?=some (some k)
  frame:∀ k:Nat,k < w.heap.size→(∀ b:Nat,γ[b]?≠some (some k))→w'.heap[k]?=w.heap[k]?
  rows:∀ k n,hasRow w k n→hasRow w' k n
  blk:∀ (b:Nat) (x:Blk),H[b]?=some x→∃ x',H'[b]?=some x'∧x.upto x'∧(x.same x'→γ'[b]?=γ[b]?∧∀ g sz es es',x=.arr g sz es→x'=.arr g sz es'→es.length≤es'.length)
  new:∀ b k:Nat,γ'[b]?=some (some k)→w.heap.size≤k∨∃ b':Nat,γ[b']?=some (some k)
end Go.Aw
namespace Go.Aw
theorem Blk.upto_refl (x:Blk):x.upto x:=by cases x <;> simp [Blk.upto]
theorem Blk.upto_trans {x y z:Blk} (h:x.upto y) (k:y.upto z):x.upto z:=by
  cases x <;> cases y <;> cases z <;> simp [Blk.upto] at *
  omega
theorem Blk.same_mid {x y z:Blk} (h:x.upto y) (k:y.upto z) (e:x.same z):x.same y∧y.same z:=by
  cases x <;> cases y <;> cases z <;> simp [Blk.upto,Blk.same] at *
  omega
section
variable {γ γ' γ'':List (Option Nat)} {H H' H'':List Blk} {I I' I'':Nat→Prop} {w w' w'':World}
theorem Ext.refl (γ:List (Option Nat)) (H:List Blk) (I:Nat→Prop) (w:World):Ext γ H I w γ H I w :=
  ⟨rfl,rfl,rfl,Nat.le_refl _,fun _ h=>h,fun _ h=>.inl h,fun _ _ _=>rfl,fun _ _ h=>h,
    fun b x h=>⟨x,h,x.upto_refl,fun _=>⟨rfl,fun g sz es es' h1 h2=>by subst h1;cases h2;exact Nat.le_refl _⟩⟩,fun b _ h=>.inr ⟨b,h⟩⟩
theorem Ext.trans (h:Ext γ H I w γ' H' I' w') (k:Ext γ' H' I' w' γ'' H'' I'' w''):Ext γ H I w γ'' H'' I'' w'' where
  os:=k.os.trans h.os
  tape:=k.tape.trans h.tape
  output:=k.output.trans h.output
  size:=Nat.le_trans h.size k.size
  sub:=fun i hi=>k.sub i (h.sub i hi)
  sub':=fun i hi=>by
    rcases k.sub' i hi with h1|h1|⟨b,h1⟩
    · exact h.sub' i h1
    · exact .inr (.inl (Nat.le_trans h.size h1))
    · exact .inr (h.new b i h1)
  frame:=fun i hi hb=>by
    rw [k.frame i (Nat.lt_of_lt_of_le hi h.size) (fun b hb'=>by
      rcases h.new b i hb' with h2|h2
      · omega
      · obtain ⟨b2,h2⟩:=h2;exact hb b2 h2),h.frame i hi hb]
  rows:=fun i n hr=>k.rows i n (h.rows i n hr)
  blk:=fun b x hx=>by
    obtain ⟨y,hy,u1,s1⟩:=h.blk b x hx
    obtain ⟨z,hz,u2,s2⟩:=k.blk b y hy
    refine ⟨z,hz,Blk.upto_trans u1 u2,fun e=>?_⟩
    obtain ⟨e1,e2⟩:=Blk.same_mid u1 u2 e
    refine ⟨(s2 e2).1.trans (s1 e1).1,fun g sz es es' hx' hz'=>?_⟩
    subst hx';subst hz'
    cases y with
    | mp=>simp [Blk.same] at e1
    | arr gy sy ey =>
      simp [Blk.same] at e1 e2
      simp [Blk.upto] at u1 u2
      obtain ⟨_,rfl⟩:=u1
      subst e1
      exact Nat.le_trans ((s1 rfl).2 _ _ _ _ rfl rfl) ((s2 (by simp [Blk.same])).2 _ _ _ _ rfl rfl)
  new:=fun b i hi=>by
    rcases k.new b i hi with h1|h1
    · exact .inl (Nat.le_trans h.size h1)
    · obtain ⟨b2,h1⟩:=h1;exact h.new b2 i h1
theorem RelH.immlt (r:RelH γ I w H) {k:Nat} (hk:I k):k < w.heap.size:=by
  obtain ⟨c,el,fr,h⟩:=r.imm k hk
  exact (Array.getElem?_eq_some_iff.1 h).1
theorem RelH.immx (r:RelH γ I w H) (hw:∀ k:Nat,I k→w'.heap[k]?=w.heap[k]?) (k:Nat) (hk:I k):∃ (c:Array Value) (el:TypeId) (fr:Nat×Nat),w'.heap[k]?=some (Obj.cells c el fr):=by
  obtain ⟨c,el,fr,h⟩:=r.imm k hk
  exact ⟨c,el,fr,by rw [hw k hk];exact h⟩
theorem RelH.cellsOf (r:RelH γ I w H) {b k g sz:Nat} {es:List V} (hb:H[b]?=some (.arr g sz es)) (hk:γ[b]?=some (some k)):∃ (c:Array Value) (el:TypeId) (fr:Nat×Nat),w.heap[k]?=some (Obj.cells c el fr):=by
  rcases r.arr b g sz es hb with ⟨h,_⟩|⟨k',c,el,h1,h2,_⟩
  · rw [h] at hk;cases hk
  · rw [h1] at hk;cases hk;exact ⟨c,el,_,h2⟩
structure ExtM (m:Nat) (γ:List (Option Nat)) (H:List Blk) (I:Nat→Prop) (w:World) (γ':List (Option Nat)) (H':List Blk) (I':Nat→Prop) (w':World):Prop where
  os:w'.os=w.os
  tape:w'.tape=w.tape
  output:w'.output=w.output
  size:w.heap.size≤w'.heap.size
  sub:∀ k,I k→I' k
  sub':∀ k,I' k→I k∨w.heap.size≤k∨∃ b:Nat,γ[b]?=some (some k)
  frame:∀ k:Nat,k < w.heap.size→(∀ b:Nat,γ[b]?≠some (some k))→w'.heap[k]?=w.heap[k]?
  rows:∀ k n,hasRow w k n→hasRow w' k n
  blk:∀ (b:Nat) (x:Blk),b < m→H[b]?=some x→∃ x',H'[b]?=some x'∧x.upto x'∧(x.same x'→γ'[b]?=γ[b]?∧∀ g sz es es',x=.arr g sz es→x'=.arr g sz es'→es.length≤es'.length)
  new:∀ b k:Nat,γ'[b]?=some (some k)→w.heap.size≤k∨∃ b':Nat,γ[b']?=some (some k)
theorem Ext.toM {m:Nat} (h:Ext γ H I w γ' H' I' w'):ExtM m γ H I w γ' H' I' w' :=
  ⟨h.os,h.tape,h.output,h.size,h.sub,h.sub',h.frame,h.rows,fun b x _=>h.blk b x,h.new⟩
theorem ExtM.full (h:ExtM H.length γ H I w γ' H' I' w'):Ext γ H I w γ' H' I' w' :=
  ⟨h.os,h.tape,h.output,h.size,h.sub,h.sub',h.frame,h.rows,fun b x hx=>h.blk b x (Array.getElem?_eq_some_iff.1 (by simpa using (List.getElem?_toArray (xs:=H) (i:=b)).trans hx)).1 hx,h.new⟩
theorem ExtM.refl {m:Nat} (γ:List (Option Nat)) (H:List Blk) (I:Nat→Prop) (w:World):ExtM m γ H I w γ H I w:=(Ext.refl γ H I w).toM
theorem ExtM.trans {m:Nat} (h:ExtM m γ H I w γ' H' I' w') (k:ExtM m γ' H' I' w' γ'' H'' I'' w''):ExtM m γ H I w γ'' H'' I'' w'' where
  os:=k.os.trans h.os
  tape:=k.tape.trans h.tape
  output:=k.output.trans h.output
  size:=Nat.le_trans h.size k.size
  sub:=fun i hi=>k.sub i (h.sub i hi)
  sub':=fun i hi=>by
    rcases k.sub' i hi with h1|h1|⟨b,h1⟩
    · exact h.sub' i h1
    · exact .inr (.inl (Nat.le_trans h.size h1))
    · exact .inr (h.new b i h1)
  frame:=fun i hi hb=>by
    rw [k.frame i (Nat.lt_of_lt_of_le hi h.size) (fun b hb'=>by
      rcases h.new b i hb' with h2|h2
      · omega
      · obtain ⟨b2,h2⟩:=h2;exact hb b2 h2),h.frame i hi hb]
  rows:=fun i n hr=>k.rows i n (h.rows i n hr)
  blk:=fun b x hm hx=>by
    obtain ⟨y,hy,u1,s1⟩:=h.blk b x hm hx
    obtain ⟨z,hz,u2,s2⟩:=k.blk b y hm hy
    refine ⟨z,hz,Blk.upto_trans u1 u2,fun e=>?_⟩
    obtain ⟨e1,e2⟩:=Blk.same_mid u1 u2 e
    refine ⟨(s2 e2).1.trans (s1 e1).1,fun g sz es es' hx' hz'=>?_⟩
    subst hx';subst hz'
    cases y with
    | mp=>simp [Blk.same] at e1
    | arr gy sy ey =>
      simp [Blk.same] at e1 e2
      simp [Blk.upto] at u1 u2
      obtain ⟨_,rfl⟩:=u1
      subst e1
      exact Nat.le_trans ((s1 rfl).2 _ _ _ _ rfl rfl) ((s2 (by simp [Blk.same])).2 _ _ _ _ rfl rfl)
  new:=fun b i hi=>by
    rcases k.new b i hi with h1|h1
    · exact .inl (Nat.le_trans h.size h1)
    · obtain ⟨b2,h1⟩:=h1;exact h.new b2 i h1
theorem Ext.imm (h:Ext γ H I w γ' H' I' w') (r:RelH γ I w H) {k:Nat} (hk:I k):w'.heap[k]?=w.heap[k]? :=
  h.frame k (r.immlt hk) (fun b hb=>(r.off b k hb).1 hk)
theorem ExtM.immM {m:Nat} (h:ExtM m γ H I w γ' H' I' w') (r:RelH γ I w H) {k:Nat} (hk:I k):w'.heap[k]?=w.heap[k]? :=
  h.frame k (r.immlt hk) (fun b hb=>(r.off b k hb).1 hk)
theorem RT.ext (h:Ext γ H I w γ' H' I' w') (r:RelH γ I w H) {t:T} {v:Value} (hv:RT I w t v):RT I' w' t v :=
  hv.mono h.sub (fun _ hk=>h.imm r hk)
theorem RV.mono (h:Ext γ H I w γ' H' I' w') (r:RelH γ I w H) {v:V} {x:Value} (hv:RV γ H I w v x):RV γ' H' I' w' v x:=by
  induction hv with
  | g hv=>exact .g (hv.ext h r)
  | any=>exact .any
  | nil=>exact .nil
  | @own b g g' sz off len cap es a hb hg hl hc =>
    obtain ⟨y,hy,u,s⟩:=h.blk _ _ hb
    cases y with
    | mp=>simp [Blk.upto] at u
    | arr gy sy ey =>
      simp [Blk.upto] at u
      obtain ⟨u1,rfl⟩:=u
      refine .own hy (Nat.le_trans hg u1) hl (fun e=>?_)
      have e1:g=g':=by omega
      have e2:g'=gy:=by omega
      obtain ⟨s1,s2⟩:=s (by simp [Blk.same,e2])
      obtain ⟨c1,c2⟩:=hc e1
      subst e2
      refine ⟨Nat.le_trans c1 (s2 _ _ _ _ rfl rfl),?_⟩
      rw [s1]
      rcases c2 with c2|⟨k,c3,c4,c5⟩
      · exact .inl c2
      · exact .inr ⟨k,c3,c4,h.rows _ _ c5⟩
  | @pa b g g' sz i off es a hb hg hc =>
    obtain ⟨y,hy,u,s⟩:=h.blk _ _ hb
    cases y with
    | mp=>simp [Blk.upto] at u
    | arr gy sy ey =>
      simp [Blk.upto] at u
      obtain ⟨u1,rfl⟩:=u
      refine .pa hy (Nat.le_trans hg u1) (fun e=>?_)
      have e1:g=g':=by omega
      have e2:g'=gy:=by omega
      obtain ⟨s1,s2⟩:=s (by simp [Blk.same,e2])
      obtain ⟨c1,c2⟩:=hc e1
      subst e2
      refine ⟨Nat.lt_of_lt_of_le c1 (s2 _ _ _ _ rfl rfl),?_⟩
      rw [s1];exact c2
  | ra k o vs hi hI hw hc h1 hr =>
    refine .ra k o vs hi (h.sub _ hI) hw (fun i t ht=>?_) h1 (fun i t ht=>(hr i t ht).ext h r)
    rw [← hc i t ht];simp [World.cell?,h.imm r hI]
  | fn hl _ ih=>exact .fn hl ih
  | ag hl h1 _ ih=>exact .ag hl h1 ih
  | tu hl _ ih=>exact .tu hl ih
  | @mp b k kvs hb hk =>
    obtain ⟨y,hy,u,s⟩:=h.blk _ _ hb
    cases y with
    | arr=>simp [Blk.upto] at u
    | mp kv2=>exact .mp hy (by rw [(s (by simp [Blk.same])).1];exact hk)
end
structure St where
  t:List V
  h:List Blk
  deriving Inhabited
def mkD (D:Nat):Deferred:={ target:=.collected D,args:=#[] }
def markOf (d:Deferred):Option Nat:=match d.target with
  | .collected D=>some D
  | _=>none
theorem marks_of (Ds:List Nat):(Ds.map mkD).filterMap markOf=Ds:=by induction Ds <;> simp_all [mkD,markOf]
structure Inert (γ:List (Option Nat)) (I:Nat→Prop) (w:World) (ds:List Deferred):Prop where
  intro ::
  nodup:(ds.filterMap markOf).Nodup
  ok:∀ D,D∈ds.filterMap markOf→D < w.heap.size∧w.heap[D]?=some (.deferred (some []))∧¬ I D∧∀ b:Nat,γ[b]?≠some (some D)
theorem Inert.none {γ:List (Option Nat)} {I:Nat→Prop} {w:World}:Inert γ I w []:=⟨.nil,by simp⟩
theorem Inert.one {γ:List (Option Nat)} {I:Nat→Prop} {w:World} {fv:Fn} {cap args:Array Value}:Inert γ I w [{ target:=.fn fv cap,args:=args }]:=⟨.nil,fun _ h=>by cases h⟩
theorem Inert.ex {γ:List (Option Nat)} {I:Nat→Prop} {w:World} {Ds:List Nat} {ds:List Deferred} (h:Inert γ I w (Ds.map mkD++ds)):Ds.Nodup∧∀ D∈Ds,D < w.heap.size∧w.heap[D]?=some (.deferred (some []))∧¬ I D∧∀ b:Nat,γ[b]?≠some (some D):=by
  have h1:=h.nodup
  have h2:=h.ok
  rw [List.filterMap_append,marks_of] at h1 h2
  exact ⟨(List.nodup_append.1 h1).1,fun D hD=>h2 D (List.mem_append_left _ hD)⟩
theorem Inert.extM {m:Nat} {γ γ':List (Option Nat)} {H H':List Blk} {I I':Nat→Prop} {w w':World} {ds:List Deferred} (i:Inert γ I w ds) (x:ExtM m γ H I w γ' H' I' w'):Inert γ' I' w' ds:=by
  refine ⟨i.nodup,fun D hD=>?_⟩
  obtain ⟨a,b,c,d⟩:=i.ok D hD
  refine ⟨Nat.lt_of_lt_of_le a x.size,by rw [x.frame D a d];exact b,fun hI=>?_,fun b hb=>?_⟩
  · rcases x.sub' D hI with h|h|⟨b,h⟩
    · exact c h
    · omega
    · exact d b h
  · rcases x.new b D hb with h|h
    · omega
    · obtain ⟨b2,h⟩:=h;exact d b2 h
theorem Inert.ext {γ γ':List (Option Nat)} {H H':List Blk} {I I':Nat→Prop} {w w':World} {ds:List Deferred} (i:Inert γ I w ds) (x:Ext γ H I w γ' H' I' w'):Inert γ' I' w' ds:=i.extM (x.toM (m:=0))
def NewD (w:World) (ds ds':List Deferred):Prop:=∃ Ds:List Nat,ds'=Ds.map mkD++ds∧∀ D∈Ds,w.heap.size≤D
theorem NewD.refl {w:World} {ds:List Deferred}:NewD w ds ds:=⟨[],rfl,by simp⟩
structure Rel (γ:List (Option Nat)) (I:Nat→Prop) (w:World) (s:St) (a:Act):Prop where
  defers:Inert γ I w a.defers
  size:a.tmps.size=s.t.length
  tmps:∀ i v,s.t[i]?=some v→RV γ s.h I w v (a.tmps.getD i undef)
  heap:RelH γ I w s.h
theorem Rel.ext {γ γ':List (Option Nat)} {I I':Nat→Prop} {w w':World} {s:St} {a:Act} {H':List Blk} (r:Rel γ I w s a)
    (h:Ext γ s.h I w γ' H' I' w') (r':RelH γ' I' w' H'):Rel γ' I' w' ⟨s.t,H'⟩ a :=
  ⟨r.defers.ext h,r.size,fun i v hv=>(r.tmps i v hv).mono h r.heap,r'⟩
def lift (m:Nat) (γ:List (Option Nat)) (I:Nat→Prop) (w:World) (H:List Blk) (ds:List Deferred) (Q:Exit→St→Prop) (e:Exit) (a':Act) (w':World):Prop :=
  ∃ s' γ' I',Q e s'∧Rel γ' I' w' s' a'∧ExtM m γ H I w γ' s'.h I' w'∧NewD w ds a'.defers
theorem goes_trans {m:Nat} {γ γ' γ'':List (Option Nat)} {H H' H'':List Blk} {I I' I'':Nat→Prop} {w w' w'':World} {ds ds' ds'':List Deferred} (h:ExtM m γ H I w γ' H' I' w'∧NewD w ds ds') (k:ExtM m γ' H' I' w' γ'' H'' I'' w''∧NewD w' ds' ds'') :
    ExtM m γ H I w γ'' H'' I'' w''∧NewD w ds ds'' :=
  ⟨h.1.trans k.1,by
    obtain ⟨Ds,e1,h1⟩:=h.2
    obtain ⟨Ds2,e2,h2⟩:=k.2
    exact ⟨Ds2++Ds,by rw [e2,e1];simp,fun D hD=>(List.mem_append.1 hD).elim (fun q=>Nat.le_trans h.1.size (h2 D q)) (h1 D)⟩⟩
def AW (m:Nat) (P:Program) (c:Code) (Q:Exit→St→Prop) (s:St):Prop :=
  ∀ γ I w a,Rel γ I w s a→c.wp P (lift m γ I w s.h a.defers Q) a w
def callOk (P:Program) (f:Nat):Prop:=∃ fn,P.funcs[f]?=some fn∧(fn.name == "runtime.NumGoroutine")=false∧fn.body.isNone=false
structure ACalls (P:Program) (f:Nat) (args:List V) (H:List Blk) (R:V→List Blk→Prop):Prop where
  ok:callOk P f
  run:∀ (γ:List (Option Nat)) (I:Nat→Prop) (w:World) (vs:List Value),RelH γ I w H→vs.length=args.length→(∀ (i:Nat) (v:V),args[i]?=some v→RV γ H I w v (vs.getD i undef)) →
    Calls P f vs.toArray w fun e w'=>∃ r x H' γ' I',e=.returned x∧R r H'∧RelH γ' I' w' H'∧RV γ' H' I' w' r x∧Ext γ H I w γ' H' I' w'
theorem ACalls.mono {P:Program} {f:Nat} {args:List V} {H:List Blk} {R R':V→List Blk→Prop} (h:ACalls P f args H R)
    (hr:∀ r H',R r H'→R' r H'):ACalls P f args H R' :=
  ⟨h.1,fun γ I w vs r hl hv=>(h.2 γ I w vs r hl hv).mono fun _ _ ⟨r,x,H',γ',I',h1,h2,h3⟩=>⟨r,x,H',γ',I',h1,hr _ _ h2,h3⟩⟩
section
variable {m:Nat} {P:Program} {s:St} {Q Q':Exit→St→Prop}
theorem AW.mono {c:Code} (h:AW m P c Q s) (hq:∀ e s',Q e s'→Q' e s'):AW m P c Q' s :=
  fun γ I w a r=>wp_mono (h γ I w a r) fun _ _ _ ⟨s',γ',I',h1,h2⟩=>⟨s',γ',I',hq _ _ h1,h2⟩
def Thn (K:St→Prop) (Q:Exit→St→Prop):Exit→St→Prop
  | .normal,s=>K s
  | e,s=>Q e s
theorem AW.skip (h:Q .normal s):AW m P .skip Q s:=fun γ I _ _ r=>wp_skip ⟨s,γ,I,h,r,ExtM.refl ..,NewD.refl⟩
theorem AW.label {l:Nat} (h:Q .normal s):AW m P (.label l) Q s:=fun γ I _ _ r=>wp_label ⟨s,γ,I,h,r,ExtM.refl ..,NewD.refl⟩
theorem AW.ret (h:Q .ret s):AW m P .ret Q s:=fun γ I _ _ r=>wp_ret ⟨s,γ,I,h,r,ExtM.refl ..,NewD.refl⟩
theorem AW.exit {id:Nat} (h:Q (.exit id) s):AW m P (.exit id) Q s:=fun γ I _ _ r=>wp_exit ⟨s,γ,I,h,r,ExtM.refl ..,NewD.refl⟩
theorem AW.goto {l:Nat} (h:Q (.goto l) s):AW m P (.goto l) Q s:=fun γ I _ _ r=>wp_goto ⟨s,γ,I,h,r,ExtM.refl ..,NewD.refl⟩
theorem AW.seq {x y:Code} (h:AW m P x (Thn (AW m P y Q) Q) s):AW m P (.seq x y) Q s:=fun γ I w a r =>
  wp_seq (wp_mono (h γ I w a r) fun e a' w' ⟨s',γ',I',h1,h2,h3⟩=>by
    cases e with
    | normal=>exact wp_mono (h1 γ' I' w' a' h2) fun e a2 w2 ⟨s2,γ2,I2,k1,k2,k3⟩=>⟨s2,γ2,I2,k1,k2,goes_trans h3 k3⟩
    | _=>exact ⟨s',γ',I',h1,h2,h3⟩)
def InBlock (id:Nat) (Q:Exit→St→Prop):Exit→St→Prop
  | .exit id',s=>if id'=id then Q .normal s else Q (.exit id') s
  | e,s=>Q e s
theorem AW.block {id:Nat} {c:Code} (h:AW m P c (InBlock id Q) s):AW m P (.block id c) Q s:=fun γ I w a r =>
  wp_block (wp_mono (h γ I w a r) fun e a' w' ⟨s',γ',I',h1,h2,h3⟩=>by
    cases e with
    | exit id' =>
      simp only [InBlock] at h1
      simp only [Exit.inBlock]
      split at h1 <;> rename_i hid
      · rw [if_pos hid];exact ⟨s',γ',I',h1,h2,h3⟩
      · rw [if_neg hid];exact ⟨s',γ',I',h1,h2,h3⟩
    | _=>exact ⟨s',γ',I',h1,h2,h3⟩)
theorem AW.loop {c:Code} (J:Nat→St→Prop) (n0:Nat) (h0:J n0 s)
    (hr:∀ n s',J n s'→AW m P c (Thn (fun s2=>∃ m,m < n∧J m s2) Q) s'):AW m P (.loop c) Q s:=by
  intro γ I w a r b k cs
  have key:∀ n s',J n s'→∀ γ' I' w' a',Rel γ' I' w' s' a'→(ExtM m γ s.h I w γ' s'.h I' w'∧NewD w a.defers a'.defers) →
      ∃ e a2 w2,lift m γ I w s.h a.defers Q e a2 w2∧Arrives P (lone (b.at a' (.code c::.inLoop c::k)) cs w') b k cs e a2 w2:=by
    intro n
    induction n using Nat.strongRecOn with
    | _ n ih =>
      intro s' hJ γ' I' w' a' r' e'
      obtain ⟨e,a1,w1,⟨s1,γ1,I1,q1,r1,x1⟩,harr⟩:=hr n s' hJ γ' I' w' a' r' b (.inLoop c::k) cs
      cases e with
      | normal =>
        obtain ⟨m1,hlt,hJ1⟩:=q1
        obtain ⟨e2,a2,w2,hq2,harr2⟩:=ih m1 hlt s1 hJ1 γ1 I1 w1 a1 r1 (goes_trans e' x1)
        exact ⟨e2,a2,w2,hq2,.of_steps (Steps.trans harr (.one step_inLoop)) harr2⟩
      | _=>exact ⟨_,a1,w1,⟨s1,γ1,I1,q1,r1,goes_trans e' x1⟩,.pass (x:=.inLoop c) rfl (fun _ _=>.inl (by simp)) harr⟩
  obtain ⟨e,a',w',hq,harr⟩:=key _ s h0 γ I w a r ⟨ExtM.refl ..,NewD.refl⟩
  exact ⟨e,a',w',hq,.of_steps (.one step_loop) harr⟩
end
end Go.Aw
namespace Go.Aw
def optL {α:Type}:List (Option α)→Option (List α)
  | []=>some []
  | none::_=>none
  | some a::l=>match optL l with|some r=>some (a::r)|none=>none
theorem optL_some {α:Type} {l:List (Option α)} {r:List α} (h:optL l=some r):l=r.map some:=by
  induction l generalizing r with
  | nil=>simp [optL] at h;subst h;rfl
  | cons a l ih =>
    cases a with
    | none=>simp [optL] at h
    | some a =>
      simp only [optL] at h
      cases hr:optL l with
      | none=>simp [hr] at h
      | some r'=>simp [hr] at h;subst h;simp [ih hr]
@[simp] theorem optL_map_some {α:Type} (l:List α):optL (l.map some)=some l:=by
  induction l with
  | nil=>rfl
  | cons a l ih=>simp [optL,ih]
def gr (n:Nat) (h:List Blk):Nat→V→Option T
  | _,.g t=>some t
  | _,.nil sz=>some (.sl sz [])
  | d+1,.own b g off len=>match h[b]? with
    | some (.arr g' sz es)=>if n≤b∧g=g'∧off+len≤es.length then (optL (((es.drop off).take len).map (gr n h d))).map (T.sl sz) else none
    | _=>none
  | d+1,.ag cs=>(optL (cs.map (gr n h d))).map T.ag
  | _,_=>none
theorem flatV_len {es:List V} {sz:Nat} (h:∀ e∈es,e.cells.length=sz):(flatV es).length=es.length*sz:=by
  induction es with
  | nil=>simp [flatV]
  | cons e es ih =>
    have h1:=h e (by simp)
    have h2:=ih (fun x hx=>h x (by simp [hx]))
    simp only [flatV,List.flatMap_cons,List.length_append,List.length_cons] at h2 ⊢
    rw [h2,h1,Nat.add_mul];omega
theorem flatV_get {es:List V} {sz:Nat} (h:∀ e∈es,e.cells.length=sz) (i:Nat) (e:V) (hi:es[i]?=some e) (j:Nat) (hj:j < sz) :
    (flatV es)[i*sz+j]?=e.cells[j]?:=by
  induction es generalizing i with
  | nil=>simp at hi
  | cons x es ih =>
    have h1:=h x (by simp)
    cases i with
    | zero =>
      simp at hi;subst hi
      simp only [flatV,List.flatMap_cons,Nat.zero_mul,Nat.zero_add]
      rw [List.getElem?_append_left (by omega)]
    | succ i =>
      simp at hi
      have:=ih (fun y hy=>h y (by simp [hy])) i hi
      simp only [flatV,List.flatMap_cons] at this ⊢
      rw [List.getElem?_append_right (by rw [h1,Nat.add_mul];omega),h1]
      rw [← this];congr 1;rw [Nat.add_mul];omega
theorem flatT_len {es:List T} {sz:Nat} (h:∀ e∈es,e.cells.length=sz):(flatT es).length=es.length*sz:=by
  induction es with
  | nil=>simp [flatT]
  | cons e es ih =>
    have h1:=h e (by simp)
    have h2:=ih (fun x hx=>h x (by simp [hx]))
    simp only [flatT,List.flatMap_cons,List.length_append,List.length_cons] at h2 ⊢
    rw [h2,h1,Nat.add_mul];omega
theorem flatT_get {es:List T} {sz:Nat} (h:∀ e∈es,e.cells.length=sz) (i:Nat) (e:T) (hi:es[i]?=some e) (j:Nat) (hj:j < sz) :
    (flatT es)[i*sz+j]?=e.cells[j]?:=by
  induction es generalizing i with
  | nil=>simp at hi
  | cons x es ih =>
    have h1:=h x (by simp)
    cases i with
    | zero =>
      simp at hi;subst hi
      simp only [flatT,List.flatMap_cons,Nat.zero_mul,Nat.zero_add]
      rw [List.getElem?_append_left (by omega)]
    | succ i =>
      simp at hi
      have:=ih (fun y hy=>h y (by simp [hy])) i hi
      simp only [flatT,List.flatMap_cons] at this ⊢
      rw [List.getElem?_append_right (by rw [h1,Nat.add_mul];omega),h1]
      rw [← this];congr 1;rw [Nat.add_mul];omega
theorem flat_split {n sz i:Nat} (h:i < n*sz):i / sz < n∧i % sz < sz∧i=i / sz*sz+i % sz:=by
  have hs:0 < sz:=by
                        rcases Nat.eq_zero_or_pos sz with h0|h0;· subst h0;simp at h
                        · exact h0
  refine ⟨?_,Nat.mod_lt _ hs,by have:=Nat.div_add_mod i sz;rw [Nat.mul_comm] at this;exact this.symm⟩
  exact Nat.div_lt_of_lt_mul (by rw [Nat.mul_comm];exact h)
theorem gr_cells {n:Nat} {h:List Blk} {d:Nat} {v:V} {t:T} (hg:gr n h d v=some t) :
    t.cells.length=v.cells.length∧∀ (i:Nat) (c:T),t.cells[i]?=some c→∃ vc d',v.cells[i]?=some vc∧d'≤d∧gr n h d' vc=some c:=by
  cases v with
  | g t0 =>
    simp [gr] at hg;subst hg
    refine ⟨by simp [V.cells],fun i c hc=>⟨.g c,d,by simp [V.cells,hc],Nat.le_refl _,by simp [gr]⟩⟩
  | nil sz =>
    simp [gr] at hg;subst hg
    refine ⟨by simp [V.cells,T.cells],fun i c hc=>⟨.nil sz,d,?_,Nat.le_refl _,?_⟩⟩
    · cases i with
      | zero=>simp [V.cells]
      | succ i=>simp [T.cells] at hc
    · cases i with
      | zero=>simp [T.cells] at hc;subst hc;simp [gr]
      | succ i=>simp [T.cells] at hc
  | own b g off len =>
    cases d with
    | zero=>simp [gr] at hg
    | succ d =>
      have hg0:=hg
      simp only [gr] at hg
      split at hg
      · split at hg
        · cases ho:optL (((List.take len (List.drop off _)).map (gr n h d))) with
          | none=>rw [ho] at hg;simp at hg
          | some r =>
            rw [ho] at hg;simp at hg;subst hg
            refine ⟨by simp [V.cells,T.cells],fun i c hc=>⟨.own b g off len,d+1,?_,Nat.le_refl _,?_⟩⟩
            · cases i with
              | zero=>simp [V.cells]
              | succ i=>simp [T.cells] at hc
            · cases i with
              | zero=>simp [T.cells] at hc;subst hc;exact hg0
              | succ i=>simp [T.cells] at hc
        · simp at hg
      · simp at hg
  | ag cs =>
    cases d with
    | zero=>simp [gr] at hg
    | succ d =>
      simp only [gr] at hg
      cases ho:optL (cs.map (gr n h d)) with
      | none=>rw [ho] at hg;simp at hg
      | some r =>
        rw [ho] at hg;simp at hg;subst hg
        have:=optL_some ho
        have hl:cs.length=r.length:=by simpa using congrArg List.length this
        refine ⟨by simp [V.cells,T.cells,hl],fun i c hc=>?_⟩
        simp only [T.cells] at hc
        have hi:i < cs.length:=by rw [hl];exact (List.getElem?_eq_some_iff.1 hc).1
        refine ⟨cs[i],d,by simp [V.cells,hi],by omega,?_⟩
        have h2:=congrArg (·[i]?) this
        simpa [hc,hi] using h2
  | _=>cases d <;> simp [gr] at hg
theorem gr_sound {n:Nat} {γ:List (Option Nat)} {H:List Blk} {I I1:Nat→Prop} {w:World} (r:RelH γ I w H) (hI:∀ k,I k→I1 k)
    (hL:∀ (b k g sz:Nat) (es:List V),n≤b→H[b]?=some (.arr g sz es)→γ[b]?=some (some k)→I1 k):∀ (d:Nat) (v:V) (t:T) (x:Value),gr n H d v=some t→RV γ H I w v x→RT I1 w t x:=by
  intro d
  induction d using Nat.strongRecOn with
  | _ d ih =>
  intro v t x hg hv
  cases v with
  | g t0 =>
    simp [gr] at hg;subst hg
    cases hv with|g h=>exact h.mono hI (fun _ _=>rfl)
  | nil sz =>
    simp [gr] at hg;subst hg
    cases hv
    exact .sl (es:=[]) 0 0 (fun _=>undef) (by simp) (by simp) (by simp) (by simp [flatT]) (by simp [flatT]) (by simp [flatT])
  | own b g off len =>
    cases d with
    | zero=>simp [gr] at hg
    | succ d =>
      cases hv with
      | @own _ _ g' sz _ _ cap es a hb hgg hl hc =>
      simp only [gr,hb] at hg
      split at hg
      case isFalse=>simp at hg
      rename_i hcond
      obtain ⟨hn,rfl,hlen⟩:=hcond
      cases ho:optL ((List.take len (List.drop off es)).map (gr n H d)) with
      | none=>rw [ho] at hg;simp at hg
      | some ts =>
      rw [ho] at hg;simp at hg;subst hg
      have hts:=optL_some ho
      have hlts:ts.length=len:=by
        have:=congrArg List.length hts
        simp at this;omega
      have hget:∀ (q:Nat) (tq:T),ts[q]?=some tq→∃ e,es[off+q]?=some e∧gr n H d e=some tq:=by
        intro q tq hq
        have hq':q < len:=by rw [← hlts];exact (List.getElem?_eq_some_iff.1 hq).1
        have h2:=congrArg (·[q]?) hts
        simp only [List.getElem?_map,hq,Option.map_some] at h2
        have h3:(List.take len (List.drop off es))[q]?=es[off+q]?:=by
          rw [List.getElem?_take,if_pos hq',List.getElem?_drop]
        rw [h3] at h2
        cases he:es[off+q]? with
        | none=>rw [he] at h2;simp at h2
        | some e=>rw [he] at h2;simp at h2;exact ⟨e,rfl,h2⟩
      obtain ⟨c1,c2⟩:=hc rfl
      have hwf:∀ e∈ts,e.cells.length=sz:=by
        intro e he
        obtain ⟨q,hq,rfl⟩:=List.getElem_of_mem he
        obtain ⟨e',he',hge⟩:=hget q ts[q] (by simp [hq])
        rcases r.arr _ _ _ _ hb with ⟨_,rfl⟩|⟨k,c,el,hk,hh,hwf,_,_⟩
        · simp at he'
        · rw [(gr_cells hge).1];exact hwf _ (List.mem_of_getElem? he')
      rw [← hlts]
      rcases r.arr _ _ _ _ hb with ⟨hk0,rfl⟩|⟨k,c,el,hk,hh,hwfV,hsz,hcells⟩
      · have:ts=[]:=by
          have:len=0:=by simp at c1;omega
          exact List.eq_nil_of_length_eq_zero (by omega)
        subst this
        exact .sl 0 0 (fun _=>undef) (by simp) hwf (by omega) (by simp [flatT]) (by simp [flatT]) (by simp [flatT])
      · have hidx:∀ (i:Nat) (t':T),(flatT ts)[i]?=some t'→∃ x d',c[off*sz+i]?=some x∧d'≤d∧x.oneCell'=true∧∃ vc,RV γ H I w vc x∧gr n H d' vc=some t':=by
          intro i t' hi
          have hi':i < ts.length*sz:=by rw [← flatT_len hwf];exact (List.getElem?_eq_some_iff.1 hi).1
          obtain ⟨s1,s2,s3⟩:=flat_split hi'
          rw [s3,flatT_get hwf (i / sz) ts[i / sz] (by simp [s1]) (i % sz) s2] at hi
          obtain ⟨e,he,hge⟩:=hget (i / sz) ts[i / sz] (by simp [s1])
          obtain ⟨vc,d',hvc,hd',hg'⟩:=(gr_cells hge).2 _ _ hi
          have hfl:=flatV_get hwfV (off+i / sz) e he (i % sz) s2
          rw [hvc] at hfl
          obtain ⟨x,hx,hone,hrv⟩:=hcells _ _ hfl
          refine ⟨x,d',?_,hd',hone,vc,hrv,hg'⟩
          rw [← hx];congr 1;rw [Nat.add_mul];omega
        refine .sl k (off*sz) (fun i=>c.getD (off*sz+i) undef) (fun hne=>?_) hwf (by omega) (fun i t' hi=>?_) (fun i t' hi=>?_) (fun i t' hi=>?_)
        · rcases c2 with ⟨_,_,_,h0⟩|⟨k',hk',ha,_⟩
          · exfalso;apply hne;exact List.eq_nil_of_length_eq_zero (by omega)
          · rw [hk] at hk';cases hk'
            have hp:0 < ts.length:=List.length_pos_iff.2 hne
            rcases ha with ha|ha
            · omega
            · exact ⟨ha,hL _ _ _ _ _ hn hb hk⟩
        · obtain ⟨x,d',hx,_⟩:=hidx i t' hi
          simp only [World.cell?,hh]
          simp [hx]
        · obtain ⟨x,d',hx,_,hone,_⟩:=hidx i t' hi
          have:c.getD (off*sz+i) undef=x:=by simp [hx]
          rw [this];exact hone
        · obtain ⟨x,d',hx,hd',_,vc,hrv,hg'⟩:=hidx i t' hi
          have:c.getD (off*sz+i) undef=x:=by simp [hx]
          rw [this]
          exact ih d' (by omega) vc t' x hg' hrv
  | ag cs =>
    cases d with
    | zero=>simp [gr] at hg
    | succ d =>
      simp only [gr] at hg
      cases ho:optL (cs.map (gr n H d)) with
      | none=>rw [ho] at hg;simp at hg
      | some ts =>
        rw [ho] at hg;simp at hg;subst hg
        have hts:=optL_some ho
        have hl:cs.length=ts.length:=by simpa using congrArg List.length hts
        cases hv with
        | ag hvl h1 hr =>
          refine .ag (by omega) h1 (fun i t ht=>?_)
          have h2:=congrArg (·[i]?) hts
          simp only [List.getElem?_map,ht,Option.map_some] at h2
          cases he:cs[i]? with
          | none=>rw [he] at h2;simp at h2
          | some e=>rw [he] at h2;simp at h2;exact ih d (by omega) e t _ h2 (hr i e he)
  | _=>cases d <;> simp [gr] at hg
end Go.Aw
namespace Go.Aw
inductive V.lt (n:Nat):V→Prop where
  | g {t:T}:V.lt n (.g t)
  | any:V.lt n .any
  | nil {sz:Nat}:V.lt n (.nil sz)
  | own {b g off len:Nat} (h:b < n):V.lt n (.own b g off len)
  | pa {b g i off:Nat} (h:b < n):V.lt n (.pa b g i off)
  | ra {sz:Nat} {es:List T} {i off:Nat}:V.lt n (.ra sz es i off)
  | fn {f:Nat} {cs:List V} (h:∀ (i:Nat) (v:V),cs[i]?=some v→V.lt n v):V.lt n (.fn f cs)
  | ag {cs:List V} (h:∀ (i:Nat) (v:V),cs[i]?=some v→V.lt n v):V.lt n (.ag cs)
  | tu {cs:List V} (h:∀ (i:Nat) (v:V),cs[i]?=some v→V.lt n v):V.lt n (.tu cs)
  | mp {b:Nat} (h:b < n):V.lt n (.mp b)
def Blk.lt (n:Nat):Blk→Prop
  | .arr _ _ es=>∀ (i:Nat) (v:V),(flatV es)[i]?=some v→v.lt n
  | .mp _=>True
section
variable {γ γ':List (Option Nat)} {H H':List Blk} {I I' I1:Nat→Prop} {w w':World}
theorem lt_of_get {α:Type} {l:List α} {i:Nat} {x:α} (h:l[i]?=some x):i < l.length:=(List.getElem?_eq_some_iff.1 h).1
theorem RV.lt {v:V} {x:Value} (h:RV γ H I w v x):v.lt H.length:=by
  induction h with
  | g _=>exact .g
  | any=>exact .any
  | nil=>exact .nil
  | own hb _ _ _=>exact .own (lt_of_get hb)
  | pa hb _ _=>exact .pa (lt_of_get hb)
  | ra=>exact .ra
  | fn _ _ ih=>exact .fn ih
  | ag _ _ _ ih=>exact .ag ih
  | tu _ _ ih=>exact .tu ih
  | mp hb _=>exact .mp (lt_of_get hb)
theorem RelH.lt (r:RelH γ I w H) {b:Nat} {x:Blk} (hb:H[b]?=some x):x.lt H.length:=by
  cases x with
  | mp=>trivial
  | arr g sz es =>
    intro i v hv
    rcases r.arr _ _ _ _ hb with ⟨_,rfl⟩|⟨k,c,el,_,_,_,_,hc⟩
    · simp [flatV] at hv
    · obtain ⟨x,_,_,hx⟩:=hc i v hv;exact hx.lt
theorem RV.take {L:List Blk} {v:V} {x:Value} (h:RV γ (H++L) I w v x) (hv:v.lt H.length) (hI:∀ k,I k→I1 k) :
    RV (γ.take H.length) H I1 w v x:=by
  induction h with
  | g h=>exact .g (h.mono hI (fun _ _=>rfl))
  | any=>exact .any
  | nil=>exact .nil
  | own hb hg hl hc =>
    cases hv with|own hlt =>
    rw [List.getElem?_append_left hlt] at hb
    refine .own hb hg hl (fun e=>⟨(hc e).1,?_⟩)
    rw [List.getElem?_take,if_pos hlt];exact (hc e).2
  | pa hb hg hc =>
    cases hv with|pa hlt =>
    rw [List.getElem?_append_left hlt] at hb
    refine .pa hb hg (fun e=>⟨(hc e).1,?_⟩)
    rw [List.getElem?_take,if_pos hlt];exact (hc e).2
  | ra k o vs hi hIk hw hc h1 hr=>exact .ra k o vs hi (hI _ hIk) hw hc h1 (fun i t ht=>(hr i t ht).mono hI (fun _ _=>rfl))
  | fn hl _ ih=>cases hv with|fn hh=>exact .fn hl (fun i t ht=>ih i t ht (hh i t ht))
  | ag hl h1 _ ih=>cases hv with|ag hh=>exact .ag hl h1 (fun i t ht=>ih i t ht (hh i t ht))
  | tu hl _ ih=>cases hv with|tu hh=>exact .tu hl (fun i t ht=>ih i t ht (hh i t ht))
  | mp hb hk =>
    cases hv with|mp hlt =>
    rw [List.getElem?_append_left hlt] at hb
    exact .mp hb (by rw [List.getElem?_take,if_pos hlt];exact hk)
theorem RelH.take {L:List Blk} (r:RelH γ I w (H++L)) (hc:∀ (b:Nat) (x:Blk),H[b]?=some x→x.lt H.length)
    (hI:∀ k,I k→I1 k) (hI1:∀ k,I1 k→(∃ (c:Array Value) (el:TypeId) (fr:Nat×Nat),w.heap[k]?=some (Obj.cells c el fr))∧∀ b:Nat,b < H.length→γ[b]?≠some (some k)) :
    RelH (γ.take H.length) I1 w H where
  len:=by have:=r.len;simp at this ⊢;omega
  arr:=by
    intro b g sz es hb
    have hlt:=lt_of_get hb
    rcases r.arr b g sz es (by rw [List.getElem?_append_left hlt];exact hb) with ⟨h1,h2⟩|⟨k,c,el,h1,h2,h3,h4,h5⟩
    · exact .inl ⟨by rw [List.getElem?_take,if_pos hlt];exact h1,h2⟩
    · refine .inr ⟨k,c,el,by rw [List.getElem?_take,if_pos hlt];exact h1,h2,h3,h4,fun i v hv=>?_⟩
      obtain ⟨x,hx,h6,hr⟩:=h5 i v hv
      exact ⟨x,hx,h6,hr.take (hc b _ hb i v hv) hI⟩
  mp:=by
    intro b kvs hb
    have hlt:=lt_of_get hb
    obtain ⟨k,es,cl,h1,h2,h3⟩:=r.mp b kvs (by rw [List.getElem?_append_left hlt];exact hb)
    exact ⟨k,es,cl,by rw [List.getElem?_take,if_pos hlt];exact h1,h2,h3⟩
  inj:=by
    intro b b' k h1 h2
    rw [List.getElem?_take] at h1 h2
    split at h1 <;> split at h2 <;> first|exact r.inj b b' k h1 h2|simp at h1|simp at h2
  off:=by
    intro b k h1
    rw [List.getElem?_take] at h1
    split at h1
    · rename_i hlt;exact ⟨fun h=>(hI1 k h).2 b hlt h1,(r.off b k h1).2⟩
    · simp at h1
  imm:=fun k h=>(hI1 k h).1
end
def retV (ts:List Nat) (t:List V):V:=match ts with
  | [x]=>t.getD x .any
  | ts=>.tu (ts.map (t.getD · .any))
def retC (ts:List Nat) (a:Array Value):Value:=match ts with
  | [x]=>a.getD x undef
  | ts=>.tuple (ts.map (a.getD · undef)).toArray
theorem mapM_pureL {α β:Type} (f:α→β) (l:List α):(l.mapM (m:=Sem) fun x=>pure (f x))=pure (l.map f):=by
  induction l with
  | nil=>rfl
  | cons x l ih=>rw [List.mapM_cons,ih];rfl
theorem results_ts {fn:Func} {ts:List Nat} (h:fn.results=(ts.map ResultVar.tmp).toArray) (a:Array Value) (P:Program) (w:World) :
    (results fn a).run P w=.ok (retC ts a) w:=by
  unfold results
  rw [h,List.mapM_toArray,List.mapM_map]
  have e:=mapM_pureL (fun t=>a.getD t undef) ts
  simp only [map_eq_pure_bind,bind_assoc,pure_bind]
  refine (congrArg (fun m:Sem (List Value)=>(m >>= fun vs=>pure (if h:vs.toArray.size=1 then vs.toArray[0] else .tuple vs.toArray):Sem Value).run P w) e).trans ?_
  match ts with
  | []=>rfl
  | [x]=>rfl
  | x::y::l=>simp [retC,pure,bind,Sem.bind]
end Go.Aw
namespace Go.Aw
def Ends (H:List Blk) (R:V→List Blk→Prop) (v:V) (h':List Blk):Prop :=
  ∀ γ I w γ' I' w' x,RelH γ I w H→RelH γ' I' w' h'→RV γ' h' I' w' v x→Ext γ H I w γ' h' I' w' →
    ∃ r H1 γ1 I1,R r H1∧RelH γ1 I1 w' H1∧RV γ1 H1 I1 w' r x∧Ext γ H I w γ1 H1 I1 w'
theorem getD_eq {α:Type} {l:List α} {i:Nat} {d v:α} (h:l[i]?=some v):l.getD i d=v:=by simp [h]
section
variable {γ:List (Option Nat)} {H:List Blk} {I:Nat→Prop} {w w':World}
structure ButD (γ:List (Option Nat)) (I:Nat→Prop) (lo:Nat) (w w':World):Prop where
  os:w'.os=w.os
  tape:w'.tape=w.tape
  output:w'.output=w.output
  size:w'.heap.size=w.heap.size
  heap:∀ k:Nat,w'.heap[k]?=w.heap[k]?∨(lo≤k∧w.heap[k]?=some (.deferred (some []))∧¬ I k∧∀ b:Nat,γ[b]?≠some (some k))
theorem ButD.imm {lo:Nat} (h:ButD γ I lo w w') {k:Nat} (hk:I k):w'.heap[k]?=w.heap[k]?:=(h.heap k).resolve_right fun h=>h.2.2.1 hk
theorem ButD.cells {lo:Nat} (h:ButD γ I lo w w') {k:Nat} {c:Array Value} {el:TypeId} {fr:Nat×Nat} (hk:w.heap[k]?=some (.cells c el fr)):w'.heap[k]?=some (.cells c el fr):=by
  rcases h.heap k with h1|h1
  · rw [h1];exact hk
  · rw [h1.2.1] at hk;cases hk
theorem ButD.map {lo:Nat} (h:ButD γ I lo w w') {k cl:Nat} {es:Array MapEntry} (hk:w.heap[k]?=some (.map es cl)):w'.heap[k]?=some (.map es cl):=by
  rcases h.heap k with h1|h1
  · rw [h1];exact hk
  · rw [h1.2.1] at hk;cases hk
theorem ButD.rv {lo:Nat} (h:ButD γ I lo w w') {v:V} {x:Value} (hv:RV γ H I w v x):RV γ H I w' v x:=by
  induction hv with
  | g hv=>exact .g (hv.mono (fun _ h=>h) (fun _ hk=>h.imm hk))
  | any=>exact .any
  | nil=>exact .nil
  | own hb hg hl hc=>exact .own hb hg hl (fun e=>⟨(hc e).1,(hc e).2.imp id fun ⟨k,c3,c4,⟨c,el,fr,c5,c6⟩⟩=>⟨k,c3,c4,⟨c,el,fr,h.cells c5,c6⟩⟩⟩)
  | pa hb hg hc=>exact .pa hb hg hc
  | ra k o vs hi hI hw hc h1 hr =>
    refine .ra k o vs hi hI hw (fun i t ht=>?_) h1 (fun i t ht=>(hr i t ht).mono (fun _ h=>h) (fun _ hk=>h.imm hk))
    rw [← hc i t ht];simp [World.cell?,h.imm hI]
  | fn hl _ ih=>exact .fn hl ih
  | ag hl h1 _ ih=>exact .ag hl h1 ih
  | tu hl _ ih=>exact .tu hl ih
  | mp hb hk=>exact .mp hb hk
theorem ButD.rel {lo:Nat} (h:ButD γ I lo w w') (r:RelH γ I w H):RelH γ I w' H where
  len:=r.len
  arr:=fun b g sz es hb=>by
    rcases r.arr b g sz es hb with h0|⟨k,c,el,h1,h2,h3,h4,h5⟩
    · exact .inl h0
    · exact .inr ⟨k,c,el,h1,h.cells h2,h3,h4,fun i v hv=>by obtain ⟨x,x1,x2,x3⟩:=h5 i v hv;exact ⟨x,x1,x2,h.rv x3⟩⟩
  mp:=fun b kvs hb=>by
    obtain ⟨k,es,cl,h1,h2,h3⟩:=r.mp b kvs hb
    exact ⟨k,es,cl,h1,h.map h2,h3⟩
  inj:=r.inj
  off:=fun b k hb=>by rw [h.size];exact r.off b k hb
  imm:=fun k hk=>by obtain ⟨c,el,fr,h1⟩:=r.imm k hk;exact ⟨c,el,fr,h.cells h1⟩
theorem ButD.ext {γ0:List (Option Nat)} {H0:List Blk} {I0:Nat→Prop} {w0:World} (h:ButD γ I w0.heap.size w w') (x:Ext γ0 H0 I0 w0 γ H I w):Ext γ0 H0 I0 w0 γ H I w' where
  os:=h.os.trans x.os
  tape:=h.tape.trans x.tape
  output:=h.output.trans x.output
  size:=by rw [h.size];exact x.size
  sub:=x.sub
  sub':=x.sub'
  frame:=fun k hk hb=>by
    rcases h.heap k with h1|h1
    · rw [h1];exact x.frame k hk hb
    · omega
  rows:=fun k n hr=>by
    obtain ⟨c,el,fr,h1,h2⟩:=x.rows k n hr
    exact ⟨c,el,fr,h.cells h1,h2⟩
  blk:=x.blk
  new:=x.new
theorem leaves_marks {P:Program} {fn:Func} {tmps:Array Value} {R:Ending→World→Prop} {lo:Nat}:∀ (Ds:List Nat) (w:World),Ds.Nodup→(∀ D∈Ds,D < w.heap.size∧w.heap[D]?=some (.deferred (some []))∧¬ I D∧∀ b:Nat,γ[b]?≠some (some D)) →
    (∀ D∈Ds,lo≤D)→(∀ w',ButD γ I lo w w'→LeavesIn Fence.wide 0 P fn tmps R [] .returning w')→LeavesInM Fence.wide 0 P fn tmps R (Ds.map mkD) .returning w
  | [],w,_,_,_,h=>h w ⟨rfl,rfl,rfl,rfl,fun _=>.inl rfl⟩
  | D::Ds,w,hn,hD,hlo,h=>by
    obtain ⟨d1,d2,d3,d4⟩:=hD D (by simp)
    rw [List.nodup_cons] at hn
    have hoth:∀ k,k≠D→(w.putObj D (.deferred none)).heap[k]?=w.heap[k]?:=fun k hk=>by
      simp only [World.putObj,Array.getElem?_setIfInBounds];rw [if_neg (fun e=>hk e.symm)]
    have hsz:(w.putObj D (.deferred none)).heap.size=w.heap.size:=by simp [World.putObj]
    refine ⟨by simp,.inl ⟨D,_,rfl,run_takeDeferred d2,leaves_marks Ds _ hn.2 (fun D' hD'=>?_) (fun D' hD'=>hlo D' (by simp [hD'])) fun w' hw'=>h w' ?_⟩⟩
    · have hne:D'≠D:=fun e=>hn.1 (e▸hD')
      obtain ⟨a,b,c,d⟩:=hD D' (by simp [hD'])
      exact ⟨by rw [hsz];exact a,by rw [hoth D' hne];exact b,c,d⟩
    · refine ⟨hw'.os,hw'.tape,hw'.output,by rw [hw'.size,hsz],fun k=>?_⟩
      by_cases hk:k=D
      · subst hk;exact .inr ⟨hlo k (by simp),d2,d3,d4⟩
      · rcases hw'.heap k with h1|h1
        · exact .inl (by rw [h1,hoth k hk])
        · rw [hoth k hk] at h1;exact .inr h1
end
theorem ACalls.of_body {P:Program} {f:Nat} {fn:Func} {c:Code} {args:List V} {H:List Blk} {R:V→List Blk→Prop} (ts:List Nat)
    (hf:P.funcs[f]?=some fn) (hnm:(fn.name == "runtime.NumGoroutine")=false) (hb:fn.body=some c) (hres:fn.results=(ts.map ResultVar.tmp).toArray)
    (h:AW H.length P c (fun e s'=>match e with|.ret|.normal=>Ends H R (retV ts s'.t) s'.h|_=>False) ⟨args++List.replicate (fn.ntmps-args.length) .any,H⟩) :
    ACalls P f args H R:=by
  refine ⟨⟨fn,hf,hnm,by rw [hb];rfl⟩,?_⟩
  intro γ I w vs r hl hv
  refine callsIn_wide.1 (callsIn_of_wp_marks (F:=Fence.wide) (n:=0) hf hb trivial (wpIn_wide.2 (wp_mono (h γ I w _ ⟨.none,?_,?_,r⟩) ?_)))
  · simp [hl]
  · intro i v hi
    rcases Nat.lt_or_ge i args.length with hlt|hge
    · rw [List.getElem?_append_left hlt] at hi
      have:=hv i v hi
      have e:(vs.toArray++Array.replicate (fn.ntmps-vs.toArray.size) undef).getD i undef=vs.getD i undef:=by
        simp [Array.getElem?_append,hl,hlt]
      rw [e];exact this
    · rw [List.getElem?_append_right hge] at hi
      rw [List.getElem?_replicate] at hi
      split at hi
      · cases hi;exact .any
      · simp at hi
  · intro e a' w' ⟨s',γ',I',q,r',x1,nd⟩
    have x':=x1.full
    have hret:∀ (_:Ends H R (retV ts s'.t) s'.h),bodyPostM Fence.wide 0 P fn (fun e w'=>∃ r x H' γ' I',e=.returned x∧R r H'∧RelH γ' I' w' H'∧RV γ' H' I' w' r x∧Ext γ H I w γ' H' I' w') .ret a' w':=by
      intro he
      have hrv:RV γ' s'.h I' w' (retV ts s'.t) (retC ts a'.tmps):=by
        have one:∀ t,RV γ' s'.h I' w' (s'.t.getD t .any) (a'.tmps.getD t undef):=by
          intro t
          cases ht:s'.t[t]? with
          | none=>rw [List.getD_eq_getElem?_getD,ht];exact .any
          | some v=>rw [getD_eq ht];exact r'.tmps t v ht
        have many:RV γ' s'.h I' w' (.tu (ts.map (s'.t.getD · .any))) (.tuple (ts.map (a'.tmps.getD · undef)).toArray):=by
          refine .tu (by simp) (fun i t ht=>?_)
          rw [List.getElem?_map] at ht
          cases hi:ts[i]? with
          | none=>rw [hi] at ht;simp at ht
          | some y =>
            rw [hi] at ht;simp only [Option.map_some,Option.some.injEq] at ht;subst ht
            have:(ts.map (a'.tmps.getD · undef)).getD i undef=a'.tmps.getD y undef:=by
              rw [List.getD_eq_getElem?_getD,List.getElem?_map,hi];rfl
            rw [this];exact one y
        match ts with
        | []=>exact many
        | [t]=>exact one t
        | _::_::_=>exact many
      obtain ⟨Ds,e1,hlo⟩:=nd
      obtain ⟨e2,e3⟩:=(show Inert γ' I' w' (Ds.map mkD++[]) from e1▸r'.defers).ex
      simp only [List.append_nil] at e1
      show LeavesInM Fence.wide 0 P fn a'.tmps _ a'.defers .returning w'
      rw [e1]
      refine leaves_marks (γ:=γ') (I:=I') (lo:=w.heap.size) Ds w' e2 e3 hlo fun w2 hw=>?_
      · obtain ⟨r1,H1,γ1,I1,k1,k2,k3,k4⟩:=he γ I w γ' I' w2 _ r (hw.rel r'.heap) (hw.rv hrv) (hw.ext x')
        exact ⟨_,results_ts hres _ _ _,r1,_,H1,γ1,I1,rfl,k1,k2,k3,k4⟩
    cases e with
    | ret=>exact hret q
    | normal=>exact hret q
    | _=>exact q.elim
theorem Ends.keep {H:List Blk} {R:V→List Blk→Prop} {v:V} {h':List Blk} (h:R v h'):Ends H R v h' :=
  fun _ _ _ γ' I' _ _ _ r' hv x=>⟨v,h',γ',I',h,r',hv,x⟩
def frz (I:Nat→Prop) (γ:List (Option Nat)) (H:List Blk) (n k:Nat):Prop:=I k∨∃ (b g sz:Nat) (es:List V),n≤b∧H[b]?=some (.arr g sz es)∧γ[b]?=some (some k)
theorem Ext.take {γ γ':List (Option Nat)} {H H2 L:List Blk} {I I':Nat→Prop} {w w':World} (x:Ext γ H I w γ' (H2++L) I' w') (_r:RelH γ I w H)
    (hn:H2.length=H.length) :
    Ext γ H I w (γ'.take H2.length) H2 (frz I' γ' (H2++L) H2.length) w' where
  os:=x.os
  tape:=x.tape
  output:=x.output
  size:=x.size
  sub:=fun k hk=>.inl (x.sub k hk)
  sub':=fun k hk=>by
    rcases hk with hk|⟨b,_,_,_,hb,_,hk⟩
    · exact x.sub' k hk
    · exact .inr (x.new b k hk)
  frame:=x.frame
  rows:=x.rows
  blk:=fun b y hy=>by
    obtain ⟨y',hy',u,s⟩:=x.blk b y hy
    have hb:b < H2.length:=by have:=lt_of_get hy;omega
    rw [List.getElem?_append_left hb] at hy'
    refine ⟨y',hy',u,fun e=>?_⟩
    rw [List.getElem?_take,if_pos hb];exact s e
  new:=fun b k hk=>by
    rw [List.getElem?_take] at hk
    split at hk
    · exact x.new b k hk
    · simp at hk
theorem Ends.drop {H H2 L:List Blk} {R:V→List Blk→Prop} {v v':V} (hn:H2.length=H.length)
    (hc:∀ (b:Nat) (x:Blk),H2[b]?=some x→x.lt H.length∨H[b]?=some x)
    (hv:∀ γ I I1 w x,RelH γ I w (H2++L)→(∀ k,I k→I1 k)→(∀ (b k g sz:Nat) (es:List V),H2.length≤b→(H2++L)[b]?=some (.arr g sz es)→γ[b]?=some (some k)→I1 k)→RV γ (H2++L) I w v x →
      RV (γ.take H2.length) H2 I1 w v' x) (h:R v' H2):Ends H R v (H2++L):=by
  intro γ I w γ' I' w' x r r' hx e
  refine ⟨v',H2,γ'.take H2.length,frz I' γ' (H2++L) H2.length,h,?_,?_,e.take r hn⟩
  · refine r'.take (fun b y hy=>?_) (fun k hk=>.inl hk) (fun k hk=>?_)
    · rw [hn]
      rcases hc b y hy with h1|h1
      · exact h1
      · exact r.lt h1
    · rcases hk with hk|⟨b,_,_,_,hb,ha,hk⟩
      · exact ⟨r'.imm k hk,fun b' _ hb'=>(r'.off b' k hb').1 hk⟩
      · exact ⟨r'.cellsOf ha hk,fun b' hb' hk'=>by have:=r'.inj b b' k hk hk';omega⟩
  · exact hv γ' I' _ w' x r' (fun k hk=>.inl hk) (fun b k g sz es hb ha hk=>.inr ⟨b,g,sz,es,hb,ha,hk⟩) hx
theorem Ends.ground {H L:List Blk} {R:V→List Blk→Prop} {v:V} {t:T} (d:Nat) (hg:gr H.length (H++L) d v=some t) (h:R (.g t) H):Ends H R v (H++L) :=
  Ends.drop rfl (fun _ _ hx=>.inr hx) (fun _ _ _ _ x r hI hL hx=>.g (gr_sound r hI hL d v t x hg hx)) h
theorem Ends.grounds {H L:List Blk} {R:V→List Blk→Prop} {vs:List V} {ts:List T} (d:Nat) (hg:optL (vs.map (gr H.length (H++L) d))=some ts)
    (h:R (.tu (ts.map .g)) H):Ends H R (.tu vs) (H++L) :=
  Ends.drop rfl (fun _ _ hx=>.inr hx) (fun γ I I1 w x r hI hL hx=>by
    cases hx with
    | tu hl hr =>
      have hts:=optL_some hg
      have hlen:vs.length=ts.length:=by simpa using congrArg List.length hts
      refine .tu (by simp;omega) (fun i t ht=>?_)
      rw [List.getElem?_map] at ht
      cases hi:ts[i]? with
      | none=>rw [hi] at ht;simp at ht
      | some y =>
        rw [hi] at ht;simp only [Option.map_some,Option.some.injEq] at ht;subst ht
        have h2:=congrArg (·[i]?) hts
        simp only [List.getElem?_map,hi,Option.map_some] at h2
        cases he:vs[i]? with
        | none=>rw [he] at h2;simp at h2
        | some e =>
          rw [he] at h2;simp at h2
          exact .g (gr_sound r hI hL d e y _ h2 (hr i e he))) h
end Go.Aw
namespace Go.Aw
def T.scal:T→Prop
  | .sc _=>True
  | .ag cs=>∀ c∈cs,∃ v,c=.sc v
  | .sl _ _=>False
inductive V.scal:V→Prop where
  | g {t:T} (h:t.scal):V.scal (.g t)
  | tu {cs:List V} (h:∀ (i:Nat) (v:V),cs[i]?=some v→V.scal v):V.scal (.tu cs)
section
variable {γ γ':List (Option Nat)} {H H':List Blk} {I I':Nat→Prop} {w w':World}
theorem RT.scal {t:T} {x:Value} (h:RT I w t x) (hs:t.scal):RT I' w' t x:=by
  cases h with
  | sc h=>exact .sc h
  | sl=>exact hs.elim
  | ag hl h1 hr =>
    refine .ag hl h1 (fun i t ht=>?_)
    obtain ⟨v,rfl⟩:=hs t (List.mem_of_getElem? ht)
    have:=hr i _ ht
    generalize List.getD _ i undef=y at this ⊢
    cases this with|sc h=>exact .sc h
theorem RV.scal {v:V} {x:Value} (h:RV γ H I w v x) (hs:v.scal):RV γ' H' I' w' v x:=by
  induction h with
  | g h=>cases hs with|g hs=>exact .g (h.scal hs)
  | tu hl _ ih=>cases hs with|tu hs=>exact .tu hl (fun i t ht=>ih i t ht (hs i t ht))
  | _=>cases hs
theorem RelH.empty (hI:∀ k,I k→∃ (c:Array Value) (el:TypeId) (fr:Nat×Nat),w.heap[k]?=some (Obj.cells c el fr)):RelH [] I w [] :=
  ⟨rfl,fun _ _ _ _ h=>by simp at h,fun _ _ h=>by simp at h,fun _ _ _ h=>by simp at h,fun _ _ h=>by simp at h,hI⟩
theorem RV.any_heap {v:V} {x:Value} (h:RV γ H I w v x) (hv:v.lt 0):RV γ' H' I w v x:=by
  induction h with
  | g h=>exact .g h
  | any=>exact .any
  | nil=>exact .nil
  | own=>cases hv with|own h=>omega
  | pa=>cases hv with|pa h=>omega
  | ra k o vs hi hI hw hc h1 hr=>exact .ra k o vs hi hI hw hc h1 hr
  | fn hl _ ih=>cases hv with|fn hh=>exact .fn hl (fun i t ht=>ih i t ht (hh i t ht))
  | ag hl h1 _ ih=>cases hv with|ag hh=>exact .ag hl h1 (fun i t ht=>ih i t ht (hh i t ht))
  | tu hl _ ih=>cases hv with|tu hh=>exact .tu hl (fun i t ht=>ih i t ht (hh i t ht))
  | mp=>cases hv with|mp h=>omega
theorem Ext.of_empty {I1:Nat→Prop} (x:Ext [] [] I1 w γ' H' I' w') (_r:RelH γ I w H) (_hsub:∀ k,I k→I1 k)
    (J:Nat→Prop) (h1:∀ k,I k→J k) (_h2:∀ k,J k→I' k) (h3:∀ k,J k→I k∨w.heap.size≤k):Ext γ H I w γ H J w' where
  os:=x.os
  tape:=x.tape
  output:=x.output
  size:=x.size
  sub:=h1
  sub':=fun k hk=>by rcases h3 k hk with h|h;exact .inl h;exact .inr (.inl h)
  frame:=fun k hk _=>x.frame k hk (by simp)
  rows:=x.rows
  blk:=fun b y hy=>⟨y,hy,y.upto_refl,fun _=>⟨rfl,fun g sz es es' e1 e2=>by subst e1;cases e2;exact Nat.le_refl _⟩⟩
  new:=fun b _ h=>.inr ⟨b,h⟩
theorem RelH.of_ext {J:Nat→Prop} (r:RelH γ I w H) (x:Ext γ H I w γ H J w') (hw:∀ k:Nat,k < w.heap.size→w'.heap[k]?=w.heap[k]?)
    (hJ:∀ k,J k→(∃ (c:Array Value) (el:TypeId) (fr:Nat×Nat),w'.heap[k]?=some (Obj.cells c el fr))∧∀ b:Nat,γ[b]?≠some (some k)):RelH γ J w' H where
  len:=r.len
  arr:=fun b g sz es hb=>by
    rcases r.arr b g sz es hb with h|⟨k,c,el,h1,h2,h3,h4,h5⟩
    · exact .inl h
    · refine .inr ⟨k,c,el,h1,by rw [hw k (r.off b k h1).2];exact h2,h3,h4,fun i v hv=>?_⟩
      obtain ⟨y,hy,h6,hr⟩:=h5 i v hv
      exact ⟨y,hy,h6,hr.mono x r⟩
  mp:=fun b kvs hb=>by
    obtain ⟨k,es,cl,h1,h2,h3⟩:=r.mp b kvs hb
    exact ⟨k,es,cl,h1,by rw [hw k (r.off b k h1).2];exact h2,h3⟩
  inj:=r.inj
  off:=fun b k hb=>⟨fun h=>(hJ k h).2 b hb,Nat.lt_of_lt_of_le (r.off b k hb).2 x.size⟩
  imm:=fun k hk=>(hJ k hk).1
end
theorem ACalls.frame {P:Program} {f:Nat} {args:List V} {R:V→List Blk→Prop} (h:ACalls P f args [] R)
    (ha:∀ (i:Nat) (v:V),args[i]?=some v→v.lt 0) (hR:∀ r h',R r h'→h'=[]∧r.lt 0) (H:List Blk) :
    ACalls P f args H (fun r h'=>R r []∧h'=H):=by
  refine ⟨h.1,?_⟩
  intro γ I w vs r hl hv
  refine (h.2 [] I w vs (.empty r.imm) hl (fun i v hi=>(hv i v hi).any_heap (ha i v hi))).mono ?_
  rintro e w' ⟨r1,x,H',γ',I',rfl,h2,h3,h4,h5⟩
  obtain ⟨rfl,hlt⟩:=hR _ _ h2
  have hg:γ'=[]:=List.eq_nil_of_length_eq_zero h3.len
  subst hg
  have hJ:∀ k,I' k→I k∨w.heap.size≤k:=fun k hk=>by
    rcases h5.sub' k hk with h|h|⟨b,h⟩
    · exact .inl h
    · exact .inr h
    · simp at h
  have hx:=h5.of_empty r (fun _ h=>h) I' h5.sub (fun _ h=>h) hJ
  refine ⟨r1,x,H,γ,I',rfl,⟨h2,rfl⟩,r.of_ext hx (fun k hk=>h5.frame k hk (by simp)) (fun k hk=>⟨h3.imm k hk,fun b hb=>?_⟩),h4.any_heap hlt,hx⟩
  rcases hJ k hk with h|h
  · exact (r.off b k hb).1 h
  · have:=(r.off b k hb).2;omega
theorem ACalls.lend {P:Program} {f:Nat} {ts:List T} {R:V→List Blk→Prop} (h:ACalls P f (ts.map .g) [] R)
    (hR:∀ r h',R r h'→h'=[]∧r.scal) (H:List Blk) (args:List V) (d:Nat) (ha:optL (args.map (gr 0 H d))=some ts) :
    ACalls P f args H (fun r h'=>R r []∧h'=H):=by
  refine ⟨h.1,?_⟩
  intro γ I w vs r hl hv
  have hts:=optL_some ha
  have hlen:args.length=ts.length:=by simpa using congrArg List.length hts
  have hI1:∀ k,(I k∨∃ (b g sz:Nat) (es:List V),H[b]?=some (.arr g sz es)∧γ[b]?=some (some k))→∃ (c:Array Value) (el:TypeId) (fr:Nat×Nat),w.heap[k]?=some (Obj.cells c el fr):=fun k hk=>by
    rcases hk with hk|⟨b,_,_,_,hb,hk⟩
    · exact r.imm k hk
    · exact r.cellsOf hb hk
  refine (h.2 [] (fun k=>I k∨∃ (b g sz:Nat) (es:List V),H[b]?=some (.arr g sz es)∧γ[b]?=some (some k)) w vs (.empty hI1) (by simp;omega) (fun i v hi=>?_)).mono ?_
  · rw [List.getElem?_map] at hi
    cases ht:ts[i]? with
    | none=>rw [ht] at hi;simp at hi
    | some t =>
      rw [ht] at hi;simp only [Option.map_some,Option.some.injEq] at hi;subst hi
      have h2:=congrArg (·[i]?) hts
      simp only [List.getElem?_map,ht,Option.map_some] at h2
      cases he:args[i]? with
      | none=>rw [he] at h2;simp at h2
      | some e =>
        rw [he] at h2;simp at h2
        exact .g (gr_sound r (fun k hk=>.inl hk) (fun b k g sz es _ hb hk=>.inr ⟨b,g,sz,es,hb,hk⟩) d e t _ h2 (hv i e he))
  · rintro e w' ⟨r1,x,H',γ',I',rfl,h2,h3,h4,h5⟩
    obtain ⟨rfl,hs⟩:=hR _ _ h2
    have hx:=h5.of_empty r (fun _ h=>.inl h) I (fun _ h=>h) (fun k h=>h5.sub k (.inl h)) (fun _ h=>.inl h)
    exact ⟨r1,x,H,γ,I,rfl,⟨h2,rfl⟩,r.of_ext hx (fun k hk=>h5.frame k hk (by simp)) (fun k hk=>⟨r.immx (fun k hk=>h5.frame k (r.immlt hk) (by simp)) k hk,fun b hb=>(r.off b k hb).1 hk⟩),h4.scal hs,hx⟩
end Go.Aw
namespace Go.Aw
inductive X where
  | t (n:Nat)
  | c (v:Value)
  | n (sz:Nat)
  | f (f:Nat)
  | a (vs:List V)
  deriving Inhabited
inductive SO where
  | mv (x:X)
  | pick (c a b:X)
  | bin (op:BinOp) (x y:X)
  | binw (op:BinOp) (x y:X)
  | bool2 (neg:Bool) (x y:X)
  | un (op:UnOp) (x:X)
  | box (sz:Nat) (x:X)
  | new (sz:Nat) (z:V)
  | build (z:List V) (parts:List (Nat×Nat×X))
  | bsl (sz:Nat) (parts:List X)
  | load (n:Option Nat) (a:X)
  | store (n:Nat) (a x:X)
  | nilc (x:X)
  | conv (k:IntKind) (x:X)
  | cvs (x:X)
  | mkf (f:Nat) (caps:List X)
  | mks (sz bytes:Nat) (z:V) (l:X)
  | slc (sz:Nat) (x:X) (lo hi:Option X)
  | slcs (x:X) (lo hi:Option X)
  | fa (off:Nat) (x:X)
  | fld (off:Nat) (n:Option Nat) (x:X)
  | ia (sz:Nat) (x i:X)
  | ixs (x i:X)
  | ext (x:X) (i:Nat)
  | call (f:X) (args:List X)
  | len (x:X)
  | lens (x:X)
  | app (sz bytes:Nat) (x y:X)
  | minmax (isMin:Bool) (x y:X)
  | eqnil (neg:Bool) (x:X)
  | ldr (n:Option Nat) (a:X)
  | qcall (f:X) (args:List X)
  | fcall (f:X) (args:List X)
  | cap (x:X)
  | appz (sz bytes:Nat) (z:V) (x l:X)
  | cpy (sz:Nat) (x y:X)
  | clr (sz:Nat) (z:V) (x:X)
  | iar (sz:Nat) (x i:X)
  | slcr (sz:Nat) (x:X) (lo hi:Option X)
  | bslg (sz:Nat) (parts:List X)
  | aeq (neg:Bool) (ks:List Nat) (x y:X)
  | aia (len sz:Nat) (x i:X)
  | mkm
  | lku (kk:Bool×List Nat) (ok:Bool) (z:Value) (x k:X)
  | mup (kk:Bool×List Nat) (m k x:X)
  | mpe (kk:Bool×List Nat) (z:Value) (m k:X)
  | est (m s x:X)
  | lenm (x:X)
  | bslo (sz:Nat) (parts:List X)
  | ldz (n:Option Nat) (sz:Nat) (a:X)
  | iaz (sz:Nat) (x i:X)
  | gcall (f:X) (args:List X)
  | acall (f:X) (args:List X)
  | pcall (f:X) (args:List X)
  | mksA (e sz bytes:Nat) (z:V) (l:X)
  | newA (e sz:Nat) (z:V)
  | hol (szs:List Nat)
  | stz (n bz:Nat) (a x:X)
  | tas (ty:Nat) (x:X)
  | bad
  deriving Inhabited
structure SOp where
  d:Option Nat
  g:Option (Nat×Bool)
  o:SO
  deriving Inhabited
inductive SC where
  | skip|ret
  | exit (id:Nat)|goto (l:Nat)|label (l:Nat)
  | seq (a b:SC)
  | cond (c:X) (a b:SC)
  | block (id:Nat) (c:SC)
  | loop (c:SC)
  | scope (c:SC)
  | reg (ops:List SOp)
  | rf (x:X) (p d:Nat) (b:SC)
  deriving Inhabited
def V.isT:V→Option T
  | .g t=>some t
  | _=>none
def mkAg (cs:List V):V:=match optL (cs.map V.isT) with
  | some ts=>.g (.ag ts)
  | none=>.ag cs
def asAg:V→Option (List V)
  | .g (.ag ts)=>some (ts.map .g)
  | .ag cs=>some cs
  | _=>none
def cellKinds (P:Program):Nat→TypeId→Option (List (Option Nat))
  | 0,_=>none
  | d+1,t=>match P.underlying t with
    | some (.struct fs)=>(optL (fs.toList.map fun f=>cellKinds P d f.type)).map List.flatten
    | some (.slice e)=>(P.info? e).map fun i=>[some i.size]
    | some (.array n e)=>(cellKinds P d e).map fun k=>(List.replicate n k).flatten
    | some _=>some [none]
    | none=>none
def lit1:Option Nat→Value→Option V
  | some sz,.slice none 0 0=>some (.nil sz)
  | none,.slice ..=>none
  | none,v=>if v.oneCell'=true then some (.g (.sc v)) else none
  | _,_=>none
def zipLit:List (Option Nat)→List Value→Option (List V)
  | [],[]=>some []
  | k::ks,v::vs=>(lit1 k v).bind fun x=>(zipLit ks vs).map (x::·)
  | _,_=>none
def litV (P:Program) (t:TypeId) (v:Value):Option (List V):=(cellKinds P 20 t).bind fun ks=>zipLit ks v.cells.toList
def zeroVs (P:Program) (t:TypeId):Option (List V):=(P.info? t).bind fun i=>i.zero.bind fun z=>litV P t z
def aggB (P:Program) (t:TypeId):Bool:=match P.underlying t with
  | some (.struct _)|some (.array ..)=>true
  | _=>false
def aggO (P:Program) (t:TypeId):Option Bool:=(P.underlying t).map fun d=>match d with|.struct _|.array ..=>true|_=>false
def zeroV (P:Program) (t:TypeId):Option V:=(zeroVs P t).bind fun vs=>if aggB P t then some (mkAg vs) else match vs with|[v]=>some v|_=>none
def szOf (P:Program) (t:TypeId):Option Nat:=(P.info? t).map (·.size)
def bytesIn (P:Program) (t:TypeId):Option Nat:=(P.info? t).map (·.bytes)
def elemOfS (P:Program) (t:TypeId):Option TypeId:=match P.underlying t with|some (.slice e)=>some e|_=>none
def slimX (P:Program) (ty:TypeId):Operand→Option X
  | .tmp n=>some (.t n)
  | .func f=>some (.f f)
  | .global _=>none
  | .const v=>match v with
    | .slice none 0 0=>((elemOfS P ty).bind (szOf P)).map .n
    | .agg cs=>if aggB P ty then (litV P ty (.agg cs)).map .a else none
    | .slice ..=>none
    | v=>if v.oneCell'=true then some (.c v) else none
def slimXs (P:Program) (tys:List TypeId) (xs:List Operand):Option (List X):=optL ((List.range xs.length).map fun i=>slimX P (tys.getD i 0) (xs.getD i default))
def one1:Nat→List X→Bool
  | 1,[.t _]=>true
  | 1,[.c (.int .i64 0)]=>true
  | 3,[.t _]=>true
  | 5,[.t _]=>true
  | _,_=>false
def ikN:IntKind→Nat
  | .i8=>3|.i16=>4|.i32=>5|.i64=>6|.u8=>7|.u16=>8|.u32=>9|.u64=>10
def scalD:TypeDesc→Option Nat
  | .bool=>some 0
  | .int k=>some (ikN k)
  | .string=>some 2
  | _=>none
def slimO0 (P:Program) (wr:Nat) (o:Oper):Option SO :=
  match o.op with
  | .move x|.assign x=>(slimX P o.type x).map .mv
  | .pick c a b=>(slimX P 0 c).bind fun c=>(slimX P o.type a).bind fun a=>(slimX P o.type b).map fun b=>.pick c a b
  | .binOp op ty x y _=>(slimX P ty x).bind fun x=>(slimX P ty y).bind fun y =>
    match op,P.underlying ty with
    | .eql,some .bool=>some (.bool2 false x y)
    | .neq,some .bool=>some (.bool2 true x y)
    | .eql,some (.slice _)=>match y with|.n _=>some (.eqnil false x)|_=>none
    | .neq,some (.slice _)=>match y with|.n _=>some (.eqnil true x)|_=>none
    | _,some (.int _)=>some (if Nat.beq wr 1 then .binw op x y else .bin op x y)
    | _,some .string=>some (.bin op x y)
    | _,_=>none
  | .unOp op _ x=>(slimX P 0 x).map (.un op)
  | .box e x=>(slimX P e x).bind fun x=>(szOf P e).map fun n=>.box n x
  | .alloc e=>(szOf P e).bind fun n=>(zeroV P e).map (.new n)
  | .build t parts=>match P.underlying t with
    | some (.struct fs)=>(zeroVs P t).bind fun z=>(optL (fs.toList.map fun f=>szOf P f.type)).bind fun _ =>
      (optL (parts.toList.map fun p=>(fs[p.1]?).bind fun f=>(szOf P f.type).bind fun n=>(slimX P f.type p.2).map fun x=>(f.offset,n,x))).map fun ps=>.build z ps
    | _=>none
  | .buildSlice t len parts=>(elemOfS P t).bind fun e=>(szOf P e).bind fun n=>(zeroVs P e).bind fun _ =>
    if parts.toList.map (·.1)=List.range len∧len*n≤2 ^ 24∧0 < n then
      (optL (parts.toList.map fun p=>slimX P e p.2)).map fun ps=>if (Nat.beq wr 2 || Nat.beq wr 4) && one1 n ps then .bslo n ps else .bsl n ps else none
  | .load t a=>(slimX P 0 a).bind fun a=>(aggO P t).bind fun g=>if g then (szOf P t).map fun n=>.load (some n) a else some (.load none a)
  | .store t a x=>(slimX P 0 a).bind fun a=>(slimX P t x).bind fun x=>(szOf P t).map fun n=>.store n a x
  | .nilCheck x=>(slimX P 0 x).map .nilc
  | .convert src dst x=>match P.underlying src,P.underlying dst with
    | some (.int _),some (.int k)=>(slimX P src x).map (.conv k)
    | some .string,some .string=>(slimX P src x).map .cvs
    | _,_=>none
  | .makeFunc (.func f) first caps=>if first.isEmpty then (optL (caps.toList.map (slimX P 0))).map (.mkf f) else none
  | .makeSlice t l c=>(elemOfS P t).bind fun e=>(szOf P e).bind fun n=>(bytesIn P e).bind fun b=>(zeroV P e).bind fun z =>
    (slimX P 0 l).bind fun l'=>match l,c with
      | .tmp i,.tmp j=>if i=j∧0 < n then some (.mks n b z l') else none
      | .const (.int .i64 i),.const (.int .i64 j)=>if i=j∧0 < n then some (.mks n b z l') else none
      | _,_=>none
  | .slice t x lo hi none=>(slimX P t x).bind fun x =>
    (match lo with|none=>some none|some l=>(slimX P 0 l).map some).bind fun lo =>
    (match hi with|none=>some none|some h=>(slimX P 0 h).map some).bind fun hi =>
    match P.underlying t with
    | some (.slice e)=>(szOf P e).map fun n=>.slc n x lo hi
    | some .string=>some (.slcs x lo hi)
    | _=>none
  | .fieldAddr s x f=>match P.underlying s with
    | some (.struct fs)=>(fs[f]?).bind fun f=>(szOf P f.type).bind fun n=>if n=0 then none else (slimX P 0 x).map (.fa f.offset)
    | _=>none
  | .field s x f=>match P.underlying s with
    | some (.struct fs)=>(fs[f]?).bind fun f=>(slimX P s x).bind fun x=>(aggO P f.type).bind fun g=>if g then (szOf P f.type).map fun n=>.fld f.offset (some n) x else some (.fld f.offset none x)
    | _=>none
  | .indexAddr t x i=>(elemOfS P t).bind fun e=>(szOf P e).bind fun n=>(slimX P t x).bind fun x=>(slimX P 0 i).map fun i=>.ia n x i
  | .index t x i=>match P.underlying t with
    | some .string=>(slimX P t x).bind fun x=>(slimX P 0 i).map fun i=>.ixs x i
    | _=>none
  | .extract x i=>(slimX P 0 x).map fun x=>.ext x i
  | .call c=>match c.callee with
    | .value f=>(slimX P 0 f).bind fun f=>(slimXs P c.argTypes.toList c.args.toList).map fun as=>.call f as
    | .builtin .len=>match c.args.toList,c.argTypes.toList with
      | [x],[t]=>match P.underlying t with
        | some (.slice _)=>(slimX P t x).map .len
        | some .string=>(slimX P t x).map .lens
        | _=>none
      | _,_=>none
    | .builtin .append=>match c.args.toList,c.argTypes.toList with
      | [x,y],[t,t2]=>(elemOfS P t).bind fun e=>(szOf P e).bind fun n=>(bytesIn P e).bind fun b=>(zeroVs P e).bind fun z=>match P.underlying t2 with
        | some (.slice _)=>if 0 < n∧z.length=n then (slimX P t x).bind fun x=>(slimX P t2 y).map fun y=>.app n b x y else none
        | some (.int _)=>if 0 < n then (zeroV P e).bind fun zv=>(slimX P t x).bind fun x=>(slimX P t2 y).map fun y=>.appz n b zv x y else none
        | _=>none
      | _,_=>none
    | .builtin .cap=>match c.args.toList,c.argTypes.toList with
      | [x],[t]=>match P.underlying t with
        | some (.slice _)=>(slimX P t x).map .cap
        | _=>none
      | _,_=>none
    | .builtin .copy=>match c.args.toList,c.argTypes.toList with
      | [x,y],[t,t2]=>(elemOfS P t).bind fun e=>(szOf P e).bind fun n=>(elemOfS P t2).bind fun _=>(slimX P t x).bind fun x=>(slimX P t2 y).map fun y=>.cpy n x y
      | _,_=>none
    | .builtin .clear=>match c.args.toList,c.argTypes.toList with
      | [x],[t]=>(elemOfS P t).bind fun e=>(szOf P e).bind fun n=>if 0 < n then (zeroV P e).bind fun zv=>(slimX P t x).map fun x=>.clr n zv x else none
      | _,_=>none
    | .builtin .min=>match c.args.toList,P.underlying o.type with
      | [x,y],some (.int _)=>(slimX P 0 x).bind fun x=>(slimX P 0 y).map fun y=>.minmax true x y
      | _,_=>none
    | .builtin .max=>match c.args.toList,P.underlying o.type with
      | [x,y],some (.int _)=>(slimX P 0 x).bind fun x=>(slimX P 0 y).map fun y=>.minmax false x y
      | _,_=>none
    | _=>none
  | _=>none
def plainFs (P:Program):List Field→Nat→Option (List Nat)
  | [],_=>some []
  | f::r,i=>if Nat.beq f.offset i && f.name != "_" then ((P.underlying f.type).bind scalD).bind fun k=>(plainFs P r (i+1)).map (k::·) else none
def plainS (P:Program) (t:TypeId):Option (List Nat):=match P.underlying t with
  | some (.struct fs)=>if !P.stoodInHeld t && !P.eqGuardType P.depth t then plainFs P fs.toList 0 else none
  | _=>none
def keyD (P:Program) (t:TypeId):Option (Bool×List Nat):=match (P.underlying t).bind scalD with
  | some k=>some (false,[k])
  | none=>(plainS P t).map fun ks=>(true,ks)
def mapD (P:Program) (t:TypeId):Option ((Bool×List Nat)×TypeId×TypeId):=match P.underlying t with
  | some (.map k e)=>(keyD P k).map fun kk=>(kk,k,e)
  | _=>none
def zeroS (P:Program) (t:TypeId):Option Value:=match (P.underlying t).bind scalD with
  | some _=>(P.info? t).bind fun i=>i.zero.bind fun z=>if z.oneCell'=true then some z else none
  | none=>none
def slimN1 (P:Program) (o:Oper):Option SO:=match o.op with
  | .binOp op ty x y _=>(plainS P ty).bind fun ks=>(slimX P ty x).bind fun x=>(slimX P ty y).bind fun y=>match op with
      | .eql=>some (.aeq false ks x y)
      | .neq=>some (.aeq true ks x y)
      | _=>none
  | .build t parts=>match P.underlying t with
    | some (.array _ e)=>(zeroVs P t).bind fun z=>(szOf P e).bind fun n =>
      (optL (parts.toList.map fun p=>(slimX P e p.2).map fun x=>(p.1*n,n,x))).map fun ps=>.build z ps
    | _=>none
  | .indexAddr t x i=>match P.underlying t with
    | some (.array len e)=>if 1 < len then (szOf P e).bind fun n=>(slimX P 0 x).bind fun x=>(slimX P 0 i).map fun i=>.aia len n x i else none
    | _=>none
  | .makeMap _ none=>some .mkm
  | .lookup t x k ok=>(mapD P t).bind fun d=>(zeroS P d.2.2).bind fun z=>(slimX P t x).bind fun x=>(slimX P d.2.1 k).map fun k=>.lku d.1 ok z x k
  | .mapUpdate t m k x=>(mapD P t).bind fun d=>(slimX P t m).bind fun m=>(slimX P d.2.1 k).bind fun k=>(slimX P d.2.2 x).map fun x=>.mup d.1 m k x
  | .mapEntry t m k=>(mapD P t).bind fun d=>(zeroS P d.2.2).bind fun z=>(slimX P t m).bind fun m=>(slimX P d.2.1 k).map fun k=>.mpe d.1 z m k
  | .entryStore t m s x=>(mapD P t).bind fun d=>(slimX P t m).bind fun m=>(slimX P 0 s).bind fun s=>(slimX P d.2.2 x).map fun x=>.est m s x
  | .call c=>match c.callee with
    | .builtin .len=>match c.args.toList,c.argTypes.toList with
      | [x],[t]=>match P.underlying t with
        | some (.map _ _)=>(slimX P t x).map .lenm
        | _=>none
      | _,_=>none
    | _=>none
  | .typeAssert x _ ty false=>match P.underlying ty with
    | some (.struct _)=>(slimX P 0 x).map (.tas ty)
    | _=>none
  | _=>none
def slimO (P:Program) (wr:Nat) (o:Oper):Option SO:=match slimO0 P wr o with
  | some so=>some so
  | none=>slimN1 P o
def panO (P:Program) (o:Oper):Option SO:=match o.op with
  | .call c=>match c.callee with
    | .value f=>(slimX P 0 f).bind fun f=>(slimXs P c.argTypes.toList c.args.toList).map fun as=>.pcall f as
    | _=>none
  | _=>none
def slimB (P:Program) (wr:Nat) (o:Oper):Option SO:=match (if Nat.beq wr 9 || Nat.beq wr 13 then panO P o else none) with
  | some so=>some so
  | none=>match slimO P wr o with
    | some so=>some so
    | none=>some .bad
def slimOp (P:Program) (wr:Nat) (ops:Array Oper) (o:Oper):Option SOp :=
  (slimB P wr o).bind fun so=>match o.guard with
    | none=>some ⟨o.dst,none,so⟩
    | some (j,b)=>((ops[j]?).bind (·.dst)).map fun t=>⟨o.dst,some (t,b),so⟩
def X.temps:X→List Nat
  | .t i=>[i]
  | _=>[]
def xsTemps:List X→List Nat
  | []=>[]
  | x::xs=>x.temps++xsTemps xs
def oxTemps:Option X→List Nat
  | some x=>x.temps
  | none=>[]
def partsTemps:List (Nat×Nat×X)→List Nat
  | []=>[]
  | x::xs=>x.2.2.temps++partsTemps xs
def SO.temps:SO→List Nat
  | .mv x|.un _ x|.box _ x|.load _ x|.ldr _ x|.nilc x|.conv _ x|.cvs x|.tas _ x|.fa _ x|.fld _ _ x|.ext x _|.len x|.lens x|.eqnil _ x|.mks _ _ _ x|.cap x|.clr _ _ x|.lenm x|.ldz _ _ x|.mksA _ _ _ _ x=>x.temps
  | .bin _ x y|.binw _ x y|.bool2 _ x y|.store _ x y|.stz _ _ x y|.ia _ x y|.ixs x y|.app _ _ x y|.minmax _ x y|.appz _ _ _ x y|.cpy _ x y|.iar _ x y|.aeq _ _ x y|.aia _ _ x y|.lku _ _ _ x y|.mpe _ _ x y|.iaz _ x y=>x.temps++y.temps
  | .pick c x y|.mup _ c x y|.est c x y=>c.temps++(x.temps++y.temps)
  | .new ..|.mkm|.bad|.newA ..|.hol _=>[]
  | .build _ ps=>partsTemps ps
  | .bsl _ xs|.mkf _ xs|.bslg _ xs|.bslo _ xs=>xsTemps xs
  | .slc _ x l h|.slcs x l h|.slcr _ x l h=>x.temps++(oxTemps l++oxTemps h)
  | .call f xs|.qcall f xs|.gcall f xs|.acall f xs|.pcall f xs|.fcall f xs=>f.temps++xsTemps xs
def SOp.reads (o:SOp):List Nat:=match o.g with
  | none=>o.o.temps
  | some (i,_)=>i::o.o.temps
def SO.kind:SO→Nat
  | .load ..|.ia ..|.slc ..|.qcall ..|.fcall ..|.lku ..|.lenm ..|.ldz ..|.iaz ..=>1
  | .box ..|.new ..|.bsl ..|.store ..|.mks ..|.call ..|.app ..|.eqnil ..|.bad|.cap ..|.appz ..|.cpy ..|.clr ..|.mkm|.mup ..|.mpe ..|.est ..|.bslo ..|.hol ..|.stz ..|.acall ..|.pcall ..=>2
  | .mksA ..|.newA ..=>3
  | _=>0
def memN (n:Nat):List Nat→Bool
  | []=>false
  | x::xs=>Nat.beq x n || memN n xs
def notIn (d:Option Nat) (l:List Nat):Bool:=match d with
  | none=>true
  | some d=>!memN d l
def neD (d e:Option Nat):Bool:=match d,e with
  | some d,some e=>!Nat.beq d e
  | _,_=>true
def nlEq:List Nat→List Nat→Bool
  | [],[]=>true
  | x::xs,y::ys=>Nat.beq x y && nlEq xs ys
  | _,_=>false
def zEq:Value→Value→Bool
  | .int k 0,.int k' 0=>Nat.beq (ikN k) (ikN k')
  | _,_=>false
def lkMpe:SO→SO→Bool
  | .lku (a,l) false z _ _,.mpe (a',l') z' _ _=>(match a,a' with|true,true|false,false=>nlEq l l' && zEq z z'|_,_=>false)
  | _,_=>false
def keepBy:SO→Option (Option Nat×Bool)
  | .box ..|.new ..|.bsl ..|.bslo ..|.mks ..|.mkm=>some (none,true)
  | .app n ..=>some (some n,false)
  | .stz _ n ..=>some (some n,true)
  | .acall ..=>some (none,true)
  | _=>none
def neO (a:Option Nat) (n:Nat):Bool:=match a with
  | some m=>!Nat.beq m n
  | none=>true
def stabA:SO→Bool
  | .load ..|.ia ..=>true
  | _=>false
def isAc:SO→Bool
  | .acall ..=>true
  | _=>false
def stab0 (x y:SO):Bool:=match keepBy y,x with
  | some m,.ldz _ sz _=>neO m.1 sz
  | some m,.iaz sz _ _=>m.2 || neO m.1 sz
  | _,_=>false
def stabF (x y:SO):Bool:=match x,keepBy y with
  | .fcall ..,some (none,true)=>true
  | _,_=>false
def stab (x y:SO):Bool:=(isAc y && stabA x) || (stabF x y || stab0 x y)
def slotOf:SO→Option Nat
  | .mksA e _ _ _ _|.newA e _ _=>some e
  | _=>none
def slotsNe (x y:SO):Bool:=match slotOf x,slotOf y with
  | some a,some b=>!Nat.beq a b
  | _,_=>false
def SOp.gNo (o:SOp):Bool:=match o.g with
  | none=>true
  | some _=>false
def goodS (x y:SOp):Bool:=(Nat.beq x.o.kind 0 || ((Nat.beq x.o.kind 1 && (Nat.ble y.o.kind 1 || (lkMpe x.o y.o || stab x.o y.o))) || (Nat.beq x.o.kind 3 && (Nat.beq y.o.kind 0 || (slotsNe x.o y.o && y.gNo))))) && (notIn x.d y.reads && neD x.d y.d && notIn y.d x.reads)
def bt (m i:Nat):Bool:=Nat.beq (Nat.land (Nat.shiftRight m i) 1) 1
def bs (m i:Nat):Nat:=Nat.lor m (Nat.shiftLeft 1 i)
def allE (m:Nat):List Edge→Bool
  | []=>true
  | e::r=>(!Region.binds .any e || bt m e.on) && allE m r
def onlyM (m i:Nat):List Oper→Nat→Bool
  | [],_=>true
  | o::r,j=>(bt m j || Nat.beq j i || !allE m o.after.toList) && onlyM m i r (j+1)
def noneM (m:Nat):List Oper→Nat→Bool
  | [],_=>true
  | o::r,j=>(bt m j || !allE m o.after.toList) && noneM m r (j+1)
def satM (i:Nat):List Oper→Nat→Nat→Nat
  | [],_,m=>m
  | o::r,j,m=>satM i r (j+1) (if Nat.beq j i || bt m j then m else if allE m o.after.toList then bs m j else m)
def goodM (o:SOp) (i m S:Nat):List SOp→Nat→Bool
  | [],_=>true
  | o'::r,j=>(Nat.beq j i || bt m j || !bt S j || goodS o o') && goodM o i m S r (j+1)
def takeM (ops:List Oper) (sl:List SOp) (i m:Nat):Bool :=
  match sl[i]?,ops[i]? with
  | some o,some p=>!bt m i && allE m p.after.toList &&
    (if Nat.beq o.o.kind 2 then onlyM m i ops 0 else
      (!Nat.beq o.o.kind 3 || o.gNo) && (let S:=satM i ops 0 m
       onlyM S i ops 0 && Nat.beq (Nat.land m S) m && goodM o i m S sl 0))
  | _,_=>false
def pickM (ops:List Oper) (sl:List SOp):Nat→Nat→Option (List Nat)
  | 0,m=>if noneM m ops 0 then some [] else none
  | n+1,m=>match (List.range ops.length).find? (fun i=>!bt m i && takeM ops sl i m) with
    | some i=>(pickM ops sl n (bs m i)).map (i::·)
    | none=>none
def inE (n:Nat):List Oper→Bool
  | []=>true
  | o::r=>(o.after.toList.all fun e=>Nat.ble (e.on+1) n) && inE n r
def drawnL (ops:Array Oper) (sl:List SOp):Option (List SOp) :=
  if Nat.beq sl.length ops.size && inE ops.size ops.toList then (pickM ops.toList sl ops.size 0).bind fun ord=>optL (ord.map fun i=>sl[i]?) else none
def qTy (P:Program) (q:Nat) (ty:TypeId):Bool:=match q with
  | 0=>false
  | 1=>(match P.underlying ty with|some (.int _)|some .bool|some .string=>true|_=>false)
  | _=>(match P.underlying ty with|some (.int _)|some .bool|some .string|some (.slice _)=>true|_=>false)
def ownLit:List X→Bool:=fun _=>false
def SO.flav (ld q pz:Nat) (P:Program) (ty:TypeId):SO→SO
  | .load n a=>if Nat.ble 3 ld then .ldz n pz a else if Nat.ble 2 ld then .ldr n a else .load n a
  | .ia n x i=>if Nat.ble 3 ld then .iaz n x i else if Nat.ble 2 ld then .iar n x i else .ia n x i
  | .slc n x l h=>if Nat.ble 2 ld then .slcr n x l h else .slc n x l h
  | .store n a x=>if Nat.ble 5 ld then .stz n pz a x else .store n a x
  | .bsl n (x::xs)=>if (Nat.ble 1 ld && !(Nat.beq ld 3 || Nat.beq ld 5)) && !ownLit (x::xs) then .bslg n (x::xs) else .bsl n (x::xs)
  | .call f as=>if Nat.beq q 5 then .fcall f as else if Nat.beq q 4 then .acall f as else if Nat.beq q 3 then .gcall f as else if qTy P q ty then .qcall f as else .call f as
  | .pcall f as=>if Nat.beq q 5 then .fcall f as else if Nat.beq q 4 then .acall f as else if Nat.beq q 3 then .gcall f as else if qTy P q ty then .qcall f as else .pcall f as
  | o=>o
def provF (P:Program) (n:Nat):List Oper→Option Nat
  | []=>none
  | o::r=>if (match o.dst with|some d=>Nat.beq d n|none=>false) then (match o.op with
      | .fieldAddr s _ _=>szOf P s
      | .indexAddr t _ _=>(elemOfS P t).bind (szOf P)
      | _=>none) else provF P n r
def provS (P:Program) (ops:Array Oper) (o:Oper):Nat:=match o.op with
  | .load t (.tmp n)|.store t (.tmp n) _=>(match provF P n ops.toList with|some z=>z|none=>(szOf P t).getD 0)
  | _=>0
def flavL (ld q:Nat) (P:Program) (ops:Array Oper) (sl:List SOp):List SOp:=(sl.zip ops.toList).map fun p=>{ p.1 with o:=p.1.o.flav ld q (if Nat.ble 3 ld then provS P ops p.2 else 0) P p.2.type }
def drawnF (P:Program) (ops:Array Oper) (sl:List SOp):List (Nat×Nat)→Option (List SOp)
  | []=>none
  | (ld,q)::r=>match drawnL ops (flavL ld q P ops sl) with
    | some l=>some l
    | none=>drawnF P ops sl r
def hasStore:List SOp→Bool
  | []=>false
  | ⟨_,_,.store _ _ _⟩::_=>true
  | _::r=>hasStore r
def flavs (wr:Nat) (st:Bool):List (Nat×Nat):=if Nat.beq wr 15 then [(0,1),(0,2)] else if Nat.beq wr 11 then [(0,1),(4,5),(3,5),(0,5),(2,5)] else if Nat.beq wr 13 then [(0,1),(0,2),(4,2),(3,2),(4,3),(3,3),(4,5)] else if Nat.beq wr 19 then [(0,1),(4,3),(3,3),(0,3)] else if Nat.beq wr 21 then [(0,1),(0,4),(4,4),(3,4),(5,4),(6,4),(4,3),(3,3)] else if Nat.beq wr 9 then (0,1)::((match st with|true=>[]|false=>[(2,1)])++[(0,2),(1,1),(1,2),(4,1),(4,2),(3,1),(3,2),(1,0),(3,0),(4,0),(2,0),(2,1),(2,2)]) else if Nat.ble 7 wr then [(0,1),(0,4),(0,2),(1,0),(3,0),(4,0),(2,0),(3,1),(4,1)] else if Nat.ble 5 wr then [(0,1),(0,2),(5,0),(5,1),(6,0),(6,1),(1,0),(2,0),(2,1)] else if Nat.ble 3 wr then [(0,1),(0,2),(1,0),(3,0),(4,0),(3,1),(4,1),(3,2),(4,2),(1,1),(1,2),(2,0),(2,1),(2,2)] else [(0,1),(0,2),(1,0),(3,0),(4,0),(2,0),(3,1),(4,1),(2,1),(1,1),(1,2),(3,2),(4,2),(2,2)]
def slotL:List SOp→Nat→List SOp
  | [],_=>[]
  | ⟨d,none,.mks n b z l⟩::r,e=>⟨d,none,.mksA (e-1) n b z l⟩::slotL r (e-1)
  | ⟨d,none,.new n z⟩::r,e=>⟨d,none,.newA (e-1) n z⟩::slotL r (e-1)
  | o::r,e=>o::slotL r e
def slotSz:List SOp→List Nat
  | []=>[]
  | ⟨_,none,.mks n _ _ _⟩::r=>n::slotSz r
  | ⟨_,none,.new n _⟩::r=>n::slotSz r
  | _::r=>slotSz r
def drawnS (P:Program) (ops:Array Oper) (sl:List SOp):List (Nat×Nat)→Option (List SOp)
  | []=>none
  | (ld,q)::r=>match drawnL ops (flavL ld q P ops sl) with
    | some l=>some l
    | none=>match drawnL ops (slotL (flavL ld q P ops sl) (slotSz (flavL ld q P ops sl)).length) with
      | some l=>some (⟨none,none,.hol (slotSz (flavL ld q P ops sl))⟩::l)
      | none=>drawnS P ops sl r
def drawn (P:Program) (wr:Nat) (ops:Array Oper) (sl:List SOp):Option (List SOp) :=
  if P.follows .mixedOrders then
    match drawnL ops sl with
    | some l=>some l
    | none=>match drawnF P ops sl (flavs wr (hasStore sl)) with
      | some l=>some l
      | none=>drawnS P ops sl (if Nat.ble 7 wr then [(0,3),(4,3),(2,3)] else [(0,3),(2,3),(4,3)])
  else none
def straight:Code→Bool
  | .skip=>true
  | .seq a b=>straight a && straight b
  | .block _ a=>straight a
  | .region _ _ d=>!d
  | _=>false
def rfVars (ps:Array Tmp) (a:Code):Option (Nat×Nat):=match ps,a with
  | ⟨[p]⟩,.region _ ⟨[⟨some d,.assign (.tmp q),_,_,_,none⟩]⟩ false=>if q=p then some (p,d) else none
  | _,_=>none
def slimC (P:Program) (wr:Nat):Code→Option SC
  | .skip=>some .skip
  | .ret=>some .ret
  | .exit id=>some (.exit id)
  | .goto l=>some (.goto l)
  | .label l=>some (.label l)
  | .seq a b=>(slimC P wr a).bind fun a=>(slimC P wr b).map fun b=>.seq a b
  | .cond c a b=>(slimX P 0 c).bind fun c=>(slimC P wr a).bind fun a=>(slimC P wr b).map fun b=>.cond c a b
  | .block id c=>(slimC P wr c).map (.block id)
  | .loop c=>(slimC P wr c).map .loop
  | .scope c=>(slimC P wr c).map .scope
  | .region _ ops false=>(optL (ops.toList.map (slimOp P wr ops))).map .reg
  | .region _ ops true=>(optL (ops.toList.map (slimOp P wr ops))).bind fun sl=>(drawn P wr ops sl).map .reg
  | .rangeFunc g ps a b=>(rfVars ps a).bind fun pd=>if straight b then (slimX P 0 g).bind fun x=>(slimC P wr b).map fun b=>.rf x pd.1 pd.2 b else none
  | _=>none
end Go.Aw
namespace Go.Aw
noncomputable def getT (t:List V):Nat→V:=List.rec (motive:=fun _=>Nat→V) (fun _=>.any) (fun x _ ih i=>Nat.rec (motive:=fun _=>V) x (fun j _=>ih j) i) t
noncomputable def getB (t:List Blk):Nat→Option Blk:=List.rec (motive:=fun _=>Nat→Option Blk) (fun _=>none) (fun x _ ih i=>Nat.rec (motive:=fun _=>Option Blk) (some x) (fun j _=>ih j) i) t
noncomputable def setB (t:List Blk):Nat→Blk→List Blk:=List.rec (motive:=fun _=>Nat→Blk→List Blk) (fun _ _=>[]) (fun x xs ih i v=>Nat.rec (motive:=fun _=>List Blk) (v::xs) (fun j _=>x::ih j v) i) t
theorem getB_succ (x:Blk) (xs:List Blk) (i:Nat):getB (x::xs) (i+1)=getB xs i:=rfl
theorem setB_succ (x:Blk) (xs:List Blk) (i:Nat) (v:Blk):setB (x::xs) (i+1) v=x::setB xs i v:=rfl
theorem getB_eq:∀ (t:List Blk) (i:Nat),getB t i=t[i]?
  | [],_=>rfl
  | _::_,0=>rfl
  | _::xs,i+1=>by simp [getB_succ,getB_eq xs i]
theorem setB_eq:∀ (t:List Blk) (i:Nat) (v:Blk),setB t i v=t.set i v
  | [],_,_=>rfl
  | _::_,0,_=>rfl
  | _::xs,i+1,v=>by simp [setB_succ,setB_eq xs i v]
noncomputable def addB (t:List Blk) (v:Blk):List Blk:=List.rec (motive:=fun _=>List Blk) [v] (fun x _ ih=>x::ih) t
theorem addB_cons (x:Blk) (xs:List Blk) (v:Blk):addB (x::xs) v=x::addB xs v:=rfl
theorem addB_eq:∀ (t:List Blk) (v:Blk),addB t v=t++[v]
  | [],_=>rfl
  | x::xs,v=>by simp [addB_cons,addB_eq xs v]
noncomputable def forceT (t:List V):(List V→Prop)→Prop:=List.rec (motive:=fun _=>(List V→Prop)→Prop) (fun k=>k []) (fun x _ ih k=>ih fun xs'=>k (x::xs')) t
theorem forceT_eq:∀ (t:List V) (k:List V→Prop),forceT t k=k t
  | [],_=>rfl
  | _::xs,_=>forceT_eq xs _
noncomputable def forceH (t:List Blk):(List Blk→Prop)→Prop:=List.rec (motive:=fun _=>(List Blk→Prop)→Prop) (fun k=>k []) (fun x _ ih k=>ih fun xs'=>k (x::xs')) t
theorem forceH_eq:∀ (t:List Blk) (k:List Blk→Prop),forceH t k=k t
  | [],_=>rfl
  | _::xs,_=>forceH_eq xs _
def forceV (v:V) (k:V→Prop):Prop:=match v with
  | .g t=>(match t with|.sc v=>k (.g (.sc v))|.sl sz es=>k (.g (.sl sz es))|.ag cs=>k (.g (.ag cs)))
  | .nil s=>k (.nil s)
  | .own b g o l=>k (.own b g o l)
  | .pa b g i o=>k (.pa b g i o)
  | .ra s es i o=>k (.ra s es i o)
  | .fn f cs=>k (.fn f cs)
  | .ag cs=>k (.ag cs)
  | .tu cs=>k (.tu cs)
  | .mp b=>k (.mp b)
  | .any=>k .any
theorem forceV_eq (v:V) (k:V→Prop):forceV v k=k v:=by
  cases v with
  | g t=>cases t <;> rfl
  | _=>rfl
noncomputable def setT (t:List V):Nat→V→List V:=List.rec (motive:=fun _=>Nat→V→List V) (fun _ _=>[]) (fun x xs ih i v=>Nat.rec (motive:=fun _=>List V) (v::xs) (fun j _=>x::ih j v) i) t
theorem getT_succ (x:V) (xs:List V) (i:Nat):getT (x::xs) (i+1)=getT xs i:=rfl
theorem setT_succ (x:V) (xs:List V) (i:Nat) (v:V):setT (x::xs) (i+1) v=x::setT xs i v:=rfl
theorem getT_eq:∀ (t:List V) (i:Nat),getT t i=t.getD i .any
  | [],_=>rfl
  | _::_,0=>rfl
  | _::xs,i+1=>by simp [getT_succ,getT_eq xs i]
theorem setT_eq:∀ (t:List V) (i:Nat) (v:V),setT t i v=t.set i v
  | [],_,_=>rfl
  | _::_,0,_=>rfl
  | _::xs,i+1,v=>by simp [setT_succ,setT_eq xs i v]
def Br (c:Bool) (A B:Prop):Prop:=match c with
  | true=>A
  | false=>B
theorem Br.intro {c:Bool} {A B:Prop} (h:c=true→A) (k:c=false→B):Br c A B:=by cases c;exact k rfl;exact h rfl
noncomputable def X.ev (tm:List V):X→V
  | .t i=>getT tm i
  | .c v=>.g (.sc v)
  | .n sz=>.nil sz
  | .f i=>.fn i []
  | .a vs=>mkAg vs
def inR (k:IntKind) (n:Int):Prop:=k.min≤n∧n≤k.max
def arith (k:IntKind) (op:BinOp) (a b:Int) (K:V→Prop):Prop :=
  match op with
  | .add=>inR k (a+b)∧K (.g (.sc (.int k (a+b))))
  | .sub=>inR k (a-b)∧K (.g (.sc (.int k (a-b))))
  | .mul=>inR k (a*b)∧K (.g (.sc (.int k (a*b))))
  | .quo=>b≠0∧inR k (a.tdiv b)∧K (.g (.sc (.int k (a.tdiv b))))
  | .rem=>b≠0∧K (.g (.sc (.int k (a.tmod b))))
  | .eql=>K (.g (.b (a == b)))
  | .neq=>K (.g (.b (a != b)))
  | .lss=>K (.g (.b (decide (a < b))))
  | .leq=>K (.g (.b (decide (a≤b))))
  | .gtr=>K (.g (.b (decide (a > b))))
  | .geq=>K (.g (.b (decide (a≥b))))
  | .and=>K (.g (.sc (.int k (k.wrap (BitVec.ofInt k.bits a &&& BitVec.ofInt k.bits b).toNat))))
  | .or=>K (.g (.sc (.int k (k.wrap (BitVec.ofInt k.bits a ||| BitVec.ofInt k.bits b).toNat))))
  | .xor=>K (.g (.sc (.int k (k.wrap (BitVec.ofInt k.bits a ^^^ BitVec.ofInt k.bits b).toNat))))
  | _=>False
def arithW (k:IntKind) (op:BinOp) (a b:Int) (K:V→Prop):Prop :=
  match op with
  | .add=>K (.g (.sc (.int k (k.wrap (a+b)))))
  | .sub=>K (.g (.sc (.int k (k.wrap (a-b)))))
  | .mul=>K (.g (.sc (.int k (k.wrap (a*b)))))
  | op=>arith k op a b K
def shiftP (k:IntKind) (op:BinOp) (a b:Int) (K:V→Prop):Prop :=
  match op with
  | .shl=>0≤b∧K (.g (.sc (.int k (k.wrap (a*2 ^ (min b.toNat k.bits))))))
  | .shr=>0≤b∧K (.g (.sc (.int k (a.fdiv (2 ^ (min b.toNat k.bits))))))
  | _=>False
def strP (op:BinOp) (a b:ByteArray) (K:V→Prop):Prop :=
  match op with
  | .add=>((a.size+b.size:Nat):Int)≤IntKind.i64.max∧K (.g (.s (a++b)))
  | .eql=>K (.g (.b (a.toList == b.toList)))
  | .neq=>K (.g (.b (!(a.toList == b.toList))))
  | .lss=>K (.g (.b (Op.bytesLess a.toList b.toList)))
  | .leq=>K (.g (.b (Op.bytesLess a.toList b.toList || (a.toList == b.toList))))
  | .gtr=>K (.g (.b (!(Op.bytesLess a.toList b.toList || (a.toList == b.toList)))))
  | .geq=>K (.g (.b (!(Op.bytesLess a.toList b.toList))))
  | _=>False
def ikEq (k k':IntKind):Bool:=match k with
  | .i8=>(match k' with|.i8=>true|_=>false)
  | .i16=>(match k' with|.i16=>true|_=>false)
  | .i32=>(match k' with|.i32=>true|_=>false)
  | .i64=>(match k' with|.i64=>true|_=>false)
  | .u8=>(match k' with|.u8=>true|_=>false)
  | .u16=>(match k' with|.u16=>true|_=>false)
  | .u32=>(match k' with|.u32=>true|_=>false)
  | .u64=>(match k' with|.u64=>true|_=>false)
theorem ikEq_ok {k k':IntKind} (h:ikEq k k'=true):k=k':=by cases k <;> cases k' <;> first|rfl|simp [ikEq] at h
def isShift:BinOp→Bool
  | .shl|.shr=>true
  | _=>false
def binP (w:Bool) (op:BinOp) (x y:V) (K:V→Prop):Prop :=
  match x,y with
  | .g (.sc (.int k a)),.g (.sc (.int k' b)) =>
    (match isShift op with
      | true=>shiftP k op a b K
      | false=>match ikEq k k' with
        | true=>(match w with|true=>arithW k op a b K|false=>arith k op a b K)
        | false=>False)
  | .g (.sc (.string a)),.g (.sc (.string b))=>strP op a b K
  | _,_=>False
def elems (h:List Blk):V→Option (Nat×List V)
  | .g (.sl sz es)=>some (sz,es.map .g)
  | .nil sz=>some (sz,[])
  | .own b g off len=>match h[b]? with
    | some (.arr g' sz es)=>if g=g'∧off+len≤es.length then some (sz,(es.drop off).take len) else none
    | _=>none
  | _=>none
def loadV (e:V) (off:Nat):Option Nat→Option V
  | none=>e.cells[off]?
  | some n=>match asAg e with
    | some cs=>if off=0∧n=cs.length then some e else if off+n≤cs.length then some (mkAg ((cs.drop off).take n)) else none
    | none=>none
def loadP (h:List Blk) (n:Option Nat) (a:V) (K:V→Prop):Prop :=
  match a with
  | .pa b g i off=>match getB h b with
    | some (.arr g' _ es)=>g=g'∧∃ e,es[i]?=some e∧(match loadV e off n with|some v=>K v|none=>False)
    | _=>False
  | .ra _ es i off=>∃ e,es[i]?=some e∧(match loadV (.g e) off n with|some v=>K v|none=>False)
  | _=>False
def okV:V→Bool
  | .any|.tu _=>false
  | _=>true
def storeV (e:V) (off:Nat) (x:V):V :=
  if off=0∧x.cells.length=e.cells.length then x else mkAg (e.cells.take off++x.cells++e.cells.drop (off+x.cells.length))
def storeP (h:List Blk) (n:Nat) (a x:V) (K:List Blk→Prop):Prop :=
  match a with
  | .pa b g i off=>match getB h b with
    | some (.arr g' sz es)=>g=g'∧∃ e,es[i]?=some e∧(okV x=true∧x.cells.length=n∧off+n≤sz)∧K (setB h b (.arr g sz (es.set i (storeV e off x))))
    | _=>False
  | _=>False
def storeZ (h:List Blk) (n bz:Nat) (a x:V) (K:List Blk→Prop):Prop :=
  match a with
  | .pa b g i off=>match getB h b with
    | some (.arr g' sz es)=>(g=g'∧sz=bz)∧∃ e,es[i]?=some e∧(okV x=true∧x.cells.length=n∧off+n≤sz)∧K (setB h b (.arr g sz (es.set i (storeV e off x))))
    | _=>False
  | _=>False
def lenP (x:V) (K:V→Prop):Prop :=
  match x with
  | .g (.sl _ es)=>K (.g (.i es.length))
  | .nil _=>K (.g (.i 0))
  | .own _ _ _ len=>K (.g (.i len))
  | _=>False
def iaP (h:List Blk) (sz:Nat) (x i:V) (K:V→Prop):Prop :=
  match i with
  | .g (.sc (.int _ i))=>match x with
    | .g (.sl s es)=>(0≤i∧i < es.length)∧s=sz∧K (.ra s es i.toNat 0)
    | .own b g off len=>match getB h b with
      | some (.arr g' s _)=>(0≤i∧i < len)∧(g=g'∧s=sz)∧K (.pa b g (off+i.toNat) 0)
      | _=>False
    | _=>False
  | _=>False
def bound (v:V):Option Int:=match v with
  | .g (.sc (.int _ i))=>some i
  | _=>none
def slcGo (lo hi:Option V) (len:Nat) (K:Nat→Nat→Prop):Prop :=
  match (match lo with|none=>some 0|some v=>bound v),(match hi with|none=>some (len:Int)|some v=>bound v) with
  | some l,some h=>(0≤l∧l≤h∧h≤len)∧K l.toNat h.toNat
  | _,_=>False
def slcP (h:List Blk) (sz:Nat) (x:V) (lo hi:Option V) (K:V→Prop):Prop :=
  match x with
  | .g (.sl s es)=>s=sz∧slcGo lo hi es.length fun l h=>K (.g (.sl s ((es.drop l).take (h-l))))
  | .own b g off len=>match getB h b with
    | some (.arr _ s _)=>s=sz∧slcGo lo hi len fun l h=>K (.own b g (off+l) (h-l))
    | _=>False
  | .nil s=>slcGo lo hi 0 fun _ _=>K (.nil s)
  | _=>False
def slcsP (x:V) (lo hi:Option V) (K:V→Prop):Prop :=
  match x with
  | .g (.sc (.string s)) =>
    match (match lo with|none=>some 0|some v=>bound v),(match hi with|none=>some (s.size:Int)|some v=>bound v) with
    | some l,some h=>(0≤l∧l≤h∧h≤s.size)∧K (.g (.s (s.extract l.toNat h.toNat)))
    | _,_=>False
  | _=>False
def withElems (h:List Blk) (sz:Nat) (y:V) (K:List V→Prop):Prop :=
  match y with
  | .g (.sl s es)=>s=sz∧K (es.map .g)
  | .nil _=>K []
  | .own b g off len=>match getB h b with
    | some (.arr g' s es)=>(g=g'∧off+len≤es.length∧s=sz)∧K ((es.drop off).take len)
    | _=>False
  | _=>False
def appP (h:List Blk) (sz bytes:Nat) (x y:V) (K:V→List Blk→Prop):Prop :=
  withElems h sz y fun ys=>match x with
    | .nil _=>(2*ys.length+1024)*(bytes+1)≤281474976710656∧K (.own h.length 0 0 ys.length) (addB h (.arr 0 sz ys))
    | .own b g off len=>match getB h b with
      | some (.arr g' s es)=>(2*(len+ys.length)+1024)*(bytes+1)≤281474976710656∧(off=0∧g=g'∧s=sz) ∧
          ∃ e0,(∃ r,es=e0++r)∧len=e0.length∧K (.own b (g+1) 0 (len+ys.length)) (setB h b (.arr (g+1) sz (e0++ys)))
      | _=>False
    | _=>False
def capP (x:V) (K:V→Prop):Prop :=
  match x with
  | .nil _=>K (.g (.i 0))
  | .own _ _ _ len=>∀ c:Nat,len≤c→K (.g (.i c))
  | .g (.sl _ es)=>∀ c:Nat,es.length≤c→K (.g (.i c))
  | _=>False
def appzP (h:List Blk) (sz bytes:Nat) (z x l:V) (K:V→List Blk→Prop):Prop :=
  match l with
  | .g (.sc (.int .i64 i))=>(0≤i∧(2*i+1024)*(bytes+1)≤281474976710656)∧z.cells.length=sz∧(match x with
    | .nil _=>K (.own h.length 0 0 i.toNat) (addB h (.arr 0 sz (List.replicate i.toNat z)))
    | _=>False)
  | _=>False
def cpyP (h:List Blk) (sz:Nat) (x y:V) (K:V→List Blk→Prop):Prop :=
  withElems h sz y fun ys=>match x with
    | .own b g off len=>match getB h b with
      | some (.arr g' s es)=>(g=g'∧s=sz)∧K (.g (.i (min ys.length len:Nat))) (setB h b (.arr g s (es.take off++ys.take (min ys.length len)++es.drop (off+min ys.length len))))
      | _=>False
    | _=>False
def clrP (h:List Blk) (sz:Nat) (z x:V) (K:List Blk→Prop):Prop :=
  match x with
    | .own b g off len=>match getB h b with
      | some (.arr g' s es)=>(g=g'∧s=sz∧z.cells.length=sz)∧K (setB h b (.arr g s (es.take off++List.replicate len z++es.drop (off+len))))
      | _=>False
    | _=>False
def cellsAll (n:Nat):List V→Prop
  | []=>True
  | v::vs=>(okV v=true∧v.cells.length=n)∧cellsAll n vs
def buildV (z:List V):List (Nat×Nat×V)→Option (List V)
  | []=>some z
  | (off,n,v)::r=>if okV v=true∧v.cells.length=n∧off+n≤z.length then buildV (z.take off++v.cells++z.drop (off+n)) r else none
def lit0:V→Option T
  | .g t=>some t
  | .nil sz=>some (.sl sz [])
  | _=>none
def zok1:V→Bool
  | .g _|.nil _=>true
  | _=>false
def zok:V→Bool
  | .ag cs=>cs.all zok1
  | v=>zok1 v
structure Prg extends Program where
  pv:Int→Value
  pq:Int→List Blk→Prop
instance:Coe Prg Program:=⟨Prg.toProgram⟩
def npP (P:Program):Prg:={ P with pv:=fun _=>.int .i64 0,pq:=fun _ _=>False }
structure PCalls (P:Prg) (f:Nat) (args:List V) (H:List Blk) (R:V→List Blk→Prop):Prop where
  ok:callOk P f
  run:∀ (γ:List (Option Nat)) (I:Nat→Prop) (w:World) (vs:List Value),RelH γ I w H→vs.length=args.length→(∀ (i:Nat) (v:V),args[i]?=some v→RV γ H I w v (vs.getD i undef)) →
    Calls P f vs.toArray w fun e w'=>(∃ r x H' γ' I',e=.returned x∧R r H'∧RelH γ' I' w' H'∧RV γ' H' I' w' r x∧Ext γ H I w γ' H' I' w') ∨
      ∃ c H' γ' I',e=.panicked [{ v:=P.pv c,recovered:=false }]∧P.pq c H'∧RelH γ' I' w' H'∧Ext γ H I w γ' H' I' w'
theorem PCalls.mono {P:Prg} {f:Nat} {args:List V} {H:List Blk} {R R':V→List Blk→Prop} (h:PCalls P f args H R) (hr:∀ r H',R r H'→R' r H'):PCalls P f args H R' :=
  ⟨h.1,fun γ I w vs r hl hv=>(h.2 γ I w vs r hl hv).mono fun _ _ q=>q.imp (fun ⟨r,x,H',γ',I',h1,h2,h3⟩=>⟨r,x,H',γ',I',h1,hr _ _ h2,h3⟩) id⟩
theorem ACalls.pc {P:Prg} {f:Nat} {args:List V} {H:List Blk} {R:V→List Blk→Prop} (h:ACalls P.toProgram f args H R):PCalls P f args H R :=
  ⟨h.1,fun γ I w vs r hl hv=>(h.2 γ I w vs r hl hv).mono fun _ _ q=>.inl q⟩
structure GC (P:Program) (f:Nat) (vs:List V) (v:V):Prop where
  run:ACalls P f vs [] (fun r h=>r=v∧h=[])
  args:∀ (i:Nat) (a:V),vs[i]?=some a→a.lt 0
  res:v.lt 0
def litK:List V→(List T→Prop)→Prop→Prop
  | [],k,_=>k []
  | .g t::r,k,no=>litK r (fun ts=>k (t::ts)) no
  | .nil sz::r,k,no=>litK r (fun ts=>k (.sl sz []::ts)) no
  | _::_,_,no=>no
theorem litK_or:∀ (vs:List V) (k:List T→Prop) (no:Prop),litK vs k no→(∃ ts,optL (vs.map lit0)=some ts∧k ts)∨no
  | [],k,_,h=>.inl ⟨[],rfl,h⟩
  | v::r,k,no,h=>by
    cases v <;> simp only [litK] at h <;> try exact .inr h
    case g t =>
      rcases litK_or r _ no h with ⟨ts,h1,h2⟩|h
      · exact .inl ⟨t::ts,by simp [optL,lit0,h1],h2⟩
      · exact .inr h
    case nil sz =>
      rcases litK_or r _ no h with ⟨ts,h1,h2⟩|h
      · exact .inl ⟨.sl sz []::ts,by simp [optL,lit0,h1],h2⟩
      · exact .inr h
theorem litK_mono:∀ {vs:List V} {k k':List T→Prop} {no no':Prop},(∀ ts,k ts→k' ts)→(no→no')→litK vs k no→litK vs k' no'
  | [],_,_,_,_,hk,_,h=>hk _ h
  | v::r,k,k',no,no',hk,hn,h=>by
    cases v <;> simp only [litK] at h ⊢ <;> try exact hn h
    all_goals exact litK_mono (vs:=r) (fun ts=>hk _) hn h
def sameS (c:Nat):Value→Value→Option Bool
  | .bool a,.bool b=>(match Nat.beq c 0 with|true=>some (a == b)|false=>none)
  | .int k a,.int k' b=>(match Nat.beq (ikN k) c && Nat.beq (ikN k') c with|true=>some (a == b)|false=>none)
  | .string a,.string b=>(match Nat.beq c 2 with|true=>some (a == b)|false=>none)
  | _,_=>none
def sameL:List Nat→List Value→List Value→Option Bool
  | [],[],[]=>some true
  | k::ks,x::xs,y::ys=>(sameS k x y).bind fun a=>(sameL ks xs ys).map fun b=>a && b
  | _,_,_=>none
def sameK (kk:Bool×List Nat) (k a:Value):Option Bool:=match kk with
  | (true,ks)=>(match k,a with|.agg xs,.agg ys=>sameL ks xs.toList ys.toList|_,_=>none)
  | (false,[c])=>sameS c k a
  | _=>none
def mfind (kk:Bool×List Nat):List (Value×Value)→Value→Nat→Option (Option (Nat×Value))
  | [],_,_=>some none
  | (a,v)::r,k,i=>match sameK kk k a with
    | some true=>some (some (i,v))
    | some false=>mfind kk r k (i+1)
    | none=>none
def okKey (kk:Bool×List Nat) (k:Value):Bool:=match sameK kk k k with
  | some _=>true
  | none=>false
def scOf:T→Option Value
  | .sc v=>some v
  | _=>none
def keyOf:V→Option Value
  | .g (.sc v)=>some v
  | .g (.ag cs)=>(optL (cs.map scOf)).map fun l=>.agg l.toArray
  | _=>none
def mput (kvs:List (Value×Value)) (k v:Value):Option (Nat×Value)→List (Value×Value)
  | some (i,_)=>kvs.set i (k,v)
  | none=>kvs++[(k,v)]
def withMap (h:List Blk) (m:V) (K:Nat→List (Value×Value)→Prop):Prop:=match m with
  | .mp b=>match getB h b with
    | some (.mp kvs)=>K b kvs
    | _=>False
  | _=>False
def mset (kvs:List (Value×Value)) (i:Nat) (v:Value):List (Value×Value):=match kvs[i]? with
  | some (k,_)=>kvs.set i (k,v)
  | none=>kvs
def lkuV (ok:Bool) (z:Value) (r:Option (Nat×Value)):V:=match ok with
  | true=>(match r with|some p=>.tu [.g (.sc p.2),.g (.b true)]|none=>.tu [.g (.sc z),.g (.b false)])
  | false=>(match r with|some p=>.g (.sc p.2)|none=>.g (.sc z))
def eqTs:List Nat→List T→List T→(Bool→Prop)→Prop
  | [],[],[],k=>k true
  | c::cs,.sc x::xs,.sc y::ys,k=>∃ e,sameS c x y=some e∧eqTs cs xs ys fun r=>k (e && r)
  | _,_,_,_=>False
def valT:Value→Option T
  | .agg cs=>(match cs.toList.all Value.oneCell' with|true=>some (.ag (cs.toList.map T.sc))|false=>none)
  | _=>none
def opP (P:Prg) (t:List V) (o:SO) (h:List Blk) (K:V→List Blk→Prop):Prop :=
  match o with
  | .mv x=>K (x.ev t) h
  | .pick c a b=>match c.ev t with
    | .g (.sc (.bool c))=>Br c (K (a.ev t) h) (K (b.ev t) h)
    | _=>False
  | .bin op x y=>binP false op (x.ev t) (y.ev t) fun v=>K v h
  | .binw op x y=>binP true op (x.ev t) (y.ev t) fun v=>K v h
  | .bool2 neg x y=>match x.ev t,y.ev t with
    | .g (.sc (.bool a)),.g (.sc (.bool b))=>K (.g (.b (if neg then !(a == b) else (a == b)))) h
    | _,_=>False
  | .un op x=>match op,x.ev t with
    | .not,.g (.sc (.bool a))=>K (.g (.b (!a))) h
    | .neg,.g (.sc (.int k n))=>inR k (0-n)∧K (.g (.sc (.int k (0-n)))) h
    | _,_=>False
  | .box n x=>forceV (x.ev t) fun v=>(okV v=true∧v.cells.length=n)∧K (.pa h.length 0 0 0) (addB h (.arr 0 n [v]))
  | .new n z=>z.cells.length=n∧K (.pa h.length 0 0 0) (addB h (.arr 0 n [z]))
  | .build z ps=>match buildV z (ps.map fun p=>(p.1,p.2.1,p.2.2.ev t)) with
    | some cs=>K (mkAg cs) h
    | none=>False
  | .bsl n []=>K (.own h.length 0 0 0) (addB h (.arr 0 n []))
  | .bsl n ps=>forceT (ps.map (X.ev t)) fun vs=>cellsAll n vs∧(match ownLit ps with
    | true=>K (.own h.length 0 0 vs.length) (addB h (.arr 0 n vs))
    | false=>litK vs (fun ts=>K (.g (.sl n ts)) h) (K (.own h.length 0 0 vs.length) (addB h (.arr 0 n vs))))
  | .load n a=>loadP h n (a.ev t) fun v=>K v h
  | .store n a x=>forceV (x.ev t) fun v=>storeP h n (a.ev t) v fun h'=>K (.tu []) h'
  | .stz n bz a x=>forceV (x.ev t) fun v=>storeZ h n bz (a.ev t) v fun h'=>K (.tu []) h'
  | .nilc x=>match x.ev t with
    | .pa b g i o=>K (.pa b g i o) h
    | .ra s es i o=>K (.ra s es i o) h
    | .fn f cs=>K (.fn f cs) h
    | _=>False
  | .conv k x=>match x.ev t with
    | .g (.sc (.int _ n))=>K (.g (.sc (.int k (k.wrap n)))) h
    | _=>False
  | .cvs x=>match x.ev t with
    | .g (.sc (.string s))=>K (.g (.s s)) h
    | _=>False
  | .tas ty x=>match x.ev t with
    | .g (.sc (.iface ty' v))=>ty'=ty∧(match valT v with|some u=>K (.g u) h|none=>False)
    | _=>False
  | .mkf f caps=>forceT (caps.map (X.ev t)) fun vs=>K (.fn f vs) h
  | .mks n b z l=>match l.ev t with
    | .g (.sc (.int .i64 i))=>(0≤i∧i*(b+1)≤140737488355328)∧z.cells.length=n ∧
        K (.own h.length 0 0 i.toNat) (addB h (.arr 0 n (List.replicate i.toNat z)))
    | _=>False
  | .slc n x lo hi=>slcP h n (x.ev t) (lo.map (X.ev t)) (hi.map (X.ev t)) fun v=>K v h
  | .slcs x lo hi=>slcsP (x.ev t) (lo.map (X.ev t)) (hi.map (X.ev t)) fun v=>K v h
  | .fa off x=>match x.ev t with
    | .pa b g i o=>K (.pa b g i (o+off)) h
    | .ra s es i o=>K (.ra s es i (o+off)) h
    | _=>False
  | .fld off n x=>match asAg (x.ev t) with
    | some cs=>(match n with
      | none=>(match cs[off]? with|some v=>K v h|none=>False)
      | some n=>off+n≤cs.length∧K (mkAg ((cs.drop off).take n)) h)
    | none=>False
  | .ia n x i=>iaP h n (x.ev t) (i.ev t) fun v=>K v h
  | .ixs x i=>match x.ev t,i.ev t with
    | .g (.sc (.string s)),.g (.sc (.int _ i))=>(0≤i∧i < s.size)∧K (.g (.sc (.int .u8 (s.data.getD i.toNat 0).toNat))) h
    | _,_=>False
  | .ext x i=>match x.ev t with
    | .tu vs=>(match vs[i]? with|some v=>K v h|none=>False)
    | _=>False
  | .call f as=>match f.ev t with
    | .fn f caps=>forceT (as.map (X.ev t)++caps) fun vs=>ACalls P f vs h K
    | _=>False
  | .ldr n a=>match a.ev t with
    | .ra _ es i off=>∃ e,es[i]?=some e∧(match loadV (.g e) off n with|some v=>K v h|none=>False)
    | _=>False
  | .qcall f as=>match f.ev t with
    | .fn f caps=>forceT (as.map (X.ev t)++caps) fun vs=>∃ v,ACalls P f vs h (fun r h'=>r=v∧h'=h)∧K v h
    | _=>False
  | .fcall f as=>match f.ev t with
    | .fn f caps=>forceT (as.map (X.ev t)++caps) fun vs=>∃ v,(∀ B:List Blk,ACalls P f vs (h++B) (fun r h'=>r=v∧h'=h++B))∧K v h
    | _=>False
  | .pcall f as=>match f.ev t with
    | .fn f caps=>forceT (as.map (X.ev t)++caps) fun vs=>PCalls P f vs h K
    | _=>False
  | .acall f as=>match f.ev t with
    | .fn f caps=>forceT (as.map (X.ev t)++caps) fun vs=>ACalls P f vs h (fun r h'=>(∃ B:List Blk,h'=h++B)∧K r h')
    | _=>False
  | .gcall f as=>match f.ev t with
    | .fn f []=>forceT (as.map (X.ev t)) fun vs=>∃ v,GC P f vs v∧K v h
    | _=>False
  | .mksA e n b z l=>match l.ev t with
    | .g (.sc (.int .i64 i))=>(0≤i∧i*(b+1)≤140737488355328)∧(z.cells.length=n∧zok z=true)∧(e < h.length∧getB h (h.length-1-e)=some (.arr 0 n [])) ∧
        K (.own (h.length-1-e) 1 0 i.toNat) (setB h (h.length-1-e) (.arr 1 n (List.replicate i.toNat z)))
    | _=>False
  | .newA e n z=>(z.cells.length=n∧zok z=true)∧(e < h.length∧getB h (h.length-1-e)=some (.arr 0 n []))∧K (.pa (h.length-1-e) 1 0 0) (setB h (h.length-1-e) (.arr 1 n [z]))
  | .hol szs=>K (.tu []) (szs.foldl (fun h sz=>addB h (.arr 0 sz [])) h)
  | .cap x=>capP (x.ev t) fun v=>K v h
  | .appz n b z x l=>appzP h n b z (x.ev t) (l.ev t) K
  | .cpy n x y=>cpyP h n (x.ev t) (y.ev t) K
  | .clr n z x=>clrP h n z (x.ev t) fun h'=>K (.tu []) h'
  | .iar n x i=>match x.ev t with
    | .g (.sl s es)=>iaP [] n (.g (.sl s es)) (i.ev t) fun v=>K v h
    | _=>False
  | .slcr n x lo hi=>match x.ev t with
    | .g (.sl s es)=>slcP [] n (.g (.sl s es)) (lo.map (X.ev t)) (hi.map (X.ev t)) fun v=>K v h
    | .nil s=>slcP [] n (.nil s) (lo.map (X.ev t)) (hi.map (X.ev t)) fun v=>K v h
    | _=>False
  | .bslg n ps=>forceT (ps.map (X.ev t)) fun vs=>cellsAll n vs∧litK vs (fun ts=>K (.g (.sl n ts)) h) False
  | .aeq neg ks x y=>match x.ev t,y.ev t with
    | .g (.ag xs),.g (.ag ys)=>eqTs ks xs ys fun b=>K (.g (.b (if neg then !b else b))) h
    | _,_=>False
  | .aia len n x i=>match i.ev t with
    | .g (.sc (.int _ i))=>(match x.ev t with
      | .pa b g j o=>(0≤i∧i < len)∧K (.pa b g j (o+i.toNat*n)) h
      | .ra s es j o=>(0≤i∧i < len)∧K (.ra s es j (o+i.toNat*n)) h
      | _=>False)
    | _=>False
  | .mkm=>K (.mp h.length) (addB h (.mp []))
  | .lku kk ok z x k=>withMap h (x.ev t) fun _ kvs=>match keyOf (k.ev t) with
    | some kv=>okKey kk kv=true∧∃ r,mfind kk kvs kv 0=some r∧K (lkuV ok z r) h
    | none=>False
  | .mup kk m k x=>withMap h (m.ev t) fun b kvs=>match keyOf (k.ev t),x.ev t with
    | some kv,.g (.sc v)=>okKey kk kv=true∧∃ r,mfind kk kvs kv 0=some r∧K (.tu []) (setB h b (.mp (mput kvs kv v r)))
    | _,_=>False
  | .mpe kk z m k=>withMap h (m.ev t) fun b kvs=>match keyOf (k.ev t) with
    | some kv=>okKey kk kv=true∧∃ r,mfind kk kvs kv 0=some r∧(match r with
      | some (i,v)=>K (.tu [.g (.sc v),.g (.i i)]) (setB h b (.mp (kvs.set i (kv,v))))
      | none=>K (.tu [.g (.sc z),.g (.i kvs.length)]) (setB h b (.mp (kvs++[(kv,z)]))))
    | none=>False
  | .est m s x=>withMap h (m.ev t) fun b kvs=>match s.ev t,x.ev t with
    | .g (.sc (.int _ i)),.g (.sc v)=>(0≤i∧i < kvs.length)∧K (.tu []) (setB h b (.mp (mset kvs i.toNat v)))
    | _,_=>False
  | .lenm x=>withMap h (x.ev t) fun _ kvs=>K (.g (.i kvs.length)) h
  | .bslo n ps=>forceT (ps.map (X.ev t)) fun vs=>cellsAll n vs∧K (.own h.length 0 0 vs.length) (addB h (.arr 0 n vs))
  | .ldz n sz a=>match a.ev t with
    | .pa b g i off=>(match getB h b with
      | some (.arr g' s es)=>(g=g'∧s=sz)∧∃ e,es[i]?=some e∧(match loadV e off n with|some v=>K v h|none=>False)
      | _=>False)
    | .ra _ es i off=>∃ e,es[i]?=some e∧(match loadV (.g e) off n with|some v=>K v h|none=>False)
    | _=>False
  | .iaz n x i=>iaP h n (x.ev t) (i.ev t) fun v=>K v h
  | .bad=>False
  | .len x=>lenP (x.ev t) fun v=>K v h
  | .lens x=>match x.ev t with
    | .g (.sc (.string s))=>K (.g (.i s.size)) h
    | _=>False
  | .app n b x y=>appP h n b (x.ev t) (y.ev t) K
  | .minmax m x y=>match x.ev t,y.ev t with
    | .g (.sc (.int k a)),.g (.sc (.int k' b))=>(match ikEq k k' with|true=>(match m with|true=>K (.g (.sc (.int k (min a b)))) h|false=>K (.g (.sc (.int k (max a b)))) h)|false=>False)
    | _,_=>False
  | .eqnil neg x=>match x.ev t with
    | .nil _=>K (.g (.b (!neg))) h
    | .g (.sl _ es)=>∀ r:Bool,(r=true→es=[])→K (.g (.b (if neg then !r else r))) h
    | .own b g _ len=>match getB h b with
      | some (.arr g' _ _)=>g=g'∧∀ r:Bool,(r=true→len=0)→K (.g (.b (if neg then !r else r))) h
      | _=>False
    | _=>False
noncomputable def putT (t:List V) (d:Option Nat) (v:V):List V:=match d with
  | none=>t
  | some d=>setT t d v
noncomputable def AXc (P:Prg) (o:SOp) (ih:(List V→List Blk→Prop)→List V→List Blk→Prop) (Q:List V→List Blk→Prop) (t:List V) (h:List Blk):Prop :=
  match o.g with
    | none=>opP P t o.o h fun v h=>forceV v fun v=>forceH h fun h=>forceT (putT t o.d v) fun t=>ih Q t h
    | some (i,b)=>match getT t i with
      | .g (.sc (.bool c)) =>
        let go (x:Bool) (t:List V):Prop:=match b,x with
          | true,true|false,false=>opP P t o.o h fun v h=>forceV v fun v=>forceH h fun h=>forceT (putT t o.d v) fun t=>ih Q t h
          | _,_=>forceT (putT t o.d (.tu [])) fun t=>ih Q t h
        Br c (forceT (setT t i (.g (.b true))) (go true)) (forceT (setT t i (.g (.b false))) (go false))
      | .tu []=>forceT (putT t o.d (.tu [])) fun t=>ih Q t h
      | _=>False
noncomputable def AX (P:Prg) (ops:List SOp):(List V→List Blk→Prop)→List V→List Blk→Prop :=
  List.rec (motive:=fun _=>(List V→List Blk→Prop)→List V→List Blk→Prop) (fun Q t h=>Q t h) (fun o _ ih=>AXc P o ih) ops
theorem AX_c {P:Prg} {o:SOp} {r:List SOp} {Q:List V→List Blk→Prop} {t:List V} {h:List Blk}:AX P (o::r) Q t h=AXc P o (AX P r) Q t h:=rfl
structure SW (z:Nat) (P:Prg) (sc:SC) (Q:Exit→St→Prop) (s:St):Prop where
  run:(∀ c s',P.pq c s'.h→Q (.panic [{ v:=P.pv c,recovered:=false }]) s')→∀ wf c,slimC P wf c=some sc→AW z P c Q s
noncomputable def X.know (c:X) (t:List V) (x:Bool):List V:=match c with
  | .t i=>setT t i (.g (.b x))
  | _=>t
def ThnQ (K:List V→List Blk→Prop) (Q:Exit→List V→List Blk→Prop):Exit→List V→List Blk→Prop
  | .normal,t,h=>K t h
  | e,t,h=>Q e t h
def InQ (id:Nat) (Q:Exit→List V→List Blk→Prop):Exit→List V→List Blk→Prop
  | .exit id',t,h=>match Nat.beq id' id with
    | true=>Q .normal t h
    | false=>Q (.exit id') t h
  | e,t,h=>Q e t h
def NoGoQ (Q:Exit→List V→List Blk→Prop):Exit→List V→List Blk→Prop
  | .goto _,_,_=>False
  | e,t,h=>Q e t h
abbrev ACt:Type:=(Exit→List V→List Blk→Prop)→List V→List Blk→Prop
noncomputable def ACcond (c:X) (a b:ACt):ACt:=fun Q t h=>match c.ev t with
    | .g (.sc (.bool x))=>Br x (forceT (c.know t true) fun t=>a Q t h) (forceT (c.know t false) fun t=>b Q t h)
    | _=>False
noncomputable def AC (z:Nat) (P:Prg) (c:SC):ACt:=SC.rec (motive:=fun _=>ACt)
  (fun Q t h=>Q .normal t h) (fun Q t h=>Q .ret t h) (fun id Q t h=>Q (.exit id) t h) (fun l Q t h=>Q (.goto l) t h) (fun _ Q t h=>Q .normal t h)
  (fun _ _ a b Q t h=>a (ThnQ (b Q) Q) t h) (fun c _ _ a b=>ACcond c a b) (fun id _ c Q t h=>c (InQ id Q) t h)
  (fun c _ Q t h=>SW z P (.loop c) (fun e s=>Q e s.t s.h) ⟨t,h⟩) (fun _ c Q t h=>c (NoGoQ Q) t h) (fun ops Q t h=>AX P ops (Q .normal) t h)
  (fun x p d b _ Q t h=>SW z P (.rf x p d b) (fun e s=>Q e s.t s.h) ⟨t,h⟩) c
theorem AC_seq {z:Nat} {P:Prg} {a b:SC} {Q:Exit→List V→List Blk→Prop} {t:List V} {h:List Blk}:AC z P (.seq a b) Q t h=AC z P a (ThnQ (AC z P b Q) Q) t h:=rfl
theorem AC_cond {z:Nat} {P:Prg} {c:X} {a b:SC} {Q:Exit→List V→List Blk→Prop} {t:List V} {h:List Blk}:AC z P (.cond c a b) Q t h=ACcond c (AC z P a) (AC z P b) Q t h:=rfl
end Go.Aw
namespace Go.Aw
def RVs (γ:List (Option Nat)) (H:List Blk) (I:Nat→Prop) (w:World) (vs:List V) (xs:List Value):Prop :=
  xs.length=vs.length∧∀ (i:Nat) (v:V),vs[i]?=some v→RV γ H I w v (xs.getD i undef)
section
variable {γ γ':List (Option Nat)} {H H':List Blk} {I I':Nat→Prop} {w w':World}
theorem RVs.nil:RVs γ H I w [] []:=⟨rfl,fun _ _ h=>by simp at h⟩
theorem RVs.cons {v:V} {x:Value} {vs:List V} {xs:List Value} (h:RV γ H I w v x) (hs:RVs γ H I w vs xs):RVs γ H I w (v::vs) (x::xs):=by
  refine ⟨by simp [hs.1],fun i v' hi=>?_⟩
  cases i with
  | zero=>simp at hi;subst hi;exact h
  | succ i=>simp at hi;simpa using hs.2 i v' hi
theorem RVs.uncons {v:V} {vs:List V} {xs:List Value} (h:RVs γ H I w (v::vs) xs):∃ x xs',xs=x::xs'∧RV γ H I w v x∧RVs γ H I w vs xs':=by
  cases xs with
  | nil=>simp [RVs] at h
  | cons x xs =>
    refine ⟨x,xs,rfl,by simpa using h.2 0 v rfl,by simpa using h.1,fun i v' hi=>?_⟩
    simpa using h.2 (i+1) v' (by simpa using hi)
theorem RVs.append {vs us:List V} {xs ys:List Value} (h:RVs γ H I w vs xs) (k:RVs γ H I w us ys):RVs γ H I w (vs++us) (xs++ys):=by
  induction vs generalizing xs with
  | nil=>cases xs with
    | nil=>exact k
    | cons=>simp [RVs] at h
  | cons v vs ih=>obtain ⟨x,xs',rfl,h1,h2⟩:=h.uncons;exact .cons h1 (ih h2)
theorem RVs.take {vs:List V} {xs:List Value} (h:RVs γ H I w vs xs) (n:Nat):RVs γ H I w (vs.take n) (xs.take n):=by
  induction vs generalizing xs n with
  | nil=>cases xs with
    | nil=>simpa using h
    | cons=>simp [RVs] at h
  | cons v vs ih =>
    obtain ⟨x,xs',rfl,h1,h2⟩:=h.uncons
    cases n with
    | zero=>exact .nil
    | succ n=>exact .cons h1 (ih h2 n)
theorem RVs.drop {vs:List V} {xs:List Value} (h:RVs γ H I w vs xs) (n:Nat):RVs γ H I w (vs.drop n) (xs.drop n):=by
  induction vs generalizing xs n with
  | nil=>cases xs with
    | nil=>simpa using h
    | cons=>simp [RVs] at h
  | cons v vs ih =>
    obtain ⟨x,xs',rfl,h1,h2⟩:=h.uncons
    cases n with
    | zero=>exact .cons h1 h2
    | succ n=>exact ih h2 n
theorem RVs.mono (h:Ext γ H I w γ' H' I' w') (r:RelH γ I w H) {vs:List V} {xs:List Value} (hv:RVs γ H I w vs xs):RVs γ' H' I' w' vs xs :=
  ⟨hv.1,fun i v hi=>(hv.2 i v hi).mono h r⟩
theorem RVs.get {vs:List V} {xs:List Value} (h:RVs γ H I w vs xs) {i:Nat} {v:V} (hi:vs[i]?=some v):∃ x,xs[i]?=some x∧RV γ H I w v x:=by
  have hlt:i < xs.length:=by rw [h.1];exact lt_of_get hi
  refine ⟨xs[i],by simp [hlt],?_⟩
  have:=h.2 i v hi
  simpa [hlt] using this
theorem RVs.of_get {vs:List V} {xs:List Value} (hl:xs.length=vs.length) (h:∀ (i:Nat) (v:V),vs[i]?=some v→∃ x,xs[i]?=some x∧RV γ H I w v x):RVs γ H I w vs xs :=
  ⟨hl,fun i v hi=>by obtain ⟨x,hx,hr⟩:=h i v hi;rw [getD_eq hx];exact hr⟩
structure RCs (γ:List (Option Nat)) (H:List Blk) (I:Nat→Prop) (w:World) (vs:List V) (xs:List Value):Prop where
  rv:RVs γ H I w vs xs
  one:∀ x∈xs,x.oneCell'=true
theorem RCs.nil:RCs γ H I w [] []:=⟨.nil,by simp⟩
theorem RCs.cons {v:V} {x:Value} {vs:List V} {xs:List Value} (h:RV γ H I w v x) (h1:x.oneCell'=true) (hs:RCs γ H I w vs xs):RCs γ H I w (v::vs) (x::xs) :=
  ⟨.cons h hs.rv,fun y hy=>by rcases List.mem_cons.1 hy with rfl|hy;exact h1;exact hs.one y hy⟩
theorem RCs.append {vs us:List V} {xs ys:List Value} (h:RCs γ H I w vs xs) (k:RCs γ H I w us ys):RCs γ H I w (vs++us) (xs++ys) :=
  ⟨h.rv.append k.rv,fun y hy=>by rcases List.mem_append.1 hy with hy|hy;exact h.one y hy;exact k.one y hy⟩
theorem RCs.take {vs:List V} {xs:List Value} (h:RCs γ H I w vs xs) (n:Nat):RCs γ H I w (vs.take n) (xs.take n):=⟨h.rv.take n,fun y hy=>h.one y (List.mem_of_mem_take hy)⟩
theorem RCs.drop {vs:List V} {xs:List Value} (h:RCs γ H I w vs xs) (n:Nat):RCs γ H I w (vs.drop n) (xs.drop n):=⟨h.rv.drop n,fun y hy=>h.one y (List.mem_of_mem_drop hy)⟩
theorem RCs.get {vs:List V} {xs:List Value} (h:RCs γ H I w vs xs) {i:Nat} {v:V} (hi:vs[i]?=some v):∃ x,xs[i]?=some x∧x.oneCell'=true∧RV γ H I w v x:=by
  obtain ⟨x,h1,h2⟩:=h.rv.get hi;exact ⟨x,h1,h.one x (List.mem_of_getElem? h1),h2⟩
theorem RCs.mono (h:Ext γ H I w γ' H' I' w') (r:RelH γ I w H) {vs:List V} {xs:List Value} (hv:RCs γ H I w vs xs):RCs γ' H' I' w' vs xs:=⟨hv.rv.mono h r,hv.one⟩
theorem isT_all {vs:List V} {ts:List T} (h:optL (vs.map V.isT)=some ts):vs=ts.map .g:=by
  have:=optL_some h
  induction vs generalizing ts with
  | nil=>cases ts with
    | nil=>rfl
    | cons=>simp at this
  | cons v vs ih =>
    cases ts with
    | nil=>simp at this
    | cons t ts =>
      simp only [List.map_cons,List.cons.injEq] at this
      obtain ⟨h1,h2⟩:=this
      have hv:v=.g t:=by cases v <;> simp [V.isT] at h1;subst h1;rfl
      subst hv
      have:optL (vs.map V.isT)=some ts:=by rw [h2];simp
      rw [List.map_cons,← ih this h2]
theorem mkAg_ok {vs:List V} {xs:List Value} (hc:RCs γ H I w vs xs):RV γ H I w (mkAg vs) (.agg xs.toArray):=by
  have h:=hc.rv
  unfold mkAg
  split
  · rename_i ts hts
    have:=isT_all hts
    subst this
    refine .g (.ag (by simpa using h.1) hc.one (fun i t ht=>?_))
    have:=h.2 i (.g t) (by simp [ht])
    generalize xs.getD i undef=y at this
    cases this with|g h=>exact h
  · exact .ag h.1 hc.one h.2
theorem asAg_ok {v:V} {cs:List V} {x:Value} (h:asAg v=some cs) (hv:RV γ H I w v x):∃ xs:List Value,x=.agg xs.toArray∧RCs γ H I w cs xs:=by
  cases v with
  | g t =>
    cases t with
    | ag ts =>
      simp [asAg] at h;subst h
      cases hv with|g hv =>
      cases hv with|@ag _ vs hl h1 hr =>
      refine ⟨vs,rfl,⟨by simp [hl],fun i v hi=>?_⟩,h1⟩
      rw [List.getElem?_map] at hi
      cases ht:ts[i]? with
      | none=>rw [ht] at hi;simp at hi
      | some t=>rw [ht] at hi;simp at hi;subst hi;exact .g (hr i t ht)
    | _=>simp [asAg] at h
  | ag us =>
    simp [asAg] at h;subst h
    cases hv with|@ag _ vs hl h1 hr=>exact ⟨vs,rfl,⟨hl,hr⟩,h1⟩
  | _=>simp [asAg] at h
theorem one_cells {x:Value} (h:x.oneCell'=true):x.cells=#[x]:=by
  cases x <;> simp [Value.oneCell',Value.cells] at h ⊢
theorem RT.one {t:T} {x:Value} (h:RT I w t x) (ht:∀ ts,t≠.ag ts):x.oneCell'=true∧t.cells=[t]:=by
  cases h with
  | sc h=>exact ⟨h,rfl⟩
  | sl=>exact ⟨rfl,rfl⟩
  | ag=>exact absurd rfl (ht _)
theorem cells_ok {v:V} {x:Value} (h:RV γ H I w v x) (hn:okV v=true):RCs γ H I w v.cells x.cells.toList:=by
  have one:x.oneCell'=true→v.cells=[v]→RCs γ H I w v.cells x.cells.toList:=fun h1 h2=>by
    rw [one_cells h1,h2];exact .cons h h1 .nil
  cases v with
  | any=>simp [okV] at hn
  | tu=>simp [okV] at hn
  | g t =>
    cases t with
    | ag ts =>
      obtain ⟨xs,rfl,hx⟩:=asAg_ok (v:=.g (.ag ts)) rfl h
      simpa [V.cells,T.cells,Value.cells] using hx
    | sc v=>exact one (by cases h with|g h=>exact (h.one (by simp)).1) rfl
    | sl sz es=>exact one (by cases h with|g h=>exact (h.one (by simp)).1) rfl
  | ag cs=>obtain ⟨xs,rfl,hx⟩:=asAg_ok (v:=.ag cs) rfl h;simpa [V.cells,Value.cells] using hx
  | nil=>exact one (by cases h;rfl) rfl
  | own=>exact one (by cases h;rfl) rfl
  | pa=>exact one (by cases h;rfl) rfl
  | ra=>exact one (by cases h;rfl) rfl
  | fn=>exact one (by cases h;rfl) rfl
  | mp=>exact one (by cases h;rfl) rfl
theorem lit1_ok {k:Option Nat} {x:Value} {v:V} (h:lit1 k x=some v):RV γ H I w v x∧x.oneCell'=true:=by
  unfold lit1 at h
  split at h
  · cases h;exact ⟨.nil,rfl⟩
  · simp at h
  · split at h
    · cases h;rename_i hx;exact ⟨.g (.sc hx),hx⟩
    · simp at h
  · simp at h
theorem zipLit_ok:∀ {ks:List (Option Nat)} {xs:List Value} {vs:List V},zipLit ks xs=some vs→RCs γ H I w vs xs
  | [],[],vs,h=>by simp [zipLit] at h;subst h;exact .nil
  | [],_::_,_,h=>by simp [zipLit] at h
  | _::_,[],_,h=>by simp [zipLit] at h
  | k::ks,x::xs,vs,h=>by
    simp only [zipLit] at h
    cases h1:lit1 k x with
    | none=>rw [h1] at h;simp at h
    | some v =>
      cases h2:zipLit ks xs with
      | none=>rw [h1,h2] at h;simp at h
      | some us=>rw [h1,h2] at h;simp at h;subst h;have h3:=lit1_ok (γ:=γ) (H:=H) (I:=I) (w:=w) h1;exact .cons h3.1 h3.2 (zipLit_ok h2)
theorem litV_ok {P:Program} {t:TypeId} {x:Value} {vs:List V} (h:litV P t x=some vs):RCs γ H I w vs x.cells.toList:=by
  unfold litV at h
  cases hk:cellKinds P 20 t with
  | none=>rw [hk] at h;simp at h
  | some ks=>rw [hk] at h;exact zipLit_ok (by simpa using h)
theorem slimX_ok {P:Program} {ty:TypeId} {o:Operand} {x:X} (h:slimX P ty o=some x) {s:St} {a:Act} (r:Rel γ I w s a):RV γ s.h I w (x.ev s.t) (a.eval o):=by
  unfold slimX at h
  split at h
  · rename_i i
    cases h
    simp only [X.ev,Act.eval,getT_eq]
    cases ht:s.t[i]? with
    | none=>rw [List.getD_eq_getElem?_getD,ht];exact .any
    | some v=>rw [getD_eq ht];exact r.tmps i v ht
  · cases h;exact .fn (vs:=[]) rfl (by simp)
  · simp at h
  · split at h
    · cases he:(elemOfS P ty).bind (szOf P) with
      | none=>rw [he] at h;simp at h
      | some sz=>rw [he] at h;simp at h;subst h;exact .nil
    · split at h
      · rename_i cs _
        cases he:litV P ty (.agg cs) with
        | none=>rw [he] at h;simp at h
        | some vs =>
          rw [he] at h;simp at h;subst h
          have:=mkAg_ok (litV_ok (γ:=γ) (H:=s.h) (I:=I) (w:=w) he)
          simpa [X.ev,Value.cells,Act.eval] using this
      · simp at h
    · simp at h
    · split at h
      · cases h;rename_i hx;exact .g (.sc hx)
      · simp at h
theorem alloc_ok (r:RelH γ I w H) {es:List V} {sz:Nat} {c:Array Value} {el:TypeId} (hwf:∀ e∈es,e.cells.length=sz) (hsz:es.length*sz≤c.size)
    (hc:∀ (i:Nat) (v:V),(flatV es)[i]?=some v→∃ x,c[i]?=some x∧x.oneCell'=true∧RV γ H I w v x) (g:Nat) :
    RelH (γ++[some w.heap.size]) I (w.alloc (.cells c el)) (H++[.arr g sz es])∧Ext γ H I w (γ++[some w.heap.size]) (H++[.arr g sz es]) I (w.alloc (.cells c el)):=by
  have hx:Ext γ H I w (γ++[some w.heap.size]) (H++[.arr g sz es]) I (w.alloc (.cells c el)):={
    os:=rfl
    tape:=rfl
    output:=rfl
    size:=by simp
    sub:=fun _ h=>h
    sub':=fun _ h=>.inl h
    frame:=fun k hk _=>Go.RowKit.Below.heap_alloc _ _ _ hk
    rows:=fun k n ⟨c',el',fr,h1,h2⟩=>⟨c',el',fr,by rw [Go.RowKit.Below.heap_alloc _ _ _ (by have:=h1;rcases Nat.lt_or_ge k w.heap.size with h|h;exact h;simp [Array.getElem?_eq_none h] at h1)];exact h1,h2⟩
    blk:=fun b y hy=>⟨y,by rw [List.getElem?_append_left (lt_of_get hy)];exact hy,y.upto_refl,fun _=>⟨by rw [List.getElem?_append_left (by rw [r.len];exact lt_of_get hy)],fun g sz es es' e1 e2=>by subst e1;cases e2;exact Nat.le_refl _⟩⟩
    new:=fun b k hk=>by
      rcases Nat.lt_or_ge b γ.length with hb|hb
      · rw [List.getElem?_append_left hb] at hk;exact .inr ⟨b,hk⟩
      · rw [List.getElem?_append_right hb] at hk
        cases hd:b-γ.length with
        | zero=>rw [hd] at hk;simp at hk;left;omega
        | succ n=>rw [hd] at hk;simp at hk }
  refine ⟨?_,hx⟩
  have hold:∀ b:Nat,b < H.length→(γ++[some w.heap.size])[b]?=γ[b]?:=fun b hb=>List.getElem?_append_left (by rw [r.len];exact hb)
  have hnew:(γ++[some w.heap.size])[H.length]?=some (some w.heap.size):=by rw [List.getElem?_append_right (by rw [r.len];exact Nat.le_refl _)];simp [r.len]
  have hcase:∀ (b:Nat) (k:Nat),(γ++[some w.heap.size])[b]?=some (some k)→(γ[b]?=some (some k)∧b < H.length)∨(b=H.length∧k=w.heap.size):=by
    intro b k hk
    rcases Nat.lt_or_ge b γ.length with hb|hb
    · rw [List.getElem?_append_left hb] at hk;exact .inl ⟨hk,by rw [← r.len];exact hb⟩
    · rw [List.getElem?_append_right hb] at hk
      cases hd:b-γ.length with
      | zero=>rw [hd] at hk;simp at hk;right;have:=r.len;omega
      | succ n=>rw [hd] at hk;simp at hk
  constructor
  · simp [r.len]
  · intro b g' sz' es' hb
    rcases Nat.lt_or_ge b H.length with hlt|hge
    · rw [List.getElem?_append_left hlt] at hb
      rw [hold b hlt]
      rcases r.arr b g' sz' es' hb with h|⟨k,c',el',h1,h2,h3,h4,h5⟩
      · exact .inl h
      · refine .inr ⟨k,c',el',h1,?_,h3,h4,fun i v hv=>?_⟩
        · rw [Go.RowKit.Below.heap_alloc _ _ _ (r.off b k h1).2];exact h2
        · obtain ⟨x,e1,e3,e2⟩:=h5 i v hv;exact ⟨x,e1,e3,e2.mono hx r⟩
    · rw [List.getElem?_append_right hge] at hb
      cases hd:b-H.length with
      | succ n=>rw [hd] at hb;simp at hb
      | zero =>
        rw [hd] at hb;simp at hb
        obtain ⟨rfl,rfl,rfl⟩:=hb
        obtain rfl:b=H.length:=by omega
        refine .inr ⟨w.heap.size,c,el,hnew,by show (w.heap.push _)[w.heap.size]?=_;simp,hwf,hsz,fun i v hv=>?_⟩
        obtain ⟨x,e1,e3,e2⟩:=hc i v hv;exact ⟨x,e1,e3,e2.mono hx r⟩
  · intro b kvs hb
    rcases Nat.lt_or_ge b H.length with hlt|hge
    · rw [List.getElem?_append_left hlt] at hb
      obtain ⟨k,es',cl,h1,h2,h3⟩:=r.mp b kvs hb
      exact ⟨k,es',cl,by rw [hold b hlt];exact h1,by rw [Go.RowKit.Below.heap_alloc _ _ _ (r.off b k h1).2];exact h2,h3⟩
    · rw [List.getElem?_append_right hge] at hb
      cases hd:b-H.length with
      | succ n=>rw [hd] at hb;simp at hb
      | zero=>rw [hd] at hb;simp at hb
  · intro b b' k h1 h2
    rcases hcase b k h1 with ⟨e1,l1⟩|⟨e1,l1⟩ <;> rcases hcase b' k h2 with ⟨e2,l2⟩|⟨e2,l2⟩
    · exact r.inj b b' k e1 e2
    · have:=(r.off b k e1).2;omega
    · have:=(r.off b' k e2).2;omega
    · omega
  · intro b k h1
    rcases hcase b k h1 with ⟨e1,l1⟩|⟨e1,l1⟩
    · exact ⟨(r.off b k e1).1,by have:=(r.off b k e1).2;simp;omega⟩
    · exact ⟨fun hI=>by have:=r.immlt hI;omega,by simp;omega⟩
  · exact r.immx fun k hk=>Go.RowKit.Below.heap_alloc _ _ _ (r.immlt hk)
end
end Go.Aw
namespace Go.Aw
def wr (c:Array Value) (o:Nat):List Value→Array Value
  | []=>c
  | x::xs=>wr (c.setIfInBounds o x) (o+1) xs
@[simp] theorem wr_size (c:Array Value) (o:Nat) (xs:List Value):(wr c o xs).size=c.size:=by
  induction xs generalizing c o with
  | nil=>rfl
  | cons x xs ih=>simp [wr,ih]
theorem wr_get (c:Array Value) (o:Nat) (xs:List Value) (h:o+xs.length≤c.size) (j:Nat) :
    (wr c o xs)[j]?=if o≤j∧j < o+xs.length then xs[j-o]? else c[j]?:=by
  induction xs generalizing c o with
  | nil=>simp [wr];intro h1 h2;omega
  | cons x xs ih =>
    simp only [wr]
    rw [ih _ _ (by simp at h ⊢;omega)]
    simp only [List.length_cons] at h ⊢
    by_cases h1:o+1≤j∧j < o+1+xs.length
    · rw [if_pos h1,if_pos (by omega)]
      have:j-o=(j-(o+1))+1:=by omega
      rw [this];simp
    · rw [if_neg h1]
      by_cases h2:j=o
      · subst h2
        rw [if_pos (by omega)]
        simp [show j < c.size by omega]
      · rw [if_neg (by omega),Array.getElem?_setIfInBounds,if_neg (by omega)]
def World.setB (w:World) (k:Nat) (o:Obj):World:={ w with heap:=w.heap.setIfInBounds k o }
theorem setB_get (w:World) (k j:Nat) (o:Obj) (h:j≠k):(World.setB w k o).heap[j]?=w.heap[j]?:=by
  simp [World.setB,h.symm]
theorem setB_same (w:World) (k:Nat) (o:Obj) (h:k < w.heap.size):(World.setB w k o).heap[k]?=some o:=by
  simp [World.setB,h]
@[simp] theorem setB_size (w:World) (k:Nat) (o:Obj):(World.setB w k o).heap.size=w.heap.size:=by simp [World.setB]
theorem heap_lt {w:World} {k:Nat} {o:Obj} (h:w.heap[k]?=some o):k < w.heap.size:=(Array.getElem?_eq_some_iff.1 h).1
theorem setB_self (w:World) (k:Nat) (o:Obj) (h:w.heap[k]?=some o):World.setB w k o=w:=by
  unfold World.setB
  have:w.heap.setIfInBounds k o=w.heap:=by
    apply Array.ext_getElem?
    intro i
    rw [Array.getElem?_setIfInBounds]
    split
    · rename_i hi;subst hi;rw [if_pos (heap_lt h)];exact h.symm
    · rfl
  rw [this]
theorem setB_setB (w:World) (k:Nat) (o o':Obj):World.setB (World.setB w k o) k o'=World.setB w k o':=by
  unfold World.setB
  congr 1
  apply Array.ext_getElem?
  intro i
  simp only [Array.getElem?_setIfInBounds,Array.size_setIfInBounds]
  split <;> rfl
theorem setCell_setB {w:World} {k o:Nat} {c:Array Value} {el:TypeId} {v:Value} (h:w.heap[k]?=some (.cells c el (0,0))) :
    w.setCell ⟨k,o,none⟩ v=World.setB w k (.cells (c.setIfInBounds o v) el (0,0)):=by
  unfold World.setCell World.setB
  congr 1
  apply Array.ext_getElem?
  intro i
  rw [Array.getElem?_modify,Array.getElem?_setIfInBounds]
  split
  · rename_i hi;subst hi;rw [if_pos (heap_lt h),h];simp
  · rfl
theorem run_storeCells {P:Program} {k o:Nat} {el:TypeId}:∀ {xs:List Value} {i:Nat} {w:World} {c:Array Value},w.heap[k]?=some (.cells c el (0,0)) →
    o+i+xs.length≤c.size→(∀ x∈xs,x.oneCell'=true) →
    (storeCells ⟨k,o,none⟩ xs i).run P w=.ok () (World.setB w k (.cells (wr c (o+i) xs) el (0,0))):=by
  intro xs
  induction xs with
  | nil=>intro i w c h _ _;simp only [storeCells,wr,Sem.run_pure];rw [setB_self w k _ h]
  | cons x xs ih =>
    intro i w c h hs hx
    simp only [storeCells,Sem.run_bind]
    have ha:(⟨k,o,none⟩:Addr).add i=⟨k,o+i,none⟩:=by unfold Addr.add;split <;> simp_all
    simp only [List.length_cons] at hs
    have hlt:o+i < c.size:=by omega
    rw [ha,run_store P w _ x .plain (hx x (by simp))]
    have hc:w.cell? ⟨k,o+i,none⟩=some c[o+i]:=by simp [World.cell?,h,hlt]
    have hf:w.frozen? ⟨k,o+i,none⟩=false:=by simp [World.frozen?,h]
    rw [hc,hf]
    simp only [Bool.false_eq_true,if_false,Result.andThen_ok]
    rw [setCell_setB h]
    rw [ih (w:=World.setB w k _) (c:=c.setIfInBounds (o+i) x) (setB_same w k _ (heap_lt h)) (by simp;omega) (fun y hy=>hx y (by simp [hy]))]
    rw [setB_setB]
    simp only [wr]
    rfl
section
variable {γ γ':List (Option Nat)} {H H':List Blk} {I I':Nat→Prop} {w w':World}
theorem hasRow_setB {k:Nat} {c c':Array Value} {el:TypeId} (h:w.heap[k]?=some (.cells c el (0,0))) (hs:c'.size=c.size) {j n:Nat} (hj:hasRow w j n) :
    hasRow (World.setB w k (.cells c' el (0,0))) j n:=by
  obtain ⟨d,e,fr,h1,h2⟩:=hj
  by_cases hjk:j=k
  · subst hjk
    rw [h] at h1;cases h1
    exact ⟨c',el,(0,0),setB_same _ _ _ (heap_lt h),by omega⟩
  · exact ⟨d,e,fr,by rw [setB_get _ _ _ _ hjk];exact h1,h2⟩
theorem upd_ok (r:RelH γ I w H) {b g g' sz k:Nat} {es es':List V} {c c':Array Value} {el:TypeId} (hb:H[b]?=some (.arr g sz es)) (hk:γ[b]?=some (some k))
    (hh:w.heap[k]?=some (.cells c el (0,0))) (hs:c'.size=c.size) (hg:g≤g') (hl:g=g'→es.length≤es'.length)
    (hwf:∀ e∈es',e.cells.length=sz) (hsz:es'.length*sz≤c.size)
    (hc:∀ (i:Nat) (v:V),(flatV es')[i]?=some v→∃ x,c'[i]?=some x∧x.oneCell'=true∧RV γ H I w v x) :
    RelH γ I (World.setB w k (.cells c' el (0,0))) (H.set b (.arr g' sz es'))∧Ext γ H I w γ (H.set b (.arr g' sz es')) I (World.setB w k (.cells c' el (0,0))):=by
  have hbl:=lt_of_get hb
  have hx:Ext γ H I w γ (H.set b (.arr g' sz es')) I (World.setB w k (.cells c' el (0,0))):={
    os:=rfl
    tape:=rfl
    output:=rfl
    size:=by simp
    sub:=fun _ h=>h
    sub':=fun _ h=>.inl h
    frame:=fun j _ hj=>setB_get _ _ _ _ (fun e=>hj b (by rw [e];exact hk))
    rows:=fun j n hj=>hasRow_setB hh hs hj
    blk:=fun j y hy=>by
      by_cases hjb:j=b
      · subst hjb
        rw [hb] at hy;cases hy
        refine ⟨.arr g' sz es',by simp [hbl],by simp [Blk.upto,hg],fun e=>⟨rfl,fun g1 s1 e1 e2 h1 h2=>?_⟩⟩
        simp [Blk.same] at e
        cases h1;cases h2;exact hl e
      · exact ⟨y,by rw [List.getElem?_set,if_neg (fun e=>hjb e.symm)];exact hy,y.upto_refl,fun _=>⟨rfl,fun g1 s1 e1 e2 h1 h2=>by subst h1;cases h2;exact Nat.le_refl _⟩⟩
    new:=fun b _ h=>.inr ⟨b,h⟩ }
  refine ⟨?_,hx⟩
  constructor
  · simp [r.len]
  · intro j g1 s1 e1 hj
    by_cases hjb:j=b
    · subst hjb
      simp [hbl] at hj
      obtain ⟨rfl,rfl,rfl⟩:=hj
      refine .inr ⟨k,c',el,hk,setB_same _ _ _ (heap_lt hh),hwf,by omega,fun i v hv=>?_⟩
      obtain ⟨x,h1,h3,h2⟩:=hc i v hv
      exact ⟨x,h1,h3,h2.mono hx r⟩
    · rw [List.getElem?_set,if_neg (fun e=>hjb e.symm)] at hj
      rcases r.arr j g1 s1 e1 hj with h|⟨k',c1,el',h1,h2,h3,h4,h5⟩
      · exact .inl h
      · have hkk:k'≠k:=fun e=>hjb (r.inj j b k (by rw [← e];exact h1) hk)
        refine .inr ⟨k',c1,el',h1,by rw [setB_get _ _ _ _ hkk];exact h2,h3,h4,fun i v hv=>?_⟩
        obtain ⟨x,e1,e3,e2⟩:=h5 i v hv
        exact ⟨x,e1,e3,e2.mono hx r⟩
  · intro j kvs hj
    have hjb:j≠b:=fun e=>by subst e;simp [hbl] at hj
    rw [List.getElem?_set,if_neg (fun e=>hjb e.symm)] at hj
    obtain ⟨k',es1,cl,h1,h2,h3⟩:=r.mp j kvs hj
    have hkk:k'≠k:=fun e=>hjb (r.inj j b k (by rw [← e];exact h1) hk)
    exact ⟨k',es1,cl,h1,by rw [setB_get _ _ _ _ hkk];exact h2,h3⟩
  · exact r.inj
  · intro j k' hj;have:=r.off j k' hj;exact ⟨this.1,by simp;exact this.2⟩
  · exact r.immx fun k' hk'=>setB_get _ _ _ _ (fun e=>(r.off b k hk).1 (e▸hk'))
theorem realloc_ok (r:RelH γ I w H) {b g sz:Nat} {es es':List V} {c:Array Value} {el:TypeId} (hb:H[b]?=some (.arr g sz es))
    (hwf:∀ e∈es',e.cells.length=sz) (hsz:es'.length*sz≤c.size)
    (hc:∀ (i:Nat) (v:V),(flatV es')[i]?=some v→∃ x,c[i]?=some x∧x.oneCell'=true∧RV γ H I w v x) :
    RelH (γ.set b (some w.heap.size)) I (w.alloc (.cells c el)) (H.set b (.arr (g+1) sz es')) ∧
      Ext γ H I w (γ.set b (some w.heap.size)) (H.set b (.arr (g+1) sz es')) I (w.alloc (.cells c el)):=by
  have hbl:=lt_of_get hb
  have hgl:b < γ.length:=by rw [r.len];exact hbl
  have hold:∀ (j:Nat),j < w.heap.size→(w.alloc (.cells c el)).heap[j]?=w.heap[j]?:=fun j hj=>Go.RowKit.Below.heap_alloc _ _ _ hj
  have hcase:∀ (j k:Nat),(γ.set b (some w.heap.size))[j]?=some (some k)→(j=b∧k=w.heap.size)∨(j≠b∧γ[j]?=some (some k)):=by
    intro j k hk
    by_cases hjb:j=b
    · subst hjb;simp [hgl] at hk;exact .inl ⟨rfl,hk.symm⟩
    · rw [List.getElem?_set,if_neg (fun e=>hjb e.symm)] at hk;exact .inr ⟨hjb,hk⟩
  have hx:Ext γ H I w (γ.set b (some w.heap.size)) (H.set b (.arr (g+1) sz es')) I (w.alloc (.cells c el)):={
    os:=rfl
    tape:=rfl
    output:=rfl
    size:=by simp
    sub:=fun _ h=>h
    sub':=fun _ h=>.inl h
    frame:=fun k hk _=>hold k hk
    rows:=fun k n ⟨c',el',fr,h1,h2⟩=>⟨c',el',fr,by rw [hold _ (heap_lt h1)];exact h1,h2⟩
    blk:=fun j y hy=>by
      by_cases hjb:j=b
      · subst hjb
        rw [hb] at hy;cases hy
        exact ⟨.arr (g+1) sz es',by simp [hbl],by simp [Blk.upto],fun e=>by simp [Blk.same] at e⟩
      · exact ⟨y,by rw [List.getElem?_set,if_neg (fun e=>hjb e.symm)];exact hy,y.upto_refl,fun _=>⟨by rw [List.getElem?_set,if_neg (fun e=>hjb e.symm)],fun g1 s1 e1 e2 h1 h2=>by subst h1;cases h2;exact Nat.le_refl _⟩⟩
    new:=fun j k hk=>by
      rcases hcase j k hk with ⟨_,h⟩|⟨_,h⟩
      · exact .inl (by omega)
      · exact .inr ⟨_,h⟩ }
  refine ⟨?_,hx⟩
  constructor
  · simp [r.len]
  · intro j g1 s1 e1 hj
    by_cases hjb:j=b
    · subst hjb
      simp [hbl] at hj
      obtain ⟨rfl,rfl,rfl⟩:=hj
      refine .inr ⟨w.heap.size,c,el,by simp [hgl],by show (w.heap.push _)[w.heap.size]?=_;simp,hwf,hsz,fun i v hv=>?_⟩
      obtain ⟨x,h1,h3,h2⟩:=hc i v hv
      exact ⟨x,h1,h3,h2.mono hx r⟩
    · rw [List.getElem?_set,if_neg (fun e=>hjb e.symm)] at hj
      rw [List.getElem?_set,if_neg (fun e=>hjb e.symm)]
      rcases r.arr j g1 s1 e1 hj with h|⟨k',c1,el',h1,h2,h3,h4,h5⟩
      · exact .inl h
      · refine .inr ⟨k',c1,el',h1,by rw [hold _ (r.off j k' h1).2];exact h2,h3,h4,fun i v hv=>?_⟩
        obtain ⟨x,e1,e3,e2⟩:=h5 i v hv
        exact ⟨x,e1,e3,e2.mono hx r⟩
  · intro j kvs hj
    have hjb:j≠b:=fun e=>by subst e;simp [hbl] at hj
    rw [List.getElem?_set,if_neg (fun e=>hjb e.symm)] at hj
    obtain ⟨k',es1,cl,h1,h2,h3⟩:=r.mp j kvs hj
    exact ⟨k',es1,cl,by rw [List.getElem?_set,if_neg (fun e=>hjb e.symm)];exact h1,by rw [hold _ (r.off j k' h1).2];exact h2,h3⟩
  · intro j j' k h1 h2
    rcases hcase j k h1 with ⟨e1,l1⟩|⟨e1,l1⟩ <;> rcases hcase j' k h2 with ⟨e2,l2⟩|⟨e2,l2⟩
    · omega
    · have:=(r.off j' k l2).2;omega
    · have:=(r.off j k l1).2;omega
    · exact r.inj j j' k l1 l2
  · intro j k h1
    rcases hcase j k h1 with ⟨e1,l1⟩|⟨e1,l1⟩
    · exact ⟨fun hI=>by have:=r.immlt hI;omega,by simp;omega⟩
    · exact ⟨(r.off j k l1).1,by have:=(r.off j k l1).2;simp;omega⟩
  · exact r.immx fun k hk=>hold k (r.immlt hk)
theorem drew_ok (r:RelH γ I w H):RelH γ I { w with drawn:=w.drawn+1 } H∧Ext γ H I w γ H I { w with drawn:=w.drawn+1 }:=by
  have hx:Ext γ H I w γ H I { w with drawn:=w.drawn+1 } :=
    ⟨rfl,rfl,rfl,Nat.le_refl _,fun _ h=>h,fun _ h=>.inl h,fun _ _ _=>rfl,fun _ _ h=>h,
      fun b x h=>⟨x,h,x.upto_refl,fun _=>⟨rfl,fun g sz es es' h1 h2=>by subst h1;cases h2;exact Nat.le_refl _⟩⟩,fun b _ h=>.inr ⟨b,h⟩⟩
  refine ⟨⟨r.len,fun b g sz es hb=>?_,fun b kvs hb=>?_,r.inj,r.off,r.imm⟩,hx⟩
  · rcases r.arr b g sz es hb with h|⟨k,c,el,h1,h2,h3,h4,h5⟩
    · exact .inl h
    · exact .inr ⟨k,c,el,h1,h2,h3,h4,fun i v hv=>by obtain ⟨x,e1,e3,e2⟩:=h5 i v hv;exact ⟨x,e1,e3,e2.mono hx r⟩⟩
  · obtain ⟨k,es1,cl,h1,h2,h3⟩:=r.mp b kvs hb;exact ⟨k,es1,cl,h1,h2,h3⟩
end
end Go.Aw
namespace Go.Aw
section
variable {P:Program} {o:Oper} {a:Act} {w w':World} {next:Act→World→Prop} {Q:Exit→Act→World→Prop}
theorem wp_value {x:Value} (h:(execOp a.eval o).run P w=.ok (.value x) w') (hn:next (a.put o.dst x) w'):o.wp P a w next Q:=by
  unfold Oper.wp;rw [h];exact hn
theorem wp_skp (h:(execOp a.eval o).run P w=.ok .skip w') (hn:next (a.put o.dst undef) w'):o.wp P a w next Q:=by
  unfold Oper.wp;rw [h];exact hn
theorem run_v {s:Sem Value} {x:Value} (h:s.run P w=.ok x w'):(do pure (Next.value (← s)):Sem Next).run P w=.ok (.value x) w':=by
  simp [h]
theorem wrap_in {k:IntKind} {n:Int} (h:inR k n):k.wrap n=n:=by
  unfold inR IntKind.min IntKind.max at h
  unfold IntKind.wrap
  cases k <;> simp [IntKind.signed,IntKind.bits] at h ⊢ <;> omega
end
section
variable {γ:List (Option Nat)} {H:List Blk} {I:Nat→Prop} {w:World}
theorem rv_sc {v x:Value} (h:RV γ H I w (.g (.sc v)) x):x=v:=by
  cases h with|g h=>cases h;rfl
theorem rv_one {v x:Value} (h:RV γ H I w (.g (.sc v)) x):v.oneCell'=true:=by
  cases h with|g h=>cases h;assumption
theorem rv_bool {b:Bool}:RV γ H I w (.g (.b b)) (.bool b):=.g (.sc rfl)
theorem rv_int {k:IntKind} {n:Int}:RV γ H I w (.g (.sc (.int k n))) (.int k n):=.g (.sc rfl)
theorem rv_str {s:ByteArray}:RV γ H I w (.g (.s s)) (.string s):=.g (.sc rfl)
theorem eqGuard_int (P:Program) (op:BinOp) (t:TypeId) (x y:Operand) (k k':IntKind) (m n:Int):(eqGuard op t x y (.int k m) (.int k' n)).run P w=.ok () w:=by
  unfold eqGuard;split <;> simp
theorem eqGuard_str (P:Program) (op:BinOp) (t:TypeId) (x y:Operand) (m n:ByteArray):(eqGuard op t x y (.string m) (.string n)).run P w=.ok () w:=by
  unfold eqGuard;split <;> simp
theorem eqGuard_bool (P:Program) (op:BinOp) (t:TypeId) (x y:Operand) (m n:Bool):(eqGuard op t x y (.bool m) (.bool n)).run P w=.ok () w:=by
  unfold eqGuard;split <;> simp
theorem eqGuard_slice (P:Program) (op:BinOp) (t:TypeId) (x y:Operand) (m:Option Addr) (i j:Nat) (n:Value):(eqGuard op t x y (.slice m i j) n).run P w=.ok () w:=by
  unfold eqGuard;split <;> simp
theorem arith_ok {P:Program} {op:BinOp} {k:IntKind} {t:TypeId} {m n:Int} {K:V→Prop} (hs:isShift op=false) (h:arith k op m n K) :
    ∃ v,(binOp op t (.int k m) (.int k n)).run P w=.ok v w∧v.oneCell'=true∧K (.g (.sc v)):=by
  cases op <;> simp only [arith,isShift] at h hs
  case add=>exact ⟨.int k (m+n),by simp [binOp,Op.intArith,wrap_in h.1],rfl,h.2⟩
  case sub=>exact ⟨.int k (m-n),by simp [binOp,Op.intArith,wrap_in h.1],rfl,h.2⟩
  case mul=>exact ⟨.int k (m*n),by simp [binOp,Op.intArith,wrap_in h.1],rfl,h.2⟩
  case quo=>exact ⟨.int k (m.tdiv n),by simp [binOp,Op.intDiv,h.1,wrap_in h.2.1],rfl,h.2.2⟩
  case rem=>exact ⟨.int k (m.tmod n),by simp [binOp,Op.intDiv,h.1],rfl,h.2⟩
  case and=>exact ⟨_,by simp [binOp,Op.intBits],rfl,h⟩
  case or=>exact ⟨_,by simp [binOp,Op.intBits],rfl,h⟩
  case xor=>exact ⟨_,by simp [binOp,Op.intBits],rfl,h⟩
  case eql=>exact ⟨.bool (m == n),by simp [binOp,Op.intCmp],rfl,h⟩
  case neq=>exact ⟨.bool (m != n),by simp [binOp,Op.intCmp],rfl,h⟩
  case lss=>exact ⟨.bool (decide (m < n)),by simp [binOp,Op.intCmp],rfl,h⟩
  case leq=>exact ⟨.bool (decide (m≤n)),by simp [binOp,Op.intCmp],rfl,h⟩
  case gtr=>exact ⟨.bool (decide (m > n)),by simp [binOp,Op.intCmp],rfl,h⟩
  case geq=>exact ⟨.bool (decide (m≥n)),by simp [binOp,Op.intCmp],rfl,h⟩
theorem arithW_ok {P:Program} {op:BinOp} {k:IntKind} {t:TypeId} {m n:Int} {K:V→Prop} (hs:isShift op=false) (h:arithW k op m n K) :
    ∃ v,(binOp op t (.int k m) (.int k n)).run P w=.ok v w∧v.oneCell'=true∧K (.g (.sc v)):=by
  by_cases h1:op=.add
  · subst h1;exact ⟨_,by simp [binOp,Op.intArith],rfl,h⟩
  by_cases h2:op=.sub
  · subst h2;exact ⟨_,by simp [binOp,Op.intArith],rfl,h⟩
  by_cases h3:op=.mul
  · subst h3;exact ⟨_,by simp [binOp,Op.intArith],rfl,h⟩
  refine arith_ok hs ?_
  cases op <;> first|exact h|exact absurd rfl h1|exact absurd rfl h2|exact absurd rfl h3
theorem binP_ok {P:Program} {wr:Bool} {op:BinOp} {t:TypeId} {x y:V} {X Y:Value} {K:V→Prop} (h:binP wr op x y K) (hx:RV γ H I w x X) (hy:RV γ H I w y Y) (ox oy:Operand) :
    ∃ v,(do eqGuard op t ox oy X Y;binOp op t X Y:Sem Value).run P w=.ok v w∧v.oneCell'=true∧K (.g (.sc v)):=by
  unfold binP at h
  split at h
  · have hX:=rv_sc hx;have hY:=rv_sc hy
    subst hX;subst hY
    simp only [Sem.run_bind,eqGuard_int,Result.andThen_ok]
    split at h
    · rename_i hsh
      cases op <;> simp [isShift,shiftP] at hsh h
      · exact ⟨_,by simp only [binOp,Op.shift];rw [if_neg (by omega)];rfl,rfl,h.2⟩
      · exact ⟨_,by simp only [binOp,Op.shift];rw [if_neg (by omega)];rfl,rfl,h.2⟩
    · rename_i hsh
      split at h
      case h_2=>exact h.elim
      rename_i hk
      have:=ikEq_ok hk
      subst this
      split at h
      · exact arithW_ok (by simpa using hsh) h
      · exact arith_ok (by simpa using hsh) h
  · have hX:=rv_sc hx;have hY:=rv_sc hy
    subst hX;subst hY
    simp only [Sem.run_bind,eqGuard_str,Result.andThen_ok]
    cases op <;> simp only [strP] at h
    case add=>exact ⟨_,by simp only [binOp,Op.stringOp];rw [if_neg (by omega)];rfl,rfl,h.2⟩
    case eql=>exact ⟨_,rfl,rfl,h⟩
    case neq=>exact ⟨_,rfl,rfl,h⟩
    case lss=>exact ⟨_,rfl,rfl,h⟩
    case leq=>exact ⟨_,rfl,rfl,h⟩
    case gtr=>exact ⟨_,rfl,rfl,h⟩
    case geq=>exact ⟨_,rfl,rfl,h⟩
  · exact h.elim
end
end Go.Aw
namespace Go.Aw
theorem run_underlying {P:Program} {t:TypeId} {d:TypeDesc} (h:P.underlying t=some d) (w:World):(underlying t).run P w=.ok d w:=by
  simp [underlying,h]
theorem run_typeInfo {P:Program} {t:TypeId} {i:TypeInfo} (h:P.info? t=some i) (w:World):(typeInfo t).run P w=.ok i w:=by
  simp [typeInfo,h]
theorem run_sizeOf {P:Program} {t:TypeId} {n:Nat} (h:szOf P t=some n) (w:World):(sizeOf t).run P w=.ok n w:=by
  unfold szOf at h
  cases hi:P.info? t with
  | none=>rw [hi] at h;simp at h
  | some i=>rw [hi] at h;simp at h;simp [sizeOf,run_typeInfo hi,h]
theorem run_isAgg {P:Program} {t:TypeId} {b:Bool} (h:aggO P t=some b) (w:World):(isAgg t).run P w=.ok b w:=by
  unfold aggO at h
  cases hd:P.underlying t with
  | none=>rw [hd] at h;simp at h
  | some d =>
    rw [hd] at h;simp only [Option.map_some,Option.some.injEq] at h
    simp only [isAgg,Sem.run_bind,run_underlying hd,Result.andThen_ok]
    cases d <;> simp at h <;> subst h <;> rfl
theorem run_elem {P:Program} {t e:TypeId} (h:elemOfS P t=some e):P.underlying t=some (.slice e):=by
  unfold elemOfS at h
  split at h
  · cases h;assumption
  · simp at h
theorem addr_add (k o n:Nat):(⟨k,o,none⟩:Addr).add n=⟨k,o+n,none⟩:=by unfold Addr.add;split <;> simp_all
theorem run_loadCells {P:Program} {w:World} {k o:Nat}:∀ (xs:List Value) (i:Nat) (acc:Array Value),(∀ (j:Nat) (x:Value),xs[j]?=some x→w.cell? ⟨k,o+i+j,none⟩=some x) →
    (loadCellsFrom ⟨k,o,none⟩ i xs.length acc).run P w=.ok (acc++xs.toArray) w
  | [],i,acc,_=>by simp [loadCellsFrom]
  | x::xs,i,acc,h=>by
    simp only [List.length_cons,loadCellsFrom,Sem.run_bind]
    have h0:=h 0 x rfl
    simp only [Nat.add_zero] at h0
    rw [addr_add,run_load,h0]
    simp only [Result.andThen_ok]
    rw [run_loadCells xs (i+1) (acc.push x) (fun j y hj=>by have:=h (j+1) y (by simpa using hj);rw [← this];congr 2;omega)]
    simp
section
variable {γ:List (Option Nat)} {H:List Blk} {I:Nat→Prop} {w:World}
def Reads (γ:List (Option Nat)) (H:List Blk) (I:Nat→Prop) (w:World) (k o:Nat) (cs:List V):Prop :=
  ∀ (j:Nat) (v:V),cs[j]?=some v→∃ x,w.cell? ⟨k,o+j,none⟩=some x∧x.oneCell'=true∧RV γ H I w v x
theorem Reads.vals {k o:Nat}:∀ {cs:List V},Reads γ H I w k o cs→∃ xs:List Value,RCs γ H I w cs xs∧∀ (j:Nat) (x:Value),xs[j]?=some x→w.cell? ⟨k,o+j,none⟩=some x:=by
  intro cs
  induction cs generalizing o with
  | nil=>intro _;exact ⟨[],.nil,fun j x h=>by simp at h⟩
  | cons c cs ih =>
    intro h
    obtain ⟨x,h1,h0,h2⟩:=h 0 c rfl
    obtain ⟨xs,h3,h4⟩:=ih (o:=o+1) (fun j v hj=>by
      obtain ⟨y,e1,e3,e2⟩:=h (j+1) v (by simpa using hj)
      exact ⟨y,by rw [← e1];congr 2;omega,e3,e2⟩)
    refine ⟨x::xs,.cons h2 h0 h3,fun j y hj=>?_⟩
    cases j with
    | zero=>simp at hj;subst hj;exact h1
    | succ j=>rw [← h4 j y (by simpa using hj)];congr 2;omega
theorem Reads.sub {k o:Nat} {cs:List V} (h:Reads γ H I w k o cs) (off n:Nat):Reads γ H I w k (o+off) ((cs.drop off).take n):=by
  intro j v hj
  rw [List.getElem?_take] at hj
  split at hj
  · rw [List.getElem?_drop] at hj
    obtain ⟨x,h1,h3,h2⟩:=h _ v hj
    exact ⟨x,by rw [← h1];congr 2;omega,h3,h2⟩
  · simp at hj
theorem agg_of_cells {e:V} {cs:List V} {xs:List Value} (h:asAg e=some cs) (hx:RCs γ H I w cs xs):RV γ H I w e (.agg xs.toArray):=by
  cases e with
  | g t =>
    cases t with
    | ag ts =>
      simp [asAg] at h;subst h
      refine .g (.ag (by simpa using hx.rv.1) hx.one (fun i t ht=>?_))
      have:=hx.rv.2 i (.g t) (by simp [ht])
      generalize xs.getD i undef=y at this
      cases this with|g h=>exact h
    | _=>simp [asAg] at h
  | ag us=>simp [asAg] at h;subst h;exact .ag hx.rv.1 hx.one hx.rv.2
  | _=>simp [asAg] at h
theorem asAg_cells {e:V} {cs:List V} (h:asAg e=some cs):e.cells=cs:=by
  cases e with
  | g t=>cases t <;> simp [asAg] at h;subst h;rfl
  | ag us=>simp [asAg] at h;subst h;rfl
  | _=>simp [asAg] at h
def slimN (P:Program) (t:TypeId) (n:Option Nat):Prop:=(aggO P t=some false∧n=none)∨(aggO P t=some true∧∃ m,szOf P t=some m∧n=some m)
theorem load_ok {P:Program} {t:TypeId} {n:Option Nat} {e v:V} {k o off:Nat} (ht:slimN P t n) (h:Reads γ H I w k o e.cells) (hv:loadV e off n=some v) :
    ∃ x,(loadVar t ⟨k,o+off,none⟩).run P w=.ok x w∧RV γ H I w v x:=by
  rcases ht with ⟨ha,rfl⟩|⟨ha,m,hm,rfl⟩
  · simp only [loadV] at hv
    obtain ⟨x,h1,_,h2⟩:=h _ v hv
    exact ⟨x,by simp [loadVar,run_isAgg ha,h1],h2⟩
  · simp only [loadV] at hv
    split at hv
    case h_2=>simp at hv
    rename_i cs hcs
    have hc:=asAg_cells hcs
    rw [hc] at h
    have key:∀ us,Reads γ H I w k (o+off) us→us.length=m→∃ xs,(loadVar t ⟨k,o+off,none⟩).run P w=.ok (.agg xs.toArray) w∧RCs γ H I w us xs:=by
      intro us hu hl
      obtain ⟨xs,h1,h2⟩:=hu.vals
      refine ⟨xs,?_,h1⟩
      have hxl:xs.length=m:=by rw [h1.rv.1,hl]
      subst hxl
      have:=run_loadCells (P:=P) (w:=w) (k:=k) (o:=o+off) xs 0 #[] (fun j x hj=>by rw [Nat.add_zero];exact h2 j x hj)
      simp [loadVar,run_isAgg ha,run_sizeOf hm,loadCells,this]
    split at hv
    · rename_i hcond
      obtain ⟨rfl,rfl⟩:=hcond
      cases hv
      obtain ⟨xs,h1,h2⟩:=key cs (by simpa using h) rfl
      exact ⟨_,h1,agg_of_cells hcs h2⟩
    · split at hv
      · rename_i hle
        cases hv
        obtain ⟨xs,h1,h2⟩:=key _ (h.sub off m) (by simp;omega)
        exact ⟨_,h1,mkAg_ok h2⟩
      · simp at hv
theorem reads_own (r:RelH γ I w H) {b g sz i k:Nat} {es:List V} {e:V} (hb:H[b]?=some (.arr g sz es)) (hk:γ[b]?=some (some k)) (hi:es[i]?=some e) :
    Reads γ H I w k (i*sz) e.cells:=by
  rcases r.arr _ _ _ _ hb with ⟨h0,_⟩|⟨k',c,el,h1,h2,h3,h4,h5⟩
  · rw [h0] at hk;cases hk
  · rw [hk] at h1;cases h1
    intro j v hj
    have hlt:j < sz:=by rw [← h3 e (List.mem_of_getElem? hi)];exact lt_of_get hj
    obtain ⟨x,e1,e3,e2⟩:=h5 (i*sz+j) v (by rw [flatV_get h3 i e hi j hlt];exact hj)
    exact ⟨x,by simp [World.cell?,h2,e1],e3,e2⟩
theorem reads_ra {sz i k o:Nat} {es:List T} {e:T} {vs:Nat→Value} (hw:∀ e∈es,e.cells.length=sz)
    (hc:∀ (i:Nat) (t:T),(flatT es)[i]?=some t→w.cell? ⟨k,o+i,none⟩=some (vs i)) (h1:∀ (i:Nat) (t:T),(flatT es)[i]?=some t→(vs i).oneCell'=true) (hr:∀ (i:Nat) (t:T),(flatT es)[i]?=some t→RT I w t (vs i)) (hi:es[i]?=some e) :
    Reads γ H I w k (o+i*sz) (V.g e).cells:=by
  intro j v hj
  simp only [V.cells,List.getElem?_map] at hj
  cases ht:e.cells[j]? with
  | none=>rw [ht] at hj;simp at hj
  | some t =>
    rw [ht] at hj;simp at hj;subst hj
    have hlt:j < sz:=by rw [← hw e (List.mem_of_getElem? hi)];exact lt_of_get ht
    have hf:(flatT es)[i*sz+j]?=some t:=by rw [flatT_get hw i e hi j hlt];exact ht
    exact ⟨_,by rw [← hc _ t hf];congr 2;omega,h1 _ t hf,.g (hr _ t hf)⟩
theorem loadP_ok {P:Program} {t:TypeId} {n:Option Nat} {x:V} {X:Value} {K:V→Prop} (ht:slimN P t n) (r:RelH γ I w H) (hx:RV γ H I w x X) (h:loadP H n x K) :
    ∃ y v,(Instr.loadAt t X).run P w=.ok y w∧RV γ H I w v y∧K v:=by
  unfold loadP at h
  split at h
  · rename_i b g i off
    split at h
    case h_2=>exact h.elim
    rename_i g' sz es hb
    rw [getB_eq] at hb
    obtain ⟨rfl,e,hi,h⟩:=h
    split at h
    case h_2=>exact h.elim
    rename_i v hv
    cases hx with
    | @pa _ _ g2 sz2 _ _ es2 a hb2 hg hc =>
    rw [hb] at hb2;cases hb2
    obtain ⟨_,k,hk,rfl⟩:=hc rfl
    obtain ⟨y,h1,h2⟩:=load_ok ht (reads_own r hb hk hi) hv
    exact ⟨y,v,by simpa [Instr.loadAt,Instr.sureAddr] using h1,h2,h⟩
  · rename_i sz es i off
    obtain ⟨e,hi,h⟩:=h
    split at h
    case h_2=>exact h.elim
    rename_i v hv
    cases hx with
    | ra k o vs hlt hI hw hc h1 hr =>
    obtain ⟨y,h1,h2⟩:=load_ok (γ:=γ) (H:=H) ht (reads_ra hw hc h1 hr hi) hv
    exact ⟨y,v,by simpa [Instr.loadAt,Instr.sureAddr,Nat.add_assoc] using h1,h2,h⟩
  · exact h.elim
end
end Go.Aw
namespace Go.Aw
theorem mkAg_cells {cs:List V}:(mkAg cs).cells=cs:=by
  unfold mkAg
  split
  · rename_i ts h;rw [isT_all h];simp [V.cells,T.cells]
  · rfl
section
variable {γ:List (Option Nat)} {H:List Blk} {I:Nat→Prop} {w:World}
theorem cellsAll_mem {n:Nat} {vs:List V} (h:cellsAll n vs):∀ v∈vs,okV v=true∧v.cells.length=n:=by
  induction vs with
  | nil=>simp
  | cons v vs ih=>intro u hu;rcases List.mem_cons.1 hu with rfl|hu;exact h.1;exact ih h.2 u hu
theorem storeP_ok {P:Program} {t:TypeId} {n:Nat} {x y:V} {X Y:Value} {K:List Blk→Prop} (ht:szOf P t=some n) (r:RelH γ I w H)
    (hx:RV γ H I w x X) (hy:RV γ H I w y Y) (h:storeP H n x y K) :
    ∃ H' w',(Instr.storeAt t X Y).run P w=.ok () w'∧K H'∧RelH γ I w' H'∧Ext γ H I w γ H' I w':=by
  unfold storeP at h
  split at h
  case h_2=>exact h.elim
  rename_i b g i off
  split at h
  case h_2=>exact h.elim
  rename_i g' sz es hb
  rw [getB_eq] at hb
  obtain ⟨rfl,e,hi,⟨hok,hn,hle⟩,hK⟩:=h
  rw [setB_eq] at hK
  cases hx with
  | @pa _ _ g2 sz2 _ _ es2 a hb2 hg hc =>
  rw [hb] at hb2;cases hb2
  obtain ⟨hil,k,hk,rfl⟩:=hc rfl
  rcases r.arr _ _ _ _ hb with ⟨h0,_⟩|⟨k',c,el,h1,h2,h3,h4,h5⟩
  · rw [h0] at hk;cases hk
  rw [hk] at h1;cases h1
  have hcs:=cells_ok hy hok
  have hlen:Y.cells.toList.length=n:=by rw [hcs.rv.1];exact hn
  have hesz:e.cells.length=sz:=h3 e (List.mem_of_getElem? hi)
  have hmul:i*sz+sz≤es.length*sz:=by
    have:(i+1)*sz≤es.length*sz:=Nat.mul_le_mul_right sz hil
    rw [Nat.add_mul] at this;omega
  have hrun:=run_storeCells (P:=P) (k:=k) (o:=i*sz+off) (xs:=Y.cells.toList) (i:=0) h2 (by rw [hlen];omega) hcs.one
  have hst:(storeV e off y).cells=(e.cells.take off++y.cells)++e.cells.drop (off+n):=by
    unfold storeV
    split
    · rename_i hcond
      obtain ⟨rfl,hcl⟩:=hcond
      have:n=e.cells.length:=by omega
      subst this;simp
    · rw [mkAg_cells,hn]
  have hup:=upd_ok (es':=es.set i (storeV e off y)) (c':=wr c (i*sz+off) Y.cells.toList) r hb hk h2 (by simp) (Nat.le_refl _) (fun _=>by simp) (fun e' he'=>?_) (by simpa using h4) (fun j v hj=>?_)
  · refine ⟨_,_,?_,hK,hup.1,hup.2⟩
    rw [Nat.add_zero] at hrun
    have:Y.cells.size=n:=by simpa using hlen
    simp [Instr.storeAt,Instr.sureAddr,storeVar,run_sizeOf ht,this,hrun]
  · rcases List.mem_or_eq_of_mem_set he' with h|h
    · exact h3 e' h
    · subst h;rw [hst];simp;omega
  · have hj':j < es.length*sz:=by
      have:=lt_of_get hj
      rw [flatV_len (sz:=sz)] at this
      · simpa using this
      · intro e' he'
        rcases List.mem_or_eq_of_mem_set he' with h|h
        · exact h3 e' h
        · subst h;rw [hst];simp;omega
    have hwf':∀ e'∈es.set i (storeV e off y),e'.cells.length=sz:=by
      intro e' he'
      rcases List.mem_or_eq_of_mem_set he' with h|h
      · exact h3 e' h
      · subst h;rw [hst];simp;omega
    obtain ⟨s1,s2,s3⟩:=flat_split hj'
    have hget:=wr_get c (i*sz+off) Y.cells.toList (by rw [hlen];omega) j
    rw [hlen] at hget
    by_cases hq:j / sz=i
    · have hel:(es.set i (storeV e off y))[j / sz]?=some (storeV e off y):=by rw [hq];simp [hil]
      rw [s3,flatV_get hwf' _ _ hel _ s2,hst] at hj
      rw [hq] at s3
      by_cases hm:off≤j % sz∧j % sz < off+n
      · rw [if_pos (by omega)] at hget
        rw [List.getElem?_append_left (by simp;omega),List.getElem?_append_right (by simp;omega)] at hj
        have e1:j % sz-(List.take off e.cells).length=j % sz-off:=by simp;omega
        rw [e1] at hj
        obtain ⟨x,x1,x2,x3⟩:=hcs.get hj
        refine ⟨x,?_,x2,x3⟩
        rw [hget,← x1];congr 1;omega
      · rw [if_neg (by omega)] at hget
        have hj2:e.cells[j % sz]?=some v:=by
          rcases Nat.lt_or_ge (j % sz) off with hlt|hge
          · rw [List.getElem?_append_left (by simp;omega),List.getElem?_append_left (by simp;omega),List.getElem?_take,if_pos hlt] at hj;exact hj
          · have hgt:off+n≤j % sz:=by omega
            rw [List.getElem?_append_right (by simp;omega),List.getElem?_drop] at hj
            rw [← hj];congr 1;simp;omega
        obtain ⟨x,x1,x2,x3⟩:=h5 j v (by rw [s3,flatV_get h3 i e hi _ s2];exact hj2)
        exact ⟨x,by rw [hget];exact x1,x2,x3⟩
    · have hel:(es.set i (storeV e off y))[j / sz]?=es[j / sz]?:=by rw [List.getElem?_set,if_neg (fun e=>hq e.symm)]
      have hes:es[j / sz]?=some es[j / sz]:=by simp [s1]
      rw [s3,flatV_get hwf' _ _ (hel.trans hes) _ s2] at hj
      obtain ⟨x,x1,x2,x3⟩:=h5 j v (by rw [s3,flatV_get h3 _ _ hes _ s2];exact hj)
      refine ⟨x,?_,x2,x3⟩
      rw [hget,if_neg];exact x1
      intro hh
      apply hq
      have a1:i*sz≤j:=by omega
      have a2:j < (i+1)*sz:=by rw [Nat.add_mul];omega
      have hs:0 < sz:=by omega
      exact Nat.le_antisymm (Nat.lt_succ_iff.1 ((Nat.div_lt_iff_lt_mul hs).2 a2)) ((Nat.le_div_iff_mul_le hs).2 a1)
theorem iaP_ok {P:Program} {t e:TypeId} {n:Nat} {x y:V} {X Y:Value} {K:V→Prop} (ht:elemOfS P t=some e) (hn:szOf P e=some n)
    (hx:RV γ H I w x X) (hy:RV γ H I w y Y) (h:iaP H n x y K) :
    ∃ v Z,(Instr.indexAt t X Y).run P w=.ok Z w∧RV γ H I w v Z∧K v:=by
  unfold iaP at h
  split at h
  case h_2=>exact h.elim
  rename_i kk i
  have hY:=rv_sc hy;subst hY
  split at h
  · rename_i s es
    obtain ⟨⟨i0,i1⟩,rfl,hK⟩:=h
    cases hx with|g hx =>
    cases hx with
    | @sl _ _ a cap k o vs ha hw hl hc h1 hr =>
    have hne:es≠[]:=fun e=>by subst e;simp at i1;omega
    obtain ⟨rfl,hI⟩:=ha hne
    refine ⟨_,.pointer (some ⟨k,o+(i.toNat*s+0),none⟩),?_,.ra k o vs (by omega) hI hw hc h1 hr,hK⟩
    simp [Instr.indexAt,asIntOf,run_underlying (run_elem ht),i0,i1,run_sizeOf hn,addr_add]
  · rename_i b g off len
    split at h
    case h_2=>exact h.elim
    rename_i g' s es hb
    rw [getB_eq] at hb
    obtain ⟨⟨i0,i1⟩,⟨rfl,rfl⟩,hK⟩:=h
    cases hx with
    | @own _ _ g2 sz2 _ _ cap es2 a hb2 hg hl hc =>
    rw [hb] at hb2;cases hb2
    obtain ⟨c1,c2⟩:=hc rfl
    rcases c2 with ⟨_,_,_,h0⟩|⟨k,hk,ha,_⟩
    · omega
    · rcases ha with ha|rfl
      · omega
      · refine ⟨_,.pointer (some ⟨k,(off+i.toNat)*s+0,none⟩),?_,.pa hb (Nat.le_refl _) (fun _=>⟨by omega,k,hk,rfl⟩),hK⟩
        simp [Instr.indexAt,asIntOf,run_underlying (run_elem ht),i0,i1,run_sizeOf hn,addr_add,Nat.add_mul]
  · exact h.elim
theorem bound_ok {v:V} {i:Int} {X:Value} (h:bound v=some i) (hx:RV γ H I w v X):∃ k,X=.int k i:=by
  unfold bound at h
  split at h
  · cases h;exact ⟨_,rv_sc hx⟩
  · simp at h
theorem run_bound {P:Program} {k:IntKind} {i:Int} {y:Nat} {c:BoundsCode} (h0:0≤i) (h1:i≤y):(Instr.sliceBound (.int k i) y c).run P w=.ok i.toNat w:=by
  simp [Instr.sliceBound,asIntOf,h0,h1]
theorem slcP_ok {P:Program} {t e:TypeId} {n:Nat} {x:V} {X:Value} {lo hi:Option V} {LO HI:Option Value} {K:V→Prop} (ht:elemOfS P t=some e) (hn:szOf P e=some n)
    (hx:RV γ H I w x X) (hlo:∀ v,lo=some v→∃ Y,LO=some Y∧RV γ H I w v Y) (hlo0:lo=none→LO=none)
    (hhi:∀ v,hi=some v→∃ Y,HI=some Y∧RV γ H I w v Y) (hhi0:hi=none→HI=none)
    (h:slcP H n x lo hi K) :
    ∃ v Z,(Instr.slice t X LO HI none).run P w=.ok Z w∧RV γ H I w v Z∧K v:=by
  have key:∀ (a:Option Addr) (len cap:Nat) (K':Nat→Nat→Prop),len≤cap→X=.slice a len cap →
      slcGo lo hi len K' →
      ∃ l h,l≤h∧h≤len∧K' l h∧(Instr.slice t X LO HI none).run P w=.ok (.slice (if cap=l then a else a.map (·.add (l*n))) (h-l) (cap-l)) w:=by
    intro a len cap K' hlc hX hm
    subst hX
    unfold slcGo at hm
    split at hm
    case h_2=>exact hm.elim
    rename_i l h' hl hh
    obtain ⟨⟨a1,a2,a3⟩,hK⟩:=hm
    have hB:(Instr.sliceBounds true len cap LO HI none).run P w=.ok (l.toNat,h'.toNat,cap) w:=by
      have r1:∀ k c,(Instr.sliceBound (.int k h') cap c).run P w=.ok h'.toNat w:=fun k c=>run_bound (by omega) (by omega)
      have r2:∀ k c,(Instr.sliceBound (.int k l) h'.toNat c).run P w=.ok l.toNat w:=fun k c=>run_bound (by omega) (by omega)
      cases hi with
      | none =>
        have:=hhi0 rfl;subst this;simp at hh;subst hh
        cases lo with
        | none=>have:=hlo0 rfl;subst this;simp at hl;subst hl;simp [Instr.sliceBounds]
        | some v =>
          obtain ⟨Y,rfl,hY⟩:=hlo v rfl
          obtain ⟨k,rfl⟩:=bound_ok hl hY
          simp only [Int.toNat_natCast] at r2
          simp [Instr.sliceBounds,r2]
      | some v =>
        obtain ⟨Y,rfl,hY⟩:=hhi v rfl
        obtain ⟨k,rfl⟩:=bound_ok hh hY
        cases lo with
        | none=>have:=hlo0 rfl;subst this;simp at hl;subst hl;simp [Instr.sliceBounds,r1]
        | some v =>
          obtain ⟨Y,rfl,hY⟩:=hlo v rfl
          obtain ⟨k,rfl⟩:=bound_ok hl hY
          simp [Instr.sliceBounds,r1,r2]
    refine ⟨l.toNat,h'.toNat,by omega,by omega,hK,?_⟩
    simp [Instr.slice,run_underlying (run_elem ht),hB,run_sizeOf hn]
  unfold slcP at h
  split at h
  · rename_i s es
    obtain ⟨rfl,h⟩:=h
    have hx0:=hx
    cases hx with|g hx =>
    cases hx with
    | @sl _ _ a cap k o vs ha hw hl hc h1 hr =>
    obtain ⟨l,h',b1,b2,hK,hrun⟩:=key a es.length cap _ hl rfl h
    refine ⟨_,_,hrun,?_,hK⟩
    obtain ⟨ds,hds⟩:∃ ds,ds=(es.drop l).take (h'-l):=⟨_,rfl⟩
    rw [← hds]
    have hlen:ds.length=h'-l:=by rw [hds];simp;omega
    rw [← hlen]
    have hsubmem:∀ e∈ds,e∈es:=fun e he=>by rw [hds] at he;exact List.mem_of_mem_drop (List.mem_of_mem_take he)
    have hfl:∀ (i:Nat) (t:T),(flatT ds)[i]?=some t→(flatT es)[l*s+i]?=some t:=by
      intro i t hi
      have hw':∀ e∈ds,e.cells.length=s:=fun e he=>hw e (hsubmem e he)
      have hi':=lt_of_get hi
      rw [flatT_len hw',hlen] at hi'
      obtain ⟨s1,s2,s3⟩:=flat_split hi'
      have hlt:l+i / s < es.length:=by omega
      have hq:ds[i / s]?=some es[l+i / s]:=by
        rw [hds,List.getElem?_take,if_pos s1,List.getElem?_drop];simp [hlt]
      rw [s3,flatT_get hw' _ _ hq _ s2] at hi
      have:l*s+i=(l+i / s)*s+i % s:=by rw [Nat.add_mul];omega
      rw [this,flatT_get hw _ es[l+i / s] (by simp [hlt]) _ s2];exact hi
    refine .g (.sl k (o+l*s) (fun i=>vs (l*s+i)) (fun hne=>?_) (fun e he=>hw e (hsubmem e he)) (by omega) (fun i t hi=>?_) (fun i t hi=>h1 _ t (hfl i t hi)) (fun i t hi=>hr _ t (hfl i t hi)))
    · have hpos:0 < h'-l:=by rw [← hlen];exact List.length_pos_iff.2 hne
      have hne':es≠[]:=fun e=>by subst e;simp at b2;omega
      obtain ⟨rfl,hI⟩:=ha hne'
      rw [if_neg (by omega)]
      exact ⟨by simp [addr_add],hI⟩
    · have:=hc _ t (hfl i t hi)
      rw [← this];congr 2;omega
  · rename_i b g off len
    split at h
    case h_2=>exact h.elim
    rename_i g' sz es hb
    rw [getB_eq] at hb
    obtain ⟨rfl,h⟩:=h
    cases hx with
    | @own _ _ g2 sz2 _ _ cap es2 a hb2 hg hl hc =>
    rw [hb] at hb2;cases hb2
    obtain ⟨l,h',b1,b2,hK,hrun⟩:=key a len cap _ hl rfl h
    refine ⟨_,_,hrun,?_,hK⟩
    refine .own hb hg (by omega) (fun e=>?_)
    obtain ⟨c1,c2⟩:=hc e
    refine ⟨by omega,?_⟩
    rcases c2 with ⟨v1,v2,v3,v4⟩|⟨k,hk,ha,hrow⟩
    · left;subst v2;refine ⟨v1,by split <;> rfl,by omega,by omega⟩
    · right
      refine ⟨k,hk,?_,?_⟩
      · by_cases hcl:cap=l
        · left;omega
        · rw [if_neg hcl]
          rcases ha with ha|rfl
          · left;omega
          · right;simp [addr_add,Nat.add_mul]
      · obtain ⟨c,el,fr,r1,r2⟩:=hrow
        exact ⟨c,el,fr,r1,by
                                have:off+l+(cap-l)=off+cap:=by omega
                                rw [this];exact r2⟩
  · rename_i s
    cases hx
    obtain ⟨l,h',b1,b2,hK,hrun⟩:=key none 0 0 _ (by omega) rfl h
    refine ⟨_,_,hrun,?_,hK⟩
    have e1:h'-l=0:=by omega
    have e2:(0:Nat)-l=0:=by omega
    rw [e1,e2]
    have e3:(if 0=l then (none:Option Addr) else Option.map (fun x:Addr=>x.add (l*n)) none)=none:=by split <;> rfl
    rw [e3];exact .nil
  · exact h.elim
end
end Go.Aw
namespace Go.Aw
def agree (t t':List V) (l:List Nat):Prop:=∀ n∈l,getT t n=getT t' n
theorem agree.l {t t':List V} {a b:List Nat} (h:agree t t' (a++b)):agree t t' a:=fun n hn=>h n (List.mem_append_left _ hn)
theorem agree.r {t t':List V} {a b:List Nat} (h:agree t t' (a++b)):agree t t' b:=fun n hn=>h n (List.mem_append_right _ hn)
theorem X.ev_congr {t t':List V} {x:X} (h:agree t t' x.temps):x.ev t=x.ev t':=by
  cases x with
  | t i=>exact h i (by simp [X.temps])
  | _=>rfl
theorem xs_congr {t t':List V}:∀ {xs:List X},agree t t' (xsTemps xs)→xs.map (X.ev t)=xs.map (X.ev t')
  | [],_=>rfl
  | x::xs,h=>by
    have h1:=X.ev_congr (agree.l h)
    have h2:=xs_congr (xs:=xs) (agree.r h)
    simp [h1,h2]
theorem ox_congr {t t':List V}:∀ {x:Option X},agree t t' (oxTemps x)→x.map (X.ev t)=x.map (X.ev t')
  | none,_=>rfl
  | some x,h=>by rw [Option.map_some,Option.map_some,X.ev_congr h]
theorem parts_congr {t t':List V}:∀ {ps:List (Nat×Nat×X)},agree t t' (partsTemps ps)→ps.map (fun p=>(p.1,p.2.1,p.2.2.ev t))=ps.map (fun p=>(p.1,p.2.1,p.2.2.ev t'))
  | [],_=>rfl
  | p::ps,h=>by
    have h1:=X.ev_congr (agree.l h)
    have h2:=parts_congr (ps:=ps) (agree.r h)
    simp [h1,h2]
theorem opP_congr {P:Prg} {t t':List V} {so:SO} {h:List Blk} {K:V→List Blk→Prop} (ha:agree t t' so.temps):opP P t so h K↔opP P t' so h K:=by
  cases so <;> simp only [SO.temps] at ha <;> simp only [opP]
  case build z ps=>rw [parts_congr ha]
  case bsl n xs =>
    cases xs with
    | nil=>exact Iff.rfl
    | cons x xs=>simp only;rw [xs_congr ha]
  case mkf f xs=>rw [xs_congr ha]
  case slc n x l k=>rw [X.ev_congr ha.l,ox_congr ha.r.l,ox_congr ha.r.r]
  case slcs x l k=>rw [X.ev_congr ha.l,ox_congr ha.r.l,ox_congr ha.r.r]
  case call f xs=>rw [X.ev_congr ha.l,xs_congr ha.r]
  case qcall f xs=>rw [X.ev_congr ha.l,xs_congr ha.r]
  case fcall f xs=>rw [X.ev_congr ha.l,xs_congr ha.r]
  case gcall f xs=>rw [X.ev_congr ha.l,xs_congr ha.r]
  case acall f xs=>rw [X.ev_congr ha.l,xs_congr ha.r]
  case pcall f xs=>rw [X.ev_congr ha.l,xs_congr ha.r]
  case pick c x y=>rw [X.ev_congr ha.l,X.ev_congr ha.r.l,X.ev_congr ha.r.r]
  case mup kk c x y=>rw [X.ev_congr ha.l,X.ev_congr ha.r.l,X.ev_congr ha.r.r]
  case est c x y=>rw [X.ev_congr ha.l,X.ev_congr ha.r.l,X.ev_congr ha.r.r]
  case slcr n x l k=>rw [X.ev_congr ha.l,ox_congr ha.r.l,ox_congr ha.r.r]
  case bslg n xs=>rw [xs_congr ha]
  case bslo n xs=>rw [xs_congr ha]
  all_goals first
    | exact Iff.rfl
    | rw [X.ev_congr ha]
    | rw [X.ev_congr ha.l,X.ev_congr ha.r]
def One (F:(V→Prop)→Prop):Prop:=∀ K,F K→∃ v,K v∧∀ K':V→Prop,K' v→F K'
theorem One.pure {v:V}:One fun K=>K v:=fun _ h=>⟨v,h,fun _ h=>h⟩
theorem One.and {p:Prop} {F:(V→Prop)→Prop} (h:One F):One fun K=>p∧F K:=fun _ ⟨hp,hF⟩=>by
  obtain ⟨v,h1,h2⟩:=h _ hF;exact ⟨v,h1,fun _ k=>⟨hp,h2 _ k⟩⟩
theorem One.no:One fun _=>False:=fun _ h=>h.elim
theorem One.br {c:Bool} {F G:(V→Prop)→Prop} (h:One F) (k:One G):One fun K=>Br c (F K) (G K):=by
  cases c;exact k;exact h
theorem arith_one {k:IntKind} {op:BinOp} {a b:Int}:One (arith k op a b):=by
  unfold arith
  cases op <;> first|exact .pure|exact .and .pure|exact .and (.and .pure)|exact .no
theorem arithW_one {k:IntKind} {op:BinOp} {a b:Int}:One (arithW k op a b):=by
  unfold arithW
  cases op <;> first|exact .pure|exact arith_one
theorem binP_one {wr:Bool} {op:BinOp} {x y:V}:One (binP wr op x y):=by
  unfold binP
  split
  · split
    · unfold shiftP
      cases op <;> first|exact .and .pure|exact .no
    · split
      · split
        · exact arithW_one
        · exact arith_one
      · exact .no
  · unfold strP
    cases op <;> first|exact .pure|exact .and .pure|exact .no
  · exact .no
theorem lenP_one {x:V}:One (lenP x):=by
  unfold lenP
  split <;> first|exact .pure|exact .no
theorem iaP_one {h:List Blk} {n:Nat} {x i:V}:One (iaP h n x i):=by
  unfold iaP
  split
  · split
    · exact .and (.and .pure)
    · split
      · exact .and (.and .pure)
      · exact .no
    · exact .no
  · exact .no
theorem slcGo_one {lo hi:Option V} {len:Nat} {f:Nat→Nat→V}:One fun K=>slcGo lo hi len fun l h=>K (f l h):=by
  unfold slcGo
  generalize (match lo with|none=>some 0|some v=>bound v)=x
  generalize (match hi with|none=>some (len:Int)|some v=>bound v)=y
  split
  · exact .and .pure
  · exact .no
theorem slcP_one {h:List Blk} {n:Nat} {x:V} {lo hi:Option V}:One (slcP h n x lo hi):=by
  unfold slcP
  split
  · exact .and slcGo_one
  · split
    · exact .and slcGo_one
    · exact .no
  · exact slcGo_one
  · exact .no
theorem slcsP_one {x:V} {lo hi:Option V}:One (slcsP x lo hi):=by
  unfold slcsP
  split
  · rename_i s
    generalize (match lo with|none=>some 0|some v=>bound v)=x
    generalize (match hi with|none=>some (s.size:Int)|some v=>bound v)=y
    split
    · exact .and .pure
    · exact .no
  · exact .no
theorem ex_one {es:List V} {i off:Nat} {n:Option Nat}:One fun K=>∃ e,es[i]?=some e∧(match loadV e off n with|some v=>K v|none=>False):=by
  rintro K ⟨e,h1,h2⟩
  cases hl:loadV e off n with
  | none=>rw [hl] at h2;exact h2.elim
  | some v=>rw [hl] at h2;exact ⟨v,h2,fun K' k=>⟨e,h1,by rw [hl];exact k⟩⟩
theorem exT_one {es:List T} {i off:Nat} {n:Option Nat}:One fun K=>∃ e,es[i]?=some e∧(match loadV (.g e) off n with|some v=>K v|none=>False):=by
  rintro K ⟨e,h1,h2⟩
  cases hl:loadV (.g e) off n with
  | none=>rw [hl] at h2;exact h2.elim
  | some v=>rw [hl] at h2;exact ⟨v,h2,fun K' k=>⟨e,h1,by rw [hl];exact k⟩⟩
theorem loadP_one {h:List Blk} {n:Option Nat} {x:V}:One (loadP h n x):=by
  unfold loadP
  split
  · split
    · exact .and ex_one
    · exact .no
  · exact exT_one
  · exact .no
theorem eqTs_one:∀ {cs:List Nat} {xs ys:List T} {f:Bool→V},One fun K=>eqTs cs xs ys fun b=>K (f b):=by
  intro cs
  induction cs with
  | nil =>
    intro xs ys f
    cases xs with
    | nil=>cases ys with
      | nil=>exact .pure
      | cons _ _=>unfold eqTs;exact .no
    | cons _ _=>unfold eqTs;exact .no
  | cons c cs ih =>
    intro xs ys f
    cases xs with
    | nil=>unfold eqTs;exact .no
    | cons x xs =>
      cases x with
      | sc x =>
        cases ys with
        | nil=>unfold eqTs;exact .no
        | cons y ys =>
          cases y with
          | sc y =>
            rintro K ⟨e,h1,h2⟩
            obtain ⟨v,h3,h4⟩:=ih (f:=fun r=>f (e && r)) K h2
            exact ⟨v,h3,fun K' k=>⟨e,h1,h4 K' k⟩⟩
          | _=>unfold eqTs;exact .no
      | _=>unfold eqTs;exact .no
theorem litK_one:∀ {vs:List V} {f:List T→V},One fun K=>litK vs (fun ts=>K (f ts)) False
  | [],f=>.pure
  | v::vs,f=>by
    cases v <;> simp only [litK] <;> first|exact litK_one (vs:=vs) (f:=fun ts=>f (_::ts))|exact .no
theorem withMap_one {h:List Blk} {m:V} {F:Nat→List (Value×Value)→(V→Prop)→Prop} (hF:∀ b kvs,One (F b kvs)):One fun K=>withMap h m fun b kvs=>F b kvs K:=by
  unfold withMap
  split
  · split
    · exact hF _ _
    · exact .no
  · exact .no
theorem withMap_mono {h:List Blk} {m:V} {K K':Nat→List (Value×Value)→Prop} (hk:∀ b kvs,K b kvs→K' b kvs) (ho:withMap h m K):withMap h m K':=by
  unfold withMap at *
  cases m with
  | mp b =>
    simp only at ho ⊢
    generalize getB h b=B at *
    cases B with
    | none=>exact ho.elim
    | some B =>
      cases B with
      | mp=>exact hk _ _ ho
      | arr=>exact ho.elim
  | _=>exact ho.elim
theorem opP_pure {P:Prg} {t:List V} {so:SO} (hk:so.kind=0):∃ G:(V→Prop)→Prop,One G∧∀ h K,opP P t so h K=G fun v=>K v h:=by
  cases so <;> simp only [SO.kind] at hk <;> try (exact absurd hk (by decide))
  case mv x=>exact ⟨_,.pure,fun _ _=>rfl⟩
  case pick c a b =>
    simp only [opP]
    split
    · exact ⟨_,.br .pure .pure,fun _ _=>rfl⟩
    · exact ⟨_,.no,fun _ _=>rfl⟩
  case bin op x y=>exact ⟨binP false op (x.ev t) (y.ev t),binP_one,fun _ _=>rfl⟩
  case binw op x y=>exact ⟨binP true op (x.ev t) (y.ev t),binP_one,fun _ _=>rfl⟩
  case bool2 =>
    simp only [opP]
    split
    · exact ⟨_,.pure,fun _ _=>rfl⟩
    · exact ⟨_,.no,fun _ _=>rfl⟩
  case un =>
    simp only [opP]
    split
    · exact ⟨_,.pure,fun _ _=>rfl⟩
    · exact ⟨_,.and .pure,fun _ _=>rfl⟩
    · exact ⟨_,.no,fun _ _=>rfl⟩
  case build =>
    simp only [opP]
    split
    · exact ⟨_,.pure,fun _ _=>rfl⟩
    · exact ⟨_,.no,fun _ _=>rfl⟩
  case nilc =>
    simp only [opP]
    split <;> first|exact ⟨_,.pure,fun _ _=>rfl⟩|exact ⟨_,.no,fun _ _=>rfl⟩
  case conv =>
    simp only [opP]
    split <;> first|exact ⟨_,.pure,fun _ _=>rfl⟩|exact ⟨_,.no,fun _ _=>rfl⟩
  case cvs =>
    simp only [opP]
    split <;> first|exact ⟨_,.pure,fun _ _=>rfl⟩|exact ⟨_,.no,fun _ _=>rfl⟩
  case tas =>
    simp only [opP]
    split
    · split <;> first|exact ⟨_,.and .pure,fun _ _=>rfl⟩|exact ⟨_,.and .no,fun _ _=>rfl⟩
    · exact ⟨_,.no,fun _ _=>rfl⟩
  case mkf=>simp only [opP,forceT_eq];exact ⟨_,.pure,fun _ _=>rfl⟩
  case slcs=>exact ⟨_,slcsP_one,fun _ _=>rfl⟩
  case fa =>
    simp only [opP]
    split <;> first|exact ⟨_,.pure,fun _ _=>rfl⟩|exact ⟨_,.no,fun _ _=>rfl⟩
  case fld off n x =>
    simp only [opP]
    split
    · split
      · split <;> first|exact ⟨_,.pure,fun _ _=>rfl⟩|exact ⟨_,.no,fun _ _=>rfl⟩
      · exact ⟨_,.and .pure,fun _ _=>rfl⟩
    · exact ⟨_,.no,fun _ _=>rfl⟩
  case ixs =>
    simp only [opP]
    split <;> first|exact ⟨_,.and .pure,fun _ _=>rfl⟩|exact ⟨_,.no,fun _ _=>rfl⟩
  case ext =>
    simp only [opP]
    split
    · split <;> first|exact ⟨_,.pure,fun _ _=>rfl⟩|exact ⟨_,.no,fun _ _=>rfl⟩
    · exact ⟨_,.no,fun _ _=>rfl⟩
  case len=>exact ⟨_,lenP_one,fun _ _=>rfl⟩
  case lens =>
    simp only [opP]
    split <;> first|exact ⟨_,.pure,fun _ _=>rfl⟩|exact ⟨_,.no,fun _ _=>rfl⟩
  case minmax m _ _ =>
    simp only [opP]
    split
    · split
      · cases m <;> exact ⟨_,.pure,fun _ _=>rfl⟩
      · exact ⟨_,.no,fun _ _=>rfl⟩
    · exact ⟨_,.no,fun _ _=>rfl⟩
  case ldr =>
    simp only [opP]
    split
    · exact ⟨_,exT_one,fun _ _=>rfl⟩
    · exact ⟨_,.no,fun _ _=>rfl⟩
  case iar n x i =>
    simp only [opP]
    split
    · rename_i s es _;exact ⟨iaP [] n (.g (.sl s es)) (i.ev t),iaP_one,fun _ _=>rfl⟩
    · exact ⟨_,.no,fun _ _=>rfl⟩
  case slcr n x lo hi =>
    simp only [opP]
    split
    · rename_i s es _;exact ⟨slcP [] n (.g (.sl s es)) (lo.map (X.ev t)) (hi.map (X.ev t)),slcP_one,fun _ _=>rfl⟩
    · rename_i s _;exact ⟨slcP [] n (.nil s) (lo.map (X.ev t)) (hi.map (X.ev t)),slcP_one,fun _ _=>rfl⟩
    · exact ⟨_,.no,fun _ _=>rfl⟩
  case bslg n ps =>
    simp only [opP,forceT_eq]
    exact ⟨fun K=>cellsAll n (ps.map (X.ev t))∧litK (ps.map (X.ev t)) (fun ts=>K (.g (.sl n ts))) False,.and litK_one,fun _ _=>rfl⟩
  case aeq neg ks x y =>
    simp only [opP]
    split
    · rename_i xs ys _ _;exact ⟨fun K=>eqTs ks xs ys fun b=>K (.g (.b (if neg then !b else b))),eqTs_one,fun _ _=>rfl⟩
    · exact ⟨_,.no,fun _ _=>rfl⟩
  case aia =>
    simp only [opP]
    split
    · split
      · exact ⟨_,.and .pure,fun _ _=>rfl⟩
      · exact ⟨_,.and .pure,fun _ _=>rfl⟩
      · exact ⟨_,.no,fun _ _=>rfl⟩
    · exact ⟨_,.no,fun _ _=>rfl⟩
  case gcall f as =>
    simp only [opP]
    split
    · rename_i f _
      simp only [forceT_eq]
      exact ⟨fun K=>∃ v,GC P f (as.map (X.ev t)) v∧K v,fun K ⟨v,h1,h2⟩=>⟨v,h2,fun K' k=>⟨v,h1,k⟩⟩,fun _ _=>rfl⟩
    · exact ⟨_,.no,fun _ _=>rfl⟩
theorem opP_quiet {P:Prg} {t:List V} {so:SO} {h:List Blk} (hk:so.kind≤1) {K:V→List Blk→Prop} (ho:opP P t so h K) :
    ∃ v,K v h∧∀ K':V→List Blk→Prop,K' v h→opP P t so h K':=by
  have key:∀ G:(V→Prop)→Prop,One G→(∀ K,opP P t so h K=G fun v=>K v h)→∃ v,K v h∧∀ K':V→List Blk→Prop,K' v h→opP P t so h K':=fun G h1 h2=>by
    rw [h2] at ho
    obtain ⟨v,a,b⟩:=h1 _ ho
    exact ⟨v,a,fun K' k=>by rw [h2];exact b _ k⟩
  by_cases h0:so.kind=0
  · obtain ⟨G,h1,h2⟩:=opP_pure (P:=P) (t:=t) h0
    exact key G h1 fun K=>h2 h K
  · cases so <;> simp only [SO.kind] at hk h0 <;> try (first|exact absurd hk (by decide)|exact absurd rfl h0|exact absurd trivial h0)
    case load=>exact key _ loadP_one fun K=>rfl
    case ia=>exact key _ iaP_one fun K=>rfl
    case iaz=>exact key _ iaP_one fun K=>rfl
    case ldz n sz x =>
      refine key (fun K=>match x.ev t with
        | .pa b g i off=>(match getB h b with
          | some (.arr g' s es)=>(g=g'∧s=sz)∧∃ e,es[i]?=some e∧(match loadV e off n with|some v=>K v|none=>False)
          | _=>False)
        | .ra _ es i off=>∃ e,es[i]?=some e∧(match loadV (.g e) off n with|some v=>K v|none=>False)
        | _=>False) ?_ fun K=>rfl
      split
      · split
        · exact .and ex_one
        · exact .no
      · exact exT_one
      · exact .no
    case slc=>exact key _ slcP_one fun K=>rfl
    case lenm x=>exact key (fun K=>withMap h (x.ev t) fun _ kvs=>K (.g (.i kvs.length))) (withMap_one fun _ _=>.pure) fun K=>rfl
    case lku kk ok z x k =>
      refine key (fun K=>withMap h (x.ev t) fun _ kvs=>match keyOf (k.ev t) with
        | some kv=>okKey kk kv=true∧∃ r,mfind kk kvs kv 0=some r∧K (lkuV ok z r)
        | none=>False) (withMap_one fun b kvs=>?_) fun K=>rfl
      split
      · rintro K ⟨h0,r,h1,h2⟩
        exact ⟨_,h2,fun K' k'=>⟨h0,r,h1,k'⟩⟩
      · exact .no
    case qcall f as =>
      simp only [opP] at ho ⊢
      split at ho
      · rw [forceT_eq] at ho
        obtain ⟨v,h1,h2⟩:=ho
        exact ⟨v,h2,fun K' k=>by rw [forceT_eq];exact ⟨v,h1,k⟩⟩
      · exact ho.elim
    case fcall f as =>
      simp only [opP] at ho ⊢
      split at ho
      · rw [forceT_eq] at ho
        obtain ⟨v,h1,h2⟩:=ho
        exact ⟨v,h2,fun K' k=>by rw [forceT_eq];exact ⟨v,h1,k⟩⟩
      · exact ho.elim
theorem opP_fill {P:Prg} {t:List V} {so:SO} {h:List Blk} (hk:so.kind=3) {K:V→List Blk→Prop} (ho:opP P t so h K) :
    ∃ (e n:Nat) (v:V) (B:Blk),slotOf so=some e∧e < h.length∧getB h (h.length-1-e)=some (.arr 0 n [])∧K v (setB h (h.length-1-e) B) ∧
      ∀ h':List Blk,h'.length=h.length→getB h' (h.length-1-e)=some (.arr 0 n [])→∀ K':V→List Blk→Prop,K' v (setB h' (h.length-1-e) B)→opP P t so h' K':=by
  cases so <;> simp only [SO.kind] at hk <;> try (exact absurd hk (by decide))
  case mksA e n b z l =>
    simp only [opP] at ho
    split at ho
    · rename_i i hl
      refine ⟨e,n,_,_,rfl,ho.2.2.1.1,ho.2.2.1.2,ho.2.2.2,fun h' h1 h2 K' hK=>?_⟩
      simp only [opP,hl]
      rw [h1]
      exact ⟨ho.1,ho.2.1,⟨ho.2.2.1.1,h2⟩,hK⟩
    · exact ho.elim
  case newA e n z =>
    simp only [opP] at ho
    refine ⟨e,n,_,_,rfl,ho.2.1.1,ho.2.1.2,ho.2.2,fun h' h1 h2 K' hK=>?_⟩
    simp only [opP]
    rw [h1]
    exact ⟨ho.1,⟨ho.2.1.1,h2⟩,hK⟩
theorem withElems_mono {h:List Blk} {n:Nat} {y:V} {K K':List V→Prop} (hk:∀ v,K v→K' v) (ho:withElems h n y K):withElems h n y K':=by
  unfold withElems at *
  split
  · exact ⟨ho.1,hk _ ho.2⟩
  · exact hk _ ho
  · simp only at ho
    split
    · rename_i hb;rw [hb] at ho;exact ⟨ho.1,hk _ ho.2⟩
    · rename_i hb
      split at ho
      · rename_i h2;exact absurd h2 (hb _ _ _)
      · exact ho.elim
  · rename_i h1 h2 h3
    split at ho
    · exact absurd rfl (h1 _ _)
    · exact absurd rfl (h2 _)
    · exact absurd rfl (h3 _ _ _ _)
    · exact ho.elim
theorem opP_mono {P:Prg} {t:List V} {so:SO} {h:List Blk} {K K':V→List Blk→Prop} (hk:∀ v h,K v h→K' v h) (ho:opP P t so h K):opP P t so h K':=by
  by_cases h2:so.kind=2
  · cases so <;> simp only [SO.kind] at h2 <;> try (exact absurd h2 (by decide))
    case box =>
      simp only [opP,forceV_eq] at ho ⊢
      exact ⟨ho.1,hk _ _ ho.2⟩
    case bad=>exact ho.elim
    case bslo=>simp only [opP,forceT_eq] at ho ⊢;exact ⟨ho.1,hk _ _ ho.2⟩
    case hol=>exact hk _ _ ho
    case new=>exact ⟨ho.1,hk _ _ ho.2⟩
    case bsl n xs =>
      cases xs with
      | nil=>exact hk _ _ ho
      | cons x xs =>
        simp only [opP,forceT_eq] at ho ⊢
        refine ⟨ho.1,?_⟩
        have h2:=ho.2
        cases hb:ownLit (x::xs) <;> rw [hb] at h2
        · exact litK_mono (fun ts=>hk _ _) (hk _ _) h2
        · exact hk _ _ h2
    case cap x =>
      simp only [opP] at ho ⊢
      generalize X.ev t x=Y at *
      unfold capP at *
      split
      · exact hk _ _ ho
      · exact fun c hc=>hk _ _ (ho c hc)
      · exact fun c hc=>hk _ _ (ho c hc)
      · rename_i h1 h2 h3
        split at ho
        · exact absurd rfl (h1 _)
        · exact absurd rfl (h2 _ _ _ _)
        · exact absurd rfl (h3 _ _)
        · exact ho.elim
    case appz n b z x l =>
      simp only [opP] at ho ⊢
      generalize X.ev t x=Y at *
      generalize X.ev t l=L at *
      unfold appzP at *
      split
      · simp only at ho
        refine ⟨ho.1,ho.2.1,?_⟩
        have ho:=ho.2.2
        split
        · exact hk _ _ ho
        · rename_i h1
          split at ho
          · exact absurd rfl (h1 _)
          · exact ho.elim
      · rename_i h1
        split at ho
        · exact absurd rfl (h1 _)
        · exact ho.elim
    case cpy n x y =>
      simp only [opP] at ho ⊢
      unfold cpyP at *
      refine withElems_mono (fun ys hy=>?_) ho
      generalize X.ev t x=Y at *
      cases Y with
      | own b g off len =>
        simp only at hy ⊢
        generalize getB h b=B at *
        cases B with
        | none=>exact hy.elim
        | some B =>
          cases B with
          | mp=>exact hy.elim
          | arr=>exact ⟨hy.1,hk _ _ hy.2⟩
      | _=>exact hy.elim
    case clr n z x =>
      simp only [opP] at ho ⊢
      generalize X.ev t x=Y at *
      unfold clrP at *
      cases Y with
      | own b g off len =>
        simp only at ho ⊢
        generalize getB h b=B at *
        cases B with
        | none=>exact ho.elim
        | some B =>
          cases B with
          | mp=>exact ho.elim
          | arr=>exact ⟨ho.1,hk _ _ ho.2⟩
      | _=>exact ho.elim
    case store n a x =>
      simp only [opP,forceV_eq] at ho ⊢
      generalize X.ev t a=A at *
      generalize X.ev t x=Y at *
      cases A <;> simp only [storeP] at ho ⊢
      case pa b g i off =>
        generalize getB h b=B at *
        cases B with
        | none=>exact ho.elim
        | some B =>
          cases B with
          | mp=>exact ho.elim
          | arr=>exact ⟨ho.1,ho.2.choose,ho.2.choose_spec.1,ho.2.choose_spec.2.1,hk _ _ ho.2.choose_spec.2.2⟩
    case stz n bz a x =>
      simp only [opP,forceV_eq] at ho ⊢
      generalize X.ev t a=A at *
      generalize X.ev t x=Y at *
      cases A <;> simp only [storeZ] at ho ⊢
      case pa b g i off =>
        generalize getB h b=B at *
        cases B with
        | none=>exact ho.elim
        | some B =>
          cases B with
          | mp=>exact ho.elim
          | arr=>exact ⟨ho.1,ho.2.choose,ho.2.choose_spec.1,ho.2.choose_spec.2.1,hk _ _ ho.2.choose_spec.2.2⟩
    case mkm=>exact hk _ _ ho
    case mup kk m k x =>
      simp only [opP] at ho ⊢
      refine withMap_mono (fun b kvs h1=>?_) ho
      split at h1
      · obtain ⟨h0,r,h2,h3⟩:=h1;exact ⟨h0,r,h2,hk _ _ h3⟩
      · exact h1.elim
    case mpe kk z m k =>
      simp only [opP] at ho ⊢
      refine withMap_mono (fun b kvs h1=>?_) ho
      split at h1
      · obtain ⟨h0,r,h2,h3⟩:=h1
        refine ⟨h0,r,h2,?_⟩
        cases r with
        | none=>exact hk _ _ h3
        | some p=>exact hk _ _ h3
      · exact h1.elim
    case est m s x =>
      simp only [opP] at ho ⊢
      refine withMap_mono (fun b kvs h1=>?_) ho
      split at h1
      · exact ⟨h1.1,hk _ _ h1.2⟩
      · exact h1.elim
    case mks =>
      simp only [opP] at ho ⊢
      split
      · rename_i he;rw [he] at ho;exact ⟨ho.1,ho.2.1,hk _ _ ho.2.2⟩
      · rename_i h1
        split at ho
        · rename_i he;exact absurd he (h1 _)
        · exact ho.elim
    case pcall =>
      simp only [opP] at ho ⊢
      split
      · rename_i he;rw [he] at ho;simp only [forceT_eq] at ho ⊢;exact ho.mono hk
      · rename_i h1
        split at ho
        · rename_i he;exact absurd he (h1 _ _)
        · exact ho.elim
    case acall =>
      simp only [opP] at ho ⊢
      split
      · rename_i he;rw [he] at ho;simp only [forceT_eq] at ho ⊢;exact ho.mono fun r h' e=>⟨e.1,hk _ _ e.2⟩
      · rename_i h1
        split at ho
        · rename_i he;exact absurd he (h1 _ _)
        · exact ho.elim
    case call =>
      simp only [opP] at ho ⊢
      split
      · rename_i he;rw [he] at ho;simp only [forceT_eq] at ho ⊢;exact ho.mono hk
      · rename_i h1
        split at ho
        · rename_i he;exact absurd he (h1 _ _)
        · exact ho.elim
    case app n b x y =>
      simp only [opP] at ho ⊢
      unfold appP at *
      refine withElems_mono (fun ys hy=>?_) ho
      split
      · rename_i he;rw [he] at hy;exact ⟨hy.1,hk _ _ hy.2⟩
      · rename_i he;rw [he] at hy
        simp only at hy
        split
        · rename_i hb;rw [hb] at hy;obtain ⟨h1,h2,e0,h3,h4,h5⟩:=hy;exact ⟨h1,h2,e0,h3,h4,hk _ _ h5⟩
        · rename_i hb
          split at hy
          · rename_i h2;exact absurd h2 (hb _ _ _)
          · exact hy.elim
      · rename_i h1 h2
        split at hy
        · rename_i he;exact absurd he (h1 _)
        · rename_i he;exact absurd he (h2 _ _ _ _)
        · exact hy.elim
    case eqnil neg x =>
      simp only [opP] at ho ⊢
      split
      · rename_i he;rw [he] at ho;exact hk _ _ ho
      · rename_i he;rw [he] at ho;exact fun r hr=>hk _ _ (ho r hr)
      · rename_i he;rw [he] at ho;simp only at ho
        split
        · rename_i hb;rw [hb] at ho;exact ⟨ho.1,fun r hr=>hk _ _ (ho.2 r hr)⟩
        · rename_i hb
          split at ho
          · rename_i h2;exact absurd h2 (hb _ _ _)
          · exact ho.elim
      · rename_i h1 h2 h3
        split at ho
        · rename_i he;exact absurd he (h1 _)
        · rename_i he;exact absurd he (h2 _ _)
        · rename_i he;exact absurd he (h3 _ _ _ _)
        · exact ho.elim
  · by_cases h3:so.kind=3
    · obtain ⟨e,n,v,B,_,_,h4,h5,h6⟩:=opP_fill h3 ho
      exact h6 h rfl h4 _ (hk _ _ h5)
    · have:so.kind≤3:=by cases so <;> simp [SO.kind]
      obtain ⟨v,h1,h3⟩:=opP_quiet (by omega) ho
      exact h3 _ (hk _ _ h1)
def aOpV (P:Prg) (o:SOp) (t:List V) (h:List Blk) (F:V→List Blk→Prop):Prop:=match o.g with
  | none=>opP P t o.o h F
  | some (i,b)=>match getT t i with
    | .g (.sc (.bool c))=>if c=b then opP P t o.o h F else F (.tu []) h
    | .tu []=>F (.tu []) h
    | _=>False
theorem aOpV_congr {P:Prg} {t t':List V} {o:SOp} {h:List Blk} {F:V→List Blk→Prop} (ha:agree t t' o.reads):aOpV P o t h F↔aOpV P o t' h F:=by
  unfold aOpV
  unfold SOp.reads at ha
  split
  · rename_i hg;rw [hg] at ha;exact opP_congr ha
  · rename_i i b hg
    rw [hg] at ha
    have h1:getT t i=getT t' i:=ha i (by simp)
    have h2:agree t t' o.o.temps:=fun n hn=>ha n (by simp [hn])
    rw [h1]
    split
    · split
      · exact opP_congr h2
      · exact Iff.rfl
    · exact Iff.rfl
    · exact Iff.rfl
theorem aOpV_quiet {P:Prg} {t:List V} {o:SOp} {h:List Blk} (hk:o.o.kind≤1) {F:V→List Blk→Prop} (ho:aOpV P o t h F) :
    ∃ v,F v h∧∀ F':V→List Blk→Prop,F' v h→aOpV P o t h F':=by
  unfold aOpV at *
  split
  · rename_i hg;rw [hg] at ho;exact opP_quiet hk ho
  · rename_i i b hg;rw [hg] at ho;simp only at ho
    split
    · rename_i c hc;rw [hc] at ho;simp only at ho
      split
      · rename_i hb;rw [if_pos hb] at ho;exact opP_quiet hk ho
      · rename_i hb;rw [if_neg hb] at ho;exact ⟨_,ho,fun _ k=>k⟩
    · rename_i hc;rw [hc] at ho;exact ⟨_,ho,fun _ k=>k⟩
    · rename_i h1 h2
      split at ho
      · rename_i hc;exact absurd hc (h1 _)
      · rename_i hc;exact absurd hc h2
      · exact ho.elim
theorem aOpV_pure {P:Prg} {t:List V} {o:SOp} {h:List Blk} (hk:o.o.kind=0) {F:V→List Blk→Prop} (ho:aOpV P o t h F) :
    ∃ v,F v h∧∀ (h':List Blk) (F':V→List Blk→Prop),F' v h'→aOpV P o t h' F':=by
  obtain ⟨G,h1,h2⟩:=opP_pure (P:=P) (t:=t) hk
  have key:opP P t o.o h F→∃ v,F v h∧∀ (h':List Blk) (F':V→List Blk→Prop),F' v h'→opP P t o.o h' F':=fun k=>by
    rw [h2] at k
    obtain ⟨v,a,b⟩:=h1 _ k
    exact ⟨v,a,fun h' F' k'=>by rw [h2];exact b _ k'⟩
  unfold aOpV at *
  split
  · rename_i hg;rw [hg] at ho;exact key ho
  · rename_i i b hg;rw [hg] at ho;simp only at ho
    split
    · rename_i c hc;rw [hc] at ho;simp only at ho
      split
      · rename_i hb;rw [if_pos hb] at ho;exact key ho
      · rename_i hb;rw [if_neg hb] at ho;exact ⟨_,ho,fun _ _ k=>k⟩
    · rename_i hc;rw [hc] at ho;exact ⟨_,ho,fun _ _ k=>k⟩
    · rename_i h1 h2
      split at ho
      · rename_i hc;exact absurd hc (h1 _)
      · rename_i hc;exact absurd hc h2
      · exact ho.elim
theorem aOpV_mono {P:Prg} {t:List V} {o:SOp} {h:List Blk} {F F':V→List Blk→Prop} (hk:∀ v h,F v h→F' v h) (ho:aOpV P o t h F):aOpV P o t h F':=by
  unfold aOpV at *
  split
  · rename_i hg;rw [hg] at ho;exact opP_mono hk ho
  · rename_i i b hg;rw [hg] at ho;simp only at ho
    split
    · rename_i c hc;rw [hc] at ho;simp only at ho
      split
      · rename_i hb;rw [if_pos hb] at ho;exact opP_mono hk ho
      · rename_i hb;rw [if_neg hb] at ho;exact hk _ _ ho
    · rename_i hc;rw [hc] at ho;exact hk _ _ ho
    · rename_i h1 h2
      split at ho
      · rename_i hc;exact absurd hc (h1 _)
      · rename_i hc;exact absurd hc h2
      · exact ho.elim
end Go.Aw
namespace Go.Aw
theorem ikN_inj {k k':IntKind} (h:ikN k=ikN k'):k=k':=by cases k <;> cases k' <;> first|rfl|simp [ikN] at h
theorem ikN_ge (k:IntKind):3≤ikN k:=by cases k <;> simp [ikN]
theorem sameS_cases {c:Nat} {x y:Value} {e:Bool} (h:sameS c x y=some e):(∃ a b,x=.bool a∧y=.bool b∧c=0∧e=(a == b))∨(∃ k a b,x=.int k a∧y=.int k b∧c=ikN k∧e=(a == b))∨(∃ a b,x=.string a∧y=.string b∧c=2∧e=(a == b)):=by
  unfold sameS at h
  split at h
  · split at h
    · rename_i hc;cases h;exact .inl ⟨_,_,rfl,rfl,Nat.eq_of_beq_eq_true hc,rfl⟩
    · cases h
  · split at h
    · rename_i hc
      cases h
      simp only [Bool.and_eq_true] at hc
      have h1:=Nat.eq_of_beq_eq_true hc.1
      have h2:=Nat.eq_of_beq_eq_true hc.2
      have:=ikN_inj (h1.trans h2.symm);subst this
      exact .inr (.inl ⟨_,_,_,rfl,rfl,h1.symm,rfl⟩)
    · cases h
  · split at h
    · rename_i hc;cases h;exact .inr (.inr ⟨_,_,rfl,rfl,Nat.eq_of_beq_eq_true hc,rfl⟩)
    · cases h
  · cases h
theorem bytes_eq {a b:ByteArray} (h:(a == b)=true):a=b:=by
  obtain ⟨⟨x⟩⟩:=a
  obtain ⟨⟨y⟩⟩:=b
  have h:((⟨x⟩:Array UInt8) == ⟨y⟩)=true:=h
  simp at h
  rw [h]
theorem sameS_true {c:Nat} {x y:Value} (h:sameS c x y=some true):x=y:=by
  rcases sameS_cases h with ⟨a,b,rfl,rfl,rfl,e⟩|⟨k,a,b,rfl,rfl,rfl,e⟩|⟨a,b,rfl,rfl,rfl,e⟩
  · have:=eq_of_beq e.symm;rw [this]
  · have:=eq_of_beq e.symm;rw [this]
  · have:=bytes_eq e.symm;rw [this]
theorem sameL_true:∀ {cs:List Nat} {xs ys:List Value},sameL cs xs ys=some true→xs=ys
  | [],xs,ys,h=>by cases xs <;> cases ys <;> simp [sameL] at h ⊢
  | c::cs,xs,ys,h=>by
    cases xs with
    | nil=>cases ys <;> simp [sameL] at h
    | cons x xs =>
      cases ys with
      | nil=>simp [sameL] at h
      | cons y ys =>
        simp only [sameL] at h
        obtain ⟨a,s1,h⟩:=Option.bind_eq_some_iff.1 h
        obtain ⟨b,s2,h⟩:=Option.map_eq_some_iff.1 h
        simp only [Bool.and_eq_true] at h
        obtain ⟨rfl,rfl⟩:=h
        rw [sameS_true s1,sameL_true s2]
theorem sameK_true {kk:Bool×List Nat} {x y:Value} (h:sameK kk x y=some true):x=y:=by
  unfold sameK at h
  split at h
  · split at h
    · have:=congrArg List.toArray (sameL_true h);simpa using this
    · cases h
  · exact sameS_true h
  · cases h
theorem sameS_tot {c:Nat} {x y:Value} {a b:Bool} (h:sameS c x x=some a) (k:sameS c y y=some b):∃ e,sameS c x y=some e:=by
  rcases sameS_cases h with ⟨a,b,rfl,_,h1,_⟩|⟨k1,a,b,rfl,_,h1,_⟩|⟨a,b,rfl,_,h1,_⟩ <;>
  rcases sameS_cases k with ⟨a',b',rfl,_,h2,_⟩|⟨k2,a',b',rfl,_,h2,_⟩|⟨a',b',rfl,_,h2,_⟩
  · subst h1;exact ⟨_,rfl⟩
  · have:=ikN_ge k2;omega
  · omega
  · have:=ikN_ge k1;omega
  · have:=ikN_inj (h1.symm.trans h2);subst this;subst h1;exact ⟨_,by simp [sameS];rfl⟩
  · have:=ikN_ge k1;omega
  · omega
  · have:=ikN_ge k2;omega
  · subst h1;exact ⟨_,rfl⟩
theorem sameL_tot:∀ {cs:List Nat} {xs ys:List Value} {a b:Bool},sameL cs xs xs=some a→sameL cs ys ys=some b→∃ e,sameL cs xs ys=some e
  | [],xs,ys,a,b,h,k=>by cases xs <;> cases ys <;> simp [sameL] at h k ⊢
  | c::cs,xs,ys,a,b,h,k=>by
    cases xs with
    | nil=>simp [sameL] at h
    | cons x xs =>
      cases ys with
      | nil=>simp [sameL] at k
      | cons y ys =>
        simp only [sameL] at h k ⊢
        obtain ⟨a1,s1,h⟩:=Option.bind_eq_some_iff.1 h
        obtain ⟨b1,s2,h⟩:=Option.map_eq_some_iff.1 h
        obtain ⟨a2,s3,k⟩:=Option.bind_eq_some_iff.1 k
        obtain ⟨b2,s4,k⟩:=Option.map_eq_some_iff.1 k
        obtain ⟨e1,h1⟩:=sameS_tot s1 s3
        obtain ⟨e2,h2⟩:=sameL_tot s2 s4
        exact ⟨e1 && e2,by simp [h1,h2]⟩
theorem okKey_some {kk:Bool×List Nat} {x:Value} (h:okKey kk x=true):∃ a,sameK kk x x=some a:=by
  unfold okKey at h
  cases hs:sameK kk x x with
  | none=>rw [hs] at h;cases h
  | some a=>exact ⟨a,rfl⟩
theorem sameK_tot {kk:Bool×List Nat} {x y:Value} (h:okKey kk x=true) (k:okKey kk y=true):∃ e,sameK kk x y=some e:=by
  obtain ⟨a,h⟩:=okKey_some h
  obtain ⟨b,k⟩:=okKey_some k
  obtain ⟨f,cs⟩:=kk
  cases f with
  | true =>
    cases x <;> cases y <;> simp [sameK] at h k ⊢
    obtain ⟨e,he⟩:=sameL_tot h k
    rw [he];cases e <;> simp
  | false =>
    match cs,h,k with
    | [c],h,k=>exact sameS_tot h k
theorem mfind_get {kk:Bool×List Nat} {k:Value}:∀ {kvs:List (Value×Value)} {i:Nat} {p:Nat×Value},mfind kk kvs k i=some (some p)→∃ j,p.1=i+j∧kvs[j]?=some (k,p.2)
  | [],i,p,h=>by simp [mfind] at h
  | (a,v)::r,i,p,h=>by
    simp only [mfind] at h
    split at h
    · rename_i hs
      cases h
      rw [sameK_true hs]
      exact ⟨0,rfl,rfl⟩
    · obtain ⟨j,h1,h2⟩:=mfind_get h
      exact ⟨j+1,by omega,by simpa using h2⟩
    · cases h
theorem mfind_app {kk:Bool×List Nat} {k kv z:Value} (hk:okKey kk k=true) (hv:okKey kk kv=true):∀ {kvs:List (Value×Value)} {i:Nat} {r:Option (Nat×Value)},mfind kk kvs k i=some r →
    ∃ r',mfind kk (kvs++[(kv,z)]) k i=some r'∧lkuV false z r'=lkuV false z r
  | [],i,r,h=>by
    simp only [mfind,Option.some.injEq] at h;subst h
    obtain ⟨e,he⟩:=sameK_tot hk hv
    cases e with
    | true=>exact ⟨some (i,z),by simp [mfind,he],rfl⟩
    | false=>exact ⟨none,by simp [mfind,he],rfl⟩
  | (a,v)::q,i,r,h=>by
    simp only [mfind] at h
    split at h
    · rename_i hs;cases h;exact ⟨some (i,v),by simp [mfind,hs],rfl⟩
    · rename_i hs
      obtain ⟨r',h1,h2⟩:=mfind_app hk hv h
      exact ⟨r',by simp [mfind,hs,h1],h2⟩
    · cases h
def Sure (kk:Bool×List Nat) (z:Value) (h h':List Blk):Prop :=
  ∃ b kvs kv r,getB h b=some (.mp kvs)∧okKey kk kv=true∧mfind kk kvs kv 0=some r∧h'=setB h b (.mp (match r with|some (i,v)=>kvs.set i (kv,v)|none=>kvs++[(kv,z)]))
theorem lt_of_getB {h:List Blk} {b:Nat} {x:Blk} (hb:h[b]?=some x):b < h.length:=(List.getElem?_eq_some_iff.1 hb).1
theorem setB_self' {h:List Blk} {b:Nat} {x:Blk} (hb:getB h b=some x):setB h b x=h:=by
  rw [getB_eq] at hb
  rw [setB_eq]
  refine List.ext_getElem? fun i=>?_
  rw [List.getElem?_set]
  split
  · rename_i e;subst e
    split
    · exact hb.symm
    · rename_i hl;rw [List.getElem?_eq_none (by omega)] at hb;cases hb
  · rfl
theorem Sure.cases {kk:Bool×List Nat} {z:Value} {h h':List Blk} (s:Sure kk z h h'):h'=h∨∃ b kvs kv,getB h b=some (.mp kvs)∧okKey kk kv=true∧h'=setB h b (.mp (kvs++[(kv,z)])):=by
  obtain ⟨b,kvs,kv,r,h1,h2,h3,rfl⟩:=s
  cases r with
  | none=>exact .inr ⟨b,kvs,kv,h1,h2,rfl⟩
  | some p =>
    obtain ⟨i,v⟩:=p
    left
    obtain ⟨j,e1,e2⟩:=mfind_get h3
    simp only [Nat.zero_add] at e1
    subst e1
    have:kvs.set i (kv,v)=kvs:=by
      refine List.ext_getElem? fun q=>?_
      rw [List.getElem?_set]
      split
      · rename_i e;subst e
        split
        · exact e2.symm
        · rename_i hl;rw [List.getElem?_eq_none (by omega)] at e2;cases e2
      · rfl
    simp only
    rw [this,setB_self' h1]
theorem opP_mpe {P:Prg} {t:List V} {kk:Bool×List Nat} {z:Value} {m k:X} {h:List Blk} {K:V→List Blk→Prop} (ho:opP P t (.mpe kk z m k) h K) :
    ∃ u h',K u h'∧Sure kk z h h'∧∀ K':V→List Blk→Prop,K' u h'→opP P t (.mpe kk z m k) h K':=by
  simp only [opP] at ho ⊢
  unfold withMap at *
  generalize m.ev t=M at *
  cases M with
  | mp b =>
    simp only at ho ⊢
    cases hB:getB h b with
    | none=>rw [hB] at ho;exact ho.elim
    | some B =>
      rw [hB] at ho
      cases B with
      | arr=>exact ho.elim
      | mp kvs =>
        simp only at ho ⊢
        cases hk:keyOf (k.ev t) with
        | none=>rw [hk] at ho;exact ho.elim
        | some kv =>
          rw [hk] at ho
          simp only at ho ⊢
          obtain ⟨h1,r,h2,h3⟩:=ho
          cases r with
          | none=>exact ⟨_,_,h3,⟨b,kvs,kv,none,hB,h1,h2,rfl⟩,fun K' k'=>⟨h1,none,h2,k'⟩⟩
          | some p=>exact ⟨_,_,h3,⟨b,kvs,kv,some p,hB,h1,h2,rfl⟩,fun K' k'=>⟨h1,some p,h2,k'⟩⟩
  | _=>exact ho.elim
theorem opP_lku {P:Prg} {t:List V} {kk:Bool×List Nat} {z:Value} {x k:X} {h h':List Blk} {v:V} (s:Sure kk z h h') (ho:opP P t (.lku kk false z x k) h fun u _=>u=v) {K:V→List Blk→Prop} (hK:K v h') :
    opP P t (.lku kk false z x k) h' K:=by
  simp only [opP] at ho ⊢
  unfold withMap at *
  generalize x.ev t=M at *
  cases M with
  | mp b =>
    simp only at ho ⊢
    cases hB:getB h b with
    | none=>rw [hB] at ho;exact ho.elim
    | some B =>
      rw [hB] at ho
      cases B with
      | arr=>exact ho.elim
      | mp kvs =>
        simp only at ho
        cases hk:keyOf (k.ev t) with
        | none=>rw [hk] at ho;exact ho.elim
        | some kv =>
          rw [hk] at ho
          simp only at ho
          obtain ⟨h1,r,h2,h3⟩:=ho
          rcases s.cases with rfl|⟨b',kvs',kv',q1,q2,rfl⟩
          · rw [hB];exact ⟨h1,r,h2,by rw [h3];exact hK⟩
          · by_cases hbb:b'=b
            · subst hbb
              rw [hB] at q1;cases q1
              obtain ⟨r',e1,e2⟩:=mfind_app (z:=z) h1 q2 h2
              have hb':getB (setB h b' (.mp (kvs++[(kv',z)]))) b'=some (.mp (kvs++[(kv',z)])):=by
                rw [getB_eq] at hB ⊢
                rw [setB_eq]
                simp [lt_of_getB hB]
              rw [hb']
              exact ⟨h1,r',e1,by rw [e2,h3];exact hK⟩
            · have hb':getB (setB h b' (.mp (kvs'++[(kv',z)]))) b=some (.mp kvs):=by
                rw [getB_eq] at hB ⊢
                rw [setB_eq,List.getElem?_set,if_neg hbb];exact hB
              rw [hb']
              exact ⟨h1,r,h2,by rw [h3];exact hK⟩
  | _=>exact ho.elim
theorem lkMpe_ok {x y:SO} (h:lkMpe x y=true):∃ kk z a b c d,x=.lku kk false z a b∧y=.mpe kk z c d:=by
  unfold lkMpe at h
  split at h
  · rename_i a l z x1 k1 a' l' z' m k2
    have nl:∀ {l l':List Nat},nlEq l l'=true→l=l':=by
      intro l
      induction l with
      | nil=>intro l' h;cases l' <;> simp [nlEq] at h ⊢
      | cons x xs ih =>
        intro l' h
        cases l' with
        | nil=>simp [nlEq] at h
        | cons y ys =>
          simp only [nlEq,Bool.and_eq_true] at h
          rw [Nat.eq_of_beq_eq_true h.1,ih h.2]
    have zz:∀ {z z':Value},zEq z z'=true→z=z':=by
      intro z z' h
      unfold zEq at h
      split at h
      · rename_i k k';rw [ikN_inj (Nat.eq_of_beq_eq_true h)]
      · cases h
    split at h
    · simp only [Bool.and_eq_true] at h
      have:=nl h.1;subst this
      have:=zz h.2;subst this
      exact ⟨_,_,_,_,_,_,rfl,rfl⟩
    · simp only [Bool.and_eq_true] at h
      have:=nl h.1;subst this
      have:=zz h.2;subst this
      exact ⟨_,_,_,_,_,_,rfl,rfl⟩
    · cases h
  · cases h
def Kept (m:Option Nat×Bool) (h h':List Blk):Prop:=(∀ (b g s:Nat) (es:List V),getB h b=some (.arr g s es)→(m.1≠some s→getB h' b=some (.arr g s es))∧(m.2=true→∃ es',getB h' b=some (.arr g s es')))∧(m.1=none→∃ B,h'=h++B)
theorem Kept.refl {m:Option Nat×Bool} {h:List Blk}:Kept m h h:=⟨fun _ _ _ es hb=>⟨fun _=>hb,fun _=>⟨es,hb⟩⟩,fun _=>⟨[],by simp⟩⟩
theorem Kept.add {m:Option Nat×Bool} {h:List Blk} {x:Blk}:Kept m h (addB h x):=⟨fun b g s es hb=>by
  have:getB (addB h x) b=some (.arr g s es):=by
    rw [getB_eq] at hb ⊢
    rw [addB_eq,List.getElem?_append_left (lt_of_getB hb)];exact hb
  exact ⟨fun _=>this,fun _=>⟨es,this⟩⟩,fun _=>⟨[x],addB_eq _ _⟩⟩
theorem Kept.app {m:Option Nat×Bool} {h B:List Blk}:Kept m h (h++B):=⟨fun b g s es hb=>by
  have:getB (h++B) b=some (.arr g s es):=by
    rw [getB_eq] at hb ⊢
    rw [List.getElem?_append_left (lt_of_getB hb)];exact hb
  exact ⟨fun _=>this,fun _=>⟨es,this⟩⟩,fun _=>⟨B,rfl⟩⟩
theorem Kept.set' {n b g:Nat} {es':List V} {x:Blk} {h:List Blk} (hb:getB h b=some (.arr g n es')):Kept (some n,false) h (setB h b x):=⟨fun c g2 s es2 hc=>by
  refine ⟨fun hne=>?_,fun e=>by cases e⟩
  rw [getB_eq] at hc hb ⊢
  rw [setB_eq,List.getElem?_set]
  split
  · rename_i e;subst e
    rw [hb] at hc;cases hc
    exact absurd rfl hne
  · exact hc,fun e=>by cases e⟩
theorem Kept.put {n b g:Nat} {es' es2:List V} {h:List Blk} (hb:getB h b=some (.arr g n es')):Kept (some n,true) h (setB h b (.arr g n es2)):=⟨fun c g2 s e2 hc=>by
  rw [getB_eq] at hc hb
  by_cases e:b=c
  · subst e
    rw [hb] at hc;cases hc
    exact ⟨fun hne=>absurd rfl hne,fun _=>⟨es2,by rw [getB_eq,setB_eq,List.getElem?_set_self (lt_of_get hb)]⟩⟩
  · have:getB (setB h b (.arr g n es2)) c=some (.arr g2 s e2):=by rw [getB_eq,setB_eq,List.getElem?_set_ne e];exact hc
    exact ⟨fun _=>this,fun _=>⟨e2,this⟩⟩,fun e=>by cases e⟩
theorem opP_keeps {P:Prg} {t:List V} {so:SO} {m:Option Nat×Bool} {h:List Blk} {K:V→List Blk→Prop} (hk:keepBy so=some m) (ho:opP P t so h K):opP P t so h fun u h'=>K u h'∧Kept m h h':=by
  cases so <;> simp only [keepBy,Option.some.injEq] at hk <;> try (cases hk;done)
  case box n x=>subst hk;simp only [opP,forceV_eq] at ho ⊢;exact ⟨ho.1,ho.2,.add⟩
  case new=>subst hk;exact ⟨ho.1,ho.2,.add⟩
  case bsl n xs =>
    subst hk
    cases xs with
    | nil=>exact ⟨ho,.add⟩
    | cons x xs =>
      simp only [opP,forceT_eq] at ho ⊢
      refine ⟨ho.1,?_⟩
      have h2:=ho.2
      cases hb:ownLit (x::xs) <;> rw [hb] at h2
      · exact litK_mono (fun ts h=>⟨h,.refl⟩) (fun h=>⟨h,.add⟩) h2
      · exact ⟨h2,.add⟩
  case bslo=>subst hk;simp only [opP,forceT_eq] at ho ⊢;exact ⟨ho.1,ho.2,.add⟩
  case mkm=>subst hk;exact ⟨ho,.add⟩
  case mks n b z l =>
    subst hk
    simp only [opP] at ho ⊢
    split at ho
    · exact ⟨ho.1,ho.2.1,ho.2.2,.add⟩
    · exact ho.elim
  case app n b x y =>
    subst hk
    simp only [opP,appP] at ho ⊢
    refine withElems_mono (fun ys ho=>?_) ho
    generalize X.ev t x=XV at ho ⊢
    cases XV with
    | nil=>exact ⟨ho.1,ho.2,.add⟩
    | own b' g off len =>
      simp only at ho ⊢
      cases hB:getB h b' with
      | none=>rw [hB] at ho;exact ho.elim
      | some B =>
        rw [hB] at ho
        cases B with
        | mp=>exact ho.elim
        | arr g' s es =>
          simp only at ho ⊢
          obtain ⟨h1,⟨h6,h7,h8⟩,e0,h3,h4,h5⟩:=ho
          refine ⟨h1,⟨h6,h7,h8⟩,e0,h3,h4,h5,?_⟩
          subst h7;subst h8
          exact .set' hB
    | _=>exact ho.elim
  case acall f as =>
    subst hk
    simp only [opP] at ho ⊢
    split
    · rename_i he;rw [he] at ho;simp only [forceT_eq] at ho ⊢
      refine ho.mono fun r h' e=>⟨e.1,e.2,?_⟩
      obtain ⟨B,rfl⟩:=e.1
      exact .app
    · rename_i h1
      split at ho
      · rename_i he;exact absurd he (h1 _ _)
      · exact ho.elim
  case stz n bz a x =>
    subst hk
    simp only [opP,forceV_eq] at ho ⊢
    generalize X.ev t a=A at *
    generalize X.ev t x=Y at *
    cases A <;> simp only [storeZ] at ho ⊢
    case pa b g i off =>
      cases hB:getB h b with
      | none=>rw [hB] at ho;exact ho.elim
      | some B =>
        rw [hB] at ho
        cases B with
        | mp=>exact ho.elim
        | arr g' sz es =>
          simp only at ho ⊢
          obtain ⟨⟨rfl,rfl⟩,e,h1,h2,h3⟩:=ho
          exact ⟨⟨rfl,rfl⟩,e,h1,h2,h3,.put hB⟩
theorem opP_stab {P:Prg} {t:List V} {x y:SO} {h h':List Blk} {v:V} {m:Option Nat×Bool} (hs:stab x y=true) (hm:keepBy y=some m) (k:Kept m h h') (ho:opP P t x h fun u _=>u=v) {K:V→List Blk→Prop} (hK:K v h'):opP P t x h' K:=by
  simp only [stab,Bool.or_eq_true,Bool.and_eq_true] at hs
  rcases hs with ⟨ha,hs⟩|hs
  · cases y <;> simp only [isAc] at ha <;> try (cases ha;done)
    cases hm
    cases x <;> simp only [stabA] at hs <;> try (cases hs;done)
    case load n a =>
      simp only [opP] at ho ⊢
      generalize X.ev t a=A at ho ⊢
      unfold loadP at ho ⊢
      split at ho
      · rename_i b g i off
        split at ho
        · rename_i g' s es hB
          obtain ⟨rfl,e,h1,h2⟩:=ho
          rw [(k.1 _ _ _ _ hB).1 (fun e=>by cases e)]
          refine ⟨rfl,e,h1,?_⟩
          split at h2
          · rename_i hl;rw [h2];exact hK
          · exact h2.elim
        · exact ho.elim
      · rename_i es i off
        obtain ⟨e,h1,h2⟩:=ho
        refine ⟨e,h1,?_⟩
        split at h2
        · rename_i hl;rw [h2];exact hK
        · exact h2.elim
      · exact ho.elim
    case ia sz a i =>
      simp only [opP] at ho ⊢
      generalize a.ev t=X at *
      generalize i.ev t=J at *
      unfold iaP at ho ⊢
      split at ho
      case h_2=>exact ho.elim
      split at ho
      · exact ⟨ho.1,ho.2.1,by rw [ho.2.2];exact hK⟩
      · split at ho
        · rename_i hB
          obtain ⟨h1,⟨rfl,rfl⟩,h3⟩:=ho
          rw [(k.1 _ _ _ _ hB).1 (fun e=>by cases e)]
          exact ⟨h1,⟨rfl,rfl⟩,by rw [h3];exact hK⟩
        · exact ho.elim
      · exact ho.elim
  rcases hs with hs|hs
  · unfold stabF at hs
    split at hs
    · rename_i f as hk
      rw [hm] at hk;cases hk
      obtain ⟨B,rfl⟩:=k.2 rfl
      simp only [opP] at ho ⊢
      split at ho
      · simp only [forceT_eq] at ho ⊢
        obtain ⟨u,h1,rfl⟩:=ho
        exact ⟨u,fun B'=>by have:=h1 (B++B');rw [← List.append_assoc] at this;exact this,hK⟩
      · exact ho.elim
    · cases hs
  unfold stab0 at hs
  rw [hm] at hs
  have ne:∀ {s:Nat},neO m.1 s=true→m.1≠some s:=fun {s} hn e=>by
    rw [e] at hn;simp [neO] at hn
  split at hs
  · rename_i m' n sz a e1
    cases e1
    simp only [opP] at ho ⊢
    generalize X.ev t a=A at ho ⊢
    split at ho
    · rename_i b g i off
      split at ho
      · rename_i g' s es hB
        obtain ⟨⟨rfl,rfl⟩,e,h1,h2⟩:=ho
        rw [(k.1 _ _ _ _ hB).1 (ne hs)]
        refine ⟨⟨rfl,rfl⟩,e,h1,?_⟩
        split at h2
        · rename_i hl;rw [h2];exact hK
        · exact h2.elim
      · exact ho.elim
    · rename_i es i off
      obtain ⟨e,h1,h2⟩:=ho
      refine ⟨e,h1,?_⟩
      split at h2
      · rename_i hl;rw [h2];exact hK
      · exact h2.elim
    · exact ho.elim
  · rename_i m' sz a i e1
    cases e1
    simp only [opP] at ho ⊢
    generalize a.ev t=X at *
    generalize i.ev t=J at *
    unfold iaP at ho ⊢
    split at ho
    case h_2=>exact ho.elim
    split at ho
    · exact ⟨ho.1,ho.2.1,by rw [ho.2.2];exact hK⟩
    · split at ho
      · rename_i hB
        obtain ⟨h1,⟨rfl,rfl⟩,h3⟩:=ho
        simp only [Bool.or_eq_true] at hs
        rcases hs with hs|hs
        · obtain ⟨es',he⟩:=(k.1 _ _ _ _ hB).2 hs
          rw [he]
          exact ⟨h1,⟨rfl,rfl⟩,by rw [h3];exact hK⟩
        · rw [(k.1 _ _ _ _ hB).1 (ne hs)]
          exact ⟨h1,⟨rfl,rfl⟩,by rw [h3];exact hK⟩
      · exact ho.elim
    · exact ho.elim
  · cases hs
theorem stab_keeps {x y:SO} (hs:stab x y=true):∃ m,keepBy y=some m:=by
  simp only [stab,Bool.or_eq_true,Bool.and_eq_true] at hs
  rcases hs with ⟨ha,_⟩|hs
  · cases y <;> simp only [isAc] at ha <;> first|(cases ha;done)|exact ⟨_,rfl⟩
  rcases hs with hs|hs
  · unfold stabF at hs
    split at hs
    · exact ⟨_,by assumption⟩
    · cases hs
  unfold stab0 at hs
  split at hs
  · exact ⟨_,by assumption⟩
  · exact ⟨_,by assumption⟩
  · cases hs
end Go.Aw
namespace Go.Aw
section
variable {P:Prg} {ops:Array Oper} {sl:List SOp}
theorem getT_set_ne {t:List V} {d n:Nat} {v:V} (h:d≠n):getT (setT t d v) n=getT t n:=by
  rw [getT_eq,getT_eq,setT_eq,List.getD_eq_getElem?_getD,List.getD_eq_getElem?_getD,List.getElem?_set_ne h]
theorem memN_of {n:Nat}:∀ {l:List Nat},n∈l→memN n l=true
  | x::xs,h=>by
    rcases List.mem_cons.1 h with rfl|h
    · simp [memN]
    · simp [memN,memN_of h]
theorem agree_put {t:List V} {d:Option Nat} {v:V} {l:List Nat} (h:notIn d l=true):agree (putT t d v) t l:=by
  intro n hn
  cases d with
  | none=>rfl
  | some d =>
    refine getT_set_ne fun e=>?_
    subst e
    simp [notIn,memN_of hn] at h
theorem putT_comm {t:List V} {d e:Option Nat} {u v:V} (h:neD d e=true):putT (putT t d v) e u=putT (putT t e u) d v:=by
  cases d with
  | none=>cases e <;> rfl
  | some d =>
    cases e with
    | none=>rfl
    | some e =>
      have:d≠e:=fun he=>by subst he;simp [neD] at h
      simp only [putT,setT_eq]
      exact List.set_comm _ _ this
def aAny (P:Prg) (ops:Array Oper) (sl:List SOp) (Q:List V→List Blk→Prop):Nat→Array Bool→List V→List Blk→Prop
  | 0,l,t,h=>Region.ready .any ops l=[]∧Q t h
  | n+1,l,t,h=>(Region.ready .any ops l=[]→Q t h)∧∀ i∈Region.ready .any ops l,∃ o,sl[i]?=some o∧aOpV P o t h fun v h'=>aAny P ops sl Q n (l.setIfInBounds i true) (putT t o.d v) h'
def Yv (P:Prg) (o:SOp) (t:List V) (h:List Blk) (v:V):Prop :=
  (o.o.kind=0∧∀ (h':List Blk) (F':V→List Blk→Prop),F' v h'→aOpV P o t h' F')∨(o.o.kind=1∧∀ F':V→List Blk→Prop,F' v h→aOpV P o t h F')
theorem Yv.use {o:SOp} {t:List V} {h:List Blk} {v:V} (y:Yv P o t h v) {F:V→List Blk→Prop} (hf:F v h):aOpV P o t h F:=by
  rcases y with ⟨_,y⟩|⟨_,y⟩
  · exact y _ _ hf
  · exact y _ hf
theorem Yv.congr {o:SOp} {t t':List V} {h:List Blk} {v:V} (y:Yv P o t h v) (ha:agree t' t o.reads):Yv P o t' h v:=by
  rcases y with ⟨k,y⟩|⟨k,y⟩
  · exact .inl ⟨k,fun h' F' hf=>(aOpV_congr ha).2 (y _ _ hf)⟩
  · exact .inr ⟨k,fun F' hf=>(aOpV_congr ha).2 (y _ hf)⟩
def subA (l S:Array Bool):Prop:=S.size=l.size∧∀ j,l.getD j false=true→S.getD j false=true
theorem getD_lt {l:Array Bool} {j:Nat} {d:Bool} (h:j < l.size):l.getD j d=l[j]:=by simp [h]
theorem getD_le {l:Array Bool} {j:Nat} {d:Bool} (h:l.size≤j):l.getD j d=d:=by simp [h]
theorem ready_sub {l S:Array Bool} {i j:Nat} (hs:subA l S) (hj:j∈Region.ready .any ops l) (hr:∀ k∈Region.ready .any ops S,k=i) (hne:j≠i):S.getD j true=true:=by
  cases hS:S.getD j true with
  | true=>rfl
  | false =>
    refine absurd (hr j (mem_ready.2 ⟨hS,?_⟩)) hne
    obtain ⟨_,o,ho,hall⟩:=mem_ready.1 hj
    exact ⟨o,ho,fun e he hb=>hs.2 _ (hall e he hb)⟩
theorem aAny_first {Q:List V→List Blk→Prop} {i:Nat} {oi:SOp} {v:V} {S:Array Bool} (hi:sl[i]?=some oi) (hr:∀ k∈Region.ready .any ops S,k=i)
    : ∀ (n:Nat) (l:Array Bool) (t:List V) (h:List Blk),(∀ (j:Nat),j < ops.size→j≠i→l.getD j true=false→S.getD j true=true→∃ oj,sl[j]?=some oj∧goodS oi oj=true)→subA l S →
      i∈Region.ready .any ops l→Yv P oi t h v→aAny P ops sl Q n (l.setIfInBounds i true) (putT t oi.d v) h→aAny P ops sl Q (n+1) l t h:=by
  intro n
  induction n with
  | zero =>
    intro l t h hg hs hil y H
    refine ⟨fun h0=>(by rw [h0] at hil;cases hil),fun j hj=>?_⟩
    by_cases hji:j=i
    · subst hji;exact ⟨oi,hi,y.use H⟩
    · have:=ready_mono hj hji
      rw [H.1] at this
      cases this
  | succ n ih =>
    intro l t h hg hs hil y H
    refine ⟨fun h0=>(by rw [h0] at hil;cases hil),fun j hj=>?_⟩
    by_cases hji:j=i
    · subst hji;exact ⟨oi,hi,y.use H⟩
    · obtain ⟨oj,hoj,h1⟩:=H.2 j (ready_mono hj hji)
      have hun:=(mem_ready.1 hj).1
      have hSj:=ready_sub hs hj hr hji
      obtain ⟨oj',hoj',hgood⟩:=hg j (mem_ready.1 hj |>.2.elim fun o ho=>(Array.getElem?_eq_some_iff.1 ho.1).1) hji hun hSj
      rw [hoj] at hoj';cases hoj'
      simp only [goodS,Bool.and_eq_true,Bool.or_eq_true] at hgood
      obtain ⟨hk,⟨hd1,hd2⟩,hd3⟩:=hgood
      have hk:oi.o.kind=0∨oi.o.kind=1∧(oj.o.kind≤1∨lkMpe oi.o oj.o=true∨stab oi.o oj.o=true):=by
        rcases hk with hk|hk|hk
        · exact .inl (Nat.eq_of_beq_eq_true hk)
        · exact .inr ⟨Nat.eq_of_beq_eq_true hk.1,hk.2.imp (fun h=>Nat.le_of_ble_eq_true h) id⟩
        · have h3:=Nat.eq_of_beq_eq_true hk.1
          rcases y with ⟨h0,_⟩|⟨h0,_⟩ <;> omega
      refine ⟨oj,hoj,?_⟩
      rw [aOpV_congr (agree_put hd1)] at h1
      have hjl:j < l.size:=by
        rcases Nat.lt_or_ge j l.size with h|h
        · exact h
        · rw [getD_le h] at hun;cases hun
      have hg':∀ (k:Nat),k < ops.size→k≠i→(l.setIfInBounds j true).getD k true=false→S.getD k true=true→∃ ok,sl[k]?=some ok∧goodS oi ok=true:=fun k hkl hk hu hS=>by
        refine hg k hkl hk ?_ hS
        by_cases hjk:j=k
        · subst hjk;exact hun
        · rw [getD_set_ne true hjk] at hu;exact hu
      have hs':subA (l.setIfInBounds j true) S:=by
        refine ⟨by rw [hs.1];simp,fun k hk=>?_⟩
        by_cases hjk:j=k
        · subst hjk
          have:j < S.size:=by rw [hs.1];exact hjl
          rw [getD_lt this] at hSj ⊢
          exact hSj
        · rw [getD_set_ne false hjk] at hk;exact hs.2 _ hk
      have hil':=ready_mono hil (Ne.symm hji)
      rcases y with ⟨hk0,y⟩|⟨hk1,y⟩
      · refine aOpV_mono (fun u h' hu=>?_) h1
        refine ih _ _ h' hg' hs' hil' (.inl ⟨hk0,fun h'' F' hf=>(aOpV_congr (agree_put hd3)).2 (y _ _ hf)⟩) ?_
        rw [Array.setIfInBounds_comm _ _ hji,← putT_comm hd2]
        exact hu
      · by_cases hlm:lkMpe oi.o oj.o=true
        · obtain ⟨kk,z,x1,k1,m1,k2,e1,e2⟩:=lkMpe_ok hlm
          obtain ⟨u,h',hu,hst,hu2⟩:∃ u h',aAny P ops sl Q n ((l.setIfInBounds i true).setIfInBounds j true) (putT (putT t oi.d v) oj.d u) h'∧(h'=h∨Sure kk z h h')∧∀ F':V→List Blk→Prop,F' u h'→aOpV P oj t h F':=by
            unfold aOpV at h1 ⊢
            rw [e2] at h1 ⊢
            split
            · rename_i hgd;rw [hgd] at h1
              obtain ⟨u,h',q1,q2,q3⟩:=opP_mpe h1
              exact ⟨u,h',q1,.inr q2,q3⟩
            · rename_i gi gb hgd;rw [hgd] at h1;simp only at h1 ⊢
              split
              · rename_i c hc;rw [hc] at h1;simp only at h1
                split
                · rename_i hb;rw [if_pos hb] at h1
                  obtain ⟨u,h',q1,q2,q3⟩:=opP_mpe h1
                  exact ⟨u,h',q1,.inr q2,q3⟩
                · rename_i hb;rw [if_neg hb] at h1
                  exact ⟨_,_,h1,.inl rfl,fun F' k=>k⟩
              · rename_i hc;rw [hc] at h1;exact ⟨_,_,h1,.inl rfl,fun F' k=>k⟩
              · rename_i q1 q2
                split at h1
                · rename_i hc;exact absurd hc (q1 _)
                · rename_i hc;exact absurd hc q2
                · exact h1.elim
          refine hu2 _ ?_
          have y':∀ F':V→List Blk→Prop,F' v h'→aOpV P oi t h' F':=by
            rcases hst with rfl|hst
            · exact y
            · have y0:=y (fun u _=>u=v) rfl
              intro F' hf
              unfold aOpV at y0 ⊢
              rw [e1] at y0 ⊢
              split
              · rename_i hgd;rw [hgd] at y0;exact opP_lku hst y0 hf
              · rename_i gi gb hgd;rw [hgd] at y0;simp only at y0 ⊢
                split
                · rename_i c hc;rw [hc] at y0;simp only at y0
                  split
                  · rename_i hb;rw [if_pos hb] at y0;exact opP_lku hst y0 hf
                  · rename_i hb;rw [if_neg hb] at y0;rw [y0];exact hf
                · rename_i hc;rw [hc] at y0;simp only at y0;rw [y0];exact hf
                · rename_i q1 q2
                  split at y0
                  · rename_i hc;exact absurd hc (q1 _)
                  · rename_i hc;exact absurd hc q2
                  · exact y0.elim
          refine ih _ _ h' hg' hs' hil' (.inr ⟨hk1,fun F' hf=>(aOpV_congr (agree_put hd3)).2 (y' _ hf)⟩) ?_
          rw [Array.setIfInBounds_comm _ _ hji,← putT_comm hd2]
          exact hu
        by_cases hsb:stab oi.o oj.o=true
        · obtain ⟨m,hm⟩:=stab_keeps hsb
          have h2:aOpV P oj t h fun u h'=>aAny P ops sl Q n ((l.setIfInBounds i true).setIfInBounds j true) (putT (putT t oi.d v) oj.d u) h'∧Kept m h h':=by
            unfold aOpV at h1 ⊢
            split
            · rename_i hgd;rw [hgd] at h1;exact opP_keeps hm h1
            · rename_i gi gb hgd;rw [hgd] at h1;simp only at h1 ⊢
              split
              · rename_i c hc;rw [hc] at h1;simp only at h1
                split
                · rename_i hb;rw [if_pos hb] at h1;exact opP_keeps hm h1
                · rename_i hb;rw [if_neg hb] at h1;exact ⟨h1,.refl⟩
              · rename_i hc;rw [hc] at h1;exact ⟨h1,.refl⟩
              · rename_i q1 q2
                split at h1
                · rename_i hc;exact absurd hc (q1 _)
                · rename_i hc;exact absurd hc q2
                · exact h1.elim
          refine aOpV_mono (fun u h' hu=>?_) h2
          obtain ⟨hu,hkp⟩:=hu
          have y':∀ F':V→List Blk→Prop,F' v h'→aOpV P oi t h' F':=by
            have y0:=y (fun u _=>u=v) rfl
            intro F' hf
            unfold aOpV at y0 ⊢
            split
            · rename_i hgd;rw [hgd] at y0;exact opP_stab hsb hm hkp y0 hf
            · rename_i gi gb hgd;rw [hgd] at y0;simp only at y0 ⊢
              split
              · rename_i c hc;rw [hc] at y0;simp only at y0
                split
                · rename_i hb;rw [if_pos hb] at y0;exact opP_stab hsb hm hkp y0 hf
                · rename_i hb;rw [if_neg hb] at y0;rw [y0];exact hf
              · rename_i hc;rw [hc] at y0;simp only at y0;rw [y0];exact hf
              · rename_i q1 q2
                split at y0
                · rename_i hc;exact absurd hc (q1 _)
                · rename_i hc;exact absurd hc q2
                · exact y0.elim
          refine ih _ _ h' hg' hs' hil' (.inr ⟨hk1,fun F' hf=>(aOpV_congr (agree_put hd3)).2 (y' _ hf)⟩) ?_
          rw [Array.setIfInBounds_comm _ _ hji,← putT_comm hd2]
          exact hu
        have hk2:oj.o.kind≤1:=by
          rcases hk with hk|⟨_,hk|hk|hk⟩
          · omega
          · exact hk
          · exact absurd hk hlm
          · exact absurd hk hsb
        obtain ⟨u,hu,hu2⟩:=aOpV_quiet hk2 h1
        refine hu2 _ ?_
        refine ih _ _ h hg' hs' hil' (.inr ⟨hk1,fun F' hf=>(aOpV_congr (agree_put hd3)).2 (y _ hf)⟩) ?_
        rw [Array.setIfInBounds_comm _ _ hji,← putT_comm hd2]
        exact hu
theorem setB_len {h:List Blk} {b:Nat} {B:Blk}:(setB h b B).length=h.length:=by rw [setB_eq];simp
theorem getB_ne {h:List Blk} {b c:Nat} {B:Blk} (hn:b≠c):getB (setB h b B) c=getB h c:=by rw [setB_eq,getB_eq,getB_eq,List.getElem?_set_ne hn]
theorem setB_comm {h:List Blk} {b c:Nat} {B C:Blk} (hn:b≠c):setB (setB h b B) c C=setB (setB h c C) b B:=by
  simp only [setB_eq];exact List.set_comm _ _ hn
theorem aAny_fill {Q:List V→List Blk→Prop} {i e m:Nat} {oi:SOp} {v:V} {B:Blk} {S:Array Bool} (hi:sl[i]?=some oi) (hk3:oi.o.kind=3) (hgn:oi.g=none) (hso:slotOf oi.o=some e) (hr:∀ k∈Region.ready .any ops S,k=i)
    : ∀ (n:Nat) (l:Array Bool) (t:List V) (h:List Blk),(∀ (j:Nat),j < ops.size→j≠i→l.getD j true=false→S.getD j true=true→∃ oj,sl[j]?=some oj∧goodS oi oj=true)→subA l S →
      i∈Region.ready .any ops l→e < h.length→getB h (h.length-1-e)=some (.arr 0 m []) →
      (∀ h':List Blk,h'.length=h.length→getB h' (h.length-1-e)=some (.arr 0 m [])→∀ K':V→List Blk→Prop,K' v (setB h' (h.length-1-e) B)→opP P t oi.o h' K') →
      aAny P ops sl Q n (l.setIfInBounds i true) (putT t oi.d v) (setB h (h.length-1-e) B)→aAny P ops sl Q (n+1) l t h:=by
  intro n
  have use:∀ (t:List V) (h:List Blk) (F:V→List Blk→Prop),opP P t oi.o h F→aOpV P oi t h F:=fun t h F hf=>by unfold aOpV;rw [hgn];exact hf
  induction n with
  | zero =>
    intro l t h hg hs hil he hb y H
    refine ⟨fun h0=>(by rw [h0] at hil;cases hil),fun j hj=>?_⟩
    by_cases hji:j=i
    · subst hji;exact ⟨oi,hi,use _ _ _ (y h rfl hb _ H)⟩
    · have:=ready_mono hj hji
      rw [H.1] at this
      cases this
  | succ n ih =>
    intro l t h hg hs hil he hb y H
    refine ⟨fun h0=>(by rw [h0] at hil;cases hil),fun j hj=>?_⟩
    by_cases hji:j=i
    · subst hji;exact ⟨oi,hi,use _ _ _ (y h rfl hb _ H)⟩
    · obtain ⟨oj,hoj,h1⟩:=H.2 j (ready_mono hj hji)
      have hun:=(mem_ready.1 hj).1
      have hSj:=ready_sub hs hj hr hji
      obtain ⟨oj',hoj',hgood⟩:=hg j (mem_ready.1 hj |>.2.elim fun o ho=>(Array.getElem?_eq_some_iff.1 ho.1).1) hji hun hSj
      rw [hoj] at hoj';cases hoj'
      simp only [goodS,Bool.and_eq_true,Bool.or_eq_true] at hgood
      obtain ⟨hk,⟨hd1,hd2⟩,hd3⟩:=hgood
      have hk:oj.o.kind=0∨(slotsNe oi.o oj.o=true∧oj.g=none):=by
        rcases hk with hk|hk|hk
        · have:=Nat.eq_of_beq_eq_true hk;omega
        · have:=Nat.eq_of_beq_eq_true hk.1;omega
        · rcases hk.2 with h2|⟨h2,h4⟩
          · exact .inl (Nat.eq_of_beq_eq_true h2)
          · refine .inr ⟨h2,?_⟩
            unfold SOp.gNo at h4
            cases hgj:oj.g with
            | none=>rfl
            | some _=>rw [hgj] at h4;cases h4
      refine ⟨oj,hoj,?_⟩
      rw [aOpV_congr (agree_put hd1)] at h1
      have hjl:j < l.size:=by
        rcases Nat.lt_or_ge j l.size with h|h
        · exact h
        · rw [getD_le h] at hun;cases hun
      have hg':∀ (k:Nat),k < ops.size→k≠i→(l.setIfInBounds j true).getD k true=false→S.getD k true=true→∃ ok,sl[k]?=some ok∧goodS oi ok=true:=fun k hkl hk hu hS=>by
        refine hg k hkl hk ?_ hS
        by_cases hjk:j=k
        · subst hjk;exact hun
        · rw [getD_set_ne true hjk] at hu;exact hu
      have hs':subA (l.setIfInBounds j true) S:=by
        refine ⟨by rw [hs.1];simp,fun k hk=>?_⟩
        by_cases hjk:j=k
        · subst hjk
          have:j < S.size:=by rw [hs.1];exact hjl
          rw [getD_lt this] at hSj ⊢
          exact hSj
        · rw [getD_set_ne false hjk] at hk;exact hs.2 _ hk
      have hil':=ready_mono hil (Ne.symm hji)
      have hcg:∀ (u:V) (h':List Blk) (F:V→List Blk→Prop),opP P t oi.o h' F→opP P (putT t oj.d u) oi.o h' F:=fun u h' F hf=>by
        refine (opP_congr (agree_put ?_)).2 hf
        have:oi.reads=oi.o.temps:=by unfold SOp.reads;rw [hgn]
        rw [← this];exact hd3
      rcases hk with hk0|⟨hne,hgj⟩
      · obtain ⟨u,hu,hu2⟩:=aOpV_pure hk0 h1
        refine hu2 h _ ?_
        refine ih _ _ h hg' hs' hil' he hb (fun h' e1 e2 K' k=>hcg _ _ _ (y h' e1 e2 K' k)) ?_
        rw [Array.setIfInBounds_comm _ _ hji,← putT_comm hd2]
        exact hu
      · have h1:opP P t oj.o (setB h (h.length-1-e) B) fun u h'=>aAny P ops sl Q n ((l.setIfInBounds i true).setIfInBounds j true) (putT (putT t oi.d v) oj.d u) h':=by
          unfold aOpV at h1;rw [hgj] at h1;exact h1
        unfold slotsNe at hne
        rw [hso] at hne
        have hk3j:oj.o.kind=3:=by
          generalize oj.o=so at hne ⊢
          cases so <;> first|rfl|(simp [slotOf] at hne)
        obtain ⟨e',m',u,B',s1,s2,s3,s4,s5⟩:=opP_fill hk3j h1
        rw [s1] at hne
        simp only [Bool.not_eq_true'] at hne
        have hee:e≠e':=fun c=>by rw [c,Nat.beq_refl] at hne;cases hne
        rw [setB_len] at s2 s3 s4 s5
        have hbb:h.length-1-e≠h.length-1-e':=by omega
        rw [getB_ne hbb] at s3
        have go:=s5 h rfl s3 (fun u h'=>aAny P ops sl Q (n+1) (l.setIfInBounds j true) (putT t oj.d u) h') (by
          refine ih _ _ _ hg' hs' hil' (by rw [setB_len];exact he) (by rw [setB_len,getB_ne (Ne.symm hbb)];exact hb) (fun h' e1 e2 K' k=>?_) ?_
          · rw [setB_len] at e1 e2 k
            exact hcg _ _ _ (y h' e1 e2 K' k)
          · rw [setB_len,Array.setIfInBounds_comm _ _ hji,← putT_comm hd2,setB_comm (Ne.symm hbb)]
            exact s4)
        unfold aOpV;rw [hgj];exact go
theorem AX_cons {o:SOp} {r:List SOp} {Q:List V→List Blk→Prop} {t:List V} {h:List Blk} (hx:AX P (o::r) Q t h):aOpV P o t h fun v h'=>AX P r Q (putT t o.d v) h':=by
  unfold aOpV
  rw [AX_c] at hx;unfold AXc at hx
  split
  · rename_i hg;rw [hg] at hx;simp only [forceV_eq,forceH_eq,forceT_eq] at hx;exact hx
  · rename_i i b hg;rw [hg] at hx;simp only at hx
    split
    · rename_i c hc;rw [hc] at hx;simp only at hx
      have know:∀ c',getT t i=.g (.b c')→setT t i (.g (.b c'))=t:=fun c' e=>by
        rw [setT_eq];rw [getT_eq] at e
        refine List.ext_getElem? fun k=>?_
        by_cases hk:i=k
        · subst hk
          rcases Nat.lt_or_ge i t.length with hl|hl
          · simp [hl] at e ⊢;exact e.symm
          · rw [List.getElem?_eq_none hl,List.getElem?_eq_none (by simpa using hl)]
        · rw [List.getElem?_set_ne hk]
      cases c with
      | true =>
        simp only [Br,forceT_eq] at hx
        rw [know true hc] at hx
        cases b <;> simp only [forceV_eq,forceH_eq] at hx <;> simpa using hx
      | false =>
        simp only [Br,forceT_eq] at hx
        rw [know false hc] at hx
        cases b <;> simp only [forceV_eq,forceH_eq] at hx <;> simpa using hx
    · rename_i hc;rw [hc] at hx;simp only [forceT_eq] at hx;exact hx
    · rename_i h1 h2
      split at hx
      · rename_i hc;exact absurd hc (h1 _)
      · rename_i hc;exact absurd hc h2
      · exact hx.elim
theorem bt_eq (m i:Nat):bt m i=m.testBit i:=by
  unfold bt Nat.testBit
  have h:Nat.land (Nat.shiftRight m i) 1=1 &&& (m >>> i):=Nat.and_comm _ _
  rw [h]
  have h2:=Nat.and_le_left (n:=1) (m:=m >>> i)
  generalize 1 &&& (m >>> i)=x at h2
  match x,h2 with
  | 0,_=>rfl
  | 1,_=>rfl
theorem bs_get (m i j:Nat):bt (bs m i) j=(bt m j || decide (i=j)):=by
  rw [bt_eq,bt_eq]
  show (m ||| (1 <<< i)).testBit j=_
  rw [Nat.testBit_or,Nat.testBit_shiftLeft]
  by_cases h:i=j
  · subst h;simp
  · rcases Nat.lt_or_ge j i with h1|h1
    · simp [h];omega
    · have:(1:Nat).testBit (j-i)=false:=by
        rw [show j-i=(j-i-1)+1 from by omega,Nat.testBit_succ];simp
      simp [this,h]
def arrM (n m:Nat):Array Bool:=((List.range n).map (bt m)).toArray
theorem arrM_size {n m:Nat}:(arrM n m).size=n:=by simp [arrM]
theorem arrM_get {n m j:Nat} {d:Bool}:(arrM n m).getD j d=if j < n then bt m j else d:=by
  unfold arrM
  rw [Array.getD_eq_getD_getElem?]
  simp only [List.getElem?_toArray,List.getElem?_map]
  split
  · rename_i h;simp [h]
  · rename_i h;rw [List.getElem?_eq_none (by simp;omega)];rfl
theorem arrM_set {n m i:Nat} (_:i < n):(arrM n m).setIfInBounds i true=arrM n (bs m i):=by
  apply Array.ext
  · simp [arrM]
  · intro j h1 h2
    have hj:j < n:=by simpa [arrM] using h2
    rw [Array.getElem_setIfInBounds]
    · simp only [arrM,List.getElem_toArray,List.getElem_map,List.getElem_range]
      rw [bs_get]
      by_cases h:i=j
      · simp [h]
      · simp [h]
    · simpa [arrM] using hj
theorem arrM_zero {n:Nat}:arrM n 0=Array.replicate n false:=by
  apply Array.ext
  · simp [arrM]
  · intro j h1 h2
    simp [arrM,bt_eq]
theorem allE_iff {m:Nat}:∀ {es:List Edge},allE m es=true↔∀ e∈es,Region.binds .any e=true→bt m e.on=true
  | []=>by simp [allE]
  | e::r=>by
    rw [allE,Bool.and_eq_true,allE_iff]
    simp only [List.mem_cons,forall_eq_or_imp,Bool.or_eq_true,Bool.not_eq_true']
    constructor
    · rintro ⟨h,k⟩;exact ⟨fun hb=>by rcases h with h|h;rw [hb] at h;cases h;exact h,k⟩
    · rintro ⟨h,k⟩
      refine ⟨?_,k⟩
      cases hb:Region.binds .any e with
      | true=>exact .inr (h hb)
      | false=>exact .inl rfl
theorem ready_iff {m j:Nat}:j∈Region.ready .any ops (arrM ops.size m)↔bt m j=false∧∃ o,ops[j]?=some o∧∀ e∈o.after,Region.binds .any e=true→e.on < ops.size∧bt m e.on=true:=by
  rw [mem_ready]
  constructor
  · rintro ⟨h1,o,ho,h2⟩
    have hj:=(Array.getElem?_eq_some_iff.1 ho).1
    rw [arrM_get,if_pos hj] at h1
    refine ⟨h1,o,ho,fun e he hb=>?_⟩
    have:=h2 e he hb
    rw [arrM_get] at this
    split at this
    · rename_i hl;exact ⟨hl,this⟩
    · cases this
  · rintro ⟨h1,o,ho,h2⟩
    have hj:=(Array.getElem?_eq_some_iff.1 ho).1
    refine ⟨by rw [arrM_get,if_pos hj];exact h1,o,ho,fun e he hb=>?_⟩
    rw [arrM_get,if_pos (h2 e he hb).1];exact (h2 e he hb).2
theorem ready_all {m j:Nat} (h:j∈Region.ready .any ops (arrM ops.size m)):bt m j=false∧∃ o,ops[j]?=some o∧allE m o.after.toList=true:=by
  obtain ⟨h1,o,ho,h2⟩:=ready_iff.1 h
  exact ⟨h1,o,ho,allE_iff.2 fun e he hb=>(h2 e (by simpa using he) hb).2⟩
theorem onlyM_ok {m i:Nat}:∀ {l:List Oper} {j:Nat},onlyM m i l j=true→∀ (k:Nat) (o:Oper),l[k]?=some o→bt m (j+k)=true∨j+k=i∨allE m o.after.toList=false
  | [],_,_,k,o,h=>by simp at h
  | p::r,j,h,k,o,hk=>by
    simp only [onlyM,Bool.and_eq_true,Bool.or_eq_true,Bool.not_eq_true'] at h
    cases k with
    | zero =>
      simp at hk;subst hk
      rcases h.1 with (h|h)|h
      · exact .inl h
      · exact .inr (.inl (Nat.eq_of_beq_eq_true h))
      · exact .inr (.inr h)
    | succ k =>
      have:=onlyM_ok h.2 k o (by simpa using hk)
      rwa [show j+1+k=j+(k+1) from by omega] at this
theorem only_ready {m i:Nat} (h:onlyM m i ops.toList 0=true):∀ k∈Region.ready .any ops (arrM ops.size m),k=i:=by
  intro k hk
  obtain ⟨h1,o,ho,h2⟩:=ready_all hk
  rcases onlyM_ok h k o (by simpa using ho) with h3|h3|h3
  · rw [Nat.zero_add,h1] at h3;cases h3
  · omega
  · rw [h2] at h3;cases h3
theorem noneM_ok {m:Nat}:∀ {l:List Oper} {j:Nat},noneM m l j=true→∀ (k:Nat) (o:Oper),l[k]?=some o→bt m (j+k)=true∨allE m o.after.toList=false
  | [],_,_,k,o,h=>by simp at h
  | p::r,j,h,k,o,hk=>by
    simp only [noneM,Bool.and_eq_true,Bool.or_eq_true,Bool.not_eq_true'] at h
    cases k with
    | zero=>simp at hk;subst hk;exact h.1
    | succ k =>
      have:=noneM_ok h.2 k o (by simpa using hk)
      rwa [show j+1+k=j+(k+1) from by omega] at this
theorem none_ready {m:Nat} (h:noneM m ops.toList 0=true):Region.ready .any ops (arrM ops.size m)=[]:=by
  refine List.eq_nil_iff_forall_not_mem.2 fun k hk=>?_
  obtain ⟨h1,o,ho,h2⟩:=ready_all hk
  rcases noneM_ok h k o (by simpa using ho) with h3|h3
  · rw [Nat.zero_add,h1] at h3;cases h3
  · rw [h2] at h3;cases h3
theorem goodM_ok {o:SOp} {i m S:Nat}:∀ {l:List SOp} {j:Nat},goodM o i m S l j=true→∀ (k:Nat) (p:SOp),l[k]?=some p→j+k=i∨bt m (j+k)=true∨bt S (j+k)=false∨goodS o p=true
  | [],_,_,k,o,h=>by simp at h
  | p::r,j,h,k,q,hk=>by
    simp only [goodM,Bool.and_eq_true,Bool.or_eq_true,Bool.not_eq_true'] at h
    cases k with
    | zero =>
      simp at hk;subst hk
      rcases h.1 with ((h|h)|h)|h
      · exact .inl (Nat.eq_of_beq_eq_true h)
      · exact .inr (.inl h)
      · exact .inr (.inr (.inl h))
      · exact .inr (.inr (.inr h))
    | succ k =>
      have:=goodM_ok h.2 k q (by simpa using hk)
      rwa [show j+1+k=j+(k+1) from by omega] at this
theorem pick_any {Q:List V→List Blk→Prop} (hsl:sl.length=ops.size) (hin:∀ (j:Nat) (o:Oper),ops[j]?=some o→∀ e∈o.after,Region.binds .any e=true→e.on < ops.size):∀ (n:Nat) (ord:List Nat) (m:Nat) (t:List V) (h:List Blk) (os:List SOp),pickM ops.toList sl n m=some ord→optL (ord.map fun i=>sl[i]?)=some os →
    AX P os Q t h→aAny P ops sl Q n (arrM ops.size m) t h:=by
  intro n
  induction n with
  | zero =>
    intro ord m t h os hp hs hx
    simp only [pickM] at hp
    split at hp
    case isFalse=>cases hp
    rename_i hn
    cases hp
    simp [optL] at hs
    subst hs
    exact ⟨none_ready hn,hx⟩
  | succ n ih =>
    intro ord m t h os hp hs hx
    simp only [pickM] at hp
    split at hp
    case h_2=>cases hp
    rename_i i hf
    obtain ⟨r,hpr,rfl⟩:=Option.map_eq_some_iff.1 hp
    have hf2:=List.find?_some hf
    have hil:i < ops.size:=by have:=List.mem_of_find?_eq_some hf;simpa using this
    simp only [Bool.and_eq_true,Bool.not_eq_true'] at hf2
    obtain ⟨hbi,ht⟩:=hf2
    have hs':=optL_some hs
    obtain ⟨o,os',rfl⟩:∃ o os',os=o::os':=by
      cases os with
      | nil=>simp at hs'
      | cons o os'=>exact ⟨o,os',rfl⟩
    simp only [List.map_cons,List.cons.injEq] at hs'
    obtain ⟨hi,hs'⟩:=hs'
    have hs'':optL (r.map fun i=>sl[i]?)=some os':=by rw [hs'];simp
    have hx:=AX_cons hx
    obtain ⟨p,hpi⟩:∃ p,ops[i]?=some p:=⟨ops[i],by simp [hil]⟩
    have hpi':ops.toList[i]?=some p:=by simpa using hpi
    simp only [takeM,hi,hpi',Bool.and_eq_true,Bool.not_eq_true'] at ht
    obtain ⟨⟨_,hall⟩,ht⟩:=ht
    have hready:i∈Region.ready .any ops (arrM ops.size m):=by
      rw [ready_iff]
      exact ⟨hbi,p,hpi,fun e he hb=>⟨hin i p hpi e he hb,allE_iff.1 hall e (by simpa using he) hb⟩⟩
    split at ht
    · have hr:=only_ready ht
      refine ⟨fun h0=>(by rw [h0] at hready;cases hready),fun j hj=>?_⟩
      have:=hr j hj;subst this
      exact ⟨o,hi,aOpV_mono (fun v h' k=>by rw [arrM_set hil];exact ih _ _ _ _ _ hpr hs'' k) hx⟩
    · rename_i hk
      simp only [Bool.and_eq_true,Bool.or_eq_true,Bool.not_eq_true'] at ht
      obtain ⟨hgno,⟨h2,h3⟩,h5⟩:=ht
      have hk2:o.o.kind≠2:=fun e=>hk (by simp [e])
      have hgoods:∀ (j:Nat),j < ops.size→j≠i→(arrM ops.size m).getD j true=false→(arrM ops.size (satM i ops.toList 0 m)).getD j true=true→∃ oj,sl[j]?=some oj∧goodS o oj=true:=fun j hjl hji hun hS=>by
        rw [arrM_get,if_pos hjl] at hun hS
        have hjs:j < sl.length:=by omega
        rcases goodM_ok h5 j sl[j] (by simp [hjs]) with h|h|h|h
        · omega
        · rw [Nat.zero_add,hun] at h;cases h
        · rw [Nat.zero_add,hS] at h;cases h
        · exact ⟨sl[j],by simp [hjs],h⟩
      have hsub:subA (arrM ops.size m) (arrM ops.size (satM i ops.toList 0 m)):=by
        refine ⟨by rw [arrM_size,arrM_size],fun j hj=>?_⟩
        rw [arrM_get] at hj ⊢
        split at hj
        · rename_i hjl
          rw [if_pos hjl]
          have h3:=Nat.eq_of_beq_eq_true h3
          rw [bt_eq] at hj ⊢
          have h3:m &&& satM i ops.toList 0 m=m:=h3
          rw [← h3,Nat.testBit_and,Bool.and_eq_true] at hj
          exact hj.2
        · cases hj
      by_cases hk3:o.o.kind=3
      · have hgn:o.g=none:=by
          rcases hgno with hg|hg
          · rw [hk3] at hg;cases hg
          · unfold SOp.gNo at hg
            cases hgo:o.g with
            | none=>rfl
            | some _=>rw [hgo] at hg;cases hg
        unfold aOpV at hx;rw [hgn] at hx
        obtain ⟨e,m',v,B,s1,s2,s3,s4,s5⟩:=opP_fill hk3 hx
        refine aAny_fill (S:=arrM ops.size (satM i ops.toList 0 m)) hi hk3 hgn s1 (only_ready h2) _ _ t h hgoods hsub hready s2 s3 s5 ?_
        rw [arrM_set hil];exact ih _ _ _ _ _ hpr hs'' s4
      obtain ⟨v,hv,hY⟩:∃ v,AX P os' Q (putT t o.d v) h∧Yv P o t h v:=by
        by_cases hk0:o.o.kind=0
        · obtain ⟨v,a,b⟩:=aOpV_pure hk0 hx
          exact ⟨v,a,.inl ⟨hk0,b⟩⟩
        · have h3':o.o.kind≤3:=by cases o.o <;> simp [SO.kind]
          obtain ⟨v,a,b⟩:=aOpV_quiet (by omega) hx
          exact ⟨v,a,.inr ⟨by omega,b⟩⟩
      refine aAny_first (S:=arrM ops.size (satM i ops.toList 0 m)) hi (only_ready h2) _ _ t h hgoods hsub hready hY ?_
      rw [arrM_set hil];exact ih _ _ _ _ _ hpr hs'' hv
theorem inE_ok (h:inE ops.size ops.toList=true):∀ (j:Nat) (o:Oper),ops[j]?=some o→∀ e∈o.after,Region.binds .any e=true→e.on < ops.size:=by
  have key:∀ {n:Nat} {l:List Oper},inE n l=true→∀ o∈l,∀ e∈o.after,e.on < n:=by
    intro n l
    induction l with
    | nil=>intro _ o ho;cases ho
    | cons p l ih =>
      intro h o ho e he
      simp only [inE,Bool.and_eq_true,List.all_eq_true] at h
      rcases List.mem_cons.1 ho with rfl|ho
      · have:=h.1 e (by simpa using he)
        have:=Nat.le_of_ble_eq_true this;omega
      · exact ih h.2 o ho e he
  exact fun j o ho e he _=>key h o (List.mem_of_getElem? (by simpa using ho:ops.toList[j]?=some o)) e he
end
end Go.Aw
namespace Go.Aw
section
variable {γ γ':List (Option Nat)} {h:List Blk} {I I':Nat→Prop} {w w':World} {b sz:Nat} {es:List V}
def fillG (γ':List (Option Nat)) (n b:Nat):List (Option Nat):=(γ'.take n).set b (γ'.getD n none)
theorem fillG_get {n c:Nat} (hl:γ'.length=n+1) (hb:b < n):(fillG γ' n b)[c]?=if c < n then (if b=c then γ'[n]? else γ'[c]?) else none:=by
  unfold fillG
  by_cases hc:c < n
  · rw [if_pos hc]
    by_cases e:b=c
    · subst e
      rw [if_pos rfl,List.getElem?_set_self (by simp;omega)]
      simp [List.getD_eq_getElem?_getD,hl]
    · rw [if_neg e,List.getElem?_set_ne e,List.getElem?_take_of_lt hc]
  · rw [if_neg hc];exact List.getElem?_eq_none (by simp;omega)
theorem rv_fill (hb:h[b]?=some (.arr 0 sz [])) (hl:γ'.length=h.length+1) {v:V} {x:Value} (hv:RV γ' (h++[.arr 0 sz es]) I' w' v x) (lt:v.lt h.length) :
    RV (fillG γ' h.length b) (h.set b (.arr 1 sz es)) I' w' v x:=by
  have hbl:=lt_of_get hb
  induction hv with
  | g h1=>exact .g h1
  | any=>exact .any
  | nil=>exact .nil
  | @own c g g' sz' off len cap es' a hc hg hle hk =>
    cases lt with
    | own hcl =>
    rw [List.getElem?_append_left hcl] at hc
    by_cases e:b=c
    · subst e
      rw [hb] at hc;cases hc
      refine .own (g':=1) (sz:=sz) (es:=es) (by simp [hbl]) (by omega) hle (fun e=>by omega)
    · refine .own (by rw [List.getElem?_set_ne e];exact hc) hg hle (fun e'=>?_)
      have:=hk e'
      rw [fillG_get hl hbl,if_pos hcl,if_neg e]
      exact this
  | @pa c g g' sz' i off es' a hc hg hk =>
    cases lt with
    | pa hcl =>
    rw [List.getElem?_append_left hcl] at hc
    by_cases e:b=c
    · subst e
      rw [hb] at hc;cases hc
      refine .pa (g':=1) (sz:=sz) (es:=es) (by simp [hbl]) (by omega) (fun e=>by omega)
    · refine .pa (by rw [List.getElem?_set_ne e];exact hc) hg (fun e'=>?_)
      have:=hk e'
      rw [fillG_get hl hbl,if_pos hcl,if_neg e]
      exact this
  | ra k o vs hi hI hw hc h1 hr=>exact .ra k o vs hi hI hw hc h1 hr
  | fn hl' _ ih=>cases lt with|fn hh=>exact .fn hl' (fun i t ht=>ih i t ht (hh i t ht))
  | ag hl' h1 _ ih=>cases lt with|ag hh=>exact .ag hl' h1 (fun i t ht=>ih i t ht (hh i t ht))
  | tu hl' _ ih=>cases lt with|tu hh=>exact .tu hl' (fun i t ht=>ih i t ht (hh i t ht))
  | @mp c k kvs hc hk =>
    cases lt with
    | mp hcl =>
    rw [List.getElem?_append_left hcl] at hc
    have e:b≠c:=fun e=>by subst e;rw [hb] at hc;cases hc
    exact .mp (by rw [List.getElem?_set_ne e];exact hc) (by rw [fillG_get hl hbl,if_pos hcl,if_neg e];exact hk)
theorem fill_ok (r:RelH γ I w h) (hb:h[b]?=some (.arr 0 sz [])) (hz:∀ (i:Nat) (v:V),(flatV es)[i]?=some v→v.lt 0) (r':RelH γ' I' w' (h++[.arr 0 sz es])) (e':Ext γ h I w γ' (h++[.arr 0 sz es]) I' w') :
    RelH (fillG γ' h.length b) I' w' (h.set b (.arr 1 sz es))∧Ext γ h I w (fillG γ' h.length b) (h.set b (.arr 1 sz es)) I' w':=by
  have hbl:=lt_of_get hb
  have hl:γ'.length=h.length+1:=by rw [r'.len];simp
  have hg:=fun c=>fillG_get (c:=c) hl hbl
  have old:∀ c k:Nat,(fillG γ' h.length b)[c]?=some (some k)→c < h.length∧γ'[if b=c then h.length else c]?=some (some k):=fun c k hc=>by
    rw [hg] at hc
    split at hc
    · rename_i hcl
      refine ⟨hcl,?_⟩
      split at hc <;> rename_i e
      · rw [if_pos e];exact hc
      · rw [if_neg e];exact hc
    · cases hc
  have hx:Ext γ h I w (fillG γ' h.length b) (h.set b (.arr 1 sz es)) I' w' :=
    ⟨e'.os,e'.tape,e'.output,e'.size,e'.sub,e'.sub',e'.frame,e'.rows,fun c x hc=>by
      by_cases e:b=c
      · subst e
        rw [hb] at hc;cases hc
        exact ⟨.arr 1 sz es,by simp [hbl],⟨by omega,rfl⟩,fun hs=>by simp [Blk.same] at hs⟩
      · obtain ⟨x',h1,h2,h3⟩:=e'.blk c x hc
        have hcl:=lt_of_get hc
        rw [List.getElem?_append_left hcl] at h1
        refine ⟨x',by rw [List.getElem?_set_ne e];exact h1,h2,fun hs=>?_⟩
        rw [hg,if_pos hcl,if_neg e]
        exact h3 hs,fun c k hc=>e'.new _ k (old c k hc).2⟩
  refine ⟨⟨by simp [fillG,hl],fun c g1 s1 e1 hc=>?_,fun c kvs hc=>?_,fun c c' k h1 h2=>?_,fun c k hc=>r'.off _ k (old c k hc).2,r'.imm⟩,hx⟩
  · by_cases e:b=c
    · subst e
      simp [hbl] at hc
      obtain ⟨rfl,rfl,rfl⟩:=hc
      rw [hg,if_pos hbl,if_pos rfl]
      rcases r'.arr h.length 0 sz es (by simp) with h1|⟨k,c',el,h1,h2,h3,h4,h5⟩
      · exact .inl h1
      · refine .inr ⟨k,c',el,h1,h2,h3,h4,fun i v hv=>?_⟩
        obtain ⟨x,x1,x2,x3⟩:=h5 i v hv
        exact ⟨x,x1,x2,x3.any_heap (hz i v hv)⟩
    · rw [List.getElem?_set_ne e] at hc
      have hcl:=lt_of_get hc
      rw [hg,if_pos hcl,if_neg e]
      rcases r'.arr c g1 s1 e1 (by rw [List.getElem?_append_left hcl];exact hc) with h1|⟨k,c',el,h1,h2,h3,h4,h5⟩
      · exact .inl h1
      · refine .inr ⟨k,c',el,h1,h2,h3,h4,fun i v hv=>?_⟩
        obtain ⟨x,x1,x2,x3⟩:=h5 i v hv
        exact ⟨x,x1,x2,rv_fill hb hl x3 (r.lt hc i v hv)⟩
  · have e:b≠c:=fun e=>by subst e;simp [hbl] at hc
    rw [List.getElem?_set_ne e] at hc
    have hcl:=lt_of_get hc
    obtain ⟨k,es',cl,h1,h2⟩:=r'.mp c kvs (by rw [List.getElem?_append_left hcl];exact hc)
    exact ⟨k,es',cl,by rw [hg,if_pos hcl,if_neg e];exact h1,h2⟩
  · obtain ⟨l1,h1⟩:=old c k h1
    obtain ⟨l2,h2⟩:=old c' k h2
    have:=r'.inj _ _ k h1 h2
    split at this <;> split at this <;> omega
theorem fill_own {n:Nat} {x:Value} (hb:h[b]?=some (.arr 0 sz [])) (hl:γ'.length=h.length+1) (hv:RV γ' (h++[.arr 0 sz es]) I' w' (.own h.length 0 0 n) x) :
    RV (fillG γ' h.length b) (h.set b (.arr 1 sz es)) I' w' (.own b 1 0 n) x:=by
  have hbl:=lt_of_get hb
  cases hv with
  | own hc hg hle hk =>
    simp at hc;obtain ⟨rfl,rfl,rfl⟩:=hc
    refine .own (g':=1) (sz:=sz) (es:=es) (by simp [hbl]) (Nat.le_refl _) hle (fun _=>?_)
    rw [fillG_get hl hbl,if_pos hbl,if_pos rfl]
    exact hk rfl
theorem fill_pa {x:Value} (hb:h[b]?=some (.arr 0 sz [])) (hl:γ'.length=h.length+1) (hv:RV γ' (h++[.arr 0 sz es]) I' w' (.pa h.length 0 0 0) x) :
    RV (fillG γ' h.length b) (h.set b (.arr 1 sz es)) I' w' (.pa b 1 0 0) x:=by
  have hbl:=lt_of_get hb
  cases hv with
  | pa hc hg hk =>
    simp at hc;obtain ⟨rfl,rfl,rfl⟩:=hc
    refine .pa (g':=1) (sz:=sz) (es:=es) (by simp [hbl]) (Nat.le_refl _) (fun _=>?_)
    rw [fillG_get hl hbl,if_pos hbl,if_pos rfl]
    exact hk rfl
end
end Go.Aw
