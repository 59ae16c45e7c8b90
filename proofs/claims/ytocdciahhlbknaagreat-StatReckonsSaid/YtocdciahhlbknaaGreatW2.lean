/- The abstract walk over the model (second third): operations are sound, loops; no condition. -/
import Derived.MapKept
import Derived.WideKeyRuns
import Derived.Laws.StructEq
import Derived.Scope
import Derived.Test.YtocdciahhlbknaaGreatW1
namespace Go.Aw
theorem flatV_map_g (es:List T):flatV (es.map .g)=(flatT es).map .g:=by
  induction es with
  | nil=>rfl
  | cons e es ih=>simp only [flatV,flatT,List.map_cons,List.flatMap_cons,List.map_append] at ih ⊢;rw [ih];rfl
theorem flatV_sub {es:List V} {sz off len:Nat} (hw:∀ e∈es,e.cells.length=sz) (hl:off+len≤es.length) (j:Nat) (v:V)
    (h:(flatV ((es.drop off).take len))[j]?=some v):(flatV es)[off*sz+j]?=some v:=by
  have hw':∀ e∈(es.drop off).take len,e.cells.length=sz:=fun e he=>hw e (List.mem_of_mem_drop (List.mem_of_mem_take he))
  have hj:=lt_of_get h
  rw [flatV_len hw'] at hj
  have hlen:((es.drop off).take len).length=len:=by simp;omega
  rw [hlen] at hj
  obtain ⟨s1,s2,s3⟩:=flat_split hj
  have hlt:off+j / sz < es.length:=by omega
  have hq:((es.drop off).take len)[j / sz]?=some es[off+j / sz]:=by
    rw [List.getElem?_take,if_pos s1,List.getElem?_drop];simp [hlt]
  rw [s3,flatV_get hw' _ _ hq _ s2] at h
  have:off*sz+j=(off+j / sz)*sz+j % sz:=by rw [Nat.add_mul];omega
  rw [this,flatV_get hw _ es[off+j / sz] (by simp [hlt]) _ s2];exact h
section
variable {γ:List (Option Nat)} {H:List Blk} {I:Nat→Prop} {w:World}
theorem firstCells_ok {P:Program} {k o n sz:Nat} {ys:List V} (h:Reads γ H I w k o (flatV ys)) (hw:∀ e∈ys,e.cells.length=sz) (hn:ys.length=n) (m cap:Nat) :
    ∃ xs,RCs γ H I w (flatV ys) xs∧(Builtin.firstCells sz n (.slice (some ⟨k,o,none⟩) m cap)).run P w=.ok xs.toArray w:=by
  obtain ⟨xs,h1,h2⟩:=h.vals
  refine ⟨xs,h1,?_⟩
  have hl:xs.length=n*sz:=by rw [h1.rv.1,flatV_len hw,hn]
  have:=run_loadCells (P:=P) (w:=w) (k:=k) (o:=o) xs 0 #[] (fun j x hj=>by rw [Nat.add_zero];exact h2 j x hj)
  simp [Builtin.firstCells,loadCells,← hl,this]
theorem firstCells_nil {P:Program} {sz:Nat} (a:Option Addr) (m cap:Nat):(Builtin.firstCells sz 0 (.slice a m cap)).run P w=.ok #[] w:=by
  cases a <;> simp [Builtin.firstCells,loadCells,loadCellsFrom]
theorem elems_ok {P:Program} (r:RelH γ I w H) {y:V} {Y:Value} {sy:Nat} {ys:List V} (hy:RV γ H I w y Y) (h:elems H y=some (sy,ys)) :
    (∃ a cap,Y=.slice a ys.length cap)∧(∀ e∈ys,e.cells.length=sy)∧∃ xs,RCs γ H I w (flatV ys) xs∧(Builtin.firstCells sy ys.length Y).run P w=.ok xs.toArray w:=by
  cases y with
  | g t =>
    cases t with
    | sl s es =>
      simp [elems] at h;obtain ⟨rfl,rfl⟩:=h
      cases hy with|g hy =>
      cases hy with
      | @sl _ _ a cap k o vs ha hw hl hc h1 hr =>
      have hw':∀ e∈es.map V.g,e.cells.length=s:=by
        intro e he;obtain ⟨t,ht,rfl⟩:=List.mem_map.1 he
        simp [V.cells,hw t ht]
      refine ⟨⟨a,cap,by simp⟩,hw',?_⟩
      by_cases hne:es=[]
      · subst hne;exact ⟨[],.nil,firstCells_nil ..⟩
      · obtain ⟨rfl,hI⟩:=ha hne
        refine firstCells_ok (k:=k) (o:=o) (fun j v hj=>?_) hw' rfl _ _
        rw [flatV_map_g,List.getElem?_map] at hj
        cases ht:(flatT es)[j]? with
        | none=>rw [ht] at hj;simp at hj
        | some t=>rw [ht] at hj;simp at hj;subst hj;exact ⟨_,hc j t ht,h1 j t ht,.g (hr j t ht)⟩
    | _=>simp [elems] at h
  | nil s =>
    simp [elems] at h;obtain ⟨rfl,rfl⟩:=h
    cases hy
    exact ⟨⟨none,0,rfl⟩,by simp,[],.nil,firstCells_nil ..⟩
  | own b g off len =>
    simp only [elems] at h
    split at h
    case h_2=>simp at h
    rename_i g' sz es hb
    split at h
    case isFalse=>simp at h
    rename_i hcond
    obtain ⟨rfl,hlen⟩:=hcond
    simp at h;obtain ⟨rfl,rfl⟩:=h
    cases hy with
    | @own _ _ g2 sz2 _ _ cap es2 a hb2 hg hl hc =>
    rw [hb] at hb2;cases hb2
    have hll:((es.drop off).take len).length=len:=by simp;omega
    obtain ⟨c1,c2⟩:=hc rfl
    rcases r.arr _ _ _ _ hb with ⟨h0,rfl⟩|⟨k,c,el,h1,h2,h3,h4,h5⟩
    · have:len=0:=by simp at c1;omega
      subst this
      exact ⟨⟨a,cap,by simp⟩,by simp,[],by simpa [flatV] using RCs.nil,by simpa using firstCells_nil ..⟩
    · have hw':∀ e∈(es.drop off).take len,e.cells.length=sz:=fun e he=>h3 e (List.mem_of_mem_drop (List.mem_of_mem_take he))
      refine ⟨⟨a,cap,by rw [hll]⟩,hw',?_⟩
      by_cases hz:len=0
      · subst hz
        exact ⟨[],by simpa [flatV] using RCs.nil,by simpa using firstCells_nil ..⟩
      · rcases c2 with ⟨_,_,_,h0⟩|⟨k',hk,ha,_⟩
        · omega
        · rw [h1] at hk;cases hk
          rcases ha with ha|rfl
          · omega
          · refine firstCells_ok (k:=k) (o:=off*sz) (fun j v hj=>?_) hw' rfl _ _
            obtain ⟨x,e1,e2,e3⟩:=h5 _ v (flatV_sub h3 hlen j v hj)
            exact ⟨x,by simp [World.cell?,h2,e1],e2,e3⟩
  | _=>simp [elems] at h
theorem growBy_le (n:Nat):∀ (r c:Nat),c≤n→Builtin.growBy n r c≤2*n+768
  | 0,c,h=>by simp [Builtin.growBy];omega
  | r+1,c,h=>by
    simp only [Builtin.growBy]
    split
    · omega
    · rename_i hlt
      rcases Nat.lt_or_ge n (c+(c+768) / 4) with h2|h2
      · cases r with
        | zero=>simp [Builtin.growBy];omega
        | succ r=>simp only [Builtin.growBy];rw [if_pos (by omega)];omega
      · exact growBy_le n r _ h2
theorem nextslicecap_le (n c:Nat) (h:c < n):Builtin.nextslicecap n c≤2*n+768:=by
  unfold Builtin.nextslicecap
  split
  · omega
  · split
    · omega
    · exact growBy_le n 4 c (by omega)
theorem run_append_in {P:Program} {t t2 e e2:TypeId} {sz:Nat} {o:TypeId} {base:Option Addr} {sLen sCap:Nat} {Y:Value} {n:Nat} {xs:List Value} {w':World}
    (ht:elemOfS P t=some e) (hn:szOf P e=some sz) (ht2:P.underlying t2=some (.slice e2)) (hY:(Builtin.lenOf Y).run P w=.ok n w)
    (hf:(Builtin.firstCells sz n Y).run P w=.ok xs.toArray w) (hle:sLen+n≤sCap)
    (hs:(match base with|some a=>storeCells (a.add (sLen*sz)) xs|none=>pure ()).run P w=.ok () w') :
    (Builtin.append_ #[t,t2] o #[.slice base sLen sCap,Y]).run P w=.ok (.slice base (sLen+n) sCap) w':=by
  cases base with
  | none =>
    simp at hs;subst hs
    simp [Builtin.append_,run_underlying (run_elem ht),run_sizeOf hn,run_underlying ht2,hY,hle,hf]
  | some a =>
    simp only [] at hs
    simp [Builtin.append_,run_underlying (run_elem ht),run_sizeOf hn,run_underlying ht2,hY,hle,hf,hs]
theorem run_append_new {P:Program} {t t2 e e2:TypeId} {sz bytes:Nat} {o:TypeId} {base:Option Addr} {sLen sCap:Nat} {Y:Value} {n:Nat} {xs ys:List Value}
    (ht:elemOfS P t=some e) (hn:szOf P e=some sz) (hb:bytesIn P e=some bytes) {z:List V} (hz:zeroVs P e=some z) (hzl:z.length=sz) (ht2:P.underlying t2=some (.slice e2)) (hY:(Builtin.lenOf Y).run P w=.ok n w)
    (hf:(Builtin.firstCells sz n Y).run P w.drew=.ok xs.toArray w.drew)
    (hg:(Builtin.firstCells sz sLen (.slice base sLen sCap)).run P w.drew=.ok ys.toArray w.drew)
    (hle:sCap < sLen+n) (hbound:(2*(sLen+n)+1024)*(bytes+1)≤281474976710656) :
    ∃ (cap:Nat) (rest:Array Value),sLen+n≤cap∧(Builtin.append_ #[t,t2] o #[.slice base sLen sCap,Y]).run P w =
      .ok (.slice (some ⟨w.heap.size,0,none⟩) (sLen+n) cap) (w.drew.alloc (.cells (ys.toArray++(xs.toArray++rest)) e))∧rest.size=(cap-(sLen+n))*sz:=by
  unfold zeroVs at hz
  unfold bytesIn at hb
  cases hi:P.info? e with
  | none=>rw [hi] at hb;simp at hb
  | some i =>
    rw [hi] at hb hz;simp at hb hz
    subst hb
    cases hzz:i.zero with
    | none=>rw [hzz] at hz;simp at hz
    | some zv =>
      rw [hzz] at hz;simp at hz
      have hzs:zv.cells.size=sz:=by
        have:=(litV_ok (γ:=[]) (H:=[]) (I:=fun _=>False) (w:=w) hz).rv.1
        simp at this;omega
      have hbn:sLen+n≤281474976710656:=by
        have h1:(sLen+n)*1≤(2*(sLen+n)+1024)*(i.bytes+1):=Nat.mul_le_mul (by omega) (by omega)
        rw [Nat.mul_one] at h1
        exact Nat.le_trans h1 hbound
      have hcap:Builtin.nextslicecap (sLen+n) sCap*i.bytes≤281474976710656:=by
        have h1:=nextslicecap_le (sLen+n) sCap hle
        exact Nat.le_trans (Nat.mul_le_mul (by omega) (by omega)) hbound
      have hnot:¬ (sLen+n≤sCap):=by omega
      have hmax:¬ ((9223372036854775807:Int) < (sLen:Int)+(n:Int)):=by omega
      refine ⟨(Question.appendCap (sLen+n) sCap e).cut (w.tape w.drawn (.appendCap (sLen+n) sCap e)),Builtin.zeroCells zv.cells ((Question.appendCap (sLen+n) sCap e).cut (w.tape w.drawn (.appendCap (sLen+n) sCap e))-(sLen+n)),by simp [Question.cut],?_,?_⟩
      · have hm:(IntKind.i64.max:Int)=9223372036854775807:=rfl
        have hcap':¬ (281474976710656 < Builtin.nextslicecap (sLen+n) sCap*i.bytes):=by omega
        simp [Builtin.append_,run_underlying (run_elem ht),run_sizeOf hn,run_underlying ht2,hY,hnot,run_typeInfo hi,hm,hmax,hcap',Question.forced,hf,hg,zeroValue,hzz,newRow]
      · simp [Builtin.zeroCells,hzs]
end
end Go.Aw
namespace Go.Aw
theorem flatV_append (a b:List V):flatV (a++b)=flatV a++flatV b:=by simp [flatV]
section
variable {γ:List (Option Nat)} {H:List Blk} {I:Nat→Prop} {w:World}
theorem valloc_ok (r:RelH γ I w H) (g sz:Nat):RelH (γ++[none]) I w (H++[.arr g sz []])∧Ext γ H I w (γ++[none]) (H++[.arr g sz []]) I w:=by
  have hcase:∀ (b k:Nat),(γ++[none])[b]?=some (some k)→γ[b]?=some (some k)∧b < H.length:=by
    intro b k hk
    rcases Nat.lt_or_ge b γ.length with hb|hb
    · rw [List.getElem?_append_left hb] at hk;exact ⟨hk,by rw [← r.len];exact hb⟩
    · rw [List.getElem?_append_right hb] at hk
      cases hd:b-γ.length with
      | zero=>rw [hd] at hk;simp at hk
      | succ n=>rw [hd] at hk;simp at hk
  have hold:∀ b:Nat,b < H.length→(γ++[none])[b]?=γ[b]?:=fun b hb=>List.getElem?_append_left (by rw [r.len];exact hb)
  have hx:Ext γ H I w (γ++[none]) (H++[.arr g sz []]) I w :=
    ⟨rfl,rfl,rfl,Nat.le_refl _,fun _ h=>h,fun _ h=>.inl h,fun _ _ _=>rfl,fun _ _ h=>h,
      fun b x h=>⟨x,by rw [List.getElem?_append_left (lt_of_get h)];exact h,x.upto_refl,fun _=>⟨hold b (lt_of_get h),fun g sz es es' h1 h2=>by subst h1;cases h2;exact Nat.le_refl _⟩⟩,
      fun b k h=>.inr ⟨b,(hcase b k h).1⟩⟩
  refine ⟨⟨by simp [r.len],fun b g' sz' es' hb=>?_,fun b kvs hb=>?_,fun b b' k h1 h2=>r.inj b b' k (hcase b k h1).1 (hcase b' k h2).1,fun b k h1=>r.off b k (hcase b k h1).1,r.imm⟩,hx⟩
  · rcases Nat.lt_or_ge b H.length with hlt|hge
    · rw [List.getElem?_append_left hlt] at hb
      rw [hold b hlt]
      rcases r.arr b g' sz' es' hb with h|⟨k,c',el',h1,h2,h3,h4,h5⟩
      · exact .inl h
      · exact .inr ⟨k,c',el',h1,h2,h3,h4,fun i v hv=>by obtain ⟨x,e1,e3,e2⟩:=h5 i v hv;exact ⟨x,e1,e3,e2.mono hx r⟩⟩
    · rw [List.getElem?_append_right hge] at hb
      cases hd:b-H.length with
      | succ n=>rw [hd] at hb;simp at hb
      | zero =>
        rw [hd] at hb;simp at hb
        obtain ⟨rfl,rfl,rfl⟩:=hb
        left
        have:b=γ.length:=by rw [r.len];omega
        subst this;simp
  · rcases Nat.lt_or_ge b H.length with hlt|hge
    · rw [List.getElem?_append_left hlt] at hb
      obtain ⟨k,es',cl,h1,h2,h3⟩:=r.mp b kvs hb
      exact ⟨k,es',cl,by rw [hold b hlt];exact h1,h2,h3⟩
    · rw [List.getElem?_append_right hge] at hb
      cases hd:b-H.length with
      | succ n=>rw [hd] at hb;simp at hb
      | zero=>rw [hd] at hb;simp at hb
theorem bump_ok (r:RelH γ I w H) {b g sz:Nat} {es e0 r0:List V} (hb:H[b]?=some (.arr g sz es)) (he:es=e0++r0) :
    RelH γ I w (H.set b (.arr (g+1) sz e0))∧Ext γ H I w γ (H.set b (.arr (g+1) sz e0)) I w:=by
  have hbl:=lt_of_get hb
  have hx:Ext γ H I w γ (H.set b (.arr (g+1) sz e0)) I w :=
    ⟨rfl,rfl,rfl,Nat.le_refl _,fun _ h=>h,fun _ h=>.inl h,fun _ _ _=>rfl,fun _ _ h=>h,
      fun j y hy=>by
        by_cases hjb:j=b
        · subst hjb
          rw [hb] at hy;cases hy
          exact ⟨.arr (g+1) sz e0,by simp [hbl],by simp [Blk.upto],fun e=>by simp [Blk.same] at e⟩
        · exact ⟨y,by rw [List.getElem?_set,if_neg (fun e=>hjb e.symm)];exact hy,y.upto_refl,fun _=>⟨rfl,fun g1 s1 e1 e2 h1 h2=>by subst h1;cases h2;exact Nat.le_refl _⟩⟩,
      fun b _ h=>.inr ⟨b,h⟩⟩
  have key:∀ (j g1 s1:Nat) (e1:List V),(H.set b (.arr (g+1) sz e0))[j]?=some (.arr g1 s1 e1)→∃ g2 r1,H[j]?=some (.arr g2 s1 (e1++r1)):=by
    intro j g1 s1 e1 hj
    by_cases hjb:j=b
    · subst hjb;simp [hbl] at hj;obtain ⟨_,rfl,rfl⟩:=hj;exact ⟨g,r0,by rw [hb,he]⟩
    · rw [List.getElem?_set,if_neg (fun e=>hjb e.symm)] at hj;exact ⟨g1,[],by rw [hj,List.append_nil]⟩
  refine ⟨⟨by simp [r.len],fun j g1 s1 e1 hj=>?_,fun j kvs hj=>?_,r.inj,r.off,r.imm⟩,hx⟩
  · obtain ⟨g2,r1,h2⟩:=key j g1 s1 e1 hj
    rcases r.arr j g2 s1 _ h2 with h|⟨k,c',el',h1,h2,h3,h4,h5⟩
    · exact .inl ⟨h.1,(List.append_eq_nil_iff.1 h.2).1⟩
    · refine .inr ⟨k,c',el',h1,h2,fun e he=>h3 e (List.mem_append_left _ he),?_,fun i v hv=>?_⟩
      · rw [List.length_append,Nat.add_mul] at h4;omega
      · have hv':(flatV (e1++r1))[i]?=some v:=by rw [flatV_append,List.getElem?_append_left (lt_of_get hv)];exact hv
        obtain ⟨x,e1,e3,e2⟩:=h5 i v hv';exact ⟨x,e1,e3,e2.mono hx r⟩
  · have hjb:j≠b:=fun e=>by subst e;simp [hbl] at hj
    rw [List.getElem?_set,if_neg (fun e=>hjb e.symm)] at hj
    exact r.mp j kvs hj
theorem row_cells {xs:List Value} {rest:Array Value} {vs:List V} (h:RCs γ H I w vs xs) (i:Nat) (v:V) (hv:vs[i]?=some v) :
    ∃ x,(xs.toArray++rest)[i]?=some x∧x.oneCell'=true∧RV γ H I w v x:=by
  obtain ⟨x,h1,h2,h3⟩:=h.get hv
  refine ⟨x,?_,h2,h3⟩
  rw [Array.getElem?_append_left (by simpa using lt_of_get h1)];simpa using h1
theorem lenOf_slice {P:Program} (a:Option Addr) (n c:Nat):(Builtin.lenOf (.slice a n c)).run P w=.ok n w:=rfl
def Shown (h:List Blk) (sz:Nat) (y:V) (ys:List V):Prop:=elems h y=some (sz,ys)∨∃ s,y=.nil s∧ys=[]
theorem withElems_ok {h:List Blk} {sz:Nat} {y:V} {K:List V→Prop} (hw:withElems h sz y K):∃ ys,Shown h sz y ys∧K ys:=by
  unfold withElems at hw
  split at hw
  · obtain ⟨rfl,hK⟩:=hw;exact ⟨_,.inl rfl,hK⟩
  · exact ⟨_,.inr ⟨_,rfl,rfl⟩,hw⟩
  · split at hw
    · rename_i hb
      rw [getB_eq] at hb
      obtain ⟨⟨rfl,h1,rfl⟩,hK⟩:=hw
      exact ⟨_,.inl (by simp [elems,hb,h1]),hK⟩
    · exact hw.elim
  · exact hw.elim
theorem shown_ok {P:Program} (r:RelH γ I w H) {y:V} {Y:Value} {sy:Nat} {ys:List V} (hy:RV γ H I w y Y) (h:Shown H sy y ys) :
    (∃ a cap,Y=.slice a ys.length cap)∧(∀ e∈ys,e.cells.length=sy)∧∃ xs,RCs γ H I w (flatV ys) xs∧(Builtin.firstCells sy ys.length Y).run P w=.ok xs.toArray w:=by
  rcases h with h|⟨s,rfl,rfl⟩
  · exact elems_ok r hy h
  · cases hy
    exact ⟨⟨none,0,rfl⟩,by simp,[],.nil,firstCells_nil ..⟩
theorem appP_ok {P:Program} {t t2 e e2 o:TypeId} {sz bytes:Nat} {z:List V} {x y:V} {X Y:Value} {K:V→List Blk→Prop}
    (ht:elemOfS P t=some e) (hn:szOf P e=some sz) (hb:bytesIn P e=some bytes) (hz:zeroVs P e=some z) (hzl:z.length=sz)
    (ht2:P.underlying t2=some (.slice e2)) (r:RelH γ I w H) (hx:RV γ H I w x X) (hy:RV γ H I w y Y) (h:appP H sz bytes x y K) :
    ∃ v Z H' γ' w',(Builtin.append_ #[t,t2] o #[X,Y]).run P w=.ok Z w'∧K v H'∧RelH γ' I w' H'∧RV γ' H' I w' v Z∧Ext γ H I w γ' H' I w':=by
  replace h:=withElems_ok h
  obtain ⟨ys,hel,h⟩:=h
  obtain ⟨rd,xd⟩:=drew_ok r
  obtain ⟨⟨ya,yc,rfl⟩,hwy,xs,hxs,hrun⟩:=shown_ok (P:=P) r hy hel
  obtain ⟨_,_,xs',hxs',hrun'⟩:=shown_ok (P:=P) rd (hy.mono xd r) hel
  have hxl:xs'.length=ys.length*sz:=by rw [hxs'.rv.1,flatV_len hwy]
  have hxl0:xs.length=ys.length*sz:=by rw [hxs.rv.1,flatV_len hwy]
  split at h
  ·
    obtain ⟨hbd,hK⟩:=h
    rw [addB_eq] at hK
    cases hx
    by_cases hys:ys=[]
    · subst hys
      have hxs0:xs=[]:=List.eq_nil_of_length_eq_zero (by simpa using hxl0)
      subst hxs0
      have:=run_append_in (P:=P) (w:=w) (w':=w) (o:=o) (base:=none) (sLen:=0) (sCap:=0) ht hn ht2 (lenOf_slice ya 0 yc) hrun (Nat.le_refl 0) rfl
      obtain ⟨v1,v2⟩:=valloc_ok r 0 sz
      refine ⟨_,_,_,_,w,this,hK,v1,?_,v2⟩
      refine .own (g':=0) (sz:=sz) (es:=[]) (by simp) (Nat.le_refl _) (by simp) (fun _=>⟨by simp,.inl ⟨?_,rfl,rfl,rfl⟩⟩)
      rw [List.getElem?_append_right (by rw [r.len];exact Nat.le_refl _)];simp [r.len]
    · have hpos:0 < ys.length:=List.length_pos_iff.2 hys
      obtain ⟨cap,rest,hcap,hra,hrs⟩:=run_append_new (P:=P) (w:=w) (o:=o) (base:=none) (sLen:=0) (sCap:=0) (Y:=.slice ya ys.length yc) (n:=ys.length) (ys:=[]) ht hn hb hz hzl ht2 (lenOf_slice ya _ yc) hrun' (firstCells_nil ..) (by omega) (by simpa using hbd)
      simp only [Nat.zero_add] at hcap hra hrs
      obtain ⟨a1,a2⟩:=alloc_ok (c:=#[]++(xs'.toArray++rest)) (el:=e) (sz:=sz) (es:=ys) rd hwy (by simp;rw [hxl];omega) (fun i v hv=>by simpa using row_cells (rest:=rest) hxs' i v hv) 0
      refine ⟨_,_,_,_,_,hra,hK,a1,?_,xd.trans a2⟩
      refine .own (g':=0) (sz:=sz) (es:=ys) (by simp) (Nat.le_refl _) hcap (fun _=>⟨by simp,.inr ⟨w.heap.size,?_,.inr (by simp),?_⟩⟩)
      · rw [List.getElem?_append_right (by rw [r.len];exact Nat.le_refl _)];simp [r.len]
      · refine ⟨_,e,(0,0),by show (w.heap.push _)[w.heap.size]?=_;simp;rfl,?_⟩
        simp [hxl,hrs,← Nat.add_mul]
        exact Nat.mul_le_mul_right _ (by omega)
  · rename_i b g off len
    split at h
    case h_2=>exact h.elim
    rename_i g' s es hbk
    rw [getB_eq] at hbk
    obtain ⟨hbd,⟨rfl,rfl,rfl⟩,e0,⟨r0,hes⟩,rfl,hK⟩:=h
    rw [setB_eq] at hK
    cases hx with
    | @own _ _ g2 sz2 _ _ cap es2 a hb2 hg hl hc =>
    rw [hbk] at hb2;cases hb2
    obtain ⟨c1,c2⟩:=hc rfl
    by_cases hys:ys=[]
    · subst hys
      have hxs0:xs=[]:=List.eq_nil_of_length_eq_zero (by simpa using hxl0)
      subst hxs0
      have:=run_append_in (P:=P) (w:=w) (w':=w) (o:=o) (base:=a) (sLen:=e0.length) (sCap:=cap) ht hn ht2 (lenOf_slice ya 0 yc) hrun (by omega) (by cases a <;> rfl)
      obtain ⟨v1,v2⟩:=bump_ok r hbk hes
      refine ⟨_,_,_,_,w,this,by simpa using hK,v1,?_,v2⟩
      refine .own (g':=g+1) (sz:=s) (es:=e0) (by simp [lt_of_get hbk]) (Nat.le_refl _) (by simpa using hl) (fun _=>⟨by simp,c2⟩)
    · have hpos:0 < ys.length:=List.length_pos_iff.2 hys
      by_cases hin:e0.length+ys.length≤cap
      ·
        rcases c2 with ⟨_,_,_,h0⟩|⟨k,hk,ha,hrow⟩
        · omega
        · rcases ha with ha|rfl
          · omega
          rcases r.arr _ _ _ _ hbk with ⟨h0,_⟩|⟨k',c,el,h1,h2,h3,h4,h5⟩
          · rw [h0] at hk;cases hk
          rw [hk] at h1;cases h1
          obtain ⟨c0,el0,fr0,q1,q2⟩:=hrow
          rw [h2] at q1;cases q1
          have hsz:(e0.length+ys.length)*s≤c.size:=by
            refine Nat.le_trans (Nat.mul_le_mul_right s hin) ?_
            rw [Nat.zero_add] at q2;exact q2
          have hrs:=run_storeCells (P:=P) (k:=k) (o:=0*s+e0.length*s) (xs:=xs) (i:=0) h2 (by rw [hxl0,← Nat.add_mul];rw [Nat.add_mul] at hsz ⊢;omega) hxs.one
          have:=run_append_in (P:=P) (w:=w) (o:=o) (base:=some ⟨k,0*s,none⟩) (sLen:=e0.length) (sCap:=cap) ht hn ht2 (lenOf_slice ya _ yc) hrun hin (by simp only [addr_add];exact hrs)
          have hwf':∀ e'∈e0++ys,e'.cells.length=s:=fun e' he'=>by
            rcases List.mem_append.1 he' with h|h
            · exact h3 e' (by rw [hes];exact List.mem_append_left _ h)
            · exact hwy e' h
          obtain ⟨u1,u2⟩:=upd_ok (g':=g+1) (es':=e0++ys) (c':=wr c (0*s+e0.length*s+0) xs) r hbk hk h2 (by simp) (by omega) (fun e=>by omega) hwf' (by simpa using hsz) (fun j v hj=>by
            rw [flatV_append] at hj
            have hget:=wr_get c (0*s+e0.length*s+0) xs (by rw [hxl0];rw [Nat.add_mul] at hsz;omega) j
            have hfl:(flatV e0).length=e0.length*s:=flatV_len fun e he=>h3 e (by rw [hes];exact List.mem_append_left _ he)
            rcases Nat.lt_or_ge j (e0.length*s) with hlt|hge
            · rw [List.getElem?_append_left (by omega)] at hj
              obtain ⟨x,x1,x2,x3⟩:=h5 j v (by rw [hes,flatV_append,List.getElem?_append_left (by omega)];exact hj)
              exact ⟨x,by rw [hget,if_neg (by omega)];exact x1,x2,x3⟩
            · rw [List.getElem?_append_right (by omega),hfl] at hj
              obtain ⟨x,x1,x2,x3⟩:=hxs.get hj
              have hjl:=lt_of_get x1
              exact ⟨x,by rw [hget,if_pos (by omega),← x1];congr 1;omega,x2,x3⟩)
          refine ⟨_,_,_,_,_,this,hK,u1,?_,u2⟩
          refine .own (g':=g+1) (sz:=s) (es:=e0++ys) (by simp [lt_of_get hbk]) (Nat.le_refl _) hin (fun _=>⟨by simp,.inr ⟨k,hk,.inr (by simp),?_⟩⟩)
          exact ⟨_,_,_,setB_same _ _ _ (heap_lt h2),by simpa using q2⟩
      ·
        have hold:Shown H s (.own b g 0 e0.length) e0:=.inl (by simp [elems,hbk,hes])
        obtain ⟨⟨_,_,hz1⟩,hwes,os,hos,horun⟩:=shown_ok (P:=P) rd ((RV.own hbk hg hl hc).mono xd r) hold
        cases hz1
        obtain ⟨cap',rest,hcap,hra,hrs⟩:=run_append_new (P:=P) (w:=w) (o:=o) (base:=a) (sLen:=e0.length) (sCap:=cap) (Y:=.slice ya ys.length yc) (n:=ys.length) (ys:=os) ht hn hb hz hzl ht2 (lenOf_slice ya _ yc) hrun' horun (by omega) hbd
        have hol:os.length=e0.length*s:=by rw [hos.rv.1,flatV_len hwes]
        have hwf':∀ e'∈e0++ys,e'.cells.length=s:=fun e' he'=>by
          rcases List.mem_append.1 he' with h|h
          · exact hwes e' h
          · exact hwy e' h
        obtain ⟨u1,u2⟩:=realloc_ok (c:=os.toArray++(xs'.toArray++rest)) (el:=e) (es':=e0++ys) rd hbk hwf' (by simp;rw [hol,hxl,Nat.add_mul];omega) (fun i v hv=>by
          rw [flatV_append] at hv
          have:=row_cells (rest:=rest) (hos.append hxs') i v hv
          rw [← List.append_toArray,Array.append_assoc] at this
          exact this)
        refine ⟨_,_,_,_,_,hra,hK,u1,?_,xd.trans u2⟩
        refine .own (g':=g+1) (sz:=s) (es:=e0++ys) (by simp [lt_of_get hbk]) (Nat.le_refl _) hcap (fun _=>⟨by simp,.inr ⟨w.heap.size,?_,.inr (by simp),?_⟩⟩)
        · have:b < γ.length:=by rw [r.len];exact lt_of_get hbk
          simp [this]
        · refine ⟨_,e,(0,0),by show (w.heap.push _)[w.heap.size]?=_;simp;rfl,?_⟩
          simp [hol,hxl,hrs,← Nat.add_mul]
          exact Nat.mul_le_mul_right _ (by omega)
  · exact h.elim
end
end Go.Aw
namespace Go.Aw
def Fits (γ:List (Option Nat)) (I:Nat→Prop) (w:World) (H:List Blk) (a:Act) (d:Option Tmp) (K:V→List Blk→Prop) (next:Act→World→Prop):Prop :=
  ∀ v x H' γ' I' w',K v H'→RelH γ' I' w' H'→RV γ' H' I' w' v x→Ext γ H I w γ' H' I' w'→next (a.put d x) w'
section
variable {P:Prg} {wf:Nat} {o:Oper} {s:St} {a:Act} {γ:List (Option Nat)} {I:Nat→Prop} {w:World} {K:V→List Blk→Prop}
  {next:Act→World→Prop} {Q:Exit→Act→World→Prop}
theorem fits_value (r:Rel γ I w s a) (hn:Fits γ I w s.h a o.dst K next) {x:Value} {v:V} (he:(execOp a.eval o).run P w=.ok (.value x) w) (hx:RV γ s.h I w v x) (hK:K v s.h) :
    o.wp P a w next Q:=wp_value he (hn v x s.h γ I w hK r.heap hx (Ext.refl ..))
theorem optL_get {α:Type} {l:List (Option α)} {r:List α} (h:optL l=some r) (i:Nat) (x:α) (hi:r[i]?=some x):l[i]?=some (some x):=by
  rw [optL_some h];simp [hi]
theorem slimXs_ok {tys:List TypeId} {xs:List Operand} {ys:List X} (h:slimXs P tys xs=some ys) (r:Rel γ I w s a) :
    RVs γ s.h I w (ys.map (X.ev s.t)) (xs.map a.eval):=by
  have hl:xs.length=ys.length:=by simpa using congrArg List.length (optL_some h)
  refine RVs.of_get (by simp [hl]) (fun i v hi=>?_)
  rw [List.getElem?_map] at hi
  cases hy:ys[i]? with
  | none=>rw [hy] at hi;simp at hi
  | some y =>
    rw [hy] at hi;simp at hi;subst hi
    have hlt:i < xs.length:=by rw [hl];exact lt_of_get hy
    have:=optL_get h i y hy
    simp [hlt] at this
    exact ⟨a.eval xs[i],by simp [hlt],slimX_ok this r⟩
theorem optX_ok {ty:TypeId} {xs:List Operand} {ys:List X} (h:optL (xs.map (slimX P ty))=some ys) (r:Rel γ I w s a) :
    RVs γ s.h I w (ys.map (X.ev s.t)) (xs.map a.eval):=by
  have hl:xs.length=ys.length:=by simpa using congrArg List.length (optL_some h)
  refine RVs.of_get (by simp [hl]) (fun i v hi=>?_)
  rw [List.getElem?_map] at hi
  cases hy:ys[i]? with
  | none=>rw [hy] at hi;simp at hi
  | some y =>
    rw [hy] at hi;simp at hi;subst hi
    have hlt:i < xs.length:=by rw [hl];exact lt_of_get hy
    have:=optL_get h i y hy
    simp [hlt] at this
    exact ⟨a.eval xs[i],by simp [hlt],slimX_ok this r⟩
theorem lenP_ok {t e o:TypeId} {x:V} {X:Value} {K:V→Prop} (ht:P.underlying t=some (.slice e))
    (hx:RV γ s.h I w x X) (h:lenP x K):∃ v Z,(Builtin.len_ #[t] o #[X]).run P w=.ok Z w∧RV γ s.h I w v Z∧K v:=by
  unfold lenP at h
  split at h
  · cases hx with|g hx=>cases hx;exact ⟨_,_,by simp [Builtin.len_,run_underlying ht];rfl,rv_int,h⟩
  · cases hx;exact ⟨_,_,by simp [Builtin.len_,run_underlying ht];rfl,rv_int,h⟩
  · cases hx;exact ⟨_,_,by simp [Builtin.len_,run_underlying ht];rfl,rv_int,h⟩
  · exact h.elim
theorem op_mv (r:Rel γ I w s a) (hn:Fits γ I w s.h a o.dst K next) {x:Operand} {ty:TypeId} {y:X} (ho:o.op=.move x∨o.op=.assign x) (hx:slimX P ty x=some y)
    (h:opP P s.t (.mv y) s.h K):o.wp P a w next Q:=by
  refine fits_value r hn (x:=a.eval x) ?_ (slimX_ok hx r) h
  rcases ho with ho|ho <;> simp [execOp,ho]
theorem op_pick (r:Rel γ I w s a) (hn:Fits γ I w s.h a o.dst K next) {c x y:Operand} {t1 t2 t3:TypeId} {c' x' y':X} (ho:o.op=.pick c x y) (hc:slimX P t1 c=some c')
    (hx:slimX P t2 x=some x') (hy:slimX P t3 y=some y') (h:opP P s.t (.pick c' x' y') s.h K):o.wp P a w next Q:=by
  have hc':=slimX_ok hc r
  simp only [opP] at h
  split at h
  case h_2=>exact h.elim
  rename_i b hb
  rw [hb] at hc'
  have hcc:=rv_sc hc'
  cases b with
  | true=>exact fits_value r hn (x:=a.eval x) (by simp [execOp,ho,hcc,asBool]) (slimX_ok hx r) h
  | false=>exact fits_value r hn (x:=a.eval y) (by simp [execOp,ho,hcc,asBool]) (slimX_ok hy r) h
theorem op_bin (r:Rel γ I w s a) (hn:Fits γ I w s.h a o.dst K next) {op:BinOp} {ty ty2 t1 t2:TypeId} {x y:Operand} {x' y':X} {b:Bool} (ho:o.op=.binOp op ty x y ty2)
    (hx:slimX P t1 x=some x') (hy:slimX P t2 y=some y') (h:binP b op (x'.ev s.t) (y'.ev s.t) fun v=>K v s.h):o.wp P a w next Q:=by
  obtain ⟨v,h1,h2,h3⟩:=binP_ok (P:=P) (t:=ty) h (slimX_ok hx r) (slimX_ok hy r) x y
  exact fits_value r hn (x:=v) (by simp only [execOp,ho];exact run_v h1) (.g (.sc h2)) h3
theorem op_bool2 (r:Rel γ I w s a) (hn:Fits γ I w s.h a o.dst K next) {ty ty2 t1 t2:TypeId} {x y:Operand} {x' y':X} {neg:Bool} (ho:o.op=.binOp (if neg then .neq else .eql) ty x y ty2)
    (ht:P.underlying ty=some .bool) (hx:slimX P t1 x=some x') (hy:slimX P t2 y=some y') (h:opP P s.t (.bool2 neg x' y') s.h K):o.wp P a w next Q:=by
  have hx':=slimX_ok hx r
  have hy':=slimX_ok hy r
  simp only [opP] at h
  split at h
  case h_2=>exact h.elim
  rename_i m n h1 h2
  rw [h1] at hx';rw [h2] at hy'
  have e1:=rv_sc hx';have e2:=rv_sc hy'
  refine fits_value r hn (x:=.bool (if neg then !(m == n) else (m == n))) ?_ rv_bool h
  simp only [execOp,ho,e1,e2]
  refine run_v ?_
  simp only [Sem.run_bind,eqGuard_bool,Result.andThen_ok]
  cases neg
  · exact run_eql_bool w ty m n ht
  · exact run_neq_bool w ty m n ht
theorem op_eqnil (r:Rel γ I w s a) (hn:Fits γ I w s.h a o.dst K next) {ty ty2 t1 e:TypeId} {x y:Operand} {x':X} {neg:Bool} (ho:o.op=.binOp (if neg then .neq else .eql) ty x y ty2)
    (ht:P.underlying ty=some (.slice e)) (hx:slimX P t1 x=some x') (hy:a.eval y=.slice none 0 0) (h:opP P s.t (.eqnil neg x') s.h K):o.wp P a w next Q:=by
  have hx':=slimX_ok hx r
  have key:∀ (A:Option Addr) (n c:Nat),a.eval x=.slice A n c→(execOp a.eval o).run P w=.ok (.value (.bool (if neg then !A.isNone else A.isNone))) w:=by
    intro A n c hA
    simp only [execOp,ho,hA,hy]
    refine run_v ?_
    simp only [Sem.run_bind,eqGuard_slice,Result.andThen_ok]
    have:(Op.equal ty (.slice A n c) (.slice none 0 0)).run P w=.ok A.isNone w:=by
      show (Op.equalIn (9999+1) ty (.slice A n c) (.slice none 0 0)).run P w=_
      generalize 9999=d
      cases A <;> simp only [Op.equalIn,Sem.run_bind,run_underlying ht,Result.andThen_ok] <;> rfl
    cases neg <;> simp [binOp,this]
  simp only [opP] at h
  split at h
  · rename_i sz h1
    rw [h1] at hx';generalize a.eval x=XX at hx' key;cases hx'
    exact fits_value r hn (key _ _ _ rfl) rv_bool (by cases neg <;> simpa using h)
  · rename_i sz es h1
    rw [h1] at hx';generalize a.eval x=XX at hx' key
    cases hx' with|g hx' =>
    cases hx' with
    | @sl _ _ A cap k o' vs ha hw hl hc h1 hr =>
    refine fits_value r hn (key _ _ _ rfl) rv_bool (h A.isNone fun hA=>?_)
    cases es with
    | nil=>rfl
    | cons t es=>have:=(ha (by simp)).1;subst this;simp at hA
  · rename_i b g off len h1
    rw [h1] at hx';generalize a.eval x=XX at hx' key
    split at h
    case h_2=>exact h.elim
    rename_i g1 sz es hb
    rw [getB_eq] at hb
    obtain ⟨rfl,h⟩:=h
    cases hx' with
    | @own _ _ g' sz' _ _ cap es' A hb' hg hl hc =>
    rw [hb] at hb';cases hb'
    refine fits_value r hn (key _ _ _ rfl) rv_bool (h A.isNone fun hA=>?_)
    rcases (hc rfl).2 with ⟨_,_,_,h0⟩|⟨k,_,ha,_⟩
    · omega
    · rcases ha with ha|rfl
      · omega
      · simp at hA
  · exact h.elim
theorem op_un (r:Rel γ I w s a) (hn:Fits γ I w s.h a o.dst K next) {op:UnOp} {ty t1:TypeId} {x:Operand} {x':X} (ho:o.op=.unOp op ty x) (hx:slimX P t1 x=some x')
    (h:opP P s.t (.un op x') s.h K):o.wp P a w next Q:=by
  have hx':=slimX_ok hx r
  simp only [opP] at h
  split at h
  · rename_i m h1
    rw [h1] at hx';have e1:=rv_sc hx'
    exact fits_value r hn (x:=.bool (!m)) (by simp [execOp,ho,e1,Op.unary]) rv_bool h
  · rename_i k m h1
    rw [h1] at hx';have e1:=rv_sc hx'
    exact fits_value r hn (x:=.int k (0-m)) (by simp only [execOp,ho,e1,Op.unary];exact run_v (by simp only [Op.intArith];rw [wrap_in h.1];rfl)) rv_int h.2
  · exact h.elim
theorem op_box (r:Rel γ I w s a) (hn:Fits γ I w s.h a o.dst K next) {e t1:TypeId} {x:Operand} {x':X} {n:Nat} (ho:o.op=.box e x) (hx:slimX P t1 x=some x')
    (h:opP P s.t (.box n x') s.h K):o.wp P a w next Q:=by
  have hx':=slimX_ok hx r
  simp only [opP,forceV_eq,addB_eq] at h
  obtain ⟨⟨h1,h2⟩,hK⟩:=h
  have hc:=cells_ok hx' h1
  obtain ⟨a1,a2⟩:=alloc_ok (c:=(a.eval x).cells) (el:=e) (sz:=n) (es:=[x'.ev s.t]) r.heap (by simpa using h2) (by have:=hc.rv.1;simp at this ⊢;omega)
    (fun i v hi=>by simp only [flatV,List.flatMap_cons,List.flatMap_nil,List.append_nil] at hi;obtain ⟨y,y1,y2,y3⟩:=hc.get hi;exact ⟨y,by simpa using y1,y2,y3⟩) 0
  refine wp_value (x:=.pointer (some ⟨w.heap.size,0,none⟩)) (by simp [execOp,ho,Instr.box,newVar,newRow]) (hn _ _ _ _ _ _ hK a1 ?_ a2)
  refine .pa (g':=0) (sz:=n) (es:=[x'.ev s.t]) (by simp) (Nat.le_refl _) (fun _=>⟨by simp,w.heap.size,?_,by simp⟩)
  rw [List.getElem?_append_right (by rw [r.heap.len];exact Nat.le_refl _)];simp [r.heap.len]
theorem zipLit_shape:∀ {ks:List (Option Nat)} {xs:List Value} {vs:List V},zipLit ks xs=some vs→∀ v∈vs,okV v=true∧v.cells=[v]
  | [],[],vs,h=>by simp [zipLit] at h;subst h;simp
  | [],_::_,_,h=>by simp [zipLit] at h
  | _::_,[],_,h=>by simp [zipLit] at h
  | k::ks,x::xs,vs,h=>by
    simp only [zipLit] at h
    cases h1:lit1 k x with
    | none=>rw [h1] at h;simp at h
    | some v =>
      cases h2:zipLit ks xs with
      | none=>rw [h1,h2] at h;simp at h
      | some us =>
        rw [h1,h2] at h;simp at h;subst h
        intro u hu
        rcases List.mem_cons.1 hu with rfl|hu
        · unfold lit1 at h1
          split at h1
          · cases h1;exact ⟨rfl,rfl⟩
          · simp at h1
          · split at h1
            · cases h1;exact ⟨rfl,rfl⟩
            · simp at h1
          · simp at h1
        · exact zipLit_shape h2 u hu
theorem zeroVs_shape {t:TypeId} {vs:List V} (h:zeroVs P t=some vs):∀ v∈vs,okV v=true∧v.cells=[v]:=by
  unfold zeroVs at h
  cases hi:P.info? t with
  | none=>rw [hi] at h;simp at h
  | some i =>
    rw [hi] at h;simp at h
    cases hz:i.zero with
    | none=>rw [hz] at h;simp at h
    | some z =>
      rw [hz] at h;simp [litV] at h
      cases hk:cellKinds P 20 t with
      | none=>rw [hk] at h;simp at h
      | some ks=>rw [hk] at h;exact zipLit_shape (by simpa using h)
theorem zeroVs_ok {t:TypeId} {vs:List V} (h:zeroVs P t=some vs):∃ z,(zeroValue t).run P w=.ok z w∧RCs γ s.h I w vs z.cells.toList:=by
  unfold zeroVs at h
  cases hi:P.info? t with
  | none=>rw [hi] at h;simp at h
  | some i =>
    rw [hi] at h;simp at h
    cases hz:i.zero with
    | none=>rw [hz] at h;simp at h
    | some z =>
      rw [hz] at h;simp at h
      exact ⟨z,by simp [zeroValue,run_typeInfo hi,hz],litV_ok h⟩
theorem zeroV_ok {t:TypeId} {v:V} (h:zeroV P t=some v):∃ z,(zeroValue t).run P w=.ok z w∧RCs γ s.h I w v.cells z.cells.toList∧okV v=true:=by
  unfold zeroV at h
  cases hz:zeroVs P t with
  | none=>rw [hz] at h;simp at h
  | some vs =>
    rw [hz] at h;simp only [Option.bind_some] at h
    obtain ⟨z,h1,h2⟩:=zeroVs_ok (s:=s) (γ:=γ) (I:=I) (w:=w) hz
    refine ⟨z,h1,?_⟩
    split at h
    · cases h
      refine ⟨by rw [mkAg_cells];exact h2,?_⟩
      unfold mkAg;split <;> rfl
    · split at h
      · cases h
        rename_i u _
        have hu:okV v=true∧v.cells=[v]:=zeroVs_shape hz v (by simp)
        exact ⟨by rw [hu.2];exact h2,hu.1⟩
      · simp at h
end
end Go.Aw
namespace Go.Aw
theorem amap {α β:Type} (f:α→β) (xs:Array α):xs.map f=(xs.toList.map f).toArray:=by apply Array.ext';simp
def partV (cs:List V) (off:Nat):Option Nat→Option V
  | none=>cs[off]?
  | some n=>if off+n≤cs.length then some (mkAg ((cs.drop off).take n)) else none
section
variable {P:Prg} {wf:Nat} {o:Oper} {s:St} {a:Act} {γ:List (Option Nat)} {I:Nat→Prop} {w:World} {K:V→List Blk→Prop}
  {next:Act→World→Prop} {Q:Exit→Act→World→Prop}
theorem op_new (r:Rel γ I w s a) (hn:Fits γ I w s.h a o.dst K next) {e:TypeId} {z:V} {n:Nat} (ho:o.op=.alloc e) (hz:zeroV P e=some z)
    (h:opP P s.t (.new n z) s.h K):o.wp P a w next Q:=by
  simp only [opP,addB_eq] at h
  obtain ⟨h2,hK⟩:=h
  obtain ⟨zv,z1,hc,_⟩:=zeroV_ok (s:=s) (γ:=γ) (I:=I) (w:=w) hz
  obtain ⟨a1,a2⟩:=alloc_ok (c:=zv.cells) (el:=e) (sz:=n) (es:=[z]) r.heap (by simpa using h2) (by have:=hc.rv.1;simp at this ⊢;omega)
    (fun i v hi=>by simp only [flatV,List.flatMap_cons,List.flatMap_nil,List.append_nil] at hi;obtain ⟨y,y1,y2,y3⟩:=hc.get hi;exact ⟨y,by simpa using y1,y2,y3⟩) 0
  refine wp_value (x:=.pointer (some ⟨w.heap.size,0,none⟩)) (by simp [execOp,ho,Instr.alloc,z1,newVar,newRow]) (hn _ _ _ _ _ _ hK a1 ?_ a2)
  refine .pa (g':=0) (sz:=n) (es:=[z]) (by simp) (Nat.le_refl _) (fun _=>⟨by simp,w.heap.size,?_,by simp⟩)
  rw [List.getElem?_append_right (by rw [r.heap.len];exact Nat.le_refl _)];simp [r.heap.len]
theorem op_load (r:Rel γ I w s a) (hn:Fits γ I w s.h a o.dst K next) {t t1:TypeId} {x:Operand} {x':X} {n:Option Nat} (ho:o.op=.load t x) (ht:slimN P t n) (hx:slimX P t1 x=some x')
    (h:opP P s.t (.load n x') s.h K):o.wp P a w next Q:=by
  obtain ⟨y,v,h1,h2,h3⟩:=loadP_ok ht r.heap (slimX_ok hx r) h
  exact fits_value r hn (by simp only [execOp,ho];exact run_v h1) h2 h3
theorem op_store (r:Rel γ I w s a) (hn:Fits γ I w s.h a o.dst K next) {t t1 t2:TypeId} {x y:Operand} {x' y':X} {n:Nat} (ho:o.op=.store t x y) (ht:szOf P t=some n) (hx:slimX P t1 x=some x') (hy:slimX P t2 y=some y')
    (h:opP P s.t (.store n x' y') s.h K):o.wp P a w next Q:=by
  simp only [opP,forceV_eq] at h
  obtain ⟨H',w',h1,h2,h3,h4⟩:=storeP_ok ht r.heap (slimX_ok hx r) (slimX_ok hy r) h
  exact wp_skp (by simp [execOp,ho,h1]) (hn _ _ _ _ _ _ h2 h3 (.tu (vs:=[]) rfl (by simp)) h4)
theorem op_nilc (r:Rel γ I w s a) (hn:Fits γ I w s.h a o.dst K next) {t1:TypeId} {x:Operand} {x':X} (ho:o.op=.nilCheck x) (hx:slimX P t1 x=some x')
    (h:opP P s.t (.nilc x') s.h K):o.wp P a w next Q:=by
  have hx':=slimX_ok hx r
  have hx0:=hx'
  simp only [opP] at h
  split at h
  · rename_i h1
    rw [h1] at hx' hx0;generalize hX:a.eval x=XX at hx' hx0;cases hx'
    exact fits_value r hn (by simp [execOp,ho,hX]) hx0 h
  · rename_i h1
    rw [h1] at hx' hx0;generalize hX:a.eval x=XX at hx' hx0;cases hx'
    exact fits_value r hn (by simp [execOp,ho,hX]) hx0 h
  · rename_i h1
    rw [h1] at hx' hx0;generalize hX:a.eval x=XX at hx' hx0;cases hx'
    exact fits_value r hn (by simp [execOp,ho,hX]) hx0 h
  · exact h.elim
theorem op_conv (r:Rel γ I w s a) (hn:Fits γ I w s.h a o.dst K next) {src dst t1:TypeId} {k k':IntKind} {x:Operand} {x':X} (ho:o.op=.convert src dst x) (h1:P.underlying src=some (.int k')) (h2:P.underlying dst=some (.int k)) (hx:slimX P t1 x=some x')
    (h:opP P s.t (.conv k x') s.h K):o.wp P a w next Q:=by
  have hx':=slimX_ok hx r
  simp only [opP] at h
  split at h
  · rename_i j m e1
    rw [e1] at hx';have e2:=rv_sc hx'
    exact fits_value r hn (x:=.int k (k.wrap m)) (by simp [execOp,ho,e2,convert,run_underlying h1,run_underlying h2,Conv.intToInt]) rv_int h
  · exact h.elim
theorem op_convs (r:Rel γ I w s a) (hn:Fits γ I w s.h a o.dst K next) {src dst t1:TypeId} {x:Operand} {x':X} (ho:o.op=.convert src dst x) (h1:P.underlying src=some .string) (h2:P.underlying dst=some .string) (hx:slimX P t1 x=some x')
    (h:opP P s.t (.cvs x') s.h K):o.wp P a w next Q:=by
  have hx':=slimX_ok hx r
  simp only [opP] at h
  split at h
  · rename_i m e1
    rw [e1] at hx';have e2:=rv_sc hx'
    exact fits_value r hn (x:=.string m) (by simp [execOp,ho,e2,convert,run_underlying h1,run_underlying h2]) rv_str h
  · exact h.elim
theorem op_mkf (r:Rel γ I w s a) (hn:Fits γ I w s.h a o.dst K next) {f:Nat} {first caps:Array Operand} {cs:List X} {t1:TypeId} (ho:o.op=.makeFunc (.func f) first caps) (hf:first=#[]) (hx:optL (caps.toList.map (slimX P t1))=some cs)
    (h:opP P s.t (.mkf f cs) s.h K):o.wp P a w next Q:=by
  have hx':=optX_ok hx r
  subst hf
  simp only [opP,forceT_eq] at h
  refine fits_value r hn (x:=.func (.func f) #[] (caps.toList.map a.eval).toArray) (by simp [execOp,ho,Instr.makeFunc,amap]) (.fn hx'.1 hx'.2) h
theorem op_slc (r:Rel γ I w s a) (hn:Fits γ I w s.h a o.dst K next) {t e t1 t2 t3:TypeId} {n:Nat} {x:Operand} {x':X} {lo hi:Option Operand} {lo' hi':Option X} (ho:o.op=.slice t x lo hi none) (ht:elemOfS P t=some e) (hs:szOf P e=some n)
    (hx:slimX P t1 x=some x') (hlo:(lo=none∧lo'=none)∨∃ l l',lo=some l∧lo'=some l'∧slimX P t2 l=some l')
    (hhi:(hi=none∧hi'=none)∨∃ l l',hi=some l∧hi'=some l'∧slimX P t3 l=some l') (h:opP P s.t (.slc n x' lo' hi') s.h K):o.wp P a w next Q:=by
  simp only [opP] at h
  obtain ⟨v,Z,h1,h2,h3⟩:=slcP_ok (P:=P) (LO:=lo.map a.eval) (HI:=hi.map a.eval) ht hs (slimX_ok hx r) (by
      intro v hv
      rcases hlo with ⟨rfl,rfl⟩|⟨l,l',rfl,rfl,hl⟩
      · simp at hv
      · simp at hv;subst hv;exact ⟨_,rfl,slimX_ok hl r⟩) (by
      intro hv
      rcases hlo with ⟨rfl,rfl⟩|⟨l,l',rfl,rfl,hl⟩
      · rfl
      · simp at hv) (by
      intro v hv
      rcases hhi with ⟨rfl,rfl⟩|⟨l,l',rfl,rfl,hl⟩
      · simp at hv
      · simp at hv;subst hv;exact ⟨_,rfl,slimX_ok hl r⟩) (by
      intro hv
      rcases hhi with ⟨rfl,rfl⟩|⟨l,l',rfl,rfl,hl⟩
      · rfl
      · simp at hv) h
  refine fits_value r hn (x:=Z) ?_ h2 h3
  simp only [execOp,ho]
  refine run_v ?_
  simp [Instr.sliceAt,run_underlying (run_elem ht),h1]
theorem op_fa (r:Rel γ I w s a) (hn:Fits γ I w s.h a o.dst K next) {t t1:TypeId} {fs:Array Field} {i n:Nat} {f:Field} {x:Operand} {x':X} (ho:o.op=.fieldAddr t x i) (ht:P.underlying t=some (.struct fs)) (hf:fs[i]?=some f)
    (hs:szOf P f.type=some n) (hnz:n≠0) (hx:slimX P t1 x=some x') (h:opP P s.t (.fa f.offset x') s.h K):o.wp P a w next Q:=by
  have hx':=slimX_ok hx r
  have run:∀ A:Addr,a.eval x=.pointer (some A)→(execOp a.eval o).run P w=.ok (.value (.pointer (some (A.add f.offset)))) w:=by
    intro A hX
    simp only [execOp,ho]
    refine run_v ?_
    simp [Instr.fieldAt,run_underlying ht,hf,hX,Instr.sureAddr,fieldPlace,run_sizeOf hs,hnz]
  simp only [opP] at h
  split at h
  · rename_i b g j off e1
    rw [e1] at hx';generalize hX:a.eval x=XX at hx' run
    cases hx' with
    | @pa _ _ g' sz _ _ es A hb hg hc =>
    refine fits_value r hn (run _ rfl) (.pa hb hg (fun e=>?_)) h
    obtain ⟨c1,k,hk,rfl⟩:=hc e
    exact ⟨c1,k,hk,by rw [addr_add,Nat.add_assoc]⟩
  · rename_i sz es j off e1
    rw [e1] at hx';generalize hX:a.eval x=XX at hx' run
    cases hx' with
    | ra k o' vs hi hI hw hc h1 hr =>
    have:=run _ rfl
    rw [addr_add] at this
    exact fits_value r hn this (by have:=RV.ra (γ:=γ) (H:=s.h) (off:=off+f.offset) k o' vs hi hI hw hc h1 hr;simpa [Nat.add_assoc] using this) h
  · exact h.elim
theorem part_ok {t:TypeId} {n:Option Nat} {cs:List V} {xs:List Value} {off:Nat} (ht:slimN P t n) (hx:RCs γ s.h I w cs xs) {v:V}
    (hv:partV cs off n=some v) :
    ∃ x,(part t xs.toArray off).run P w=.ok x w∧RV γ s.h I w v x:=by
  rcases ht with ⟨ha,rfl⟩|⟨ha,m,hm,rfl⟩
  · obtain ⟨x,h1,_,h2⟩:=hx.get hv
    exact ⟨x,by simp [part,run_isAgg ha,h1],h2⟩
  · simp only [partV] at hv
    split at hv
    · cases hv
      rename_i hle
      refine ⟨.agg ((xs.drop off).take m).toArray,?_,mkAg_ok ((hx.drop off).take m)⟩
      simp [part,run_isAgg ha,run_sizeOf hm]
    · simp at hv
theorem op_fld (r:Rel γ I w s a) (hn:Fits γ I w s.h a o.dst K next) {t t1:TypeId} {fs:Array Field} {i:Nat} {n:Option Nat} {f:Field} {x:Operand} {x':X} (ho:o.op=.field t x i) (ht:P.underlying t=some (.struct fs)) (hf:fs[i]?=some f)
    (hs:slimN P f.type n) (hx:slimX P t1 x=some x') (h:opP P s.t (.fld f.offset n x') s.h K):o.wp P a w next Q:=by
  have hx':=slimX_ok hx r
  simp only [opP] at h
  split at h
  case h_2=>exact h.elim
  rename_i cs hcs
  obtain ⟨xs,hX,hc⟩:=asAg_ok hcs hx'
  have fin:∀ v,partV cs f.offset n=some v→K v s.h→o.wp P a w next Q:=by
    intro v hv hK
    obtain ⟨y,h1,h2⟩:=part_ok (s:=s) hs hc hv
    refine fits_value r hn (x:=y) ?_ h2 hK
    simp only [execOp,ho]
    refine run_v ?_
    simp [Instr.field,run_underlying ht,hf,hX,asAgg,h1]
  cases n with
  | none =>
    simp only [] at h
    split at h
    · rename_i v hv;exact fin v hv h
    · exact h.elim
  | some n =>
    simp only [] at h
    exact fin _ (by simp [partV,h.1]) h.2
theorem op_ia (r:Rel γ I w s a) (hn:Fits γ I w s.h a o.dst K next) {t e t1 t2:TypeId} {n:Nat} {x y:Operand} {x' y':X} (ho:o.op=.indexAddr t x y) (ht:elemOfS P t=some e) (hs:szOf P e=some n)
    (hx:slimX P t1 x=some x') (hy:slimX P t2 y=some y') (h:opP P s.t (.ia n x' y') s.h K):o.wp P a w next Q:=by
  simp only [opP] at h
  obtain ⟨v,Z,h1,h2,h3⟩:=iaP_ok (P:=P) ht hs (slimX_ok hx r) (slimX_ok hy r) h
  exact fits_value r hn (by simp only [execOp,ho];exact run_v h1) h2 h3
theorem op_ixs (r:Rel γ I w s a) (hn:Fits γ I w s.h a o.dst K next) {t t1 t2:TypeId} {x y:Operand} {x' y':X} (ho:o.op=.index t x y) (ht:P.underlying t=some .string)
    (hx:slimX P t1 x=some x') (hy:slimX P t2 y=some y') (h:opP P s.t (.ixs x' y') s.h K):o.wp P a w next Q:=by
  have hx':=slimX_ok hx r
  have hy':=slimX_ok hy r
  simp only [opP] at h
  split at h
  · rename_i b k i e1 e2
    rw [e1] at hx';rw [e2] at hy'
    have f1:=rv_sc hx';have f2:=rv_sc hy'
    obtain ⟨⟨i0,i1⟩,hK⟩:=h
    have hlt:i.toNat < b.size:=by omega
    refine fits_value r hn (x:=.int .u8 (b.data.getD i.toNat 0).toNat) ?_ rv_int hK
    simp only [execOp,ho]
    refine run_v ?_
    have hg:b[i.toNat]?=some (b.data.getD i.toNat 0):=by
      have:i.toNat < b.data.size:=hlt
      simp [hlt,Array.getD];rfl
    simp [Instr.index,f1,f2,asIntOf,run_underlying ht,i0,hg]
  · exact h.elim
theorem op_ext (r:Rel γ I w s a) (hn:Fits γ I w s.h a o.dst K next) {t1:TypeId} {i:Nat} {x:Operand} {x':X} (ho:o.op=.extract x i) (hx:slimX P t1 x=some x')
    (h:opP P s.t (.ext x' i) s.h K):o.wp P a w next Q:=by
  have hx':=slimX_ok hx r
  simp only [opP] at h
  split at h
  case h_2=>exact h.elim
  rename_i vs e1
  split at h
  case h_2=>exact h.elim
  rename_i v hv
  rw [e1] at hx';generalize hX:a.eval x=XX at hx'
  cases hx' with
  | @tu _ xs hl hr =>
  obtain ⟨y,y1,y2⟩:=RVs.get (vs:=vs) (xs:=xs) ⟨hl,hr⟩ hv
  exact fits_value r hn (x:=y) (by simp [execOp,ho,hX,Instr.extract,y1]) y2 h
theorem op_len (r:Rel γ I w s a) (hn:Fits γ I w s.h a o.dst K next) {t e t1:TypeId} {c:Call} {x:Operand} {x':X} (ho:o.op=.call c) (hc:c.callee=.builtin .len) (ha:c.args=#[x]) (hat:c.argTypes=#[t]) (ht:P.underlying t=some (.slice e)) (hx:slimX P t1 x=some x')
    (h:opP P s.t (.len x') s.h K):o.wp P a w next Q:=by
  simp only [opP] at h
  obtain ⟨v,Z,h1,h2,h3⟩:=lenP_ok (P:=P) (o:=o.type) ht (slimX_ok hx r) h
  refine fits_value r hn (x:=Z) ?_ h2 h3
  simp [execOp,ho,resolve,hc,ha,hat,invoke,builtin,h1]
theorem op_lens (r:Rel γ I w s a) (hn:Fits γ I w s.h a o.dst K next) {t t1:TypeId} {c:Call} {x:Operand} {x':X} (ho:o.op=.call c) (hc:c.callee=.builtin .len) (ha:c.args=#[x]) (hat:c.argTypes=#[t]) (ht:P.underlying t=some .string) (hx:slimX P t1 x=some x')
    (h:opP P s.t (.lens x') s.h K):o.wp P a w next Q:=by
  have hx':=slimX_ok hx r
  simp only [opP] at h
  split at h
  · rename_i b e1
    rw [e1] at hx';have e2:=rv_sc hx'
    refine fits_value r hn (x:=.int .i64 b.size) ?_ rv_int h
    simp [execOp,ho,resolve,hc,ha,hat,invoke,builtin,e2,Builtin.len_,run_underlying ht,goInt]
  · exact h.elim
theorem op_app (r:Rel γ I w s a) (hn:Fits γ I w s.h a o.dst K next) {t t2 e e2 u1 u2:TypeId} {n b:Nat} {z:List V} {c:Call} {x y:Operand} {x' y':X} (ho:o.op=.call c) (hc:c.callee=.builtin .append) (ha:c.args=#[x,y]) (hat:c.argTypes=#[t,t2])
    (ht:elemOfS P t=some e) (hs:szOf P e=some n) (hb:bytesIn P e=some b) (hz:zeroVs P e=some z) (hzl:z.length=n) (ht2:P.underlying t2=some (.slice e2)) (hx:slimX P u1 x=some x') (hy:slimX P u2 y=some y')
    (h:opP P s.t (.app n b x' y') s.h K):o.wp P a w next Q:=by
  obtain ⟨v,Z,H',γ',w',h1,h2,h3,h4,h5⟩:=appP_ok (o:=o.type) ht hs hb hz hzl ht2 r.heap (slimX_ok hx r) (slimX_ok hy r) h
  refine wp_value (x:=Z) ?_ (hn _ _ _ _ _ _ h2 h3 h4 h5)
  simp [execOp,ho,resolve,hc,ha,hat,invoke,builtin,h1]
theorem op_minmax (r:Rel γ I w s a) (hn:Fits γ I w s.h a o.dst K next) {u1 u2:TypeId} {c:Call} {x y:Operand} {x' y':X} {m:Bool} (ho:o.op=.call c) (hc:c.callee=.builtin (if m then .min else .max)) (ha:c.args=#[x,y])
    (hx:slimX P u1 x=some x') (hy:slimX P u2 y=some y') (h:opP P s.t (.minmax m x' y') s.h K):o.wp P a w next Q:=by
  have hx':=slimX_ok hx r
  have hy':=slimX_ok hy r
  simp only [opP] at h
  split at h
  · rename_i k i k' j e1 e2
    rw [e1] at hx';rw [e2] at hy'
    have f1:=rv_sc hx';have f2:=rv_sc hy'
    split at h
    case h_2=>exact h.elim
    rename_i hk
    have:=ikEq_ok hk
    subst this
    cases m
    · refine fits_value r hn (x:=.int k (max i j)) ?_ rv_int h
      simp [execOp,ho,resolve,hc,ha,invoke,builtin,f1,f2,run_max_int2];omega
    · refine fits_value r hn (x:=.int k (min i j)) ?_ rv_int h
      simp [execOp,ho,resolve,hc,ha,invoke,builtin,f1,f2,run_min_int2];omega
  · exact h.elim
theorem op_call (r:Rel γ I w s a) (hn:Fits γ I w s.h a o.dst K next) {u:TypeId} {tys:List TypeId} {c:Call} {f:Operand} {f':X} {as:List X} (ho:o.op=.call c) (hc:c.callee=.value f) (hf:slimX P u f=some f') (ha:slimXs P tys c.args.toList=some as)
    (h:opP P s.t (.call f' as) s.h K):o.wp P a w next Q:=by
  have hf':=slimX_ok hf r
  have ha':=slimXs_ok ha r
  simp only [opP,forceT_eq] at h
  split at h
  case h_2=>exact h.elim
  rename_i fid caps e1
  rw [e1] at hf';generalize hF:a.eval f=FF at hf'
  cases hf' with
  | @fn _ _ vs hl hr =>
  obtain ⟨⟨fn,q1,q2,q3⟩,hcall⟩:=h
  have hvs:RVs γ s.h I w (as.map (X.ev s.t)++caps) (c.args.toList.map a.eval++vs):=ha'.append ⟨hl,hr⟩
  have:=hcall γ I w _ r.heap hvs.1 hvs.2
  unfold Oper.wp
  have hrun:(execOp a.eval o).run P w=.ok (.enter fid (c.args.toList.map a.eval++vs).toArray) w:=by
    have q2':¬ fn.name = "runtime.NumGoroutine" := by simpa using q2
    have q3':¬ fn.body=none:=by intro e;rw [e] at q3;simp at q3
    simp [execOp,ho,resolve,hc,hF,Deferred.ofValue,invoke,callFunc,q1,q2',q3',amap]
  rw [hrun]
  simp only [Oper.upon]
  refine this.mono fun e w' ⟨r1,x,H',γ',I',h1,h2,h3,h4,h5⟩=>?_
  subst h1
  exact hn _ _ _ _ _ _ h2 h3 h4 h5
def PanOk (P:Prg) (γ:List (Option Nat)) (I:Nat→Prop) (w:World) (s:St) (a:Act) (Q:Exit→Act→World→Prop):Prop :=
  ∀ (c:Int) (s':St) γ' I' w' (a':Act),P.pq c s'.h→Rel γ' I' w' s' a'→Ext γ s.h I w γ' s'.h I' w'→a'.defers=a.defers→Q (.panic [{ v:=P.pv c,recovered:=false }]) a' w'
theorem op_pcall (r:Rel γ I w s a) (hn:Fits γ I w s.h a o.dst K next) (hp:PanOk P γ I w s a Q) {u:TypeId} {tys:List TypeId} {c:Call} {f:Operand} {f':X} {as:List X} (ho:o.op=.call c) (hc:c.callee=.value f) (hf:slimX P u f=some f') (ha:slimXs P tys c.args.toList=some as)
    (h:opP P s.t (.pcall f' as) s.h K):o.wp P a w next Q:=by
  have hf':=slimX_ok hf r
  have ha':=slimXs_ok ha r
  simp only [opP,forceT_eq] at h
  split at h
  case h_2=>exact h.elim
  rename_i fid caps e1
  rw [e1] at hf';generalize hF:a.eval f=FF at hf'
  cases hf' with
  | @fn _ _ vs hl hr =>
  obtain ⟨⟨fn,q1,q2,q3⟩,hcall⟩:=h
  have hvs:RVs γ s.h I w (as.map (X.ev s.t)++caps) (c.args.toList.map a.eval++vs):=ha'.append ⟨hl,hr⟩
  have:=hcall γ I w _ r.heap hvs.1 hvs.2
  unfold Oper.wp
  have hrun:(execOp a.eval o).run P w=.ok (.enter fid (c.args.toList.map a.eval++vs).toArray) w:=by
    have q2':¬ fn.name = "runtime.NumGoroutine" := by simpa using q2
    have q3':¬ fn.body=none:=by intro e;rw [e] at q3;simp at q3
    simp [execOp,ho,resolve,hc,hF,Deferred.ofValue,invoke,callFunc,q1,q2',q3',amap]
  rw [hrun]
  simp only [Oper.upon]
  refine this.mono fun e w' q=>?_
  rcases q with ⟨r1,x,H',γ',I',h1,h2,h3,h4,h5⟩|⟨n,H',γ',I',h1,h2,h3,h4⟩
  · subst h1
    exact hn _ _ _ _ _ _ h2 h3 h4 h5
  · subst h1
    exact hp n ⟨s.t,H'⟩ γ' I' w' a h2 (r.ext h4 h3) h4 rfl
end
end Go.Aw
namespace Go.Aw
inductive All2 {α β:Type} (R:α→β→Prop):List α→List β→Prop where
  | nil:All2 R [] []
  | cons {a:α} {b:β} {l:List α} {m:List β} (h:R a b) (t:All2 R l m):All2 R (a::l) (b::m)
theorem wr_toList (c:Array Value) (o:Nat) (xs:List Value) (h:o+xs.length≤c.size):(wr c o xs).toList=c.toList.take o++xs++c.toList.drop (o+xs.length):=by
  apply List.ext_getElem?
  intro j
  have:=wr_get c o xs h j
  rw [Array.getElem?_toList,this]
  by_cases h1:j < o
  · rw [if_neg (by omega),List.append_assoc,List.getElem?_append_left (by simp;omega),List.getElem?_take,if_pos h1];simp
  · by_cases h2:j < o+xs.length
    · rw [if_pos (by omega),List.append_assoc,List.getElem?_append_right (by simp;omega),List.getElem?_append_left (by simp;omega)]
      congr 1;simp;omega
    · rw [if_neg (by omega),List.getElem?_append_right (by simp;omega),List.getElem?_drop]
      simp only [Array.getElem?_toList]
      congr 1;simp;omega
theorem foldl_wr (o:Nat):∀ (xs:List Value) (k:Nat) (c:Array Value),(xs.zipIdx k).foldl (fun cs (p:Value×Nat)=>cs.setIfInBounds (o+p.2) p.1) c=wr c (o+k) xs
  | [],_,_=>rfl
  | x::xs,k,c=>by simp only [List.zipIdx_cons,List.foldl_cons,wr];rw [foldl_wr o xs (k+1)];rfl
theorem fill_step {place:Nat→Option (Nat×Nat)} {c:Array Value} {i off n:Nat} {v:Value} {rest:List (Nat×Value)} (hp:place i=some (off,n)) (hn:v.cells.size=n) (hle:off+n≤c.size) :
    Instr.fill place c ((i,v)::rest)=Instr.fill place (wr c off v.cells.toList) rest:=by
  simp only [Instr.fill,hp]
  rw [if_neg (by simp;omega)]
  congr 1
  have:=foldl_wr off v.cells.toList 0 c
  rw [Nat.add_zero] at this
  rw [← this,← Array.foldl_toList]
  simp [Array.toList_zipIdx]
section
variable {P:Prg} {wf:Nat} {o:Oper} {s:St} {a:Act} {γ:List (Option Nat)} {I:Nat→Prop} {w:World} {K:V→List Blk→Prop}
  {next:Act→World→Prop} {Q:Exit→Act→World→Prop}
theorem fill_build {place:Nat→Option (Nat×Nat)}:∀ {ps:List (Nat×Nat×V)} {vs:List (Nat×Value)} {z cs:List V} {c:Array Value},RCs γ s.h I w z c.toList→buildV z ps=some cs →
    All2 (fun p v=>place v.1=some (p.1,p.2.1)∧RV γ s.h I w p.2.2 v.2) ps vs→∃ c',Instr.fill place c vs=some c'∧RCs γ s.h I w cs c'.toList
  | [],vs,z,cs,c,hz,hb,hf=>by cases hf;simp [buildV] at hb;subst hb;exact ⟨c,rfl,hz⟩
  | (off,n,v)::ps,_,z,cs,c,hz,hb,.cons (b:=x) h1 hf=>by
    simp only [buildV] at hb
    split at hb
    · rename_i hcond
      obtain ⟨q1,q2,q3⟩:=hcond
      obtain ⟨i,X⟩:=x
      have hc:=cells_ok h1.2 q1
      have hlen:X.cells.toList.length=n:=by rw [hc.rv.1];exact q2
      have hcz:c.size=z.length:=by have:=hz.rv.1;simpa using this
      have hp:place i=some (off,n):=h1.1
      rw [fill_step hp (by simpa using hlen) (by omega)]
      refine fill_build ?_ hb hf
      rw [wr_toList _ _ _ (by rw [hlen];omega),hlen]
      exact ((hz.take off).append hc).append (hz.drop (off+n))
    · simp at hb
theorem optL_forall {α β:Type} {f:α→Option β}:∀ {l:List α} {r:List β},optL (l.map f)=some r→All2 (fun a b=>f a=some b) l r
  | [],r,h=>by simp [optL] at h;subst h;exact .nil
  | x::l,r,h=>by
    simp only [List.map_cons] at h
    cases hf:f x with
    | none=>rw [hf] at h;simp [optL] at h
    | some y =>
      rw [hf] at h
      simp only [optL] at h
      cases hr:optL (l.map f) with
      | none=>rw [hr] at h;simp at h
      | some r'=>rw [hr] at h;simp at h;subst h;exact .cons hf (optL_forall hr)
theorem places_ok {fs:List Field} {ns:List Nat} (h:optL (fs.map fun f=>szOf P f.type)=some ns) :
    (fs.mapM (m:=Sem) fun f=>do pure (f.offset,← sizeOf f.type)).run P w=.ok ((fs.zip ns).map fun p=>(p.1.offset,p.2)) w:=by
  induction fs generalizing ns with
  | nil=>simp [optL] at h;subst h;rfl
  | cons f fs ih =>
    simp only [List.map_cons] at h
    cases hf:szOf P f.type with
    | none=>rw [hf] at h;simp [optL] at h
    | some n =>
      rw [hf] at h;simp only [optL] at h
      cases hr:optL (fs.map fun f=>szOf P f.type) with
      | none=>rw [hr] at h;simp at h
      | some r' =>
        rw [hr] at h;simp at h;subst h
        rw [List.mapM_cons]
        simp only [Sem.run_bind,run_sizeOf hf,Result.andThen_ok,Sem.run_pure,ih hr]
        rfl
theorem op_build (r:Rel γ I w s a) (hn:Fits γ I w s.h a o.dst K next) {t:TypeId} {fs:Array Field} {parts:Array (Nat×Operand)} {z:List V} {ns:List Nat} {ps:List (Nat×Nat×X)} (ho:o.op=.build t parts) (ht:P.underlying t=some (.struct fs)) (hz:zeroVs P t=some z)
    (hns:optL (fs.toList.map fun f=>szOf P f.type)=some ns)
    (hp:optL (parts.toList.map fun p=>(fs[p.1]?).bind fun f=>(szOf P f.type).bind fun n=>(slimX P f.type p.2).map fun x=>(f.offset,n,x))=some ps)
    (h:opP P s.t (.build z ps) s.h K):o.wp P a w next Q:=by
  simp only [opP] at h
  split at h
  case h_2=>exact h.elim
  rename_i cs hcs
  obtain ⟨zv,z1,hzc⟩:=zeroVs_ok (s:=s) (γ:=γ) (I:=I) (w:=w) hz
  have hpl:=places_ok (P:=P) (w:=w) hns
  have hnsf:=optL_forall hns
  have hget:∀ (i n:Nat) (f:Field),fs[i]?=some f→szOf P f.type=some n→(((fs.toList.zip ns).map fun p=>(p.1.offset,p.2)).toArray)[i]?=some (f.offset,n):=by
    intro i n f hf hsz
    have h1:fs.toList[i]?=some f:=by simpa using hf
    have h2:ns[i]?=some n:=by
      have:=congrArg (·[i]?) (optL_some hns)
      simp [hf,hsz] at this
      cases hni:ns[i]? with
      | none=>rw [hni] at this;simp at this
      | some m=>rw [hni] at this;simp at this;rw [this]
    have h3:(fs.toList.zip ns)[i]?=some (f,n):=List.getElem?_zip_eq_some.2 ⟨h1,h2⟩
    simp [h3]
  obtain ⟨c',hfill,hc'⟩:=fill_build (s:=s) (γ:=γ) (I:=I) (w:=w) (place:=fun i=>(((fs.toList.zip ns).map fun p=>(p.1.offset,p.2)).toArray)[i]?) (vs:=parts.toList.map fun p=>(p.1,a.eval p.2)) hzc hcs (by
    have:=optL_forall hp
    clear hp hcs
    generalize parts.toList=pl at this
    induction this with
    | nil=>exact .nil
    | @cons p x pl ps hpx _ ih =>
      refine .cons ?_ ih
      obtain ⟨i,op⟩:=p
      cases hf:fs[i]? with
      | none=>simp [hf] at hpx
      | some f =>
        cases hsz:szOf P f.type with
        | none=>simp [hf,hsz] at hpx
        | some n =>
          cases hx:slimX P f.type op with
          | none=>simp [hf,hsz,hx] at hpx
          | some x' =>
            simp [hf,hsz,hx] at hpx;subst hpx
            exact ⟨hget i n f hf hsz,slimX_ok hx r⟩)
  refine fits_value r hn (x:=.agg c') ?_ (by have:=mkAg_ok hc';simpa using this) h
  simp only [execOp,ho]
  refine run_v ?_
  have hfs:(fs.mapM (m:=Sem) fun f=>do pure (f.offset,← sizeOf f.type)).run P w=.ok ((fs.toList.zip ns).map fun p=>(p.1.offset,p.2)).toArray w:=by
    have:fs=fs.toList.toArray:=by simp
    rw [this,List.mapM_toArray,Sem.run_map,← this,hpl]
    rfl
  simp only [Instr.build,Sem.run_bind,z1,Result.andThen_ok,run_underlying ht,hfs]
  have hmap:(parts.map fun x:Nat×Operand=>(x.1,a.eval x.2)).toList=parts.toList.map fun p=>(p.1,a.eval p.2):=by simp
  simp only [hmap,hfill]
  rfl
theorem fill_seq {sz:Nat}:∀ {ps:List (Nat×Value)} {vs:List V} {k:Nat} {c:Array Value},ps.map (·.1)=(List.range' k vs.length)→cellsAll sz vs →
    RVs γ s.h I w vs (ps.map (·.2))→c.size=(k+vs.length)*sz →
    ∃ c',Instr.fill (fun i=>some (i*sz,sz)) c ps=some c'∧c'.size=c.size∧(∀ j,j < k*sz→c'[j]?=c[j]?)∧RCs γ s.h I w (flatV vs) (c'.toList.drop (k*sz))
  | [],[],k,c,_,_,_,hs=>by
    have:c.toList.drop (k*sz)=[]:=by simp at hs ⊢;omega
    exact ⟨c,rfl,rfl,fun _ _=>rfl,by rw [this];exact RCs.nil⟩
  | [],v::vs,k,c,hp,_,_,_=>by simp at hp
  | (i,X)::ps,[],k,c,hp,_,_,_=>by simp at hp
  | (i,X)::ps,v::vs,k,c,hp,ha,hv,hs=>by
    simp only [List.map_cons,List.length_cons,List.range'_succ,List.cons.injEq] at hp
    obtain ⟨rfl,hp⟩:=hp
    obtain ⟨⟨q1,q2⟩,ha⟩:=ha
    obtain ⟨x,xs,he,hv1,hv2⟩:=hv.uncons
    simp only [List.map_cons,List.cons.injEq] at he
    obtain ⟨rfl,rfl⟩:=he
    have hc:=cells_ok hv1 q1
    have hlen:X.cells.toList.length=sz:=by rw [hc.rv.1];exact q2
    simp only [List.length_cons] at hs
    have hle:i*sz+sz≤c.size:=by
      rw [hs];have:(i+1)*sz≤(i+(vs.length+1))*sz:=Nat.mul_le_mul_right sz (by omega)
      rw [Nat.add_mul] at this;omega
    obtain ⟨c',f1,f2,f3,f4⟩:=fill_seq (k:=i+1) (c:=wr c (i*sz) X.cells.toList) hp ha hv2 (by simp [hs];congr 1;omega)
    refine ⟨c',?_,by simpa using f2,fun j hj=>?_,?_⟩
    · rw [fill_step (n:=sz) rfl (by simpa using hlen) hle];exact f1
    · rw [f3 j (by rw [Nat.add_mul];omega),wr_get _ _ _ (by rw [hlen];exact hle),if_neg (by omega)]
    · have hsplit:c'.toList.drop (i*sz)=X.cells.toList++c'.toList.drop ((i+1)*sz):=by
        apply List.ext_getElem?
        intro j
        rw [List.getElem?_drop,Array.getElem?_toList]
        rcases Nat.lt_or_ge j sz with h1|h1
        · rw [List.getElem?_append_left (by omega),f3 _ (by rw [Nat.add_mul];omega),wr_get _ _ _ (by rw [hlen];exact hle),if_pos (by omega)]
          congr 1;omega
        · rw [List.getElem?_append_right (by omega),List.getElem?_drop,Array.getElem?_toList,hlen]
          congr 1;rw [Nat.add_mul];omega
      rw [hsplit]
      simp only [flatV,List.flatMap_cons]
      exact hc.append f4
theorem op_bslD (r:Rel γ I w s a) (hn:Fits γ I w s.h a o.dst K next) {t e:TypeId} {len n:Nat} {parts:Array (Nat×Operand)} {z:List V} {ps:List X} (ho:o.op=.buildSlice t len parts) (ht:elemOfS P t=some e) (hs:szOf P e=some n) (hz:zeroVs P e=some z)
    (hidx:parts.toList.map (·.1)=List.range len) (hbd:len*n≤2 ^ 24) (hp:optL (parts.toList.map fun p=>slimX P e p.2)=some ps)
    (hdis:cellsAll n (ps.map (X.ev s.t))∧((∃ ts,optL ((ps.map (X.ev s.t)).map lit0)=some ts∧K (.g (.sl n ts)) s.h)∨K (.own s.h.length 0 0 ps.length) (s.h++[.arr 0 n (ps.map (X.ev s.t))]))):o.wp P a w next Q:=by
  obtain ⟨hall,hK⟩:=hdis
  obtain ⟨zv,z1,hzc⟩:=zeroVs_ok (s:=s) (γ:=γ) (I:=I) (w:=w) hz
  have hlen:parts.toList.length=len:=by have:=congrArg List.length hidx;simpa using this
  have hpl:ps.length=len:=by have:=congrArg List.length (optL_some hp);simp at this;simp at hlen;omega
  have hev:RVs γ s.h I w (ps.map (X.ev s.t)) ((parts.toList.map fun p=>(p.1,a.eval p.2)).map (·.2)):=by
    have:(parts.toList.map fun p:Nat×Operand=>(p.1,a.eval p.2)).map (·.2)=(parts.toList.map (·.2)).map a.eval:=by simp
    rw [this]
    exact optX_ok (ty:=e) (xs:=parts.toList.map (·.2)) (by simpa [List.map_map,Function.comp_def] using hp) r
  have hc0:∀ zero:Array Value,((Array.range (len*n)).map (fun i=>zero[i % zero.size]!)).size=len*n:=by intro zero;simp
  have fin:∀ zero:Array Value,∃ c',Instr.fill (fun i=>some (i*n,n)) ((Array.range (len*n)).map (fun i=>zero[i % zero.size]!)) (parts.toList.map fun p=>(p.1,a.eval p.2))=some c'∧c'.size=len*n∧RCs γ s.h I w (flatV (ps.map (X.ev s.t))) c'.toList:=by
    intro zero
    obtain ⟨c',f1,f2,_,f4⟩:=fill_seq (s:=s) (γ:=γ) (I:=I) (w:=w) (sz:=n) (ps:=parts.toList.map fun p=>(p.1,a.eval p.2)) (vs:=ps.map (X.ev s.t)) (k:=0) (c:=(Array.range (len*n)).map (fun i=>zero[i % zero.size]!))
      (by rw [List.map_map];simp only [Function.comp_def,List.length_map,hpl];rw [← List.range_eq_range'];exact hidx) hall hev (by rw [hc0];simp [hpl])
    exact ⟨c',f1,by rw [f2,hc0],by simpa using f4⟩
  have hmap:(parts.map fun x:Nat×Operand=>(x.1,a.eval x.2)).toList=parts.toList.map fun p=>(p.1,a.eval p.2):=by simp
  have hrun:∃ c',(execOp a.eval o).run P w=.ok (.value (.slice (some ⟨w.heap.size,0,none⟩) len len)) (w.alloc (.cells c' e))∧c'.size=len*n∧RCs γ s.h I w (flatV (ps.map (X.ev s.t))) c'.toList:=by
    by_cases h0:len*n=0
    · obtain ⟨c',f1,f2,f3⟩:=fin #[]
      refine ⟨c',?_,f2,f3⟩
      simp only [execOp,ho]
      refine run_v ?_
      simp only [Instr.buildSlice,Sem.run_bind,run_underlying (run_elem ht),Result.andThen_ok,run_sizeOf hs,hmap]
      rw [if_neg (by omega),if_pos h0]
      simp only [Sem.run_pure,Sem.run_bind,Result.andThen_ok,f1,newRow,run_newObj,World.alloc_eq]
    · obtain ⟨c',f1,f2,f3⟩:=fin zv.cells
      refine ⟨c',?_,f2,f3⟩
      simp only [execOp,ho]
      refine run_v ?_
      simp only [Instr.buildSlice,Sem.run_bind,run_underlying (run_elem ht),Result.andThen_ok,run_sizeOf hs,hmap]
      rw [if_neg (by omega),if_neg h0]
      simp only [Sem.run_pure,Sem.run_bind,Result.andThen_ok,z1,f1,newRow,run_newObj,World.alloc_eq]
  obtain ⟨c',h1,h2,h3⟩:=hrun
  have hwf:∀ v∈ps.map (X.ev s.t),v.cells.length=n:=fun v hv=>(cellsAll_mem hall v hv).2
  obtain ⟨a1,a2⟩:=alloc_ok (c:=c') (el:=e) (sz:=n) (es:=ps.map (X.ev s.t)) r.heap hwf (by rw [h2];simp [hpl]) (fun i v hi=>by obtain ⟨y,y1,y2,y3⟩:=h3.get hi;exact ⟨y,by simpa using y1,y2,y3⟩) 0
  have hown:RV (γ++[some w.heap.size]) (s.h++[.arr 0 n (ps.map (X.ev s.t))]) I (w.alloc (.cells c' e)) (.own s.h.length 0 0 ps.length) (.slice (some ⟨w.heap.size,0,none⟩) len len):=by
   rw [← hpl]
   refine .own (g':=0) (sz:=n) (es:=ps.map (X.ev s.t)) (by simp) (Nat.le_refl _) (Nat.le_refl _) (fun _=>⟨by simp,.inr ⟨w.heap.size,?_,.inr (by simp),?_⟩⟩)
   · rw [List.getElem?_append_right (by rw [r.heap.len];exact Nat.le_refl _)];simp [r.heap.len]
   · exact ⟨c',e,(0,0),by show (w.heap.push _)[w.heap.size]?=_;simp,by rw [h2,hpl];simp⟩
  rcases hK with ⟨ts,l1,hK⟩|hK
  · have hge:∀ (b k g sz:Nat) (es:List V),s.h.length≤b→(s.h++[.arr 0 n (ps.map (X.ev s.t))])[b]?=some (.arr g sz es)→(γ++[some w.heap.size])[b]?=some (some k)→(I k∨k=w.heap.size):=fun b k _ _ _ hb _ hk=>by
      rw [List.getElem?_append_right (by rw [r.heap.len];exact hb)] at hk
      have:b-γ.length=0:=by have:=lt_of_get hk;simpa using this
      rw [this] at hk;simp at hk;exact .inr hk.symm
    have hgr:gr s.h.length (s.h++[.arr 0 n (ps.map (X.ev s.t))]) 1 (.own s.h.length 0 0 ps.length)=some (.sl n ts):=by
      have e0:gr s.h.length (s.h++[.arr 0 n (ps.map (X.ev s.t))]) 0=lit0:=by
        funext v;cases v <;> rfl
      have hget:(s.h++[.arr 0 n (ps.map (X.ev s.t))])[s.h.length]?=some (.arr 0 n (ps.map (X.ev s.t))):=by simp
      rw [gr,hget]
      simp only
      rw [if_pos (by simp)]
      have:((ps.map (X.ev s.t)).drop 0).take ps.length=ps.map (X.ev s.t):=by rw [List.drop_zero,List.take_of_length_le (by simp)]
      rw [this,e0,l1]
      rfl
    have hrt:=gr_sound (I1:=fun k=>I k∨k=w.heap.size) a1 (fun k hk=>.inl hk) hge 1 _ _ _ hgr hown
    have r2:RelH ((γ++[some w.heap.size]).take s.h.length) (fun k=>I k∨k=w.heap.size) (w.alloc (.cells c' e)) s.h:=by
      refine a1.take (fun b x hb=>r.heap.lt hb) (fun k hk=>.inl hk) (fun k hk=>?_)
      rcases hk with hk|rfl
      · exact ⟨a1.imm k hk,fun b _ hb=>(a1.off b k hb).1 hk⟩
      · refine ⟨⟨c',e,(0,0),by show (w.heap.push _)[w.heap.size]?=_;simp⟩,fun b hb hk=>?_⟩
        · rw [List.getElem?_append_left (by rw [r.heap.len];exact hb)] at hk
          exact absurd (r.heap.off b _ hk).2 (Nat.lt_irrefl _)
    have ht:(γ++[some w.heap.size]).take s.h.length=γ:=by rw [← r.heap.len];simp
    rw [ht] at r2
    refine wp_value h1 (hn _ _ _ _ _ _ hK r2 (.g hrt) ?_)
    have a3:=a2.take r.heap rfl
    rw [ht] at a3
    exact {
      os:=a3.os,tape:=a3.tape,output:=a3.output,size:=a3.size
      sub:=fun k hk=>.inl hk
      sub':=fun k hk=>by
        rcases hk with hk|rfl
        · exact .inl hk
        · exact .inr (.inl (Nat.le_refl _))
      frame:=a3.frame,rows:=a3.rows,blk:=a3.blk,new:=a3.new }
  · exact wp_value h1 (hn _ _ _ _ _ _ hK a1 hown a2)
theorem op_bsl (r:Rel γ I w s a) (hn:Fits γ I w s.h a o.dst K next) {t e:TypeId} {len n:Nat} {parts:Array (Nat×Operand)} {z:List V} {ps:List X} (ho:o.op=.buildSlice t len parts) (ht:elemOfS P t=some e) (hs:szOf P e=some n) (hz:zeroVs P e=some z)
    (hidx:parts.toList.map (·.1)=List.range len) (hbd:len*n≤2 ^ 24) (hp:optL (parts.toList.map fun p=>slimX P e p.2)=some ps)
    (h:opP P s.t (.bsl n ps) s.h K):o.wp P a w next Q:=by
  refine op_bslD r hn ho ht hs hz hidx hbd hp ?_
  cases ps with
  | nil=>simp only [opP,addB_eq] at h;exact ⟨trivial,.inr h⟩
  | cons x xs =>
    simp only [opP,forceT_eq,addB_eq,List.length_map] at h
    refine ⟨h.1,?_⟩
    have h2:=h.2
    cases hb:ownLit (x::xs) <;> rw [hb] at h2
    · exact litK_or _ _ _ h2
    · exact .inr h2
theorem op_bslo (r:Rel γ I w s a) (hn:Fits γ I w s.h a o.dst K next) {t e:TypeId} {len n:Nat} {parts:Array (Nat×Operand)} {z:List V} {ps:List X} (ho:o.op=.buildSlice t len parts) (ht:elemOfS P t=some e) (hs:szOf P e=some n) (hz:zeroVs P e=some z)
    (hidx:parts.toList.map (·.1)=List.range len) (hbd:len*n≤2 ^ 24) (hp:optL (parts.toList.map fun p=>slimX P e p.2)=some ps)
    (h:opP P s.t (.bslo n ps) s.h K):o.wp P a w next Q:=by
  simp only [opP,forceT_eq,addB_eq,List.length_map] at h
  exact op_bslD r hn ho ht hs hz hidx hbd hp ⟨h.1,.inr h.2⟩
theorem flatV_rep (z:V) (sz:Nat) (hz:z.cells.length=sz) (m j:Nat) (v:V) (h:(flatV (List.replicate m z))[j]?=some v):j < m*sz∧z.cells[j % sz]?=some v:=by
  have hwf:∀ e∈List.replicate m z,e.cells.length=sz:=fun e he=>by rw [(List.mem_replicate.1 he).2];exact hz
  have hj:=lt_of_get h
  rw [flatV_len hwf,List.length_replicate] at hj
  refine ⟨hj,?_⟩
  obtain ⟨s1,s2,s3⟩:=flat_split hj
  rw [s3,flatV_get hwf (j / sz) z (by simp [s1]) _ s2] at h
  exact h
theorem op_mks (r:Rel γ I w s a) (hn:Fits γ I w s.h a o.dst K next) {t e t1:TypeId} {n b:Nat} {z:V} {l c:Operand} {l':X} (ho:o.op=.makeSlice t l c) (ht:elemOfS P t=some e) (hs:szOf P e=some n) (hb:bytesIn P e=some b) (hz:zeroV P e=some z)
    (hl:slimX P t1 l=some l') (hc:a.eval c=a.eval l) (hpos:0 < n) (h:opP P s.t (.mks n b z l') s.h K):o.wp P a w next Q:=by
  have hl':=slimX_ok hl r
  simp only [opP,addB_eq] at h
  split at h
  case h_2=>exact h.elim
  rename_i i e1
  rw [e1] at hl'
  have hL:=rv_sc hl'
  obtain ⟨⟨i0,i1⟩,hzn,hK⟩:=h
  obtain ⟨zv,z1,hzc,_⟩:=zeroV_ok (s:=s) (γ:=γ) (I:=I) (w:=w) hz
  obtain ⟨m,rfl⟩:∃ m:Nat,i=m:=⟨i.toNat,by omega⟩
  have hzs:zv.cells.size=n:=by have:=hzc.rv.1;simp at this;omega
  have hle:(m:Int)≤140737488355328:=by
    have:(m:Int)*1≤(m:Int)*(b+1):=Int.mul_le_mul_of_nonneg_left (by omega) (by omega)
    omega
  have hbm:(b:Int)*m≤140737488355328:=by
    have:(m:Int)*b≤(m:Int)*(b+1):=Int.mul_le_mul_of_nonneg_left (by omega) (by omega)
    rw [Int.mul_comm];omega
  have hw:IntKind.i64.wrap (m:Int)=m:=wrap_in (by simp [inR,IntKind.min,IntKind.max,IntKind.signed,IntKind.bits];omega)
  unfold bytesIn at hb
  cases hi:P.info? e with
  | none=>rw [hi] at hb;simp at hb
  | some info =>
  rw [hi] at hb;simp at hb;subst hb
  have hrun:∃ cc:Array Value,(execOp a.eval o).run P w=.ok (.value (.slice (some ⟨w.heap.size,0,none⟩) m m)) (w.alloc (.cells cc e))∧cc.size=m*n∧∀ j,j < m*n→cc[j]?=some (zv.cells.getD (j % n) undef):=by
    refine ⟨(Array.range (m*n)).map (fun i=>(if m*n=0 then #[] else zv.cells)[i % (if m*n=0 then #[] else zv.cells).size]!),?_,by simp,fun j hj=>?_⟩
    · simp only [execOp,ho]
      refine run_v ?_
      simp only [Instr.makeSlice,Sem.run_bind,run_underlying (run_elem ht),Result.andThen_ok,hc,hL,asInt,asIntOf,Sem.run_pure,run_typeInfo hi,hw]
      split
      · rename_i hh;exfalso;simp at hh;omega
      · simp only [Sem.run_bind,run_askRoom,Result.andThen_ok,run_sizeOf hs,Int.toNat_natCast]
        by_cases h0:m*n=0
        · simp only [h0,if_true,Sem.run_bind,Sem.run_pure,Result.andThen_ok,newRow,run_newObj,World.alloc_eq]
        · simp only [h0,if_false,Sem.run_bind,Sem.run_pure,Result.andThen_ok,newRow,run_newObj,World.alloc_eq,z1]
    · have:¬ m*n=0:=by omega
      have hmod:j % n < n:=Nat.mod_lt _ hpos
      simp [this,hj,hzs,hmod]
  obtain ⟨cc,h1,h2,h3⟩:=hrun
  simp only [Int.toNat_natCast] at hK
  have hzn':∀ v∈List.replicate m z,v.cells.length=n:=fun v hv=>by rw [(List.mem_replicate.1 hv).2];exact hzn
  obtain ⟨a1,a2⟩:=alloc_ok (c:=cc) (el:=e) (sz:=n) (es:=List.replicate m z) r.heap hzn' (by rw [h2];simp) (fun j v hj=>by
    obtain ⟨k1,k2⟩:=flatV_rep z n hzn m j v hj
    obtain ⟨y,y1,y2,y3⟩:=hzc.get k2
    refine ⟨y,?_,y2,y3⟩
    rw [h3 j k1]
    have:zv.cells[j % n]?=some y:=by simpa using y1
    simp [Array.getD_eq_getD_getElem?,this]) 0
  refine wp_value h1 (hn _ _ _ _ _ _ hK a1 ?_ a2)
  refine .own (g':=0) (sz:=n) (es:=List.replicate m z) (by simp) (Nat.le_refl _) (Nat.le_refl _) (fun _=>⟨by simp,.inr ⟨w.heap.size,?_,.inr (by simp),?_⟩⟩)
  · rw [List.getElem?_append_right (by rw [r.heap.len];exact Nat.le_refl _)];simp [r.heap.len]
  · exact ⟨cc,e,(0,0),by show (w.heap.push _)[w.heap.size]?=_;simp,by rw [h2];simp⟩
theorem op_slcs (r:Rel γ I w s a) (hn:Fits γ I w s.h a o.dst K next) {t t1 t2 t3:TypeId} {x:Operand} {x':X} {lo hi:Option Operand} {lo' hi':Option X} (ho:o.op=.slice t x lo hi none) (ht:P.underlying t=some .string)
    (hx:slimX P t1 x=some x') (hlo:(lo=none∧lo'=none)∨∃ l l',lo=some l∧lo'=some l'∧slimX P t2 l=some l')
    (hhi:(hi=none∧hi'=none)∨∃ l l',hi=some l∧hi'=some l'∧slimX P t3 l=some l') (h:opP P s.t (.slcs x' lo' hi') s.h K):o.wp P a w next Q:=by
  have hx':=slimX_ok hx r
  simp only [opP,slcsP] at h
  split at h
  case h_2=>exact h.elim
  rename_i b e1
  split at h
  case h_2=>exact h.elim
  rename_i l m hl hm
  obtain ⟨⟨b1,b2,b3⟩,hK⟩:=h
  rw [e1] at hx';have e2:=rv_sc hx'
  refine fits_value r hn (x:=.string (b.extract l.toNat m.toNat)) ?_ rv_str hK
  simp only [execOp,ho]
  refine run_v ?_
  have r1:∀ k c,(Instr.sliceBound (.int k m) b.size c).run P w=.ok m.toNat w:=fun k c=>run_bound (by omega) (by omega)
  have r2:∀ k c,(Instr.sliceBound (.int k l) m.toNat c).run P w=.ok l.toNat w:=fun k c=>run_bound (by omega) (by omega)
  have hB:(Instr.sliceBounds false b.size b.size (lo.map a.eval) (hi.map a.eval) none).run P w=.ok (l.toNat,m.toNat,b.size) w:=by
    rcases hhi with ⟨rfl,rfl⟩|⟨u,u',rfl,rfl,hu⟩
    · simp at hm;subst hm
      simp only [Int.toNat_natCast] at r2
      rcases hlo with ⟨rfl,rfl⟩|⟨v,v',rfl,rfl,hv⟩
      · simp at hl;subst hl;simp [Instr.sliceBounds]
      · obtain ⟨k,hk⟩:=bound_ok hl (slimX_ok hv r)
        simp [Instr.sliceBounds,hk,r2]
    · obtain ⟨k,hk⟩:=bound_ok hm (slimX_ok hu r)
      rcases hlo with ⟨rfl,rfl⟩|⟨v,v',rfl,rfl,hv⟩
      · simp at hl;subst hl;simp [Instr.sliceBounds,hk,r1]
      · obtain ⟨k2,hk2⟩:=bound_ok hl (slimX_ok hv r)
        simp [Instr.sliceBounds,hk,hk2,r1,r2]
  simp [Instr.sliceAt,Instr.slice,run_underlying ht,e2,hB]
end
end Go.Aw
namespace Go.Aw
section
variable {P:Prg} {wf:Nat} {o:Oper} {s:St} {a:Act} {γ:List (Option Nat)} {I:Nat→Prop} {w:World} {K:V→List Blk→Prop}
  {next:Act→World→Prop} {Q:Exit→Act→World→Prop} {H:List Blk}
theorem op_cap (r:Rel γ I w s a) (hn:Fits γ I w s.h a o.dst K next) {t e t1:TypeId} {c:Call} {x:Operand} {x':X} (ho:o.op=.call c) (hc:c.callee=.builtin .cap) (ha:c.args=#[x]) (hat:c.argTypes=#[t]) (ht:P.underlying t=some (.slice e)) (hx:slimX P t1 x=some x')
    (h:opP P s.t (.cap x') s.h K):o.wp P a w next Q:=by
  have hx':=slimX_ok hx r
  simp only [opP] at h
  have key:∃ (b:Option Addr) (len cap:Nat),a.eval x=.slice b len cap∧K (.g (.i cap)) s.h:=by
    unfold capP at h
    generalize X.ev s.t x'=Y at *
    split at h
    · generalize a.eval x=Z at *
      cases hx';exact ⟨_,_,_,rfl,h⟩
    · generalize a.eval x=Z at *
      cases hx' with
      | own hb hg hl hcc=>exact ⟨_,_,_,rfl,h _ hl⟩
    · generalize a.eval x=Z at *
      cases hx' with
      | g hx'=>cases hx' with
        | sl k o vs ha hw hl=>exact ⟨_,_,_,rfl,h _ hl⟩
    · exact h.elim
  obtain ⟨b,len,cap,e1,hK⟩:=key
  refine fits_value r hn (x:=.int .i64 cap) ?_ rv_int hK
  simp [execOp,ho,resolve,hc,ha,hat,invoke,builtin,e1,Builtin.cap_,run_underlying ht,goInt]
theorem shown_take (r:RelH γ I w H) {y:V} {Y:Value} {sy:Nat} {ys:List V} (hy:RV γ H I w y Y) (h:Shown H sy y ys) {m:Nat} (hm:m≤ys.length) :
    ∃ xs,RCs γ H I w (flatV (ys.take m)) xs∧(Builtin.firstCells sy m Y).run P w=.ok xs.toArray w:=by
  rcases h with h|⟨s,rfl,rfl⟩
  · cases y with
    | g t =>
      cases t with
      | sl s es =>
        simp [elems] at h;obtain ⟨rfl,rfl⟩:=h
        cases hy with|g hy =>
        cases hy with
        | @sl _ _ a cap k o vs ha hw hl hc h1 hr =>
        simp at hm
        have hf:∀ (i:Nat) (t:T),(flatT (es.take m))[i]?=some t→(flatT es)[i]?=some t:=fun i t hi=>by
          have:flatT es=flatT (es.take m)++flatT (es.drop m):=by unfold flatT;rw [← List.flatMap_append,List.take_append_drop]
          rw [this,List.getElem?_append_left (lt_of_get hi)];exact hi
        have hy':RV γ H I w (.g (.sl s (es.take m))) (.slice a (es.take m).length cap):=.g (.sl k o vs (fun hne=>ha (fun e=>hne (by rw [e];simp))) (fun e he=>hw e (List.mem_of_mem_take he)) (by simp;omega)
          (fun i t hi=>hc i t (hf i t hi)) (fun i t hi=>h1 i t (hf i t hi)) (fun i t hi=>hr i t (hf i t hi)))
        obtain ⟨_,_,xs,e1,e2⟩:=elems_ok (P:=P) r hy' (sy:=s) (ys:=(es.take m).map V.g) (by simp [elems])
        refine ⟨xs,by rw [← List.map_take];exact e1,?_⟩
        simp at e2
        rw [Nat.min_eq_left hm] at e2
        cases a <;> exact e2
      | _=>simp [elems] at h
    | nil s =>
      simp [elems] at h;obtain ⟨rfl,rfl⟩:=h
      cases hy
      simp at hm;subst hm
      exact ⟨[],.nil,firstCells_nil ..⟩
    | own b g off len =>
      cases hy with
      | @own _ _ g2 sz2 _ _ cap es2 a hb2 hg hl hc =>
      simp only [elems,hb2] at h
      split at h
      case isFalse=>simp at h
      rename_i hcond
      obtain ⟨rfl,hlen⟩:=hcond
      simp at h;obtain ⟨rfl,rfl⟩:=h
      have hml:m≤len:=by simp at hm;omega
      obtain ⟨c1,c2⟩:=hc rfl
      have hy':RV γ H I w (.own b g off m) (.slice a m cap):=.own hb2 hg (by omega) (fun _=>⟨by omega,c2⟩)
      obtain ⟨_,_,xs,e1,e2⟩:=elems_ok (P:=P) r hy' (sy:=sz2) (ys:=(es2.drop off).take m) (by simp [elems,hb2];omega)
      have hl':((es2.drop off).take m).length=m:=by simp;omega
      rw [hl'] at e2
      refine ⟨xs,?_,by cases a <;> exact e2⟩
      have:List.take m (List.take len (List.drop off es2))=(es2.drop off).take m:=by rw [List.take_take,Nat.min_eq_left hml]
      rw [this];exact e1
    | _=>simp [elems] at h
  · cases hy
    simp at hm;subst hm
    exact ⟨[],.nil,firstCells_nil ..⟩
theorem splice_ok (r:RelH γ I w H) {b g sz k off:Nat} {es ys:List V} {c:Array Value} {el:TypeId} {xs:List Value} (hb:H[b]?=some (.arr g sz es)) (hk:γ[b]?=some (some k))
    (hh:w.heap[k]?=some (.cells c el (0,0))) (h3:∀ e∈es,e.cells.length=sz) (h4:es.length*sz≤c.size)
    (h5:∀ (i:Nat) (v:V),(flatV es)[i]?=some v→∃ x:Value,c[i]?=some x∧x.oneCell'=true∧RV γ H I w v x)
    (hys:∀ e∈ys,e.cells.length=sz) (hxs:RCs γ H I w (flatV ys) xs) (hle:off+ys.length≤es.length) :
    RelH γ I (World.setB w k (.cells (wr c (off*sz) xs) el (0,0))) (H.set b (.arr g sz (es.take off++ys++es.drop (off+ys.length)))) ∧
    Ext γ H I w γ (H.set b (.arr g sz (es.take off++ys++es.drop (off+ys.length)))) I (World.setB w k (.cells (wr c (off*sz) xs) el (0,0))):=by
  have hxl:xs.length=ys.length*sz:=by rw [hxs.rv.1,flatV_len hys]
  have hmul:off*sz+ys.length*sz≤es.length*sz:=by rw [← Nat.add_mul];exact Nat.mul_le_mul_right _ hle
  have htl:(es.take off).length=off:=by simp;omega
  have hft:(flatV (es.take off)).length=off*sz:=by rw [flatV_len (fun e he=>h3 e (List.mem_of_mem_take he)),htl]
  have hfy:(flatV ys).length=ys.length*sz:=flatV_len hys
  have hsplit:∀ m,flatV es=flatV (es.take m)++flatV (es.drop m):=fun m=>by rw [← flatV_append,List.take_append_drop]
  have hlen':(es.take off++ys++es.drop (off+ys.length)).length=es.length:=by simp;omega
  refine upd_ok (es':=es.take off++ys++es.drop (off+ys.length)) (c':=wr c (off*sz) xs) r hb hk hh (by simp) (Nat.le_refl _) (fun _=>by omega) (fun e he=>?_) (by rw [hlen'];exact h4) (fun j v hj=>?_)
  · rcases List.mem_append.1 he with he|he
    · rcases List.mem_append.1 he with he|he
      · exact h3 e (List.mem_of_mem_take he)
      · exact hys e he
    · exact h3 e (List.mem_of_mem_drop he)
  · have hget:=wr_get c (off*sz) xs (by rw [hxl];omega) j
    rw [flatV_append,flatV_append] at hj
    rcases Nat.lt_or_ge j (off*sz) with h1|h1
    · rw [List.getElem?_append_left (by rw [List.length_append];omega),List.getElem?_append_left (by omega)] at hj
      obtain ⟨x,x1,x2,x3⟩:=h5 j v (by rw [hsplit off,List.getElem?_append_left (by omega)];exact hj)
      exact ⟨x,by rw [hget,if_neg (by omega)];exact x1,x2,x3⟩
    · rcases Nat.lt_or_ge j (off*sz+ys.length*sz) with h2|h2
      · rw [List.getElem?_append_left (by rw [List.length_append];omega),List.getElem?_append_right (by omega),hft] at hj
        obtain ⟨x,x1,x2,x3⟩:=hxs.get hj
        exact ⟨x,by rw [hget,if_pos (by omega)];exact x1,x2,x3⟩
      · have hdl:(flatV (es.take (off+ys.length))).length=off*sz+ys.length*sz:=by
          rw [flatV_len (fun e he=>h3 e (List.mem_of_mem_take he)),List.length_take,Nat.min_eq_left hle,Nat.add_mul]
        rw [List.getElem?_append_right (by rw [List.length_append];omega),List.length_append,hft,hfy] at hj
        obtain ⟨x,x1,x2,x3⟩:=h5 j v (by rw [hsplit (off+ys.length),List.getElem?_append_right (by omega),hdl];exact hj)
        exact ⟨x,by rw [hget,if_neg (by omega)];exact x1,x2,x3⟩
theorem set_self {b:Nat} {x:Blk} (h:H[b]?=some x):H.set b x=H:=by
  apply List.ext_getElem?
  intro i
  rw [List.getElem?_set]
  split
  · rename_i e;subst e
    have:=lt_of_get h
    rw [if_pos this,h]
  · rfl
theorem op_cpy (r:Rel γ I w s a) (hn:Fits γ I w s.h a o.dst K next) {t t2 e e2 u1 u2:TypeId} {n:Nat} {c:Call} {x y:Operand} {x' y':X} (ho:o.op=.call c) (hc:c.callee=.builtin .copy) (ha:c.args=#[x,y]) (hat:c.argTypes=#[t,t2])
    (ht:elemOfS P t=some e) (hs:szOf P e=some n) (_ht2:elemOfS P t2=some e2) (hx:slimX P u1 x=some x') (hy:slimX P u2 y=some y')
    (h:opP P s.t (.cpy n x' y') s.h K):o.wp P a w next Q:=by
  have hx':=slimX_ok hx r
  have hy':=slimX_ok hy r
  simp only [opP,cpyP] at h
  obtain ⟨ys,hel,h⟩:=withElems_ok h
  obtain ⟨⟨ya,yc,hY⟩,hwy,_⟩:=shown_ok (P:=P) r.heap hy' hel
  split at h
  case h_2=>exact h.elim
  rename_i b g off len e1
  rw [e1] at hx'
  split at h
  case h_2=>exact h.elim
  rename_i g' sz es hb
  rw [getB_eq] at hb
  obtain ⟨⟨rfl,rfl⟩,hK⟩:=h
  rw [setB_eq] at hK
  generalize hX:a.eval x=XX at hx'
  cases hx' with
  | @own _ _ g2 sz2 _ _ cap es2 aa hb2 hg hl hcc =>
  rw [hb] at hb2;cases hb2
  obtain ⟨c1,c2⟩:=hcc rfl
  obtain ⟨xs,hxs,hrun⟩:=shown_take (P:=P) r.heap hy' hel (m:=min ys.length len) (Nat.min_le_left _ _)
  have hmin:Nat.min ys.length len=min ys.length len:=rfl
  have hrunC:∀ w',(match aa with|some a'=>storeCells a' xs|none=>pure ()).run P w=.ok () w'→(execOp a.eval o).run P w=.ok (.value (.int .i64 (min ys.length len:Nat))) w':=by
    intro w' hst
    have hlen:(Builtin.lenOf (a.eval y)).run P w=.ok ys.length w:=by rw [hY];rfl
    cases aa with
    | none=>simp at hst;subst hst;simp [execOp,ho,resolve,hc,ha,hat,invoke,builtin,hX,Builtin.copy_,run_underlying (run_elem ht),hlen,run_sizeOf hs,hmin,hrun,goInt]
    | some a'=>simp at hst;simp [execOp,ho,resolve,hc,ha,hat,invoke,builtin,hX,Builtin.copy_,run_underlying (run_elem ht),hlen,run_sizeOf hs,hmin,hrun,hst,goInt]
  have hty:(ys.take (min ys.length len)).length=min ys.length len:=by simp
  have hwt:∀ e∈ys.take (min ys.length len),e.cells.length=sz:=fun e he=>hwy e (List.mem_of_mem_take he)
  by_cases h0:min ys.length len=0
  · have hx0:xs=[]:=List.eq_nil_of_length_eq_zero (by rw [hxs.rv.1,flatV_len hwt,hty,h0];simp)
    subst hx0
    have:=hrunC w (by cases aa <;> rfl)
    rw [h0] at hK
    simp only [List.take_zero,List.append_nil,Nat.add_zero,List.take_append_drop,set_self hb] at hK
    rw [h0] at this
    exact wp_value this (hn _ _ _ _ _ _ hK r.heap rv_int (Ext.refl ..))
  · rcases c2 with ⟨_,_,_,hz⟩|⟨k,hk,haa,hrow⟩
    · omega
    · rcases haa with hz|rfl
      · omega
      rcases r.heap.arr _ _ _ _ hb with ⟨hz,_⟩|⟨k',cc,el,h1,h2,h3,h4,h5⟩
      · rw [hz] at hk;cases hk
      rw [hk] at h1;cases h1
      have hle:off+(ys.take (min ys.length len)).length≤es.length:=by rw [hty];omega
      have hbd:off*sz+0+xs.length≤cc.size:=by
        rw [hxs.rv.1,flatV_len hwt]
        have:(off+(ys.take (min ys.length len)).length)*sz≤es.length*sz:=Nat.mul_le_mul_right _ hle
        rw [Nat.add_mul] at this;omega
      have hst:=run_storeCells (P:=P) (k:=k) (o:=off*sz) (xs:=xs) (i:=0) h2 hbd hxs.one
      rw [Nat.add_zero] at hst
      obtain ⟨p1,p2⟩:=splice_ok r.heap hb hk h2 h3 h4 h5 hwt hxs hle
      rw [hty] at p1 p2
      exact wp_value (hrunC _ hst) (hn _ _ _ _ _ _ hK p1 rv_int p2)
theorem op_clr (r:Rel γ I w s a) (hn:Fits γ I w s.h a o.dst K next) {t e u1:TypeId} {n:Nat} {z:V} {c:Call} {x:Operand} {x':X} (ho:o.op=.call c) (hc:c.callee=.builtin .clear) (ha:c.args=#[x]) (hat:c.argTypes=#[t])
    (ht:elemOfS P t=some e) (hs:szOf P e=some n) (hpos:0 < n) (hz:zeroV P e=some z) (hx:slimX P u1 x=some x')
    (h:opP P s.t (.clr n z x') s.h K):o.wp P a w next Q:=by
  have hx':=slimX_ok hx r
  simp only [opP,clrP] at h
  split at h
  case h_2=>exact h.elim
  rename_i b g off len e1
  rw [e1] at hx'
  split at h
  case h_2=>exact h.elim
  rename_i g' sz es hb
  rw [getB_eq] at hb
  obtain ⟨⟨rfl,rfl,hzn⟩,hK⟩:=h
  rw [setB_eq] at hK
  generalize hX:a.eval x=XX at hx'
  cases hx' with
  | @own _ _ g2 sz2 _ _ cap es2 aa hb2 hg hl hcc =>
  rw [hb] at hb2;cases hb2
  obtain ⟨c1,c2⟩:=hcc rfl
  obtain ⟨zv,z1,hzc,_⟩:=zeroV_ok (s:=s) (γ:=γ) (I:=I) (w:=w) hz
  have hzs:zv.cells.size=sz:=by have:=hzc.rv.1;simp at this;omega
  by_cases h0:len=0
  · subst h0
    have:(execOp a.eval o).run P w=.ok (.value (.tuple #[])) w:=by
      cases aa <;> simp [execOp,ho,resolve,hc,ha,hat,invoke,builtin,hX,Builtin.clear_,run_underlying (run_elem ht)]
    simp only [List.replicate_zero,List.append_nil,Nat.add_zero,List.take_append_drop,set_self hb] at hK
    exact wp_value this (hn _ _ _ _ _ _ hK r.heap (.tu (vs:=[]) rfl (by simp)) (Ext.refl ..))
  · rcases c2 with ⟨_,_,_,hz⟩|⟨k,hk,haa,hrow⟩
    · omega
    · rcases haa with hz|rfl
      · omega
      rcases r.heap.arr _ _ _ _ hb with ⟨hz,_⟩|⟨k',cc,el,h1,h2,h3,h4,h5⟩
      · rw [hz] at hk;cases hk
      rw [hk] at h1;cases h1
      have hwt:∀ e∈List.replicate len z,e.cells.length=sz:=fun e he=>by rw [(List.mem_replicate.1 he).2];exact hzn
      have hfl:=flatV_len hwt
      rw [List.length_replicate] at hfl
      let xs:=(Builtin.zeroCells zv.cells len).toList
      have hxl:xs.length=len*sz:=by simp [xs,Builtin.zeroCells,hzs]
      have hxs:RCs γ s.h I w (flatV (List.replicate len z)) xs:=by
        have key:∀ (i:Nat) (v:V),(flatV (List.replicate len z))[i]?=some v→∃ y,xs[i]?=some y∧y.oneCell'=true∧RV γ s.h I w v y:=by
          intro i v hi
          obtain ⟨k1,k2⟩:=flatV_rep z sz hzn len i v hi
          obtain ⟨y,y1,y2,y3⟩:=hzc.get k2
          refine ⟨y,?_,y2,y3⟩
          have hmod:i % sz < sz:=Nat.mod_lt _ hpos
          have hy1:zv.cells[i % sz]?=some y:=by simpa using y1
          have hgd:zv.cells[i % sz]! = y:=by rw [getElem!_def,hy1]
          simp [xs,Builtin.zeroCells,hzs]
          exact ⟨i,by simp [k1],hgd⟩
        refine ⟨RVs.of_get (by rw [hxl,hfl]) (fun i v hi=>by obtain ⟨y,y1,_,y3⟩:=key i v hi;exact ⟨y,y1,y3⟩),fun y hy=>?_⟩
        obtain ⟨i,hi,rfl⟩:=List.getElem_of_mem hy
        have hi':i < (flatV (List.replicate len z)).length:=by rw [hfl,← hxl];exact hi
        obtain ⟨y,y1,y2,_⟩:=key i _ (List.getElem?_eq_getElem hi')
        rw [List.getElem?_eq_getElem hi] at y1;cases y1;exact y2
      have hle:off+(List.replicate len z).length≤es.length:=by simp;omega
      have hbd:off*sz+0+xs.length≤cc.size:=by
        have:(off+len)*sz≤es.length*sz:=Nat.mul_le_mul_right _ (by omega)
        rw [Nat.add_mul] at this;omega
      have hst:=run_storeCells (P:=P) (k:=k) (o:=off*sz) (xs:=xs) (i:=0) h2 hbd hxs.one
      rw [Nat.add_zero] at hst
      obtain ⟨p1,p2⟩:=splice_ok r.heap hb hk h2 h3 h4 h5 hwt hxs hle
      rw [List.length_replicate] at p1 p2
      have:(execOp a.eval o).run P w=.ok (.value (.tuple #[])) (World.setB w k (.cells (wr cc (off*sz) xs) el (0,0))):=by
        obtain ⟨m,rfl⟩:∃ m,len=m+1:=⟨len-1,by omega⟩
        simp [execOp,ho,resolve,hc,ha,hat,invoke,builtin,hX,Builtin.clear_,run_underlying (run_elem ht),z1]
        rw [show (Builtin.zeroCells zv.cells (m+1)).toList=xs from rfl,hst]
        rfl
      exact wp_value this (hn _ _ _ _ _ _ hK p1 (.tu (vs:=[]) rfl (by simp)) p2)
set_option maxRecDepth 100000 in
theorem op_appz (r:Rel γ I w s a) (hn:Fits γ I w s.h a o.dst K next) {t t2 e u1 u2:TypeId} {kk:IntKind} {n b:Nat} {z:V} {c:Call} {x y:Operand} {x' y':X} (ho:o.op=.call c) (hc:c.callee=.builtin .append) (ha:c.args=#[x,y]) (hat:c.argTypes=#[t,t2])
    (ht:elemOfS P t=some e) (hs:szOf P e=some n) (hb:bytesIn P e=some b) (ht2:P.underlying t2=some (.int kk)) (hpos:0 < n) (hz:zeroV P e=some z) (hx:slimX P u1 x=some x') (hy:slimX P u2 y=some y')
    (h:opP P s.t (.appz n b z x' y') s.h K):o.wp P a w next Q:=by
  have hx':=slimX_ok hx r
  have hy':=slimX_ok hy r
  simp only [opP,appzP,addB_eq] at h
  split at h
  case h_2=>exact h.elim
  rename_i i e1
  rw [e1] at hy'
  have hY:=rv_sc hy'
  obtain ⟨⟨i0,i1⟩,hzn,h⟩:=h
  split at h
  case h_2=>exact h.elim
  rename_i ss e2
  rw [e2] at hx'
  have hX:a.eval x=.slice none 0 0:=by
    generalize a.eval x=XX at hx';cases hx';rfl
  obtain ⟨m,rfl⟩:∃ m:Nat,i=m:=⟨i.toNat,by omega⟩
  simp only [Int.toNat_natCast] at h
  obtain ⟨zv,z1,hzc,_⟩:=zeroV_ok (s:=s) (γ:=γ) (I:=I) (w:=w) hz
  have hzs:zv.cells.size=n:=by have:=hzc.rv.1;simp at this;omega
  have hmb:(m:Int)≤281474976710656:=by
    have h1:(m:Int)*1≤(2*m+1024)*((b:Int)+1):=Int.mul_le_mul (by omega) (by omega) (by omega) (by omega)
    omega
  have hwr:IntKind.i64.wrap (m:Int)=m:=wrap_in (by simp [inR,IntKind.min,IntKind.max,IntKind.signed,IntKind.bits];omega)
  unfold bytesIn at hb
  cases hi:P.info? e with
  | none=>rw [hi] at hb;simp at hb
  | some info =>
  rw [hi] at hb;simp at hb;subst hb
  obtain ⟨rd,xd⟩:=drew_ok r.heap
  have hmB:¬ (281474976710656 < (m:Int)*info.bytes):=by
    have h1:(m:Int)*info.bytes≤(2*m+1024)*((info.bytes:Int)+1):=Int.mul_le_mul (by omega) (by omega) (by omega) (by omega)
    omega
  by_cases hm0:m=0
  · subst hm0
    have hw0:IntKind.i64.wrap 0=0:=wrap_in (by simp [inR,IntKind.min,IntKind.max,IntKind.signed,IntKind.bits])
    have hrun:(execOp a.eval o).run P w=.ok (.value (.slice none 0 0)) w:=by
      simp [execOp,ho,resolve,hc,ha,hat,invoke,builtin,hX,hY,Builtin.append_,run_underlying (run_elem ht),run_underlying ht2,run_sizeOf hs,asInt,asIntOf,run_typeInfo hi,hw0]
    obtain ⟨v1,v2⟩:=valloc_ok r.heap 0 n
    refine wp_value hrun (hn _ _ _ _ _ _ h v1 ?_ v2)
    refine .own (g':=0) (sz:=n) (es:=[]) (by simp) (Nat.le_refl _) (by simp) (fun _=>⟨by simp,.inl ⟨?_,rfl,rfl,rfl⟩⟩)
    rw [List.getElem?_append_right (by rw [r.heap.len];exact Nat.le_refl _)];simp [r.heap.len]
  · have hcapn:Builtin.nextslicecap m 0*info.bytes≤281474976710656:=by
      have h1:=nextslicecap_le m 0 (by omega)
      have h2:Builtin.nextslicecap m 0*info.bytes≤(2*m+1024)*(info.bytes+1):=Nat.mul_le_mul (by omega) (by omega)
      have h3:((2*m+1024)*(info.bytes+1):Nat)≤281474976710656:=by
        have:(((2*m+1024)*(info.bytes+1):Nat):Int)≤281474976710656:=by push_cast;exact i1
        omega
      omega
    have hnot:¬ (m≤0):=by omega
    have hzd:(zeroValue e).run P w.drew=.ok zv w.drew:=by
      obtain ⟨zv',z1',_⟩:=zeroV_ok (s:=s) (γ:=γ) (I:=I) (w:=w.drew) hz
      unfold zeroValue at z1 z1' ⊢
      simp only [Sem.run_bind,run_typeInfo hi,Result.andThen_ok] at z1 z1' ⊢
      cases hzz:info.zero with
      | none=>rw [hzz] at z1;simp at z1
      | some q=>rw [hzz] at z1;simp at z1 ⊢;exact z1
    have hrun:∃ (cap:Nat) (cc:Array Value),m≤cap∧(execOp a.eval o).run P w=.ok (.value (.slice (some ⟨w.heap.size,0,none⟩) m cap)) (w.drew.alloc (.cells cc e))∧cc.size=cap*n∧∀ j,j < m*n→cc[j]?=some (zv.cells.getD (j % n) undef):=by
      have hsome:m*n≠0:=by
        have:=Nat.mul_pos (Nat.pos_of_ne_zero hm0) hpos;omega
      refine ⟨(Question.appendCap m 0 e).cut (w.tape w.drawn (.appendCap m 0 e)),Builtin.zeroCells zv.cells m++Builtin.zeroCells zv.cells ((Question.appendCap m 0 e).cut (w.tape w.drawn (.appendCap m 0 e))-m),by simp [Question.cut],?_,?_,?_⟩
      · have hm:(IntKind.i64.max:Int)=9223372036854775807:=rfl
        have hmax:¬ ((9223372036854775807:Int) < (m:Int)):=by omega
        have hcap':¬ (281474976710656 < Builtin.nextslicecap m 0*info.bytes):=by omega
        simp [execOp,ho,resolve,hc,ha,hat,invoke,builtin,hX,hY,Builtin.append_,run_underlying (run_elem ht),run_underlying ht2,run_sizeOf hs,asInt,asIntOf,run_typeInfo hi,hwr,hm0,hm,hmax,hcap',hmB,Question.forced,hzd,newRow,firstCells_nil,hsome]
        intro hneg;omega
      · have hle:m≤(Question.appendCap m 0 e).cut (w.tape w.drawn (.appendCap m 0 e)):=by simp [Question.cut]
        simp [Builtin.zeroCells,hzs,← Nat.add_mul]
        congr 1;omega
      · intro j hj
        have hmod:j % n < n:=Nat.mod_lt _ hpos
        rw [Array.getElem?_append_left (by simp [Builtin.zeroCells,hzs];exact hj)]
        simp [Builtin.zeroCells,hzs,hj,hmod]
    obtain ⟨cap,cc,q1,q2,q3,q4⟩:=hrun
    have hzn':∀ v∈List.replicate m z,v.cells.length=n:=fun v hv=>by rw [(List.mem_replicate.1 hv).2];exact hzn
    obtain ⟨a1,a2⟩:=alloc_ok (c:=cc) (el:=e) (sz:=n) (es:=List.replicate m z) rd hzn' (by rw [q3];simp;exact Nat.mul_le_mul_right _ q1) (fun j v hj=>by
      obtain ⟨k1,k2⟩:=flatV_rep z n hzn m j v hj
      obtain ⟨y,y1,y2,y3⟩:=hzc.get k2
      refine ⟨y,?_,y2,y3.mono xd r.heap⟩
      rw [q4 j k1]
      have:zv.cells[j % n]?=some y:=by simpa using y1
      simp [Array.getD_eq_getD_getElem?,this]) 0
    refine wp_value q2 (hn _ _ _ _ _ _ h a1 ?_ (xd.trans a2))
    refine .own (g':=0) (sz:=n) (es:=List.replicate m z) (by simp) (Nat.le_refl _) q1 (fun _=>⟨by simp,.inr ⟨w.heap.size,?_,.inr (by simp),?_⟩⟩)
    · rw [List.getElem?_append_right (by rw [r.heap.len];exact Nat.le_refl _)];simp [r.heap.len]
    · exact ⟨cc,e,(0,0),by show (w.heap.push _)[w.heap.size]?=_;simp,by rw [q3];simp⟩
end
end Go.Aw
namespace Go.Aw
section
variable {P:Prg} {wf:Nat} {o:Oper} {s:St} {a:Act} {γ:List (Option Nat)} {I:Nat→Prop} {w:World} {K:V→List Blk→Prop}
  {next:Act→World→Prop} {Q:Exit→Act→World→Prop}
theorem slimX_nil {ty:TypeId} {y:Operand} {sz:Nat} (h:slimX P ty y=some (.n sz)):a.eval y=.slice none 0 0:=by
  unfold slimX at h
  split at h
  · simp at h
  · simp at h
  · simp at h
  · split at h
    · rfl
    · split at h
      · rename_i cs _
        cases hl:litV P ty (.agg cs) with
        | none=>rw [hl] at h;simp at h
        | some vs=>rw [hl] at h;simp at h
      · simp at h
    · simp at h
    · split at h <;> simp at h
theorem opP_ok0 {so:SO} (hs:slimO0 P wf o=some so) (r:Rel γ I w s a) (hn:Fits γ I w s.h a o.dst K next) (h:opP P s.t so s.h K):o.wp P a w next Q:=by
  unfold slimO0 at hs
  split at hs
  case h_1 x ho =>
    obtain ⟨x',h1,rfl⟩:=Option.map_eq_some_iff.1 hs
    exact op_mv r hn (.inl ho) h1 h
  case h_2 x ho =>
    obtain ⟨x',h1,rfl⟩:=Option.map_eq_some_iff.1 hs
    exact op_mv r hn (.inr ho) h1 h
  case h_3 c x y ho =>
    replace hs:=Option.bind_eq_some_iff.1 hs;obtain ⟨c',h1,hs⟩:=hs
    replace hs:=Option.bind_eq_some_iff.1 hs;obtain ⟨x',h2,hs⟩:=hs
    obtain ⟨y',h3,rfl⟩:=Option.map_eq_some_iff.1 hs
    exact op_pick r hn ho h1 h2 h3 h
  case h_4 op ty x y ty2 ho =>
    replace hs:=Option.bind_eq_some_iff.1 hs;obtain ⟨x',h1,hs⟩:=hs
    replace hs:=Option.bind_eq_some_iff.1 hs;obtain ⟨y',h2,hs⟩:=hs
    split at hs
    · rename_i ht;cases hs;exact op_bool2 (neg:=false) r hn (by simpa using ho) ht h1 h2 h
    · rename_i ht;cases hs;exact op_bool2 (neg:=true) r hn (by simpa using ho) ht h1 h2 h
    · rename_i ht
      split at hs
      · cases hs;exact op_eqnil (neg:=false) r hn (by simpa using ho) ht h1 (slimX_nil h2) h
      · simp at hs
    · rename_i ht
      split at hs
      · cases hs;exact op_eqnil (neg:=true) r hn (by simpa using ho) ht h1 (slimX_nil h2) h
      · simp at hs
    · split at hs
      · cases hs;exact op_bin (b:=true) r hn ho h1 h2 h
      · cases hs;exact op_bin (b:=false) r hn ho h1 h2 h
    · cases hs;exact op_bin (b:=false) r hn ho h1 h2 h
    · simp at hs
  case h_5 op ty x ho =>
    obtain ⟨x',h1,rfl⟩:=Option.map_eq_some_iff.1 hs
    exact op_un r hn ho h1 h
  case h_6 e x ho =>
    replace hs:=Option.bind_eq_some_iff.1 hs;obtain ⟨x',h1,hs⟩:=hs
    obtain ⟨n,h2,rfl⟩:=Option.map_eq_some_iff.1 hs
    exact op_box r hn ho h1 h
  case h_7 e ho =>
    replace hs:=Option.bind_eq_some_iff.1 hs;obtain ⟨n,h1,hs⟩:=hs
    obtain ⟨z,h2,rfl⟩:=Option.map_eq_some_iff.1 hs
    exact op_new r hn ho h2 h
  case h_8 t parts ho =>
    split at hs
    · rename_i fs ht
      replace hs:=Option.bind_eq_some_iff.1 hs;obtain ⟨z,h1,hs⟩:=hs
      replace hs:=Option.bind_eq_some_iff.1 hs;obtain ⟨ns,h2,hs⟩:=hs
      obtain ⟨ps,h3,rfl⟩:=Option.map_eq_some_iff.1 hs
      exact op_build r hn ho ht h1 h2 h3 h
    · simp at hs
  case h_9 t len parts ho =>
    replace hs:=Option.bind_eq_some_iff.1 hs;obtain ⟨e,h1,hs⟩:=hs
    replace hs:=Option.bind_eq_some_iff.1 hs;obtain ⟨n,h2,hs⟩:=hs
    replace hs:=Option.bind_eq_some_iff.1 hs;obtain ⟨z,h3,hs⟩:=hs
    split at hs
    · rename_i hc
      obtain ⟨ps,h4,hs⟩:=Option.map_eq_some_iff.1 hs
      split at hs
      · subst hs;exact op_bslo r hn ho h1 h2 h3 hc.1 hc.2.1 h4 h
      · subst hs;exact op_bsl r hn ho h1 h2 h3 hc.1 hc.2.1 h4 h
    · simp at hs
  case h_10 t x ho =>
    replace hs:=Option.bind_eq_some_iff.1 hs;obtain ⟨x',h1,hs⟩:=hs
    replace hs:=Option.bind_eq_some_iff.1 hs;obtain ⟨g,h2,hs⟩:=hs
    cases g with
    | true =>
      simp at hs
      obtain ⟨n,h3,rfl⟩:=hs
      exact op_load r hn ho (.inr ⟨h2,n,h3,rfl⟩) h1 h
    | false =>
      simp at hs;subst hs
      exact op_load r hn ho (.inl ⟨h2,rfl⟩) h1 h
  case h_11 t x y ho =>
    replace hs:=Option.bind_eq_some_iff.1 hs;obtain ⟨x',h1,hs⟩:=hs
    replace hs:=Option.bind_eq_some_iff.1 hs;obtain ⟨y',h2,hs⟩:=hs
    obtain ⟨n,h3,rfl⟩:=Option.map_eq_some_iff.1 hs
    exact op_store r hn ho h3 h1 h2 h
  case h_12 x ho =>
    obtain ⟨x',h1,rfl⟩:=Option.map_eq_some_iff.1 hs
    exact op_nilc r hn ho h1 h
  case h_13 src dst x ho =>
    split at hs
    · rename_i k' k t1 t2
      obtain ⟨x',h1,rfl⟩:=Option.map_eq_some_iff.1 hs
      exact op_conv r hn ho t1 t2 h1 h
    · rename_i t1 t2
      obtain ⟨x',h1,rfl⟩:=Option.map_eq_some_iff.1 hs
      exact op_convs r hn ho t1 t2 h1 h
    · simp at hs
  case h_14 f first caps ho =>
    split at hs
    · rename_i hf
      obtain ⟨cs,h1,rfl⟩:=Option.map_eq_some_iff.1 hs
      exact op_mkf r hn ho (by simpa using hf) h1 h
    · simp at hs
  case h_15 t l c ho =>
    replace hs:=Option.bind_eq_some_iff.1 hs;obtain ⟨e,h1,hs⟩:=hs
    replace hs:=Option.bind_eq_some_iff.1 hs;obtain ⟨n,h2,hs⟩:=hs
    replace hs:=Option.bind_eq_some_iff.1 hs;obtain ⟨b,h3,hs⟩:=hs
    replace hs:=Option.bind_eq_some_iff.1 hs;obtain ⟨z,h4,hs⟩:=hs
    replace hs:=Option.bind_eq_some_iff.1 hs;obtain ⟨l',h5,hs⟩:=hs
    split at hs
    · split at hs
      · rename_i hc;cases hs;obtain ⟨rfl,hp⟩:=hc;exact op_mks r hn ho h1 h2 h3 h4 h5 rfl hp h
      · simp at hs
    · split at hs
      · rename_i hc;cases hs;obtain ⟨rfl,hp⟩:=hc;exact op_mks r hn ho h1 h2 h3 h4 h5 rfl hp h
      · simp at hs
    · simp at hs
  case h_16 t x lo hi ho =>
    replace hs:=Option.bind_eq_some_iff.1 hs;obtain ⟨x',h1,hs⟩:=hs
    replace hs:=Option.bind_eq_some_iff.1 hs;obtain ⟨lo',h2,hs⟩:=hs
    replace hs:=Option.bind_eq_some_iff.1 hs;obtain ⟨hi',h3,hs⟩:=hs
    have f2:(lo=none∧lo'=none)∨∃ l l',lo=some l∧lo'=some l'∧slimX P 0 l=some l':=by
      cases lo with
      | none=>simp at h2;exact .inl ⟨rfl,h2.symm⟩
      | some l=>obtain ⟨l',e1,e2⟩:=Option.map_eq_some_iff.1 h2;exact .inr ⟨l,l',rfl,e2.symm,e1⟩
    have f3:(hi=none∧hi'=none)∨∃ l l',hi=some l∧hi'=some l'∧slimX P 0 l=some l':=by
      cases hi with
      | none=>simp at h3;exact .inl ⟨rfl,h3.symm⟩
      | some l=>obtain ⟨l',e1,e2⟩:=Option.map_eq_some_iff.1 h3;exact .inr ⟨l,l',rfl,e2.symm,e1⟩
    split at hs
    · rename_i e ht
      obtain ⟨n,h4,rfl⟩:=Option.map_eq_some_iff.1 hs
      exact op_slc r hn ho (by unfold elemOfS;rw [ht]) h4 h1 f2 f3 h
    · rename_i ht;cases hs;exact op_slcs r hn ho ht h1 f2 f3 h
    · simp at hs
  case h_17 t x i ho =>
    split at hs
    · rename_i fs ht
      replace hs:=Option.bind_eq_some_iff.1 hs;obtain ⟨f,h1,hs⟩:=hs
      replace hs:=Option.bind_eq_some_iff.1 hs;obtain ⟨n,h2,hs⟩:=hs
      split at hs
      · simp at hs
      · rename_i hnz
        obtain ⟨x',h3,rfl⟩:=Option.map_eq_some_iff.1 hs
        exact op_fa r hn ho ht h1 h2 hnz h3 h
    · simp at hs
  case h_18 t x i ho =>
    split at hs
    · rename_i fs ht
      replace hs:=Option.bind_eq_some_iff.1 hs;obtain ⟨f,h1,hs⟩:=hs
      replace hs:=Option.bind_eq_some_iff.1 hs;obtain ⟨x',h2,hs⟩:=hs
      replace hs:=Option.bind_eq_some_iff.1 hs;obtain ⟨g,h3,hs⟩:=hs
      cases g with
      | true =>
        simp at hs
        obtain ⟨n,h4,rfl⟩:=hs
        exact op_fld r hn ho ht h1 (.inr ⟨h3,n,h4,rfl⟩) h2 h
      | false =>
        simp at hs;subst hs
        exact op_fld r hn ho ht h1 (.inl ⟨h3,rfl⟩) h2 h
    · simp at hs
  case h_19 t x i ho =>
    replace hs:=Option.bind_eq_some_iff.1 hs;obtain ⟨e,h1,hs⟩:=hs
    replace hs:=Option.bind_eq_some_iff.1 hs;obtain ⟨n,h2,hs⟩:=hs
    replace hs:=Option.bind_eq_some_iff.1 hs;obtain ⟨x',h3,hs⟩:=hs
    obtain ⟨i',h4,rfl⟩:=Option.map_eq_some_iff.1 hs
    exact op_ia r hn ho h1 h2 h3 h4 h
  case h_20 t x i ho =>
    split at hs
    · rename_i ht
      replace hs:=Option.bind_eq_some_iff.1 hs;obtain ⟨x',h3,hs⟩:=hs
      obtain ⟨i',h4,rfl⟩:=Option.map_eq_some_iff.1 hs
      exact op_ixs r hn ho ht h3 h4 h
    · simp at hs
  case h_21 x i ho =>
    obtain ⟨x',h1,rfl⟩:=Option.map_eq_some_iff.1 hs
    exact op_ext r hn ho h1 h
  case h_22 c ho =>
    split at hs
    · rename_i f hc
      replace hs:=Option.bind_eq_some_iff.1 hs;obtain ⟨f',h1,hs⟩:=hs
      obtain ⟨as,h2,rfl⟩:=Option.map_eq_some_iff.1 hs
      exact op_call r hn ho hc h1 h2 h
    · rename_i hc
      split at hs
      · rename_i x t ha hat
        have ha':c.args=#[x]:=by rw [← ha]
        have hat':c.argTypes=#[t]:=by rw [← hat]
        split at hs
        · rename_i e ht
          obtain ⟨x',h1,rfl⟩:=Option.map_eq_some_iff.1 hs
          exact op_len r hn ho hc ha' hat' ht h1 h
        · rename_i ht
          obtain ⟨x',h1,rfl⟩:=Option.map_eq_some_iff.1 hs
          exact op_lens r hn ho hc ha' hat' ht h1 h
        · simp at hs
      · simp at hs
    · rename_i hc
      split at hs
      · rename_i x y t t2 ha hat
        have ha':c.args=#[x,y]:=by rw [← ha]
        have hat':c.argTypes=#[t,t2]:=by rw [← hat]
        replace hs:=Option.bind_eq_some_iff.1 hs;obtain ⟨e,h1,hs⟩:=hs
        replace hs:=Option.bind_eq_some_iff.1 hs;obtain ⟨n,h2,hs⟩:=hs
        replace hs:=Option.bind_eq_some_iff.1 hs;obtain ⟨b,h3,hs⟩:=hs
        replace hs:=Option.bind_eq_some_iff.1 hs;obtain ⟨z,h4,hs⟩:=hs
        split at hs
        · rename_i e2 ht2
          split at hs
          · rename_i hcond
            replace hs:=Option.bind_eq_some_iff.1 hs;obtain ⟨x',h5,hs⟩:=hs
            obtain ⟨y',h6,rfl⟩:=Option.map_eq_some_iff.1 hs
            exact op_app r hn ho hc ha' hat' h1 h2 h3 h4 hcond.2 ht2 h5 h6 h
          · simp at hs
        · rename_i kk ht2
          split at hs
          · rename_i hpos
            replace hs:=Option.bind_eq_some_iff.1 hs;obtain ⟨zv,h5,hs⟩:=hs
            replace hs:=Option.bind_eq_some_iff.1 hs;obtain ⟨x',h6,hs⟩:=hs
            obtain ⟨y',h7,rfl⟩:=Option.map_eq_some_iff.1 hs
            exact op_appz r hn ho hc ha' hat' h1 h2 h3 ht2 hpos h5 h6 h7 h
          · simp at hs
        · simp at hs
      · simp at hs
    · rename_i hc
      split at hs
      · rename_i x t ha hat
        have ha':c.args=#[x]:=by rw [← ha]
        have hat':c.argTypes=#[t]:=by rw [← hat]
        split at hs
        · rename_i e ht
          obtain ⟨x',h1,rfl⟩:=Option.map_eq_some_iff.1 hs
          exact op_cap r hn ho hc ha' hat' ht h1 h
        · simp at hs
      · simp at hs
    · rename_i hc
      split at hs
      · rename_i x y t t2 ha hat
        have ha':c.args=#[x,y]:=by rw [← ha]
        have hat':c.argTypes=#[t,t2]:=by rw [← hat]
        replace hs:=Option.bind_eq_some_iff.1 hs;obtain ⟨e,h1,hs⟩:=hs
        replace hs:=Option.bind_eq_some_iff.1 hs;obtain ⟨n,h2,hs⟩:=hs
        replace hs:=Option.bind_eq_some_iff.1 hs;obtain ⟨e2,h3,hs⟩:=hs
        replace hs:=Option.bind_eq_some_iff.1 hs;obtain ⟨x',h5,hs⟩:=hs
        obtain ⟨y',h6,rfl⟩:=Option.map_eq_some_iff.1 hs
        exact op_cpy r hn ho hc ha' hat' h1 h2 h3 h5 h6 h
      · simp at hs
    · rename_i hc
      split at hs
      · rename_i x t ha hat
        have ha':c.args=#[x]:=by rw [← ha]
        have hat':c.argTypes=#[t]:=by rw [← hat]
        replace hs:=Option.bind_eq_some_iff.1 hs;obtain ⟨e,h1,hs⟩:=hs
        replace hs:=Option.bind_eq_some_iff.1 hs;obtain ⟨n,h2,hs⟩:=hs
        split at hs
        · rename_i hpos
          replace hs:=Option.bind_eq_some_iff.1 hs;obtain ⟨zv,h5,hs⟩:=hs
          obtain ⟨x',h6,rfl⟩:=Option.map_eq_some_iff.1 hs
          exact op_clr r hn ho hc ha' hat' h1 h2 hpos h5 h6 h
        · simp at hs
      · simp at hs
    · rename_i hc
      split at hs
      · rename_i x y k ha ht
        have ha':c.args=#[x,y]:=by rw [← ha]
        replace hs:=Option.bind_eq_some_iff.1 hs;obtain ⟨x',h5,hs⟩:=hs
        obtain ⟨y',h6,rfl⟩:=Option.map_eq_some_iff.1 hs
        exact op_minmax (m:=true) r hn ho (by simpa using hc) ha' h5 h6 h
      · simp at hs
    · rename_i hc
      split at hs
      · rename_i x y k ha ht
        have ha':c.args=#[x,y]:=by rw [← ha]
        replace hs:=Option.bind_eq_some_iff.1 hs;obtain ⟨x',h5,hs⟩:=hs
        obtain ⟨y',h6,rfl⟩:=Option.map_eq_some_iff.1 hs
        exact op_minmax (m:=false) r hn ho (by simpa using hc) ha' h5 h6 h
      · simp at hs
    · simp at hs
  case h_23=>simp at hs
end
end Go.Aw
namespace Go.Aw
section
variable {P:Program} {wf:Nat} {γ γ':List (Option Nat)} {H H':List Blk} {I I':Nat→Prop} {w w':World}
theorem updM_ok (r:RelH γ I w H) {b k cl cl':Nat} {kvs kvs':List (Value×Value)} {es es':Array MapEntry} (hb:H[b]?=some (.mp kvs)) (hk:γ[b]?=some (some k))
    (hh:w.heap[k]?=some (.map es cl)) (h1:es'.toList.map (fun e=>(e.key,e.val))=kvs') (h2:∀ (i:Nat) (e:MapEntry),es'[i]?=some e→e.born=i∧e.val.oneCell'=true) (h3:cl'=es'.size) :
    RelH γ I (World.setB w k (.map es' cl')) (H.set b (.mp kvs'))∧Ext γ H I w γ (H.set b (.mp kvs')) I (World.setB w k (.map es' cl')):=by
  have hbl:=lt_of_get hb
  have hx:Ext γ H I w γ (H.set b (.mp kvs')) I (World.setB w k (.map es' cl')):={
    os:=rfl
    tape:=rfl
    output:=rfl
    size:=by simp
    sub:=fun _ h=>h
    sub':=fun _ h=>.inl h
    frame:=fun j _ hj=>setB_get _ _ _ _ (fun e=>hj b (by rw [e];exact hk))
    rows:=fun j n ⟨d,e,fr,q1,q2⟩=>by
      have hjk:j≠k:=fun e=>by subst e;rw [hh] at q1;cases q1
      exact ⟨d,e,fr,by rw [setB_get _ _ _ _ hjk];exact q1,q2⟩
    blk:=fun j y hy=>by
      by_cases hjb:j=b
      · subst hjb
        rw [hb] at hy;cases hy
        exact ⟨.mp kvs',by simp [hbl],trivial,fun _=>⟨rfl,fun g1 s1 e1 e2 q1 _=>by cases q1⟩⟩
      · exact ⟨y,by rw [List.getElem?_set,if_neg (fun e=>hjb e.symm)];exact hy,y.upto_refl,fun _=>⟨rfl,fun g1 s1 e1 e2 h1 h2=>by subst h1;cases h2;exact Nat.le_refl _⟩⟩
    new:=fun b _ h=>.inr ⟨b,h⟩ }
  refine ⟨?_,hx⟩
  constructor
  · simp [r.len]
  · intro j g1 s1 e1 hj
    have hjb:j≠b:=fun e=>by subst e;simp [hbl] at hj
    rw [List.getElem?_set,if_neg (fun e=>hjb e.symm)] at hj
    rcases r.arr j g1 s1 e1 hj with h|⟨k',c1,el',h1,h2,h3,h4,h5⟩
    · exact .inl h
    · have hkk:k'≠k:=fun e=>hjb (r.inj j b k (by rw [← e];exact h1) hk)
      refine .inr ⟨k',c1,el',h1,by rw [setB_get _ _ _ _ hkk];exact h2,h3,h4,fun i v hv=>?_⟩
      obtain ⟨x,e1,e3,e2⟩:=h5 i v hv
      exact ⟨x,e1,e3,e2.mono hx r⟩
  · intro j kvs1 hj
    by_cases hjb:j=b
    · subst hjb
      simp [hbl] at hj
      subst hj
      exact ⟨k,es',cl',hk,setB_same _ _ _ (heap_lt hh),h1,h2,h3⟩
    · rw [List.getElem?_set,if_neg (fun e=>hjb e.symm)] at hj
      obtain ⟨k',es1,cl,q1,q2,q3⟩:=r.mp j kvs1 hj
      have hkk:k'≠k:=fun e=>hjb (r.inj j b k (by rw [← e];exact q1) hk)
      exact ⟨k',es1,cl,q1,by rw [setB_get _ _ _ _ hkk];exact q2,q3⟩
  · exact r.inj
  · intro j k' hj;have:=r.off j k' hj;exact ⟨this.1,by simp;exact this.2⟩
  · exact r.immx fun k' hk'=>setB_get _ _ _ _ (fun e=>(r.off b k hk).1 (e▸hk'))
theorem newM_ok (r:RelH γ I w H):RelH (γ++[some w.heap.size]) I (w.alloc (.map #[] 0)) (H++[.mp []])∧Ext γ H I w (γ++[some w.heap.size]) (H++[.mp []]) I (w.alloc (.map #[] 0)):=by
  have hx:Ext γ H I w (γ++[some w.heap.size]) (H++[.mp []]) I (w.alloc (.map #[] 0)):={
    os:=rfl
    tape:=rfl
    output:=rfl
    size:=by simp
    sub:=fun _ h=>h
    sub':=fun _ h=>.inl h
    frame:=fun k hk _=>Go.RowKit.Below.heap_alloc _ _ _ hk
    rows:=fun k n ⟨c',el',fr,h1,h2⟩=>⟨c',el',fr,by rw [Go.RowKit.Below.heap_alloc _ _ _ (heap_lt h1)];exact h1,h2⟩
    blk:=fun b y hy=>⟨y,by rw [List.getElem?_append_left (lt_of_get hy)];exact hy,y.upto_refl,fun _=>⟨by rw [List.getElem?_append_left (by rw [r.len];exact lt_of_get hy)],fun g sz es es' e1 e2=>by subst e1;cases e2;exact Nat.le_refl _⟩⟩
    new:=fun b k hk=>by
      rcases Nat.lt_or_ge b γ.length with hb|hb
      · rw [List.getElem?_append_left hb] at hk;exact .inr ⟨b,hk⟩
      · rw [List.getElem?_append_right hb] at hk
        cases hd:b-γ.length with
        | zero=>rw [hd] at hk;simp at hk;left;omega
        | succ n=>rw [hd] at hk;simp at hk }
  refine ⟨?_,hx⟩
  have hold:∀ b:Nat,b < H.length→(γ++[some w.heap.size])[b]?=γ[b]?:=fun b hb=>List.getElem?_append_left (by rw [r.len];exact hb)
  have hnew:(γ++[some w.heap.size])[H.length]?=some (some w.heap.size):=by rw [List.getElem?_append_right (by rw [r.len];exact Nat.le_refl _)];simp [r.len]
  have hcase:∀ (b:Nat) (k:Nat),(γ++[some w.heap.size])[b]?=some (some k)→(γ[b]?=some (some k)∧b < H.length)∨(b=H.length∧k=w.heap.size):=by
    intro b k hk
    rcases Nat.lt_or_ge b γ.length with hb|hb
    · rw [List.getElem?_append_left hb] at hk;exact .inl ⟨hk,by rw [← r.len];exact hb⟩
    · rw [List.getElem?_append_right hb] at hk
      cases hd:b-γ.length with
      | zero=>rw [hd] at hk;simp at hk;right;have:=r.len;omega
      | succ n=>rw [hd] at hk;simp at hk
  constructor
  · simp [r.len]
  · intro b g' sz' es' hb
    rcases Nat.lt_or_ge b H.length with hlt|hge
    · rw [List.getElem?_append_left hlt] at hb
      rw [hold b hlt]
      rcases r.arr b g' sz' es' hb with h|⟨k,c',el',h1,h2,h3,h4,h5⟩
      · exact .inl h
      · refine .inr ⟨k,c',el',h1,?_,h3,h4,fun i v hv=>?_⟩
        · rw [Go.RowKit.Below.heap_alloc _ _ _ (r.off b k h1).2];exact h2
        · obtain ⟨x,e1,e3,e2⟩:=h5 i v hv;exact ⟨x,e1,e3,e2.mono hx r⟩
    · rw [List.getElem?_append_right hge] at hb
      cases hd:b-H.length with
      | succ n=>rw [hd] at hb;simp at hb
      | zero=>rw [hd] at hb;simp at hb
  · intro b kvs hb
    rcases Nat.lt_or_ge b H.length with hlt|hge
    · rw [List.getElem?_append_left hlt] at hb
      obtain ⟨k,es',cl,h1,h2,h3⟩:=r.mp b kvs hb
      exact ⟨k,es',cl,by rw [hold b hlt];exact h1,by rw [Go.RowKit.Below.heap_alloc _ _ _ (r.off b k h1).2];exact h2,h3⟩
    · rw [List.getElem?_append_right hge] at hb
      cases hd:b-H.length with
      | succ n=>rw [hd] at hb;simp at hb
      | zero =>
        rw [hd] at hb;simp at hb
        subst hb
        obtain rfl:b=H.length:=by omega
        exact ⟨w.heap.size,#[],0,hnew,by show (w.heap.push _)[w.heap.size]?=_;simp,rfl,fun i e h=>by simp at h,rfl⟩
  · intro b b' k h1 h2
    rcases hcase b k h1 with ⟨e1,l1⟩|⟨e1,l1⟩ <;> rcases hcase b' k h2 with ⟨e2,l2⟩|⟨e2,l2⟩
    · exact r.inj b b' k e1 e2
    · have:=(r.off b k e1).2;omega
    · have:=(r.off b' k e2).2;omega
    · omega
  · intro b k h1
    rcases hcase b k h1 with ⟨e1,l1⟩|⟨e1,l1⟩
    · exact ⟨(r.off b k e1).1,by have:=(r.off b k e1).2;simp;omega⟩
    · exact ⟨fun hI=>by have:=r.immlt hI;omega,by simp;omega⟩
  · exact r.immx fun k hk=>Go.RowKit.Below.heap_alloc _ _ _ (r.immlt hk)
theorem sameS_run {d:Nat} {t:TypeId} {td:TypeDesc} {c:Nat} {x y:Value} {e:Bool} (ht:P.underlying t=some td) (hc:scalD td=some c) (h:sameS c x y=some e) :
    (Op.equalIn (d+1) t x y).run P w=.ok e w:=by
  rcases sameS_cases h with ⟨a,b,rfl,rfl,rfl,rfl⟩|⟨k,a,b,rfl,rfl,rfl,rfl⟩|⟨a,b,rfl,rfl,rfl,rfl⟩
  · cases td <;> simp [scalD] at hc
    · exact run_equalIn_bool w d t _ _ ht
    · have:=ikN_ge ‹IntKind›;omega
  · cases td <;> simp [scalD] at hc
    · have:=ikN_ge k;omega
    · exact run_equalIn_int w d t _ _ _ _ ht
    · have:=ikN_ge k;omega
  · cases td <;> simp [scalD] at hc
    · have:=ikN_ge ‹IntKind›;omega
    · rw [run_equalIn_string w d t a b ht,beq_toListBytes]
theorem scal_part {t:TypeId} {td:TypeDesc} {c:Nat} (ht:P.underlying t=some td) (hc:scalD td=some c) {xs:Array Value} {i:Nat} {x:Value} (hx:xs[i]?=some x):(part t xs i).run P w=.ok x w:=by
  have ha:(isAgg t).run P w=.ok false w:=run_isAgg (by unfold aggO;rw [ht];cases td <;> simp [scalD] at hc <;> rfl) w
  simp [part,ha,hx]
theorem eqFields_ok {d:Nat} {xs ys:Array Value}:∀ {fs:List Field} {i:Nat} {cs:List Nat} {xr yr:List Value} {e:Bool},plainFs P fs i=some cs →
    (∀ j v,xr[j]?=some v→xs[i+j]?=some v)→(∀ j v,yr[j]?=some v→ys[i+j]?=some v)→sameL cs xr yr=some e→(Op.eqFields (d+1) xs ys fs).run P w=.ok e w
  | [],i,cs,xr,yr,e,h,_,_,hs=>by
    simp [plainFs] at h;subst h
    cases xr <;> cases yr <;> simp [sameL] at hs
    subst hs
    rfl
  | f::fs,i,cs,xr,yr,e,h,hx,hy,hs=>by
    simp only [plainFs] at h
    split at h
    case isFalse=>cases h
    rename_i hf
    simp only [Bool.and_eq_true] at hf
    have hoff:f.offset=i:=Nat.eq_of_beq_eq_true hf.1
    obtain ⟨c,h1,h⟩:=Option.bind_eq_some_iff.1 h
    obtain ⟨cs',h2,rfl⟩:=Option.map_eq_some_iff.1 h
    obtain ⟨td,h3,h4⟩:=Option.bind_eq_some_iff.1 h1
    cases xr with
    | nil=>cases yr <;> simp [sameL] at hs
    | cons x xr =>
      cases yr with
      | nil=>simp [sameL] at hs
      | cons y yr =>
        simp only [sameL] at hs
        obtain ⟨a,s1,hs⟩:=Option.bind_eq_some_iff.1 hs
        obtain ⟨b,s2,rfl⟩:=Option.map_eq_some_iff.1 hs
        have ih:=eqFields_ok (d:=d) (xs:=xs) (ys:=ys) h2 (fun j v hv=>by rw [show i+1+j=i+(j+1) from by omega];exact hx (j+1) v (by simpa using hv)) (fun j v hv=>by rw [show i+1+j=i+(j+1) from by omega];exact hy (j+1) v (by simpa using hv)) s2
        have p1:(part f.type xs f.offset).run P w=.ok x w:=scal_part h3 h4 (by rw [hoff];exact hx 0 x rfl)
        have p2:(part f.type ys f.offset).run P w=.ok y w:=scal_part h3 h4 (by rw [hoff];exact hy 0 y rfl)
        have hn:f.name ≠ "_" := by simpa using hf.2
        simp only [Op.eqFields,if_pos hn,Sem.run_bind,p1,p2,Result.andThen_ok,sameS_run h3 h4 s1,Sem.run_ite]
        cases a
        · rfl
        · simpa using ih
theorem plainS_run {d:Nat} {t:TypeId} {cs:List Nat} {xs ys:List Value} {e:Bool} (ht:plainS P t=some cs) (hs:sameL cs xs ys=some e) :
    (Op.equalIn (d+2) t (.agg xs.toArray) (.agg ys.toArray)).run P w=.ok e w:=by
  unfold plainS at ht
  split at ht
  case h_2=>cases ht
  rename_i fs hu
  split at ht
  case isFalse=>cases ht
  rename_i hc
  simp only [Bool.and_eq_true,Bool.not_eq_true'] at hc
  have hf:P.fieldsOf t=fs:=by unfold Program.fieldsOf;rw [hu]
  rw [run_equalIn_struct w (d+1) t _ _ (by rw [hf];exact hu) hc.1,hf]
  exact eqFields_ok ht (fun j v h=>by simpa using h) (fun j v h=>by simpa using h) hs
theorem sameK_run {t:TypeId} {kk:Bool×List Nat} {x y:Value} {e:Bool} (ht:keyD P t=some kk) (hs:sameK kk x y=some e):(Op.equal t x y).run P w=.ok e w:=by
  unfold keyD at ht
  split at ht
  · rename_i c hc
    cases ht
    obtain ⟨td,h1,h2⟩:=Option.bind_eq_some_iff.1 hc
    exact sameS_run (d:=9999) h1 h2 hs
  · obtain ⟨cs,h1,rfl⟩:=Option.map_eq_some_iff.1 ht
    unfold sameK at hs
    simp only at hs
    split at hs
    · rename_i xs ys
      have:=plainS_run (d:=9998) (w:=w) h1 hs
      simpa [Op.equal,Op.maxDepth] using this
    · cases hs
theorem checkFields_ok {em:Bool} {n:Nat} {cs:Array Value}:∀ {fs:List Field} {i:Nat} {ks:List Nat} {xr:List Value} {e:Bool},plainFs P fs i=some ks →
    (∀ j v,xr[j]?=some v→cs[i+j]?=some v)→sameL ks xr xr=some e →
    (forIn (m:=Sem) fs PUnit.unit fun f _=>if f.name ≠ "_" then do
        let x ← part f.type cs f.offset
        Instr.checkKey em (n+1) f.type x
        pure (ForInStep.yield PUnit.unit)
      else pure (ForInStep.yield PUnit.unit)).run P w=.ok PUnit.unit w
  | [],i,ks,xr,e,h,_,hs=>rfl
  | f::fs,i,ks,xr,e,h,hx,hs=>by
    simp only [plainFs] at h
    split at h
    case isFalse=>cases h
    rename_i hf
    simp only [Bool.and_eq_true] at hf
    have hoff:f.offset=i:=Nat.eq_of_beq_eq_true hf.1
    obtain ⟨c,h1,h⟩:=Option.bind_eq_some_iff.1 h
    obtain ⟨cs',h2,rfl⟩:=Option.map_eq_some_iff.1 h
    obtain ⟨td,h3,h4⟩:=Option.bind_eq_some_iff.1 h1
    cases xr with
    | nil=>simp [sameL] at hs
    | cons x xr =>
      simp only [sameL] at hs
      obtain ⟨a,s1,hs⟩:=Option.bind_eq_some_iff.1 hs
      obtain ⟨b,s2,rfl⟩:=Option.map_eq_some_iff.1 hs
      have ih:=checkFields_ok (em:=em) (n:=n) (cs:=cs) h2 (fun j v hv=>by rw [show i+1+j=i+(j+1) from by omega];exact hx (j+1) v (by simpa using hv)) s2
      have p1:(part f.type cs f.offset).run P w=.ok x w:=scal_part h3 h4 (by rw [hoff];exact hx 0 x rfl)
      have hn:f.name ≠ "_" := by simpa using hf.2
      have hk:(Instr.checkKey em (n+1) f.type x).run P w=.ok () w:=by
        unfold Instr.checkKey
        simp only [Sem.run_bind,run_underlying h3,Result.andThen_ok]
        cases td <;> simp [scalD] at h4 <;> cases x <;> rfl
      rw [List.forIn_cons]
      simp only [if_pos hn,Sem.run_bind,p1,Result.andThen_ok,hk,Sem.run_pure]
      exact ih
theorem checkKey_ok {t:TypeId} {kk:Bool×List Nat} {x:Value} (ht:keyD P t=some kk) (hs:okKey kk x=true) (em:Bool):(Instr.checkKey em 10000 t x).run P w=.ok () w:=by
  unfold okKey at hs
  split at hs
  case h_2=>cases hs
  rename_i e hs'
  unfold keyD at ht
  split at ht
  · rename_i c hc
    cases ht
    obtain ⟨td,h1,h2⟩:=Option.bind_eq_some_iff.1 hc
    unfold Instr.checkKey
    simp only [Sem.run_bind,run_underlying h1,Result.andThen_ok]
    cases td <;> simp [scalD] at h2 <;> cases x <;> rfl
  · obtain ⟨cs,h1,rfl⟩:=Option.map_eq_some_iff.1 ht
    have:∃ xs:Array Value,x=.agg xs:=by
      cases x <;> simp [sameK] at hs'
      exact ⟨_,rfl⟩
    obtain ⟨xs,rfl⟩:=this
    have hs':sameL cs xs.toList xs.toList=some e:=hs'
    unfold plainS at h1
    split at h1
    case h_2=>cases h1
    rename_i fs hu
    split at h1
    case isFalse=>cases h1
    unfold Instr.checkKey
    simp only [Sem.run_bind,run_underlying hu,Result.andThen_ok]
    rw [← Array.forIn_toList]
    refine (congrArg (fun r=>Result.andThen r _) (checkFields_ok (cs:=xs) (n:=9998) h1 (fun j v h=>by simpa using h) hs')).trans ?_
    rfl
theorem findAsking_ok {t:TypeId} {kk:Bool×List Nat} {k:Value} (ht:keyD P t=some kk):∀ {es:List MapEntry} {i:Nat} {r:Option (Nat×Value)},
    mfind kk (es.map fun e=>(e.key,e.val)) k i=some r→(Instr.findAsking t k es i).run P w=.ok r w
  | [],i,r,h=>by simp [mfind] at h;subst h;rfl
  | e::es,i,r,h=>by
    simp only [List.map_cons,mfind] at h
    split at h
    · rename_i hs
      cases h
      simp [Instr.findAsking,sameK_run (w:=w) ht hs]
    · rename_i hs
      simp only [Instr.findAsking,Sem.run_bind,sameK_run (w:=w) ht hs,Result.andThen_ok,Bool.false_eq_true,if_false]
      exact findAsking_ok ht h
    · cases h
theorem findNow_ok {td:TypeDesc} {c:Nat} {k:Value} (hc:scalD td=some c):∀ {es:List MapEntry} {i:Nat} {r:Option (Nat×Value)},
    mfind (false,[c]) (es.map fun e=>(e.key,e.val)) k i=some r→Instr.findNow td k es i=some r
  | [],i,r,h=>by simp [mfind] at h;subst h;rfl
  | e::es,i,r,h=>by
    have key:∀ b,sameK (false,[c]) k e.key=some b→Instr.sameNow td k e.key=some b:=fun b hb=>by
      have hb:sameS c k e.key=some b:=hb
      generalize e.key=ek at hb ⊢
      rcases sameS_cases hb with ⟨a,b,rfl,rfl,rfl,rfl⟩|⟨k,a,b,rfl,rfl,rfl,rfl⟩|⟨a,b,rfl,rfl,rfl,rfl⟩
      · cases td <;> simp [scalD] at hc
        · rfl
        · have:=ikN_ge ‹IntKind›;omega
      · cases td <;> simp [scalD] at hc
        · have:=ikN_ge k;omega
        · simp [Instr.sameNow]
        · have:=ikN_ge k;omega
      · cases td <;> simp [scalD] at hc
        · have:=ikN_ge ‹IntKind›;omega
        · rfl
    simp only [List.map_cons,mfind] at h
    split at h
    · rename_i hs;cases h;simp [Instr.findNow,key _ hs]
    · rename_i hs;simp only [Instr.findNow,key _ hs];exact findNow_ok hc h
    · cases h
theorem findKey_ok {t:TypeId} {kk:Bool×List Nat} {k:Value} (ht:keyD P t=some kk) {es:List MapEntry} {r:Option (Nat×Value)}
    (h:mfind kk (es.map fun e=>(e.key,e.val)) k 0=some r):(Instr.findKey t k es).run P w=.ok r w:=by
  have ht0:=ht
  unfold keyD at ht
  split at ht
  · rename_i c hc
    cases ht
    obtain ⟨td,h1,h2⟩:=Option.bind_eq_some_iff.1 hc
    exact MapKept.run_findKey h1 (findNow_ok h2 h)
  · obtain ⟨cs,h1,rfl⟩:=Option.map_eq_some_iff.1 ht
    have:(match P.underlying t with|some (.array _ _)|some (.struct _)=>true|_=>false)=true:=by
      unfold plainS at h1
      split at h1
      · rename_i fs hu;rw [hu]
      · cases h1
    rw [run_findKey_eq w this]
    exact findAsking_ok ht0 h
theorem sameS_eq {c:Nat} {x y:Value} (h:sameS c x y=some true):x=y∧∀ n,Instr.sameBits n y x=true:=by
  rcases sameS_cases h with ⟨a,b,rfl,rfl,rfl,e⟩|⟨k,a,b,rfl,rfl,rfl,e⟩|⟨a,b,rfl,rfl,rfl,e⟩
  · have:=eq_of_beq e.symm;subst this;exact ⟨rfl,fun n=>by cases n <;> simp [Instr.sameBits]⟩
  · have:=eq_of_beq e.symm;subst this;exact ⟨rfl,fun n=>by cases n <;> simp [Instr.sameBits]⟩
  · have:=bytes_eq e.symm;subst this;exact ⟨rfl,fun n=>by cases n <;> simpa [Instr.sameBits] using e.symm⟩
theorem sameL_eq:∀ {cs:List Nat} {xs ys:List Value},sameL cs xs ys=some true→xs=ys∧∀ n,((ys.zip xs).all fun (p:Value×Value)=>Instr.sameBits n p.1 p.2)=true
  | [],xs,ys,h=>by cases xs <;> cases ys <;> simp [sameL] at h ⊢
  | c::cs,xs,ys,h=>by
    cases xs with
    | nil=>cases ys <;> simp [sameL] at h
    | cons x xs =>
      cases ys with
      | nil=>simp [sameL] at h
      | cons y ys =>
        simp only [sameL] at h
        obtain ⟨a,s1,h⟩:=Option.bind_eq_some_iff.1 h
        obtain ⟨b,s2,h⟩:=Option.map_eq_some_iff.1 h
        simp only [Bool.and_eq_true] at h
        obtain ⟨rfl,rfl⟩:=h
        obtain ⟨e1,e2⟩:=sameS_eq s1
        obtain ⟨f1,f2⟩:=sameL_eq s2
        subst e1 f1
        exact ⟨rfl,fun n=>by simpa using ⟨e2 n,by simpa using f2 n⟩⟩
theorem sameK_bits {kk:Bool×List Nat} {x y:Value} (h:sameK kk x y=some true):x=y∧Instr.sameBits 10000 y x=true:=by
  unfold sameK at h
  split at h
  · split at h
    · rename_i xs ys
      obtain ⟨e1,e2⟩:=sameL_eq h
      have e:xs=ys:=by
        have:=congrArg List.toArray e1;simpa using this
      subst e
      refine ⟨rfl,?_⟩
      have:=e2 9999
      simpa [Instr.sameBits] using this
    · cases h
  · obtain ⟨e1,e2⟩:=sameS_eq h;exact ⟨e1,e2 _⟩
  · cases h
theorem mfind_spec {kk:Bool×List Nat} {k:Value}:∀ {kvs:List (Value×Value)} {i:Nat} {p:Nat×Value},mfind kk kvs k i=some (some p)→∃ j,p.1=i+j∧kvs[j]?=some (k,p.2)∧Instr.sameBits 10000 k k=true
  | [],i,p,h=>by simp [mfind] at h
  | (a,v)::r,i,p,h=>by
    simp only [mfind] at h
    split at h
    · rename_i hs
      cases h
      obtain ⟨rfl,h2⟩:=sameK_bits hs
      exact ⟨0,rfl,rfl,h2⟩
    · obtain ⟨j,h1,h2,h3⟩:=mfind_spec h
      exact ⟨j+1,by omega,by simpa using h2,h3⟩
    · cases h
end
section
variable {P:Prg} {wf:Nat} {o:Oper} {s:St} {a:Act} {γ:List (Option Nat)} {I:Nat→Prop} {w:World} {K:V→List Blk→Prop}
  {next:Act→World→Prop} {Q:Exit→Act→World→Prop}
theorem keyOf_ok {v:V} {x k:Value} (h:keyOf v=some k) (hv:RV γ s.h I w v x):x=k:=by
  unfold keyOf at h
  split at h
  · cases h;exact rv_sc hv
  · rename_i cs
    obtain ⟨l,h1,rfl⟩:=Option.map_eq_some_iff.1 h
    cases hv with
    | g hv =>
      cases hv with
      | @ag _ vs hl h1' hr =>
        congr 1
        congr 1
        have:=optL_some h1
        refine List.ext_getElem? fun i=>?_
        have h2:=congrArg (·[i]?) this
        simp only [List.getElem?_map] at h2
        cases hi:cs[i]? with
        | none =>
          rw [hi] at h2
          have h3:vs[i]?=none:=by
            rw [List.getElem?_eq_none_iff] at hi ⊢;omega
          cases hli:l[i]? with
          | none=>rw [h3]
          | some y=>rw [hli] at h2;simp at h2
        | some c =>
          rw [hi] at h2
          have hlt:i < vs.length:=by have:=lt_of_get hi;omega
          have hr':=hr i c hi
          rw [List.getD_eq_getElem?_getD,List.getElem?_eq_getElem hlt] at hr'
          cases hli:l[i]? with
          | none=>rw [hli] at h2;simp at h2
          | some y =>
            rw [hli] at h2
            simp only [Option.map_some,Option.some.injEq] at h2
            unfold scOf at h2
            split at h2
            · cases h2
              simp only [Option.getD_some] at hr'
              generalize hg:vs[i]=z at hr'
              cases hr'
              rw [List.getElem?_eq_getElem hlt,hg]
            · cases h2
  · cases h
theorem withMap_ok {m:V} {K:Nat→List (Value×Value)→Prop} {x:Value} (h:withMap s.h m K) (hv:RV γ s.h I w m x) (r:RelH γ I w s.h) :
    ∃ (b k cl:Nat) (kvs:List (Value×Value)) (es:Array MapEntry),s.h[b]?=some (.mp kvs)∧γ[b]?=some (some k)∧w.heap[k]?=some (.map es cl)∧x=.map (some k)∧es.toList.map (fun e=>(e.key,e.val))=kvs ∧
      (∀ (i:Nat) (e:MapEntry),es[i]?=some e→e.born=i∧e.val.oneCell'=true)∧cl=es.size∧K b kvs:=by
  unfold withMap at h
  split at h
  case h_2=>exact h.elim
  rename_i b
  split at h
  case h_2=>exact h.elim
  rename_i kvs hb
  rw [getB_eq] at hb
  cases hv with
  | @mp _ k kvs' hb' hk =>
  obtain ⟨k2,es,cl,h1,h2,h3,h4,h5⟩:=r.mp b kvs hb
  rw [hk] at h1;cases h1
  exact ⟨b,k,cl,kvs,es,hb,hk,h2,rfl,h3,h4,h5,h⟩
theorem mapD_ok {t:TypeId} {d:(Bool×List Nat)×TypeId×TypeId} (h:mapD P t=some d):P.underlying t=some (.map d.2.1 d.2.2)∧keyD P d.2.1=some d.1:=by
  unfold mapD at h
  split at h
  · rename_i k e hu
    obtain ⟨kk,h1,rfl⟩:=Option.map_eq_some_iff.1 h
    exact ⟨hu,h1⟩
  · cases h
theorem tu2 {γ:List (Option Nat)} {H:List Blk} {I:Nat→Prop} {w:World} {v u:V} {x y:Value} (h:RV γ H I w v x) (k:RV γ H I w u y):RV γ H I w (.tu [v,u]) (.tuple #[x,y]):=by
  refine .tu (vs:=[x,y]) rfl fun i t ht=>?_
  match i,ht with
  | 0,ht=>cases ht;exact h
  | 1,ht=>cases ht;exact k
theorem zeroS_ok {t:TypeId} {z:Value} (h:zeroS P t=some z):(zeroValue t).run P w=.ok z w∧z.oneCell'=true:=by
  unfold zeroS at h
  split at h
  case h_2=>cases h
  obtain ⟨i,q1,h⟩:=Option.bind_eq_some_iff.1 h
  obtain ⟨zv,q2,h⟩:=Option.bind_eq_some_iff.1 h
  split at h
  · rename_i h1;cases h;exact ⟨by simp [zeroValue,run_typeInfo q1,q2],h1⟩
  · cases h
theorem op_mkm (r:Rel γ I w s a) (hn:Fits γ I w s.h a o.dst K next) {t:TypeId} (ho:o.op=.makeMap t none) (h:opP P s.t .mkm s.h K):o.wp P a w next Q:=by
  simp only [opP,addB_eq] at h
  obtain ⟨a1,a2⟩:=newM_ok r.heap
  refine wp_value (x:=.map (some w.heap.size)) (by simp [execOp,ho,Instr.makeMap]) (hn _ _ _ _ _ _ h a1 ?_ a2)
  refine .mp (kvs:=[]) (by simp) ?_
  rw [List.getElem?_append_right (by rw [r.heap.len];exact Nat.le_refl _)];simp [r.heap.len]
theorem op_tas (r:Rel γ I w s a) (hn:Fits γ I w s.h a o.dst K next) {xt ty t1:TypeId} {fs:Array Field} {x:Operand} {x':X} (ho:o.op=.typeAssert x xt ty false) (ht:P.underlying ty=some (.struct fs)) (hx:slimX P t1 x=some x')
    (h:opP P s.t (.tas ty x') s.h K):o.wp P a w next Q:=by
  have hx':=slimX_ok hx r
  simp only [opP] at h
  split at h
  case h_2=>exact h.elim
  rename_i ty' v e1
  rw [e1] at hx'
  have e2:=rv_sc hx'
  obtain ⟨rfl,h⟩:=h
  split at h
  case h_2=>exact h.elim
  rename_i u hu
  refine fits_value r hn (x:=v) (by simp [execOp,ho,e2,Instr.typeAssert,run_underlying ht]) ?_ h
  unfold valT at hu
  split at hu
  · rename_i cs
    split at hu
    · rename_i hall
      cases hu
      have hall':∀ x∈cs.toList,x.oneCell'=true:=List.all_eq_true.1 hall
      refine .g (.ag (vs:=cs.toList) (by simp) hall' fun i t ht=>?_)
      rw [List.getElem?_map] at ht
      obtain ⟨y,hy,rfl⟩:=Option.map_eq_some_iff.1 ht
      rw [getD_eq hy]
      exact .sc (hall' y (List.mem_of_getElem? hy))
    · cases hu
  · cases hu
theorem op_lenm (r:Rel γ I w s a) (hn:Fits γ I w s.h a o.dst K next) {t k e t1:TypeId} {c:Call} {x:Operand} {x':X} (ho:o.op=.call c) (hc:c.callee=.builtin .len) (ha:c.args=#[x]) (hat:c.argTypes=#[t])
    (ht:P.underlying t=some (.map k e)) (hx:slimX P t1 x=some x') (h:opP P s.t (.lenm x') s.h K):o.wp P a w next Q:=by
  simp only [opP] at h
  obtain ⟨b,kk,cl,kvs,es,h1,h2,h3,h4,h5,h6,h7,hK⟩:=withMap_ok h (slimX_ok hx r) r.heap
  refine fits_value r hn (x:=.int .i64 kvs.length) ?_ rv_int hK
  have hl:kvs.length=es.size:=by rw [← h5];simp
  simp [execOp,ho,resolve,hc,ha,invoke,builtin,Builtin.len_,hat,run_underlying ht,h4,MapKept.run_getObj_map h3,hl,goInt]
theorem op_lku (r:Rel γ I w s a) (hn:Fits γ I w s.h a o.dst K next) {t t1 t2:TypeId} {x k:Operand} {x' k':X} {ok:Bool} {d:(Bool×List Nat)×TypeId×TypeId} {z:Value} (ho:o.op=.lookup t x k ok) (hd:mapD P t=some d) (hz:zeroS P d.2.2=some z)
    (hx:slimX P t1 x=some x') (hk:slimX P t2 k=some k') (h:opP P s.t (.lku d.1 ok z x' k') s.h K):o.wp P a w next Q:=by
  simp only [opP] at h
  obtain ⟨b,kk,cl,kvs,es,h1,h2,h3,h4,h5,h6,h7,hK⟩:=withMap_ok h (slimX_ok hx r) r.heap
  split at hK
  case h_2=>exact hK.elim
  rename_i kv hkv
  obtain ⟨q1,res,q2,hK⟩:=hK
  have hkk:=keyOf_ok hkv (slimX_ok hk r)
  obtain ⟨d1,d2⟩:=mapD_ok hd
  obtain ⟨z1,z2⟩:=zeroS_ok (w:=w) hz
  rw [← h5] at q2
  have hrun:=findKey_ok (w:=w) d2 q2
  have hval:∀ p,res=some p→p.2.oneCell'=true:=fun p hp=>by
    subst hp
    obtain ⟨j,e1,e2,_⟩:=mfind_spec q2
    rw [List.getElem?_map] at e2
    cases hj:es.toList[j]? with
    | none=>rw [hj] at e2;cases e2
    | some e =>
      rw [hj] at e2
      simp only [Option.map_some,Option.some.injEq,Prod.mk.injEq] at e2
      rw [← e2.2]
      exact (h6 j e (by simpa using hj)).2
  refine fits_value r hn (x:=if ok then .tuple #[(res.map (·.2)).getD z,.bool res.isSome] else (res.map (·.2)).getD z) ?_ ?_ hK
  · simp only [execOp,ho]
    refine run_v ?_
    simp only [Instr.lookup,Sem.run_bind,run_underlying d1,Result.andThen_ok,h4,MapKept.run_getObj_map h3,Sem.run_pure,hkk,checkKey_ok d2 q1,hrun]
    cases res with
    | none=>simp [z1]
    | some p=>simp
  · unfold lkuV
    cases ok with
    | true =>
      cases res with
      | none=>exact tu2 (.g (.sc z2)) rv_bool
      | some p=>exact tu2 (.g (.sc (hval p rfl))) rv_bool
    | false =>
      cases res with
      | none=>exact .g (.sc z2)
      | some p=>exact .g (.sc (hval p rfl))
theorem modify_get {es:Array MapEntry} {i:Nat} {f:MapEntry→MapEntry} {j:Nat}:(es.modify i f)[j]?=if i=j then (es[j]?).map f else es[j]?:=by
  rw [Array.getElem?_modify]
theorem modify_kvs {es:Array MapEntry} {i:Nat} {e:MapEntry} {f:MapEntry→MapEntry} {p:Value×Value} (he:es[i]?=some e) (hf:((f e).key,(f e).val)=p) :
    (es.modify i f).toList.map (fun e=>(e.key,e.val))=(es.toList.map fun e=>(e.key,e.val)).set i p:=by
  refine List.ext_getElem? fun j=>?_
  rw [List.getElem?_map,List.getElem?_set,List.getElem?_map,Array.getElem?_toList,Array.getElem?_toList,modify_get]
  by_cases hij:i=j
  · subst hij
    rw [if_pos rfl,if_pos rfl,he]
    have:i < (es.toList.map fun e=>(e.key,e.val)).length:=by simpa using (Array.getElem?_eq_some_iff.1 he).1
    rw [if_pos this]
    simp [← hf]
  · rw [if_neg hij,if_neg hij]
theorem op_mup (r:Rel γ I w s a) (hn:Fits γ I w s.h a o.dst K next) {t t1 t2 t3:TypeId} {m k x:Operand} {m' k' x':X} {d:(Bool×List Nat)×TypeId×TypeId} (ho:o.op=.mapUpdate t m k x) (hd:mapD P t=some d)
    (hm:slimX P t1 m=some m') (hk:slimX P t2 k=some k') (hx:slimX P t3 x=some x') (h:opP P s.t (.mup d.1 m' k' x') s.h K):o.wp P a w next Q:=by
  simp only [opP] at h
  obtain ⟨b,kk,cl,kvs,es,h1,h2,h3,h4,h5,h6,h7,hK⟩:=withMap_ok h (slimX_ok hm r) r.heap
  split at hK
  case h_2=>exact hK.elim
  rename_i kv v hkv hv
  obtain ⟨q1,res,q2,hK⟩:=hK
  have hkk:=keyOf_ok hkv (slimX_ok hk r)
  have hxx:=slimX_ok hx r
  rw [hv] at hxx
  have hv1:=rv_one hxx
  have hxv:=rv_sc hxx
  obtain ⟨d1,d2⟩:=mapD_ok hd
  rw [setB_eq] at hK
  have q3:=q2
  rw [← h5] at q2
  have hrun:=findKey_ok (w:=w) d2 q2
  cases res with
  | none =>
    obtain ⟨u1,u2⟩:=updM_ok (es':=es.push ⟨kv,v,cl⟩) (cl':=cl+1) (kvs':=mput kvs kv v none) r.heap h1 h2 h3 (by simp [mput,h5]) (fun i e he=>by
      rw [Array.getElem?_push] at he
      split at he
      · rename_i hi;cases he;exact ⟨by rw [h7,hi],hv1⟩
      · exact h6 i e he) (by simp [h7])
    refine wp_skp ?_ (hn _ _ _ _ _ _ hK u1 (.tu (vs:=[]) rfl (by simp)) u2)
    simp only [execOp,ho,hkk,hxv,h4]
    simp [Instr.mapUpdate,run_underlying d1,MapKept.run_getObj_map h3,checkKey_ok d2 q1,hrun,MapKept.run_setObj_map _ h3,World.setB]
  | some p =>
    obtain ⟨i,pv⟩:=p
    obtain ⟨j,e1,e2,e3⟩:=mfind_spec q2
    simp only [Nat.zero_add] at e1
    subst e1
    rw [List.getElem?_map] at e2
    cases hj:es.toList[i]? with
    | none=>rw [hj] at e2;cases e2
    | some e0 =>
      rw [hj] at e2
      simp only [Option.map_some,Option.some.injEq,Prod.mk.injEq] at e2
      have hj':es[i]?=some e0:=by simpa using hj
      obtain ⟨u1,u2⟩:=updM_ok (es':=es.modify i fun e=>{ e with key:=kv,val:=v }) (cl':=cl) (kvs':=mput kvs kv v (some (i,pv))) r.heap h1 h2 h3 (by rw [modify_kvs (p:=(kv,v)) hj' rfl,h5];rfl) (fun i' e he=>by
        rw [modify_get] at he
        split at he
        · rename_i hi;subst hi;rw [hj'] at he;cases he;exact ⟨(h6 i e0 hj').1,hv1⟩
        · exact h6 i' e he) (by simp [h7])
      refine wp_skp ?_ (hn _ _ _ _ _ _ hK u1 (.tu (vs:=[]) rfl (by simp)) u2)
      simp only [execOp,ho,hkk,hxv,h4]
      have hks:(Instr.keyThatStays kv kv).run P w=.ok kv w:=by simp [Instr.keyThatStays,e3]
      simp [Instr.mapUpdate,run_underlying d1,MapKept.run_getObj_map h3,checkKey_ok d2 q1,hrun,MapKept.run_setObj_map _ h3,World.setB,hj',e2.1,hks]
theorem op_mpe (r:Rel γ I w s a) (hn:Fits γ I w s.h a o.dst K next) {t t1 t2:TypeId} {m k:Operand} {m' k':X} {d:(Bool×List Nat)×TypeId×TypeId} {z:Value} (ho:o.op=.mapEntry t m k) (hd:mapD P t=some d) (hz:zeroS P d.2.2=some z)
    (hm:slimX P t1 m=some m') (hk:slimX P t2 k=some k') (h:opP P s.t (.mpe d.1 z m' k') s.h K):o.wp P a w next Q:=by
  simp only [opP] at h
  obtain ⟨b,kk,cl,kvs,es,h1,h2,h3,h4,h5,h6,h7,hK⟩:=withMap_ok h (slimX_ok hm r) r.heap
  split at hK
  case h_2=>exact hK.elim
  rename_i kv hkv
  obtain ⟨q1,res,q2,hK⟩:=hK
  have hkk:=keyOf_ok hkv (slimX_ok hk r)
  obtain ⟨d1,d2⟩:=mapD_ok hd
  obtain ⟨z1,z2⟩:=zeroS_ok (w:=w) hz
  rw [← h5] at q2
  have hrun:=findKey_ok (w:=w) d2 q2
  have hlen:kvs.length=es.size:=by rw [← h5];simp
  cases res with
  | none =>
    simp only [setB_eq] at hK
    obtain ⟨u1,u2⟩:=updM_ok (es':=es.push ⟨kv,z,cl⟩) (cl':=cl+1) (kvs':=kvs++[(kv,z)]) r.heap h1 h2 h3 (by simp [h5]) (fun i e he=>by
      rw [Array.getElem?_push] at he
      split at he
      · rename_i hi;cases he;exact ⟨by rw [h7,hi],z2⟩
      · exact h6 i e he) (by simp [h7])
    refine wp_value (x:=.tuple #[z,.int .i64 cl]) ?_ (hn _ _ _ _ _ _ hK u1 (tu2 (.g (.sc z2)) (by rw [hlen,← h7];exact rv_int)) u2)
    simp only [execOp,ho,hkk,h4]
    refine run_v ?_
    simp [Instr.mapEntry,run_underlying d1,MapKept.run_getObj_map h3,checkKey_ok d2 q1,hrun,MapKept.run_setObj_map _ h3,World.setB,z1,goInt]
  | some p =>
    obtain ⟨i,pv⟩:=p
    obtain ⟨j,e1,e2,e3⟩:=mfind_spec q2
    simp only [Nat.zero_add] at e1
    subst e1
    simp only [setB_eq] at hK
    rw [List.getElem?_map] at e2
    cases hj:es.toList[i]? with
    | none=>rw [hj] at e2;cases e2
    | some e0 =>
      rw [hj] at e2
      simp only [Option.map_some,Option.some.injEq,Prod.mk.injEq] at e2
      have hj':es[i]?=some e0:=by simpa using hj
      obtain ⟨u1,u2⟩:=updM_ok (es':=es.modify i fun e=>{ e with key:=kv }) (cl':=cl) (kvs':=kvs.set i (kv,pv)) r.heap h1 h2 h3 (by rw [modify_kvs (p:=(kv,pv)) hj' (by rw [← e2.2]),h5]) (fun i' e he=>by
        rw [modify_get] at he
        split at he
        · rename_i hi;subst hi;rw [hj'] at he;cases he;exact h6 i e0 hj'
        · exact h6 i' e he) (by simp [h7])
      refine wp_value (x:=.tuple #[pv,.int .i64 i]) ?_ (hn _ _ _ _ _ _ hK u1 (tu2 (by rw [← e2.2];exact .g (.sc (h6 _ e0 hj').2)) rv_int) u2)
      simp only [execOp,ho,hkk,h4]
      refine run_v ?_
      have hks:(Instr.keyThatStays kv kv).run P w=.ok kv w:=by simp [Instr.keyThatStays,e3]
      simp [Instr.mapEntry,run_underlying d1,MapKept.run_getObj_map h3,checkKey_ok d2 q1,hrun,MapKept.run_setObj_map _ h3,World.setB,hj',e2.1,hks,goInt,(h6 i e0 hj').1]
theorem findIdx_born {es:Array MapEntry} {i:Nat} (hb:∀ (i:Nat) (e:MapEntry),es[i]?=some e→e.born=i∧e.val.oneCell'=true) (hi:i < es.size):es.findIdx? (fun e=>(e.born:Int) == (i:Int))=some i:=by
  rw [Array.findIdx?_eq_some_iff_getElem]
  refine ⟨hi,?_,fun j hj=>?_⟩
  · have:=(hb i es[i] (by simp [hi])).1
    simp [this]
  · have:=(hb j (es[j]'(by omega)) (Array.getElem?_eq_getElem _)).1
    simp [this];omega
theorem op_est (r:Rel γ I w s a) (hn:Fits γ I w s.h a o.dst K next) {t t1 t2 t3:TypeId} {m st x:Operand} {m' s' x':X} (ho:o.op=.entryStore t m st x)
    (hm:slimX P t1 m=some m') (hs:slimX P t2 st=some s') (hx:slimX P t3 x=some x') (h:opP P s.t (.est m' s' x') s.h K):o.wp P a w next Q:=by
  simp only [opP] at h
  obtain ⟨b,kk,cl,kvs,es,h1,h2,h3,h4,h5,h6,h7,hK⟩:=withMap_ok h (slimX_ok hm r) r.heap
  split at hK
  case h_2=>exact hK.elim
  rename_i ik i v hi hv
  obtain ⟨⟨i0,i1⟩,hK⟩:=hK
  have hss:=slimX_ok hs r
  rw [hi] at hss
  have hsv:=rv_sc hss
  have hxx:=slimX_ok hx r
  rw [hv] at hxx
  have hv1:=rv_one hxx
  have hxv:=rv_sc hxx
  rw [setB_eq] at hK
  have hlen:kvs.length=es.size:=by rw [← h5];simp
  obtain ⟨n,rfl⟩:∃ n:Nat,i=n:=⟨i.toNat,by omega⟩
  have hn':n < es.size:=by omega
  obtain ⟨e0,hj'⟩:∃ e0,es[n]?=some e0:=⟨_,Array.getElem?_eq_getElem hn'⟩
  have hk0:kvs[n]?=some (e0.key,e0.val):=by rw [← h5,List.getElem?_map,Array.getElem?_toList,hj'];rfl
  have hms:mset kvs (n:Int).toNat v=kvs.set n (e0.key,v):=by simp [mset,hk0]
  rw [hms] at hK
  obtain ⟨u1,u2⟩:=updM_ok (es':=es.modify n fun e=>{ e with val:=v }) (cl':=cl) (kvs':=kvs.set n (e0.key,v)) r.heap h1 h2 h3 (by rw [modify_kvs (p:=(e0.key,v)) hj' rfl,h5]) (fun i' e he=>by
    rw [modify_get] at he
    split at he
    · rename_i hi;subst hi;rw [hj'] at he;cases he;exact ⟨(h6 _ e0 hj').1,hv1⟩
    · exact h6 i' e he) (by simp [h7])
  refine wp_skp ?_ (hn _ _ _ _ _ _ hK u1 (.tu (vs:=[]) rfl (by simp)) u2)
  simp only [execOp,ho,hsv,hxv,h4]
  have hf:=findIdx_born h6 hn'
  simp [Instr.entryStore,MapKept.run_getObj_map h3,asInt,asIntOf,hf,MapKept.run_setObj_map _ h3,World.setB]
theorem eqTs_ok:∀ {cs:List Nat} {xs ys:List T} {k:Bool→Prop} {vs us:List Value},eqTs cs xs ys k→RCs γ s.h I w (xs.map .g) vs→RCs γ s.h I w (ys.map .g) us→∃ e,sameL cs vs us=some e∧k e:=by
  intro cs
  induction cs with
  | nil =>
    intro xs ys k vs us h hx hy
    cases xs with
    | nil=>cases ys with
      | nil =>
        have h1:vs=[]:=List.eq_nil_of_length_eq_zero (by simpa using hx.rv.1)
        have h2:us=[]:=List.eq_nil_of_length_eq_zero (by simpa using hy.rv.1)
        subst h1 h2
        exact ⟨true,rfl,h⟩
      | cons _ _=>unfold eqTs at h;exact h.elim
    | cons _ _=>unfold eqTs at h;exact h.elim
  | cons c cs ih =>
    intro xs ys k vs us h hx hy
    cases xs with
    | nil=>unfold eqTs at h;exact h.elim
    | cons x xs =>
      cases x with
      | sc x =>
        cases ys with
        | nil=>unfold eqTs at h;exact h.elim
        | cons y ys =>
          cases y with
          | sc y =>
            obtain ⟨e,h1,h2⟩:=h
            obtain ⟨v,vs',rfl,hv,hvs⟩:=hx.rv.uncons
            obtain ⟨u,us',rfl,hu,hus⟩:=hy.rv.uncons
            obtain ⟨e2,h3,h4⟩:=ih h2 ⟨hvs,fun z hz=>hx.one z (List.mem_cons_of_mem _ hz)⟩ ⟨hus,fun z hz=>hy.one z (List.mem_cons_of_mem _ hz)⟩
            have:=rv_sc hv;subst this
            have:=rv_sc hu;subst this
            exact ⟨e && e2,by simp [sameL,h1,h3],h4⟩
          | _=>unfold eqTs at h;exact h.elim
      | _=>unfold eqTs at h;exact h.elim
theorem op_aeq (r:Rel γ I w s a) (hn:Fits γ I w s.h a o.dst K next) {ty ty2 t1 t2:TypeId} {x y:Operand} {x' y':X} {neg:Bool} {cs:List Nat} (ho:o.op=.binOp (if neg then .neq else .eql) ty x y ty2) (ht:plainS P ty=some cs)
    (hx:slimX P t1 x=some x') (hy:slimX P t2 y=some y') (h:opP P s.t (.aeq neg cs x' y') s.h K):o.wp P a w next Q:=by
  simp only [opP] at h
  split at h
  case h_2=>exact h.elim
  rename_i xs ys hx1 hy1
  have hX:=slimX_ok hx r
  have hY:=slimX_ok hy r
  obtain ⟨vs,e1,c1⟩:=asAg_ok (cs:=xs.map .g) (by rw [hx1];rfl) hX
  obtain ⟨us,e2,c2⟩:=asAg_ok (cs:=ys.map .g) (by rw [hy1];rfl) hY
  obtain ⟨e,s1,hK⟩:=eqTs_ok h c1 c2
  have hg:P.eqGuardType P.depth ty=false:=by
    unfold plainS at ht
    split at ht
    · split at ht
      · rename_i hc;simp only [Bool.and_eq_true,Bool.not_eq_true'] at hc;exact hc.2
      · cases ht
    · cases ht
  have hrun:=plainS_run (w:=w) (d:=9998) ht s1
  refine fits_value r hn (x:=.bool (if neg then !e else e)) ?_ rv_bool hK
  simp only [execOp,ho,e1,e2]
  refine run_v ?_
  cases neg with
  | false =>
    simp only [Sem.run_bind,Bool.false_eq_true,if_false,run_eqGuard_agg w _ _ _ _ _ _ hg,Result.andThen_ok,run_eql_struct,hrun]
  | true =>
    simp only [Sem.run_bind,if_true,run_eqGuard_agg w _ _ _ _ _ _ hg,Result.andThen_ok,run_neq_struct,hrun]
theorem op_aia (r:Rel γ I w s a) (hn:Fits γ I w s.h a o.dst K next) {t e t1 t2:TypeId} {len n:Nat} {x y:Operand} {x' y':X} (ho:o.op=.indexAddr t x y) (ht:P.underlying t=some (.array len e)) (_:1 < len) (hs:szOf P e=some n)
    (hx:slimX P t1 x=some x') (hy:slimX P t2 y=some y') (h:opP P s.t (.aia len n x' y') s.h K):o.wp P a w next Q:=by
  have hx':=slimX_ok hx r
  have hy':=slimX_ok hy r
  simp only [opP] at h
  split at h
  case h_2=>exact h.elim
  rename_i ik i hi
  rw [hi] at hy'
  have hY:=rv_sc hy'
  have run:∀ A:Addr,a.eval x=.pointer (some A)→(0≤i∧i < len)→(execOp a.eval o).run P w=.ok (.value (.pointer (some (A.add (i.toNat*n))))) w:=by
    intro A hX hb
    simp only [execOp,ho]
    refine run_v ?_
    simp [Instr.indexAt,asIntOf,hY,run_underlying ht,hX,Instr.sureAddr,run_sizeOf hs,hb.1,hb.2]
  split at h
  · rename_i b g j off e1
    rw [e1] at hx';generalize hX:a.eval x=XX at hx' run
    cases hx' with
    | @pa _ _ g' sz _ _ es A hb hg hc =>
    refine fits_value r hn (run _ rfl h.1) (.pa hb hg (fun e=>?_)) h.2
    obtain ⟨c1,k,hk,rfl⟩:=hc e
    exact ⟨c1,k,hk,by rw [addr_add,Nat.add_assoc]⟩
  · rename_i sz es j off e1
    rw [e1] at hx';generalize hX:a.eval x=XX at hx' run
    cases hx' with
    | ra k o' vs hi hI hw hc h1 hr =>
    have:=run _ rfl h.1
    rw [addr_add] at this
    refine fits_value r hn this ?_ h.2
    rw [Nat.add_assoc,Nat.add_assoc]
    exact .ra k o' vs hi hI hw hc h1 hr
  · exact h.elim
theorem op_barr (r:Rel γ I w s a) (hn:Fits γ I w s.h a o.dst K next) {t e:TypeId} {len n:Nat} {parts:Array (Nat×Operand)} {z:List V} {ps:List (Nat×Nat×X)} (ho:o.op=.build t parts) (ht:P.underlying t=some (.array len e)) (hz:zeroVs P t=some z)
    (hs:szOf P e=some n) (hp:optL (parts.toList.map fun p=>(slimX P e p.2).map fun x=>(p.1*n,n,x))=some ps)
    (h:opP P s.t (.build z ps) s.h K):o.wp P a w next Q:=by
  simp only [opP] at h
  split at h
  case h_2=>exact h.elim
  rename_i cs hcs
  obtain ⟨zv,z1,hzc⟩:=zeroVs_ok (s:=s) (γ:=γ) (I:=I) (w:=w) hz
  obtain ⟨c',hfill,hc'⟩:=fill_build (s:=s) (γ:=γ) (I:=I) (w:=w) (place:=fun i=>some (i*n,n)) (vs:=parts.toList.map fun p=>(p.1,a.eval p.2)) hzc hcs (by
    have:=optL_forall hp
    clear hp hcs
    generalize parts.toList=pl at this
    induction this with
    | nil=>exact .nil
    | @cons p x pl ps hpx _ ih =>
      refine .cons ?_ ih
      obtain ⟨i,op⟩:=p
      obtain ⟨x',h1,rfl⟩:=Option.map_eq_some_iff.1 hpx
      exact ⟨rfl,slimX_ok h1 r⟩)
  refine fits_value r hn (x:=.agg c') ?_ (by have:=mkAg_ok hc';simpa using this) h
  simp only [execOp,ho]
  refine run_v ?_
  simp only [Instr.build,Sem.run_bind,z1,Result.andThen_ok,run_underlying ht,run_sizeOf hs]
  have hmap:(parts.map fun x:Nat×Operand=>(x.1,a.eval x.2)).toList=parts.toList.map fun p=>(p.1,a.eval p.2):=by simp
  simp only [hmap,hfill]
  rfl
theorem opP_okN {so:SO} (hs:slimN1 P o=some so) (r:Rel γ I w s a) (hn:Fits γ I w s.h a o.dst K next) (h:opP P s.t so s.h K):o.wp P a w next Q:=by
  unfold slimN1 at hs
  split at hs
  case h_1 op ty x y ty2 ho =>
    obtain ⟨cs,h1,hs⟩:=Option.bind_eq_some_iff.1 hs
    obtain ⟨x',h2,hs⟩:=Option.bind_eq_some_iff.1 hs
    obtain ⟨y',h3,hs⟩:=Option.bind_eq_some_iff.1 hs
    split at hs
    · cases hs;exact op_aeq (neg:=false) r hn (by simpa using ho) h1 h2 h3 h
    · cases hs;exact op_aeq (neg:=true) r hn (by simpa using ho) h1 h2 h3 h
    · cases hs
  case h_2 t parts ho =>
    split at hs
    · rename_i len e ht
      obtain ⟨z,h1,hs⟩:=Option.bind_eq_some_iff.1 hs
      obtain ⟨n,h2,hs⟩:=Option.bind_eq_some_iff.1 hs
      obtain ⟨ps,h3,rfl⟩:=Option.map_eq_some_iff.1 hs
      exact op_barr r hn ho ht h1 h2 h3 h
    · cases hs
  case h_3 t x i ho =>
    split at hs
    · rename_i len e ht
      split at hs
      case isFalse=>cases hs
      rename_i hl
      obtain ⟨n,h2,hs⟩:=Option.bind_eq_some_iff.1 hs
      obtain ⟨x',h3,hs⟩:=Option.bind_eq_some_iff.1 hs
      obtain ⟨i',h4,rfl⟩:=Option.map_eq_some_iff.1 hs
      exact op_aia r hn ho ht hl h2 h3 h4 h
    · cases hs
  case h_4 t ho=>cases hs;exact op_mkm r hn ho h
  case h_5 t x k ok ho =>
    obtain ⟨d,h1,hs⟩:=Option.bind_eq_some_iff.1 hs
    obtain ⟨z,h2,hs⟩:=Option.bind_eq_some_iff.1 hs
    obtain ⟨x',h3,hs⟩:=Option.bind_eq_some_iff.1 hs
    obtain ⟨k',h4,rfl⟩:=Option.map_eq_some_iff.1 hs
    exact op_lku r hn ho h1 h2 h3 h4 h
  case h_6 t m k x ho =>
    obtain ⟨d,h1,hs⟩:=Option.bind_eq_some_iff.1 hs
    obtain ⟨m',h2,hs⟩:=Option.bind_eq_some_iff.1 hs
    obtain ⟨k',h3,hs⟩:=Option.bind_eq_some_iff.1 hs
    obtain ⟨x',h4,rfl⟩:=Option.map_eq_some_iff.1 hs
    exact op_mup r hn ho h1 h2 h3 h4 h
  case h_7 t m k ho =>
    obtain ⟨d,h1,hs⟩:=Option.bind_eq_some_iff.1 hs
    obtain ⟨z,h2,hs⟩:=Option.bind_eq_some_iff.1 hs
    obtain ⟨m',h3,hs⟩:=Option.bind_eq_some_iff.1 hs
    obtain ⟨k',h4,rfl⟩:=Option.map_eq_some_iff.1 hs
    exact op_mpe r hn ho h1 h2 h3 h4 h
  case h_8 t m st x ho =>
    obtain ⟨d,h1,hs⟩:=Option.bind_eq_some_iff.1 hs
    obtain ⟨m',h2,hs⟩:=Option.bind_eq_some_iff.1 hs
    obtain ⟨s',h3,hs⟩:=Option.bind_eq_some_iff.1 hs
    obtain ⟨x',h4,rfl⟩:=Option.map_eq_some_iff.1 hs
    exact op_est r hn ho h2 h3 h4 h
  case h_9 c ho =>
    split at hs
    · rename_i hc
      split at hs
      · rename_i x t ha hat
        have ha':c.args=#[x]:=by rw [← ha]
        have hat':c.argTypes=#[t]:=by rw [← hat]
        split at hs
        · rename_i k e ht
          obtain ⟨x',h1,rfl⟩:=Option.map_eq_some_iff.1 hs
          exact op_lenm r hn ho hc ha' hat' ht h1 h
        · cases hs
      · cases hs
    · cases hs
  case h_10 x xt ty ho =>
    split at hs
    · rename_i fs ht
      obtain ⟨x',h1,rfl⟩:=Option.map_eq_some_iff.1 hs
      exact op_tas r hn ho ht h1 h
    · cases hs
  case h_11=>cases hs
theorem opP_ok {so:SO} (hs:slimO P wf o=some so) (r:Rel γ I w s a) (hn:Fits γ I w s.h a o.dst K next) (h:opP P s.t so s.h K):o.wp P a w next Q:=by
  unfold slimO at hs
  split at hs
  · rename_i h1;cases hs;exact opP_ok0 h1 r hn h
  · exact opP_okN hs r hn h
theorem panO_ok {so:SO} (hs:panO P o=some so) (r:Rel γ I w s a) (hn:Fits γ I w s.h a o.dst K next) (hp:PanOk P γ I w s a Q) (h:opP P s.t so s.h K):o.wp P a w next Q:=by
  unfold panO at hs
  split at hs
  · rename_i c ho
    split at hs
    · rename_i f hc
      obtain ⟨f',h1,hs⟩:=Option.bind_eq_some_iff.1 hs
      obtain ⟨as,h2,rfl⟩:=Option.map_eq_some_iff.1 hs
      exact op_pcall r hn hp ho hc h1 h2 h
    · cases hs
  · cases hs
theorem opP_okB {so:SO} (hs:slimB P wf o=some so) (r:Rel γ I w s a) (hn:Fits γ I w s.h a o.dst K next) (hp:PanOk P γ I w s a Q) (h:opP P s.t so s.h K):o.wp P a w next Q:=by
  unfold slimB at hs
  split at hs
  · rename_i so' h1
    cases hs
    split at h1
    · exact panO_ok h1 r hn hp h
    · cases h1
  · split at hs
    · rename_i so' h1;cases hs;exact opP_ok h1 r hn h
    · cases hs;exact h.elim
end
end Go.Aw
namespace Go.Aw
section
variable {P:Prg} {wf:Nat} {γ γ':List (Option Nat)} {I I':Nat→Prop} {w w':World}
theorem rel_put {s:St} {a:Act} {H':List Blk} (r:Rel γ I w s a) (h:Ext γ s.h I w γ' H' I' w') (r':RelH γ' I' w' H') {d:Option Nat} {v:V} {x:Value} (hv:RV γ' H' I' w' v x) :
    Rel γ' I' w' ⟨putT s.t d v,H'⟩ (a.put d x):=by
  cases d with
  | none=>exact r.ext h r'
  | some d =>
    refine ⟨r.defers.ext h,by simp [putT,setT_eq,Act.put,r.size],fun i u hi=>?_,r'⟩
    simp only [putT,setT_eq] at hi
    by_cases hd:i=d
    · subst hd
      have hlt:i < s.t.length:=by have:=lt_of_get hi;simpa using this
      simp [hlt] at hi;subst hi
      have:i < a.tmps.size:=by rw [r.size];exact hlt
      simpa [Act.put,this] using hv
    · rw [List.getElem?_set,if_neg (fun e=>hd e.symm)] at hi
      have:=(r.tmps i u hi).mono h r.heap
      have e:(a.put (some d) x).tmps.getD i undef=a.tmps.getD i undef:=by
        have hd':¬ d=i:=fun e=>hd e.symm
        simp [Act.put,hd']
      rw [e];exact this
theorem tmp_get {s:St} {a:Act} (r:Rel γ I w s a) {t:Nat} {v:V} (h:getT s.t t=v) (hv:v≠.any):∃ x,a.tmps[t]?=some x∧RV γ s.h I w v x:=by
  rw [getT_eq] at h
  cases ht:s.t[t]? with
  | none=>rw [List.getD_eq_getElem?_getD,ht] at h;exact absurd h.symm hv
  | some u =>
    rw [getD_eq ht] at h;subst h
    have hlt:t < a.tmps.size:=by rw [r.size];exact lt_of_get ht
    refine ⟨a.tmps[t],by simp [hlt],?_⟩
    have:=r.tmps t u ht
    simpa [hlt] using this
theorem put_defers (a:Act) (d:Option Tmp) (x:Value):(a.put d x).defers=a.defers:=by cases d <;> rfl
theorem rel_know {s:St} {a:Act} (r:Rel γ I w s a) {t:Nat} {v v':V} (h:getT s.t t=v) (hv:v=v'):Rel γ I w ⟨setT s.t t v',s.h⟩ a:=by
  subst hv
  rw [getT_eq] at h
  refine ⟨r.defers,by simp [setT_eq,r.size],fun i u hi=>?_,r.heap⟩
  rw [setT_eq] at hi
  by_cases hd:i=t
  · subst hd
    have hlt:i < s.t.length:=by have:=lt_of_get hi;simpa using this
    simp [hlt] at hi;subst hi
    have:s.t[i]?=some (s.t.getD i .any):=by simp [hlt]
    rw [h] at this
    exact r.tmps i v this
  · rw [List.getElem?_set,if_neg (fun e=>hd e.symm)] at hi
    exact r.tmps i u hi
theorem PanOk.next {γ γ':List (Option Nat)} {I I':Nat→Prop} {w w':World} {s:St} {a a2:Act} {Q:Exit→Act→World→Prop} {t:List V} {H':List Blk} (hp:PanOk P γ I w s a Q) (e:Ext γ s.h I w γ' H' I' w') (hd:a2.defers=a.defers):PanOk P γ' I' w' ⟨t,H'⟩ a2 Q :=
  fun c s2 γ2 I2 w2 a3 h1 h2 h3 h4=>hp c s2 γ2 I2 w2 a3 h1 h2 (e.trans h3) (h4.trans hd)
theorem AX_ok {ops:Array Oper} {Q:List V→List Blk→Prop} {Q':Exit→Act→World→Prop}:∀ {l:List Oper} {sl:List SOp} {s:St} {a:Act} {γ:List (Option Nat)} {I:Nat→Prop} {w:World},
    All2 (fun o so=>slimOp P wf ops o=some so) l sl→Rel γ I w s a→PanOk P γ I w s a Q'→AX P sl Q s.t s.h →
    (∀ (s':St) γ' I' w' a',Q s'.t s'.h→Rel γ' I' w' s' a'→Ext γ s.h I w γ' s'.h I' w'→a'.defers=a.defers→Q' .normal a' w')→wpList P ops Q' l a w:=by
  intro l
  induction l with
  | nil=>intro sl s a γ I w hs r hp h hq;cases hs;exact hq s γ I w a h r (Ext.refl ..) rfl
  | cons o l ih =>
    intro sl s a γ I w hs r hp h hq
    cases hs with
    | @cons _ so _ sl ho hs =>
    unfold slimOp at ho
    obtain ⟨so',h1,ho⟩:=Option.bind_eq_some_iff.1 ho
    have go':∀ (t':List V),Rel γ I w ⟨t',s.h⟩ a→opP P t' so' s.h (fun v h=>forceV v fun v=>forceH h fun h=>forceT (putT t' o.dst v) fun t=>AX P sl Q t h)→o.wp P a w (wpList P ops Q' l) Q':=by
      intro t' r1 hop
      refine opP_okB h1 r1 ?_ (hp.next (Ext.refl ..) rfl) hop
      intro v x H' γ' I' w' hK r' hv e'
      rw [forceV_eq,forceH_eq,forceT_eq] at hK
      exact ih hs (rel_put r1 e' r' hv) (hp.next e' (put_defers ..)) hK (fun s2 γ2 I2 w2 a2 q2 r2 e2 d2=>hq s2 γ2 I2 w2 a2 q2 r2 (e'.trans e2) (d2.trans (put_defers ..)))
    have skip':∀ (t':List V),Rel γ I w ⟨t',s.h⟩ a→(forceT (putT t' o.dst (.tu [])) fun t=>AX P sl Q t s.h)→wpList P ops Q' l (a.put o.dst undef) w:=fun t' r1 h=>by
      rw [forceT_eq] at h
      exact ih hs (rel_put r1 (Ext.refl ..) r1.heap (.tu (vs:=[]) rfl (by simp))) (hp.next (Ext.refl ..) (put_defers ..)) h (fun s2 γ2 I2 w2 a2 q2 r2 e2 d2=>hq s2 γ2 I2 w2 a2 q2 r2 e2 (d2.trans (put_defers ..)))
    unfold wpList
    cases hg:o.guard with
    | none =>
      rw [hg] at ho;simp at ho;subst ho
      rw [if_pos (by simp [Region.wanted,hg])]
      exact .inl (go' s.t r h)
    | some jb =>
      obtain ⟨j,b⟩:=jb
      rw [hg] at ho;simp only at ho
      obtain ⟨t,h2,ho⟩:=Option.map_eq_some_iff.1 ho
      subst ho
      simp only [AX_c,AXc] at h
      split at h
      · rename_i c hc
        obtain ⟨x,hx,hrv⟩:=tmp_get r hc (by simp)
        have:=rv_sc hrv;subst this
        have hw:Region.wanted o (yielded ops a.tmps)=(c == b):=by
          simp [Region.wanted,hg,yielded,h2,hx]
        rw [hw]
        cases c with
        | true =>
          have r2:=rel_know (v':=.g (.b true)) r hc rfl
          cases b with
          | true=>exact .inl (go' _ r2 (by simpa only [Br,forceT_eq] using h))
          | false=>exact skip' _ r2 (by simpa only [Br,forceT_eq] using h)
        | false =>
          have r2:=rel_know (v':=.g (.b false)) r hc rfl
          cases b with
          | false=>exact .inl (go' _ r2 (by simpa only [Br,forceT_eq] using h))
          | true=>exact skip' _ r2 (by simpa only [Br,forceT_eq] using h)
      · rename_i hc
        obtain ⟨x,hx,hrv⟩:=tmp_get r hc (by simp)
        have hw:Region.wanted o (yielded ops a.tmps)=false:=by
          cases hrv with
          | @tu _ vs hl hr =>
            simp [Region.wanted,hg,yielded,h2,hx]
        rw [hw]
        exact skip' s.t r h
      · exact h.elim
theorem q_call {t:List V} {f:X} {as:List X} {h:List Blk} {K:V→List Blk→Prop} (ho:opP P t (.qcall f as) h K):opP P t (.call f as) h K:=by
  simp only [opP] at ho ⊢
  split
  · rename_i he;rw [he] at ho;simp only [forceT_eq] at ho ⊢
    obtain ⟨v,h1,h2⟩:=ho
    exact h1.mono fun r h' e=>by rw [e.1,e.2];exact h2
  · rename_i h1
    split at ho
    · rename_i he;exact absurd he (h1 _ _)
    · exact ho.elim
theorem g_call {t:List V} {f:X} {as:List X} {h:List Blk} {K:V→List Blk→Prop} (ho:opP P t (.gcall f as) h K):opP P t (.call f as) h K:=by
  simp only [opP] at ho ⊢
  split at ho
  · rename_i he;rw [he];simp only [forceT_eq,List.append_nil] at ho ⊢
    obtain ⟨v,h1,h2⟩:=ho
    exact (h1.run.frame h1.args (fun r h' e=>⟨e.2,by rw [e.1];exact h1.res⟩) h).mono fun r h' e=>by rw [e.1.1,e.2];exact h2
  · exact ho.elim
theorem a_call {t:List V} {f:X} {as:List X} {h:List Blk} {K:V→List Blk→Prop} (ho:opP P t (.acall f as) h K):opP P t (.call f as) h K:=by
  simp only [opP] at ho ⊢
  split
  · rename_i he;rw [he] at ho;simp only [forceT_eq] at ho ⊢
    exact ho.mono fun r h' e=>e.2
  · rename_i h1
    split at ho
    · rename_i he;exact absurd he (h1 _ _)
    · exact ho.elim
theorem f_call {t:List V} {f:X} {as:List X} {h:List Blk} {K:V→List Blk→Prop} (ho:opP P t (.fcall f as) h K):opP P t (.call f as) h K:=by
  simp only [opP] at ho ⊢
  split
  · rename_i he;rw [he] at ho;simp only [forceT_eq] at ho ⊢
    obtain ⟨v,h1,h2⟩:=ho
    have h1:=h1 []
    rw [List.append_nil] at h1
    exact h1.mono fun r h' e=>by rw [e.1,e.2];exact h2
  · rename_i h1
    split at ho
    · rename_i he;exact absurd he (h1 _ _)
    · exact ho.elim
theorem call_p {t:List V} {f:X} {as:List X} {h:List Blk} {K:V→List Blk→Prop} (ho:opP P t (.call f as) h K):opP P t (.pcall f as) h K:=by
  simp only [opP] at ho ⊢
  split
  · rename_i he;rw [he] at ho;simp only [forceT_eq] at ho ⊢
    exact ho.pc
  · rename_i h1
    split at ho
    · rename_i he;exact absurd he (h1 _ _)
    · exact ho.elim
theorem opP_flav {t:List V} {so:SO} {ld q pz:Nat} {ty:TypeId} {h:List Blk} {K:V→List Blk→Prop} (ho:opP P t (so.flav ld q pz P ty) h K):opP P t so h K:=by
  cases so <;> simp only [SO.flav] at ho <;> try exact ho
  case load n a =>
    split at ho
    · simp only [opP] at ho ⊢
      unfold loadP
      generalize X.ev t a=A at ho ⊢
      cases A with
      | pa b g i off =>
        simp only at ho ⊢
        cases hB:getB h b with
        | none=>rw [hB] at ho;exact ho.elim
        | some B =>
          rw [hB] at ho
          cases B with
          | mp=>exact ho.elim
          | arr g' s es=>exact ⟨ho.1.1,ho.2⟩
      | ra=>exact ho
      | _=>exact ho.elim
    split at ho
    · simp only [opP] at ho ⊢
      unfold loadP
      split at ho
      · rename_i he;rw [he];exact ho
      · exact ho.elim
    · exact ho
  case ia n x i =>
    split at ho
    · exact ho
    split at ho
    · simp only [opP] at ho ⊢
      split at ho
      · rename_i he;rw [he];exact ho
      · exact ho.elim
    · exact ho
  case slc n x lo hi =>
    split at ho
    · simp only [opP] at ho ⊢
      split at ho
      · rename_i he;rw [he];exact ho
      · rename_i he;rw [he];exact ho
      · exact ho.elim
    · exact ho
  case store n a x =>
    split at ho
    · simp only [opP,forceV_eq] at ho ⊢
      generalize X.ev t a=A at ho ⊢
      unfold storeZ at ho
      unfold storeP
      cases A with
      | pa b g i off =>
        simp only at ho ⊢
        cases hB:getB h b with
        | none=>rw [hB] at ho;exact ho.elim
        | some B =>
          rw [hB] at ho
          cases B with
          | mp=>exact ho.elim
          | arr g' s es=>exact ⟨ho.1.1,ho.2⟩
      | _=>exact ho.elim
    · exact ho
  case bsl n ps =>
    cases ps with
    | nil=>exact ho
    | cons x xs =>
      simp only at ho
      split at ho
      · rename_i hc
        simp only [Bool.and_eq_true,Bool.not_eq_true'] at hc
        replace hc:=And.intro hc.1 hc.2
        simp only [opP,forceT_eq] at ho ⊢
        refine ⟨ho.1,?_⟩
        rw [hc.2]
        exact litK_mono (fun _ h=>h) (fun h=>h.elim) ho.2
      · exact ho
  case call f as =>
    split at ho
    · exact f_call ho
    split at ho
    · exact a_call ho
    split at ho
    · exact g_call ho
    · generalize qTy P q ty=b at ho
      cases b
      · exact ho
      · exact q_call ho
  case pcall f as =>
    split at ho
    · exact call_p (f_call ho)
    split at ho
    · exact call_p (a_call ho)
    split at ho
    · exact call_p (g_call ho)
    · generalize qTy P q ty=b at ho
      cases b
      · exact ho
      · exact call_p (q_call ho)
def Snd (P:Prg) (wf:Nat) (ops:Array Oper) (o:Oper) (so:SOp):Prop:=∃ so0,slimOp P wf ops o=some so0∧so.d=so0.d∧so.g=so0.g ∧
  ∀ {γ:List (Option Nat)} {I:Nat→Prop} {w:World} {s:St} {a:Act} {K:V→List Blk→Prop} {next:Act→World→Prop} {Q:Exit→Act→World→Prop},Rel γ I w s a→Fits γ I w s.h a o.dst K next→PanOk P γ I w s a Q→opP P s.t so.o s.h K→o.wp P a w next Q
theorem slimOp_b {ops:Array Oper} {o:Oper} {so:SOp} (hs:slimOp P wf ops o=some so):slimB P wf o=some so.o:=by
  unfold slimOp at hs
  obtain ⟨so',h1,hs⟩:=Option.bind_eq_some_iff.1 hs
  rw [h1]
  cases hg:o.guard with
  | none=>rw [hg] at hs;simp at hs;subst hs;rfl
  | some jb =>
    obtain ⟨j,b⟩:=jb
    rw [hg] at hs;simp only at hs
    obtain ⟨t,_,hs⟩:=Option.map_eq_some_iff.1 hs
    subst hs;rfl
theorem Snd.of {ops:Array Oper} {o:Oper} {so so0:SOp} (hs:slimOp P wf ops o=some so0) (hd:so.d=so0.d) (hg:so.g=so0.g) (h:∀ t h K,opP P t so.o h K→opP P t so0.o h K):Snd P wf ops o so :=
  ⟨so0,hs,hd,hg,fun r hn hp ho=>opP_okB (slimOp_b hs) r hn hp (h _ _ _ ho)⟩
theorem zok_lt {z:V} (hz:zok z=true):∀ (i:Nat) (v:V),z.cells[i]?=some v→v.lt 0:=by
  have one:∀ v,zok1 v=true→v.lt 0:=fun v hv=>by
    cases v <;> simp [zok1] at hv
    · exact .g
    · exact .nil
  intro i v hi
  cases z with
  | g t=>simp only [V.cells,List.getElem?_map] at hi;cases ht:t.cells[i]? <;> rw [ht] at hi <;> simp at hi;subst hi;exact .g
  | ag cs =>
    simp only [zok,List.all_eq_true] at hz
    exact one v (hz v (List.mem_of_getElem? hi))
  | nil sz =>
    cases i with
    | zero=>simp [V.cells] at hi;subst hi;exact .nil
    | succ i=>simp [V.cells] at hi
  | _=>simp [zok,zok1] at hz
theorem zok_flat {z:V} (hz:zok z=true) {n:Nat}:∀ (i:Nat) (v:V),(flatV (List.replicate n z))[i]?=some v→v.lt 0:=fun i v hi=>by
  obtain ⟨e,he,hv⟩:=List.mem_flatMap.1 (List.mem_of_getElem? hi)
  rw [(List.mem_replicate.1 he).2] at hv
  obtain ⟨j,hj⟩:=List.getElem?_of_mem hv
  exact zok_lt hz j v hj
theorem Snd.slot {ops:Array Oper} {o:Oper} {so:SOp} (hs:Snd P wf ops o so) (e:Nat):(∀ n b z l,so=⟨so.d,none,.mks n b z l⟩→Snd P wf ops o ⟨so.d,none,.mksA e n b z l⟩)∧(∀ n z,so=⟨so.d,none,.new n z⟩→Snd P wf ops o ⟨so.d,none,.newA e n z⟩):=by
  obtain ⟨so0,h1,h2,h3,h4⟩:=hs
  refine ⟨fun n b z l he=>⟨so0,h1,h2,by rw [← h3,he],fun {γ I w s a K next Q} r hn hp ho=>?_⟩,fun n z he=>⟨so0,h1,h2,by rw [← h3,he],fun {γ I w s a K next Q} r hn hp ho=>?_⟩⟩
  · rw [he] at h4
    simp only [opP] at ho
    split at ho
    · rename_i i hl
      obtain ⟨p1,⟨p2,p3⟩,⟨p4,p5⟩,p6⟩:=ho
      rw [getB_eq] at p5
      rw [setB_eq] at p6
      refine h4 (K:=fun v h'=>v=.own s.h.length 0 0 i.toNat∧h'=addB s.h (.arr 0 n (List.replicate i.toNat z))) r ?_ hp ?_
      · rintro v x H' γ' I' w' ⟨rfl,rfl⟩ r' hv e'
        rw [addB_eq] at r' hv e'
        obtain ⟨f1,f2⟩:=fill_ok r.heap p5 (zok_flat p3) r' e'
        exact hn _ x _ _ _ _ p6 f1 (fill_own p5 (by rw [r'.len];simp) hv) f2
      · simp only [opP,hl]
        exact ⟨p1,p2,by simp⟩
    · exact ho.elim
  · rw [he] at h4
    simp only [opP] at ho
    obtain ⟨⟨p2,p3⟩,⟨p4,p5⟩,p6⟩:=ho
    rw [getB_eq] at p5
    rw [setB_eq] at p6
    refine h4 (K:=fun v h'=>v=.pa s.h.length 0 0 0∧h'=addB s.h (.arr 0 n [z])) r ?_ hp ?_
    · rintro v x H' γ' I' w' ⟨rfl,rfl⟩ r' hv e'
      rw [addB_eq] at r' hv e'
      obtain ⟨f1,f2⟩:=fill_ok r.heap p5 (zok_flat (n:=1) p3) r' e'
      exact hn _ x _ _ _ _ p6 f1 (fill_pa p5 (by rw [r'.len];simp) hv) f2
    · simp only [opP]
      exact ⟨p2,by simp⟩
theorem slotL_ok {ops:Array Oper}:∀ {sl:List SOp} {e:Nat} {l:List Oper},(∀ (i:Nat) o so,l[i]?=some o→sl[i]?=some so→Snd P wf ops o so)→∀ (i:Nat) o so,l[i]?=some o→(slotL sl e)[i]?=some so→Snd P wf ops o so
  | [],e,l,h=>fun i o so _ hs=>by simp [slotL] at hs
  | so0::r,e,l,h=>fun i o so ho hs=>by
    cases l with
    | nil=>simp at ho
    | cons o0 l =>
      have tl:∀ e',∀ (i:Nat) o so,l[i]?=some o→(slotL r e')[i]?=some so→Snd P wf ops o so:=fun e'=>slotL_ok fun i o so h1 h2=>h (i+1) o so (by simpa using h1) (by simpa using h2)
      have h0:=h 0 o0 so0 rfl rfl
      unfold slotL at hs
      split at hs
      · cases hs
      · rename_i heq
        cases heq
        cases i with
        | zero=>simp at ho hs;subst ho;subst hs;exact (h0.slot _).1 _ _ _ _ rfl
        | succ i=>exact tl _ i o so (by simpa using ho) (by simpa using hs)
      · rename_i heq
        cases heq
        cases i with
        | zero=>simp at ho hs;subst ho;subst hs;exact (h0.slot _).2 _ _ rfl
        | succ i=>exact tl _ i o so (by simpa using ho) (by simpa using hs)
      · rename_i heq
        cases heq
        cases i with
        | zero=>simp at ho hs;subst ho;subst hs;exact h0
        | succ i=>exact tl _ i o so (by simpa using ho) (by simpa using hs)
theorem any_ok {ops:Array Oper} {sl:List SOp} {Q:List V→List Blk→Prop} {Q':Exit→Act→World→Prop}
    (hsl:∀ (i:Nat) o so,ops[i]?=some o→sl[i]?=some so→Snd P wf ops o so) :
    ∀ (n:Nat) (l:Array Bool) (s:St) (a:Act) (γ:List (Option Nat)) (I:Nat→Prop) (w:World),Rel γ I w s a→PanOk P γ I w s a Q'→aAny P ops sl Q n l s.t s.h →
    (∀ (s':St) γ' I' w' a',Q s'.t s'.h→Rel γ' I' w' s' a'→Ext γ s.h I w γ' s'.h I' w'→a'.defers=a.defers→Q' .normal a' w')→wpAny P .any ops Q' n l a w:=by
  intro n
  induction n with
  | zero=>intro l s a γ I w r hp h hq;exact ⟨h.1,hq s γ I w a h.2 r (Ext.refl ..) rfl⟩
  | succ n ih =>
    intro l s a γ I w r hp h hq
    refine ⟨fun h0=>hq s γ I w a (h.1 h0) r (Ext.refl ..) rfl,fun i hi=>?_⟩
    obtain ⟨so,hso,h⟩:=h.2 i hi
    obtain ⟨_,o,ho,_⟩:=mem_ready.1 hi
    obtain ⟨so0,hs0,hd,hg0,himp⟩:=hsl i o so ho hso
    unfold slimOp at hs0
    obtain ⟨so',h1,hs0⟩:=Option.bind_eq_some_iff.1 hs0
    unfold wpOp
    rw [ho]
    simp only
    have dd:so0.d=o.dst∧so0.o=so':=by
      cases hg:o.guard with
      | none=>rw [hg] at hs0;simp at hs0;subst hs0;exact ⟨rfl,rfl⟩
      | some jb =>
        obtain ⟨j,b⟩:=jb
        rw [hg] at hs0;simp only at hs0
        obtain ⟨t,_,hs0⟩:=Option.map_eq_some_iff.1 hs0
        subst hs0;exact ⟨rfl,rfl⟩
    have go':opP P s.t so.o s.h (fun v h'=>aAny P ops sl Q n (l.setIfInBounds i true) (putT s.t so.d v) h')→o.wp P a w (wpAny P .any ops Q' n (l.setIfInBounds i true)) Q':=by
      intro hop
      refine himp r ?_ hp hop
      intro v x H' γ' I' w' hK r' hv e'
      rw [hd,dd.1] at hK
      exact ih _ _ _ _ _ _ (rel_put r e' r' hv) (hp.next e' (put_defers ..)) hK (fun s2 γ2 I2 w2 a2 q2 r2 e2 d2=>hq s2 γ2 I2 w2 a2 q2 r2 (e'.trans e2) (d2.trans (put_defers ..)))
    have skip':aAny P ops sl Q n (l.setIfInBounds i true) (putT s.t so.d (.tu [])) s.h→wpAny P .any ops Q' n (l.setIfInBounds i true) (a.put o.dst undef) w:=fun hK=>by
      rw [hd,dd.1] at hK
      exact ih _ _ _ _ _ _ (rel_put r (Ext.refl ..) r.heap (.tu (vs:=[]) rfl (by simp))) (hp.next (Ext.refl ..) (put_defers ..)) hK (fun s2 γ2 I2 w2 a2 q2 r2 e2 d2=>hq s2 γ2 I2 w2 a2 q2 r2 e2 (d2.trans (put_defers ..)))
    unfold aOpV at h
    cases hg:o.guard with
    | none =>
      rw [hg] at hs0;simp at hs0;subst hs0
      rw [hg0] at h
      rw [if_pos (by simp [Region.wanted,hg])]
      exact .inl (go' h)
    | some jb =>
      obtain ⟨j,b⟩:=jb
      rw [hg] at hs0;simp only at hs0
      obtain ⟨t,h2,hs0⟩:=Option.map_eq_some_iff.1 hs0
      subst hs0
      rw [hg0] at h
      simp only at h
      split at h
      · rename_i c hc
        obtain ⟨x,hx,hrv⟩:=tmp_get r hc (by simp)
        have:=rv_sc hrv;subst this
        have hw:Region.wanted o (yielded ops a.tmps)=(c == b):=by
          simp [Region.wanted,hg,yielded,h2,hx]
        rw [hw]
        split at h
        · rename_i hcb;subst hcb;simp only [beq_self_eq_true,if_true];exact .inl (go' h)
        · rename_i hcb
          rw [if_neg (by simpa using hcb)]
          exact skip' h
      · rename_i hc
        obtain ⟨x,hx,hrv⟩:=tmp_get r hc (by simp)
        have hw:Region.wanted o (yielded ops a.tmps)=false:=by
          cases hrv with
          | @tu _ vs hl hr =>
            simp [Region.wanted,hg,yielded,h2,hx]
        rw [hw]
        exact skip' h
      · exact h.elim
theorem drawnL_ok {ops:Array Oper} {sl os:List SOp} {Q:List V→List Blk→Prop} {Q':Exit→Act→World→Prop} {id:Nat} {s:St} {a:Act} {γ:List (Option Nat)} {I:Nat→Prop} {w:World} (hm:P.follows .mixedOrders=true)
    (hd:drawnL ops sl=some os)
    (hsl:∀ (i:Nat) o so,ops[i]?=some o→sl[i]?=some so→Snd P wf ops o so)
    (r:Rel γ I w s a) (hpn:PanOk P γ I w s a Q') (h:AX P os Q s.t s.h) (hq:∀ (s':St) γ' I' w' a',Q s'.t s'.h→Rel γ' I' w' s' a'→Ext γ s.h I w γ' s'.h I' w'→a'.defers=a.defers→Q' .normal a' w'):(Code.region id ops true).wp P Q' a w:=by
  unfold drawnL at hd
  split at hd
  case isFalse=>cases hd
  rename_i hc
  simp only [Bool.and_eq_true] at hc
  obtain ⟨h1,h2⟩:=hc
  have hl:=Nat.eq_of_beq_eq_true h1
  obtain ⟨ord,hp,hd⟩:=Option.bind_eq_some_iff.1 hd
  have:=pick_any (P:=P) (Q:=Q) hl (inE_ok h2) _ _ 0 s.t s.h os hp hd h
  rw [arrM_zero] at this
  obtain ⟨r1,e1⟩:=drew_ok r.heap
  exact wp_region_any hm (any_ok hsl _ _ s a γ I _ (r.ext e1 r1) (hpn.next e1 rfl) this (fun s' γ' I' w' a' q r' e d=>hq s' γ' I' w' a' q r' (e1.trans e) d))
theorem flavL_ok {ops:Array Oper} {sl:List SOp} (h1:All2 (fun o so=>slimOp P wf ops o=some so) ops.toList sl) (ld q:Nat) :
    ∀ (i:Nat) o so,ops[i]?=some o→(flavL ld q P ops sl)[i]?=some so→Snd P wf ops o so:=by
  intro i o so ho hs
  unfold flavL at hs
  rw [List.getElem?_map] at hs
  cases hz:(sl.zip ops.toList)[i]? with
  | none=>rw [hz] at hs;cases hs
  | some p =>
    rw [hz] at hs;simp at hs;subst hs
    obtain ⟨h3,h4⟩:=List.getElem?_zip_eq_some.1 hz
    refine .of (so0:=p.1) ?_ rfl rfl (fun t h K=>opP_flav)
    have:∀ {l:List Oper} {sl:List SOp},All2 (fun o so=>slimOp P wf ops o=some so) l sl→∀ (i:Nat) o so,l[i]?=some o→sl[i]?=some so→slimOp P wf ops o=some so:=by
      intro l sl ha
      induction ha with
      | nil=>intro i o so h;simp at h
      | cons h _ ih =>
        intro i o so h' h2'
        cases i with
        | zero=>simp at h' h2';subst h';subst h2';exact h
        | succ i=>simp at h' h2';exact ih i o so h' h2'
    exact this h1 i o p.1 (by simpa using ho) h3
theorem plainL_ok {ops:Array Oper} {sl:List SOp} (h1:All2 (fun o so=>slimOp P wf ops o=some so) ops.toList sl) :
    ∀ (i:Nat) o so,ops[i]?=some o→sl[i]?=some so→Snd P wf ops o so:=by
  intro i o so ho hs
  have:∀ {l:List Oper} {sl:List SOp},All2 (fun o so=>slimOp P wf ops o=some so) l sl→∀ (i:Nat) o so,l[i]?=some o→sl[i]?=some so→slimOp P wf ops o=some so:=by
    intro l sl ha
    induction ha with
    | nil=>intro i o so h;simp at h
    | cons h _ ih =>
      intro i o so h' h2'
      cases i with
      | zero=>simp at h' h2';subst h';subst h2';exact h
      | succ i=>simp at h' h2';exact ih i o so h' h2'
  exact .of (so0:=so) (this h1 i o so (by simpa using ho) hs) rfl rfl (fun _ _ _ h=>h)
theorem hol_ok {s:St} {a:Act} {γ:List (Option Nat)} {I:Nat→Prop} {w:World} (r:Rel γ I w s a):∀ szs:List Nat,∃ γ',Rel γ' I w ⟨s.t,szs.foldl (fun h sz=>addB h (.arr 0 sz [])) s.h⟩ a∧Ext γ s.h I w γ' (szs.foldl (fun h sz=>addB h (.arr 0 sz [])) s.h) I w
  | []=>⟨γ,r,.refl ..⟩
  | sz::szs=>by
    obtain ⟨v1,v2⟩:=valloc_ok r.heap 0 sz
    rw [← addB_eq] at v1 v2
    obtain ⟨γ',r',e'⟩:=hol_ok (s:=⟨s.t,addB s.h (.arr 0 sz [])⟩) (r.ext v2 v1) szs
    exact ⟨γ',r',v2.trans e'⟩
theorem drawn_ok {ops:Array Oper} {sl os:List SOp} {Q:List V→List Blk→Prop} {Q':Exit→Act→World→Prop} {id:Nat} {s:St} {a:Act} {γ:List (Option Nat)} {I:Nat→Prop} {w:World}
    (h1:All2 (fun o so=>slimOp P wf ops o=some so) ops.toList sl) (hd:drawn P wf ops sl=some os)
    (r:Rel γ I w s a) (hpn:PanOk P γ I w s a Q') (h:AX P os Q s.t s.h) (hq:∀ (s':St) γ' I' w' a',Q s'.t s'.h→Rel γ' I' w' s' a'→Ext γ s.h I w γ' s'.h I' w'→a'.defers=a.defers→Q' .normal a' w'):(Code.region id ops true).wp P Q' a w:=by
  unfold drawn at hd
  split at hd
  case isFalse=>cases hd
  rename_i hm
  split at hd
  · rename_i l hl;cases hd;exact drawnL_ok hm hl (plainL_ok h1) r hpn h hq
  split at hd
  · rename_i l hl
    cases hd
    generalize flavs wf (hasStore sl)=fl at hl
    induction fl with
    | nil=>cases hl
    | cons f fl ih =>
      obtain ⟨ld,q⟩:=f
      simp only [drawnF] at hl
      split at hl
      · rename_i l hl';cases hl;exact drawnL_ok hm hl' (flavL_ok h1 _ _) r hpn h hq
      · exact ih hl
  · generalize (if Nat.ble 7 wf=true then [(0,3),(4,3),(2,3)] else [(0,3),(2,3),(4,3)])=fl at hd
    induction fl with
    | nil=>cases hd
    | cons f fl ih =>
      obtain ⟨ld,q⟩:=f
      simp only [drawnS] at hd
      split at hd
      · rename_i l hl;cases hd;exact drawnL_ok hm hl (flavL_ok h1 _ _) r hpn h hq
      split at hd
      · rename_i l hl
        cases hd
        rw [AX_c] at h
        simp only [AXc,opP,forceV_eq,forceH_eq,forceT_eq,putT] at h
        obtain ⟨γ1,r1,e1⟩:=hol_ok r (slotSz (flavL ld q P ops sl))
        exact drawnL_ok hm hl (fun i o so ho hs=>slotL_ok (l:=ops.toList) (fun i o so ho hs=>flavL_ok h1 ld q i o so (by simpa using ho) hs) i o so (by simpa using ho) hs) r1 (hpn.next e1 rfl) h
          fun s' γ' I' w' a' k1 k2 k3 k4=>hq s' γ' I' w' a' k1 k2 (e1.trans k3) k4
      · exact ih hd
theorem AC_ok {z:Nat} {c:Code}:∀ {sc:SC} {Q:Exit→List V→List Blk→Prop} {s:St},(∀ c t h,P.pq c h→Q (.panic [{ v:=P.pv c,recovered:=false }]) t h)→slimC P wf c=some sc→AC z P sc Q s.t s.h→AW z P c (fun e s=>Q e s.t s.h) s:=by
  induction c with
  | skip=>intro sc Q s hp hs h;simp [slimC] at hs;subst hs;exact .skip h
  | ret=>intro sc Q s hp hs h;simp [slimC] at hs;subst hs;exact .ret h
  | exit id=>intro sc Q s hp hs h;simp [slimC] at hs;subst hs;exact .exit h
  | goto l=>intro sc Q s hp hs h;simp [slimC] at hs;subst hs;exact .goto h
  | label l=>intro sc Q s hp hs h;simp [slimC] at hs;subst hs;exact .label h
  | seq x y ihx ihy =>
    intro sc Q s hp hs h
    obtain ⟨x',h1,hs⟩:=Option.bind_eq_some_iff.1 hs
    obtain ⟨y',h2,hs⟩:=Option.map_eq_some_iff.1 hs
    subst hs
    simp only [AC_seq] at h
    refine .seq ((ihx (Q:=ThnQ (AC z P y' Q) Q) (fun c t h k=>hp c t h k) h1 h).mono fun e s' q=>?_)
    cases e with
    | normal=>exact ihy hp h2 q
    | _=>exact q
  | cond c x y ihx ihy =>
    intro sc Q s hp hs h
    obtain ⟨c',h0,hs⟩:=Option.bind_eq_some_iff.1 hs
    obtain ⟨x',h1,hs⟩:=Option.bind_eq_some_iff.1 hs
    obtain ⟨y',h2,hs⟩:=Option.map_eq_some_iff.1 hs
    subst hs
    simp only [AC_cond,ACcond] at h
    split at h
    · rename_i b hb
      intro γ I w a r
      have:=slimX_ok h0 r
      rw [hb] at this
      have hc:=rv_sc this
      have r2:Rel γ I w ⟨c'.know s.t b,s.h⟩ a:=by
        cases c' with
        | t i=>exact rel_know r hb rfl
        | _=>exact r
      cases b with
      | true=>exact wp_cond_true hc (ihx (s:=⟨c'.know s.t true,s.h⟩) hp h1 (by simpa only [Br,forceT_eq] using h) γ I w a r2)
      | false=>exact wp_cond_false hc (ihy (s:=⟨c'.know s.t false,s.h⟩) hp h2 (by simpa only [Br,forceT_eq] using h) γ I w a r2)
    · exact h.elim
  | block id c ih =>
    intro sc Q s hp hs h
    obtain ⟨c',h1,hs⟩:=Option.map_eq_some_iff.1 hs
    subst hs
    refine .block ((ih (Q:=InQ id Q) (fun c t h k=>hp c t h k) h1 h).mono fun e s' q=>?_)
    cases e with
    | exit id' =>
      simp only [InQ,InBlock] at q ⊢
      split at q <;> rename_i hb
      · rw [if_pos (Nat.eq_of_beq_eq_true hb)];exact q
      · rw [if_neg (fun e=>by rw [e,Nat.beq_refl] at hb;cases hb)];exact q
    | _=>exact q
  | scope c ih =>
    intro sc Q s hp hs h
    obtain ⟨c',h1,hs⟩:=Option.map_eq_some_iff.1 hs
    subst hs
    intro γ I w a r
    refine wp_scope_straight (wp_mono (ih (Q:=NoGoQ Q) (fun c t h k=>hp c t h k) h1 h γ I w a r) fun e a' w' ⟨s',γ',I',q1,q2,q3⟩=>?_)
    cases e with
    | goto l=>exact q1.elim
    | _=>exact ⟨s',γ',I',q1,q2,q3⟩
  | loop c ih =>
    intro sc Q s hp hs h
    obtain ⟨c',h1,rfl⟩:=Option.map_eq_some_iff.1 hs
    exact h.run (fun c s k=>hp c s.t s.h k) wf _ hs
  | region id ops draw =>
    intro sc Q s hp hs h
    cases draw with
    | true =>
      obtain ⟨sl,h1,hs⟩:=Option.bind_eq_some_iff.1 hs
      obtain ⟨os,h2,hs⟩:=Option.map_eq_some_iff.1 hs
      subst hs
      intro γ I w a r
      exact drawn_ok (optL_forall h1) h2 r (fun c s' γ' I' w' a' k1 k2 k3 k4=>⟨s',γ',I',hp c s'.t s'.h k1,k2,k3.toM,by rw [k4];exact NewD.refl⟩) h fun s' γ' I' w' a' q r' e d=>⟨s',γ',I',q,r',e.toM,by rw [d];exact NewD.refl⟩
    | false =>
      obtain ⟨l,h1,hs⟩:=Option.map_eq_some_iff.1 hs
      subst hs
      intro γ I w a r
      refine wp_region_list (AX_ok (optL_forall h1) r (fun c s' γ' I' w' a' k1 k2 k3 k4=>⟨s',γ',I',hp c s'.t s'.h k1,k2,k3.toM,by rw [k4];exact NewD.refl⟩) h (fun s' γ' I' w' a' q r' e d=>⟨s',γ',I',q,r',e.toM,by rw [d];exact NewD.refl⟩))
  | rangeFunc g ps x y _ _ =>
    intro sc Q s hp hs h
    have hs0:=hs
    obtain ⟨_,_,hs⟩:=Option.bind_eq_some_iff.1 hs
    split at hs
    · obtain ⟨_,_,hs⟩:=Option.bind_eq_some_iff.1 hs
      obtain ⟨_,_,rfl⟩:=Option.map_eq_some_iff.1 hs
      exact h.run (fun c s k=>hp c s.t s.h k) wf _ hs0
    · cases hs
  | _=>intro sc Q s hp hs h;simp [slimC] at hs
end
def Fn (P:Program) (wf:Nat) (f nt:Nat) (ts:List Nat) (sc:SC):Prop :=
  ∃ fn,P.funcs[f]?=some fn∧(fn.name == "runtime.NumGoroutine")=false∧fn.body.bind (slimC P wf)=some sc∧fn.results=(ts.map ResultVar.tmp).toArray∧fn.ntmps=nt
def retF (ts:List Nat) (t:List V) (k:V→Prop):Prop:=match ts with
  | [x]=>forceV (getT t x) k
  | ts=>forceT (ts.map (getT t)) fun vs=>k (.tu vs)
structure Fin (H:List Blk) (R:V→List Blk→Prop) (v:V) (h:List Blk):Prop where
  ends:Ends H R v h
def Done (H:List Blk) (R:V→List Blk→Prop) (ts:List Nat) (e:Exit) (t:List V) (h:List Blk):Prop :=
  match e with
  | .ret|.normal=>retF ts t fun v=>forceH h fun h=>Fin H R v h
  | _=>False
theorem Done.ok {H:List Blk} {R:V→List Blk→Prop} {ts:List Nat} {t:List V} {h:List Blk} (k:retF ts t fun v=>forceH h fun h=>Fin H R v h):Ends H R (retV ts t) h:=by
  have e:(fun x=>t.getD x V.any)=getT t:=funext fun x=>(getT_eq t x).symm
  unfold retF at k
  unfold retV
  split at k
  · rw [forceV_eq,forceH_eq,getT_eq] at k;exact k.ends
  · rename_i hne
    rw [forceT_eq,forceH_eq] at k
    split
    · rename_i x;exact absurd rfl (hne x)
    · rw [e];exact k.ends
theorem Fn.calls {P:Program} {wf:Nat} {f nt:Nat} {ts:List Nat} {sc:SC} (h:Fn P wf f nt ts sc) {args:List V} {H:List Blk} {R:V→List Blk→Prop}
    (k:forceT (args++List.replicate (nt-args.length) .any) fun t=>AC H.length (npP P) sc (Done H R ts) t H):ACalls P f args H R:=by
  rw [forceT_eq] at k
  obtain ⟨fn,h1,h2,h3,h4,rfl⟩:=h
  obtain ⟨c,hb,hs⟩:=Option.bind_eq_some_iff.1 h3
  refine ACalls.of_body ts h1 h2 hb h4 ((AC_ok (P:=npP P) (sc:=sc) (fun _ _ _ h=>h.elim) (s:=⟨args++List.replicate (fn.ntmps-args.length) .any,H⟩) hs k).mono fun e s' q=>?_)
  cases e <;> first|exact Done.ok q|exact q
def subV:V→V→Prop
  | _,.any=>True
  | .nil sz,y=>y=.nil sz∨y=.g (.sl sz [])
  | x,y=>x=y
def subT:List V→List V→Prop
  | [],[]=>True
  | x::xs,y::ys=>subV x y∧subT xs ys
  | _,_=>False
theorem RV.sub {γ:List (Option Nat)} {H:List Blk} {I:Nat→Prop} {w:World} {x y:V} {v:Value} (hs:subV x y) (h:RV γ H I w x v):RV γ H I w y v:=by
  have key:y=.any∨x=y∨∃ sz,x=.nil sz∧y=.g (.sl sz []):=by
    cases x <;> cases y <;> first|exact .inl rfl|exact .inr (.inl hs)|(rcases hs with hs|hs <;> first|exact .inr (.inl hs.symm)|exact .inr (.inr ⟨_,rfl,hs⟩))
  rcases key with rfl|rfl|⟨sz,rfl,rfl⟩
  · exact .any
  · exact h
  · cases h with
    | nil=>exact .g (.sl (es:=[]) 0 0 (fun _=>undef) (fun e=>absurd rfl e) (fun _ h=>by simp at h) (Nat.le_refl _) (fun _ _ h=>by simp [flatT] at h) (fun _ _ h=>by simp [flatT] at h) (fun _ _ h=>by simp [flatT] at h))
theorem subT_ok:∀ {xs ys:List V},subT xs ys→xs.length=ys.length∧∀ (i:Nat) (v:V),ys[i]?=some v→∃ u,xs[i]?=some u∧subV u v
  | [],[],_=>⟨rfl,fun _ _ h=>by simp at h⟩
  | [],_::_,h=>h.elim
  | _::_,[],h=>h.elim
  | x::xs,y::ys,h=>by
    obtain ⟨h1,h2⟩:=subT_ok h.2
    refine ⟨by simp [h1],fun i v hi=>?_⟩
    cases i with
    | zero=>simp at hi;subst hi;exact ⟨x,rfl,h.1⟩
    | succ i=>simp at hi;simpa using h2 i v hi
theorem subV_refl (x:V):subV x x:=by cases x <;> first|trivial|rfl|exact .inl rfl
theorem subT_refl:∀ (t:List V),subT t t
  | []=>trivial
  | x::xs=>⟨subV_refl x,subT_refl xs⟩
theorem Rel.sub {γ:List (Option Nat)} {I:Nat→Prop} {w:World} {t t':List V} {h:List Blk} {a:Act} (r:Rel γ I w ⟨t,h⟩ a) (hs:subT t t'):Rel γ I w ⟨t',h⟩ a:=by
  obtain ⟨h1,h2⟩:=subT_ok hs
  refine ⟨r.defers,by rw [r.size];exact h1,fun i v hi=>?_,r.heap⟩
  obtain ⟨u,hu,hs⟩:=h2 i v hi
  exact (r.tmps i u hu).sub hs
theorem AW.sub {z:Nat} {P:Program} {c:Code} {Q:Exit→St→Prop} {t t':List V} {h:List Blk} (hs:subT t t') (k:AW z P c Q ⟨t',h⟩):AW z P c Q ⟨t,h⟩ :=
  fun γ I w a r=>k γ I w a (r.sub hs)
def tmGo:Nat→Nat→List (Nat×V)→List V
  | 0,_,_=>[]
  | n+1,i,[]=>.any::tmGo n (i+1) []
  | n+1,i,(j,v)::l=>if i=j then v::tmGo n (i+1) l else .any::tmGo n (i+1) ((j,v)::l)
def tm (n:Nat) (l:List (Nat×V)):List V:=tmGo n 0 l
structure Again {α:Type} (T:α→List V) (h:α→List Blk) (inv:α→Prop) (m:α→Nat) (n:Nat) (t:List V) (k:List Blk):Prop where
  intro ::
  ex:∃ a,inv a∧m a < n∧k=h a∧subT t (T a)
theorem SW.loop {z:Nat} {P:Prg} {c:SC} {Q:Exit→St→Prop} {t:List V} {k:List Blk} {α:Type} (T:α→List V) (h:α→List Blk) (inv:α→Prop) (m:α→Nat) (a0:α)
    (hi:inv a0) (hh:k=h a0) (hs:subT t (T a0)) (hr:∀ a,inv a→AC z P c (ThnQ (Again T h inv m (m a)) (fun e t h=>Q e ⟨t,h⟩)) (T a) (h a)):SW z P (.loop c) Q ⟨t,k⟩:=by
  refine ⟨fun hp wf code hc=>?_⟩
  cases code with
  | loop b =>
    obtain ⟨c',h1,h2⟩:=Option.map_eq_some_iff.1 hc
    cases h2
    subst hh
    refine AW.sub hs ?_
    refine AW.loop (fun n s'=>∃ a,inv a∧m a=n∧s'.h=h a∧subT s'.t (T a)) (m a0) ⟨a0,hi,rfl,rfl,subT_refl _⟩ ?_
    rintro n ⟨st',sh'⟩ ⟨a,ha,rfl,hh',hs'⟩
    simp only at hh' hs'
    subst hh'
    refine AW.sub hs' ((AC_ok (s:=⟨T a,h a⟩) (fun c t h k=>hp c ⟨t,h⟩ k) h1 (hr a ha)).mono fun e s2 q=>?_)
    cases e with
    | normal =>
      obtain ⟨a2,i2,l2,e2,u2⟩:=q.ex
      exact ⟨m a2,l2,a2,i2,rfl,e2,u2⟩
    | _=>exact q
  | region _ _ d =>
    cases d with
    | false=>simp [slimC] at hc
    | true =>
      obtain ⟨_,_,hc⟩:=Option.bind_eq_some_iff.1 hc
      obtain ⟨_,_,hc⟩:=Option.map_eq_some_iff.1 hc
      cases hc
  | seq x y=>obtain ⟨_,_,hc⟩:=Option.bind_eq_some_iff.1 hc;obtain ⟨_,_,hc⟩:=Option.map_eq_some_iff.1 hc;cases hc
  | cond c x y=>obtain ⟨_,_,hc⟩:=Option.bind_eq_some_iff.1 hc;obtain ⟨_,_,hc⟩:=Option.bind_eq_some_iff.1 hc;obtain ⟨_,_,hc⟩:=Option.map_eq_some_iff.1 hc;cases hc
  | block id x=>obtain ⟨_,_,hc⟩:=Option.map_eq_some_iff.1 hc;cases hc
  | scope x=>obtain ⟨_,_,hc⟩:=Option.map_eq_some_iff.1 hc;cases hc
  | rangeFunc g ps x y =>
    obtain ⟨_,_,hc⟩:=Option.bind_eq_some_iff.1 hc
    split at hc
    · obtain ⟨_,_,hc⟩:=Option.bind_eq_some_iff.1 hc;obtain ⟨_,_,hc⟩:=Option.map_eq_some_iff.1 hc;cases hc
    · cases hc
  | _=>simp [slimC] at hc
theorem Br.dec {p:Prop} [Decidable p] {A B:Prop} (h:p→A) (k:¬ p→B):Br (decide p) A B:=Br.intro (fun e=>h (of_decide_eq_true e)) (fun e=>k (of_decide_eq_false e))
theorem Br.ne {a b:Int} {A B:Prop} (h:a≠b→A) (k:a=b→B):Br (a != b) A B:=Br.intro (fun e=>h (by simpa using e)) (fun e=>k (by simpa using e))
theorem Br.eq {a b:Int} {A B:Prop} (h:a=b→A) (k:a≠b→B):Br (a == b) A B:=Br.intro (fun e=>h (by simpa using e)) (fun e=>k (by simpa using e))
theorem Br.not {c:Bool} {A B:Prop} (h:c=false→A) (k:c=true→B):Br (!c) A B:=Br.intro (fun e=>h (by simpa using e)) (fun e=>k (by simpa using e))
theorem getM {α β:Type} {f:α→β} {xs:List α} {n:Nat} (h:n < xs.length):(xs.map f)[n]?=some (f xs[n]):=by simp [h]
theorem in64 {n:Int} (h:-9223372036854775808≤n) (k:n≤9223372036854775807):inR .i64 n:=by
  simp [inR,IntKind.min,IntKind.max,IntKind.signed,IntKind.bits];omega
theorem lit0_sub {v:V} {t:T} (h:lit0 v=some t):subV v (.g t):=by
  cases v <;> simp [lit0] at h
  · subst h;rfl
  · subst h;exact .inr rfl
structure CG (P:Program) (f:Nat) (ts:List T) (t:T):Prop where
  ok:ACalls P f (ts.map .g) [] (fun r h=>r=.g t∧h=[])
theorem CG.go {P:Program} {f:Nat} {ts:List T} {t:T} (c:CG P f ts t) {args:List V} (ha:optL (args.map lit0)=some ts) {H:List Blk} {K:V→List Blk→Prop} (k:K (.g t) H):ACalls P f args H K:=by
  have h1:ACalls P f (ts.map .g) H K:=(c.ok.frame (fun i v h=>by
    rw [List.getElem?_map] at h
    cases hi:ts[i]? with
    | none=>rw [hi] at h;cases h
    | some x=>rw [hi] at h;simp at h;subst h;exact .g) (fun r h' e=>⟨e.2,by rw [e.1];exact .g⟩) H).mono fun r h' e=>by rw [e.1.1,e.2];exact k
  have hts:=optL_some ha
  have hl:args.length=ts.length:=by simpa using congrArg List.length hts
  refine ⟨h1.1,fun γ I w vs r hlen hv=>h1.2 γ I w vs r (by simp;omega) fun i v hi=>?_⟩
  rw [List.getElem?_map] at hi
  cases ht:ts[i]? with
  | none=>rw [ht] at hi;cases hi
  | some x =>
    rw [ht] at hi;simp at hi;subst hi
    have h2:=congrArg (·[i]?) hts
    simp only [List.getElem?_map,ht,Option.map_some] at h2
    cases he:args[i]? with
    | none=>rw [he] at h2;simp at h2
    | some e=>rw [he] at h2;simp at h2;exact (hv i e he).sub (lit0_sub h2)
structure CV (P:Program) (f:Nat) (ts:List T) (v:V):Prop where
  ok:ACalls P f (ts.map .g) [] (fun r h=>r=v∧h=[])
  lt:v.lt 0
theorem CV.go {P:Program} {f:Nat} {ts:List T} {v:V} (c:CV P f ts v) {args:List V} (ha:optL (args.map lit0)=some ts) {H:List Blk} {K:V→List Blk→Prop} (k:K v H):ACalls P f args H K:=by
  have h1:ACalls P f (ts.map .g) H K:=(c.ok.frame (fun i v h=>by
    rw [List.getElem?_map] at h
    cases hi:ts[i]? with
    | none=>rw [hi] at h;cases h
    | some x=>rw [hi] at h;simp at h;subst h;exact .g) (fun r h' e=>⟨e.2,by rw [e.1];exact c.lt⟩) H).mono fun r h' e=>by rw [e.1.1,e.2];exact k
  have hts:=optL_some ha
  have hl:args.length=ts.length:=by simpa using congrArg List.length hts
  refine ⟨h1.1,fun γ I w vs r hlen hv=>h1.2 γ I w vs r (by simp;omega) fun i v hi=>?_⟩
  rw [List.getElem?_map] at hi
  cases ht:ts[i]? with
  | none=>rw [ht] at hi;cases hi
  | some x =>
    rw [ht] at hi;simp at hi;subst hi
    have h2:=congrArg (·[i]?) hts
    simp only [List.getElem?_map,ht,Option.map_some] at h2
    cases he:args[i]? with
    | none=>rw [he] at h2;simp at h2
    | some e=>rw [he] at h2;simp at h2;exact (hv i e he).sub (lit0_sub h2)
theorem V.lt.gs {n:Nat} {ts:List T}:(V.tu (ts.map .g)).lt n:=.tu fun i v h=>by
  rw [List.getElem?_map] at h
  cases hi:ts[i]? with
  | none=>rw [hi] at h;cases h
  | some x=>rw [hi] at h;simp at h;subst h;exact .g
theorem getZ {α β:Type} {f:α→β} {xs:List α} {n:Nat} (h:n < xs.length):(xs.map f)[((n:Nat):Int).toNat]?=some (f xs[n]):=by simp [h]
theorem getI {α β:Type} {f:α→β} {xs:List α} {i:Int} (h0:0≤i) (h:i < xs.length):(xs.map f)[i.toNat]?=some (f (xs[i.toNat]'(by omega))):=getM (by omega)
end Go.Aw
namespace Go.Aw
def Refi (z:Nat) (s s':St):Prop:=∀ γ I w a,Rel γ I w s a→∃ γ' I',Rel γ' I' w s' a∧ExtM z γ s.h I w γ' s'.h I' w
theorem Refi.refl {z:Nat} (s:St):Refi z s s:=fun γ I _ _ r=>⟨γ,I,r,ExtM.refl ..⟩
theorem Refi.trans {z:Nat} {s s' s'':St} (h:Refi z s s') (k:Refi z s' s''):Refi z s s'':=fun γ I w a r=>by
  obtain ⟨γ1,I1,r1,e1⟩:=h γ I w a r
  obtain ⟨γ2,I2,r2,e2⟩:=k γ1 I1 w a r1
  exact ⟨γ2,I2,r2,e1.trans e2⟩
theorem Refi.sub {z:Nat} {t t':List V} {h h':List Blk} (e:h=h') (hs:subT t t'):Refi z ⟨t,h⟩ ⟨t',h'⟩:=fun γ I w a r=>by
  subst e;exact ⟨γ,I,r.sub hs,ExtM.refl ..⟩
theorem Refi.valloc {z:Nat} {t:List V} {h:List Blk} (i sz:Nat) (hi:getT t i=.nil sz):Refi z ⟨t,h⟩ ⟨setT t i (.own h.length 0 0 0),addB h (.arr 0 sz [])⟩:=fun γ I w a r=>by
  obtain ⟨v1,v2⟩:=valloc_ok r.heap 0 sz
  rw [addB_eq,setT_eq]
  refine ⟨γ++[none],I,⟨r.defers.ext v2,by simpa using r.size,fun j v hj=>?_,v1⟩,v2.toM⟩
  by_cases hd:j=i
  · subst hd
    have hlt:j < t.length:=by have:=lt_of_get hj;simpa using this
    simp [hlt] at hj;subst hj
    rw [getT_eq] at hi
    have:t[j]?=some (.nil sz):=by rw [List.getD_eq_getElem?_getD] at hi;simp [hlt] at hi ⊢;exact hi
    have hv:=r.tmps j _ this
    generalize a.tmps.getD j undef=x at hv
    cases hv
    refine .own (g':=0) (sz:=sz) (es:=[]) (by simp) (Nat.le_refl _) (Nat.le_refl _) (fun _=>⟨by simp,.inl ⟨?_,rfl,rfl,rfl⟩⟩)
    rw [List.getElem?_append_right (by rw [r.heap.len];exact Nat.le_refl _)];simp [r.heap.len]
  · rw [List.getElem?_set,if_neg (fun e=>hd e.symm)] at hj
    exact (r.tmps j v hj).mono v2 r.heap
theorem AW.refi {z:Nat} {P:Program} {c:Code} {Q:Exit→St→Prop} {s s':St} (hs:Refi z s s') (k:AW z P c Q s'):AW z P c Q s:=fun γ I w a r=>by
  obtain ⟨γ1,I1,r1,e1⟩:=hs γ I w a r
  exact wp_mono (k γ1 I1 w a r1) fun e a2 w2 ⟨s2,γ2,I2,k1,k2,k3,k4⟩=>⟨s2,γ2,I2,k1,k2,e1.trans k3,k4⟩
theorem SW.refi {z:Nat} {P:Prg} {sc:SC} {Q:Exit→St→Prop} {s s':St} (hs:Refi z s s') (k:SW z P sc Q s'):SW z P sc Q s :=
  ⟨fun hp wf c hc=>(k.run hp wf c hc).refi hs⟩
theorem SW.valloc {z:Nat} {P:Prg} {sc:SC} {Q:Exit→St→Prop} {t:List V} {h:List Blk} (i sz:Nat) (hi:getT t i=.nil sz) (k:SW z P sc Q ⟨setT t i (.own h.length 0 0 0),addB h (.arr 0 sz [])⟩):SW z P sc Q ⟨t,h⟩ :=
  k.refi (.valloc i sz hi)
structure AgainR (z:Nat) {α:Type} (T:α→List V) (h:α→List Blk) (inv:α→Prop) (m:α→Nat) (n:Nat) (t:List V) (k:List Blk):Prop where
  intro ::
  ex:∃ a,inv a∧m a < n∧Refi z ⟨t,k⟩ ⟨T a,h a⟩
theorem SW.loopR {z:Nat} {P:Prg} {c:SC} {Q:Exit→St→Prop} {t:List V} {k:List Blk} {α:Type} (T:α→List V) (h:α→List Blk) (inv:α→Prop) (m:α→Nat) (a0:α)
    (hi:inv a0) (hs:Refi z ⟨t,k⟩ ⟨T a0,h a0⟩) (hr:∀ a,inv a→AC z P c (ThnQ (AgainR z T h inv m (m a)) (fun e t h=>Q e ⟨t,h⟩)) (T a) (h a)):SW z P (.loop c) Q ⟨t,k⟩:=by
  refine SW.refi hs ⟨fun hp wf code hc=>?_⟩
  cases code with
  | loop b =>
    obtain ⟨c',h1,h2⟩:=Option.map_eq_some_iff.1 hc
    cases h2
    refine AW.loop (fun n s'=>∃ a,inv a∧m a=n∧Refi z s' ⟨T a,h a⟩) (m a0) ⟨a0,hi,rfl,.refl _⟩ ?_
    rintro n s' ⟨a,ha,rfl,hs'⟩
    refine AW.refi hs' ((AC_ok (s:=⟨T a,h a⟩) (fun c t h k=>hp c ⟨t,h⟩ k) h1 (hr a ha)).mono fun e s2 q=>?_)
    cases e with
    | normal =>
      obtain ⟨a2,i2,l2,e2⟩:=q.ex
      exact ⟨m a2,l2,a2,i2,rfl,e2⟩
    | _=>exact q
  | region _ _ d =>
    cases d with
    | false=>simp [slimC] at hc
    | true =>
      obtain ⟨_,_,hc⟩:=Option.bind_eq_some_iff.1 hc
      obtain ⟨_,_,hc⟩:=Option.map_eq_some_iff.1 hc
      cases hc
  | seq x y=>obtain ⟨_,_,hc⟩:=Option.bind_eq_some_iff.1 hc;obtain ⟨_,_,hc⟩:=Option.map_eq_some_iff.1 hc;cases hc
  | cond c x y=>obtain ⟨_,_,hc⟩:=Option.bind_eq_some_iff.1 hc;obtain ⟨_,_,hc⟩:=Option.bind_eq_some_iff.1 hc;obtain ⟨_,_,hc⟩:=Option.map_eq_some_iff.1 hc;cases hc
  | block id x=>obtain ⟨_,_,hc⟩:=Option.map_eq_some_iff.1 hc;cases hc
  | scope x=>obtain ⟨_,_,hc⟩:=Option.map_eq_some_iff.1 hc;cases hc
  | rangeFunc g ps x y =>
    obtain ⟨_,_,hc⟩:=Option.bind_eq_some_iff.1 hc
    split at hc
    · obtain ⟨_,_,hc⟩:=Option.bind_eq_some_iff.1 hc;obtain ⟨_,_,hc⟩:=Option.map_eq_some_iff.1 hc;cases hc
    · cases hc
  | _=>simp [slimC] at hc
end Go.Aw
namespace Go.Aw
theorem optL_map_of {α β:Type} {f:α→Option β} {g:α→β}:∀ {l:List α},(∀ x∈l,f x=some (g x))→optL (l.map f)=some (l.map g)
  | [],_=>rfl
  | x::l,h=>by
    have ih:=optL_map_of (f:=f) (g:=g) (l:=l) fun y hy=>h y (List.mem_cons_of_mem _ hy)
    rw [List.map_cons,h x List.mem_cons_self,optL,ih];rfl
theorem gr_own {n d b g sz len:Nat} {h:List Blk} {α:Type} {l:List α} {f:α→V} {e:α→T} (hb:h[b]?=some (.arr g sz (l.map f))) (hn:n≤b) (hl:len=l.length) (he:∀ x∈l,gr n h d (f x)=some (e x)) :
    gr n h (d+1) (.own b g 0 len)=some (.sl sz (l.map e)):=by
  subst hl
  have hk:gr n h (d+1) (.own b g 0 l.length)=(if n≤b∧g=g∧0+l.length≤(l.map f).length then (optL ((((l.map f).drop 0).take l.length).map (gr n h d))).map (T.sl sz) else none):=by
    simp only [gr,hb]
  rw [hk,if_pos ⟨hn,rfl,by simp⟩,List.drop_zero,List.take_of_length_le (by simp),List.map_map,optL_map_of (f:=gr n h d ∘ f) (g:=e) (fun x hx=>he x hx)]
  rfl
theorem gr_g {n d:Nat} {h:List Blk} {t:T}:gr n h d (.g t)=some t:=by cases d <;> rfl
theorem Blk.lt_of {n g sz:Nat} {es:List V} (h:∀ e∈es,∀ v∈e.cells,v.lt n):(Blk.arr g sz es).lt n:=fun i v hv=>by
  have hm:=List.mem_of_getElem? hv
  obtain ⟨e,he,hv⟩:=List.mem_flatMap.1 hm
  exact h e he v hv
theorem Blk.lt_gs {n g sz:Nat} {α:Type} {l:List α} {f:α→T}:(Blk.arr g sz (l.map fun x=>V.g (f x))).lt n:=Blk.lt_of fun e he v hv=>by
  obtain ⟨x,_,rfl⟩:=List.mem_map.1 he
  obtain ⟨y,_,rfl⟩:=List.mem_map.1 hv
  exact .g
end Go.Aw
namespace Go.Aw
theorem Fn.callOk {P:Program} {wf:Nat} {f nt:Nat} {ts:List Nat} {sc:SC} (h:Fn P wf f nt ts sc):callOk P f:=by
  obtain ⟨fn,h1,h2,h3,_,_⟩:=h
  obtain ⟨c,hb,_⟩:=Option.bind_eq_some_iff.1 h3
  exact ⟨fn,h1,h2,by rw [hb];rfl⟩
end Go.Aw
namespace Go.Aw
end Go.Aw
