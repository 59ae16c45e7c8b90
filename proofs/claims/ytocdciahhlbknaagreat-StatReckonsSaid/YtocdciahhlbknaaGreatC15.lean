/- Contracts of functions of the given program, by the abstract walk, for law StatReckons: what each one hands back; no condition but those that each theorem states. -/
import Derived.Test.YtocdciahhlbknaaGreatC14
namespace Go.Aw
open Go.Proofs Go.Sort
set_option maxRecDepth 100000
set_option maxHeartbeats 4000000
end Go.Aw
namespace Go.Aw
open Go.Proofs Go.Sort
set_option maxRecDepth 100000
set_option maxHeartbeats 4000000
structure PoQ where
  d:Nat
  b:Nat
  g:Nat
  ps:List Int
structure TmQ where
  t:ByteArray
  b:Nat
  g:Nat
  ps:List PoQ
def PoQ.abs (p:PoQ):Po:=((p.d:Int),p.ps)
def cellP (p:PoQ):V:=.ag [.g (.i p.d),.own (3+p.b) p.g 0 p.ps.length]
def cellT (x:TmQ):V:=.ag [.g (.s x.t),.own (3+x.b) x.g 0 x.ps.length]
def blkA (p:PoQ):Blk:=.arr p.g 1 (vintl p.ps)
def blkP (x:TmQ):Blk:=.arr x.g 2 (x.ps.map cellP)
abbrev Ow:=Nat→Option (Nat×Option Nat)
structure InvT (Q:List TmQ) (E:List Blk) (ow:Ow):Prop where
  P:∀ i (h:i < Q.length),E[Q[i].b]?=some (blkP Q[i])∧ow Q[i].b=some (i,none)
  A:∀ i (h:i < Q.length) j (k:j < Q[i].ps.length),E[Q[i].ps[j].b]?=some (blkA Q[i].ps[j])∧ow Q[i].ps[j].b=some (i,some j)
theorem lt_of_some {α:Type} {l:List α} {i:Nat} {x:α} (h:l[i]?=some x):i < l.length:=by
  rcases Nat.lt_or_ge i l.length with h1|h1
  · exact h1
  · rw [List.getElem?_eq_none h1] at h;cases h
theorem InvT.junk {Q:List TmQ} {E:List Blk} {ow:Ow} (h:InvT Q E ow) (b:Blk):InvT Q (E++[b]) ow :=
  ⟨fun i hi=>⟨by rw [List.getElem?_append_left (lt_of_some (h.P i hi).1)];exact (h.P i hi).1,(h.P i hi).2⟩,
   fun i hi j hj=>⟨by rw [List.getElem?_append_left (lt_of_some (h.A i hi j hj).1)];exact (h.A i hi j hj).1,(h.A i hi j hj).2⟩⟩
def owp (ow:Ow) (b:Nat) (v:Nat×Option Nat):Ow:=fun c=>if c=b then some v else ow c
theorem InvT.new {Q:List TmQ} {E:List Blk} {ow:Ow} (h:InvT Q E ow) (x:ByteArray) (d:Nat) (a:Int) (j1:Blk) :
    ∃ ow',InvT (Q++[⟨x,E.length+2,0,[⟨d,E.length,0,[a]⟩]⟩]) (E++[.arr 0 1 [.g (.i a)]]++[j1]++[.arr 0 2 [cellP ⟨d,E.length,0,[a]⟩]]) ow':=by
  refine ⟨owp (owp ow E.length (Q.length,some 0)) (E.length+2) (Q.length,none),fun i hi=>?_,fun i hi j hj=>?_⟩
  · by_cases e:i < Q.length
    · have h1:=h.P i e
      have h2:=lt_of_some h1.1
      simp only [List.getElem_append_left e]
      refine ⟨?_,?_⟩
      · rw [List.append_assoc,List.append_assoc,List.getElem?_append_left h2];exact h1.1
      · rw [owp,if_neg (by omega),owp,if_neg (by omega)];exact h1.2
    · have e2:i=Q.length:=by simp at hi;omega
      subst e2
      simp only [List.getElem_append_right (Nat.le_refl _),Nat.sub_self,List.getElem_cons_zero]
      refine ⟨?_,?_⟩
      · simp [blkP]
      · rw [owp,if_pos rfl]
  · by_cases e:i < Q.length
    · have e3:(Q++[⟨x,E.length+2,0,[⟨d,E.length,0,[a]⟩]⟩])[i]=Q[i]:=List.getElem_append_left e
      have hj':j < Q[i].ps.length:=by rw [← e3];exact hj
      have h1:=h.A i e j hj'
      have h2:=lt_of_some h1.1
      have e4:(Q++[⟨x,E.length+2,0,[⟨d,E.length,0,[a]⟩]⟩])[i].ps[j]=Q[i].ps[j]:=by simp only [e3]
      rw [e4]
      refine ⟨?_,?_⟩
      · rw [List.append_assoc,List.append_assoc,List.getElem?_append_left h2];exact h1.1
      · rw [owp,if_neg (by omega),owp,if_neg (by omega)];exact h1.2
    · have e2:i=Q.length:=by simp at hi;omega
      subst e2
      have e3:(Q++[(⟨x,E.length+2,0,[⟨d,E.length,0,[a]⟩]⟩:TmQ)])[Q.length]=⟨x,E.length+2,0,[⟨d,E.length,0,[a]⟩]⟩:=by simp
      have hj0:j=0:=by rw [e3] at hj;simp at hj;exact hj
      subst hj0
      have e4:(Q++[(⟨x,E.length+2,0,[⟨d,E.length,0,[a]⟩]⟩:TmQ)])[Q.length].ps[0]=⟨d,E.length,0,[a]⟩:=by simp only [e3];rfl
      rw [e4]
      refine ⟨?_,?_⟩
      · simp [blkA,vintl]
      · rw [owp,if_neg (by simp),owp,if_pos rfl]
def addP (x:TmQ) (p:PoQ):TmQ:=⟨x.t,x.b,x.g+1,x.ps++[p]⟩
theorem InvT.put {Q:List TmQ} {E:List Blk} {ow:Ow} (h:InvT Q E ow) {i:Nat} (hi:i < Q.length) (d:Nat) (a:Int) (j1:Blk) :
    ∃ ow',InvT (Q.set i (addP Q[i] ⟨d,E.length,0,[a]⟩)) ((E++[Blk.arr 0 1 [V.g (T.i a)]]++[j1]).set Q[i].b (blkP (addP Q[i] ⟨d,E.length,0,[a]⟩))) ow':=by
  have hbi:=lt_of_some (h.P i hi).1
  refine ⟨owp ow E.length (i,some Q[i].ps.length),fun k hk=>?_,fun k hk j hj=>?_⟩
  · have hk':k < Q.length:=by simpa using hk
    have h1:=h.P k hk'
    have h2:=lt_of_some h1.1
    by_cases e:i=k
    · subst e
      simp only [List.getElem_set_self]
      refine ⟨?_,?_⟩
      · show ((E++[Blk.arr 0 1 [V.g (T.i a)]]++[j1]).set Q[i].b _)[Q[i].b]?=_
        rw [List.getElem?_set_self (by simp;omega)]
      · show owp ow E.length _ Q[i].b=_
        rw [owp,if_neg (by omega)];exact h1.2
    · simp only [List.getElem_set_ne e]
      have hne:Q[i].b≠Q[k].b:=fun q=>by
        have h3:=(h.P i hi).2
        rw [q,h1.2] at h3
        cases h3;exact e rfl
      refine ⟨?_,?_⟩
      · rw [List.getElem?_set_ne hne,List.append_assoc,List.getElem?_append_left h2];exact h1.1
      · rw [owp,if_neg (by omega)];exact h1.2
  · have hk':k < Q.length:=by simpa using hk
    by_cases e:i=k
    · subst e
      have e3:(Q.set i (addP Q[i] ⟨d,E.length,0,[a]⟩))[i]=addP Q[i] ⟨d,E.length,0,[a]⟩:=by simp
      have hj1:j < (Q[i].ps++[(⟨d,E.length,0,[a]⟩:PoQ)]).length:=by rw [e3] at hj;exact hj
      have e4:(Q.set i (addP Q[i] ⟨d,E.length,0,[a]⟩))[i].ps[j]=(Q[i].ps++[(⟨d,E.length,0,[a]⟩:PoQ)])[j]:=by simp only [e3];rfl
      rw [e4]
      by_cases e5:j < Q[i].ps.length
      · rw [List.getElem_append_left e5]
        have h1:=h.A i hi j e5
        have h2:=lt_of_some h1.1
        have hne:Q[i].b≠Q[i].ps[j].b:=fun q=>by
          have h3:=(h.P i hi).2
          rw [q,h1.2] at h3;cases h3
        refine ⟨?_,?_⟩
        · rw [List.getElem?_set_ne hne,List.append_assoc,List.getElem?_append_left h2];exact h1.1
        · rw [owp,if_neg (by omega)];exact h1.2
      · have e6:j=Q[i].ps.length:=by simp at hj1;omega
        subst e6
        simp only [List.getElem_append_right (Nat.le_refl _),Nat.sub_self,List.getElem_cons_zero]
        refine ⟨?_,?_⟩
        · rw [List.getElem?_set_ne (by omega)];simp [blkA,vintl]
        · rw [owp,if_pos rfl]
    · have e3:(Q.set i (addP Q[i] ⟨d,E.length,0,[a]⟩))[k]=Q[k]:=List.getElem_set_ne e _
      have hj':j < Q[k].ps.length:=by rw [← e3];exact hj
      have h1:=h.A k hk' j hj'
      have h2:=lt_of_some h1.1
      have e4:(Q.set i (addP Q[i] ⟨d,E.length,0,[a]⟩))[k].ps[j]=Q[k].ps[j]:=by simp only [e3]
      rw [e4]
      have hne:Q[i].b≠Q[k].ps[j].b:=fun q=>by
        have h3:=(h.P i hi).2
        rw [q,h1.2] at h3;cases h3
      refine ⟨?_,?_⟩
      · rw [List.getElem?_set_ne hne,List.append_assoc,List.getElem?_append_left h2];exact h1.1
      · rw [owp,if_neg (by omega)];exact h1.2
def addA (p:PoQ) (a:Int):PoQ:=⟨p.d,p.b,p.g+1,p.ps++[a]⟩
def lastA (x:TmQ) (n:Nat) (h:n < x.ps.length) (a:Int):TmQ:=⟨x.t,x.b,x.g,x.ps.set n (addA x.ps[n] a)⟩
theorem InvT.last {Q:List TmQ} {E:List Blk} {ow:Ow} (h:InvT Q E ow) {i n:Nat} (hi:i < Q.length) (hn:n < Q[i].ps.length) (a:Int) :
    InvT (Q.set i (lastA Q[i] n hn a)) ((E.set Q[i].ps[n].b (blkA (addA Q[i].ps[n] a))).set Q[i].b (blkP (lastA Q[i] n hn a))) ow:=by
  have hbi:=lt_of_some (h.P i hi).1
  have hbn:=lt_of_some (h.A i hi n hn).1
  refine ⟨fun k hk=>?_,fun k hk j hj=>?_⟩
  · have hk':k < Q.length:=by simpa using hk
    have h1:=h.P k hk'
    by_cases e:i=k
    · subst e
      simp only [List.getElem_set_self]
      exact ⟨by show ((E.set _ _).set Q[i].b _)[Q[i].b]?=_;rw [List.getElem?_set_self (by simpa using hbi)],h1.2⟩
    · simp only [List.getElem_set_ne e]
      have hne:Q[i].b≠Q[k].b:=fun q=>by
        have h3:=(h.P i hi).2
        rw [q,h1.2] at h3;cases h3;exact e rfl
      have hne2:Q[i].ps[n].b≠Q[k].b:=fun q=>by
        have h3:=(h.A i hi n hn).2
        rw [q,h1.2] at h3;cases h3
      exact ⟨by rw [List.getElem?_set_ne hne,List.getElem?_set_ne hne2];exact h1.1,h1.2⟩
  · have hk':k < Q.length:=by simpa using hk
    by_cases e:i=k
    · subst e
      have e3:(Q.set i (lastA Q[i] n hn a))[i]=lastA Q[i] n hn a:=by simp
      have hj1:j < (Q[i].ps.set n (addA Q[i].ps[n] a)).length:=by rw [e3] at hj;exact hj
      have e4:(Q.set i (lastA Q[i] n hn a))[i].ps[j]=(Q[i].ps.set n (addA Q[i].ps[n] a))[j]:=by simp only [e3];rfl
      have hj2:j < Q[i].ps.length:=by simpa using hj1
      rw [e4]
      have h1:=h.A i hi j hj2
      by_cases e5:n=j
      · subst e5
        rw [List.getElem_set_self]
        have hne:Q[i].b≠Q[i].ps[n].b:=fun q=>by
          have h3:=(h.P i hi).2
          rw [q,h1.2] at h3;cases h3
        exact ⟨by show (List.set _ _ _)[Q[i].ps[n].b]?=_;rw [List.getElem?_set_ne hne,List.getElem?_set_self hbn],h1.2⟩
      · rw [List.getElem_set_ne e5]
        have hne:Q[i].b≠Q[i].ps[j].b:=fun q=>by
          have h3:=(h.P i hi).2
          rw [q,h1.2] at h3;cases h3
        have hne2:Q[i].ps[n].b≠Q[i].ps[j].b:=fun q=>by
          have h3:=(h.A i hi n hn).2
          rw [q,h1.2] at h3;cases h3;exact e5 rfl
        exact ⟨by rw [List.getElem?_set_ne hne,List.getElem?_set_ne hne2];exact h1.1,h1.2⟩
    · have e3:(Q.set i (lastA Q[i] n hn a))[k]=Q[k]:=List.getElem_set_ne e _
      have hj':j < Q[k].ps.length:=by rw [← e3];exact hj
      have h1:=h.A k hk' j hj'
      have e4:(Q.set i (lastA Q[i] n hn a))[k].ps[j]=Q[k].ps[j]:=by simp only [e3]
      rw [e4]
      have hne:Q[i].b≠Q[k].ps[j].b:=fun q=>by
        have h3:=(h.P i hi).2
        rw [q,h1.2] at h3;cases h3
      have hne2:Q[i].ps[n].b≠Q[k].ps[j].b:=fun q=>by
        have h3:=(h.A i hi n hn).2
        rw [q,h1.2] at h3;cases h3;exact e rfl
      exact ⟨by rw [List.getElem?_set_ne hne,List.getElem?_set_ne hne2];exact h1.1,h1.2⟩
end Go.Aw
namespace Go.Aw
open Go.Proofs Go.Sort
set_option maxRecDepth 100000
set_option maxHeartbeats 4000000
def kvI (l:List ByteArray):List (Value×Value):=l.zipIdx.map fun p=>(.string p.1,.int .i64 p.2)
theorem kvI_put {l:List ByteArray} {x:ByteArray}:kvI (l++[x])=kvI l++[(.string x,.int .i64 l.length)]:=by simp [kvI,List.zipIdx_append]
theorem kvI_len {l:List ByteArray}:(kvI l).length=l.length:=by simp [kvI]
theorem kvI_get {l:List ByteArray} {i:Nat} (h:i < (kvI l).length):(kvI l)[i]=(.string (l[i]'(by rw [← kvI_len];exact h)),.int .i64 i):=by simp [kvI]
theorem kvI_no {l:List ByteArray} {q:ByteArray} (h:q∉l) {n:Nat}:mfind (false,[2]) (kvI l) (.string q) n=some none:=mfind_no fun p hp=>by
  obtain ⟨i,hi,rfl⟩:=List.getElem_of_mem hp
  rw [kvI_get,sameT,decide_eq_false (fun e=>h (by rw [e];exact List.getElem_mem _))]
theorem kvI_at {l:List ByteArray} {q:ByteArray} (hn:l.Nodup) {i:Nat} (hi:i < l.length) (e:l[i]=q) {n:Nat}:mfind (false,[2]) (kvI l) (.string q) n=some (some (n+i,.int .i64 i)):=by
  have:=mfind_at (kk:=(false,[2])) (k:=.string q) (kvs:=kvI l) (n:=n) (i:=i) (by rw [kvI_len];exact hi) (fun j hj=>by
    have:=List.pairwise_iff_getElem.1 hn j i (by omega) hi hj
    rw [kvI_get,sameT]
    rw [decide_eq_false (fun h=>this (by rw [← h,e]))]) (by rw [kvI_get,sameT];simp [e])
  rw [kvI_get] at this
  exact this
def TmQ.abs (x:TmQ):Tm:=⟨x.t,x.ps.map PoQ.abs⟩
structure Has (Q:List TmQ) (ls:List (List ByteArray)):Prop where
  nd:(Q.map (·.t)).Nodup
  mem:∀ y,y∈Q.map (·.t)↔∃ l∈ls,y∈l
  ps:∀ x∈Q,x.ps.map PoQ.abs=pst ls x.t
  len:Q.length≤ls.flatten.length
theorem pst_nil_last {pre:List (List ByteArray)} {x:ByteArray}:pst (pre++[[]]) x=pst pre x:=by rw [pst_app];simp [plc]
theorem pst_lt {ls:List (List ByteArray)} {x:ByteArray}:∀ p∈pst ls x,p.1 < ls.length:=by
  intro p hp
  obtain ⟨q,hq,h⟩:=List.mem_filterMap.1 hp
  split at h
  · cases h
  · cases h
    have:=List.mem_zipIdx hq
    simp only;omega
theorem pst_none {ls:List (List ByteArray)} {x:ByteArray} (h:∀ l∈ls,x∉l):pst ls x=[]:=by
  rw [pst,List.filterMap_eq_nil_iff]
  intro p hp
  have h1:=h p.1 (List.fst_mem_of_mem_zipIdx hp)
  have:plc p.1 x=[]:=by
    rw [plc,List.map_eq_nil_iff,List.filter_eq_nil_iff]
    intro q hq
    have:=List.fst_mem_of_mem_zipIdx hq
    simp only [decide_eq_true_eq]
    intro e;rw [e] at this;exact h1 this
  rw [this];rfl
theorem pst_step {pre:List (List ByteArray)} {w:List ByteArray} {m:Nat} (hm:m < w.length) (y:ByteArray) :
    pst (pre++[w.take (m+1)]) y=if y=w[m] then pst pre y++[((pre.length:Int),plc (w.take m) y++[(m:Int)])] else pst (pre++[w.take m]) y:=by
  have hl:(w.take m).length=m:=by simp;omega
  rw [List.take_succ_eq_append_getElem hm,pst_app,pst_app,plc_app,hl]
  by_cases e:y=w[m]
  · rw [if_pos e,if_pos e.symm];simp
  · have e2:¬ w[m]=y:=fun h=>e h.symm
    simp only [if_neg e,if_neg e2,List.append_nil]
theorem Has.start {Q:List TmQ} {pre:List (List ByteArray)} (h:Has Q pre):Has Q (pre++[[]]) :=
  ⟨h.nd,fun y=>by rw [h.mem];simp,fun x hx=>by rw [pst_nil_last];exact h.ps x hx,by have:=h.len;simpa using this⟩
theorem flat_step {pre:List (List ByteArray)} {w:List ByteArray} {m:Nat} (hm:m < w.length):(pre++[w.take (m+1)]).flatten.length=(pre++[w.take m]).flatten.length+1:=by
  rw [List.flatten_append,List.flatten_append,List.length_append,List.length_append]
  simp
  omega
theorem mem_step {pre:List (List ByteArray)} {w:List ByteArray} {m:Nat} (hm:m < w.length) (y:ByteArray):(∃ l∈pre++[w.take (m+1)],y∈l)↔(∃ l∈pre++[w.take m],y∈l)∨y=w[m]:=by
  rw [List.take_succ_eq_append_getElem hm]
  generalize w.take m=u
  generalize w[m]=z
  constructor
  · rintro ⟨l,hl,hy⟩
    rcases List.mem_append.1 hl with hl|hl
    · exact .inl ⟨l,by simp [hl],hy⟩
    · simp at hl;subst hl
      rcases List.mem_append.1 hy with hy|hy
      · exact .inl ⟨u,by simp,hy⟩
      · simp at hy;exact .inr hy
  · rintro (⟨l,hl,hy⟩|rfl)
    · rcases List.mem_append.1 hl with hl|hl
      · exact ⟨l,by simp [hl],hy⟩
      · simp at hl;subst hl
        exact ⟨_,List.mem_append_right _ (List.mem_singleton.2 rfl),List.mem_append_left _ hy⟩
    · exact ⟨_,List.mem_append_right _ (List.mem_singleton.2 rfl),List.mem_append_right _ (List.mem_singleton.2 rfl)⟩
theorem Has.new {Q:List TmQ} {pre:List (List ByteArray)} {w:List ByteArray} {m:Nat} (hm:m < w.length) (h:Has Q (pre++[w.take m])) (hx:w[m]∉Q.map (·.t)) (b b1 g g1:Nat) :
    Has (Q++[⟨w[m],b,g,[⟨pre.length,b1,g1,[(m:Int)]⟩]⟩]) (pre++[w.take (m+1)]):=by
  have hx2:∀ l∈pre++[w.take m],w[m]∉l:=fun l hl hy=>hx ((h.mem _).2 ⟨l,hl,hy⟩)
  have hp:=pst_none hx2
  rw [pst_app] at hp
  obtain ⟨hp1,hp2⟩:=List.append_eq_nil_iff.1 hp
  have hpl:plc (w.take m) w[m]=[]:=by
    by_cases e:plc (w.take m) w[m]=[]
    · exact e
    · rw [if_neg e] at hp2;cases hp2
  refine ⟨?_,fun y=>?_,fun x hxm=>?_,by have:=h.len;rw [flat_step hm,List.length_append,List.length_cons,List.length_nil];omega⟩
  · rw [List.map_append]
    unfold List.Nodup
    rw [List.pairwise_append]
    exact ⟨h.nd,by simp,fun a ha c hc=>by simp at hc;subst hc;exact fun e=>hx (by rw [← e];exact ha)⟩
  · rw [mem_step hm,List.map_append,List.mem_append,h.mem];simp
  · rw [pst_step hm]
    rcases List.mem_append.1 hxm with hq|hq
    · rw [if_neg (fun e=>hx (by rw [← e];exact List.mem_map_of_mem hq))];exact h.ps x hq
    · simp at hq;subst hq
      rw [if_pos rfl,hp1,hpl];rfl
theorem Has.upd {Q:List TmQ} {pre:List (List ByteArray)} {w:List ByteArray} {m i:Nat} (hm:m < w.length) (h:Has Q (pre++[w.take m])) (hi:i < Q.length) (hx:Q[i].t=w[m]) (x':TmQ) (ht:x'.t=Q[i].t)
    (hp:x'.ps.map PoQ.abs=pst pre w[m]++[((pre.length:Int),plc (w.take m) w[m]++[(m:Int)])]):Has (Q.set i x') (pre++[w.take (m+1)]):=by
  have hmap:(Q.set i x').map (·.t)=Q.map (·.t):=by
    rw [List.map_set,ht]
    refine List.ext_getElem (by simp) fun k h1 h2=>?_
    rw [List.getElem_set];split
    · rename_i e;subst e;simp
    · rfl
  refine ⟨by rw [hmap];exact h.nd,fun y=>?_,fun x hxm=>?_,by have:=h.len;rw [flat_step hm,List.length_set];omega⟩
  · rw [mem_step hm,hmap,h.mem]
    constructor
    · exact .inl
    · rintro (q|rfl)
      · exact q
      · exact (h.mem _).1 (by rw [← hx];exact List.mem_map_of_mem (List.getElem_mem hi))
  · rw [pst_step hm]
    obtain ⟨k,hk,rfl⟩:=List.getElem_of_mem hxm
    have hk':k < Q.length:=by simpa using hk
    by_cases e:i=k
    · subst e
      rw [List.getElem_set_self,ht,hx,if_pos rfl];exact hp
    · rw [List.getElem_set_ne e]
      have:Q[k].t≠w[m]:=fun q=>by
        have:=h.nd
        unfold List.Nodup at this
        rcases Nat.lt_or_gt_of_ne e with h6|h6
        · have:=List.pairwise_iff_getElem.1 this i k (by simpa using hi) (by simpa using hk') h6
          simp at this;exact this (by rw [hx,q])
        · have:=List.pairwise_iff_getElem.1 this k i (by simpa using hk') (by simpa using hi) h6
          simp at this;exact this (by rw [hx,q])
      rw [if_neg this];exact h.ps _ (List.getElem_mem hk')
theorem pst_at {ls:List (List ByteArray)} {x:ByteArray}:∀ p∈pst ls x,∃ l∈ls,p.2=plc l x:=by
  intro p hp
  obtain ⟨q,hq,h⟩:=List.mem_filterMap.1 hp
  split at h
  · cases h
  · cases h
    exact ⟨q.1,List.fst_mem_of_mem_zipIdx hq,rfl⟩
theorem Has.ps_len {Q:List TmQ} {ls:List (List ByteArray)} (h:Has Q ls) {k:Nat} (hk:k < Q.length):Q[k].ps.length≤ls.length:=by
  have:=congrArg List.length (h.ps _ (List.getElem_mem hk))
  rw [List.length_map] at this
  rw [this];exact pst_len
theorem Has.at_len {Q:List TmQ} {ls:List (List ByteArray)} (h:Has Q ls) {k:Nat} (hk:k < Q.length) {p:PoQ} (hp:p∈Q[k].ps):∃ l∈ls,p.ps.length≤l.length:=by
  have h1:p.abs∈pst ls Q[k].t:=by rw [← h.ps _ (List.getElem_mem hk)];exact List.mem_map_of_mem hp
  obtain ⟨l,hl,e⟩:=pst_at _ h1
  exact ⟨l,hl,by have:p.ps=plc l Q[k].t:=e;rw [this];exact plc_len⟩
theorem InvT.data {Q:List TmQ} {E:List Blk} {ow:Ow} (h:InvT Q E ow) (x y z:Blk):optL ((Q.map cellT).map (gr 3 (x::y::z::E) 4))=some ((Q.map TmQ.abs).map tterm):=by
  have:(Q.map cellT).map (gr 3 (x::y::z::E) 4)=((Q.map TmQ.abs).map tterm).map some:=by
    refine List.ext_getElem (by simp) fun i h1 h2=>?_
    have hi:i < Q.length:=by simpa using h1
    simp only [List.getElem_map]
    have hA:∀ p∈Q[i].ps,gr 3 (x::y::z::E) 2 (cellP p)=some (tpost p.abs):=fun p hp=>by
      obtain ⟨j,hj,rfl⟩:=List.getElem_of_mem hp
      have hb:=(h.A i hi j hj).1
      generalize Q[i].ps[j]=p at *
      have g1:gr 3 (x::y::z::E) 1 (.own (3+p.b) p.g 0 p.ps.length)=some (tints p.ps):=gr_vintl (by rw [Nat.add_comm 3];exact hb) (by omega) rfl
      show (optL [gr 3 _ 1 (.g _),gr 3 (x::y::z::E) 1 (.own (3+p.b) p.g 0 p.ps.length)]).map T.ag=_
      rw [g1,gr_g];rfl
    have hb:=(h.P i hi).1
    have g1:gr 3 (x::y::z::E) 3 (.own (3+Q[i].b) Q[i].g 0 Q[i].ps.length)=some (tposts (Q[i].ps.map PoQ.abs)):=by
      rw [tposts,List.map_map]
      exact gr_own (by rw [Nat.add_comm 3];exact hb) (by omega) rfl hA
    show (optL [gr 3 _ 3 (.g _),gr 3 (x::y::z::E) 3 (.own (3+Q[i].b) Q[i].g 0 Q[i].ps.length)]).map T.ag=_
    rw [g1,gr_g];rfl
  rw [this,optL_map_some]
theorem srt_eq:∀ {a b:List Tm},SrtT a→SrtT b→(∀ x,x∈a↔x∈b)→a=b
  | [],[],_,_,_=>rfl
  | [],y::_,_,_,h=>absurd ((h y).2 (by simp)) (by simp)
  | x::_,[],_,_,h=>absurd ((h x).1 (by simp)) (by simp)
  | x::a,y::b,ha,hb,h=>by
    obtain ⟨ha1,ha2⟩:=List.pairwise_cons.1 ha
    obtain ⟨hb1,hb2⟩:=List.pairwise_cons.1 hb
    have e:x=y:=by
      rcases List.mem_cons.1 ((h x).1 (by simp)) with e|e
      · exact e
      · rcases List.mem_cons.1 ((h y).2 (by simp)) with e2|e2
        · exact e2.symm
        · have:=ltB_trans (ha1 y e2) (hb1 x e);rw [ltB_irr] at this;cases this
    subst e
    rw [srt_eq ha2 hb2 fun z=>?_]
    constructor
    · intro hz
      rcases List.mem_cons.1 ((h z).1 (List.mem_cons_of_mem _ hz)) with e|e
      · subst e;have:=ha1 z hz;rw [ltB_irr] at this;cases this
      · exact e
    · intro hz
      rcases List.mem_cons.1 ((h z).2 (List.mem_cons_of_mem _ hz)) with e|e
      · subst e;have:=hb1 z hz;rw [ltB_irr] at this;cases this
      · exact e
theorem addS_srt:∀ {l:List ByteArray} {x:ByteArray},(l.Pairwise fun a b=>ltB' a b=true)→(addS l x).Pairwise fun a b=>ltB' a b=true
  | [],_,_=>by simp [addS]
  | y::r,x,h=>by
    obtain ⟨h1,h2⟩:=List.pairwise_cons.1 h
    have ih:=addS_srt (x:=x) h2
    unfold addS;split
    · rename_i e
      refine List.pairwise_cons.2 ⟨fun z hz=>?_,ih⟩
      rcases addS_mem.1 hz with hz|rfl
      · exact h1 z hz
      · exact e
    · rename_i e
      split
      · exact h
      · rename_i e2
        have hxy:ltB' x y=true:=by
          have h3:=cmpL_neg y.data.toList x.data.toList
          have h4:¬ Lib.compareBytes y.data.toList x.data.toList < 0:=fun q=>e (decide_eq_true q)
          have h5:Lib.compareBytes y.data.toList x.data.toList≠0:=fun q=>e2 (cmpS_zero.1 q)
          refine decide_eq_true ?_
          show Lib.compareBytes x.data.toList y.data.toList < 0
          omega
        refine List.pairwise_cons.2 ⟨fun z hz=>?_,h⟩
        rcases List.mem_cons.1 hz with rfl|hz
        · exact hxy
        · exact ltB_trans hxy (h1 z hz)
theorem wl_srt (ws:List ByteArray):(wlS ws).Pairwise fun a b=>ltB' a b=true:=by
  have:∀ (ws m:List ByteArray),(m.Pairwise fun a b=>ltB' a b=true)→(ws.foldl addS m).Pairwise fun a b=>ltB' a b=true:=by
    intro ws
    induction ws with
    | nil=>intro m h;exact h
    | cons c l ih=>intro m h;exact ih _ (addS_srt h)
  exact this ws [] (by simp)
def termsS (l:List Cd):List Tm:=(wlS (l.flatMap (·.w))).map (tmOf l)
theorem termsS_srt (l:List Cd):SrtT (termsS l):=by
  rw [SrtT,termsS,List.pairwise_map]
  exact (wl_srt _).imp fun h=>h
theorem Has.fin {Q:List TmQ} {l:List Cd} (h:Has Q (l.map (·.w))) {m:List Tm} (hp:m.Perm (Q.map TmQ.abs)) (hs:m.Pairwise fun x y=>¬ cmpS y.t x.t < 0):m=termsS l:=by
  have hnd:(m.map (·.t)).Nodup:=by
    have e:(Q.map TmQ.abs).map (·.t)=Q.map (·.t):=by rw [List.map_map];rfl
    exact (hp.map (·.t)).nodup_iff.2 (by rw [e];exact h.nd)
  refine srt_eq ?_ (termsS_srt l) fun x=>?_
  · refine List.pairwise_iff_getElem.2 fun i j hi hj hij=>?_
    have h1:=List.pairwise_iff_getElem.1 hs i j hi hj hij
    have h2:m[i].t≠m[j].t:=by
      have:=List.pairwise_iff_getElem.1 hnd i j (by simpa using hi) (by simpa using hj) hij
      simpa using this
    have h3:=cmpL_neg m[i].t.data.toList m[j].t.data.toList
    have h4:Lib.compareBytes m[i].t.data.toList m[j].t.data.toList≠0:=fun q=>h2 (cmpS_zero.1 q)
    refine decide_eq_true ?_
    unfold cmpS at h1 ⊢
    omega
  · rw [hp.mem_iff,termsS]
    constructor
    · intro hx
      obtain ⟨q,hq,rfl⟩:=List.mem_map.1 hx
      refine List.mem_map.2 ⟨q.t,wl_mem.2 ?_,?_⟩
      · obtain ⟨w,hw,hy⟩:=(h.mem q.t).1 (List.mem_map_of_mem hq)
        obtain ⟨c,hc,rfl⟩:=List.mem_map.1 hw
        exact List.mem_flatMap.2 ⟨c,hc,hy⟩
      · rw [tmOf,TmQ.abs,h.ps q hq]
    · intro hx
      obtain ⟨t,ht,rfl⟩:=List.mem_map.1 hx
      obtain ⟨c,hc,hy⟩:=List.mem_flatMap.1 (wl_mem.1 ht)
      obtain ⟨q,hq,rfl⟩:=List.mem_map.1 ((h.mem t).2 ⟨c.w,List.mem_map_of_mem hc,hy⟩)
      refine List.mem_map.2 ⟨q,hq,?_⟩
      rw [tmOf,TmQ.abs,h.ps q hq]
end Go.Aw
namespace Go.Aw
open Go.Proofs Go.Sort
set_option maxRecDepth 100000
set_option maxHeartbeats 4000000
theorem ps_put {Q:List TmQ} {pre:List (List ByteArray)} {w:List ByteArray} {m k:Nat} (hm:m < w.length) (h:Has Q (pre++[w.take m])) (hk:k < Q.length) (hx:Q[k].t=w[m])
    (hn:∀ (q:0 < Q[k].ps.length),Q[k].ps[Q[k].ps.length-1].d≠pre.length) (b g:Nat) :
    (addP Q[k] ⟨pre.length,b,g,[(m:Int)]⟩).ps.map PoQ.abs=pst pre w[m]++[((pre.length:Int),plc (w.take m) w[m]++[(m:Int)])]:=by
  have hp:=h.ps _ (List.getElem_mem hk)
  rw [hx,pst_app] at hp
  by_cases e:plc (w.take m) w[m]=[]
  · rw [if_pos e,List.append_nil] at hp
    rw [addP,List.map_append,hp,e];rfl
  · exfalso
    rw [if_neg e] at hp
    have hl:Q[k].ps.length=(pst pre w[m]).length+1:=by have:=congrArg List.length hp;simpa using this
    refine hn (by omega) ?_
    have h2:(Q[k].ps.map PoQ.abs)[Q[k].ps.length-1]'(by simp;omega)=((pre.length:Int),plc (w.take m) w[m]):=by
      simp only [hp]
      rw [List.getElem_append_right (by omega)]
      simp [hl]
    rw [List.getElem_map] at h2
    have:=congrArg Prod.fst h2
    simp only [PoQ.abs] at this
    omega
theorem ps_last {Q:List TmQ} {pre:List (List ByteArray)} {w:List ByteArray} {m k:Nat} (hm:m < w.length) (h:Has Q (pre++[w.take m])) (hk:k < Q.length) (hx:Q[k].t=w[m])
    (q:0 < Q[k].ps.length) (hd:Q[k].ps[Q[k].ps.length-1].d=pre.length) :
    (lastA Q[k] (Q[k].ps.length-1) (by omega) (m:Int)).ps.map PoQ.abs=pst pre w[m]++[((pre.length:Int),plc (w.take m) w[m]++[(m:Int)])]:=by
  have hp:=h.ps _ (List.getElem_mem hk)
  rw [hx,pst_app] at hp
  have hlast:(Q[k].ps.map PoQ.abs)[Q[k].ps.length-1]'(by simp;omega)=((pre.length:Int),Q[k].ps[Q[k].ps.length-1].ps):=by
    rw [List.getElem_map,PoQ.abs,hd]
  by_cases e:plc (w.take m) w[m]=[]
  · exfalso
    rw [if_pos e,List.append_nil] at hp
    have h3:((pre.length:Int),Q[k].ps[Q[k].ps.length-1].ps)∈pst pre w[m]:=by rw [← hp,← hlast];exact List.getElem_mem _
    have:=pst_lt _ h3
    simp only at this;omega
  · rw [if_neg e] at hp
    have hl:Q[k].ps.length=(pst pre w[m]).length+1:=by have:=congrArg List.length hp;simpa using this
    have h4:Q[k].ps[Q[k].ps.length-1].ps=plc (w.take m) w[m]:=by
      have h2:(Q[k].ps.map PoQ.abs)[Q[k].ps.length-1]'(by simp;omega)=((pre.length:Int),plc (w.take m) w[m]):=by
        simp only [hp]
        rw [List.getElem_append_right (by omega)]
        simp [hl]
      rw [hlast] at h2
      exact congrArg Prod.snd h2
    rw [lastA,List.map_set,hp]
    have h5:(addA Q[k].ps[Q[k].ps.length-1] (m:Int)).abs=((pre.length:Int),plc (w.take m) w[m]++[(m:Int)]):=by rw [PoQ.abs,addA,h4,hd]
    rw [h5,List.set_append_right _ _ (by omega),show Q[k].ps.length-1-(pst pre w[m]).length=0 from by omega]
    rfl
theorem set_texts {Q:List TmQ} {k:Nat} (hk:k < Q.length) {x:TmQ} (h:x.t=Q[k].t):(Q.set k x).map (·.t)=Q.map (·.t):=by
  rw [List.map_set,h]
  refine List.ext_getElem (by simp) fun i h1 h2=>?_
  rw [List.getElem_set];split
  · rename_i e;subst e;simp
  · rfl
theorem gb2 {c0 x y b:Blk} {D:List Blk} {i:Nat} (h:D[i]?=some b):getB (c0::x::y::D) (3+i)=some b:=by rw [getB_eq,Nat.add_comm];simpa using h
theorem sb2 {c0 x y b:Blk} {D:List Blk} {i:Nat}:setB (c0::x::y::D) (3+i) b=c0::x::y::D.set i b:=by rw [setB_eq,Nat.add_comm];rfl
theorem getO {α β:Type} {f:α→β} {xs:List α} {n:Nat} (h:n < xs.length):(xs.map f)[0+((n:Nat):Int).toNat]?=some (f xs[n]):=by simp [h]
theorem getB_push3 (c0 x y v:Blk) (D:List Blk):getB (c0::x::y::(D++[v])) (c0::x::y::D).length=some v:=by rw [getB_eq];simp
theorem frzR {z d:Nat} {t t':List V} {H H2 H3 L:List Blk} (hH:H=H2++L) (hz:z≤H2.length) (hb:dropH H2.length (H2++L) d H2 H3) (hs:subT (t.map (cutV H2.length)) t'):Refi z ⟨t,H⟩ ⟨t',H3⟩:=by
  subst hH
  exact (Refi.drop d hz hb (cut_ok t)).trans (Refi.sub rfl hs)
def hpT (g:Nat) (l:List Cd) (Q:List TmQ) (E:List Blk):List Blk:=.arr g 3 (vcards l)::.mp (kvI (Q.map (·.t)))::.arr Q.length 2 (Q.map cellT)::E
structure StT where
  i:Nat
  Q:List TmQ
  E:List Blk
  ow:Ow
def hpO (g:Nat) (l:List Cd) (a:StT):List Blk:=if a.i < l.length then hpT g l a.Q a.E else [.arr g 3 (vcards l),.mp (kvI (a.Q.map (·.t))),.arr a.Q.length 2 (vterms (a.Q.map TmQ.abs))]
theorem c_seg_terms (g:Nat) (l:List Cd) (hb:bndC l):ACalls Tryz.prog 105 [.own 0 g 0 l.length] [.arr g 3 (vcards l)] (fun r h=>r=.g (tterms (termsS l))∧h=[.arr g 3 (vcards l)]):=by
  refine k_seg_terms.calls ?_
  have hma:(l.map tcard).length=l.length:=by simp
  obtain ⟨hb1,hb2,hb3⟩:=id hb
  try conv=>whnf
  refine SW.loopR (α:=StT) (fun a=>tm 96 [(3,.mp 1),(4,.own 2 a.Q.length 0 a.Q.length),(14,.own 0 g 0 l.length),(15,.g (.i l.length)),(16,.g (.i a.i))]) (fun a=>hpO g l a)
    (fun a=>a.i≤l.length∧Has a.Q ((l.take a.i).map (·.w))∧InvT a.Q a.E a.ow) (fun a=>l.length-a.i) ⟨0,[],[],fun _=>none⟩ ?_ ?_ ?_
  · exact ⟨Nat.zero_le _,⟨by simp,by simp,by simp,by simp⟩,⟨fun i h=>absurd h (by simp),fun i h=>absurd h (by simp)⟩⟩
  · refine (Refi.valloc 4 2 rfl).trans (Refi.sub ?_ ?_)
    · by_cases h:0 < l.length <;> simp [hpO,hpT,kvI,vterms,h] <;> rfl
    · simp [subT,subV,tm,tmGo,setT]
  · rintro ⟨i,Q,E,ow⟩ ⟨hi,hh,hv⟩
    dsimp only at hi hh hv ⊢
    by_cases h1:i < l.length
    · rw [hpO,if_pos h1,hpT]
      have hwi:=hb.w _ (List.getElem_mem h1)
      have gc:(vcards l)[0+((i:Nat):Int).toNat]?=some (V.g (tcard l[i])):=getO (f:=fun c=>V.g (tcard c)) h1
      have hmw:(l[i].w.map T.s).length=l[i].w.length:=by simp
      (try conv=>whnf);repeat ((first|refine (forceH_eq E _).mpr ?_|refine ⟨rfl,_,gc,?_⟩|refine ⟨rfl,?_⟩|refine ⟨⟨by omega,by omega⟩,⟨rfl,rfl⟩,?_⟩|refine Br.dec (fun _=>?_) (fun hh=>absurd (by omega) hh));conv=>whnf)
      refine forceH_to (addB_eq E _) ?_
      (try conv=>whnf);repeat ((first|refine (forceH_eq (E++[_]) _).mpr ?_);conv=>whnf)
      generalize hgb:getB _ _=ogb
      obtain rfl:=hgb.symm.trans (getB_push3 _ _ _ _ E)
      clear hgb
      conv=>whnf
      (try conv=>whnf);repeat ((first|refine ⟨rfl,_,rfl,⟨rfl,rfl,by decide⟩,?_⟩);conv=>whnf)
      refine forceH_to (setB_push (.arr 0 3 [.g (tcard l[i])]) _ E) ?_
      (try conv=>whnf);repeat ((first|refine (forceH_eq (E++[_]) _).mpr ?_);conv=>whnf)
      generalize hgb:getB _ _=ogb
      obtain rfl:=hgb.symm.trans (getB_push3 _ _ _ _ E)
      clear hgb
      conv=>whnf
      (try conv=>whnf);repeat ((first|refine (forceH_eq (E++[_]) _).mpr ?_|refine ⟨rfl,_,rfl,?_⟩);conv=>whnf)
      refine SW.loopR (α:=StT) (fun a=>tm 96 [(3,.mp 1),(4,.own 2 a.Q.length 0 a.Q.length),(5,.g (.i i)),(14,.own 0 g 0 l.length),(15,.g (.i l.length)),(16,.g (.i i)),(22,strs l[i].w),(23,.g (.i l[i].w.length)),(24,.g (.i a.i))]) (fun a=>hpT g l a.Q a.E)
        (fun a=>a.i≤l[i].w.length∧Has a.Q ((l.take i).map (·.w)++[l[i].w.take a.i])∧InvT a.Q a.E a.ow) (fun a=>l[i].w.length-a.i) ⟨0,Q,E++[.arr 0 3 [.g (tcard l[i])]],ow⟩ ?_ ?_ ?_
      · exact ⟨Nat.zero_le _,by rw [List.take_zero];exact hh.start,hv.junk _⟩
      · exact Refi.sub rfl (by simp [subT,subV,tm,tmGo,strs])
      · rintro ⟨m,Q,E,ow⟩ ⟨hm,hh,hv⟩
        dsimp only at hm hh hv ⊢
        rw [hpT]
        (try conv=>whnf);repeat ((first|refine (forceH_eq E _).mpr ?_);conv=>whnf)
        refine Br.dec (fun h2=>?_) (fun h2=>?_)
        · have hm':m < l[i].w.length:=by omega
          have hkl:(kvI (Q.map (·.t))).length=Q.length:=by rw [kvI_len];simp
          have hcl:(Q.map cellT).length=Q.length:=by simp
          have hpl:((l.take i).map (·.w)).length=i:=by simp;omega
          have hQ:Q.length < 1000000000:=by
            have:=hh.len
            have h5:=flat_pre (j:=m) h1
            rw [List.flatten_append,List.flatten_cons,List.flatten_nil,List.append_nil,← List.flatMap_def] at this
            omega
          by_cases hx:l[i].w[m]∈Q.map (·.t)
          · obtain ⟨k,hk,ek⟩:=List.getElem_of_mem hx
            have hk':k < Q.length:=by simpa using hk
            have ek':Q[k].t=l[i].w[m]:=by simpa using ek
            have hf:=kvI_at hh.nd hk ek (n:=0)
            have gk:(Q.map cellT)[0+((k:Nat):Int).toNat]?=some (.ag [.g (.s Q[k].t),.own (3+Q[k].b) Q[k].g 0 Q[k].ps.length]):=by simp [hk',cellT]
            have hbk:=lt_of_some (hv.P k hk').1
            have gP:getB (.arr g 3 (vcards l)::.mp (kvI (Q.map (·.t)))::.arr Q.length 2 (Q.map cellT)::E) (3+Q[k].b)=some (.arr Q[k].g 2 (Q[k].ps.map cellP)):=gb2 (hv.P k hk').1
            have hps:Q[k].ps.length < 1000000000:=by have:=hh.ps_len hk';rw [List.length_append,hpl] at this;simp at this;omega
            (try conv=>whnf);repeat ((first|refine (forceH_eq E _).mpr ?_|refine ⟨rfl,_,hf,?_⟩|refine ⟨rfl,_,gk,?_⟩|refine ⟨_,getZ (by omega),?_⟩|refine ⟨by omega,rfl,?_⟩|refine ⟨⟨by omega,by omega⟩,⟨rfl,rfl⟩,?_⟩);conv=>whnf)
            refine Br.dec (fun h3=>?_) (fun h3=>?_)
            · have hq:0 < Q[k].ps.length:=by omega
              have hq1:Q[k].ps.length-1 < Q[k].ps.length:=by omega
              have gl:(Q[k].ps.map cellP)[0+(((Q[k].ps.length:Nat):Int)-1).toNat]?=some (.ag [.g (.i Q[k].ps[Q[k].ps.length-1].d),.own (3+Q[k].ps[Q[k].ps.length-1].b) Q[k].ps[Q[k].ps.length-1].g 0 Q[k].ps[Q[k].ps.length-1].ps.length]):=by
                rw [show 0+(((Q[k].ps.length:Nat):Int)-1).toNat=Q[k].ps.length-1 from by omega,List.getElem?_map,List.getElem?_eq_getElem hq1];rfl
              obtain ⟨p,hp⟩:∃ p,Q[k].ps[Q[k].ps.length-1]=p:=⟨_,rfl⟩
              rw [hp] at gl
              (try conv=>whnf);repeat ((first|refine (forceH_eq E _).mpr ?_|refine ⟨in64 (by omega) (by omega),?_⟩);conv=>whnf)
              generalize hgb:getB _ _=ogb
              obtain rfl:=hgb.symm.trans (gP)
              clear hgb
              conv=>whnf
              (try conv=>whnf);repeat ((first|refine (forceH_eq E _).mpr ?_|refine ⟨⟨by omega,by omega⟩,⟨rfl,rfl⟩,?_⟩);conv=>whnf)
              generalize hgb:getB _ _=ogb
              obtain rfl:=hgb.symm.trans (gP)
              clear hgb
              conv=>whnf
              (try conv=>whnf);repeat ((first|refine (forceH_eq E _).mpr ?_|refine ⟨rfl,_,gl,?_⟩);conv=>whnf)
              refine Br.eq (fun h4=>?_) (fun h4=>?_)
              · (try conv=>whnf);repeat ((first|refine (forceH_eq E _).mpr ?_|refine ⟨in64 (by omega) (by omega),?_⟩);conv=>whnf)
                generalize hgb:getB _ _=ogb
                obtain rfl:=hgb.symm.trans (gP)
                clear hgb
                conv=>whnf
                (try conv=>whnf);repeat ((first|refine (forceH_eq E _).mpr ?_|refine ⟨⟨by omega,by omega⟩,⟨rfl,rfl⟩,?_⟩);conv=>whnf)
                generalize hgb:getB _ _=ogb
                obtain rfl:=hgb.symm.trans (gP)
                clear hgb
                conv=>whnf
                (try conv=>whnf);repeat ((first|refine (forceH_eq E _).mpr ?_|refine ⟨rfl,_,gl,?_⟩|refine And.intro (show cellsAll _ _ from by repeat (first|exact trivial|refine ⟨⟨rfl,rfl⟩,?_⟩)) ?_);conv=>whnf)
                have hvA:=hv.A k hk' _ hq1
                rw [hp] at hvA
                have hbA:=lt_of_some hvA.1
                obtain ⟨F1,hF1⟩:∃ F,E++[Blk.arr 0 1 [.g (.i m)]]=F:=⟨_,rfl⟩
                obtain ⟨F2,hF2⟩:∃ F,F1.set p.b (Blk.arr (p.g+1) 1 (vintl p.ps++[.g (.i m)]))=F:=⟨_,rfl⟩
                obtain ⟨F3,hF3⟩:∃ F,F2.set Q[k].b (Blk.arr Q[k].g 2 ((Q[k].ps.map cellP).set (0+(((Q[k].ps.length:Nat):Int)-1).toNat) (V.ag [.g (.i p.d),.own (3+p.b) (p.g+1) 0 (p.ps.length+1)])))=F:=⟨_,rfl⟩
                have hne2:p.b≠Q[k].b:=fun q=>by
                  have h6:=(hv.P k hk').2
                  rw [← q,hvA.2] at h6;cases h6
                have gA1:getB (.arr g 3 (vcards l)::.mp (kvI (Q.map (·.t)))::.arr Q.length 2 (Q.map cellT)::F1) (3+p.b)=some (.arr p.g 1 (vintl p.ps)):=gb2 (by rw [← hF1,List.getElem?_append_left hbA];exact hvA.1)
                have gP2:getB (.arr g 3 (vcards l)::.mp (kvI (Q.map (·.t)))::.arr Q.length 2 (Q.map cellT)::F2) (3+Q[k].b)=some (.arr Q[k].g 2 (Q[k].ps.map cellP)):=gb2 (by rw [← hF2,List.getElem?_set_ne hne2,← hF1,List.getElem?_append_left hbk];exact (hv.P k hk').1)
                have hv':=(hv.junk (Blk.arr 0 1 [.g (.i m)])).last hk' hq1 (m:Int)
                have hba:blkA (addA p (m:Int))=.arr (p.g+1) 1 (vintl p.ps++[.g (.i m)]):=by simp [blkA,addA,vintl]
                have hbp:blkP (lastA Q[k] (Q[k].ps.length-1) hq1 (m:Int))=.arr Q[k].g 2 ((Q[k].ps.map cellP).set (0+(((Q[k].ps.length:Nat):Int)-1).toNat) (V.ag [.g (.i p.d),.own (3+p.b) (p.g+1) 0 (p.ps.length+1)])):=by
                  rw [show 0+(((Q[k].ps.length:Nat):Int)-1).toNat=Q[k].ps.length-1 from by omega,blkP,lastA,List.map_set,hp]
                  simp [cellP,addA]
                rw [hF1,hp,hba,hF2,hbp,hF3] at hv'
                have hpsl:p.ps.length < 1000000000:=by
                  obtain ⟨q,hq1,hq2⟩:=hh.at_len hk' (hp▸List.getElem_mem hq1)
                  rcases List.mem_append.1 hq1 with hq1|hq1
                  · obtain ⟨c,hc,rfl⟩:=List.mem_map.1 hq1
                    have:=hb.w c (List.mem_of_mem_take hc);omega
                  · simp at hq1;subst hq1;simp at hq2;omega
                refine forceH_to ((addB_eq E _).trans hF1) ?_
                try conv=>whnf
                generalize hgb:getB _ _=ogb
                obtain rfl:=hgb.symm.trans (hF1▸getB_push3 _ _ _ _ E)
                clear hgb
                conv=>whnf
                refine ⟨⟨rfl,Nat.le_refl _,rfl⟩,?_⟩
                conv=>whnf
                generalize hgb:getB _ _=ogb
                obtain rfl:=hgb.symm.trans (gA1)
                clear hgb
                conv=>whnf
                refine ⟨(by omega:(2*(p.ps.length+1)+1024)*(8+1)≤281474976710656),⟨rfl,rfl,rfl⟩,_,⟨[],(List.append_nil _).symm⟩,by simp [vintl],?_⟩
                refine forceH_to (sb2.trans (congrArg (fun q=>_::_::_::q) hF2)) ?_
                try conv=>whnf
                generalize hgb:getB _ _=ogb
                obtain rfl:=hgb.symm.trans (gP2)
                clear hgb
                conv=>whnf
                (try conv=>whnf);repeat ((first|refine (forceH_eq F2 _).mpr ?_|refine ⟨⟨by omega,by omega⟩,⟨rfl,rfl⟩,?_⟩);conv=>whnf)
                generalize hgb:getB _ _=ogb
                obtain rfl:=hgb.symm.trans (gP2)
                clear hgb
                conv=>whnf
                refine ⟨rfl,_,gl,⟨rfl,rfl,by decide⟩,?_⟩
                refine forceH_to (sb2.trans (congrArg (fun q=>_::_::_::q) hF3)) ?_
                (try conv=>whnf);repeat ((first|refine (forceH_eq F3 _).mpr ?_|refine ⟨in64 (by omega) (by omega),?_⟩);conv=>whnf)
                have e:hpT g l (Q.set k (lastA Q[k] (Q[k].ps.length-1) hq1 (m:Int))) F3=.arr g 3 (vcards l)::.mp (kvI (Q.map (·.t)))::.arr Q.length 2 (Q.map cellT)::F3:=by
                  have e1:(Q.set k (lastA Q[k] (Q[k].ps.length-1) hq1 (m:Int))).map cellT=Q.map cellT:=by
                    rw [List.map_set]
                    refine List.ext_getElem (by simp) fun a h1 h2=>?_
                    rw [List.getElem_set];split
                    · rename_i e;subst e;simp [cellT,lastA]
                    · rfl
                  rw [hpT,set_texts (x:=lastA Q[k] (Q[k].ps.length-1) hq1 (m:Int)) hk' rfl,e1,List.length_set]
                refine ⟨⟨⟨m+1,Q.set k (lastA Q[k] (Q[k].ps.length-1) hq1 (m:Int)),F3,ow⟩,⟨hm',hh.upd hm' hk' ek' _ rfl ?_,hv'⟩,by show _-(m+1) < _-m;omega,Refi.sub ?_ ?_⟩⟩
                · exact ps_last hm' hh hk' ek' hq (by rw [hp,hpl];omega)
                · show _=hpT _ _ _ _
                  rw [e]
                · simp [subT,subV,tm,tmGo,strs]
              · have hne:∀ (q:0 < Q[k].ps.length),Q[k].ps[Q[k].ps.length-1].d≠i:=fun q e=>h4 (by rw [hp] at e;omega)
                (try conv=>whnf);repeat ((first|refine (forceH_eq E _).mpr ?_|refine And.intro (show cellsAll _ _ from by repeat (first|exact trivial|refine ⟨⟨rfl,rfl⟩,?_⟩)) ?_);conv=>whnf)
                obtain ⟨F1,hF1⟩:∃ F,E++[Blk.arr 0 1 [.g (.i m)]]=F:=⟨_,rfl⟩
                obtain ⟨F2,hF2⟩:∃ F,F1++[Blk.arr 0 2 [cellP ⟨i,E.length,0,[(m:Int)]⟩]]=F:=⟨_,rfl⟩
                have hcp:cellP ⟨i,E.length,0,[(m:Int)]⟩=.ag [.g (.i i),.own (E.length+3) 0 0 1]:=by rw [cellP,Nat.add_comm 3];rfl
                have gP2:getB (.arr g 3 (vcards l)::.mp (kvI (Q.map (·.t)))::.arr Q.length 2 (Q.map cellT)::F2) (3+Q[k].b)=some (.arr Q[k].g 2 (Q[k].ps.map cellP)):=gb2 (by rw [← hF2,← hF1,List.append_assoc,List.getElem?_append_left hbk];exact (hv.P k hk').1)
                obtain ⟨ow',hv'⟩:=hv.put hk' i (m:Int) (Blk.arr 0 2 [cellP ⟨i,E.length,0,[(m:Int)]⟩])
                have hbp:blkP (addP Q[k] ⟨i,E.length,0,[(m:Int)]⟩)=.arr (Q[k].g+1) 2 (Q[k].ps.map cellP++[.ag [.g (.i i),.own (E.length+3) 0 0 1]]):=by rw [blkP,addP,List.map_append,List.map_cons,List.map_nil,hcp]
                rw [hF1,hF2,hbp] at hv'
                obtain ⟨F3,hF3⟩:∃ F,F2.set Q[k].b (Blk.arr (Q[k].g+1) 2 (Q[k].ps.map cellP++[.ag [.g (.i i),.own (E.length+3) 0 0 1]]))=F:=⟨_,rfl⟩
                rw [hF3] at hv'
                rw [hcp] at hF2
                refine forceH_to ((addB_eq E _).trans hF1) ?_
                (try conv=>whnf);repeat ((first|refine (forceH_eq F1 _).mpr ?_|refine And.intro (show cellsAll _ _ from by repeat (first|exact trivial|refine ⟨⟨rfl,rfl⟩,?_⟩)) ?_);conv=>whnf)
                refine forceH_to ((addB_eq F1 _).trans hF2) ?_
                try conv=>whnf
                generalize hgb:getB _ _=ogb
                obtain rfl:=hgb.symm.trans (hF2▸getB_push3 _ _ _ _ F1)
                clear hgb
                conv=>whnf
                refine ⟨⟨rfl,Nat.le_refl _,rfl⟩,?_⟩
                conv=>whnf
                generalize hgb:getB _ _=ogb
                obtain rfl:=hgb.symm.trans (gP2)
                clear hgb
                conv=>whnf
                refine ⟨(by omega:(2*(Q[k].ps.length+1)+1024)*(32+1)≤281474976710656),⟨rfl,rfl,rfl⟩,_,⟨[],(List.append_nil _).symm⟩,by simp,?_⟩
                refine forceH_to (sb2.trans (congrArg (fun q=>_::_::_::q) hF3)) ?_
                (try conv=>whnf);repeat ((first|refine (forceH_eq F3 _).mpr ?_|refine ⟨rfl,_,gk,⟨rfl,rfl,by decide⟩,?_⟩|refine ⟨⟨by omega,by omega⟩,⟨rfl,rfl⟩,?_⟩|refine ⟨in64 (by omega) (by omega),?_⟩);conv=>whnf)
                have e:hpT g l (Q.set k (addP Q[k] ⟨i,E.length,0,[(m:Int)]⟩)) F3=.arr g 3 (vcards l)::.mp (kvI (Q.map (·.t)))::.arr Q.length 2 ((Q.map cellT).set (0+((k:Nat):Int).toNat) (V.ag [.g (.s Q[k].t),.own (3+Q[k].b) (Q[k].g+1) 0 (Q[k].ps.length+1)]))::F3:=by
                  rw [hpT,set_texts (x:=addP Q[k] ⟨i,E.length,0,[(m:Int)]⟩) hk' rfl,List.map_set,List.length_set]
                  simp [cellT,addP]
                refine ⟨⟨⟨m+1,Q.set k (addP Q[k] ⟨i,E.length,0,[(m:Int)]⟩),F3,ow'⟩,⟨hm',hh.upd hm' hk' ek' _ rfl ?_,hv'⟩,by show _-(m+1) < _-m;omega,Refi.sub ?_ ?_⟩⟩
                · rw [hpl]
                  have:=ps_put hm' hh hk' ek' (by rw [hpl];exact hne) E.length 0
                  rw [hpl] at this
                  exact this
                · show _=hpT _ _ _ _
                  rw [e];rfl
                · simp [subT,subV,tm,tmGo,strs]
            · have hne:∀ (q:0 < Q[k].ps.length),Q[k].ps[Q[k].ps.length-1].d≠i:=fun q=>absurd h3 (by omega)
              (try conv=>whnf);repeat ((first|refine (forceH_eq E _).mpr ?_|refine And.intro (show cellsAll _ _ from by repeat (first|exact trivial|refine ⟨⟨rfl,rfl⟩,?_⟩)) ?_);conv=>whnf)
              obtain ⟨F1,hF1⟩:∃ F,E++[Blk.arr 0 1 [.g (.i m)]]=F:=⟨_,rfl⟩
              obtain ⟨F2,hF2⟩:∃ F,F1++[Blk.arr 0 2 [cellP ⟨i,E.length,0,[(m:Int)]⟩]]=F:=⟨_,rfl⟩
              have hcp:cellP ⟨i,E.length,0,[(m:Int)]⟩=.ag [.g (.i i),.own (E.length+3) 0 0 1]:=by rw [cellP,Nat.add_comm 3];rfl
              have gP2:getB (.arr g 3 (vcards l)::.mp (kvI (Q.map (·.t)))::.arr Q.length 2 (Q.map cellT)::F2) (3+Q[k].b)=some (.arr Q[k].g 2 (Q[k].ps.map cellP)):=gb2 (by rw [← hF2,← hF1,List.append_assoc,List.getElem?_append_left hbk];exact (hv.P k hk').1)
              obtain ⟨ow',hv'⟩:=hv.put hk' i (m:Int) (Blk.arr 0 2 [cellP ⟨i,E.length,0,[(m:Int)]⟩])
              have hbp:blkP (addP Q[k] ⟨i,E.length,0,[(m:Int)]⟩)=.arr (Q[k].g+1) 2 (Q[k].ps.map cellP++[.ag [.g (.i i),.own (E.length+3) 0 0 1]]):=by rw [blkP,addP,List.map_append,List.map_cons,List.map_nil,hcp]
              rw [hF1,hF2,hbp] at hv'
              obtain ⟨F3,hF3⟩:∃ F,F2.set Q[k].b (Blk.arr (Q[k].g+1) 2 (Q[k].ps.map cellP++[.ag [.g (.i i),.own (E.length+3) 0 0 1]]))=F:=⟨_,rfl⟩
              rw [hF3] at hv'
              rw [hcp] at hF2
              refine forceH_to ((addB_eq E _).trans hF1) ?_
              (try conv=>whnf);repeat ((first|refine (forceH_eq F1 _).mpr ?_|refine And.intro (show cellsAll _ _ from by repeat (first|exact trivial|refine ⟨⟨rfl,rfl⟩,?_⟩)) ?_);conv=>whnf)
              refine forceH_to ((addB_eq F1 _).trans hF2) ?_
              try conv=>whnf
              generalize hgb:getB _ _=ogb
              obtain rfl:=hgb.symm.trans (hF2▸getB_push3 _ _ _ _ F1)
              clear hgb
              conv=>whnf
              refine ⟨⟨rfl,Nat.le_refl _,rfl⟩,?_⟩
              conv=>whnf
              generalize hgb:getB _ _=ogb
              obtain rfl:=hgb.symm.trans (gP2)
              clear hgb
              conv=>whnf
              refine ⟨(by omega:(2*(Q[k].ps.length+1)+1024)*(32+1)≤281474976710656),⟨rfl,rfl,rfl⟩,_,⟨[],(List.append_nil _).symm⟩,by simp,?_⟩
              refine forceH_to (sb2.trans (congrArg (fun q=>_::_::_::q) hF3)) ?_
              (try conv=>whnf);repeat ((first|refine (forceH_eq F3 _).mpr ?_|refine ⟨rfl,_,gk,⟨rfl,rfl,by decide⟩,?_⟩|refine ⟨⟨by omega,by omega⟩,⟨rfl,rfl⟩,?_⟩|refine ⟨in64 (by omega) (by omega),?_⟩);conv=>whnf)
              have e:hpT g l (Q.set k (addP Q[k] ⟨i,E.length,0,[(m:Int)]⟩)) F3=.arr g 3 (vcards l)::.mp (kvI (Q.map (·.t)))::.arr Q.length 2 ((Q.map cellT).set (0+((k:Nat):Int).toNat) (V.ag [.g (.s Q[k].t),.own (3+Q[k].b) (Q[k].g+1) 0 (Q[k].ps.length+1)]))::F3:=by
                rw [hpT,set_texts (x:=addP Q[k] ⟨i,E.length,0,[(m:Int)]⟩) hk' rfl,List.map_set,List.length_set]
                simp [cellT,addP]
              refine ⟨⟨⟨m+1,Q.set k (addP Q[k] ⟨i,E.length,0,[(m:Int)]⟩),F3,ow'⟩,⟨hm',hh.upd hm' hk' ek' _ rfl ?_,hv'⟩,by show _-(m+1) < _-m;omega,Refi.sub ?_ ?_⟩⟩
              · rw [hpl]
                have:=ps_put hm' hh hk' ek' (by rw [hpl];exact hne) E.length 0
                rw [hpl] at this
                exact this
              · show _=hpT _ _ _ _
                rw [e];rfl
              · simp [subT,subV,tm,tmGo,strs]
          · have hf:=kvI_no hx (n:=0)
            (try conv=>whnf);repeat ((first|refine (forceH_eq E _).mpr ?_|refine ⟨rfl,_,hf,?_⟩|refine And.intro (show cellsAll _ _ from by repeat (first|exact trivial|refine ⟨⟨rfl,rfl⟩,?_⟩)) ?_|refine ⟨_,getZ (by omega),?_⟩|refine ⟨by omega,rfl,?_⟩);conv=>whnf)
            obtain ⟨F1,hF1⟩:∃ F,E++[Blk.arr 0 2 [.ag [.g (.s l[i].w[m]),.nil 2]]]=F:=⟨_,rfl⟩
            obtain ⟨F2,hF2⟩:∃ F,F1++[Blk.arr 0 1 [.g (.i m)]]=F:=⟨_,rfl⟩
            obtain ⟨F3,hF3⟩:∃ F,F2++[Blk.arr 0 2 [cellP ⟨i,F1.length,0,[(m:Int)]⟩]]=F:=⟨_,rfl⟩
            obtain ⟨F4,hF4⟩:∃ F,F3++[Blk.arr 0 2 [cellP ⟨i,F1.length,0,[(m:Int)]⟩]]=F:=⟨_,rfl⟩
            have hl1:F1.length=E.length+1:=by rw [← hF1];simp
            have hl3:F3.length=F1.length+2:=by rw [← hF3,← hF2];simp
            have hcp:cellP ⟨i,F1.length,0,[(m:Int)]⟩=.ag [.g (.i i),.own (F1.length+3) 0 0 1]:=by rw [cellP,Nat.add_comm 3];rfl
            rw [hcp] at hF3 hF4
            have gO:∀ v:V,(Q.map cellT++[v])[0+((Q.length:Nat):Int).toNat]?=some v:=fun v=>by simp
            refine forceH_to ((addB_eq E _).trans hF1) ?_
            try conv=>whnf
            generalize hgb:getB _ _=ogb
            obtain rfl:=hgb.symm.trans (hF1▸getB_push3 _ _ _ _ E)
            clear hgb
            conv=>whnf
            refine ⟨⟨rfl,Nat.le_refl _,rfl⟩,?_⟩
            conv=>whnf
            refine ⟨by simp;omega,⟨rfl,rfl,rfl⟩,_,⟨[],(List.append_nil _).symm⟩,hcl.symm,?_⟩
            (try conv=>whnf);repeat ((first|refine (forceH_eq F1 _).mpr ?_);conv=>whnf)
            refine ⟨⟨Int.natCast_nonneg _,Int.ofNat_lt.2 (Nat.lt_succ_self _)⟩,⟨rfl,rfl⟩,?_⟩
            (try conv=>whnf);repeat ((first|refine (forceH_eq F1 _).mpr ?_|refine ⟨rfl,_,gO _,?_⟩|refine And.intro (show cellsAll _ _ from by repeat (first|exact trivial|refine ⟨⟨rfl,rfl⟩,?_⟩)) ?_);conv=>whnf)
            refine forceH_to ((addB_eq F1 _).trans hF2) ?_
            (try conv=>whnf);repeat ((first|refine (forceH_eq F2 _).mpr ?_|refine And.intro (show cellsAll _ _ from by repeat (first|exact trivial|refine ⟨⟨rfl,rfl⟩,?_⟩)) ?_);conv=>whnf)
            refine forceH_to ((addB_eq F2 _).trans hF3) ?_
            try conv=>whnf
            generalize hgb:getB _ _=ogb
            obtain rfl:=hgb.symm.trans (hF3▸getB_push3 _ _ _ _ F2)
            clear hgb
            conv=>whnf
            refine ⟨⟨rfl,Nat.le_refl _,rfl⟩,?_⟩
            conv=>whnf
            refine ⟨(by decide:(2*1+1024)*(32+1)≤281474976710656),?_⟩
            refine forceH_to ((addB_eq F3 _).trans hF4) ?_
            try conv=>whnf
            refine ⟨⟨Int.natCast_nonneg _,Int.ofNat_lt.2 (Nat.lt_succ_self _)⟩,⟨rfl,rfl⟩,?_⟩
            (try conv=>whnf);repeat ((first|refine (forceH_eq F4 _).mpr ?_|refine ⟨rfl,_,gO _,?_⟩|refine ⟨⟨rfl,rfl,by decide⟩,?_⟩|refine ⟨in64 (by omega) (by omega),?_⟩);conv=>whnf)
            obtain ⟨ow',hv'⟩:=(hv.junk (Blk.arr 0 2 [.ag [.g (.s l[i].w[m]),.nil 2]])).new l[i].w[m] i (m:Int) (Blk.arr 0 2 [cellP ⟨i,F1.length,0,[(m:Int)]⟩])
            have hh':=hh.new hm' hx (F1.length+2) F1.length 0 0
            have hpl:((l.take i).map (·.w)).length=i:=by simp;omega
            rw [hpl] at hh'
            rw [hF1,hF2,hcp,hF3,hF4] at hv'
            have e:hpT g l (Q++[⟨l[i].w[m],F1.length+2,0,[⟨i,F1.length,0,[(m:Int)]⟩]⟩]) F4=.arr g 3 (vcards l)::.mp (kvI (Q.map (·.t))++[(.string l[i].w[m],.int .i64 Q.length)])::.arr (Q.length+1) 2 ((Q.map cellT++[V.ag [.g (.s l[i].w[m]),.nil 2]]).set (0+((Q.length:Nat):Int).toNat) (V.ag [.g (.s l[i].w[m]),.own (F3.length+3) 0 0 1]))::F4:=by
              rw [hpT,List.map_append,List.map_append,List.map_cons,List.map_nil,kvI_put,hl3]
              simp [cellT,Nat.add_comm]
            refine ⟨⟨⟨m+1,Q++[⟨l[i].w[m],F1.length+2,0,[⟨i,F1.length,0,[(m:Int)]⟩]⟩],F4,ow'⟩,⟨hm',hh',hv'⟩,by show _-(m+1) < _-m;omega,Refi.sub ?_ ?_⟩⟩
            · show _=hpT _ _ _ _
              rw [e];rfl
            · simp [subT,subV,tm,tmGo,strs]
        · have:m=l[i].w.length:=by omega
          subst this
          rw [List.take_length] at hh
          have hh2:Has Q ((l.take (i+1)).map (·.w)):=by rw [List.take_succ_eq_append_getElem h1,List.map_append];exact hh
          (try conv=>whnf);repeat ((first|refine (forceH_eq E _).mpr ?_|refine ⟨in64 (by omega) (by omega),?_⟩);conv=>whnf)
          refine ⟨⟨⟨i+1,Q,E,ow⟩,⟨h1,hh2,hv⟩,by show _-(i+1) < _-i;omega,?_⟩⟩
          by_cases h3:i+1 < l.length
          · refine Refi.sub (by show _=hpO g l ⟨i+1,Q,E,ow⟩;rw [hpO,if_pos h3,hpT]) ?_
            simp [subT,subV,tm,tmGo,strs]
          · show Refi _ _ ⟨_,hpO g l ⟨i+1,Q,E,ow⟩⟩
            rw [hpO,if_neg h3]
            refine frzR (d:=4) (H2:=[.arr g 3 (vcards l),.mp (kvI (Q.map (·.t))),.arr Q.length 2 (Q.map cellT)]) (L:=E) rfl (by decide:1≤3) ⟨.inl ⟨rfl,Blk.lt_g⟩,.inl ⟨rfl,trivial⟩,.inr ⟨_,_,_,(Q.map TmQ.abs).map tterm,rfl,?_,hv.data _ _ _⟩,trivial⟩ ?_
            · simp only [vterms,List.map_map];rfl
            · simp [subT,subV,tm,tmGo,cutV,ltB,ltS]
    · have:i=l.length:=by omega
      subst this
      rw [List.take_length] at hh
      rw [hpO,if_neg h1]
      have hQ:(Q.map TmQ.abs).length < 1000000000:=by
        have:=hh.len
        rw [← List.flatMap_def] at this
        rw [List.length_map];omega
      (try conv=>whnf);repeat ((first|refine Br.dec (fun hh=>absurd hh (by omega)) (fun _=>?_));conv=>whnf)
      have key:=c_SortFunc_Term Q.length (Q.map TmQ.abs) hQ
      rw [List.length_map] at key
      refine ACalls.fl key [2] rfl rfl rfl (flatH.cons Blk.lt_g flatH.nil) (by rintro r h ⟨_,l',_,_,rfl⟩;exact flatH.cons Blk.lt_g flatH.nil) ?_
      rintro r h ⟨rfl,l',hp,hs,rfl⟩
      have hfin:=hh.fin hp hs
      subst hfin
      try conv=>whnf
      have hlen:Q.length=(termsS l).length:=by have:=hp.length_eq;rw [List.length_map] at this;exact this.symm
      refine ⟨Ends.ground (H:=[.arr g 3 (vcards l)]) (L:=[_,_]) (t:=tterms (termsS l)) 1 ?_ ⟨rfl,rfl⟩⟩
      exact gr_own rfl (by simp) hlen fun _ _=>gr_g
end Go.Aw
namespace Go.Aw
open Go.Proofs Go.Sort
set_option maxRecDepth 100000
set_option maxHeartbeats 4000000
theorem c_Clone_cards (l:List Cd) (hl:l.length < 1000000000):ACalls Tryz.prog 100 [cards l] [] (fun r h=>(∃ g,r=.own 0 g 0 l.length∧h=[.arr g 3 (vcards l)])):=by
  refine k_slices_Clone_LCard_Card.calls ?_
  conv=>whnf
  intro r hr
  conv=>whnf
  refine Br.intro (fun h=>?_) (fun h=>?_)
  · conv=>whnf
    have:l=[]:=by simpa using hr h
    subst this
    exact ⟨Ends.valloc ⟨0,rfl,rfl⟩⟩
  · conv=>whnf
    refine ⟨rfl,?_⟩
    conv=>whnf
    refine ⟨by simp;omega,⟨rfl,rfl,rfl⟩,[],⟨[],rfl⟩,rfl,?_⟩
    conv=>whnf
    refine ⟨Ends.keep ⟨1,by simp,?_⟩⟩
    simp [vcards]
def cfB (x y:Cd):Int:=cmpS x.id y.id
theorem swo_cfB:SWO (ltC cfB):=swo_key swo_cmpS Cd.id
theorem swo_befC:SWO befC:=swo_key swo_order tcard
theorem ordC_zero {a b:Cd} (h:¬ ordC a b < 0) (k:¬ ordC b a < 0):a.id=b.id:=by
  have e:=cmpL_neg a.id.data.toList b.id.data.toList
  unfold ordC at h k
  rw [nz_lt] at h k
  have:cmpS a.id b.id=0:=by
    unfold cmpS at h k ⊢
    omega
  exact cmpS_zero.1 this
theorem befC_asymm {a b:Cd} (h:befC a b=true):befC b a=false:=by
  cases q:befC b a with
  | false=>rfl
  | true=>have:=swo_befC.trans _ _ _ h q;rw [swo_befC.irrefl] at this;cases this
theorem insC_srt:∀ {l:List Cd} {c:Cd},(l.Pairwise fun x y=>befC y x=false)→(insC l c).Pairwise fun x y=>befC y x=false
  | [],_,_=>by simp [insC]
  | y::r,c,h=>by
    obtain ⟨h1,h2⟩:=List.pairwise_cons.1 h
    have ih:=insC_srt (c:=c) h2
    unfold insC;split
    · rename_i e
      refine List.pairwise_cons.2 ⟨fun z hz=>?_,ih⟩
      rcases insC_mem.1 hz with hz|rfl
      · exact h1 z hz
      · exact befC_asymm e
    · rename_i e
      have e:befC y c=false:=by simpa using e
      refine List.pairwise_cons.2 ⟨fun z hz=>?_,h⟩
      rcases List.mem_cons.1 hz with rfl|hz
      · exact e
      · exact swo_befC.ntrans _ _ _ (h1 z hz) e
theorem inC_srt (l:List Cd):(inC l).Pairwise fun x y=>befC y x=false:=by
  have:∀ (l m:List Cd),(m.Pairwise fun x y=>befC y x=false)→(l.foldl insC m).Pairwise fun x y=>befC y x=false:=by
    intro l
    induction l with
    | nil=>intro m h;exact h
    | cons c l ih=>intro m h;exact ih _ (insC_srt h)
  exact this l [] (by simp)
theorem id_inj {l:List Cd} (h:(l.map (·.id)).Nodup) {x y:Cd} (hx:x∈l) (hy:y∈l) (e:x.id=y.id):x=y:=by
  obtain ⟨i,hi,rfl⟩:=List.getElem_of_mem hx
  obtain ⟨j,hj,rfl⟩:=List.getElem_of_mem hy
  rcases Nat.lt_trichotomy i j with h6|h6|h6
  · have:=List.pairwise_iff_getElem.1 h i j (by simpa using hi) (by simpa using hj) h6
    simp at this;exact absurd e this
  · subst h6;rfl
  · have:=List.pairwise_iff_getElem.1 h j i (by simpa using hj) (by simpa using hi) h6
    simp at this;exact absurd e.symm this
theorem sort_inC {l m:List Cd} (h:(l.map (·.id)).Nodup) (hp:m.Perm l) (hs:m.Pairwise fun x y=>¬ ordC y x < 0):m=inC l:=by
  refine List.Perm.eq_of_pairwise (le:=fun x y=>befC y x=false) (fun a b ha hb h1 h2=>?_) (hs.imp fun h=>decide_eq_false h) (inC_srt l) (hp.trans inC_perm.symm)
  exact id_inj h (hp.mem_iff.1 ha) (inC_perm.mem_iff.1 hb) (ordC_zero (of_decide_eq_false h2) (of_decide_eq_false h1))
theorem adj_nodup {s:List Cd} (hs:s.Pairwise fun x y=>ltC cfB y x=false) (h:∀ k (hk:k+1 < s.length),s[k+1].id≠s[k].id):(s.map (·.id)).Nodup:=by
  have adj:∀ k (hk:k+1 < s.length),ltB' s[k].id s[k+1].id=true:=fun k hk=>by
    have h1:=of_decide_eq_false (List.pairwise_iff_getElem.1 hs k (k+1) (by omega) hk (by omega))
    have h2:=cmpL_neg s[k].id.data.toList s[k+1].id.data.toList
    have h3:Lib.compareBytes s[k].id.data.toList s[k+1].id.data.toList≠0:=fun q=>h k hk (cmpS_zero.1 q).symm
    refine decide_eq_true ?_
    unfold cfB at h1
    unfold cmpS at h1 ⊢
    omega
  have lt:∀ i d (hj:i+1+d < s.length),ltB' s[i].id s[i+1+d].id=true:=by
    intro i d
    induction d with
    | zero=>intro hj;exact adj i hj
    | succ d ih=>intro hj;exact ltB_trans (ih (by omega)) (adj (i+1+d) hj)
  refine List.pairwise_iff_getElem.2 fun i j hi hj hij e=>?_
  have hj':j < s.length:=by simpa using hj
  have:=lt i (j-(i+1)) (by omega)
  simp only [show i+1+(j-(i+1))=j from by omega] at this
  simp only [List.getElem_map] at e
  rw [e,ltB_irr] at this;cases this
theorem okL_perm {l s:List Cd} (h:s.Perm l):okL s=okL l:=by
  unfold okL
  rw [Bool.eq_iff_iff]
  simp only [Bool.and_eq_true,List.all_eq_true,decide_eq_true_eq]
  rw [(h.map (·.id)).nodup_iff]
  constructor
  · rintro ⟨h1,h2⟩;exact ⟨fun x hx=>h1 x (h.mem_iff.2 hx),h2⟩
  · rintro ⟨h1,h2⟩;exact ⟨fun x hx=>h1 x (h.mem_iff.1 hx),h2⟩
def hpC (g:Nat) (o:List Cd) (b:Bool) (i:Nat):List Blk:=[.arr 0 5 [zSeg],.arr g 3 (vcards o),.arr 0 5 [.ag [.own 3 i 0 i,.own 4 i 0 i,.own 5 i 0 i,.g (tterms (termsS o)),.g (.b b)]],.arr i 1 (rowS ((o.take i).map (·.id))),.arr i 1 (vintl ((o.take i).map (·.key))),.arr i 1 (vintl ((o.take i).map fun c=>(c.w.length:Int)))]
theorem hpC0 (g:Nat) (o:List Cd) (b:Bool) {z:Nat} {t:List V}:Refi z ⟨t,[.arr 0 5 [zSeg],.arr g 3 (vcards o),.arr 0 5 [.ag [.nil 1,.nil 1,.nil 1,.g (tterms (termsS o)),.g (.b b)]]]⟩ ⟨t,hpC g o b 0⟩:=by
  refine (Refi.vallocE 2 1 (es:=[V.ag [.nil 1,.nil 1,.nil 1,.g (tterms (termsS o)),.g (.b b)]]) (es':=[V.ag [.own 3 0 0 0,.nil 1,.nil 1,.g (tterms (termsS o)),.g (.b b)]]) rfl rfl ?_ ?_).trans
    ((Refi.vallocE 2 1 (es:=[V.ag [.own 3 0 0 0,.nil 1,.nil 1,.g (tterms (termsS o)),.g (.b b)]]) (es':=[V.ag [.own 3 0 0 0,.own 4 0 0 0,.nil 1,.g (tterms (termsS o)),.g (.b b)]]) rfl rfl ?_ ?_).trans
      ((Refi.vallocE 2 1 (es:=[V.ag [.own 3 0 0 0,.own 4 0 0 0,.nil 1,.g (tterms (termsS o)),.g (.b b)]]) (es':=[V.ag [.own 3 0 0 0,.own 4 0 0 0,.own 5 0 0 0,.g (tterms (termsS o)),.g (.b b)]]) rfl rfl ?_ ?_).trans (Refi.sub rfl (subT_refl _))))
  · simp [V.cells]
  · intro j v' h
    rcases j with _|_|_|_|_|j <;> first|exact .inl h|(cases h;exact .inr ⟨rfl,rfl⟩)
  · simp [V.cells]
  · intro j v' h
    rcases j with _|_|_|_|_|j <;> first|exact .inl h|(cases h;exact .inr ⟨rfl,rfl⟩)
  · simp [V.cells]
  · intro j v' h
    rcases j with _|_|_|_|_|j <;> first|exact .inl h|(cases h;exact .inr ⟨rfl,rfl⟩)
theorem hpC_lt {g:Nat} {o:List Cd} {b:Bool} {i:Nat}:∀ y∈hpC g o b i,y.lt 6:=by
  intro y hy
  simp only [hpC,List.mem_cons,List.not_mem_nil,or_false] at hy
  rcases hy with rfl|rfl|rfl|rfl|rfl|rfl
  · intro i v hv
    rcases i with _|_|_|_|_|i <;> cases hv
    · exact .nil
    · exact .nil
    · exact .nil
    · exact .nil
    · exact .g
  · exact Blk.lt_g
  · intro i v hv
    rcases i with _|_|_|_|_|i <;> cases hv
    · exact .own (by omega)
    · exact .own (by omega)
    · exact .own (by omega)
    · exact .g
    · exact .g
  · exact Blk.lt_g
  · exact Blk.lt_g
  · exact Blk.lt_g
theorem segC_gr {n d g1 g2 g3 b1 b2 b3 l1 l2 l3:Nat} {h:List Blk} {s:Sg} {i:T} (h1:h[b1]?=some (.arr g1 1 (rowS s.ids))) (h2:h[b2]?=some (.arr g2 1 (vintl s.keys))) (h3:h[b3]?=some (.arr g3 1 (vintl s.lens)))
    (hn:n≤b1∧n≤b2∧n≤b3) (e1:l1=s.ids.length) (e2:l2=s.keys.length) (e3:l3=s.lens.length) :
    optL ([V.ag [.own b1 g1 0 l1,.own b2 g2 0 l2,.own b3 g3 0 l3,.g (tterms s.terms),.g (.b s.sorted)],.g i].map (gr n h (d+2)))=some [tseg s,i]:=by
  have g1:gr n h (d+1) (.own b1 g1 0 l1)=some (tstrs s.ids):=gr_strs h1 hn.1 e1
  have g2:gr n h (d+1) (.own b2 g2 0 l2)=some (tints s.keys):=gr_vintl h2 hn.2.1 e2
  have g3:gr n h (d+1) (.own b3 g3 0 l3)=some (tints s.lens):=gr_vintl h3 hn.2.2 e3
  show optL [(optL [gr n h (d+1) (.own b1 _ 0 l1),gr n h (d+1) (.own b2 _ 0 l2),gr n h (d+1) (.own b3 _ 0 l3),gr n h (d+1) (.g (tterms s.terms)),gr n h (d+1) (.g (.b s.sorted))]).map T.ag,gr n h (d+2) (.g i)]=_
  rw [g1,g2,g3,gr_g,gr_g,gr_g]
  rfl
theorem c_seg_Build (l:List Cd) (b:Bool) (hb:bndC l):CV Tryz.prog 39 [tcards l,.b b] (.tu [.g (tseg (buildS l b).1),.g (.i (buildS l b).2)]):=by
  refine ⟨k_seg_Build.calls ?_,V.lt.gs (ts:=[_,_])⟩
  have hma:(l.map tcard).length=l.length:=by simp
  obtain ⟨hb1,hb2,hb3⟩:=id hb
  have err:∀ n:Int,buildS l b=(noSg,n)→∀ L:List Blk,Ends [] (fun r h=>r=V.tu [.g (tseg (buildS l b).1),.g (.i (buildS l b).2)]∧h=[]) (V.tu [zSeg,.g (.i n)]) L:=fun n e L=>by
    rw [e]
    exact Ends.grounds (H:=[]) (L:=L) 1 (ts:=[tseg noSg,.i n]) rfl ⟨rfl,rfl⟩
  (try conv=>whnf);repeat ((first|refine ⟨rfl,?_⟩);conv=>whnf)
  refine ACalls.fl (c_Clone_cards l (by omega)) [] rfl rfl rfl flatH.nil (by rintro r h ⟨g,_,rfl⟩;exact flatH.cons Blk.lt_g flatH.nil) ?_
  rintro r h ⟨g,rfl,rfl⟩
  try conv=>whnf
  refine ACalls.fl (c_SortStable 102 g cfB c_seg_BuildS1 swo_cfB l (by omega)) [1] rfl rfl rfl (flatH.cons Blk.lt_g flatH.nil) (by rintro r h ⟨_,l',_,_,rfl⟩;exact flatH.cons Blk.lt_g flatH.nil) ?_
  rintro r h ⟨rfl,s,hp,hs,rfl⟩
  try conv=>whnf
  have hsl:s.length=l.length:=hp.length_eq
  have hmay:∀ c∈s,c.w.length < 100000000:=fun c hc=>hb.w c (hp.mem_iff.1 hc)
  have hcl:∀ {m:List Cd},∀ y∈[Blk.arr 0 5 [zSeg],.arr g 3 (vcards m)],y.lt 2:=by
    intro m y hy
    simp only [List.mem_cons,List.not_mem_nil,or_false] at hy
    rcases hy with rfl|rfl
    · intro i v hv
      rcases i with _|_|_|_|_|i <;> cases hv
      · exact .nil
      · exact .nil
      · exact .nil
      · exact .nil
      · exact .g
    · exact Blk.lt_g
  refine SW.loopR (α:=Nat) (fun i=>tm 93 [(0,cards l),(1,.g (.b b)),(4,.pa 0 0 0 0),(5,.g (.i 0)),(6,.own 1 g 0 l.length),(16,.own 1 g 0 l.length),(17,.g (.i l.length)),(18,.g (.i i))])
    (fun _=>[.arr 0 5 [zSeg],.arr g 3 (vcards s)]) (fun i=>i≤s.length∧(∀ c∈s.take i,mayC c=true)∧∀ k (hk:k+1 < s.length),k+1 < i→s[k+1].id≠s[k].id) (fun i=>s.length-i) 0 ?_ ?_ ?_
  · exact ⟨Nat.zero_le _,by simp,fun k _ h=>absurd h (by omega)⟩
  · exact Refi.sub rfl (by simp [subT,subV,tm,tmGo,cards,tcards];rfl)
  · rintro i ⟨hi,hm,hn⟩
    dsimp only at hi hm hn ⊢
    conv=>whnf
    refine Br.dec (fun h=>?_) (fun h=>?_)
    · have hi':i < s.length:=by omega
      have hwi:=hmay _ (List.getElem_mem hi')
      have gi:(vcards s)[0+((i:Nat):Int).toNat]?=some (V.g (tcard s[i])):=getO (f:=fun c=>V.g (tcard c)) hi'
      have bad:okL s=false→∀ L:List Blk,Ends [] (fun r h=>r=V.tu [.g (tseg (buildS l b).1),.g (.i (buildS l b).2)]∧h=[]) (V.tu [zSeg,.g (.i 1)]) L:=fun e=>err 1 (by rw [buildS,if_pos (by rw [← okL_perm hp];exact e)])
      have more:mayC s[i]=true→∀ c∈s.take (i+1),mayC c=true:=fun e c hc=>by
        rw [List.take_succ_eq_append_getElem hi',List.mem_append,List.mem_singleton] at hc
        rcases hc with hc|rfl
        · exact hm c hc
        · exact e
      (try conv=>whnf);repeat ((first|refine ⟨rfl,_,gi,?_⟩|refine (c_seg_may s[i] (by omega)).go rfl ?_|refine ⟨rfl,_,rfl,⟨rfl,rfl,by decide⟩,?_⟩|refine ⟨rfl,_,rfl,?_⟩|refine ⟨rfl,?_⟩|refine ⟨⟨by omega,by omega⟩,⟨rfl,rfl⟩,?_⟩);conv=>whnf)
      refine Br.not (fun h2=>?_) (fun h2=>?_)
      · have e:=bad (okL_no1 hi' h2)
        (try conv=>whnf);repeat ((first|refine ⟨rfl,_,rfl,⟨rfl,rfl,by decide⟩,?_⟩|refine ⟨rfl,_,rfl,?_⟩);conv=>whnf)
        exact ⟨e _⟩
      · try conv=>whnf
        refine Br.dec (fun h3=>?_) (fun h3=>?_)
        · have hi1:i-1 < s.length:=by omega
          have gj:(vcards s)[0+(((i:Nat):Int)-1).toNat]?=some (V.g (tcard s[i-1])):=by
            rw [show 0+(((i:Nat):Int)-1).toNat=i-1 from by omega,vcards,List.getElem?_map,List.getElem?_eq_getElem hi1];rfl
          (try conv=>whnf);repeat ((first|refine ⟨rfl,_,gj,?_⟩|refine ⟨rfl,_,rfl,?_⟩|refine ⟨⟨by omega,by omega⟩,⟨rfl,rfl⟩,?_⟩|refine ⟨in64 (by omega) (by omega),?_⟩);conv=>whnf)
          rw [bl_beq]
          refine Br.dec (fun h4=>?_) (fun h4=>?_)
          · have e:=bad (okL_no2 (k:=i-1) hi' (by omega) h4.symm)
            (try conv=>whnf);repeat ((first|refine ⟨rfl,_,rfl,⟨rfl,rfl,by decide⟩,?_⟩|refine ⟨rfl,_,rfl,?_⟩);conv=>whnf)
            exact ⟨e _⟩
          · (try conv=>whnf);repeat ((first|refine ⟨in64 (by omega) (by omega),?_⟩);conv=>whnf)
            refine ⟨⟨i+1,⟨hi',more h2,fun k hk hki=>?_⟩,by omega,Refi.back (H':=[Blk.arr 0 5 [zSeg],.arr g 3 (vcards s)]) (L:=[_]) rfl (Nat.zero_le _) hcl (by simp [subT,subV,tm,tmGo,cards,cutV,ltB,ltS])⟩⟩
            by_cases e:k+1=i
            · subst e;exact h4
            · exact hn k hk (by omega)
        · (try conv=>whnf);repeat ((first|refine ⟨in64 (by omega) (by omega),?_⟩);conv=>whnf)
          refine ⟨⟨i+1,⟨hi',more h2,fun k hk hki=>absurd hki (by omega)⟩,by omega,Refi.back (H':=[Blk.arr 0 5 [zSeg],.arr g 3 (vcards s)]) (L:=[_]) rfl (Nat.zero_le _) hcl (by simp [subT,subV,tm,tmGo,cards,cutV,ltB,ltS])⟩⟩
    · have:i=s.length:=by omega
      subst this
      rw [List.take_length] at hm
      have hnd:=(hp.map (·.id)).nodup_iff.1 (adj_nodup hs fun k hk=>hn k hk hk)
      have hok:=okL_yes (fun c hc=>hm c (hp.mem_iff.2 hc)) hnd
      have hvl:(vcards s).length=l.length:=by simp [vcards,hsl]
      have hcp:(vcards s).take 0++((l.map tcard).map V.g).take (min ((l.map tcard).map V.g).length l.length)++(vcards s).drop (0+min ((l.map tcard).map V.g).length l.length)=vcards l:=by
        rw [show ((l.map tcard).map V.g).length=l.length from by simp,Nat.min_self,Nat.zero_add,List.take_zero,List.nil_append,List.take_of_length_le (by simp),List.drop_of_length_le (by omega),List.append_nil,vcards,List.map_map]
        rfl
      have hbo:=hb.perm (ordO_perm (b:=b))
      have hol:(ordO l b).length=l.length:=(ordO_perm (l:=l) (b:=b)).length_eq
      obtain ⟨o,ho⟩:∃ o,ordO l b=o:=⟨_,rfl⟩
      rw [ho] at hbo hol
      have key:=c_seg_terms g o hbo
      rw [hol] at key
      cases b
      · (try conv=>whnf);repeat ((first|refine ⟨⟨rfl,rfl⟩,?_⟩|refine ⟨rfl,?_⟩);conv=>whnf)
        have hh2:some [Blk.arr g 3 ((vcards s).take 0++((l.map tcard).map V.g).take (min ((l.map tcard).map V.g).length l.length)++(vcards s).drop (0+min ((l.map tcard).map V.g).length l.length))]=some [Blk.arr g 3 (vcards o)]:=by rw [hcp,← ho];rfl
        refine ACalls.fl key [1] rfl hh2 rfl (flatH.cons Blk.lt_g flatH.nil) (by rintro r h ⟨_,rfl⟩;exact flatH.cons Blk.lt_g flatH.nil) ?_
        rintro r h ⟨rfl,rfl⟩
        have hmt:((termsS o).map tterm).length=(wlS (o.flatMap (·.w))).length:=by simp [termsS]
        (try conv=>whnf);repeat ((first|refine ⟨rfl,_,rfl,⟨rfl,rfl,by decide⟩,?_⟩|refine ⟨rfl,?_⟩);conv=>whnf)
        refine Br.dec (fun h5=>?_) (fun h5=>?_)
        · have e:=err 8 (by rw [buildS,if_neg (by rw [hok];simp),if_pos (by omega)])
          (try conv=>whnf);repeat ((first|refine ⟨rfl,_,rfl,⟨rfl,rfl,by decide⟩,?_⟩|refine ⟨rfl,_,rfl,?_⟩);conv=>whnf)
          exact ⟨e _⟩
        · have hspec:buildS l false=if 200 < (wlS (o.flatMap (·.w))).length then (noSg,8) else (segOf o false,0):=by rw [buildS,if_neg (by rw [hok];simp),if_neg (by omega),ho]
          (try conv=>whnf);repeat ((first|refine ⟨rfl,_,rfl,?_⟩);conv=>whnf)
          refine Br.dec (fun h6=>?_) (fun h6=>?_)
          · have e:=err 8 (by rw [hspec,if_pos (by omega)])
            (try conv=>whnf);repeat ((first|refine ⟨rfl,_,rfl,⟨rfl,rfl,by decide⟩,?_⟩|refine ⟨rfl,_,rfl,?_⟩);conv=>whnf)
            exact ⟨e _⟩
          · rw [if_neg (by omega)] at hspec
            try conv=>whnf
            refine SW.loopR (α:=Nat) (fun i=>tm 93 [(4,.pa 0 0 0 0),(5,.g (.i 0)),(9,.pa 2 0 0 0),(63,.own 1 g 0 l.length),(64,.g (.i l.length)),(65,.g (.i i))]) (fun i=>hpC g o false i) (fun i=>i≤o.length) (fun i=>o.length-i) 0 ?_ ?_ ?_
            · exact Nat.zero_le _
            · refine (hpC0 g o false).trans (Refi.sub rfl ?_)
              simp [subT,subV,tm,tmGo]
              try rfl
            · intro i hi
              dsimp only at hi ⊢
              have hn1:(rowS ((o.take i).map (·.id))).length=i:=by simp [rowS];omega
              have hn2:(vintl ((o.take i).map (·.key))).length=i:=by simp [vintl];omega
              have hn3:(vintl ((o.take i).map fun c=>(c.w.length:Int))).length=i:=by simp [vintl];omega
              unfold hpC
              conv=>whnf
              refine Br.dec (fun h=>?_) (fun h=>?_)
              · have hi':i < o.length:=by omega
                have hwi:=hbo.w _ (List.getElem_mem hi')
                have gi:(vcards o)[0+((i:Nat):Int).toNat]?=some (V.g (tcard o[i])):=getO (f:=fun c=>V.g (tcard c)) hi'
                (try conv=>whnf);repeat ((first|refine ⟨rfl,_,gi,?_⟩|refine And.intro (show cellsAll _ _ from by repeat (first|exact trivial|refine ⟨⟨rfl,rfl⟩,?_⟩)) ?_|refine ⟨rfl,_,rfl,⟨rfl,rfl,by decide⟩,?_⟩|refine ⟨⟨rfl,rfl⟩,?_⟩|refine ⟨rfl,?_⟩|refine ⟨⟨by omega,by omega⟩,⟨rfl,rfl⟩,?_⟩|refine ⟨_,rfl,?_⟩);conv=>whnf)
                refine ⟨by simp;omega,⟨rfl,rfl,rfl⟩,_,⟨[],(List.append_nil _).symm⟩,hn1.symm,?_⟩
                (try conv=>whnf);repeat ((first|refine ⟨rfl,?_⟩);conv=>whnf)
                refine ⟨by simp;omega,⟨rfl,rfl,rfl⟩,_,⟨[],(List.append_nil _).symm⟩,hn2.symm,?_⟩
                (try conv=>whnf);repeat ((first|refine ⟨rfl,?_⟩);conv=>whnf)
                refine ⟨by simp;omega,⟨rfl,rfl,rfl⟩,_,⟨[],(List.append_nil _).symm⟩,hn3.symm,?_⟩
                (try conv=>whnf);repeat ((first|refine ⟨rfl,_,rfl,⟨rfl,rfl,by decide⟩,?_⟩|refine ⟨in64 (by omega) (by omega),?_⟩);conv=>whnf)
                have e1:rowS ((o.take (i+1)).map (·.id))=rowS ((o.take i).map (·.id))++[V.g (T.s o[i].id)]:=by rw [List.take_succ_eq_append_getElem hi',rowS,rowS,List.map_append,List.map_append];rfl
                have e2:vintl ((o.take (i+1)).map (·.key))=vintl ((o.take i).map (·.key))++[V.g (T.i o[i].key)]:=by rw [List.take_succ_eq_append_getElem hi',vintl,vintl,List.map_append,List.map_append];simp
                have e3:vintl ((o.take (i+1)).map fun c=>(c.w.length:Int))=vintl ((o.take i).map fun c=>(c.w.length:Int))++[V.g (T.i ((o[i].w.map T.s).length:Int))]:=by rw [List.take_succ_eq_append_getElem hi',vintl,vintl,List.map_append,List.map_append];simp
                refine ⟨⟨i+1,hi',by omega,Refi.back (H':=hpC g o false (i+1)) (L:=[.arr 0 3 [.g (tcard o[i])]]) ?_ (Nat.zero_le _) hpC_lt ?_⟩⟩
                · unfold hpC
                  rw [e1,e2,e3]
                  rfl
                · simp [subT,subV,tm,tmGo,cutV,ltB,ltS,hpC]
              · have:i=l.length:=by omega
                subst this
                rw [show o.take l.length=o from by rw [← hol,List.take_length]]
                (try conv=>whnf);repeat ((first|refine ⟨rfl,_,rfl,⟨rfl,rfl,by decide⟩,?_⟩|refine ⟨rfl,_,rfl,?_⟩);conv=>whnf)
                rw [hspec]
                refine ⟨Ends.grounds (H:=[]) (L:=[_,_,_,_,_,_]) 3 (ts:=[tseg (segOf o false),.i 0]) ?_ ⟨rfl,rfl⟩⟩
                refine segC_gr (d:=1) (b1:=3) (b2:=4) (b3:=5) (s:=segOf o false) ?_ ?_ ?_ ?_ ?_ ?_ ?_
                · rfl
                · rfl
                · rfl
                · simp
                · simp [segOf,hol]
                · simp [segOf,hol]
                · simp [segOf,hol]
      · (try conv=>whnf);repeat ((first|refine ⟨⟨rfl,rfl⟩,?_⟩|refine ⟨rfl,?_⟩);conv=>whnf)
        have hh2:some [Blk.arr g 3 ((vcards s).take 0++((l.map tcard).map V.g).take (min ((l.map tcard).map V.g).length l.length)++(vcards s).drop (0+min ((l.map tcard).map V.g).length l.length))]=some [Blk.arr g 3 (vcards l)]:=by rw [hcp]
        refine ACalls.fl (c_SortFunc_Card g l (by omega)) [1] rfl hh2 rfl (flatH.cons Blk.lt_g flatH.nil) (by rintro r h ⟨_,l',_,_,rfl⟩;exact flatH.cons Blk.lt_g flatH.nil) ?_
        rintro r h ⟨rfl,l',hp',hs',rfl⟩
        have hlo:l'=o:=(sort_inC hnd hp' hs').trans ho
        subst hlo
        try conv=>whnf
        refine ACalls.fl key [1] rfl rfl rfl (flatH.cons Blk.lt_g flatH.nil) (by rintro r h ⟨_,rfl⟩;exact flatH.cons Blk.lt_g flatH.nil) ?_
        rintro r h ⟨rfl,rfl⟩
        have hmt:((termsS l').map tterm).length=(wlS (l'.flatMap (·.w))).length:=by simp [termsS]
        (try conv=>whnf);repeat ((first|refine ⟨rfl,_,rfl,⟨rfl,rfl,by decide⟩,?_⟩|refine ⟨rfl,?_⟩);conv=>whnf)
        refine Br.dec (fun h5=>?_) (fun h5=>?_)
        · have e:=err 8 (by rw [buildS,if_neg (by rw [hok];simp),if_pos (by omega)])
          (try conv=>whnf);repeat ((first|refine ⟨rfl,_,rfl,⟨rfl,rfl,by decide⟩,?_⟩|refine ⟨rfl,_,rfl,?_⟩);conv=>whnf)
          exact ⟨e _⟩
        · have hspec:buildS l true=if 200 < (wlS (l'.flatMap (·.w))).length then (noSg,8) else (segOf l' true,0):=by rw [buildS,if_neg (by rw [hok];simp),if_neg (by omega),ho]
          (try conv=>whnf);repeat ((first|refine ⟨rfl,_,rfl,?_⟩);conv=>whnf)
          refine Br.dec (fun h6=>?_) (fun h6=>?_)
          · have e:=err 8 (by rw [hspec,if_pos (by omega)])
            (try conv=>whnf);repeat ((first|refine ⟨rfl,_,rfl,⟨rfl,rfl,by decide⟩,?_⟩|refine ⟨rfl,_,rfl,?_⟩);conv=>whnf)
            exact ⟨e _⟩
          · rw [if_neg (by omega)] at hspec
            try conv=>whnf
            refine SW.loopR (α:=Nat) (fun i=>tm 93 [(4,.pa 0 0 0 0),(5,.g (.i 0)),(9,.pa 2 0 0 0),(63,.own 1 g 0 l.length),(64,.g (.i l.length)),(65,.g (.i i))]) (fun i=>hpC g l' true i) (fun i=>i≤l'.length) (fun i=>l'.length-i) 0 ?_ ?_ ?_
            · exact Nat.zero_le _
            · refine (hpC0 g l' true).trans (Refi.sub rfl ?_)
              simp [subT,subV,tm,tmGo]
              try rfl
            · intro i hi
              dsimp only at hi ⊢
              have hn1:(rowS ((l'.take i).map (·.id))).length=i:=by simp [rowS];omega
              have hn2:(vintl ((l'.take i).map (·.key))).length=i:=by simp [vintl];omega
              have hn3:(vintl ((l'.take i).map fun c=>(c.w.length:Int))).length=i:=by simp [vintl];omega
              unfold hpC
              conv=>whnf
              refine Br.dec (fun h=>?_) (fun h=>?_)
              · have hi':i < l'.length:=by omega
                have hwi:=hbo.w _ (List.getElem_mem hi')
                have gi:(vcards l')[0+((i:Nat):Int).toNat]?=some (V.g (tcard l'[i])):=getO (f:=fun c=>V.g (tcard c)) hi'
                (try conv=>whnf);repeat ((first|refine ⟨rfl,_,gi,?_⟩|refine And.intro (show cellsAll _ _ from by repeat (first|exact trivial|refine ⟨⟨rfl,rfl⟩,?_⟩)) ?_|refine ⟨rfl,_,rfl,⟨rfl,rfl,by decide⟩,?_⟩|refine ⟨⟨rfl,rfl⟩,?_⟩|refine ⟨rfl,?_⟩|refine ⟨⟨by omega,by omega⟩,⟨rfl,rfl⟩,?_⟩|refine ⟨_,rfl,?_⟩);conv=>whnf)
                refine ⟨by simp;omega,⟨rfl,rfl,rfl⟩,_,⟨[],(List.append_nil _).symm⟩,hn1.symm,?_⟩
                (try conv=>whnf);repeat ((first|refine ⟨rfl,?_⟩);conv=>whnf)
                refine ⟨by simp;omega,⟨rfl,rfl,rfl⟩,_,⟨[],(List.append_nil _).symm⟩,hn2.symm,?_⟩
                (try conv=>whnf);repeat ((first|refine ⟨rfl,?_⟩);conv=>whnf)
                refine ⟨by simp;omega,⟨rfl,rfl,rfl⟩,_,⟨[],(List.append_nil _).symm⟩,hn3.symm,?_⟩
                (try conv=>whnf);repeat ((first|refine ⟨rfl,_,rfl,⟨rfl,rfl,by decide⟩,?_⟩|refine ⟨in64 (by omega) (by omega),?_⟩);conv=>whnf)
                have e1:rowS ((l'.take (i+1)).map (·.id))=rowS ((l'.take i).map (·.id))++[V.g (T.s l'[i].id)]:=by rw [List.take_succ_eq_append_getElem hi',rowS,rowS,List.map_append,List.map_append];rfl
                have e2:vintl ((l'.take (i+1)).map (·.key))=vintl ((l'.take i).map (·.key))++[V.g (T.i l'[i].key)]:=by rw [List.take_succ_eq_append_getElem hi',vintl,vintl,List.map_append,List.map_append];simp
                have e3:vintl ((l'.take (i+1)).map fun c=>(c.w.length:Int))=vintl ((l'.take i).map fun c=>(c.w.length:Int))++[V.g (T.i ((l'[i].w.map T.s).length:Int))]:=by rw [List.take_succ_eq_append_getElem hi',vintl,vintl,List.map_append,List.map_append];simp
                refine ⟨⟨i+1,hi',by omega,Refi.back (H':=hpC g l' true (i+1)) (L:=[.arr 0 3 [.g (tcard l'[i])]]) ?_ (Nat.zero_le _) hpC_lt ?_⟩⟩
                · unfold hpC
                  rw [e1,e2,e3]
                  rfl
                · simp [subT,subV,tm,tmGo,cutV,ltB,ltS,hpC]
              · have:i=l.length:=by omega
                subst this
                rw [show l'.take l.length=l' from by rw [← hol,List.take_length]]
                (try conv=>whnf);repeat ((first|refine ⟨rfl,_,rfl,⟨rfl,rfl,by decide⟩,?_⟩|refine ⟨rfl,_,rfl,?_⟩);conv=>whnf)
                rw [hspec]
                refine ⟨Ends.grounds (H:=[]) (L:=[_,_,_,_,_,_]) 3 (ts:=[tseg (segOf l' true),.i 0]) ?_ ⟨rfl,rfl⟩⟩
                refine segC_gr (d:=1) (b1:=3) (b2:=4) (b3:=5) (s:=segOf l' true) ?_ ?_ ?_ ?_ ?_ ?_ ?_
                · rfl
                · rfl
                · rfl
                · simp
                · simp [segOf,hol]
                · simp [segOf,hol]
                · simp [segOf,hol]
end Go.Aw
namespace Go.Aw
open Go.Proofs Go.Sort
set_option maxRecDepth 100000
set_option maxHeartbeats 4000000
def fewC (c:Cd):Prop:=c.id.size≤40∧c.w.length≤130∧∀ x∈c.w,x.size≤40
instance (c:Cd):Decidable (fewC c):=by unfold fewC;exact inferInstance
def few8 (l:List Cd):Prop:=l.length≤70∧∀ c∈l,fewC c
instance (l:List Cd):Decidable (few8 l):=by unfold few8;exact inferInstance
end Go.Aw
