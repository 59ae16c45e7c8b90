/- Contracts of functions of the given program, by the abstract walk, for law StatReckons: what each one hands back; no condition but those that each theorem states. -/
import Derived.Maps.RangeRun
import Derived.WalkKit
import Derived.Test.YtocdciahhlbknaaGreatC25
import Derived.Test.YtocdciahhlbknaaGreatF
import Derived.Test.YtocdciahhlbknaaGreatW3
namespace Go.Aw
open Go.Proofs Go.RowKit
set_option maxRecDepth 100000
set_option maxHeartbeats 4000000
theorem lt_of_arr {α:Type} {a:Array α} {i:Nat} {x:α} (h:a[i]?=some x):i < a.size:=(Array.getElem?_eq_some_iff.1 h).1
noncomputable def onceTail:Code:=match Tryz.f87.body with|some (.seq _ (.seq _ (.seq _ (.seq _ c))))=>c|_=>.skip
theorem once_tail {z:Nat} {t:List V} {h:List Blk} {b:Nat} {m:List (Value×Int)} (ht:t.length=61) (h3:getT t 3=.mp b) (hb:h[b]?=some (.mp (m.map fun p=>(p.1,.int .i64 p.2)))) :
  AW z Tryz.prog onceTail (fun e s=>e=.ret∧s.h=h∧s.t.length=61∧getT s.t 2=.g (.b (m.all fun p=>decide (p.2≤1)))) ⟨t,h⟩:=by
 intro γ I w a r
 obtain ⟨x3,hx3,hv3⟩:=tmp_get r h3 (by simp)
 cases hv3 with
 | @mp _ k kvs hb' hk =>
 have hsz:a.tmps.size=61:=by rw [r.size];exact ht
 obtain ⟨k',es,clock,q1,q2,q3,q4,q5⟩:=r.heap.mp _ _ hb
 rw [hk] at q1;cases q1
 have hr:∀ w:World,w.heap[k]?=some (Obj.map es clock)→(Instr.range 188 (.map (some k))).run Tryz.prog w=.ok (.pointer (some ⟨w.heap.size,0,none⟩)) (w.alloc (.mapIter (some k) clock #[] clock)):=by
  intro w hw
  simp [Instr.range,Tryz.underlying188,run_underlying,getObj,newObj,Sem.run,hw,Result.andThen]
 have h3l:3 < a.tmps.size:=by omega
 have e3:a.tmps[3]=.map (some k):=by
  rw [Array.getElem?_eq_getElem h3l] at hx3;exact Option.some.inj hx3
 have hkl:k < w.heap.size:=(r.heap.off b k hk).2
 have h0a:∀ o:Obj,(w.alloc o).heap[w.heap.size]?=some o:=fun o=>by
  show (w.heap.push o)[w.heap.size]?=_
  simp
 have h0b:∀ (o:Obj) (i:Nat),i≠w.heap.size→(w.alloc o).heap[i]?=w.heap[i]?:=fun o i hi=>by
  show (w.heap.push o)[i]?=_
  rw [Array.getElem?_push,if_neg hi]
 have h0c:∀ o:Obj,(w.alloc o).heap.size=w.heap.size+1:=fun o=>by
  show (w.heap.push o).size=_
  simp
 have fin:∀ (B:Bool) (a2:Act) (w2:World),a2.defers=a.defers→a2.tmps.size=61→a2.tmps[2]?=some (.bool B)→(∀ i,i≠w.heap.size→w2.heap[i]?=w.heap[i]?)→w2.heap.size=w.heap.size+1→w2.os=w.os→w2.tape=w.tape→w2.output=w.output →
   B=(m.all fun p=>decide (p.2≤1))→lift z γ I w h a.defers (fun e s=>e=.ret∧s.h=h∧s.t.length=61∧getT s.t 2=.g (.b (m.all fun p=>decide (p.2≤1)))) .ret a2 w2:=by
  intro B a2 w2 j1 j2 j3 j4 j5 j6 j7 j8 hB
  have hx:Ext γ h I w γ h I w2:=⟨j6,j7,j8,by omega,fun _ h=>h,fun _ h=>.inl h,fun k hk _=>j4 k (by omega),fun k n hr=>by
   obtain ⟨c,el,fr,c1,c2⟩:=hr
   have:=lt_of_arr c1
   exact ⟨c,el,fr,by rw [j4 k (by omega)];exact c1,c2⟩,fun b x hb=>⟨x,hb,x.upto_refl,fun _=>⟨rfl,fun g sz es es' h1 h2=>by subst h1;cases h2;exact Nat.le_refl _⟩⟩,fun b _ h=>.inr ⟨b,h⟩⟩
  have hr2:RelH γ I w2 h:=r.heap.of_ext hx (fun k hk=>j4 k (by omega)) fun k hk=>by
   obtain ⟨c,el,fr,c1⟩:=r.heap.imm k hk
   have:=lt_of_arr c1
   exact ⟨⟨c,el,fr,by rw [j4 k (by omega)];exact c1⟩,fun b hb=>(r.heap.off b k hb).1 hk⟩
  refine ⟨⟨(List.replicate 61 V.any).set 2 (.g (.b B)),h⟩,γ,I,⟨rfl,rfl,by simp,by rw [hB];rfl⟩,⟨by rw [j1];exact r.defers.ext hx,by simp [j2],fun i v hi=>?_,hr2⟩,hx.toM,by rw [j1];exact NewD.refl⟩
  have hi:((List.replicate 61 V.any).set 2 (.g (.b B)))[i]?=some v:=hi
  by_cases e2:2=i
  ·subst e2
   rw [List.getElem?_set_self (by simp)] at hi
   cases hi
   have:a2.tmps.getD 2 undef=.bool B:=by
    have h2:2 < a2.tmps.size:=by omega
    rw [Array.getElem?_eq_getElem h2] at j3
    simp [h2]
    exact Option.some.inj j3
   rw [this]
   exact .g (.sc rfl)
  ·rw [List.getElem?_set_ne e2,List.getElem?_replicate] at hi
   split at hi
   ·cases hi;exact .any
   ·cases hi
 have back:∀ p∈m,∃ e∈es.toList,e.val=.int .i64 p.2:=fun p hp=>by
  have:(p.1,Value.int .i64 p.2)∈m.map fun p=>(p.1,Value.int IntKind.i64 p.2):=List.mem_map.2 ⟨p,hp,rfl⟩
  rw [← q3] at this
  obtain ⟨e,he,h1⟩:=List.mem_map.1 this
  exact ⟨e,he,(Prod.mk.injEq ..▸h1).2⟩
 have fwd:∀ e∈es.toList,∃ p∈m,e.val=.int .i64 p.2:=fun e he=>by
  have:(e.key,e.val)∈es.toList.map fun e=>(e.key,e.val):=List.mem_map.2 ⟨e,he,rfl⟩
  rw [q3] at this
  obtain ⟨p,hp,h1⟩:=List.mem_map.1 this
  exact ⟨p,hp,((Prod.mk.injEq ..▸h1).2).symm⟩
 unfold onceTail
 refine wp_seq (wp_seq (wp_region ?_))
 generalize hQ:Exit.then _ _=QQ
 simp [wpOps,go_sem,hsz,e3,hr w q2]
 refine .inl (.inl ?_)
 rw [← hQ]
 show (Code.block 6 _).wp Tryz.prog _ _ _
 refine wp_block (wp_loop (fun a' w'=>∃ seen:Array Nat,w'.heap[w.heap.size]?=some (.mapIter (some k) clock seen clock)∧a'.defers=a.defers∧a'.tmps.size=61∧a'.tmps[54]?=some (.pointer (some ⟨w.heap.size,0,none⟩)) ∧
  (∀ i,i≠w.heap.size→w'.heap[i]?=w.heap[i]?)∧w'.heap.size=w.heap.size+1∧w'.os=w.os∧w'.tape=w.tape∧w'.output=w.output∧∀ e∈es.toList,e.born∈seen.toList→∀ n,e.val=.int .i64 n→n≤1)
  (fun _ w'=>match w'.heap[w.heap.size]? with|some (.mapIter _ _ seen _)=>(leftOf es seen).size|_=>0) ?_ ?_)
 ·refine ⟨#[],h0a _,rfl,by simp [hsz],?_,fun i hi=>h0b _ i hi,h0c _,rfl,rfl,rfl,fun e _ he=>by simp at he⟩
  rw [Array.getElem?_setIfInBounds]
  simp [hsz]
 rintro a' w' ⟨seen,i1,i2,i3,i4,i5,i6,i7,i8,i9,i10⟩
 have hb':w'.heap[k]?=some (.map es clock):=by rw [i5 k (by omega)];exact q2
 have hold:∀ x∈es.toList,x.born < clock:=fun x hx=>by
  obtain ⟨j,hj,rfl⟩:=List.getElem_of_mem hx
  have hj':j < es.size:=by simpa using hj
  have h1:=(q4 j es[j] (by rw [Array.getElem?_eq_getElem hj'])).1
  have:es.toList[j]=es[j]:=by simp
  rw [this,h1,q5];exact hj'
 have h54:54 < a'.tmps.size:=by omega
 have e54:a'.tmps[54]=.pointer (some ⟨w.heap.size,0,none⟩):=by
  rw [Array.getElem?_eq_getElem h54] at i4;exact Option.some.inj i4
 refine wp_seq (wp_region ?_)
 generalize hQ2:Exit.then _ _=Q2
 rcases run_next_at (P:=Tryz.prog) w' 0 w.heap.size k clock clock seen es clock i1 hb' hold (Nat.le_refl _) with ⟨n1,n2⟩|⟨e,he,w1,hw1,n2⟩
 ·simp [wpOps,go_sem,i3,e54,n2]
  refine .inl (.inl ?_)
  rw [← hQ2]
  show (Code.seq _ _).wp Tryz.prog _ _ _
  refine wp_seq (wp_cond (t:=false) ?_ ?_)
  ·simp [Act.eval,i3]
  simp only [Bool.false_eq_true,if_false]
  refine wp_exit ?_
  show (Code.seq _ _).wp Tryz.prog _ _ _
  refine wp_seq (wp_region ?_)
  generalize hQ4:Exit.then _ _=Q4
  simp [wpOps,go_sem]
  refine .inl ?_
  rw [← hQ4]
  show Code.ret.wp Tryz.prog _ _ _
  refine wp_ret ?_
  refine fin true _ _ i2 (by simp [i3]) (by simp [i3]) i5 i6 i7 i8 i9 ?_
  rw [eq_comm,List.all_eq_true]
  intro p hp
  obtain ⟨e,he,hpe⟩:=back p hp
  refine decide_eq_true (i10 e he ?_ _ hpe)
  have h0:(leftOf es seen)=#[]:=Array.eq_empty_of_size_eq_zero n1
  rw [leftOf,Array.filter_eq_empty_iff] at h0
  have:=h0 e (by simpa using he)
  simpa using this
 ·simp [wpOps,go_sem,i3,e54,n2]
  refine .inl (.inl ?_)
  rw [← hQ2]
  show (Code.seq _ _).wp Tryz.prog _ _ _
  refine wp_seq (wp_cond (t:=true) ?_ ?_)
  ·simp [Act.eval,i3]
  simp only [if_true]
  refine wp_skip ?_
  show (Code.block 7 _).wp Tryz.prog _ _ _
  refine wp_block (wp_seq (wp_region ?_))
  generalize hQ3:Exit.then _ _=Q3
  have hw1h:w1.heap=w'.heap∧w1.os=w'.os∧w1.tape=w'.tape∧w1.output=w'.output:=by rcases hw1 with rfl|rfl <;> exact ⟨rfl,rfl,rfl,rfl⟩
  have hr0:w.heap.size < w1.heap.size:=by rw [hw1h.1,i6];omega
  have s1:(ChangeMaps.setBlock w1 w.heap.size (Obj.mapIter (some k) clock (seen.push e.born) clock)).heap[w.heap.size]?=some (Obj.mapIter (some k) clock (seen.push e.born) clock):=by
   show (w1.heap.setIfInBounds _ _)[w.heap.size]?=_
   simp [hr0]
  have s2:∀ i,i≠w.heap.size→(ChangeMaps.setBlock w1 w.heap.size (Obj.mapIter (some k) clock (seen.push e.born) clock)).heap[i]?=w.heap[i]?:=fun i hi=>by
   show (w1.heap.setIfInBounds _ _)[i]?=_
   rw [Array.getElem?_setIfInBounds,if_neg (fun e=>hi e.symm),hw1h.1];exact i5 i hi
  have s3:(ChangeMaps.setBlock w1 w.heap.size (Obj.mapIter (some k) clock (seen.push e.born) clock)).heap.size=w.heap.size+1:=by
   show (w1.heap.setIfInBounds _ _).size=_
   simp [hw1h.1,i6]
  have hnd:(es.toList.map (·.born)).Nodup:=by
   rw [List.Nodup,List.pairwise_map,List.pairwise_iff_getElem]
   intro i j hi hj hij he
   have hi':i < es.size:=by simpa using hi
   have hj':j < es.size:=by simpa using hj
   have h1:=(q4 i es[i] (by rw [Array.getElem?_eq_getElem hi'])).1
   have h2:=(q4 j es[j] (by rw [Array.getElem?_eq_getElem hj'])).1
   simp only [Array.getElem_toList] at he
   omega
  have hem:e∈es.toList:=by
   simp [leftOf] at he
   simpa using he.1
  have n3:=run_entry_at (P:=Tryz.prog) (ChangeMaps.setBlock w1 w.heap.size (Obj.mapIter (some k) clock (seen.push e.born) clock)) w.heap.size k clock seen es clock e s1 (by rw [s2 k (by omega)];exact q2) hem hnd
  obtain ⟨p,hp,hpe⟩:=fwd e hem
  simp [wpOps,go_sem,i3,e54,n3]
  refine .inl (.inl (.inl ?_))
  rw [← hQ3]
  show (Code.seq _ _).wp Tryz.prog _ _ _
  refine wp_seq (wp_region ?_)
  generalize hQ5:Exit.then _ _=Q5
  simp [wpOps,go_sem,i3,hpe]
  refine .inl (.inl ?_)
  rw [← hQ5]
  show (Code.cond _ _ _).wp Tryz.prog _ _ _
  refine wp_cond (t:=decide (1 < p.2)) (by simp [Act.eval,i3]) ?_
  by_cases hlt:1 < p.2
  ·simp only [hlt,decide_true,if_true]
   refine wp_seq (wp_region ?_)
   generalize hQ6:Exit.then _ _=Q6
   simp [wpOps,go_sem]
   refine .inl ?_
   rw [← hQ6]
   show Code.ret.wp Tryz.prog _ _ _
   refine wp_ret ?_
   refine fin false _ _ i2 (by simp [i3]) (by simp [i3]) s2 s3 (by rw [← i7];exact hw1h.2.1) (by rw [← i8];exact hw1h.2.2.1) (by rw [← i9];exact hw1h.2.2.2) ?_
   rw [eq_comm,List.all_eq_false]
   exact ⟨p,hp,by simpa using hlt⟩
  ·simp only [hlt,decide_false,Bool.false_eq_true,if_false]
   refine wp_skip ?_
   refine ⟨⟨seen.push e.born,s1,i2,by simp [i3],by simp [i3,e54],s2,s3,by rw [← i7];exact hw1h.2.1,by rw [← i8];exact hw1h.2.2.1,by rw [← i9];exact hw1h.2.2.2,fun e' he' hin n hn=>?_⟩,?_⟩
   ·rw [Array.toList_push,List.mem_append,List.mem_singleton] at hin
    rcases hin with hin|hin
    ·exact i10 e' he' hin n hn
    ·obtain ⟨i,hi,rfl⟩:=List.getElem_of_mem he'
     obtain ⟨j,hj,rfl⟩:=List.getElem_of_mem hem
     have hij:i=j:=by
      have hi':i < es.size:=by simpa using hi
      have hj':j < es.size:=by simpa using hj
      have h1:=(q4 i es[i] (by rw [Array.getElem?_eq_getElem hi'])).1
      have h2:=(q4 j es[j] (by rw [Array.getElem?_eq_getElem hj'])).1
      simp only [Array.getElem_toList] at hin
      omega
     subst hij
     rw [hpe] at hn
     cases hn
     omega
   ·show (match (ChangeMaps.setBlock w1 w.heap.size (Obj.mapIter (some k) clock (seen.push e.born) clock)).heap[w.heap.size]? with|some (.mapIter _ _ seen _)=>(leftOf es seen).size|_=>0) < (match w'.heap[w.heap.size]? with|some (.mapIter _ _ seen _)=>(leftOf es seen).size|_=>0)
    rw [s1,i1]
    show (leftOf es (seen.push e.born)).size < (leftOf es seen).size
    exact left_shrinks es seen e he
end Go.Aw
namespace Go.Aw
open Go.Proofs Go.Sort
set_option maxRecDepth 100000
set_option maxHeartbeats 1000000
structure CntE (m:List (ByteArray×Nat)) (P:List ByteArray):Prop where
 c:CntM m P
 cnt:∀ p∈m,p.2=(P.filter fun x=>decide (x=p.1)).length
theorem CntE.nil:CntE [] []:=⟨CntM.nil,by simp⟩
theorem cnt_app {P:List ByteArray} {q x:ByteArray}:((P++[q]).filter fun y=>decide (y=x)).length=(P.filter fun y=>decide (y=x)).length+if q=x then 1 else 0:=by
 rw [List.filter_append,List.length_append]
 congr 1
 by_cases h:q=x
 ·rw [if_pos h,List.filter_cons,if_pos (by simpa using h)];rfl
 ·rw [if_neg h,List.filter_cons,if_neg (by simpa using h)];rfl
theorem CntE.add {m:List (ByteArray×Nat)} {P:List ByteArray} {q:ByteArray} (h:CntE m P) (hq:q∉m.map (·.1)):CntE (m++[(q,1)]) (P++[q]):=by
 refine ⟨h.c.add hq,fun p hp=>?_⟩
 rw [cnt_app]
 rcases List.mem_append.1 hp with hp|hp
 ·rw [if_neg (fun e=>hq (by rw [e];exact List.mem_map_of_mem hp))]
  exact h.cnt p hp
 ·rw [List.mem_singleton] at hp;subst hp
  rw [if_pos rfl]
  have:(P.filter fun y=>decide (y=q))=[]:=by
   rw [List.filter_eq_nil_iff]
   intro x hx e
   have e:=of_decide_eq_true e
   subst e
   exact hq ((h.c.mem x).2 hx)
  rw [this];rfl
theorem CntE.up {m:List (ByteArray×Nat)} {P:List ByteArray} {q:ByteArray} (h:CntE m P) {i:Nat} (hi:i < m.length) (e:m[i].1=q):CntE (m.set i (q,m[i].2+1)) (P++[q]):=by
 refine ⟨h.c.up hi e,fun p hp=>?_⟩
 rw [cnt_app]
 obtain ⟨j,hj,rfl⟩:=List.getElem_of_mem hp
 rw [List.getElem_set]
 have hj':j < m.length:=by simpa using hj
 split
 ·rename_i e2;subst e2
  rw [if_pos rfl,h.cnt _ (List.getElem_mem hi),e]
 ·rename_i e2
  have hne:q≠m[j].1:=fun e3=>e2 ((List.getElem_inj (i:=i) (j:=j) (h₀:=by simpa using hi) (h₁:=by simpa using hj') h.c.nd).1 (by simp [e,e3]))
  rw [if_neg hne]
  exact h.cnt _ (List.getElem_mem hj')
theorem CntE.nodup {m:List (ByteArray×Nat)} {P:List ByteArray} (h:CntE m P):(m.all fun p=>decide ((p.2:Int)≤1))=decide P.Nodup:=by
 refine Bool.eq_iff_iff.2 ?_
 rw [List.all_eq_true,decide_eq_true_eq]
 constructor
 ·intro h1
  rw [List.Nodup,List.pairwise_iff_getElem]
  intro i j hi hj hij he
  obtain ⟨p,hp,e⟩:=List.mem_map.1 ((h.c.mem P[i]).2 (List.getElem_mem hi))
  have h2:=of_decide_eq_true (h1 p hp)
  rw [h.cnt p hp,e] at h2
  have h3:[P[i],P[j]].Sublist P:=by
   have:=List.map_getElem_sublist (l:=P) (is:=[⟨i,hi⟩,⟨j,hj⟩]) (by simp;exact hij)
   simpa using this
  have h4:=(h3.filter fun y=>decide (y=P[i])).length_le
  rw [List.filter_cons,if_pos (by simp),List.filter_cons,if_pos (by simp [he])] at h4
  simp at h4
  omega
 ·intro h1 p hp
  refine decide_eq_true ?_
  rw [h.cnt p hp]
  rcases Nat.lt_or_ge 1 (P.filter fun x=>decide (x=p.1)).length with h2|h2
  ·have h3:(P.filter fun x=>decide (x=p.1)).Nodup:=List.Pairwise.filter _ h1
   match hP:P.filter fun x=>decide (x=p.1),h2,h3 with
   | a::b::r,_,h3 =>
    have ha:a∈P.filter fun x=>decide (x=p.1):=by rw [hP];simp
    have hb:b∈P.filter fun x=>decide (x=p.1):=by rw [hP];simp
    have ha:=of_decide_eq_true (List.mem_filter.1 ha).2
    have hb:=of_decide_eq_true (List.mem_filter.1 hb).2
    rw [List.nodup_cons] at h3
    exact absurd (by rw [ha,hb];simp) h3.1
  ·omega
structure Aside1 (p:Prop):Prop where
 out:p
theorem AW.step {P:Program} {z wf:Nat} {x y:Code} {sc:SC} {Q:Exit→St→Prop} {t:List V} {h:List Blk} (hs:slimC P wf x=some sc)
  (k:forceT t fun t=>AC z (npP P) sc (fun e t h=>match e with|.normal=>Aside1 (AW z P y Q ⟨t,h⟩)|_=>False) t h):AW z P (.seq x y) Q ⟨t,h⟩:=by
 rw [forceT_eq] at k
 exact AW.seq ((AC_ok (P:=npP P) (s:=⟨t,h⟩) (fun _ _ _ h=>h.elim) hs k).mono fun e s q=>by cases e <;> first|exact q.out|exact q.elim)
noncomputable def once0:Code:=match Tryz.f87.body with|some (.seq a _)=>a|_=>.skip
noncomputable def once1:Code:=match Tryz.f87.body with|some (.seq _ (.seq a _))=>a|_=>.skip
noncomputable def once2:Code:=match Tryz.f87.body with|some (.seq _ (.seq _ (.seq a _)))=>a|_=>.skip
noncomputable def once3:Code:=match Tryz.f87.body with|some (.seq _ (.seq _ (.seq _ (.seq a _))))=>a|_=>.skip
def o0:SC:=match s_pile_once with|.seq a _=>a|_=>.skip
def o1:SC:=match s_pile_once with|.seq _ (.seq a _)=>a|_=>.skip
def o2:SC:=match s_pile_once with|.seq _ (.seq _ (.seq a _))=>a|_=>.skip
def o3:SC:=match s_pile_once with|.seq _ (.seq _ (.seq _ (.seq a _)))=>a|_=>.skip
theorem once0_slim:slimC Tryz.prog 0 once0=some o0:=by kernel_rfl
theorem once1_slim:slimC Tryz.prog 0 once1=some o1:=by kernel_rfl
theorem once2_slim:slimC Tryz.prog 0 once2=some o2:=by kernel_rfl
theorem once3_slim:slimC Tryz.prog 0 once3=some o3:=by kernel_rfl
theorem once_body:Tryz.f87.body=some (.seq once0 (.seq once1 (.seq once2 (.seq once3 onceTail)))):=by kernel_rfl
theorem c_pile_once (p:Pl) (hb:bndP p) (hp:PartsP p):CG Tryz.prog 87 [tpile p] (.b (decide (idsPl p).Nodup)):=by
 refine ⟨ACalls.of_body [2] Tryz.func87 (by kernel_rfl) once_body (by kernel_rfl) ?_⟩
 have hb1:=hb.buf.1
 have hb2:=hb.parts
 have hmb:(p.buf.map tcard).length=p.buf.length:=by simp
 have hmp:(p.parts.map tpart).length=p.parts.length:=by simp
 refine AW.step once0_slim ?_
 show forceT ([.g (tpile p)]++List.replicate 60 .any) _
 (try conv=>whnf);repeat ((first|refine ⟨⟨rfl,rfl⟩,?_⟩);conv=>whnf)
 refine ⟨AW.step once1_slim ?_⟩
 try conv=>whnf
 refine ⟨AW.step once2_slim ?_⟩
 (try conv=>whnf);repeat ((first|refine ⟨rfl,_,rfl,?_⟩);conv=>whnf)
 refine SW.loopR (α:=Nat×List (ByteArray×Nat)) (fun a=>tm 61 [(1,.pa 0 0 0 0),(3,.mp 1),(14,cards p.buf),(15,.g (.i p.buf.length)),(16,.g (.i a.1))]) (fun a=>[.arr 0 6 [.g (tpile p)],.mp (kvC a.2)])
  (fun a=>a.1≤p.buf.length∧CntE a.2 ((p.buf.take a.1).map (·.id))) (fun a=>p.buf.length-a.1) (0,[]) ?_ ?_ ?_
 ·exact ⟨Nat.zero_le _,by simpa using CntE.nil⟩
 ·exact Refi.sub rfl (by simp [subT,subV,tm,tmGo,cards])
 rintro ⟨k,m⟩ ⟨hk,hm⟩
 dsimp only at hk hm ⊢
 conv=>whnf
 refine Br.dec (fun h=>?_) (fun h=>?_)
 ·have hk':k < p.buf.length:=by omega
  have hP:(p.buf.take (k+1)).map (·.id)=(p.buf.take k).map (·.id)++[p.buf[k].id]:=by rw [List.take_succ_eq_append_getElem hk',List.map_append];rfl
  have hPl:((p.buf.take k).map (·.id)).length≤p.buf.length:=by simp;omega
  by_cases hin:p.buf[k].id∈m.map (·.1)
  ·obtain ⟨i,hi,ei⟩:=List.getElem_of_mem hin
   simp only [List.length_map] at hi
   simp only [List.getElem_map] at ei
   have g1:=kvC_at hm.c.nd hi ei (n:=0)
   have hc:=hm.c.le _ (List.getElem_mem hi)
   (try conv=>whnf);repeat ((first|refine ⟨rfl,_,g1,?_⟩|refine ⟨_,getZ (by omega),?_⟩|refine ⟨by omega,rfl,?_⟩|refine ⟨rfl,_,rfl,⟨rfl,rfl,by decide⟩,?_⟩|refine ⟨rfl,_,rfl,?_⟩|refine ⟨rfl,?_⟩|refine ⟨in64 (by omega) (by omega),?_⟩);conv=>whnf)
   refine ⟨⟨(k+1,m.set i (p.buf[k].id,m[i].2+1)),⟨hk',by rw [hP];exact hm.up hi ei⟩,by show p.buf.length-(k+1) < p.buf.length-k;omega,Refi.back (H':=[.arr 0 6 [.g (tpile p)],.mp (kvC (m.set i (p.buf[k].id,m[i].2+1)))]) (L:=[.arr 0 3 [.g (tcard p.buf[k])]]) ?_ (Nat.zero_le _) (lt_all2 Blk.lt_g1 trivial) (by simp [subT,subV,tm,tmGo,cards,cutV,ltB,ltS])⟩⟩
   simp [mput,kvC,List.map_set]
   rfl
  ·have g1:=kvC_no hin (n:=0)
   (try conv=>whnf);repeat ((first|refine ⟨rfl,_,g1,?_⟩|refine ⟨_,getZ (by omega),?_⟩|refine ⟨by omega,rfl,?_⟩|refine ⟨rfl,_,rfl,⟨rfl,rfl,by decide⟩,?_⟩|refine ⟨rfl,_,rfl,?_⟩|refine ⟨rfl,?_⟩|refine ⟨in64 (by omega) (by omega),?_⟩);conv=>whnf)
   refine ⟨⟨(k+1,m++[(p.buf[k].id,1)]),⟨hk',by rw [hP];exact hm.add hin⟩,by show p.buf.length-(k+1) < p.buf.length-k;omega,Refi.back (H':=[.arr 0 6 [.g (tpile p)],.mp (kvC (m++[(p.buf[k].id,1)]))]) (L:=[.arr 0 3 [.g (tcard p.buf[k])]]) ?_ (Nat.zero_le _) (lt_all2 Blk.lt_g1 trivial) (by simp [subT,subV,tm,tmGo,cards,cutV,ltB,ltS])⟩⟩
   simp [mput,kvC]
   rfl
 have:k=p.buf.length:=by omega
 subst this
 rw [List.take_length] at hm
 try conv=>whnf
 refine ⟨AW.step once3_slim ?_⟩
 (try conv=>whnf);repeat ((first|refine ⟨rfl,_,rfl,?_⟩);conv=>whnf)
 refine SW.loopR (α:=Nat×List (ByteArray×Nat)) (fun a=>tm 61 [(1,.pa 0 0 0 0),(3,.mp 1),(27,vpl p.parts),(28,.g (.i p.parts.length)),(29,.g (.i a.1))]) (fun a=>[.arr 0 6 [.g (tpile p)],.mp (kvC a.2)])
  (fun a=>a.1≤p.parts.length∧CntE a.2 (p.buf.map (·.id)++(p.parts.take a.1).flatMap idsPt)) (fun a=>p.parts.length-a.1) (0,m) ?_ ?_ ?_
 ·exact ⟨Nat.zero_le _,by simpa using hm⟩
 ·exact Refi.sub rfl (by simp [subT,subV,tm,tmGo])
 clear hm m hk
 rintro ⟨k,m⟩ ⟨hk,hm⟩
 dsimp only at hk hm ⊢
 conv=>whnf
 refine Br.dec (fun h=>?_) (fun h=>?_)
 ·have hk':k < p.parts.length:=by omega
  obtain ⟨x,hx⟩:∃ x,p.parts[k]=x:=⟨_,rfl⟩
  have hxm:x∈p.parts:=hx▸List.getElem_mem hk'
  have hpx:=hp.all x hxm
  have hid:=hpx.seg.1
  have hlen:=hpx.len
  have gx:(p.parts.map tpart)[k]?=some (tpart x):=by simp [hk',hx]
  have hmi:(x.s.ids.map T.s).length=x.s.ids.length:=by simp
  have hml:(x.live.map T.b).length=x.s.ids.length:=by simp [hlen]
  have hP16:=hp.le
  have hPl:(p.buf.map (·.id)++(p.parts.take k).flatMap idsPt).length≤p.buf.length+64*16:=by
   have:=flatM_le (f:=idsPt) (n:=64) (l:=p.parts.take k) fun y hy=>by
    have hy:=List.mem_of_mem_take hy
    have h1:=(hp.all y hy).seg.1
    have h2:=(hp.all y hy).len
    have h3:=liveD_le (x:=y.live) (j:=y.live.length)
    simp only [idsPt,List.length_map];omega
   have h2:(p.parts.take k).length≤16:=by simp;omega
   simp only [List.length_append,List.length_map]
   have:64*(p.parts.take k).length≤64*16:=Nat.mul_le_mul_left _ h2
   omega
  (try conv=>whnf);repeat ((first|refine ⟨_,gx,?_⟩|refine ⟨by omega,rfl,?_⟩|refine ⟨rfl,_,rfl,⟨rfl,rfl,by decide⟩,?_⟩|refine ⟨rfl,_,rfl,?_⟩|refine ⟨rfl,?_⟩);conv=>whnf)
  refine SW.loopR (α:=Nat×List (ByteArray×Nat)) (fun a=>tm 61 [(1,.pa 0 0 0 0),(3,.mp 1),(7,.pa 2 0 0 0),(27,vpl p.parts),(28,.g (.i p.parts.length)),(29,.g (.i k)),(35,strs x.s.ids),(36,.g (.i x.s.ids.length)),(37,.g (.i a.1))])
   (fun a=>[.arr 0 6 [.g (tpile p)],.mp (kvC a.2),.arr 0 7 [.g (tpart x)]])
   (fun a=>a.1≤x.s.ids.length∧CntE a.2 ((p.buf.map (·.id)++(p.parts.take k).flatMap idsPt)++(liveD x.live a.1).map fun d=>x.s.ids.getD d default)) (fun a=>x.s.ids.length-a.1) (0,m) ?_ ?_ ?_
  ·exact ⟨Nat.zero_le _,by simpa [liveD] using hm⟩
  ·exact Refi.sub rfl (by simp [subT,subV,tm,tmGo,strs])
  clear hm m
  rintro ⟨j,m⟩ ⟨hj,hm⟩
  dsimp only at hj hm ⊢
  conv=>whnf
  refine Br.dec (fun h=>?_) (fun h=>?_)
  ·have hj':j < x.s.ids.length:=by omega
   have hjv:j < x.live.length:=by omega
   have hs:=liveD_succ (x:=x.live) (j:=j) hjv
   have hll:=liveD_le (x:=x.live) (j:=j)
   (try conv=>whnf);repeat ((first|refine ⟨_,getZ (by omega),?_⟩|refine ⟨by omega,rfl,?_⟩|refine ⟨rfl,_,rfl,?_⟩);conv=>whnf)
   refine Br.intro (fun e1=>?_) (fun e1=>?_)
   ·rw [e1,if_pos rfl] at hs
    have hP:(p.buf.map (·.id)++(p.parts.take k).flatMap idsPt)++(liveD x.live (j+1)).map (fun d=>x.s.ids.getD d default)=((p.buf.map (·.id)++(p.parts.take k).flatMap idsPt)++(liveD x.live j).map fun d=>x.s.ids.getD d default)++[x.s.ids[j]]:=by
     rw [hs,List.map_append,List.append_assoc,List.append_assoc,List.append_assoc]
     simp [hj']
    have hPl2:((p.buf.map (·.id)++(p.parts.take k).flatMap idsPt)++(liveD x.live j).map fun d=>x.s.ids.getD d default).length≤p.buf.length+64*16+64:=by
     rw [List.length_append,List.length_map];omega
    by_cases hin:x.s.ids[j]∈m.map (·.1)
    ·obtain ⟨i,hi,ei⟩:=List.getElem_of_mem hin
     simp only [List.length_map] at hi
     simp only [List.getElem_map] at ei
     have g1:=kvC_at hm.c.nd hi ei (n:=0)
     have hc:=hm.c.le _ (List.getElem_mem hi)
     (try conv=>whnf);repeat ((first|refine ⟨rfl,_,g1,?_⟩|refine ⟨in64 (by omega) (by omega),?_⟩);conv=>whnf)
     refine ⟨⟨(j+1,m.set i (x.s.ids[j],m[i].2+1)),⟨hj',by rw [hP];exact hm.up hi ei⟩,by show x.s.ids.length-(j+1) < x.s.ids.length-j;omega,Refi.sub ?_ (by simp [subT,subV,tm,tmGo,strs])⟩⟩
     simp [mput,kvC,List.map_set]
    ·have g1:=kvC_no hin (n:=0)
     (try conv=>whnf);repeat ((first|refine ⟨rfl,_,g1,?_⟩|refine ⟨in64 (by omega) (by omega),?_⟩);conv=>whnf)
     refine ⟨⟨(j+1,m++[(x.s.ids[j],1)]),⟨hj',by rw [hP];exact hm.add hin⟩,by show x.s.ids.length-(j+1) < x.s.ids.length-j;omega,Refi.sub ?_ (by simp [subT,subV,tm,tmGo,strs])⟩⟩
     simp [mput,kvC]
   ·rw [e1,if_neg (by simp),List.append_nil] at hs
    (try conv=>whnf);repeat ((first|refine ⟨in64 (by omega) (by omega),?_⟩);conv=>whnf)
    refine ⟨⟨(j+1,m),⟨hj',by rw [hs];exact hm⟩,by show x.s.ids.length-(j+1) < x.s.ids.length-j;omega,Refi.sub rfl (by simp [subT,subV,tm,tmGo,strs])⟩⟩
  ·have:j=x.s.ids.length:=by omega
   subst this
   (try conv=>whnf);repeat ((first|refine ⟨in64 (by omega) (by omega),?_⟩);conv=>whnf)
   have hT:(p.parts.take (k+1)).flatMap idsPt=(p.parts.take k).flatMap idsPt++(liveD x.live x.s.ids.length).map fun d=>x.s.ids.getD d default:=by
    rw [List.take_succ_eq_append_getElem hk',List.flatMap_append,hx]
    simp [idsPt,hlen]
   refine ⟨⟨(k+1,m),⟨hk',by rw [hT,← List.append_assoc];exact hm⟩,by show p.parts.length-(k+1) < p.parts.length-k;omega,Refi.back (H':=[.arr 0 6 [.g (tpile p)],.mp (kvC m)]) (L:=[_]) rfl (Nat.zero_le _) (lt_all2 Blk.lt_g1 trivial) (by simp [subT,subV,tm,tmGo,cutV,ltB,ltS])⟩⟩
 ·have:k=p.parts.length:=by omega
  subst this
  rw [List.take_length] at hm
  try conv=>whnf
  refine ⟨(once_tail (m:=m.map fun q=>(.string q.1,(q.2:Int))) (b:=1) rfl rfl ?_).mono ?_⟩
  ·simp [kvC]
  ·rintro e s ⟨rfl,h1,h2,h3⟩
   show Ends [] _ (retV [2] s.t) s.h
   have h4:retV [2] s.t=.g (.b (decide (idsPl p).Nodup)):=by
    show s.t.getD 2 .any=_
    rw [← getT_eq,h3,List.all_map]
    have:=hm.nodup
    rw [idsPl,← this]
    rfl
   rw [h4]
   exact Ends.ground (H:=[]) (L:=s.h) 0 rfl ⟨rfl,rfl⟩
end Go.Aw
namespace Go.Aw
open Go.Proofs Go.Sort
set_option maxRecDepth 100000
set_option maxHeartbeats 1000000
theorem plG_idx {ps:List Pt} (hn:(gens ps).Nodup) {i:Nat} (hi:i < ps.length):plG ps ps[i].gen=i:=by rw [plG,plN_idx hn hi,if_pos hi]
theorem sub_iff {ps:List Pt} (hn:(gens ps).Nodup) {F:List Int}:F.Sublist (gens ps)↔(∀ g∈F,g∈gens ps)∧(F.map (plG ps)).Pairwise (· < ·):=by
 constructor
 ·intro h
  refine ⟨fun g hg=>h.subset hg,?_⟩
  obtain ⟨is,rfl,his⟩:=List.sublist_eq_map_getElem h
  rw [List.map_map,List.pairwise_map]
  refine his.imp fun {a b} hab=>?_
  have e:∀ i:_root_.Fin (gens ps).length,plG ps (gens ps)[i]=(i:Nat):=fun i=>by
   have hi:(i:Nat) < ps.length:=by have:=i.2;simpa using this
   have:=plG_idx hn hi
   rw [← this]
   simp [gens]
  show plG ps (gens ps)[a] < plG ps (gens ps)[b]
  rw [e,e]
  exact Int.ofNat_lt.2 hab
 ·rintro ⟨h1,h2⟩
  have h3:∀ g∈F,plN ps g < (gens ps).length:=fun g hg=>by simpa using plN_lt.2 (h1 g hg)
  have hpw:(F.pmap (fun g h=>(⟨plN ps g,h⟩:_root_.Fin (gens ps).length)) h3).Pairwise (· < ·):=by
   rw [List.pairwise_iff_getElem] at h2 ⊢
   intro i j hi hj hij
   have hi':i < F.length:=by simpa using hi
   have hj':j < F.length:=by simpa using hj
   have:=h2 i j (by simpa using hi') (by simpa using hj') hij
   simp only [List.getElem_map,plG] at this
   rw [if_pos (plN_lt.2 (h1 _ (List.getElem_mem hi'))),if_pos (plN_lt.2 (h1 _ (List.getElem_mem hj')))] at this
   simp only [List.getElem_pmap]
   show plN ps F[i] < plN ps F[j]
   omega
  have hs:=List.map_getElem_sublist (l:=gens ps) hpw
  have e:(F.pmap (fun g h=>(⟨plN ps g,h⟩:_root_.Fin (gens ps).length)) h3).map (fun x=>(gens ps)[x])=F:=by
   refine List.ext_getElem (by simp) fun i h4 h5=>?_
   simp only [List.getElem_map,List.getElem_pmap]
   have:=plN_at (plN_lt.2 (h1 _ (List.getElem_mem h5)))
   simpa [gens] using this
  rw [e] at hs
  exact hs
def lastG (ps:List Pt) (F:List Int) (k:Nat):Int:=if k=0 then -1 else plG ps (F.getD (k-1) 0)
theorem plG_bnd {ps:List Pt} {g:Int}:-1≤plG ps g∧plG ps g < ps.length∨plG ps g=-1:=by
 unfold plG;split
 ·left;omega
 ·right;rfl
theorem c_pile_job (p:Pl) (j:Jb) (hb:bndP p) (hp:PartsP p) (h1:j.frm.length < 1000000000) (h2:j.was.length < 1000000000) (h3:∀ x∈j.was,x.length < 1000000000) :
  CG Tryz.prog 159 [tpile p,tjob j] (.b (decide (JobP p j))):=by
 refine ⟨k_pile_job.calls ?_⟩
 have hl:=hb.parts
 have hmf:(j.frm.map T.i).length=j.frm.length:=by simp
 have hmw:(j.was.map tbools).length=j.was.length:=by simp
 have no:¬ JobP p j→∀ L,Ends [] (fun r h=>r=V.g (T.b (decide (JobP p j)))∧h=[]) (V.g (T.sc (Value.bool false))) L:=fun e L=>by
  rw [decide_eq_false e];exact Ends.ground (H:=[]) (L:=L) 0 rfl ⟨rfl,rfl⟩
 (try conv=>whnf);repeat ((first|refine ⟨rfl,_,rfl,?_⟩|refine ⟨⟨rfl,rfl⟩,?_⟩);conv=>whnf)
 refine SW.loopR (α:=Nat) (fun k=>tm 92 [(2,.pa 0 0 0 0),(3,.pa 1 0 0 0),(5,.g (.i (lastG p.parts j.frm k))),(17,.g (.sl 1 (j.frm.map T.i))),(18,.g (.i j.frm.length)),(19,.g (.i k))]) (fun _=>[.arr 0 6 [.g (tpile p)],.arr 0 3 [.g (tjob j)]])
  (fun k=>k≤j.frm.length∧(∀ g∈j.frm.take k,g∈gens p.parts)∧((j.frm.take k).map (plG p.parts)).Pairwise (· < ·)) (fun k=>j.frm.length-k) 0 ?_ ?_ ?_
 ·exact ⟨Nat.zero_le _,by simp,by simp⟩
 ·exact Refi.sub rfl (by simp [subT,subV,tm,tmGo,lastG])
 rintro k ⟨hk,hq1,hq2⟩
 dsimp only at hk hq1 hq2 ⊢
 have hlb:-1≤lastG p.parts j.frm k∧lastG p.parts j.frm k < 1000000000:=by
  unfold lastG;split
  ·omega
  ·rcases plG_bnd (ps:=p.parts) (g:=j.frm.getD (k-1) 0) with h|h <;> omega
 conv=>whnf
 refine Br.dec (fun h=>?_) (fun h=>?_)
 ·have hk':k < j.frm.length:=by omega
  have c1:=c_pile_place p j.frm[k] hl
  have hpb:=plG_bnd (ps:=p.parts) (g:=j.frm[k])
  (try conv=>whnf);repeat ((first|refine (c1).go rfl ?_|refine ⟨_,getZ (by omega),?_⟩|refine ⟨by omega,rfl,?_⟩|refine ⟨rfl,_,rfl,?_⟩);conv=>whnf)
  refine Br.dec (fun e1=>?_) (fun e1=>?_)
  ·try conv=>whnf
   refine ⟨no (fun q=>?_) _⟩
   obtain ⟨a1,a2⟩:=(sub_iff hp.nd).1 q.sub
   have b1:=plG_ge.2 (a1 _ (List.getElem_mem hk'))
   unfold lastG at e1
   split at e1
   ·omega
   ·rw [getD_at _ (by omega)] at e1
    have:=List.pairwise_iff_getElem.1 a2 (k-1) k (by simp;omega) (by simpa using hk') (by omega)
    simp only [List.getElem_map] at this
    omega
  ·(try conv=>whnf);repeat ((first|refine ⟨in64 (by omega) (by omega),?_⟩);conv=>whnf)
   have hl2:lastG p.parts j.frm (k+1)=plG p.parts j.frm[k]:=by
    rw [lastG,if_neg (by omega),show k+1-1=k from rfl,getD_at _ hk']
   refine ⟨⟨k+1,⟨hk',fun g hg=>?_,?_⟩,by omega,Refi.sub rfl (by simp [subT,subV,tm,tmGo,hl2])⟩⟩
   ·rw [List.take_succ_eq_append_getElem hk',List.mem_append,List.mem_singleton] at hg
    rcases hg with hg|rfl
    ·exact hq1 g hg
    ·exact plG_ge.1 (by omega)
   ·rw [List.take_succ_eq_append_getElem hk',List.map_append,List.pairwise_append]
    refine ⟨hq2,by simp,fun a ha b hb=>?_⟩
    simp only [List.map_cons,List.map_nil,List.mem_singleton] at hb
    subst hb
    obtain ⟨i,hi,rfl⟩:=List.getElem_of_mem ha
    have hi':i < k:=by simp at hi;omega
    have hle:((j.frm.take k).map (plG p.parts))[i]≤lastG p.parts j.frm k:=by
     unfold lastG
     rw [if_neg (by omega),getD_at _ (by omega)]
     by_cases e:i=k-1
     ·subst e;simp
     ·have:=List.pairwise_iff_getElem.1 hq2 i (k-1) (by simp;omega) (by simp;omega) (by omega)
      simp only [List.getElem_map,List.getElem_take] at this ⊢
      omega
    omega
 have:k=j.frm.length:=by omega
 subst this
 rw [List.take_length] at hq1 hq2
 have hsub:=(sub_iff hp.nd).2 ⟨hq1,hq2⟩
 have c2:=c_pile_number p j.gen
 have c3:=c_pile_place p j.gen hl
 (try conv=>whnf);repeat ((first|refine (c2).go rfl ?_|refine ⟨rfl,_,rfl,?_⟩);conv=>whnf)
 refine Br.not (fun e1=>?_) (fun e1=>?_)
 ·try conv=>whnf
  exact ⟨no (fun q=>of_decide_eq_false e1 q.num) _⟩
 (try conv=>whnf);repeat ((first|refine (c3).go rfl ?_|refine ⟨rfl,_,rfl,?_⟩);conv=>whnf)
 refine Br.dec (fun e2=>?_) (fun e2=>?_)
 ·try conv=>whnf
  exact ⟨no (fun q=>q.free (plG_ge.1 e2)) _⟩
 try conv=>whnf
 refine Br.dec (fun e3=>?_) (fun e3=>?_)
 ·try conv=>whnf
  refine ⟨no (fun q=>?_) _⟩
  unfold lastG at e3
  split at e3
  ·rename_i h0
   exact q.ne (List.eq_nil_of_length_eq_zero h0)
  ·have hne:=List.length_pos_iff.2 q.ne
   rw [getD_at _ (by omega)] at e3
   have:=plG_ge.2 (hq1 _ (List.getElem_mem (show j.frm.length-1 < j.frm.length by omega)))
   omega
 have hne:j.frm≠[]:=fun e=>e3 (by rw [lastG,if_pos (by rw [e];rfl)];omega)
 (try conv=>whnf);repeat ((first|refine ⟨rfl,_,rfl,?_⟩);conv=>whnf)
 refine Br.ne (fun e4=>?_) (fun e4=>?_)
 ·try conv=>whnf
  exact ⟨no (fun q=>e4 (by have:=q.len;omega)) _⟩
 have hlen:j.was.length=j.frm.length:=by omega
 have c4:=c_pile_segs p j.frm hl h1 hq1
 have hmv:((livL p.parts j.frm).map tbools).length=j.frm.length:=by simp [livL]
 (try conv=>whnf);repeat ((first|refine (c4).go rfl ?_|refine ⟨rfl,_,rfl,?_⟩);conv=>whnf)
 refine SW.loopR (α:=Nat) (fun k=>tm 92 [(2,.pa 0 0 0 0),(3,.pa 1 0 0 0),(9,segs (segL p.parts j.frm)),(10,livs (livL p.parts j.frm)),(64,livs j.was),(65,.g (.i j.was.length)),(66,.g (.i k))]) (fun _=>[.arr 0 6 [.g (tpile p)],.arr 0 3 [.g (tjob j)]])
  (fun k=>k≤j.was.length∧∀ i,i < k→lessP ((livL p.parts j.frm).getD i []) (j.was.getD i [])) (fun k=>j.was.length-k) 0 ?_ ?_ ?_
 ·exact ⟨Nat.zero_le _,fun i h=>by omega⟩
 ·exact Refi.sub rfl (by simp [subT,subV,tm,tmGo,tlive,tsegs])
 clear hk hlb
 rintro k ⟨hk,hq⟩
 dsimp only at hk hq ⊢
 conv=>whnf
 refine Br.dec (fun h=>?_) (fun h=>?_)
 ·have hk':k < j.was.length:=by omega
  have hkl:k < (livL p.parts j.frm).length:=by simp [livL];omega
  have hll:(livL p.parts j.frm)[k].length < 1000000000:=by
   simp only [livL,List.getElem_map]
   exact (hb.part _ (partOf_mem (hq1 _ (List.getElem_mem (show k < j.frm.length by omega)))).1).2
  have c5:=c_live_Less (livL p.parts j.frm)[k] j.was[k] hll (h3 _ (List.getElem_mem hk'))
  (try conv=>whnf);repeat ((first|refine (c5).go rfl ?_|refine ⟨_,getZ (by omega),?_⟩|refine ⟨by omega,rfl,?_⟩);conv=>whnf)
  refine Br.not (fun e5=>?_) (fun e5=>?_)
  ·try conv=>whnf
   refine ⟨no (fun q=>of_decide_eq_false e5 ?_) _⟩
   have:=q.less k (by omega)
   rwa [getD_at _ hkl,getD_at _ hk'] at this
  ·(try conv=>whnf);repeat ((first|refine ⟨in64 (by omega) (by omega),?_⟩);conv=>whnf)
   refine ⟨⟨k+1,⟨hk',fun i hi=>?_⟩,by omega,Refi.sub rfl (by simp [subT,subV,tm,tmGo])⟩⟩
   rcases Nat.lt_or_ge i k with h|h
   ·exact hq i h
   ·have:i=k:=by omega
    subst this
    rw [getD_at _ hkl,getD_at _ hk']
    exact of_decide_eq_true e5
 ·have:k=j.was.length:=by omega
  subst this
  have hbm:bndM (segL p.parts j.frm) j.was:=⟨by simpa [segL] using h1,h2,fun s hs=>by
   obtain ⟨g,hg,rfl⟩:=List.mem_map.1 hs
   exact (hb.part _ (partOf_mem (hq1 _ hg)).1).1,h3⟩
  have c6:=c_merge_Merge (segL p.parts j.frm) j.was p.sort hbm
  (try conv=>whnf);repeat ((first|refine (c6).go rfl ?_|refine ⟨rfl,_,rfl,⟨rfl,rfl,by decide⟩,?_⟩|refine ⟨rfl,_,rfl,?_⟩|refine ⟨rfl,?_⟩);conv=>whnf)
  rw [bi_beq,show decide ((mergeS (segL p.parts j.frm) j.was p.sort).2.2=0)=decide (JobP p j) from decide_eq_decide.2 ⟨fun e=>⟨hne,hsub,of_decide_eq_true e1,fun hm=>e2 (plG_ge.2 hm),hlen,fun i hi=>hq i (by omega),e⟩,fun q=>q.ok⟩]
  exact ⟨Ends.ground (H:=[]) (L:=[_,_,_]) 0 rfl ⟨rfl,rfl⟩⟩
end Go.Aw
namespace Go.Aw
open Go.Proofs Go.Sort
set_option maxRecDepth 100000
set_option maxHeartbeats 1000000
theorem c_IndexFunc_i2 (l:List Int) (q:Int→Bool) (f:Nat) (C1 C2:Blk) (hC1:C1.lt 0) (hC2:C2.lt 0) (hl:l.length < 1000000000)
  (hf:∀ j∈l,ACalls Tryz.prog f [.g (.i j),.pa 0 0 0 0,.pa 1 0 0 0] [C1,C2] (fun r h=>r=.g (.b (q j))∧h=[C1,C2])) :
  ACalls Tryz.prog 216 [.g (tints l),.fn f [.pa 0 0 0 0,.pa 1 0 0 0]] [C1,C2] (fun r h=>(∃ i:Nat,r=.g (.i i)∧(∃ hi:i < l.length,q l[i]=true)∧h=[C1,C2])∨(r=.g (.i (-1))∧(∀ s∈l,q s=false)∧h=[C1,C2])):=by
 refine k_slices_IndexFunc_Lint_int.calls ?_
 have hm:(l.map T.i).length=l.length:=by simp
 try conv=>whnf
 refine SW.loopR (α:=Nat) (fun k=>tm 19 [(0,.g (tints l)),(1,.fn f [.pa 0 0 0 0,.pa 1 0 0 0]),(6,.g (tints l)),(7,.g (.i l.length)),(8,.g (.i k))]) (fun _=>[C1,C2]) (fun k=>k≤l.length∧∀ x∈l.take k,q x=false) (fun k=>l.length-k) 0 ?_ ?_ ?_
 ·simp
 ·exact Refi.sub rfl (by simp [subT,subV,tm,tmGo,tints])
 ·rintro k ⟨hk,hq⟩
  dsimp only at hk hq ⊢
  conv=>whnf
  refine Br.dec (fun h1=>?_) (fun h1=>?_)
  ·have hk':k < l.length:=by omega
   (try conv=>whnf);repeat ((first|refine ⟨_,getZ (by omega),?_⟩|refine ⟨by omega,rfl,?_⟩);conv=>whnf)
   refine ACalls.fl (hf l[k] (List.getElem_mem hk')) [0,1] rfl rfl rfl (flatH.cons hC1 (flatH.cons hC2 flatH.nil)) (by rintro r h ⟨_,rfl⟩;exact flatH.cons hC1 (flatH.cons hC2 flatH.nil)) ?_
   rintro r h ⟨rfl,rfl⟩
   conv=>whnf
   refine Br.intro (fun h2=>?_) (fun h2=>?_)
   ·try conv=>whnf
    exact ⟨Ends.keep (.inl ⟨k,rfl,⟨hk',h2⟩,rfl⟩)⟩
   ·(try conv=>whnf);repeat ((first|refine ⟨in64 (by omega) (by omega),?_⟩);conv=>whnf)
    refine ⟨⟨k+1,⟨hk',fun s hs=>?_⟩,by omega,Refi.sub rfl (by simp [subT,subV,tm,tmGo])⟩⟩
    rw [List.take_succ_eq_append_getElem hk',List.mem_append,List.mem_singleton] at hs
    rcases hs with hs|rfl
    ·exact hq s hs
    ·exact h2
  ·have:k=l.length:=by omega
   subst this
   rw [List.take_length] at hq
   try conv=>whnf
   exact ⟨Ends.keep (.inr ⟨rfl,hq,rfl⟩)⟩
theorem c_ContainsFunc_i2 (l:List Int) (q:Int→Bool) (f:Nat) (C1 C2:Blk) (hC1:C1.lt 0) (hC2:C2.lt 0) (hl:l.length < 1000000000)
  (hf:∀ j∈l,ACalls Tryz.prog f [.g (.i j),.pa 0 0 0 0,.pa 1 0 0 0] [C1,C2] (fun r h=>r=.g (.b (q j))∧h=[C1,C2])) :
  ACalls Tryz.prog 160 [.g (tints l),.fn f [.pa 0 0 0 0,.pa 1 0 0 0]] [C1,C2] (fun r h=>r=.g (.b (l.any q))∧h=[C1,C2]):=by
 refine k_slices_ContainsFunc_Lint_int.calls ?_
 try conv=>whnf
 refine ACalls.fl (c_IndexFunc_i2 l q f C1 C2 hC1 hC2 hl hf) [0,1] rfl rfl rfl (flatH.cons hC1 (flatH.cons hC2 flatH.nil)) (by rintro r h (⟨_,_,_,rfl⟩|⟨_,_,rfl⟩) <;> exact flatH.cons hC1 (flatH.cons hC2 flatH.nil)) ?_
 rintro r h (⟨i,rfl,⟨hi,h1⟩,rfl⟩|⟨rfl,h1,rfl⟩)
 ·try conv=>whnf
  have e:l.any q=true:=List.any_eq_true.2 ⟨_,List.getElem_mem hi,h1⟩
  rw [e,show decide ((i:Int)≥0)=true from decide_eq_true (by omega)]
  exact ⟨Ends.keep ⟨rfl,rfl⟩⟩
 ·try conv=>whnf
  have e:l.any q=false:=by rw [List.any_eq_false];intro x hx;rw [h1 x hx];simp
  rw [e]
  exact ⟨Ends.keep ⟨rfl,rfl⟩⟩
theorem c_pile_jobsS1 (p:Pl) (g:Int) (n:Nat) (hn:n≤p.jobs.length) (hb:bndP p):ACalls Tryz.prog 158 [.g (.i g),.pa 0 0 0 0,.pa 1 0 0 0] [.arr 0 6 [.g (tpile p)],.arr 0 1 [.g (.i n)]] (fun r h=>r=.g (.b (busyP (p.jobs.take n) g))∧h=[.arr 0 6 [.g (tpile p)],.arr 0 1 [.g (.i n)]]):=by
 refine k_pile_jobsS1.calls ?_
 have c1:=c_pile_busy p g n hn hb.jobs fun j hj=>(hb.job j hj).1
 (try conv=>whnf);repeat ((first|refine (c1).go rfl ?_|refine ⟨rfl,_,rfl,?_⟩);conv=>whnf)
 exact ⟨Ends.keep ⟨rfl,rfl⟩⟩
theorem c_pile_jobsS2 (x j:Jb):ACalls Tryz.prog 161 [.g (tjob x),.pa 0 0 0 0] [.arr 0 3 [.g (tjob j)]] (fun r h=>r=.g (.b (decide (x.gen=j.gen)))∧h=[.arr 0 3 [.g (tjob j)]]):=by
 refine k_pile_jobsS2.calls ?_
 (try conv=>whnf);repeat ((first|refine ⟨rfl,_,rfl,?_⟩|refine ⟨⟨rfl,rfl⟩,?_⟩);conv=>whnf)
 rw [bi_beq]
 exact ⟨Ends.ground (H:=[_]) (L:=[_]) 0 rfl ⟨rfl,rfl⟩⟩
theorem c_pile_jobs (p:Pl) (hb:bndP p) (hp:PartsP p):CG Tryz.prog 88 [tpile p] (.b (decide (JobsP p))):=by
 refine ⟨k_pile_jobs.calls ?_⟩
 have hl:=hb.jobs
 have hm:(p.jobs.map tjob).length=p.jobs.length:=by simp
 have no:¬ JobsP p→∀ L,Ends [] (fun r h=>r=V.g (T.b (decide (JobsP p)))∧h=[]) (V.g (T.sc (Value.bool false))) L:=fun e L=>by
  rw [decide_eq_false e];exact Ends.ground (H:=[]) (L:=L) 0 rfl ⟨rfl,rfl⟩
 (try conv=>whnf);repeat ((first|refine ⟨rfl,_,rfl,?_⟩|refine ⟨⟨rfl,rfl⟩,?_⟩);conv=>whnf)
 refine SW.loopR (α:=Nat) (fun k=>tm 34 [(1,.pa 0 0 0 0),(7,vjl p.jobs),(8,.g (.i p.jobs.length)),(9,.g (.i k))]) (fun _=>[.arr 0 6 [.g (tpile p)]])
  (fun k=>k≤p.jobs.length∧(∀ j∈p.jobs.take k,JobP p j)∧(p.jobs.take k).Pairwise fun a b=>a.gen≠b.gen∧∀ g∈b.frm,g∉a.frm) (fun k=>p.jobs.length-k) 0 ?_ ?_ ?_
 ·exact ⟨Nat.zero_le _,by simp,by simp⟩
 ·exact Refi.sub rfl (by simp [subT,subV,tm,tmGo])
 rintro k ⟨hk,hq1,hq2⟩
 dsimp only at hk hq1 hq2 ⊢
 conv=>whnf
 refine Br.dec (fun h=>?_) (fun h=>?_)
 ·have hk':k < p.jobs.length:=by omega
  have hjm:p.jobs[k]∈p.jobs:=List.getElem_mem hk'
  obtain ⟨b1,b2,b3⟩:=hb.job _ hjm
  have c1:=c_pile_job p p.jobs[k] hb hp b1 b2 b3
  (try conv=>whnf);repeat ((first|refine (c1).go rfl ?_|refine ⟨_,getZ (by omega),?_⟩|refine ⟨by omega,rfl,?_⟩|refine ⟨rfl,_,rfl,⟨rfl,rfl,by decide⟩,?_⟩|refine ⟨rfl,_,rfl,?_⟩|refine ⟨rfl,?_⟩);conv=>whnf)
  refine Br.not (fun e1=>?_) (fun e1=>?_)
  ·try conv=>whnf
   exact ⟨no (fun q=>of_decide_eq_false e1 (q.all _ hjm)) _⟩
  (try conv=>whnf);repeat ((first|refine ⟨rfl,_,rfl,?_⟩);conv=>whnf)
  refine ACalls.fl (c_ContainsFunc_i2 p.jobs[k].frm (fun g=>busyP (p.jobs.take k) g) 158 (.arr 0 6 [.g (tpile p)]) (.arr 0 1 [.g (.i k)]) Blk.lt_g1 Blk.lt_g1 b1 fun g _=>c_pile_jobsS1 p g k hk hb) [0,1] rfl rfl rfl (flatH.cons Blk.lt_g1 (flatH.cons Blk.lt_g1 flatH.nil)) (by rintro r h ⟨_,rfl⟩;exact flatH.cons Blk.lt_g1 (flatH.cons Blk.lt_g1 flatH.nil)) ?_
  rintro r h ⟨rfl,rfl⟩
  have two:∀ a∈p.jobs.take k,∃ i,∃ hi:i < k,a=p.jobs[i]'(by omega):=fun a ha=>by
   obtain ⟨i,hi,rfl⟩:=List.getElem_of_mem ha
   have:i < k:=by simp at hi;omega
   exact ⟨i,this,by simp⟩
  conv=>whnf
  refine Br.intro (fun e2=>?_) (fun e2=>?_)
  ·try conv=>whnf
   refine ⟨no (fun q=>?_) _⟩
   rw [List.any_eq_true] at e2
   obtain ⟨g,hg,e2⟩:=e2
   obtain ⟨a,ha,hga⟩:=busy_iff.1 e2
   obtain ⟨i,hi,rfl⟩:=two a ha
   exact (List.pairwise_iff_getElem.1 q.pw i k (by omega) hk' hi).2 g hg hga
  (try conv=>whnf);repeat ((first|refine ⟨rfl,_,rfl,?_⟩|refine ⟨rfl,⟨by omega,by omega,by omega⟩,?_⟩|rw [← List.map_drop,← List.map_take]);conv=>whnf)
  rw [show List.take ((k:Int).toNat-Int.toNat 0) (List.drop (Int.toNat 0) p.jobs)=p.jobs.take k from by simp]
  refine ACalls.fl (c_ContainsFunc_Job (p.jobs.take k) (fun x=>decide (x.gen=p.jobs[k].gen)) 161 (.arr 0 3 [.g (tjob p.jobs[k])]) Blk.lt_g1 (by simp;omega) fun x _=>c_pile_jobsS2 x p.jobs[k]) [2] rfl rfl rfl (flatH.cons Blk.lt_g1 flatH.nil) (by rintro r h ⟨_,rfl⟩;exact flatH.cons Blk.lt_g1 flatH.nil) ?_
  rintro r h ⟨rfl,rfl⟩
  conv=>whnf
  refine Br.intro (fun e3=>?_) (fun e3=>?_)
  ·try conv=>whnf
   refine ⟨no (fun q=>?_) _⟩
   rw [List.any_eq_true] at e3
   obtain ⟨a,ha,e3⟩:=e3
   obtain ⟨i,hi,rfl⟩:=two a ha
   exact (List.pairwise_iff_getElem.1 q.pw i k (by omega) hk' hi).1 (of_decide_eq_true e3)
  ·(try conv=>whnf);repeat ((first|refine ⟨in64 (by omega) (by omega),?_⟩);conv=>whnf)
   refine ⟨⟨k+1,⟨hk',fun j hj=>?_,?_⟩,by omega,Refi.back (H':=[.arr 0 6 [.g (tpile p)]]) (L:=[_,_]) rfl (Nat.zero_le _) (lt_all1 Blk.lt_g1) (by simp [subT,subV,tm,tmGo,cutV,ltB,ltS])⟩⟩
   ·rw [List.take_succ_eq_append_getElem hk',List.mem_append,List.mem_singleton] at hj
    rcases hj with hj|rfl
    ·exact hq1 j hj
    ·exact of_decide_eq_true e1
   ·rw [List.take_succ_eq_append_getElem hk',List.pairwise_append]
    refine ⟨hq2,by simp,fun a ha b hb=>?_⟩
    rw [List.mem_singleton] at hb;subst hb
    rw [List.any_eq_false] at e2 e3
    exact ⟨fun e=>e3 a ha (decide_eq_true e),fun g hg hga=>e2 g hg (busy_iff.2 ⟨a,ha,hga⟩)⟩
 ·have:k=p.jobs.length:=by omega
  subst this
  rw [List.take_length] at hq1 hq2
  try conv=>whnf
  rw [decide_eq_true (show JobsP p from ⟨hq1,hq2⟩)]
  exact ⟨Ends.ground (H:=[]) (L:=[_]) 0 rfl ⟨rfl,rfl⟩⟩
theorem c_pile_May (p:Pl) (hb:bndP p):CG Tryz.prog 34 [tpile p] (.b (decide (PlOk p))):=by
 refine ⟨k_pile_May.calls ?_⟩
 have hmb:(p.buf.map tcard).length=p.buf.length:=by simp
 have hb1:=hb.buf.1
 have no:¬ PlOk p→∀ L,Ends [] (fun r h=>r=V.g (T.b (decide (PlOk p)))∧h=[]) (V.g (T.sc (Value.bool false))) L:=fun e L=>by
  rw [decide_eq_false e];exact Ends.ground (H:=[]) (L:=L) 0 rfl ⟨rfl,rfl⟩
 (try conv=>whnf);repeat ((first|refine ⟨rfl,_,rfl,?_⟩|refine ⟨⟨rfl,rfl⟩,?_⟩);conv=>whnf)
 refine Br.dec (fun e1=>?_) (fun e1=>?_)
 ·try conv=>whnf
  exact ⟨no (fun q=>by have:=q.room;omega) _⟩
 (try conv=>whnf);repeat ((first|refine ⟨rfl,_,rfl,?_⟩);conv=>whnf)
 refine Br.dec (fun e2=>?_) (fun e2=>?_)
 ·try conv=>whnf
  exact ⟨no (fun q=>by have:=q.room;omega) _⟩
 (try conv=>whnf);repeat ((first|refine ⟨rfl,_,rfl,?_⟩);conv=>whnf)
 refine Br.dec (fun e3=>?_) (fun e3=>?_)
 ·try conv=>whnf
  exact ⟨no (fun q=>by have:=q.next;omega) _⟩
 (try conv=>whnf);repeat ((first|refine ⟨rfl,_,rfl,?_⟩);conv=>whnf)
 refine Br.dec (fun e4=>?_) (fun e4=>?_)
 ·try conv=>whnf
  exact ⟨no (fun q=>by have:=q.next;omega) _⟩
 (try conv=>whnf);repeat ((first|refine ⟨rfl,_,rfl,?_⟩);conv=>whnf)
 refine Br.dec (fun e5=>?_) (fun e5=>?_)
 ·try conv=>whnf
  exact ⟨no (fun q=>by have:=q.buf;omega) _⟩
 have cb:=c_seg_Build p.buf false hb.buf
 (try conv=>whnf);repeat ((first|refine (cb).go rfl ?_|refine ⟨rfl,_,rfl,⟨rfl,rfl,by decide⟩,?_⟩|refine ⟨rfl,_,rfl,?_⟩|refine ⟨rfl,?_⟩);conv=>whnf)
 refine Br.eq (fun e6=>?_) (fun e6=>?_)
 case refine_2 =>
  try conv=>whnf
  exact ⟨no (fun q=>e6 q.bld) _⟩
 have cp:=c_pile_parts p hb
 (try conv=>whnf);repeat ((first|refine (cp).go rfl ?_|refine ⟨rfl,_,rfl,?_⟩);conv=>whnf)
 refine Br.dec (fun e7=>?_) (fun e7=>?_)
 case refine_2 =>
  try conv=>whnf
  exact ⟨no (fun q=>e7 q.parts) _⟩
 have co:=c_pile_once p hb e7
 (try conv=>whnf);repeat ((first|refine (co).go rfl ?_|refine ⟨rfl,_,rfl,?_⟩);conv=>whnf)
 refine Br.dec (fun e8=>?_) (fun e8=>?_)
 case refine_2 =>
  try conv=>whnf
  exact ⟨no (fun q=>e8 q.once) _⟩
 have cj:=c_pile_jobs p hb e7
 (try conv=>whnf);repeat ((first|refine (cj).go rfl ?_|refine ⟨rfl,_,rfl,?_⟩);conv=>whnf)
 rw [show decide (JobsP p)=decide (PlOk p) from decide_eq_decide.2 ⟨fun e=>⟨by omega,by omega,by omega,e6,e7,e8,e⟩,fun q=>q.jobs⟩]
 exact ⟨Ends.ground (H:=[]) (L:=[_,_]) 0 rfl ⟨rfl,rfl⟩⟩
end Go.Aw
namespace Go.Aw
open Go.Proofs
section
variable {P:Prg} {wf:Nat} {γ γ':List (Option Nat)} {I I':Nat→Prop} {w w':World}
theorem AX_okL {ops:Array Oper} {l2:List Oper} {Q:List V→List Blk→Prop} {Q':Exit→Act→World→Prop}:∀ {l:List Oper} {sl:List SOp} {s:St} {a:Act} {γ:List (Option Nat)} {I:Nat→Prop} {w:World},
  All2 (fun o so=>slimOp P wf ops o=some so) l sl→Rel γ I w s a→PanOk P γ I w s a Q'→AX P sl Q s.t s.h →
  (∀ (s':St) γ' I' w' a',Q s'.t s'.h→Rel γ' I' w' s' a'→Ext γ s.h I w γ' s'.h I' w'→a'.defers=a.defers→wpList P ops Q' l2 a' w')→wpList P ops Q' (l++l2) a w:=by
 intro l
 induction l with
 | nil=>intro sl s a γ I w hs r hp h hq;cases hs;exact hq s γ I w a h r (Ext.refl ..) rfl
 | cons o l ih =>
  intro sl s a γ I w hs r hp h hq
  cases hs with
  | @cons _ so _ sl ho hs =>
  unfold slimOp at ho
  obtain ⟨so',h1,ho⟩:=Option.bind_eq_some_iff.1 ho
  have go':∀ (t':List V),Rel γ I w ⟨t',s.h⟩ a→opP P t' so' s.h (fun v h=>forceV v fun v=>forceH h fun h=>forceT (putT t' o.dst v) fun t=>AX P sl Q t h)→o.wp P a w (wpList P ops Q' (l++l2)) Q':=by
   intro t' r1 hop
   refine opP_okB h1 r1 ?_ (hp.next (Ext.refl ..) rfl) hop
   intro v x H' γ' I' w' hK r' hv e'
   rw [forceV_eq,forceH_eq,forceT_eq] at hK
   exact ih hs (rel_put r1 e' r' hv) (hp.next e' (put_defers ..)) hK (fun s2 γ2 I2 w2 a2 q2 r2 e2 d2=>hq s2 γ2 I2 w2 a2 q2 r2 (e'.trans e2) (d2.trans (put_defers ..)))
  have skip':∀ (t':List V),Rel γ I w ⟨t',s.h⟩ a→(forceT (putT t' o.dst (.tu [])) fun t=>AX P sl Q t s.h)→wpList P ops Q' (l++l2) (a.put o.dst undef) w:=fun t' r1 h=>by
   rw [forceT_eq] at h
   exact ih hs (rel_put r1 (Ext.refl ..) r1.heap (.tu (vs:=[]) rfl (by simp))) (hp.next (Ext.refl ..) (put_defers ..)) h (fun s2 γ2 I2 w2 a2 q2 r2 e2 d2=>hq s2 γ2 I2 w2 a2 q2 r2 e2 (d2.trans (put_defers ..)))
  rw [List.cons_append]
  unfold wpList
  cases hg:o.guard with
  | none =>
   rw [hg] at ho;simp at ho;subst ho
   rw [if_pos (by simp [Region.wanted,hg])]
   exact .inl (go' s.t r h)
  | some jb =>
   obtain ⟨j,b⟩:=jb
   rw [hg] at ho;simp only at ho
   obtain ⟨t,h2,ho⟩:=Option.map_eq_some_iff.1 ho
   subst ho
   simp only [AX_c,AXc] at h
   split at h
   ·rename_i c hc
    obtain ⟨x,hx,hrv⟩:=tmp_get r hc (by simp)
    have:=rv_sc hrv;subst this
    have hw:Region.wanted o (yielded ops a.tmps)=(c == b):=by
     simp [Region.wanted,hg,yielded,h2,hx]
    rw [hw]
    cases c with
    | true =>
     have r2:=rel_know (v':=.g (.b true)) r hc rfl
     cases b with
     | true=>exact .inl (go' _ r2 (by simpa only [Br,forceT_eq] using h))
     | false=>exact skip' _ r2 (by simpa only [Br,forceT_eq] using h)
    | false =>
     have r2:=rel_know (v':=.g (.b false)) r hc rfl
     cases b with
     | false=>exact .inl (go' _ r2 (by simpa only [Br,forceT_eq] using h))
     | true=>exact skip' _ r2 (by simpa only [Br,forceT_eq] using h)
   ·rename_i hc
    obtain ⟨x,hx,hrv⟩:=tmp_get r hc (by simp)
    have hw:Region.wanted o (yielded ops a.tmps)=false:=by
     cases hrv with
     | @tu _ vs hl hr =>
      simp [Region.wanted,hg,yielded,h2,hx]
    rw [hw]
    exact skip' s.t r h
   ·exact h.elim
end
theorem opw_pan {P:Program} {o:Oper} {a:Act} {w:World} {next:Act→World→Prop} {Q0 Q:Exit→Act→World→Prop} (h:o.wp P a w next Q0)
  (h1:∀ ch w',Q0 (.panic ch) a w'→Q (.panic ch) a w') (h2:∀ a w,¬ Q0 .outgrown a w):o.wp P a w next Q:=by
 unfold Oper.wp at h ⊢
 generalize (execOp a.eval o).run P w=r at h ⊢
 unfold Oper.upon at h ⊢
 split at h
 ·exact h
 ·exact h
 ·exact h
 ·refine h.mono fun e w' q=>?_
  cases e with
  | returned v=>exact q
  | panicked c=>exact h1 _ _ q
  | outgrown=>obtain ⟨a',w',q⟩:=q;exact (h2 _ _ q).elim
 ·exact h
 ·exact h1 _ _ h
 ·exact h.elim
theorem All2.split {α β:Type} {R:α→β→Prop}:∀ {l:List α} {m1 m2:List β},All2 R l (m1++m2)→∃ l1 l2,l=l1++l2∧All2 R l1 m1∧All2 R l2 m2
 | l,[],m2,h=>⟨[],l,rfl,.nil,h⟩
 | _,x::m1,m2,.cons h t=>by
  obtain ⟨l1,l2,rfl,h1,h2⟩:=All2.split (m1:=m1) t
  exact ⟨_::l1,l2,rfl,.cons h h1,h2⟩
theorem All2.one' {α β:Type} {R:α→β→Prop} {l:List α} {b:β} (h:All2 R l [b]):∃ a,R a b∧l=[a]:=by
 cases h with
 | cons h t=>cases t;exact ⟨_,h,rfl⟩
theorem AW.regLast {P:Prg} {z wf id:Nat} {ops:Array Oper} {pre:List SOp} {d:Option Nat} {f:X} {xs:List X} {Q:Exit→St→Prop} {t:List V} {h:List Blk}
  (hs:slimC P.toProgram wf (.region id ops false)=some (.reg (pre++[⟨d,none,.pcall f xs⟩])))
  (k:AX (npP P.toProgram) pre (fun t1 h1=>Aside1 ((∀ c h2,P.pq c h2→Q (.panic [{ v:=P.pv c,recovered:=false }]) ⟨t1,h2⟩)∧opP P t1 (.pcall f xs) h1 fun v h2=>Q .normal ⟨putT t1 d v,h2⟩)) t h):AW z P.toProgram (.region id ops false) Q ⟨t,h⟩:=by
 obtain ⟨l,h1,hs⟩:=Option.map_eq_some_iff.1 hs
 simp only [SC.reg.injEq] at hs
 subst hs
 intro γ I w a r
 have h1:=optL_forall h1
 obtain ⟨l1,l2,e,h2,h3⟩:=All2.split h1
 refine wp_region_list ?_
 rw [e]
 refine AX_okL (P:=npP P.toProgram) (Q:=fun t1 h1=>Aside1 ((∀ c h2,P.pq c h2→Q (.panic [{ v:=P.pv c,recovered:=false }]) ⟨t1,h2⟩)∧opP P t1 (.pcall f xs) h1 fun v h2=>Q .normal ⟨putT t1 d v,h2⟩)) h2 r (fun c s' γ' I' w' a' k1=>k1.elim) k ?_
 intro s1 γ1 I1 w1 a1 q r1 e1 d1
 obtain ⟨q1,q2⟩:=q.out
 obtain ⟨o,ho,rfl⟩:=All2.one' h3
 unfold slimOp at ho
 obtain ⟨so',k1,ho⟩:=Option.bind_eq_some_iff.1 ho
 cases hg:o.guard with
 | some jb =>
  obtain ⟨j,b⟩:=jb
  rw [hg] at ho;simp only at ho
  obtain ⟨t,_,ho⟩:=Option.map_eq_some_iff.1 ho
  simp at ho
 | none =>
 rw [hg] at ho;simp at ho
 obtain ⟨hd,ho⟩:=ho
 subst ho
 unfold wpList
 rw [if_pos (by simp [Region.wanted,hg])]
 refine .inl ?_
 refine opw_pan (opP_okB (P:=P) (Q:=fun e a' w'=>∃ c s' γ' I',e=.panic [{ v:=P.pv c,recovered:=false }]∧P.pq c s'.h∧Rel γ' I' w' s' a'∧Ext γ1 s1.h I1 w1 γ' s'.h I' w'∧a'.defers=a1.defers) k1 r1 ?_ ?_ q2) ?_ ?_
 ·intro v x H' γ' I' w' q r' hv e'
  unfold wpList
  refine ⟨_,γ',I',q,?_,(e1.trans e').toM,?_⟩
  ·rw [← hd];exact rel_put r1 e' r' hv
  ·rw [put_defers,d1];exact NewD.refl
 ·intro c s' γ' I' w' a' k1 k2 k3 k4
  exact ⟨c,s',γ',I',rfl,k1,k2,k3,k4⟩
 ·rintro ch w' ⟨c,s',γ',I',hch,k1,k2,k3,k4⟩
  rw [hch]
  exact ⟨⟨s1.t,s'.h⟩,γ',I',q1 c s'.h k1,r1.ext k3 k2.heap,(e1.trans k3).toM,by rw [d1];exact NewD.refl⟩
 ·rintro a w ⟨c,s',γ',I',h,_⟩
  cases h
end Go.Aw
namespace Go.Aw
open Go.Proofs Go.Sort Go.RowKit
set_option maxRecDepth 100000
set_option maxHeartbeats 1000000
def hpDo (p:Pl) (g1 g2 g3:Nat):List Blk:=[.arr 0 6 [.g (tpile p)],.arr 0 6 [oPile p 3 4 5 g1 g2 g3],.arr 0 1 [.g (.i 0)],.arr g1 3 (vcards p.buf),.arr g2 7 (vparts p.parts),.arr g3 3 (vjobs p.jobs)]
def okDo (p q:Pl) (h:List Blk):Prop:=∃ (B Q J:V) (L:List Blk) (d:Nat),h=.arr 0 6 [.g (tpile p)]::.arr 0 6 [.ag [.g (.b q.sort),.g (.i q.room),B,Q,J,.g (.i q.next)]]::.arr 0 1 [.g (.i 0)]::L ∧
 (V.ag [.g (.b q.sort),.g (.i q.room),B,Q,J,.g (.i q.next)]).cells.length=6∧gr 0 h d (.ag [.g (.b q.sort),.g (.i q.room),B,Q,J,.g (.i q.next)])=some (tpile q)
def panDo (p:Pl) (h:List Blk):Prop:=∃ (v:V) (L:List Blk),h=.arr 0 6 [.g (tpile p)]::.arr 0 6 [v]::.arr 0 1 [.g (.i 0)]::L∧v.cells.length=6
noncomputable def tryC (n:Nat):Code:=match n,Tryz.f65.body with
 | 0,some (.seq a _)=>a
 | 1,some (.seq _ (.seq a _))=>a
 | 2,some (.seq _ (.seq _ (.seq a _)))=>a
 | 3,some (.seq _ (.seq _ (.seq _ (.seq a _))))=>a
 | 4,some (.seq _ (.seq _ (.seq _ (.seq _ (.seq a _)))))=>a
 | 5,some (.seq _ (.seq _ (.seq _ (.seq _ (.seq _ a)))))=>a
 | _,_=>.skip
def tryS (n:Nat):SC:=match n,s_pile_try with
 | 0,.seq a _=>a
 | 1,.seq _ (.seq a _)=>a
 | 2,.seq _ (.seq _ (.seq a _))=>a
 | 3,.seq _ (.seq _ (.seq _ (.seq a _)))=>a
 | 4,.seq _ (.seq _ (.seq _ (.seq _ (.seq a _))))=>a
 | 5,.seq _ (.seq _ (.seq _ (.seq _ (.seq _ a))))=>a
 | _,_=>.skip
theorem try_body:Tryz.f65.body=some (.seq (tryC 0) (.seq (tryC 1) (.seq (tryC 2) (.seq (tryC 3) (.seq (tryC 4) (tryC 5)))))):=by kernel_rfl
theorem tryC0:slimC Tryz.prog 0 (tryC 0)=some (tryS 0):=by kernel_rfl
theorem tryC3:slimC Tryz.prog 9 (tryC 3)=some (tryS 3):=by kernel_rfl
theorem tryC5:slimC Tryz.prog 0 (tryC 5)=some (tryS 5):=by kernel_rfl
theorem tryC2:slimC Tryz.prog 9 (tryC 2)=some (.reg ([oP 7 (.load (some 6) (.t 2)),oP 8 (.pcall (.f 34) [.t 7])]++[oP 9 (.pcall (.f 67) [.t 8,xi 1])])):=by kernel_rfl
theorem tryC4:slimC Tryz.prog 9 (tryC 4)=some (.reg ([oV 12 1]++[oP 13 (.pcall (.t 12) [.t 4])])):=by kernel_rfl
theorem try_cd (a:Act) (w:World) (h6:6 < a.tmps.size):(tryC 1).wp Tryz.prog (fun e a' w'=>e=.normal∧w'=w∧a'=⟨a.tmps.setIfInBounds 6 (.func (.func 137) #[] ([2,4,5].map (a.tmps.getD · undef)).toArray),dfr 137 ([2,4,5].map (a.tmps.getD · undef))::a.defers⟩) a w:=by
 show (Code.region 1 _ false).wp _ _ a w
 apply wp_region
 simp [wpOps,go_sem,h6]
 exact .inl (by simp [dfr])
theorem AC_reg {z:Nat} {P:Prg} {os:List SOp} {Q:Exit→List V→List Blk→Prop} {t:List V} {h:List Blk}:AC z P (.reg os) Q t h=AX P os (Q .normal) t h:=rfl
theorem AW.run1 {P:Program} {z wf:Nat} {x:Code} {sc:SC} {Q:St→Prop} {t:List V} {h:List Blk} (hs:slimC P wf x=some sc)
  (k:forceT t fun t=>AC z (npP P) sc (fun e t h=>match e with|.normal=>Aside1 (Q ⟨t,h⟩)|_=>False) t h):AW z P x (fun e s=>e=.normal∧Q s) ⟨t,h⟩:=by
 rw [forceT_eq] at k
 exact (AC_ok (P:=npP P) (s:=⟨t,h⟩) (fun _ _ _ h=>h.elim) hs k).mono fun e s q=>by cases e <;> first|exact ⟨rfl,q.out⟩|exact q.elim
theorem AW.stepL {P:Prg} {z wf id:Nat} {ops:Array Oper} {y:Code} {pre:List SOp} {d:Option Nat} {f:X} {xs:List X} {Q:Exit→St→Prop} {t:List V} {h:List Blk}
  (hs:slimC P.toProgram wf (.region id ops false)=some (.reg (pre++[⟨d,none,.pcall f xs⟩])))
  (k:forceT t fun t=>AX (npP P.toProgram) pre (fun t1 h1=>Aside1 ((∀ c h2,P.pq c h2→Q (.panic [{ v:=P.pv c,recovered:=false }]) ⟨t1,h2⟩)∧opP P t1 (.pcall f xs) h1 fun v h2=>AW z P.toProgram y Q ⟨putT t1 d v,h2⟩)) t h):AW z P.toProgram (.seq (.region id ops false) y) Q ⟨t,h⟩:=by
 rw [forceT_eq] at k
 exact AW.seq (AW.regLast hs k)
def tryE (p:Pl) (r:Pl×Int) (t:List V) (h:List Blk):Prop:=retG [.c 4 (some 6),.c 5 none] t h fun v=>Ends [] (fun v h=>v=.tu [.g (tpile (doP p r).1),.g (.i (doP p r).2)]∧h=[]) v h
def tryQ (p:Pl) (r:Pl×Int) (e:Exit) (s:St):Prop:=match e with
 | .ret|.normal=>DIdle Tryz.prog 137 3∧tryE p r s.t s.h
 | .panic ch=>∃ c,ch=[{ v:=pvR c,recovered:=false }]∧DCalls (PR fun _ _=>False) 137 ([2,4,5].map (getT ([.g (tpile p),.any,.pa 0 0 0 0,.any,.pa 1 0 0 0,.pa 2 0 0 0]))) s.h c fun h4=>tryE p r s.t h4
 | _=>False
theorem gr_oPile {p:Pl} {g1 g2 g3:Nat} (A:List Blk) (n1 n2 n3:Nat) (h1:n1=A.length) (h2:n2=A.length+1) (h3:n3=A.length+2) :
  gr 0 (A++[.arr g1 3 (vcards p.buf),.arr g2 7 (vparts p.parts),.arr g3 3 (vjobs p.jobs)]) 3 (oPile p n1 n2 n3 g1 g2 g3)=some (tpile p):=by
 subst h1;subst h2;subst h3
 have e1:optL ((vcards p.buf).map (gr 0 (A++[.arr g1 3 (vcards p.buf),.arr g2 7 (vparts p.parts),.arr g3 3 (vjobs p.jobs)]) 1))=some (p.buf.map tcard):=by
  rw [show ∀ n h,(vcards p.buf).map (gr n h 1)=(p.buf.map tcard).map some by intro n h;simp only [vcards,List.map_map];rfl];exact optL_map_some _
 have e2:optL ((vparts p.parts).map (gr 0 (A++[.arr g1 3 (vcards p.buf),.arr g2 7 (vparts p.parts),.arr g3 3 (vjobs p.jobs)]) 1))=some (p.parts.map tpart):=by
  rw [show ∀ n h,(vparts p.parts).map (gr n h 1)=(p.parts.map tpart).map some by intro n h;simp only [vparts,List.map_map];rfl];exact optL_map_some _
 have e3:optL ((vjobs p.jobs).map (gr 0 (A++[.arr g1 3 (vcards p.buf),.arr g2 7 (vparts p.parts),.arr g3 3 (vjobs p.jobs)]) 1))=some (p.jobs.map tjob):=by
  rw [show ∀ n h,(vjobs p.jobs).map (gr n h 1)=(p.jobs.map tjob).map some by intro n h;simp only [vjobs,List.map_map];rfl];exact optL_map_some _
 have t1:(vcards p.buf).take p.buf.length=vcards p.buf:=List.take_of_length_le (by simp [vcards])
 have t2:(vparts p.parts).take p.parts.length=vparts p.parts:=List.take_of_length_le (by simp [vparts])
 have t3:(vjobs p.jobs).take p.jobs.length=vjobs p.jobs:=List.take_of_length_le (by simp [vjobs])
 simp only [oPile,gr,List.map_cons,List.map_nil,List.getElem?_append_right (Nat.le_refl _),List.getElem?_append_right (Nat.le_add_right _ _),Nat.sub_self,Nat.add_sub_cancel_left,List.getElem?_cons_zero,List.getElem?_cons_succ,
  List.drop_zero,t1,t2,t3,e1,e2,e3]
 simp [optL,vcards,vparts,vjobs,tpile]
theorem try_end {p:Pl} {r:Pl×Int} {q:Pl} {e:Int} (hr:doP p r=(q,e)) {u v:V} {t':List V} {B0:Blk} {x1 x2 x3 x4 x5 x6:V} {L:List Blk} (d:Nat)
  (hg:gr 0 (B0::.arr 0 6 [.ag [x1,x2,x3,x4,x5,x6]]::.arr 0 1 [.g (.i e)]::L) d (.ag [x1,x2,x3,x4,x5,x6])=some (tpile q)) :
  tryE p r (u::v::.pa 0 0 0 0::.any::.pa 1 0 0 0::.pa 2 0 0 0::t') (B0::.arr 0 6 [.ag [x1,x2,x3,x4,x5,x6]]::.arr 0 1 [.g (.i e)]::L):=by
 unfold tryE
 conv=>whnf
 refine ⟨rfl,_,rfl,?_⟩
 conv=>whnf
 refine ⟨rfl,_,rfl,?_⟩
 show Ends [] _ (.tu [.ag [x1,x2,x3,x4,x5,x6],.g (.i e)]) _
 rw [hr]
 refine Ends.grounds (H:=[]) (ts:=[tpile q,.i e]) d ?_ ⟨rfl,rfl⟩
 show optL [gr 0 _ d _,gr 0 _ d (.g (.i e))]=_
 rw [List.nil_append,hg]
 simp [gr,optL]
theorem tryOps_eq:tryOps=[oP 7 (.load (some 6) (.t 0)),oV 9 3,oP 10 (.tas 173 (.t 9)),oP 11 (.fld 0 none (.t 10)),oP 8 (.call (.f 138) [.t 7]),⟨none,none,.store 6 (.t 1) (.t 8)⟩,⟨none,none,.store 1 (.t 2) (.t 11)⟩]:=rfl
theorem storeV_at {v x:V} (h:x.cells.length=v.cells.length):storeV v 0 x=x:=if_pos ⟨rfl,h⟩
theorem try_pan {p:Pl} (hb:bndP p) {r:Pl×Int} {c:Int} (hr:doP p r=(p,c)) {u:V} {t':List V} {v:V} (hv:v.cells.length=6) {L:List Blk} :
  tryQ p r (.panic [{ v:=pvR c,recovered:=false }]) ⟨.g (tpile p)::u::.pa 0 0 0 0::.any::.pa 1 0 0 0::.pa 2 0 0 0::t',.arr 0 6 [.g (tpile p)]::.arr 0 6 [v]::.arr 0 1 [.g (.i 0)]::L⟩:=by
 refine ⟨c,rfl,?_⟩
 refine try1_rec ?_
 rw [tryOps_eq]
 simp only [AX_c,AXc,oP,oV,forceV_eq,forceH_eq,forceT_eq,opP]
 conv=>whnf
 refine ⟨rfl,_,rfl,?_⟩
 conv=>whnf
 refine ⟨rfl,?_⟩
 conv=>whnf
 refine ACalls.fl (args:=[.g (tpile p)]) (c_pile_own p hb) [] rfl rfl rfl flatH.nil (by rintro r h ⟨g1,g2,g3,_,rfl⟩;exact flatH.cons Blk.lt_g (flatH.cons Blk.lt_g (flatH.cons Blk.lt_g flatH.nil))) ?_
 rintro r1 h ⟨g1,g2,g3,rfl,rfl⟩
 rw [placeB_eq]
 conv=>whnf
 refine ⟨rfl,_,rfl,⟨rfl,rfl,by decide⟩,?_⟩
 have hs:∀ x:V,x.cells.length=6→storeV v 0 x=x:=fun x hx=>storeV_at (hx.trans hv.symm)
 rw [hs _ (by rfl)]
 conv=>whnf
 refine ⟨rfl,_,rfl,⟨rfl,rfl,by decide⟩,?_⟩
 refine try_end hr 3 ?_
 exact gr_oPile (p:=p) (g1:=g1) (g2:=g2) (g3:=g3) (.arr 0 6 [.g (tpile p)]::.arr 0 6 [oPile p (L.length+3) (L.length+3+1) (L.length+3+2) g1 g2 g3]::.arr 0 1 [.g (.i c)]::L) (L.length+3) (L.length+3+1) (L.length+3+2) rfl rfl rfl
theorem c_pile_try {p:Pl} (hb:bndP p) {f:Nat} {caps:List V} {r:Pl×Int}
  (hdo:PlOk p→∀ g1 g2 g3,PCalls (PR (fun c h=>c=r.2∧r.1=p∧panDo p h)) f (.pa 1 0 0 0::caps) (hpDo p g1 g2 g3) (fun _ h=>r.2=0∧okDo p r.1 h)) :
  ACalls Tryz.prog 65 [.g (tpile p),.fn f caps] [] (fun v h=>v=.tu [.g (tpile (doP p r).1),.g (.i (doP p r).2)]∧h=[]):=by
 refine ACalls.of_defer (P:=PR fun _ _=>False) (fd:=137) (fn:=Tryz.f65) [.c 4 (some 6),.c 5 none] 6 [2,4,5] Tryz.func65 (by kernel_rfl) try_body (by kernel_rfl) ?_ (fun a w h=>try_cd a w h) ?_
 ·intro w xs
  have h1:Tryz.f137.name ≠ "runtime.NumGoroutine" := by decide +kernel
  have h2:¬ Tryz.f137.body=none:=by
   intro h
   have:Tryz.f137.body.isNone=false:=by kernel_rfl
   rw [h] at this
   cases this
  simp [invoke,callFunc,show Tryz.prog.funcs[137]?=some Tryz.f137 from Tryz.func137,h1,h2]
 refine (AW.run1 (Q:=fun s1=>s1.t=[.g (tpile p),.fn f caps,.pa 0 0 0 0,.any,.pa 1 0 0 0,.pa 2 0 0 0]++List.replicate 9 .any∧s1.h=[.arr 0 6 [.g (tpile p)],.arr 0 6 [zPile],.arr 0 1 [.g (.i 0)]]) tryC0 ?_).mono ?_
 ·show forceT ([.g (tpile p),.fn f caps]++List.replicate 13 .any) _
  (try conv=>whnf);repeat ((first|refine ⟨⟨rfl,rfl⟩,?_⟩|refine ⟨rfl,?_⟩);conv=>whnf)
  exact rfl
 rintro e ⟨t1,h1⟩ ⟨rfl,h1,h2⟩
 dsimp only at h1 h2
 subst h1;subst h2
 refine ⟨rfl,by simp,?_⟩
 show AW 3 Tryz.prog (.seq (tryC 2) (.seq (tryC 3) (.seq (tryC 4) (tryC 5)))) (tryQ p r) ⟨[.g (tpile p),.fn f caps,.pa 0 0 0 0,.any,.pa 1 0 0 0,.pa 2 0 0 0,.fn 137 [.pa 0 0 0 0,.pa 1 0 0 0,.pa 2 0 0 0]]++List.replicate 8 .any,[.arr 0 6 [.g (tpile p)],.arr 0 6 [zPile],.arr 0 1 [.g (.i 0)]]⟩
 refine AW.stepL (P:=PR fun c h=>c=1∧¬ PlOk p∧h=[.arr 0 6 [.g (tpile p)],.arr 0 6 [zPile],.arr 0 1 [.g (.i 0)]]) tryC2 ?_
 (try conv=>whnf);repeat ((first|refine ⟨rfl,_,rfl,?_⟩);conv=>whnf)
 refine ACalls.pc (P:=npP Tryz.prog) ((c_pile_May p hb).go (args:=[.g (tpile p)]) rfl ?_)
 conv=>whnf
 refine ⟨⟨?_,?_⟩⟩
 ·rintro c h2 ⟨rfl,hno,rfl⟩
  exact try_pan hb (by simp [doP,hno]) rfl
 conv=>whnf
 refine p_need _ _ _ (fun hok=>?_) (fun hno=>⟨rfl,of_decide_eq_false hno,rfl⟩)
 have hok:=of_decide_eq_true hok
 refine AW.step tryC3 ?_
 (try conv=>whnf);repeat ((first|refine ⟨rfl,_,rfl,?_⟩);conv=>whnf)
 refine ACalls.pc (P:=npP Tryz.prog) (ACalls.fl (args:=[.g (tpile p)]) (c_pile_own p hb) [] rfl rfl rfl flatH.nil (by rintro r h ⟨g1,g2,g3,_,rfl⟩;exact flatH.cons Blk.lt_g (flatH.cons Blk.lt_g (flatH.cons Blk.lt_g flatH.nil))) ?_)
 rintro r1 h ⟨g1,g2,g3,rfl,rfl⟩
 (try conv=>whnf);repeat ((first|refine ⟨rfl,_,rfl,⟨rfl,rfl,by decide⟩,?_⟩);conv=>whnf)
 refine ⟨?_⟩
 refine AW.stepL (P:=PR fun c h=>c=r.2∧r.1=p∧panDo p h) tryC4 ?_
 conv=>whnf
 refine ⟨⟨?_,?_⟩⟩
 ·rintro c h2 ⟨rfl,hp,v,L,rfl,hv⟩
  exact try_pan hb (by rw [doP,if_pos hok,← hp]) hv
 conv=>whnf
 refine (forceT_eq caps _).mpr ?_
 refine (hdo hok g1 g2 g3).mono ?_
 rintro v h ⟨h0,B,Q,J,L,d,rfl,hc,hg⟩
 have hs:∀ x:V,x.cells.length=6→storeV (.ag [.g (.b r.1.sort),.g (.i r.1.room),B,Q,J,.g (.i r.1.next)]) 0 x=x:=fun x hx=>storeV_at (hx.trans hc.symm)
 refine (AC_ok (P:=npP Tryz.prog) (s:=⟨_,_⟩) (Q:=fun e t h=>Aside1 (tryQ p r e ⟨t,h⟩)) (fun _ _ _ h=>h.elim) tryC5 ?_).mono fun e s q=>q.out
 rw [show tryS 5=.seq (.reg [oP 14 (.load (some 6) (.t 4)),⟨none,none,.store 6 (.t 4) (.t 14)⟩,⟨none,none,.store 1 (.t 5) (xi 0)⟩]) .ret from rfl,AC_seq,AC_reg]
 simp only [AX_c,AXc,oP,forceV_eq,forceH_eq,forceT_eq,opP]
 conv=>whnf
 refine ⟨rfl,_,rfl,?_⟩
 conv=>whnf
 refine ⟨rfl,_,rfl,⟨rfl,hc,by decide⟩,?_⟩
 rw [hs _ (by exact hc)]
 conv=>whnf
 refine ⟨rfl,_,rfl,⟨rfl,rfl,by decide⟩,?_⟩
 exact Aside1.mk ⟨try1_idle,try_end (by rw [doP,if_pos hok,← h0]) d hg⟩
end Go.Aw
namespace Go.Aw
open Go.Proofs Go.Sort Go.RowKit
set_option maxRecDepth 100000
set_option maxHeartbeats 1000000
def zCd:V:=.ag [.g (.s ⟨#[]⟩),.g (.i 0),.nil 1]
theorem vcs_get {l:List Cd} {n:Nat} (h:n < l.length):(vcards l)[0+((n:Nat):Int).toNat]?=some (V.g (tcard l[n])):=getO (f:=fun s=>V.g (tcard s)) h
theorem vcs_set {l:List Cd} {n:Nat} {s:Cd}:(vcards l).set (0+((n:Nat):Int).toNat) (V.g (tcard s))=vcards (l.set n s):=by simp [vcards,List.map_set]
theorem zs_lt {n:Nat} {l:List Cd} {g m:Nat}:(Blk.arr g 3 (vcards l++List.replicate n zCd)).lt m:=by
 refine Blk.lt_of fun e he u hu=>?_
 rw [List.mem_append] at he
 rcases he with he|he
 ·simp only [vcards,List.mem_map] at he
  obtain ⟨c,_,rfl⟩:=he
  simp only [V.cells] at hu
  obtain ⟨t,_,rfl⟩:=List.mem_map.1 hu
  exact .g
 ·obtain ⟨_,rfl⟩:=List.mem_replicate.1 he
  simp only [zCd,V.cells,List.mem_cons,List.not_mem_nil,or_false] at hu
  rcases hu with rfl|rfl|rfl
  ·exact .g
  ·exact .g
  ·exact .nil
theorem c_IndexFuncC (l:List Cd) (g:Nat) (hl:l.length < 1000000000) (q:Cd→Bool) (f:Nat) (C1:Blk) (hC1:C1.lt 0)
  (hf:∀ s∈l,ACalls Tryz.prog f [.g (tcard s),.pa 0 0 0 0] [C1] (fun r h=>r=.g (.b (q s))∧h=[C1])) :
  ACalls Tryz.prog 222 [.own 0 g 0 l.length,.fn f [.pa 1 0 0 0]] [.arr g 3 (vcards l),C1] (fun r h=>(∃ i:Nat,r=.g (.i i)∧(∃ hi:i < l.length,q l[i]=true∧∀ s∈l.take i,q s=false)∧h=[.arr g 3 (vcards l),C1])∨(r=.g (.i (-1))∧(∀ s∈l,q s=false)∧h=[.arr g 3 (vcards l),C1])):=by
 refine k_slices_IndexFunc_LCard_Card.calls ?_
 try conv=>whnf
 refine SW.loopR (α:=Nat) (fun k=>tm 19 [(0,.own 0 g 0 l.length),(1,.fn f [.pa 1 0 0 0]),(6,.own 0 g 0 l.length),(7,.g (.i l.length)),(8,.g (.i k))]) (fun _=>[.arr g 3 (vcards l),C1]) (fun k=>k≤l.length∧∀ s∈l.take k,q s=false) (fun k=>l.length-k) 0 ?_ ?_ ?_
 ·simp
 ·exact Refi.sub rfl (by simp [subT,subV,tm,tmGo])
 ·rintro k ⟨hk,hq⟩
  dsimp only at hk hq ⊢
  conv=>whnf
  refine Br.dec (fun h1=>?_) (fun h1=>?_)
  ·have hk':k < l.length:=by omega
   conv=>whnf
   refine ⟨⟨by omega,by omega⟩,⟨rfl,rfl⟩,?_⟩
   conv=>whnf
   refine ⟨rfl,_,vcs_get (by omega),?_⟩
   try conv=>whnf
   refine ACalls.fl (hf l[k] (List.getElem_mem hk')) [1] rfl rfl rfl (flatH.cons hC1 flatH.nil) (by rintro r h ⟨_,rfl⟩;exact (flatH.cons hC1 flatH.nil)) ?_
   rintro r h ⟨rfl,rfl⟩
   conv=>whnf
   refine Br.intro (fun h2=>?_) (fun h2=>?_)
   ·try conv=>whnf
    exact ⟨Ends.keep (.inl ⟨k,rfl,⟨hk',h2,hq⟩,rfl⟩)⟩
   ·(try conv=>whnf);repeat ((first|refine ⟨in64 (by omega) (by omega),?_⟩);conv=>whnf)
    refine ⟨⟨k+1,⟨hk',fun s hs=>?_⟩,by omega,Refi.sub rfl (by simp [subT,subV,tm,tmGo])⟩⟩
    rw [List.take_succ_eq_append_getElem hk',List.mem_append,List.mem_singleton] at hs
    rcases hs with hs|rfl
    ·exact hq s hs
    ·exact h2
  ·try conv=>whnf
   have:k=l.length:=by omega
   subst this
   rw [List.take_length] at hq
   exact ⟨Ends.keep (.inr ⟨rfl,hq,rfl⟩)⟩
theorem c_DeleteFuncC (l:List Cd) (g:Nat) (hl:l.length < 1000000000) (q:Cd→Bool) (f:Nat) (C1:Blk) (hC1:C1.lt 0)
  (hf:∀ s∈l,ACalls Tryz.prog f [.g (tcard s),.pa 0 0 0 0] [C1] (fun r h=>r=.g (.b (q s))∧h=[C1])) :
  ACalls Tryz.prog 176 [.own 0 g 0 l.length,.fn f [.pa 1 0 0 0]] [.arr g 3 (vcards l),C1] (fun r h=>∃ n:Nat,r=.own 0 g 0 (l.filter fun s=>!q s).length∧h=[.arr g 3 (vcards (l.filter fun s=>!q s)++List.replicate n zCd),C1]):=by
 refine k_slices_DeleteFunc_LCard_Card.calls ?_
 conv=>whnf
 refine (c_IndexFuncC l g hl q f C1 hC1 hf).mono ?_
 rintro r h (⟨i0,rfl,⟨hi,hqi,hpre⟩,rfl⟩|⟨rfl,hno,rfl⟩)
 ·conv=>whnf
  skip
  have hf0:(l.take (i0+1)).filter (fun s=>!q s)=l.take i0:=by
   rw [List.take_succ_eq_append_getElem hi,List.filter_append,List.filter_eq_self.2 (fun s hs=>by rw [hpre s hs];rfl)]
   simp [hqi]
  (try conv=>whnf);repeat ((first|refine ⟨in64 (by omega) (by omega),?_⟩);conv=>whnf)
  refine SW.loopR (α:=Nat×List Cd) (fun a=>tm 42 [(0,.own 0 g 0 l.length),(1,.fn f [.pa 1 0 0 0]),(5,.g (.i ((l.take a.1).filter fun s=>!q s).length)),(6,.g (.i a.1))]) (fun a=>[.arr g 3 (vcards a.2),C1])
   (fun a=>a.1≤l.length∧a.2.length=l.length∧a.2.take ((l.take a.1).filter fun s=>!q s).length=(l.take a.1).filter (fun s=>!q s)∧a.2.drop a.1=l.drop a.1) (fun a=>l.length-a.1) (i0+1,l) ?_ ?_ ?_
  ·refine ⟨hi,rfl,?_,rfl⟩
   dsimp only
   rw [hf0,List.length_take,Nat.min_eq_left (by omega)]
  ·refine Refi.sub rfl ?_
   dsimp only
   rw [hf0,List.length_take,Nat.min_eq_left (by omega)]
   simp [subT,subV,tm,tmGo]
  ·rintro ⟨k,E⟩ ⟨hk,hE,ht,hd⟩
   dsimp only at hk hE ht hd ⊢
   have hfl:((l.take k).filter fun s=>!q s).length≤k:=Nat.le_trans (List.length_filter_le _ _) (by simp;omega)
   have hEl:(vcards E).length=l.length:=by simp [vcards,hE]
   conv=>whnf
   refine Br.dec (fun h1=>?_) (fun h1=>?_)
   ·have hk':k < l.length:=by omega
    have hEk:E[k]'(by omega)=l[k]:=by
     have h2:=congrArg (·[0]?) hd
     simpa [hk',hE] using h2
    have htk:l.take (k+1)=l.take k++[l[k]]:=List.take_succ_eq_append_getElem hk'
    conv=>whnf
    refine ⟨⟨by omega,by omega⟩,⟨rfl,rfl⟩,?_⟩
    conv=>whnf
    refine ⟨rfl,_,vcs_get (by omega),?_⟩
    rw [hEk]
    (try conv=>whnf);repeat ((first|refine ⟨rfl,_,rfl,⟨rfl,rfl,by decide⟩,?_⟩|refine ⟨rfl,_,rfl,?_⟩|refine ⟨rfl,?_⟩);conv=>whnf)
    refine ACalls.fl (hf l[k] (List.getElem_mem hk')) [1] rfl rfl rfl (flatH.cons hC1 flatH.nil) (by rintro r h ⟨_,rfl⟩;exact (flatH.cons hC1 flatH.nil)) ?_
    rintro r h ⟨rfl,rfl⟩
    conv=>whnf
    refine Br.not (fun h2=>?_) (fun h2=>?_)
    ·have e:(l.take (k+1)).filter (fun s=>!q s)=(l.take k).filter (fun s=>!q s)++[l[k]]:=by rw [htk,List.filter_append];simp [h2]
     (try conv=>whnf);repeat ((first|refine ⟨rfl,_,rfl,?_⟩|refine ⟨rfl,_,getO (by omega),?_⟩|refine ⟨⟨rfl,rfl,by decide⟩,?_⟩|refine ⟨⟨by omega,by omega⟩,⟨rfl,rfl⟩,?_⟩|refine ⟨in64 (by omega) (by omega),?_⟩);conv=>whnf)
     obtain ⟨F,hF⟩:∃ F,F=(l.take k).filter fun s=>!q s:=⟨_,rfl⟩
     have hp:F.length < E.length:=by rw [hF];omega
     refine ⟨⟨(k+1,E.set F.length l[k]),⟨hk',by simp [hE],?_,?_⟩,by dsimp only;omega,Refi.back (L:=[.arr 0 3 [.g (tcard l[k])]]) ?_ (Nat.le_refl _) (by
       intro x hx
       simp only [List.mem_cons,List.not_mem_nil,or_false] at hx
       rcases hx with rfl|rfl
       ·exact Blk.lt_g
       ·exact Blk.lt_mono hC1) ?_⟩⟩
     ·dsimp only
      rw [← hF] at ht
      rw [e,← hF,List.length_append,List.length_singleton,List.take_set,List.take_succ_eq_append_getElem hp,ht,List.set_append_right _ _ (Nat.le_refl _)]
      simp
     ·dsimp only
      rw [← hF] at hfl
      rw [List.drop_set_of_lt (by omega),← List.drop_drop,hd]
      simp
     ·subst hF
      simp only [List.cons_append,List.nil_append,List.cons.injEq,Blk.arr.injEq,true_and,and_true]
      first|exact ⟨vcs_set,rfl⟩|exact ⟨vcs_set,rfl,rfl,rfl⟩|exact ⟨vcs_set,rfl,rfl⟩
     ·dsimp only
      rw [e]
      simp [subT,subV,tm,tmGo,cutV,ltB,ltS]
    ·have e:(l.take (k+1)).filter (fun s=>!q s)=(l.take k).filter (fun s=>!q s):=by rw [htk,List.filter_append];simp [h2]
     (try conv=>whnf);repeat ((first|refine ⟨in64 (by omega) (by omega),?_⟩);conv=>whnf)
     refine ⟨⟨(k+1,E),⟨hk',hE,by dsimp only;rw [e];exact ht,by dsimp only;rw [← List.drop_drop,hd];simp⟩,by dsimp only;omega,Refi.back (L:=[.arr 0 3 [.g (tcard l[k])]]) rfl (Nat.le_refl _) (by
       intro x hx
       simp only [List.mem_cons,List.not_mem_nil,or_false] at hx
       rcases hx with rfl|rfl
       ·exact Blk.lt_g
       ·exact Blk.lt_mono hC1) ?_⟩⟩
     dsimp only
     rw [e]
     simp [subT,subV,tm,tmGo,cutV,ltB,ltS]
   ·have:k=l.length:=by omega
    subst this
    rw [List.take_length] at ht hfl ⊢
    (try conv=>whnf);repeat ((first|refine ⟨rfl,⟨by omega,by omega,by omega⟩,?_⟩|refine ⟨⟨rfl,rfl,rfl⟩,?_⟩);conv=>whnf)
    refine ⟨Ends.keep ⟨l.length-(l.filter fun s=>!q s).length,by simp,?_⟩⟩
    simp only [Nat.zero_add,Int.toNat_natCast]
    have e1:(vcards E).take (l.filter fun s=>!q s).length=vcards (l.filter fun s=>!q s):=by rw [vcards,← List.map_take,ht];rfl
    have e2:(vcards E).drop ((l.filter fun s=>!q s).length+(l.length-(l.filter fun s=>!q s).length))=[]:=List.drop_eq_nil_of_le (by omega)
    rw [e1,e2,List.append_nil]
    rfl
 ·conv=>whnf
  have e:l.filter (fun s=>!q s)=l:=List.filter_eq_self.2 fun s hs=>by rw [hno s hs];rfl
  exact ⟨Ends.keep ⟨0,by rw [e],by rw [e];simp⟩⟩
end Go.Aw
