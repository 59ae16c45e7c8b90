/- Contracts of functions of the given program, by the abstract walk, for law StatReckons: what each one hands back; no condition but those that each theorem states. -/
import Derived.Test.YtocdciahhlbknaaGreatC19
import Derived.Test.YtocdciahhlbknaaGreatC20
import Derived.Test.YtocdciahhlbknaaGreatL2
namespace Go.Aw
open Go.Proofs Go.Sort
set_option maxRecDepth 100000
set_option maxHeartbeats 4000000
theorem cover {α:Type} [DecidableEq α]:∀ {l m:List α},l.Nodup→(∀ x∈l,x∈m)→m.length≤l.length→l.Perm m
 | [],m,_,_,h=>by
  have:m=[]:=List.length_eq_zero_iff.1 (by simpa using h)
  subst this;exact .refl _
 | a::l,m,hn,hs,h=>by
  obtain ⟨h1,h2⟩:=List.nodup_cons.1 hn
  have ha:a∈m:=hs a (by simp)
  have hp:=List.perm_cons_erase ha
  refine ((cover (l:=l) (m:=m.erase a) h2 (fun x hx=>?_) ?_).cons a).trans hp.symm
  ·exact (List.mem_erase_of_ne (fun e=>h1 (by rw [← e];exact hx))).2 (hs x (List.mem_cons_of_mem _ hx))
  ·have:=hp.length_eq
   simp at this h;omega
theorem srt_ext {α:Type} {r:α→α→Prop} (asy:∀ a b,r a b→¬ r b a):∀ {l m:List α},l.Pairwise r→m.Pairwise r→(∀ x,x∈l↔x∈m)→l=m
 | [],[],_,_,_=>rfl
 | [],y::_,_,_,h=>absurd ((h y).2 (by simp)) (by simp)
 | x::_,[],_,_,h=>absurd ((h x).1 (by simp)) (by simp)
 | x::a,y::b,ha,hb,h=>by
  obtain ⟨ha1,ha2⟩:=List.pairwise_cons.1 ha
  obtain ⟨hb1,hb2⟩:=List.pairwise_cons.1 hb
  have e:x=y:=by
   rcases List.mem_cons.1 ((h x).1 (by simp)) with e|e
   ·exact e
   ·rcases List.mem_cons.1 ((h y).2 (by simp)) with e2|e2
    ·exact e2.symm
    ·exact absurd (hb1 x e) (asy _ _ (ha1 y e2))
  subst e
  rw [srt_ext asy ha2 hb2 fun z=>?_]
  constructor
  ·intro hz
   rcases List.mem_cons.1 ((h z).1 (List.mem_cons_of_mem _ hz)) with e|e
   ·subst e;exact absurd (ha1 z hz) (asy _ _ (ha1 z hz))
   ·exact e
  ·intro hz
   rcases List.mem_cons.1 ((h z).2 (List.mem_cons_of_mem _ hz)) with e|e
   ·subst e;exact absurd (hb1 z hz) (asy _ _ (hb1 z hz))
   ·exact e
theorem ltB_asy {a b:ByteArray} (h:ltB' a b=true):¬ ltB' b a=true:=fun k=>by have:=ltB_trans h k;rw [ltB_irr] at this;cases this
theorem risE_iff {e:Int}:∀ {l:Int} {xs:List Int},risE e l xs=true↔(∀ x∈xs,l < x∧x < e)∧xs.Pairwise (· < ·)
 | l,[]=>by simp [risE]
 | l,x::xs=>by
  have ih:=risE_iff (e:=e) (l:=x) (xs:=xs)
  simp only [risE,Bool.and_eq_true,decide_eq_true_eq,ih,List.mem_cons,List.pairwise_cons]
  constructor
  ·rintro ⟨⟨h1,h2⟩,h3,h4⟩
   refine ⟨fun y hy=>?_,fun y hy=>(h3 y hy).1,h4⟩
   rcases hy with rfl|hy
   ·exact ⟨h1,h2⟩
   ·have:=h3 y hy;omega
  ·rintro ⟨h1,h2,h3⟩
   exact ⟨h1 x (.inl rfl),fun y hy=>⟨h2 y hy,(h1 y (.inr hy)).2⟩,h3⟩
structure MayP (l:List Po):Prop where
 ne:∀ p∈l,p.2≠[]
 le:∀ p∈l,p.2.length≤120
 at':∀ p∈l,(∀ a∈p.2,0≤a∧a < 120)∧p.2.Pairwise (· < ·)
 len:l.length≤64
 doc:∀ p∈l,0≤p.1∧p.1 < 64
 pw:l.Pairwise fun p q=>p.1 < q.1
theorem mayP_iff {l:List Po} (h:mayP l=true):MayP l:=by
 simp only [mayP,Bool.and_eq_true,decide_eq_true_eq,List.all_eq_true,risE_iff,docsL] at h
 obtain ⟨⟨h1,h2⟩,h3,h4⟩:=h
 refine ⟨fun p hp=>?_,fun p hp=>(h1 p hp).1.2,fun p hp=>⟨fun a ha=>?_,(h1 p hp).2.2⟩,h2,fun p hp=>?_,List.pairwise_map.1 h4⟩
 ·exact List.length_pos_iff.1 (h1 p hp).1.1
 ·have:=(h1 p hp).2.1 a ha;omega
 ·have:=h3 p.1 (List.mem_map_of_mem hp);omega
theorem docs_inj {l:List Po} (h:l.Pairwise fun p q=>p.1 < q.1) {p q:Po} (hp:p∈l) (hq:q∈l) (e:p.1=q.1):p=q:=by
 obtain ⟨i,hi,rfl⟩:=List.getElem_of_mem hp
 obtain ⟨j,hj,rfl⟩:=List.getElem_of_mem hq
 rcases Nat.lt_trichotomy i j with k|k|k
 ·have:=List.pairwise_iff_getElem.1 h i j hi hj k;omega
 ·subst k;rfl
 ·have:=List.pairwise_iff_getElem.1 h j i hj hi k;omega
structure TmsP (s:Sg):Prop where
 ok:∀ x∈s.terms,x.p≠[]∧MayP x.p
 srt:s.terms.Pairwise fun x y=>ltB' x.t y.t=true
 fit:∀ x∈s.terms,fitsS x.t 32=true
 len:s.terms.length≤200
theorem dm_iff {l:List ByteArray} (h:dmS l=true):(l.Pairwise fun a b=>ltB' a b=true)∧(∀ x∈l,fitsS x 32=true)∧l.length≤200:=by
 have h:=of_decide_eq_true h
 have key:∀ n,n≤l.length→(l.take n).Pairwise fun a b=>ltB' a b=true:=by
  intro n
  induction n with
  | zero=>intro _;simp
  | succ n ih =>
   intro hn
   rw [List.take_succ_eq_append_getElem hn,List.pairwise_append]
   refine ⟨ih (by omega),by simp,fun a ha b hb=>?_⟩
   simp at hb;subst hb
   obtain ⟨j,hj,rfl⟩:=List.getElem_of_mem ha
   have hj':j < n:=by simp at hj;omega
   have hs:=(h.1 n hn).2 (by omega)
   rw [List.getElem_take]
   by_cases e:j=n-1
   ·subst e;exact hs
   ·have h1:=List.pairwise_iff_getElem.1 (ih (by omega)) j (n-1) (by simp;omega) (by simp;omega) (by omega)
    simp only [List.getElem_take] at h1
    exact ltB_trans h1 hs
 refine ⟨by have:=key l.length (Nat.le_refl _);rwa [List.take_length] at this,fun x hx=>?_,h.2⟩
 obtain ⟨k,hk,rfl⟩:=List.getElem_of_mem hx
 exact (h.1 k hk).1
theorem SgP.tms {s:Sg} (h:SgP s):TmsP s:=by
 obtain ⟨_,_,_,_,_,p1,_,_,p4,_⟩:=h
 obtain ⟨d1,d2,d3⟩:=dm_iff p4
 exact ⟨fun x hx=>⟨(p1 x hx).1,mayP_iff (p1 x hx).2⟩,List.pairwise_map.1 d1,fun x hx=>d2 _ (List.mem_map_of_mem hx),by simpa using d3⟩
theorem words_inj {l:List Tm} (h:l.Pairwise fun x y=>ltB' x.t y.t=true) {x y:Tm} (hx:x∈l) (hy:y∈l) (e:x.t=y.t):x=y:=by
 obtain ⟨i,hi,rfl⟩:=List.getElem_of_mem hx
 obtain ⟨j,hj,rfl⟩:=List.getElem_of_mem hy
 rcases Nat.lt_trichotomy i j with k|k|k
 ·have:=List.pairwise_iff_getElem.1 h i j hi hj k;rw [e,ltB_irr] at this;cases this
 ·subst k;rfl
 ·have:=List.pairwise_iff_getElem.1 h j i hj hi k;rw [e,ltB_irr] at this;cases this
theorem mem_prT' {x:Tm} {q:Int×Int}:q∈prT x↔∃ p∈x.p,p.1=q.1∧q.2∈p.2:=by
 rw [prT,List.mem_flatMap]
 constructor
 ·rintro ⟨p,hp,hq⟩
  obtain ⟨a,ha,rfl⟩:=List.mem_map.1 hq
  exact ⟨p,hp,rfl,ha⟩
 ·rintro ⟨p,hp,e,ha⟩
  exact ⟨p,hp,List.mem_map.2 ⟨q.2,ha,by rw [e]⟩⟩
theorem mem_opsT {l:List Tm} {q:Int×Int} {t:ByteArray}:(q,t)∈opsT l↔∃ x∈l,x.t=t∧q∈prT x:=by
 rw [opsT,List.mem_flatMap]
 constructor
 ·rintro ⟨x,hx,hu⟩
  obtain ⟨r,hr,e⟩:=List.mem_map.1 hu
  cases e
  exact ⟨x,hx,rfl,hr⟩
 ·rintro ⟨x,hx,rfl,hr⟩
  exact ⟨x,hx,List.mem_map.2 ⟨q,hr,rfl⟩⟩
theorem wAt_mem {W:Ops} (hn:(W.map (·.1)).Nodup) {q:Int×Int} {t:ByteArray} (h:(q,t)∈W):wAt W q=t:=by
 unfold wAt
 cases hf:W.find? (fun o=>decide (o.1=q)) with
 | none=>have:=List.find?_eq_none.1 hf _ h;simp at this
 | some u =>
  have h1:=List.mem_of_find?_eq_some hf
  have h2:=List.find?_some hf
  simp only [decide_eq_true_eq] at h2
  obtain ⟨i,hi,e1⟩:=List.getElem_of_mem h1
  obtain ⟨j,hj,e2⟩:=List.getElem_of_mem h
  have:=(List.getElem_inj (i:=i) (j:=j) (h₀:=by simpa using hi) (h₁:=by simpa using hj) hn).1 (by simp [e1,e2,h2])
  subst this
  rw [e1] at e2
  show u.2=t
  rw [e2]
theorem prs_all {s:Sg} (h:SgP s) {k j:Nat} (hk:k < s.ids.length) (hj:(j:Int) < s.lens.getD k 0):((k:Int),(j:Int))∈prs s.terms:=by
 obtain ⟨_,_,h3,_,h5,p1,p2,p3,_,p5⟩:=id h
 have ht:=h.tms
 have h0:∀ q∈prs s.terms,0≤q.1∧0≤q.2:=fun q hq=>by
  obtain ⟨x,hx,hq⟩:=List.mem_flatMap.1 hq
  obtain ⟨p,hp,e,ha⟩:=mem_prT'.1 hq
  have h1:=(ht.ok x hx).2.doc p hp
  have h2:=((ht.ok x hx).2.at' p hp).1 _ ha
  omega
 have pos:∀ (ls:List Int) (n:Nat),(∀ v∈ls,0≤v)→((((ls.zipIdx n).flatMap fun (p:Int×Nat)=>(List.range p.1.toNat).map fun (j:Nat)=>((p.2:Int),(j:Int))).length:Nat):Int)=ls.sum:=by
  intro ls
  induction ls with
  | nil=>intro n _;rfl
  | cons v ls ih =>
   intro n hv
   have:=ih (n+1) (fun w hw=>hv w (List.mem_cons_of_mem _ hw))
   have hv0:=hv v (by simp)
   rw [List.zipIdx_cons,List.flatMap_cons,List.length_append,List.sum_cons,← this]
   simp;omega
 have hv:∀ v∈s.lens,0≤v:=fun v hv=>by
  obtain ⟨i,hi,rfl⟩:=List.getElem_of_mem hv
  have:=(h5 i (by omega)).2.2.1.1
  rwa [getD_at _ hi] at this
 have hc:=cover (l:=prs s.terms) (m:=(s.lens.zipIdx 0).flatMap fun (p:Int×Nat)=>(List.range p.1.toNat).map fun (j:Nat)=>((p.2:Int),(j:Int))) p2 (fun q hq=>by
  obtain ⟨q1,q2⟩:=p3 q hq
  obtain ⟨q3,q4⟩:=h0 q hq
  have hi:q.1.toNat < s.lens.length:=by omega
  rw [getD_at _ hi] at q2
  refine List.mem_flatMap.2 ⟨(s.lens[q.1.toNat],q.1.toNat),List.mem_zipIdx_iff_getElem?.2 (List.getElem?_eq_getElem hi),List.mem_map.2 ⟨q.2.toNat,List.mem_range.2 (by simp only;omega),?_⟩⟩
  simp only
  refine Prod.ext ?_ ?_ <;> simp only <;> omega) (by
  have:=pos s.lens 0 hv
  omega)
 have hi:k < s.lens.length:=by omega
 rw [getD_at _ hi] at hj
 refine hc.mem_iff.2 (List.mem_flatMap.2 ⟨(s.lens[k],k),List.mem_zipIdx_iff_getElem?.2 (List.getElem?_eq_getElem hi),List.mem_map.2 ⟨j,List.mem_range.2 (by simp only;omega),rfl⟩⟩)
theorem card_at {s:Sg} (h:SgP s) {k:Nat} (hk:k < (cardsS s).length):(cardsS s)[k]=cdW s (opsT s.terms) k:=by
 have e:cardsS s=(List.range s.ids.length).map (cdW s (opsT s.terms)):=by rw [cardsS,if_pos h]
 simp [e]
theorem cards_len {s:Sg} (h:SgP s):(cardsS s).length=s.ids.length:=by simp [cardsS,if_pos h]
theorem card_w {s:Sg} (h:SgP s) {k:Nat} (hk:k < s.ids.length):(rowW s (opsT s.terms) k).length=s.lens.getD k 0:=by
 have:=(h.2.2.2.2.1 k hk).2.2.1.1
 simp only [rowW,List.length_map,List.length_range];omega
theorem word_at {s:Sg} (h:SgP s) {x:Tm} (hx:x∈s.terms) {k j:Nat} (hk:k < s.ids.length) (hj:(j:Int) < s.lens.getD k 0) :
  wAt (opsT s.terms) ((k:Int),(j:Int))=x.t↔((k:Int),(j:Int))∈prT x:=by
 have hn:((opsT s.terms).map (·.1)).Nodup:=by rw [opsT_keys];exact h.2.2.2.2.2.2.1
 constructor
 ·intro e
  obtain ⟨y,hy,hq⟩:=List.mem_flatMap.1 (prs_all h hk hj)
  have:=wAt_mem hn (mem_opsT.2 ⟨y,hy,rfl,hq⟩)
  rw [words_inj h.tms.srt hx hy (by rw [← e,this])];exact hq
 ·intro hq
  exact wAt_mem hn (mem_opsT.2 ⟨x,hx,rfl,hq⟩)
theorem pr_in {s:Sg} (h:SgP s) {x:Tm} (hx:x∈s.terms) {q:Int×Int} (hq:q∈prT x):∃ k j:Nat,q=((k:Int),(j:Int))∧k < s.ids.length∧(j:Int) < s.lens.getD k 0:=by
 have hp:=h.2.2.2.2.2.2.2.1 q (List.mem_flatMap.2 ⟨x,hx,hq⟩)
 obtain ⟨p,hpm,e,ha⟩:=mem_prT'.1 hq
 have h1:=(h.tms.ok x hx).2.doc p hpm
 have h2:=((h.tms.ok x hx).2.at' p hpm).1 _ ha
 have h3:=h.2.2.1
 refine ⟨q.1.toNat,q.2.toNat,Prod.ext (by simp only;omega) (by simp only;omega),by omega,?_⟩
 have:=hp.2;omega
theorem words_of {s:Sg} (h:SgP s):wlS ((cardsS s).flatMap (·.w))=s.terms.map (·.t):=by
 refine srt_ext (fun _ _=>ltB_asy) (wl_srt _) (List.pairwise_map.2 h.tms.srt) fun t=>?_
 rw [wl_mem,List.mem_flatMap]
 constructor
 ·rintro ⟨c,hc,ht⟩
  obtain ⟨k,hk,rfl⟩:=List.getElem_of_mem hc
  rw [card_at h hk] at ht
  rw [cards_len h] at hk
  obtain ⟨j,hj,rfl⟩:=List.mem_map.1 ht
  have hj2:(j:Int) < s.lens.getD k 0:=by have:=List.mem_range.1 hj;omega
  obtain ⟨y,hy,hq⟩:=List.mem_flatMap.1 (prs_all h hk hj2)
  rw [(word_at h hy hk hj2).2 hq]
  exact List.mem_map_of_mem hy
 ·intro ht
  obtain ⟨x,hx,rfl⟩:=List.mem_map.1 ht
  obtain ⟨h1,h2⟩:=h.tms.ok x hx
  obtain ⟨p,hp⟩:=List.exists_mem_of_ne_nil _ h1
  obtain ⟨a,ha⟩:=List.exists_mem_of_ne_nil _ (h2.ne p hp)
  have hq:(p.1,a)∈prT x:=mem_prT'.2 ⟨p,hp,rfl,ha⟩
  obtain ⟨k,j,e,hk,hj⟩:=pr_in h hx hq
  rw [e] at hq
  have hk2:k < (cardsS s).length:=by rw [cards_len h];exact hk
  refine ⟨(cardsS s)[k],List.getElem_mem _,?_⟩
  rw [card_at h hk2]
  exact List.mem_map.2 ⟨j,List.mem_range.2 (by omega),(word_at h hx hk hj).2 hq⟩
theorem plc_of {s:Sg} (h:SgP s) {x:Tm} (hx:x∈s.terms) {k:Nat} (hk:k < (cardsS s).length) {a:Int}:a∈plc (cardsS s)[k].w x.t↔((k:Int),a)∈prT x:=by
 have hk2:k < s.ids.length:=by rw [← cards_len h];exact hk
 rw [mem_plc,card_at h hk]
 constructor
 ·rintro ⟨j,hj,rfl,e⟩
  have hj:j < (rowW s (opsT s.terms) k).length:=hj
  have hw:=card_w h hk2
  have e:(rowW s (opsT s.terms) k)[j]=x.t:=e
  simp only [rowW,List.getElem_map,List.getElem_range] at e
  exact (word_at h hx hk2 (by omega)).1 e
 ·intro hq
  obtain ⟨k',j,e,_,hj⟩:=pr_in h hx hq
  have e1:k=k':=by have:=congrArg Prod.fst e;simp only at this;omega
  have e2:a=(j:Int):=congrArg Prod.snd e
  subst e1;subst e2
  have hw:=card_w h hk2
  refine ⟨j,by show j < (rowW s (opsT s.terms) k).length;omega,rfl,?_⟩
  show (rowW s (opsT s.terms) k)[j]'_=x.t
  simp only [rowW,List.getElem_map,List.getElem_range]
  exact (word_at h hx hk2 hj).2 hq
theorem mem_post {s:Sg} (h:SgP s) {x:Tm} (hx:x∈s.terms) {p:Po}:p∈x.p↔∃ (k:Nat) (hk:k < (cardsS s).length),p=((k:Int),plc (cardsS s)[k].w x.t)∧plc (cardsS s)[k].w x.t≠[]:=by
 have hm:=(h.tms.ok x hx).2
 have fwd:∀ p∈x.p,∃ (k:Nat) (hk:k < (cardsS s).length),p=((k:Int),plc (cardsS s)[k].w x.t):=fun p hp=>by
  obtain ⟨a,ha⟩:=List.exists_mem_of_ne_nil _ (hm.ne p hp)
  obtain ⟨k,j,e,hk,hj⟩:=pr_in h hx (q:=(p.1,a)) (mem_prT'.2 ⟨p,hp,rfl,ha⟩)
  have e1:p.1=(k:Int):=congrArg Prod.fst e
  have hk2:k < (cardsS s).length:=by rw [cards_len h];exact hk
  refine ⟨k,hk2,Prod.ext e1 ?_⟩
  refine srt_ext (r:=(· < ·)) (fun _ _ h1 h2=>by omega) (hm.at' p hp).2 (plc_pw _ _) fun a=>?_
  rw [plc_of h hx hk2,mem_prT']
  constructor
  ·intro ha;exact ⟨p,hp,e1,ha⟩
  ·rintro ⟨p',hp',e',ha'⟩
   have:p'=p:=docs_inj hm.pw hp' hp (by rw [e1];exact e')
   rw [← this];exact ha'
 constructor
 ·intro hp
  obtain ⟨k,hk,e⟩:=fwd p hp
  exact ⟨k,hk,e,by have:=hm.ne p hp;rw [e] at this;exact this⟩
 ·rintro ⟨k,hk,rfl,hne⟩
  obtain ⟨a,ha⟩:=List.exists_mem_of_ne_nil _ hne
  obtain ⟨p',hp',e',_⟩:=mem_prT'.1 ((plc_of h hx hk).1 ha)
  obtain ⟨k',hk',e2⟩:=fwd p' hp'
  have:k'=k:=by have:=congrArg Prod.fst e2;simp only at this e';omega
  subst this
  rw [← e2];exact hp'
theorem seg_canon {s:Sg} (h:SgP s):segOf (cardsS s) s.sorted=s:=by
 have e1:(cardsS s).map (·.id)=s.ids:=by
  refine List.ext_getElem (by rw [List.length_map,cards_len h]) fun k h1 h2=>?_
  have hk:k < (cardsS s).length:=by simpa using h1
  rw [List.getElem_map,card_at h hk];exact getI_lt h2
 have e2:(cardsS s).map (·.key)=s.keys:=by
  refine List.ext_getElem (by rw [List.length_map,cards_len h,h.2.1]) fun k h1 h2=>?_
  have hk:k < (cardsS s).length:=by simpa using h1
  rw [List.getElem_map,card_at h hk];exact getD_at _ h2
 have e3:(cardsS s).map (fun c=>(c.w.length:Int))=s.lens:=by
  refine List.ext_getElem (by rw [List.length_map,cards_len h,h.2.2.1]) fun k h1 h2=>?_
  have hk:k < (cardsS s).length:=by simpa using h1
  rw [List.getElem_map,card_at h hk]
  have:=card_w h (k:=k) (by rw [← cards_len h];exact hk)
  rw [getD_at _ h2] at this
  exact this
 have e4:(wlS ((cardsS s).flatMap (·.w))).map (tmOf (cardsS s))=s.terms:=by
  rw [words_of h,List.map_map]
  refine (List.map_congr_left fun x hx=>?_).trans (List.map_id _)
  have:pst ((cardsS s).map (·.w)) x.t=x.p:=by
   refine srt_ext (r:=fun p q:Po=>p.1 < q.1) (fun _ _ h1 h2=>by omega) (List.pairwise_map.1 (pst_pw _ _)) (h.tms.ok x hx).2.pw fun p=>?_
   rw [mem_pst,mem_post h hx]
   constructor
   ·rintro ⟨k,hk,e,hne⟩
    have hk':k < (cardsS s).length:=by simpa using hk
    simp only [List.getElem_map] at e hne
    exact ⟨k,hk',e,hne⟩
   ·rintro ⟨k,hk,e,hne⟩
    exact ⟨k,by simpa using hk,by simp only [List.getElem_map];exact e,by simp only [List.getElem_map];exact hne⟩
  show tmOf (cardsS s) x.t=x
  rw [tmOf,this]
 rw [segOf,e1,e2,e3,e4]
end Go.Aw
namespace Go.Aw
open Go.Proofs Go.Sort
set_option maxRecDepth 100000
set_option maxHeartbeats 4000000
theorem mem_left {v:List (List Bool)} {p:Nat×Nat}:p∈leftP v↔p.1 < v.length∧p.2 < (v.getD p.1 []).length∧(v.getD p.1 []).getD p.2 false=true:=by
 rw [leftP,leftN,List.mem_flatMap]
 constructor
 ·rintro ⟨i,hi,h⟩
  obtain ⟨j,hj,rfl⟩:=List.mem_map.1 h
  rw [liveD,List.mem_filter] at hj
  exact ⟨List.mem_range.1 hi,List.mem_range.1 hj.1,hj.2⟩
 ·rintro ⟨h1,h2,h3⟩
  exact ⟨p.1,List.mem_range.2 h1,List.mem_map.2 ⟨p.2,List.mem_filter.2 ⟨List.mem_range.2 h2,h3⟩,rfl⟩⟩
theorem left_nd {v:List (List Bool)}:(leftP v).Nodup:=by
 unfold leftP leftN List.Nodup
 rw [List.pairwise_flatMap]
 refine ⟨fun i _=>?_,?_⟩
 ·rw [List.pairwise_map]
  exact (List.Pairwise.filter _ List.pairwise_lt_range).imp fun h e=>by
   have:=congrArg Prod.snd e
   simp only at this;omega
 ·refine List.pairwise_lt_range.imp fun h x hx y hy e=>?_
  obtain ⟨a,_,rfl⟩:=List.mem_map.1 hx
  obtain ⟨b,_,rfl⟩:=List.mem_map.1 hy
  have:=congrArg Prod.fst e
  simp only at this;omega
theorem liveD_pre {x:List Bool} {j:Nat}:∀ {m:Nat},j≤m→∃ r,liveD x m=liveD x j++r
 | 0,h=>by
  have:j=0:=by omega
  subst this;exact ⟨[],by simp⟩
 | m+1,h=>by
  by_cases e:j=m+1
  ·subst e;exact ⟨[],by simp⟩
  ·obtain ⟨r,hr⟩:=liveD_pre (x:=x) (j:=j) (m:=m) (by omega)
   refine ⟨r++[m].filter fun d=>x.getD d false,?_⟩
   rw [liveD,List.range_succ,List.filter_append,← List.append_assoc,← hr];rfl
theorem leftN_pre {v:List (List Bool)} {k:Nat}:∀ {m:Nat},k≤m→∃ r,leftN v m=leftN v k++r
 | 0,h=>by
  have:k=0:=by omega
  subst this;exact ⟨[],by simp⟩
 | m+1,h=>by
  by_cases e:k=m+1
  ·subst e;exact ⟨[],by simp⟩
  ·obtain ⟨r,hr⟩:=leftN_pre (v:=v) (k:=k) (m:=m) (by omega)
   exact ⟨_,by rw [leftN_succ,hr,List.append_assoc]⟩
theorem left_idx {v:List (List Bool)} {i j:Nat} (hi:i < v.length) (hj:j < (v.getD i []).length) (h:(v.getD i []).getD j false=true):(leftP v)[(leftN v i).length+cntB ((v.getD i []).take j)]?=some (i,j):=by
 obtain ⟨r,hr⟩:=leftN_pre (v:=v) (k:=i+1) (m:=v.length) hi
 rw [leftP,hr,leftN_succ]
 obtain ⟨r2,hr2⟩:=liveD_pre (x:=v.getD i []) (j:=j+1) (m:=(v.getD i []).length) hj
 have hs:=liveD_succ (x:=v.getD i []) (j:=j) hj
 rw [getD_at _ hj] at h
 rw [h,if_pos rfl] at hs
 rw [hr2,hs,← liveD_cnt (Nat.le_of_lt hj)]
 simp
def ordI (l:List Sg) (v:List (List Bool)) (b:Bool):List Nat:=if b=true then ordN ((leftP v).map (keyP l)) ((leftP v).map (idP l)) else List.range (leftP v).length
def permL (l:List Sg) (v:List (List Bool)) (b:Bool):List (Nat×Nat):=(ordI l v b).map fun i=>(leftP v).getD i (0,0)
def cdP (l:List Sg) (p:Nat×Nat):Cd:=(cardsS (l.getD p.1 noSg)).getD p.2 noCd
def ordL (l:List Sg) (v:List (List Bool)) (b:Bool):List Cd:=(permL l v b).map (cdP l)
theorem ordI_perm {l:List Sg} {v:List (List Bool)} {b:Bool}:(ordI l v b).Perm (List.range (leftP v).length):=by
 unfold ordI;split
 ·have:=ordN_perm (ks:=(leftP v).map (keyP l)) (ds:=(leftP v).map (idP l))
  rwa [List.length_map] at this
 ·exact .refl _
theorem range_getD {α:Type} (l:List α) (d:α):(List.range l.length).map (fun i=>l.getD i d)=l:=by
 refine List.ext_getElem (by simp) fun i h1 h2=>?_
 rw [List.getElem_map,List.getElem_range];exact getD_at _ h2
theorem permL_perm {l:List Sg} {v:List (List Bool)} {b:Bool}:(permL l v b).Perm (leftP v):=by
 have:=(ordI_perm (l:=l) (v:=v) (b:=b)).map fun i=>(leftP v).getD i (0,0)
 rwa [range_getD] at this
theorem permL_false {l:List Sg} {v:List (List Bool)}:permL l v false=leftP v:=by rw [permL,ordI,if_neg (by simp),range_getD]
theorem permL_len {l:List Sg} {v:List (List Bool)} {b:Bool}:(permL l v b).length=manyN v:=by rw [permL_perm.length_eq,leftP_len]
structure TabP (v:List (List Bool)) (P:List (Nat×Nat)) (t:List (List Int)):Prop where
 len:t.length=v.length
 row:∀ i,i < v.length→(t.getD i []).length=(v.getD i []).length
 live:∀ i j,i < v.length→j < (v.getD i []).length→(v.getD i []).getD j false=true→∃ k:Nat,P[k]?=some (i,j)∧(t.getD i []).getD j (-1)=k
 dead:∀ i j,i < v.length→j < (v.getD i []).length→(v.getD i []).getD j false=false→(t.getD i []).getD j (-1)=-1
theorem tabS_at {x:List Bool} {n j:Nat} (hj:j < x.length):(tabS x n).getD j (-1)=if x.getD j false=true then ((n+cntB (x.take j):Nat):Int) else -1:=by
 have h:j < (tabS x n).length:=by simpa [tabS,tabK] using hj
 rw [getD_at _ h]
 simp only [tabS,tabK,List.getElem_map,List.getElem_range]
theorem tabs0_at {v:List (List Bool)} {i:Nat} (hi:i < v.length):(tabs0 v v.length).getD i []=tabS (v.getD i []) (leftN v i).length:=by
 have h:i < (tabs0 v v.length).length:=by simpa [tabs0] using hi
 rw [getD_at _ h]
 simp only [tabs0,List.getElem_map,List.getElem_range]
theorem tab_ok {l:List Sg} {v:List (List Bool)} {b:Bool}:TabP v (permL l v b) (tabsS l v b):=by
 have hl0:(tabs0 v v.length).length=v.length:=by simp [tabs0]
 have row0:∀ i,i < v.length→((tabs0 v v.length).getD i []).length=(v.getD i []).length:=fun i hi=>by rw [tabs0_at hi];simp [tabS,tabK]
 cases b with
 | false =>
  have e:tabsS l v false=tabs0 v v.length:=by rw [tabsS,if_neg (by simp)]
  rw [e,permL_false]
  refine ⟨hl0,row0,fun i j hi hj h=>?_,fun i j hi hj h=>?_⟩
  ·rw [tabs0_at hi,tabS_at hj,if_pos h]
   exact ⟨_,left_idx hi hj h,rfl⟩
  ·rw [tabs0_at hi,tabS_at hj,if_neg (by rw [h];simp)]
 | true =>
  have e:tabsS l v true=(tabs0 v v.length).map fun t=>t.map (thenV (turnL l v)):=by rw [tabsS,if_pos rfl]
  have e2:∀ i,i < v.length→(tabsS l v true).getD i []=(tabS (v.getD i []) (leftN v i).length).map (thenV (turnL l v)):=fun i hi=>by
   have h:i < (tabs0 v v.length).length:=by omega
   have h':i < (tabsS l v true).length:=by rw [e];simpa using h
   rw [getD_at _ h',← tabs0_at hi,getD_at _ h]
   simp only [e,List.getElem_map]
  have e3:∀ i j,i < v.length→j < (v.getD i []).length→((tabsS l v true).getD i []).getD j (-1)=thenV (turnL l v) ((tabS (v.getD i []) (leftN v i).length).getD j (-1)):=fun i j hi hj=>by
   have h:j < (tabS (v.getD i []) (leftN v i).length).length:=by simpa [tabS,tabK] using hj
   rw [e2 i hi,getD_at _ h,getD_at _ (by simpa using h)]
   simp only [List.getElem_map]
  refine ⟨by rw [e];simpa using hl0,fun i hi=>by rw [e2 i hi];simp [tabS,tabK],fun i j hi hj h=>?_,fun i j hi hj h=>?_⟩
  ·rw [e3 i j hi hj,tabS_at hj,if_pos h]
   have hx:=left_idx hi hj h
   generalize (leftN v i).length+cntB ((v.getD i []).take j)=n at hx
   obtain ⟨hn,hx⟩:=List.getElem?_eq_some_iff.1 hx
   have hp:=ordN_perm (ks:=(leftP v).map (keyP l)) (ds:=(leftP v).map (idP l))
   have hpl:=hp.length_eq
   simp only [List.length_map,List.length_range] at hpl hp
   have hI:ordI l v true=ordN ((leftP v).map (keyP l)) ((leftP v).map (idP l)):=by rw [ordI,if_pos rfl]
   rw [thenV,turnL]
   generalize ordN ((leftP v).map (keyP l)) ((leftP v).map (idP l))=o at *
   have hm:n∈o:=hp.mem_iff.2 (List.mem_range.2 hn)
   have htl:(turnP o).length=o.length:=by simp [turnP,turnK]
   rw [if_pos ⟨by omega,by rw [htl];omega⟩,Int.toNat_natCast,getD_at _ (by omega)]
   have hk:=List.idxOf_lt_length_of_mem hm
   refine ⟨o.idxOf n,?_,?_⟩
   ·rw [permL,hI,List.getElem?_map,List.getElem?_eq_getElem hk,List.getElem_idxOf hk]
    show some ((leftP v).getD n (0,0))=_
    rw [getD_at _ hn,hx]
   ·simp only [turnP,turnK,List.getElem_map,List.getElem_range,List.take_length]
    rw [if_pos hm]
  ·rw [e3 i j hi hj,tabS_at hj,if_neg (by rw [h];simp),thenV,if_neg (by omega)]
theorem right_v {l:List Sg} {v:List (List Bool)} (hr:rightP l v) {p:Nat×Nat} (hp:p∈leftP v):p.1 < l.length∧SgP (l.getD p.1 noSg)∧p.2 < (l.getD p.1 noSg).ids.length:=by
 obtain ⟨h1,h2,_⟩:=mem_left.1 hp
 obtain ⟨r1,r2⟩:=hr
 have h3:p.1 < l.length:=by omega
 obtain ⟨h4,h5⟩:=r2 _ h3
 exact ⟨h3,h4,by omega⟩
theorem cdP_eq {l:List Sg} {v:List (List Bool)} (hr:rightP l v) {p:Nat×Nat} (hp:p∈leftP v):cdP l p=cdW (l.getD p.1 noSg) (opsT (l.getD p.1 noSg).terms) p.2:=by
 obtain ⟨_,h2,h3⟩:=right_v hr hp
 rw [cdP,getD_at _ (by rw [cards_len h2];exact h3),card_at h2]
theorem cdP_id {l:List Sg} {v:List (List Bool)} (hr:rightP l v) {p:Nat×Nat} (hp:p∈leftP v):(cdP l p).id=idP l p:=by rw [cdP_eq hr hp];rfl
theorem cdP_key {l:List Sg} {v:List (List Bool)} (hr:rightP l v) {p:Nat×Nat} (hp:p∈leftP v):(cdP l p).key=keyP l p:=by rw [cdP_eq hr hp];rfl
theorem cdP_w {l:List Sg} {v:List (List Bool)} (hr:rightP l v) {p:Nat×Nat} (hp:p∈leftP v):((cdP l p).w.length:Int)=lenP' l p:=by
 obtain ⟨_,h2,h3⟩:=right_v hr hp
 rw [cdP_eq hr hp]
 exact card_w h2 h3
theorem cdP_fit {l:List Sg} {v:List (List Bool)} (hr:rightP l v) {p:Nat×Nat} (hp:p∈leftP v):mayC (cdP l p)=true:=by
 obtain ⟨_,h2,h3⟩:=right_v hr hp
 obtain ⟨k1,k2,k3,_⟩:=h2.2.2.2.2.1 _ h3
 have hw:=cdP_w hr hp
 rw [lenP'] at hw
 simp only [mayC,Bool.and_eq_true,decide_eq_true_eq,List.all_eq_true]
 refine ⟨by rw [cdP_id hr hp];exact k1,by rw [cdP_key hr hp];exact k2.1,by rw [cdP_key hr hp];exact k2.2,by omega,fun x hx=>?_⟩
 have hk:p.2 < (cardsS (l.getD p.1 noSg)).length:=by rw [cards_len h2];exact h3
 have hx2:x∈wlS ((cardsS (l.getD p.1 noSg)).flatMap (·.w)):=by
  rw [wl_mem,List.mem_flatMap]
  refine ⟨_,List.getElem_mem hk,?_⟩
  rw [← getD_at noCd hk];exact hx
 rw [words_of h2] at hx2
 obtain ⟨y,hy,rfl⟩:=List.mem_map.1 hx2
 exact h2.tms.fit y hy
end Go.Aw
namespace Go.Aw
open Go.Proofs Go.Sort
set_option maxRecDepth 100000
set_option maxHeartbeats 4000000
def noTm:Tm:=⟨default,[]⟩
def tmZ (l:List Sg) (z:Nat×Nat):Tm:=(l.getD z.1 noSg).terms.getD z.2 noTm
def plZ (l:List Sg) (t:List (List Int)) (z:Nat×Nat):List Po:=plS (t.getD z.1 []) (tmZ l z).p
def allZ (l:List Sg):List (Nat×Nat):=(List.range l.length).flatMap fun i=>(List.range (l.getD i noSg).terms.length).map fun a=>(i,a)
def ltZ (l:List Sg) (x y:Nat×Nat):Prop:=ltB' (tmZ l x).t (tmZ l y).t=true∨((tmZ l x).t=(tmZ l y).t∧x.1 < y.1)
theorem mem_allZ {l:List Sg} {z:Nat×Nat}:z∈allZ l↔z.1 < l.length∧z.2 < (l.getD z.1 noSg).terms.length:=by
 rw [allZ,List.mem_flatMap]
 constructor
 ·rintro ⟨i,hi,h⟩
  obtain ⟨j,hj,rfl⟩:=List.mem_map.1 h
  exact ⟨List.mem_range.1 hi,List.mem_range.1 hj⟩
 ·rintro ⟨h1,h2⟩
  exact ⟨z.1,List.mem_range.2 h1,List.mem_map.2 ⟨z.2,List.mem_range.2 h2,rfl⟩⟩
theorem allZ_nd {l:List Sg}:(allZ l).Nodup:=by
 unfold allZ List.Nodup
 rw [List.pairwise_flatMap]
 refine ⟨fun i _=>?_,?_⟩
 ·rw [List.pairwise_map]
  exact List.pairwise_lt_range.imp fun h e=>by
   have:=congrArg Prod.snd e
   simp only at this;omega
 ·refine List.pairwise_lt_range.imp fun h x hx y hy e=>?_
  obtain ⟨a,_,rfl⟩:=List.mem_map.1 hx
  obtain ⟨b,_,rfl⟩:=List.mem_map.1 hy
  have:=congrArg Prod.fst e
  simp only at this;omega
theorem ltB_or (a b:ByteArray):ltB' a b=true∨a=b∨ltB' b a=true:=by
 by_cases h:ltB' a b=true
 ·exact .inl h
 ·by_cases e:a=b
  ·exact .inr (.inl e)
  ·refine .inr (.inr ?_)
   have h1:¬ cmpS a b < 0:=fun q=>h (decide_eq_true q)
   have h2:=cmpS_neg a b
   have h3:cmpS a b≠0:=fun q=>e (cmpS_zero.1 q)
   exact decide_eq_true (by omega)
theorem ltZ_trans {l:List Sg} {x y z:Nat×Nat} (h:ltZ l x y) (k:ltZ l y z):ltZ l x z:=by
 rcases h with h|⟨h,h2⟩
 ·rcases k with k|⟨k,_⟩
  ·exact .inl (ltB_trans h k)
  ·exact .inl (by rw [← k];exact h)
 ·rcases k with k|⟨k,k2⟩
  ·exact .inl (by rw [h];exact k)
  ·exact .inr ⟨h.trans k,by omega⟩
theorem ltZ_irr {l:List Sg} {x:Nat×Nat}:¬ ltZ l x x:=by
 rintro (h|⟨_,h⟩)
 ·rw [ltB_irr] at h;cases h
 ·omega
abbrev allT (l:List Sg):Prop:=∀ i,i < l.length→TmsP (l.getD i noSg)
theorem tmZ_eq {l:List Sg} {z:Nat×Nat} (h:z.2 < (l.getD z.1 noSg).terms.length):tmZ l z=(l.getD z.1 noSg).terms[z.2]:=getD_at _ h
theorem ltZ_snd {l:List Sg} (hT:allT l) {i a b:Nat} (hi:i < l.length) (ha:a < (l.getD i noSg).terms.length) (hb:b < (l.getD i noSg).terms.length):ltZ l (i,a) (i,b)↔a < b:=by
 have hs:=(hT i hi).srt
 rw [ltZ,tmZ_eq (z:=(i,a)) ha,tmZ_eq (z:=(i,b)) hb]
 constructor
 ·rintro (h|⟨_,h⟩)
  ·rcases Nat.lt_trichotomy a b with k|k|k
   ·exact k
   ·subst k;rw [ltB_irr] at h;cases h
   ·exact absurd h (ltB_asy (List.pairwise_iff_getElem.1 hs b a hb ha k))
  ·simp only at h;omega
 ·intro h
  exact .inl (List.pairwise_iff_getElem.1 hs a b ha hb h)
theorem ltZ_tri {l:List Sg} (hT:allT l) {x y:Nat×Nat} (hx:x∈allZ l) (hy:y∈allZ l) (h1:¬ ltZ l x y) (h2:¬ ltZ l y x):x=y:=by
 obtain ⟨i,a⟩:=x
 obtain ⟨j,b⟩:=y
 obtain ⟨x1,x2⟩:=mem_allZ.1 hx
 obtain ⟨y1,y2⟩:=mem_allZ.1 hy
 have e:(tmZ l (i,a)).t=(tmZ l (j,b)).t:=by
  rcases ltB_or (tmZ l (i,a)).t (tmZ l (j,b)).t with h|h|h
  ·exact absurd (.inl h) h1
  ·exact h
  ·exact absurd (.inl h) h2
 have e2:i=j:=by
  rcases Nat.lt_trichotomy i j with h|h|h
  ·exact absurd (.inr ⟨e,h⟩) h1
  ·exact h
  ·exact absurd (.inr ⟨e.symm,h⟩) h2
 subst e2
 rw [ltZ_snd hT x1 x2 y2] at h1
 rw [ltZ_snd hT x1 y2 x2] at h2
 have:a=b:=by omega
 rw [this]
instance (l:List Sg) (x y:Nat×Nat):Decidable (ltZ l x y):=by unfold ltZ;exact inferInstance
theorem ex_Z {l:List Sg} (hT:allT l):∃ Z:List (Nat×Nat),Z.Perm (allZ l)∧Z.Pairwise (ltZ l):=by
 refine ⟨(allZ l).mergeSort fun x y=>decide (¬ ltZ l y x),List.mergeSort_perm _ _,?_⟩
 have hp:=List.mergeSort_perm (allZ l) fun x y=>decide (¬ ltZ l y x)
 have:=List.pairwise_mergeSort (le:=fun x y=>decide (¬ ltZ l y x)) (fun a b c h1 h2=>by
  simp only [decide_eq_true_eq] at *
  intro e
  rcases ltB_or (tmZ l a).t (tmZ l b).t with h|h|h
  ·exact h2 (ltZ_trans e (.inl h))
  ·rcases Nat.lt_or_ge a.1 b.1 with k|k
   ·exact h2 (ltZ_trans e (.inr ⟨h,k⟩))
   ·rcases Nat.lt_or_ge b.1 a.1 with k2|k2
    ·exact h1 (.inr ⟨h.symm,k2⟩)
    ·rcases e with e|⟨e,e2⟩
     ·exact h2 (.inl (by rw [← h];exact e))
     ·exact h2 (.inr ⟨e.trans h,by omega⟩)
  ·exact h1 (.inl h)) (fun a b=>by
  simp only [Bool.or_eq_true,decide_eq_true_eq]
  by_cases h:ltZ l b a
  ·exact .inr fun e=>ltZ_irr (ltZ_trans h e)
  ·exact .inl h) (allZ l)
 refine ((this.imp fun h=>of_decide_eq_true h).and (hp.nodup_iff.2 allZ_nd)).imp_of_mem fun {a b} ha hb h=>?_
 by_cases e:ltZ l a b
 ·exact e
 ·exact absurd (ltZ_tri hT (hp.mem_iff.1 ha) (hp.mem_iff.1 hb) e h.1) h.2
def cntZ (i:Nat) (Z:List (Nat×Nat)):Nat:=(Z.filter fun z=>decide (z.1=i)).length
theorem cntZ_succ {i k:Nat} {Z:List (Nat×Nat)} (hk:k < Z.length):cntZ i (Z.take (k+1))=cntZ i (Z.take k)+if Z[k].1=i then 1 else 0:=by
 rw [cntZ,List.take_succ_eq_append_getElem hk,List.filter_append,List.length_append,cntZ]
 congr 1
 by_cases h:Z[k].1=i <;> simp [h]
theorem cntZ_mono {i a b:Nat} {Z:List (Nat×Nat)} (h:a≤b):cntZ i (Z.take a)≤cntZ i (Z.take b):=by
 have:Z.take a=(Z.take b).take a:=by rw [List.take_take,Nat.min_eq_left h]
 rw [cntZ,cntZ,this]
 exact (((List.take_sublist a (Z.take b)).filter _).length_le)
structure RunZ (l:List Sg) (Z:List (Nat×Nat)):Prop where
 T:allT l
 perm:Z.Perm (allZ l)
 pw:Z.Pairwise (ltZ l)
theorem RunZ.seg {l:List Sg} {Z:List (Nat×Nat)} (h:RunZ l Z) {i:Nat} (hi:i < l.length):(Z.filter fun z=>decide (z.1=i)).map (·.2)=List.range (l.getD i noSg).terms.length:=by
 refine srt_ext (r:=(· < ·)) (fun _ _ h1 h2=>by omega) ?_ List.pairwise_lt_range fun a=>?_
 ·rw [List.pairwise_map]
  refine (h.pw.filter _).imp_of_mem fun {x y} hx hy k=>?_
  rw [List.mem_filter,decide_eq_true_eq] at hx hy
  obtain ⟨x1,x2⟩:=hx
  obtain ⟨y1,y2⟩:=hy
  have x3:=(mem_allZ.1 (h.perm.mem_iff.1 x1)).2
  have y3:=(mem_allZ.1 (h.perm.mem_iff.1 y1)).2
  obtain ⟨i1,a⟩:=x
  obtain ⟨i2,b⟩:=y
  simp only at x2 y2 x3 y3
  subst x2
  subst y2
  exact (ltZ_snd h.T hi x3 y3).1 k
 ·rw [List.mem_map,List.mem_range]
  constructor
  ·rintro ⟨x,hx,rfl⟩
   rw [List.mem_filter,decide_eq_true_eq] at hx
   have:=(mem_allZ.1 (h.perm.mem_iff.1 hx.1)).2
   rw [hx.2] at this;exact this
  ·intro ha
   exact ⟨(i,a),List.mem_filter.2 ⟨h.perm.mem_iff.2 (mem_allZ.2 ⟨hi,ha⟩),by simp⟩,rfl⟩
theorem RunZ.at {l:List Sg} {Z:List (Nat×Nat)} (h:RunZ l Z) {k:Nat} (hk:k < Z.length):Z[k].2=cntZ Z[k].1 (Z.take k):=by
 have hi:=(mem_allZ.1 (h.perm.mem_iff.1 (List.getElem_mem hk))).1
 have hs:=h.seg hi
 have e:Z=Z.take k++Z[k]::Z.drop (k+1):=by rw [← List.drop_eq_getElem_cons hk,List.take_append_drop]
 generalize hz:Z[k]=z at *
 rw [e,List.filter_append,List.map_append,List.filter_cons,if_pos (by simp)] at hs
 have h1:=congrArg (fun (q:List Nat)=>q[cntZ z.1 (Z.take k)]?) hs
 simp only [List.map_cons] at h1
 rw [List.getElem?_append_right (by rw [List.length_map];exact Nat.le_refl _),List.length_map] at h1
 rw [show cntZ z.1 (Z.take k)-(List.filter (fun w=>decide (w.1=z.1)) (Z.take k)).length=0 from Nat.sub_self _,List.getElem?_cons_zero] at h1
 have h2:=List.getElem?_eq_some_iff.1 h1.symm
 obtain ⟨h3,h4⟩:=h2
 rw [List.getElem_range] at h4
 exact h4.symm
theorem RunZ.next {l:List Sg} {Z:List (Nat×Nat)} (h:RunZ l Z) {i k:Nat} (hi:i < l.length) (hc:cntZ i (Z.take k) < (l.getD i noSg).terms.length):∃ m,k≤m∧Z[m]?=some (i,cntZ i (Z.take k)):=by
 obtain ⟨m,hm,e⟩:=List.getElem_of_mem (h.perm.mem_iff.2 ((mem_allZ (z:=(i,cntZ i (Z.take k)))).2 ⟨hi,hc⟩))
 refine ⟨m,?_,by rw [List.getElem?_eq_getElem hm,e]⟩
 rcases Nat.lt_or_ge m k with hlt|hge
 ·have h1:=h.at hm
  have h2:=cntZ_succ (i:=i) hm
  rw [e] at h1 h2
  simp only [if_pos] at h1 h2
  have h3:=cntZ_mono (i:=i) (Z:=Z) (a:=m+1) (b:=k) hlt
  omega
 ·exact hge
theorem RunZ.least {l:List Sg} {Z:List (Nat×Nat)} (h:RunZ l Z) {i k:Nat} (hk:k < Z.length) (hi:i < l.length) (hc:cntZ i (Z.take k) < (l.getD i noSg).terms.length) (hne:i≠Z[k].1):ltZ l Z[k] (i,cntZ i (Z.take k)):=by
 obtain ⟨m,h1,h2⟩:=h.next hi hc
 obtain ⟨hm,e⟩:=List.getElem?_eq_some_iff.1 h2
 rcases Nat.lt_or_ge k m with h3|h3
 ·have:=List.pairwise_iff_getElem.1 h.pw k m hk hm h3
  rw [e] at this;exact this
 ·have:m=k:=by omega
  subst this
  rw [e] at hne;exact absurd rfl hne
def lastT (O:List Tm):Tm:=O.getD (O.length-1) noTm
def stepW (O:List Tm) (x:ByteArray) (p:List Po):List Tm :=
 if 0 < O.length∧(lastT O).t=x then O.set (O.length-1) ⟨x,(lastT O).p++p⟩ else if p=[] then O else O++[⟨x,p⟩]
def outW (l:List Sg) (t:List (List Int)) (Z:List (Nat×Nat)):List Tm:=Z.foldl (fun O z=>stepW O (tmZ l z).t (plZ l t z)) []
theorem outW_succ {l:List Sg} {t:List (List Int)} {Z:List (Nat×Nat)} {k:Nat} (hk:k < Z.length):outW l t (Z.take (k+1))=stepW (outW l t (Z.take k)) (tmZ l Z[k]).t (plZ l t Z[k]):=by
 rw [outW,List.take_succ_eq_append_getElem hk,List.foldl_append];rfl
structure OutP (l:List Sg) (t:List (List Int)) (O:List Tm) (Z:List (Nat×Nat)):Prop where
 srt:O.Pairwise fun x y=>ltB' x.t y.t=true
 ne:∀ x∈O,x.p≠[]
 mem:∀ x∈O,∀ q,q∈x.p↔∃ z∈Z,(tmZ l z).t=x.t∧q∈plZ l t z
 wds:∀ y,y∈O.map (·.t)↔∃ z∈Z,(tmZ l z).t=y∧plZ l t z≠[]
 nd:∀ x∈O,(x.p.map (·.1)).Nodup
theorem last_eq {O:List Tm} (h:0 < O.length):lastT O=O[O.length-1]:=getD_at _ (by omega)
theorem OutP.step {l:List Sg} {t:List (List Int)} {O:List Tm} {Z:List (Nat×Nat)} {z:Nat×Nat} (h:OutP l t O Z) (hz:∀ y∈Z,ltZ l y z) (hd:((plZ l t z).map (·.1)).Nodup)
  (hdis:∀ y∈Z,y.1≠z.1→∀ q∈plZ l t y,∀ r∈plZ l t z,q.1≠r.1):OutP l t (stepW O (tmZ l z).t (plZ l t z)) (Z++[z]):=by
 have ex:∀ (Q:Nat×Nat→Prop),(∃ y∈Z++[z],Q y)↔(∃ y∈Z,Q y)∨Q z:=fun Q=>by
  constructor
  ·rintro ⟨y,hy,hq⟩
   rcases List.mem_append.1 hy with hy|hy
   ·exact .inl ⟨y,hy,hq⟩
   ·simp at hy;subst hy;exact .inr hq
  ·rintro (⟨y,hy,hq⟩|hq)
   ·exact ⟨y,List.mem_append_left _ hy,hq⟩
   ·exact ⟨z,by simp,hq⟩
 unfold stepW
 by_cases c:0 < O.length∧(lastT O).t=(tmZ l z).t
 ·rw [if_pos c]
  obtain ⟨c1,c2⟩:=c
  have hle:=last_eq c1
  have hlm:lastT O∈O:=by rw [hle];exact List.getElem_mem _
  have hmap:(O.set (O.length-1) ⟨(tmZ l z).t,(lastT O).p++plZ l t z⟩).map (·.t)=O.map (·.t):=by
   refine List.ext_getElem (by simp) fun k h1 h2=>?_
   rw [List.getElem_map,List.getElem_map,List.getElem_set]
   split
   ·rename_i e
    subst e
    rw [← c2,hle]
   ·rfl
  have cases':∀ x∈O.set (O.length-1) ⟨(tmZ l z).t,(lastT O).p++plZ l t z⟩,x=⟨(tmZ l z).t,(lastT O).p++plZ l t z⟩∨(x∈O∧x.t≠(tmZ l z).t):=fun x hx=>by
   obtain ⟨k,hk,rfl⟩:=List.getElem_of_mem hx
   rw [List.length_set] at hk
   rw [List.getElem_set]
   split
   ·exact .inl rfl
   ·rename_i e
    refine .inr ⟨List.getElem_mem _,fun q=>?_⟩
    have:=List.pairwise_iff_getElem.1 h.srt k (O.length-1) hk (by omega) (by omega)
    rw [q,← c2,hle,ltB_irr] at this;cases this
  refine ⟨?_,fun x hx=>?_,fun x hx q=>?_,fun y=>?_,fun x hx=>?_⟩
  ·have:(O.map (·.t)).Pairwise fun a b=>ltB' a b=true:=List.pairwise_map.2 h.srt
   rw [← hmap] at this
   exact List.pairwise_map.1 this
  ·rcases cases' x hx with rfl|⟨hx,_⟩
   ·intro e
    exact h.ne _ hlm (List.append_eq_nil_iff.1 e).1
   ·exact h.ne x hx
  ·rw [ex]
   rcases cases' x hx with rfl|⟨hx,hne⟩
   ·rw [List.mem_append,h.mem _ hlm q,c2]
    simp
   ·rw [h.mem x hx]
    exact ⟨.inl,fun e=>e.elim id fun e=>absurd e.1.symm hne⟩
  ·rw [hmap,ex,h.wds]
   refine ⟨.inl,fun e=>e.elim id fun e=>?_⟩
   rw [← h.wds,← e.1,← c2]
   exact List.mem_map_of_mem hlm
  ·rcases cases' x hx with rfl|⟨hx,_⟩
   ·rw [List.map_append]
    unfold List.Nodup
    rw [List.pairwise_append]
    refine ⟨h.nd _ hlm,hd,fun a ha b hb e=>?_⟩
    obtain ⟨q,hq,rfl⟩:=List.mem_map.1 ha
    obtain ⟨r,hr,rfl⟩:=List.mem_map.1 hb
    obtain ⟨y,hy,y1,y2⟩:=(h.mem _ hlm q).1 hq
    rcases hz y hy with k|⟨_,k⟩
    ·rw [y1,c2,ltB_irr] at k;cases k
    ·exact hdis y hy (by omega) q y2 r hr e
   ·exact h.nd x hx
 ·rw [if_neg c]
  by_cases c2:plZ l t z=[]
  ·rw [if_pos c2]
   refine ⟨h.srt,h.ne,fun x hx q=>?_,fun y=>?_,h.nd⟩
   ·rw [h.mem x hx,ex]
    exact ⟨.inl,fun e=>e.elim id fun e=>by rw [c2] at e;cases e.2⟩
   ·rw [h.wds,ex]
    exact ⟨.inl,fun e=>e.elim id fun e=>absurd c2 e.2⟩
  ·rw [if_neg c2]
   have hle:∀ x∈O,ltB' x.t (tmZ l z).t=true:=fun x hx=>by
    have bound:∀ x∈O,ltB' x.t (tmZ l z).t=true∨x.t=(tmZ l z).t:=fun x hx=>by
     obtain ⟨y,hy,e,_⟩:=(h.wds x.t).1 (List.mem_map_of_mem hx)
     rcases hz y hy with k|⟨k,_⟩
     ·exact .inl (by rw [← e];exact k)
     ·exact .inr (by rw [← e];exact k)
    rcases bound x hx with k|k
    ·exact k
    ·exfalso
     obtain ⟨i,hi,rfl⟩:=List.getElem_of_mem hx
     have h0:0 < O.length:=by omega
     have hl:=last_eq h0
     rcases Nat.lt_or_ge i (O.length-1) with h1|h1
     ·have h2:=List.pairwise_iff_getElem.1 h.srt i (O.length-1) hi (by omega) h1
      rw [k,← hl] at h2
      rcases bound (lastT O) (by rw [hl];exact List.getElem_mem _) with h3|h3
      ·exact ltB_asy h2 h3
      ·rw [h3,ltB_irr] at h2;cases h2
     ·have:i=O.length-1:=by omega
      subst this
      exact c ⟨h0,by rw [hl];exact k⟩
   have hno:∀ y∈Z,(tmZ l y).t=(tmZ l z).t→plZ l t y=[]:=fun y hy e=>by
    by_cases q:plZ l t y=[]
    ·exact q
    ·have:=(h.wds (tmZ l z).t).2 ⟨y,hy,e,q⟩
     obtain ⟨x,hx,e2⟩:=List.mem_map.1 this
     have:=hle x hx
     rw [e2,ltB_irr] at this;cases this
   have cases':∀ x∈O++[(⟨(tmZ l z).t,plZ l t z⟩:Tm)],x∈O∨x=⟨(tmZ l z).t,plZ l t z⟩:=fun x hx=>by simpa using hx
   refine ⟨?_,fun x hx=>?_,fun x hx q=>?_,fun y=>?_,fun x hx=>?_⟩
   ·rw [List.pairwise_append]
    exact ⟨h.srt,by simp,fun a ha b hb=>by simp at hb;subst hb;exact hle a ha⟩
   ·rcases cases' x hx with hx|rfl
    ·exact h.ne x hx
    ·exact c2
   ·rw [ex]
    rcases cases' x hx with hx|rfl
    ·rw [h.mem x hx]
     refine ⟨.inl,fun e=>e.elim id fun e=>?_⟩
     have:=hle x hx
     rw [e.1,ltB_irr] at this;cases this
    ·constructor
     ·intro hq;exact .inr ⟨rfl,hq⟩
     ·rintro (⟨y,hy,e,hq⟩|⟨_,hq⟩)
      ·rw [hno y hy e] at hq;cases hq
      ·exact hq
   ·rw [List.map_append,List.mem_append,h.wds,ex]
    constructor
    ·rintro (e|e)
     ·exact .inl e
     ·simp at e;exact .inr ⟨e.symm,c2⟩
    ·rintro (e|⟨e,_⟩)
     ·exact .inl e
     ·exact .inr (by simp [e])
   ·rcases cases' x hx with hx|rfl
    ·exact h.nd x hx
    ·exact hd
end Go.Aw
namespace Go.Aw
open Go.Proofs Go.Sort
set_option maxRecDepth 100000
set_option maxHeartbeats 4000000
structure WdP (l:List Sg) (v:List (List Bool)) (P:List (Nat×Nat)) (t:List (List Int)):Prop where
 r:rightP l v
 tab:TabP v P t
 perm:P.Perm (leftP v)
theorem WdP.nd {l:List Sg} {v:List (List Bool)} {P:List (Nat×Nat)} {t:List (List Int)} (h:WdP l v P t):P.Nodup:=h.perm.nodup_iff.2 left_nd
theorem WdP.T {l:List Sg} {v:List (List Bool)} {P:List (Nat×Nat)} {t:List (List Int)} (h:WdP l v P t):allT l:=fun i hi=>(h.r.2 i hi).1.tms
theorem tmZ_mem {l:List Sg} {z:Nat×Nat} (hz:z∈allZ l):tmZ l z∈(l.getD z.1 noSg).terms:=by
 rw [tmZ_eq (mem_allZ.1 hz).2];exact List.getElem_mem _
theorem WdP.from {l:List Sg} {v:List (List Bool)} {P:List (Nat×Nat)} {t:List (List Int)} (h:WdP l v P t) {z:Nat×Nat} (hz:z∈allZ l) {p q:Po} (hp:p∈(tmZ l z).p) (hq:plcT (t.getD z.1 []) p=some q) :
  ∃ k d:Nat,p.1=d∧q=((k:Int),p.2)∧P[k]?=some (z.1,d)∧p.2=plc (cdP l (z.1,d)).w (tmZ l z).t∧p.2≠[]:=by
 have hi:=(mem_allZ.1 hz).1
 obtain ⟨hs,hl⟩:=h.r.2 _ hi
 obtain ⟨d,hd,e,hne⟩:=(mem_post hs (tmZ_mem hz)).1 hp
 have e1:p.1=(d:Int):=congrArg Prod.fst e
 have e2:p.2=plc (cardsS (l.getD z.1 noSg))[d].w (tmZ l z).t:=congrArg Prod.snd e
 have hdv:d < (v.getD z.1 []).length:=by rw [hl,← cards_len hs];exact hd
 have hiv:z.1 < v.length:=by rw [← h.r.1];exact hi
 unfold plcT at hq
 rw [e1,Int.toNat_natCast] at hq
 split at hq
 ·rename_i h0
  cases hq
  cases hlv:(v.getD z.1 []).getD d false with
  | false=>rw [h.tab.dead _ _ hiv hdv hlv] at h0;omega
  | true =>
   obtain ⟨k,hk,ek⟩:=h.tab.live _ _ hiv hdv hlv
   refine ⟨k,d,e1,by rw [ek],hk,?_,by rw [e2];exact hne⟩
   rw [e2,cdP,getD_at _ hd]
 ·cases hq
theorem mem_plZ {l:List Sg} {t:List (List Int)} {z:Nat×Nat} {q:Po}:q∈plZ l t z↔∃ p∈(tmZ l z).p,plcT (t.getD z.1 []) p=some q:=List.mem_filterMap
theorem WdP.docs {l:List Sg} {v:List (List Bool)} {P:List (Nat×Nat)} {t:List (List Int)} (h:WdP l v P t) {z:Nat×Nat} (hz:z∈allZ l):((plZ l t z).map (·.1)).Nodup:=by
 unfold List.Nodup plZ plS
 rw [List.pairwise_map,List.pairwise_filterMap]
 refine ((h.T _ (mem_allZ.1 hz).1).ok _ (tmZ_mem hz)).2.pw.imp_of_mem fun {p p'} hp hp' hlt q hq q' hq' e=>?_
 obtain ⟨k,d,e1,e2,e3,_⟩:=h.from hz hp hq
 obtain ⟨k',d',e1',e2',e3',_⟩:=h.from hz hp' hq'
 have:k=k':=by rw [e2,e2'] at e;simp only at e;omega
 subst this
 rw [e3] at e3'
 cases e3'
 omega
theorem WdP.dis {l:List Sg} {v:List (List Bool)} {P:List (Nat×Nat)} {t:List (List Int)} (h:WdP l v P t) {y z:Nat×Nat} (hy:y∈allZ l) (hz:z∈allZ l) (hne:y.1≠z.1):∀ q∈plZ l t y,∀ r∈plZ l t z,q.1≠r.1:=fun q hq r hr e=>by
 obtain ⟨p,hp,hq⟩:=mem_plZ.1 hq
 obtain ⟨p',hp',hr⟩:=mem_plZ.1 hr
 obtain ⟨k,d,e1,e2,e3,_⟩:=h.from hy hp hq
 obtain ⟨k',d',e1',e2',e3',_⟩:=h.from hz hp' hr
 have:k=k':=by rw [e2,e2'] at e;simp only at e;omega
 subst this
 rw [e3] at e3'
 have e4:=Option.some.inj e3'
 have e5:=congrArg Prod.fst e4
 exact hne e5
theorem WdP.out {l:List Sg} {v:List (List Bool)} {P:List (Nat×Nat)} {t:List (List Int)} (h:WdP l v P t) {Z:List (Nat×Nat)} (hZ:RunZ l Z):∀ k,k≤Z.length→OutP l t (outW l t (Z.take k)) (Z.take k)
 | 0,_=>⟨by simp [outW],by simp [outW],by simp [outW],by simp [outW],by simp [outW]⟩
 | k+1,hk=>by
  have hk':k < Z.length:=by omega
  have ih:=h.out hZ k (by omega)
  have hz:=hZ.perm.mem_iff.1 (List.getElem_mem hk')
  rw [outW_succ hk']
  conv=>rhs;rw [List.take_succ_eq_append_getElem hk']
  refine ih.step (fun y hy=>?_) (h.docs hz) (fun y hy hne=>h.dis (hZ.perm.mem_iff.1 (List.mem_of_mem_take hy)) hz hne)
  obtain ⟨j,hj,rfl⟩:=List.getElem_of_mem hy
  have hj':j < k:=by simp at hj;omega
  rw [List.getElem_take]
  exact List.pairwise_iff_getElem.1 hZ.pw j k (by omega) hk' hj'
theorem plc_none {w:List ByteArray} {x:ByteArray}:plc w x≠[]↔x∈w:=by
 constructor
 ·intro h
  obtain ⟨a,ha⟩:=List.exists_mem_of_ne_nil _ h
  obtain ⟨j,hj,_,e⟩:=mem_plc.1 ha
  rw [← e];exact List.getElem_mem _
 ·intro h e
  obtain ⟨j,hj,rfl⟩:=List.getElem_of_mem h
  have:((j:Nat):Int)∈plc w w[j]:=mem_plc.2 ⟨j,hj,rfl,rfl⟩
  rw [e] at this;cases this
theorem WdP.mem {l:List Sg} {v:List (List Bool)} {P:List (Nat×Nat)} {t:List (List Int)} (h:WdP l v P t) {y:ByteArray} {q:Po}:(∃ z∈allZ l,(tmZ l z).t=y∧q∈plZ l t z)↔q∈pst ((P.map (cdP l)).map (·.w)) y:=by
 rw [mem_pst]
 constructor
 ·rintro ⟨z,hz,rfl,hq⟩
  obtain ⟨p,hp,hq⟩:=mem_plZ.1 hq
  obtain ⟨k,d,e1,e2,e3,e4,e5⟩:=h.from hz hp hq
  obtain ⟨hk,e6⟩:=List.getElem?_eq_some_iff.1 e3
  have ew:(((P.map (cdP l)).map (·.w))[k]'(by simpa using hk))=(cdP l (z.1,d)).w:=by simp [e6]
  refine ⟨k,by simpa using hk,?_,?_⟩
  ·rw [e2,e4,ew]
  ·rw [ew,← e4];exact e5
 ·rintro ⟨k,hk,rfl,hne⟩
  have hk':k < P.length:=by simpa using hk
  obtain ⟨i,d⟩:Nat×Nat:=P[k]
  have hpm:P[k]∈leftP v:=h.perm.mem_iff.1 (List.getElem_mem hk')
  have ew:((P.map (cdP l)).map (·.w))[k]=(cdP l P[k]).w:=by simp
  rw [ew] at hne ⊢
  generalize hpk:P[k]=p at *
  obtain ⟨r1,r2,r3⟩:=right_v h.r hpm
  obtain ⟨m1,m2,m3⟩:=mem_left.1 hpm
  have hd:p.2 < (cardsS (l.getD p.1 noSg)).length:=by rw [cards_len r2];exact r3
  have ec:cdP l p=(cardsS (l.getD p.1 noSg))[p.2]:=getD_at _ hd
  rw [ec] at hne ⊢
  have hy:y∈wlS ((cardsS (l.getD p.1 noSg)).flatMap (·.w)):=wl_mem.2 (List.mem_flatMap.2 ⟨_,List.getElem_mem hd,plc_none.1 hne⟩)
  rw [words_of r2] at hy
  obtain ⟨x,hx,rfl⟩:=List.mem_map.1 hy
  obtain ⟨a,ha,rfl⟩:=List.getElem_of_mem hx
  refine ⟨(p.1,a),mem_allZ.2 ⟨r1,ha⟩,by rw [tmZ_eq (z:=(p.1,a)) ha],mem_plZ.2 ?_⟩
  rw [tmZ_eq (z:=(p.1,a)) ha]
  refine ⟨((p.2:Int),plc (cardsS (l.getD p.1 noSg))[p.2].w (l.getD p.1 noSg).terms[a].t),(mem_post r2 hx).2 ⟨p.2,hd,rfl,hne⟩,?_⟩
  obtain ⟨k',h1,h2⟩:=h.tab.live _ _ m1 m2 m3
  have:k'=k:=by
   obtain ⟨hk2,e⟩:=List.getElem?_eq_some_iff.1 h1
   exact (List.getElem_inj h.nd).1 (by rw [e,hpk])
  subst this
  unfold plcT
  simp only [Int.toNat_natCast,h2]
  rw [if_pos (by omega)]
theorem WdP.words {l:List Sg} {v:List (List Bool)} {P:List (Nat×Nat)} {t:List (List Int)} (h:WdP l v P t) {Z:List (Nat×Nat)} (hZ:RunZ l Z) {R:List Tm}
  (h1:R.map (·.t)=(outW l t Z).map (·.t)) (h2:∀ i (h:i < R.length) (k:i < (outW l t Z).length),R[i].p.Perm (outW l t Z)[i].p∧R[i].p.Pairwise fun x y=>¬ y.1 < x.1):R=termsS (P.map (cdP l)):=by
 have ho:=h.out hZ Z.length (Nat.le_refl _)
 rw [List.take_length] at ho
 have memZ:∀ (Q:Nat×Nat→Prop),(∃ z∈Z,Q z)↔∃ z∈allZ l,Q z:=fun Q=>by
  constructor
  ·rintro ⟨z,hz,q⟩;exact ⟨z,hZ.perm.mem_iff.1 hz,q⟩
  ·rintro ⟨z,hz,q⟩;exact ⟨z,hZ.perm.mem_iff.2 hz,q⟩
 have hw:R.map (·.t)=wlS ((P.map (cdP l)).flatMap (·.w)):=by
  rw [h1]
  refine srt_ext (fun _ _=>ltB_asy) (List.pairwise_map.2 ho.srt) (wl_srt _) fun y=>?_
  rw [ho.wds,memZ,wl_mem,List.mem_flatMap]
  have:(∃ z∈allZ l,(tmZ l z).t=y∧plZ l t z≠[])↔∃ q,q∈pst ((P.map (cdP l)).map (·.w)) y:=by
   constructor
   ·rintro ⟨z,hz,e,hne⟩
    obtain ⟨q,hq⟩:=List.exists_mem_of_ne_nil _ hne
    exact ⟨q,h.mem.1 ⟨z,hz,e,hq⟩⟩
   ·rintro ⟨q,hq⟩
    obtain ⟨z,hz,e,hq⟩:=h.mem.2 hq
    exact ⟨z,hz,e,fun e=>by rw [e] at hq;cases hq⟩
  rw [this]
  constructor
  ·rintro ⟨q,hq⟩
   obtain ⟨k,hk,_,hne⟩:=mem_pst.1 hq
   have hk':k < (P.map (cdP l)).length:=by simpa using hk
   refine ⟨_,List.getElem_mem hk',?_⟩
   rw [List.getElem_map] at hne
   exact plc_none.1 hne
  ·rintro ⟨c,hc,hy⟩
   obtain ⟨k,hk,rfl⟩:=List.getElem_of_mem hc
   exact ⟨_,mem_pst.2 ⟨k,by simpa using hk,rfl,by rw [List.getElem_map];exact plc_none.2 hy⟩⟩
 rw [termsS,← hw,List.map_map]
 refine ((List.map_congr_left fun x hx=>?_).trans (List.map_id R)).symm
 obtain ⟨i,hi,rfl⟩:=List.getElem_of_mem hx
 have hl:=congrArg List.length h1
 simp only [List.length_map] at hl
 have hi2:i < (outW l t Z).length:=by omega
 have et:R[i].t=(outW l t Z)[i].t:=by
  have e:=congrArg (fun (q:List ByteArray)=>q[i]?) h1
  simpa [List.getElem?_map,List.getElem?_eq_getElem hi,List.getElem?_eq_getElem hi2] using e
 obtain ⟨hp,hs⟩:=h2 i hi hi2
 have hom:=List.getElem_mem hi2
 have:pst ((P.map (cdP l)).map (·.w)) R[i].t=R[i].p:=by
  have hnd:(R[i].p.map (·.1)).Nodup:=(hp.map _).nodup_iff.2 (ho.nd _ hom)
  refine srt_ext (r:=fun p q:Po=>p.1 < q.1) (fun _ _ h1 h2=>by omega) (List.pairwise_map.1 (pst_pw _ _)) ?_ fun q=>?_
  ·exact (hs.and (List.pairwise_map.1 hnd)).imp fun k=>by have:=k.1;have:=k.2;omega
  ·rw [← h.mem,← memZ,hp.mem_iff,ho.mem _ hom,et]
 show tmOf (P.map (cdP l)) R[i].t=R[i]
 rw [tmOf,this]
theorem nd_len {α:Type} [DecidableEq α]:∀ {l m:List α},l.Nodup→(∀ x∈l,x∈m)→l.length≤m.length
 | [],_,_,_=>Nat.zero_le _
 | a::l,m,hn,hs=>by
  obtain ⟨h1,h2⟩:=List.nodup_cons.1 hn
  have hp:=List.perm_cons_erase (hs a (by simp))
  have:=nd_len (l:=l) (m:=m.erase a) h2 fun x hx=>(List.mem_erase_of_ne (fun e=>h1 (by rw [← e];exact hx))).2 (hs x (List.mem_cons_of_mem _ hx))
  have h3:=hp.length_eq
  simp only [List.length_cons] at h3 ⊢;omega
theorem WdP.bnd {l:List Sg} {v:List (List Bool)} {P:List (Nat×Nat)} {t:List (List Int)} (h:WdP l v P t) {Z:List (Nat×Nat)} (hZ:RunZ l Z) {k:Nat} (hk:k≤Z.length) {x:Tm} (hx:x∈outW l t (Z.take k)) :
  x.p.length≤P.length∧∀ q∈x.p,0≤q.1∧q.1 < P.length:=by
 have ho:=h.out hZ k hk
 have hq:∀ q∈x.p,0≤q.1∧q.1 < P.length:=fun q hq=>by
  obtain ⟨z,hz,e,hm⟩:=(ho.mem x hx q).1 hq
  obtain ⟨j,hj,e,_⟩:=mem_pst.1 (h.mem.1 ⟨z,hZ.perm.mem_iff.1 (List.mem_of_mem_take hz),e,hm⟩)
  have hj':j < P.length:=by simpa using hj
  rw [e];simp only;omega
 refine ⟨?_,hq⟩
 have:=nd_len (l:=x.p.map (·.1)) (m:=(List.range P.length).map fun (n:Nat)=>(n:Int)) (ho.nd x hx) fun d hd=>by
  obtain ⟨q,hqm,rfl⟩:=List.mem_map.1 hd
  obtain ⟨h1,h2⟩:=hq q hqm
  exact List.mem_map.2 ⟨q.1.toNat,List.mem_range.2 (by omega),by omega⟩
 simpa using this
theorem stepW_len {O:List Tm} {x:ByteArray} {p:List Po}:(stepW O x p).length≤O.length+1:=by
 unfold stepW
 split
 ·simp
 ·split
  ·omega
  ·simp
theorem outW_len {l:List Sg} {t:List (List Int)} {Z:List (Nat×Nat)}:∀ k,k≤Z.length→(outW l t (Z.take k)).length≤k
 | 0,_=>by simp [outW]
 | k+1,hk=>by
  have ih:=outW_len (l:=l) (t:=t) (Z:=Z) k (by omega)
  rw [outW_succ (by omega)]
  have:=stepW_len (O:=outW l t (Z.take k)) (x:=(tmZ l Z[k]).t) (p:=plZ l t Z[k])
  omega
theorem allZ_len {l:List Sg} (hT:allT l):(allZ l).length≤200*l.length:=by
 have:∀ n,n≤l.length→((List.range n).flatMap fun i=>(List.range (l.getD i noSg).terms.length).map fun a=>(i,a)).length≤200*n:=by
  intro n
  induction n with
  | zero=>intro _;simp
  | succ n ih =>
   intro hn
   have h1:=ih (by omega)
   have h2:=(hT n hn).len
   rw [List.range_succ,List.flatMap_append,List.length_append]
   simp only [List.flatMap_cons,List.flatMap_nil,List.append_nil,List.length_map,List.length_range]
   omega
 exact this _ (Nat.le_refl _)
end Go.Aw
namespace Go.Aw
open Go.Proofs Go.Sort
set_option maxRecDepth 100000
set_option maxHeartbeats 4000000
abbrev tl (l:List Sg) (i:Nat):Nat:=(l.getD i noSg).terms.length
theorem tstr_no {s s':Sg} {to to':List Int} {a a' n n':Nat} (h:strB s to a n=strB s' to' a' n'):n=n':=by
 simp only [strB,tstr,Blk.arr.injEq,List.cons.injEq,V.g.injEq,T.ag.injEq,T.sc.injEq,Value.int.injEq,true_and,and_true] at h
 omega
structure StrI (l:List Sg) (t:List (List Int)) (E:List Blk) (pos a:Nat→Nat) (n:Nat):Prop where
 at':∀ i,i < n→tl l i≠0→2≤pos i∧E[pos i-2]?=some (strB (l.getD i noSg) (t.getD i []) (a i) i)
theorem StrI.inj {l:List Sg} {t:List (List Int)} {E:List Blk} {pos a:Nat→Nat} {n:Nat} (h:StrI l t E pos a n) {i j:Nat} (hi:i < n) (hj:j < n) (h1:tl l i≠0) (h2:tl l j≠0) (e:pos i=pos j):i=j:=by
 have e1:=(h.at' i hi h1).2
 have e2:=(h.at' j hj h2).2
 rw [e,e2] at e1
 exact (tstr_no (Option.some.inj e1)).symm
theorem StrI.app {l:List Sg} {t:List (List Int)} {E:List Blk} {pos a:Nat→Nat} {n:Nat} (h:StrI l t E pos a n) (L:List Blk):StrI l t (E++L) pos a n :=
 ⟨fun i hi h1=>⟨(h.at' i hi h1).1,by rw [List.getElem?_append_left (lt_of_get (h.at' i hi h1).2)];exact (h.at' i hi h1).2⟩⟩
theorem StrI.set2 {l:List Sg} {t:List (List Int)} {E:List Blk} {pos a:Nat→Nat} {n:Nat} (h:StrI l t E pos a n) {j g:Nat} {es:List V} (hj:E[j]?=some (.arr g 2 es)) (B:Blk):StrI l t (E.set j B) pos a n :=
 ⟨fun i hi h1=>by
  obtain ⟨q1,q2⟩:=h.at' i hi h1
  refine ⟨q1,?_⟩
  rw [List.getElem?_set_ne (fun e=>by subst e;rw [q2] at hj;cases hj)];exact q2⟩
def liveI (l:List Sg) (a:Nat→Nat) (n:Nat):List Nat:=(List.range n).filter fun i=>decide (a i < tl l i)
theorem mem_liveI {l:List Sg} {a:Nat→Nat} {n i:Nat}:i∈liveI l a n↔i < n∧a i < tl l i:=by simp [liveI]
theorem StrI.nd {l:List Sg} {t:List (List Int)} {E:List Blk} {pos a:Nat→Nat} {n:Nat} (h:StrI l t E pos a n):((liveI l a n).map pos).Nodup:=by
 unfold List.Nodup
 rw [List.pairwise_map]
 have:(liveI l a n).Pairwise (· < ·):=List.Pairwise.filter _ List.pairwise_lt_range
 refine this.imp_of_mem fun {i j} hi hj hlt e=>?_
 obtain ⟨i1,i2⟩:=mem_liveI.1 hi
 obtain ⟨j1,j2⟩:=mem_liveI.1 hj
 have:=h.inj i1 j1 (by omega) (by omega) e
 omega
theorem StrAt.set2 {E:List Blk} {K:Nat→ByteArray×Nat} {b:Nat} (h:StrAt E K b) {j g:Nat} {es:List V} (hj:E[j]?=some (.arr g 2 es)) (B:Blk):StrAt (E.set j B) K b:=by
 obtain ⟨s,to,a,no,h1,h2,h3⟩:=h.ex
 exact ⟨s,to,a,no,h1,by rw [List.getElem?_set_ne (fun e=>by subst e;rw [h2] at hj;cases hj)];exact h2,h3⟩
theorem StrAt.other {E:List Blk} {K:Nat→ByteArray×Nat} {b c:Nat} (h:StrAt E K b) (hc:2≤c) (hne:b≠c) (B:Blk):StrAt (E.set (c-2) B) K b:=by
 obtain ⟨s,to,a,no,h1,h2,h3⟩:=h.ex
 exact ⟨s,to,a,no,h1,by rw [List.getElem?_set_ne (by omega)];exact h2,h3⟩
theorem StrAt.key {E:List Blk} {K K':Nat→ByteArray×Nat} {b:Nat} (h:StrAt E K b) (e:K' b=K b):StrAt E K' b:=by
 obtain ⟨s,to,a,no,h1,h2,h3,h4⟩:=h.ex
 exact ⟨s,to,a,no,h1,h2,h3,by rw [e];exact h4⟩
theorem heapF_key {K K':Nat→ByteArray×Nat} {R:List Nat} (h:heapF (ltK K) (fnL R) R.length) (e:∀ b∈R,K' b=K b):heapF (ltK K') (fnL R) R.length:=fun j h1 h2=>by
 have m:∀ i,i < R.length→fnL R i∈R:=fun i hi=>by rw [fnL,getD_at _ hi];exact List.getElem_mem _
 have:=h j h1 h2
 rw [ltK] at this ⊢
 rw [e _ (m j h2),e _ (m _ (by omega))];exact this
def HeapI (E:List Blk) (R:List Nat):Prop:=∃ K,(∀ b∈R,StrAt E K b)∧heapF (ltK K) (fnL R) R.length
theorem HeapI.app {E:List Blk} {R:List Nat} (h:HeapI E R) (L:List Blk):HeapI (E++L) R:=by
 obtain ⟨K,h1,h2⟩:=h
 exact ⟨K,fun b hb=>(h1 b hb).app,h2⟩
theorem HeapI.set2 {E:List Blk} {R:List Nat} (h:HeapI E R) {j g:Nat} {es:List V} (hj:E[j]?=some (.arr g 2 es)) (B:Blk):HeapI (E.set j B) R:=by
 obtain ⟨K,h1,h2⟩:=h
 exact ⟨K,fun b hb=>(h1 b hb).set2 hj B,h2⟩
theorem HeapI.other {E:List Blk} {R:List Nat} (h:HeapI E R) {c:Nat} (hc:2≤c) (hne:c∉R) (B:Blk):HeapI (E.set (c-2) B) R:=by
 obtain ⟨K,h1,h2⟩:=h
 exact ⟨K,fun b hb=>(h1 b hb).other hc (fun e=>hne (by rw [← e];exact hb)) B,h2⟩
theorem HeapI.put {E:List Blk} {R:List Nat} (h:HeapI E R) {x:Nat} {s:Sg} {to:List Int} {a no:Nat} (hx:x∉R) (x2:2≤x) (e:E[x-2]?=some (strB s to a no)) (ha:a < s.terms.length) :
  ∃ K,StrAt E K x∧(∀ b∈R,StrAt E K b)∧heapF (ltK K) (fnL R) R.length:=by
 obtain ⟨K,h1,h2⟩:=h
 refine ⟨fun b=>if b=x then (s.terms[a].t,no) else K b,⟨s,to,a,no,x2,e,ha,if_pos rfl⟩,fun b hb=>(h1 b hb).key (if_neg fun e=>hx (by rw [← e];exact hb)),heapF_key h2 fun b hb=>if_neg fun e=>hx (by rw [← e];exact hb)⟩
theorem nodup_snoc {R:List Nat} {x:Nat} (h:R.Nodup) (hx:x∉R):(R++[x]).Nodup:=by
 unfold List.Nodup at *
 rw [List.pairwise_append]
 exact ⟨h,by simp,fun a ha b hb=>by simp at hb;subst hb;exact fun e=>hx (by rw [← e];exact ha)⟩
structure Lp1 (l:List Sg) (t:List (List Int)) (E:List Blk) (pos:Nat→Nat) (n:Nat) (R:List Nat):Prop where
 s:StrI l t E pos (fun _=>0) n
 p:R.Perm ((liveI l (fun _=>0) n).map pos)
 h:HeapI E R
theorem Lp1.nd {l:List Sg} {t:List (List Int)} {E:List Blk} {pos:Nat→Nat} {n:Nat} {R:List Nat} (h:Lp1 l t E pos n R):R.Nodup:=h.p.nodup_iff.2 h.s.nd
theorem Lp1.lt {l:List Sg} {t:List (List Int)} {E:List Blk} {pos:Nat→Nat} {n:Nat} {R:List Nat} (h:Lp1 l t E pos n R) {b:Nat} (hb:b∈R):b < E.length+2:=by
 obtain ⟨i,hi,rfl⟩:=List.mem_map.1 (h.p.mem_iff.1 hb)
 obtain ⟨h1,h2⟩:=mem_liveI.1 hi
 obtain ⟨h3,h4⟩:=h.s.at' i h1 (by omega)
 have:=lt_of_get h4;omega
theorem Lp1.len {l:List Sg} {t:List (List Int)} {E:List Blk} {pos:Nat→Nat} {n:Nat} {R:List Nat} (h:Lp1 l t E pos n R):R.length≤n:=by
 rw [h.p.length_eq,List.length_map]
 have:=List.length_filter_le (fun i=>decide (0 < tl l i)) (List.range n)
 simpa [liveI] using this
theorem Lp1.skip {l:List Sg} {t:List (List Int)} {E:List Blk} {pos:Nat→Nat} {n:Nat} {R:List Nat} (h:Lp1 l t E pos n R) (h0:tl l n=0) (L:List Blk):Lp1 l t (E++L) pos (n+1) R:=by
 refine ⟨⟨fun i hi h1=>?_⟩,?_,h.h.app L⟩
 ·have:i≠n:=fun e=>h1 (by rw [e];exact h0)
  exact (h.s.app L).at' i (by omega) h1
 ·have:liveI l (fun _=>0) (n+1)=liveI l (fun _=>0) n:=by
   rw [liveI,List.range_succ,List.filter_append];simp [liveI,h0]
  rw [this];exact h.p
theorem Lp1.push {l:List Sg} {t:List (List Int)} {E:List Blk} {pos:Nat→Nat} {n:Nat} {R R':List Nat} (h:Lp1 l t E pos n R) (h0:tl l n≠0) (J:Blk) {K:Nat→ByteArray×Nat}
  (hx:StrAt (E++[J]++[strB (l.getD n noSg) (t.getD n []) 0 n]) K ((E++[J]).length+2)) (hR:∀ b∈R,StrAt (E++[J]++[strB (l.getD n noSg) (t.getD n []) 0 n]) K b) (hp:R'.Perm (R++[(E++[J]).length+2])) (hh:heapF (ltK K) (fnL R') R'.length) :
  ∃ pos',Lp1 l t (E++[J]++[strB (l.getD n noSg) (t.getD n []) 0 n]) pos' (n+1) R':=by
 refine ⟨fun i=>if i=n then (E++[J]).length+2 else pos i,⟨fun i hi h1=>?_⟩,?_,K,fun b hb=>?_,hh⟩
 ·by_cases e:i=n
  ·subst e
   rw [if_pos rfl]
   refine ⟨by omega,?_⟩
   rw [Nat.add_sub_cancel,List.getElem?_append_right (by simp)]
   simp
  ·rw [if_neg e]
   have:=h.s.at' i (by omega) h1
   exact ((h.s.app [J]).app [strB (l.getD n noSg) (t.getD n []) 0 n]).at' i (by omega) h1
 ·have e1:liveI l (fun _=>0) (n+1)=liveI l (fun _=>0) n++[n]:=by
   rw [liveI,List.range_succ,List.filter_append]
   have:0 < tl l n:=by omega
   simp [liveI,this]
  rw [e1,List.map_append]
  have e2:(liveI l (fun _=>0) n).map (fun i=>if i=n then (E++[J]).length+2 else pos i)=(liveI l (fun _=>0) n).map pos:=by
   refine List.map_congr_left fun i hi=>?_
   have:=(mem_liveI.1 hi).1
   rw [if_neg (by omega)]
  rw [e2]
  simp only [List.map_cons,List.map_nil,if_pos]
  exact hp.trans (h.p.append_right _)
 ·rcases List.mem_append.1 (hp.mem_iff.1 hb) with hb|hb
  ·exact hR b hb
  ·rw [List.mem_singleton] at hb;subst hb;exact hx
structure Lp2 (l:List Sg) (t:List (List Int)) (Z:List (Nat×Nat)) (E:List Blk) (pos:Nat→Nat) (k:Nat) (R:List Nat):Prop where
 s:StrI l t E pos (fun i=>cntZ i (Z.take k)) l.length
 p:R.Perm ((liveI l (fun i=>cntZ i (Z.take k)) l.length).map pos)
 h:HeapI E R
theorem Lp2.nd {l:List Sg} {t:List (List Int)} {Z:List (Nat×Nat)} {E:List Blk} {pos:Nat→Nat} {k:Nat} {R:List Nat} (h:Lp2 l t Z E pos k R):R.Nodup:=h.p.nodup_iff.2 h.s.nd
theorem Lp1.start {l:List Sg} {t:List (List Int)} {Z:List (Nat×Nat)} {E:List Blk} {pos:Nat→Nat} {R:List Nat} (h:Lp1 l t E pos l.length R):Lp2 l t Z E pos 0 R:=by
 have e:(fun i=>cntZ i (Z.take 0))=fun _=>0:=by funext i;simp [cntZ]
 exact ⟨by rw [e];exact h.s,by rw [e];exact h.p,h.h⟩
theorem Lp2.app {l:List Sg} {t:List (List Int)} {Z:List (Nat×Nat)} {E:List Blk} {pos:Nat→Nat} {k:Nat} {R:List Nat} (h:Lp2 l t Z E pos k R) (L:List Blk):Lp2 l t Z (E++L) pos k R:=⟨h.s.app L,h.p,h.h.app L⟩
theorem Lp2.more {l:List Sg} {t:List (List Int)} {Z:List (Nat×Nat)} {E:List Blk} {pos:Nat→Nat} {k:Nat} {R:List Nat} (h:Lp2 l t Z E pos k R) (hZ:RunZ l Z) (hR:0 < R.length):k < Z.length:=by
 have hm:R[0]∈R:=List.getElem_mem _
 obtain ⟨i,hi,_⟩:=List.mem_map.1 (h.p.mem_iff.1 hm)
 obtain ⟨h1,h2⟩:=mem_liveI.1 hi
 obtain ⟨m,m1,m2⟩:=hZ.next h1 h2
 have:=lt_of_get m2
 omega
theorem Lp2.done {l:List Sg} {t:List (List Int)} {Z:List (Nat×Nat)} {E:List Blk} {pos:Nat→Nat} {k:Nat} {R:List Nat} (h:Lp2 l t Z E pos k R) (hZ:RunZ l Z) (hR:R.length=0):Z.length≤k:=by
 rcases Nat.lt_or_ge k Z.length with hk|hk
 ·exfalso
  have hz:=mem_allZ.1 (hZ.perm.mem_iff.1 (List.getElem_mem hk))
  have h1:=hZ.at hk
  have hm:pos Z[k].1∈R:=h.p.mem_iff.2 (List.mem_map_of_mem (mem_liveI.2 ⟨hz.1,by rw [← h1];exact hz.2⟩))
  have:R=[]:=List.length_eq_zero_iff.1 hR
  rw [this] at hm;cases hm
 ·exact hk
structure Pop2 (l:List Sg) (t:List (List Int)) (Z:List (Nat×Nat)) (E:List Blk) (pos:Nat→Nat) (k:Nat) (hk:k < Z.length) (R:List Nat):Prop where
 s:StrI l t E pos (fun i=>cntZ i (Z.take k)) l.length
 p:(pos Z[k].1::R).Perm ((liveI l (fun i=>cntZ i (Z.take k)) l.length).map pos)
 h:HeapI E R
theorem Lp2.pop {l:List Sg} {t:List (List Int)} {Z:List (Nat×Nat)} {E:List Blk} {pos:Nat→Nat} {k:Nat} {R R':List Nat} (h:Lp2 l t Z E pos k R) (hZ:RunZ l Z) (hk:k < Z.length) {K:Nat→ByteArray×Nat} (hK:∀ b∈R,StrAt E K b) (hh:heapF (ltK K) (fnL R) R.length)
  (hR:0 < R.length) (hp:(fnL R 0::R').Perm R) (hh':heapF (ltK K) (fnL R') R'.length):fnL R 0=pos Z[k].1∧Pop2 l t Z E pos k hk R':=by
 have hz:=mem_allZ.1 (hZ.perm.mem_iff.1 (List.getElem_mem hk))
 have hat:=hZ.at hk
 have key:∀ i,i < l.length→cntZ i (Z.take k) < tl l i→pos i∈R∧K (pos i)=((tmZ l (i,cntZ i (Z.take k))).t,i):=fun i hi hc=>by
  have hm:pos i∈R:=h.p.mem_iff.2 (List.mem_map_of_mem (mem_liveI.2 ⟨hi,hc⟩))
  refine ⟨hm,?_⟩
  obtain ⟨s,to,a,no,q1,q2,q3,q4⟩:=(hK _ hm).ex
  obtain ⟨_,r2⟩:=h.s.at' i hi (by omega)
  rw [r2] at q2
  have q2:=Option.some.inj q2
  simp only [strB,tstr,Blk.arr.injEq,List.cons.injEq,V.g.injEq,T.ag.injEq,T.sc.injEq,Value.int.injEq,true_and,and_true,T.sl.injEq] at q2
  obtain ⟨_,_,_,w1,_,_,w2,w3⟩:=q2
  have w2:cntZ i (Z.take k)=a:=by omega
  have w3:i=no:=by omega
  subst w2
  subst w3
  rw [q4,tmZ_eq (z:=(i,cntZ i (Z.take k))) hc]
  have w4:=congrArg (fun (q:List T)=>(q[cntZ i (Z.take k)]?).map strT) w1
  simp only [List.getElem?_map,List.getElem?_eq_getElem hc,List.getElem?_eq_getElem q3,Option.map_some] at w4
  have w5:(l.getD i noSg).terms[cntZ i (Z.take k)].t=s.terms[cntZ i (Z.take k)].t:=Option.some.inj w4
  rw [w5]
 have hb:fnL R 0∈R:=by rw [fnL,getD_at _ hR];exact List.getElem_mem _
 obtain ⟨i0,hi0,e0⟩:=List.mem_map.1 (h.p.mem_iff.1 hb)
 obtain ⟨h1,h2⟩:=mem_liveI.1 hi0
 have hzi:i0=Z[k].1:=by
  by_cases e:i0=Z[k].1
  ·exact e
  ·exfalso
   have hl:=hZ.least hk h1 h2 e
   obtain ⟨k1,k2⟩:=key i0 h1 h2
   have hc2:cntZ Z[k].1 (Z.take k) < tl l Z[k].1:=by rw [← hat];exact hz.2
   obtain ⟨k3,k4⟩:=key Z[k].1 hz.1 hc2
   obtain ⟨j,hj,ej⟩:=List.getElem_of_mem k3
   have hmin:=heap_min swo_less hh j hj
   rw [show fnL R j=pos Z[k].1 from by rw [fnL,getD_at _ hj,ej],← e0] at hmin
   have:ltK K (pos Z[k].1) (pos i0)=true:=by
    rw [ltK,k2,k4,← hat]
    rcases hl with hl|⟨hl,hl2⟩
    ·simp only [lessS];rw [hl];rfl
    ·simp only [lessS];rw [hl,decide_eq_true rfl,decide_eq_true hl2,Bool.and_self,Bool.or_true]
   rw [this] at hmin;cases hmin
 have e1:fnL R 0=pos Z[k].1:=by rw [← e0,hzi]
 refine ⟨e1,h.s,by rw [← e1];exact hp.trans h.p,K,fun b hbm=>hK b (hp.mem_iff.1 (List.mem_cons_of_mem _ hbm)),hh'⟩
theorem Pop2.app {l:List Sg} {t:List (List Int)} {Z:List (Nat×Nat)} {E:List Blk} {pos:Nat→Nat} {k:Nat} {hk:k < Z.length} {R:List Nat} (h:Pop2 l t Z E pos k hk R) (L:List Blk):Pop2 l t Z (E++L) pos k hk R:=⟨h.s.app L,h.p,h.h.app L⟩
theorem Pop2.set2 {l:List Sg} {t:List (List Int)} {Z:List (Nat×Nat)} {E:List Blk} {pos:Nat→Nat} {k:Nat} {hk:k < Z.length} {R:List Nat} (h:Pop2 l t Z E pos k hk R) {j g:Nat} {es:List V} (hj:E[j]?=some (.arr g 2 es)) (B:Blk):Pop2 l t Z (E.set j B) pos k hk R:=⟨h.s.set2 hj B,h.p,h.h.set2 hj B⟩
theorem Pop2.at' {l:List Sg} {t:List (List Int)} {Z:List (Nat×Nat)} {E:List Blk} {pos:Nat→Nat} {k:Nat} {hk:k < Z.length} {R:List Nat} (h:Pop2 l t Z E pos k hk R) (hZ:RunZ l Z):2≤pos Z[k].1∧E[pos Z[k].1-2]?=some (strB (l.getD Z[k].1 noSg) (t.getD Z[k].1 []) Z[k].2 Z[k].1):=by
 have hz:=mem_allZ.1 (hZ.perm.mem_iff.1 (List.getElem_mem hk))
 have hat:=hZ.at hk
 have:=h.s.at' Z[k].1 hz.1 (by have hz2:Z[k].2 < tl l Z[k].1:=hz.2;omega)
 rwa [← hat] at this
theorem Pop2.nd {l:List Sg} {t:List (List Int)} {Z:List (Nat×Nat)} {E:List Blk} {pos:Nat→Nat} {k:Nat} {hk:k < Z.length} {R:List Nat} (h:Pop2 l t Z E pos k hk R):R.Nodup∧pos Z[k].1∉R:=by
 have:=h.p.nodup_iff.2 h.s.nd
 obtain ⟨h1,h2⟩:=List.nodup_cons.1 this
 exact ⟨h2,h1⟩
theorem Pop2.step {l:List Sg} {t:List (List Int)} {Z:List (Nat×Nat)} {E:List Blk} {pos:Nat→Nat} {k:Nat} {hk:k < Z.length} {R:List Nat} (h:Pop2 l t Z E pos k hk R) (hZ:RunZ l Z) :
  StrI l t (E.set (pos Z[k].1-2) (strB (l.getD Z[k].1 noSg) (t.getD Z[k].1 []) (Z[k].2+1) Z[k].1)) pos (fun i=>cntZ i (Z.take (k+1))) l.length∧HeapI (E.set (pos Z[k].1-2) (strB (l.getD Z[k].1 noSg) (t.getD Z[k].1 []) (Z[k].2+1) Z[k].1)) R ∧
  ((liveI l (fun i=>cntZ i (Z.take (k+1))) l.length).map pos).Perm (R++if Z[k].2+1 < tl l Z[k].1 then [pos Z[k].1] else []):=by
 have hz:=mem_allZ.1 (hZ.perm.mem_iff.1 (List.getElem_mem hk))
 have hat:=hZ.at hk
 obtain ⟨x2,hx⟩:=h.at' hZ
 have hlt:=lt_of_get hx
 refine ⟨⟨fun i hi h1=>?_⟩,h.h.other x2 h.nd.2 _,?_⟩
 ·obtain ⟨q1,q2⟩:=h.s.at' i hi h1
  refine ⟨q1,?_⟩
  by_cases e:i=Z[k].1
  ·subst e
   rw [List.getElem?_set_self hlt,cntZ_succ hk,if_pos rfl,← hat]
  ·rw [cntZ_succ hk,if_neg (fun q=>e q.symm),Nat.add_zero,List.getElem?_set_ne]
   ·exact q2
   ·intro q
    exact e (h.s.inj hi hz.1 h1 (by have hz2:Z[k].2 < tl l Z[k].1:=hz.2;omega) (by omega))
 ·have hN:∀ i,i∈liveI l (fun i=>cntZ i (Z.take (k+1))) l.length↔(i∈liveI l (fun i=>cntZ i (Z.take k)) l.length∧i≠Z[k].1)∨(i=Z[k].1∧Z[k].2+1 < tl l Z[k].1):=fun i=>by
   rw [mem_liveI,mem_liveI]
   by_cases e:i=Z[k].1
   ·subst e
    rw [cntZ_succ hk,if_pos rfl,← hat]
    constructor
    ·rintro ⟨_,q⟩;exact .inr ⟨rfl,q⟩
    ·rintro (⟨_,q⟩|⟨_,q⟩)
     ·exact absurd rfl q
     ·exact ⟨hz.1,q⟩
   ·rw [cntZ_succ hk,if_neg (fun q=>e q.symm),Nat.add_zero]
    constructor
    ·intro q;exact .inl ⟨q,e⟩
    ·rintro (q|q)
     ·exact q.1
     ·exact absurd q.1 e
  have hnd2:((liveI l (fun i=>cntZ i (Z.take (k+1))) l.length).map pos).Nodup:=by
   have:(liveI l (fun i=>cntZ i (Z.take (k+1))) l.length).Pairwise (· < ·):=List.Pairwise.filter _ List.pairwise_lt_range
   unfold List.Nodup
   rw [List.pairwise_map]
   refine this.imp_of_mem fun {i j} hi hj hlt e=>?_
   obtain ⟨i1,i2⟩:=mem_liveI.1 hi
   obtain ⟨j1,j2⟩:=mem_liveI.1 hj
   have:=h.s.inj i1 j1 (by omega) (by omega) e
   omega
  refine (List.perm_ext_iff_of_nodup hnd2 ?_).2 fun b=>?_
  ·split
   ·exact nodup_snoc h.nd.1 h.nd.2
   ·rw [List.append_nil];exact h.nd.1
  ·have hm:b∈(liveI l (fun i=>cntZ i (Z.take k)) l.length).map pos↔b=pos Z[k].1∨b∈R:=by rw [← h.p.mem_iff,List.mem_cons]
   rw [List.mem_append]
   constructor
   ·intro hb
    obtain ⟨i,hi,rfl⟩:=List.mem_map.1 hb
    rcases (hN i).1 hi with ⟨q1,q2⟩|⟨rfl,q⟩
    ·rcases hm.1 (List.mem_map_of_mem q1) with e|e
     ·obtain ⟨i1,i2⟩:=mem_liveI.1 q1
      exact absurd (h.s.inj i1 hz.1 (by omega) (by have hz2:Z[k].2 < tl l Z[k].1:=hz.2;omega) e) q2
     ·exact .inl e
    ·rw [if_pos q];exact .inr (by simp)
   ·rintro (hb|hb)
    ·obtain ⟨i,hi,rfl⟩:=List.mem_map.1 (hm.2 (.inr hb))
     refine List.mem_map_of_mem ((hN i).2 (.inl ⟨hi,fun e=>?_⟩))
     subst e;exact h.nd.2 hb
    ·split at hb
     ·rename_i q
      simp at hb;subst hb
      exact List.mem_map_of_mem ((hN _).2 (.inr ⟨rfl,q⟩))
     ·cases hb
structure TmO where
 t:ByteArray
 b:Nat
 g:Nat
 p:List Po
def TmO.abs (x:TmO):Tm:=⟨x.t,x.p⟩
def cellO (x:TmO):V:=.ag [.g (.s x.t),.own (x.b+2) x.g 0 x.p.length]
def blkO (x:TmO):Blk:=.arr x.g 2 (vposts x.p)
structure OutI (Q:List TmO) (E:List Blk) (ob:Nat):Prop where
 out:E[ob]?=some (.arr Q.length 2 (Q.map cellO))
 P:∀ i (h:i < Q.length),E[Q[i].b]?=some (blkO Q[i])
 nd:(Q.map (·.b)).Nodup
 no:∀ x∈Q,x.b≠ob
theorem OutI.app {Q:List TmO} {E:List Blk} {ob:Nat} (h:OutI Q E ob) (L:List Blk):OutI Q (E++L) ob :=
 ⟨by rw [List.getElem?_append_left (lt_of_get h.out)];exact h.out,fun i hi=>by rw [List.getElem?_append_left (lt_of_get (h.P i hi))];exact h.P i hi,h.nd,h.no⟩
theorem OutI.set8 {Q:List TmO} {E:List Blk} {ob:Nat} (h:OutI Q E ob) {j g:Nat} {es:List V} (hj:E[j]?=some (.arr g 8 es)) (B:Blk):OutI Q (E.set j B) ob :=
 ⟨by rw [List.getElem?_set_ne (fun e=>by subst e;rw [h.out] at hj;cases hj)];exact h.out,fun i hi=>by rw [List.getElem?_set_ne (fun e=>by subst e;rw [h.P i hi] at hj;cases hj)];exact h.P i hi,h.nd,h.no⟩
theorem OutI.ne {Q:List TmO} {E:List Blk} {ob:Nat} (h:OutI Q E ob) {i j:Nat} (hi:i < Q.length) (hj:j < Q.length) (hne:i≠j):Q[i].b≠Q[j].b:=fun e=>by
 exact hne ((List.getElem_inj (i:=i) (j:=j) (h₀:=by simpa using hi) (h₁:=by simpa using hj) h.nd).1 (by simp [e]))
theorem OutI.upd {Q:List TmO} {E:List Blk} {ob:Nat} (h:OutI Q E ob) {i:Nat} (hi:i < Q.length) (g':Nat) (p':List Po) :
  OutI (Q.set i ⟨Q[i].t,Q[i].b,g',p'⟩) ((E.set Q[i].b (Blk.arr g' 2 (vposts p'))).set ob (Blk.arr Q.length 2 ((Q.map cellO).set i (cellO ⟨Q[i].t,Q[i].b,g',p'⟩)))) ob:=by
 have hob:=lt_of_get h.out
 have hmap:(Q.set i ⟨Q[i].t,Q[i].b,g',p'⟩).map (·.b)=Q.map (·.b):=by
  refine List.ext_getElem (by simp) fun k h1 h2=>?_
  rw [List.getElem_map,List.getElem_map,List.getElem_set]
  split
  ·rename_i e;subst e;rfl
  ·rfl
 have hno:∀ k (hk:k < Q.length),Q[k].b≠ob:=fun k hk=>h.no _ (List.getElem_mem hk)
 refine ⟨?_,fun k hk=>?_,by rw [hmap];exact h.nd,fun x hx=>?_⟩
 ·rw [List.getElem?_set_self (by simpa using hob),List.map_set,List.length_set]
 ·rw [List.length_set] at hk
  by_cases e:i=k
  ·subst e
   simp only [List.getElem_set_self]
   rw [List.getElem?_set_ne (fun q=>hno i hi q.symm),List.getElem?_set_self (lt_of_get (h.P i hi))]
   rfl
  ·simp only [List.getElem_set_ne e]
   rw [List.getElem?_set_ne (fun q=>hno k hk q.symm),List.getElem?_set_ne (h.ne hi hk e)]
   exact h.P k hk
 ·rcases List.mem_or_eq_of_mem_set hx with hx|rfl
  ·exact h.no x hx
  ·exact hno i hi
theorem OutI.srt {Q:List TmO} {E:List Blk} {ob:Nat} (h:OutI Q E ob) {i:Nat} (hi:i < Q.length) (p':List Po) (hl:p'.length=Q[i].p.length) :
  OutI (Q.set i ⟨Q[i].t,Q[i].b,Q[i].g,p'⟩) (E.set Q[i].b (.arr Q[i].g 2 (vposts p'))) ob:=by
 have:=h.upd hi Q[i].g p'
 have e:(Q.map cellO).set i (cellO ⟨Q[i].t,Q[i].b,Q[i].g,p'⟩)=Q.map cellO:=by
  refine List.ext_getElem (by simp) fun k h1 h2=>?_
  rw [List.getElem_set]
  split
  ·rename_i e;subst e;simp [cellO,hl]
  ·rfl
 rw [e] at this
 have e2:(E.set Q[i].b (.arr Q[i].g 2 (vposts p'))).set ob (.arr Q.length 2 (Q.map cellO))=E.set Q[i].b (.arr Q[i].g 2 (vposts p')):=by
  refine set_self ?_
  rw [List.getElem?_set_ne (h.no _ (List.getElem_mem hi))];exact h.out
 rw [e2] at this
 exact this
theorem OutI.new {Q:List TmO} {E:List Blk} {ob:Nat} (h:OutI Q E ob) (x:ByteArray) (g:Nat) (p:List Po) (B:Blk) :
  OutI (Q++[⟨x,E.length,g,p⟩]) ((E++[Blk.arr g 2 (vposts p)]++[B]).set ob (Blk.arr (Q.length+1) 2 (Q.map cellO++[cellO ⟨x,E.length,g,p⟩]))) ob:=by
 have hob:=lt_of_get h.out
 have hlt:∀ i (hi:i < Q.length),Q[i].b < E.length:=fun i hi=>lt_of_get (h.P i hi)
 refine ⟨?_,fun i hi=>?_,?_,fun y hy=>?_⟩
 ·rw [List.getElem?_set_self (by simp;omega)];simp
 ·by_cases e:i < Q.length
  ·have e2:(Q++[(⟨x,E.length,g,p⟩:TmO)])[i]=Q[i]:=List.getElem_append_left e
   rw [e2,List.getElem?_set_ne (fun q=>h.no _ (List.getElem_mem e) q.symm),List.append_assoc,List.getElem?_append_left (hlt i e)]
   exact h.P i e
  ·have e2:i=Q.length:=by simp at hi;omega
   subst e2
   have e3:(Q++[(⟨x,E.length,g,p⟩:TmO)])[Q.length]=⟨x,E.length,g,p⟩:=by simp
   rw [e3]
   show ((E++[Blk.arr g 2 (vposts p)]++[B]).set ob _)[E.length]?=_
   rw [List.getElem?_set_ne (by omega)]
   simp [blkO]
 ·rw [List.map_append]
  unfold List.Nodup
  rw [List.pairwise_append]
  refine ⟨h.nd,by simp,fun a ha b hb=>?_⟩
  obtain ⟨y,hy,rfl⟩:=List.mem_map.1 ha
  obtain ⟨i,hi,rfl⟩:=List.getElem_of_mem hy
  have:=hlt i hi
  simp at hb;omega
 ·rcases List.mem_append.1 hy with hy|hy
  ·exact h.no y hy
  ·simp at hy;subst hy;simp only;omega
theorem OutI.data {Q:List TmO} {E:List Blk} {ob:Nat} (h:OutI Q E ob) (x y:Blk) {n:Nat} (hn:n≤2):gr n (x::y::E) 4 (.own (ob+2) Q.length 0 Q.length)=some (tterms (Q.map TmO.abs)):=by
 have:∀ z∈Q,gr n (x::y::E) 3 (cellO z)=some (tterm z.abs):=fun z hz=>by
  obtain ⟨i,hi,rfl⟩:=List.getElem_of_mem hz
  have hb:=h.P i hi
  have g1:gr n (x::y::E) 2 (.own (Q[i].b+2) Q[i].g 0 Q[i].p.length)=some (tposts Q[i].p) :=
   gr_own (f:=fun p=>V.g (tpost p)) (e:=tpost) (by show E[Q[i].b]?=_;exact hb) (by omega) rfl fun _ _=>gr_g
  show (optL [gr n _ 2 (.g _),gr n (x::y::E) 2 (.own (Q[i].b+2) Q[i].g 0 Q[i].p.length)]).map T.ag=_
  rw [g1,gr_g];rfl
 rw [tterms,List.map_map]
 exact gr_own (f:=cellO) (by show E[ob]?=_;exact h.out) (by omega) rfl this
end Go.Aw
namespace Go.Aw
open Go.Proofs Go.Sort Go.RowKit Go.Shelf
set_option maxRecDepth 100000
set_option maxHeartbeats 4000000
def docT:T→Int
 | .ag (.sc (.int .i64 n)::_)=>n
 | _=>0
def postSh (t:T):Prop:=∃ d r,t=.ag [.i d,r]∧0≤d∧d < 1000000000
theorem closure_posts (a b:Int) (x y:Value) (ha:0≤a∧a < 1000000000) (hb:0≤b∧b < 1000000000) (W:World):Calls Tryz.prog 212 #[.agg #[.int .i64 a,x],.agg #[.int .i64 b,y]] W fun e w'=>e=.returned (.int .i64 (a-b))∧∃ q os',w'=grow (W.drewN q) os':=by
 go_enter Tryz.func212,Tryz.ntmps212
 go_wp2
 go_ret
 exact ⟨rfl,0,_,by rw [alloc_eq_grow,alloc_eq_grow,grow_grow];rfl⟩
theorem swo_posts:SWO (ltOf fun t u:T=>docT t-docT u) where
 irrefl:=fun x=>by rw [ltOf,decide_eq_false_iff_not];omega
 trans:=fun x y z h k=>by
  rw [ltOf,decide_eq_true_eq] at *;omega
 ntrans:=fun x y z h k=>by
  rw [ltOf,decide_eq_false_iff_not] at *;omega
theorem two_int {vs:List Value} {t r:T} {d:Int} (hl:vs.length=2) (ht:t=.ag [.i d,r]) (h:∀ (i:Nat) v,t.cells[i]?=some (.sc v)→vs[i]?=some v):∃ x,vs=[.int .i64 d,x]:=by
 subst ht
 match vs,hl with
 | [a,b],_ =>
  have:=h 0 _ rfl
  simp at this;subst this
  exact ⟨b,rfl⟩
theorem cmpT_posts:CmpT Tryz.prog 212 2 postSh (fun t u=>docT t-docT u):=by
 rintro t u vs us W ⟨s,r,ht,hs⟩ ⟨s',r',hu,hs'⟩ hl hl' h h'
 obtain ⟨x,rfl⟩:=two_int hl ht h
 obtain ⟨y,rfl⟩:=two_int hl' hu h'
 subst ht;subst hu
 exact closure_posts s s' x y hs hs' W
theorem c_SortFunc_posts {H:List Blk} {b g:Nat} {l:List Po} (hl:l.length < 1000000000) (hd:∀ p∈l,0≤p.1∧p.1 < 1000000000) (hb:H[b]?=some (.arr g 2 (vposts l))) :
  ACalls Tryz.prog 211 [.own b g 0 l.length,.fn 212 []] H (fun r h=>r=.tu []∧∃ l':List Po,l'.Perm l∧l'.Pairwise (fun x y=>¬ y.1 < x.1)∧h=H.set b (.arr g 2 (vposts l'))):=by
 have eg:∀ args w,(callFunc 212 args).run Tryz.prog w=.ok (.enter 212 args) w:=enters_of Tryz.func212 (by kernel_rfl) rfl
 have key:=sortF_ok (H:=H) (b:=b) (g0:=g) (ts:=l.map tpost) Tryz.sortPost (f:=211) rfl k_slices_SortFunc_LPost_Post.callOk (by decide) Tryz.isAgg98 Tryz.sizeOf98 eg swo_posts cmpT_posts
  (fun t ht=>by obtain ⟨c,hc,rfl⟩:=List.mem_map.1 ht;exact ⟨_,_,rfl,hd c hc⟩) (by simp;omega) (by rw [hb];simp [vposts,List.map_map,Function.comp_def])
 rw [List.length_map] at key
 refine key.mono ?_
 rintro r h ⟨rfl,ts',hp,hs,rfl⟩
 obtain ⟨l',hp',rfl⟩:=perm_back pOfT_ok hp
 refine ⟨rfl,l',hp',?_,by simp [vposts,List.map_map,Function.comp_def]⟩
 rw [List.pairwise_map] at hs
 refine hs.imp fun h=>?_
 simp only [docT,tpost] at h
 omega
end Go.Aw
namespace Go.Aw
open Go.Proofs Go.Sort
set_option maxRecDepth 100000
set_option maxHeartbeats 600000
theorem places_at {H0 H1:Blk} {E:List Blk} {j:Nat} {s:Sg} {to:List Int} {a n:Nat} (hE:E[j]?=some (strB s to a n)) (h1:a < s.terms.length) (hl:s.terms.length < 1000000000) (ht:to.length < 1000000000) (hp:s.terms[a].p.length < 1000000000) (hq:∀ p∈s.terms[a].p,p.2.length < 1000000000) (hd:∀ p∈s.terms[a].p,0≤p.1∧p.1 < to.length) :
  ACalls Tryz.prog 210 [ptr (j+2)] (H0::H1::E) (fun r h=>r=.own (E.length+2) (plS to s.terms[a].p).length 0 (plS to s.terms[a].p).length∧h=addB (H0::H1::E) (.arr (plS to s.terms[a].p).length 2 (vposts (plS to s.terms[a].p)))):=by
 have g1:(H0::H1::E)[j+2]?=some (strB s to a n):=hE
 have hlt:=lt_of_get g1
 refine ACalls.fl (c_merge_places s to a n h1 hl ht hp hq hd) [j+2] ?_ ?_ rfl (flatH.cons Blk.lt_g1 flatH.nil) (by rintro r h ⟨_,rfl⟩;exact flatH.cons Blk.lt_g1 (flatH.cons Blk.lt_g flatH.nil)) ?_
 ·have q1:Nat.ble (j+2+1) (H0::H1::E).length=true:=Nat.ble_eq_true_of_le hlt
  simp only [nodupB,memN,q1];rfl
 ·simp [optL,hE]
 ·rintro r h ⟨rfl,rfl⟩
  refine ⟨rfl,?_⟩
  show addB (setB (H0::H1::E) (j+2) (strB s to a n)) _=_
  rw [setB_eq,set_self g1]
theorem stepQ_last {Q:List TmO} {m b g:Nat} {x:ByteArray} {p:List Po} (hm:Q.length=m+1) (e:(Q[m]'(by omega)).t=x):(Q.set m (⟨(Q[m]'(by omega)).t,b,g,(Q[m]'(by omega)).p++p⟩:TmO)).map TmO.abs=stepW (Q.map TmO.abs) x p:=by
 have hl:lastT (Q.map TmO.abs)=(Q[m]'(by omega)).abs:=by
  rw [last_eq (by simp;omega)];simp [hm]
 rw [stepW,if_pos ⟨by simp;omega,by rw [hl];exact e⟩,hl,List.map_set,← e]
 simp [hm,TmO.abs]
theorem stepQ_no {Q:List TmO} {x:ByteArray} (h:∀ i (hi:i < Q.length),Q.length=i+1→Q[i].t≠x):¬ (0 < (Q.map TmO.abs).length∧(lastT (Q.map TmO.abs)).t=x):=by
 rintro ⟨h1,h2⟩
 have h3:0 < Q.length:=by simpa using h1
 rw [last_eq h1,List.getElem_map] at h2
 simp only [List.length_map] at h2
 exact h (Q.length-1) (by omega) (by omega) h2
theorem stepQ_new {Q:List TmO} {b g:Nat} {x:ByteArray} {p:List Po} (h:∀ i (hi:i < Q.length),Q.length=i+1→Q[i].t≠x) (hp:p≠[]):(Q++[(⟨x,b,g,p⟩:TmO)]).map TmO.abs=stepW (Q.map TmO.abs) x p:=by
 rw [stepW,if_neg (stepQ_no h),if_neg hp,List.map_append];rfl
theorem stepQ_skip {Q:List TmO} {x:ByteArray} {p:List Po} (h:∀ i (hi:i < Q.length),Q.length=i+1→Q[i].t≠x) (hp:p=[]):Q.map TmO.abs=stepW (Q.map TmO.abs) x p:=by
 rw [stepW,if_neg (stepQ_no h),if_pos hp]
structure L3 where
 i:Nat
 Q:List TmO
 E:List Blk
structure L2 where
 k:Nat
 n:Nat
 g:Nat
 R:List Nat
 J:List Nat
 Q:List TmO
 E:List Blk
structure L1 where
 k:Nat
 R:List Nat
 E:List Blk
 pos:Nat→Nat
theorem gbe {x y b:Blk} {D:List Blk} {i:Nat} (h:D[i]?=some b):getB (x::y::D) (i+2)=some b:=by rw [getB_eq];simpa using h
def hpS (g n:Nat) (R J:List Nat) (E:List Blk):List Blk:=heapB g n::.arr g 1 (rowP (R++J))::E
theorem c_merge_words (l:List Sg) (v:List (List Bool)) (P:List (Nat×Nat)) (t:List (List Int)) (hb:bndM l v) (h:WdP l v P t) (hP:P.length≤64):CG Tryz.prog 146 [tsegs l,ttabs t] (tterms (termsS (P.map (cdP l)))):=by
 refine ⟨k_merge_words.calls ?_⟩
 obtain ⟨h1,h2,h3,h4⟩:=hb
 obtain ⟨r1,r2⟩:=id h.r
 have hWd:=h
 obtain ⟨Z,hZ⟩:∃ Z,RunZ l Z:=by
  obtain ⟨Z,z1,z2⟩:=ex_Z h.T
  exact ⟨Z,h.T,z1,z2⟩
 have hma:(l.map tseg).length=l.length:=by simp
 have hmt:(t.map tints).length=l.length:=by simp [h.tab.len,r1]
 (try conv=>whnf);repeat ((first|refine ⟨⟨rfl,rfl⟩,?_⟩);conv=>whnf)
 refine SW.loopR (α:=L1) (fun a=>tm 129 [(1,.g (ttabs t)),(5,.pa 0 0 0 0),(17,segs l),(18,.g (.i l.length)),(19,.g (.i a.k))])
  (fun a=>hpS a.R.length a.R.length a.R [] a.E) (fun a=>a.k≤l.length∧Lp1 l t a.E a.pos a.k a.R) (fun a=>l.length-a.k) ⟨0,[],[],fun _=>0⟩ ?_ ?_ ?_
 ·exact ⟨Nat.zero_le _,⟨fun i (hi:i < 0)=>absurd hi (Nat.not_lt_zero i)⟩,by simp [liveI],fun _=>default,by simp,fun j h1 h2=>absurd h2 (by simp)⟩
 ·refine (Refi.vallocE 0 1 (es:=[V.ag [.nil 1,.fn 207 []]]) (es':=[V.ag [.own 1 0 0 0,.fn 207 []]]) rfl rfl ?_ ?_).trans (Refi.sub rfl ?_)
  ·simp [V.cells]
  ·intro j v' h
   rcases j with _|_|j
   ·exact .inr ⟨rfl,by cases h;rfl⟩
   ·exact .inl h
   ·exact .inl h
  ·simp [subT,subV,tm,tmGo,tsegs]
 ·rintro ⟨k,R,E,pos⟩ ⟨hk,hL⟩
  dsimp only at hk hL ⊢
  unfold hpS heapB
  (try conv=>whnf);repeat ((first|refine (forceH_eq E _).mpr ?_);conv=>whnf)
  refine Br.dec (fun e1=>?_) (fun e1=>?_)
  ·have hk':k < l.length:=by omega
   (try conv=>whnf);repeat ((first|refine (forceH_eq E _).mpr ?_|refine ⟨_,getZ (by omega),?_⟩|refine ⟨by omega,rfl,?_⟩|refine ⟨rfl,?_⟩);conv=>whnf)
   refine forceH_to (addB_eq E _) ?_
   (try conv=>whnf);repeat ((first|refine (forceH_eq (E++_) _).mpr ?_);conv=>whnf)
   generalize hgb:getB _ _=ogb
   obtain rfl:=hgb.symm.trans (getB_push _ _ _ E)
   clear hgb
   conv=>whnf
   refine ⟨rfl,_,rfl,⟨rfl,rfl,by decide⟩,?_⟩
   refine forceH_to (setB_push _ _ E) ?_
   (try conv=>whnf);repeat ((first|refine (forceH_eq (E++_) _).mpr ?_);conv=>whnf)
   generalize hgb:getB _ _=ogb
   obtain rfl:=hgb.symm.trans (getB_push _ _ _ E)
   clear hgb
   conv=>whnf
   (try conv=>whnf);repeat ((first|refine (forceH_eq (E++_) _).mpr ?_|refine ⟨rfl,_,rfl,?_⟩);conv=>whnf)
   have hmk:(l[k].terms.map tterm).length=l[k].terms.length:=by simp
   have hg0:l.getD k noSg=l[k]:=getD_at _ hk'
   have hkt:k < t.length:=by rw [h.tab.len];omega
   have hg1:t.getD k []=t[k]:=getD_at _ hkt
   refine Br.dec (fun e2=>?_) (fun e2=>?_)
   ·(try conv=>whnf);repeat ((first|refine (forceH_eq (E++_) _).mpr ?_);conv=>whnf)
    generalize hgb:getB _ _=ogb
    obtain rfl:=hgb.symm.trans (getB_push _ _ _ E)
    clear hgb
    conv=>whnf
    (try conv=>whnf);repeat ((first|refine (forceH_eq (E++_) _).mpr ?_|refine ⟨_,getZ (by omega),?_⟩|refine ⟨by omega,rfl,?_⟩|refine ⟨rfl,_,rfl,?_⟩|refine ⟨⟨rfl,rfl⟩,?_⟩);conv=>whnf)
    have hn0:tl l k≠0:=by rw [tl,hg0];omega
    obtain ⟨J,hJ⟩:∃ J,Blk.arr 0 5 [.g (tseg l[k])]=J:=⟨_,rfl⟩
    have hx:(E++[J]++[strB (l.getD k noSg) (t.getD k []) 0 k])[(E++[J]).length+2-2]?=some (strB (l.getD k noSg) (t.getD k []) 0 k):=by
     rw [Nat.add_sub_cancel,List.getElem?_append_right (Nat.le_refl _)];simp
    have hxn:(E++[J]).length+2∉R:=fun e=>by have:=hL.lt e;simp at this;omega
    obtain ⟨K,k1,k2,k3⟩:=((hL.h.app [J]).app [strB (l.getD k noSg) (t.getD k []) 0 k]).put hxn (by omega) hx (by show 0 < tl l k;omega)
    have hRl:=hL.len
    have hpush:=c_heap_push R.length R.length R [] _ _ K rfl (by omega) k1 k2 (nodup_snoc hL.nd hxn) k3
    have hfin:=fun R'=>hL.push (R':=R') hn0 J k1 k2
    rw [hg0,hg1] at hpush hfin
    obtain ⟨E2,hE2⟩:∃ E2,E++[J]++[strB l[k] t[k] 0 k]=E2:=⟨_,rfl⟩
    have hlen:(E++[J]).length=E.length+1:=by simp
    rw [hE2] at hpush hfin
    refine forceH_to (t':=E2) ((addB_eq (E++_) _).trans (by rw [← hE2,← hJ];rfl)) ?_
    try conv=>whnf
    subst hJ
    refine hpush.mono ?_
    rintro r hh ⟨rfl,R',hRp,hRh,rfl⟩
    have hRl':R'.length=R.length+1:=by rw [hRp.length_eq,List.length_append];rfl
    obtain ⟨pos',hL'⟩:=hfin R' hRp (by rw [hRl'];exact hRh)
    unfold heapB
    (try conv=>whnf);repeat ((first|refine (forceH_eq E2 _).mpr ?_|refine ⟨in64 (by omega) (by omega),?_⟩);conv=>whnf)
    refine ⟨⟨⟨k+1,R',E2,pos'⟩,⟨hk',hL'⟩,by show l.length-(k+1) < l.length-k;omega,Refi.sub ?_ ?_⟩⟩
    ·rw [hRl',List.append_nil]
    ·simp [subT,subV,tm,tmGo]
   ·(try conv=>whnf);repeat ((first|refine (forceH_eq (E++_) _).mpr ?_|refine ⟨in64 (by omega) (by omega),?_⟩);conv=>whnf)
    refine ⟨⟨⟨k+1,R,E++[.arr 0 5 [.g (tseg l[k])]],pos⟩,⟨hk',hL.skip (by rw [tl,hg0];omega) _⟩,by show l.length-(k+1) < l.length-k;omega,Refi.sub ?_ ?_⟩⟩
    ·rfl
    ·simp [subT,subV,tm,tmGo]
  ·have hkl:k=l.length:=by omega
   subst hkl
   clear hk e1
   (try conv=>whnf);repeat ((first|refine (forceH_eq E _).mpr ?_);conv=>whnf)
   obtain ⟨ob,hob⟩:∃ ob,E.length=ob:=⟨_,rfl⟩
   refine SW.loopR (α:=L2) (fun a=>tm 129 [(5,.pa 0 0 0 0),(8,.own (ob+2) a.Q.length 0 a.Q.length)]) (fun a=>heapB a.g a.n::.arr a.g 1 (rowP (a.R++a.J))::a.E)
    (fun a=>a.k≤Z.length∧a.R.length=a.n∧Lp2 l t Z a.E pos a.k a.R∧OutI a.Q a.E ob∧a.Q.map TmO.abs=outW l t (Z.take a.k)) (fun a=>Z.length-a.k) ⟨0,R.length,R.length,R,[],[],E++[.arr 0 2 []]⟩ ?_ ?_ ?_
   ·exact ⟨Nat.zero_le _,rfl,hL.start.app _,⟨by subst hob;simp,fun i hi=>absurd hi (Nat.not_lt_zero i),by simp,by simp⟩,by simp [outW]⟩
   ·refine (Refi.valloc 8 2 rfl).trans (Refi.sub ?_ ?_)
    ·simp [addB_eq,heapB]
    ·subst hob
     simp [subT,subV,tm,tmGo,setT]
   clear hL
   rintro ⟨k,n,g,R,J,Q,E⟩ ⟨hk,hn,hL,hO,hQ⟩
   dsimp only at hk hn hL hO hQ ⊢
   unfold heapB
   (try conv=>whnf);repeat ((first|refine (forceH_eq E _).mpr ?_|refine ⟨rfl,_,rfl,?_⟩);conv=>whnf)
   refine Br.dec (fun e1=>?_) (fun e1=>?_)
   ·obtain ⟨n,rfl⟩:∃ m,n=m+1:=⟨n-1,by omega⟩
    have hk':=hL.more hZ (by omega)
    obtain ⟨K,hK,hKh⟩:=id hL.h
    rw [hn] at hKh
    have hRl:R.length < 1000000000:=by
     rw [hL.p.length_eq,List.length_map]
     have:=List.length_filter_le (fun i=>decide (cntZ i (Z.take k) < tl l i)) (List.range l.length)
     simp only [liveI,List.length_range] at this ⊢
     omega
    (try conv=>whnf);repeat ((first|refine (forceH_eq E _).mpr ?_);conv=>whnf)
    refine (c_heap_pop g n R J E K hn (by omega) hK hL.nd hKh).mono ?_
    rintro r hh ⟨rfl,R',J',q1,q2,q3,rfl⟩
    obtain ⟨e2,hpop⟩:=hL.pop hZ hk' hK (by rw [hn];exact hKh) (by omega) q2 (by rw [q1];exact q3)
    obtain ⟨x2,hx⟩:=hpop.at' hZ
    obtain ⟨j,hj⟩:∃ j,pos Z[k].1=j+2:=⟨pos Z[k].1-2,by omega⟩
    rw [e2,hj]
    rw [hj,Nat.add_sub_cancel] at hx
    obtain ⟨z1,z2⟩:=mem_allZ.1 (hZ.perm.mem_iff.1 (List.getElem_mem hk'))
    obtain ⟨s1,s2⟩:=r2 _ z1
    have hT:=s1.tms
    have hxt:tmZ l Z[k]=(l.getD Z[k].1 noSg).terms[Z[k].2]:=tmZ_eq z2
    have hxm:=List.getElem_mem z2
    have hto:(t.getD Z[k].1 []).length=(l.getD Z[k].1 noSg).ids.length:=by rw [h.tab.row _ (by omega),s2]
    have hmp:=(hT.ok _ hxm).2
    have cpl:=fun (H0 H1:Blk)=>places_at (H0:=H0) (H1:=H1) hx z2 (by have:=hT.len;omega) (by have:=s1.1;omega) (by have:=hmp.len;omega) (fun p hp=>by have:=hmp.le p hp;omega) (fun p hp=>by
     obtain ⟨d,hd,e,_⟩:=(mem_post s1 hxm).1 hp
     rw [cards_len s1] at hd
     rw [e,hto];simp only;omega)
    have hplz:plS (t.getD Z[k].1 []) (l.getD Z[k].1 noSg).terms[Z[k].2].p=plZ l t Z[k]:=by rw [plZ,hxt]
    rw [hplz] at cpl
    have hmk:((l.getD Z[k].1 noSg).terms.map tterm).length=(l.getD Z[k].1 noSg).terms.length:=by simp
    unfold heapB
    (try conv=>whnf);repeat ((first|refine (forceH_eq E _).mpr ?_);conv=>whnf)
    generalize hgb:getB _ _=ogb
    obtain rfl:=hgb.symm.trans (gbe hx)
    clear hgb
    conv=>whnf
    (try conv=>whnf);repeat ((first|refine (forceH_eq E _).mpr ?_|refine ⟨rfl,_,rfl,?_⟩);conv=>whnf)
    generalize hgb:getB _ _=ogb
    obtain rfl:=hgb.symm.trans (gbe hx)
    clear hgb
    conv=>whnf
    (try conv=>whnf);repeat ((first|refine (forceH_eq E _).mpr ?_|refine ⟨_,getZ (by omega),?_⟩|refine ⟨by omega,rfl,?_⟩|refine ⟨rfl,_,rfl,?_⟩);conv=>whnf)
    refine (cpl _ _).mono ?_
    rintro r hh ⟨rfl,rfl⟩
    refine ⟨⟨_,addB_eq _ _⟩,?_⟩
    conv=>whnf
    obtain ⟨p,hp⟩:∃ p,plZ l t Z[k]=p:=⟨_,rfl⟩
    obtain ⟨F1,hF1⟩:∃ F,E++[Blk.arr p.length 2 (vposts p)]=F:=⟨_,rfl⟩
    rw [hp]
    refine forceH_to ((addB_eq E _).trans hF1) ?_
    (try conv=>whnf);repeat ((first|refine (forceH_eq F1 _).mpr ?_);conv=>whnf)
    have hO1:OutI Q F1 ob:=by rw [← hF1];exact hO.app _
    have hP1:Pop2 l t Z F1 pos k hk' R':=by rw [← hF1];exact hpop.app _
    have hx1:F1[j]?=some (strB (l.getD Z[k].1 noSg) (t.getD Z[k].1 []) Z[k].2 Z[k].1):=by rw [← hF1,List.getElem?_append_left (lt_of_get hx)];exact hx
    have hp1:F1[E.length]?=some (.arr p.length 2 (vposts p)):=by rw [← hF1];simp
    have hQb:Q.length≤200*l.length:=by
     have e4:=congrArg List.length hQ
     rw [List.length_map] at e4
     have e5:=outW_len (l:=l) (t:=t) (Z:=Z) k hk
     have e6:=allZ_len hZ.T
     have e7:=hZ.perm.length_eq
     omega
    have hab:Z[k].2 < 200:=by have:=hT.len;omega
    have hst0:outW l t (Z.take (k+1))=stepW (Q.map TmO.abs) (l.getD Z[k].1 noSg).terms[Z[k].2].t p:=by rw [outW_succ hk',hQ,hxt,hp]
    refine Br.dec (fun e3=>?_) (fun e3=>?_)
    ·(try conv=>whnf);repeat ((first|refine (forceH_eq F1 _).mpr ?_|refine ⟨in64 (by omega) (by omega),?_⟩);conv=>whnf)
     generalize hgb:getB _ _=ogb
     obtain rfl:=hgb.symm.trans (gbe hO1.out)
     clear hgb
     conv=>whnf
     obtain ⟨m,hm⟩:∃ m,Q.length=m+1:=⟨Q.length-1,by omega⟩
     have hml:m < Q.length:=by omega
     have hmz:0+(((Q.length:Nat):Int)-1).toNat=m:=by omega
     have hql:(Q.map cellO)[0+(((Q.length:Nat):Int)-1).toNat]?=some (V.ag [.g (.s Q[m].t),.own (Q[m].b+2) Q[m].g 0 Q[m].p.length]):=by rw [hmz,List.getElem?_map,List.getElem?_eq_getElem hml];rfl
     (try conv=>whnf);repeat ((first|refine (forceH_eq F1 _).mpr ?_|refine ⟨⟨by omega,by omega⟩,⟨rfl,rfl⟩,?_⟩);conv=>whnf)
     generalize hgb:getB _ _=ogb
     obtain rfl:=hgb.symm.trans (gbe hO1.out)
     clear hgb
     conv=>whnf
     (try conv=>whnf);repeat ((first|refine (forceH_eq F1 _).mpr ?_|refine ⟨rfl,_,hql,?_⟩);conv=>whnf)
     rw [bl_beq]
     refine Br.dec (fun e4=>?_) (fun e4=>?_)
     ·(try conv=>whnf);repeat ((first|refine (forceH_eq F1 _).mpr ?_|refine ⟨in64 (by omega) (by omega),?_⟩);conv=>whnf)
      generalize hgb:getB _ _=ogb
      obtain rfl:=hgb.symm.trans (gbe hO1.out)
      clear hgb
      conv=>whnf
      (try conv=>whnf);repeat ((first|refine (forceH_eq F1 _).mpr ?_|refine ⟨⟨by omega,by omega⟩,⟨rfl,rfl⟩,?_⟩);conv=>whnf)
      generalize hgb:getB _ _=ogb
      obtain rfl:=hgb.symm.trans (gbe hO1.out)
      clear hgb
      conv=>whnf
      (try conv=>whnf);repeat ((first|refine (forceH_eq F1 _).mpr ?_|refine ⟨rfl,_,hql,?_⟩);conv=>whnf)
      generalize hgb:getB _ _=ogb
      obtain rfl:=hgb.symm.trans (gbe hp1)
      clear hgb
      conv=>whnf
      have hvl:(vposts p).length=p.length:=by simp [vposts]
      refine ⟨⟨rfl,by rw [hvl];omega,rfl⟩,?_⟩
      rw [show List.take p.length (List.drop 0 (vposts p))=vposts p from by rw [List.drop_zero,← hvl,List.take_length]]
      conv=>whnf
      have hPm:F1[Q[m].b]?=some (.arr Q[m].g 2 (vposts Q[m].p)):=hO1.P m hml
      generalize hgb:getB _ _=ogb
      obtain rfl:=hgb.symm.trans (gbe hPm)
      clear hgb
      conv=>whnf
      obtain ⟨F2,hF2⟩:∃ F,F1.set Q[m].b (Blk.arr (Q[m].g+1) 2 (vposts Q[m].p++vposts p))=F:=⟨_,rfl⟩
      have ho2:F2[ob]?=some (.arr Q.length 2 (Q.map cellO)):=by rw [← hF2,List.getElem?_set_ne (hO1.no _ (List.getElem_mem hml))];exact hO1.out
      obtain ⟨F3,hF3⟩:∃ F,F2.set ob (Blk.arr Q.length 2 ((Q.map cellO).set (0+(((Q.length:Nat):Int)-1).toNat) (V.ag [.g (.s Q[m].t),.own (Q[m].b+2) (Q[m].g+1) 0 (Q[m].p.length+(vposts p).length)])))=F:=⟨_,rfl⟩
      have hbP:=hWd.bnd hZ hk (x:=Q[m].abs) (by rw [← hQ];exact List.mem_map_of_mem (List.getElem_mem hml))
      have hpl:p.length≤64:=by
       have:=List.length_filterMap_le (plcT (t.getD Z[k].1 [])) (l.getD Z[k].1 noSg).terms[Z[k].2].p
       rw [← hp,← hplz,plS]
       have:=hmp.len;omega
      have hbP1:Q[m].p.length≤P.length:=hbP.1
      refine ⟨(by rw [hvl];omega:(2*(Q[m].p.length+(vposts p).length)+1024)*(32+1)≤281474976710656),⟨rfl,rfl,rfl⟩,_,⟨[],(List.append_nil _).symm⟩,by simp [vposts],?_⟩
      refine forceH_to ((setB_eq F1 Q[m].b _).trans hF2) ?_
      try conv=>whnf
      generalize hgb:getB _ _=ogb
      obtain rfl:=hgb.symm.trans (gbe ho2)
      clear hgb
      conv=>whnf
      (try conv=>whnf);repeat ((first|refine (forceH_eq F2 _).mpr ?_|refine ⟨⟨by omega,by omega⟩,⟨rfl,rfl⟩,?_⟩);conv=>whnf)
      generalize hgb:getB _ _=ogb
      obtain rfl:=hgb.symm.trans (gbe ho2)
      clear hgb
      conv=>whnf
      refine ⟨rfl,_,hql,⟨rfl,rfl,by decide⟩,?_⟩
      refine forceH_to ((setB_eq F2 ob _).trans hF3) ?_
      have hP3:Pop2 l t Z F3 pos k hk' R':=by rw [← hF3];refine Pop2.set2 ?_ ho2 _;rw [← hF2];exact hP1.set2 hPm _
      have hx3:F3[j]?=some (strB (l.getD Z[k].1 noSg) (t.getD Z[k].1 []) Z[k].2 Z[k].1):=by
       have:=(hP3.at' hZ).2
       rwa [hj,Nat.add_sub_cancel] at this
      have hO3:OutI (Q.set m ⟨Q[m].t,Q[m].b,Q[m].g+1,Q[m].p++p⟩) F3 ob:=by
       have h9:=hO1.upd hml (Q[m].g+1) (Q[m].p++p)
       rw [show vposts (Q[m].p++p)=vposts Q[m].p++vposts p from by simp [vposts],hF2] at h9
       rw [← hF3,hmz,hvl]
       rw [show cellO ⟨Q[m].t,Q[m].b,Q[m].g+1,Q[m].p++p⟩=V.ag [.g (.s Q[m].t),.own (Q[m].b+2) (Q[m].g+1) 0 (Q[m].p.length+p.length)] from by simp [cellO]] at h9
       exact h9
      obtain ⟨G,hG⟩:∃ G,F3.set j (strB (l.getD Z[k].1 noSg) (t.getD Z[k].1 []) (Z[k].2+1) Z[k].1)=G:=⟨_,rfl⟩
      obtain ⟨g1,g2,g3⟩:=(hP3).step hZ
      rw [hj,Nat.add_sub_cancel,hG] at g1 g2
      rw [hj] at g3
      have hxG:G[j]?=some (strB (l.getD Z[k].1 noSg) (t.getD Z[k].1 []) (Z[k].2+1) Z[k].1):=by rw [← hG,List.getElem?_set_self (lt_of_get hx3)]
      have hOG:OutI (Q.set m ⟨Q[m].t,Q[m].b,Q[m].g+1,Q[m].p++p⟩) G ob:=by rw [← hG];exact (hO3).set8 hx3 _
      have hnj:j+2∉R':=by have:=hpop.nd.2;rwa [hj] at this
      (try conv=>whnf);repeat ((first|refine (forceH_eq F3 _).mpr ?_);conv=>whnf)
      generalize hgb:getB _ _=ogb
      obtain rfl:=hgb.symm.trans (gbe hx3)
      clear hgb
      conv=>whnf
      (try conv=>whnf);repeat ((first|refine (forceH_eq F3 _).mpr ?_|refine ⟨rfl,_,rfl,?_⟩|refine ⟨in64 (by omega) (by omega),?_⟩);conv=>whnf)
      generalize hgb:getB _ _=ogb
      obtain rfl:=hgb.symm.trans (gbe hx3)
      clear hgb
      conv=>whnf
      refine ⟨rfl,_,rfl,⟨rfl,rfl,by decide⟩,?_⟩
      refine forceH_to ((setB_eq F3 j _).trans hG) ?_
      (try conv=>whnf);repeat ((first|refine (forceH_eq G _).mpr ?_);conv=>whnf)
      generalize hgb:getB _ _=ogb
      obtain rfl:=hgb.symm.trans (gbe hxG)
      clear hgb
      conv=>whnf
      (try conv=>whnf);repeat ((first|refine (forceH_eq G _).mpr ?_|refine ⟨rfl,_,rfl,?_⟩);conv=>whnf)
      generalize hgb:getB _ _=ogb
      obtain rfl:=hgb.symm.trans (gbe hxG)
      clear hgb
      conv=>whnf
      (try conv=>whnf);repeat ((first|refine (forceH_eq G _).mpr ?_|refine ⟨rfl,_,rfl,?_⟩);conv=>whnf)
      refine Br.dec (fun e8=>?_) (fun e8=>?_)
      ·have hlt8:Z[k].2+1 < (l.getD Z[k].1 noSg).terms.length:=by omega
       obtain ⟨K2,u1,u2,u3⟩:=g2.put hnj (by omega) hxG hlt8
       rw [q1] at u3
       (try conv=>whnf);repeat ((first|refine (forceH_eq G _).mpr ?_);conv=>whnf)
       refine (c_heap_push g n R' J' (j+2) G K2 q1 (by omega) u1 u2 (nodup_snoc hpop.nd.1 hnj) u3).mono ?_
       rintro r hh ⟨rfl,R2,w1,w2,rfl⟩
       have hR2:R2.length=n+1:=by rw [w1.length_eq,List.length_append,q1];rfl
       unfold heapB
       (try conv=>whnf);repeat ((first|refine (forceH_eq G _).mpr ?_);conv=>whnf)
       refine ⟨⟨⟨k+1,n+1,g+1,R2,[],(Q.set m ⟨Q[m].t,Q[m].b,Q[m].g+1,Q[m].p++p⟩),G⟩,⟨hk',hR2,⟨g1,?_,K2,fun b hb=>?_,by rw [hR2];exact w2⟩,hOG,?_⟩,by show Z.length-(k+1) < Z.length-k;omega,Refi.sub (by rw [List.append_nil]) (by simp [subT,subV,tm,tmGo])⟩⟩
       ·rw [if_pos hlt8] at g3
        exact w1.trans g3.symm
       ·rcases List.mem_append.1 (w1.mem_iff.1 hb) with hb|hb
        ·exact u2 b hb
        ·rw [List.mem_singleton] at hb;subst hb;exact u1
       ·rw [hst0];exact stepQ_last hm e4
      ·have hlt8:¬ Z[k].2+1 < tl l Z[k].1:=fun e=>e8 (by rw [tl] at e;omega)
       try conv=>whnf
       refine ⟨⟨⟨k+1,n,g,R',J',(Q.set m ⟨Q[m].t,Q[m].b,Q[m].g+1,Q[m].p++p⟩),G⟩,⟨hk',q1,⟨g1,?_,g2⟩,hOG,?_⟩,by show Z.length-(k+1) < Z.length-k;omega,Refi.sub rfl (by simp [subT,subV,tm,tmGo])⟩⟩
       ·rw [if_neg hlt8,List.append_nil] at g3
        exact g3.symm
       ·rw [hst0];exact stepQ_last hm e4
     ·(try conv=>whnf);repeat ((first|refine (forceH_eq F1 _).mpr ?_);conv=>whnf)
      have hno:∀ i (hi:i < Q.length),Q.length=i+1→Q[i].t≠(l.getD Z[k].1 noSg).terms[Z[k].2].t:=fun i hi e=>by
       have:i=m:=by omega
       subst this;exact e4
      refine Br.dec (fun e5=>?_) (fun e5=>?_)
      ·(try conv=>whnf);repeat ((first|refine (forceH_eq F1 _).mpr ?_|refine And.intro (show cellsAll _ _ from by repeat (first|exact trivial|refine ⟨⟨rfl,rfl⟩,?_⟩)) ?_);conv=>whnf)
       generalize hq:X.ev _ (X.t 94)=q
       obtain rfl:q=.ag [.g (.s (l.getD Z[k].1 noSg).terms[Z[k].2].t),.own (E.length+2) p.length 0 p.length]:=hq.symm
       clear hq
       obtain ⟨F2,hF2⟩:∃ F,F1++[Blk.arr 0 2 [.ag [.g (.s (l.getD Z[k].1 noSg).terms[Z[k].2].t),.own (E.length+2) p.length 0 p.length]]]=F:=⟨_,rfl⟩
       have hO2:OutI Q F2 ob:=by rw [← hF2];exact hO1.app _
       obtain ⟨F3,hF3⟩:∃ F,F2.set ob (Blk.arr (Q.length+1) 2 (Q.map cellO++[.ag [.g (.s (l.getD Z[k].1 noSg).terms[Z[k].2].t),.own (E.length+2) p.length 0 p.length]]))=F:=⟨_,rfl⟩
       have hP3:Pop2 l t Z F3 pos k hk' R':=by rw [← hF3];refine Pop2.set2 ?_ hO2.out _;rw [← hF2];exact hP1.app _
       have hx3:F3[j]?=some (strB (l.getD Z[k].1 noSg) (t.getD Z[k].1 []) Z[k].2 Z[k].1):=by
        have:=(hP3.at' hZ).2
        rwa [hj,Nat.add_sub_cancel] at this
       have hO3:OutI (Q++[⟨(l.getD Z[k].1 noSg).terms[Z[k].2].t,E.length,p.length,p⟩]) F3 ob:=by
        rw [← hF3,← hF2,← hF1];exact hO.new _ _ _ _
       refine forceH_to ((addB_eq F1 _).trans hF2) ?_
       try conv=>whnf
       generalize hgb:getB _ _=ogb
       obtain rfl:=hgb.symm.trans (hF2▸getB_push _ _ _ F1)
       clear hgb
       conv=>whnf
       refine ⟨⟨rfl,Nat.le_refl _,rfl⟩,?_⟩
       conv=>whnf
       generalize hgb:getB _ _=ogb
       obtain rfl:=hgb.symm.trans (gbe hO2.out)
       clear hgb
       conv=>whnf
       refine ⟨(by omega:(2*(Q.length+1)+1024)*(40+1)≤281474976710656),⟨rfl,rfl,rfl⟩,_,⟨[],(List.append_nil _).symm⟩,by simp,?_⟩
       refine forceH_to ((setB_eq F2 ob _).trans hF3) ?_
       obtain ⟨G,hG⟩:∃ G,F3.set j (strB (l.getD Z[k].1 noSg) (t.getD Z[k].1 []) (Z[k].2+1) Z[k].1)=G:=⟨_,rfl⟩
       obtain ⟨g1,g2,g3⟩:=(hP3).step hZ
       rw [hj,Nat.add_sub_cancel,hG] at g1 g2
       rw [hj] at g3
       have hxG:G[j]?=some (strB (l.getD Z[k].1 noSg) (t.getD Z[k].1 []) (Z[k].2+1) Z[k].1):=by rw [← hG,List.getElem?_set_self (lt_of_get hx3)]
       have hOG:OutI (Q++[⟨(l.getD Z[k].1 noSg).terms[Z[k].2].t,E.length,p.length,p⟩]) G ob:=by rw [← hG];exact (hO3).set8 hx3 _
       have hnj:j+2∉R':=by have:=hpop.nd.2;rwa [hj] at this
       (try conv=>whnf);repeat ((first|refine (forceH_eq F3 _).mpr ?_);conv=>whnf)
       generalize hgb:getB _ _=ogb
       obtain rfl:=hgb.symm.trans (gbe hx3)
       clear hgb
       conv=>whnf
       (try conv=>whnf);repeat ((first|refine (forceH_eq F3 _).mpr ?_|refine ⟨rfl,_,rfl,?_⟩|refine ⟨in64 (by omega) (by omega),?_⟩);conv=>whnf)
       generalize hgb:getB _ _=ogb
       obtain rfl:=hgb.symm.trans (gbe hx3)
       clear hgb
       conv=>whnf
       refine ⟨rfl,_,rfl,⟨rfl,rfl,by decide⟩,?_⟩
       refine forceH_to ((setB_eq F3 j _).trans hG) ?_
       (try conv=>whnf);repeat ((first|refine (forceH_eq G _).mpr ?_);conv=>whnf)
       generalize hgb:getB _ _=ogb
       obtain rfl:=hgb.symm.trans (gbe hxG)
       clear hgb
       conv=>whnf
       (try conv=>whnf);repeat ((first|refine (forceH_eq G _).mpr ?_|refine ⟨rfl,_,rfl,?_⟩);conv=>whnf)
       generalize hgb:getB _ _=ogb
       obtain rfl:=hgb.symm.trans (gbe hxG)
       clear hgb
       conv=>whnf
       (try conv=>whnf);repeat ((first|refine (forceH_eq G _).mpr ?_|refine ⟨rfl,_,rfl,?_⟩);conv=>whnf)
       refine Br.dec (fun e8=>?_) (fun e8=>?_)
       ·have hlt8:Z[k].2+1 < (l.getD Z[k].1 noSg).terms.length:=by omega
        obtain ⟨K2,u1,u2,u3⟩:=g2.put hnj (by omega) hxG hlt8
        rw [q1] at u3
        (try conv=>whnf);repeat ((first|refine (forceH_eq G _).mpr ?_);conv=>whnf)
        refine (c_heap_push g n R' J' (j+2) G K2 q1 (by omega) u1 u2 (nodup_snoc hpop.nd.1 hnj) u3).mono ?_
        rintro r hh ⟨rfl,R2,w1,w2,rfl⟩
        have hR2:R2.length=n+1:=by rw [w1.length_eq,List.length_append,q1];rfl
        unfold heapB
        (try conv=>whnf);repeat ((first|refine (forceH_eq G _).mpr ?_);conv=>whnf)
        refine ⟨⟨⟨k+1,n+1,g+1,R2,[],(Q++[⟨(l.getD Z[k].1 noSg).terms[Z[k].2].t,E.length,p.length,p⟩]),G⟩,⟨hk',hR2,⟨g1,?_,K2,fun b hb=>?_,by rw [hR2];exact w2⟩,hOG,?_⟩,by show Z.length-(k+1) < Z.length-k;omega,Refi.sub (by rw [List.append_nil]) (by simp [subT,subV,tm,tmGo])⟩⟩
        ·rw [if_pos hlt8] at g3
         exact w1.trans g3.symm
        ·rcases List.mem_append.1 (w1.mem_iff.1 hb) with hb|hb
         ·exact u2 b hb
         ·rw [List.mem_singleton] at hb;subst hb;exact u1
        ·rw [hst0];exact stepQ_new hno (fun e=>absurd e5 (by rw [e];exact Int.lt_irrefl 0))
       ·have hlt8:¬ Z[k].2+1 < tl l Z[k].1:=fun e=>e8 (by rw [tl] at e;omega)
        try conv=>whnf
        refine ⟨⟨⟨k+1,n,g,R',J',(Q++[⟨(l.getD Z[k].1 noSg).terms[Z[k].2].t,E.length,p.length,p⟩]),G⟩,⟨hk',q1,⟨g1,?_,g2⟩,hOG,?_⟩,by show Z.length-(k+1) < Z.length-k;omega,Refi.sub rfl (by simp [subT,subV,tm,tmGo])⟩⟩
        ·rw [if_neg hlt8,List.append_nil] at g3
         exact g3.symm
        ·rw [hst0];exact stepQ_new hno (fun e=>absurd e5 (by rw [e];exact Int.lt_irrefl 0))
      ·have hp0:p=[]:=List.length_eq_zero_iff.1 (by omega)
       obtain ⟨G,hG⟩:∃ G,F1.set j (strB (l.getD Z[k].1 noSg) (t.getD Z[k].1 []) (Z[k].2+1) Z[k].1)=G:=⟨_,rfl⟩
       obtain ⟨g1,g2,g3⟩:=(hP1).step hZ
       rw [hj,Nat.add_sub_cancel,hG] at g1 g2
       rw [hj] at g3
       have hxG:G[j]?=some (strB (l.getD Z[k].1 noSg) (t.getD Z[k].1 []) (Z[k].2+1) Z[k].1):=by rw [← hG,List.getElem?_set_self (lt_of_get hx1)]
       have hOG:OutI Q G ob:=by rw [← hG];exact (hO1).set8 hx1 _
       have hnj:j+2∉R':=by have:=hpop.nd.2;rwa [hj] at this
       (try conv=>whnf);repeat ((first|refine (forceH_eq F1 _).mpr ?_);conv=>whnf)
       generalize hgb:getB _ _=ogb
       obtain rfl:=hgb.symm.trans (gbe hx1)
       clear hgb
       conv=>whnf
       (try conv=>whnf);repeat ((first|refine (forceH_eq F1 _).mpr ?_|refine ⟨rfl,_,rfl,?_⟩|refine ⟨in64 (by omega) (by omega),?_⟩);conv=>whnf)
       generalize hgb:getB _ _=ogb
       obtain rfl:=hgb.symm.trans (gbe hx1)
       clear hgb
       conv=>whnf
       refine ⟨rfl,_,rfl,⟨rfl,rfl,by decide⟩,?_⟩
       refine forceH_to ((setB_eq F1 j _).trans hG) ?_
       (try conv=>whnf);repeat ((first|refine (forceH_eq G _).mpr ?_);conv=>whnf)
       generalize hgb:getB _ _=ogb
       obtain rfl:=hgb.symm.trans (gbe hxG)
       clear hgb
       conv=>whnf
       (try conv=>whnf);repeat ((first|refine (forceH_eq G _).mpr ?_|refine ⟨rfl,_,rfl,?_⟩);conv=>whnf)
       generalize hgb:getB _ _=ogb
       obtain rfl:=hgb.symm.trans (gbe hxG)
       clear hgb
       conv=>whnf
       (try conv=>whnf);repeat ((first|refine (forceH_eq G _).mpr ?_|refine ⟨rfl,_,rfl,?_⟩);conv=>whnf)
       refine Br.dec (fun e8=>?_) (fun e8=>?_)
       ·have hlt8:Z[k].2+1 < (l.getD Z[k].1 noSg).terms.length:=by omega
        obtain ⟨K2,u1,u2,u3⟩:=g2.put hnj (by omega) hxG hlt8
        rw [q1] at u3
        (try conv=>whnf);repeat ((first|refine (forceH_eq G _).mpr ?_);conv=>whnf)
        refine (c_heap_push g n R' J' (j+2) G K2 q1 (by omega) u1 u2 (nodup_snoc hpop.nd.1 hnj) u3).mono ?_
        rintro r hh ⟨rfl,R2,w1,w2,rfl⟩
        have hR2:R2.length=n+1:=by rw [w1.length_eq,List.length_append,q1];rfl
        unfold heapB
        (try conv=>whnf);repeat ((first|refine (forceH_eq G _).mpr ?_);conv=>whnf)
        refine ⟨⟨⟨k+1,n+1,g+1,R2,[],Q,G⟩,⟨hk',hR2,⟨g1,?_,K2,fun b hb=>?_,by rw [hR2];exact w2⟩,hOG,?_⟩,by show Z.length-(k+1) < Z.length-k;omega,Refi.sub (by rw [List.append_nil]) (by simp [subT,subV,tm,tmGo])⟩⟩
        ·rw [if_pos hlt8] at g3
         exact w1.trans g3.symm
        ·rcases List.mem_append.1 (w1.mem_iff.1 hb) with hb|hb
         ·exact u2 b hb
         ·rw [List.mem_singleton] at hb;subst hb;exact u1
        ·rw [hst0];exact stepQ_skip hno hp0
       ·have hlt8:¬ Z[k].2+1 < tl l Z[k].1:=fun e=>e8 (by rw [tl] at e;omega)
        try conv=>whnf
        refine ⟨⟨⟨k+1,n,g,R',J',Q,G⟩,⟨hk',q1,⟨g1,?_,g2⟩,hOG,?_⟩,by show Z.length-(k+1) < Z.length-k;omega,Refi.sub rfl (by simp [subT,subV,tm,tmGo])⟩⟩
        ·rw [if_neg hlt8,List.append_nil] at g3
         exact g3.symm
        ·rw [hst0];exact stepQ_skip hno hp0
    ·(try conv=>whnf);repeat ((first|refine (forceH_eq F1 _).mpr ?_);conv=>whnf)
     have hno:∀ i (hi:i < Q.length),Q.length=i+1→Q[i].t≠(l.getD Z[k].1 noSg).terms[Z[k].2].t:=fun i hi e=>absurd e3 (by omega)
     refine Br.dec (fun e5=>?_) (fun e5=>?_)
     ·(try conv=>whnf);repeat ((first|refine (forceH_eq F1 _).mpr ?_|refine And.intro (show cellsAll _ _ from by repeat (first|exact trivial|refine ⟨⟨rfl,rfl⟩,?_⟩)) ?_);conv=>whnf)
      generalize hq:X.ev _ (X.t 94)=q
      obtain rfl:q=.ag [.g (.s (l.getD Z[k].1 noSg).terms[Z[k].2].t),.own (E.length+2) p.length 0 p.length]:=hq.symm
      clear hq
      obtain ⟨F2,hF2⟩:∃ F,F1++[Blk.arr 0 2 [.ag [.g (.s (l.getD Z[k].1 noSg).terms[Z[k].2].t),.own (E.length+2) p.length 0 p.length]]]=F:=⟨_,rfl⟩
      have hO2:OutI Q F2 ob:=by rw [← hF2];exact hO1.app _
      obtain ⟨F3,hF3⟩:∃ F,F2.set ob (Blk.arr (Q.length+1) 2 (Q.map cellO++[.ag [.g (.s (l.getD Z[k].1 noSg).terms[Z[k].2].t),.own (E.length+2) p.length 0 p.length]]))=F:=⟨_,rfl⟩
      have hP3:Pop2 l t Z F3 pos k hk' R':=by rw [← hF3];refine Pop2.set2 ?_ hO2.out _;rw [← hF2];exact hP1.app _
      have hx3:F3[j]?=some (strB (l.getD Z[k].1 noSg) (t.getD Z[k].1 []) Z[k].2 Z[k].1):=by
       have:=(hP3.at' hZ).2
       rwa [hj,Nat.add_sub_cancel] at this
      have hO3:OutI (Q++[⟨(l.getD Z[k].1 noSg).terms[Z[k].2].t,E.length,p.length,p⟩]) F3 ob:=by
       rw [← hF3,← hF2,← hF1];exact hO.new _ _ _ _
      refine forceH_to ((addB_eq F1 _).trans hF2) ?_
      try conv=>whnf
      generalize hgb:getB _ _=ogb
      obtain rfl:=hgb.symm.trans (hF2▸getB_push _ _ _ F1)
      clear hgb
      conv=>whnf
      refine ⟨⟨rfl,Nat.le_refl _,rfl⟩,?_⟩
      conv=>whnf
      generalize hgb:getB _ _=ogb
      obtain rfl:=hgb.symm.trans (gbe hO2.out)
      clear hgb
      conv=>whnf
      refine ⟨(by omega:(2*(Q.length+1)+1024)*(40+1)≤281474976710656),⟨rfl,rfl,rfl⟩,_,⟨[],(List.append_nil _).symm⟩,by simp,?_⟩
      refine forceH_to ((setB_eq F2 ob _).trans hF3) ?_
      obtain ⟨G,hG⟩:∃ G,F3.set j (strB (l.getD Z[k].1 noSg) (t.getD Z[k].1 []) (Z[k].2+1) Z[k].1)=G:=⟨_,rfl⟩
      obtain ⟨g1,g2,g3⟩:=(hP3).step hZ
      rw [hj,Nat.add_sub_cancel,hG] at g1 g2
      rw [hj] at g3
      have hxG:G[j]?=some (strB (l.getD Z[k].1 noSg) (t.getD Z[k].1 []) (Z[k].2+1) Z[k].1):=by rw [← hG,List.getElem?_set_self (lt_of_get hx3)]
      have hOG:OutI (Q++[⟨(l.getD Z[k].1 noSg).terms[Z[k].2].t,E.length,p.length,p⟩]) G ob:=by rw [← hG];exact (hO3).set8 hx3 _
      have hnj:j+2∉R':=by have:=hpop.nd.2;rwa [hj] at this
      (try conv=>whnf);repeat ((first|refine (forceH_eq F3 _).mpr ?_);conv=>whnf)
      generalize hgb:getB _ _=ogb
      obtain rfl:=hgb.symm.trans (gbe hx3)
      clear hgb
      conv=>whnf
      (try conv=>whnf);repeat ((first|refine (forceH_eq F3 _).mpr ?_|refine ⟨rfl,_,rfl,?_⟩|refine ⟨in64 (by omega) (by omega),?_⟩);conv=>whnf)
      generalize hgb:getB _ _=ogb
      obtain rfl:=hgb.symm.trans (gbe hx3)
      clear hgb
      conv=>whnf
      refine ⟨rfl,_,rfl,⟨rfl,rfl,by decide⟩,?_⟩
      refine forceH_to ((setB_eq F3 j _).trans hG) ?_
      (try conv=>whnf);repeat ((first|refine (forceH_eq G _).mpr ?_);conv=>whnf)
      generalize hgb:getB _ _=ogb
      obtain rfl:=hgb.symm.trans (gbe hxG)
      clear hgb
      conv=>whnf
      (try conv=>whnf);repeat ((first|refine (forceH_eq G _).mpr ?_|refine ⟨rfl,_,rfl,?_⟩);conv=>whnf)
      generalize hgb:getB _ _=ogb
      obtain rfl:=hgb.symm.trans (gbe hxG)
      clear hgb
      conv=>whnf
      (try conv=>whnf);repeat ((first|refine (forceH_eq G _).mpr ?_|refine ⟨rfl,_,rfl,?_⟩);conv=>whnf)
      refine Br.dec (fun e8=>?_) (fun e8=>?_)
      ·have hlt8:Z[k].2+1 < (l.getD Z[k].1 noSg).terms.length:=by omega
       obtain ⟨K2,u1,u2,u3⟩:=g2.put hnj (by omega) hxG hlt8
       rw [q1] at u3
       (try conv=>whnf);repeat ((first|refine (forceH_eq G _).mpr ?_);conv=>whnf)
       refine (c_heap_push g n R' J' (j+2) G K2 q1 (by omega) u1 u2 (nodup_snoc hpop.nd.1 hnj) u3).mono ?_
       rintro r hh ⟨rfl,R2,w1,w2,rfl⟩
       have hR2:R2.length=n+1:=by rw [w1.length_eq,List.length_append,q1];rfl
       unfold heapB
       (try conv=>whnf);repeat ((first|refine (forceH_eq G _).mpr ?_);conv=>whnf)
       refine ⟨⟨⟨k+1,n+1,g+1,R2,[],(Q++[⟨(l.getD Z[k].1 noSg).terms[Z[k].2].t,E.length,p.length,p⟩]),G⟩,⟨hk',hR2,⟨g1,?_,K2,fun b hb=>?_,by rw [hR2];exact w2⟩,hOG,?_⟩,by show Z.length-(k+1) < Z.length-k;omega,Refi.sub (by rw [List.append_nil]) (by simp [subT,subV,tm,tmGo])⟩⟩
       ·rw [if_pos hlt8] at g3
        exact w1.trans g3.symm
       ·rcases List.mem_append.1 (w1.mem_iff.1 hb) with hb|hb
        ·exact u2 b hb
        ·rw [List.mem_singleton] at hb;subst hb;exact u1
       ·rw [hst0];exact stepQ_new hno (fun e=>absurd e5 (by rw [e];exact Int.lt_irrefl 0))
      ·have hlt8:¬ Z[k].2+1 < tl l Z[k].1:=fun e=>e8 (by rw [tl] at e;omega)
       try conv=>whnf
       refine ⟨⟨⟨k+1,n,g,R',J',(Q++[⟨(l.getD Z[k].1 noSg).terms[Z[k].2].t,E.length,p.length,p⟩]),G⟩,⟨hk',q1,⟨g1,?_,g2⟩,hOG,?_⟩,by show Z.length-(k+1) < Z.length-k;omega,Refi.sub rfl (by simp [subT,subV,tm,tmGo])⟩⟩
       ·rw [if_neg hlt8,List.append_nil] at g3
        exact g3.symm
       ·rw [hst0];exact stepQ_new hno (fun e=>absurd e5 (by rw [e];exact Int.lt_irrefl 0))
     ·have hp0:p=[]:=List.length_eq_zero_iff.1 (by omega)
      obtain ⟨G,hG⟩:∃ G,F1.set j (strB (l.getD Z[k].1 noSg) (t.getD Z[k].1 []) (Z[k].2+1) Z[k].1)=G:=⟨_,rfl⟩
      obtain ⟨g1,g2,g3⟩:=(hP1).step hZ
      rw [hj,Nat.add_sub_cancel,hG] at g1 g2
      rw [hj] at g3
      have hxG:G[j]?=some (strB (l.getD Z[k].1 noSg) (t.getD Z[k].1 []) (Z[k].2+1) Z[k].1):=by rw [← hG,List.getElem?_set_self (lt_of_get hx1)]
      have hOG:OutI Q G ob:=by rw [← hG];exact (hO1).set8 hx1 _
      have hnj:j+2∉R':=by have:=hpop.nd.2;rwa [hj] at this
      (try conv=>whnf);repeat ((first|refine (forceH_eq F1 _).mpr ?_);conv=>whnf)
      generalize hgb:getB _ _=ogb
      obtain rfl:=hgb.symm.trans (gbe hx1)
      clear hgb
      conv=>whnf
      (try conv=>whnf);repeat ((first|refine (forceH_eq F1 _).mpr ?_|refine ⟨rfl,_,rfl,?_⟩|refine ⟨in64 (by omega) (by omega),?_⟩);conv=>whnf)
      generalize hgb:getB _ _=ogb
      obtain rfl:=hgb.symm.trans (gbe hx1)
      clear hgb
      conv=>whnf
      refine ⟨rfl,_,rfl,⟨rfl,rfl,by decide⟩,?_⟩
      refine forceH_to ((setB_eq F1 j _).trans hG) ?_
      (try conv=>whnf);repeat ((first|refine (forceH_eq G _).mpr ?_);conv=>whnf)
      generalize hgb:getB _ _=ogb
      obtain rfl:=hgb.symm.trans (gbe hxG)
      clear hgb
      conv=>whnf
      (try conv=>whnf);repeat ((first|refine (forceH_eq G _).mpr ?_|refine ⟨rfl,_,rfl,?_⟩);conv=>whnf)
      generalize hgb:getB _ _=ogb
      obtain rfl:=hgb.symm.trans (gbe hxG)
      clear hgb
      conv=>whnf
      (try conv=>whnf);repeat ((first|refine (forceH_eq G _).mpr ?_|refine ⟨rfl,_,rfl,?_⟩);conv=>whnf)
      refine Br.dec (fun e8=>?_) (fun e8=>?_)
      ·have hlt8:Z[k].2+1 < (l.getD Z[k].1 noSg).terms.length:=by omega
       obtain ⟨K2,u1,u2,u3⟩:=g2.put hnj (by omega) hxG hlt8
       rw [q1] at u3
       (try conv=>whnf);repeat ((first|refine (forceH_eq G _).mpr ?_);conv=>whnf)
       refine (c_heap_push g n R' J' (j+2) G K2 q1 (by omega) u1 u2 (nodup_snoc hpop.nd.1 hnj) u3).mono ?_
       rintro r hh ⟨rfl,R2,w1,w2,rfl⟩
       have hR2:R2.length=n+1:=by rw [w1.length_eq,List.length_append,q1];rfl
       unfold heapB
       (try conv=>whnf);repeat ((first|refine (forceH_eq G _).mpr ?_);conv=>whnf)
       refine ⟨⟨⟨k+1,n+1,g+1,R2,[],Q,G⟩,⟨hk',hR2,⟨g1,?_,K2,fun b hb=>?_,by rw [hR2];exact w2⟩,hOG,?_⟩,by show Z.length-(k+1) < Z.length-k;omega,Refi.sub (by rw [List.append_nil]) (by simp [subT,subV,tm,tmGo])⟩⟩
       ·rw [if_pos hlt8] at g3
        exact w1.trans g3.symm
       ·rcases List.mem_append.1 (w1.mem_iff.1 hb) with hb|hb
        ·exact u2 b hb
        ·rw [List.mem_singleton] at hb;subst hb;exact u1
       ·rw [hst0];exact stepQ_skip hno hp0
      ·have hlt8:¬ Z[k].2+1 < tl l Z[k].1:=fun e=>e8 (by rw [tl] at e;omega)
       try conv=>whnf
       refine ⟨⟨⟨k+1,n,g,R',J',Q,G⟩,⟨hk',q1,⟨g1,?_,g2⟩,hOG,?_⟩,by show Z.length-(k+1) < Z.length-k;omega,Refi.sub rfl (by simp [subT,subV,tm,tmGo])⟩⟩
       ·rw [if_neg hlt8,List.append_nil] at g3
        exact g3.symm
       ·rw [hst0];exact stepQ_skip hno hp0
   ·have hn0:n=0:=by omega
    subst hn0
    have hkz:k=Z.length:=by have:=hL.done hZ hn;omega
    subst hkz
    rw [List.take_length] at hQ
    clear e1
    have hQb:Q.length≤200*l.length:=by
     have e4:=congrArg List.length hQ
     rw [List.length_map] at e4
     have e5:=outW_len (l:=l) (t:=t) (Z:=Z) Z.length (Nat.le_refl _)
     rw [List.take_length] at e5
     have e6:=allZ_len hZ.T
     have e7:=hZ.perm.length_eq
     omega
    (try conv=>whnf);repeat ((first|refine (forceH_eq E _).mpr ?_);conv=>whnf)
    obtain ⟨H0,hH0⟩:∃ B,Blk.arr 0 2 [V.ag [.own 1 g 0 0,.fn 207 []]]=B:=⟨_,rfl⟩
    obtain ⟨H1,hH1⟩:∃ B,Blk.arr g 1 (rowP (R++J))=B:=⟨_,rfl⟩
    refine SW.loopR (α:=L3) (fun a=>tm 129 [(8,.own (ob+2) Q.length 0 Q.length),(118,.own (ob+2) Q.length 0 Q.length),(119,.g (.i Q.length)),(120,.g (.i a.i))]) (fun a=>H0::H1::a.E)
     (fun a=>a.i≤Q.length∧OutI a.Q a.E ob∧a.Q.length=Q.length∧∀ j (_:j < a.Q.length) (_:j < Q.length),a.Q[j].t=Q[j].t∧a.Q[j].p.Perm Q[j].p∧(j < a.i→a.Q[j].p.Pairwise fun x y=>¬ y.1 < x.1)) (fun a=>Q.length-a.i) ⟨0,Q,E⟩ ?_ ?_ ?_
    ·exact ⟨Nat.zero_le _,hO,rfl,fun j h1 h2=>⟨rfl,.refl _,fun h3=>absurd h3 (Nat.not_lt_zero _)⟩⟩
    ·exact Refi.sub (by rw [← hH0,← hH1]) (by simp [subT,subV,tm,tmGo])
    clear hH0 hH1
    rintro ⟨i,Q2,E2⟩ ⟨hi,hO2,hl2,hq2⟩
    dsimp only at hi hO2 hl2 hq2 ⊢
    (try conv=>whnf);repeat ((first|refine (forceH_eq E2 _).mpr ?_);conv=>whnf)
    refine Br.dec (fun e1=>?_) (fun e1=>?_)
    ·have hi2:i < Q2.length:=by omega
     have hi1:i < Q.length:=by omega
     have hqi:(Q2.map cellO)[0+(i:Int).toNat]?=some (V.ag [.g (.s Q2[i].t),.own (Q2[i].b+2) Q2[i].g 0 Q2[i].p.length]):=by rw [Nat.zero_add,Int.toNat_natCast,List.getElem?_map,List.getElem?_eq_getElem hi2];rfl
     have hO2o:=hO2.out
     rw [hl2] at hO2o
     try conv=>whnf
     generalize hgb:getB _ _=ogb
     obtain rfl:=hgb.symm.trans (gbe hO2o)
     clear hgb
     conv=>whnf
     (try conv=>whnf);repeat ((first|refine (forceH_eq E2 _).mpr ?_|refine ⟨⟨by omega,by omega⟩,⟨rfl,rfl⟩,?_⟩);conv=>whnf)
     generalize hgb:getB _ _=ogb
     obtain rfl:=hgb.symm.trans (gbe hO2o)
     clear hgb
     conv=>whnf
     (try conv=>whnf);repeat ((first|refine (forceH_eq E2 _).mpr ?_|refine ⟨rfl,_,hqi,?_⟩|refine ⟨rfl,?_⟩);conv=>whnf)
     refine forceH_to (addB_eq E2 _) ?_
     try conv=>whnf
     generalize hgb:getB _ _=ogb
     obtain rfl:=hgb.symm.trans (getB_push _ _ _ E2)
     clear hgb
     conv=>whnf
     refine ⟨rfl,_,rfl,⟨rfl,rfl,by decide⟩,?_⟩
     refine forceH_to (setB_push _ _ E2) ?_
     (try conv=>whnf);repeat ((first|refine (forceH_eq (E2++_) _).mpr ?_);conv=>whnf)
     generalize hgb:getB _ _=ogb
     obtain rfl:=hgb.symm.trans (getB_push _ _ _ E2)
     clear hgb
     conv=>whnf
     (try conv=>whnf);repeat ((first|refine (forceH_eq (E2++_) _).mpr ?_|refine ⟨rfl,_,rfl,?_⟩);conv=>whnf)
     have hpp:=hO2.P i hi2
     obtain ⟨t1,t2,_⟩:=hq2 i hi2 hi1
     have hbp:=hWd.bnd hZ (Nat.le_refl _) (x:=Q[i].abs) (by rw [List.take_length,← hQ];exact List.mem_map_of_mem (List.getElem_mem hi1))
     have hpl:Q2[i].p.length≤P.length:=by rw [t2.length_eq];exact hbp.1
     refine (c_SortFunc_posts (b:=Q2[i].b+2) (g:=Q2[i].g) (l:=Q2[i].p) (by omega) (fun q hq=>by have:=hbp.2 q (t2.mem_iff.1 hq);omega) (by show (E2++_)[Q2[i].b]?=_;rw [List.getElem?_append_left (lt_of_get hpp)];exact hpp)).mono ?_
     rintro r hh ⟨rfl,l',w1,w2,rfl⟩
     obtain ⟨F,hF⟩:∃ F,(E2++[Blk.arr 0 2 [V.ag [.g (.s Q2[i].t),.own (Q2[i].b+2) Q2[i].g 0 Q2[i].p.length]]]).set Q2[i].b (Blk.arr Q2[i].g 2 (vposts l'))=F:=⟨_,rfl⟩
     have hOF:OutI (Q2.set i ⟨Q2[i].t,Q2[i].b,Q2[i].g,l'⟩) F ob:=by rw [← hF];exact (hO2.app _).srt hi2 l' w1.length_eq
     conv=>whnf
     refine forceH_to hF ?_
     (try conv=>whnf);repeat ((first|refine (forceH_eq F _).mpr ?_|refine ⟨in64 (by omega) (by omega),?_⟩);conv=>whnf)
     refine ⟨⟨⟨i+1,Q2.set i ⟨Q2[i].t,Q2[i].b,Q2[i].g,l'⟩,F⟩,⟨by dsimp only;omega,hOF,by rw [List.length_set];exact hl2,fun j h1 h2=>?_⟩,by show Q.length-(i+1) < Q.length-i;omega,Refi.sub rfl (by simp [subT,subV,tm,tmGo])⟩⟩
     dsimp only at h1 ⊢
     rw [List.length_set] at h1
     by_cases e:i=j
     ·subst e
      simp only [List.getElem_set_self]
      exact ⟨t1,w1.trans t2,fun _=>w2⟩
     ·simp only [List.getElem_set_ne e]
      obtain ⟨u1,u2,u3⟩:=hq2 j h1 h2
      exact ⟨u1,u2,fun h=>u3 (by omega)⟩
    ·have hiq:i=Q.length:=by omega
     subst hiq
     (try conv=>whnf);repeat ((first|refine (forceH_eq E2 _).mpr ?_);conv=>whnf)
     have hR:Q2.map TmO.abs=termsS (P.map (cdP l)):=by
      refine hWd.words hZ ?_ fun j h1 h2=>?_
      ·rw [← hQ,List.map_map,List.map_map]
       refine List.ext_getElem (by simp [hl2]) fun j h1 h2=>?_
       simp only [List.length_map] at h1 h2
       simp only [List.getElem_map,Function.comp_apply]
       exact (hq2 j h1 h2).1
      ·simp only [List.length_map] at h1
       simp only [← hQ,List.length_map] at h2
       obtain ⟨_,u2,u3⟩:=hq2 j h1 h2
       simp only [List.getElem_map,← hQ]
       exact ⟨u2,u3 h2⟩
     rw [← hR]
     have hdat:=hO2.data H0 H1 (n:=0) (by omega)
     rw [hl2] at hdat
     exact ⟨Ends.ground (H:=[]) (L:=_::_::E2) (t:=tterms (Q2.map TmO.abs)) 4 hdat ⟨rfl,rfl⟩⟩
end Go.Aw
