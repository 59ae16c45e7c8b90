/- Contracts of functions of the given program, by the abstract walk, for law StatReckons: what each one hands back; no condition but those that each theorem states. -/
import Derived.Test.YtocdciahhlbknaaGreatC2
import Derived.Test.YtocdciahhlbknaaGreatW3
namespace Go.Aw
open Go.Proofs
set_option maxRecDepth 100000
end Go.Aw
namespace Go.Aw
open Go.Proofs
set_option maxRecDepth 100000
abbrev Po:Type:=Int×List Int
def tpost (p:Po):T:=.ag [.i p.1,tints p.2]
def tposts (l:List Po):T:=.sl 2 (l.map tpost)
def posts (l:List Po):V:=.g (.sl 2 (l.map tpost))
def risE (e:Int):Int→List Int→Bool
 | _,[]=>true
 | l,x::xs=>decide (l < x) && decide (x < e) && risE e x xs
theorem risE_drop {e l:Int} {xs:List Int} {k:Nat} (h:k < xs.length):risE e l (xs.drop k)=(decide (l < xs[k]) && decide (xs[k] < e) && risE e xs[k] (xs.drop (k+1))):=by
 rw [List.drop_eq_getElem_cons h];rfl
theorem c_post_rising (xs:List Int) (e:Int) (hl:xs.length < 9223372036854775808):CG Tryz.prog 276 [tints xs,.i e] (.b (risE e (-1) xs)):=by
 refine ⟨k_post_rising.calls ?_⟩
 conv=>whnf
 refine SW.loop (α:=Nat×Int) (fun a=>tm 24 [(0,ints xs),(1,.g (.i e)),(5,.g (.i a.2)),(8,ints xs),(9,.g (.i xs.length)),(10,.g (.i a.1))]) (fun _=>[]) (fun a=>a.1≤xs.length∧risE e (-1) xs=risE e a.2 (xs.drop a.1)) (fun a=>xs.length-a.1) (0,-1) ?_ ?_ ?_ ?_
 ·simp
 ·rfl
 ·simp [subT,subV,tm,tmGo,ints,tints]
 ·rintro ⟨k,l⟩ ⟨hk,hr⟩
  dsimp only at hk hr ⊢
  conv=>whnf
  refine Br.dec (fun h=>?_) (fun h=>?_)
  ·conv=>whnf
   refine ⟨by simp;omega,rfl,?_⟩
   conv=>whnf
   refine ⟨_,getZ (by omega),?_⟩
   conv=>whnf
   have hk':k < xs.length:=by omega
   rw [risE_drop hk'] at hr
   refine Br.dec (fun h2=>?_) (fun h2=>?_)
   ·conv=>whnf
    rw [hr,decide_eq_false (p:=l < xs[k]) (by omega)]
    exact ⟨Ends.keep ⟨rfl,rfl⟩⟩
   ·conv=>whnf
    refine Br.dec (fun h3=>?_) (fun h3=>?_)
    ·conv=>whnf
     rw [hr,decide_eq_false (p:=xs[k] < e) (by omega),Bool.and_false]
     exact ⟨Ends.keep ⟨rfl,rfl⟩⟩
    ·conv=>whnf
     refine ⟨in64 (by omega) (by omega),?_⟩
     conv=>whnf
     rw [decide_eq_true (p:=l < xs[k]) (by omega),decide_eq_true (p:=xs[k] < e) (by omega),Bool.true_and,Bool.true_and] at hr
     exact ⟨⟨(k+1,xs[k]),⟨hk',hr⟩,by show xs.length-(k+1) < xs.length-k;omega,rfl,by simp [subT,subV,tm,tmGo,ints]⟩⟩
  ·conv=>whnf
   have:k=xs.length:=by omega
   subst this
   rw [List.drop_length] at hr
   rw [hr]
   exact ⟨Ends.keep ⟨rfl,rfl⟩⟩
def docsL (l:List Po):List Int:=l.map (·.1)
theorem docs_len {l:List Po}:(docsL l).length=l.length:=by simp [docsL]
def mayP (l:List Po):Bool:=(l.all fun p=>decide (0 < p.2.length) && decide (p.2.length≤120) && risE 120 (-1) p.2) && decide (l.length≤64) && risE 64 (-1) (docsL l)
def okP (p:Po):Bool:=decide (0 < p.2.length) && decide (p.2.length≤120) && risE 120 (-1) p.2
theorem mayP_eq (l:List Po):mayP l=(l.all okP && decide (l.length≤64) && risE 64 (-1) (docsL l)):=rfl
theorem all_take {q:Po→Bool} {l:List Po} {k:Nat} (hk:k < l.length) (h:(l.take k).all q=true) (hq:q l[k]=true):(l.take (k+1)).all q=true:=by
 rw [List.take_succ_eq_append_getElem hk,List.all_append,h];simp [hq]
theorem all_no {q:Po→Bool} {l:List Po} {k:Nat} (hk:k < l.length) (hq:q l[k]=false):l.all q=false:=by
 rw [List.all_eq_false];exact ⟨l[k],List.getElem_mem _,by simp [hq]⟩
theorem c_post_May (l:List Po) (hl:l.length < 1000000000) (hp:∀ p∈l,p.2.length < 1000000000):CG Tryz.prog 233 [tposts l] (.b (mayP l)):=by
 refine ⟨k_post_May.calls ?_⟩
 have hm:(l.map tpost).length=l.length:=by simp
 conv=>whnf
 refine SW.loopR (α:=Nat) (fun k=>tm 41 [(0,posts l),(3,.own 0 k 0 k),(6,posts l),(7,.g (.i l.length)),(8,.g (.i k))]) (fun k=>[.arr k 1 ((l.take k).map fun p=>V.g (.i p.1))]) (fun k=>k≤l.length∧(l.take k).all okP=true) (fun k=>l.length-k) 0 ?_ ?_ ?_
 ·exact ⟨Nat.zero_le _,rfl⟩
 ·exact (Refi.valloc 3 1 rfl).trans (Refi.sub rfl (by simp [subT,subV,tm,tmGo,posts,tposts,setT]))
 ·rintro k ⟨hk,hall⟩
  dsimp only at hk hall ⊢
  conv=>whnf
  refine Br.dec (fun h=>?_) (fun h=>?_)
  ·conv=>whnf
   refine ⟨by simp;omega,rfl,?_⟩
   conv=>whnf
   refine ⟨_,getZ (by omega),?_⟩
   conv=>whnf
   have hk':k < l.length:=by omega
   have htk:l.take (k+1)=l.take k++[l[k]]:=List.take_succ_eq_append_getElem hk'
   have hpk:l[k].2.length < 1000000000:=hp _ (List.getElem_mem _)
   have no:okP l[k]=false→∀ h',Ends [] (fun r h=>r=V.g (T.b (mayP l))∧h=[]) (V.g (T.sc (Value.bool false))) h':=fun e h'=>by
    rw [mayP_eq,all_no hk' e]
    exact Ends.ground (H:=[]) (L:=h') 0 rfl ⟨rfl,rfl⟩
   refine ⟨rfl,?_⟩
   conv=>whnf
   refine ⟨rfl,_,rfl,⟨rfl,rfl,by decide⟩,?_⟩
   conv=>whnf
   refine ⟨rfl,_,rfl,?_⟩
   conv=>whnf
   have hmp:(l[k].2.map T.i).length=l[k].2.length:=by simp
   refine Br.eq (fun h2=>?_) (fun h2=>?_)
   ·conv=>whnf
    exact ⟨no (by simp only [hmp] at h2;simp [okP];omega) _⟩
   ·conv=>whnf
    refine ⟨rfl,_,rfl,?_⟩
    conv=>whnf
    refine Br.dec (fun h3=>?_) (fun h3=>?_)
    ·conv=>whnf
     exact ⟨no (by simp only [hmp] at h3;simp [okP];omega) _⟩
    ·conv=>whnf
     refine ⟨rfl,_,rfl,?_⟩
     conv=>whnf
     refine (c_post_rising l[k].2 120 (by omega)).go rfl ?_
     conv=>whnf
     refine Br.not (fun h4=>?_) (fun h4=>?_)
     ·conv=>whnf
      exact ⟨no (by simp [okP,h4]) _⟩
     ·conv=>whnf
      refine ⟨rfl,_,rfl,?_⟩
      conv=>whnf
      refine ⟨by repeat (first|exact trivial|refine ⟨⟨rfl,rfl⟩,?_⟩),?_⟩
      conv=>whnf
      refine ⟨rfl,?_⟩
      conv=>whnf
      refine ⟨by simp;omega,⟨rfl,rfl,rfl⟩,_,⟨[],(List.append_nil _).symm⟩,by simp;omega,?_⟩
      conv=>whnf
      refine ⟨in64 (by omega) (by omega),?_⟩
      conv=>whnf
      have hok:okP l[k]=true:=by simp only [hmp] at h2 h3;simp [okP,h4];omega
      refine ⟨⟨k+1,⟨hk',all_take hk' hall hok⟩,by omega,Refi.back (L:=[.arr 0 2 [.g (tpost l[k])]]) ?_ (Nat.zero_le _) (lt_all1 Blk.lt_gs) ?_⟩⟩
      ·rw [htk,List.map_append];rfl
      ·simp [subT,subV,tm,tmGo,posts,cutV,ltB,ltS]
  ·conv=>whnf
   have:k=l.length:=by omega
   subst this
   rw [List.take_length] at hall
   rw [mayP_eq,hall]
   refine Br.dec (fun h2=>?_) (fun h2=>?_)
   ·conv=>whnf
    have hg:gr 0 [Blk.arr l.length 1 ((l.take l.length).map fun p=>V.g (.i p.1))] 1 (.own 0 l.length 0 l.length)=some (tints (docsL l)):=by
     rw [List.take_length,docsL,tints,List.map_map]
     exact gr_own (l:=l) (e:=fun p=>T.i p.1) rfl (Nat.le_refl _) rfl fun x _=>gr_g
    refine (c_post_rising (docsL l) 64 (by rw [docs_len];omega)).give 0 1 (noMp_cons noMp_nil) ?_ ?_
    ·show optL [gr 0 [Blk.arr l.length 1 ((l.take l.length).map fun p=>V.g (.i p.1))] 1 (.own 0 l.length 0 l.length),some (T.i 64)]=some [tints (docsL l),.i 64]
     rw [hg];rfl
    conv=>whnf
    refine ⟨Ends.ground (H:=[]) (L:=[_]) 0 ?_ ⟨rfl,rfl⟩⟩
    simp only [hm] at h2
    rw [decide_eq_true (p:=l.length≤64) (by omega)];simp [gr]
   ·conv=>whnf
    refine ⟨Ends.ground (H:=[]) (L:=[_]) 0 ?_ ⟨rfl,rfl⟩⟩
    simp only [hm] at h2
    rw [decide_eq_false (p:=l.length≤64) (by omega)];simp [gr]
end Go.Aw
namespace Go.Aw
open Go.Proofs
set_option maxRecDepth 100000
theorem risE_ge:∀ {e l:Int} {xs:List Int},risE e l xs=true→rise l xs=true∧∀ x∈xs,l < x∧x < e
 | _,_,[],_=>⟨rfl,by simp⟩
 | e,l,x::xs,h=>by
  simp only [risE,Bool.and_eq_true,decide_eq_true_eq] at h
  obtain ⟨h1,h2⟩:=risE_ge h.2
  refine ⟨by simp [rise,h.1.1,h1],fun y hy=>?_⟩
  rcases List.mem_cons.1 hy with rfl|hy
  ·exact h.1
  ·have:=h2 y hy;omega
theorem mayP_docs {l:List Po} (h:mayP l=true):l.length≤64∧risE 64 (-1) (docsL l)=true:=by
 simp only [mayP,Bool.and_eq_true,decide_eq_true_eq] at h
 exact ⟨h.1.2,h.2⟩
theorem mayP_doc {l:List Po} (h:mayP l=true):∀ p∈l,0≤p.1∧p.1 < 64:=fun p hp=>by
 have:=(risE_ge (mayP_docs h).2).2 p.1 (List.mem_map_of_mem hp)
 omega
theorem mayP_ok {l:List Po} (h:mayP l=true):∀ p∈l,0 < p.2.length∧p.2.length≤120∧risE 120 (-1) p.2=true:=fun p hp=>by
 simp only [mayP,Bool.and_eq_true,List.all_eq_true,decide_eq_true_eq] at h
 have:=h.1.1 p hp
 exact ⟨this.1.1,this.1.2,this.2⟩
end Go.Aw
namespace Go.Aw
open Go.Proofs
set_option maxRecDepth 100000
set_option maxHeartbeats 4000000
end Go.Aw
