/- Contracts of functions of the given program, by the abstract walk, for law StatReckons: what each one hands back; no condition but those that each theorem states. -/
import Derived.Test.YtocdciahhlbknaaGreatC15
import Derived.Test.YtocdciahhlbknaaGreatC17
import Derived.Test.YtocdciahhlbknaaGreatC22
import Derived.Test.YtocdciahhlbknaaGreatC24
import Derived.Test.YtocdciahhlbknaaGreatC8
import Derived.Test.YtocdciahhlbknaaGreatW3
namespace Go.Aw
open Go.Proofs Go.Sort
set_option maxRecDepth 100000
set_option maxHeartbeats 1000000
theorem bi_beq {a b:Int}:(a == b)=decide (a=b):=by by_cases h:a=b <;> simp [h]
theorem plN_of {l:List Pt} {g:Int} {k:Nat} (hk:k < l.length) (e:l[k].gen=g) (h:∀ x∈l.take k,x.gen≠g):plN l g=k:=by
 rw [plN,List.findIdx_eq hk]
 refine ⟨by simpa using e,fun j hj=>?_⟩
 have:l[j]∈l.take k:=List.mem_iff_getElem.2 ⟨j,by simp;omega,by simp⟩
 simpa using h _ this
theorem plG_of {l:List Pt} {g:Int} {k:Nat} (hk:k < l.length) (e:l[k].gen=g) (h:∀ x∈l.take k,x.gen≠g):plG l g=k:=by
 rw [plG,plN_of hk e h,if_pos hk]
theorem plG_not {l:List Pt} {g:Int} (h:∀ x∈l,x.gen≠g):plG l g=-1:=plG_no.2 fun hm=>by
 obtain ⟨x,hx,e⟩:=List.mem_map.1 hm
 exact h x hx e
theorem c_pile_placeS1 (x:Pt) (g:Int):ACalls Tryz.prog 152 [.g (tpart x),.pa 0 0 0 0] [.arr 0 1 [.g (.i g)]] (fun r h=>r=.g (.b (decide (x.gen=g)))∧h=[.arr 0 1 [.g (.i g)]]):=by
 refine k_pile_placeS1.calls ?_
 (try conv=>whnf);repeat ((first|refine ⟨rfl,_,rfl,?_⟩|refine ⟨⟨rfl,rfl⟩,?_⟩);conv=>whnf)
 rw [bi_beq]
 exact ⟨Ends.ground (H:=[_]) (L:=[_]) 0 rfl ⟨rfl,rfl⟩⟩
theorem c_IndexFunc_Part (l:List Pt) (g:Int) (hl:l.length < 1000000000) :
  ACalls Tryz.prog 151 [vpl l,.fn 152 [.pa 0 0 0 0]] [.arr 0 1 [.g (.i g)]] (fun r h=>r=.g (.i (plG l g))∧h=[.arr 0 1 [.g (.i g)]]):=by
 refine k_slices_IndexFunc_LPart_Part.calls ?_
 have hm:(l.map tpart).length=l.length:=by simp
 try conv=>whnf
 refine SW.loopR (α:=Nat) (fun k=>tm 19 [(0,vpl l),(1,.fn 152 [.pa 0 0 0 0]),(6,vpl l),(7,.g (.i l.length)),(8,.g (.i k))]) (fun _=>[.arr 0 1 [.g (.i g)]]) (fun k=>k≤l.length∧∀ x∈l.take k,x.gen≠g) (fun k=>l.length-k) 0 ?_ ?_ ?_
 ·simp
 ·exact Refi.sub rfl (by simp [subT,subV,tm,tmGo])
 ·rintro k ⟨hk,hq⟩
  dsimp only at hk hq ⊢
  conv=>whnf
  refine Br.dec (fun h1=>?_) (fun h1=>?_)
  ·have hk':k < l.length:=by omega
   (try conv=>whnf);repeat ((first|refine ⟨_,getZ (by omega),?_⟩|refine ⟨by omega,rfl,?_⟩);conv=>whnf)
   refine (c_pile_placeS1 l[k] g).mono ?_
   rintro r h ⟨rfl,rfl⟩
   conv=>whnf
   refine Br.dec (fun h2=>?_) (fun h2=>?_)
   ·try conv=>whnf
    exact ⟨Ends.keep ⟨by rw [plG_of hk' h2 hq],rfl⟩⟩
   ·(try conv=>whnf);repeat ((first|refine ⟨in64 (by omega) (by omega),?_⟩);conv=>whnf)
    refine ⟨⟨k+1,⟨hk',fun s hs=>?_⟩,by omega,Refi.sub rfl (by simp [subT,subV,tm,tmGo])⟩⟩
    rw [List.take_succ_eq_append_getElem hk',List.mem_append,List.mem_singleton] at hs
    rcases hs with hs|rfl
    ·exact hq s hs
    ·exact h2
  ·have:k=l.length:=by omega
   subst this
   rw [List.take_length] at hq
   try conv=>whnf
   exact ⟨Ends.keep ⟨by rw [plG_not hq],rfl⟩⟩
theorem c_pile_place (p:Pl) (g:Int) (hl:p.parts.length < 1000000000):CG Tryz.prog 81 [tpile p,.i g] (.i (plG p.parts g)):=by
 refine ⟨k_pile_place.calls ?_⟩
 (try conv=>whnf);repeat ((first|refine ⟨rfl,_,rfl,?_⟩|refine ⟨⟨rfl,rfl⟩,?_⟩);conv=>whnf)
 refine ACalls.fl (c_IndexFunc_Part p.parts g hl) [1] rfl rfl rfl (flatH.cons Blk.lt_g1 flatH.nil) (by rintro r h ⟨_,rfl⟩;exact flatH.cons Blk.lt_g1 flatH.nil) ?_
 rintro r h ⟨rfl,rfl⟩
 try conv=>whnf
 exact ⟨Ends.ground (H:=[]) (L:=[_,_]) 0 rfl ⟨rfl,rfl⟩⟩
theorem c_pile_number (p:Pl) (g:Int):CG Tryz.prog 157 [tpile p,.i g] (.b (decide (numP p.next g))):=by
 refine ⟨k_pile_number.calls ?_⟩
 (try conv=>whnf);repeat ((first|refine ⟨⟨rfl,rfl⟩,?_⟩);conv=>whnf)
 refine Br.dec (fun h=>?_) (fun h=>?_)
 ·(try conv=>whnf);repeat ((first|refine ⟨rfl,_,rfl,?_⟩);conv=>whnf)
  rw [show decide (g < p.next)=decide (numP p.next g) from decide_eq_decide.2 ⟨fun e=>⟨h,e⟩,fun e=>e.2⟩]
  exact ⟨Ends.ground (H:=[]) (L:=[_]) 0 rfl ⟨rfl,rfl⟩⟩
 ·try conv=>whnf
  rw [decide_eq_false (fun e:numP p.next g=>h e.1)]
  exact ⟨Ends.ground (H:=[]) (L:=[_]) 0 rfl ⟨rfl,rfl⟩⟩
theorem c_pile_busyS1 (j:Jb) (g:Int) (hj:j.frm.length < 1000000000):ACalls Tryz.prog 154 [.g (tjob j),.pa 0 0 0 0] [.arr 0 1 [.g (.i g)]] (fun r h=>r=.g (.b (decide (g∈j.frm)))∧h=[.arr 0 1 [.g (.i g)]]):=by
 refine k_pile_busyS1.calls ?_
 have c1:=c_slices_Contains_Lint_int j.frm g hj
 (try conv=>whnf);repeat ((first|refine (c1).go rfl ?_|refine ⟨rfl,_,rfl,?_⟩|refine ⟨⟨rfl,rfl⟩,?_⟩);conv=>whnf)
 exact ⟨Ends.ground (H:=[_]) (L:=[_]) 0 rfl ⟨rfl,rfl⟩⟩
theorem c_IndexFunc_Job (l:List Jb) (q:Jb→Bool) (f:Nat) (C:Blk) (hC:C.lt 0) (hl:l.length < 1000000000)
  (hf:∀ j∈l,ACalls Tryz.prog f [.g (tjob j),.pa 0 0 0 0] [C] (fun r h=>r=.g (.b (q j))∧h=[C])) :
  ACalls Tryz.prog 140 [vjl l,.fn f [.pa 0 0 0 0]] [C] (fun r h=>(∃ i:Nat,r=.g (.i i)∧(∃ hi:i < l.length,q l[i]=true∧∀ s∈l.take i,q s=false)∧h=[C])∨(r=.g (.i (-1))∧(∀ s∈l,q s=false)∧h=[C])):=by
 refine k_slices_IndexFunc_LJob_Job.calls ?_
 have hm:(l.map tjob).length=l.length:=by simp
 try conv=>whnf
 refine SW.loopR (α:=Nat) (fun k=>tm 19 [(0,vjl l),(1,.fn f [.pa 0 0 0 0]),(6,vjl l),(7,.g (.i l.length)),(8,.g (.i k))]) (fun _=>[C]) (fun k=>k≤l.length∧∀ x∈l.take k,q x=false) (fun k=>l.length-k) 0 ?_ ?_ ?_
 ·simp
 ·exact Refi.sub rfl (by simp [subT,subV,tm,tmGo])
 ·rintro k ⟨hk,hq⟩
  dsimp only at hk hq ⊢
  conv=>whnf
  refine Br.dec (fun h1=>?_) (fun h1=>?_)
  ·have hk':k < l.length:=by omega
   (try conv=>whnf);repeat ((first|refine ⟨_,getZ (by omega),?_⟩|refine ⟨by omega,rfl,?_⟩);conv=>whnf)
   refine ACalls.fl (hf l[k] (List.getElem_mem hk')) [0] rfl rfl rfl (flatH.cons hC flatH.nil) (by rintro r h ⟨_,rfl⟩;exact flatH.cons hC flatH.nil) ?_
   rintro r h ⟨rfl,rfl⟩
   conv=>whnf
   refine Br.intro (fun h2=>?_) (fun h2=>?_)
   ·try conv=>whnf
    exact ⟨Ends.keep (.inl ⟨k,rfl,⟨hk',h2,hq⟩,rfl⟩)⟩
   ·(try conv=>whnf);repeat ((first|refine ⟨in64 (by omega) (by omega),?_⟩);conv=>whnf)
    refine ⟨⟨k+1,⟨hk',fun s hs=>?_⟩,by omega,Refi.sub rfl (by simp [subT,subV,tm,tmGo])⟩⟩
    rw [List.take_succ_eq_append_getElem hk',List.mem_append,List.mem_singleton] at hs
    rcases hs with hs|rfl
    ·exact hq s hs
    ·exact h2
  ·have:k=l.length:=by omega
   subst this
   rw [List.take_length] at hq
   try conv=>whnf
   exact ⟨Ends.keep (.inr ⟨rfl,hq,rfl⟩)⟩
theorem c_ContainsFunc_Job (l:List Jb) (q:Jb→Bool) (f:Nat) (C:Blk) (hC:C.lt 0) (hl:l.length < 1000000000)
  (hf:∀ j∈l,ACalls Tryz.prog f [.g (tjob j),.pa 0 0 0 0] [C] (fun r h=>r=.g (.b (q j))∧h=[C])) :
  ACalls Tryz.prog 153 [vjl l,.fn f [.pa 0 0 0 0]] [C] (fun r h=>r=.g (.b (l.any q))∧h=[C]):=by
 refine k_slices_ContainsFunc_LJob_Job.calls ?_
 try conv=>whnf
 refine ACalls.fl (c_IndexFunc_Job l q f C hC hl hf) [0] rfl rfl rfl (flatH.cons hC flatH.nil) (by rintro r h (⟨_,_,_,rfl⟩|⟨_,_,rfl⟩) <;> exact flatH.cons hC flatH.nil) ?_
 rintro r h (⟨i,rfl,⟨hi,h1,_⟩,rfl⟩|⟨rfl,h1,rfl⟩)
 ·try conv=>whnf
  have e:l.any q=true:=List.any_eq_true.2 ⟨_,List.getElem_mem hi,h1⟩
  rw [e,show decide ((i:Int)≥0)=true from decide_eq_true (by omega)]
  exact ⟨Ends.keep ⟨rfl,rfl⟩⟩
 ·try conv=>whnf
  have e:l.any q=false:=by rw [List.any_eq_false];intro x hx;rw [h1 x hx];simp
  rw [e]
  exact ⟨Ends.keep ⟨rfl,rfl⟩⟩
theorem c_pile_busy (p:Pl) (g:Int) (n:Nat) (hn:n≤p.jobs.length) (hl:p.jobs.length < 1000000000) (hj:∀ j∈p.jobs,j.frm.length < 1000000000):CG Tryz.prog 82 [tpile p,.i g,.i n] (.b (busyP (p.jobs.take n) g)):=by
 refine ⟨k_pile_busy.calls ?_⟩
 have hm:(p.jobs.map tjob).length=p.jobs.length:=by simp
 (try conv=>whnf);repeat ((first|refine ⟨rfl,_,rfl,?_⟩|refine ⟨rfl,⟨by omega,by omega,by omega⟩,?_⟩|refine ⟨⟨rfl,rfl⟩,?_⟩|rw [← List.map_drop,← List.map_take]);conv=>whnf)
 rw [show List.take ((n:Int).toNat-Int.toNat 0) (List.drop (Int.toNat 0) p.jobs)=p.jobs.take n from by simp]
 refine ACalls.fl (c_ContainsFunc_Job (p.jobs.take n) (fun j=>decide (g∈j.frm)) 154 (.arr 0 1 [.g (.i g)]) Blk.lt_g1 (by simp;omega) fun j hj'=>c_pile_busyS1 j g (hj j (List.mem_of_mem_take hj'))) [1] rfl rfl rfl (flatH.cons Blk.lt_g1 flatH.nil) (by rintro r h ⟨_,rfl⟩;exact flatH.cons Blk.lt_g1 flatH.nil) ?_
 rintro r h ⟨rfl,rfl⟩
 try conv=>whnf
 exact ⟨Ends.ground (H:=[]) (L:=[_,_]) 0 rfl ⟨rfl,rfl⟩⟩
end Go.Aw
namespace Go.Aw
open Go.Proofs Go.Sort
set_option maxRecDepth 100000
set_option maxHeartbeats 1000000
def vbls (l:List Bool):List V:=l.map fun x=>V.g (.b x)
def vpss' (l:List Po):List V:=l.map fun x=>V.g (tpost x)
def vtms (l:List Tm):List V:=l.map fun x=>V.g (tterm x)
def vbl2 (l:List (List Bool)):List V:=l.map fun x=>V.g (tbools x)
theorem cl_parts (l:List Pt) (hl:l.length < 1000000000):ACalls Tryz.prog 198 [.g (.sl 7 (l.map tpart))] [] (fun r h=>(∃ g,r=.own 0 g 0 l.length∧h=[.arr g 7 (vparts l)])):=by
 refine k_slices_Clone_LPart_Part.calls ?_
 conv=>whnf
 intro r hr
 conv=>whnf
 refine Br.intro (fun h=>?_) (fun h=>?_)
 ·conv=>whnf
  have:l=[]:=by simpa using hr h
  subst this
  exact ⟨Ends.valloc ⟨0,rfl,rfl⟩⟩
 ·conv=>whnf
  refine ⟨rfl,?_⟩
  conv=>whnf
  refine ⟨by simp;omega,⟨rfl,rfl,rfl⟩,[],⟨[],rfl⟩,rfl,?_⟩
  conv=>whnf
  refine ⟨Ends.keep ⟨1,by simp,?_⟩⟩
  simp [vparts]
theorem cl_jobs (l:List Jb) (hl:l.length < 1000000000):ACalls Tryz.prog 199 [.g (.sl 3 (l.map tjob))] [] (fun r h=>(∃ g,r=.own 0 g 0 l.length∧h=[.arr g 3 (vjobs l)])):=by
 refine k_slices_Clone_LJob_Job.calls ?_
 conv=>whnf
 intro r hr
 conv=>whnf
 refine Br.intro (fun h=>?_) (fun h=>?_)
 ·conv=>whnf
  have:l=[]:=by simpa using hr h
  subst this
  exact ⟨Ends.valloc ⟨0,rfl,rfl⟩⟩
 ·conv=>whnf
  refine ⟨rfl,?_⟩
  conv=>whnf
  refine ⟨by simp;omega,⟨rfl,rfl,rfl⟩,[],⟨[],rfl⟩,rfl,?_⟩
  conv=>whnf
  refine ⟨Ends.keep ⟨1,by simp,?_⟩⟩
  simp [vjobs]
theorem cl_terms (l:List Tm) (hl:l.length < 1000000000):ACalls Tryz.prog 240 [.g (.sl 2 (l.map tterm))] [] (fun r h=>(∃ g,r=.own 0 g 0 l.length∧h=[.arr g 2 (vtms l)])):=by
 refine k_slices_Clone_LTerm_Term.calls ?_
 conv=>whnf
 intro r hr
 conv=>whnf
 refine Br.intro (fun h=>?_) (fun h=>?_)
 ·conv=>whnf
  have:l=[]:=by simpa using hr h
  subst this
  exact ⟨Ends.valloc ⟨0,rfl,rfl⟩⟩
 ·conv=>whnf
  refine ⟨rfl,?_⟩
  conv=>whnf
  refine ⟨by simp;omega,⟨rfl,rfl,rfl⟩,[],⟨[],rfl⟩,rfl,?_⟩
  conv=>whnf
  refine ⟨Ends.keep ⟨1,by simp,?_⟩⟩
  simp [vtms]
theorem cl_posts (l:List Po) (hl:l.length < 1000000000):ACalls Tryz.prog 241 [.g (.sl 2 (l.map tpost))] [] (fun r h=>(∃ g,r=.own 0 g 0 l.length∧h=[.arr g 2 (vpss' l)])):=by
 refine k_slices_Clone_LPost_Post.calls ?_
 conv=>whnf
 intro r hr
 conv=>whnf
 refine Br.intro (fun h=>?_) (fun h=>?_)
 ·conv=>whnf
  have:l=[]:=by simpa using hr h
  subst this
  exact ⟨Ends.valloc ⟨0,rfl,rfl⟩⟩
 ·conv=>whnf
  refine ⟨rfl,?_⟩
  conv=>whnf
  refine ⟨by simp;omega,⟨rfl,rfl,rfl⟩,[],⟨[],rfl⟩,rfl,?_⟩
  conv=>whnf
  refine ⟨Ends.keep ⟨1,by simp,?_⟩⟩
  simp [vpss']
theorem cl_bools (l:List Bool) (hl:l.length < 1000000000):ACalls Tryz.prog 83 [.g (.sl 1 (l.map T.b))] [] (fun r h=>(∃ g,r=.own 0 g 0 l.length∧h=[.arr g 1 (vbls l)])):=by
 refine k_slices_Clone_Lbool_bool.calls ?_
 conv=>whnf
 intro r hr
 conv=>whnf
 refine Br.intro (fun h=>?_) (fun h=>?_)
 ·conv=>whnf
  have:l=[]:=by simpa using hr h
  subst this
  exact ⟨Ends.valloc ⟨0,rfl,rfl⟩⟩
 ·conv=>whnf
  refine ⟨rfl,?_⟩
  conv=>whnf
  refine ⟨by simp;omega,⟨rfl,rfl,rfl⟩,[],⟨[],rfl⟩,rfl,?_⟩
  conv=>whnf
  refine ⟨Ends.keep ⟨1,by simp,?_⟩⟩
  simp [vbls]
theorem cd_bools (l:List Bool) (hl:l.length < 1000000000):CG Tryz.prog 83 [.sl 1 (l.map T.b)] (.sl 1 (l.map T.b)) :=
 CG.of_own (cl_bools l hl) fun r h ⟨g,h1,h2⟩=>⟨1,by subst h1;subst h2;exact gr_own rfl (Nat.le_refl _) rfl fun _ _=>gr_g⟩
theorem cl_bools2 (l:List (List Bool)) (hl:l.length < 1000000000):ACalls Tryz.prog 201 [.g (.sl 1 (l.map tbools))] [] (fun r h=>(∃ g,r=.own 0 g 0 l.length∧h=[.arr g 1 (vbl2 l)])):=by
 refine k_slices_Clone_LLbool_Lbool.calls ?_
 conv=>whnf
 intro r hr
 conv=>whnf
 refine Br.intro (fun h=>?_) (fun h=>?_)
 ·conv=>whnf
  have:l=[]:=by simpa using hr h
  subst this
  exact ⟨Ends.valloc ⟨0,rfl,rfl⟩⟩
 ·conv=>whnf
  refine ⟨rfl,?_⟩
  conv=>whnf
  refine ⟨by simp;omega,⟨rfl,rfl,rfl⟩,[],⟨[],rfl⟩,rfl,?_⟩
  conv=>whnf
  refine ⟨Ends.keep ⟨1,by simp,?_⟩⟩
  simp [vbl2]
theorem cl_intsO (l:List Int) (hl:l.length < 1000000000):ACalls Tryz.prog 130 [.g (.sl 1 (l.map T.i))] [] (fun r h=>(∃ g,r=.own 0 g 0 l.length∧h=[.arr g 1 (vI l)])):=by
 refine k_slices_Clone_Lint_int.calls ?_
 conv=>whnf
 intro r hr
 conv=>whnf
 refine Br.intro (fun h=>?_) (fun h=>?_)
 ·conv=>whnf
  have:l=[]:=by simpa using hr h
  subst this
  exact ⟨Ends.valloc ⟨0,rfl,rfl⟩⟩
 ·conv=>whnf
  refine ⟨rfl,?_⟩
  conv=>whnf
  refine ⟨by simp;omega,⟨rfl,rfl,rfl⟩,[],⟨[],rfl⟩,rfl,?_⟩
  conv=>whnf
  refine ⟨Ends.keep ⟨1,by simp,?_⟩⟩
  simp [vI]
theorem cd_intsO (l:List Int) (hl:l.length < 1000000000):CG Tryz.prog 130 [.sl 1 (l.map T.i)] (.sl 1 (l.map T.i)) :=
 CG.of_own (cl_intsO l hl) fun r h ⟨g,h1,h2⟩=>⟨1,by subst h1;subst h2;exact gr_own rfl (Nat.le_refl _) rfl fun _ _=>gr_g⟩
theorem c_pile_cards (l:List Cd) (hl:l.length < 1000000000) (hw:∀ c∈l,c.w.length < 1000000000):ACalls Tryz.prog 60 [cards l] [] (fun r h=>(∃ g,r=.own 0 g 0 l.length∧h=[.arr g 3 (vcards l)])):=by
 refine k_pile_cards.calls ?_
 have hm:(vcards l).length=l.length:=by simp [vcards]
 try conv=>whnf
 refine (c_Clone_cards l hl).mono ?_
 rintro r h ⟨g,rfl,rfl⟩
 try conv=>whnf
 refine SW.loopR (α:=Nat) (fun k=>tm 24 [(3,.own 0 g 0 l.length),(8,.g (.i l.length)),(9,.g (.i k))]) (fun _=>[.arr g 3 (vcards l)]) (fun k=>k≤l.length) (fun k=>l.length-k) 0 ?_ ?_ ?_
 ·exact Nat.zero_le _
 ·exact Refi.sub rfl (by simp [subT,subV,tm,tmGo])
 ·intro k hk
  dsimp only at hk ⊢
  conv=>whnf
  refine Br.dec (fun h=>?_) (fun h=>?_)
  ·have hk':k < l.length:=by omega
   have gk:(vcards l)[0+((k:Nat):Int).toNat]?=some (V.g (tcard l[k])):=getO (f:=fun c=>V.g (tcard c)) hk'
   have q1:=c_Clone_strs l[k].w (hw _ (List.getElem_mem hk'))
   (try conv=>whnf);repeat ((first|refine ⟨rfl,_,gk,⟨rfl,rfl,by decide⟩,?_⟩|refine ⟨rfl,_,gk,?_⟩|refine (q1).go rfl ?_|refine ⟨⟨by omega,by omega⟩,⟨rfl,rfl⟩,?_⟩|refine ⟨in64 (by omega) (by omega),?_⟩);conv=>whnf)
   refine ⟨⟨k+1,hk',by omega,Refi.sub ?_ (by simp [subT,subV,tm,tmGo])⟩⟩
   have:=set_card l k hk'
   show [Blk.arr g 3 ((vcards l).set (0+((k:Nat):Int).toNat) (storeV (V.g (tcard l[k])) 2 (.g (tstrs l[k].w))))]=_
   rw [this]
  ·have:k=l.length:=by omega
   subst this
   try conv=>whnf
   exact ⟨Ends.keep ⟨g,rfl,rfl⟩⟩
theorem cd_cards (l:List Cd) (hl:l.length < 1000000000) (hw:∀ c∈l,c.w.length < 1000000000):CG Tryz.prog 60 [tcards l] (tcards l) :=
 CG.of_own (c_pile_cards l hl hw) fun r h ⟨g,h1,h2⟩=>⟨1,by subst h1;subst h2;exact gr_vcards rfl (Nat.le_refl _) rfl⟩
end Go.Aw
namespace Go.Aw
open Go.Proofs Go.Sort
set_option maxRecDepth 100000
set_option maxHeartbeats 1000000
theorem gr_set {n d:Nat} {h:List Blk} {α:Type} {l:List α} {f:α→V} {e:α→T} {i:Nat} (hi:i < l.length) {v:V} (hf:∀ x∈l,gr n h d (f x)=some (e x)) (hv:gr n h d v=some (e l[i])) :
  optL (((l.map f).set i v).map (gr n h d))=some (l.map e):=by
 have:((l.map f).set i v).map (gr n h d)=(l.map e).map some:=by
  refine List.ext_getElem (by simp) fun j h1 h2=>?_
  simp only [List.getElem_map,List.getElem_set]
  split
  ·rename_i e;subst e;exact hv
  ·exact hf _ (List.getElem_mem _)
 rw [this];exact optL_map_some _
theorem set_get {α:Type} {l:List α} {f:α→V} {i:Nat} (hi:i < l.length) {v:V} (hv:v=f l[i]):(l.map f).set (0+((i:Nat):Int).toNat) v=l.map f:=by
 subst hv
 rw [show 0+((i:Nat):Int).toNat=i from by omega]
 refine List.ext_getElem (by simp) fun j h1 h2=>?_
 rw [List.getElem_set]
 split
 ·rename_i e;subst e;simp
 ·rfl
theorem cd_pterms (l:List Tm) (hb:bndT l):CG Tryz.prog 200 [tterms l] (tterms l):=by
 refine ⟨k_pile_terms.calls ?_⟩
 obtain ⟨hl,hp⟩:=hb
 have hm:(vtms l).length=l.length:=by simp [vtms]
 try conv=>whnf
 refine (cl_terms l hl).mono ?_
 rintro r h ⟨g,rfl,rfl⟩
 try conv=>whnf
 refine SW.loopR (α:=Nat) (fun i=>tm 53 [(3,.own 0 g 0 l.length),(9,.g (.i l.length)),(10,.g (.i i))]) (fun _=>[.arr g 2 (vtms l)]) (fun i=>i≤l.length) (fun i=>l.length-i) 0 ?_ ?_ ?_
 ·exact Nat.zero_le _
 ·exact Refi.sub rfl (by simp [subT,subV,tm,tmGo])
 intro i hi
 dsimp only at hi ⊢
 conv=>whnf
 refine Br.dec (fun h=>?_) (fun h=>?_)
 ·have hi':i < l.length:=by omega
  obtain ⟨x,hx⟩:∃ x,l[i]=x:=⟨_,rfl⟩
  obtain ⟨hpl,hpa⟩:=hp x (hx▸List.getElem_mem hi')
  have gi:(vtms l)[0+((i:Nat):Int).toNat]?=some (V.g (tterm x)):=by rw [← hx];exact getO (f:=fun c=>V.g (tterm c)) hi'
  (try conv=>whnf);repeat ((first|refine ⟨rfl,_,gi,?_⟩|refine ⟨⟨by omega,by omega⟩,⟨rfl,rfl⟩,?_⟩);conv=>whnf)
  refine ACalls.fl (cl_posts x.p hpl) [] rfl rfl rfl flatH.nil (by rintro r h ⟨g2,_,rfl⟩;exact flatH.cons Blk.lt_g flatH.nil) ?_
  rintro r h ⟨g2,rfl,rfl⟩
  have gj:((vtms l).set (0+((i:Nat):Int).toNat) (.ag [.g (.s x.t),.own 1 g2 0 x.p.length]))[0+((i:Nat):Int).toNat]?=some (.ag [.g (.s x.t),.own 1 g2 0 x.p.length]):=by
   rw [List.getElem?_set_self (by rw [hm];omega)]
  (try conv=>whnf);repeat ((first|refine ⟨rfl,_,gi,⟨rfl,rfl,by decide⟩,?_⟩|refine ⟨rfl,_,gj,?_⟩|refine ⟨⟨by omega,by omega⟩,⟨rfl,rfl⟩,?_⟩);conv=>whnf)
  refine SW.loopR (α:=Nat) (fun k=>tm 53 [(3,.own 0 g 0 l.length),(4,.g (.i i)),(9,.g (.i l.length)),(10,.g (.i i)),(28,.g (.i x.p.length)),(29,.g (.i k))])
   (fun _=>[.arr g 2 ((vtms l).set (0+((i:Nat):Int).toNat) (.ag [.g (.s x.t),.own 1 g2 0 x.p.length])),.arr g2 2 (vpss' x.p)]) (fun k=>k≤x.p.length) (fun k=>x.p.length-k) 0 ?_ ?_ ?_
  ·exact Nat.zero_le _
  ·exact Refi.sub rfl (by simp [subT,subV,tm,tmGo])
  intro k hk
  dsimp only at hk ⊢
  conv=>whnf
  refine Br.dec (fun h=>?_) (fun h=>?_)
  ·have hk':k < x.p.length:=by omega
   have gk:(vpss' x.p)[0+((k:Nat):Int).toNat]?=some (V.g (tpost x.p[k])):=getO (f:=fun c=>V.g (tpost c)) hk'
   have cc:=c_Clone_intsB x.p[k].2 (hpa _ (List.getElem_mem hk'))
   (try conv=>whnf);repeat ((first|refine ⟨rfl,_,gj,?_⟩|refine ⟨rfl,_,gk,⟨rfl,rfl,by decide⟩,?_⟩|refine ⟨rfl,_,gk,?_⟩|refine ⟨_,(cc).go rfl ⟨rfl,rfl⟩,?_⟩|refine ⟨⟨by omega,by omega⟩,⟨rfl,rfl⟩,?_⟩|refine ⟨in64 (by omega) (by omega),?_⟩);conv=>whnf)
   refine ⟨⟨k+1,hk',by omega,Refi.sub ?_ (by simp [subT,subV,tm,tmGo])⟩⟩
   have:=set_get (l:=x.p) (f:=fun c=>V.g (tpost c)) hk' (v:=storeV (V.g (tpost x.p[k])) 1 (.g (tints x.p[k].2))) rfl
   show [_,Blk.arr g2 2 ((vpss' x.p).set (0+((k:Nat):Int).toNat) (storeV (V.g (tpost x.p[k])) 1 (.g (tints x.p[k].2))))]=_
   rw [vpss',this]
  ·have:k=x.p.length:=by omega
   subst this
   (try conv=>whnf);repeat ((first|refine ⟨in64 (by omega) (by omega),?_⟩);conv=>whnf)
   refine ⟨⟨i+1,hi',by omega,Refi.backG 3 (l.map tterm) rfl ?_ ?_ (by simp [subT,subV,tm,tmGo,cutV,ltB,ltS]) (Nat.zero_le _)⟩⟩
   ·rw [show 0+((i:Nat):Int).toNat=i from by omega]
    refine gr_set (l:=l) (f:=fun c=>V.g (tterm c)) (e:=tterm) hi' (fun _ _=>gr_g) ?_
    show (optL [gr 1 _ 2 (.g (.s x.t)),gr 1 _ 2 (.own 1 g2 0 x.p.length)]).map T.ag=_
    generalize hh:(_++_:List Blk)=hq
    have e1:=gr_own (n:=1) (d:=1) (b:=1) (g:=g2) (sz:=2) (len:=x.p.length) (h:=hq) (l:=x.p) (f:=fun c=>V.g (tpost c)) (e:=tpost) (by rw [← hh];rfl) (Nat.le_refl _) rfl (fun _ _=>gr_g)
    rw [e1,gr_g,hx]
    rfl
   ·simp [vtms]
 ·have:i=l.length:=by omega
  subst this
  try conv=>whnf
  exact ⟨Ends.ground (H:=[]) (L:=[_]) (t:=tterms l) 1 (gr_own rfl (Nat.zero_le _) rfl fun _ _=>gr_g) ⟨rfl,rfl⟩⟩
end Go.Aw
namespace Go.Aw
open Go.Proofs Go.Sort
set_option maxRecDepth 100000
set_option maxHeartbeats 1000000
theorem Ends.pick {H0 h':List Blk} {R:V→List Blk→Prop} {v v0:V} (bs:List Nat) (hn:nodupB h'.length bs=true) (hk:bs.length=H0.length)
  (hH:∀ (i:Nat) (x:Blk),H0[i]?=some x→h'[sig h'.length bs i]?=some (renB (sig h'.length bs) x)∧x.lt H0.length) (hv:v=ren (sig h'.length bs) v0) (hlt:v0.lt H0.length) (h:R v0 H0):Ends [] R v h':=fun γ I w γ' I' w' x _ r' hx e=>by
 obtain ⟨n1,n2⟩:=nodupB_ok hn
 have r0:=own0_rel r' bs n1 n2 hk hH
 exact ⟨v0,H0,own0 γ' bs,I',h,r0,(hv▸hx).unren (own0_at r' n2 hk) (fun b x hx=>(hH b x hx).1) hlt,
  ⟨e.os,e.tape,e.output,e.size,e.sub,e.sub',e.frame,e.rows,fun b x hb=>by simp at hb,fun b k hbk=>e.new _ k (own0_find r' n2 hk b k hbk)⟩⟩
theorem pl_w {l:List Cd} (h:bndC l):∀ c∈l,c.w.length < 1000000000:=fun c hc=>by
 have h1:c.w.length≤(l.flatMap (·.w)).length:=by
  obtain ⟨a,b,rfl⟩:=List.append_of_mem hc
  simp only [List.flatMap_append,List.flatMap_cons,List.length_append];omega
 have:=h.2.1
 omega
def zPile:V:=.ag [.g (.b false),.g (.i 0),.nil 3,.nil 7,.nil 3,.g (.i 0)]
def oPile (p:Pl) (a b c g1 g2 g3:Nat):V:=.ag [.g (.b p.sort),.g (.i p.room),.own a g1 0 p.buf.length,.own b g2 0 p.parts.length,.own c g3 0 p.jobs.length,.g (.i p.next)]
def hpPl (p:Pl) (g1 g2 g3:Nat):List Blk:=[.arr 0 6 [oPile p 2 3 4 g1 g2 g3],.arr 0 6 [zPile],.arr g1 3 (vcards p.buf),.arr g2 7 (vparts p.parts),.arr g3 3 (vjobs p.jobs)]
theorem hpPl_lt {p:Pl} {g1 g2 g3:Nat}:∀ y∈hpPl p g1 g2 g3,y.lt 5:=by
 intro y hy
 simp only [hpPl,List.mem_cons,List.not_mem_nil,or_false] at hy
 rcases hy with rfl|rfl|rfl|rfl|rfl
 ·refine Blk.lt_of fun e he u hu=>?_
  simp only [List.mem_cons,List.not_mem_nil,or_false] at he;subst he
  simp only [oPile,V.cells,List.mem_cons,List.not_mem_nil,or_false] at hu
  rcases hu with rfl|rfl|rfl|rfl|rfl|rfl
  ·exact .g
  ·exact .g
  ·exact .own (by omega)
  ·exact .own (by omega)
  ·exact .own (by omega)
  ·exact .g
 ·refine Blk.lt_of fun e he u hu=>?_
  simp only [List.mem_cons,List.not_mem_nil,or_false] at he;subst he
  simp only [zPile,V.cells,List.mem_cons,List.not_mem_nil,or_false] at hu
  rcases hu with rfl|rfl|rfl|rfl|rfl|rfl
  ·exact .g
  ·exact .g
  ·exact .nil
  ·exact .nil
  ·exact .nil
  ·exact .g
 ·exact Blk.lt_g
 ·exact Blk.lt_g
 ·exact Blk.lt_g
theorem set_get2 {l:List V} {i:Nat} (hi:i < l.length) (v:V):(l.set (0+((i:Nat):Int).toNat) v)[0+((i:Nat):Int).toNat]?=some v:=by
 rw [List.getElem?_set_self (by omega)]
theorem c_pile_own (p:Pl) (hb:bndP p):ACalls Tryz.prog 138 [.g (tpile p)] [] (fun r h=>∃ g1 g2 g3,r=oPile p 0 1 2 g1 g2 g3∧h=[.arr g1 3 (vcards p.buf),.arr g2 7 (vparts p.parts),.arr g3 3 (vjobs p.jobs)]):=by
 refine k_pile_own.calls ?_
 have hmb:(vcards p.buf).length=p.buf.length:=by simp [vcards]
 have hmp:(vparts p.parts).length=p.parts.length:=by simp [vparts]
 have hmj:(vjobs p.jobs).length=p.jobs.length:=by simp [vjobs]
 have hb1:=hb.buf.1
 have hb2:=hb.parts
 have hb3:=hb.jobs
 (try conv=>whnf);repeat ((first|refine ⟨rfl,_,rfl,?_⟩|refine ⟨⟨rfl,rfl⟩,?_⟩|refine ⟨rfl,?_⟩);conv=>whnf)
 refine ACalls.fl (c_pile_cards p.buf (by omega) (pl_w hb.buf)) [] rfl rfl rfl flatH.nil (by rintro r h ⟨g,_,rfl⟩;exact flatH.cons Blk.lt_g flatH.nil) ?_
 rintro r h ⟨g1,rfl,rfl⟩
 refine ⟨⟨[_],rfl⟩,?_⟩
 try conv=>whnf
 refine ACalls.fl (cl_parts p.parts hb2) [] rfl rfl rfl flatH.nil (by rintro r h ⟨g,_,rfl⟩;exact flatH.cons Blk.lt_g flatH.nil) ?_
 rintro r h ⟨g2,rfl,rfl⟩
 refine ⟨⟨[_],rfl⟩,?_⟩
 try conv=>whnf
 refine ACalls.fl (cl_jobs p.jobs hb3) [] rfl rfl rfl flatH.nil (by rintro r h ⟨g,_,rfl⟩;exact flatH.cons Blk.lt_g flatH.nil) ?_
 rintro r h ⟨g3,rfl,rfl⟩
 refine ⟨⟨[_],rfl⟩,?_⟩
 (try conv=>whnf);repeat ((first|refine ⟨rfl,_,rfl,⟨rfl,rfl,by decide⟩,?_⟩|refine ⟨rfl,_,rfl,?_⟩);conv=>whnf)
 refine SW.loopR (α:=Nat) (fun k=>tm 108 [(1,.pa 0 0 0 0),(2,.pa 1 0 0 0),(23,.own 3 g2 0 p.parts.length),(24,.g (.i p.parts.length)),(25,.g (.i k))]) (fun _=>hpPl p g1 g2 g3) (fun k=>k≤p.parts.length) (fun k=>p.parts.length-k) 0 ?_ ?_ ?_
 ·exact Nat.zero_le _
 ·exact Refi.sub rfl (by simp [subT,subV,tm,tmGo,sig])
 ·intro k hk
  dsimp only at hk ⊢
  unfold hpPl
  conv=>whnf
  refine Br.dec (fun h=>?_) (fun h=>?_)
  ·have hk':k < p.parts.length:=by omega
   obtain ⟨x,hx⟩:∃ x,p.parts[k]=x:=⟨_,rfl⟩
   obtain ⟨hs,hlv⟩:=hb.part x (hx▸List.getElem_mem hk')
   have gk:(vparts p.parts)[0+((k:Nat):Int).toNat]?=some (V.g (tpart x)):=by rw [← hx];exact getO (f:=fun c=>V.g (tpart c)) hk'
   have gk2:=set_get2 (l:=vparts p.parts) (i:=k) (by omega)
   have c1:=c_Clone_strs x.s.ids hs.1
   have c2:=c_Clone_intsB x.s.keys hs.2.1
   have c3:=c_Clone_intsB x.s.lens hs.2.2.1
   have c4:=cd_pterms x.s.terms hs.2.2.2
   have c5:=cd_bools x.live hlv
   (try conv=>whnf);repeat ((first|refine ⟨rfl,_,gk,?_⟩|refine ⟨rfl,_,rfl,⟨rfl,rfl,by decide⟩,?_⟩|refine ⟨rfl,_,rfl,?_⟩|refine ⟨rfl,?_⟩|refine ⟨⟨by omega,by omega⟩,⟨rfl,rfl⟩,?_⟩);conv=>whnf)
   generalize hL:List.set [_] 0 _=LL
   obtain rfl:LL=[V.g (tpart x)]:=by rw [← hL];rfl
   clear hL
   generalize hL:List.set [_] 0 _=LL
   obtain rfl:LL=[V.g (tseg x.s)]:=by rw [← hL];rfl
   clear hL
   refine c1.go rfl ⟨⟨[],rfl⟩,?_⟩
   try conv=>whnf
   refine c2.go rfl ⟨⟨[],rfl⟩,?_⟩
   try conv=>whnf
   refine c3.go rfl ⟨⟨[],rfl⟩,?_⟩
   try conv=>whnf
   refine c4.go rfl ⟨⟨[],rfl⟩,?_⟩
   conv=>whnf
   refine ⟨rfl,_,rfl,⟨rfl,rfl,by decide⟩,?_⟩
   conv=>whnf
   generalize hL:List.set [V.g (tseg x.s)] 0 _=LL
   obtain rfl:LL=[V.g (tseg x.s)]:=by rw [← hL];rfl
   clear hL
   refine ⟨rfl,_,rfl,⟨rfl,rfl,by decide⟩,?_⟩
   conv=>whnf
   generalize hL:List.set [V.g (tseg x.s)] 0 _=LL
   obtain rfl:LL=[V.g (tseg x.s)]:=by rw [← hL];rfl
   clear hL
   refine ⟨rfl,_,rfl,⟨rfl,rfl,by decide⟩,?_⟩
   conv=>whnf
   generalize hL:List.set [V.g (tseg x.s)] 0 _=LL
   obtain rfl:LL=[V.g (tseg x.s)]:=by rw [← hL];rfl
   clear hL
   refine ⟨rfl,_,rfl,⟨rfl,rfl,by decide⟩,?_⟩
   conv=>whnf
   generalize hL:List.set [V.g (tseg x.s)] 0 _=LL
   obtain rfl:LL=[V.g (tseg x.s)]:=by rw [← hL];rfl
   clear hL
   (try conv=>whnf);repeat ((first|refine ⟨⟨rfl,rfl⟩,_,rfl,?_⟩);conv=>whnf)
   refine c5.go rfl ⟨⟨[],rfl⟩,?_⟩
   conv=>whnf
   refine ⟨⟨by omega,by omega⟩,⟨rfl,rfl⟩,?_⟩
   conv=>whnf
   refine ⟨⟨rfl,rfl⟩,_,gk,⟨rfl,rfl,by decide⟩,?_⟩
   conv=>whnf
   generalize hL:List.set (vparts p.parts) _ _=LL
   obtain rfl:LL=vparts p.parts:=by rw [← hL];exact set_get (f:=fun x=>V.g (tpart x)) hk' (by rw [hx];rfl)
   clear hL
   refine ⟨⟨by omega,by omega⟩,⟨rfl,rfl⟩,?_⟩
   conv=>whnf
   refine ⟨⟨rfl,rfl⟩,_,gk,⟨rfl,rfl,by decide⟩,?_⟩
   conv=>whnf
   generalize hL:List.set (vparts p.parts) _ _=LL
   obtain rfl:LL=vparts p.parts:=by rw [← hL];exact set_get (f:=fun x=>V.g (tpart x)) hk' (by rw [hx];rfl)
   clear hL
   (try conv=>whnf);repeat ((first|refine ⟨in64 (by omega) (by omega),?_⟩);conv=>whnf)
   refine ⟨⟨k+1,hk',by omega,Refi.back (H':=hpPl p g1 g2 g3) (L:=[_,_]) rfl (Nat.zero_le _) hpPl_lt (by simp [subT,subV,tm,tmGo,cutV,ltB,ltS,hpPl])⟩⟩
  ·have:k=p.parts.length:=by omega
   subst this
   (try conv=>whnf);repeat ((first|refine ⟨rfl,_,rfl,?_⟩);conv=>whnf)
   refine SW.loopR (α:=Nat) (fun k=>tm 108 [(1,.pa 0 0 0 0),(2,.pa 1 0 0 0),(64,.own 4 g3 0 p.jobs.length),(65,.g (.i p.jobs.length)),(66,.g (.i k))]) (fun _=>hpPl p g1 g2 g3) (fun k=>k≤p.jobs.length) (fun k=>p.jobs.length-k) 0 ?_ ?_ ?_
   ·exact Nat.zero_le _
   ·exact Refi.sub rfl (by simp [subT,subV,tm,tmGo])
   intro k hk
   dsimp only at hk ⊢
   unfold hpPl
   conv=>whnf
   refine Br.dec (fun h=>?_) (fun h=>?_)
   ·have hk':k < p.jobs.length:=by omega
    obtain ⟨x,hx⟩:∃ x,p.jobs[k]=x:=⟨_,rfl⟩
    obtain ⟨hs1,hs2,hs3⟩:=hb.job x (hx▸List.getElem_mem hk')
    have gk:(vjobs p.jobs)[0+((k:Nat):Int).toNat]?=some (V.g (tjob x)):=by rw [← hx];exact getO (f:=fun c=>V.g (tjob c)) hk'
    (try conv=>whnf);repeat ((first|refine ⟨rfl,_,gk,?_⟩|refine ⟨⟨rfl,rfl⟩,_,rfl,?_⟩|refine ⟨rfl,_,rfl,⟨rfl,rfl,by decide⟩,?_⟩|refine ⟨rfl,?_⟩|refine ⟨⟨by omega,by omega⟩,⟨rfl,rfl⟩,?_⟩);conv=>whnf)
    generalize hL:List.set [_] 0 _=LL
    obtain rfl:LL=[V.g (tjob x)]:=by rw [← hL];rfl
    clear hL
    refine (cd_intsO x.frm hs1).go rfl ⟨⟨[],rfl⟩,?_⟩
    try conv=>whnf
    refine ACalls.fl (cl_bools2 x.was hs2) [] rfl rfl rfl flatH.nil (by rintro r h ⟨g,_,rfl⟩;exact flatH.cons Blk.lt_g flatH.nil) ?_
    rintro r h ⟨g4,rfl,rfl⟩
    refine ⟨⟨[_],rfl⟩,?_⟩
    conv=>whnf
    refine ⟨⟨by omega,by omega⟩,⟨rfl,rfl⟩,?_⟩
    conv=>whnf
    refine ⟨⟨rfl,rfl⟩,_,gk,⟨rfl,rfl,by decide⟩,?_⟩
    conv=>whnf
    generalize hL:List.set (vjobs p.jobs) _ _=LL
    obtain rfl:LL=vjobs p.jobs:=by rw [← hL];exact set_get (f:=fun x=>V.g (tjob x)) hk' (by rw [hx];rfl)
    clear hL
    refine ⟨⟨by omega,by omega⟩,⟨rfl,rfl⟩,?_⟩
    conv=>whnf
    refine ⟨⟨rfl,rfl⟩,_,gk,⟨rfl,rfl,by decide⟩,?_⟩
    conv=>whnf
    generalize hL:List.set (vjobs p.jobs) _ _=JL
    have hJ:JL=(vjobs p.jobs).set (0+((k:Nat):Int).toNat) (.ag [.g (.i x.gen),.g (.sl 1 (x.frm.map T.i)),.own 6 g4 0 x.was.length]):=hL.symm
    clear hL
    have gj:JL[0+((k:Nat):Int).toNat]?=some (.ag [.g (.i x.gen),.g (.sl 1 (x.frm.map T.i)),.own 6 g4 0 x.was.length]):=by rw [hJ];exact set_get2 (by omega) _
    have hmw:(x.was.map tbools).length=x.was.length:=by simp
    (try conv=>whnf);repeat ((first|refine ⟨rfl,_,rfl,?_⟩);conv=>whnf)
    refine SW.loopR (α:=Nat) (fun q=>tm 108 [(1,.pa 0 0 0 0),(2,.pa 1 0 0 0),(6,.g (.i k)),(64,.own 4 g3 0 p.jobs.length),(65,.g (.i p.jobs.length)),(66,.g (.i k)),(88,livs x.was),(89,.g (.i x.was.length)),(90,.g (.i q))])
     (fun _=>[.arr 0 6 [oPile p 2 3 4 g1 g2 g3],.arr 0 6 [zPile],.arr g1 3 (vcards p.buf),.arr g2 7 (vparts p.parts),.arr g3 3 JL,.arr 0 3 [.g (tjob x)],.arr g4 1 (vbl2 x.was)]) (fun q=>q≤x.was.length) (fun q=>x.was.length-q) 0 ?_ ?_ ?_
    ·exact Nat.zero_le _
    ·exact Refi.sub rfl (by simp [subT,subV,tm,tmGo,tlive])
    ·intro q hq
     dsimp only at hq ⊢
     conv=>whnf
     refine Br.dec (fun h=>?_) (fun h=>?_)
     ·have hq':q < x.was.length:=by omega
      have gq:(vbl2 x.was)[0+((q:Nat):Int).toNat]?=some (V.g (tbools x.was[q])):=getO (f:=fun c=>V.g (tbools c)) hq'
      (try conv=>whnf);repeat ((first|refine ⟨rfl,_,gj,?_⟩|refine ⟨_,getZ (by omega),?_⟩|refine ⟨by omega,rfl,?_⟩|refine ⟨rfl,_,rfl,?_⟩|refine ⟨⟨by omega,by omega⟩,⟨rfl,rfl⟩,?_⟩);conv=>whnf)
      refine (cd_bools x.was[q] (hs3 _ (List.getElem_mem hq'))).go rfl ⟨⟨[],rfl⟩,?_⟩
      conv=>whnf
      refine ⟨⟨by omega,by omega⟩,⟨rfl,rfl⟩,?_⟩
      conv=>whnf
      refine ⟨rfl,_,gq,⟨rfl,rfl,by decide⟩,?_⟩
      conv=>whnf
      generalize hL:List.set (vbl2 x.was) _ _=LL
      obtain rfl:LL=vbl2 x.was:=by rw [← hL];exact set_get (f:=fun x=>V.g (tbools x)) hq' rfl
      clear hL
      (try conv=>whnf);repeat ((first|refine ⟨in64 (by omega) (by omega),?_⟩);conv=>whnf)
      refine ⟨⟨q+1,hq',by omega,Refi.sub rfl (by simp [subT,subV,tm,tmGo])⟩⟩
     ·have:q=x.was.length:=by omega
      subst this
      (try conv=>whnf);repeat ((first|refine ⟨in64 (by omega) (by omega),?_⟩);conv=>whnf)
      have hlt:=hpPl_lt (p:=p) (g1:=g1) (g2:=g2) (g3:=g3)
      refine ⟨⟨k+1,hk',by omega,(Refi.drop (H2:=[.arr 0 6 [oPile p 2 3 4 g1 g2 g3],.arr 0 6 [zPile],.arr g1 3 (vcards p.buf),.arr g2 7 (vparts p.parts),.arr g3 3 JL]) (H3:=hpPl p g1 g2 g3) (L:=[.arr 0 3 [.g (tjob x)],.arr g4 1 (vbl2 x.was)]) 3 (Nat.zero_le _)
       ⟨.inl ⟨rfl,hlt _ (by simp [hpPl])⟩,.inl ⟨rfl,hlt _ (by simp [hpPl])⟩,.inl ⟨rfl,hlt _ (by simp [hpPl])⟩,.inl ⟨rfl,hlt _ (by simp [hpPl])⟩,.inr ⟨g3,3,_,p.jobs.map tjob,rfl,by simp [vjobs],?_⟩,trivial⟩ (cut_ok _)).trans (Refi.sub rfl (by simp [subT,subV,tm,tmGo,cutV,ltB,ltS]))⟩⟩
      rw [hJ,show 0+((k:Nat):Int).toNat=k from by omega]
      refine gr_set (l:=p.jobs) (f:=fun c=>V.g (tjob c)) (e:=tjob) hk' (fun _ _=>gr_g) ?_
      generalize hh:(_++_:List Blk)=hq2
      have e1:=gr_own (n:=5) (d:=1) (b:=6) (g:=g4) (sz:=1) (len:=x.was.length) (h:=hq2) (l:=x.was) (f:=fun c=>V.g (tbools c)) (e:=tbools) (by rw [← hh];rfl) (by omega) rfl (fun _ _=>gr_g)
      show (optL [gr 5 hq2 2 (.g (.i x.gen)),gr 5 hq2 2 (.g (.sl 1 (x.frm.map T.i))),gr 5 hq2 2 (.own 6 g4 0 x.was.length)]).map T.ag=_
      rw [e1,gr_g,gr_g,hx]
      rfl
   ·have:k=p.jobs.length:=by omega
    subst this
    (try conv=>whnf);repeat ((first|refine ⟨rfl,_,rfl,⟨rfl,rfl,by decide⟩,?_⟩|refine ⟨rfl,_,rfl,?_⟩);conv=>whnf)
    refine ⟨Ends.pick [2,3,4] (v0:=oPile p 0 1 2 g1 g2 g3) (H0:=[.arr g1 3 (vcards p.buf),.arr g2 7 (vparts p.parts),.arr g3 3 (vjobs p.jobs)]) rfl rfl (fun i x hi=>?_) rfl ?_ ⟨g1,g2,g3,rfl,rfl⟩⟩
    ·match i,hi with
     | 0,hi =>
      have l0:(Blk.arr g1 3 (vcards p.buf)).lt 0:=Blk.lt_g
      cases hi;exact ⟨by rw [renB_flat _ l0];rfl,Blk.lt_g⟩
     | 1,hi =>
      have l0:(Blk.arr g2 7 (vparts p.parts)).lt 0:=Blk.lt_g
      cases hi;exact ⟨by rw [renB_flat _ l0];rfl,Blk.lt_g⟩
     | 2,hi =>
      have l0:(Blk.arr g3 3 (vjobs p.jobs)).lt 0:=Blk.lt_g
      cases hi;exact ⟨by rw [renB_flat _ l0];rfl,Blk.lt_g⟩
     | n+3,hi=>simp at hi
    ·refine .ag fun i v hi=>?_
     match i,hi with
     | 0,hi=>cases hi;exact .g
     | 1,hi=>cases hi;exact .g
     | 2,hi=>cases hi;exact .own (by simp)
     | 3,hi=>cases hi;exact .own (by simp)
     | 4,hi=>cases hi;exact .own (by simp)
     | 5,hi=>cases hi;exact .g
     | n+6,hi=>simp at hi
end Go.Aw
namespace Go.Aw
open Go.Proofs Go.Sort
set_option maxRecDepth 100000
set_option maxHeartbeats 1000000
def badN (x y:List Bool) (k:Nat):Nat:=((List.range k).filter fun i=>x.getD i false && !y.getD i false).length
theorem badN_succ {x y:List Bool} {k:Nat} (hk:k < x.length) (hy:k < y.length):badN x y (k+1)=badN x y k+(if (x[k] && !y[k])=true then 1 else 0):=by
 rw [badN,List.range_succ,List.filter_append,List.length_append,← badN]
 congr 1
 rw [List.filter_cons,getD_at _ hk,getD_at _ hy]
 split <;> rfl
theorem badN_le {x y:List Bool} {k:Nat}:badN x y k≤k:=Nat.le_trans (List.length_filter_le _ _) (by simp)
theorem lessP_iff {x y:List Bool} (hl:x.length=y.length):lessP x y↔badN x y x.length=0:=by
 unfold badN
 rw [List.length_eq_zero_iff,List.filter_eq_nil_iff]
 constructor
 ·intro h i _
  have:=h.2 i
  simp only [Bool.and_eq_true,Bool.not_eq_true',not_and]
  intro h1
  rw [this h1];simp
 ·intro h
  refine ⟨hl,fun i hi=>?_⟩
  have hlt:i < x.length:=by
   rcases Nat.lt_or_ge i x.length with h1|h1
   ·exact h1
   ·rw [List.getD_eq_getElem?_getD,List.getElem?_eq_none h1] at hi;cases hi
  have:=h i (List.mem_range.2 hlt)
  simp only [Bool.and_eq_true,Bool.not_eq_true',not_and] at this
  simpa using this hi
theorem c_live_LessS1 (y:List Bool) (i:Nat) (b:Bool) (hi:i < y.length) (_hy:y.length < 1000000000):ACalls Tryz.prog 259 [.g (.i i),.g (.b b),.pa 0 0 0 0] [.arr 0 1 [.g (tbools y)]] (fun r h=>r=.g (.b (b && !y[i]))∧h=[.arr 0 1 [.g (tbools y)]]):=by
 refine k_live_LessS1.calls ?_
 have hm:(y.map T.b).length=y.length:=by simp
 cases b
 ·try conv=>whnf
  exact ⟨Ends.ground (H:=[_]) (L:=[]) 0 rfl ⟨rfl,rfl⟩⟩
 ·(try conv=>whnf);repeat ((first|refine ⟨_,getZ (by omega),?_⟩|refine ⟨by omega,rfl,?_⟩|refine ⟨rfl,_,rfl,?_⟩);conv=>whnf)
  exact ⟨Ends.ground (H:=[_]) (L:=[]) 0 rfl ⟨rfl,rfl⟩⟩
theorem c_live_countL (x y:List Bool) (hl:x.length=y.length) (hx:x.length < 1000000000):ACalls Tryz.prog 121 [.g (tbools x),.fn 259 [.pa 0 0 0 0]] [.arr 0 1 [.g (tbools y)]] (fun r h=>r=.g (.i (badN x y x.length))∧h=[.arr 0 1 [.g (tbools y)]]):=by
 refine k_live_count_bool.calls ?_
 have hm:(x.map T.b).length=x.length:=by simp
 try conv=>whnf
 refine SW.loopR (α:=Nat) (fun k=>tm 23 [(1,.fn 259 [.pa 0 0 0 0]),(5,.g (.i (badN x y k))),(8,.g (tbools x)),(9,.g (.i x.length)),(10,.g (.i k))]) (fun _=>[.arr 0 1 [.g (tbools y)]]) (fun k=>k≤x.length) (fun k=>x.length-k) 0 ?_ ?_ ?_
 ·exact Nat.zero_le _
 ·exact Refi.sub rfl (by simp [subT,subV,tm,tmGo,tbools,badN])
 ·intro k hk
  dsimp only at hk ⊢
  have hc:badN x y k≤k:=badN_le
  conv=>whnf
  refine Br.dec (fun h=>?_) (fun h=>?_)
  ·have hk':k < x.length:=by omega
   have hky:k < y.length:=by omega
   have e:=badN_succ (x:=x) (y:=y) hk' hky
   (try conv=>whnf);repeat ((first|refine ⟨_,getZ (by omega),?_⟩|refine ⟨by omega,rfl,?_⟩);conv=>whnf)
   refine (c_live_LessS1 y k x[k] hky (by omega)).mono ?_
   rintro r h ⟨rfl,rfl⟩
   try conv=>whnf
   refine Br.intro (fun e1=>?_) (fun e1=>?_)
   ·rw [if_pos e1] at e
    (try conv=>whnf);repeat ((first|refine ⟨in64 (by omega) (by omega),?_⟩);conv=>whnf)
    refine ⟨⟨k+1,hk',by omega,Refi.sub rfl (by simp [subT,subV,tm,tmGo,e])⟩⟩
   ·rw [if_neg (by rw [e1];simp)] at e
    (try conv=>whnf);repeat ((first|refine ⟨in64 (by omega) (by omega),?_⟩);conv=>whnf)
    refine ⟨⟨k+1,hk',by omega,Refi.sub rfl (by simp [subT,subV,tm,tmGo,e])⟩⟩
  ·have:k=x.length:=by omega
   subst this
   try conv=>whnf
   exact ⟨Ends.ground (H:=[_]) (L:=[]) 0 rfl ⟨rfl,rfl⟩⟩
theorem c_live_Less (x y:List Bool) (hx:x.length < 1000000000) (_hy:y.length < 1000000000):CG Tryz.prog 215 [tbools x,tbools y] (.b (decide (lessP x y))):=by
 refine ⟨k_live_Less.calls ?_⟩
 have hm:(x.map T.b).length=x.length:=by simp
 have hm2:(y.map T.b).length=y.length:=by simp
 (try conv=>whnf);repeat ((first|refine ⟨rfl,_,rfl,?_⟩|refine ⟨⟨rfl,rfl⟩,?_⟩);conv=>whnf)
 refine Br.eq (fun e=>?_) (fun e=>?_)
 ·have hl:x.length=y.length:=by omega
  try conv=>whnf
  refine (c_live_countL x y hl hx).mono ?_
  rintro r h ⟨rfl,rfl⟩
  try conv=>whnf
  rw [bi_beq,show decide ((badN x y x.length:Int)=0)=decide (lessP x y) from decide_eq_decide.2 (by rw [lessP_iff hl];omega)]
  exact ⟨Ends.ground (H:=[]) (L:=[_]) 0 rfl ⟨rfl,rfl⟩⟩
 ·try conv=>whnf
  rw [decide_eq_false (fun q:lessP x y=>e (by have:=q.1;omega))]
  exact ⟨Ends.ground (H:=[]) (L:=[_]) 0 rfl ⟨rfl,rfl⟩⟩
theorem c_pile_parts (p:Pl) (hb:bndP p):CG Tryz.prog 86 [tpile p] (.b (decide (PartsP p))):=by
 refine ⟨k_pile_parts.calls ?_⟩
 have hl:=hb.parts
 have hm:(p.parts.map tpart).length=p.parts.length:=by simp
 have no:¬ PartsP p→∀ L,Ends [] (fun r h=>r=V.g (T.b (decide (PartsP p)))∧h=[]) (V.g (T.sc (Value.bool false))) L:=fun e L=>by
  rw [decide_eq_false e];exact Ends.ground (H:=[]) (L:=L) 0 rfl ⟨rfl,rfl⟩
 (try conv=>whnf);repeat ((first|refine ⟨rfl,_,rfl,?_⟩|refine ⟨⟨rfl,rfl⟩,?_⟩);conv=>whnf)
 refine SW.loopR (α:=Nat) (fun k=>tm 56 [(1,.pa 0 0 0 0),(6,vpl p.parts),(7,.g (.i p.parts.length)),(8,.g (.i k))]) (fun _=>[.arr 0 6 [.g (tpile p)]])
  (fun k=>k≤p.parts.length∧∀ i (hi:i < p.parts.length),i < k→PartP p.next p.sort p.parts[i]∧plG p.parts p.parts[i].gen=i) (fun k=>p.parts.length-k) 0 ?_ ?_ ?_
 ·exact ⟨Nat.zero_le _,fun i _ h=>by omega⟩
 ·exact Refi.sub rfl (by simp [subT,subV,tm,tmGo])
 rintro k ⟨hk,hq⟩
 dsimp only at hk hq ⊢
 conv=>whnf
 refine Br.dec (fun h=>?_) (fun h=>?_)
 ·have hk':k < p.parts.length:=by omega
  have hxm:p.parts[k]∈p.parts:=List.getElem_mem hk'
  obtain ⟨hs,hlv⟩:=hb.part _ hxm
  have c1:=c_pile_number p p.parts[k].gen
  have c2:=c_pile_place p p.parts[k].gen hl
  have c3:=c_seg_May p.parts[k].s hs.2.2.2 hs.1
  have hm1:(p.parts[k].live.map T.b).length=p.parts[k].live.length:=by simp
  have hm2:(p.parts[k].s.ids.map T.s).length=p.parts[k].s.ids.length:=by simp
  have bad:¬ (PartP p.next p.sort p.parts[k]∧plG p.parts p.parts[k].gen=k)→¬ PartsP p:=fun e q=>e ⟨q.all _ hxm,by rw [plG,plN_idx q.nd hk',if_pos hk']⟩
  (try conv=>whnf);repeat ((first|refine (c1).go rfl ?_|refine ⟨_,getZ (by omega),?_⟩|refine ⟨by omega,rfl,?_⟩|refine ⟨rfl,_,rfl,⟨rfl,rfl,by decide⟩,?_⟩|refine ⟨rfl,_,rfl,?_⟩|refine ⟨rfl,?_⟩);conv=>whnf)
  refine Br.not (fun e1=>?_) (fun e1=>?_)
  ·try conv=>whnf
   exact ⟨no (bad fun q=>of_decide_eq_false e1 q.1.num) _⟩
  (try conv=>whnf);repeat ((first|refine (c2).go rfl ?_|refine ⟨rfl,_,rfl,?_⟩);conv=>whnf)
  refine Br.ne (fun e2=>?_) (fun e2=>?_)
  ·try conv=>whnf
   exact ⟨no (bad fun q=>e2 q.2) _⟩
  (try conv=>whnf);repeat ((first|refine (c3).go rfl ?_|refine ⟨rfl,_,rfl,?_⟩);conv=>whnf)
  refine Br.not (fun e3=>?_) (fun e3=>?_)
  ·try conv=>whnf
   exact ⟨no (bad fun q=>of_decide_eq_false e3 q.1.seg) _⟩
  (try conv=>whnf);repeat ((first|refine ⟨rfl,_,rfl,?_⟩);conv=>whnf)
  refine Br.not (fun e4=>?_) (fun e4=>?_)
  ·try conv=>whnf
   exact ⟨no (bad fun q=>by rw [q.1.srt] at e4;simp at e4) _⟩
  (try conv=>whnf);repeat ((first|refine ⟨rfl,_,rfl,?_⟩);conv=>whnf)
  refine Br.ne (fun e5=>?_) (fun e5=>?_)
  ·try conv=>whnf
   exact ⟨no (bad fun q=>e5 (by have:=q.1.len;omega)) _⟩
  (try conv=>whnf);repeat ((first|refine ⟨in64 (by omega) (by omega),?_⟩);conv=>whnf)
  refine ⟨⟨k+1,⟨hk',fun i hi h=>?_⟩,by omega,Refi.back (H':=[.arr 0 6 [.g (tpile p)]]) (L:=[_]) rfl (Nat.zero_le _) (lt_all1 Blk.lt_g1) (by simp [subT,subV,tm,tmGo,cutV,ltB,ltS])⟩⟩
  rcases Nat.lt_or_ge i k with h1|h1
  ·exact hq i hi h1
  ·have:i=k:=by omega
   subst this
   exact ⟨⟨of_decide_eq_true e1,of_decide_eq_true e3,by simpa using e4,by omega⟩,e2⟩
 ·have:k=p.parts.length:=by omega
  subst this
  (try conv=>whnf);repeat ((first|refine ⟨rfl,_,rfl,?_⟩);conv=>whnf)
  rw [show decide (((p.parts.map tpart).length:Int)≤16)=decide (PartsP p) from decide_eq_decide.2 ⟨fun e=>?_,fun e=>by have:=e.le;omega⟩]
  ·exact ⟨Ends.ground (H:=[]) (L:=[_]) 0 rfl ⟨rfl,rfl⟩⟩
  ·refine ⟨by omega,?_,fun x hx=>?_⟩
   ·rw [List.Nodup,List.pairwise_iff_getElem]
    intro i j hi hj hij he
    have hi':i < p.parts.length:=by simpa using hi
    have hj':j < p.parts.length:=by simpa using hj
    have a1:=(hq i hi' hi').2
    have a2:=(hq j hj' hj').2
    simp only [List.getElem_map] at he
    rw [he] at a1
    omega
   ·obtain ⟨i,hi,rfl⟩:=List.getElem_of_mem hx
    exact (hq i hi hi).1
end Go.Aw
namespace Go.Aw
open Go.Proofs Go.Sort
set_option maxRecDepth 100000
set_option maxHeartbeats 1000000
def vsegs (l:List Sg):List V:=l.map fun s=>V.g (tseg s)
def vlivs (l:List (List Bool)):List V:=l.map fun x=>V.g (tbools x)
theorem partOf_at {ps:List Pt} {g:Int} (h:g∈gens ps):∃ (i:Nat) (hi:i < ps.length),plG ps g=(i:Int)∧partOf ps g=ps[i]:=by
 have h1:=plN_lt.2 h
 exact ⟨_,h1,by rw [plG,if_pos h1],by rw [partOf,getD_at _ h1]⟩
theorem c_pile_segs (p:Pl) (gs:List Int) (hl:p.parts.length < 1000000000) (hg:gs.length < 1000000000) (hin:∀ g∈gs,g∈gens p.parts) :
  CV Tryz.prog 72 [tpile p,tints gs] (.tu [.g (tsegs (segL p.parts gs)),.g (tlive (livL p.parts gs))]):=by
 refine ⟨k_pile_segs.calls ?_,V.lt.gs (ts:=[_,_])⟩
 have hmp:(p.parts.map tpart).length=p.parts.length:=by simp
 have hmg:(gs.map T.i).length=gs.length:=by simp
 (try conv=>whnf);repeat ((first|refine ⟨⟨rfl,rfl⟩,?_⟩);conv=>whnf)
 refine SW.loopR (α:=Nat) (fun k=>tm 37 [(2,.pa 0 0 0 0),(6,.own 1 k 0 k),(7,.own 2 k 0 k),(11,.g (tints gs)),(12,.g (.i gs.length)),(13,.g (.i k))])
  (fun k=>[.arr 0 6 [.g (tpile p)],.arr k 5 (vsegs (segL p.parts (gs.take k))),.arr k 1 (vlivs (livL p.parts (gs.take k)))]) (fun k=>k≤gs.length) (fun k=>gs.length-k) 0 ?_ ?_ ?_
 ·exact Nat.zero_le _
 ·refine (Refi.valloc 6 5 rfl).trans ((Refi.valloc 7 1 rfl).trans (Refi.sub ?_ ?_))
  ·simp [addB_eq,vsegs,vlivs,segL,livL]
   rfl
  ·simp [subT,subV,tm,tmGo,setT,tints]
   rfl
 intro k hk
 dsimp only at hk ⊢
 conv=>whnf
 refine Br.dec (fun h=>?_) (fun h=>?_)
 ·have hk':k < gs.length:=by omega
  obtain ⟨i,hi,e1,e2⟩:=partOf_at (hin _ (List.getElem_mem hk'))
  obtain ⟨x,hx⟩:∃ x,p.parts[i]=x:=⟨_,rfl⟩
  have gx:(p.parts.map tpart)[i]?=some (tpart x):=by simp [hi,hx]
  have c1:=c_pile_place p gs[k] hl
  rw [e1] at c1
  have f1:(vsegs (segL p.parts (gs.take k))).length=k:=by simp [vsegs,segL];omega
  have f2:(vlivs (livL p.parts (gs.take k))).length=k:=by simp [vlivs,livL];omega
  have g1:vsegs (segL p.parts (gs.take (k+1)))=vsegs (segL p.parts (gs.take k))++[V.g (tseg x.s)]:=by
   rw [List.take_succ_eq_append_getElem hk',segL,vsegs,List.map_append,List.map_append];simp only [List.map_cons,List.map_nil,e2,hx];rfl
  have g2:vlivs (livL p.parts (gs.take (k+1)))=vlivs (livL p.parts (gs.take k))++[V.g (tbools x.live)]:=by
   rw [List.take_succ_eq_append_getElem hk',livL,vlivs,List.map_append,List.map_append];simp only [List.map_cons,List.map_nil,e2,hx];rfl
  (try conv=>whnf);repeat ((first|refine ⟨_,fun B=>c1.go rfl ⟨rfl,rfl⟩,?_⟩|refine ⟨⟨by omega,by omega⟩,rfl,?_⟩|refine ⟨_,gx,?_⟩|refine ⟨by simp;omega,⟨rfl,rfl,rfl⟩,_,⟨[],(List.append_nil _).symm⟩,by first|simp only [f1]|simp only [f2],?_⟩|refine And.intro (show cellsAll _ _ from by repeat (first|exact trivial|refine ⟨⟨rfl,rfl⟩,?_⟩)) ?_|refine ⟨_,getZ (by omega),?_⟩|refine ⟨rfl,_,rfl,⟨rfl,rfl,by decide⟩,?_⟩|refine ⟨⟨rfl,rfl⟩,?_⟩|refine ⟨rfl,?_⟩|refine ⟨in64 (by omega) (by omega),?_⟩|refine ⟨_,rfl,?_⟩);conv=>whnf)
  refine ⟨⟨k+1,hk',by omega,Refi.back (H':=[.arr 0 6 [.g (tpile p)],.arr (k+1) 5 (vsegs (segL p.parts (gs.take (k+1)))),.arr (k+1) 1 (vlivs (livL p.parts (gs.take (k+1))))]) (L:=[_]) (by rw [g1,g2];rfl) (Nat.zero_le _) ?_ (by simp [subT,subV,tm,tmGo,cutV,ltB,ltS])⟩⟩
  intro y hy
  simp only [List.mem_cons,List.not_mem_nil,or_false] at hy
  rcases hy with rfl|rfl|rfl
  ·exact Blk.lt_g1
  ·exact Blk.lt_g
  ·exact Blk.lt_g
 ·have:k=gs.length:=by omega
  subst this
  try conv=>whnf
  rw [List.take_length]
  refine ⟨Ends.grounds (H:=[]) (L:=[_,_,_]) 1 (ts:=[tsegs (segL p.parts gs),tlive (livL p.parts gs)]) ?_ ⟨rfl,rfl⟩⟩
  show optL [gr 0 _ 1 (.own 1 _ 0 _),gr 0 _ 1 (.own 2 _ 0 _)]=_
  generalize hh:([]++_:List Blk)=hq
  have a1:=gr_own (n:=0) (d:=0) (b:=1) (g:=gs.length) (sz:=5) (len:=gs.length) (h:=hq) (l:=segL p.parts gs) (f:=fun s=>V.g (tseg s)) (e:=tseg) (by rw [← hh];rfl) (Nat.zero_le _) (by simp [segL]) (fun _ _=>gr_g)
  have a2:=gr_own (n:=0) (d:=0) (b:=2) (g:=gs.length) (sz:=1) (len:=gs.length) (h:=hq) (l:=livL p.parts gs) (f:=fun s=>V.g (tbools s)) (e:=tbools) (by rw [← hh];rfl) (Nat.zero_le _) (by simp [livL]) (fun _ _=>gr_g)
  rw [a1,a2]
  rfl
end Go.Aw
