/- Contracts of functions of the given program, by the abstract walk, for law StatReckons: what each one hands back; no condition but those that each theorem states. -/
import Derived.StillTailTactics
import Derived.Test.YtocdciahhlbknaaGreatC12
import Derived.Test.YtocdciahhlbknaaGreatW3
namespace Go.Aw
open Go.Proofs Go.Sort
set_option maxRecDepth 100000
set_option maxHeartbeats 4000000
theorem st_stable (fn g n:Nat) (cf:Cd→Cd→Int) (hc:∀ x y,CG Tryz.prog fn [tcard x,tcard y] (.i (cf x y))) (hO:SWO (ltC cf)) (hn:n < 1000000000) (f:Nat→Cd) :
  ACalls Tryz.prog 162 [.own 0 g 0 n,.g (.i n),.fn fn []] [.arr g 3 (rowF n f)] (fun r h=>r=.tu []∧∃ f',locP 0 n f f'∧srt (ltC cf) f' 0 n∧h=[.arr g 3 (rowF n f')]):=by
 refine k_slices_stableCmpFunc_Card.calls ?_
 try conv=>whnf
 refine SW.loopR (α:=Nat×Nat×(Nat→Cd)) (fun s=>tm 63 [(0,.own 0 g 0 n),(1,.g (.i n)),(2,.fn fn []),(6,.g (.i 20)),(7,.g (.i s.2.1)),(8,.g (.i ((s.2.1:Int)+20)))]) (fun s=>[.arr g 3 (rowF n s.2.2)])
  (fun s=>s.2.1=s.1*20∧s.2.1≤n∧locP 0 n f s.2.2∧∀ c,c < s.1→srt (ltC cf) s.2.2 (c*20) (c*20+20)) (fun s=>n-s.2.1) (0,0,f) ?_ ?_ ?_
 ·exact ⟨rfl,Nat.zero_le _,.refl _ _ _,fun c h=>by dsimp only at h;omega⟩
 ·exact Refi.sub rfl (by simp [subT,subV,tm,tmGo])
 ·rintro ⟨c,a,F⟩ ⟨ha,han,hl,hs⟩
  dsimp only at ha han hl hs ⊢
  conv=>whnf
  refine Br.dec (fun h1=>?_) (fun h1=>?_)
  ·(try conv=>whnf);repeat ((first|(refine (st_insertion fn g n cf hc hO F a (a+20) rfl (by omega) (by omega) (by omega) hn).mono ?_;rintro r h ⟨rfl,F1,l1,s1,rfl⟩)|refine ⟨in64 (by omega) (by omega),?_⟩);conv=>whnf)
   refine ⟨⟨(c+1,a+20,F1),⟨by dsimp only;omega,by dsimp only;omega,hl.trans (l1.mono (Nat.zero_le _) (by omega)),fun d hd=>?_⟩,by dsimp only;omega,Refi.sub rfl ?_⟩⟩
   ·dsimp only at hd ⊢
    by_cases h2:d=c
    ·subst h2;rw [← ha];exact s1
    ·exact (hs d (by omega)).cong fun k x y=>l1.out (.inl (by omega))
   ·simp [subT,subV,tm,tmGo]
  ·(try conv=>whnf);repeat ((first|(refine (st_insertion fn g n cf hc hO F a n rfl rfl (by omega) (Nat.le_refl _) hn).mono ?_;rintro r h ⟨rfl,F0,l0,s0,rfl⟩));conv=>whnf)
   have hB0:∀ k,srt (ltC cf) F0 (k*20) (min ((k+1)*20) n):=fun k=>by
    by_cases h2:k < c
    ·exact ((hs k h2).cong fun q x y=>l0.out (.inl (by omega))).sub (Nat.le_refl _) (by omega)
    ·by_cases h3:k=c
     ·subst h3;rw [← ha];exact s0.sub (Nat.le_refl _) (by omega)
     ·exact fun i j x y z=>by omega
   have hl0:locP 0 n f F0:=hl.trans (l0.mono (Nat.zero_le _) (Nat.le_refl _))
   clear hl hs l0 s0
   refine SW.loopR (α:=Nat×(Nat→Cd)) (fun s=>tm 63 [(0,.own 0 g 0 n),(1,.g (.i n)),(2,.fn fn []),(6,.g (.i s.1))]) (fun s=>[.arr g 3 (rowF n s.2)])
    (fun s=>20≤s.1∧s.1≤2*n+20∧locP 0 n f s.2∧∀ k,srt (ltC cf) s.2 (k*s.1) (min ((k+1)*s.1) n)) (fun s=>n-s.1) (20,F0) ?_ ?_ ?_
   ·exact ⟨Nat.le_refl _,by dsimp only;omega,hl0,hB0⟩
   ·exact Refi.sub rfl (by simp [subT,subV,tm,tmGo])
   ·rintro ⟨s,G⟩ ⟨hs20,hsn,hlG,hB⟩
    dsimp only at hs20 hsn hlG hB ⊢
    conv=>whnf
    refine Br.dec (fun h2=>?_) (fun h2=>?_)
    ·(try conv=>whnf);repeat ((first|refine ⟨in64 (by omega) (by omega),?_⟩);conv=>whnf)
     refine SW.loopR (α:=Nat×Nat×(Nat→Cd)) (fun x=>tm 63 [(0,.own 0 g 0 n),(1,.g (.i n)),(2,.fn fn []),(6,.g (.i s)),(7,.g (.i x.2.1)),(8,.g (.i ((x.2.1:Int)+2*s)))]) (fun x=>[.arr g 3 (rowF n x.2.2)])
      (fun x=>x.2.1=x.1*(2*s)∧x.2.1≤n∧locP 0 n f x.2.2∧(∀ c,c < x.1→srt (ltC cf) x.2.2 (c*(2*s)) (c*(2*s)+2*s))∧(∀ k,2*x.1≤k→srt (ltC cf) x.2.2 (k*s) (min ((k+1)*s) n))) (fun x=>n-x.2.1) (0,0,G) ?_ ?_ ?_
     ·exact ⟨by dsimp only;omega,Nat.zero_le _,hlG,fun c h=>by dsimp only at h;omega,fun k _=>hB k⟩
     ·exact Refi.sub rfl (by simp [subT,subV,tm,tmGo])
     ·rintro ⟨c,a,K⟩ ⟨ha,han,hlK,hp,hq⟩
      dsimp only at ha han hlK hp hq ⊢
      have e1:(2*c)*s=a:=by rw [ha,Nat.mul_comm 2 c,Nat.mul_assoc]
      have e2:(2*c+1)*s=a+s:=by rw [Nat.add_mul,e1,Nat.one_mul]
      have e3:(2*c+1+1)*s=a+s+s:=by rw [Nat.add_mul,e2,Nat.one_mul]
      have e4:(c+1)*(2*s)=a+2*s:=by rw [Nat.add_mul,← ha,Nat.one_mul]
      have hb1:=hq (2*c) (Nat.le_refl _)
      have hb2:=hq (2*c+1) (by omega)
      rw [e1,e2] at hb1
      rw [e2,e3] at hb2
      conv=>whnf
      refine Br.dec (fun h3=>?_) (fun h3=>?_)
      ·(try conv=>whnf);repeat ((first|(refine (st_symMerge fn g n cf hc hO hn n K a (a+s) (a+2*s) rfl (by omega) (by omega) (by omega) (by omega) (by omega) (by omega) (hb1.sub (Nat.le_refl _) (by omega)) (hb2.sub (Nat.le_refl _) (by omega))).mono ?_;rintro r h ⟨rfl,F1,l1,s1,rfl⟩)|refine ⟨in64 (by omega) (by omega),?_⟩);conv=>whnf)
       refine ⟨⟨(c+1,a+2*s,F1),⟨e4.symm,by dsimp only;omega,hlK.trans (l1.mono (Nat.zero_le _) (by omega)),fun d hd=>?_,fun k hk=>?_⟩,by dsimp only;omega,Refi.sub rfl ?_⟩⟩
       ·dsimp only at hd ⊢
        by_cases h4:d=c
        ·subst h4;rw [← ha];exact s1
        ·have h5:(d+1)*(2*s)≤c*(2*s):=Nat.mul_le_mul_right _ (by omega)
         rw [Nat.add_mul,Nat.one_mul,← ha] at h5
         exact (hp d (by omega)).cong fun k x y=>l1.out (.inl (by omega))
       ·dsimp only at hk ⊢
        have h5:(2*c+1+1)*s≤k*s:=Nat.mul_le_mul_right _ (by omega)
        rw [e3] at h5
        exact (hq k (by omega)).cong fun q x y=>l1.out (.inr (by omega))
       ·simp [subT,subV,tm,tmGo]
      ·have fin:∀ K1,locP 0 n f K1→(∀ c',c' < c→srt (ltC cf) K1 (c'*(2*s)) (c'*(2*s)+2*s))→srt (ltC cf) K1 a n→∀ k,srt (ltC cf) K1 (k*(s*2)) (min ((k+1)*(s*2)) n):=fun K1 _ x2 x3 k=>by
        rw [Nat.mul_comm s 2]
        by_cases h4:k < c
        ·refine (x2 k h4).sub (Nat.le_refl _) ?_
         rw [Nat.add_mul,Nat.one_mul];omega
        ·by_cases h5:k=c
         ·subst h5;rw [← ha];exact x3.sub (Nat.le_refl _) (by omega)
         ·have h6:(c+1)*(2*s)≤k*(2*s):=Nat.mul_le_mul_right _ (by omega)
          rw [e4] at h6
          exact fun i j x y z=>by omega
       by_cases h4:a+s < n
       ·(try conv=>whnf);repeat ((first|(refine (st_symMerge fn g n cf hc hO hn n K a (a+s) n rfl (by omega) rfl (by omega) (by omega) (Nat.le_refl _) (by omega) (hb1.sub (Nat.le_refl _) (by omega)) (hb2.sub (Nat.le_refl _) (by omega))).mono ?_;rintro r h ⟨rfl,F1,l1,s1,rfl⟩)|refine ⟨in64 (by omega) (by omega),?_⟩|refine Br.dec (fun _=>?_) (fun hh=>absurd (by omega) hh));conv=>whnf)
        refine ⟨⟨(s*2,F1),⟨by dsimp only;omega,by dsimp only;omega,hlK.trans (l1.mono (Nat.zero_le _) (Nat.le_refl _)),fin F1 (hlK.trans (l1.mono (Nat.zero_le _) (Nat.le_refl _))) (fun d hd=>?_) s1⟩,by dsimp only;omega,Refi.sub rfl (by simp [subT,subV,tm,tmGo])⟩⟩
        have h5:(d+1)*(2*s)≤c*(2*s):=Nat.mul_le_mul_right _ (by omega)
        rw [Nat.add_mul,Nat.one_mul,← ha] at h5
        exact (hp d hd).cong fun k x y=>l1.out (.inl (by omega))
       ·(try conv=>whnf);repeat ((first|refine ⟨in64 (by omega) (by omega),?_⟩|refine Br.dec (fun hh=>absurd hh (by omega)) (fun _=>?_));conv=>whnf)
        exact ⟨⟨(s*2,K),⟨by dsimp only;omega,by dsimp only;omega,hlK,fin K hlK hp (hb1.sub (Nat.le_refl _) (by omega))⟩,by dsimp only;omega,Refi.sub rfl (by simp [subT,subV,tm,tmGo])⟩⟩
    ·conv=>whnf
     refine ⟨Ends.keep ⟨rfl,G,hlG,?_,rfl⟩⟩
     have:=hB 0
     rw [Nat.zero_mul,Nat.zero_add,Nat.one_mul] at this
     exact this.sub (Nat.le_refl _) (by omega)
def noCd:Cd:=⟨⟨#[]⟩,0,[]⟩
def vcards (l:List Cd):List V:=l.map fun c=>V.g (tcard c)
theorem rowF_list (l:List Cd):rowF l.length (fun k=>l[k]?.getD noCd)=vcards l:=by
 refine List.ext_getElem? fun j=>?_
 by_cases h:j < l.length
 ·simp [rowF,vcards,h]
 ·rw [List.getElem?_eq_none (by rw [rowF_len];omega),List.getElem?_eq_none (by simp [vcards];omega)]
theorem row_list (n:Nat) (f:Nat→Cd):rowF n f=vcards ((List.range n).map f):=by simp [rowF,vcards,List.map_map,Function.comp_def]
theorem range_list (l:List Cd):(List.range l.length).map (fun k=>l[k]?.getD noCd)=l:=by
 refine List.ext_getElem? fun j=>?_
 by_cases h:j < l.length
 ·simp [h]
 ·rw [List.getElem?_eq_none (by simp;omega),List.getElem?_eq_none (by omega)]
theorem c_SortStable (fn g:Nat) (cf:Cd→Cd→Int) (hc:∀ x y,CG Tryz.prog fn [tcard x,tcard y] (.i (cf x y))) (hO:SWO (ltC cf)) (l:List Cd) (hl:l.length < 1000000000) :
  ACalls Tryz.prog 101 [.own 0 g 0 l.length,.fn fn []] [.arr g 3 (vcards l)] (fun r h=>r=.tu []∧∃ l':List Cd,l'.Perm l∧l'.Pairwise (fun x y=>ltC cf y x=false)∧h=[.arr g 3 (vcards l')]):=by
 refine k_slices_SortStableFunc_LCard_Card.calls ?_
 rw [← rowF_list l]
 try conv=>whnf
 refine (st_stable fn g l.length cf hc hO hl _).mono ?_
 rintro r h ⟨rfl,f',l1,s1,rfl⟩
 try conv=>whnf
 refine ⟨Ends.keep ⟨rfl,(List.range l.length).map f',?_,s1.pairwise,by rw [row_list]⟩⟩
 have:=l1.perm
 rwa [range_list] at this
end Go.Aw
namespace Go.Aw
open Go.Proofs Go.Sort Go.RowKit Go.Shelf
set_option maxRecDepth 100000
set_option maxHeartbeats 4000000
def strT:T→ByteArray
 | .ag (.sc (.string s)::_)=>s
 | _=>⟨#[]⟩
def keyT:T→Int
 | .ag (_::.sc (.int .i64 n)::_)=>n
 | _=>0
def termSh (t:T):Prop:=∃ s r,t=.ag [.s s,r]
def cardSh (t:T):Prop:=∃ s n r,t=.ag [.s s,.i n,r]
theorem two_vals {vs:List Value} {t r:T} {s:ByteArray} (hl:vs.length=2) (ht:t=.ag [.s s,r]) (h:∀ (i:Nat) v,t.cells[i]?=some (.sc v)→vs[i]?=some v):∃ x,vs=[.string s,x]:=by
 subst ht
 match vs,hl with
 | [a,b],_ =>
  have:=h 0 _ rfl
  simp at this;subst this
  exact ⟨b,rfl⟩
theorem three_vals {vs:List Value} {t r:T} {s:ByteArray} {n:Int} (hl:vs.length=3) (ht:t=.ag [.s s,.i n,r]) (h:∀ (i:Nat) v,t.cells[i]?=some (.sc v)→vs[i]?=some v):∃ x,vs=[.string s,.int .i64 n,x]:=by
 subst ht
 match vs,hl with
 | [a,b,c],_ =>
  have h1:=h 0 _ rfl
  have h2:=h 1 _ rfl
  simp at h1 h2;subst h1;subst h2
  exact ⟨c,rfl⟩
theorem closure_terms (a b:ByteArray) (x y:Value) (W:World):Calls Tryz.prog 169 #[.agg #[.string a,x],.agg #[.string b,y]] W fun e w'=>e=.returned (.int .i64 (cmpS a b))∧∃ q os',w'=grow (W.drewN q) os':=by
 have hcon:=fun W'=>Tryz.strings_Compare a b W'
 unfold cmpS
 generalize Lib.compareBytes a.data.toList b.data.toList=r at hcon ⊢
 go_enter Tryz.func169,Tryz.ntmps169
 go_wp2_with (go_at_call 64;refine (hcon _).mono ?_;rintro e w' ⟨rfl,rfl⟩)
 go_ret
 exact ⟨rfl,0,_,by rw [alloc_eq_grow,alloc_eq_grow,grow_grow];rfl⟩
theorem swo_key {α β:Type} {lt:β→β→Bool} (h:SWO lt) (k:α→β):SWO (fun x y=>lt (k x) (k y)):=⟨fun _=>h.irrefl _,fun _ _ _=>h.trans _ _ _,fun _ _ _=>h.ntrans _ _ _⟩
theorem swo_cmpS:SWO fun a b:ByteArray=>decide (cmpS a b < 0) where
 irrefl:=fun x=>by rw [cmpS_self];rfl
 trans:=fun x y z h k=>by
  simp only [decide_eq_true_eq] at *
  have:=cmpS_trans (by omega:cmpS x y≤0) (by omega:cmpS y z≤0)
  by_cases h0:cmpS x z=0
  ·have:=this.2 h0;omega
  ·omega
 ntrans:=fun x y z h k=>by
  simp only [decide_eq_false_iff_not,Int.not_lt] at *
  have h1:=cmpS_neg x y
  have h2:=cmpS_neg y z
  have h3:=cmpS_neg x z
  have:=cmpS_trans (by omega:cmpS z y≤0) (by omega:cmpS y x≤0)
  omega
theorem swo_terms:SWO (ltOf fun t u:T=>cmpS (strT t) (strT u)):=swo_key swo_cmpS strT
theorem cmpT_terms:CmpT Tryz.prog 169 2 termSh (fun t u=>cmpS (strT t) (strT u)):=by
 rintro t u vs us W ⟨s,r,ht⟩ ⟨s',r',hu⟩ hl hl' h h'
 obtain ⟨x,rfl⟩:=two_vals hl ht h
 obtain ⟨y,rfl⟩:=two_vals hl' hu h'
 subst ht;subst hu
 exact closure_terms s s' x y W
theorem or2 (x y:Int) (b:Nat) (W:World) (h0:W.cell? ⟨b,0,none⟩=some (.int .i64 x)) (h1:W.cell? ⟨b,1,none⟩=some (.int .i64 y)) :
  Calls Tryz.prog 166 #[.slice (some ⟨b,0,none⟩) 2 2] W fun e w'=>e=.returned (.int .i64 (firstNZ [x,y]))∧w'=W:=by
 go_enter Tryz.func166,Tryz.ntmps166
 go_wp2
 refine wp_loop_rounds 3 ?_
 rw [rounds_succ]
 go_wp2
 ·rename_i hx
  go_ret
  exact ⟨by rw [firstNZ,if_neg (by simpa using hx)];rfl,rfl⟩
 ·rename_i hx
  have hx':x=0:=by simpa using hx
  rw [rounds_succ]
  go_wp2
  ·rename_i hy
   go_ret
   exact ⟨by rw [firstNZ,if_pos hx',firstNZ,if_neg (by simpa using hy)];rfl,rfl⟩
  ·rename_i hy
   have hy':y=0:=by simpa using hy
   rw [rounds_succ]
   go_wp2
   go_ret
   exact ⟨by rw [firstNZ,if_pos hx',firstNZ,if_pos hy',firstNZ];rfl,rfl⟩
theorem compareI (x y:Int):Lib.compareInt x y=cmpI x y:=rfl
theorem closure_order (a b:ByteArray) (m n:Int) (x y:Value) (W:World):Calls Tryz.prog 104 #[.agg #[.string a,.int .i64 m,x],.agg #[.string b,.int .i64 n,y]] W fun e w'=>e=.returned (.int .i64 (firstNZ [cmpI m n,cmpS a b]))∧∃ q os',w'=grow (W.drewN q) os':=by
 have hc1:=fun W'=>AnyG.cmp_Compare_int Tryz.cmpInt m n W'
 change ∀ W',Calls Tryz.prog 167 _ _ _ at hc1
 have hc2:=fun W'=>Tryz.strings_Compare a b W'
 rw [compareI] at hc1
 unfold cmpS
 generalize cmpI m n=r at hc1 ⊢
 generalize Lib.compareBytes a.data.toList b.data.toList=r2 at hc2 ⊢
 have hor:=fun B W' h0 h1=>or2 r r2 B W' h0 h1
 generalize firstNZ [r,r2]=r3 at hor ⊢
 go_enter Tryz.func104,Tryz.ntmps104
 go_wp2
 obtain ⟨W2,hW2⟩:∃ W2,W2=(W.alloc (Obj.cells #[Value.string a,Value.int IntKind.i64 m,x] 44)).alloc (Obj.cells #[Value.string b,Value.int IntKind.i64 n,y] 44):=⟨_,rfl⟩
 rw [← hW2]
 have c1:W2.cell? ⟨W.heap.size,1,none⟩=some (.int .i64 m):=by subst hW2;simp
 have c2:W2.cell? ⟨W.heap.size,0,none⟩=some (.string a):=by subst hW2;simp
 have c3:W2.cell? ⟨W.heap.size+1,1,none⟩=some (.int .i64 n):=by subst hW2;simp
 have c4:W2.cell? ⟨W.heap.size+1,0,none⟩=some (.string b):=by subst hW2;simp
 have hg:∃ os0,grow W os0=W2:=⟨_,by rw [hW2,alloc_eq_grow,alloc_eq_grow,grow_grow]⟩
 clear hW2
 refine wp_region_still_tail 10 (by kernel_rfl) (by kernel_rfl) ?_
 simp only [List.take_succ_cons,List.take_zero,List.drop_succ_cons,List.drop_zero]
 still_step
 still_step
 still_step
 still_step
 trace_state
 still_call (hc1 _)
 still_step
 still_step
 still_step
 still_step
 still_call (hc2 _)
 try refine wpStill_nil ?_
 change wpList _ _ _ _ _ W2.drew
 have hg2:∃ q os',grow (W.drewN q) os'=W2.drew:=by
  obtain ⟨os0,rfl⟩:=hg
  exact ⟨1,os0,rfl⟩
 generalize W2.drew=W3 at hg2 ⊢
 go_wp2_with (go_at_call 166;refine (hor _ _ (by simp) (by simp)).mono ?_;rintro e w' ⟨rfl,rfl⟩)
 go_ret
 obtain ⟨q,os',hq⟩:=hg2
 exact ⟨rfl,q,_,by rw [← hq,alloc_eq_grow,grow_grow]⟩
def ordT (t u:T):Int:=firstNZ [cmpI (keyT t) (keyT u),cmpS (strT t) (strT u)]
theorem nz_lt (m n s:Int):firstNZ [cmpI m n,s] < 0↔m < n∨(m=n∧s < 0):=by
 by_cases h:m < n
 ·have:cmpI m n=-1:=by rw [cmpI,if_pos h]
  rw [this];simp [firstNZ,h]
 ·by_cases h2:n < m
  ·have:cmpI m n=1:=by rw [cmpI,if_neg h,if_pos h2]
   rw [this];simp [firstNZ];omega
  ·have h3:m=n:=by omega
   have:cmpI m n=0:=by rw [cmpI,if_neg h,if_neg h2]
   rw [this,firstNZ,if_pos rfl,firstNZ,firstNZ]
   by_cases h4:s=0
   ·rw [if_pos h4];omega
   ·rw [if_neg h4];omega
theorem swo_order:SWO (ltOf ordT) where
 irrefl:=fun x=>by
  rw [ltOf,decide_eq_false_iff_not,ordT,nz_lt,cmpS_self];omega
 trans:=fun x y z h k=>by
  rw [ltOf,decide_eq_true_eq,ordT,nz_lt] at *
  have h1:=cmpS_trans (a:=strT x) (b:=strT y) (c:=strT z)
  rcases h with h|⟨h,h2⟩
  ·left;omega
  ·rcases k with k|⟨k,k2⟩
   ·left;omega
   ·have:=h1 (by omega) (by omega)
    refine .inr ⟨by omega,?_⟩
    by_cases h0:cmpS (strT x) (strT z)=0
    ·have:=this.2 h0;omega
    ·omega
 ntrans:=fun x y z h k=>by
  rw [ltOf,decide_eq_false_iff_not,ordT,nz_lt] at *
  have h1:=cmpS_trans (a:=strT z) (b:=strT y) (c:=strT x)
  have n1:=cmpS_neg (strT x) (strT y)
  have n2:=cmpS_neg (strT y) (strT z)
  have n3:=cmpS_neg (strT x) (strT z)
  rintro (e|⟨e,e2⟩)
  ·omega
  ·have:=h1 (by omega) (by omega);omega
theorem cmpT_order:CmpT Tryz.prog 104 3 cardSh ordT:=by
 rintro t u vs us W ⟨s,n,r,ht⟩ ⟨s',n',r',hu⟩ hl hl' h h'
 obtain ⟨x,rfl⟩:=three_vals hl ht h
 obtain ⟨y,rfl⟩:=three_vals hl' hu h'
 subst ht;subst hu
 exact closure_order s s' n n' x y W
def sOfT:T→ByteArray
 | .sc (.string s)=>s
 | _=>⟨#[]⟩
def iOfT:T→Int
 | .sc (.int .i64 n)=>n
 | _=>0
def lOfT:T→List T
 | .sl _ es=>es
 | _=>[]
def cOfT:T→Cd
 | .ag [s,n,w]=>⟨sOfT s,iOfT n,(lOfT w).map sOfT⟩
 | _=>noCd
theorem cOfT_ok (c:Cd):cOfT (tcard c)=c:=by
 obtain ⟨s,n,w⟩:=c
 simp [tcard,cOfT,sOfT,iOfT,lOfT,List.map_map,Function.comp_def]
theorem perm_back {α:Type} {e:α→T} {d:T→α} (h:∀ x,d (e x)=x) {l:List α} {ts:List T} (hp:ts.Perm (l.map e)):∃ l':List α,l'.Perm l∧ts=l'.map e:=by
 refine ⟨ts.map d,?_,?_⟩
 ·have:=hp.map d
  rwa [List.map_map,show (d ∘ e)=id from funext h,List.map_id] at this
 ·rw [List.map_map]
  refine (List.map_id' ts).symm.trans (List.map_congr_left fun t ht=>?_)
  obtain ⟨x,_,rfl⟩:=List.mem_map.1 (hp.mem_iff.1 ht)
  simp [h]
theorem c_SortFunc_Card (g:Nat) (l:List Cd) (hl:l.length < 1000000000) :
  ACalls Tryz.prog 62 [.own 0 g 0 l.length,.fn 104 []] [.arr g 3 (vcards l)] (fun r h=>r=.tu []∧∃ l':List Cd,l'.Perm l∧l'.Pairwise (fun x y=>¬ ordC y x < 0)∧h=[.arr g 3 (vcards l')]):=by
 have eg:∀ args w,(callFunc 104 args).run Tryz.prog w=.ok (.enter 104 args) w:=enters_of Tryz.func104 (by kernel_rfl) rfl
 have key:=sortF_ok (H:=[.arr g 3 (vcards l)]) (b:=0) (g0:=g) (ts:=l.map tcard) Tryz.sortCard (f:=62) rfl k_slices_SortFunc_LCard_Card.callOk (by decide) Tryz.isAgg44 Tryz.sizeOf44 eg swo_order cmpT_order
  (fun t ht=>by obtain ⟨c,_,rfl⟩:=List.mem_map.1 ht;exact ⟨_,_,_,rfl⟩) (by simp;omega) (by simp [vcards,List.map_map,Function.comp_def])
 rw [List.length_map] at key
 refine key.mono ?_
 rintro r h ⟨rfl,ts',hp,hs,rfl⟩
 obtain ⟨l',hp',rfl⟩:=perm_back cOfT_ok hp
 refine ⟨rfl,l',hp',?_,by simp [vcards,List.map_map,Function.comp_def]⟩
 rw [List.pairwise_map] at hs
 exact hs
structure Tm where
 t:ByteArray
 p:List Po
 deriving DecidableEq
def tterm (x:Tm):T:=.ag [.s x.t,tposts x.p]
def tterms (l:List Tm):T:=.sl 2 (l.map tterm)
def terms (l:List Tm):V:=.g (.sl 2 (l.map tterm))
def pOfT:T→Po
 | .ag [d,a]=>(iOfT d,(lOfT a).map iOfT)
 | _=>(0,[])
def tOfT:T→Tm
 | .ag [s,p]=>⟨sOfT s,(lOfT p).map pOfT⟩
 | _=>⟨⟨#[]⟩,[]⟩
theorem pOfT_ok (p:Po):pOfT (tpost p)=p:=by
 obtain ⟨d,a⟩:=p
 simp [tpost,pOfT,tints,iOfT,lOfT,List.map_map,Function.comp_def]
theorem tOfT_ok (x:Tm):tOfT (tterm x)=x:=by
 obtain ⟨s,p⟩:=x
 have:(pOfT ∘ tpost)=id:=funext pOfT_ok
 simp [tterm,tOfT,tposts,sOfT,lOfT,List.map_map,this]
def vterms (l:List Tm):List V:=l.map fun c=>V.g (tterm c)
theorem c_SortFunc_Term (g:Nat) (l:List Tm) (hl:l.length < 1000000000) :
  ACalls Tryz.prog 168 [.own 0 g 0 l.length,.fn 169 []] [.arr g 2 (vterms l)] (fun r h=>r=.tu []∧∃ l':List Tm,l'.Perm l∧l'.Pairwise (fun x y=>¬ cmpS y.t x.t < 0)∧h=[.arr g 2 (vterms l')]):=by
 have eg:∀ args w,(callFunc 169 args).run Tryz.prog w=.ok (.enter 169 args) w:=enters_of Tryz.func169 (by kernel_rfl) rfl
 have key:=sortF_ok (H:=[.arr g 2 (vterms l)]) (b:=0) (g0:=g) (ts:=l.map tterm) Tryz.sortTerm (f:=168) rfl k_slices_SortFunc_LTerm_Term.callOk (by decide) Tryz.isAgg145 Tryz.sizeOf145 eg swo_terms cmpT_terms
  (fun t ht=>by obtain ⟨c,_,rfl⟩:=List.mem_map.1 ht;exact ⟨_,_,rfl⟩) (by simp;omega) (by simp [vterms,List.map_map,Function.comp_def])
 rw [List.length_map] at key
 refine key.mono ?_
 rintro r h ⟨rfl,ts',hp,hs,rfl⟩
 obtain ⟨l',hp',rfl⟩:=perm_back tOfT_ok hp
 refine ⟨rfl,l',hp',?_,by simp [vterms,List.map_map,Function.comp_def]⟩
 rw [List.pairwise_map] at hs
 exact hs
end Go.Aw
namespace Go.Aw
open Go.Proofs Go.Sort
set_option maxRecDepth 100000
set_option maxHeartbeats 4000000
def bndT (l:List Tm):Prop:=l.length < 1000000000∧∀ x∈l,x.p.length < 1000000000∧∀ p∈x.p,p.2.length < 1000000000
structure Sg where
 ids:List ByteArray
 keys:List Int
 lens:List Int
 terms:List Tm
 sorted:Bool
 deriving DecidableEq
def tseg (s:Sg):T:=.ag [.sl 1 (s.ids.map T.s),.sl 1 (s.keys.map T.i),.sl 1 (s.lens.map T.i),.sl 2 (s.terms.map tterm),.b s.sorted]
def bndS (s:Sg):Prop:=s.ids.length < 1000000000∧s.keys.length < 1000000000∧s.lens.length < 1000000000∧bndT s.terms
end Go.Aw
namespace Go.Aw
open Go.Proofs Go.Sort
set_option maxRecDepth 100000
set_option maxHeartbeats 4000000
def idxS (l:List ByteArray) (x:ByteArray):Int:=match l.findIdx? (· == x) with
 | some i=>i
 | none=>-1
theorem findIdx_step {α:Type} {q:α→Bool} {l:List α} {k:Nat} (hk:k < l.length) (h:∀ x∈l.take k,q x=false) :
  (q l[k]=true→l.findIdx? q=some k)∧(q l[k]=false→∀ x∈l.take (k+1),q x=false):=by
 constructor
 ·intro hq
  rw [List.findIdx?_eq_some_iff_getElem]
  refine ⟨hk,hq,fun j hj=>?_⟩
  have:=h l[j] (List.mem_iff_getElem.2 ⟨j,by simp;omega,by rw [List.getElem_take]⟩)
  simp [this]
 ·intro hq x hx
  rw [List.take_succ_eq_append_getElem hk,List.mem_append,List.mem_singleton] at hx
  rcases hx with hx|rfl
  ·exact h x hx
  ·exact hq
theorem findIdx_none {α:Type} {q:α→Bool} {l:List α} (h:∀ x∈l,q x=false):l.findIdx? q=none:=List.findIdx?_eq_none_iff.2 (fun x hx=>h x hx)
theorem c_slices_Index_str (l:List ByteArray) (x:ByteArray) (hl:l.length < 9223372036854775807):CG Tryz.prog 126 [tstrs l,.s x] (.i (idxS l x)):=by
 refine ⟨k_slices_Index_Lstring_string.calls ?_⟩
 have hma:(l.map T.s).length=l.length:=by simp
 try conv=>whnf
 refine SW.loopR (α:=Nat) (fun k=>tm 19 [(0,strs l),(1,.g (.s x)),(7,.g (.i l.length)),(8,.g (.i k))]) (fun _=>[]) (fun k=>k≤l.length∧∀ y∈l.take k,(y == x)=false) (fun k=>l.length-k) 0 ?_ ?_ ?_
 ·simp
 ·exact Refi.sub rfl (by simp [subT,subV,tm,tmGo,strs,tstrs])
 ·rintro k ⟨hk,he⟩
  dsimp only at hk he ⊢
  conv=>whnf
  refine Br.dec (fun h=>?_) (fun h=>?_)
  ·have hk':k < l.length:=by omega
   obtain ⟨f1,f2⟩:=findIdx_step hk' he
   (try conv=>whnf);repeat ((first|refine ⟨_,getZ (by omega),?_⟩|refine ⟨by omega,rfl,?_⟩);conv=>whnf)
   rw [bl_beq]
   refine Br.dec (fun h2=>?_) (fun h2=>?_)
   ·conv=>whnf
    have:=f1 (by rw [ba_beq];exact decide_eq_true h2.symm)
    rw [idxS,this]
    exact ⟨Ends.ground (H:=[]) (L:=[]) 0 rfl ⟨rfl,rfl⟩⟩
   ·(try conv=>whnf);repeat ((first|refine ⟨in64 (by omega) (by omega),?_⟩);conv=>whnf)
    exact ⟨⟨k+1,⟨hk',f2 (by rw [ba_beq];exact decide_eq_false fun e=>h2 e.symm)⟩,by omega,Refi.sub rfl (by simp [subT,subV,tm,tmGo,strs])⟩⟩
  ·have:k=l.length:=by omega
   subst this
   rw [List.take_length] at he
   conv=>whnf
   rw [idxS,findIdx_none he]
   exact ⟨Ends.ground (H:=[]) (L:=[]) 0 rfl ⟨rfl,rfl⟩⟩
theorem c_IndexFunc_str (l:List ByteArray) (hl:l.length < 9223372036854775807):ACalls Tryz.prog 218 [strs l,.fn 163 []] [] (fun r h=>(∃ n:Int,r=.g (.i n)∧(0≤n↔(l.all fun x=>fitsS x 32)=false))∧h=[]):=by
 refine k_slices_IndexFunc_Lstring_string.calls ?_
 have hma:(l.map T.s).length=l.length:=by simp
 try conv=>whnf
 refine SW.loopR (α:=Nat) (fun k=>tm 19 [(0,strs l),(1,.fn 163 []),(7,.g (.i l.length)),(8,.g (.i k))]) (fun _=>[]) (fun k=>k≤l.length∧∀ y∈l.take k,fitsS y 32=true) (fun k=>l.length-k) 0 ?_ ?_ ?_
 ·simp
 ·exact Refi.sub rfl (by simp [subT,subV,tm,tmGo,strs])
 ·rintro k ⟨hk,he⟩
  dsimp only at hk he ⊢
  conv=>whnf
  refine Br.dec (fun h=>?_) (fun h=>?_)
  ·have hk':k < l.length:=by omega
   (try conv=>whnf);repeat ((first|refine (c_seg_mayS1 l[k]).go rfl ?_|refine ⟨_,getZ (by omega),?_⟩|refine ⟨by omega,rfl,?_⟩);conv=>whnf)
   refine Br.not (fun h2=>?_) (fun h2=>?_)
   ·conv=>whnf
    refine ⟨Ends.ground (H:=[]) (L:=[]) 0 rfl ⟨⟨k,rfl,?_⟩,rfl⟩⟩
    rw [List.all_eq_false]
    exact ⟨fun _=>⟨l[k],List.getElem_mem _,by simp [h2]⟩,fun _=>by omega⟩
   ·(try conv=>whnf);repeat ((first|refine ⟨in64 (by omega) (by omega),?_⟩);conv=>whnf)
    refine ⟨⟨k+1,⟨hk',fun y hy=>?_⟩,by omega,Refi.sub rfl (by simp [subT,subV,tm,tmGo,strs])⟩⟩
    rw [List.take_succ_eq_append_getElem hk',List.mem_append,List.mem_singleton] at hy
    rcases hy with hy|rfl
    ·exact he y hy
    ·exact h2
  ·have:k=l.length:=by omega
   subst this
   rw [List.take_length] at he
   conv=>whnf
   refine ⟨Ends.ground (H:=[]) (L:=[]) 0 rfl ⟨⟨-1,rfl,?_⟩,rfl⟩⟩
   have:(l.all fun x=>fitsS x 32)=true:=List.all_eq_true.2 he
   rw [this];simp
theorem c_ContainsFunc_str (l:List ByteArray) (hl:l.length < 9223372036854775807):ACalls Tryz.prog 165 [strs l,.fn 163 []] [] (fun r h=>r=.g (.b (!l.all fun x=>fitsS x 32))∧h=[]):=by
 refine k_slices_ContainsFunc_Lstring_string.calls ?_
 try conv=>whnf
 refine (c_IndexFunc_str l hl).mono ?_
 rintro r h ⟨⟨n,rfl,hn⟩,rfl⟩
 conv=>whnf
 refine ⟨Ends.ground (H:=[]) (L:=[]) 0 rfl ⟨?_,rfl⟩⟩
 cases ha:l.all fun x=>fitsS x 32 with
 | true =>
  rw [ha] at hn
  have:¬ 0≤n:=fun h=>by cases hn.1 h
  rw [decide_eq_false (by omega)];rfl
 | false=>rw [decide_eq_true (hn.2 ha)];rfl
def mayC (c:Cd):Bool:=fitsS c.id 16 && (decide (0≤c.key) && (decide (c.key≤1073741824) && (decide (c.w.length≤120) && c.w.all fun x=>fitsS x 32)))
theorem c_seg_may (c:Cd) (hl:c.w.length < 9223372036854775807):CG Tryz.prog 103 [tcard c] (.b (mayC c)):=by
 refine ⟨k_seg_may.calls ?_⟩
 have hma:(c.w.map T.s).length=c.w.length:=by simp
 rw [mayC]
 (try conv=>whnf);repeat ((first|refine (c_seg_fits c.id 16).go rfl ?_|refine ⟨rfl,_,rfl,?_⟩|refine ⟨⟨rfl,rfl⟩,?_⟩);conv=>whnf)
 have no:∀ {x:Bool},x=false→Ends [] (fun r h=>r=V.g (T.b x)∧h=[]) (V.g (T.sc (Value.bool false))) [.arr 0 3 [.g (tcard c)]]:=fun {x} e=>by
  subst e;exact Ends.ground (H:=[]) (L:=[_]) 0 rfl ⟨rfl,rfl⟩
 refine Br.intro (fun e1=>?_) (fun e1=>?_)
 ·(try conv=>whnf);repeat ((first|refine ⟨rfl,_,rfl,?_⟩);conv=>whnf)
  refine Br.dec (fun e2=>?_) (fun e2=>?_)
  ·(try conv=>whnf);repeat ((first|refine ⟨rfl,_,rfl,?_⟩);conv=>whnf)
   refine Br.dec (fun e3=>?_) (fun e3=>?_)
   ·(try conv=>whnf);repeat ((first|refine ⟨rfl,_,rfl,?_⟩);conv=>whnf)
    refine Br.dec (fun e4=>?_) (fun e4=>?_)
    ·(try conv=>whnf);repeat ((first|refine ⟨rfl,_,rfl,?_⟩);conv=>whnf)
     refine ACalls.fl (c_ContainsFunc_str c.w hl) [] rfl rfl rfl flatH.nil (by rintro r h ⟨_,rfl⟩;exact flatH.nil) ?_
     rintro r h ⟨rfl,rfl⟩
     try conv=>whnf
     rw [e1,decide_eq_true (by omega:0≤c.key),decide_eq_true (by omega:c.key≤1073741824),decide_eq_true (by simp only [hma] at e4;omega:c.w.length≤120),Bool.not_not]
     exact ⟨Ends.ground (H:=[]) (L:=[_]) 0 rfl ⟨rfl,rfl⟩⟩
    ·try conv=>whnf
     exact ⟨no (by rw [decide_eq_false (by simp only [hma] at e4;omega:¬ c.w.length≤120)];simp)⟩
   ·try conv=>whnf
    exact ⟨no (by rw [decide_eq_false (by omega:¬ c.key≤1073741824)];simp)⟩
  ·try conv=>whnf
   exact ⟨no (by rw [decide_eq_false (by omega:¬ 0≤c.key)];simp)⟩
 ·try conv=>whnf
  exact ⟨no (by rw [e1];simp)⟩
theorem fits32 {s:ByteArray}:fitsS s 32=true↔1≤s.size∧s.size≤32:=by
 simp [fitsS];omega
end Go.Aw
namespace Go.Aw
open Go.Proofs Go.Sort
set_option maxRecDepth 100000
set_option maxHeartbeats 4000000
def bigB:Nat:=9223372036854775807
def addS:List ByteArray→ByteArray→List ByteArray
 | [],x=>[x]
 | y::r,x=>if ltB' y x=true then y::addS r x else if y=x then y::r else x::y::r
theorem gr_strs {n d b g len:Nat} {h:List Blk} {l:List ByteArray} (hb:h[b]?=some (.arr g 1 (l.map fun s=>V.g (T.s s)))) (hn:n≤b) (hl:len=l.length):gr n h (d+1) (.own b g 0 len)=some (tstrs l) :=
 gr_own hb hn hl fun _ _=>gr_g
end Go.Aw
namespace Go.Aw
open Go.Proofs Go.Sort
set_option maxRecDepth 100000
set_option maxHeartbeats 4000000
def plc (ws:List ByteArray) (x:ByteArray):List Int:=(ws.zipIdx.filter fun p=>decide (p.1=x)).map fun p=>(p.2:Int)
theorem plc_app (ws:List ByteArray) (y x:ByteArray):plc (ws++[y]) x=plc ws x++if y=x then [(ws.length:Int)] else []:=by
 simp only [plc,List.zipIdx_append,List.filter_append,List.map_append]
 congr 1
 by_cases h:y=x <;> simp [h]
theorem plc_len {ws:List ByteArray} {x:ByteArray}:(plc ws x).length≤ws.length:=by
 have:=List.length_filter_le (fun p:ByteArray×Nat=>decide (p.1=x)) ws.zipIdx
 simpa [plc] using this
def pst (ls:List (List ByteArray)) (x:ByteArray):List Po:=ls.zipIdx.filterMap fun p=>if plc p.1 x=[] then none else some ((p.2:Int),plc p.1 x)
theorem pst_app (ls:List (List ByteArray)) (ws:List ByteArray) (x:ByteArray):pst (ls++[ws]) x=pst ls x++if plc ws x=[] then [] else [((ls.length:Int),plc ws x)]:=by
 simp only [pst,List.zipIdx_append,List.filterMap_append]
 congr 1
 by_cases h:plc ws x=[] <;> simp [h]
theorem pst_succ {ls:List (List ByteArray)} {x:ByteArray} {k:Nat} (h:k < ls.length):pst (ls.take (k+1)) x=pst (ls.take k) x++if plc ls[k] x=[] then [] else [((k:Int),plc ls[k] x)]:=by
 rw [List.take_succ_eq_append_getElem h,pst_app]
 have:(ls.take k).length=k:=by simp;omega
 rw [this]
theorem pst_len {ls:List (List ByteArray)} {x:ByteArray}:(pst ls x).length≤ls.length:=by
 have:=List.length_filterMap_le (fun p:List ByteArray×Nat=>if plc p.1 x=[] then none else some ((p.2:Int),plc p.1 x)) ls.zipIdx
 simpa [pst] using this
def vposts (l:List Po):List V:=l.map fun p=>V.g (tpost p)
def insC:List Cd→Cd→List Cd
 | [],c=>[c]
 | y::r,c=>if befC y c=true then y::insC r c else c::y::r
def inC (l:List Cd):List Cd:=l.foldl insC []
theorem insC_mem:∀ {l:List Cd} {c x:Cd},x∈insC l c↔x∈l∨x=c
 | [],_,_=>by simp [insC]
 | y::r,c,x=>by
  have ih:=insC_mem (l:=r) (c:=c) (x:=x)
  unfold insC;split
  ·simp [ih,or_assoc]
  ·simp [or_comm,or_left_comm]
theorem gr_vcards {n d b g len:Nat} {h:List Blk} {l:List Cd} (hb:h[b]?=some (.arr g 3 (vcards l))) (hn:n≤b) (hl:len=l.length):gr n h (d+1) (.own b g 0 len)=some (tcards l) :=
 gr_own hb hn hl fun _ _=>gr_g
end Go.Aw
