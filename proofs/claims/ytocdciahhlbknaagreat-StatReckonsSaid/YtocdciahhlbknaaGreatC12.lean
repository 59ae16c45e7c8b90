/- Contracts of functions of the given program, by the abstract walk, for law StatReckons: what each one hands back; no condition but those that each theorem states. -/
import Derived.Test.YtocdciahhlbknaaGreatC0
import Derived.Test.YtocdciahhlbknaaGreatL2
import Derived.Test.YtocdciahhlbknaaGreatP1
namespace Go.Aw
open Go.Proofs
set_option maxRecDepth 100000
set_option maxHeartbeats 4000000
def cmpS (a b:ByteArray):Int:=Lib.compareBytes a.data.toList b.data.toList
def ltB' (a b:ByteArray):Bool:=decide (cmpS a b < 0)
theorem u8_lt {a b:UInt8}:a < b↔a.toNat < b.toNat:=UInt8.lt_iff_toNat_lt
theorem u8_eq {a b:UInt8}:a=b↔a.toNat=b.toNat:=UInt8.toNat_inj.symm
theorem cmpL_neg:∀ (a b:List UInt8),Lib.compareBytes b a=- Lib.compareBytes a b
  | [],[]=>rfl
  | [],_::_=>rfl
  | _::_,[]=>rfl
  | a::a2,b::bs=>by
    have ih:=cmpL_neg a2 bs
    simp only [Lib.compareBytes]
    by_cases h1:a < b
    · have h2:¬ b < a:=by rw [u8_lt] at *;omega
      rw [if_pos h1,if_neg h2,if_pos h1];rfl
    · rw [if_neg h1]
      by_cases h2:b < a
      · rw [if_pos h2,if_pos h2,if_neg h1]
      · rw [if_neg h2,if_neg h2,if_neg h1,ih]
theorem cmpL_zero:∀ {a b:List UInt8},Lib.compareBytes a b=0↔a=b
  | [],[]=>by simp [Lib.compareBytes]
  | [],_::_=>by simp [Lib.compareBytes]
  | _::_,[]=>by simp [Lib.compareBytes]
  | a::a2,b::bs=>by
    simp only [Lib.compareBytes,List.cons.injEq]
    by_cases h1:a < b
    · rw [if_pos h1]
      refine ⟨fun h=>by omega,fun h=>?_⟩
      rw [u8_lt,h.1] at h1;omega
    · rw [if_neg h1]
      by_cases h2:b < a
      · rw [if_pos h2]
        refine ⟨fun h=>by omega,fun h=>?_⟩
        rw [u8_lt,h.1] at h2;omega
      · rw [if_neg h2,cmpL_zero]
        have:a=b:=by rw [u8_eq];rw [u8_lt] at h1 h2;omega
        simp [this]
theorem cmpL_trans:∀ {a b c:List UInt8},Lib.compareBytes a b≤0→Lib.compareBytes b c≤0→Lib.compareBytes a c≤0∧(Lib.compareBytes a c=0→Lib.compareBytes a b=0∧Lib.compareBytes b c=0)
  | [],[],[],_,_=>by simp [Lib.compareBytes]
  | [],[],_::_,_,_=>by simp [Lib.compareBytes]
  | [],_::_,[],_,h=>by simp [Lib.compareBytes] at h
  | [],_::_,_::_,_,_=>by simp [Lib.compareBytes]
  | _::_,[],_,h,_=>by simp [Lib.compareBytes] at h
  | _::_,_::_,[],_,h=>by simp [Lib.compareBytes] at h
  | a::a2,b::bs,c::cs,h,k=>by
    simp only [Lib.compareBytes] at h k ⊢
    by_cases h1:a < b
    · by_cases h2:b < c
      · have:a < c:=by rw [u8_lt] at *;omega
        rw [if_pos this];exact ⟨by omega,fun e=>by omega⟩
      · rw [if_neg h2] at k
        by_cases h3:c < b
        · rw [if_pos h3] at k;omega
        · have:a < c:=by rw [u8_lt] at *;omega
          rw [if_pos this];exact ⟨by omega,fun e=>by omega⟩
    · rw [if_neg h1] at h ⊢
      by_cases h2:b < a
      · rw [if_pos h2] at h;omega
      · rw [if_neg h2] at h ⊢
        have hab:a=b:=by rw [u8_eq];rw [u8_lt] at h1 h2;omega
        subst hab
        by_cases h3:a < c
        · rw [if_pos h3];exact ⟨by omega,fun e=>by omega⟩
        · rw [if_neg h3] at k ⊢
          by_cases h4:c < a
          · rw [if_pos h4] at k;omega
          · rw [if_neg h4] at k ⊢
            rw [if_neg h3,if_neg h4]
            exact cmpL_trans h k
theorem cmpS_neg (a b:ByteArray):cmpS b a=- cmpS a b:=cmpL_neg _ _
theorem ba_ext {a b:ByteArray} (h:a.data.toList=b.data.toList):a=b:=by
  obtain ⟨⟨x⟩⟩:=a;obtain ⟨⟨y⟩⟩:=b;simp at h;rw [h]
theorem cmpS_zero {a b:ByteArray}:cmpS a b=0↔a=b:=by
  rw [cmpS,cmpL_zero];exact ⟨ba_ext,fun h=>by rw [h]⟩
theorem cmpS_self (a:ByteArray):cmpS a a=0:=cmpS_zero.2 rfl
theorem cmpS_trans {a b c:ByteArray} (h:cmpS a b≤0) (k:cmpS b c≤0):cmpS a c≤0∧(cmpS a c=0→cmpS a b=0∧cmpS b c=0):=cmpL_trans h k
theorem bl_beq (a b:ByteArray):(a.toList == b.toList)=decide (a=b):=by
  rw [ByteArray.toList_eq,ByteArray.toList_eq]
  by_cases h:a=b
  · subst h;simp
  · rw [decide_eq_false h,beq_eq_false_iff_ne];exact fun e=>h (ba_ext e)
theorem ba_beq (a b:ByteArray):(a == b)=decide (a=b):=by
  by_cases h:a=b
  · subst h;rw [decide_eq_true rfl]
    obtain ⟨⟨x⟩⟩:=a
    show ((⟨x⟩:Array UInt8) == ⟨x⟩)=true
    simp
  · rw [decide_eq_false h]
    cases hh:(a == b) with
    | false=>rfl
    | true=>exact absurd (bytes_eq hh) h
theorem c_strings_Compare (a b:ByteArray):CG Tryz.prog 64 [.s a,.s b] (.i (cmpS a b)):=by
  refine ⟨⟨k_strings_Compare.callOk,fun γ I w vs r hl hv=>?_⟩⟩
  obtain ⟨x,y,rfl⟩:∃ x y,vs=[x,y]:=by
    match vs,hl with
    | [x,y],_=>exact ⟨x,y,rfl⟩
  have hx:=hv 0 _ rfl
  have hy:=hv 1 _ rfl
  simp only [List.getD_eq_getElem?_getD,List.getElem?_cons_zero,List.getElem?_cons_succ,Option.getD_some] at hx hy
  have:=rv_sc hx;subst this
  have:=rv_sc hy;subst this
  refine (Tryz.strings_Compare a b w).mono ?_
  rintro e w' ⟨rfl,rfl⟩
  exact ⟨_,_,[],γ,I,rfl,⟨rfl,rfl⟩,r,.g (.sc rfl),Ext.refl ..⟩
def cmpI (x y:Int):Int:=if x < y then -1 else if y < x then 1 else 0
theorem c_cmp_isNaN (x:Int):CG Tryz.prog 219 [.i x] (.b false):=by
  refine ⟨k_cmp_isNaN_int.calls ?_⟩
  conv=>whnf
  rw [show (x != x)=false from by simp]
  exact ⟨Ends.ground (H:=[]) (L:=[]) 0 rfl ⟨rfl,rfl⟩⟩
theorem c_cmp_Compare (x y:Int):CG Tryz.prog 167 [.i x,.i y] (.i (cmpI x y)):=by
  refine ⟨k_cmp_Compare_int.calls ?_⟩
  (try conv=>whnf);repeat ((first|refine (c_cmp_isNaN x).go rfl ?_|refine (c_cmp_isNaN y).go rfl ?_);conv=>whnf)
  refine Br.dec (fun h=>?_) (fun h=>?_)
  · conv=>whnf
    rw [cmpI,if_pos h]
    exact ⟨Ends.ground (H:=[]) (L:=[]) 0 rfl ⟨rfl,rfl⟩⟩
  · conv=>whnf
    refine Br.dec (fun h2=>?_) (fun h2=>?_)
    · conv=>whnf
      rw [cmpI,if_neg h,if_pos h2]
      exact ⟨Ends.ground (H:=[]) (L:=[]) 0 rfl ⟨rfl,rfl⟩⟩
    · conv=>whnf
      rw [cmpI,if_neg h,if_neg h2]
      exact ⟨Ends.ground (H:=[]) (L:=[]) 0 rfl ⟨rfl,rfl⟩⟩
def firstNZ:List Int→Int
  | []=>0
  | x::xs=>if x=0 then firstNZ xs else x
theorem c_cmp_Or (xs:List Int) (hl:xs.length < 1000000000):CG Tryz.prog 166 [tints xs] (.i (firstNZ xs)):=by
  refine ⟨k_cmp_Or_int.calls ?_⟩
  have hm:(xs.map T.i).length=xs.length:=by simp
  try conv=>whnf
  refine SW.loopR (α:=Nat) (fun k=>tm 18 [(0,ints xs),(3,.g (.i 0)),(6,ints xs),(7,.g (.i xs.length)),(8,.g (.i k))]) (fun _=>[]) (fun k=>k≤xs.length∧firstNZ xs=firstNZ (xs.drop k)) (fun k=>xs.length-k) 0 ?_ ?_ ?_
  · simp
  · exact Refi.sub rfl (by simp [subT,subV,tm,tmGo,ints,tints])
  · rintro k ⟨hk,ho⟩
    dsimp only at hk ho ⊢
    conv=>whnf
    refine Br.dec (fun h=>?_) (fun h=>?_)
    · have hk':k < xs.length:=by omega
      rw [List.drop_eq_getElem_cons hk',firstNZ] at ho
      (try conv=>whnf);repeat ((first|refine ⟨_,getZ (by omega),?_⟩|refine ⟨by omega,rfl,?_⟩);conv=>whnf)
      refine Br.ne (fun h2=>?_) (fun h2=>?_)
      · rw [if_neg h2] at ho
        conv=>whnf
        rw [ho]
        exact ⟨Ends.ground (H:=[]) (L:=[]) 0 rfl ⟨rfl,rfl⟩⟩
      · rw [if_pos h2] at ho
        (try conv=>whnf);repeat ((first|refine ⟨in64 (by omega) (by omega),?_⟩);conv=>whnf)
        exact ⟨⟨k+1,⟨hk',ho⟩,by omega,Refi.sub rfl (by simp [subT,subV,tm,tmGo,ints])⟩⟩
    · have:k=xs.length:=by omega
      subst this
      rw [List.drop_length] at ho
      conv=>whnf
      rw [ho]
      exact ⟨Ends.ground (H:=[]) (L:=[]) 0 rfl ⟨rfl,rfl⟩⟩
structure Cd where
  id:ByteArray
  key:Int
  w:List ByteArray
  deriving DecidableEq
def tstrs (l:List ByteArray):T:=.sl 1 (l.map T.s)
def strs (l:List ByteArray):V:=.g (.sl 1 (l.map T.s))
def tcard (c:Cd):T:=.ag [.s c.id,.i c.key,.sl 1 (c.w.map T.s)]
def tcards (l:List Cd):T:=.sl 3 (l.map tcard)
def cards (l:List Cd):V:=.g (.sl 3 (l.map tcard))
def ordC (a b:Cd):Int:=firstNZ [cmpI a.key b.key,cmpS a.id b.id]
def befC (a b:Cd):Bool:=decide (ordC a b < 0)
theorem c_seg_order (a b:Cd):CG Tryz.prog 104 [tcard a,tcard b] (.i (ordC a b)):=by
  refine ⟨k_seg_order.calls ?_⟩
  (try conv=>whnf);repeat ((first|refine ⟨_,(c_cmp_Compare a.key b.key).go rfl ⟨rfl,rfl⟩,?_⟩|refine ⟨_,(c_strings_Compare a.id b.id).go rfl ⟨rfl,rfl⟩,?_⟩|refine ⟨_,(c_cmp_Or [cmpI a.key b.key,cmpS a.id b.id] (by simp)).go rfl ⟨rfl,rfl⟩,?_⟩|refine And.intro (show cellsAll _ _ from by repeat (first|exact trivial|refine ⟨⟨rfl,rfl⟩,?_⟩)) ?_|refine ⟨rfl,_,rfl,?_⟩|refine ⟨⟨rfl,rfl⟩,?_⟩);conv=>whnf)
  exact ⟨Ends.ground (H:=[]) (L:=[_,_]) 0 rfl ⟨rfl,rfl⟩⟩
theorem c_seg_Before (a b:Cd):CG Tryz.prog 187 [tcard a,tcard b] (.b (befC a b)):=by
  refine ⟨k_seg_Before.calls ?_⟩
  (try conv=>whnf);repeat ((first|refine (c_seg_order a b).go rfl ?_|refine ⟨rfl,_,rfl,?_⟩|refine ⟨⟨rfl,rfl⟩,?_⟩);conv=>whnf)
  exact ⟨Ends.ground (H:=[]) (L:=[_,_]) 0 rfl ⟨rfl,rfl⟩⟩
theorem c_seg_BuildS1 (a b:Cd):CG Tryz.prog 102 [tcard a,tcard b] (.i (cmpS a.id b.id)):=by
  refine ⟨k_seg_BuildS1.calls ?_⟩
  (try conv=>whnf);repeat ((first|refine (c_strings_Compare a.id b.id).go rfl ?_|refine ⟨rfl,_,rfl,?_⟩|refine ⟨⟨rfl,rfl⟩,?_⟩);conv=>whnf)
  exact ⟨Ends.ground (H:=[]) (L:=[_,_]) 0 rfl ⟨rfl,rfl⟩⟩
def fitsS (s:ByteArray) (most:Int):Bool:=decide (0 < s.size) && decide ((s.size:Int)≤most)
theorem c_seg_fits (s:ByteArray) (most:Int):CG Tryz.prog 164 [.s s,.i most] (.b (fitsS s most)):=by
  refine ⟨k_seg_fits.calls ?_⟩
  try conv=>whnf
  refine Br.dec (fun h=>?_) (fun h=>?_)
  · try conv=>whnf
    rw [fitsS,decide_eq_true (by omega)]
    exact ⟨Ends.ground (H:=[]) (L:=[]) 0 rfl ⟨rfl,rfl⟩⟩
  · try conv=>whnf
    rw [fitsS,decide_eq_false (by omega)]
    exact ⟨Ends.ground (H:=[]) (L:=[]) 0 rfl ⟨rfl,rfl⟩⟩
theorem c_seg_mayS1 (s:ByteArray):CG Tryz.prog 163 [.s s] (.b (!fitsS s 32)):=by
  refine ⟨k_seg_mayS1.calls ?_⟩
  (try conv=>whnf);repeat ((first|refine (c_seg_fits s 32).go rfl ?_);conv=>whnf)
  exact ⟨Ends.ground (H:=[]) (L:=[]) 0 rfl ⟨rfl,rfl⟩⟩
end Go.Aw
namespace Go.Aw
open Go.Proofs Go.Sort
set_option maxRecDepth 100000
set_option maxHeartbeats 4000000
def rowF (n:Nat) (f:Nat→Cd):List V:=(List.range n).map fun k=>V.g (tcard (f k))
theorem rowF_len {n:Nat} {f:Nat→Cd}:(rowF n f).length=n:=by simp [rowF]
theorem getF {n:Nat} {f:Nat→Cd} {i:Int} (k:Nat) (e:i=(k:Int)) (h:k < n):(rowF n f)[0+i.toNat]?=some (V.g (tcard (f k))):=by
  subst e;simp [rowF,h]
theorem setF {n:Nat} {f:Nat→Cd} {i:Int} {a b:Cd} (p:Nat) (e:i=(p:Int)) (h:p < n):(rowF n f).set (0+i.toNat) (storeV (V.g (tcard a)) 0 (V.g (.ag [.s b.id,.i b.key,.sl 1 (b.w.map T.s)])))=rowF n (updF f p b):=by
  show (rowF n f).set (0+i.toNat) (storeV (V.g (tcard a)) 0 (V.g (tcard b)))=_
  subst e
  have hs:storeV (V.g (tcard a)) 0 (V.g (tcard b))=V.g (tcard b):=by unfold storeV;rw [if_pos ⟨rfl,rfl⟩]
  rw [hs]
  refine List.ext_getElem? fun j=>?_
  rw [List.getElem?_set]
  by_cases hj:j < n
  · by_cases hp:p=j
    · subst hp;simp [rowF,updF,h]
    · have:¬ (0+(p:Int).toNat)=j:=by omega
      have hp':¬ j=p:=fun e=>hp e.symm
      simp [rowF,updF,hj,hp,hp']
  · have h1:(rowF n (updF f p b))[j]?=none:=List.getElem?_eq_none (by rw [rowF_len];omega)
    have h2:(rowF n f)[j]?=none:=List.getElem?_eq_none (by rw [rowF_len];omega)
    rw [h1,h2]
    split
    · rw [if_neg (by rw [rowF_len];omega)]
    · rfl
theorem st_swapRange (fn g n:Nat) (f:Nat→Cd) (a b m:Nat) {A B M:Int} (hA:A=a) (hB:B=b) (hM:M=m) (hab:a+m≤b) (hb:b+m≤n) (hn:n < 1000000000) :
    ACalls Tryz.prog 290 [.own 0 g 0 n,.g (.i A),.g (.i B),.g (.i M),.fn fn []] [.arr g 3 (rowF n f)] (fun r h=>r=.tu []∧h=[.arr g 3 (rowF n (exF f a b m))]):=by
  subst hA;subst hB;subst hM
  refine k_slices_swapRangeCmpFunc_Card.calls ?_
  try conv=>whnf
  refine SW.loopR (α:=Nat) (fun i=>tm 38 [(0,.own 0 g 0 n),(1,.g (.i a)),(2,.g (.i b)),(3,.g (.i m)),(4,.fn fn []),(10,.g (.i i))]) (fun i=>[.arr g 3 (rowF n (exF f a b i))]) (fun i=>i≤m) (fun i=>m-i) 0 ?_ ?_ ?_
  · exact Nat.zero_le _
  · exact Refi.sub (by rw [exF_zero]) (by simp [subT,subV,tm,tmGo])
  · intro i hi
    dsimp only at hi ⊢
    conv=>whnf
    refine Br.dec (fun h=>?_) (fun h=>?_)
    · have hi':i < m:=by omega
      (try conv=>whnf);repeat ((first|(refine ⟨rfl,_,getF (a+i) (by omega) (by omega),⟨rfl,rfl,by decide⟩,?_⟩;rw [setF (a+i) (by omega) (by omega)])|(refine ⟨rfl,_,getF (b+i) (by omega) (by omega),⟨rfl,rfl,by decide⟩,?_⟩;rw [setF (b+i) (by omega) (by omega)])|refine ⟨rfl,_,getF (b+i) (by omega) (by omega),?_⟩|refine ⟨rfl,_,getF (a+i) (by omega) (by omega),?_⟩|refine ⟨⟨by omega,by omega⟩,⟨rfl,rfl⟩,?_⟩|refine ⟨in64 (by omega) (by omega),?_⟩);conv=>whnf)
      refine ⟨⟨i+1,hi',by omega,Refi.sub ?_ (by simp [subT,subV,tm,tmGo])⟩⟩
      rw [← exF_succ f a b m i hab hi'];rfl
    · have:i=m:=by omega
      subst this
      conv=>whnf
      exact ⟨Ends.keep ⟨rfl,rfl⟩⟩
theorem st_rotate (fn g n:Nat) (f:Nat→Cd) (a m b:Nat) {A M B:Int} (hA:A=a) (hM:M=m) (hB:B=b) (ham:a < m) (hmb:m < b) (hb:b≤n) (hn:n < 1000000000) :
    ACalls Tryz.prog 260 [.own 0 g 0 n,.g (.i A),.g (.i M),.g (.i B),.fn fn []] [.arr g 3 (rowF n f)] (fun r h=>r=.tu []∧h=[.arr g 3 (rowF n (rotF f a m b))]):=by
  subst hA;subst hM;subst hB
  refine k_slices_rotateCmpFunc_Card.calls ?_
  (try conv=>whnf);repeat ((first|refine ⟨in64 (by omega) (by omega),?_⟩);conv=>whnf)
  refine SW.loopR (α:=Nat×Nat×(Nat→Cd)) (fun s=>tm 58 [(0,.own 0 g 0 n),(1,.g (.i a)),(2,.g (.i m)),(3,.g (.i b)),(4,.fn fn []),(10,.g (.i s.1)),(11,.g (.i s.2.1))]) (fun s=>[.arr g 3 (rowF n s.2.2)]) (fun s=>0 < s.1∧0 < s.2.1∧s.1≤m∧m+s.2.1≤n∧rotF s.2.2 (m-s.1) m (m+s.2.1)=rotF f a m b) (fun s=>s.1+s.2.1) (m-a,b-m,f) ?_ ?_ ?_
  · refine ⟨by dsimp only;omega,by dsimp only;omega,by dsimp only;omega,by dsimp only;omega,?_⟩
    dsimp only
    rw [show m-(m-a)=a from by omega,show m+(b-m)=b from by omega]
  · refine Refi.sub rfl ?_
    have e1:((m-a:Nat):Int)=(m:Int)-a:=by omega
    have e2:((b-m:Nat):Int)=(b:Int)-m:=by omega
    simp [subT,subV,tm,tmGo,e1,e2]
  · rintro ⟨i,j,F⟩ ⟨hi,hj,him,hjn,hrot⟩
    dsimp only at hi hj him hjn hrot ⊢
    conv=>whnf
    refine Br.ne (fun h=>?_) (fun h=>?_)
    · try conv=>whnf
      refine Br.dec (fun h2=>?_) (fun h2=>?_)
      · (try conv=>whnf);repeat ((first|refine ⟨in64 (by omega) (by omega),?_⟩);conv=>whnf)
        refine (st_swapRange fn g n F (m-i) m j (by omega) rfl rfl (by omega) (by omega) hn).mono ?_
        rintro r h ⟨rfl,rfl⟩
        (try conv=>whnf);repeat ((first|refine ⟨in64 (by omega) (by omega),?_⟩);conv=>whnf)
        refine ⟨⟨(i-j,j,exF F (m-i) m j),⟨by dsimp only;omega,hj,by dsimp only;omega,hjn,?_⟩,by dsimp only;omega,Refi.sub rfl ?_⟩⟩
        · dsimp only;rw [rot_gt F m i j him (by omega)];exact hrot
        · have e1:((i-j:Nat):Int)=(i:Int)-j:=by omega
          simp [subT,subV,tm,tmGo,e1]
      · (try conv=>whnf);repeat ((first|refine ⟨in64 (by omega) (by omega),?_⟩);conv=>whnf)
        refine (st_swapRange fn g n F (m-i) (m+j-i) i (by omega) (by omega) rfl (by omega) (by omega) hn).mono ?_
        rintro r h ⟨rfl,rfl⟩
        (try conv=>whnf);repeat ((first|refine ⟨in64 (by omega) (by omega),?_⟩);conv=>whnf)
        refine ⟨⟨(i,j-i,exF F (m-i) (m+j-i) i),⟨hi,by dsimp only;omega,him,by dsimp only;omega,?_⟩,by dsimp only;omega,Refi.sub rfl ?_⟩⟩
        · dsimp only;rw [rot_lt F m i j him (by omega)];exact hrot
        · have e1:((j-i:Nat):Int)=(j:Int)-i:=by omega
          simp [subT,subV,tm,tmGo,e1]
    · have:i=j:=by omega
      subst this
      (try conv=>whnf);repeat ((first|refine ⟨in64 (by omega) (by omega),?_⟩);conv=>whnf)
      refine (st_swapRange fn g n F (m-i) m i (by omega) rfl rfl (by omega) (by omega) hn).mono ?_
      rintro r h ⟨rfl,rfl⟩
      try conv=>whnf
      refine ⟨Ends.keep ⟨rfl,?_⟩⟩
      rw [rot_eq F m i him,hrot]
def ltC (cf:Cd→Cd→Int) (x y:Cd):Bool:=decide (cf x y < 0)
theorem st_insertion (fn g n:Nat) (cf:Cd→Cd→Int) (hc:∀ x y,CG Tryz.prog fn [tcard x,tcard y] (.i (cf x y))) (hO:SWO (ltC cf)) (f:Nat→Cd) (a b:Nat) {A B:Int} (hA:A=a) (hB:B=b) (hab:a≤b) (hb:b≤n) (hn:n < 1000000000) :
    ACalls Tryz.prog 189 [.own 0 g 0 n,.g (.i A),.g (.i B),.fn fn []] [.arr g 3 (rowF n f)] (fun r h=>r=.tu []∧∃ f',locP a b f f'∧srt (ltC cf) f' a b∧h=[.arr g 3 (rowF n f')]):=by
  subst hA;subst hB
  refine k_slices_insertionSortCmpFunc_Card.calls ?_
  (try conv=>whnf);repeat ((first|refine ⟨in64 (by omega) (by omega),?_⟩);conv=>whnf)
  refine SW.loopR (α:=Nat×(Nat→Cd)) (fun s=>tm 53 [(0,.own 0 g 0 n),(1,.g (.i a)),(2,.g (.i b)),(3,.fn fn []),(8,.g (.i s.1))]) (fun s=>[.arr g 3 (rowF n s.2)]) (fun s=>a+1≤s.1∧(s.1≤b∨s.1=a+1)∧locP a b f s.2∧srt (ltC cf) s.2 a s.1) (fun s=>b-s.1) (a+1,f) ?_ ?_ ?_
  · exact ⟨Nat.le_refl _,.inr rfl,.refl _ _ _,fun i j x y z=>by dsimp only at z;omega⟩
  · exact Refi.sub rfl (by simp [subT,subV,tm,tmGo])
  · rintro ⟨i,F⟩ ⟨hi,hib,hl,hs⟩
    dsimp only at hi hib hl hs ⊢
    conv=>whnf
    refine Br.dec (fun h=>?_) (fun h=>?_)
    · have hi':i < b:=by omega
      try conv=>whnf
      refine SW.loopR (α:=Nat×(Nat→Cd)) (fun s=>tm 53 [(0,.own 0 g 0 n),(1,.g (.i a)),(2,.g (.i b)),(3,.fn fn []),(8,.g (.i i)),(9,.g (.i s.1))]) (fun s=>[.arr g 3 (rowF n s.2)])
        (fun s=>a≤s.1∧s.1≤i∧locP a b f s.2∧(∀ p q,a≤p→p < q→q≤i→p≠s.1→q≠s.1→ltC cf (s.2 q) (s.2 p)=false)∧(∀ q,s.1 < q→q≤i→ltC cf (s.2 q) (s.2 s.1)=false)) (fun s=>s.1) (i,F) ?_ ?_ ?_
      · exact ⟨by dsimp only;omega,Nat.le_refl _,hl,fun p q x y z u v=>hs p q x y (by dsimp only at v;omega),fun q x y=>by dsimp only at x;omega⟩
      · exact Refi.sub rfl (by simp [subT,subV,tm,tmGo])
      · rintro ⟨j,G⟩ ⟨hj,hji,hlG,hp,hq⟩
        dsimp only at hj hji hlG hp hq ⊢
        have fin:(j=a∨ltC cf (G j) (G (j-1))=false)→srt (ltC cf) G a (i+1):=fun h p q x y z=>by
          by_cases h1:p=j
          · subst h1;exact hq q y (by omega)
          · by_cases h2:q=j
            · subst h2
              rcases h with h|h
              · omega
              · by_cases h3:p=q-1
                · subst h3;exact h
                · exact hO.ntrans _ _ _ h (hp p (q-1) x (by omega) (by omega) h1 (by omega))
            · exact hp p q x y (by omega) h1 h2
        conv=>whnf
        refine Br.dec (fun h1=>?_) (fun h1=>?_)
        · (try conv=>whnf);repeat ((first|refine ⟨rfl,_,getF j (by omega) (by omega),?_⟩|refine ⟨rfl,_,getF (j-1) (by omega) (by omega),?_⟩|refine (hc (G j) (G (j-1))).go rfl ?_|refine ⟨⟨by omega,by omega⟩,⟨rfl,rfl⟩,?_⟩|refine ⟨in64 (by omega) (by omega),?_⟩);conv=>whnf)
          refine Br.dec (fun h2=>?_) (fun h2=>?_)
          · (try conv=>whnf);repeat ((first|(refine ⟨rfl,_,getF j (by omega) (by omega),⟨rfl,rfl,by decide⟩,?_⟩;rw [setF j (by omega) (by omega)])|(refine ⟨rfl,_,getF (j-1) (by omega) (by omega),⟨rfl,rfl,by decide⟩,?_⟩;rw [setF (j-1) (by omega) (by omega)])|refine ⟨rfl,_,getF j (by omega) (by omega),?_⟩|refine ⟨rfl,_,getF (j-1) (by omega) (by omega),?_⟩|refine ⟨⟨by omega,by omega⟩,⟨rfl,rfl⟩,?_⟩|refine ⟨in64 (by omega) (by omega),?_⟩);conv=>whnf)
            have hlt:ltC cf (G j) (G (j-1))=true:=decide_eq_true h2
            have e1:swpF G j (j-1) j=G (j-1):=by simp only [swpF,updF];rw [if_neg (by omega),if_pos trivial]
            have e2:swpF G j (j-1) (j-1)=G j:=by simp only [swpF,updF];rw [if_pos trivial]
            have e3:∀ k,k≠j→k≠j-1→swpF G j (j-1) k=G k:=fun k x y=>by simp only [swpF,updF];rw [if_neg y,if_neg x]
            refine ⟨⟨(j-1,swpF G j (j-1)),⟨by dsimp only;omega,by dsimp only;omega,hlG.trans (.swp G (by omega) (by omega) (by omega) (by omega)),fun p q x y z u v=>?_,fun q x y=>?_⟩,by dsimp only;omega,Refi.sub rfl ?_⟩⟩
            · dsimp only at u v ⊢
              by_cases h3:p=j
              · subst h3
                rw [e1,e3 q (by omega) (by omega)]
                exact hp (p-1) q (by omega) (by omega) z (by omega) (by omega)
              · by_cases h4:q=j
                · subst h4
                  rw [e1,e3 p h3 u]
                  exact hp p (q-1) x (by omega) (by omega) h3 (by omega)
                · rw [e3 p h3 u,e3 q h4 v];exact hp p q x y z h3 h4
            · dsimp only at x ⊢
              rw [e2]
              by_cases h3:q=j
              · subst h3;rw [e1];exact swo_asym hO hlt
              · rw [e3 q h3 (by omega)];exact hq q (by omega) y
            · have e4:((j-1:Nat):Int)=(j:Int)-1:=by omega
              simp [subT,subV,tm,tmGo,e4]
          · (try conv=>whnf);repeat ((first|refine ⟨in64 (by omega) (by omega),?_⟩);conv=>whnf)
            refine ⟨⟨(i+1,G),⟨by dsimp only;omega,.inl (by dsimp only;omega),hlG,fin (.inr (decide_eq_false h2))⟩,by dsimp only;omega,Refi.sub rfl (by simp [subT,subV,tm,tmGo])⟩⟩
        · (try conv=>whnf);repeat ((first|refine ⟨in64 (by omega) (by omega),?_⟩);conv=>whnf)
          refine ⟨⟨(i+1,G),⟨by dsimp only;omega,.inl (by dsimp only;omega),hlG,fin (.inl (by omega))⟩,by dsimp only;omega,Refi.sub rfl (by simp [subT,subV,tm,tmGo])⟩⟩
    · conv=>whnf
      exact ⟨Ends.keep ⟨rfl,F,hl,hs.sub (Nat.le_refl _) (by omega),rfl⟩⟩
end Go.Aw
namespace Go.Aw
open Go.Proofs Go.Sort
set_option maxRecDepth 100000
set_option maxHeartbeats 4000000
theorem st_symMerge (fn g n:Nat) (cf:Cd→Cd→Int) (hc:∀ x y,CG Tryz.prog fn [tcard x,tcard y] (.i (cf x y))) (hO:SWO (ltC cf)) (hn:n < 1000000000) :
    ∀ (N:Nat) (f:Nat→Cd) (a m b:Nat) {A M B:Int},A=a→M=m→B=b→a < m→m < b→b≤n→b-a≤N→srt (ltC cf) f a m→srt (ltC cf) f m b →
    ACalls Tryz.prog 217 [.own 0 g 0 n,.g (.i A),.g (.i M),.g (.i B),.fn fn []] [.arr g 3 (rowF n f)] (fun r h=>r=.tu []∧∃ f',locP a b f f'∧srt (ltC cf) f' a b∧h=[.arr g 3 (rowF n f')]):=by
  intro N
  induction N with
  | zero=>intro f a m b A M B _ _ _ h1 h2 _ h3;omega
  | succ N ih =>
    intro f a m b A M B hA hM hB ham hmb hb hN hs1 hs2
    subst hA;subst hM;subst hB
    refine k_slices_symMergeCmpFunc_Card.calls ?_
    (try conv=>whnf);repeat ((first|refine ⟨in64 (by omega) (by omega),?_⟩);conv=>whnf)
    refine Br.eq (fun h1=>?_) (fun h1=>?_)
    ·
      have hma:m=a+1:=by omega
      subst hma
      try conv=>whnf
      refine SW.loopR (α:=Nat×Nat) (fun s=>tm 220 [(0,.own 0 g 0 n),(1,.g (.i a)),(2,.g (.i ((a:Int)+1))),(3,.g (.i b)),(4,.fn fn []),(10,.g (.i s.1)),(11,.g (.i s.2))]) (fun _=>[.arr g 3 (rowF n f)])
        (fun s=>a+1≤s.1∧s.1≤s.2∧s.2≤b∧(s.1=a+1∨ltC cf (f (s.1-1)) (f a)=true)∧(s.2=b∨ltC cf (f s.2) (f a)=false)) (fun s=>s.2-s.1) (a+1,b) ?_ ?_ ?_
      · exact ⟨Nat.le_refl _,by dsimp only;omega,Nat.le_refl _,.inl rfl,.inl rfl⟩
      · exact Refi.sub rfl (by simp [subT,subV,tm,tmGo])
      · rintro ⟨i,j⟩ ⟨hi,hij,hj,hl,hr⟩
        dsimp only at hi hij hj hl hr ⊢
        conv=>whnf
        refine Br.dec (fun h2=>?_) (fun h2=>?_)
        · conv=>whnf
          refine ⟨in64 (by omega) (by omega),?_⟩
          conv=>whnf
          have e:=half i j (by omega)
          refine ⟨by omega,?_⟩
          conv=>whnf
          rw [e]
          have hmid:i≤(i+j) / 2∧(i+j) / 2 < j:=by omega
          generalize (i+j) / 2=q at hmid
          (try conv=>whnf);repeat ((first|refine ⟨rfl,_,getF q (by omega) (by omega),?_⟩|refine ⟨rfl,_,getF a (by omega) (by omega),?_⟩|refine (hc (f q) (f a)).go rfl ?_|refine ⟨⟨by omega,by omega⟩,⟨rfl,rfl⟩,?_⟩);conv=>whnf)
          refine Br.dec (fun h3=>?_) (fun h3=>?_)
          · (try conv=>whnf);repeat ((first|refine ⟨in64 (by omega) (by omega),?_⟩);conv=>whnf)
            exact ⟨⟨(q+1,j),⟨by dsimp only;omega,by dsimp only;omega,hj,.inr (decide_eq_true h3),hr⟩,by dsimp only;omega,Refi.sub rfl (by simp [subT,subV,tm,tmGo])⟩⟩
          · try conv=>whnf
            exact ⟨⟨(i,q),⟨hi,hmid.1,by dsimp only;omega,hl,.inr (decide_eq_false h3)⟩,by dsimp only;omega,Refi.sub rfl (by simp [subT,subV,tm,tmGo])⟩⟩
        · have:i=j:=by omega
          subst this
          try conv=>whnf
          refine SW.loopR (α:=Nat) (fun k=>tm 220 [(0,.own 0 g 0 n),(1,.g (.i a)),(2,.g (.i ((a:Int)+1))),(3,.g (.i b)),(4,.fn fn []),(10,.g (.i i)),(11,.g (.i i)),(13,.g (.i k))]) (fun k=>[.arr g 3 (rowF n (rotF f a (a+1) (k+1)))])
            (fun k=>a≤k∧k≤i-1) (fun k=>i-k) a ?_ ?_ ?_
          · exact ⟨Nat.le_refl _,by omega⟩
          · exact Refi.sub (by rw [rot_none]) (by simp [subT,subV,tm,tmGo])
          · rintro k ⟨hk,hki⟩
            dsimp only at hk hki ⊢
            conv=>whnf
            refine ⟨in64 (by omega) (by omega),?_⟩
            conv=>whnf
            refine Br.dec (fun h3=>?_) (fun h3=>?_)
            · (try conv=>whnf);repeat ((first|(refine ⟨rfl,_,getF k (by omega) (by omega),⟨rfl,rfl,by decide⟩,?_⟩;rw [setF k (by omega) (by omega)])|(refine ⟨rfl,_,getF (k+1) (by omega) (by omega),⟨rfl,rfl,by decide⟩,?_⟩;rw [setF (k+1) (by omega) (by omega)])|refine ⟨rfl,_,getF k (by omega) (by omega),?_⟩|refine ⟨rfl,_,getF (k+1) (by omega) (by omega),?_⟩|refine ⟨⟨by omega,by omega⟩,⟨rfl,rfl⟩,?_⟩|refine ⟨in64 (by omega) (by omega),?_⟩);conv=>whnf)
              refine ⟨⟨k+1,⟨by omega,by omega⟩,by omega,Refi.sub ?_ (by simp [subT,subV,tm,tmGo])⟩⟩
              rw [← rot_up f a k hk];rfl
            · have:k=i-1:=by omega
              subst this
              try conv=>whnf
              refine ⟨Ends.keep ⟨rfl,_,.mono (.rot f (Nat.le_succ a) hi) (Nat.le_refl _) hj,?_,?_⟩⟩
              · exact srt_up hO hs2 hi hj hl hr
              · rw [show i-1+1=i from by omega]
    (try conv=>whnf);repeat ((first|refine ⟨in64 (by omega) (by omega),?_⟩);conv=>whnf)
    refine Br.eq (fun h2=>?_) (fun h2=>?_)
    ·
      have hbm:b=m+1:=by omega
      subst hbm
      try conv=>whnf
      refine SW.loopR (α:=Nat×Nat) (fun s=>tm 220 [(0,.own 0 g 0 n),(1,.g (.i a)),(2,.g (.i m)),(3,.g (.i ((m:Int)+1))),(4,.fn fn []),(14,.g (.i s.1)),(15,.g (.i s.2))]) (fun _=>[.arr g 3 (rowF n f)])
        (fun s=>a≤s.1∧s.1≤s.2∧s.2≤m∧(s.1=a∨ltC cf (f m) (f (s.1-1))=false)∧(s.2=m∨ltC cf (f m) (f s.2)=true)) (fun s=>s.2-s.1) (a,m) ?_ ?_ ?_
      · exact ⟨Nat.le_refl _,by dsimp only;omega,Nat.le_refl _,.inl rfl,.inl rfl⟩
      · exact Refi.sub rfl (by simp [subT,subV,tm,tmGo])
      · rintro ⟨i,j⟩ ⟨hi,hij,hj,hl,hr⟩
        dsimp only at hi hij hj hl hr ⊢
        conv=>whnf
        refine Br.dec (fun h2=>?_) (fun h2=>?_)
        · conv=>whnf
          refine ⟨in64 (by omega) (by omega),?_⟩
          conv=>whnf
          have e:=half i j (by omega)
          refine ⟨by omega,?_⟩
          conv=>whnf
          rw [e]
          have hmid:i≤(i+j) / 2∧(i+j) / 2 < j:=by omega
          generalize (i+j) / 2=q at hmid
          (try conv=>whnf);repeat ((first|refine ⟨rfl,_,getF q (by omega) (by omega),?_⟩|refine ⟨rfl,_,getF m (by omega) (by omega),?_⟩|refine (hc (f m) (f q)).go rfl ?_|refine ⟨⟨by omega,by omega⟩,⟨rfl,rfl⟩,?_⟩);conv=>whnf)
          refine Br.not (fun h3=>?_) (fun h3=>?_)
          · (try conv=>whnf);repeat ((first|refine ⟨in64 (by omega) (by omega),?_⟩);conv=>whnf)
            exact ⟨⟨(q+1,j),⟨by dsimp only;omega,by dsimp only;omega,hj,.inr h3,hr⟩,by dsimp only;omega,Refi.sub rfl (by simp [subT,subV,tm,tmGo])⟩⟩
          · try conv=>whnf
            exact ⟨⟨(i,q),⟨hi,hmid.1,by dsimp only;omega,hl,.inr h3⟩,by dsimp only;omega,Refi.sub rfl (by simp [subT,subV,tm,tmGo])⟩⟩
        · have:i=j:=by omega
          subst this
          try conv=>whnf
          refine SW.loopR (α:=Nat) (fun k=>tm 220 [(0,.own 0 g 0 n),(1,.g (.i a)),(2,.g (.i m)),(3,.g (.i ((m:Int)+1))),(4,.fn fn []),(14,.g (.i i)),(15,.g (.i i)),(17,.g (.i k))]) (fun k=>[.arr g 3 (rowF n (rotF f k m (m+1)))])
            (fun k=>i≤k∧k≤m) (fun k=>k) m ?_ ?_ ?_
          · exact ⟨hj,Nat.le_refl _⟩
          · exact Refi.sub (by rw [rot_none']) (by simp [subT,subV,tm,tmGo])
          · rintro k ⟨hk,hki⟩
            dsimp only at hk hki ⊢
            conv=>whnf
            refine Br.dec (fun h3=>?_) (fun h3=>?_)
            · obtain ⟨q,rfl⟩:∃ q,k=q+1:=⟨k-1,by omega⟩
              (try conv=>whnf);repeat ((first|(refine ⟨rfl,_,getF (q+1) (by omega) (by omega),⟨rfl,rfl,by decide⟩,?_⟩;rw [setF (q+1) (by omega) (by omega)])|(refine ⟨rfl,_,getF q (by omega) (by omega),⟨rfl,rfl,by decide⟩,?_⟩;rw [setF q (by omega) (by omega)])|refine ⟨rfl,_,getF q (by omega) (by omega),?_⟩|refine ⟨rfl,_,getF (q+1) (by omega) (by omega),?_⟩|refine ⟨⟨by omega,by omega⟩,⟨rfl,rfl⟩,?_⟩|refine ⟨in64 (by omega) (by omega),?_⟩);conv=>whnf)
              refine ⟨⟨q,⟨by omega,by omega⟩,by omega,Refi.sub ?_ ?_⟩⟩
              · rw [← rot_down f q m (by omega)];rfl
              · have e1:(q:Int)+1-1=q:=by omega
                simp [subT,subV,tm,tmGo,e1]
            · have:k=i:=by omega
              subst this
              try conv=>whnf
              refine ⟨Ends.keep ⟨rfl,_,.mono (.rot f hj (Nat.le_succ m)) hi (Nat.le_refl _),?_,rfl⟩⟩
              exact srt_down hO hs1 hi hj hl hr
    conv=>whnf
    refine ⟨in64 (by omega) (by omega),?_⟩
    conv=>whnf
    have e:=half a b (by omega)
    refine ⟨by omega,?_⟩
    conv=>whnf
    rw [e]
    obtain ⟨mid,hmid⟩:∃ mid,mid=(a+b) / 2:=⟨_,rfl⟩
    rw [← hmid]
    (try conv=>whnf);repeat ((first|refine ⟨in64 (by omega) (by omega),?_⟩);conv=>whnf)
    refine Br.dec (fun h3=>?_) (fun h3=>?_)
    all_goals
      obtain ⟨S0,R0,hSR⟩:∃ S0 R0:Nat,((mid < m∧S0=mid+m-b∧R0=mid)∨(m≤mid∧S0=a∧R0=m)):=by
        first
          | exact ⟨_,_,.inl ⟨by omega,rfl,rfl⟩⟩
          | exact ⟨_,_,.inr ⟨by omega,rfl,rfl⟩⟩
      (try conv=>whnf);repeat ((first|refine ⟨in64 (by omega) (by omega),?_⟩);conv=>whnf)
      refine SW.loopR (α:=Nat×Nat) (fun s=>tm 220 [(0,.own 0 g 0 n),(1,.g (.i a)),(2,.g (.i m)),(3,.g (.i b)),(4,.fn fn []),(18,.g (.i mid)),(19,.g (.i ((mid:Int)+m))),(20,.g (.i s.1)),(21,.g (.i s.2)),(22,.g (.i ((mid:Int)+m-1)))]) (fun _=>[.arr g 3 (rowF n f)])
        (fun s=>S0≤s.1∧s.1≤s.2∧s.2≤R0∧(s.1=S0∨ltC cf (f (mid+m-s.1)) (f (s.1-1))=false)∧(s.2=R0∨ltC cf (f (mid+m-1-s.2)) (f s.2)=true)) (fun s=>s.2-s.1) (S0,R0) ?_ ?_ ?_
      · exact ⟨Nat.le_refl _,by dsimp only;omega,Nat.le_refl _,.inl rfl,.inl rfl⟩
      · refine Refi.sub rfl ?_
        have e1:(S0:Int)=(mid:Int)+m-b∨(S0:Int)=a:=by omega
        have e2:(R0:Int)=mid∨(R0:Int)=m:=by omega
        first
          | (have e1:(S0:Int)=(mid:Int)+m-b:=by omega
             have e2:(R0:Int)=mid:=by omega
             simp [subT,subV,tm,tmGo,e1,e2];done)
          | (have e1:(S0:Int)=a:=by omega
             have e2:(R0:Int)=m:=by omega
             simp [subT,subV,tm,tmGo,e1,e2];done)
      · rintro ⟨i,j⟩ ⟨hi,hij,hj,hl,hr⟩
        dsimp only at hi hij hj hl hr ⊢
        conv=>whnf
        refine Br.dec (fun h4=>?_) (fun h4=>?_)
        · conv=>whnf
          refine ⟨in64 (by omega) (by omega),?_⟩
          conv=>whnf
          have e:=half i j (by omega)
          refine ⟨by omega,?_⟩
          conv=>whnf
          rw [e]
          have hq:i≤(i+j) / 2∧(i+j) / 2 < j:=by omega
          generalize (i+j) / 2=q at hq
          (try conv=>whnf);repeat ((first|refine ⟨rfl,_,getF q (by omega) (by omega),?_⟩|refine ⟨rfl,_,getF (mid+m-1-q) (by omega) (by omega),?_⟩|refine (hc (f (mid+m-1-q)) (f q)).go rfl ?_|refine ⟨⟨by omega,by omega⟩,⟨rfl,rfl⟩,?_⟩|refine ⟨in64 (by omega) (by omega),?_⟩);conv=>whnf)
          refine Br.not (fun h5=>?_) (fun h5=>?_)
          · (try conv=>whnf);repeat ((first|refine ⟨in64 (by omega) (by omega),?_⟩);conv=>whnf)
            refine ⟨⟨(q+1,j),⟨by dsimp only;omega,by dsimp only;omega,hj,.inr ?_,hr⟩,by dsimp only;omega,Refi.sub rfl (by simp [subT,subV,tm,tmGo])⟩⟩
            dsimp only
            rw [show mid+m-(q+1)=mid+m-1-q from by omega];exact h5
          · try conv=>whnf
            exact ⟨⟨(i,q),⟨hi,hq.1,by dsimp only;omega,hl,.inr h5⟩,by dsimp only;omega,Refi.sub rfl (by simp [subT,subV,tm,tmGo])⟩⟩
        · have:i=j:=by omega
          subst this
          have hl':(mid < m∧i=mid+m-b)∨(m≤mid∧i=a)∨(a < i∧ltC cf (f (mid+m-i)) (f (i-1))=false):=by
            by_cases h6:i=S0
            · rcases hSR with ⟨h7,h8,_⟩|⟨h7,h8,_⟩
              · exact .inl ⟨h7,by omega⟩
              · exact .inr (.inl ⟨h7,by omega⟩)
            · rcases hl with hl|hl
              · exact absurd hl h6
              · exact .inr (.inr ⟨by omega,hl⟩)
          have hr':(mid < m∧i=mid)∨(m≤mid∧i=m)∨ltC cf (f (mid+m-1-i)) (f i)=true:=by
            rcases hr with hr|hr
            · rcases hSR with ⟨h7,_,h8⟩|⟨h7,_,h8⟩
              · exact .inl ⟨h7,by omega⟩
              · exact .inr (.inl ⟨h7,by omega⟩)
            · exact .inr (.inr hr)
          have hmf:=srt_mid (start:=i) hO hs1 hs2 ham hmb hmid (by omega) hl' hr'
          have hib:i≤m∧m≤mid+m-i∧mid+m-i≤b∧a≤i∧i≤mid:=by omega
          obtain ⟨en,hen⟩:∃ en,en=mid+m-i:=⟨_,rfl⟩
          rw [← hen] at hmf hib
          have hrl:locP a b f (rotF f i m en):=.mono (.rot f hib.1 hib.2.1) hib.2.2.2.1 hib.2.2.1
          obtain ⟨F,hF⟩:∃ F,rotF f i m en=F:=⟨_,rfl⟩
          rw [hF] at hmf hrl
          obtain ⟨m1,m2,m3,m4,m5⟩:=hmf
          have fin:∀ F1 F2:Nat→Cd,locP a mid F F1→srt (ltC cf) F1 a mid→locP mid b F1 F2→srt (ltC cf) F2 mid b→locP a b f F2∧srt (ltC cf) F2 a b:=fun F1 F2 x1 x2 x3 x4 =>
            ⟨(hrl.trans (x1.mono (Nat.le_refl _) (by omega))).trans (x3.mono (by omega) (Nat.le_refl _)),srt_join x1 x2 x3 x4 m5⟩
          have noB:¬ (a < i∧i < mid)→srt (ltC cf) F a mid:=fun h=>by
            by_cases h7:i=a
            · rw [h7] at m2;exact m2
            · have:i=mid:=by omega
              rw [this] at m1;exact m1
          have noC:∀ F1,locP a mid F F1→¬ (mid < en∧en < b)→srt (ltC cf) F1 mid b:=fun F1 x1 h=>by
            refine srt.cong (f:=F) ?_ fun k x _=>x1.out (.inr x)
            by_cases h7:en=b
            · rw [h7] at m3;exact m3
            · have:en=mid:=by omega
              rw [this] at m4;exact m4
          by_cases hA:i < m∧m < en
          case' neg =>
            have hFf:F=f:=by
              rw [← hF]
              by_cases h8:i=m
              · rw [h8,rot_none']
              · have:en=m:=by omega
                rw [this,rot_none]
            subst hFf
          all_goals
            by_cases hB:a < i∧i < mid
            all_goals
              by_cases hC:mid < en∧en < b
              all_goals
                (try conv=>whnf);repeat ((first|(refine (st_rotate fn g n f i m en rfl rfl (by omega) hA.1 hA.2 (by omega) hn).mono ?_;rintro r h ⟨rfl,rfl⟩;rw [hF])|(refine (ih F a i mid rfl rfl rfl hB.1 hB.2 (by omega) (by omega) m1 m2).mono ?_;rintro r h ⟨rfl,F1,l1,s1,rfl⟩)|(refine (ih F1 mid en b rfl (by omega) rfl hC.1 hC.2 hb (by omega) (m3.cong fun k x _=>l1.out (.inr x)) (m4.cong fun k x _=>l1.out (.inr (by omega)))).mono ?_;rintro r h ⟨rfl,F2,l2,s2,rfl⟩)|(refine (ih F mid en b rfl (by omega) rfl hC.1 hC.2 hb (by omega) m3 m4).mono ?_;rintro r h ⟨rfl,F2,l2,s2,rfl⟩)|refine ⟨in64 (by omega) (by omega),?_⟩|refine Br.dec (fun _=>?_) (fun hh=>absurd (by omega) hh)|refine Br.dec (fun hh=>absurd hh (by omega)) (fun _=>?_));conv=>whnf)
                first
                  | (exfalso;omega)
                  | exact ⟨Ends.keep ⟨rfl,_,(fin F1 F2 l1 s1 l2 s2).1,(fin F1 F2 l1 s1 l2 s2).2,rfl⟩⟩
                  | exact ⟨Ends.keep ⟨rfl,_,(fin F F2 (.refl _ _ _) (noB hB) l2 s2).1,(fin F F2 (.refl _ _ _) (noB hB) l2 s2).2,rfl⟩⟩
                  | exact ⟨Ends.keep ⟨rfl,_,(fin F1 F1 l1 s1 (.refl _ _ _) (noC F1 l1 hC)).1,(fin F1 F1 l1 s1 (.refl _ _ _) (noC F1 l1 hC)).2,rfl⟩⟩
                  | exact ⟨Ends.keep ⟨rfl,_,(fin F F (.refl _ _ _) (noB hB) (.refl _ _ _) (noC F (.refl _ _ _) hC)).1,(fin F F (.refl _ _ _) (noB hB) (.refl _ _ _) (noC F (.refl _ _ _) hC)).2,rfl⟩⟩
end Go.Aw
