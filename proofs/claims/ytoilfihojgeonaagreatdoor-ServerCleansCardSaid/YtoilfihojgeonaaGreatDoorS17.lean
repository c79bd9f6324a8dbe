/- Journals, second part: opening, adding; what the program and the document answer. -/
import Derived.Test.YtoilfihojgeonaaGreatDoorS16
namespace Go.Proofs.YtoilfihojgeonaaGreatDoor
open BoEng Go
set_option maxRecDepth 100000
set_option linter.unusedSimpArgs false
set_option linter.unusedVariables false
theorem Ia{k:Dk}(h:c9 k=true){n:List UInt8}(hn:hF n=false):cQ k.now n=none:=by
 rw[fB];intro e he e2;have:=(jm h).n.fair e he;rw[e2,hn]at this
 cases this
theorem I5(k:Dk):(eU k []).1=cP k:=by
 unfold eU;rw[Ia (dw k) (by decide)]
theorem te(k:Dk)(n:List UInt8):(eW k n).1.length≤20000:=by
 unfold eW;have h:=jm (dw k);split
 ·exact zQ (fun f hf=>(eL.1 (h.f f hf)).1) _
 ·simp
def kX(k:Dk):Dk×Int:=
 if(dA (eW k nJ).1).2.2=4 then(dR (dU (eU (xY k nJ (dA (eW k nJ).1).2.1).1 nJ).1 nK).1,0)
 else if(dA (eW k nJ).1).2.2=0 then(dR (dU (eU k nJ).1 nK).1,0)
 else(kR,(dA (eW k nJ).1).2.2)
theorem xp(k:Dk)(hk:m5 k):cD Tryz.prog 220 [.d k.d] (.d (cP k).d) (fun _=>false):=by
 refine cD.bi Tryz.func220 [] ?_;have q:=tv k hk [];rw[I5]at q;have hdd: ∀d:Dk,d.d= .agg (cells d.d):=fun _=>rfl
 generalize cP k=d at*
 simp-implicitDefEqProofs (disch:=try exact dd) [cB,Dk.d]
 refine oc q ?_
 simp-implicitDefEqProofs (disch:=try exact dd) [cB,Dk.d]
theorem CF(k:Dk)(hk:m5 k):cD Tryz.prog 90 [.d k.d] (.tup [.d (kX k).1.d,.d (.int .i64 (kX k).2)]) (fun _=>false):=by
 refine cD.bi Tryz.func90 [] ?_;have q1:=mG k hk (by have:=te k [106];omega)
 unfold kX;generalize dA (eW k nJ).1=r at*
 obtain⟨l,n,e⟩:=r;dsimp only at q1⊢;have q2:=Nc k hk nJ n;have h2:=jC (zW k nJ n);by_cases h4:e=4
 ·rw[if_pos h4];generalize xY k nJ n=c at*
  have q3:=tv c.1 h2 nJ;have h3:=jC (ie c.1 nJ);generalize eU c.1 nJ=s at*
  have q4:=sf s.1 h3 nK;have h4':=jC (jz s.1 nK);generalize dU s.1 nK=m at*
  have q5:=qc m.1 h4';generalize dR m.1=z at*
  simp-implicitDefEqProofs (disch:=try exact dd) [cB,Dk.d]
  refine oc q1 ?_
  simp-implicitDefEqProofs (disch:=try exact dd) [cB,h4]
  refine oc q2 ?_
  simp-implicitDefEqProofs (disch:=try exact dd) [cB,h4]
  refine oc q3 ?_
  simp-implicitDefEqProofs (disch:=try exact dd) [cB,h4]
  refine oc q4 ?_
  simp-implicitDefEqProofs (disch:=try exact dd) [cB,h4]
  refine oc q5 ?_
  simp-implicitDefEqProofs (disch:=try exact dd) [cB,Dk.d]
 rw[if_neg h4];by_cases h0:e=0
 ·rw[if_pos h0];have q3:=tv k hk nJ;have h3:=jC (ie k nJ);generalize eU k nJ=s at*
  have q4:=sf s.1 h3 nK;have h4':=jC (jz s.1 nK);generalize dU s.1 nK=m at*
  have q5:=qc m.1 h4';generalize dR m.1=z at*
  simp-implicitDefEqProofs (disch:=try exact dd) [cB,Dk.d]
  refine oc q1 ?_
  simp-implicitDefEqProofs (disch:=try exact dd) [cB,h4,h0]
  refine oc q3 ?_
  simp-implicitDefEqProofs (disch:=try exact dd) [cB,h4]
  refine oc q4 ?_
  simp-implicitDefEqProofs (disch:=try exact dd) [cB,h4]
  refine oc q5 ?_
  simp-implicitDefEqProofs (disch:=try exact dd) [cB,Dk.d]
 ·rw[if_neg h0]
  simp-implicitDefEqProofs (disch:=try exact dd) [cB,Dk.d]
  refine oc q1 ?_
  simp-implicitDefEqProofs (disch:=try exact dd) [cB,h4,h0,kR]
def jfI(l:List cZ)(name:List UInt8)(i:Nat)(S:PS):Prop:=
 i≤l.length∧(∀j (h:j<l.length),j<i→l[j].name≠name)∧S.t 7= .d (.slice (l.map cZ.d))∧S.t 1= .d (.str name)∧S.t 8= .d (.int .i64 l.length)∧S.t 9= .d (.int .i64 i)
theorem vf(l:List cZ)(name:List UInt8)(hl:l.length≤1000000):cD Tryz.prog 222 [.d (.slice (l.map cZ.d)),.d (.str name)] (.d (.int .i64 (iO l name))) (fun _=>false):=by
 refine cD.bi Tryz.func222 [] ?_
 simp-implicitDefEqProofs (disch:=try exact dd) [cB]
 refine lp (jfI l name) (fun i=>l.length-i) 0 ⟨by omega,by simp,by simp⟩ ?_
 rintro i S ⟨hi,hn,e7,e1,e8,e9⟩;by_cases hlt:i<l.length
 ·have k6:(i:Int)<l.length:=by omega
  by_cases hc:l[i].name=name
  ·have hr:iO l name=l[i].file:=by simp[iO,EI hlt hn hc]
   simp-implicitDefEqProofs (disch:=try exact dd) [cB,e7,e1,e8,e9,k6,hc,hr]
  ·simp-implicitDefEqProofs (disch:=try exact dd) [cB,e7,e1,e8,e9,k6,hc]
   exact cE (i+1) ⟨by omega,fun j h hj=>by
    by_cases e:j=i
    ·subst e;exact hc
    ·exact hn j h (by omega),by simp-implicitDefEqProofs (disch:=try exact dd) [cB,e7,e1,e8,e9]⟩ (by omega)
 ·have k6: ¬(i:Int)<l.length:=by omega
  have hr:iO l name= -1:=by simp[iO,M1 fun j hj=>hn j hj (by omega)]
  simp-implicitDefEqProofs (disch:=try exact dd) [cB,e7,e1,e8,e9,k6,hr]
def slI(a b:List cC)(i:Nat)(S:PS):Prop:=
 i≤a.length∧a.take i=b.take i∧S.t 0= .d (.slice (a.map cC.d))∧S.t 1= .d (.slice (b.map cC.d))∧S.t 5= .d (.int .i64 i)
theorem fS(a b:List cC)(ha:a.length≤1000000)(hb:b.length≤1000000):cD Tryz.prog 29 [.d (.slice (a.map cC.d)),.d (.slice (b.map cC.d))] (.d (.bool (decide (a=b)))) (fun _=>false):=by
 refine cD.bi Tryz.func29 [] ?_;by_cases hl:a.length=b.length
 ·have hl':(a.length:Int)=b.length:=by omega
  simp-implicitDefEqProofs (disch:=try exact dd) [cB,hl']
  refine lp (slI a b) (fun i=>a.length-i) 0 ⟨by omega,by simp,by simp,by simp,by simp⟩ ?_
  rintro i S ⟨hi,hn,e0,e1,e5⟩;by_cases hlt:i<a.length
  ·have k6:(i:Int)<a.length:=by omega
   have k7:(i:Int)<b.length:=by omega
   have hlb:i<b.length:=by omega
   by_cases hc:a[i]=b[i]
   ·simp-implicitDefEqProofs (disch:=try exact dd) [cB,e0,e1,e5,k6,k7,hlb,hc]
    exact cE (i+1) (by refine⟨by omega,by rw[List.take_succ_eq_append_getElem hlt,List.take_succ_eq_append_getElem hlb,hn,hc],?_,?_,by simp⟩<;>simp-implicitDefEqProofs (disch:=try exact dd) [cB,e0,e1]) (by omega)
   ·have hne:a≠b:=fun h=>hc (by subst h;rfl)
    have hx: ¬(a[i].addr=b[i].addr∧a[i].state=b[i].state∧a[i].expiry=b[i].expiry∧a[i].key=b[i].key):=by
     intro⟨h1,h2,h3,h4⟩
     apply hc
     generalize a[i]=x at*
     generalize b[i]=y at*
     cases x;cases y
     simp_all
    have hx2:(!decide (a[i].addr=b[i].addr)||(!decide (a[i].state=b[i].state)||(!decide (a[i].expiry=b[i].expiry)|| !decide (a[i].key=b[i].key))))=true:=by
     by_cases h1:a[i].addr=b[i].addr
     ·by_cases h2:a[i].state=b[i].state
      ·by_cases h3:a[i].expiry=b[i].expiry
       ·by_cases h4:a[i].key=b[i].key
        ·exact absurd ⟨h1,h2,h3,h4⟩ hx
        ·simp[h4]
       ·simp[h3]
      ·simp[h2]
     ·simp[h1]
    simp-implicitDefEqProofs (disch:=try exact dd) [cB,e0,e1,e5,k6,k7,hlb,hne,hx2]
  ·have k6: ¬(i:Int)<a.length:=by omega
   have he:a=b:=by rwa[List.take_of_length_le (by omega),List.take_of_length_le (by omega)]at hn
   have he':decide (a=b)=true:=decide_eq_true he;rw[he']
   simp-implicitDefEqProofs (disch:=try exact dd) [cB,e0,e1,e5,k6]
 ·have hl': ¬(a.length:Int)=b.length:=by omega
  have hne:a≠b:=fun h=>hl (by rw[h])
  simp-implicitDefEqProofs (disch:=try exact dd) [cB,hl',hne]
structure iS where
 kind:Int
 name:List UInt8
 to:List UInt8
 b:List UInt8
 deriving DecidableEq
instance:Inhabited iS:=⟨⟨0,[],[],[]⟩⟩
def iS.d(c:iS):DV:= .agg [.int .i64 c.kind,.str c.name,.str c.to,.slice (c.b.map cM)]
@[simp] theorem SV(c:iS):cells c.d= [.int .i64 c.kind,.str c.name,.str c.to,.slice (c.b.map cM)]:=rfl
def vK(c:iS):Prop:=c.name.length≤9223372036854775807∧c.to.length≤9223372036854775807∧c.b.length≤1000000
def jt(c:iS)(k:Dk):Dk×Int:=
 if c.kind=1 then c7 k c.name c.b else if c.kind=2 then eU k c.name else if c.kind=3 then fh k c.name c.to else if c.kind=4 then dU k c.name
 else if c.kind=5 then(dR k,0)else(k,1)
def kQ:List iS→Nat→Dk→Dk×Nat
 | [],_,k=>(k,0)
 |_,0,k=>(k,0)
 |c::l,n+1,k=>if(jt c k).2=0 then((kQ l n (jt c k).1).1,(kQ l n (jt c k).1).2+1)else(k,0)
theorem SP(c:iS)(hc:vK c)(k:Dk)(hk:m5 k):cD Tryz.prog 322 [.d c.d,.d k.d] (.tup [.d (c7 k c.name c.b).1.d,.d (.int .i64 (c7 k c.name c.b).2)]) (fun _=>false):=by
 refine cD.bi Tryz.func322 [20002,20003] ?_;have q:=EV k hk c.name c.b hc.1 hc.2.2;generalize c7 k c.name c.b=r at*
 simp-implicitDefEqProofs (disch:=try exact dd) [cB,iS.d,Dk.d]
 refine oc q ?_
 simp-implicitDefEqProofs (disch:=try exact dd) [cB,iS.d,Dk.d]
theorem PC(c:iS)(hc:vK c)(k:Dk)(hk:m5 k):cD Tryz.prog 323 [.d c.d,.d k.d] (.tup [.d (eU k c.name).1.d,.d (.int .i64 (eU k c.name).2)]) (fun _=>false):=by
 refine cD.bi Tryz.func323 [20002,20003] ?_;have q:=tv k hk c.name;generalize eU k c.name=r at*
 simp-implicitDefEqProofs (disch:=try exact dd) [cB,iS.d,Dk.d]
 refine oc q ?_
 simp-implicitDefEqProofs (disch:=try exact dd) [cB,iS.d,Dk.d]
theorem Lo(c:iS)(hc:vK c)(k:Dk)(hk:m5 k):cD Tryz.prog 324 [.d c.d,.d k.d] (.tup [.d (fh k c.name c.to).1.d,.d (.int .i64 (fh k c.name c.to).2)]) (fun _=>false):=by
 refine cD.bi Tryz.func324 [20002,20003] ?_;have q:=EU k hk c.name c.to hc.2.1;generalize fh k c.name c.to=r at*
 simp-implicitDefEqProofs (disch:=try exact dd) [cB,iS.d,Dk.d]
 refine oc q ?_
 simp-implicitDefEqProofs (disch:=try exact dd) [cB,iS.d,Dk.d]
theorem Lp(c:iS)(hc:vK c)(k:Dk)(hk:m5 k):cD Tryz.prog 325 [.d c.d,.d k.d] (.tup [.d (dU k c.name).1.d,.d (.int .i64 (dU k c.name).2)]) (fun _=>false):=by
 refine cD.bi Tryz.func325 [20002,20003] ?_;have q:=sf k hk c.name;generalize dU k c.name=r at*
 simp-implicitDefEqProofs (disch:=try exact dd) [cB,iS.d,Dk.d]
 refine oc q ?_
 simp-implicitDefEqProofs (disch:=try exact dd) [cB,iS.d,Dk.d]
theorem PD(c:iS)(hc:vK c)(k:Dk)(hk:m5 k):cD Tryz.prog 326 [.d c.d,.d k.d] (.tup [.d (dR k).d,.d (.int .i64 0)]) (fun _=>false):=by
 refine cD.bi Tryz.func326 [20002,20003] ?_;have q:=qc k hk;generalize dR k=r at*
 simp-implicitDefEqProofs (disch:=try exact dd) [cB,iS.d,Dk.d]
 refine oc q ?_
 simp-implicitDefEqProofs (disch:=try exact dd) [cB,iS.d,Dk.d]
theorem SO(c:iS)(hc:vK c)(k:Dk)(hk:m5 k):cD Tryz.prog 289 [.d c.d,.d k.d] (.tup [.d (jt c k).1.d,.d (.int .i64 (jt c k).2)]) (fun _=>false):=by
 refine cD.bi Tryz.func289 [20002,20003] ?_;have q1:=SP c hc k hk;have q2:=PC c hc k hk;have q3:=Lo c hc k hk;have q4:=Lp c hc k hk;have q5:=PD c hc k hk;unfold jt;obtain⟨ck,cn,ct,cb⟩:=c;dsimp only[iS.d,Dk.d]at q1 q2 q3 q4 q5⊢;by_cases h1:ck=1
 ·subst h1;rw[if_pos rfl];generalize c7 k cn cb=r at*
  simp-implicitDefEqProofs (disch:=try exact dd) [cB,iS.d,Dk.d]
  refine oc q1 ?_
  simp-implicitDefEqProofs (disch:=try exact dd) [cB,iS.d,Dk.d]
 rw[if_neg h1];have g1:(ck==1)=false:=by simpa using h1
 by_cases h2:ck=2
 ·subst h2;rw[if_pos rfl];generalize eU k cn=r at*
  simp-implicitDefEqProofs (disch:=try exact dd) [cB,iS.d,Dk.d]
  refine oc q2 ?_
  simp-implicitDefEqProofs (disch:=try exact dd) [cB,iS.d,Dk.d]
 rw[if_neg h2];have g2:(ck==2)=false:=by simpa using h2
 by_cases h3:ck=3
 ·subst h3;rw[if_pos rfl];generalize fh k cn ct=r at*
  simp-implicitDefEqProofs (disch:=try exact dd) [cB,iS.d,Dk.d]
  refine oc q3 ?_
  simp-implicitDefEqProofs (disch:=try exact dd) [cB,iS.d,Dk.d]
 rw[if_neg h3];have g3:(ck==3)=false:=by simpa using h3
 by_cases h4:ck=4
 ·subst h4;rw[if_pos rfl];generalize dU k cn=r at*
  simp-implicitDefEqProofs (disch:=try exact dd) [cB,iS.d,Dk.d]
  refine oc q4 ?_
  simp-implicitDefEqProofs (disch:=try exact dd) [cB,iS.d,Dk.d]
 rw[if_neg h4];have g4:(ck==4)=false:=by simpa using h4
 by_cases h5:ck=5
 ·subst h5;rw[if_pos rfl];generalize dR k=r at*
  simp-implicitDefEqProofs (disch:=try exact dd) [cB,iS.d,Dk.d]
  refine oc q5 ?_
  simp-implicitDefEqProofs (disch:=try exact dd) [cB,iS.d,Dk.d]
 rw[if_neg h5];have g5:(ck==5)=false:=by simpa using h5
 simp-implicitDefEqProofs (disch:=try exact dd) [cB,g1,g2,g3,g4,g5,iS.d,Dk.d]
theorem Hw(c:iS){k:Dk}(h:c9 k=true):c9 (jt c k).1=true:=by
 unfold jt;split
 ·exact append_right _ _ _
 split
 ·exact ie _ _
 split
 ·exact sG _ _ _
 split
 ·exact jz _ _
 split
 ·exact gm _
 ·exact h
def jdI(k:Dk)(l:List iS)(fuel:Int)(q:Nat×Dk)(S:PS):Prop:=
 q.1≤l.length∧c9 q.2=true∧kQ l fuel.toNat (cP k)=((kQ (l.drop q.1) (fuel.toNat-q.1) q.2).1,(kQ (l.drop q.1) (fuel.toNat-q.1) q.2).2+q.1)∧
 S.t 1= .d (.slice (l.map iS.d))∧S.t 2= .d (.int .i64 fuel)∧S.t 3= .ptr (FO+3) 1 0∧S.t 6= .ptr (FO+6) 1 0∧S.t 8= .d (.int .i64 q.1)∧S.fo=FO∧S.gen (FO+3)=1∧S.box (FO+3)=(cells q.2.d).map .d∧S.gen (FO+6)=1∧S.box (FO+6)= [.d (.slice []),.d (.slice []),.d (.slice [])]
theorem qO(k:Dk)(hk:m5 k)(l:List iS)(hl:l.length≤1000000)(hc: ∀c∈l,vK c)(fuel:Int):cD Tryz.prog 223 [.d k.d,.d (.slice (l.map iS.d)),.d (.int .i64 fuel)] (.tup [.d (kQ l fuel.toNat (cP k)).1.d,.d (.int .i64 (kQ l fuel.toNat (cP k)).2)]) (fun _=>false):=by
 refine cD.bi Tryz.func223 [50025,50026,3027003,3009009] ?_;have q0:=xp k hk;have hrg:=dw k
 simp-implicitDefEqProofs (disch:=try exact dd) [cB,Dk.d]
 refine oc q0 ?_
 simp-implicitDefEqProofs (disch:=try exact dd) [cB,Dk.d]
 refine lp (jdI k l fuel) (fun q=>l.length-q.1) (0,cP k) ⟨by simp,hrg,by simp,by simp,by simp,by simp,by simp,by simp,by simp,by simp,by simp[Dk.d],by simp,by simp⟩ ?_
 clear q0;rintro⟨i,x⟩ S ⟨hi,hrx,hd,e1,e2,e3,e6,e8,efo,g3,b3,g6,b6⟩;dsimp only at hi hrx hd e8 b3;rw[hd];by_cases hlt:i<l.length
 ·have k6:(i:Int)<l.length:=by omega
  by_cases hf:(i:Int)<fuel
  ·have hdr:l.drop i=l[i]::l.drop (i+1):=ai hlt;have hfn:fuel.toNat-i=(fuel.toNat-(i+1))+1:=by omega
   have q1:=SO l[i] (hc _ (List.getElem_mem hlt)) x (jC hrx);have hr1:=Hw l[i] hrx;rw[hdr,hfn]at hd⊢;simp only[kQ]at hd⊢;generalize jt l[i] x=r at*
   by_cases he:r.2=0
   ·rw[if_pos he]at hd⊢
    simp-implicitDefEqProofs (disch:=try exact dd) [cB,e1,e2,e3,e6,e8,efo,g3,b3,g6,b6,k6,hf]
    refine oc q1 ?_
    simp-implicitDefEqProofs (disch:=try exact dd) [cB,e1,e2,e3,e6,e8,efo,g3,b3,g6,b6,k6,hf,he]
    exact cE (i+1,r.1) (by refine⟨by show i+1≤_;omega,hr1,by rw[hd];simp;omega,?_,?_,?_,?_,by simp,?_,?_,?_,?_,?_⟩<;>simp-implicitDefEqProofs (disch:=try exact dd) [cB,e1,e2,e3,e6,efo,g3,b3,g6,b6]) (by show l.length-(i+1)<l.length-i;omega)
   ·rw[if_neg he]at hd⊢
    simp-implicitDefEqProofs (disch:=try exact dd) [cB,e1,e2,e3,e6,e8,efo,g3,b3,g6,b6,k6,hf]
    refine oc q1 ?_
    simp-implicitDefEqProofs (disch:=try exact dd) [cB,e1,e2,e3,e6,e8,efo,g3,b3,g6,b6,k6,hf,he,Dk.d]
  ·have hz:fuel.toNat-i=0:=by omega
   have hdd:kQ (l.drop i) (fuel.toNat-i) x=(x,0):=by
    rw[hz]
    cases l.drop i<;>rfl
   rw[hdd]
   simp-implicitDefEqProofs (disch:=try exact dd) [cB,e1,e2,e3,e6,e8,efo,g3,b3,g6,b6,k6,hf,Dk.d]
 ·have k6: ¬(i:Int)<l.length:=by omega
  have hdd:kQ (l.drop i) (fuel.toNat-i) x=(x,0):=by
   rw[List.drop_eq_nil_of_le (by omega)]
   rfl
  rw[hdd]
  simp-implicitDefEqProofs (disch:=try exact dd) [cB,e1,e2,e3,e6,e8,efo,g3,b3,g6,b6,k6,Dk.d]
def kT(k:Dk)(l:cC):List iS×Int:=
 if c8 l=false then([],1)
 else if(dA (eW k nJ).1).2.2=4 then([],7)
 else if(dA (eW k nJ).1).2.2≠0 then([],(dA (eW k nJ).1).2.2)
 else([⟨1,nJ,[],cU (dM l)⟩,⟨2,nJ,[],[]⟩]++(if iO (cP k).now nJ<0∨iO (cP k).now nJ≠iO (cP k).kept nJ then[⟨5,[],[],[]⟩]else[]),0)
theorem qN{k:List UInt8}(h:mi k=true):k.length≤256:=by
 unfold mi at h
 split at h
 ·cases h
 ·split at h
  ·simp at h⊢;omega
  ·split at h
   ·simp at h⊢;omega
   ·cases h
theorem sJ{l:cC}(h:c8 l=true):(dM l).length≤268∧12≤(dM l).length:=by
 have:=qN (gV h).2.2.2;simp[dM,fY];omega
theorem Eu(k:Dk)(hk:m5 k)(l:cC)(hl:l.key.length≤1000000):cD Tryz.prog 121 [.d k.d,.d l.d] (.tup [.d (.slice ((kT k l).1.map iS.d)),.d (.int .i64 (kT k l).2)]) (fun _=>false):=by
 refine cD.bi Tryz.func121 [20003,55] ?_;have q1:=uX l hl;have q2:=mG k hk (by have:=te k [106];omega)
 have q3:=xp k hk;have hrg:=dw k;unfold kT
 cases hr:c8 l with
 |false=>
  rw[hr]at q1;rw[if_pos rfl]
  simp-implicitDefEqProofs (disch:=try exact dd) [cB,Dk.d]
  refine oc q1 ?_
  simp-implicitDefEqProofs (disch:=try exact dd) [cB,Dk.d]
 |true=>
  rw[hr]at q1;simp only[if_true]at q1;rw[if_neg (by simp)]
  have hrl:=sJ hr;have q4:=zX (dM l) (by omega)
  generalize cU (dM l)=fb at*
  generalize dM l=rb at*
  generalize dA (eW k nJ).1=r at*
  obtain⟨ls,n,e⟩:=r;dsimp only at q2⊢;by_cases h4:e=4
  ·rw[if_pos h4]
   simp-implicitDefEqProofs (disch:=try exact dd) [cB,Dk.d]
   refine oc q1 ?_
   simp-implicitDefEqProofs (disch:=try exact dd) [cB,Dk.d]
   refine oc q2 ?_
   simp-implicitDefEqProofs (disch:=try exact dd) [cB,h4]
  rw[if_neg h4];by_cases h0:e=0
  ·rw[if_neg (fun h=>h h0)]
   generalize cP k=d at*
   have hlens:=gL hrg;have q5:=vf d.now nJ (by omega)
   have q6:=vf d.kept nJ (by omega)
   have hdd: ∀d:Dk,d.d= .agg [.slice (d.files.map cK.d),.slice (d.now.map cZ.d),.slice (d.kept.map cZ.d)]:=fun _=>rfl
   generalize iO d.now nJ=x at*
   generalize iO d.kept nJ=y at*
   by_cases hx:x<0
   ·rw[if_pos (.inl hx)]
    simp-implicitDefEqProofs (disch:=try exact dd) [cB,Dk.d]
    refine oc q1 ?_
    simp-implicitDefEqProofs (disch:=try exact dd) [cB,Dk.d]
    refine oc q2 ?_
    simp-implicitDefEqProofs (disch:=try exact dd) [cB,h4,h0]
    refine oc q3 ?_
    simp-implicitDefEqProofs (disch:=try exact dd) [cB,hdd]
    refine oc q4 ?_
    simp-implicitDefEqProofs (disch:=try exact dd) [cB,hdd]
    refine oc q5 ?_
    simp-implicitDefEqProofs (disch:=try exact dd) [cB,hx,iS.d]
   ·by_cases hy:x=y
    ·rw[if_neg (by omega)]
     simp-implicitDefEqProofs (disch:=try exact dd) [cB,Dk.d]
     refine oc q1 ?_
     simp-implicitDefEqProofs (disch:=try exact dd) [cB,Dk.d]
     refine oc q2 ?_
     simp-implicitDefEqProofs (disch:=try exact dd) [cB,h4,h0]
     refine oc q3 ?_
     simp-implicitDefEqProofs (disch:=try exact dd) [cB,hdd]
     refine oc q4 ?_
     simp-implicitDefEqProofs (disch:=try exact dd) [cB,hdd]
     refine oc q5 ?_
     simp-implicitDefEqProofs (disch:=try exact dd) [cB,hx]
     refine oc q6 ?_
     simp-implicitDefEqProofs (disch:=try exact dd) [cB,hx,hy,iS.d]
    ·rw[if_pos (.inr hy)]
     simp-implicitDefEqProofs (disch:=try exact dd) [cB,Dk.d]
     refine oc q1 ?_
     simp-implicitDefEqProofs (disch:=try exact dd) [cB,Dk.d]
     refine oc q2 ?_
     simp-implicitDefEqProofs (disch:=try exact dd) [cB,h4,h0]
     refine oc q3 ?_
     simp-implicitDefEqProofs (disch:=try exact dd) [cB,hdd]
     refine oc q4 ?_
     simp-implicitDefEqProofs (disch:=try exact dd) [cB,hdd]
     refine oc q5 ?_
     simp-implicitDefEqProofs (disch:=try exact dd) [cB,hx]
     refine oc q6 ?_
     simp-implicitDefEqProofs (disch:=try exact dd) [cB,hx,hy,iS.d]
  ·rw[if_pos h0]
   simp-implicitDefEqProofs (disch:=try exact dd) [cB,Dk.d]
   refine oc q1 ?_
   simp-implicitDefEqProofs (disch:=try exact dd) [cB,Dk.d]
   refine oc q2 ?_
   simp-implicitDefEqProofs (disch:=try exact dd) [cB,h4,h0]
theorem MZ(a r:List UInt8)(h:2≤a.length):sl (a++r)=sl a:=by
 unfold sl;rw[List.take_append_of_le_length h]
theorem zg{a:List UInt8}(h6:6≤a.length)(h:6+sl a≤a.length)(r:List UInt8):dr (a++r)=dr a:=by
 have e1:=MZ a r (by omega)
 have e2:zI (a++r)=zI a:=by
  unfold zI;rw[e1,List.drop_append_of_le_length h6,List.take_append_of_le_length (by simp;omega)]
 have e3:KW (a++r)=KW a:=by
  unfold KW;rw[List.drop_append_of_le_length (by omega),List.take_append_of_le_length (by simp;omega)]
 unfold dr;rw[e1,e2,e3,if_neg (by simp;omega),if_neg (show¬a.length<6 by omega),if_neg (show¬(a++r).length<6+sl a by simp;omega),if_neg (show¬a.length<6+sl a by omega)]
theorem vW{b:List UInt8}(h:(dr b).2.2=0):6≤b.length∧6+sl b≤b.length∧(dr b).2.1=6+sl b∧sl b≤2000∧dr b=(zI b,6+(sl b:Int),0):=by
 unfold dr at h⊢;by_cases h1:b.length<6
 ·rw[if_pos h1]at h;simp at h
 rw[if_neg h1]at h⊢;by_cases h2:sl b>2000
 ·rw[if_pos h2]at h;simp at h
 rw[if_neg h2]at h⊢;by_cases h3:b.length<6+sl b
 ·rw[if_pos h3]at h;simp at h
 rw[if_neg h3]at h⊢;by_cases h4:pn (zI b)=KW b
 ·rw[if_pos h4];exact⟨by omega,by omega,rfl,by omega,rfl⟩
 ·rw[if_neg h4]at h;simp at h
theorem D7{a:List UInt8}(h:(dr a).2.2=0)(r:List UInt8):dr (a++r)=dr a:=by
 obtain⟨h1,h2,_⟩:=vW h;exact zg h1 h2 r
theorem Ci{c:List UInt8}(h:(dr c).2.2=0){m:Nat}(hm:(dr c).2.1≤m):dr (c.take m)=dr c:=by
 obtain⟨h1,h2,h3,_⟩:=vW h;have e:sl (c.take m)=sl c:=by
  unfold sl;rw[List.take_take,Nat.min_eq_left (by omega)]
 have:=zg (a:=c.take m) (by simp;omega) (by rw[e];simp;omega) (c.drop m)
 rw[ay]at this;exact this.symm
theorem zJ{x:List UInt8}(hx:x.length≤2000)(r:List UInt8):sl (cU x++r)=x.length:=by
 have h2:=fY x.length 2;have:(cU x++r).take 2=iE x.length 2:=by
  unfold cU;rw[List.append_assoc,List.append_assoc,List.take_append_of_le_length (by omega),List.take_of_length_le (by omega)]
 unfold sl;rw[this,nh 2 _ (by omega)]
 simp
theorem qS(x:List UInt8):(cU x).length=6+x.length:=by simp[cU,fY];omega
theorem Ch{x:List UInt8}(hx:x.length≤2000)(r:List UInt8):dr (cU x++r)=(x,6+(x.length:Int),0):=by
 have h2:=fY x.length 2;have h4:=fY (pn x) 4;have e1:=zJ hx r;have e2:zI (cU x++r)=x:=by
  unfold zI;rw[e1];unfold cU;rw[List.append_assoc (_++_),List.drop_append_of_le_length (by simp;omega),List.drop_eq_nil_of_le (by simp;omega),List.nil_append,List.take_append_of_le_length (by omega),List.take_of_length_le (by omega)]
 have e3:KW (cU x++r)=pn x:=by
  unfold KW cU;rw[List.append_assoc,List.append_assoc,List.drop_append_of_le_length (by omega),List.drop_eq_nil_of_le (by omega),List.nil_append,List.take_append_of_le_length (by omega),List.take_of_length_le (by omega),nh 4 _ (by have:=As x;omega)]
  simp
 have hl:=qS x;unfold dr;rw[e1,e2,e3,if_neg (by simp;omega),if_neg (by omega),if_neg (by simp;omega),if_pos rfl]
theorem D6{x:List UInt8}(hx:x.length≤2000){m:Nat}(hm:m<(cU x).length):(dr ((cU x).take m)).2.2=4:=by
 have hl:=qS x;unfold dr;by_cases h6:m<6
 ·rw[if_pos (by simp;omega)]
 rw[if_neg (by simp;omega)]
 have e1:sl ((cU x).take m)=x.length:=by
  have:=zJ hx [];rw[List.append_nil]at this;unfold sl at this⊢;rw[List.take_take,Nat.min_eq_left (by omega),this]
 rw[e1,if_neg (by omega),if_pos (by simp;omega)]
theorem xm: ∀(k:Nat) (b:List UInt8) (a:Nat) (out:List cC),b.length+1≤a+k→a≤b.length→oY (k+1) b a out=oY k b a out
 |0,b,a,out,h,h2=>by omega
 |k+1,b,a,out,h,h2=>by
  rw[oY]
  conv=>rhs;rw[oY]
  split
  ·rename_i hlt;split
   ·rfl
   rename_i h4;split
   ·rfl
   rename_i h0;split
   ·rfl
   have h0:(dr (b.drop a)).2.2=0:=by simpa using h0
   obtain⟨p1,p2,_⟩:=qC h0;simp only[List.length_drop]at p2;exact xm k b _ _ (by omega) (by omega)
  ·rfl
theorem zA{b:List UInt8}{a:Nat}{out:List cC}(h2:a≤b.length): ∀(j k:Nat),b.length+1≤a+k→oY (k+j) b a out=oY k b a out
 |0,k,h=>rfl
 |j+1,k,h=>by
  rw[←bS,xm (k+j) b a out (by omega) h2,zA h2 j k h]
def xo(b:List UInt8)(a:Nat)(out:List cC):List cC×Int×Int:=oY (b.length+1) b a out
theorem B8(b:List UInt8):dA b=xo b 0 []:=rfl
theorem uh{b:List UInt8}{a:Nat}{out:List cC}(h:a≤b.length):xo b a out=
 if a<b.length then
  if(dr (b.drop a)).2.2=4 then(out,(a:Int),4)
  else if(dr (b.drop a)).2.2≠0 then([],0,2)
  else if(jA (dr (b.drop a)).1).2≠0 then([],0,2)
  else xo b (a+(dr (b.drop a)).2.1.toNat) (out++ [(jA (dr (b.drop a)).1).1])
 else(out,(a:Int),0):=by
 unfold xo
 conv=>lhs;rw[oY]
 split
 ·rename_i hlt;split
  ·rfl
  rename_i h4;split
  ·rfl
  rename_i h0;split
  ·rfl
  have h0:(dr (b.drop a)).2.2=0:=by simpa using h0
  obtain⟨p1,p2,_⟩:=qC h0;simp only[List.length_drop]at p2
  exact(zA (by omega) 1 b.length (by omega)).symm
 ·rfl
theorem mF(b:List UInt8)(out:List cC):xo b b.length out=(out,(b.length:Int),0):=by
 rw[uh (Nat.le_refl _),if_neg (by omega)]
theorem s7{b:List UInt8}{a:Nat}{out:List cC}(hlt:a<b.length)(h0:(dr (b.drop a)).2.2=0)(h1:(jA (dr (b.drop a)).1).2=0):
 xo b a out=xo b (a+(dr (b.drop a)).2.1.toNat) (out++ [(jA (dr (b.drop a)).1).1]):=by
 rw[uh (by omega),if_pos hlt,if_neg (by rw[h0];decide),if_neg (fun h=>h h0),if_neg (fun h=>h h1)]
theorem jW{b:List UInt8}{a:Nat}(h:a≤b.length)(out:List cC):
 (a=b.length∧xo b a out=(out,(a:Int),0))∨(a<b.length∧(dr (b.drop a)).2.2=4∧xo b a out=(out,(a:Int),4))∨(xo b a out=([],0,2))∨
 (a<b.length∧(dr (b.drop a)).2.2=0∧(jA (dr (b.drop a)).1).2=0∧a+6≤a+(dr (b.drop a)).2.1.toNat∧a+(dr (b.drop a)).2.1.toNat≤b.length∧
  xo b a out=xo b (a+(dr (b.drop a)).2.1.toNat) (out++ [(jA (dr (b.drop a)).1).1])):=by
 by_cases hlt:a<b.length
 ·by_cases h4:(dr (b.drop a)).2.2=4
  ·exact .inr (.inl ⟨hlt,h4,by rw[uh h,if_pos hlt,if_pos h4]⟩)
  by_cases h0:(dr (b.drop a)).2.2=0
  ·by_cases h1:(jA (dr (b.drop a)).1).2=0
   ·obtain⟨p1,p2,_⟩:=qC h0;simp only[List.length_drop]at p2;exact .inr (.inr (.inr ⟨hlt,h0,h1,by omega,by omega,s7 hlt h0 h1⟩))
   ·exact .inr (.inr (.inl (by rw[uh h,if_pos hlt,if_neg h4,if_neg (fun h=>h h0),if_pos h1])))
  ·exact .inr (.inr (.inl (by rw[uh h,if_pos hlt,if_neg h4,if_pos h0])))
 ·have e:a=b.length:=by omega
  subst e;exact .inl ⟨rfl,mF b out⟩
theorem MM(b:List UInt8): ∀(m a:Nat) (out:List cC),b.length-a≤m→a≤b.length→(xo b a out).2.2=0∨(xo b a out).2.2=4∨(xo b a out).2.2=2:=by
 intro m
 induction m with
 |zero=>
  intro a out hm ha;rcases jW ha out with⟨_,e⟩|⟨h,_⟩|e|⟨h,_⟩
  ·rw[e];simp
  ·omega
  ·rw[e];simp
  ·omega
 |succ m ih=>
  intro a out hm ha;rcases jW ha out with⟨_,e⟩|⟨h,_,e⟩|e|⟨h,h0,h1,p1,p2,e⟩
  ·rw[e];simp
  ·rw[e];simp
  ·rw[e];simp
  ·rw[e];exact ih _ _ (by omega) p2
theorem A6(d r:List UInt8): ∀(m a:Nat) (out xs:List cC) (n:Int),d.length-a≤m→a≤d.length→xo d a out=(xs,n,0)→n=d.length∧xo (d++r) a out=xo (d++r) d.length xs:=by
 intro m
 induction m with
 |zero=>
  intro a out xs n hm ha h;have e:a=d.length:=by omega
  subst e;rw[mF]at h
  cases h
  exact⟨rfl,rfl⟩
 |succ m ih=>
  intro a out xs n hm ha h;rcases jW ha out with⟨e,e2⟩|⟨_,_,e⟩|e|⟨hlt,h0,h1,p1,p2,e⟩
  ·subst e;rw[mF]at h
   cases h
   exact⟨rfl,rfl⟩
  ·rw[e]at h;simp at h
  ·rw[e]at h;simp at h
  ·rw[e]at h;have e3:dr ((d++r).drop a)=dr (d.drop a):=by rw[List.drop_append_of_le_length ha,D7 h0]
   obtain⟨q1,q2⟩:=ih _ _ _ _ (by omega) p2 h
   refine⟨q1,?_⟩;rw[s7 (by simp;omega) (by rw[e3];exact h0) (by rw[e3];exact h1),e3]
   exact q2
theorem MN(b:List UInt8): ∀(m a:Nat) (out xs:List cC) (n:Int),b.length-a≤m→a≤b.length→xo b a out=(xs,n,4)→ ∃q:Nat,n=q∧a≤q∧q≤b.length∧xo (b.take q) a out=(xs,n,0):=by
 intro m
 induction m with
 |zero=>
  intro a out xs n hm ha h;have e:a=b.length:=by omega
  subst e;rw[mF]at h
  cases h
 |succ m ih=>
  intro a out xs n hm ha h;rcases jW ha out with⟨e,e2⟩|⟨hlt,_,e⟩|e|⟨hlt,h0,h1,p1,p2,e⟩
  ·rw[e2]at h;simp at h
  ·rw[e]at h
   cases h
   refine⟨a,rfl,Nat.le_refl _,ha,?_⟩;have:=mF (b.take a) out;rw[show(b.take a).length=a by simp;omega]at this
   exact this
  ·rw[e]at h;simp at h
  ·rw[e]at h;obtain⟨q,q1,q2,q3,q4⟩:=ih _ _ _ _ (by omega) p2 h
   refine⟨q,q1,by omega,q3,?_⟩
   obtain⟨z1,z2,z3,_⟩:=vW h0;have e3:dr ((b.take q).drop a)=dr (b.drop a):=by
    rw[List.drop_take,Ci h0 (by omega)]
   rw[s7 (by simp;omega) (by rw[e3];exact h0) (by rw[e3];exact h1),e3]
   exact q4
theorem L5{x:List UInt8}(h:(jA x).2=0):c8 (jA x).1=true∧x.length≤268:=by
 unfold jA at h⊢;by_cases h1:x.length<12
 ·rw[if_pos h1]at h;simp at h
 rw[if_neg h1]at h⊢
 cases hr:c8 (vw x)with
 |false=>rw[hr,if_neg (by simp)]at h;simp at h
 |true=>
  rw[if_pos rfl];refine⟨hr,?_⟩;have:=qN (gV hr).2.2.2;simp only[vw,List.length_drop]at this;omega
theorem HS(b:List UInt8): ∀(m a:Nat) (out xs:List cC) (n e:Int),b.length-a≤m→a≤b.length→xo b a out=(xs,n,e)→e=0∨e=4→ ∃ys,xs=out++ys∧(∀l∈ys,c8 l=true)∧n≤a+274*ys.length∧a+6*ys.length≤n:=by
 intro m
 induction m with
 |zero=>
  intro a out xs n e hm ha h he;have e:a=b.length:=by omega
  subst e;rw[mF]at h
  cases h
  exact⟨[],by simp,by simp,by simp,by simp⟩
 |succ m ih=>
  intro a out xs n e hm ha h he;rcases jW ha out with⟨_,e2⟩|⟨hlt,_,e2⟩|e2|⟨hlt,h0,h1,p1,p2,e2⟩
  ·rw[e2]at h;cases h;exact⟨[],by simp,by simp,by simp,by simp⟩
  ·rw[e2]at h;cases h;exact⟨[],by simp,by simp,by simp,by simp⟩
  ·rw[e2]at h;cases h;rcases he with he|he<;>simp at he
  ·rw[e2]at h;obtain⟨ys,r1,r2,r3,r4⟩:=ih _ _ _ _ _ (by omega) p2 h he
   obtain⟨q1,q2⟩:=L5 h1;obtain⟨z1,z2,z3,z4,z5⟩:=vW h0;have z6:(dr (b.drop a)).1.length=sl (b.drop a):=by
    rw[z5];simp only[zI,List.length_take,List.length_drop]at z2⊢;omega
   refine⟨(jA (dr (b.drop a)).1).1::ys,by rw[r1];simp,?_,?_,?_⟩
   ·intro l hl;rcases List.mem_cons.1 hl with rfl|hl
    ·exact q1
    ·exact r2 l hl
   ·simp only[List.length_cons];omega
   ·simp only[List.length_cons];omega
theorem lO{b:List UInt8}{xs:List cC}{n e:Int}(h:dA b=(xs,n,e))(he:e=0∨e=4):(∀l∈xs,c8 l=true)∧n≤274*xs.length∧6*xs.length≤n:=by
 obtain⟨ys,e1,e2,e3,e4⟩:=HS b b.length 0 [] xs n e (by omega) (by omega) h he
 rw[List.nil_append]at e1;subst e1;exact⟨e2,by omega,by omega⟩
theorem wI{b:List UInt8}{xs:List cC}{n:Int}(h:dA b=(xs,n,0)):n=b.length:=(A6 b [] b.length 0 [] xs n (by omega) (by omega) h).1
theorem B7{b:List UInt8}{xs:List cC}{n:Int}(h:dA b=(xs,n,4)): ∃q:Nat,n=q∧q≤b.length∧dA (b.take q)=(xs,n,0):=by
 obtain⟨q,h1,_,h3,h4⟩:=MN b b.length 0 [] xs n (by omega) (by omega) h
 exact⟨q,h1,h3,h4⟩
theorem B6(b:List UInt8):(dA b).2.2=0∨(dA b).2.2=4∨(dA b).2.2=2:=MM b b.length 0 [] (by omega) (by omega)
theorem Ju{l:cC}(h:c8 l=true):vw (dM l)=l:=by
 obtain⟨⟨a0,a1⟩,⟨s0,s1⟩,⟨e0,e1⟩,_⟩:=gV h;obtain⟨ad,st,ex,ky⟩:=l;dsimp only at a0 a1 s0 s1 e0 e1;obtain⟨a,rfl⟩:=Int.eq_ofNat_of_zero_le a0;obtain⟨s,rfl⟩:=Int.eq_ofNat_of_zero_le (show 0≤st by omega)
 obtain⟨e,rfl⟩:=Int.eq_ofNat_of_zero_le e0;have l4:=fY a 4;have l7:=fY e 7;have hs:iE s 1= [UInt8.ofNat s]:=by
  simp only[iE,List.nil_append]
  congr 2
  omega
 have hr:dM ⟨(a:Int),(s:Int),(e:Int),ky⟩=iE a 4++([UInt8.ofNat s]++(iE e 7++ky)):=by
  simp only[dM,Int.toNat_natCast,hs,List.append_assoc]
 rw[hr];unfold vw;have p1:(iE a 4++([UInt8.ofNat s]++(iE e 7++ky))).take 4=iE a 4:=by
  rw[List.take_append_of_le_length (by omega),List.take_of_length_le (by omega)]
 have p2:(iE a 4++([UInt8.ofNat s]++(iE e 7++ky))).getD 4 0=UInt8.ofNat s:=by
  rw[List.getD_eq_getElem?_getD,List.getElem?_append_right (by omega),l4]
  rfl
 have p3:(iE a 4++([UInt8.ofNat s]++(iE e 7++ky))).drop 5=iE e 7++ky:=by
  rw[List.drop_append,l4,List.drop_eq_nil_of_le (by omega),List.nil_append]
  rfl
 have p4:(iE a 4++([UInt8.ofNat s]++(iE e 7++ky))).drop 12=ky:=by
  rw[show 12=5+7 by rfl,←cg,p3,List.drop_append,l7,List.drop_eq_nil_of_le (by omega)]
  rfl
 rw[p1,p2,p3,p4,List.take_append_of_le_length (by omega),List.take_of_length_le (by omega),nh 4 a (by omega),nh 7 e (by omega)]
 congr 1
 rw[cu];omega
theorem zb{l:cC}(h:c8 l=true):jA (dM l)=(l,0):=by
 have:=sJ h;unfold jA;rw[if_neg (by omega),Ju h,if_pos h]
theorem qz{d:List UInt8}{xs:List cC}{n:Int}(h:dA d=(xs,n,0)){l:cC}(hl:c8 l=true)(r:List UInt8)(m:Nat):
 (m<(cU (dM l)).length→(dA (d++(cU (dM l)).take m)).1=xs∧((dA (d++(cU (dM l)).take m)).2.2=0∨(dA (d++(cU (dM l)).take m)).2.2=4))∧
 dA (d++cU (dM l))=(xs++ [l],((d++cU (dM l)).length:Int),0):=by
 have hr:=sJ hl;constructor
 ·intro hm;have q:=(A6 d ((cU (dM l)).take m) d.length 0 [] xs n (by omega) (by omega) h).2
  rw[B8,q];by_cases h0:m=0
  ·subst h0;rw[cj,List.append_nil,mF];exact⟨rfl,.inl rfl⟩
  ·have e:((d++(cU (dM l)).take m).drop d.length)=(cU (dM l)).take m:=by simp
   rw[uh (by simp),if_pos (by simp;omega),e,if_pos (D6 (by omega) hm)]
   exact⟨rfl,.inr rfl⟩
 ·have q:=(A6 d (cU (dM l)) d.length 0 [] xs n (by omega) (by omega) h).2
  rw[B8,q];have e:((d++cU (dM l)).drop d.length)=cU (dM l):=by simp
  have e2:=Ch (x:=dM l) (by omega) []
  rw[List.append_nil]at e2;have hl2:=qS (dM l);rw[s7 (by simp;omega) (by rw[e,e2]) (by rw[e,e2,zb hl]),e,e2,zb hl]
  have e3:d.length+((6:Int)+((dM l).length:Int)).toNat=(d++cU (dM l)).length:=by simp;omega
  rw[e3,mF]
theorem Js:dA []=([],0,0):=rfl
def gO(n:List UInt8)(fs:List cK)(l:List cZ):cK:=match cQ l n with|some x=>fileAt fs x|none=>⟨[],0⟩
theorem gh{n:List UInt8}{fs:List cK}{l:List cZ}{x:Int}(h:cQ l n=some x):gO n fs l=fileAt fs x:=by unfold gO;rw[h]
theorem mf{n:List UInt8}{fs:List cK}{l:List cZ}(h:cQ l n=none):gO n fs l=⟨[],0⟩:=by unfold gO;rw[h]
theorem qW{k:Dk}(h:c9 k=true)(n:List UInt8):(eW k n).1=(gO n k.files k.now).data:=by
 unfold eW gO;rw[fK h]
 cases cQ k.now n<;>rfl
theorem jH{l:List cZ}{m:Nat}(h:yq l m){n:List UInt8}{x:Int}(hx:cQ l n=some x):0≤x∧x<m:=by
 unfold cQ at hx;rw[Option.map_eq_some_iff]at hx;obtain⟨e,he,rfl⟩:=hx;exact h e (List.mem_of_find?_eq_some he)
theorem Gy{n:List UInt8}{fs:List cK}{l:List cZ}{x:Int}(hin:yq l fs.length)(h0:0≤x)(h1:x<fs.length)(f:cK):gO n (fs.set x.toNat f) l=if cQ l n=some x then f else gO n fs l:=by
 unfold gO
 cases hy:cQ l n with
 |none=>rfl
 |some y=>
  have hr:=jH hin hy;by_cases e:y=x
  ·subst e;rw[if_pos rfl];exact sa h0 h1 f
  ·rw[if_neg (by simpa using e)]
   exact Ie h0 hr.1 e f
theorem tj(w:List Int)(n:List UInt8): ∀l:List cZ,cQ (l.map (gZ w)) n=(cQ l n).map (jf w)
 | []=>rfl
 |e::l=>by
  have ih:=tj w n l;unfold cQ at ih⊢;simp only[List.map_cons,List.find?_cons];have:decide ((gZ w e).name=n)=decide (e.name=n):=rfl;rw[this]
  cases decide (e.name=n)with
  |true=>rfl
  |false=>exact ih
theorem nS{l:List cZ}{n:List UInt8}{x:Int}(hx:cQ l n=some x):(⟨n,x⟩:cZ)∈l:=by
 unfold cQ at hx;rw[Option.map_eq_some_iff]at hx;obtain⟨e,he,rfl⟩:=hx;have h1:=List.mem_of_find?_eq_some he;have h2:=List.find?_some he;simp only[decide_eq_true_eq]at h2;subst h2;exact h1
theorem tp(k:Dk)(n:List UInt8):gO n (dz k).files (dz k).now=gO n k.files k.now:=by
 unfold gO
 show(match cQ (k.now.map (gZ (dj (k.now++k.kept)))) n with|some x=>fileAt (dz k).files x|none=>⟨[],0⟩)=_
 rw[tj]
 cases hx:cQ k.now n with
 |none=>rfl
 |some x=>exact Ce (F5 (nS hx)).2
theorem qV(k:Dk)(n:List UInt8):gO n (dz k).files (dz k).kept=gO n k.files k.kept:=by
 unfold gO
 show(match cQ (k.kept.map (gZ (dj (k.now++k.kept)))) n with|some x=>fileAt (dz k).files x|none=>⟨[],0⟩)=_
 rw[tj]
 cases hx:cQ k.kept n with
 |none=>rfl
 |some x=>exact Ce (JO (nS hx)).2
theorem Ib{l:List cZ}{n m:List UInt8}(h:n≠m):cQ (fc l m) n=cQ l n:=by
 induction l with
 |nil=>rfl
 |cons e l ih=>
  unfold fc cQ at ih⊢;by_cases e1:e.name=m
  ·rw[List.filter_cons_of_neg (by simp[e1])]
   rw[List.find?_cons_of_neg (by simp[e1];exact fun h2=>h h2.symm)]
   exact ih
  ·rw[List.filter_cons_of_pos (by simp[e1])]
   simp only[List.find?_cons]
   cases decide (e.name=n)with
   |true=>rfl
   |false=>exact ih
theorem p_{l:List cZ}{n:List UInt8}:cQ (fc l n) n=none:=fB.2 fun e he=>(lX.1 he).2
theorem xJ{l:List cZ}(hs:Fq l){n:List UInt8}(hn:cQ l n=none)(x:Int)(m:List UInt8):cQ (km l n x) m=if m=n then some x else cQ l m:=by
 have hs2:=FL hs (fB.1 hn) x;by_cases e:m=n
 ·subst e;rw[if_pos rfl,jI hs2];exact oH.2 (.inr rfl)
 ·rw[if_neg e]
  cases hy:cQ l m with
  |none=>
   rw[fB];intro a ha;rcases oH.1 ha with h|rfl
   ·exact fB.1 hy a h
   ·exact fun h=>e h.symm
  |some y=>
   rw[jI hs2];exact oH.2 (.inl (nS hy))
theorem Bg{n:List UInt8}{fs gs:List cK}{l:List cZ}(hin:yq l fs.length):gO n (fs++gs) l=gO n fs l:=by
 unfold gO
 cases hy:cQ l n with
 |none=>rfl
 |some y=>exact EJ (jH hin hy).1 (jH hin hy).2
theorem iC{k:Dk}(h:c9 k=true):yq k.now k.files.length∧yq k.kept k.files.length:=⟨(jm h).n.inn,(jm h).p.inn⟩
theorem sx{k:Dk}(h:c9 k=true){m:List UInt8}{x:Int}(hx:cQ k.now m=some x):eU k m=(eS k x ⟨(fileAt k.files x).data,(fileAt k.files x).data.length⟩,0):=by
 unfold eU;rw[fK h,hx]
theorem FI{k:Dk}(h:c9 k=true){m:List UInt8}(hx:cQ k.now m=none):eU k m=(k,5):=by
 unfold eU;rw[fK h,hx]
theorem Pz{k:Dk}(h:c9 k=true){m:List UInt8}{x:Int}(hx:cQ k.now m=some x){n:Nat}(hn:n≤(fileAt k.files x).data.length):xY k m n=(eS k x ⟨(fileAt k.files x).data.take n,n⟩,0):=by
 unfold xY;rw[fK h,hx];dsimp only;rw[if_neg (by omega),Int.toNat_natCast]
theorem jr{k:Dk}(h:c9 k=true){x:Int}(h0:0≤x)(h1:x<k.files.length)(f:cK)(n:List UInt8):
 gO n (eS k x f).files (eS k x f).now=(if cQ k.now n=some x then f else gO n k.files k.now)∧gO n (eS k x f).files (eS k x f).kept=(if cQ k.kept n=some x then f else gO n k.files k.kept):=
 ⟨Gy (iC h).1 h0 h1 f,Gy (iC h).2 h0 h1 f⟩
theorem wG{k:Dk}(h:c9 k=true){m n:List UInt8}(hne:n≠m):gO n (dU k m).1.files (dU k m).1.now=gO n k.files k.now∧gO n (dU k m).1.files (dU k m).1.kept=gO n k.files k.kept:=by
 unfold dU;rw[fK h]
 cases hx:cQ k.now m with
 |none=>exact⟨rfl,rfl⟩
 |some x=>
  dsimp only;rw[tp,qV];refine⟨?_,rfl⟩;unfold gO;rw[Ib hne]
theorem mn{k:Dk}(h:c9 k=true)(n:List UInt8):gO n (dR k).files (dR k).now=gO n k.files k.now∧gO n (dR k).files (dR k).kept=gO n k.files k.now:=by
 unfold dR;rw[fK h,tp,qV];exact⟨rfl,rfl⟩
theorem Iq{k:Dk}(h:c9 k=true)(keep:List Int)(dir:Bool)(n:List UInt8): ∃q,gO n (ep k keep dir).files (ep k keep dir).now=
 sg (gO n k.files (if dir then k.now else k.kept)) (mD (gO n k.files (if dir then k.now else k.kept)) q):=by
 have hL:dJ k dir=if dir then k.now else k.kept:=by unfold dJ;rw[fK h]
 have hr:=vm k keep dir
 cases hx:cQ (if dir then k.now else k.kept) n with
 |none=>
  refine⟨none,?_⟩;rw[mf hx];have:cQ (ep k keep dir).now n=none:=by
   rw[fB];intro e he;obtain⟨i,hi,rfl⟩:=List.mem_map.1 he;have hi:=List.mem_range.1 hi;rw[←hL]at hx;have:=fB.1 hx _ (List.getElem_mem hi);rw[List.getD_eq_getElem?_getD,List.getElem?_eq_getElem hi,Option.getD_some];exact this
  rw[mf this];rfl
 |some x=>
  have hm:=nS hx;rw[←hL]at hm;obtain⟨i,hi,he⟩:=List.mem_iff_getElem.1 hm;have hg:(dJ k dir).getD i default=⟨n,x⟩:=by rw[List.getD_eq_getElem?_getD,List.getElem?_eq_getElem hi,Option.getD_some,he]
  have hm2:(⟨n,(i:Int)⟩:cZ)∈(ep k keep dir).now:=by
   refine List.mem_map.2 ⟨i,List.mem_range.2 hi,?_⟩;rw[hg]
  refine⟨keep[i]?,?_⟩;rw[gh ((jI (jm hr).n.srt).2 hm2),gh hx]
  show((List.range (dJ k dir).length).map _).getD _ default=_
  rw[List.getD_eq_getElem?_getD,List.getElem?_map,Int.toNat_natCast,List.getElem?_range hi];simp only[Option.map_some,Option.getD_some,hg,fK h]
theorem EX(k:Dk)(keep:List Int)(dir:Bool):(ep k keep dir).kept=(ep k keep dir).now:=rfl
theorem uz{k:Dk}(h:c9 k=true)(n:List UInt8):fv (gO n k.files k.now)=true∧fv (gO n k.files k.kept)=true:=by
 have hr:=jm h;unfold gO;constructor
 ·cases hx:cQ k.now n with
  |none=>rfl
  |some x=>exact nU hr (.inl (nS hx))
 ·cases hx:cQ k.kept n with
  |none=>rfl
  |some x=>exact nU hr (.inr (nS hx))
theorem yg{k:Dk}(h:c9 k=true){m b:List UInt8}(hf:hF m=true)(h0:(c7 k m b).2=0):
 gO m (c7 k m b).1.files (c7 k m b).1.now=⟨(gO m k.files k.now).data++b,(gO m k.files k.now).safe⟩∧
 (gO m (c7 k m b).1.files (c7 k m b).1.kept=gO m k.files k.kept∨(gO m k.files k.kept=gO m k.files k.now∧gO m (c7 k m b).1.files (c7 k m b).1.kept=⟨(gO m k.files k.now).data++b,(gO m k.files k.now).safe⟩))∧
 (∀x,cQ k.now m=some x→(c7 k m b).1=eS k x ⟨(fileAt k.files x).data++b,(fileAt k.files x).safe⟩)∧
 (∀n,n≠m→cQ k.now m=none→gO n (c7 k m b).1.files (c7 k m b).1.now=gO n k.files k.now∧gO n (c7 k m b).1.files (c7 k m b).1.kept=gO n k.files k.kept):=by
 have hr:=jm h;unfold c7 at h0⊢;rw[fK h]at h0⊢;rw[if_neg (by rw[hf];decide)]at h0⊢
 cases hx:cQ k.now m with
 |none=>
  rw[hx]at h0;dsimp only at h0⊢;by_cases hc:k.files.length≥20∨b.length>20000
  ·rw[if_pos hc]at h0;simp at h0
  rw[if_neg hc];dsimp only;simp only[tp,qV];refine⟨?_,.inl ?_,fun x hx2=>by(cases hx2),fun n hn _=>⟨?_,?_⟩⟩
  ·rw[mf hx,gh (by rw[xJ hr.n.srt hx,if_pos rfl]),CX]
   try rfl
  ·exact Bg hr.p.inn
  ·unfold gO;rw[xJ hr.n.srt hx,if_neg hn];exact Bg (n:=n) hr.n.inn
  ·exact Bg hr.p.inn
 |some x=>
  rw[hx]at h0;dsimp only at h0⊢;by_cases hc:(fileAt k.files x).data.length+b.length>20000
  ·rw[if_pos hc]at h0;simp at h0
  rw[if_neg hc];have hin:=jH hr.n.inn hx;have q:=jr h hin.1 hin.2 ⟨(fileAt k.files x).data++b,(fileAt k.files x).safe⟩ m;rw[if_pos hx]at q;refine⟨by rw[q.1,gh hx],?_,fun y hy=>by cases hy;rfl,fun n hn hno=>by cases hno⟩
  rw[q.2];by_cases hk:cQ k.kept m=some x
  ·rw[if_pos hk,gh hx,gh hk];exact .inr ⟨rfl,rfl⟩
  ·rw[if_neg hk];exact .inl rfl
theorem vp{k:Dk}(h:c9 k=true){m b:List UInt8}(hf:hF m=true)(h1:k.files.length<20)(h2:(gO m k.files k.now).data.length+b.length≤20000):(c7 k m b).2=0:=by
 unfold c7;rw[fK h,if_neg (by rw[hf];decide)]
 cases hx:cQ k.now m with
 |none=>dsimp only;rw[if_neg (by omega)]
 |some x=>
  rw[gh hx]at h2;dsimp only;rw[if_neg (by omega)]
theorem vq{k:Dk}(h:c9 k=true){m b:List UInt8}(h0:(c7 k m b).2=0): ∃x,cQ (c7 k m b).1.now m=some x:=by
 obtain⟨x,hx⟩:=Fm k m b h0;exact⟨x,(jI (jm (append_right k m b)).n.srt).2 hx⟩
def TP(A:List cC→Prop)(b:List UInt8):Prop:=A (dA b).1∧((dA b).2.2=0∨(dA b).2.2=4)
def okF(A:List cC→Prop)(f:cK):Prop:= ∀n:Nat,f.safe≤n→n≤f.data.length→TP A (f.data.take n)
structure Rec(A:List cC→Prop)(k:Dk):Prop where
 r:c9 k=true
 n:okF A (gO nJ k.files k.now)
 p:okF A (gO nJ k.files k.kept)
theorem sP{A B:List cC→Prop}(h: ∀x,A x→B x){f:cK}(hf:okF A f):okF B f:=fun n h1 h2=>⟨h _ (hf n h1 h2).1,(hf n h1 h2).2⟩
theorem Rec.mono{A B:List cC→Prop}(h: ∀x,A x→B x){k:Dk}(hr:Rec A k):Rec B k:=⟨hr.r,sP h hr.n,sP h hr.p⟩
theorem wT{A:List cC→Prop}{f:cK}(hok:fv f=true)(hf:okF A f):TP A f.data:=by
 have h:=eL.1 hok;have:=hf f.data.length (by omega) (Nat.le_refl _)
 rwa[List.take_of_length_le (Nat.le_refl _)]at this
theorem lT{A:List cC→Prop}{b:List UInt8}(h:TP A b):okF A ⟨b,b.length⟩:=by
 intro n h1 h2;dsimp only at h1 h2⊢
 rwa[List.take_of_length_le (by omega)]
theorem F8{A:List cC→Prop}{f:cK}(hok:fv f=true)(hf:okF A f)(q:Option Int):okF A (sg f (mD f q)):=by
 have hl:=zt hok q;have h:=eL.1 hok;intro n h1 h2;simp only[sg,List.length_take]at h1 h2⊢;have e:n=(mD f q).toNat:=by omega
 rw[List.take_take,e,Nat.min_self];exact hf _ (by omega) (by omega)
theorem FZ{A:List cC→Prop}{k:Dk}(h:Rec A k):TP A (eW k nJ).1:=by
 rw[qW h.r];exact wT (uz h.r nJ).1 h.n
theorem za{A:List cC→Prop}{k:Dk}(h:Rec A k)(keep:List Int)(dir:Bool):Rec A (ep k keep dir):=by
 obtain⟨q,hq⟩:=Iq h.r keep dir nJ;have:okF A (gO nJ (ep k keep dir).files (ep k keep dir).now):=by
  rw[hq]
  cases dir with
  |true=>exact F8 (uz h.r nJ).1 h.n q
  |false=>exact F8 (uz h.r nJ).2 h.p q
 exact⟨vm _ _ _,this,by rw[EX];exact this⟩
theorem B3{A:List cC→Prop}{k:Dk}(hr:c9 k=true)(h:okF A (gO nJ k.files k.now)):Rec A (dR k):=by
 have q:=mn hr nJ;exact⟨gm _,by rw[q.1];exact h,by rw[q.2];exact h⟩
theorem B4{A:List cC→Prop}{k:Dk}(h:Rec A k)(m:List UInt8):Rec A (eU k m).1:=by
 have hs:=ie k m
 cases hx:cQ k.now m with
 |none=>rw[FI h.r hx];exact h
 |some x=>
  rw[sx h.r hx]at hs⊢;have hin:=jH (iC h.r).1 hx;have q:=jr h.r hin.1 hin.2 ⟨(fileAt k.files x).data,(fileAt k.files x).data.length⟩ nJ;refine⟨hs,?_,?_⟩
  ·rw[q.1];by_cases e:cQ k.now nJ=some x
   ·rw[if_pos e];have h1:=h.n;have h2:=(uz h.r nJ).1;rw[gh e]at h1 h2;exact lT (wT h2 h1)
   ·rw[if_neg e];exact h.n
  ·rw[q.2];by_cases e:cQ k.kept nJ=some x
   ·rw[if_pos e];have h1:=h.p;have h2:=(uz h.r nJ).2;rw[gh e]at h1 h2;exact lT (wT h2 h1)
   ·rw[if_neg e];exact h.p
structure Sd(k:Dk)(xs:List cC):Prop where
 r:c9 k=true
 f: ∃b n,gO nJ k.files k.now=⟨b,b.length⟩∧gO nJ k.files k.kept=⟨b,b.length⟩∧dA b=(xs,n,0)
theorem Sd.c{k:Dk}{xs:List cC}(h:Sd k xs):Rec (fun z=>z=xs) k:=by
 obtain⟨hr,b,n,h1,h2,h3⟩:=h;have:okF (fun z=>z=xs) ⟨b,b.length⟩:=lT ⟨by rw[h3],by rw[h3];exact .inl rfl⟩
 exact⟨hr,by rw[h1];exact this,by rw[h2];exact this⟩
theorem Sd.z{k:Dk}{xs:List cC}(h:Sd k xs):(dA (eW k nJ).1).2.2=0:=by
 obtain⟨hr,b,n,h1,h2,h3⟩:=h;rw[qW hr,h1]
 show(dA b).2.2=0
 rw[h3]
theorem Sd.read{k:Dk}{xs:List cC}(h:Sd k xs): ∃n:Int,dA (eW k nJ).1=(xs,n,0):=by
 have h1:=(FZ h.c).1;have h2:=h.z;generalize dA (eW k nJ).1=r at*
 obtain⟨a,b,c⟩:=r;dsimp only at h1 h2;exact⟨b,by rw[h1,h2]⟩
def n7(k:Dk):Prop:= ∀e∈k.now++k.kept,e.name=nJ∨e.name=nK
theorem mB{k:Dk}(h:n7 k):n7 (dz k):=by
 intro e he;rcases List.mem_append.1 he with h1|h1
 ·obtain⟨x,hx,rfl⟩:=List.mem_map.1 h1;exact h x (aG _ hx)
 ·obtain⟨x,hx,rfl⟩:=List.mem_map.1 h1;exact h x (aP _ hx)
theorem FK{l:List cZ}(hs:Fq l)(h: ∀e∈l,e.name=nJ∨e.name=nK):l.length≤2:=by
 match l,hs,h with
 | [],_,_=>simp
 | [a],_,_=>simp
 | [a,b],_,_=>simp
 |a::b::c::l,hs,h=>
  exfalso
  have h1:=pr hs (i:=0) (j:=1) (by simp) (by omega)
  have h2:=pr hs (i:=1) (j:=2) (by simp) (by omega)
  simp only[List.getElem_cons_zero,List.getElem_cons_succ]at h1 h2;rcases h a (by simp)with ea|ea<;>rcases h b (by simp)with eb|eb<;>rcases h c (by simp)with ec|ec<;>rw[ea,eb]at h1<;>rw[eb,ec]at h2<;>revert h1 h2<;>decide
theorem Ga{k:Dk}(hr:c9 k=true)(h:n7 k):k.files.length≤4:=by
 have h1:=FK (jm hr).n.srt fun e he=>h e (aG _ he)
 have h2:=FK (jm hr).p.srt fun e he=>h e (aP _ he)
 have h3:=(dP.1 hr).2.2.2.2;have h4:=Lr (k.now++k.kept);rw[h3,iU,List.length_append]at h4;omega
theorem lV{k:Dk}(h:n7 k):n7 (cP k):=by
 unfold cP;split
 ·exact h
 ·intro e he;simp[kR]at he
theorem D_{k:Dk}(h:n7 k){m b:List UInt8}(hm:m=nJ∨m=nK):n7 (c7 k m b).1:=by
 have h:=lV h;unfold c7;generalize cP k=d at*
 split
 ·exact h
 cases hx:cQ d.now m with
 |none=>
  dsimp only;split
  ·exact h
  refine mB fun e he=>?_
  rcases List.mem_append.1 he with h1|h1
  ·rcases oH.1 h1 with h2|rfl
   ·exact h e (aG _ h2)
   ·exact hm
  ·exact h e (aP _ h1)
 |some x=>
  dsimp only;split
  ·exact h
  ·exact h
theorem wW{k:Dk}(h:n7 k){m:List UInt8}:n7 (eU k m).1:=by
 have h:=lV h;unfold eU;generalize cP k=d at*
 cases hx:cQ d.now m<;>exact h
theorem Mu{k:Dk}(h:n7 k){m:List UInt8}{n:Int}:n7 (xY k m n).1:=by
 have h:=lV h;unfold xY;generalize cP k=d at*
 cases hx:cQ d.now m with
 |none=>exact h
 |some x=>
  dsimp only
  split<;>exact h
theorem oC{k:Dk}(h:n7 k){m:List UInt8}:n7 (dU k m).1:=by
 have h:=lV h;unfold dU;generalize cP k=d at*
 cases hx:cQ d.now m with
 |none=>exact h
 |some x=>
  refine mB fun e he=>?_
  rcases List.mem_append.1 he with h1|h1
  ·exact h e (aG _ (lX.1 h1).1)
  ·exact h e (aP _ h1)
theorem D'{k:Dk}(h:n7 k){m to:List UInt8}(hm:to=nJ∨to=nK):n7 (fh k m to).1:=by
 have h:=lV h;unfold fh;generalize cP k=d at*
 cases hx:cQ d.now m with
 |none=>exact h
 |some x=>
  dsimp only;split
  ·exact h
  refine mB fun e he=>?_
  rcases List.mem_append.1 he with h1|h1
  ·rcases oH.1 h1 with h2|rfl
   ·exact h e (aG _ (lX.1 (lX.1 h2).1).1)
   ·exact hm
  ·exact h e (aP _ h1)
theorem pP{k:Dk}(h:n7 k):n7 (dR k):=by
 have h:=lV h;unfold dR;generalize cP k=d at*
 refine mB fun e he=>?_
 rcases List.mem_append.1 he with h1|h1
 ·exact h e (aG _ h1)
 ·exact h e (aG _ h1)
theorem Hy{k:Dk}(h:n7 k)(keep:List Int)(dir:Bool):n7 (ep k keep dir):=by
 have h:=lV h;have hl: ∀e∈dJ k dir,e.name=nJ∨e.name=nK:=by
  intro e he;unfold dJ at he
  cases dir with
  |true=>exact h e (aG _ he)
  |false=>exact h e (aP _ he)
 intro e he;have:e∈(ep k keep dir).now:=by
  rcases List.mem_append.1 he with h1|h1
  ·exact h1
  ·exact h1
 obtain⟨i,hi,rfl⟩:=List.mem_map.1 this;have hi:=List.mem_range.1 hi;rw[List.getD_eq_getElem?_getD,List.getElem?_eq_getElem hi,Option.getD_some];have q:=hl _ (List.getElem_mem hi);exact q
theorem Ms{k:Dk}(h:n7 k)(c:iS)(h1:c.kind=1→c.name=nJ∨c.name=nK)(h3:c.kind=3→c.to=nJ∨c.to=nK):n7 (jt c k).1:=by
 unfold jt;split
 ·rename_i e;exact D_ h (h1 e)
 split
 ·exact wW h
 split
 ·rename_i e;exact D' h (h3 e)
 split
 ·exact oC h
 split
 ·exact pP h
 ·exact h
theorem J5{cs:List iS}(h1: ∀c∈cs,(c.kind=1→c.name=nJ∨c.name=nK)∧(c.kind=3→c.to=nJ∨c.to=nK)): ∀(n:Nat) {k:Dk},n7 k→n7 (kQ cs n k).1:=by
 induction cs with
 |nil=>intro n k h;exact h
 |cons c cs ih=>
  intro n k h
  cases n with
  |zero=>exact h
  |succ n=>
   unfold kQ;split
   ·exact ih (fun c hc=>h1 c (al _ hc)) n (Ms h c (h1 c (by simp)).1 (h1 c (by simp)).2)
   ·exact h
theorem Jr{A:List cC→Prop}{k:Dk}(h:Rec A k): ∃zs,A zs∧(kX k).2=0∧Sd (kX k).1 zs∧(n7 k→n7 (kX k).1)∧zs=(dA (eW k nJ).1).1:=by
 have hg:=FZ h;have key: ∀s:Dk,c9 s=true→ ∀b zs n,dA b=(zs,n,0)→gO nJ s.files s.now=⟨b,b.length⟩→Sd (dR (dU s nK).1) zs:=by
  intro s hs b zs n hb hf;have hq:=(wG hs (m:=nK) (n:=nJ) (by decide)).1
  have hrr:=jz s nK;have hsd:=mn hrr nJ;exact⟨gm _,b,n,by rw[hsd.1,hq,hf],by rw[hsd.2,hq,hf],hb⟩
 unfold kX;generalize hr:dA (eW k nJ).1=r at*
 obtain⟨zs,n,e⟩:=r;have hA:A zs:=by have:=hg.1;rwa[hr]at this
 have he:e=0∨e=4:=by have:=hg.2;rwa[hr]at this
 dsimp only;refine⟨zs,hA,?_⟩;by_cases h4:e=4
 ·subst h4;rw[if_pos rfl];obtain⟨q,rfl,hq1,hq2⟩:=B7 hr;refine⟨rfl,?_,fun hn=>pP (oC (wW (Mu hn))),rfl⟩
  rw[qW h.r]at hq1 hq2 hr
  cases hx:cQ k.now nJ with
  |none=>
   rw[mf hx]at hr;rw[Js]at hr
   cases hr
  |some x=>
   rw[gh hx]at hq1 hq2;have hin:=jH (iC h.r).1 hx;have hcr:=zW k nJ q;rw[Pz h.r hx hq1]at hcr⊢;dsimp only at hcr⊢;have hx2:cQ (eS k x ⟨(fileAt k.files x).data.take q,(q:Int)⟩).now nJ=some x:=hx;have hf2:fileAt (eS k x ⟨(fileAt k.files x).data.take q,(q:Int)⟩).files x=⟨(fileAt k.files x).data.take q,(q:Int)⟩:=sa hin.1 hin.2 _;generalize eS k x ⟨(fileAt k.files x).data.take q,(q:Int)⟩=c at*
   have hin2:=jH (iC hcr).1 hx2;have hsr:=ie c nJ;rw[sx hcr hx2]at hsr⊢;dsimp only at hsr⊢;refine key _ hsr ((fileAt k.files x).data.take q) zs q hq2 ?_;rw[(jr hcr hin2.1 hin2.2 _ nJ).1,if_pos hx2,hf2]
 ·rcases he with h0|h0
  ·subst h0;rw[if_neg h4,if_pos rfl];refine⟨rfl,?_,fun hn=>pP (oC (wW hn)),rfl⟩
   rw[qW h.r]at hr;have hsr:=ie k nJ
   cases hx:cQ k.now nJ with
   |none=>
    rw[mf hx]at hr;rw[FI h.r hx]at hsr⊢;exact key k h.r [] zs n hr (by rw[mf hx];rfl)
   |some x=>
    rw[gh hx]at hr;have hin:=jH (iC h.r).1 hx;rw[sx h.r hx]at hsr⊢;refine key _ hsr _ zs n hr ?_;rw[(jr h.r hin.1 hin.2 _ nJ).1,if_pos hx]
  ·exact absurd h0 h4
theorem add_eq{k:Dk}{xs:List cC}(h:Sd k xs){l:cC}(hl:c8 l=true):kT k l=
 ([⟨1,nJ,[],cU (dM l)⟩,⟨2,nJ,[],[]⟩]++(if iO k.now nJ<0∨iO k.now nJ≠iO k.kept nJ then[⟨5,[],[],[]⟩]else[]),0):=by
 obtain⟨n,hn⟩:=h.read;unfold kT;rw[hl,hn,fK h.c.r];rfl
theorem JW{f:cK}(hok:fv f=true){xs:List cC}(hf:okF (fun z=>z=xs) f){n:Int}(hn:dA f.data=(xs,n,0)){l:cC}(hl:c8 l=true):okF (fun z=>z=xs∨z=xs++ [l]) ⟨f.data++cU (dM l),f.safe⟩:=by
 have h:=eL.1 hok;intro m h1 h2;dsimp only at h1 h2⊢;simp only[List.length_append]at h2;by_cases hm:m≤f.data.length
 ·rw[List.take_append_of_le_length hm];have:=hf m h1 hm;exact⟨.inl this.1,this.2⟩
 ·obtain⟨j,rfl⟩:=Nat.le.dest (show f.data.length≤m by omega)
  rw[List.take_length_add_append];by_cases hj:j<(cU (dM l)).length
  ·have:=(qz hn hl [] j).1 hj;exact⟨.inl this.1,this.2⟩
  ·rw[List.take_of_length_le (by omega)]
   have e:=(qz hn hl [] j).2;exact⟨.inr (by rw[e]),.inl (by rw[e])⟩
def oneMore(xs:List cC)(l:cC):List cC→Prop:=fun z=>z=xs∨z=xs++ [l]
structure Ran(k:Dk)(xs:List cC)(l:cC)(cs:List iS)(n:Nat)(r:Dk×Nat):Prop where
 c:Rec (oneMore xs l) r.1
 all:r.2=cs.length→Sd r.1 (xs++ [l])
 z:r.2=0→r.1=k
 le:r.2≤n∧r.2≤cs.length
 stop:r.2<cs.length→r.2=0∨r.2=n
 room:k.files.length<20→(gO nJ k.files k.now).data.length≤19000→r.2=min n cs.length
 nms:n7 k→n7 r.1
theorem nN{l:cC}(hl:c8 l=true):(cU (dM l)).length≤274:=by
 have:=sJ hl;rw[qS];omega
theorem Nl{k:Dk}{xs:List cC}(h:Sd k xs){l:cC}(hl:c8 l=true)(n:Nat):Ran k xs l (kT k l).1 n (kQ (kT k l).1 n k):=by
 rw[add_eq h hl];have hr:=h.c.r;have hfew:=nN hl;obtain⟨w,hw⟩:=h.read;rw[qW hr]at hw;have hok:=uz hr nJ;have base:Rec (oneMore xs l) k:=h.c.mono fun _ h=> .inl h
 have hnm: ∀(t:Bool) (n:Nat),n7 k→n7 (kQ ([⟨1,nJ,[],cU (dM l)⟩,⟨2,nJ,[],[]⟩]++(if t=true then[⟨5,[],[],[]⟩]else[])) n k).1:=by
  intro t n hk;refine J5 (fun c hc=>?_) n hk
  have:c=⟨1,nJ,[],cU (dM l)⟩∨c=⟨2,nJ,[],[]⟩∨c=⟨5,[],[],[]⟩:=by
   cases t<;>simp at hc
   ·rcases hc with h|h
    ·exact .inl h
    ·exact .inr (.inl h)
   ·rcases hc with h|h|h
    ·exact .inl h
    ·exact .inr (.inl h)
    ·exact .inr (.inr h)
  rcases this with rfl|rfl|rfl
  ·exact⟨fun _=> .inl rfl,fun h=>by simp at h⟩
  ·exact⟨fun h=>by simp at h,fun h=>by simp at h⟩
  ·exact⟨fun h=>by simp at h,fun h=>by simp at h⟩
 generalize ht:decide (iO k.now nJ<0∨iO k.now nJ≠iO k.kept nJ)=t;have e:(if iO k.now nJ<0∨iO k.now nJ≠iO k.kept nJ then[(⟨5,[],[],[]⟩:iS)]else[])=if t=true then[(⟨5,[],[],[]⟩:iS)]else[]:=by rw[←ht];simp only[decide_eq_true_eq]
 rw[e];dsimp only;have hnm:=hnm t;have hlen:([(⟨1,nJ,[],cU (dM l)⟩:iS),⟨2,nJ,[],[]⟩]++(if t=true then[(⟨5,[],[],[]⟩:iS)]else[])).length=if t=true then 3 else 2:=by cases t<;>rfl
 have zero:n=0→kQ ([⟨1,nJ,[],cU (dM l)⟩,⟨2,nJ,[],[]⟩]++(if t=true then[(⟨5,[],[],[]⟩:iS)]else[])) n k=(k,0):=fun e=>by subst e;rfl
 by_cases hn0:n=0
 ·have hnm:=hnm n;rw[zero hn0]at hnm⊢;exact⟨base,fun h=>by rw[hlen]at h;cases t<;>simp at h,fun _=>rfl,⟨bt _,bt _⟩,fun _=> .inl rfl,fun _ _=>by simp[hn0],hnm⟩
 by_cases ha:(c7 k nJ (cU (dM l))).2=0
 ·obtain⟨n,rfl⟩: ∃m,n=m+1:=⟨n-1,by omega⟩
  obtain⟨f1,f2,f3,_⟩:=yg hr (m:=nJ) (by decide) ha
  obtain⟨x,hx⟩:=vq hr ha;have har:=append_right k nJ (cU (dM l));have hmore:=JW hok.1 h.c.n hw hl;have hrec1:Rec (oneMore xs l) (c7 k nJ (cU (dM l))).1:=by
   refine⟨har,by rw[f1];exact hmore,?_⟩
   rcases f2 with f2|⟨_,f2⟩
   ·rw[f2];exact sP (fun _ h=> .inl h) h.c.p
   ·rw[f2];exact hmore
  have hrec2:=B4 hrec1 nJ;have hin:=jH (iC har).1 hx;have hs:=sx har hx;have hsr:=ie (c7 k nJ (cU (dM l))).1 nJ;have hnewd:(fileAt (c7 k nJ (cU (dM l))).1.files x).data=(gO nJ k.files k.now).data++cU (dM l):=by
   rw[gh hx]at f1;rw[f1]
  have hrd:=(qz hw hl [] 0).2;have g1:gO nJ (eU (c7 k nJ (cU (dM l))).1 nJ).1.files (eU (c7 k nJ (cU (dM l))).1 nJ).1.now=⟨(gO nJ k.files k.now).data++cU (dM l),((gO nJ k.files k.now).data++cU (dM l)).length⟩:=by
   rw[hs]
   show gO nJ (eS _ _ _).files (eS _ _ _).now=_
   rw[(jr har hin.1 hin.2 _ nJ).1,if_pos hx,hnewd]
  have okn:okF (fun z=>z=xs++ [l]) ⟨(gO nJ k.files k.now).data++cU (dM l),((gO nJ k.files k.now).data++cU (dM l)).length⟩:=lT ⟨by rw[hrd],by rw[hrd];exact .inl rfl⟩
  have hkept:t=false→gO nJ (eU (c7 k nJ (cU (dM l))).1 nJ).1.files (eU (c7 k nJ (cU (dM l))).1 nJ).1.kept=⟨(gO nJ k.files k.now).data++cU (dM l),((gO nJ k.files k.now).data++cU (dM l)).length⟩:=by
   intro hf;rw[←ht,aQ]at hf
   cases hy:cQ k.now nJ with
   |none=>simp[iO,hy]at hf
   |some y=>
    have hz:cQ k.kept nJ=some y:=by
     cases hz:cQ k.kept nJ with
     |none=>
      have:=(jH (iC hr).1 hy).1;simp only[iO,hy,hz]at hf;omega
     |some z=>
      simp only[iO,hy,hz]at hf
      congr 1
      omega
    have e3:=f3 y hy;rw[e3]at hx;have hxy:x=y:=by
     have:cQ k.now nJ=some x:=hx;rw[hy]at this
     exact(au this).symm
    subst hxy;have hz2:cQ (c7 k nJ (cU (dM l))).1.kept nJ=some x:=by rw[e3];exact hz
    rw[hs]
    show gO nJ (eS _ _ _).files (eS _ _ _).kept=_
    rw[(jr har hin.1 hin.2 _ nJ).2,if_pos hz2,hnewd]
  have c1:jt ⟨1,nJ,[],cU (dM l)⟩ k=c7 k nJ (cU (dM l)):=by simp[jt]
  have c2:jt ⟨2,nJ,[],[]⟩ (c7 k nJ (cU (dM l))).1=eU (c7 k nJ (cU (dM l))).1 nJ:=by simp[jt]
  have e2:(eU (c7 k nJ (cU (dM l))).1 nJ).2=0:=by rw[hs]
  have hnm:=hnm (n+1);have hz1: ∀d:Dk,(eU (c7 k nJ (cU (dM l))).1 nJ).1=d→gO nJ d.files d.now=⟨(gO nJ k.files k.now).data++cU (dM l),((gO nJ k.files k.now).data++cU (dM l)).length⟩:=fun d e=>e▸g1
  simp only[List.cons_append,List.nil_append,kQ,c1,c2,ha,e2,if_true]at hnm⊢
  cases n with
  |zero=>
   simp only[kQ]at hnm⊢;refine⟨hrec1,fun h=>?_,fun h=>by simp at h,⟨by simp,by cases t<;>simp⟩,fun _=> .inr rfl,fun _ _=>by cases t<;>simp,hnm⟩
   cases t<;>simp at h
  |succ n=>
   simp only[kQ,c2,e2,if_true]at hnm⊢
   cases t with
   |false=>
    simp only[kQ,aF,aL]at hnm⊢;refine⟨hrec2,fun _=>⟨hsr,_,_,g1,hkept rfl,hrd⟩,fun h=>by simp at h,⟨by omega,by simp⟩,fun h=>by simp at h,fun _ _=>by simp<;>omega,hnm⟩
   |true=>
    have c3:jt ⟨5,[],[],[]⟩ (eU (c7 k nJ (cU (dM l))).1 nJ).1=(dR (eU (c7 k nJ (cU (dM l))).1 nJ).1,0):=by simp[jt]
    cases n with
    |zero=>
     simp only[kQ,if_true]at hnm⊢;exact⟨hrec2,fun h=>by simp at h,fun h=>by simp at h,⟨by simp,by simp⟩,fun _=> .inr rfl,fun _ _=>by simp,hnm⟩
    |succ n=>
     simp only[kQ,if_true,c3]at hnm⊢;have hd:=mn hsr nJ;refine⟨?_,fun _=>⟨gm _,_,_,by rw[hd.1];exact g1,by rw[hd.2];exact g1,hrd⟩,fun h=>by simp at h,⟨by simp<;>omega,by simp⟩,fun h=>by simp at h,fun _ _=>by simp<;>omega,hnm⟩
     exact(B3 hsr (by rw[g1];exact okn)).mono fun _ h=> .inr h
 ·obtain⟨n,rfl⟩: ∃m,n=m+1:=⟨n-1,by omega⟩
  have c1:jt ⟨1,nJ,[],cU (dM l)⟩ k=c7 k nJ (cU (dM l)):=by simp[jt]
  have e:kQ ([⟨1,nJ,[],cU (dM l)⟩,⟨2,nJ,[],[]⟩]++(if t=true then[(⟨5,[],[],[]⟩:iS)]else[])) (n+1) k=(k,0):=by
   simp only[List.cons_append,List.nil_append,kQ,c1,ha,aL]
  rw[e];refine⟨base,fun h=>by rw[hlen]at h;cases t<;>simp at h,fun _=>rfl,⟨bt _,bt _⟩,fun _=> .inl rfl,fun h1 h2=>?_,fun h=>h⟩
  exact absurd (vp hr (m:=nJ) (by decide) h1 (by omega)) ha
theorem Oy:Sd kR []:=⟨DJ,[],0,rfl,rfl,rfl⟩
theorem Mt:n7 kR:=by intro e he;simp[kR]at he
theorem Sd.few{k:Dk}{xs:List cC}(h:Sd k xs):(gO nJ k.files k.now).data.length≤274*xs.length∧ ∀l∈xs,c8 l=true:=by
 obtain⟨n,hn⟩:=h.read;rw[qW h.c.r]at hn;obtain⟨h1,h2,h3⟩:=lO hn (.inl rfl);have:=wI hn;exact⟨by omega,h1⟩
theorem D5(k:Dk):c9 (kX k).1=true:=by
 unfold kX;split
 ·exact gm _
 split
 ·exact gm _
 ·exact DJ
end Go.Proofs.YtoilfihojgeonaaGreatDoor
