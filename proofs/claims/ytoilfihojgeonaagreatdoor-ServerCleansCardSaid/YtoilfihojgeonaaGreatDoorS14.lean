/- What becomes of a message: the program's engine. -/
import Derived.Test.YtoilfihojgeonaaGreatDoorS13
import Derived.Test.YtoilfihojgeonaaGreatDoorS04
namespace Go.Proofs.YtoilfihojgeonaaGreatDoor
open BoEng Go
set_option maxRecDepth 100000
set_option linter.unusedSimpArgs false
set_option linter.unusedVariables false
theorem fW(u:eR):lG u= [.int .i64 u.c.server,.int .i64 u.c.probation,.slice (u.c.nets.map Net.d),.slice (u.t.map cC.d),.int .i64 u.m.op,.int .i64 u.m.htype,.int .i64 u.m.hlen,.int .i64 u.m.hops,.int .i64 u.m.xid,.int .i64 u.m.secs,.int .i64 u.m.flags,
 .int .i64 u.m.ci,.int .i64 u.m.yi,.int .i64 u.m.si,.int .i64 u.m.gi,.slice (u.m.chaddr.map cM),.slice (u.m.opts.map cN.d),.str u.k,.int .i64 u.net,.int .i64 u.sub,.int .i64 u.now]:=rfl
theorem Py(m:ee)(kind yi:Int):cD Tryz.prog 284 [.d m.d,.d (.int .i64 kind),.d (.int .i64 yi)] (.d (tz m kind yi).d) (fun _=>false):=by
 refine cD.bi Tryz.func284 [] ?_;by_cases h1:m.gi=0
 ·by_cases h2:kind=6
  ·simp-implicitDefEqProofs (disch:=try exact dd) [cB,h1,h2,tz]
  ·by_cases h3:m.ci=0
   ·by_cases h4:32768≤m.flags
    ·by_cases h5:m.flags≤65535
     ·have h6:m.flags<65536:=by omega
      simp-implicitDefEqProofs (disch:=try exact dd) [cB,h1,h2,h3,h4,h5,h6,tz]
     ·have h6: ¬m.flags<65536:=by omega
      simp-implicitDefEqProofs (disch:=try exact dd) [cB,h1,h2,h3,h4,h5,h6,tz]
    ·simp-implicitDefEqProofs (disch:=try exact dd) [cB,h1,h2,h3,h4,tz]
   ·simp-implicitDefEqProofs (disch:=try exact dd) [cB,h1,h2,h3,tz]
 ·simp-implicitDefEqProofs (disch:=try exact dd) [cB,h1,tz]
theorem wm(u:eR)(ok:Fp u):cD Tryz.prog 206 [.cptr (lG u)] (.d (.int .i64 (nc u))) (fun _=>false):=by
 refine cD.bi Tryz.func206 [] ?_;have q:=jT u.m.opts 50 ok.hm.2;unfold nc;rw[fW]
 generalize(fa u.m.opts 50).getD 0=v at*
 generalize(fa u.m.opts 50).isSome=b at*
 simp-implicitDefEqProofs (disch:=try exact dd) [cB]
 refine oc q ?_
 simp-implicitDefEqProofs (disch:=try exact dd) [cB]
theorem Oj(u:eR)(ok:Fp u)(a:Int):cD Tryz.prog 212 [.cptr (lG u),.d (.int .i64 a)] (.d (.bool (CJ u.c u.net a))) (fun _=>false):=by
 refine cD.bi Tryz.func212 [] ?_;have q:=qg u.c a ok.hc;unfold CJ;rw[fW]
 cases h:gr u.c a with
 |none=>
  rw[h,jF]at q
  simp-implicitDefEqProofs (disch:=try exact dd) [cB]
  refine oc q ?_
  simp-implicitDefEqProofs (disch:=try exact dd) [cB]
 |some x=>
  rw[h,iu]at q
  simp-implicitDefEqProofs (disch:=try exact dd) [cB]
  refine oc q ?_
  simp-implicitDefEqProofs (disch:=try exact dd) [cB]
theorem Fz(u:eR)(ok:Fp u)(time:Int)(ht:0≤time∧time≤4294967295):cD Tryz.prog 216 [.cptr (lG u),.d (.int .i64 time)] (.d (.int .i64 (mZ u.now time))) (fun _=>false):=by
 refine cD.bi Tryz.func216 [] ?_;have hn:=ok.now;have he:(if(1125899906842624:Int)<u.now+time then(1125899906842624:Int)else u.now+time)=mZ u.now time:=by
  unfold mZ
  split<;>omega
 rw[fW]
 simp-implicitDefEqProofs (disch:=try exact dd) [cB,he]
theorem sr(u:eR)(ok:Fp u)(kind a:Int)(hk:kindOk kind=true)(ha:dD a=true)(keep:Bool)(l:cC):
 cD Tryz.prog 207 [.cptr (lG u),.d (.int .i64 kind),.d (.int .i64 a),.d (.bool keep),.d l.d] (.d (gQ u kind a keep l).d) (fun _=>false):=by
 refine cD.bi Tryz.func207 [20009,50053,50059,50082,50087] ?_;have q1:=qg u.c a ok.hc;have hw: ∃net sub s,ou u.c net sub=some s∧iV u.c u.s kind a=s∧((gr u.c a=none∧net=u.net∧sub=u.sub∧True)∨(∃x,gr u.c a=some x∧ ¬a=0∧ ¬kind=6∧net=x.net∧sub=x.sub)∨
  (∃x,gr u.c a=some x∧a=0∧True∧net=u.net∧sub=u.sub)∨(∃x,gr u.c a=some x∧ ¬a=0∧kind=6∧net=u.net∧sub=u.sub)):=by
  cases h:gr u.c a with
  |none=>exact⟨u.net,u.sub,u.s,ok.sp,by simp[iV,h],.inl ⟨rfl,rfl,rfl,trivial⟩⟩
  |some x=>
   by_cases h1:a=0
   ·exact⟨u.net,u.sub,u.s,ok.sp,by simp[iV,h1],.inr (.inr (.inl ⟨x,rfl,h1,trivial,rfl,rfl⟩))⟩
   ·by_cases h2:kind=6
    ·exact⟨u.net,u.sub,u.s,ok.sp,by simp[iV,h2],.inr (.inr (.inr ⟨x,rfl,h1,h2,rfl,rfl⟩))⟩
    ·exact⟨x.net,x.sub,x.s,qT h,by simp[iV,h,h1,h2],.inr (.inl ⟨x,rfl,h1,h2,rfl,rfl⟩)⟩
 obtain⟨net,sub,s,hs,hso,hw⟩:=hw;have hf:=ok.fair hk ha hs;have q2:=Hb u.c net sub u.m kind a ok.hc ok.hm hf hs;obtain⟨hr,hl⟩:=rR hf hs;have q3:=xc (eI u.c s u.m kind a) (Ef hr);have hwm:(gz (eI u.c s u.m kind a)).2=0:=by
  unfold gz;rw[hr,if_neg (by decide),if_neg (by omega)]
 rw[hwm]at q3;have hyi:(eI u.c s u.m kind a).yi=if kind=6 then 0 else a:=rfl
 unfold gQ;rw[hso,←hyi];clear hr hl hwm hyi hso hf hk ha;generalize eI u.c s u.m kind a=r at*
 have q4:=Py u.m kind r.yi;generalize tz u.m kind r.yi=dst at*
 rw[fW];rcases hw with⟨hfc,rfl,rfl,h1⟩|⟨x,hfc,h1,h2,rfl,rfl⟩|⟨x,hfc,rfl,h1,rfl,rfl⟩|⟨x,hfc,h1,rfl,rfl,rfl⟩
 ·rw[hfc,jF]at q1
  simp-implicitDefEqProofs (disch:=try exact dd) [cB]
  refine oc q1 ?_
  simp-implicitDefEqProofs (disch:=try exact dd) [cB]
  refine oc q2 ?_
  simp-implicitDefEqProofs (disch:=try exact dd) [cB]
  refine oc q3 ?_
  simp-implicitDefEqProofs (disch:=try exact dd) [cB]
  refine oc q4 ?_
  simp-implicitDefEqProofs (maxSteps:=1000000) (disch:=try exact dd) [cB]
 ·rw[hfc,iu]at q1
  simp-implicitDefEqProofs (disch:=try exact dd) [cB]
  refine oc q1 ?_
  simp-implicitDefEqProofs (disch:=try exact dd) [cB,h1,h2]
  refine oc q2 ?_
  simp-implicitDefEqProofs (disch:=try exact dd) [cB,h1,h2]
  refine oc q3 ?_
  simp-implicitDefEqProofs (disch:=try exact dd) [cB,h1,h2]
  refine oc q4 ?_
  simp-implicitDefEqProofs (maxSteps:=1000000) (disch:=try exact dd) [cB,h1,h2]
 ·rw[hfc,iu]at q1
  simp-implicitDefEqProofs (disch:=try exact dd) [cB]
  refine oc q1 ?_
  simp-implicitDefEqProofs (disch:=try exact dd) [cB]
  refine oc q2 ?_
  simp-implicitDefEqProofs (disch:=try exact dd) [cB]
  refine oc q3 ?_
  simp-implicitDefEqProofs (disch:=try exact dd) [cB]
  refine oc q4 ?_
  simp-implicitDefEqProofs (maxSteps:=1000000) (disch:=try exact dd) [cB]
 ·rw[hfc,iu]at q1
  simp-implicitDefEqProofs (disch:=try exact dd) [cB]
  refine oc q1 ?_
  simp-implicitDefEqProofs (disch:=try exact dd) [cB,h1]
  refine oc q2 ?_
  simp-implicitDefEqProofs (disch:=try exact dd) [cB,h1]
  refine oc q3 ?_
  simp-implicitDefEqProofs (disch:=try exact dd) [cB,h1]
  refine oc q4 ?_
  simp-implicitDefEqProofs (maxSteps:=1000000) (disch:=try exact dd) [cB,h1]
theorem Bu{u:eR}{want a:Int}(h:lk u.c u.t u.net u.k want u.now=some a):dD a=true:=by
 obtain⟨x,hx,_⟩:=A4 (yb h);exact r_ hx
theorem FY:dD 0=true:=by decide
theorem LN(u:eR)(ok:Fp u):cD Tryz.prog 213 [.cptr (lG u)] (.d (Eb u).d) (fun _=>false):=by
 refine cD.bi Tryz.func213 [] ?_;have q:=sr u ok 6 0 rfl FY false qJ;unfold Eb;generalize gQ u 6 0 false qJ=r at*
 generalize lG u=C at*
 simp-implicitDefEqProofs (disch:=try exact dd) [cB]
 refine oc q ?_
 simp-implicitDefEqProofs (maxSteps:=1000000) (disch:=try exact dd) [cB]
theorem Dv(u:eR)(ok:Fp u):cD Tryz.prog 119 [.cptr (lG u)] (.d (s_ u).d) (fun _=>false):=by
 refine cD.bi Tryz.func119 [] ?_;have q:=sr u ok 5 0 rfl FY false qJ;unfold s_;generalize gQ u 5 0 false qJ=r at*
 rw[fW]at*
 by_cases h:u.m.ci=0
 ·simp-implicitDefEqProofs (disch:=try exact dd) [cB,h,jL,iG,qJ]
 ·simp-implicitDefEqProofs (disch:=try exact dd) [cB,h]
  refine oc q ?_
  simp-implicitDefEqProofs (maxSteps:=1000000) (disch:=try exact dd) [cB]
theorem Ak(u:eR)(ok:Fp u):cD Tryz.prog 115 [.cptr (lG u)] (.d (nX u).d) (fun _=>false):=by
 refine cD.bi Tryz.func115 [] ?_;have q1:=wm u ok;have q2:=Dl u.c u.t u.net u.k (nc u) u.now ok.hc ok.ht (by have:=ok.kl;omega)
 unfold nX
 cases h:lk u.c u.t u.net u.k (nc u) u.now with
 |none=>
  rw[h]at q2;rw[fW]at*
  simp-implicitDefEqProofs (disch:=try exact dd) [cB]
  refine oc q1 ?_
  simp-implicitDefEqProofs (disch:=try exact dd) [cB]
  refine oc q2 ?_
  simp-implicitDefEqProofs (disch:=try exact dd) [cB,jL,iG,qJ]
 |some a=>
  rw[h]at q2;have q3:=sr u ok 2 a rfl (Bu h) false qJ;dsimp only;generalize gQ u 2 a false qJ=r at*
  rw[fW]at*
  simp-implicitDefEqProofs (disch:=try exact dd) [cB]
  refine oc q1 ?_
  simp-implicitDefEqProofs (disch:=try exact dd) [cB]
  refine oc q2 ?_
  simp-implicitDefEqProofs (disch:=try exact dd) [cB]
  refine oc q3 ?_
  simp-implicitDefEqProofs (maxSteps:=1000000) (disch:=try exact dd) [cB]
theorem LS{c:dq}{x:du}(h:x∈cJ c): ∃(hn:x.net<c.nets.length) (hk:x.sub<c.nets[x.net].subs.length),c.nets[x.net].subs[x.sub]=x.s:=by
 unfold cJ at h
 split at h
 ·obtain⟨n,N,h1,h2,h3⟩:=rD 0 c.nets x h;rw[Nat.zero_add]at h1;subst h1;obtain⟨hn,rfl⟩:=List.getElem?_eq_some_iff.1 h2;obtain⟨hk,h4⟩:=List.getElem?_eq_some_iff.1 h3;exact⟨hn,hk,h4⟩
 ·cases h
theorem G2{c:dq}{x:du}(h:x∈cJ c):1≤x.s.time∧x.s.time≤2147483648:=by
 have hk:=(jj h).1;have hr:cJ c=cF c:=if_pos hk;rw[hr]at h;obtain⟨hf,_,_⟩:=iw hk;simp only[me,Bool.and_eq_true,List.all_eq_true]at hf;have h1:=hf.2 x h;simp only[vh,nV,Bool.and_eq_true]at h1;exact of_decide_eq_true h1.1.1.2
theorem JB{c:dq}(hk:dH c=0):1≤c.probation∧c.probation≤2147483648:=by
 obtain⟨hf,_,_⟩:=iw hk;simp only[me,Bool.and_eq_true]at hf;exact of_decide_eq_true hf.1.1.1.2
theorem I1(u:eR)(ok:Fp u)(a:Int)(hi:jD u.c u.t u.net u.k u.now a=true):cD Tryz.prog 214 [.cptr (lG u),.d (.int .i64 a)] (.d (o8 u a).d) (fun _=>false):=by
 refine cD.bi Tryz.func214 [50027,50029,50031,50033,50035,50040] ?_;obtain⟨x,hf,hx,h0⟩:=A4 hi;have hm:=(tk hf).2;obtain⟨hn,hk,hs⟩:=LS hm;have ht:=G2 hm;have ha:=r_ hf;have q1:=qg u.c a ok.hc;rw[hf,iu]at q1;have hn':(x.net:Int)<u.c.nets.length:=by omega
 have hk':(x.sub:Int)<u.c.nets[x.net].subs.length:=by omega
 have hso:=ok.hc.1;have hno:=(ok.hc.2 _ (List.getElem_mem hn)).1;have hend:kB u a=⟨a,1,mZ u.now x.s.time,u.k⟩:=by
  have:a≠0:=by omega
  simp[kB,iV,hf,this]
 have q2:=Fz u ok x.s.time (by omega)
 have q3:=BQ u.t (kB u a) ok.ht.l ok.ht.k (by have:=ok.kl;simp[kB];omega)
 have q4:=sr u ok 5 a rfl ha true (kB u a);unfold o8;rw[hend]at q3 q4⊢;generalize gQ u 5 a true _=r at*
 generalize mZ u.now x.s.time=en at*
 generalize hsv:gJ u.t _=sv at*
 clear hsv;rw[fW]at*
 by_cases he:sv.2=0
 ·rw[if_pos he];rw[he]at q3
  simp-implicitDefEqProofs (disch:=try exact dd) [cB,hn',hk',hs]
  refine oc q1 ?_
  simp-implicitDefEqProofs (disch:=try exact dd) [cB,hn',hk',hs]
  refine oc q2 ?_
  simp-implicitDefEqProofs (disch:=try exact dd) [cB,hn',hk',hs]
  refine oc q3 ?_
  simp-implicitDefEqProofs (disch:=try exact dd) [cB,hn',hk',hs]
  refine oc q4 ?_
  simp-implicitDefEqProofs (maxSteps:=1000000) (disch:=try exact dd) [cB]
 ·rw[if_neg he]
  simp-implicitDefEqProofs (disch:=try exact dd) [cB,hn',hk',hs]
  refine oc q1 ?_
  simp-implicitDefEqProofs (disch:=try exact dd) [cB,hn',hk',hs]
  refine oc q2 ?_
  simp-implicitDefEqProofs (disch:=try exact dd) [cB,hn',hk',hs]
  refine oc q3 ?_
  simp-implicitDefEqProofs (disch:=try exact dd) [cB,he,jL,iG,qJ]
theorem BL(u:eR)(ok:Fp u)(a:Int):cD Tryz.prog 215 [.cptr (lG u),.d (.int .i64 a)] (.tup [.d (gq u.t a).1.d,.d (.bool (oX u a))]) (fun _=>false):=by
 refine cD.bi Tryz.func215 [] ?_;have q1:=wo u.t a ok.ht.l ok.ht.k;have q2:=ot (gq u.t a).1 u.now;unfold oX;rw[fW]
 generalize(gq u.t a).1=l at*
 generalize(gq u.t a).2=b at*
 generalize hh:ir u.now l=h at*
 cases b with
 |false=>
  simp-implicitDefEqProofs (disch:=try exact dd) [cB]
  refine oc q1 ?_
  simp-implicitDefEqProofs (disch:=try exact dd) [cB,cC.d]
 |true=>
  by_cases hk:l.key=u.k
  ·simp-implicitDefEqProofs (disch:=try exact dd) [cB]
   refine oc q1 ?_
   simp-implicitDefEqProofs (disch:=try exact dd) [cB,hk,cC.d]
   refine oc (by simpa[cC.d,hk]using q2) ?_
   simp-implicitDefEqProofs (disch:=try exact dd) [cB,hk,cC.d]
  ·simp-implicitDefEqProofs (disch:=try exact dd) [cB]
   refine oc q1 ?_
   simp-implicitDefEqProofs (disch:=try exact dd) [cB,hk,cC.d]
theorem zG{t:List cC}{a:Int}(h:(gq t a).2=true):(gq t a).1.addr=a:=(zF h).2
theorem BM(u:eR)(ok:Fp u):cD Tryz.prog 117 [.cptr (lG u)] (.d (qd u).d) (fun _=>false):=by
 refine cD.bi Tryz.func117 [] ?_;have q1:=wm u ok;have q2:=BL u ok (nc u);have q3:=Fz u ok u.c.probation (by have:=JB ok.chk;omega)
 unfold qd uC;generalize mZ u.now u.c.probation=en at*
 cases hm:oX u (nc u)with
 |false=>
  rw[hm]at q2
  generalize(gq u.t (nc u)).1=l at*
  rw[fW]at*
  simp-implicitDefEqProofs (disch:=try exact dd) [cB]
  refine oc q1 ?_
  simp-implicitDefEqProofs (disch:=try exact dd) [cB]
  refine oc q2 ?_
  simp-implicitDefEqProofs (disch:=try exact dd) [cB,jL,iG,qJ]
 |true=>
  rw[hm]at q2;simp only[oX,Bool.and_eq_true,decide_eq_true_eq]at hm;have hadr:=zG hm.1.1;have hky:=hm.1.2;clear hm
  generalize(gq u.t (nc u)).1=l at*
  rw[fW]at*
  simp-implicitDefEqProofs (disch:=try exact dd) [cB]
  refine oc q1 ?_
  simp-implicitDefEqProofs (disch:=try exact dd) [cB]
  refine oc q2 ?_
  simp-implicitDefEqProofs (disch:=try exact dd) [cB]
  refine oc q3 ?_
  simp-implicitDefEqProofs (maxSteps:=1000000) (disch:=try exact dd) [cB,nC,iG,hadr,hky]
theorem BK(u:eR)(ok:Fp u):cD Tryz.prog 118 [.cptr (lG u)] (.d (pG u).d) (fun _=>false):=by
 refine cD.bi Tryz.func118 [50011,50021] ?_;have q2:=BL u ok u.m.ci;unfold pG uC
 cases hm:oX u u.m.ci with
 |false=>
  rw[hm]at q2
  generalize(gq u.t u.m.ci).1=l at*
  rw[fW]at*
  simp-implicitDefEqProofs (disch:=try exact dd) [cB]
  refine oc q2 ?_
  simp-implicitDefEqProofs (disch:=try exact dd) [cB,jL,iG,qJ]
 |true=>
  rw[hm]at q2;simp only[oX,Bool.and_eq_true,decide_eq_true_eq]at hm;have hadr:=zG hm.1.1;have hky:=hm.1.2;clear hm
  generalize(gq u.t u.m.ci).1=l at*
  rw[fW]at*
  simp-implicitDefEqProofs (disch:=try exact dd) [cB]
  refine oc q2 ?_
  simp-implicitDefEqProofs (maxSteps:=1000000) (disch:=try exact dd) [cB,nC,iG,hadr,hky]
set_option maxHeartbeats 2000000 in
theorem BJ(u:eR)(ok:Fp u):cD Tryz.prog 116 [.cptr (lG u)] (.d (pE u).d) (fun _=>false):=by
 refine cD.bi Tryz.func116 [50011,50016,50022,50030,50034,50038,50042,50047,50084] ?_;have hkl:=ok.kl;have q1:=GI u.m ok.hm;have q2:=E_ u.m ok.hm;have q3:=wo u.t (gC u.m) ok.ht.l ok.ht.k;have q4:=Dj u.c u.t u.net u.k (gC u.m) u.now ok.hc ok.ht (by omega)
 have q5:=Oj u ok (gC u.m);have q6:=LN u ok;have q7:=I1 u ok (gC u.m);have hr:=z9 u.m;unfold pE;generalize o8 u (gC u.m)=gv at*
 generalize Eb u=nk at*
 generalize hmy:jD u.c u.t u.net u.k u.now (gC u.m)=my at*
 clear hmy;generalize CJ u.c u.net (gC u.m)=inn at*
 generalize(gq u.t (gC u.m)).2=kn at*
 generalize(gq u.t (gC u.m)).1=l at*
 generalize gC u.m=a at*
 generalize jJ u.m=cl at*
 rw[fW]at*
 rcases hr with rfl|hr
 ·simp-implicitDefEqProofs (disch:=try exact dd) [cB,cC.d]
  refine oc q1 ?_
  simp-implicitDefEqProofs (disch:=try exact dd) [cB]
  refine oc q2 ?_
  simp-implicitDefEqProofs (disch:=try exact dd) [cB]
  refine oc q3 ?_
  simp-implicitDefEqProofs (disch:=try exact dd) [cB]
  refine oc q4 ?_
  simp-implicitDefEqProofs (maxSteps:=1000000) (disch:=try exact dd) [cB,jL,iG,qJ]
 have hc0: ¬cl=0:=by omega
 cases inn with
 |false=>
  simp-implicitDefEqProofs (disch:=try exact dd) [cB,cC.d]
  refine oc q1 ?_
  simp-implicitDefEqProofs (disch:=try exact dd) [cB]
  refine oc q2 ?_
  simp-implicitDefEqProofs (disch:=try exact dd) [cB]
  refine oc q3 ?_
  simp-implicitDefEqProofs (disch:=try exact dd) [cB]
  refine oc q4 ?_
  simp-implicitDefEqProofs (disch:=try exact dd) [cB,hc0]
  refine oc q5 ?_
  simp-implicitDefEqProofs (disch:=try exact dd) [cB,hc0]
  refine oc q6 ?_
  simp-implicitDefEqProofs (maxSteps:=1000000) (disch:=try exact dd) [cB,hc0]
 |true=>
 by_cases hc1:cl=1
 ·subst hc1
  cases my with
  |true=>
   simp-implicitDefEqProofs (disch:=try exact dd) [cB,cC.d]
   refine oc q1 ?_
   simp-implicitDefEqProofs (disch:=try exact dd) [cB]
   refine oc q2 ?_
   simp-implicitDefEqProofs (disch:=try exact dd) [cB]
   refine oc q3 ?_
   simp-implicitDefEqProofs (disch:=try exact dd) [cB]
   refine oc q4 ?_
   simp-implicitDefEqProofs (disch:=try exact dd) [cB]
   refine oc q5 ?_
   simp-implicitDefEqProofs (disch:=try exact dd) [cB]
   refine oc (q7 rfl) ?_
   simp-implicitDefEqProofs (maxSteps:=1000000) (disch:=try exact dd) [cB]
  |false=>
   simp-implicitDefEqProofs (disch:=try exact dd) [cB,cC.d]
   refine oc q1 ?_
   simp-implicitDefEqProofs (disch:=try exact dd) [cB]
   refine oc q2 ?_
   simp-implicitDefEqProofs (disch:=try exact dd) [cB]
   refine oc q3 ?_
   simp-implicitDefEqProofs (disch:=try exact dd) [cB]
   refine oc q4 ?_
   simp-implicitDefEqProofs (disch:=try exact dd) [cB]
   refine oc q5 ?_
   simp-implicitDefEqProofs (disch:=try exact dd) [cB]
   refine oc q6 ?_
   simp-implicitDefEqProofs (maxSteps:=1000000) (disch:=try exact dd) [cB]
 cases kn with
 |false=>
  simp-implicitDefEqProofs (disch:=try exact dd) [cB,cC.d]
  refine oc q1 ?_
  simp-implicitDefEqProofs (disch:=try exact dd) [cB]
  refine oc q2 ?_
  simp-implicitDefEqProofs (disch:=try exact dd) [cB]
  refine oc q3 ?_
  simp-implicitDefEqProofs (disch:=try exact dd) [cB]
  refine oc q4 ?_
  simp-implicitDefEqProofs (disch:=try exact dd) [cB,hc0,hc1]
  refine oc q5 ?_
  simp-implicitDefEqProofs (maxSteps:=1000000) (disch:=try exact dd) [cB,hc0,hc1,jL,iG,qJ]
 |true=>
 by_cases hw:l.key=u.k∧l.state≠3∧my=true
 ·obtain⟨h1,h2,rfl⟩:=hw;have h2: ¬l.state=3:=h2
  simp-implicitDefEqProofs (disch:=try exact dd) [cB,cC.d]
  refine oc q1 ?_
  simp-implicitDefEqProofs (disch:=try exact dd) [cB]
  refine oc q2 ?_
  simp-implicitDefEqProofs (disch:=try exact dd) [cB]
  refine oc q3 ?_
  simp-implicitDefEqProofs (disch:=try exact dd) [cB]
  refine oc q4 ?_
  simp-implicitDefEqProofs (disch:=try exact dd) [cB,hc0,hc1]
  refine oc q5 ?_
  simp-implicitDefEqProofs (disch:=try exact dd) [cB,hc0,hc1,h1,h2]
  refine oc (q7 rfl) ?_
  simp-implicitDefEqProofs (maxSteps:=1000000) (disch:=try exact dd) [cB,hc0,hc1,h1,h2]
 ·have hw2: ¬l.key=u.k∨(l.key=u.k∧l.state=3)∨(l.key=u.k∧ ¬l.state=3∧my=false):=by
   by_cases h1:l.key=u.k<;>by_cases h2:l.state=3<;>cases my<;>simp_all
  rw[if_neg hw];clear hw;rcases hw2 with h1|⟨h1,h2⟩|⟨h1,h2,rfl⟩<;>(
   simp-implicitDefEqProofs (disch:=try exact dd) [cB,cC.d]
   refine oc q1 ?_
   simp-implicitDefEqProofs (disch:=try exact dd) [cB]
   refine oc q2 ?_
   simp-implicitDefEqProofs (disch:=try exact dd) [cB]
   refine oc q3 ?_
   simp-implicitDefEqProofs (disch:=try exact dd) [cB]
   refine oc q4 ?_
   simp-implicitDefEqProofs (disch:=try exact dd) [cB,hc0,hc1]
   refine oc q5 ?_
   (first|simp-implicitDefEqProofs (disch:=try exact dd) [cB,hc0,hc1,h1,h2]|simp-implicitDefEqProofs (disch:=try exact dd) [cB,hc0,hc1,h1])
   refine oc q6 ?_
   simp-implicitDefEqProofs (maxSteps:=1000000) (disch:=try exact dd) [cB,hc0,hc1])
theorem Kz(l:List cN):0≤f_ l∧f_ l≤8:=by
 unfold f_;split
 ·split<;>omega
 ·omega
set_option maxHeartbeats 4000000 in
theorem Bj(c:dq)(t:List cC)(m:ee)(iface now:Int)(hc:dW c)(ht:S_ t)(hm:ez m):
 cD Tryz.prog 65 [.d c.d,.d (.slice (t.map cC.d)),.d m.d,.d (.int .i64 iface),.d (.int .i64 now)] (.d (cL c t m iface now).d) (fun _=>false):=by
 refine cD.bi Tryz.func65 [20005,20007,20075] ?_;have q1:=nZ c hc;have q2:=jP t ht.l ht.k;have q3:=Bt m c.server hm;have q4:=keyOf m hm;have q5:=DX c m iface hc hm;have q6:=rM m.opts hm.2;have hkl:=KA m hm;unfold cL
 cases hf:xN c t m now with
 |false=>
  rw[if_neg (by simp)]
  by_cases h1:dH c=0
  ·rw[h1]at q1
   cases h2:dk t with
   |false=>
    rw[h2]at q2
    simp-implicitDefEqProofs (disch:=try exact dd) [cB]
    refine oc q1 ?_
    simp-implicitDefEqProofs (disch:=try exact dd) [cB]
    refine oc q2 ?_
    simp-implicitDefEqProofs (maxSteps:=1000000) (disch:=try exact dd) [cB,jL,iG,qJ]
   |true=>
   rw[h2]at q2;by_cases h3:now<0
   ·simp-implicitDefEqProofs (disch:=try exact dd) [cB]
    refine oc q1 ?_
    simp-implicitDefEqProofs (disch:=try exact dd) [cB]
    refine oc q2 ?_
    simp-implicitDefEqProofs (maxSteps:=1000000) (disch:=try exact dd) [cB,h3,jL,iG,qJ]
   by_cases h4:1125899906842624<now
   ·simp-implicitDefEqProofs (disch:=try exact dd) [cB]
    refine oc q1 ?_
    simp-implicitDefEqProofs (disch:=try exact dd) [cB]
    refine oc q2 ?_
    simp-implicitDefEqProofs (maxSteps:=1000000) (disch:=try exact dd) [cB,h3,h4,jL,iG,qJ]
   by_cases h5:m.op=1
   ·have h6:jG m c.server=true:=by
     have h7:(0:Int)≤now∧now≤1125899906842624:=by omega
     unfold xN at hf;rw[h1,h2,h5,decide_eq_true h7]at hf
     simpa using hf
    rw[h6]at q3;simp only[ee.iR,h5]at q3
    simp-implicitDefEqProofs (disch:=try exact dd) [cB]
    refine oc q1 ?_
    simp-implicitDefEqProofs (disch:=try exact dd) [cB]
    refine oc q2 ?_
    simp-implicitDefEqProofs (disch:=try exact dd) [cB,h3,h4,h5]
    refine oc q3 ?_
    simp-implicitDefEqProofs (maxSteps:=1000000) (disch:=try exact dd) [cB,jL,iG,qJ]
   ·simp-implicitDefEqProofs (disch:=try exact dd) [cB]
    refine oc q1 ?_
    simp-implicitDefEqProofs (disch:=try exact dd) [cB]
    refine oc q2 ?_
    simp-implicitDefEqProofs (maxSteps:=1000000) (disch:=try exact dd) [cB,h3,h4,h5,jL,iG,qJ]
  ·simp-implicitDefEqProofs (disch:=try exact dd) [cB]
   refine oc q1 ?_
   simp-implicitDefEqProofs (maxSteps:=1000000) (disch:=try exact dd) [cB,h1,jL,iG,qJ]
 |true=>
 have hf':=hf;simp only[xN,Bool.and_eq_true,decide_eq_true_eq,Bool.not_eq_true']at hf';obtain⟨⟨⟨⟨h1,h2⟩,h3⟩,h5⟩,h6⟩:=hf';have h3a: ¬now<0:=by omega
 have h4: ¬1125899906842624<now:=by omega
 rw[h1]at q1;rw[h2]at q2;rw[h6]at q3;simp only[ee.iR,h5]at q3 q4 q5;rcases Classical.em (¬(oK m).2=0)with hk|hk
 ·rw[if_neg (fun h=>hk h.2)]
  unfold r9 at q5
  generalize(gI c m iface).isSome=fb at*
  simp-implicitDefEqProofs (disch:=try exact dd) [cB]
  refine oc q1 ?_
  simp-implicitDefEqProofs (disch:=try exact dd) [cB]
  refine oc q2 ?_
  simp-implicitDefEqProofs (disch:=try exact dd) [cB,h3a,h4,h5]
  refine oc q3 ?_
  simp-implicitDefEqProofs (disch:=try exact dd) [cB]
  refine oc q4 ?_
  simp-implicitDefEqProofs (disch:=try exact dd) [cB]
  refine oc q5 ?_
  simp-implicitDefEqProofs (maxSteps:=1000000) (disch:=try exact dd) [cB,hk,jL,iG,qJ]
 have hk:(oK m).2=0:=Classical.not_not.1 hk;rw[if_pos ⟨rfl,hk⟩];rw[hk]at q4
 cases hs:gI c m iface with
 |none=>
  rw[hs,jF]at q5
  simp-implicitDefEqProofs (disch:=try exact dd) [cB]
  refine oc q1 ?_
  simp-implicitDefEqProofs (disch:=try exact dd) [cB]
  refine oc q2 ?_
  simp-implicitDefEqProofs (disch:=try exact dd) [cB,h3a,h4,h5]
  refine oc q3 ?_
  simp-implicitDefEqProofs (disch:=try exact dd) [cB]
  refine oc q4 ?_
  simp-implicitDefEqProofs (disch:=try exact dd) [cB]
  refine oc q5 ?_
  simp-implicitDefEqProofs (maxSteps:=1000000) (disch:=try exact dd) [cB,jL,iG,qJ]
 |some x=>
  rw[hs,iu]at q5;obtain⟨_,hsp,hrm⟩:=po hs;obtain⟨u,hu⟩: ∃u:eR,u=⟨c,t,m,(oK m).1,x.net,x.sub,x.s,now⟩:=⟨_,rfl⟩;have ok:Fp u:=by
   subst hu;exact⟨hc,ht,hm,h1,h2,hrm,hsp,by dsimp only;omega,h3⟩
  have z1:=Ak u ok;have z2:=BJ u ok;have z3:=BM u ok;have z4:=BK u ok;have z5:=Dv u ok;dsimp only;rw[←hu];have hum:f_ u.m.opts=f_ m.opts:=by rw[hu]
  have hT:lG u=cells c.d++ [.slice (t.map cC.d)]++cells m.d++ [.str (oK m).1,.int .i64 x.net,.int .i64 x.sub,.int .i64 now]:=by rw[hu];rfl
  unfold uO;rw[hum];have hkr:=Kz m.opts;generalize f_ m.opts=kd at*
  simp only[dq.iR,eu,ee.iR,h5,List.cons_append,List.nil_append]at hT;have hkd:kd=1∨kd=3∨kd=4∨kd=7∨kd=8∨kd=0∨kd=2∨kd=5∨kd=6:=by omega
  generalize nX u=a1 at*
  generalize pE u=a2 at*
  generalize qd u=a3 at*
  generalize pG u=a4 at*
  generalize s_ u=a5 at*
  rw[hT]at z1 z2 z3 z4 z5;clear hT hum hu ok;rcases hkd with rfl|rfl|rfl|rfl|rfl|rfl|rfl|rfl|rfl<;>(
   simp-implicitDefEqProofs (disch:=try exact dd) [cB]
   refine oc q1 ?_
   simp-implicitDefEqProofs (disch:=try exact dd) [cB]
   refine oc q2 ?_
   simp-implicitDefEqProofs (disch:=try exact dd) [cB,h3a,h4,h5]
   refine oc q3 ?_
   simp-implicitDefEqProofs (disch:=try exact dd) [cB]
   refine oc q4 ?_
   simp-implicitDefEqProofs (disch:=try exact dd) [cB]
   refine oc q5 ?_
   simp-implicitDefEqProofs (disch:=try exact dd) [cB]
   refine oc q6 ?_
   first
   |(simp-implicitDefEqProofs (maxSteps:=1000000) (disch:=try exact dd) [cB,jL,iG,qJ];done)
   |(simp-implicitDefEqProofs (disch:=try exact dd) [cB]
     first|refine oc z1 ?_|refine oc z2 ?_|refine oc z3 ?_|refine oc z4 ?_|refine oc z5 ?_
     simp-implicitDefEqProofs (maxSteps:=1000000) (disch:=try exact dd) [cB]))
structure cK where
 data:List UInt8
 safe:Int
 deriving DecidableEq
instance:Inhabited cK:=⟨⟨[],0⟩⟩
def cK.d(f:cK):DV:= .agg [.slice (f.data.map cM),.int .i64 f.safe]
structure cZ where
 name:List UInt8
 file:Int
 deriving DecidableEq
instance:Inhabited cZ:=⟨⟨[],0⟩⟩
def cZ.d(e:cZ):DV:= .agg [.str e.name,.int .i64 e.file]
structure Dk where
 files:List cK
 now:List cZ
 kept:List cZ
 deriving DecidableEq
def Dk.d(k:Dk):DV:= .agg [.slice (k.files.map cK.d),.slice (k.now.map cZ.d),.slice (k.kept.map cZ.d)]
def kR:Dk:=⟨[],[],[]⟩
@[simp] theorem Fa(f:cK):cells f.d= [.slice (f.data.map cM),.int .i64 f.safe]:=rfl
@[simp] theorem QI(e:cZ):cells e.d= [.str e.name,.int .i64 e.file]:=rfl
@[simp] theorem SU(k:Dk):cells k.d= [.slice (k.files.map cK.d),.slice (k.now.map cZ.d),.slice (k.kept.map cZ.d)]:=rfl
def Aw(l:List cK):Prop:=l.length≤100000∧ ∀f∈l,f.data.length≤100000
def lK(l:List cZ):Prop:=l.length≤100000∧ ∀e∈l,e.name.length≤9223372036854775807
def kJ(k:Dk):Prop:=Aw k.files∧lK k.now∧lK k.kept
theorem lt_irrefl: ∀a:List UInt8,strLt a a=false
 | []=>rfl
 |a::l=>by
  have:=lt_irrefl l;simp only[strLt]at this;simp[strLt,Op.bytesLess,this]
theorem Gh(a b:UInt8)(x y:List UInt8):strLt (a::x) (b::y)=(decide (a<b)||(a==b&&strLt x y)):=rfl
theorem lt_trans: ∀a b c:List UInt8,strLt a b=true→strLt b c=true→strLt a c=true
 | [],[],c,h,_=>by simp[strLt,Op.bytesLess]at h
 | [],b::y,[],_,h=>by simp[strLt,Op.bytesLess]at h
 | [],b::y,c::z,_,_=>rfl
 |a::x,[],c,h,_=>by simp[strLt,Op.bytesLess]at h
 |a::x,b::y,[],_,h=>by simp[strLt,Op.bytesLess]at h
 |a::x,b::y,c::z,h1,h2=>by
  have ih:=lt_trans x y z;rw[Gh]at h1 h2⊢;simp only[Bool.or_eq_true,Bool.and_eq_true,decide_eq_true_eq,br]at h1 h2⊢;rcases h1 with h1|⟨h1,h1'⟩<;>rcases h2 with h2|⟨h2,h2'⟩
  ·exact .inl (UInt8.lt_trans h1 h2)
  ·subst h2;exact .inl h1
  ·subst h1;exact .inl h2
  ·subst h1 h2;exact .inr ⟨rfl,ih h1' h2'⟩
theorem Ku: ∀a b:List UInt8,strLt a b=false→a≠b→strLt b a=true
 | [],[],_,h=>absurd rfl h
 | [],b::y,h,_=>by simp[strLt,Op.bytesLess]at h
 |a::x,[],_,_=>rfl
 |a::x,b::y,h1,h2=>by
  have ih:=Ku x y;rw[Gh]at h1⊢;simp only[Bool.or_eq_false_iff,Bool.and_eq_false_iff,aQ,beq_eq_false_iff_ne,Bool.or_eq_true,Bool.and_eq_true,decide_eq_true_eq,br]at h1⊢;obtain⟨h3,h4⟩:=h1;by_cases e:a=b
  ·subst e;refine .inr ⟨rfl,ih ?_ (fun e=>h2 (by rw[e]))⟩
   rcases h4 with h4|h4
   ·exact absurd rfl h4
   ·exact h4
  ·refine .inl ?_;rw[UInt8.lt_iff_toNat_lt]at h3⊢;have:a.toNat≠b.toNat:=fun h=>e (bK h)
   omega
def hF(n:List UInt8):Bool:=decide (1≤n.length∧n.length≤16)
def rn(l:List cZ)(x:Int):Bool:=l.any fun e=>decide (e.file=x)
def Cl(l:List cZ)(many:Int)(i:Nat):Bool:=
 hF (l.getD i default).name&&decide (0≤(l.getD i default).file∧(l.getD i default).file<many)&& !rn (l.take i) (l.getD i default).file&&(decide (i=0)||strLt (l.getD (i-1) default).name (l.getD i default).name)
def fF(l:List cZ)(many:Int):Bool:=(List.range l.length).all (Cl l many)
theorem CL{l:List cZ}{x:Int}:rn l x=true↔ ∃e∈l,e.file=x:=by simp[rn]
theorem H4{l:List cZ}{x:Int}{i:Nat}(h:i<l.length):rn (l.take (i+1)) x=(rn (l.take i) x||decide (l[i].file=x)):=by
 unfold rn;rw[List.take_succ_eq_append_getElem h,List.any_append];simp
theorem nu{l:List cZ}{many:Int}{i:Nat}(h:i<l.length):Cl l many i=(hF l[i].name&&decide (0≤l[i].file∧l[i].file<many)&& !rn (l.take i) l[i].file&&(decide (i=0)||strLt (l.getD (i-1) default).name l[i].name)):=by
 simp only[Cl,List.getD_eq_getElem?_getD,List.getElem?_eq_getElem h,Option.getD_some]
theorem jU{l:List cZ}{many:Int}:fF l many=true↔ ∀i,i<l.length→Cl l many i=true:=by
 unfold fF;rw[List.all_eq_true];simp only[List.mem_range]
theorem ku{l:List cZ}{many:Int}{i:Nat}(h:i<l.length)(hn:Cl l many i=false):fF l many=false:=by
 rw[aM];intro h2;rw[jU.1 h2 i h]at hn
 cases hn
def dj(l:List cZ):List Int:=l.foldl (fun w e=>if w.contains e.file then w else w++ [e.file]) []
def mg(w:List Int)(x:Int):List Int:=if w.contains x then w else w++ [x]
theorem ix(l:List cZ)(e:cZ):dj (l++ [e])=mg (dj l) e.file:=by simp[dj,mg]
theorem Ix:dj []= []:=rfl
theorem Cq{w:List Int}{x y:Int}:y∈mg w x↔y∈w∨y=x:=by
 unfold mg;split
 ·rename_i h;have h:x∈w:=by simpa using h
  exact⟨fun h=> .inl h,fun h2=>h2.elim id fun e=>e▸h⟩
 ·simp
theorem iW{α:Type}{p:List α→Prop}(h0:p [])(hs: ∀l x,p l→p (l++ [x])): ∀l,p l:=by
 intro l;have: ∀n (l:List α),l.length=n→p l:=by
  intro n
  induction n with
  |zero=>intro l h;rw[List.eq_nil_of_length_eq_zero h];exact h0
  |succ n ih=>
   intro l h;have hne:l≠ []:=fun e=>by subst e;simp at h
   rw[←bE hne];exact hs _ _ (ih _ (by simp[h]))
 exact this l.length l rfl
theorem iX{l:List cZ}{x:Int}:x∈dj l↔ ∃e∈l,e.file=x:=by
 induction l using iW with
 |h0=>simp[dj]
 |hs l e ih=>
  rw[ix,Cq,ih];constructor
  ·rintro(⟨e',h,rfl⟩|rfl)
   ·exact⟨e',by simp[h],rfl⟩
   ·exact⟨e,by simp,rfl⟩
  ·rintro⟨e',h,rfl⟩;rcases List.mem_append.1 h with h|h
   ·exact .inl ⟨e',h,rfl⟩
   ·simp at h;subst h;exact .inr rfl
theorem Fb(l:List cZ):(dj l).Nodup:=by
 induction l using iW with
 |h0=>simp[dj]
 |hs l e ih=>
  rw[ix];unfold mg;split
  ·exact ih
  ·rename_i h;have h:e.file∉dj l:=by simpa using h
   rw[List.nodup_append];refine⟨ih,by simp,fun a ha b hb=>?_⟩
   simp at hb;subst hb;exact fun e2=>h (e2▸ha)
theorem tL(w:List Int)(x:Int): ∃r,mg w x=w++r:=by
 unfold mg;split
 ·exact⟨[],by simp⟩
 ·exact⟨[x],rfl⟩
theorem Dg(l k:List cZ): ∃r,dj (l++k)=dj l++r:=by
 induction k using iW with
 |h0=>exact⟨[],by simp⟩
 |hs k e ih=>
  obtain⟨r,hr⟩:=ih;rw[←List.append_assoc,ix,hr];obtain⟨r2,h2⟩:=tL (dj l++r) e.file;exact⟨r++r2,by rw[h2,List.append_assoc]⟩
def jf(w:List Int)(x:Int):Int:=(w.idxOf x:Nat)
theorem wM{w r:List Int}{x:Int}(h:x∈w):jf (w++r) x=jf w x:=by
 unfold jf;rw[List.idxOf_append,if_pos h]
theorem JD{w:List Int}{x:Int}(h:x∉w):jf (w++ [x]) x=w.length:=by
 unfold jf;rw[List.idxOf_append,if_neg h];simp
theorem B_{w:List Int}{x:Int}(h:x∈w):0≤jf w x∧jf w x<w.length:=by
 unfold jf;have:=List.idxOf_lt_length_iff.2 h;omega
theorem vU{w:List Int}{x:Int}(h:x∈w):w[(jf w x).toNat]? =some x:=by
 unfold jf;have:=List.idxOf_lt_length_iff.2 h;rw[Int.toNat_natCast,List.getElem?_eq_getElem this,List.getElem_idxOf]
theorem Ca{w:List Int}{x y:Int}(hx:x∈w)(hy:y∈w)(h:jf w x=jf w y):x=y:=by
 have h1:=vU hx;have h2:=vU hy;rw[h,h2]at h1
 exact(au h1).symm
def gZ(w:List Int)(e:cZ):cZ:=⟨e.name,jf w e.file⟩
def fileAt(l:List cK)(x:Int):cK:=l.getD x.toNat default
def dz(k:Dk):Dk:=⟨(dj (k.now++k.kept)).map (fileAt k.files),k.now.map (gZ (dj (k.now++k.kept))),k.kept.map (gZ (dj (k.now++k.kept)))⟩
def yq(l:List cZ)(many:Nat):Prop:= ∀e∈l,0≤e.file∧e.file<many
def fv(f:cK):Bool:=decide (f.data.length≤20000∧0≤f.safe∧f.safe≤f.data.length)
def kf(n:Nat):List Int:=(List.range n).map fun(i:Nat)=>(i:Int)
theorem iU(n:Nat):(kf n).length=n:=by simp[kf]
theorem yI(n:Nat):kf (n+1)=kf n++ [(n:Int)]:=by simp[kf,List.range_succ]
theorem pT{n:Nat}{x:Int}:x∈kf n↔0≤x∧x<n:=by
 simp only[kf,List.mem_map,List.mem_range];constructor
 ·rintro⟨i,h,rfl⟩;omega
 ·rintro⟨h0,h1⟩;exact⟨x.toNat,by omega,by omega⟩
theorem wj{n i:Nat}(h:i<n):(kf n)[i]? =some (i:Int):=by simp[kf,h]
def c9(k:Dk):Bool:=decide (k.files.length≤20)&&fF k.now k.files.length&&fF k.kept k.files.length&&k.files.all fv&&decide (dj (k.now++k.kept)=kf k.files.length)
def cP(k:Dk):Dk:=if c9 k then k else kR
theorem gR{l:List cZ}{m:Nat}(h:fF l m=true):yq l m:=by
 intro e he;obtain⟨i,hi,rfl⟩:=List.mem_iff_getElem.1 he;have:=jU.1 h i hi;rw[nu hi]at this;simp only[Bool.and_eq_true,decide_eq_true_eq]at this;exact this.1.1.2
theorem dP{k:Dk}:c9 k=true↔k.files.length≤20∧fF k.now k.files.length=true∧fF k.kept k.files.length=true∧k.files.all fv=true∧dj (k.now++k.kept)=kf k.files.length:=by
 simp[c9,and_assoc]
theorem Hp{n:Nat}{x:Int}(h0:0≤x)(h1:x<n):jf (kf n) x=x:=by
 have hm:x∈kf n:=pT.2 ⟨h0,h1⟩;have h2:=vU hm;obtain⟨h3,h4⟩:=B_ hm;rw[iU]at h4;rw[wj (by omega)]at h2
 have:=au h2;omega
theorem rr{k:Dk}(h:c9 k=true):dz k=k:=by
 obtain⟨h1,h2,h3,h4,h5⟩:=dP.1 h;have hr: ∀l:List cZ,yq l k.files.length→l.map (gZ (kf k.files.length))=l:=by
  intro l hl;have: ∀e∈l,gZ (kf k.files.length) e=e:=by
   intro e he;obtain⟨a,b⟩:=hl e he;simp only[gZ,Hp a b]
  rw[bz this,List.map_id']
 have hf:(kf k.files.length).map (fileAt k.files)=k.files:=by
  apply bk
  intro i;rw[List.getElem?_map];by_cases hi:i<k.files.length
  ·rw[wj hi];simp[fileAt,List.getD_eq_getElem?_getD,hi]
  ·rw[ar (by rw[iU];omega),ar (by omega)]
   rfl
 unfold dz;rw[h5,hr _ (gR h2),hr _ (gR h3),hf]
theorem DJ:c9 kR=true:=by simp[dP,kR,fF,dj,kf]
theorem dw(k:Dk):c9 (cP k)=true:=by
 unfold cP;split
 ·assumption
 ·exact DJ
theorem fK{k:Dk}(h:c9 k=true):cP k=k:=if_pos h
def iq:Int→List cZ→Option Int
 |n,[]=>some n
 |n,e::l=>if e.file>n then none else iq (max n (e.file+1)) l
theorem wX(n:Int)(l:List cZ)(e:cZ):iq n (l++ [e])=(iq n l).bind fun m=>if e.file>m then none else some (max m (e.file+1)):=by
 induction l generalizing n with
 |nil=>simp[iq]
 |cons x l ih=>
  simp only[List.cons_append,iq];split
  ·rfl
  ·exact ih _
theorem qF(n:Int)(l k:List cZ):iq n (l++k)=(iq n l).bind fun m=>iq m k:=by
 induction l generalizing n with
 |nil=>simp[iq]
 |cons x l ih=>
  simp only[List.cons_append,iq];split
  ·rfl
  ·exact ih _
theorem Ea: ∀(l:List cZ),(∀e∈l,0≤e.file)→ ∀m:Int,iq 0 l=some m↔0≤m∧dj l=kf m.toNat:=by
 intro l
 induction l using iW with
 |h0=>
  intro _ m;simp only[iq,Ix,ab];constructor
  ·rintro rfl;exact⟨by omega,rfl⟩
  ·rintro⟨h1,h2⟩;have:=congrArg List.length h2;rw[iU]at this;simp at this;omega
 |hs l e ih=>
  intro hf m;have ih:=ih (fun x hx=>hf x (by simp[hx]))
  have he:=hf e (by simp)
  rw[wX,ix];constructor
  ·intro h;rw[Option.bind_eq_some_iff]at h;obtain⟨q,hq,h⟩:=h;obtain⟨h0,h1⟩:=(ih q).1 hq
   split at h
   ·cases h
   ·rename_i hle
    cases h
    refine⟨by omega,?_⟩
    rw[h1];unfold mg;by_cases hlt:e.file<q
    ·rw[if_pos (by simpa using pT.2 ⟨he,by omega⟩)]
     congr 1
     omega
    ·rw[if_neg (by
      simp only[List.contains_iff_mem,pT]
      omega)]
     have e1:e.file=(q.toNat:Int):=by omega
     have e2:(max q (e.file+1)).toNat=q.toNat+1:=by omega
     rw[e2,yI,e1]
  ·rintro⟨h0,h1⟩;have hc: ∃q:Int,iq 0 l=some q:=by
    obtain⟨r,hr⟩:=tL (dj l) e.file;rw[hr]at h1;refine⟨(dj l).length,(ih _).2 ⟨by omega,?_⟩⟩
    rw[Int.toNat_natCast];have:(dj l).length≤m.toNat:=by
     have:=congrArg List.length h1;rw[iU,List.length_append]at this;omega
    have h3:=congrArg (List.take (dj l).length) h1;rw[List.take_left' rfl]at h3;rw[h3];unfold kf;rw[←List.map_take,List.take_range]
    congr 2
    simp
   obtain⟨q,hq⟩:=hc;obtain⟨h2,h3⟩:=(ih q).1 hq;rw[hq,Option.bind_some];rw[h3]at h1;unfold mg at h1
   split at h1
   ·rename_i hm;have hm:e.file∈kf q.toNat:=by simpa using hm
    have:=pT.1 hm;have hl:=congrArg List.length h1;rw[iU,iU]at hl;rw[if_neg (by omega)]
    congr 1
    omega
   ·rename_i hm;have hm:e.file∉kf q.toNat:=by simpa using hm
    rw[pT]at hm;have hl:=congrArg List.length h1;rw[List.length_append,iU,iU]at hl;simp at hl;have e2:m.toNat=q.toNat+1:=by omega
    rw[e2,yI]at h1;have:=List.append_cancel_left h1;simp at this;rw[if_neg (by omega)]
    congr 1
    omega
def qn(l:List cZ)(name:List UInt8):Nat:=(l.takeWhile fun e=>strLt e.name name).length
def gN(l:List cZ)(name:List UInt8):Bool:=decide (qn l name<l.length)&&decide ((l.getD (qn l name) default).name=name)
theorem Fj(l:List cZ)(name:List UInt8):qn l name≤l.length:=(List.takeWhile_sublist _).length_le
def cQ(l:List cZ)(name:List UInt8):Option Int:=(l.find? fun e=>decide (e.name=name)).map cZ.file
def fc(l:List cZ)(name:List UInt8):List cZ:=l.filter fun e=>decide (e.name≠name)
def km(l:List cZ)(name:List UInt8)(file:Int):List cZ:=l.take (qn l name)++⟨name,file⟩::l.drop (qn l name)
def Fq(l:List cZ):Prop:=l.Pairwise fun a b=>strLt a.name b.name=true
theorem nv{l:List cZ}{m:Int}(h:fF l m=true):Fq l:=by
 unfold Fq;rw[List.pairwise_iff_getElem];intro i j hi hj hij
 induction j with
 |zero=>omega
 |succ j ih=>
  have h1:=jU.1 h (j+1) hj;rw[nu hj]at h1;have hjl:j<l.length:=by omega
  simp only[Bool.and_eq_true,Bool.or_eq_true,decide_eq_true_eq,Nat.add_sub_cancel,List.getD_eq_getElem?_getD,List.getElem?_eq_getElem hjl,Option.getD_some]at h1;have h2:strLt l[j].name l[j+1].name=true:=by
   rcases h1.2 with h|h
   ·omega
   ·exact h
  by_cases e:i=j
  ·subst e;exact h2
  ·exact lt_trans _ _ _ (ih hjl (by omega)) h2
theorem Ls{l:List cZ}{name:List UInt8}{j:Nat}(h:j<qn l name)(hl:j<l.length):strLt l[j].name name=true:=by
 have h1:(l.takeWhile fun e=>strLt e.name name)=l.take (qn l name):=by
  have:=List.takeWhile_prefix (l:=l) (fun e=>strLt e.name name)
  exact List.prefix_iff_eq_take.1 this
 have h2:l[j]∈l.takeWhile fun e=>strLt e.name name:=by
  rw[h1,List.mem_take_iff_getElem];exact⟨j,by omega,rfl⟩
 have h3:=List.all_eq_true.1 (List.all_takeWhile (l:=l) (p:=fun e=>strLt e.name name)) _ h2
 exact h3
theorem Lt{l:List cZ}{name:List UInt8}(h:qn l name<l.length):strLt l[qn l name].name name=false:=by
 have h1:=bY (l:=l) (p:=fun e=>strLt e.name name)
 have h2:(l.dropWhile fun e=>strLt e.name name)=l.drop (qn l name):=by
  have h3:=congrArg (List.drop (qn l name)) h1;unfold qn at h3⊢;rw[List.drop_left]at h3;exact h3
 cases h3:strLt l[qn l name].name name with
 |false=>rfl
 |true=>
  have h4:(l.dropWhile fun e=>strLt e.name name).head?=some l[qn l name]:=by
   rw[h2,List.head?_drop];simp[h]
  have h5:=List.head?_dropWhile_not (fun e:cZ=>strLt e.name name) l
  rw[h4]at h5;simp[h3]at h5
theorem Fk{l:List cZ}{name:List UInt8}{i:Nat}(hi:i≤l.length)(h1: ∀j (h:j<l.length),j<i→strLt l[j].name name=true)(h2: ∀h:i<l.length,strLt l[i].name name=false):qn l name=i:=by
 rcases Nat.lt_trichotomy (qn l name) i with h|h|h
 ·have h3:qn l name<l.length:=by omega
  have:=h1 _ h3 h;rw[Lt h3]at this
  cases this
 ·exact h
 ·have h3:i<l.length:=by have:=Fj l name;omega
  have:=Ls h h3;rw[h2 h3]at this
  cases this
theorem pr{l:List cZ}(h:Fq l){i j:Nat}(hj:j<l.length)(hij:i<j):strLt (l[i]'(by omega)).name l[j].name=true:=(List.pairwise_iff_getElem.1 h) i j (by omega) hj hij
theorem uv{l:List cZ}(hs:Fq l){name:List UInt8}:(gN l name=true↔ ∃e∈l,e.name=name)∧(gN l name=true→cQ l name=some (l.getD (qn l name) default).file)∧(gN l name=false→cQ l name=none):=by
 have key: ∀i (hi:i<l.length),l[i].name=name→qn l name=i:=by
  intro i hi he;refine Fk (by omega) (fun j hj hji=>?_) (fun _=>?_)
  ·rw[←he];exact pr hs hi hji
  ·rw[he];exact lt_irrefl _
 have h1:gN l name=true↔ ∃e∈l,e.name=name:=by
  constructor
  ·intro h;simp only[gN,Bool.and_eq_true,decide_eq_true_eq]at h;obtain⟨h2,h3⟩:=h;rw[List.getD_eq_getElem?_getD,List.getElem?_eq_getElem h2]at h3;exact⟨_,List.getElem_mem h2,h3⟩
  ·rintro⟨e,he,hn⟩;obtain⟨i,hi,rfl⟩:=List.mem_iff_getElem.1 he;have:=key i hi hn;simp only[gN,this,hi,bG,List.getD_eq_getElem?_getD,List.getElem?_eq_getElem hi,Option.getD_some,hn,Bool.and_self]
 refine⟨h1,fun h=>?_,fun h=>?_⟩
 ·unfold cQ
  cases hf:l.find? fun e=>decide (e.name=name)with
  |none=>
   obtain⟨e,he,hn⟩:=h1.1 h;have:=List.find?_eq_none.1 hf e he;simp[hn]at this
  |some e=>
   have hn:=List.find?_some hf;have hm:=List.mem_of_find?_eq_some hf;obtain⟨i,hi,rfl⟩:=List.mem_iff_getElem.1 hm;have:=key i hi (by simpa using hn)
   rw[this];simp[List.getD_eq_getElem?_getD,hi]
 ·unfold cQ
  cases hf:l.find? fun e=>decide (e.name=name)with
  |none=>rfl
  |some e=>
   have hn:=List.find?_some hf;have hm:=List.mem_of_find?_eq_some hf;rw[h1.2 ⟨e,hm,by simpa using hn⟩]at h
   cases h
def eS(k:Dk)(n:Int)(f:cK):Dk:=⟨k.files.set n.toNat f,k.now,k.kept⟩
def eW(k:Dk)(name:List UInt8):List UInt8×Int:=
 match cQ (cP k).now name with
 |some x=>((fileAt (cP k).files x).data,0)
 |none=>([],5)
def c7(k:Dk)(name b:List UInt8):Dk×Int:=
 if hF name=false then(cP k,1)else
 match cQ (cP k).now name with
 |none=>if(cP k).files.length≥20∨b.length>20000 then(cP k,3)else(dz ⟨(cP k).files++ [⟨b,0⟩],km (cP k).now name (cP k).files.length,(cP k).kept⟩,0)
 |some x=>if(fileAt (cP k).files x).data.length+b.length>20000 then(cP k,3)else(eS (cP k) x ⟨(fileAt (cP k).files x).data++b,(fileAt (cP k).files x).safe⟩,0)
def eU(k:Dk)(name:List UInt8):Dk×Int:=
 match cQ (cP k).now name with
 |none=>(cP k,5)
 |some x=>(eS (cP k) x ⟨(fileAt (cP k).files x).data,(fileAt (cP k).files x).data.length⟩,0)
def xY(k:Dk)(name:List UInt8)(n:Int):Dk×Int:=
 match cQ (cP k).now name with
 |none=>(cP k,5)
 |some x=>if n<0∨n>(fileAt (cP k).files x).data.length then(cP k,1)else(eS (cP k) x ⟨(fileAt (cP k).files x).data.take n.toNat,n⟩,0)
def fh(k:Dk)(name to:List UInt8):Dk×Int:=
 match cQ (cP k).now name with
 |none=>(cP k,5)
 |some x=>if hF to=false then(cP k,1)else(dz ⟨(cP k).files,km (fc (fc (cP k).now name) to) to x,(cP k).kept⟩,0)
def dU(k:Dk)(name:List UInt8):Dk×Int:=
 match cQ (cP k).now name with
 |none=>(cP k,5)
 |some _=>(dz ⟨(cP k).files,fc (cP k).now name,(cP k).kept⟩,0)
def dR(k:Dk):Dk:=dz ⟨(cP k).files,(cP k).now,(cP k).now⟩
def mD(f:cK)(keep:Option Int):Int:=
 match keep with
 |some x=>f.safe+max 0 (min x (f.data.length-f.safe))
 |none=>f.safe
def sg(f:cK)(n:Int):cK:=⟨f.data.take n.toNat,n⟩
def dJ(k:Dk)(dir:Bool):List cZ:=if dir then(cP k).now else(cP k).kept
def ep(k:Dk)(keep:List Int)(dir:Bool):Dk:=
 ⟨(List.range (dJ k dir).length).map fun i=>sg (fileAt (cP k).files ((dJ k dir).getD i default).file) (mD (fileAt (cP k).files ((dJ k dir).getD i default).file) keep[i]?),
  (List.range (dJ k dir).length).map fun i=>⟨((dJ k dir).getD i default).name,i⟩,(List.range (dJ k dir).length).map fun i=>⟨((dJ k dir).getD i default).name,i⟩⟩
theorem xV(n:List UInt8)(hn:n.length≤9223372036854775807):cD Tryz.prog 327 [.d (.str n)] (.d (.bool (hF n))) (fun _=>false):=by
 refine cD.bi Tryz.func327 [] ?_;by_cases h1:(1:Int)≤n.length
 ·have hf:hF n=decide ((n.length:Int)≤16):=by
   rw[Bool.eq_iff_iff];simp only[hF,decide_eq_true_eq];omega
  simp-implicitDefEqProofs (disch:=try exact dd) [cB,hf,h1]
 ·have hf:hF n=false:=by
   rw[aM];simp only[hF,ne_eq,decide_eq_true_eq];omega
  simp-implicitDefEqProofs (disch:=try exact dd) [cB,hf,h1]
def YT(l:List cZ)(name:List UInt8)(i:Nat)(S:PS):Prop:=
 i≤l.length∧(∀j (h:j<l.length),j<i→strLt l[j].name name=true)∧S.t 0= .d (.slice (l.map cZ.d))∧S.t 1= .d (.str name)∧S.t 6= .d (.int .i64 i)
theorem xX(l:List cZ)(name:List UInt8)(hl:l.length≤9223372036854775807):cD Tryz.prog 242 [.d (.slice (l.map cZ.d)),.d (.str name)] (.tup [.d (.int .i64 (qn l name)),.d (.bool (gN l name))]) (fun _=>false):=by
 refine cD.bi Tryz.func242 [] ?_
 simp-implicitDefEqProofs (disch:=try exact dd) [cB]
 refine lp (YT l name) (fun i=>l.length-i) 0 ⟨by omega,by simp,by simp⟩ ?_
 rintro i S ⟨hi,hn,e0,e1,e6⟩;by_cases hlt:i<l.length
 ·have k6:(i:Int)<l.length:=by omega
  cases hc:strLt l[i].name name with
  |true=>
   simp-implicitDefEqProofs (disch:=try exact dd) [cB,e0,e1,e6,k6,hc]
   exact cE (i+1) ⟨by omega,fun j h hj=>by
    by_cases e:j=i
    ·subst e;exact hc
    ·exact hn j h (by omega),by simp-implicitDefEqProofs (disch:=try exact dd) [cB,e0,e1,e6]⟩ (by omega)
  |false=>
   have ha:qn l name=i:=Fk (by omega) hn (fun _=>hc)
   have hfo:gN l name=decide (l[i].name=name):=by
    simp[gN,ha,hlt,List.getD_eq_getElem?_getD]
   simp-implicitDefEqProofs (disch:=try exact dd) [cB,e0,e1,e6,k6,hc,ha,hfo]
 ·have k6: ¬(i:Int)<l.length:=by omega
  have ha:qn l name=i:=Fk (by omega) hn (fun h=>by omega)
  have hfo:gN l name=false:=by simp[gN,ha,hlt]
  simp-implicitDefEqProofs (disch:=try exact dd) [cB,e0,e1,e6,k6,ha,hfo]
theorem GC(l:List cZ)(name:List UInt8)(x:Int)(hl:l.length≤100000):cD Tryz.prog 342 [.d (.slice (l.map cZ.d)),.d (.str name),.d (.int .i64 x)] (.d (.slice ((km l name x).map cZ.d))) (fun _=>false):=by
 refine cD.bi Tryz.func342 [9] ?_;have ha:=Fj l name
 simp-implicitDefEqProofs (disch:=try exact dd) [cB]
 refine oc (xX l name (by omega)) ?_
 simp-implicitDefEqProofs (disch:=try exact dd) [cB, -List.map_take, -List.map_drop,km,cZ.d]
def ddI(l:List cZ)(name:List UInt8)(i:Nat)(S:PS):Prop:=
 i≤l.length∧S.t 1= .d (.str name)∧S.t 8= .d (.slice (l.map cZ.d))∧S.t 9= .d (.int .i64 l.length)∧S.t 10= .d (.int .i64 i)∧S.t 5= .d (.slice ((fc (l.take i) name).map cZ.d))∧S.own (.t 5 0)=true
theorem xW(l:List cZ)(name:List UInt8)(hl:l.length≤100000):cD Tryz.prog 243 [.d (.slice (l.map cZ.d)),.d (.str name)] (.d (.slice ((fc l name).map cZ.d))) (fun _=>false):=by
 refine cD.bi Tryz.func243 [18] ?_
 simp-implicitDefEqProofs (disch:=try exact dd) [cB]
 refine lp (ddI l name) (fun i=>l.length-i) 0 ⟨by omega,by simp[fc]⟩ ?_
 rintro i S ⟨hi,e1,e8,e9,e10,e5,o5⟩;by_cases hlt:i<l.length
 ·have k6:(i:Int)<l.length:=by omega
  have ht:fc (l.take (i+1)) name=fc (l.take i) name++(if l[i].name=name then[]else[l[i]]):=by
   unfold fc;rw[List.take_succ_eq_append_getElem hlt,List.filter_append]
   congr 1
   by_cases e:l[i].name=name<;>simp[e]
  have hle:(fc (l.take i) name).length≤100000:=by
   have:=List.length_filter_le (fun e:cZ=>decide (e.name≠name)) (l.take i)
   simp only[List.length_take]at this;unfold fc;omega
  by_cases hc:l[i].name=name
  ·rw[if_pos hc,List.append_nil]at ht
   simp-implicitDefEqProofs (disch:=try exact dd) [cB,e1,e5,e8,e9,e10,o5,k6,hc]
   exact cE (i+1) ⟨by omega,by simp-implicitDefEqProofs (disch:=try exact dd) [*,cB,ht]⟩ (by omega)
  ·rw[if_neg hc]at ht
   simp-implicitDefEqProofs (disch:=try exact dd) [cB,e1,e5,e8,e9,e10,o5,k6,hc]
   exact cE (i+1) ⟨by omega,by simp-implicitDefEqProofs (disch:=try exact dd) [*,cB,ht,cZ.d]⟩ (by omega)
 ·have k6: ¬(i:Int)<l.length:=by omega
  have:l.take i=l:=List.take_of_length_le (by omega)
  simp-implicitDefEqProofs (disch:=try exact dd) [cB,e1,e5,e8,e9,e10,o5,k6,this]
def jO(l:List cZ)(many:Nat):List PV:=(List.range many).map fun(k:Nat)=> .d (.bool (rn l (k:Int)))
theorem tX(l:List cZ)(many:Nat):(jO l many).length=many:=by simp[jO]
theorem qy{l:List cZ}{many:Nat}{x:Int}(h0:0≤x)(h1:x<many):(jO l many)[x.toNat]? =some (.d (.bool (rn l x))):=by
 have:x.toNat<many:=by omega
 simp only[jO,List.getElem?_map,List.getElem?_range this,Option.map_some];rw[Int.toNat_of_nonneg h0]
theorem yZ{l:List cZ}{many:Nat}{i:Nat}(hi:i<l.length)(h0:0≤l[i].file)(h1:l[i].file<many):over (jO (l.take i) many) l[i].file.toNat [.d (.bool true)]=jO (l.take (i+1)) many:=by
 unfold over
 apply bk
 intro k;have hx:l[i].file.toNat<many:=by omega
 have hlen:=tX (l.take i) many;by_cases hk:k<many
 ·have hr:(jO (l.take (i+1)) many)[k]? =some (.d (.bool (rn (l.take (i+1)) (k:Int)))):=by
   have:=qy (l:=l.take (i+1)) (many:=many) (x:=(k:Int)) (by omega) (by omega)
   simpa using this
  have hl:(jO (l.take i) many)[k]? =some (.d (.bool (rn (l.take i) (k:Int)))):=by
   have:=qy (l:=l.take i) (many:=many) (x:=(k:Int)) (by omega) (by omega)
   simpa using this
  rw[hr,H4 hi];rcases Nat.lt_trichotomy k l[i].file.toNat with h|h|h
  ·rw[List.append_assoc,List.getElem?_append_left (by simp;omega),ah,if_pos h,hl]
   have: ¬l[i].file=(k:Int):=by omega
   simp[this]
  ·rw[List.append_assoc,List.getElem?_append_right (by simp;omega)]
   have e:k-((jO (l.take i) many).take l[i].file.toNat).length=0:=by simp[hlen];omega
   rw[e];have:l[i].file=(k:Int):=by omega
   simp[this]
  ·rw[List.getElem?_append_right (by simp;omega),ak]
   have e:l[i].file.toNat+ [PV.d (.bool true)].length+(k-((jO (l.take i) many).take l[i].file.toNat++ [PV.d (.bool true)]).length)=k:=by simp[hlen];omega
   rw[e,hl];have: ¬l[i].file=(k:Int):=by omega
   simp[this]
 ·rw[ar (by simp[hlen];omega),ar (by rw[tX];omega)]
def dnI(l:List cZ)(many:Nat)(i:Nat)(S:PS):Prop:=
 i≤l.length∧(∀j,j<i→Cl l many j=true)∧S.t 0= .d (.slice (l.map cZ.d))∧S.t 1= .d (.int .i64 many)∧S.t 5= .bsl (FO+9) 1 many 1 false∧S.t 10= .d (.slice (l.map cZ.d))∧S.t 11= .d (.int .i64 l.length)∧S.t 12= .d (.int .i64 i)∧
  S.fo=FO∧S.gen (FO+9)=1∧S.box (FO+9)=jO (l.take i) many
theorem zV(l:List cZ)(many:Nat)(hl:lK l)(hm:many≤100000):cD Tryz.prog 290 [.d (.slice (l.map cZ.d)),.d (.int .i64 many)] (.d (.bool (fF l many))) (fun _=>false):=by
 refine cD.bi Tryz.func290 [60007,90018,90032,90038,90043,90050,90056] ?_
 simp-implicitDefEqProofs (disch:=try exact dd) [cB]
 rw[RQ (n:=many) (z:= .bool false) (by simp) (by simp;omega)]
 simp-implicitDefEqProofs (disch:=try exact dd) [cB]
 refine lp (dnI l many) (fun i=>l.length-i) 0 ⟨by omega,by simp,by simp[jO,rn,List.map_const']⟩ ?_
 rintro i S ⟨hi,hn,e0,e1,e5,e10,e11,e12,efo,g9,b9⟩;by_cases hlt:i<l.length
 ·have k6:(i:Int)<l.length:=by omega
  have hsl:=tX (l.take i) many;have hll:=hl.1;have hlb:(S.box (FO+9)).length=many:=by rw[b9];exact hsl
  have hf:=xV l[i].name (hl.2 _ (List.getElem_mem hlt));have hng:=nu (l:=l) (many:=many) hlt
  cases h1:hF l[i].name with
  |false=>
   have hr:=ku hlt (hng.trans (by simp[h1]))
   rw[h1]at hf
   simp-implicitDefEqProofs (disch:=try exact dd) [cB,e0,e1,e5,e10,e11,e12,efo,g9,b9,k6,hr]
   refine oc hf ?_
   simp-implicitDefEqProofs (disch:=try exact dd) [cB,e0,e1,e5,e10,e11,e12,efo,g9,b9,k6,hr]
  |true=>
   rw[h1]at hf;by_cases h0:(0:Int)<i
   ·have hp:i-1<l.length:=by omega
    have hpi:(i:Int)-1=((i-1:Nat):Int):=by omega
    have hi0: ¬i=0:=by omega
    rw[List.getD_eq_getElem?_getD,List.getElem?_eq_getElem hp,Option.getD_some]at hng
    cases h6:strLt l[i-1].name l[i].name with
    |false=>
     have hr:=ku hlt (hng.trans (by simp[h6,hi0]))
     simp-implicitDefEqProofs (disch:=try exact dd) [cB,e0,e1,e5,e10,e11,e12,efo,g9,b9,k6,hr]
     refine oc hf ?_
     simp-implicitDefEqProofs (disch:=try exact dd) [cB,e0,e1,e5,e10,e11,e12,efo,g9,b9,k6,hr,h0,hpi,hp,h6]
    |true=>
     by_cases h2:0≤l[i].file
     ·by_cases h3:l[i].file<many
      ·have hseen:=qy (l:=l.take i) h2 h3;have hset:(jO (l.take i) many).take l[i].file.toNat++ .d (.bool true)::(jO (l.take i) many).drop (l[i].file.toNat+1)=jO (l.take (i+1)) many:=by
        have:=yZ hlt h2 h3
        simpa[over]using this
       cases h4:rn (l.take i) l[i].file with
       |true=>
        have hr:=ku hlt (hng.trans (by simp[h4]))
        rw[h4]at hseen;obtain⟨hsq,hse⟩:=List.getElem?_eq_some_iff.1 hseen
        simp-implicitDefEqProofs (disch:=try exact dd) [cB,e0,e1,e5,e10,e11,e12,efo,g9,b9,k6,hr]
        refine oc hf ?_
        simp-implicitDefEqProofs (disch:=try exact dd) [cB,e0,e1,e5,e10,e11,e12,efo,g9,b9,k6,hr,h0,hpi,hp,h6,h2,h3,hse,hsl]
       |false=>
        rw[h4]at hseen;obtain⟨hsq,hse⟩:=List.getElem?_eq_some_iff.1 hseen;have hy:Cl l many i=true:=hng.trans (by simp[h1,h2,h3,h4,h6])
        simp-implicitDefEqProofs (disch:=try exact dd) [cB,e0,e1,e5,e10,e11,e12,efo,g9,b9,k6]
        refine oc hf ?_
        simp-implicitDefEqProofs (disch:=try exact dd) [cB,e0,e1,e5,e10,e11,e12,efo,g9,b9,k6,h0,hpi,hp,h6,h2,h3,hse,hsl,hset]
        exact cE (i+1) ⟨by omega,fun j hj=>by
         by_cases e:j=i
         ·subst e;exact hy
         ·exact hn j (by omega),by simp-implicitDefEqProofs (disch:=try exact dd) [cB,e0,e1,e5,e10,e11,e12,efo,g9,b9,k6,hset]⟩ (by omega)
      ·have hr:=ku hlt (hng.trans (by simp[h3]))
       simp-implicitDefEqProofs (disch:=try exact dd) [cB,e0,e1,e5,e10,e11,e12,efo,g9,b9,k6,hr]
       refine oc hf ?_
       simp-implicitDefEqProofs (disch:=try exact dd) [cB,e0,e1,e5,e10,e11,e12,efo,g9,b9,k6,hr,h0,hpi,hp,h6,h2,h3]
     ·have hr:=ku hlt (hng.trans (by simp[h2]))
      simp-implicitDefEqProofs (disch:=try exact dd) [cB,e0,e1,e5,e10,e11,e12,efo,g9,b9,k6,hr]
      refine oc hf ?_
      simp-implicitDefEqProofs (disch:=try exact dd) [cB,e0,e1,e5,e10,e11,e12,efo,g9,b9,k6,hr,h0,hpi,hp,h6,h2]
   ·by_cases h2:0≤l[i].file
    ·by_cases h3:l[i].file<many
     ·have hseen:=qy (l:=l.take i) h2 h3;have hset:(jO (l.take i) many).take l[i].file.toNat++ .d (.bool true)::(jO (l.take i) many).drop (l[i].file.toNat+1)=jO (l.take (i+1)) many:=by
       have:=yZ hlt h2 h3
       simpa[over]using this
      cases h4:rn (l.take i) l[i].file with
      |true=>
       have hr:=ku hlt (hng.trans (by simp[h4]))
       rw[h4]at hseen;obtain⟨hsq,hse⟩:=List.getElem?_eq_some_iff.1 hseen
       simp-implicitDefEqProofs (disch:=try exact dd) [cB,e0,e1,e5,e10,e11,e12,efo,g9,b9,k6,hr]
       refine oc hf ?_
       simp-implicitDefEqProofs (disch:=try exact dd) [cB,e0,e1,e5,e10,e11,e12,efo,g9,b9,k6,hr,h0,h2,h3,hse,hsl]
      |false=>
       rw[h4]at hseen;obtain⟨hsq,hse⟩:=List.getElem?_eq_some_iff.1 hseen;have hy:Cl l many i=true:=by
        rw[hng,h1,h4];simp only[h2,h3,and_self,bG,Bool.true_and,Bool.not_false,Bool.or_eq_true,decide_eq_true_eq];exact .inl (by omega)
       simp-implicitDefEqProofs (disch:=try exact dd) [cB,e0,e1,e5,e10,e11,e12,efo,g9,b9,k6]
       refine oc hf ?_
       simp-implicitDefEqProofs (disch:=try exact dd) [cB,e0,e1,e5,e10,e11,e12,efo,g9,b9,k6,h0,h2,h3,hse,hsl,hset]
       exact cE (i+1) ⟨by omega,fun j hj=>by
        by_cases e:j=i
        ·subst e;exact hy
        ·exact hn j (by omega),by simp-implicitDefEqProofs (disch:=try exact dd) [cB,e0,e1,e5,e10,e11,e12,efo,g9,b9,k6,hset]⟩ (by omega)
     ·have hr:=ku hlt (hng.trans (by simp[h3]))
      simp-implicitDefEqProofs (disch:=try exact dd) [cB,e0,e1,e5,e10,e11,e12,efo,g9,b9,k6,hr]
      refine oc hf ?_
      simp-implicitDefEqProofs (disch:=try exact dd) [cB,e0,e1,e5,e10,e11,e12,efo,g9,b9,k6,hr,h0,h2,h3]
    ·have hr:=ku hlt (hng.trans (by simp[h2]))
     simp-implicitDefEqProofs (disch:=try exact dd) [cB,e0,e1,e5,e10,e11,e12,efo,g9,b9,k6,hr]
     refine oc hf ?_
     simp-implicitDefEqProofs (disch:=try exact dd) [cB,e0,e1,e5,e10,e11,e12,efo,g9,b9,k6,hr,h0,h2]
 ·have k6: ¬(i:Int)<l.length:=by omega
  have hr:fF l many=true:=jU.2 fun j hj=>hn j (by omega)
  simp-implicitDefEqProofs (disch:=try exact dd) [cB,e0,e1,e5,e10,e11,e12,efo,g9,b9,k6,hr]
end Go.Proofs.YtoilfihojgeonaaGreatDoor
