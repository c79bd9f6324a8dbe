/- What becomes of a server, in plain terms: what stands in all of its states. -/
import Derived.Test.YtoilfihojgeonaaGreatDoorS18
import Derived.Test.YtoilfihojgeonaaGreatDoorS10
import Derived.Test.YtoilfihojgeonaaGreatDoorS07
namespace Go.Proofs.YtoilfihojgeonaaGreatDoor
open BoEng Go
set_option maxRecDepth 100000
set_option linter.unusedSimpArgs false
set_option linter.unusedVariables false
structure uM(s:gY)(xs:List cC):Prop where
 sd:Sd s.k xs
 nm:n7 s.k
 t:s.t=ei xs
 r:dk s.t=true
theorem R5:uM Q8 []:=⟨Oy,Mt,rfl,Ar⟩
theorem uM.ok{s:gY}{xs:List cC}(h:uM s xs):m5 s.k∧QP s.t:=by
 obtain⟨h1,h2,_⟩:=gy.1 h.r;exact⟨jC h.sd.r,by omega,fun l hl=>by have:=qN (gV (h2 l hl)).2.2.2;omega⟩
theorem vT{s:gY}{xs:List cC}(h:uM s xs)(l:cC)(fuel:Int):
 ((gJ s.t l).2≠0→eH s l fuel=(s,0,false))∧((gJ s.t l).2=0→c8 l=true∧(gJ s.t l).1=ei (xs++ [l])∧Rec (oneMore xs l) (eH s l fuel).1.k∧n7 (eH s l fuel).1.k∧
   ((eH s l fuel).2.2=true→uM (eH s l fuel).1 (xs++ [l]))∧((eH s l fuel).2.2=false→(eH s l fuel).1.t=s.t)∧(xs.length≤60→fuel<0→(eH s l fuel).2.2=true)∧(eH s l fuel).2.1≤3∧
   ((eH s l fuel).2.1=0→(eH s l fuel).2.2=false∧(eH s l fuel).1=s)∧((eH s l fuel).2.2=false→(eH s l fuel).2.1=0∨((eH s l fuel).2.1:Int)=fuel)):=by
 constructor
 ·intro he;unfold eH;rw[if_pos (.inl he)]
 ·intro he;obtain⟨h1,h2,h3⟩:=sA he;rw[kA h.r,h.t,←oJ]at h3;obtain⟨a1,a2⟩:=LC h.sd h2;obtain⟨f1,_⟩:=Bz s.k l;have hrun:=Nl h.sd h2 (if fuel<0 then(kT s.k l).1.length else fuel.toNat)
  have hr:=h.sd.r;refine⟨h2,by rw[←h.t]at h3;exact h3,?_⟩
  have e:eH s l fuel=ko s (kT s.k l).1 (gJ s.t l).1 fuel:=by
   unfold eH;rw[if_neg (by omega)]
  rw[e];unfold ko;rw[fK hr];have hroom:xs.length≤60→fuel<0→(kQ (kT s.k l).1 (if fuel<0 then(kT s.k l).1.length else fuel.toNat) s.k).2=(kT s.k l).1.length:=by
   intro hx hf;have:=hrun.room (by have:=Ga hr h.nm;omega) (by have:=h.sd.few.1;omega)
   rw[if_pos hf]at this⊢;rw[this,Nat.min_self]
  have hstop:=hrun.stop;have hz:=hrun.z;have hle:=hrun.le;have hc:=hrun.c;have hnm:=hrun.nms h.nm;have hall:=hrun.all;generalize hfu:(if fuel<0 then(kT s.k l).1.length else fuel.toNat)=fu at*
  generalize kQ (kT s.k l).1 fu s.k=r at*
  generalize(kT s.k l).1=cs at*
  by_cases hn:r.2<cs.length
  ·rw[if_pos hn];refine⟨hc,hnm,fun h=>by simp at h,fun _=>rfl,fun hx hf=>by have:=hroom hx hf;omega,by show r.2≤3;omega,fun h0=>⟨rfl,?_⟩,fun _=>?_⟩
   ·have:=hz h0;rw[this]
   ·rcases hstop hn with h0|h0
    ·exact .inl h0
    ·by_cases hf:fuel<0
     ·rw[if_pos hf]at hfu;omega
     ·rw[if_neg hf]at hfu;refine .inr ?_
      show((r.2:Nat):Int)=fuel
      omega
  ·rw[if_neg hn];refine⟨hc,hnm,fun _=>⟨hall (by omega),hnm,?_,h1⟩,fun h=>by simp at h,fun _ _=>rfl,by show r.2≤3;omega,fun h0=>?_,fun h=>by simp at h⟩
   ·rw[←h.t]at h3;exact h3
   ·have h0:r.2=0:=h0;omega
theorem Cg{A:List cC→Prop}{k:Dk}(h:Rec A k)(ht: ∀zs,A zs→dk (ei zs)=true): ∃zs,A zs∧(kW k).2=0∧(kW k).1.t=ei zs∧Sd (kW k).1.k zs∧(n7 k→n7 (kW k).1.k)∧zs=(dA (eW k nJ).1).1:=by
 obtain⟨zs,z1,z2,z3,z4,z5⟩:=Jr h;obtain⟨w,hw⟩:=z3.read;have e:kW k=(⟨ei zs,(kX k).1⟩,0):=by
  unfold kW;rw[if_neg (fun h=>h z2),hw]
  dsimp only;rw[if_neg (by rw[ht zs z1];decide)]
 rw[e];exact⟨zs,z1,rfl,rfl,z3,z4,z5⟩
theorem vS{u:eR}{c:dq}{t:List cC}{m:ee}{iface now:Int}{x:du}(h:Nn c t m iface now u x){kind a:Int}(hk:kindOk kind=true)(ha:a=0∨kind=6∧a=0∨jD u.c u.t u.net u.k u.now a=true)(h6:kind=6→a=0):
 db (eI u.c (iV u.c u.s kind a) u.m kind a)=true∧(tc (eI u.c (iV u.c u.s kind a) u.m kind a)).length≤1500:=by
 obtain⟨p1,p2,p3,p4,p5,p6⟩:=h.parts;have e:=h.u;have hsub:=po h.sub;subst e;dsimp only at ha⊢;have fair: ∀ {net sub:Int} {s:Sub},ou c net sub=some s→dD a=true→i_ c net sub m kind a=true:=by
  intro net sub s hs hr;unfold i_;rw[p1,hs,p6,hr,hk];rfl
 have h0:a=0→iV c x.s kind a=x.s∧dD a=true:=by
  intro h0;subst h0;exact⟨by unfold iV;rw[if_neg (by simp)],by decide⟩
 by_cases hz:a=0
 ·obtain⟨q1,q2⟩:=h0 hz;rw[q1];exact rR (fair hsub.2.1 q2) hsub.2.1
 ·have hm:jD c t x.net (oK m).1 now a=true:=by
   rcases ha with h|h|h
   ·exact absurd h hz
   ·exact absurd h.2 hz
   ·exact h
  obtain⟨y,y1,y2,y3⟩:=A4 hm;have hs:iV c x.s kind a=y.s:=by
   unfold iV;rw[if_pos ⟨hz,fun h=>hz (h6 h)⟩,y1]
  rw[hs];exact rR (fair (qT y1) (r_ y1)) (qT y1)
structure ZO(t:List cC)(a:kU):Prop where
 send:a.send=true→db a.reply=true∧(tc a.reply).length≤1500
 sz:ez a.reply
 keep:a.keep=true→(gJ t a.lease).2=0∧c8 a.lease=true
 key:a.lease.key.length≤1000000
theorem gK{m:ee}(h:db m=true):ez m:=by
 have hn:=ki h;have hs:=pz hn.ro;exact⟨by rw[hn.ch];decide,by omega,fun o ho=>by have:=hs.2 o ho;omega⟩
theorem IB(c:dq)(t:List cC)(m:ee)(iface now:Int):ZO t (cL c t m iface now):=by
 have hfit:=H_ c t m iface now;have hkeep:(cL c t m iface now).keep=true→(gJ t (cL c t m iface now).lease).2=0∧c8 (cL c t m iface now).lease=true:=by
  intro hk;unfold Gw at hfit;rw[if_neg (by rw[hk];simp)]at hfit
  by_cases hc:(gJ t (cL c t m iface now).lease).2≠0∨c8 (cL c t m iface now).lease=false∨dk (gJ t (cL c t m iface now).lease).1=false
  ·rw[if_pos hc]at hfit;cases hfit
  ·simp only[not_or,bp,cx]at hc;exact⟨hc.1,hc.2.1⟩
 have hkey:(cL c t m iface now).lease.key.length≤1000000:=by
  cases hk:(cL c t m iface now).keep with
  |true=>have:=qN (gV (hkeep hk).2).2.2.2;omega
  |false=>
   unfold Gw at hfit;rw[if_pos hk]at hfit;rw[of_decide_eq_true hfit];simp[qJ]
 have hsend:((cL c t m iface now).send=true→db (cL c t m iface now).reply=true∧(tc (cL c t m iface now).reply).length≤1500)∧ez (cL c t m iface now).reply:=by
  rcases ur (c:=c) (t:=t) (m:=m) (iface:=iface) (now:=now)with⟨u,x,hu,he⟩|he
  ·rw[he];have hout:=wk u;generalize uO u=r at hout;have key: ∀ {kind a:Int} {keep:Bool} {l:cC},db (eI u.c (iV u.c u.s kind a) u.m kind a)=true∧(tc (eI u.c (iV u.c u.s kind a) u.m kind a)).length≤1500→((gQ u kind a keep l).send=true→db (gQ u kind a keep l).reply=true∧(tc (gQ u kind a keep l).reply).length≤1500)∧ez (gQ u kind a keep l).reply:=
    fun h=>⟨fun _=>h,gK h.1⟩
   cases hout with
   |none=>exact⟨fun h=>(by cases h),oG⟩
   |offer a hc hk=>exact key (vS hu (by decide) (.inr (.inr (yb hc))) (fun h=>(by cases h)))
   |rW a hm hs hk=>exact key (vS hu (by decide) (.inr (.inr hm)) (fun h=>(by cases h)))
   |nak hk=>exact key (vS hu (by decide) (.inl rfl) (fun _=>rfl))
   |decline hm=>exact⟨fun h=>(by cases h),oG⟩
   |release hm=>exact⟨fun h=>(by cases h),oG⟩
   |inform hk hc=>exact key (vS hu (by decide) (.inl rfl) (fun h=>(by cases h)))
  ·rw[he];exact⟨fun h=>(by cases h),oG⟩
 exact⟨hsend.1,hsend.2,hkeep,hkey⟩
structure lq where
 kind:Int
 n:Int
 iface:Int
 b:List UInt8
 keep:List Int
 dir:Bool
instance:Inhabited lq:=⟨⟨0,0,0,[],[],false⟩⟩
def lq.d(e:lq):DV:= .agg [.int .i64 e.kind,.int .i64 e.n,.int .i64 e.iface,.slice (e.b.map cM),.slice (e.keep.map gM),.bool e.dir]
@[simp] theorem SS(e:lq):cells e.d= [.int .i64 e.kind,.int .i64 e.n,.int .i64 e.iface,.slice (e.b.map cM),.slice (e.keep.map gM),.bool e.dir]:=rfl
def rE(e:lq):Bool:=decide (e.b.length≤5000)&&decide (e.keep.length≤100)
def N6(v:cG)(e:lq):cG×List iA:=
 if e.kind=0 then fM v e.b e.iface else if e.kind=1 then(yK v e.n,[])else if e.kind=2 then(j6 v,[])else if e.kind=3 then(dX v e.keep e.dir,[])else if e.kind=4 then(dG v,[])else({v with fuse:=e.n},[])
def oV(v:cG)(e:lq):cG:=if rE e=true then(N6 v e).1 else v
def u4(c:dq)(l:List lq):cG:=(l.take 30).foldl oV (eF c kR 0)
def vJ(G:List cC→Prop)(n:Nat)(k:Dk):Prop:=n7 k∧ ∃A:List cC→Prop,Rec A k∧ ∀zs,A zs→G (ei zs)∧zs.length≤n
structure eP(G:List cC→Prop)(c:dq)(n:Nat)(v:cG):Prop where
 hc:v.c=c
 now:0≤v.now∧v.now≤1125899906842624
 fuse:nH v.fuse
 r: ∀t,G t→dk t=true
 z:dH c≠0→G []
 t:G v.s.t
 up:v.up=true→dH c=0∧ ∃xs,uM v.s xs∧xs.length≤n
 dn:v.up=false→vJ G n v.s.k
def QY(t:List cC):Prop:=dk t=true
abbrev qs:=eP QY
theorem Ap{t:List cC}(h:dk t=true):QP t:=by
 obtain⟨h1,h2,_⟩:=gy.1 h;exact⟨by omega,fun l hl=>by have:=qN (gV (h2 l hl)).2.2.2;omega⟩
section
variable {G:List cC→Prop}
theorem uM.fT{s:gY}{xs:List cC}{n:Nat}(h:uM s xs)(hg:G s.t)(hn:xs.length≤n):vJ G n s.k:=
 ⟨h.nm,_,h.sd.c,fun zs e=>by subst e;exact⟨by rw[←h.t];exact hg,hn⟩⟩
theorem eP.fT{c:dq}{n:Nat}{v:cG}(h:eP G c n v):vJ G n v.s.k:=by
 cases hu:v.up with
 |true=>
  obtain⟨_,xs,h1,h2⟩:=h.up hu;exact h1.fT h.t h2
 |false=>exact h.dn hu
theorem vJ.ok{n:Nat}{k:Dk}(h:vJ G n k):m5 k:=by
 obtain⟨_,A,hr,_⟩:=h;exact jC hr.r
theorem vJ.SM{n:Nat}{k:Dk}(h:vJ G n k)(keep:List Int)(dir:Bool):vJ G n (ep k keep dir):=by
 obtain⟨h1,A,hr,hA⟩:=h;exact⟨Hy h1 keep dir,A,za hr keep dir,hA⟩
theorem zY(n:Int):0≤qi n∧qi n≤1125899906842624:=by
 unfold qi
 repeat' split
 all_goals omega
theorem Lm{n:Int}(h:0≤n∧n≤1125899906842624):qi n=n:=by
 unfold qi
 repeat' split
 all_goals omega
theorem xA:nH (-1):=by unfold nH;omega
theorem yW{c:dq}{n:Nat}{k:Dk}(hr: ∀t,G t→dk t=true)(hz:dH c≠0→G [])(h:vJ G n k)(now:Int):eP G c n (eF c k now):=by
 obtain⟨h1,A,ha,hA⟩:=h;obtain⟨zs,z1,z2,z3,z4,z5,_⟩:=Cg ha (fun zs hz=>hr _ (hA zs hz).1)
 unfold eF;split
 ·rename_i hc;have hck:dH c≠0:=hc.resolve_right (fun h=>h z2)
  exact⟨rfl,zY now,xA,hr,hz,hz hck,fun h=>(by cases h),fun _=>⟨h1,A,ha,hA⟩⟩
 ·rename_i hc;simp only[not_or,bp]at hc;have hg:G (kW k).1.t:=by rw[z3];exact(hA zs z1).1
  have hm:uM (kW k).1 zs:=⟨z4,z5 h1,z3,hr _ hg⟩;exact⟨rfl,zY now,xA,hr,hz,hg,fun _=>⟨hc.1,zs,hm,(hA zs z1).2⟩,fun h=>(by cases h)⟩
theorem LQ(c:dq)(hr: ∀t,G t→dk t=true)(hz:G [])(now:Int):eP G c 0 (eF c kR now):=yW hr (fun _=>hz) (R5.fT hz (Nat.le_refl _)) now
theorem DC(c:dq)(now:Int):qs c 0 (eF c kR now):=LQ c (fun _ h=>h) Ar now
theorem eP.mono{c:dq}{n m:Nat}{v:cG}(h:eP G c n v)(hn:n≤m):eP G c m v:=
 ⟨h.hc,h.now,h.fuse,h.r,h.z,h.t,fun hu=>by obtain⟨h1,xs,h2,h3⟩:=h.up hu;exact⟨h1,xs,h2,by omega⟩,fun hu=>by obtain⟨h1,A,h2,h3⟩:=h.dn hu;exact⟨h1,A,h2,fun zs hz=>⟨(h3 zs hz).1,by have:=(h3 zs hz).2;omega⟩⟩⟩
theorem eP.imp{G':List cC→Prop}{c:dq}{n:Nat}{v:cG}(h:eP G c n v)(hr: ∀t,G' t→dk t=true)(hi: ∀t,G t→G' t):eP G' c n v:=
 ⟨h.hc,h.now,h.fuse,hr,fun hk=>hi _ (h.z hk),hi _ h.t,h.up,fun hu=>by obtain⟨h1,A,h2,h3⟩:=h.dn hu;exact⟨h1,A,h2,fun zs hz=>⟨hi _ (h3 zs hz).1,(h3 zs hz).2⟩⟩⟩
theorem eP.tab{c:dq}{n:Nat}{v:cG}(h:eP G c n v):qs c n v:=h.imp (fun _ h=>h) h.r
theorem I4{c:dq}{n:Nat}{v:cG}(h:eP G c n v)(d:Int):eP G c n (yK v d):=by
 unfold yK;split
 ·refine⟨h.hc,?_,h.fuse,h.r,h.z,h.t,h.up,h.dn⟩;have:=h.now;dsimp only
  repeat' split
  all_goals omega
 ·exact h
theorem lF{c:dq}{n:Nat}{v:cG}(h:eP G c n v)(keep:List Int)(dir:Bool):eP G c n (dX v keep dir):=
 ⟨h.hc,h.now,xA,h.r,h.z,h.t,fun hu=>(by cases hu),fun _=>h.fT.SM keep dir⟩
theorem pD{c:dq}{n:Nat}{v:cG}(h:eP G c n v):eP G c n (dG v):=by
 unfold dG;split
 ·exact h
 ·rw[h.hc];exact yW h.r h.z h.fT _
theorem nL{c:dq}{n:Nat}{v:cG}(h:eP G c n v){f:Int}(hf:nH f):eP G c n {v with fuse:=f}:=⟨h.hc,h.now,hf,h.r,h.z,h.t,h.up,h.dn⟩
theorem KS{f:Int}{n:Nat}(h:nH f):nH (zH f n):=by
 unfold zH nH at*
 split<;>omega
theorem Dh{c:dq}{n:Nat}{v:cG}(hc:v.c=c)(hnow:0≤v.now∧v.now≤1125899906842624)(hf:nH v.fuse)(hr: ∀t,G t→dk t=true)(ht:G v.s.t)(hu:v.up=true)(hck:dH c=0){m:Nat}{all:Bool}
 (h1:all=true∨(m:Int)≠v.fuse→ ∃xs,uM v.s xs∧xs.length≤n) (h2:v.fuse<0→all=true) (h3:vJ G n v.s.k):eP G c n (kY v m all):=by
 unfold kY;split
 ·rename_i hlt;exact⟨hc,hnow,hf,hr,fun h=>absurd hck h,ht,fun _=>⟨hck,h1 (.inl (h2 hlt))⟩,fun h=>by rw[hu]at h;cases h⟩
 ·rename_i hge;split
  ·exact⟨hc,hnow,xA,hr,fun h=>absurd hck h,ht,fun h=>(by cases h),fun _=>h3⟩
  ·rename_i hno;refine⟨hc,hnow,KS hf,hr,fun h=>absurd hck h,ht,fun _=>⟨hck,h1 ?_⟩,fun h=>by have:v.up=false:=h;rw[hu]at this;cases this⟩
   cases all with
   |true=>exact .inl rfl
   |false=>
    refine .inr fun e=>hno ⟨rfl,?_⟩
    unfold zH;rw[if_neg (by omega)]
theorem Mb{c:dq}{n:Nat}{v:cG}(h:eP G c n v)(hn:n≤59)(hu:v.up=true){l:cC}(he:(gJ v.s.t l).2=0)(hg:G (gJ v.s.t l).1):eP G c (n+1) (kY {v with s:=(eH v.s l v.fuse).1} (eH v.s l v.fuse).2.1 (eH v.s l v.fuse).2.2):=by
 obtain⟨hck,xs,hm,hx⟩:=h.up hu;obtain⟨p1,p2,p3,p4,p5,p6,p7,p8,p9,p10⟩:=(vT hm l v.fuse).2 he;have hold:vJ G (n+1) (eH v.s l v.fuse).1.k:=by
  refine⟨p4,_,p3,fun zs hz=>?_⟩
  rcases hz with rfl|rfl
  ·exact⟨by rw[←hm.t];exact h.t,by omega⟩
  ·exact⟨by rw[←p2];exact hg,by simp;omega⟩
 have htk:G (eH v.s l v.fuse).1.t:=by
  cases hk:(eH v.s l v.fuse).2.2 with
  |true=>rw[(p5 hk).t,←p2];exact hg
  |false=>rw[p6 hk];exact h.t
 refine Dh (v:= {v with s:=(eH v.s l v.fuse).1}) h.hc h.now h.fuse h.r htk hu hck (fun hc=>?_) (fun hf=>p7 (by omega) hf) hold
 cases hk:(eH v.s l v.fuse).2.2 with
 |true=>exact⟨xs++ [l],p5 hk,by simp;omega⟩
 |false=>
  rcases hc with hc|hc
  ·rw[hk]at hc;cases hc
  ·rcases p10 hk with h0|h0
   ·exact⟨xs,by rw[(p9 h0).2];exact hm,by omega⟩
   ·exact absurd h0 hc
end
theorem x_{s:gY}{xs:List cC}(h:uM s xs)(hx:xs.length≤60)(many fuel:Int):
 (eA s many fuel).1.t=s.t∧Rec (u_ xs s.t) (eA s many fuel).1.k∧n7 (eA s many fuel).1.k∧((eA s many fuel).2.2=true→ ∃zs,(zs=xs∨zs=s.t)∧uM (eA s many fuel).1 zs)∧
  (fuel<0→(eA s many fuel).2.2=true)∧(eA s many fuel).2.1≤5∧((eA s many fuel).2.2=false→((eA s many fuel).2.1:Int)=fuel):=by
 have hsame:Rec (u_ xs s.t) s.k:=h.sd.c.mono fun z hz=> .inl hz
 obtain⟨t1,t2,t3⟩:=gy.1 h.r;have hlen:s.t.length≤60:=by rw[h.t];exact ao (lB xs) hx
 have hB:=Iy t2;unfold eA;split
 ·exact⟨rfl,hsame,h.nm,fun _=>⟨xs,.inl rfl,h⟩,fun _=>rfl,by simp,fun h=>by simp at h⟩
 rw[ya t2 (by omega),if_neg (by simp)]
 dsimp only;obtain⟨cs,dQ⟩: ∃cs,cs=(eN s.k s.t).1:=⟨_,rfl⟩;have hcs2:((if(eW s.k nK).2=0 then[⟨4,nK,[],[]⟩]else[])++oB (fy s.t))=cs:=by rw[dQ,ya t2 (by omega)]
 rw[hcs2];have hrun:=Is h.sd h.nm t2 (by omega) (if fuel<0 then(eN s.k s.t).1.length else fuel.toNat)
 have hl5:=(qj s.k s.t).1;rw[←dQ]at hrun hl5;unfold ko;rw[fK h.sd.c.r];have hc:=hrun.c;have hnm:=hrun.nms;have hall:=hrun.all;have hnum:=hrun.num;generalize hfu:(if fuel<0 then cs.length else fuel.toNat)=fu at*
 generalize kQ cs fu s.k=r at*
 by_cases hn:r.2<cs.length
 ·rw[if_pos hn];have hge: ¬fuel<0:=fun hf=>by rw[if_pos hf]at hfu;omega
  rw[if_neg hge]at hfu;exact⟨rfl,hc,hnm,fun h=>by simp at h,fun hf=>absurd hf hge,by show r.2≤5;omega,fun _=>by show((r.2:Nat):Int)=fuel;omega⟩
 ·rw[if_neg hn];have hagain:ei s.t=s.t:=by rw[h.t];exact pU xs
  exact⟨rfl,hc,hnm,fun _=>⟨s.t,.inr rfl,⟨hall (by omega),hnm,hagain.symm,h.r⟩⟩,fun _=>rfl,by show r.2≤5;omega,fun h=>by simp at h⟩
section
variable {G:List cC→Prop}
theorem It{s:gY}{xs:List cC}{n:Nat}(h:uM s xs)(hg:G s.t)(hx:xs.length≤n){k:Dk}(hr:Rec (u_ xs s.t) k)(hn:n7 k):vJ G n k:=by
 refine⟨hn,_,hr,fun zs hz=>?_⟩
 rcases hz with rfl|rfl
 ·exact⟨by rw[←h.t];exact hg,hx⟩
 ·have hagain:ei s.t=s.t:=by rw[h.t];exact pU xs
  exact⟨by rw[hagain];exact hg,by rw[h.t];exact ao (lB xs) hx⟩
theorem zZ{c:dq}{n:Nat}{v:cG}(h:eP G c n v)(hn:n≤60):eP G c n (j6 v):=by
 unfold j6;split
 ·exact h
 ·rename_i hu;have hu:v.up=true:=by simpa using hu
  obtain⟨hck,xs,hm,hx⟩:=h.up hu;obtain⟨p1,p2,p3,p4,p5,p6,p7⟩:=x_ hm (by omega) 8 v.fuse
  refine Dh (v:= {v with s:=(eA v.s 8 v.fuse).1}) h.hc h.now h.fuse h.r (by show G (eA v.s 8 v.fuse).1.t;rw[p1];exact h.t) hu hck (fun hc=>?_) p5 (It hm h.t hx p2 p3)
  cases hk:(eA v.s 8 v.fuse).2.2 with
  |true=>
   obtain⟨zs,hz,hmz⟩:=p4 hk;refine⟨zs,hmz,?_⟩;rcases hz with rfl|rfl
   ·exact hx
   ·rw[hm.t];exact ao (lB xs) hx
  |false=>
   rcases hc with hc|hc
   ·rw[hk]at hc;cases hc
   ·exact absurd (p7 hk) hc
theorem y_{c:dq}{n:Nat}{v:cG}(h:eP G c n v)(hn:n≤59)(b:List UInt8)(iface:Int)
 (hg:v.up=true→(cL v.c v.s.t (jB b).2 iface v.now).keep=true→G (gJ v.s.t (cL v.c v.s.t (jB b).2 iface v.now).lease).1):eP G c (n+1) (fM v b iface).1:=by
 unfold fM;split
 ·exact h.mono (by omega)
 ·rename_i hu;simp only[not_or,cx,bp]at hu;have ha:=IB v.c v.s.t (jB b).2 iface v.now;split
  ·rename_i hk;exact Mb h hn hu.1 (ha.keep hk).1 (hg hu.1 hk)
  ·exact h.mono (by omega)
theorem G0{c:dq}{n:Nat}{v:cG}(h:eP G c n v)(hn:n≤59)(e:lq)(hf:nH e.n)
 (hg:v.up=true→(cL v.c v.s.t (jB e.b).2 e.iface v.now).keep=true→G (gJ v.s.t (cL v.c v.s.t (jB e.b).2 e.iface v.now).lease).1):eP G c (n+1) (N6 v e).1:=by
 unfold N6;have h1:=h.mono (m:=n+1) (by omega)
 split
 ·exact y_ h hn _ _ hg
 split
 ·exact I4 h1 _
 split
 ·exact(zZ h (by omega)).mono (by omega)
 split
 ·exact lF h1 _ _
 split
 ·exact pD h1
 ·exact nL h1 hf
end
theorem FP{v:cG}{m:ee}{iface:Int}(hk:(cL v.c v.s.t m iface v.now).keep=true):QY (gJ v.s.t (cL v.c v.s.t m iface v.now).lease).1:=(sA ((IB v.c v.s.t m iface v.now).keep hk).1).1
theorem sI{c:dq}{n:Nat}{v:cG}(h:qs c n v)(hn:n≤59)(b:List UInt8)(iface:Int):qs c (n+1) (fM v b iface).1:=y_ h hn b iface fun _ hk=>FP hk
theorem Ja{c:dq}{n:Nat}{v:cG}(h:qs c n v)(hn:n≤59)(e:lq)(hf:nH e.n):qs c (n+1) (oV v e):=by
 unfold oV;split
 ·exact G0 h hn e hf fun _ hk=>FP hk
 ·exact h.mono (by omega)
theorem tQ{c:dq}: ∀(l:List lq) {n:Nat} {v:cG},qs c n v→n+l.length≤60→(∀e∈l,nH e.n)→qs c (n+l.length) (l.foldl oV v)
 | [],n,v,h,_,_=>h
 |e::l,n,v,h,hl,hf=>by
  simp only[List.length_cons]at hl;have:=tQ l (Ja h (by omega) e (hf e (by simp))) (by omega) (fun x hx=>hf x (by simp[hx]))
  simp only[List.foldl_cons,List.length_cons];rw[show n+(l.length+1)=n+1+l.length by omega]
  exact this
theorem pL{c:dq}{l:List lq}(hf: ∀e∈l,nH e.n):qs c 30 (u4 c l):=by
 have:=tQ (l.take 30) (DC c 0) (by simp only[List.length_take];omega) (fun e he=>hf e (aA he))
 exact this.mono (by simp only[List.length_take];omega)
theorem ET: ∀(cs:List iS) (n:Nat) (k:Dk),(kQ cs n k).2≤cs.length
 | [],n,k=>by simp[kQ]
 |c::cs,0,k=>by simp[kQ]
 |c::cs,n+1,k=>by
  have:=ET cs n (jt c k).1;simp only[List.length_cons,kQ];split
  ·dsimp only;omega
  ·dsimp only;omega
theorem zc(b:List UInt8):ez (jB b).2:=by
 by_cases h:(jB b).1=0
 ·exact gK (Hl b h)
 ·rw[L8 b h];exact⟨by simp[m0],by simp[m0,sized]⟩
theorem Jv(s:gY)(l:cC)(fuel:Int):(eH s l fuel).2.1≤3:=by
 unfold eH;split
 ·simp
 ·have h1:=(Bz s.k l).1;have h2:=ET (kT s.k l).1 (if fuel<0 then(kT s.k l).1.length else fuel.toNat) (cP s.k)
  unfold ko
  generalize(if fuel<0 then _ else fuel.toNat)=fu at*
  split<;>exact ao h2 h1
theorem E7(s:gY)(many fuel:Int):(eA s many fuel).2.1≤5:=by
 unfold eA;split
 ·simp
 split
 ·simp
 ·have h1:=(qj s.k s.t).1;have h2:=ET (eN s.k s.t).1 (if fuel<0 then(eN s.k s.t).1.length else fuel.toNat) (cP s.k)
  unfold ko
  generalize(if fuel<0 then _ else fuel.toNat)=fu at*
  split<;>exact ao h2 h1
theorem eP.k{G:List cC→Prop}{c:dq}{n:Nat}{v:cG}(h:eP G c n v):m5 v.s.k:=h.fT.ok
theorem eP.tl{G:List cC→Prop}{c:dq}{n:Nat}{v:cG}(h:eP G c n v):v.s.t.length≤64:=(gy.1 (h.r _ h.t)).1
theorem eP.f{G:List cC→Prop}{c:dq}{n:Nat}{v:cG}(h:eP G c n v):v.fuse≤9223372036854775807:=h.fuse.2
theorem mq{G:List cC→Prop}{c:dq}{n:Nat}{v:cG}(h:eP G c n v)(hc:dW c)(b:List UInt8)(hb:b.length≤100000)(iface:Int):
 cD Tryz.prog 26 [.d v.d,.d (.slice (b.map cM)),.d (.int .i64 iface)] (.tup [.d (fM v b iface).1.d,.d (.slice ((fM v b iface).2.map iA.d))]) (fun _=>false):=by
 have ha:=IB v.c v.s.t (jB b).2 iface v.now;exact yx v b iface hb (by rw[h.hc];exact hc) h.k (Ap (h.r _ h.t)) (zc b) h.f ha.key ha.sz (by have:=Jv v.s (cL v.c v.s.t (jB b).2 iface v.now).lease v.fuse;omega)
theorem Da{G:List cC→Prop}{c:dq}{n:Nat}{v:cG}(h:eP G c n v):cD Tryz.prog 35 [.d v.d] (.d (j6 v).d) (fun _=>false):=
 BY v h.k (Ap (h.r _ h.t)) (by have:=h.tl;omega) (by have:=E7 v.s 8 v.fuse;omega) h.f
theorem Em(e:lq)(h1:e.b.length≤9223372036854775807)(h2:e.keep.length≤9223372036854775807):cD Tryz.prog 19 [.d e.d] (.d (.bool (rE e))) (fun _=>false):=by
 refine cD.bi Tryz.func19 [20001] ?_;unfold rE;by_cases k1:e.b.length≤5000
 ·have k1':(e.b.length:Int)≤5000:=by omega
  by_cases k2:e.keep.length≤100
  ·have k2':(e.keep.length:Int)≤100:=by omega
   simp-implicitDefEqProofs (disch:=try exact dd) [cB,lq.d,k1,k1',k2,k2']
  ·have k2': ¬(e.keep.length:Int)≤100:=by omega
   simp-implicitDefEqProofs (disch:=try exact dd) [cB,lq.d,k1,k1',k2,k2']
 ·have k1': ¬(e.b.length:Int)≤5000:=by omega
  simp-implicitDefEqProofs (disch:=try exact dd) [cB,lq.d,k1,k1']
def Q9:cG:=⟨⟨0,0,[]⟩,⟨[],kR⟩,0,0,false⟩
theorem MG{G:List cC→Prop}{c:dq}{n:Nat}{v:cG}(h:eP G c n v)(hc:dW c)(e:lq)(hs:rE e=true):
 cD Tryz.prog 20 [.d v.d,.d e.d] (.tup [.d (N6 v e).1.d,.d (.slice ((N6 v e).2.map iA.d))]) (fun _=>false):=by
 refine cD.bi Tryz.func20 [20003,50013,50016] ?_;simp only[rE,Bool.and_eq_true,decide_eq_true_eq]at hs;have q0:=mq h hc e.b (by omega) e.iface
 have q1:=DG v e.n h.now.1 h.now.2;have q2:=Da h;have q3:=jl v h.k e.keep (by omega) e.dir
 have q4:=gU v (by rw[h.hc];exact hc) h.k
 unfold N6;by_cases k0:e.kind=0
 ·rw[if_pos k0];generalize fM v e.b e.iface=r at*
  simp-implicitDefEqProofs (disch:=try exact dd) [cB,cG.d,lq.d,k0]
  refine oc q0 ?_
  simp-implicitDefEqProofs (disch:=try exact dd) [cB,cG.d]
 rw[if_neg k0];by_cases k1:e.kind=1
 ·rw[if_pos k1];generalize yK v e.n=r at*
  simp-implicitDefEqProofs (disch:=try exact dd) [cB,cG.d,lq.d,k0,k1]
  refine oc q1 ?_
  simp-implicitDefEqProofs (disch:=try exact dd) [cB,cG.d]
 rw[if_neg k1];by_cases k2:e.kind=2
 ·rw[if_pos k2];generalize j6 v=r at*
  simp-implicitDefEqProofs (disch:=try exact dd) [cB,cG.d,lq.d,k0,k1,k2]
  refine oc q2 ?_
  simp-implicitDefEqProofs (disch:=try exact dd) [cB,cG.d]
 rw[if_neg k2];by_cases k3:e.kind=3
 ·rw[if_pos k3];generalize dX v e.keep e.dir=r at*
  simp-implicitDefEqProofs (disch:=try exact dd) [cB,cG.d,lq.d,k0,k1,k2,k3]
  refine oc q3 ?_
  simp-implicitDefEqProofs (disch:=try exact dd) [cB,cG.d]
 rw[if_neg k3];by_cases k4:e.kind=4
 ·rw[if_pos k4];generalize dG v=r at*
  simp-implicitDefEqProofs (disch:=try exact dd) [cB,cG.d,lq.d,k0,k1,k2,k3,k4]
  refine oc q4 ?_
  simp-implicitDefEqProofs (disch:=try exact dd) [cB,cG.d]
 rw[if_neg k4]
 simp-implicitDefEqProofs (disch:=try exact dd) [cB,cG.d,lq.d,k0,k1,k2,k3,k4]
def yl(l:List lq):Prop:=l.length≤maxLen∧ ∀e∈l,nH e.n∧e.b.length≤maxLen∧e.keep.length≤maxLen
theorem jq:maxLen≤9223372036854775807:=by decide
theorem Mc{c:dq}{l:List lq}(hf: ∀e∈l,nH e.n)(i:Nat)(hi:i≤30):qs c 30 ((l.take i).foldl oV (eF c kR 0)):=by
 have:=tQ (l.take i) (DC c 0) (by simp only[List.length_take];omega) (fun e he=>hf e (aA he))
 exact this.mono (by simp only[List.length_take];omega)
theorem H'(c:dq)(l:List lq){i:Nat}(h:i<l.length):(l.take (i+1)).foldl oV (eF c kR 0)=oV ((l.take i).foldl oV (eF c kR 0)) l[i]:=by
 rw[List.take_succ_eq_append_getElem h,List.foldl_append];rfl
def WX(c:dq)(l:List lq)(i:Nat)(S:PS):Prop:=
 i≤l.length∧i≤30∧S.t 1= .d (.slice (l.map lq.d))∧S.t 6= .d (.int .i64 i)∧S.t 4= .ptr (FO+4) 1 0∧S.t 5= .ptr (FO+5) 1 0∧S.fo=FO∧S.gen (FO+4)=1∧S.gen (FO+5)=1∧S.box (FO+4)=(cells Q9.d).map .d∧S.box (FO+5)=(cells ((l.take i).foldl oV (eF c kR 0)).d).map .d
theorem kx(c:dq)(hc:dW c)(l:List lq)(hl:yl l):cD Tryz.prog 25 [.d c.d,.d (.slice (l.map lq.d))] (.d (u4 c l).d) (fun _=>false):=by
 refine cD.bi Tryz.func25 [20002,50007] ?_;have hlen:=hl.1;have hmx:=jq;have hf: ∀e∈l,nH e.n:=fun e he=>(hl.2 e he).1
 have q0:=px c kR 0 hc W1;have e0:(l.take 0).foldl oV (eF c kR 0)=eF c kR 0:=rfl;have hd0:Dk.d kR= .agg [.slice [],.slice [],.slice []]:=rfl;rw[hd0]at q0;unfold u4
 simp-implicitDefEqProofs (disch:=try exact dd) [cB]
 refine oc q0 ?_
 simp-implicitDefEqProofs (disch:=try exact dd) [cB,cG.d]
 refine lp (WX c l) (fun i=>l.length-i) 0 (by refine⟨by omega,by omega,?_,?_,?_,?_,?_,?_,?_,?_,?_⟩<;>simp-implicitDefEqProofs (disch:=try exact dd) [cB,Q9,kR,cG.d,e0]) ?_
 rintro i S ⟨hi,hi30,e1,e6,e4,e5,efo,g4,g5,b4,b5⟩;by_cases hlt:i<l.length
 ·have k6:(i:Int)<l.length:=by omega
  by_cases h30:i<30
  ·have k7:(i:Int)<30:=by omega
   have hinv:=Mc (c:=c) hf i hi30;have hst:=H' c l hlt;have hmem:=hl.2 l[i] (List.getElem_mem hlt);have hnt:nth l (i:Int)=l[i]:=dB hlt
   generalize(l.take i).foldl oV (eF c kR 0)=v at*
   generalize l[i]=e at*
   have q1:=Em e (by omega) (by omega)
   rw[show oV v e=(if rE e=true then(N6 v e).1 else v)from rfl]at hst
   simp-implicitDefEqProofs (disch:=try exact dd) [cB,e1,e6,e4,e5,efo,g4,g5,b4,b5,k6,k7,hnt]
   refine oc q1 ?_
   cases hs:rE e with
   |true=>
    rw[hs,if_pos rfl]at hst;have q2:=MG hinv hc e hs;generalize N6 v e=r at*
    simp-implicitDefEqProofs (disch:=try exact dd) [cB,e1,e6,e4,e5,efo,g4,g5,b4,b5,hnt]
    refine oc q2 ?_
    simp-implicitDefEqProofs (disch:=try exact dd) [cB,e1,e6,e4,e5,efo,g4,g5,b4,b5]
    exact cE (i+1) (by refine⟨by omega,by omega,?_,?_,?_,?_,?_,?_,?_,?_,by rw[hst];simp-implicitDefEqProofs (disch:=try exact dd) [cB,efo]⟩<;>simp-implicitDefEqProofs (disch:=try exact dd) [cB,e1,e6,e4,e5,efo,g4,g5,b4]) (by omega)
   |false=>
    rw[hs,if_neg (by decide)]at hst
    simp-implicitDefEqProofs (disch:=try exact dd) [cB,e1,e6,e4,e5,efo,g4,g5,b4,b5]
    exact cE (i+1) (by refine⟨by omega,by omega,?_,?_,?_,?_,?_,?_,?_,?_,by rw[hst];simp-implicitDefEqProofs (disch:=try exact dd) [cB,efo,b5]⟩<;>simp-implicitDefEqProofs (disch:=try exact dd) [cB,e1,e6,e4,e5,efo,g4,g5,b4]) (by omega)
  ·have k7: ¬(i:Int)<30:=by omega
   obtain rfl:i=30:=by omega
   simp-implicitDefEqProofs (disch:=try exact dd) [cB,e1,e6,e4,e5,efo,g4,g5,b4,b5,k6,k7]
 ·have k6: ¬(i:Int)<l.length:=by omega
  have ht:l.take 30=l:=List.take_of_length_le (by omega)
  have ht2:l.take i=l:=List.take_of_length_le (by omega)
  rw[ht];rw[ht2]at b5
  simp-implicitDefEqProofs (disch:=try exact dd) [cB,e1,e6,e4,e5,efo,g4,g5,b4,b5,k6]
def wB(kind:Int)(more:List cN):ee:=⟨1,0,0,0,0,0,0,0,0,0,0,[0,0,0,0,0,0,0,0,0,0,0,0,0,0,0,0],⟨53,[ld kind]⟩::⟨61,[48,50]⟩::more⟩
def lL(kind:Int)(more:List cN):List UInt8:=(gz (wB kind more)).1
theorem MW(m:ee):(tc m).length=224+m.chaddr.length+(eD m.opts).length:=by
 rw[KO];simp only[vF,List.length_append,List.length_replicate,nq,List.length_cons,List.length_nil];omega
theorem Dq{l:List cN}(h: ∀o∈l,o.data.length≤600):(eD l).length≤BT l+1:=by
 have:=ux h;simp only[eD,List.length_append,List.length_cons,List.length_nil];omega
theorem BD{m:ee}(h:db m=true)(hl:(tc m).length≤1500):gz m=(kS m,0):=by
 unfold gz;rw[if_neg (by rw[h];decide),if_neg (by omega)]
theorem n_{m:ee}(h:db m=true)(hl:(tc m).length≤1500):jB (gz m).1=(0,m)∧(gz m).1.length≤1500:=by
 have h2:=Fc m;rw[BD h hl];exact⟨back m h (by omega),by show(kS m).length≤1500;omega⟩
theorem short{m:ee}(h:db m=true)(hs:BT m.opts≤1000):(tc m).length≤1500:=by
 have hn:=ki h;have:=Dq (pz hn.ro).2;rw[MW,hn.ch];omega
theorem zu(kind:Int)(more:List cN)(hm:ez (wB kind more))(hl:more.length≤1000):cD Tryz.prog 49 [.d (.int .i64 kind),.d (.slice (more.map cN.d))] (.d (.slice ((lL kind more).map cM))) (fun _=>false):=by
 refine cD.bi Tryz.func49 [20017,18,10012,80012,20013] ?_;have q:=xc (wB kind more) hm;unfold lL;generalize gz (wB kind more)=r at*
 unfold wB at q
 simp-implicitDefEqProofs (disch:=try exact dd) [cB,pk,dS,nO]
 rw[RP (n:=16) (z:= .int .u8 0) (by simp) (by simp)]
 simp-implicitDefEqProofs (disch:=try exact dd) [cB]
 refine oc q ?_
 simp-implicitDefEqProofs (disch:=try exact dd) [cB]
def Sg:ee:=wB 1 []
def KB:List cN:= [⟨54,[10,0,0,1]⟩,⟨50,[10,0,0,10]⟩]
def NS:ee:=wB 3 KB
theorem KD:db Sg=true:=by kernel_rfl
theorem KC:db NS=true:=by kernel_rfl
theorem Sf:BT Sg.opts≤1000:=by decide+kernel
theorem Se:BT NS.opts≤1000:=by decide+kernel
def ve:cG:=eF g7 kR 5
def Pc:kU:=cL g7 [] Sg 1 5
def Dn:kU:=cL g7 [] NS 1 5
def kL:cC:=⟨167772170,1,605,[105,48,50]⟩
theorem mX:ve=⟨g7,⟨[],kR⟩,5, -1,true⟩:=by kernel_rfl
theorem NT:Pc.keep=false∧Pc.send=true:=⟨by kernel_rfl,by kernel_rfl⟩
theorem xk:Dn.keep=true∧Dn.send=true∧Dn.lease=kL∧f_ Dn.reply.opts=5:=⟨by kernel_rfl,by kernel_rfl,by kernel_rfl,by kernel_rfl⟩
theorem Sc:(eH ⟨[],kR⟩ kL (-1)).2.2=true∧(eH ⟨[],kR⟩ kL (-1)).1.t= [kL]:=⟨by kernel_rfl,by kernel_rfl⟩
theorem Sb:(eH ⟨[],kR⟩ kL 1).2.2=false∧(eH ⟨[],kR⟩ kL 1).2.1=1∧(eH ⟨[],kR⟩ kL 1).1.t= []:=⟨by kernel_rfl,by kernel_rfl,by kernel_rfl⟩
theorem Sa:(kW (ep (eH ⟨[],kR⟩ kL 1).1.k [] false)).2=0∧(kW (ep (eH ⟨[],kR⟩ kL 1).1.k [] false)).1.t= []:=⟨by kernel_rfl,by kernel_rfl⟩
theorem XB:dH g7=0:=by kernel_rfl
theorem T_:qs g7 0 ve:=DC g7 5
theorem Nx:jB (lL 1 [])=(0,Sg)∧(lL 1 []).length≤1500:=n_ KD (short KD Sf)
theorem Jg:jB (lL 3 KB)=(0,NS)∧(lL 3 KB).length≤1500:=n_ KC (short KC Se)
theorem kR1:fM ve (lL 1 []) 1=(ve,[⟨(gz Pc.reply).1,Pc.to⟩]):=by
 have e:cL ve.c ve.s.t Sg 1 ve.now=Pc:=by rw[mX];rfl
 unfold fM;rw[Nx.1,e,NT.1,if_neg (by rw[mX];simp),if_neg (by simp)]
 unfold sB;rw[if_pos NT.2]
def XA:cG:= {ve with s:=(eH ⟨[],kR⟩ kL (-1)).1}
def NR:cG:= {ve with s:=(eH ⟨[],kR⟩ kL 1).1,fuse:= -1,up:=false}
theorem kR3:fM ve (lL 3 KB) 1=(XA,[⟨(gz Dn.reply).1,Dn.to⟩]):=by
 have e:cL ve.c ve.s.t NS 1 ve.now=Dn:=by rw[mX];rfl
 have e2:ve.s=⟨[],kR⟩∧ve.fuse= -1:=by rw[mX];exact⟨rfl,rfl⟩
 unfold fM;rw[Jg.1,e,xk.1,xk.2.2.1,e2.1,e2.2,if_neg (by rw[mX];simp),if_pos rfl,Sc.1,if_pos rfl]
 unfold sB kY;rw[if_pos xk.2.1,if_pos (by show ve.fuse<0;rw[e2.2];decide)]
 rfl
theorem kR4:fM {ve with fuse:=1} (lL 3 KB) 1=(NR,[]):=by
 have e:cL ve.c ve.s.t NS 1 ve.now=Dn:=by rw[mX];rfl
 have e2:ve.s=⟨[],kR⟩:=by rw[mX]
 unfold fM;dsimp only;rw[Jg.1,e,xk.1,xk.2.2.1,e2,if_neg (by rw[mX];simp),if_pos rfl,Sb.1,if_neg (by decide),Sb.2.1]
 unfold kY;rw[if_neg (by decide),if_pos ⟨rfl,by decide⟩]
 rfl
def Pb:cG:=dG (dX NR [] false)
theorem R_:Pb.up=true∧Pb.s.t= []∧Pb.now=5:=by
 have e:Pb=eF g7 (ep (eH ⟨[],kR⟩ kL 1).1.k [] false) 5:=by
  unfold Pb dG;rw[if_neg (by simp[dX])]
  show eF ve.c (ep (eH ⟨[],kR⟩ kL 1).1.k [] false) ve.now=_
  rw[mX]
 rw[e];unfold eF;rw[if_neg (by rw[XB,Sa.1];simp)]
 exact⟨rfl,Sa.2,by decide⟩
theorem dV:cD Tryz.prog 16 [] (.d (.bool true)) (fun _=>false):=by
 refine cD.bi Tryz.func16 [] ?_;have w1:=zu 1 [] (gK KD) (by decide)
 have w3:=zu 3 KB (gK KC) (by decide)
 have hl1:=Nx.2;have hl3:=Jg.2;have q0:=px g7 kR 5 kr W1;have hd0:Dk.d kR= .agg [.slice [],.slice [],.slice []]:=rfl;rw[hd0]at q0;rw[show eF g7 kR 5=ve from rfl]at q0
 have r1:=mq T_ kr (lL 1 []) (by omega) 1
 have r3:=mq T_ kr (lL 3 KB) (by omega) 1
 have r4:=mq (nL T_ (f:=1) (by unfold nH;omega)) kr (lL 3 KB) (by omega) 1
 rw[kR1]at r1;rw[kR3]at r3;rw[kR4]at r4;have ha3:=IB g7 [] NS 1 5;have hr3:=ha3.send xk.2.1;have hb3:=n_ hr3.1 hr3.2;have i2:qs g7 1 NR:=by
  have:=sI (nL T_ (f:=1) (by unfold nH;omega)) (by omega) (lL 3 KB) 1
  rw[kR4]at this;exact this
 have r5:=jl NR i2.k [] (by decide) false
 have i3:=lF i2 [] false;have r6:=gU (dX NR [] false) (by rw[i3.hc];exact kr) i3.k
 have r7:=Cn (gz Dn.reply).1 (by have:=hb3.2;rw[show cL g7 [] NS 1 5=Dn from rfl]at this;omega)
 rw[show jB (gz Dn.reply).1=(0,Dn.reply)from hb3.1]at r7
 have r8:=rM Dn.reply.opts (gK hr3.1).2;rw[xk.2.2.2]at r8;have f1:XA.s.t= [kL]:=Sc.2;have f2:ve.up=true:=by rw[mX]
 have f3:=R_;rw[show dG (dX NR [] false)=Pb from rfl]at r6
 have f4:NR.up=false:=rfl;have eo:KB.map cN.d= [.agg [.int .i64 54,.slice [.int .u8 10,.int .u8 0,.int .u8 0,.int .u8 1]],.agg [.int .i64 50,.slice [.int .u8 10,.int .u8 0,.int .u8 0,.int .u8 10]]]:=by kernel_rfl
 rw[eo]at w3;generalize lL 1 []=b1 at*
 generalize lL 3 KB=b3 at*
 generalize(gz Pc.reply).1=c1 at*
 generalize(gz Dn.reply).1=c3 at*
 generalize Pc.to=d1 at*
 generalize Dn.to=d3 at*
 generalize Dn.reply=m3 at*
 generalize Pb=s3 at*
 generalize NR=s2 at*
 generalize XA=s1 at*
 generalize ve=s0 at*
 clear eo i2 i3 ha3 hr3 hb3
 simp-implicitDefEqProofs (disch:=try exact dd) [cB]
 refine oc Md ?_
 simp-implicitDefEqProofs (disch:=try exact dd) [cB,g7]
 refine oc q0 ?_
 simp-implicitDefEqProofs (disch:=try exact dd) [cB,cG.d]
 refine oc w1 ?_
 simp-implicitDefEqProofs (disch:=try exact dd) [cB,cG.d]
 refine oc r1 ?_
 simp-implicitDefEqProofs (disch:=try exact dd) [cB,cG.d]
 refine oc w3 ?_
 simp-implicitDefEqProofs (disch:=try exact dd) [cB,cG.d]
 refine oc r3 ?_
 simp-implicitDefEqProofs (disch:=try exact dd) [cB,cG.d]
 refine oc r4 ?_
 simp-implicitDefEqProofs (disch:=try exact dd) [cB,cG.d]
 refine oc r5 ?_
 simp-implicitDefEqProofs (disch:=try exact dd) [cB,cG.d]
 refine oc r6 ?_
 simp-implicitDefEqProofs (disch:=try exact dd) [cB,cG.d,iA.d,f1]
 refine oc r7 ?_
 simp-implicitDefEqProofs (disch:=try exact dd) [cB,cG.d,iA.d,f1,f2]
 refine oc r8 ?_
 simp-implicitDefEqProofs (disch:=try exact dd) [cB,cG.d,iA.d,f1,f2,f3,f4,kL]
theorem rf(v:cG)(n:Nat)(all:Bool):(kY v n all).s=v.s∧(kY v n all).c=v.c∧(kY v n all).now=v.now:=by
 unfold kY;split
 ·exact⟨rfl,rfl,rfl⟩
 ·split<;>exact⟨rfl,rfl,rfl⟩
theorem wb{c:dq}{A:List cC→Prop}{k:Dk}(hr:Rec A k)(ht: ∀zs,A zs→dk (ei zs)=true)(hck:dH c=0)(keep:List Int)(dir:Bool)(now:Int):
 (eF c (ep k keep dir) now).up=true∧ ∃zs,A zs∧(eF c (ep k keep dir) now).s.t=ei zs:=by
 obtain⟨zs,z1,z2,z3,_⟩:=Cg (za hr keep dir) ht;unfold eF;rw[if_neg (by simp[hck,z2])]
 exact⟨rfl,zs,z1,z3⟩
theorem gW(v:cG)(keep:List Int)(dir:Bool):dG (dX v keep dir)=eF v.c (ep v.s.k keep dir) v.now:=by
 unfold dG;rw[if_neg (by simp[dX])]
 rfl
theorem yV(c:dq)(k:Dk){now:Int}(h:0≤now∧now≤1125899906842624):(eF c k now).now=now:=by
 unfold eF
 split<;>exact Lm h
theorem found{c:dq}{n:Nat}{v:cG}(h:qs c n v)(hu:v.up=true)(keep:List Int)(dir:Bool):(dG (dX v keep dir)).up=true∧(dG (dX v keep dir)).now=v.now∧(dG (dX v keep dir)).s.t=v.s.t:=by
 obtain⟨hck,xs,hm,_⟩:=h.up hu;have hb:=wb (c:=v.c) hm.sd.c (fun zs e=>by subst e;rw[←hm.t];exact hm.r) (by rw[h.hc];exact hck) keep dir v.now
 rw[gW];obtain⟨h1,zs,rfl,h2⟩:=hb;exact⟨h1,yV _ _ h.now,by rw[h2,hm.t]⟩
theorem H7{c:dq}{n:Nat}{v:cG}(h:qs c n v)(keep:List Int)(dir:Bool):(dG (dX v keep dir)).now=v.now:=by
 rw[gW];exact yV _ _ h.now
theorem PB{c:dq}{n:Nat}{v:cG}(h:qs c n v)(hn:n≤60)(hu:v.up=true)(keep:List Int)(dir:Bool):
 (j6 v).s.t=v.s.t∧(dG (dX (j6 v) keep dir)).up=true∧(dG (dX (j6 v) keep dir)).s.t=v.s.t:=by
 obtain⟨hck,xs,hm,hx⟩:=h.up hu;obtain⟨p1,p2,p3,p4,p5,p6,p7⟩:=x_ hm (by omega) 8 v.fuse
 have e:j6 v=kY {v with s:=(eA v.s 8 v.fuse).1} (eA v.s 8 v.fuse).2.1 (eA v.s 8 v.fuse).2.2:=by
  unfold j6;rw[if_neg (by rw[hu];decide)]
 obtain⟨b1,b2,b3⟩:=rf {v with s:=(eA v.s 8 v.fuse).1} (eA v.s 8 v.fuse).2.1 (eA v.s 8 v.fuse).2.2
 rw[gW,e,b1,b2,b3];dsimp only;have hagain:ei v.s.t=v.s.t:=by rw[hm.t];exact pU xs
 have hA: ∀zs,u_ xs v.s.t zs→ei zs=v.s.t:=fun zs hz=>by
  rcases hz with rfl|rfl
  ·exact hm.t.symm
  ·exact hagain
 obtain⟨h1,zs,z1,z2⟩:=wb (c:=v.c) p2 (fun zs hz=>by rw[hA zs hz];exact hm.r) (by rw[h.hc];exact hck) keep dir v.now
 exact⟨p1,h1,by rw[z2,hA zs z1]⟩
theorem SL{c:dq}{n:Nat}{v:cG}(h:qs c n v)(hn:n≤59)(hu:v.up=true)(b:List UInt8)(iface:Int)(f:Int)(keep:List Int)(dir:Bool):
 (dG (dX (fM {v with fuse:=f} b iface).1 keep dir)).up=true∧
  ((dG (dX (fM {v with fuse:=f} b iface).1 keep dir)).s.t=v.s.t∨(dG (dX (fM {v with fuse:=f} b iface).1 keep dir)).s.t=(fM {v with fuse:= -1} b iface).1.s.t):=by
 obtain⟨hck,xs,hm,hx⟩:=h.up hu;have hsame: ∀keep dir,(eF v.c (ep v.s.k keep dir) v.now).up=true∧(eF v.c (ep v.s.k keep dir) v.now).s.t=v.s.t:=fun keep dir=>by
  have:=found h hu keep dir;rw[gW]at this;exact⟨this.1,this.2.2⟩
 rw[gW];unfold fM;dsimp only;by_cases h1:v.up=false∨(jB b).1≠0
 ·rw[if_pos h1];exact⟨(hsame keep dir).1,.inl (hsame keep dir).2⟩
 ·rw[if_neg h1,if_neg h1];have ha:=IB v.c v.s.t (jB b).2 iface v.now;generalize cL v.c v.s.t (jB b).2 iface v.now=a at*
  by_cases hk:a.keep=true
  ·rw[if_pos hk,if_pos hk];have he:=(ha.keep hk).1;have hst:=sA he;obtain⟨p1,p2,p3,p4,p5,p6,p7,_⟩:=(vT hm a.lease f).2 he;obtain⟨_,w2,_,_,w5,_,w7,_⟩:=(vT hm a.lease (-1)).2 he;have w:=w5 (w7 (by omega) (by decide))
   dsimp only;obtain⟨b1,b2,b3⟩:=rf {v with fuse:=f,s:=(eH v.s a.lease f).1} (eH v.s a.lease f).2.1 (eH v.s a.lease f).2.2
   obtain⟨c1,_,_⟩:=rf {v with fuse:= -1,s:=(eH v.s a.lease (-1)).1} (eH v.s a.lease (-1)).2.1 (eH v.s a.lease (-1)).2.2
   rw[b1,b2,b3,c1];dsimp only;obtain⟨h1,zs,z1,z2⟩:=wb (c:=v.c) p3 (fun zs hz=>by
    rcases hz with rfl|rfl
    ·rw[←hm.t];exact hm.r
    ·rw[←p2];exact hst.1) (by rw[h.hc];exact hck) keep dir v.now
   refine⟨h1,?_⟩;rw[z2];rcases z1 with rfl|rfl
   ·exact .inl hm.t.symm
   ·exact .inr w.t.symm
  ·rw[if_neg hk,if_neg hk];exact⟨(hsame keep dir).1,.inl (hsame keep dir).2⟩
theorem Kw(c:dq)(l:List lq)(keep:List Int)(dir:Bool)(hl:yl l)(hkl:keep.length≤maxLen):
 cD Tryz.prog 5 [.d c.d,.d (.slice (l.map lq.d)),.d (.slice (keep.map gM)),.d (.bool dir)] (.d (.bool true)) (fun _=>false):=by
 refine cD.bi Tryz.func5 [20004] ?_;have hmx:=jq;have hg:=td c
 cases h:kI c with
 |false=>
  rw[h]at hg
  simp-implicitDefEqProofs (disch:=try exact dd) [cB]
  refine oc hg ?_
  simp-implicitDefEqProofs (disch:=try exact dd) [cB]
  refine oc dV ?_
  simp-implicitDefEqProofs (disch:=try exact dd) [cB]
 |true=>
 rw[h]at hg;have hc:=jy h;by_cases hk:(100:Int)<keep.length
 ·simp-implicitDefEqProofs (disch:=try exact dd) [cB]
  refine oc hg ?_
  simp-implicitDefEqProofs (disch:=try exact dd) [cB,hk]
  refine oc dV ?_
  simp-implicitDefEqProofs (disch:=try exact dd) [cB]
 have hinv:=pL (c:=c) (l:=l) (fun e he=>(hl.2 e he).1)
 have q1:=kx c hc l hl;generalize u4 c l=v at*
 have i2:=lF hinv keep dir;have q2:=jl v hinv.k keep (by omega) dir
 have q3:=gU (dX v keep dir) (by rw[i2.hc];exact hc) i2.k
 have e2:=H7 hinv keep dir;have htl:=hinv.tl;have q4:=fS v.s.t v.s.t (by omega) (by omega)
 rw[decide_eq_true rfl]at q4;have hf:=fun hu=>found hinv hu keep dir
 generalize dG (dX v keep dir)=x at*
 generalize dX v keep dir=w at*
 cases hu:v.up with
 |false=>
  simp-implicitDefEqProofs (disch:=try exact dd) [cB]
  refine oc hg ?_
  simp-implicitDefEqProofs (disch:=try exact dd) [cB,hk]
  refine oc q1 ?_
  simp-implicitDefEqProofs (disch:=try exact dd) [cB,cG.d]
  refine oc q2 ?_
  simp-implicitDefEqProofs (disch:=try exact dd) [cB,cG.d]
  refine oc q3 ?_
  simp-implicitDefEqProofs (disch:=try exact dd) [cB,cG.d,hu,e2]
  refine oc dV ?_
  simp-implicitDefEqProofs (disch:=try exact dd) [cB]
 |true=>
  obtain⟨e1,_,e3⟩:=hf hu
  simp-implicitDefEqProofs (disch:=try exact dd) [cB]
  refine oc hg ?_
  simp-implicitDefEqProofs (disch:=try exact dd) [cB,hk]
  refine oc q1 ?_
  simp-implicitDefEqProofs (disch:=try exact dd) [cB,cG.d]
  refine oc q2 ?_
  simp-implicitDefEqProofs (disch:=try exact dd) [cB,cG.d]
  refine oc q3 ?_
  simp-implicitDefEqProofs (disch:=try exact dd) [cB,cG.d,hu,e1,e2,e3]
  refine oc q4 ?_
  simp-implicitDefEqProofs (disch:=try exact dd) [cB]
  refine oc dV ?_
  simp-implicitDefEqProofs (disch:=try exact dd) [cB]
theorem Gr(f:UInt8)(n:Nat)(hn:0<n)(h:n≤255):nH ((f.toNat % n:Nat):Int):=by
 have:=Nat.mod_lt f.toNat hn;unfold nH;omega
theorem Cx(c:dq)(l:List lq)(f:UInt8)(keep:List Int)(dir:Bool)(hl:yl l)(hkl:keep.length≤maxLen):
 cD Tryz.prog 8 [.d c.d,.d (.slice (l.map lq.d)),.d (cM f),.d (.slice (keep.map gM)),.d (.bool dir)] (.d (.bool true)) (fun _=>false):=by
 refine cD.bi Tryz.func8 [20005] ?_;have hmx:=jq;have hg:=td c
 cases h:kI c with
 |false=>
  rw[h]at hg
  simp-implicitDefEqProofs (disch:=try exact dd) [cB]
  refine oc hg ?_
  simp-implicitDefEqProofs (disch:=try exact dd) [cB]
  refine oc dV ?_
  simp-implicitDefEqProofs (disch:=try exact dd) [cB]
 |true=>
 rw[h]at hg;have hc:=jy h;by_cases hk:(100:Int)<keep.length
 ·simp-implicitDefEqProofs (disch:=try exact dd) [cB]
  refine oc hg ?_
  simp-implicitDefEqProofs (disch:=try exact dd) [cB,hk]
  refine oc dV ?_
  simp-implicitDefEqProofs (disch:=try exact dd) [cB]
 have hinv0:=pL (c:=c) (l:=l) (fun e he=>(hl.2 e he).1)
 have q1:=kx c hc l hl;generalize u4 c l=v at*
 cases hu:v.up with
 |false=>
  simp-implicitDefEqProofs (disch:=try exact dd) [cB]
  refine oc hg ?_
  simp-implicitDefEqProofs (disch:=try exact dd) [cB,hk]
  refine oc q1 ?_
  simp-implicitDefEqProofs (disch:=try exact dd) [cB,cG.d,hu]
  refine oc dV ?_
  simp-implicitDefEqProofs (disch:=try exact dd) [cB]
 |true=>
 have hf7:=Gr f 7 (by decide) (by decide)
 have hinv:=nL hinv0 hf7;have hcl:=PB hinv (by decide) hu keep dir
 have hst:({v with fuse:=((f.toNat % 7:Nat):Int)}:cG).s.t=v.s.t:=rfl
 rw[hst]at hcl;have q2:=Da hinv;have hd7:cG.d {v with fuse:=((f.toNat % 7:Nat):Int)}= .agg [.int .i64 v.c.server,.int .i64 v.c.probation,.slice (v.c.nets.map Net.d),.slice (v.s.t.map cC.d),.slice (v.s.k.files.map cK.d),.slice (v.s.k.now.map cZ.d),.slice (v.s.k.kept.map cZ.d),.int .i64 v.now,.int .i64 ((f.toNat % 7:Nat):Int),.bool v.up]:=rfl
 have hm7:((f.toNat:Nat):Int).tmod 7=((f.toNat % 7:Nat):Int):=by rw[Int.tmod_eq_emod_of_nonneg (by omega)];omega
 have i1:=zZ hinv (by decide)
 generalize j6 {v with fuse:=((f.toNat % 7:Nat):Int)}=w at*
 rw[hd7,hu]at q2;have i2:=lF i1 keep dir;have q3:=jl w i1.k keep (by omega) dir
 have q4:=gU (dX w keep dir) (by rw[i2.hc];exact hc) i2.k
 have htl:=hinv0.tl;have q5:=fS v.s.t v.s.t (by omega) (by omega)
 rw[decide_eq_true rfl]at q5;generalize dG (dX w keep dir)=y at*
 generalize dX w keep dir=z at*
 obtain⟨e1,e2,e3⟩:=hcl;have hr:=Nat.mod_lt f.toNat (show 0<7 by decide)
 simp-implicitDefEqProofs (disch:=try exact dd) [cB]
 refine oc hg ?_
 simp-implicitDefEqProofs (disch:=try exact dd) [cB,hk]
 refine oc q1 ?_
 simp-implicitDefEqProofs (disch:=try exact dd) [cB,cG.d,hu,hm7]
 refine oc q2 ?_
 simp-implicitDefEqProofs (disch:=try exact dd) [cB,cG.d]
 refine oc q3 ?_
 simp-implicitDefEqProofs (disch:=try exact dd) [cB,cG.d]
 refine oc q4 ?_
 simp-implicitDefEqProofs (disch:=try exact dd) [cB,cG.d,e1,e2,e3]
 refine oc q5 ?_
 simp-implicitDefEqProofs (disch:=try exact dd) [cB,e1,e2,e3]
 refine oc q5 ?_
 simp-implicitDefEqProofs (disch:=try exact dd) [cB]
 refine oc dV ?_
 simp-implicitDefEqProofs (disch:=try exact dd) [cB]
theorem MF(c:dq)(l:List lq)(b:List UInt8)(iface:Int)(f:UInt8)(keep:List Int)(dir:Bool)(hl:yl l)(hbl:b.length≤maxLen)(hkl:keep.length≤maxLen):
 cD Tryz.prog 6 [.d c.d,.d (.slice (l.map lq.d)),.d (.slice (b.map cM)),.d (.int .i64 iface),.d (cM f),.d (.slice (keep.map gM)),.d (.bool dir)] (.d (.bool true)) (fun _=>false):=by
 refine cD.bi Tryz.func6 [20007,3043015,3016016,3056015,3018018] ?_;have hmx:=jq;have hg:=td c
 cases h:kI c with
 |false=>
  rw[h]at hg
  simp-implicitDefEqProofs (disch:=try exact dd) [cB]
  refine oc hg ?_
  simp-implicitDefEqProofs (disch:=try exact dd) [cB]
  refine oc dV ?_
  simp-implicitDefEqProofs (disch:=try exact dd) [cB]
 |true=>
 rw[h]at hg;have hc:=jy h;by_cases hb:(5000:Int)<b.length
 ·simp-implicitDefEqProofs (disch:=try exact dd) [cB]
  refine oc hg ?_
  simp-implicitDefEqProofs (disch:=try exact dd) [cB,hb]
  refine oc dV ?_
  simp-implicitDefEqProofs (disch:=try exact dd) [cB]
 by_cases hk:(100:Int)<keep.length
 ·simp-implicitDefEqProofs (disch:=try exact dd) [cB]
  refine oc hg ?_
  simp-implicitDefEqProofs (disch:=try exact dd) [cB,hb,hk]
  refine oc dV ?_
  simp-implicitDefEqProofs (disch:=try exact dd) [cB]
 have hinv:=pL (c:=c) (l:=l) (fun e he=>(hl.2 e he).1)
 have q1:=kx c hc l hl;generalize u4 c l=v at*
 by_cases hu:v.up=true
 ·have hct:=SL hinv (by decide) hu b iface ((f.toNat % 5:Nat):Int) keep dir
  have i1:=nL hinv xA;have i2:=nL hinv (Gr f 5 (by decide) (by decide))
  have q2:=mq i1 hc b (by omega) iface
  have q3:=mq i2 hc b (by omega) iface
  have j1:=sI i1 (by decide) b iface
  have j2:=sI i2 (by decide) b iface
  have d1:cG.d {v with fuse:= -1}= .agg [.int .i64 v.c.server,.int .i64 v.c.probation,.slice (v.c.nets.map Net.d),.slice (v.s.t.map cC.d),.slice (v.s.k.files.map cK.d),.slice (v.s.k.now.map cZ.d),.slice (v.s.k.kept.map cZ.d),.int .i64 v.now,.int .i64 (-1),.bool v.up]:=rfl
  have d2:cG.d {v with fuse:=((f.toNat % 5:Nat):Int)}= .agg [.int .i64 v.c.server,.int .i64 v.c.probation,.slice (v.c.nets.map Net.d),.slice (v.s.t.map cC.d),.slice (v.s.k.files.map cK.d),.slice (v.s.k.now.map cZ.d),.slice (v.s.k.kept.map cZ.d),.int .i64 v.now,.int .i64 ((f.toNat % 5:Nat):Int),.bool v.up]:=rfl
  generalize fM {v with fuse:= -1} b iface=r1 at*
  generalize fM {v with fuse:=((f.toNat % 5:Nat):Int)} b iface=r2 at*
  obtain⟨w1,s1⟩:=r1;obtain⟨w2,s2⟩:=r2;dsimp only at q2 q3 j1 j2 hct;rw[d1,hu]at q2;rw[d2,hu]at q3;have i3:=lF j2 keep dir;have q4:=jl w2 j2.k keep (by omega) dir
  have q5:=gU (dX w2 keep dir) (by rw[i3.hc];exact hc) i3.k
  have i4:=pD i3;generalize dG (dX w2 keep dir)=y at*
  generalize dX w2 keep dir=z at*
  have t1:=hinv.tl;have t2:=j1.tl;have t3:=i4.tl;have q6:=fS y.s.t v.s.t (by omega) (by omega)
  have q7:=fS y.s.t w1.s.t (by omega) (by omega)
  have hm5:((f.toNat:Nat):Int).tmod 5=((f.toNat % 5:Nat):Int):=by rw[Int.tmod_eq_emod_of_nonneg (by omega)];omega
  have hr:=Nat.mod_lt f.toNat (show 0<5 by decide)
  obtain⟨e1,e2⟩:=hct;clear d1 d2 hinv i1 i2 j1 j2 i3 i4;by_cases e3:y.s.t=v.s.t
  ·rw[decide_eq_true e3]at q6
   simp-implicitDefEqProofs (disch:=try exact dd) [cB]
   refine oc hg ?_
   simp-implicitDefEqProofs (disch:=try exact dd) [cB,hb,hk]
   refine oc q1 ?_
   simp-implicitDefEqProofs (disch:=try exact dd) [cB,cG.d,hu]
   refine oc q2 ?_
   simp-implicitDefEqProofs (disch:=try exact dd) [cB,cG.d,hm5]
   refine oc q3 ?_
   simp-implicitDefEqProofs (disch:=try exact dd) [cB,cG.d]
   refine oc q4 ?_
   simp-implicitDefEqProofs (disch:=try exact dd) [cB,cG.d]
   refine oc q5 ?_
   simp-implicitDefEqProofs (disch:=try exact dd) [cB,cG.d,e1]
   refine oc q6 ?_
   simp-implicitDefEqProofs (disch:=try exact dd) [cB]
   refine oc dV ?_
   simp-implicitDefEqProofs (disch:=try exact dd) [cB]
  ·have e4:y.s.t=w1.s.t:=e2.resolve_left e3;rw[decide_eq_false e3]at q6;rw[decide_eq_true e4]at q7
   simp-implicitDefEqProofs (disch:=try exact dd) [cB]
   refine oc hg ?_
   simp-implicitDefEqProofs (disch:=try exact dd) [cB,hb,hk]
   refine oc q1 ?_
   simp-implicitDefEqProofs (disch:=try exact dd) [cB,cG.d,hu]
   refine oc q2 ?_
   simp-implicitDefEqProofs (disch:=try exact dd) [cB,cG.d,hm5]
   refine oc q3 ?_
   simp-implicitDefEqProofs (disch:=try exact dd) [cB,cG.d]
   refine oc q4 ?_
   simp-implicitDefEqProofs (disch:=try exact dd) [cB,cG.d]
   refine oc q5 ?_
   simp-implicitDefEqProofs (disch:=try exact dd) [cB,cG.d,e1]
   refine oc q6 ?_
   simp-implicitDefEqProofs (disch:=try exact dd) [cB]
   refine oc q7 ?_
   simp-implicitDefEqProofs (disch:=try exact dd) [cB]
   refine oc dV ?_
   simp-implicitDefEqProofs (disch:=try exact dd) [cB]
 ·have hu':v.up=false:=by simpa using hu
  simp-implicitDefEqProofs (disch:=try exact dd) [cB]
  refine oc hg ?_
  simp-implicitDefEqProofs (disch:=try exact dd) [cB,hb,hk]
  refine oc q1 ?_
  simp-implicitDefEqProofs (disch:=try exact dd) [cB,cG.d,hu']
  refine oc dV ?_
  simp-implicitDefEqProofs (disch:=try exact dd) [cB]
theorem Ox{v:cG}{b:List UInt8}(iface:Int)(h:(jB b).1≠0∨jG (jB b).2 v.c.server=true∨(jB b).2.op≠1):fM v b iface=(v,[]):=by
 unfold fM;split
 ·rfl
 ·rename_i hn;simp only[not_or,bp]at hn;have e:cL v.c v.s.t (jB b).2 iface v.now=jL:=by
   unfold cL;rw[if_neg];rintro⟨hf,_⟩;simp only[xN,Bool.and_eq_true,decide_eq_true_eq,Bool.not_eq_true']at hf;rcases h with h|h|h
   ·exact h hn.2
   ·rw[h]at hf;cases hf.2
   ·exact h hf.1.2
  rw[e];rfl
theorem MH(v:cG)(hk:kJ v.s.k):cD Tryz.prog 24 [.d v.d] (.d v.d) (fun _=>false):=by
 refine cD.bi Tryz.func24 [20001,50004,50006,50009,50011,50013] ?_;have q:=MI v.s hk
 simp-implicitDefEqProofs (disch:=try exact dd) [cB,cG.d]
 refine oc q ?_
 simp-implicitDefEqProofs (disch:=try exact dd) [cB,cG.d,gY.d]
theorem Hf(v:cG)(hk:m5 v.s.k)(ht:v.s.t.length≤1000000):cD Tryz.prog 23 [.d v.d,.d v.d] (.d (.bool true)) (fun _=>false):=by
 refine cD.bi Tryz.func23 [20002,20003] ?_;have q:=Hg v.s hk ht
 simp-implicitDefEqProofs (disch:=try exact dd) [cB,cG.d]
 refine oc q ?_
 simp-implicitDefEqProofs (disch:=try exact dd) [cB,cG.d]
theorem HO(c:dq)(l:List lq)(b:List UInt8)(iface:Int)(hl:yl l)(hbl:b.length≤maxLen):
 cD Tryz.prog 7 [.d c.d,.d (.slice (l.map lq.d)),.d (.slice (b.map cM)),.d (.int .i64 iface)] (.d (.bool true)) (fun _=>false):=by
 refine cD.bi Tryz.func7 [20004,3046009,3012012] ?_;have hmx:=jq;have hg:=td c
 cases h:kI c with
 |false=>
  rw[h]at hg
  simp-implicitDefEqProofs (disch:=try exact dd) [cB]
  refine oc hg ?_
  simp-implicitDefEqProofs (disch:=try exact dd) [cB]
  refine oc dV ?_
  simp-implicitDefEqProofs (disch:=try exact dd) [cB]
 |true=>
 rw[h]at hg;have hc:=jy h;by_cases hb:(5000:Int)<b.length
 ·simp-implicitDefEqProofs (disch:=try exact dd) [cB]
  refine oc hg ?_
  simp-implicitDefEqProofs (disch:=try exact dd) [cB,hb]
  refine oc dV ?_
  simp-implicitDefEqProofs (disch:=try exact dd) [cB]
 have hinv:=pL (c:=c) (l:=l) (fun e he=>(hl.2 e he).1)
 have q1:=kx c hc l hl;generalize u4 c l=v at*
 have q2:=y9 b (by omega)
 have hms:=zc b;have q3:=AF (jB b).2 c.server hms;have q4:=mq hinv hc b (by omega) iface
 have q5:=MH v hinv.k.1;have q6:=Hf v hinv.k (by have:=hinv.tl;omega)
 have hsil:=fun h=>Ox (v:=v) (b:=b) iface h
 rw[hinv.hc]at hsil;generalize jB b=r at*
 obtain⟨e,m⟩:=r;dsimp only at q2 q3 hms hsil;by_cases he:e=0
 ·subst he
  cases hf:jG m c.server with
  |false=>
   rw[hf]at q3;by_cases ho:m.op=1
   ·simp-implicitDefEqProofs (disch:=try exact dd) [cB]
    refine oc hg ?_
    simp-implicitDefEqProofs (disch:=try exact dd) [cB,hb]
    refine oc q1 ?_
    simp-implicitDefEqProofs (disch:=try exact dd) [cB,cG.d]
    refine oc q2 ?_
    simp-implicitDefEqProofs (disch:=try exact dd) [cB]
    refine oc q3 ?_
    simp-implicitDefEqProofs (disch:=try exact dd) [cB,ho]
    refine oc dV ?_
    simp-implicitDefEqProofs (disch:=try exact dd) [cB]
   ·rw[hsil (.inr (.inr ho))]at q4
    simp-implicitDefEqProofs (disch:=try exact dd) [cB]
    refine oc hg ?_
    simp-implicitDefEqProofs (disch:=try exact dd) [cB,hb]
    refine oc q1 ?_
    simp-implicitDefEqProofs (disch:=try exact dd) [cB,cG.d]
    refine oc q2 ?_
    simp-implicitDefEqProofs (disch:=try exact dd) [cB]
    refine oc q3 ?_
    simp-implicitDefEqProofs (disch:=try exact dd) [cB,ho,cG.d]
    refine oc q4 ?_
    simp-implicitDefEqProofs (disch:=try exact dd) [cB,cG.d]
    refine oc q5 ?_
    simp-implicitDefEqProofs (disch:=try exact dd) [cB,cG.d]
    refine oc q5 ?_
    simp-implicitDefEqProofs (disch:=try exact dd) [cB,cG.d]
    refine oc q6 ?_
    simp-implicitDefEqProofs (disch:=try exact dd) [cB]
    refine oc dV ?_
    simp-implicitDefEqProofs (disch:=try exact dd) [cB]
  |true=>
   rw[hf]at q3;rw[hsil (.inr (.inl hf))]at q4
   simp-implicitDefEqProofs (disch:=try exact dd) [cB]
   refine oc hg ?_
   simp-implicitDefEqProofs (disch:=try exact dd) [cB,hb]
   refine oc q1 ?_
   simp-implicitDefEqProofs (disch:=try exact dd) [cB,cG.d]
   refine oc q2 ?_
   simp-implicitDefEqProofs (disch:=try exact dd) [cB]
   refine oc q3 ?_
   simp-implicitDefEqProofs (disch:=try exact dd) [cB,cG.d]
   refine oc q4 ?_
   simp-implicitDefEqProofs (disch:=try exact dd) [cB,cG.d]
   refine oc q5 ?_
   simp-implicitDefEqProofs (disch:=try exact dd) [cB,cG.d]
   refine oc q5 ?_
   simp-implicitDefEqProofs (disch:=try exact dd) [cB,cG.d]
   refine oc q6 ?_
   simp-implicitDefEqProofs (disch:=try exact dd) [cB]
   refine oc dV ?_
   simp-implicitDefEqProofs (disch:=try exact dd) [cB]
 ·rw[hsil (.inl he)]at q4
  simp-implicitDefEqProofs (disch:=try exact dd) [cB]
  refine oc hg ?_
  simp-implicitDefEqProofs (disch:=try exact dd) [cB,hb]
  refine oc q1 ?_
  simp-implicitDefEqProofs (disch:=try exact dd) [cB,cG.d]
  refine oc q2 ?_
  simp-implicitDefEqProofs (disch:=try exact dd) [cB,he,cG.d]
  refine oc q4 ?_
  simp-implicitDefEqProofs (disch:=try exact dd) [cB,cG.d]
  refine oc q5 ?_
  simp-implicitDefEqProofs (disch:=try exact dd) [cB,cG.d]
  refine oc q5 ?_
  simp-implicitDefEqProofs (disch:=try exact dd) [cB,cG.d]
  refine oc q6 ?_
  simp-implicitDefEqProofs (disch:=try exact dd) [cB]
  refine oc dV ?_
  simp-implicitDefEqProofs (disch:=try exact dd) [cB]
end Go.Proofs.YtoilfihojgeonaaGreatDoor
