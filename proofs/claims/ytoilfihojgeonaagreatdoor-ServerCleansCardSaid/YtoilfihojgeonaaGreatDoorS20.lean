/- Chapter 21's law on what is kept first: an Ack that gives an address is sent only when its lease is on the disk. -/
import Derived.Test.YtoilfihojgeonaaGreatDoorS19
import Derived.Test.YtoilfihojgeonaaGreatDoorS07
import Derived.Test.YtoilfihojgeonaaGreatDoorS09
import Derived.Test.YtoilfihojgeonaaGreatDoorRows
import Derived.Test.YtoilfihojgeonaaGreatDoorS04
import Derived.LaidLaws
import Derived.LaidHandle
import Derived.FnData
import Derived.WalkKit
import Derived.ProofKit
namespace Go.Proofs.YtoilfihojgeonaaGreatDoor
open BoEng Go
set_option maxRecDepth 100000
set_option linter.unusedSimpArgs false
set_option linter.unusedVariables false
structure Ta(v:cG)(r:cG×List iA)(m:ee)(x:iA):Prop where
 out:r.2= [x]
 rd:jB x.b=(0,m)
 len:x.b.length≤1500
 sz:ez m
 same:f_ m.opts≠5∨m.yi=0→r.1.s.t=v.s.t
 ack:f_ m.opts=5→m.yi≠0→ ∃(q:Int) (k:List UInt8),fa m.opts 51=some q∧(0≤q∧q≤4294967295)∧ ∀keep dir,(dG (dX r.1 keep dir)).up=true∧gq (dG (dX r.1 keep dir)).s.t m.yi=(⟨m.yi,1,mZ v.now q,k⟩,true)
theorem first{c:dq}{n:Nat}{v:cG}(h:qs c n v)(hn:n≤59)(b:List UInt8)(iface:Int):(fM v b iface).2= []∨ ∃m x,Ta v (fM v b iface) m x:=by
 by_cases h1:v.up=false∨(jB b).1≠0
 ·exact .inl (by unfold fM;rw[if_pos h1])
 have hu:v.up=true:=by
  simp only[not_or,cx]at h1;exact h1.1
 obtain⟨hck,xs,hm,hx⟩:=h.up hu;have ha:=IB v.c v.s.t (jB b).2 iface v.now;have hk:=Er v.c v.s.t (jB b).2 iface v.now;unfold Es at hk;unfold fM;rw[if_neg h1];generalize cL v.c v.s.t (jB b).2 iface v.now=a at*
 cases hs:a.send with
 |false=>
  left;have e:sB a= []:=by unfold sB;rw[if_neg (by rw[hs];decide)]
  split
  ·dsimp only;split
   ·exact e
   ·rfl
  ·exact e
 |true=>
  have e:sB a= [⟨(gz a.reply).1,a.to⟩]:=by unfold sB;rw[if_pos hs]
  obtain⟨hr1,hr2⟩:=ha.send hs;obtain⟨b1,b2⟩:=n_ hr1 hr2;rw[hs]at hk;clear hr2
  generalize(gz a.reply).1=B at*
  by_cases hkp:a.keep=true
  ·rw[if_pos hkp];have he:=(ha.keep hkp).1;obtain⟨p1,p2,p3,p4,p5,_⟩:=(vT hm a.lease v.fuse).2 he;have hset:=vR hm.r he;by_cases hkn:(eH v.s a.lease v.fuse).2.2=true
   ·rw[if_pos hkn];have hmi:=p5 hkn;refine .inr ⟨a.reply,⟨B,a.to⟩,⟨e,b1,b2,gK hr1,fun hno=>?_,fun h5 hy=>?_⟩⟩
    ·rw[if_neg (by rintro⟨_,q1,q2⟩;rcases hno with h|h<;>contradiction)]at hk
     rw[hkp]at hk;simp at hk
    ·rw[if_pos ⟨rfl,h5,hy⟩]at hk;rw[hkp,Bool.true_and]at hk
     cases hq:fa a.reply.opts 51 with
     |none=>rw[hq]at hk;simp at hk
     |some q=>
      rw[hq]at hk;simp only[Bool.and_eq_true,decide_eq_true_eq]at hk;obtain⟨⟨k1,k2⟩,_⟩:=hk;refine⟨q,(oK (jB b).2).1,rfl,k2,fun keep dir=>?_⟩
      obtain⟨c1,c2,c3⟩:=rf {v with s:=(eH v.s a.lease v.fuse).1} (eH v.s a.lease v.fuse).2.1 (eH v.s a.lease v.fuse).2.2
      rw[gW];dsimp only;rw[c1,c2,c3];dsimp only;obtain⟨d1,zs,rfl,d2⟩:=wb (c:=v.c) hmi.sd.c (fun zs e=>by subst e;rw[←hmi.t];exact hmi.r) (by rw[h.hc];exact hck) keep dir v.now
      refine⟨d1,?_⟩;rw[d2,←p2];have hin:a.lease∈(gJ v.s.t a.lease).1:=(hset.2.2 a.lease).2 (.inl rfl);have:=get_of_mem hset.1 hin;rw[k1]at this⊢;exact this
   ·rw[if_neg hkn];exact .inl rfl
  ·rw[if_neg hkp];refine .inr ⟨a.reply,⟨B,a.to⟩,⟨e,b1,b2,gK hr1,fun _=>rfl,fun h5 hy=>?_⟩⟩
   rw[if_pos ⟨rfl,h5,hy⟩]at hk;simp only[Bool.and_eq_true]at hk;exact absurd hk.1 hkp
theorem Kx(c:dq)(l:List lq)(b:List UInt8)(iface:Int)(keep:List Int)(dir:Bool)(hl:yl l)(hbl:b.length≤maxLen)(hkl:keep.length≤maxLen):
 cD Tryz.prog 4 [.d c.d,.d (.slice (l.map lq.d)),.d (.slice (b.map cM)),.d (.int .i64 iface),.d (.slice (keep.map gM)),.d (.bool dir)] (.d (.bool true)) (fun _=>false):=by
 refine cD.bi Tryz.func4 [20006,3040013,3014014] ?_;have hmx:=jq;have hg:=td c
 cases h:kI c with
 |false=>
  rw[h]at hg
  simp-implicitDefEqProofs (disch:=try exact dd) [cB]
  refine oc hg ?_
  simp-implicitDefEqProofs (disch:=try exact dd) [cB]
  refine oc dV ?_
  simp-implicitDefEqProofs (disch:=try exact dd) [cB]
 |true=>
 rw[h]at hg;have hc:=jy h;by_cases hb:(5000:Int)<b.length
 ·simp-implicitDefEqProofs (disch:=try exact dd) [cB]
  refine oc hg ?_
  simp-implicitDefEqProofs (disch:=try exact dd) [cB,hb]
  refine oc dV ?_
  simp-implicitDefEqProofs (disch:=try exact dd) [cB]
 by_cases hk:(100:Int)<keep.length
 ·simp-implicitDefEqProofs (disch:=try exact dd) [cB]
  refine oc hg ?_
  simp-implicitDefEqProofs (disch:=try exact dd) [cB,hb,hk]
  refine oc dV ?_
  simp-implicitDefEqProofs (disch:=try exact dd) [cB]
 have hinv:=pL (c:=c) (l:=l) (fun e he=>(hl.2 e he).1)
 have q1:=kx c hc l hl;generalize u4 c l=v at*
 have q2:=mq hinv hc b (by omega) iface
 have hfi:=first hinv (by decide) b iface
 have j1:=sI hinv (by decide) b iface
 have t1:=hinv.tl;have hnow:=hinv.now;generalize fM v b iface=r at*
 rcases hfi with h0|⟨m,x,hf⟩
 ·rw[h0]at q2
  simp-implicitDefEqProofs (disch:=try exact dd) [cB]
  refine oc hg ?_
  simp-implicitDefEqProofs (disch:=try exact dd) [cB,hb,hk]
  refine oc q1 ?_
  simp-implicitDefEqProofs (disch:=try exact dd) [cB,cG.d]
  refine oc q2 ?_
  simp-implicitDefEqProofs (disch:=try exact dd) [cB,cG.d]
  refine oc dV ?_
  simp-implicitDefEqProofs (disch:=try exact dd) [cB]
 obtain⟨f1,f2,f3,f4,f5,f6⟩:=hf;rw[f1]at q2;have t2:=j1.tl;have q3:=y9 x.b (by omega)
 rw[f2]at q3;have q4:=Hj m.opts f4.2;have q5:=fS r.1.s.t v.s.t (by omega) (by omega)
 have i2:=lF j1 keep dir;have q6:=jl r.1 j1.k keep (by omega) dir
 have q7:=gU (dX r.1 keep dir) (by rw[i2.hc];exact hc) i2.k
 have i3:=pD i2;have t3:=i3.tl;have q8:=Jq (dG (dX r.1 keep dir)).s.t m.yi (by omega) (fun y hy=>by have:=(Ap i3.t).2 y hy;omega)
 have q9:=uU m.opts 51 f4.2;have f7:=fun h5 hy=>(f6 h5 hy)
 clear i2 i3 j1 hinv;obtain⟨w,s⟩:=r;obtain⟨xb,xt⟩:=x;dsimp only at*
 generalize f_ m.opts=kd at*
 by_cases h5:kd=5
 ·by_cases hy:m.yi=0
  ·have e1:=f5 (.inr hy);rw[decide_eq_true e1]at q5
   simp-implicitDefEqProofs (disch:=try exact dd) [cB]
   refine oc hg ?_
   simp-implicitDefEqProofs (disch:=try exact dd) [cB,hb,hk]
   refine oc q1 ?_
   simp-implicitDefEqProofs (disch:=try exact dd) [cB,cG.d]
   refine oc q2 ?_
   simp-implicitDefEqProofs (disch:=try exact dd) [cB,cG.d,iA.d]
   refine oc q3 ?_
   simp-implicitDefEqProofs (disch:=try exact dd) [cB,cG.d,iA.d]
   refine oc q4 ?_
   simp-implicitDefEqProofs (disch:=try exact dd) [cB,h5,hy]
   refine oc q5 ?_
   simp-implicitDefEqProofs (disch:=try exact dd) [cB]
   refine oc dV ?_
   simp-implicitDefEqProofs (disch:=try exact dd) [cB]
  ·obtain⟨q,k,g1,g2,g3⟩:=f7 h5 hy;obtain⟨g4,g5⟩:=g3 keep dir;rw[g5]at q8;rw[g1]at q9;generalize dG (dX w keep dir)=y at*
   generalize dX w keep dir=z at*
   unfold mZ at q8;have hadd:IntKind.i64.wrap (v.now+q)=v.now+q:=kZ (by omega)
   by_cases hmin:v.now+q≤1125899906842624
   ·have e2:min (v.now+q) 1125899906842624=v.now+q:=by omega
    rw[e2]at q8
    simp-implicitDefEqProofs (disch:=try exact dd) [cB]
    refine oc hg ?_
    simp-implicitDefEqProofs (disch:=try exact dd) [cB,hb,hk]
    refine oc q1 ?_
    simp-implicitDefEqProofs (disch:=try exact dd) [cB,cG.d]
    refine oc q2 ?_
    simp-implicitDefEqProofs (disch:=try exact dd) [cB,cG.d,iA.d]
    refine oc q3 ?_
    simp-implicitDefEqProofs (disch:=try exact dd) [cB,cG.d,iA.d]
    refine oc q4 ?_
    simp-implicitDefEqProofs (disch:=try exact dd) [cB,cG.d,h5,hy]
    refine oc q6 ?_
    simp-implicitDefEqProofs (disch:=try exact dd) [cB,cG.d]
    refine oc q7 ?_
    simp-implicitDefEqProofs (disch:=try exact dd) [cB,cG.d]
    refine oc q8 ?_
    simp-implicitDefEqProofs (disch:=try exact dd) [cB]
    refine oc q9 ?_
    simp-implicitDefEqProofs (disch:=try exact dd) [cB,g4,hadd]
    refine oc dV ?_
    simp-implicitDefEqProofs (disch:=try exact dd) [cB]
   ·have e2:min (v.now+q) 1125899906842624=1125899906842624:=by omega
    have e3: ¬(1125899906842624:Int)=v.now+q:=by omega
    rw[e2]at q8
    simp-implicitDefEqProofs (disch:=try exact dd) [cB]
    refine oc hg ?_
    simp-implicitDefEqProofs (disch:=try exact dd) [cB,hb,hk]
    refine oc q1 ?_
    simp-implicitDefEqProofs (disch:=try exact dd) [cB,cG.d]
    refine oc q2 ?_
    simp-implicitDefEqProofs (disch:=try exact dd) [cB,cG.d,iA.d]
    refine oc q3 ?_
    simp-implicitDefEqProofs (disch:=try exact dd) [cB,cG.d,iA.d]
    refine oc q4 ?_
    simp-implicitDefEqProofs (disch:=try exact dd) [cB,cG.d,h5,hy]
    refine oc q6 ?_
    simp-implicitDefEqProofs (disch:=try exact dd) [cB,cG.d]
    refine oc q7 ?_
    simp-implicitDefEqProofs (disch:=try exact dd) [cB,cG.d]
    refine oc q8 ?_
    simp-implicitDefEqProofs (disch:=try exact dd) [cB]
    refine oc q9 ?_
    simp-implicitDefEqProofs (disch:=try exact dd) [cB,g4,hadd,e3]
    refine oc dV ?_
    simp-implicitDefEqProofs (disch:=try exact dd) [cB]
 ·have e1:=f5 (.inl h5);rw[decide_eq_true e1]at q5
  simp-implicitDefEqProofs (disch:=try exact dd) [cB]
  refine oc hg ?_
  simp-implicitDefEqProofs (disch:=try exact dd) [cB,hb,hk]
  refine oc q1 ?_
  simp-implicitDefEqProofs (disch:=try exact dd) [cB,cG.d]
  refine oc q2 ?_
  simp-implicitDefEqProofs (disch:=try exact dd) [cB,cG.d,iA.d]
  refine oc q3 ?_
  simp-implicitDefEqProofs (disch:=try exact dd) [cB,cG.d,iA.d]
  refine oc q4 ?_
  simp-implicitDefEqProofs (disch:=try exact dd) [cB,h5]
  refine oc q5 ?_
  simp-implicitDefEqProofs (disch:=try exact dd) [cB]
  refine oc dV ?_
  simp-implicitDefEqProofs (disch:=try exact dd) [cB]
theorem Oz{n:Nat}{ds:List DV}(h:gk Tryz.prog n 172 ds): ∃p:rk,pS Tryz.prog 172 ds=p.d∧(nH p.first∧nH p.last):=by
 cases n with
 |zero=>exact h.elim
 |succ n=>
  unfold gk at h;rw[Tryz.underlying172]at h;obtain⟨_,_,rfl,h1,_,_,rfl,h2,rfl⟩:=h;obtain⟨a,rfl,k1⟩:=eY o_ h1;obtain⟨b,rfl,k2⟩:=eY o_ h2;exact⟨⟨a,b⟩,by simp[pS,Tryz.underlying172],k1,k2⟩
theorem OA{n:Nat}{ds:List DV}(h:gk Tryz.prog n 115 ds): ∃r:rl,pS Tryz.prog 115 ds=r.d∧(r.key.length≤maxLen∧nH r.addr):=by
 cases n with
 |zero=>exact h.elim
 |succ n=>
  unfold gk at h;rw[Tryz.underlying115]at h;obtain⟨_,_,rfl,h1,_,_,rfl,h2,rfl⟩:=h;obtain⟨a,rfl,k1⟩:=I0 V9 h1;obtain⟨b,rfl,k2⟩:=eY o_ h2;exact⟨⟨a,b⟩,by simp[pS,Tryz.underlying115],k1,k2⟩
def LD(s:Sub):Prop:=nH s.base∧nH s.bits∧s.pools.length≤maxLen∧s.res.length≤maxLen∧nH s.iface∧nH s.router∧nH s.time∧(∀p∈s.pools,nH p.first∧nH p.last)∧ ∀r∈s.res,r.key.length≤maxLen∧nH r.addr
theorem Ok{n:Nat}{ds:List DV}(h:gk Tryz.prog n 113 ds): ∃s:Sub,pS Tryz.prog 113 ds=s.d∧LD s:=by
 cases n with
 |zero=>exact h.elim
 |succ n=>
  unfold gk at h;rw[Tryz.underlying113]at h;obtain⟨_,_,rfl,h1,_,_,rfl,h2,_,_,rfl,h3,_,_,rfl,h4,_,_,rfl,h5,_,_,rfl,h6,_,_,rfl,h7,rfl⟩:=h;obtain⟨a1,rfl,k1⟩:=eY o_ h1;obtain⟨a2,rfl,k2⟩:=eY o_ h2;obtain⟨ps,rfl,k3,k3'⟩:=jd Oh (fun n ds h=>Oz h) h3
  obtain⟨rs,rfl,k4,k4'⟩:=jd Og (fun n ds h=>OA h) h4
  obtain⟨a5,rfl,k5⟩:=eY o_ h5;obtain⟨a6,rfl,k6⟩:=eY o_ h6;obtain⟨a7,rfl,k7⟩:=eY o_ h7;exact⟨⟨a1,a2,ps,rs,a5,a6,a7⟩,by simp[pS,Tryz.underlying113],k1,k2,k3,k4,k5,k6,k7,k3',k4'⟩
theorem O4{n:Nat}{ds:List DV}(h:gk Tryz.prog n 109 ds): ∃x:Net,pS Tryz.prog 109 ds=x.d∧(x.subs.length≤maxLen∧ ∀s∈x.subs,LD s):=by
 cases n with
 |zero=>exact h.elim
 |succ n=>
  unfold gk at h;rw[Tryz.underlying109]at h;obtain⟨_,_,rfl,h1,rfl⟩:=h;obtain⟨l,rfl,k1,k2⟩:=jd Oi (fun n ds h=>Ok h) h1
  exact⟨⟨l⟩,by simp[pS,Tryz.underlying109],k1,k2⟩
def Td(c:dq):Prop:=nH c.server∧nH c.probation∧c.nets.length≤maxLen∧ ∀n∈c.nets,n.subs.length≤maxLen∧ ∀s∈n.subs,LD s
theorem yc{n:Nat}{x:DV}(h:rC Tryz.prog n 24 x): ∃c:dq,x=c.d∧Td c:=by
 obtain⟨ds,h,rfl⟩:=h
 cases n with
 |zero=>exact h.elim
 |succ n=>
  unfold gk at h;rw[Tryz.underlying24]at h;obtain⟨_,_,rfl,h1,_,_,rfl,h2,_,_,rfl,h3,rfl⟩:=h;obtain⟨a1,rfl,k1⟩:=eY o_ h1;obtain⟨a2,rfl,k2⟩:=eY o_ h2;obtain⟨l,rfl,k3,k4⟩:=jd QV (fun n ds h=>O4 h) h3
  exact⟨⟨a1,a2,l⟩,by simp[pS,Tryz.underlying24],k1,k2,k3,k4⟩
theorem Sz{n:Nat}{ds:List DV}(h:gk Tryz.prog n 51 ds): ∃e:lq,pS Tryz.prog 51 ds=e.d∧(nH e.n∧e.b.length≤maxLen∧e.keep.length≤maxLen):=by
 cases n with
 |zero=>exact h.elim
 |succ n=>
  unfold gk at h;rw[Tryz.underlying51]at h;obtain⟨_,_,rfl,h1,_,_,rfl,h2,_,_,rfl,h3,_,_,rfl,h4,_,_,rfl,h5,_,_,rfl,h6,rfl⟩:=h;obtain⟨a1,rfl,k1⟩:=eY o_ h1;obtain⟨a2,rfl,k2⟩:=eY o_ h2;obtain⟨a3,rfl,k3⟩:=eY o_ h3;obtain⟨b,rfl,k4⟩:=oh Fx IW h4;obtain⟨keep,rfl,k5,_⟩:=yJ Nq o_ h5;obtain⟨dir,rfl⟩:=ni IX h6;refine⟨⟨a1,a2,a3,b,keep,dir⟩,?_,k2,k4,k5⟩;simp[pS,Tryz.underlying51,lq.d,gM]
theorem xQ{n:Nat}{x:DV}(h:rC Tryz.prog n 25 x): ∃l:List lq,x= .slice (l.map lq.d)∧yl l:=by
 obtain⟨ds,h,rfl⟩:=h;obtain⟨l,rfl,h1,h2⟩:=jd QU (fun n ds h=>Sz h) h
 exact⟨l,by simp[pS],h1,h2⟩
theorem qY{n:Nat}{x:DV}(h:rC Tryz.prog n 49 x): ∃l:List Int,x= .slice (l.map gM)∧l.length≤maxLen:=by
 obtain⟨ds,h,rfl⟩:=h;obtain⟨l,rfl,h1,h2⟩:=yJ Nq o_ h;exact⟨l,by simp[pS,gM],h1⟩
theorem zS{n:Nat}{x:DV}(h:rC Tryz.prog n 5 x): ∃b:UInt8,x=cM b∧True:=by
 obtain⟨ds,h,rfl⟩:=h;obtain⟨b,rfl⟩:=Fy IW h;exact⟨b,by simp[pS,cM],trivial⟩
open BoEng Go Go.RowKit Go.ChangeShapes Go.WideShapes Go.ChangeAt
def jE:List (String×DataW Unit):= [("errors.errorType",Rows.laid_errors_errorType),("boarder/msg.errForm",Rows.laid_boarder_msg_errForm)]
theorem Xv:Tryz.prog.globalNamed "errors.errorType" =some 1:=by kernel_rfl
theorem NQ:Tryz.prog.globalNamed "boarder/msg.errForm" =some 0:=by kernel_rfl
theorem O_:(Tryz.prog.globals[0]?).map (·.type)=some 246:=by kernel_rfl
theorem lRt:(Tryz.prog.cutTypes.find? (·.1== "internal/reflectlite.rtype")).map (·.2)=some 385:=by kernel_rfl
theorem Xu:((List.range 458).filter fun t=>Tryz.prog.rowNamed t [101,114,114,111,114])= [176]:=by kernel_rfl
theorem R':Tryz.prog.types.size=458:=by kernel_rfl
theorem Pa:Tryz.prog.cellsOf 246=1:=by kernel_rfl
theorem MK:Tryz.prog.cellsOf 121=1:=by kernel_rfl
theorem H9{w:World}{fuel:Nat}{cs:List Value}{p:List MemPlace}(h:DataW.trod (fun _=>()) Tryz.prog w 0 (fun _=>true) false fuel 246 cs=some (.agg [.lit (.int .i64 2)],p)):cs= [.int .i64 2]:=by
 cases fuel with
 |zero=>simp[DataW.trod]at h
 |succ f=>
  simp only[DataW.trod,Tryz.underlying246]at h
  split at h
  ·rename_i hl;rw[Pa]at hl
   cases f with
   |zero=>simp[DataW.trod]at h
   |succ f=>
    match cs,hl with
    | [c],_=>
      cases c<;>simp[DataW.trod,Tryz.underlying121,MK]at h
      split at h
      ·rename_i hk;simp at h;rw[hk.1,h.1]
      ·simp at h
  ·cases h
theorem Cz{W:World}(h:laidMetH Tryz.prog jE W):W.cell? ⟨1,0,none⟩=some (.iface 385 (.agg #[.pointer (some ⟨2,176,none⟩)])):=by
 have h':laidMet Tryz.prog [("boarder/msg.errForm",Rows.laid_boarder_msg_errForm)] W∧handlesMet Tryz.prog [("errors.errorType",Rows.laid_errors_errorType)] W:=h;obtain⟨name,u,ty,e1,e2,e3,e4,e5⟩:=h'.2 _ (List.mem_singleton.2 rfl);have en:name= [101,114,114,111,114]:=(au e1).symm;subst en;obtain rfl:=au (lRt.symm.trans e2);have hm:ty∈(List.range 458).filter fun t=>Tryz.prog.rowNamed t [101,114,114,111,114]:=List.mem_filter.2 ⟨List.mem_range.2 (by rw[←R'];exact e3),e4⟩
 rw[Xu]at hm;obtain rfl:=List.mem_singleton.1 hm;have hh:typeHandle Tryz.prog 176= .pointer (some ⟨2,176,none⟩):=by kernel_rfl
 rw[hh]at e5
 simpa using World.var?_cell Xv e5 0
theorem HR{W:World}(h:laidMetH Tryz.prog jE W):W.cell? ⟨0,0,none⟩=some (.int .i64 2):=by
 have h':laidMet Tryz.prog [("boarder/msg.errForm",Rows.laid_boarder_msg_errForm)] W∧handlesMet Tryz.prog [("errors.errorType",Rows.laid_errors_errorType)] W:=h;obtain⟨ps,⟨g,t,cs,fuel,p,q,e1,e2,e3,e4,e5,e6⟩,_⟩:=h'.1;obtain rfl:=au (NQ.symm.trans e1);obtain rfl:=au (O_.symm.trans e2);have hc:=H9 e4;have hc2:cs= #[.int .i64 2]:=Array.eq_one_of_toList hc;subst hc2
 simpa using World.var?_cell NQ e3 0
theorem sZ{W:World}(h:laidMetH Tryz.prog jE W):Np Tryz.prog W:=by
 intro g cs hg;have h1:=Cz h;have h2:=HR h;have hlt:g<2:=by
  by_cases hl:g<Tryz.prog.globals.size
  ·exact Nat.lt_of_lt_of_eq hl (by kernel_rfl)
  ·unfold oL at hg;rw[Array.getElem?_eq_none (by omega)]at hg
   cases hg
 have c0:oL Tryz.prog 0=some [.int .i64 2]:=by kernel_rfl
 have c1:oL Tryz.prog 1=some [.iface 385 (.agg #[.pointer (some ⟨2,176,none⟩)])]:=by kernel_rfl
 have h01:g=0∨g=1:=by omega
 rcases h01 with rfl|rfl
 ·rw[c0]at hg;obtain rfl:=(au hg).symm;refine⟨by simp,fun k u hk=>?_⟩
  match k,hk with
  |0,hk=>cases hk;exact h2
  |k+1,hk=>simp at hk
 ·rw[c1]at hg;obtain rfl:=(au hg).symm;refine⟨by simp,fun k u hk=>?_⟩
  match k,hk with
  |0,hk=>cases hk;exact h1
  |k+1,hk=>simp at hk
noncomputable def lD(os:Os):World:=
 let w0:=World.holding Tryz.prog os ⟨#[],#[],[]⟩
 {w0 with heap:=(w0.heap.modify 0 fun
  | .cells _ t frozen=> .cells #[.int .i64 2] t frozen
  |o=>o).modify 1 fun
  | .cells _ t frozen=> .cells #[.iface 385 (.agg #[.pointer (some ⟨2,176,none⟩)])] t frozen
  |o=>o}
theorem iY(os:Os)(args:Array Value):laidMetH Tryz.prog jE ((lD os).forCall (fun _ _=>0) ⟨#[],args,[]⟩).memory:=
 laidMetH_of_parts (laidMet_of_run' 8 (by kernel_rfl) (by kernel_rfl)) (by kernel_rfl)
end Go.Proofs.YtoilfihojgeonaaGreatDoor
