/- Making the journal short, in plain terms: other leases are put in its place. -/
import Derived.Test.YtoilfihojgeonaaGreatDoorS17
import Derived.Test.YtoilfihojgeonaaGreatDoorS10
import Derived.Test.YtoilfihojgeonaaGreatDoorS11
import Derived.Test.YtoilfihojgeonaaGreatDoorS14
import Derived.Test.YtoilfihojgeonaaGreatDoorS13
namespace Go.Proofs.YtoilfihojgeonaaGreatDoor
open BoEng Go
set_option maxRecDepth 100000
set_option linter.unusedSimpArgs false
set_option linter.unusedVariables false
def fy(ls:List cC):List UInt8:=(ls.map fun l=>cU (dM l)).flatten
theorem ql(ls:List cC)(l:cC):fy (ls++ [l])=fy ls++cU (dM l):=by simp[fy]
theorem DU{ls:List cC}:(∀l∈ls,c8 l=true)→dA (fy ls)=(ls,((fy ls).length:Int),0):=by
 induction ls using lC with
 |h0=>intro _;rfl
 |hs ls l ih=>
  intro h;have ih:=ih fun x hx=>h x (by simp[hx])
  rw[ql]
  exact(qz ih (h l (by simp)) [] 0).2
theorem Iy{ls:List cC}:(∀l∈ls,c8 l=true)→(fy ls).length≤274*ls.length:=by
 induction ls using lC with
 |h0=>intro _;simp[fy]
 |hs ls l ih=>
  intro h;have ih:=ih fun x hx=>h x (by simp[hx])
  have:=nN (h l (by simp))
  rw[ql,List.length_append,List.length_append];simp only[List.length_cons,List.length_nil];omega
def oB(B:List UInt8):List iS:= [⟨1,nK,[],B⟩,⟨2,nK,[],[]⟩,⟨3,nK,nJ,[]⟩,⟨5,[],[],[]⟩]
def eN(k:Dk)(ls:List cC):List iS×Int:=
 if ls.all c8=false then([],1)else if 20000<(fy ls).length then([],3)
 else((if(eW k nK).2=0 then[⟨4,nK,[],[]⟩]else[])++oB (fy ls),0)
def u_(xs ys:List cC):List cC→Prop:=fun z=>z=xs∨z=ys
structure Te(xs ys:List cC)(cs:List iS)(n:Nat)(r:Dk×Nat):Prop where
 c:Rec (u_ xs ys) r.1
 all:r.2=cs.length→Sd r.1 ys
 num:r.2=min n cs.length
 nms:n7 r.1
theorem F1{k:Dk}{xs:List cC}(h:Sd k xs)(hn:n7 k)(hno:cQ k.now nK=none){ys:List cC}(hy: ∀l∈ys,c8 l=true)(hB:(fy ys).length≤20000)(n:Nat):Te xs ys (oB (fy ys)) n (kQ (oB (fy ys)) n k):=by
 have hr:=h.c.r;have hrd:=DU hy;generalize fy ys=B at*
 have hnm: ∀n,n7 (kQ (oB B) n k).1:=fun n=>J5 (fun c hc=>by
  simp only[oB,List.mem_cons,bW,or_false]at hc;rcases hc with rfl|rfl|rfl|rfl
  ·exact⟨fun _=> .inr rfl,fun h=>by simp at h⟩
  ·exact⟨fun h=>by simp at h,fun h=>by simp at h⟩
  ·exact⟨fun h=>by simp at h,fun _=> .inl rfl⟩
  ·exact⟨fun h=>by simp at h,fun h=>by simp at h⟩) n hn
 have base:Rec (u_ xs ys) k:=h.c.mono fun _ h=> .inl h
 have hlen:(oB B).length=4:=rfl;have hk0:gO nK k.files k.now=⟨[],0⟩:=mf hno;have ha:(c7 k nK B).2=0:=vp hr (by decide) (by have:=Ga hr hn;omega) (by rw[hk0];simpa using hB)
 obtain⟨f1,_,_,f4⟩:=yg hr (m:=nK) (b:=B) (by decide) ha
 obtain⟨g1,g2⟩:=f4 nJ (by decide) hno
 obtain⟨x,hx⟩:=vq hr ha;have har:=append_right k nK B;rw[hk0]at f1;have f1:gO nK (c7 k nK B).1.files (c7 k nK B).1.now=⟨B,0⟩:=f1;have c1:jt ⟨1,nK,[],B⟩ k=c7 k nK B:=by simp[jt]
 have hrec1:Rec (u_ xs ys) (c7 k nK B).1:=⟨har,by rw[g1];exact base.n,by rw[g2];exact base.p⟩
 generalize c7 k nK B=a at*
 have hin:=jH (iC har).1 hx;have hs:=sx har hx;have hsr:=ie a.1 nK;have hrec2:=B4 hrec1 nK;have c2:jt ⟨2,nK,[],[]⟩ a.1=eU a.1 nK:=by simp[jt]
 have e2:(eU a.1 nK).2=0:=by rw[hs]
 have hdat:(fileAt a.1.files x).data=B:=by
  rw[gh hx]at f1;rw[f1]
 have hsx:cQ (eU a.1 nK).1.now nK=some x:=by rw[hs];exact hx
 have hsf:fileAt (eU a.1 nK).1.files x=⟨B,B.length⟩:=by
  rw[hs]
  show fileAt (a.1.files.set x.toNat _) x=_
  rw[sa hin.1 hin.2,hdat]
 generalize eU a.1 nK=s at*
 have hrr:=sG s.1 nK nJ;have hren:fh s.1 nK nJ=(dz ⟨s.1.files,km (fc (fc s.1.now nK) nJ) nJ x,s.1.kept⟩,0):=by
  unfold fh;rw[fK hsr,hsx];dsimp only;rw[if_neg (by decide)]
 have c3:jt ⟨3,nK,nJ,[]⟩ s.1=fh s.1 nK nJ:=by simp[jt]
 have e3:(fh s.1 nK nJ).2=0:=by rw[hren]
 have hrt:=jm hsr;have okB:okF (fun z=>z=ys) ⟨B,B.length⟩:=lT ⟨by rw[hrd],by rw[hrd];exact .inl rfl⟩
 have hfj:gO nJ (fh s.1 nK nJ).1.files (fh s.1 nK nJ).1.now=⟨B,B.length⟩:=by
  rw[hren,tp];dsimp only;rw[gh (x:=x) (by rw[xJ ((sT (sT hrt.n nK) nJ).srt) p_,if_pos rfl]),hsf]
 have hrec3:Rec (u_ xs ys) (fh s.1 nK nJ).1:=by
  refine⟨hrr,by rw[hfj];exact sP (fun _ h=> .inr h) okB,?_⟩
  rw[hren,qV];exact hrec2.p
 generalize fh s.1 nK nJ=r at*
 have c4:jt ⟨5,[],[],[]⟩ r.1=(dR r.1,0):=by simp[jt]
 have hd:=mn hrr nJ;have hsd:Sd (dR r.1) ys:=⟨gm _,B,_,by rw[hd.1];exact hfj,by rw[hd.2];exact hfj,hrd⟩
 have hnm:=hnm n
 match n,hnm with
 |0,hnm=>exact⟨base,fun h=>by simp[oB,kQ]at h,by simp[oB,kQ],hn⟩
 |1,hnm=>
  simp only[oB,kQ,c1,ha,if_true]at hnm⊢;exact⟨hrec1,fun h=>by simp at h,by simp,hnm⟩
 |2,hnm=>
  simp only[oB,kQ,c1,ha,c2,e2,if_true]at hnm⊢;exact⟨hrec2,fun h=>by simp at h,by simp,hnm⟩
 |3,hnm=>
  simp only[oB,kQ,c1,ha,c2,e2,c3,e3,if_true]at hnm⊢;exact⟨hrec3,fun h=>by simp at h,by simp,hnm⟩
 |n+4,hnm=>
  simp only[oB,kQ,c1,ha,c2,e2,c3,e3,c4,if_true]at hnm⊢;exact⟨hsd.c.mono fun _ h=> .inr h,fun _=>hsd,by simp,hnm⟩
theorem G4{k:Dk}{xs:List cC}(h:Sd k xs):Sd (dU k nK).1 xs:=by
 obtain⟨hr,b,n,h1,h2,h3⟩:=h;have q:=wG hr (m:=nK) (n:=nJ) (by decide)
 exact⟨jz _ _,b,n,by rw[q.1];exact h1,by rw[q.2];exact h2,h3⟩
theorem Hd{k:Dk}(h:c9 k=true):cQ (dU k nK).1.now nK=none:=by
 unfold dU;rw[fK h]
 cases hx:cQ k.now nK with
 |none=>exact hx
 |some x=>
  show cQ ((fc k.now nK).map (gZ _)) nK=none
  rw[tj,p_];rfl
theorem ya{k:Dk}{ys:List cC}(hy: ∀l∈ys,c8 l=true)(hB:(fy ys).length≤20000):eN k ys=((if(eW k nK).2=0 then[⟨4,nK,[],[]⟩]else[])++oB (fy ys),0):=by
 unfold eN;rw[if_neg (by rw[List.all_eq_true.2 hy];simp),if_neg (by omega)]
theorem Is{k:Dk}{xs:List cC}(h:Sd k xs)(hn:n7 k){ys:List cC}(hy: ∀l∈ys,c8 l=true)(hB:(fy ys).length≤20000)(n:Nat):
 Te xs ys (eN k ys).1 n (kQ (eN k ys).1 n k):=by
 rw[ya hy hB];have hr:=h.c.r;by_cases hg:(eW k nK).2=0
 ·rw[if_pos hg];dsimp only[List.cons_append,List.nil_append];have c0:jt ⟨4,nK,[],[]⟩ k=dU k nK:=by simp[jt]
  have e0:(dU k nK).2=0:=by
   unfold eW at hg;unfold dU
   cases hx:cQ (cP k).now nK with
   |none=>rw[hx]at hg;simp at hg
   |some x=>rfl
  cases n with
  |zero=>exact⟨h.c.mono fun _ h=> .inl h,fun h=>by simp[kQ]at h,by simp[kQ],hn⟩
  |succ n=>
   have q:=F1 (G4 h) (oC hn) (Hd hr) hy hB n;simp only[kQ,c0,e0,if_true];refine⟨q.c,fun h=>q.all ?_,?_,q.nms⟩
   ·simp only[List.length_cons]at h;omega
   ·have:=q.num;simp only[List.length_cons];omega
 ·rw[if_neg hg];have hno:cQ k.now nK=none:=by
   unfold eW at hg;rw[fK hr]at hg
   cases hx:cQ k.now nK with
   |none=>rfl
   |some x=>rw[hx]at hg;simp at hg
  exact F1 h hn hno hy hB n
theorem qj(k:Dk)(ls:List cC):(eN k ls).1.length≤5∧ ∀c∈(eN k ls).1,vK c:=by
 unfold eN;split
 ·exact⟨by simp,by simp⟩
 split
 ·exact⟨by simp,by simp⟩
 rename_i hB;have hp: ∀c∈oB (fy ls),vK c:=by
  intro c hc;simp only[oB,List.mem_cons,bW,or_false]at hc;rcases hc with rfl|rfl|rfl|rfl
  ·exact⟨by simp,by simp,by dsimp only;omega⟩
  ·exact⟨by simp,by simp,by simp⟩
  ·exact⟨by simp,by simp,by simp⟩
  ·exact⟨by simp,by simp,by simp⟩
 refine⟨by split<;>simp[oB],fun c hc=>?_⟩
 rcases List.mem_append.1 hc with h|h
 ·split at h
  ·simp at h;subst h;exact⟨by simp,by simp,by simp⟩
  ·simp at h
 ·exact hp c h
theorem Nk{ls:List cC}{i:Nat}(h:i<ls.length)(ha:(ls.take i).all c8=true)(hc:c8 ls[i]=true):(ls.take (i+1)).all c8=true:=by
 rw[List.take_succ_eq_append_getElem h,b7,ha];simp[hc]
def kC(ls:List cC):List UInt8:=ls.foldl (fun b l=>if b.length≤20000 then b++cU (dM l)else b) []
theorem rX(ls:List cC)(l:cC):kC (ls++ [l])=if(kC ls).length≤20000 then kC ls++cU (dM l)else kC ls:=by
 unfold kC;rw[List.foldl_append];rfl
theorem EG(ls:List cC):((fy ls).length≤20000→kC ls=fy ls)∧(20000<(fy ls).length→20000<(kC ls).length):=by
 induction ls using lC with
 |h0=>exact⟨fun _=>rfl,fun h=>by simp[fy]at h⟩
 |hs ls l ih=>
  rw[ql,rX];by_cases h:(fy ls).length≤20000
  ·rw[ih.1 h,if_pos h];exact⟨fun _=>rfl,fun h=>h⟩
  ·have:=ih.2 (by omega)
   rw[if_neg (by omega)]
   refine⟨fun h2=>?_,fun _=>this⟩
   simp only[List.length_append]at h2;omega
theorem H6(ls:List cC)(h: ∀l∈ls,c8 l=true):(kC ls).length≤20274:=by
 induction ls using lC with
 |h0=>simp[kC]
 |hs ls l ih=>
  have ih:=ih fun x hx=>h x (by simp[hx])
  have:=nN (h l (by simp))
  rw[rX];split
  ·simp;omega
  ·exact ih
def ccI(k:Dk)(ls:List cC)(i:Nat)(S:PS):Prop:=
 i≤ls.length∧(ls.take i).all c8=true∧S.t 2= .cptr (cells k.d)∧S.t 6= .d (.slice ((kC (ls.take i)).map cM))∧S.own (.t 6 0)=true∧S.t 16= .d (.slice (ls.map cC.d))∧S.t 17= .d (.int .i64 ls.length)∧S.t 18= .d (.int .i64 i)
theorem Bs(k:Dk)(hk:m5 k)(ls:List cC)(hl:ls.length≤100000)(hky: ∀l∈ls,l.key.length≤1000000):
 cD Tryz.prog 134 [.d k.d,.d (.slice (ls.map cC.d))] (.tup [.d (.slice ((eN k ls).1.map iS.d)),.d (.int .i64 (eN k ls).2)]) (fun _=>false):=by
 refine cD.bi Tryz.func134 [20002,50020,50021,38,52,56] ?_
 simp-implicitDefEqProofs (disch:=try exact dd) [cB,Dk.d]
 refine lp (ccI k ls) (fun i=>ls.length-i) 0 ⟨by omega,by simp,by simp,by simp[kC],by simp,by simp,by simp,by simp⟩ ?_
 rintro i S ⟨hi,ha,e2,e6,o6,e16,e17,e18⟩;by_cases hlt:i<ls.length
 ·have k6:(i:Int)<ls.length:=by omega
  have hn:nth ls (i:Int)=ls[i]:=dB hlt;have q1:=uX ls[i] (hky _ (List.getElem_mem hlt))
  cases hr:c8 ls[i]with
  |false=>
   have hz:eN k ls=([],1):=by
    unfold eN;rw[if_pos (Nj (p:=c8) hlt hr)]
   rw[hr]at q1;rw[hz];generalize ls[i]=a at*
   simp-implicitDefEqProofs (disch:=try exact dd) [cB,e2,e6,o6,e16,e17,e18,k6,hn]
   refine oc q1 ?_
   simp-implicitDefEqProofs (disch:=try exact dd) [cB,e2,e6,o6,e16,e17,e18,k6,hn]
  |true=>
   have ha2:=Nk hlt ha hr;have hg:kC (ls.take (i+1))=if(kC (ls.take i)).length≤20000 then kC (ls.take i)++cU (dM ls[i])else kC (ls.take i):=by rw[List.take_succ_eq_append_getElem hlt,rX]
   have hgl:=H6 (ls.take i) (List.all_eq_true.1 ha);have hfl:=nN hr;have hrl:=sJ hr;have q2:=zX (dM ls[i]) (by omega)
   rw[hr]at q1;simp only[if_true]at q1;generalize ls[i]=a at*
   generalize hgg:kC (ls.take i)=gb at*
   generalize cU (dM a)=fb at*
   generalize dM a=rb at*
   by_cases hc:(gb.length:Int)≤20000
   ·rw[if_pos (by omega)]at hg
    simp-implicitDefEqProofs (disch:=try exact dd) [cB,e2,e6,o6,e16,e17,e18,k6,hn]
    refine oc q1 ?_
    simp-implicitDefEqProofs (disch:=try exact dd) [cB,e2,e6,o6,e16,e17,e18,k6,hn]
    refine oc q2 ?_
    simp-implicitDefEqProofs (disch:=try exact dd) [cB,e2,e6,o6,e16,e17,e18,k6,hn,hc]
    exact cE (i+1) (by refine⟨by omega,ha2,?_,by rw[hg];simp-implicitDefEqProofs (disch:=try exact dd) [cB,e6],?_,?_,?_,?_⟩<;>simp-implicitDefEqProofs (disch:=try exact dd) [cB,e2,e16,e17]) (by omega)
   ·rw[if_neg (by omega)]at hg
    simp-implicitDefEqProofs (disch:=try exact dd) [cB,e2,e6,o6,e16,e17,e18,k6,hn]
    refine oc q1 ?_
    simp-implicitDefEqProofs (disch:=try exact dd) [cB,e2,e6,o6,e16,e17,e18,k6,hn]
    refine oc q2 ?_
    simp-implicitDefEqProofs (disch:=try exact dd) [cB,e2,e6,o6,e16,e17,e18,k6,hn,hc]
    exact cE (i+1) (by refine⟨by omega,ha2,?_,by rw[hg];simp-implicitDefEqProofs (disch:=try exact dd) [cB,e6],?_,?_,?_,?_⟩<;>simp-implicitDefEqProofs (disch:=try exact dd) [cB,e2,o6,e16,e17]) (by omega)
 ·have k6: ¬(i:Int)<ls.length:=by omega
  have ht:ls.take i=ls:=List.take_of_length_le (by omega)
  rw[ht]at ha e6;have hsp:=EG ls;have q3:=GD k hk [107];unfold eN;rw[if_neg (by rw[ha];simp)]
  generalize kC ls=gb at*
  by_cases hc:20000<(fy ls).length
  ·have hc2:=hsp.2 hc;have hc':(20000:Int)<gb.length:=by omega
   rw[if_pos hc]
   simp-implicitDefEqProofs (disch:=try exact dd) [cB,e2,e6,o6,e16,e17,e18,k6,hc']
  ·have hc2:=hsp.1 (by omega)
   rw[if_neg hc];rw[←hc2]at hc⊢;have hc': ¬(20000:Int)<gb.length:=by omega
   generalize eW k [107]=g at*
   by_cases h0:g.2=0
   ·rw[if_pos h0]
    simp-implicitDefEqProofs (disch:=try exact dd) [cB,e2,e6,o6,e16,e17,e18,k6,hc']
    refine oc q3 ?_
    simp-implicitDefEqProofs (disch:=try exact dd) [cB,e2,e6,o6,e16,e17,e18,k6,hc',h0,oB,iS.d]
   ·rw[if_neg h0]
    simp-implicitDefEqProofs (disch:=try exact dd) [cB,e2,e6,o6,e16,e17,e18,k6,hc']
    refine oc q3 ?_
    simp-implicitDefEqProofs (disch:=try exact dd) [cB,e2,e6,o6,e16,e17,e18,k6,hc',h0,oB,iS.d]
def M'(k:Dk)(many:Int):Bool:=decide ((dA (eW k [106]).1).2.2=0)&&decide (many<((dA (eW k [106]).1).1.length:Int))&&decide ((ei (dA (eW k [106]).1).1).length<(dA (eW k [106]).1).1.length)
theorem Ln(k:Dk)(hk:m5 k)(many:Int)(hf:(dA (eW k [106]).1).1.length≤20000):cD Tryz.prog 133 [.d k.d,.d (.int .i64 many)] (.d (.bool (M' k many))) (fun _=>false):=by
 refine cD.bi Tryz.func133 [20002] ?_;have q1:=mG k hk (by have:=te k [106];omega)
 unfold M';generalize dA (eW k [106]).1=r at*
 obtain⟨ls,n,e⟩:=r;dsimp only at q1 hf⊢;have q2:=z0 ls (by omega)
 have hl:=lB ls;by_cases h0:e=0
 ·by_cases h1:many<(ls.length:Int)
  ·by_cases h2:(ei ls).length<ls.length
   ·have h2':((ei ls).length:Int)<ls.length:=by omega
    simp-implicitDefEqProofs (disch:=try exact dd) [cB,Dk.d]
    refine oc q1 ?_
    simp-implicitDefEqProofs (disch:=try exact dd) [cB,h0,h1]
    refine oc q2 ?_
    simp-implicitDefEqProofs (disch:=try exact dd) [cB,h2,h2',h0,h1]
   ·have h2': ¬((ei ls).length:Int)<ls.length:=by omega
    simp-implicitDefEqProofs (disch:=try exact dd) [cB,Dk.d]
    refine oc q1 ?_
    simp-implicitDefEqProofs (disch:=try exact dd) [cB,h0,h1]
    refine oc q2 ?_
    simp-implicitDefEqProofs (disch:=try exact dd) [cB,h2,h2',h0,h1]
  ·simp-implicitDefEqProofs (disch:=try exact dd) [cB,Dk.d]
   refine oc q1 ?_
   simp-implicitDefEqProofs (disch:=try exact dd) [cB,h0,h1]
 ·simp-implicitDefEqProofs (disch:=try exact dd) [cB,Dk.d]
  refine oc q1 ?_
  simp-implicitDefEqProofs (disch:=try exact dd) [cB,h0]
theorem Gj(b:List UInt8): ∀(m a:Nat) (out:List cC),b.length-a≤m→a≤b.length→(xo b a out).2.2=2→(xo b a out).1= []:=by
 intro m
 induction m with
 |zero=>
  intro a out hm ha h;rcases jW ha out with⟨_,e⟩|⟨h1,_,e⟩|e|⟨h1,_⟩
  ·rw[e]at h;simp at h
  ·rw[e]at h;simp at h
  ·rw[e]
  ·omega
 |succ m ih=>
  intro a out hm ha h;rcases jW ha out with⟨_,e⟩|⟨h1,_,e⟩|e|⟨h1,_,_,p1,p2,e⟩
  ·rw[e]at h;simp at h
  ·rw[e]at h;simp at h
  ·rw[e]
  ·rw[e]at h⊢;exact ih _ _ (by omega) p2 h
theorem B5(k:Dk):(dA (eW k [106]).1).1.length≤20000:=by
 generalize hr:dA (eW k [106]).1=r;obtain⟨xs,n,e⟩:=r;have he:=B6 (eW k [106]).1;rw[hr]at he;dsimp only at he⊢;have hl:=te k [106];rcases he with rfl|rfl|rfl
 ·have h1:=wI hr;have:=(lO hr (.inl rfl)).2.2;omega
 ·obtain⟨q,rfl,h1,h2⟩:=B7 hr;have:=(lO h2 (.inl rfl)).2.2;omega
 ·have:xs= []:=by
   have:=Gj (eW k [106]).1 (eW k [106]).1.length 0 [] (by omega) (by omega) (by show(dA _).2.2=2;rw[hr])
   have e:(dA (eW k [106]).1).1= []:=this;rw[hr]at e;exact e
  subst this;simp
theorem Bz(d:Dk)(l:cC):(kT d l).1.length≤3∧(∀c∈(kT d l).1,vK c):=by
 unfold kT;split
 ·exact⟨by simp,by simp⟩
 rename_i hl;split
 ·exact⟨by simp,by simp⟩
 split
 ·exact⟨by simp,by simp⟩
 have hl:c8 l=true:=by simpa using hl
 have:=nN hl;dsimp only;refine⟨by split<;>simp,fun c hc=>?_⟩
 have:c=⟨1,nJ,[],cU (dM l)⟩∨c=⟨2,nJ,[],[]⟩∨c=⟨5,[],[],[]⟩:=by
  split at hc
  ·simp at hc;rcases hc with h|h|h
   ·exact .inl h
   ·exact .inr (.inl h)
   ·exact .inr (.inr h)
  ·simp at hc;rcases hc with h|h
   ·exact .inl h
   ·exact .inr (.inl h)
 rcases this with rfl|rfl|rfl
 ·exact⟨by simp,by simp,by dsimp only;omega⟩
 ·exact⟨by simp,by simp,by simp⟩
 ·exact⟨by simp,by simp,by simp⟩
theorem LC{d:Dk}{xs:List cC}(h:Sd d xs){l:cC}(hl:c8 l=true):(kT d l).2=0∧2≤(kT d l).1.length:=by
 rw[add_eq h hl];exact⟨rfl,by simp⟩
structure gY where
 t:List cC
 k:Dk
instance:Inhabited gY:=⟨⟨[],kR⟩⟩
def gY.d(s:gY):DV:= .agg [.slice (s.t.map cC.d),.slice (s.k.files.map cK.d),.slice (s.k.now.map cZ.d),.slice (s.k.kept.map cZ.d)]
@[simp] theorem SQ(s:gY):cells s.d= [.slice (s.t.map cC.d),.slice (s.k.files.map cK.d),.slice (s.k.now.map cZ.d),.slice (s.k.kept.map cZ.d)]:=rfl
def Q8:gY:=⟨[],kR⟩
def QP(t:List cC):Prop:=t.length≤1000000∧ ∀l∈t,l.key.length≤1000000
def kW(k:Dk):gY×Int:=
 if(kX k).2≠0 then(Q8,(kX k).2)
 else if dk (ei (dA (eW (kX k).1 [106]).1).1)=false then(Q8,3)
 else(⟨ei (dA (eW (kX k).1 [106]).1).1,(kX k).1⟩,0)
def ko(s:gY)(cs:List iS)(t:List cC)(fuel:Int):gY×Nat×Bool:=
 if(kQ cs (if fuel<0 then cs.length else fuel.toNat) (cP s.k)).2<cs.length then(⟨s.t,(kQ cs (if fuel<0 then cs.length else fuel.toNat) (cP s.k)).1⟩,(kQ cs (if fuel<0 then cs.length else fuel.toNat) (cP s.k)).2,false)
 else(⟨t,(kQ cs (if fuel<0 then cs.length else fuel.toNat) (cP s.k)).1⟩,(kQ cs (if fuel<0 then cs.length else fuel.toNat) (cP s.k)).2,true)
def eH(s:gY)(l:cC)(fuel:Int):gY×Nat×Bool:=
 if(gJ s.t l).2≠0∨(kT s.k l).2≠0 then(s,0,false)else ko s (kT s.k l).1 (gJ s.t l).1 fuel
def eA(s:gY)(many fuel:Int):gY×Nat×Bool:=
 if M' s.k many=false then(s,0,true)else if(eN s.k s.t).2≠0 then(s,0,false)else ko s (eN s.k s.t).1 s.t fuel
theorem HT(k:Dk): ∀l∈(dA (eW k [106]).1).1,l.key.length≤1000000:=by
 intro l hl;generalize hr:dA (eW k [106]).1=r at*
 obtain⟨xs,n,e⟩:=r;have he:=B6 (eW k [106]).1;rw[hr]at he;dsimp only at he hl;have key:c8 l=true→l.key.length≤1000000:=fun h=>by have:=qN (gV h).2.2.2;omega
 rcases he with rfl|rfl|rfl
 ·exact key ((lO hr (.inl rfl)).1 l hl)
 ·exact key ((lO hr (.inr rfl)).1 l hl)
 ·have h:=Gj (eW k [106]).1 (eW k [106]).1.length 0 [] (by omega) (by omega)
  have h2:(dA (eW k [106]).1).1= []:=h (by show(dA _).2.2=2;rw[hr])
  rw[hr]at h2;dsimp only at h2;subst h2;simp at hl
theorem GZ(k:Dk)(hk:m5 k):cD Tryz.prog 52 [.d k.d] (.tup [.d (kW k).1.d,.d (.int .i64 (kW k).2)]) (fun _=>false):=by
 refine cD.bi Tryz.func52 [] ?_;have q1:=CF k hk;have hor:=jC (D5 k);unfold kW;generalize kX k=o at*
 obtain⟨x,e⟩:=o;dsimp only at q1 hor⊢;by_cases h0:e=0
 ·rw[if_neg (fun h=>h h0)]
  have q2:=mG x hor (by have:=te x [106];omega)
  have hf:=B5 x;have hky:=HT x;generalize dA (eW x [106]).1=r at*
  obtain⟨ls,n,f⟩:=r;dsimp only at q2 hf hky⊢;have q3:=z0 ls (by omega)
  have hll:=lB ls;have q4:=jP (ei ls) (by omega) (fun l hl=>by have:=hky l (HQ hl);omega)
  generalize ei ls=t at*
  cases hr:dk t with
  |false=>
   rw[hr]at q4
   simp-implicitDefEqProofs (disch:=try exact dd) [cB,Dk.d]
   refine oc q1 ?_
   simp-implicitDefEqProofs (disch:=try exact dd) [cB,h0]
   refine oc q2 ?_
   simp-implicitDefEqProofs (disch:=try exact dd) [cB]
   refine oc q3 ?_
   simp-implicitDefEqProofs (disch:=try exact dd) [cB]
   refine oc q4 ?_
   simp-implicitDefEqProofs (disch:=try exact dd) [cB,gY.d,Q8,kR]
  |true=>
   rw[hr]at q4
   simp-implicitDefEqProofs (disch:=try exact dd) [cB,Dk.d]
   refine oc q1 ?_
   simp-implicitDefEqProofs (disch:=try exact dd) [cB,h0]
   refine oc q2 ?_
   simp-implicitDefEqProofs (disch:=try exact dd) [cB]
   refine oc q3 ?_
   simp-implicitDefEqProofs (disch:=try exact dd) [cB]
   refine oc q4 ?_
   simp-implicitDefEqProofs (disch:=try exact dd) [cB,gY.d]
 ·rw[if_pos h0]
  simp-implicitDefEqProofs (disch:=try exact dd) [cB,Dk.d]
  refine oc q1 ?_
  simp-implicitDefEqProofs (disch:=try exact dd) [cB,h0,gY.d,Q8,kR]
theorem MI(s:gY)(hk:kJ s.k):cD Tryz.prog 64 [.d s.d] (.d s.d) (fun _=>false):=by
 refine cD.bi Tryz.func64 [20001] ?_;have q:=R9 s.k hk
 simp-implicitDefEqProofs (disch:=try exact dd) [cB,gY.d]
 refine oc q ?_
 simp-implicitDefEqProofs (disch:=try exact dd) [cB,gY.d,Dk.d]
theorem Hg(s:gY)(hk:m5 s.k)(ht:s.t.length≤1000000):cD Tryz.prog 63 [.d s.d,.d s.d] (.d (.bool true)) (fun _=>false):=by
 refine cD.bi Tryz.func63 [20002,20003] ?_;have q1:=fS s.t s.t ht ht;have q2:=Hi s.k hk;have hdt:decide (s.t=s.t)=true:=by simp
 rw[hdt]at q1
 simp-implicitDefEqProofs (disch:=try exact dd) [cB,gY.d]
 refine oc q1 ?_
 simp-implicitDefEqProofs (disch:=try exact dd) [cB,gY.d]
 refine oc q2 ?_
 simp-implicitDefEqProofs (disch:=try exact dd) [cB]
theorem Jx(t:List cC)(nt gt:Nat){fo:Nat}{gl:Nat→Nat}(hnt:nt<fo)(hgt:0<gt)(ow:Nat→Bool):de Tryz.prog fo gl 123 [.ptr nt gt 0] [⟨nt,gt,[.d (.slice (t.map cC.d))],fun _=>false⟩] (.d (.slice (t.map cC.d))) (fun _=>false) [⟨nt,gt,[.d (.slice (t.map cC.d))],fun _=>false⟩]:=by
 refine de.bi Tryz.func123 [] (by simp[cH,cS,hgt]) (by simp[cH,cS,hgt]) (by simp[hgt]) ?_
 simp-implicitDefEqProofs (disch:=try exact dd) [cB]
theorem E9(s:gY)(hs:s.t.length≤1000000){fo:Nat}{gl:Nat→Nat}:de Tryz.prog fo gl 135 [.cptr (cells s.d)] [] (.d (.slice (s.t.map cC.d))) (fun _=>false) []:=by
 refine de.bi Tryz.func135 [] (by simp[cH,cS]) (by simp[cH,cS]) (by simp) ?_
 simp-implicitDefEqProofs (disch:=try exact dd) [cB]
theorem I8(s:gY)(hk:m5 s.k)(hst:s.t.length≤1000000)(cs:List iS)(hcl:cs.length≤1000000)(hc: ∀c∈cs,vK c)(t:List cC)(fuel:Int)(nt gt:Nat){fo:Nat}{gl:Nat→Nat}(hnt:nt<fo)(hgt:0<gt):
 de Tryz.prog fo gl 122 [.d s.d,.pa [.d (.slice (cs.map iS.d)),.fn 123 [.ptr nt gt 0]],.d (.int .i64 fuel)] [⟨nt,gt,[.d (.slice (t.map cC.d))],fun _=>false⟩]
  (.tup [.d (ko s cs t fuel).1.d,.d (.int .i64 (ko s cs t fuel).2.1),.d (.bool (ko s cs t fuel).2.2)]) (fun _=>false) [⟨nt,gt,[.d (.slice (t.map cC.d))],fun _=>false⟩]:=by
 refine de.bi Tryz.func122 [20003,50028,3030009,3011011,40041] (by simp[cH,cS,hgt]) (by simp[cH,cS,hgt]) (by simp[hgt]) ?_
 have hk1: ∀k,(nt=fo+k)=False:=fun k=>by simp;omega
 have hk2: ∀k,(fo+k=nt)=False:=fun k=>by simp;omega
 have q2:=fun gl=>Jx t nt gt (fo:=fo+1000) (gl:=gl) (by omega) hgt (fun _=>false)
 unfold ko;by_cases hf:fuel<0
 ·simp only[if_pos hf];have q1:=qO s.k hk cs hcl hc (cs.length:Nat);rw[Int.toNat_natCast]at q1;generalize kQ cs cs.length (cP s.k)=r at*
  by_cases hn:r.2<cs.length
  ·have hn':(r.2:Int)<cs.length:=by omega
   rw[if_pos hn]
   simp-implicitDefEqProofs (disch:=try exact dd) [cB,gY.d,hk1,hk2,hf]
   refine oc q1 ?_
   simp-implicitDefEqProofs (disch:=try exact dd) [cB,gY.d,hk1,hk2,hn']
  ·have hn': ¬(r.2:Int)<cs.length:=by omega
   rw[if_neg hn]
   simp-implicitDefEqProofs (disch:=try exact dd) [cB,gY.d,hk1,hk2,hf]
   refine oc q1 ?_
   simp-implicitDefEqProofs (disch:=try exact dd) [cB,gY.d,hk1,hk2,hn']
   refine dx (fo+1000) rfl rfl (q2 _) rfl (by simp-implicitDefEqProofs (disch:=try exact dd) [cB,hk1,hk2,hgt]) ?_
   simp-implicitDefEqProofs (disch:=try exact dd) [cB,gY.d,hk1,hk2,hn']
 ·simp only[if_neg hf];have q1:=qO s.k hk cs hcl hc fuel;generalize kQ cs fuel.toNat (cP s.k)=r at*
  by_cases hn:r.2<cs.length
  ·have hn':(r.2:Int)<cs.length:=by omega
   rw[if_pos hn]
   simp-implicitDefEqProofs (disch:=try exact dd) [cB,gY.d,hk1,hk2,hf]
   refine oc q1 ?_
   simp-implicitDefEqProofs (disch:=try exact dd) [cB,gY.d,hk1,hk2,hn']
  ·have hn': ¬(r.2:Int)<cs.length:=by omega
   rw[if_neg hn]
   simp-implicitDefEqProofs (disch:=try exact dd) [cB,gY.d,hk1,hk2,hf]
   refine oc q1 ?_
   simp-implicitDefEqProofs (disch:=try exact dd) [cB,gY.d,hk1,hk2,hn']
   refine dx (fo+1000) rfl rfl (q2 _) rfl (by simp-implicitDefEqProofs (disch:=try exact dd) [cB,hk1,hk2,hgt]) ?_
   simp-implicitDefEqProofs (disch:=try exact dd) [cB,gY.d,hk1,hk2,hn']
theorem I9(s:gY)(hk:m5 s.k)(hst:s.t.length≤1000000)(cs:List iS)(hcl:cs.length≤1000000)(hc: ∀c∈cs,vK c)(fuel:Int){fo:Nat}{gl:Nat→Nat}:
 de Tryz.prog fo gl 122 [.d s.d,.pa [.d (.slice (cs.map iS.d)),.fn 135 [.cptr (cells s.d)]],.d (.int .i64 fuel)] []
  (.tup [.d (ko s cs s.t fuel).1.d,.d (.int .i64 (ko s cs s.t fuel).2.1),.d (.bool (ko s cs s.t fuel).2.2)]) (fun _=>false) []:=by
 refine de.bi Tryz.func122 [20003,50028,3030009,3011011,40041] (by simp[cH,cS]) (by simp[cH,cS]) (by simp) ?_
 have q2:=fun gl=>E9 s hst (fo:=fo+1000) (gl:=gl)
 unfold ko;by_cases hf:fuel<0
 ·simp only[if_pos hf];have q1:=qO s.k hk cs hcl hc (cs.length:Nat);rw[Int.toNat_natCast]at q1;generalize kQ cs cs.length (cP s.k)=r at*
  by_cases hn:r.2<cs.length
  ·have hn':(r.2:Int)<cs.length:=by omega
   rw[if_pos hn]
   simp-implicitDefEqProofs (disch:=try exact dd) [cB,gY.d,hf]
   refine oc q1 ?_
   simp-implicitDefEqProofs (disch:=try exact dd) [cB,gY.d,hn']
  ·have hn': ¬(r.2:Int)<cs.length:=by omega
   rw[if_neg hn]
   simp-implicitDefEqProofs (disch:=try exact dd) [cB,gY.d,hf]
   refine oc q1 ?_
   simp-implicitDefEqProofs (disch:=try exact dd) [cB,gY.d,hn']
   refine dx (fo+1000) rfl rfl (q2 _) rfl (by simp-implicitDefEqProofs (disch:=try exact dd) [cB]) ?_
   simp-implicitDefEqProofs (disch:=try exact dd) [cB,gY.d,hn']
 ·simp only[if_neg hf];have q1:=qO s.k hk cs hcl hc fuel;generalize kQ cs fuel.toNat (cP s.k)=r at*
  by_cases hn:r.2<cs.length
  ·have hn':(r.2:Int)<cs.length:=by omega
   rw[if_pos hn]
   simp-implicitDefEqProofs (disch:=try exact dd) [cB,gY.d,hf]
   refine oc q1 ?_
   simp-implicitDefEqProofs (disch:=try exact dd) [cB,gY.d,hn']
  ·have hn': ¬(r.2:Int)<cs.length:=by omega
   rw[if_neg hn]
   simp-implicitDefEqProofs (disch:=try exact dd) [cB,gY.d,hf]
   refine oc q1 ?_
   simp-implicitDefEqProofs (disch:=try exact dd) [cB,gY.d,hn']
   refine dx (fo+1000) rfl rfl (q2 _) rfl (by simp-implicitDefEqProofs (disch:=try exact dd) [cB]) ?_
   simp-implicitDefEqProofs (disch:=try exact dd) [cB,gY.d,hn']
theorem I7(s:gY)(hk:m5 s.k)(ht:QP s.t)(l:cC)(hl:l.key.length≤1000000)(fuel:Int):
 cD Tryz.prog 66 [.d s.d,.d l.d,.d (.int .i64 fuel)] (.tup [.d (eH s l fuel).1.d,.d (.int .i64 (eH s l fuel).2.1),.d (.bool (eH s l fuel).2.2)]) (fun _=>false):=by
 refine cD.bi Tryz.func66 [20003,20004,40039] ?_;have q1:=BQ s.t l ht.1 (fun l hl=>by have:=ht.2 l hl;omega) (by omega)
 have q2:=Eu s.k hk l (by omega)
 obtain⟨f1,f2⟩:=Bz s.k l;unfold eH;generalize gJ s.t l=a at*
 generalize kT s.k l=b at*
 obtain⟨t,e⟩:=a;obtain⟨cs,f⟩:=b;dsimp only at q1 q2 f1 f2⊢;by_cases he:e=0
 ·by_cases hf:f=0
  ·rw[if_neg (by omega)]
   have q3:=fun gl=>I8 s hk ht.1 cs (by omega) f2 t fuel (FO+9) 1 (fo:=FO+1000) (gl:=gl) (by omega) (by omega)
   generalize ko s cs t fuel=p at*
   simp-implicitDefEqProofs (disch:=try exact dd) [cB,gY.d]
   refine oc q1 ?_
   simp-implicitDefEqProofs (disch:=try exact dd) [cB,he]
   refine oc q2 ?_
   simp-implicitDefEqProofs (disch:=try exact dd) [cB,he,hf]
   refine dx (FO+1000) rfl rfl (q3 _) rfl (by simp-implicitDefEqProofs (disch:=try exact dd) [cB]) ?_
   simp-implicitDefEqProofs (disch:=try exact dd) [cB,gY.d]
  ·rw[if_pos (.inr hf)]
   simp-implicitDefEqProofs (disch:=try exact dd) [cB,gY.d]
   refine oc q1 ?_
   simp-implicitDefEqProofs (disch:=try exact dd) [cB,he]
   refine oc q2 ?_
   simp-implicitDefEqProofs (disch:=try exact dd) [cB,he,hf,gY.d]
 ·rw[if_pos (.inl he)]
  simp-implicitDefEqProofs (disch:=try exact dd) [cB,gY.d]
  refine oc q1 ?_
  simp-implicitDefEqProofs (disch:=try exact dd) [cB,he]
  refine oc q2 ?_
  simp-implicitDefEqProofs (disch:=try exact dd) [cB,he,gY.d]
theorem DB(s:gY)(hk:m5 s.k)(ht:QP s.t)(hm:s.t.length≤100000)(many fuel:Int):
 cD Tryz.prog 74 [.d s.d,.d (.int .i64 many),.d (.int .i64 fuel)] (.tup [.d (eA s many fuel).1.d,.d (.int .i64 (eA s many fuel).2.1),.d (.bool (eA s many fuel).2.2)]) (fun _=>false):=by
 refine cD.bi Tryz.func74 [20003,40033] ?_;have hf:=B5 s.k;have q1:=Ln s.k hk many hf;have q2:=Bs s.k hk s.t hm ht.2;obtain⟨f1,f2⟩:=qj s.k s.t;unfold eA;generalize eN s.k s.t=a at*
 obtain⟨cs,e⟩:=a;dsimp only at q2 f1 f2⊢
 cases hd:M' s.k many with
 |false=>
  rw[hd]at q1;rw[if_pos rfl]
  simp-implicitDefEqProofs (disch:=try exact dd) [cB,gY.d]
  refine oc q1 ?_
  simp-implicitDefEqProofs (disch:=try exact dd) [cB,gY.d]
 |true=>
  rw[hd]at q1;rw[if_neg (by simp)]
  by_cases he:e=0
  ·rw[if_neg (fun h=>h he)]
   have q3:=fun gl=>I9 s hk ht.1 cs (by omega) f2 fuel (fo:=FO+1000) (gl:=gl)
   generalize ko s cs s.t fuel=p at*
   simp-implicitDefEqProofs (disch:=try exact dd) [cB,gY.d]
   refine oc q1 ?_
   simp-implicitDefEqProofs (disch:=try exact dd) [cB]
   refine oc q2 ?_
   simp-implicitDefEqProofs (disch:=try exact dd) [cB,he]
   refine dx (FO+1000) rfl rfl (q3 _) rfl (by simp-implicitDefEqProofs (disch:=try exact dd) [cB]) ?_
   simp-implicitDefEqProofs (disch:=try exact dd) [cB,gY.d]
  ·rw[if_pos he]
   simp-implicitDefEqProofs (disch:=try exact dd) [cB,gY.d]
   refine oc q1 ?_
   simp-implicitDefEqProofs (disch:=try exact dd) [cB]
   refine oc q2 ?_
   simp-implicitDefEqProofs (disch:=try exact dd) [cB,he,gY.d]
structure cG where
 c:dq
 s:gY
 now:Int
 fuse:Int
 up:Bool
def cG.d(v:cG):DV:= .agg [.int .i64 v.c.server,.int .i64 v.c.probation,.slice (v.c.nets.map Net.d),.slice (v.s.t.map cC.d),.slice (v.s.k.files.map cK.d),.slice (v.s.k.now.map cZ.d),.slice (v.s.k.kept.map cZ.d),.int .i64 v.now,.int .i64 v.fuse,.bool v.up]
@[simp] theorem QH(v:cG):cells v.d= [.int .i64 v.c.server,.int .i64 v.c.probation,.slice (v.c.nets.map Net.d),.slice (v.s.t.map cC.d),.slice (v.s.k.files.map cK.d),.slice (v.s.k.now.map cZ.d),.slice (v.s.k.kept.map cZ.d),.int .i64 v.now,.int .i64 v.fuse,.bool v.up]:=rfl
def wU(n g:Nat)(v:cG):iL:=⟨n,g,(cells v.d).map .d,fun _=>false⟩
structure iA where
 b:List UInt8
 to:ym
def iA.d(x:iA):DV:= .agg [.slice (x.b.map cM),.int .i64 x.to.addr,.int .i64 x.to.port,.bool x.to.raw]
def qi(n:Int):Int:=if 0<(if 1125899906842624<n then 1125899906842624 else n)then(if 1125899906842624<n then 1125899906842624 else n)else 0
def eF(c:dq)(k:Dk)(now:Int):cG:=if dH c≠0∨(kW k).2≠0 then⟨c,⟨[],k⟩,qi now, -1,false⟩else⟨c,(kW k).1,qi now, -1,true⟩
def zH(f:Int)(n:Nat):Int:=if 0<f-n then f-n else 0
def kY(v:cG)(n:Nat)(all:Bool):cG:=if v.fuse<0 then v else if all=false∧zH v.fuse n=0 then{v with fuse:= -1,up:=false}else{v with fuse:=zH v.fuse n}
def sB(a:kU):List iA:=if a.send=true then[⟨(gz a.reply).1,a.to⟩]else[]
def fM(v:cG)(b:List UInt8)(iface:Int):cG×List iA:=
 if v.up=false∨(jB b).1≠0 then(v,[])else
 if(cL v.c v.s.t (jB b).2 iface v.now).keep=true then
  (kY {v with s:=(eH v.s (cL v.c v.s.t (jB b).2 iface v.now).lease v.fuse).1} (eH v.s (cL v.c v.s.t (jB b).2 iface v.now).lease v.fuse).2.1 (eH v.s (cL v.c v.s.t (jB b).2 iface v.now).lease v.fuse).2.2,
   if(eH v.s (cL v.c v.s.t (jB b).2 iface v.now).lease v.fuse).2.2=true then sB (cL v.c v.s.t (jB b).2 iface v.now)else[])
 else(v,sB (cL v.c v.s.t (jB b).2 iface v.now))
def yK(v:cG)(n:Int):cG:=if 0<n then{v with now:=if 1125899906842624<v.now+(if 1125899906842624<n then 1125899906842624 else n)then 1125899906842624 else v.now+(if 1125899906842624<n then 1125899906842624 else n)}else v
def j6(v:cG):cG:=if v.up=false then v else kY {v with s:=(eA v.s 8 v.fuse).1} (eA v.s 8 v.fuse).2.1 (eA v.s 8 v.fuse).2.2
def dX(v:cG)(keep:List Int)(dir:Bool):cG:= {v with s:=⟨v.s.t,ep v.s.k keep dir⟩,up:=false,fuse:= -1}
def dG(v:cG):cG:=if v.up=true then v else eF v.c v.s.k v.now
theorem px(c:dq)(k:Dk)(now:Int)(hc:dW c)(hk:m5 k):cD Tryz.prog 17 [.d c.d,.d k.d,.d (.int .i64 now)] (.d (eF c k now).d) (fun _=>false):=by
 refine cD.bi Tryz.func17 [20003,20004,50010,50016,50020,50027] ?_;have q1:=GZ k hk;have q2:=nZ c hc;unfold eF qi;generalize kW k=o at*
 obtain⟨x,e⟩:=o;dsimp only at q1⊢;generalize dH c=ck at*
 simp-implicitDefEqProofs (disch:=try exact dd) [cB]
 refine oc q1 ?_
 simp-implicitDefEqProofs (disch:=try exact dd) [cB]
 refine oc q2 ?_;by_cases h1:ck=0
 ·by_cases h2:e=0
  ·rw[if_neg (by simp[h1,h2])]
   simp-implicitDefEqProofs (disch:=try exact dd) [cB,h1,h2,cG.d,gY.d]
  ·rw[if_pos (.inr h2)]
   simp-implicitDefEqProofs (disch:=try exact dd) [cB,h1,h2,cG.d,gY.d]
 ·rw[if_pos (.inl h1)]
  simp-implicitDefEqProofs (disch:=try exact dd) [cB,h1,cG.d,gY.d]
theorem wA(v:cG)(n:Nat)(all:Bool)(hn:n≤1000000000)(hf:v.fuse≤9223372036854775807)(no g:Nat){fo:Nat}{gl:Nat→Nat}(hno:no<fo)(hg:0<g):
 de Tryz.prog fo gl 67 [.ptr no g 0,.d (.int .i64 n),.d (.bool all)] [wU no g v] (.tup []) (fun _=>false) [wU no g (kY v n all)]:=by
 have hk1: ∀k,(no=fo+k)=False:=fun k=>by simp;omega
 have hk2: ∀k,(fo+k=no)=False:=fun k=>by simp;omega
 refine de.bi Tryz.func67 [] (by simp[cH,cS,hg,wU,cG.d]) (by simp[cH,cS,hg,wU,cG.d]) (by simp[hg,wU,cG.d]) ?_
 unfold kY zH;obtain⟨c,s,now,fuse,up⟩:=v;dsimp only at hf⊢;by_cases h0:fuse<0
 ·rw[if_pos h0]
  simp-implicitDefEqProofs (disch:=try exact dd) [cB,wU,hk1,hk2,h0,cG.d]
 ·rw[if_neg h0];by_cases h1:0<fuse-n
  ·have h1':(n:Int)<fuse:=by omega
   simp only[if_pos h1];rw[if_neg (by omega)]
   cases all with
   |true=>
    simp-implicitDefEqProofs (disch:=try exact dd) [cB,wU,hk1,hk2,h0,h1,h1',cG.d]
   |false=>
    have h2: ¬fuse-(n:Int)=0:=by omega
    simp-implicitDefEqProofs (disch:=try exact dd) [cB,wU,hk1,hk2,h0,h1,h1',h2,cG.d]
  ·have h1': ¬(n:Int)<fuse:=by omega
   simp only[if_neg h1]
   cases all with
   |true=>
    rw[if_neg (by simp)]
    simp-implicitDefEqProofs (disch:=try exact dd) [cB,wU,hk1,hk2,h0,h1,h1',cG.d]
   |false=>
    rw[if_pos (by simp)]
    simp-implicitDefEqProofs (disch:=try exact dd) [cB,wU,hk1,hk2,h0,h1,h1',cG.d]
theorem DG(v:cG)(n:Int)(h0:0≤v.now)(h1:v.now≤1125899906842624):cD Tryz.prog 57 [.d v.d,.d (.int .i64 n)] (.d (yK v n).d) (fun _=>false):=by
 refine cD.bi Tryz.func57 [] ?_;unfold yK;by_cases h:0<n
 ·rw[if_pos h];by_cases h2:1125899906842624<n
  ·simp only[if_pos h2];by_cases h3:1125899906842624<v.now+1125899906842624
   ·simp only[if_pos h3]
    simp-implicitDefEqProofs (disch:=try exact dd) [cB,h,h2,h3,cG.d]
   ·simp only[if_neg h3]
    simp-implicitDefEqProofs (disch:=try exact dd) [cB,h,h2,h3,cG.d]
  ·simp only[if_neg h2];by_cases h3:1125899906842624<v.now+n
   ·simp only[if_pos h3]
    simp-implicitDefEqProofs (disch:=try exact dd) [cB,h,h2,h3,cG.d]
   ·simp only[if_neg h3]
    simp-implicitDefEqProofs (disch:=try exact dd) [cB,h,h2,h3,cG.d]
 ·rw[if_neg h]
  simp-implicitDefEqProofs (disch:=try exact dd) [cB,h,cG.d]
theorem jl(v:cG)(hk:m5 v.s.k)(keep:List Int)(hkp:keep.length≤1000000)(dir:Bool):cD Tryz.prog 31 [.d v.d,.d (.slice (keep.map gM)),.d (.bool dir)] (.d (dX v keep dir).d) (fun _=>false):=by
 refine cD.bi Tryz.func31 [] ?_;have q:=Ip v.s.k hk keep hkp dir;unfold dX;generalize ep v.s.k keep dir=k at*
 simp-implicitDefEqProofs (disch:=try exact dd) [cB,cG.d]
 refine oc q ?_
 simp-implicitDefEqProofs (disch:=try exact dd) [cB,cG.d]
theorem gU(v:cG)(hc:dW v.c)(hk:m5 v.s.k):cD Tryz.prog 30 [.d v.d] (.d (dG v).d) (fun _=>false):=by
 refine cD.bi Tryz.func30 [20001,50004,50005,50007,50010,50012] ?_;have q:=px v.c v.s.k v.now hc hk;unfold dG;generalize eF v.c v.s.k v.now=w at*
 cases h:v.up with
 |true=>
  simp-implicitDefEqProofs (disch:=try exact dd) [cB,cG.d,h]
 |false=>
  simp-implicitDefEqProofs (disch:=try exact dd) [cB,cG.d,h]
  refine oc q ?_
  simp-implicitDefEqProofs (disch:=try exact dd) [cB,cG.d]
theorem BY(v:cG)(hk:m5 v.s.k)(ht:QP v.s.t)(hm:v.s.t.length≤100000)(hn:(eA v.s 8 v.fuse).2.1≤1000000000)(hf:v.fuse≤9223372036854775807):cD Tryz.prog 35 [.d v.d] (.d (j6 v).d) (fun _=>false):=by
 refine cD.bi Tryz.func35 [20001,60004,70019,70024,40037] ?_;have q:=DB v.s hk ht hm 8 v.fuse;unfold j6;generalize eA v.s 8 v.fuse=r at*
 obtain⟨x,n,all⟩:=r;dsimp only at q hn⊢;by_cases h:v.up=false
 ·rw[if_pos h]
  simp-implicitDefEqProofs (disch:=try exact dd) [cB,cG.d,h]
 ·rw[if_neg h];have h':v.up=true:=by simpa using h
  have q2:=fun gl=>wA {v with s:=x} n all hn hf (FO+13) 1 (fo:=FO+1000) (gl:=gl) (by decide) (by decide)
  generalize kY {v with s:=x} n all=w at*
  simp-implicitDefEqProofs (disch:=try exact dd) [cB,cG.d,h']
  refine oc q ?_
  simp-implicitDefEqProofs (disch:=try exact dd) [cB,cG.d,gY.d,h']
  refine dx (FO+1000) rfl rfl (q2 _) rfl (by simp-implicitDefEqProofs (disch:=try exact dd) [cB,wU,h']) ?_
  simp-implicitDefEqProofs (disch:=try exact dd) [cB,wU,cG.d]
theorem yx(v:cG)(b:List UInt8)(iface:Int)(hb:b.length≤100000)(hc:dW v.c)(hk:m5 v.s.k)(ht:QP v.s.t)(hm:ez (jB b).2)(hf:v.fuse≤9223372036854775807)
 (hl:(cL v.c v.s.t (jB b).2 iface v.now).lease.key.length≤1000000) (hr:ez (cL v.c v.s.t (jB b).2 iface v.now).reply) (hn:(eH v.s (cL v.c v.s.t (jB b).2 iface v.now).lease v.fuse).2.1≤1000000000):
 cD Tryz.prog 26 [.d v.d,.d (.slice (b.map cM)),.d (.int .i64 iface)] (.tup [.d (fM v b iface).1.d,.d (.slice ((fM v b iface).2.map iA.d))]) (fun _=>false):=by
 refine cD.bi Tryz.func26 [20003,60011,70037,70043,70044,70050,3012012,3059032,3061011,3066032,40079,50030,3105011,3102032,5102006] ?_;have q1:=Cn b hb;have q2:=Bj v.c v.s.t (jB b).2 iface v.now hc ⟨ht.1,fun l hl=>by have:=ht.2 l hl;omega⟩ hm
 unfold fM;generalize hrd:jB b=r at*
 obtain⟨e,m⟩:=r;dsimp only at q1 q2 hm hl hr hn⊢;generalize cL v.c v.s.t m iface v.now=a at*
 by_cases h1:v.up=false
 ·rw[if_pos (.inl h1)]
  simp-implicitDefEqProofs (disch:=try exact dd) [cB,cG.d]
  refine oc q1 ?_
  simp-implicitDefEqProofs (disch:=try exact dd) [cB,cG.d,h1]
 have h1':v.up=true:=by simpa using h1
 by_cases h2:e=0
 ·rw[if_neg (by simp[h1',h2])]
  subst h2;have q3:=I7 v.s hk ht a.lease hl v.fuse;have q5:=xc a.reply hr;unfold sB;obtain⟨send,keep,reply,to_,lease⟩:=a;dsimp only at q2 q3 q5 hl hr hn⊢
  cases keep with
  |true=>
   rw[if_pos rfl];generalize eH v.s lease v.fuse=p at*
   obtain⟨x,n,known⟩:=p;dsimp only at q3 hn⊢;have q4:=fun gl=>wA {v with s:=x} n known hn hf (FO+32) 1 (fo:=FO+1000) (gl:=gl) (by decide) (by decide)
   generalize kY {v with s:=x} n known=w at*
   simp-implicitDefEqProofs (disch:=try exact dd) [cB,cG.d]
   refine oc q1 ?_
   simp-implicitDefEqProofs (disch:=try exact dd) [cB,cG.d,h1']
   refine oc q2 ?_
   simp-implicitDefEqProofs (disch:=try exact dd) [cB,cG.d,kU.d,gY.d,h1']
   refine oc q3 ?_
   simp-implicitDefEqProofs (disch:=try exact dd) [cB,cG.d,gY.d,h1']
   refine dx (FO+1000) rfl rfl (q4 _) rfl (by simp-implicitDefEqProofs (disch:=try exact dd) [cB,wU,h1']) ?_
   cases known with
   |false=>
    simp-implicitDefEqProofs (disch:=try exact dd) [cB,wU,cG.d]
   |true=>
    cases send with
    |false=>
     simp-implicitDefEqProofs (disch:=try exact dd) [cB,wU,cG.d]
    |true=>
     simp-implicitDefEqProofs (disch:=try exact dd) [cB,wU,cG.d]
     refine oc q5 ?_
     simp-implicitDefEqProofs (disch:=try exact dd) [cB,wU,cG.d,iA.d]
  |false=>
   rw[if_neg (by simp)]
   cases send with
   |false=>
    simp-implicitDefEqProofs (disch:=try exact dd) [cB,cG.d]
    refine oc q1 ?_
    simp-implicitDefEqProofs (disch:=try exact dd) [cB,cG.d,h1']
    refine oc q2 ?_
    simp-implicitDefEqProofs (disch:=try exact dd) [cB,cG.d,kU.d,gY.d,h1']
   |true=>
    simp-implicitDefEqProofs (disch:=try exact dd) [cB,cG.d]
    refine oc q1 ?_
    simp-implicitDefEqProofs (disch:=try exact dd) [cB,cG.d,h1']
    refine oc q2 ?_
    simp-implicitDefEqProofs (disch:=try exact dd) [cB,cG.d,kU.d,gY.d,h1']
    refine oc q5 ?_
    simp-implicitDefEqProofs (disch:=try exact dd) [cB,cG.d,iA.d,h1']
 ·rw[if_pos (.inr h2)]
  simp-implicitDefEqProofs (disch:=try exact dd) [cB,cG.d]
  refine oc q1 ?_
  simp-implicitDefEqProofs (disch:=try exact dd) [cB,cG.d,h1',h2]
theorem xK(o:cN)(l:List cN)(c:Int):cY (o::l) c=if o.code=c then some o.data else cY l c:=by
 unfold cY;by_cases h:o.code=c<;>simp[h]
theorem zq{c:dq}{s:Sub}{m:ee}{kind yi:Int}:cY (eI c s m kind yi).opts 53=some (di kind 1)∧(kind≠6→yi≠0→cY (eI c s m kind yi).opts 51=some (di s.time 4)):=by
 constructor
 ·simp[eI,lS,xK]
 ·intro hk hy;simp[eI,lS,wS,yB,hk,hy,xK]
theorem zx{c:dq}{s:Sub}{m:ee}{kind yi:Int}(hk:kindOk kind=true):f_ (eI c s m kind yi).opts=kind:=by
 unfold f_;rw[zq.1];rcases CD.1 hk with rfl|rfl|rfl<;>decide
theorem J3{l:List cN}{c v:Int}(h:cY l c=some (di v 4))(h0:0≤v)(h1:v≤4294967295):fa l c=some v:=by
 unfold fa;rw[h];simp only[nq,if_true];rw[pJ 4 v h0 (by omega)]
structure Nn(c:dq)(t:List cC)(m:ee)(iface now:Int)(u:eR)(x:du):Prop where
 fair:xN c t m now=true
 key:(oK m).2=0
 sub:gI c m iface=some x
 u:u=⟨c,t,m,(oK m).1,x.net,x.sub,x.s,now⟩
theorem ur{c:dq}{t:List cC}{m:ee}{iface now:Int}:(∃u x,Nn c t m iface now u x∧cL c t m iface now=uO u)∨cL c t m iface now=jL:=by
 unfold cL;split
 ·rename_i h
  cases hs:gI c m iface with
  |none=>exact .inr rfl
  |some x=>exact .inl ⟨_,x,⟨h.1,h.2,hs,rfl⟩,rfl⟩
 ·exact .inr rfl
theorem Nn.parts{c:dq}{t:List cC}{m:ee}{iface now:Int}{u:eR}{x:du}(h:Nn c t m iface now u x):dH c=0∧dk t=true∧(0≤now∧now≤1125899906842624)∧m.op=1∧jG m c.server=false∧db m=true:=by
 have h1:=h.fair;simp only[xN,Bool.and_eq_true,decide_eq_true_eq,Bool.not_eq_true']at h1;exact⟨h1.1.1.1.1,h1.1.1.1.2,h1.1.1.2,h1.1.2,h1.2,(po h.sub).2.2⟩
inductive BA(u:eR):kU→Prop
 |none:BA u jL
 |offer (a:Int) (hc:lk u.c u.t u.net u.k (nc u) u.now=some a) (hk:f_ u.m.opts=1):BA u (gQ u 2 a false qJ)
 |rW (a:Int) (hm:jD u.c u.t u.net u.k u.now a=true) (hs:(gJ u.t (kB u a)).2=0) (hk:f_ u.m.opts=3):BA u (gQ u 5 a true (kB u a))
 |nak (hk:f_ u.m.opts=3):BA u (Eb u)
 |decline (hm:oX u (nc u)=true):BA u (nC ⟨nc u,3,mZ u.now u.c.probation,u.k⟩)
 |release (hm:oX u u.m.ci=true):BA u (nC ⟨u.m.ci,2,u.now,u.k⟩)
 |inform (hk:f_ u.m.opts=8) (hc:u.m.ci≠0):BA u (gQ u 5 0 false qJ)
theorem wk(u:eR):BA u (uO u):=by
 have hgive: ∀a,jD u.c u.t u.net u.k u.now a=true→f_ u.m.opts=3→BA u (o8 u a):=by
  intro a hm hk;unfold o8;split
  ·exact .rW a hm (by assumption) hk
  ·exact .none
 unfold uO;split
 ·rename_i h;unfold nX;split
  ·exact .none
  ·exact .offer _ (by assumption) h
 split
 ·rename_i h;unfold pE;split
  ·exact .none
  split
  ·exact .nak h
  split
  ·split
   ·exact hgive _ (by assumption) h
   ·exact .nak h
  split
  ·exact .none
  split
  ·rename_i h2;exact hgive _ h2.2.2 h
  ·exact .nak h
 split
 ·unfold qd uC;split
  ·exact .decline (by assumption)
  ·exact .none
 split
 ·unfold pG uC;split
  ·exact .release (by assumption)
  ·exact .none
 split
 ·rename_i h;unfold s_;split
  ·exact .none
  ·exact .inform h (by assumption)
 ·exact .none
theorem Kr{c:dq}{t:List cC}{n:Int}{k:List UInt8}{now a:Int}(h:jD c t n k now a=true):ke c t n k=true:=by
 simp only[jD,Bool.and_eq_true]at h;exact h.1.1.1
theorem zE{u:eR}{a:Int}(hm:jD u.c u.t u.net u.k u.now a=true): ∃y,gr u.c a=some y∧(y.net:Int)=u.net∧0<a∧iV u.c u.s 5 a=y.s∧(1≤y.s.time∧y.s.time≤2147483648):=by
 obtain⟨y,hy,hn,h0⟩:=A4 hm;have h1:a≠0:=by omega
 refine⟨y,hy,hn,h0,by simp[iV,hy,h1],?_⟩
 have h:=(tk hy).2;have hk:=(jj h).1;have hr:cJ u.c=cF u.c:=if_pos hk;rw[hr]at h;obtain⟨hf,_,_⟩:=iw hk;simp only[me,Bool.and_eq_true,List.all_eq_true]at hf;have h1:=hf.2 y h;simp only[vh,nV,Bool.and_eq_true]at h1;exact of_decide_eq_true h1.1.1.2
def XP(c:dq)(t:List cC)(m:ee)(iface now:Int):Bool:=
 if(cL c t m iface now).send=true∧(cL c t m iface now).reply.yi≠0 then
  decide ((oK m).2=0)&&(match gI c m iface with|some x=>CJ c x.net (cL c t m iface now).reply.yi&&jD c t x.net (oK m).1 now (cL c t m iface now).reply.yi|none=>false)
 else true
def Es(c:dq)(t:List cC)(m:ee)(iface now:Int):Bool:=
 if(cL c t m iface now).send=true∧f_ (cL c t m iface now).reply.opts=5∧(cL c t m iface now).reply.yi≠0 then
  (cL c t m iface now).keep&&(match fa (cL c t m iface now).reply.opts 51 with|some n=>decide ((cL c t m iface now).lease=⟨(cL c t m iface now).reply.yi,1,mZ now n,(oK m).1⟩)&&decide (0≤n∧n≤4294967295)&&decide (0≤now∧now≤1125899906842624)|none=>false)
 else !(cL c t m iface now).send|| !(cL c t m iface now).keep
theorem Er(c:dq)(t:List cC)(m:ee)(iface now:Int):Es c t m iface now=true:=by
 unfold Es;rcases ur (c:=c) (t:=t) (m:=m) (iface:=iface) (now:=now)with⟨u,x,hu,he⟩|he
 ·rw[he];have hout:=wk u;have e:=hu.u;have hnow:=hu.parts.2.2.1;generalize uO u=r at*
  cases hout with
  |none=>rfl
  |offer a hc hk=>
   rw[if_neg]
   ·rfl
   ·rintro⟨_,h,_⟩;have:=zx (c:=u.c) (s:=iV u.c u.s 2 a) (m:=u.m) (kind:=2) (yi:=a) rfl;simp only[gQ]at h;omega
  |rW a hm hs hk=>
   obtain⟨y,hy,hn,h0,hsu,ht⟩:=zE hm;have hk5:=zx (c:=u.c) (s:=iV u.c u.s 5 a) (m:=u.m) (kind:=5) (yi:=a) rfl;have hyi:(gQ u 5 a true (kB u a)).reply.yi=a:=rfl;have h51:fa (gQ u 5 a true (kB u a)).reply.opts 51=some y.s.time:=by
    refine J3 (v:=y.s.time) ?_ (by omega) (by omega)
    have:=(zq (c:=u.c) (s:=iV u.c u.s 5 a) (m:=u.m) (kind:=5) (yi:=a)).2 (by decide) (by omega)
    rw[hsu]at this;simp only[gQ,hsu];exact this
   rw[if_pos ⟨rfl,hk5,by rw[hyi];omega⟩,h51,hyi]
   have hl:(gQ u 5 a true (kB u a)).lease=⟨a,1,mZ now y.s.time,(oK m).1⟩:=by
    simp only[gQ,kB,hsu];rw[e]
   dsimp only;rw[hl,decide_eq_true rfl,decide_eq_true hnow,decide_eq_true (show 0≤y.s.time∧y.s.time≤4294967295 by omega)]
   rfl
  |nak hk=>
   rw[if_neg]
   ·rfl
   ·rintro⟨_,_,h⟩;exact h rfl
  |decline hm=>rfl
  |release hm=>rfl
  |inform hk hc=>
   rw[if_neg]
   ·rfl
   ·rintro⟨_,_,h⟩;exact h rfl
 ·rw[he];rfl
theorem get_of_mem{t:List cC}(ht:dk t=true){b:cC}(hb:b∈t):gq t b.addr=(b,true):=by
 obtain⟨_,_,hsrt⟩:=gy.1 ht;obtain⟨m,hm,rfl⟩:=List.mem_iff_getElem.1 hb;obtain⟨h1,h2⟩:=vQ hsrt hm rfl;unfold gq;rw[kA ht,if_pos h2,h1,List.getD_eq_getElem?_getD,List.getElem?_eq_getElem hm,Option.getD_some]
theorem vR{t:List cC}(ht:dk t=true){l:cC}(h:(gJ t l).2=0):dk (gJ t l).1=true∧c8 l=true∧ ∀b,b∈(gJ t l).1↔b=l∨(b∈t∧b.addr≠l.addr):=by
 obtain⟨h1,h2,h3⟩:=sA h;rw[kA ht]at h3;obtain⟨_,_,hsrt⟩:=gy.1 ht;refine⟨h1,h2,?_⟩;rw[h3]
 exact(uo hsrt l).2
theorem MD{c:dq}{t:List cC}{n:Int}{k:List UInt8}{now a e:Int}(h:jD c t n k now a=true)(hs:(gJ t ⟨a,1,e,k⟩).2=0):jD c (gJ t ⟨a,1,e,k⟩).1 n k now a=true:=by
 have hfn:=Kr h;obtain⟨f1,f2,f3,f4⟩:=oN hfn;obtain⟨s1,s2,s3⟩:=vR f2 hs;simp only[jD,Bool.and_eq_true,Bool.not_eq_true']at h⊢;obtain⟨⟨⟨_,h2⟩,h3⟩,h4⟩:=h;refine⟨⟨⟨?_,h2⟩,?_⟩,?_⟩
 ·simp[ke,f1,s1,f3,f4]
 ·unfold AP at h3⊢;rw[List.any_eq_false]at h3⊢;intro l hl
  rcases(s3 l).1 hl with rfl|⟨hm,_⟩
  ·simp[yG]
  ·exact h3 l hm
 ·have hg:=get_of_mem s1 ((s3 _).2 (.inl rfl));dsimp only at hg;unfold CS;rw[hg];simp[KV,pC]
theorem G3{t:List cC}{l:cC}(ht:dk t=true)(hr:c8 l=true)(hg:(gq t l.addr).2=true):(gJ t l).2=0:=by
 have hi:um t l.addr=true:=by
  unfold gq at hg;rw[kA ht]at hg
  split at hg
  ·assumption
  ·cases hg
 unfold gJ;rw[kA ht,hr,hi];simp
def Gw(c:dq)(t:List cC)(m:ee)(iface now:Int):Bool:=
 if(cL c t m iface now).keep=false then decide ((cL c t m iface now).lease=qJ)
 else if(gJ t (cL c t m iface now).lease).2≠0∨c8 (cL c t m iface now).lease=false∨dk (gJ t (cL c t m iface now).lease).1=false then false
 else if(cL c t m iface now).lease.state≠1 then(decide ((cL c t m iface now).lease.state=2) !=pC now (cL c t m iface now).lease)
 else(match gr c (cL c t m iface now).lease.addr with
  |some x=>jD c (gJ t (cL c t m iface now).lease).1 x.net (cL c t m iface now).lease.key now (cL c t m iface now).lease.addr
  |none=>false)&&(decide (now<(cL c t m iface now).lease.expiry)||decide (now=1125899906842624))
theorem Hn{c:dq}(hk:dH c=0):1≤c.probation∧c.probation≤2147483648:=by
 obtain⟨hf,_,_⟩:=iw hk;simp only[me,Bool.and_eq_true]at hf;exact of_decide_eq_true hf.1.1.1.2
theorem xf{u:eR}{a:Int}(h:oX u a=true):(gq u.t a).2=true∧(gq u.t a).1.addr=a∧(gq u.t a).1.key=u.k∧(gq u.t a).1.state=1∧u.now<(gq u.t a).1.expiry∧c8 (gq u.t a).1=true:=by
 simp only[oX,Bool.and_eq_true,decide_eq_true_eq,ir]at h;obtain⟨h1,h2⟩:=zF h.1.1;exact⟨h.1.1,h2,h.1.2,h.2.1,h.2.2,CM h1⟩
theorem H_(c:dq)(t:List cC)(m:ee)(iface now:Int):Gw c t m iface now=true:=by
 unfold Gw;rcases ur (c:=c) (t:=t) (m:=m) (iface:=iface) (now:=now)with⟨u,x,hu,he⟩|he
 ·rw[he];have hout:=wk u;obtain⟨hck,htb,hnow,_⟩:=hu.parts;have e:=hu.u;have huc:u.c=c:=by rw[e]
  have hut:u.t=t:=by rw[e]
  have huw:u.now=now:=by rw[e]
  have hun:u.net=x.net:=by rw[e]
  generalize uO u=r at*
  have ended: ∀a s un,oX u a=true→(s=2∨s=3)→(0≤un∧un≤1125899906842624)→(gJ t ⟨a,s,un,u.k⟩).2=0∧c8 ⟨a,s,un,u.k⟩=true∧dk (gJ t ⟨a,s,un,u.k⟩).1=true:=by
   intro a s un hm hs hun2;obtain⟨g1,g2,g3,g4,g5,g6⟩:=xf hm;rw[hut]at g1 g2 g3 g6;obtain⟨r1,r2,r3,r4⟩:=gV g6;have hr:c8 ⟨a,s,un,u.k⟩=true:=by
    have hra:dD a=true:=dI.2 (by rw[←g2];exact r1)
    have:mi u.k=true:=by rw[←g3];exact r4
    simp only[c8,hra,this,Bool.and_eq_true,Bool.and_true,Bool.true_and];exact⟨decide_eq_true (by omega),decide_eq_true hun2⟩
   have hs0:=G3 htb hr g1;exact⟨hs0,hr,(vR htb hs0).1⟩
  cases hout with
  |none=>rfl
  |offer a hc hk=>rfl
  |rW a hm hs hk=>
   obtain⟨y,hy,hn,h0,hsu,ht⟩:=zE hm;have hgl:kB u a=⟨a,1,mZ now y.s.time,u.k⟩:=by
    unfold kB;rw[hsu,huw]
   have hl:(gQ u 5 a true (kB u a)).lease=⟨a,1,mZ now y.s.time,u.k⟩:=hgl;have hkp:(gQ u 5 a true (kB u a)).keep=true:=rfl;rw[hgl,hut]at hs;obtain⟨s1,s2,_⟩:=vR htb hs;have hm':jD c t u.net u.k now a=true:=by rw[←huc,←hut,←huw];exact hm
   have hms:=MD hm' hs;rw[hkp,hl,if_neg (by simp),if_neg (by simp[hs,s2,s1]),if_neg (by simp)]
   dsimp only;rw[←huc,hy];dsimp only;rw[hn,huc,hms,Bool.true_and,Bool.or_eq_true,decide_eq_true_eq,decide_eq_true_eq];unfold mZ;omega
  |nak hk=>rfl
  |decline hm=>
   have hp:=Hn hck;have hun2:0≤mZ u.now u.c.probation∧mZ u.now u.c.probation≤1125899906842624:=by
    rw[huc,huw];unfold mZ;omega
   obtain⟨h1,h2,h3⟩:=ended _ 3 _ hm (.inr rfl) hun2;obtain⟨_,_,_,_,g5,g6⟩:=xf hm;have:=(gV g6).2.2.1;rw[if_neg (by simp[nC]),if_neg (by simp[nC,h1,h2,h3]),if_pos (by simp[nC])]
   have:now<mZ u.now u.c.probation:=by
    rw[huc,huw];unfold mZ;rw[huw]at g5;omega
   simp[nC,pC,this]
  |release hm=>
   obtain⟨h1,h2,h3⟩:=ended u.m.ci 2 u.now hm (.inl rfl) (by rw[huw];exact hnow)
   rw[if_neg (by simp[nC]),if_neg (by simp[nC,h1,h2,h3]),if_pos (by simp[nC])]
   simp[nC,pC]
  |inform hk hc=>rfl
 ·rw[he];rfl
end Go.Proofs.YtoilfihojgeonaaGreatDoor
