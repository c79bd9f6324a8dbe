/- What is reserved, and what lies in pools: what conf and the document's layer 13 answer. -/
import Derived.Test.YtoilfihojgeonaaGreatDoorS11
import Derived.Test.YtoilfihojgeonaaGreatDoorS09
import Derived.Test.YtoilfihojgeonaaGreatDoorS10
namespace Go.Proofs.YtoilfihojgeonaaGreatDoor
open BoEng Go
set_option maxRecDepth 100000
set_option linter.unusedSimpArgs false
set_option linter.unusedVariables false
theorem K7{α β:Type}{xs:List α}{f:α→List β}{p:β→Bool}{i j:Nat}(hi:i<xs.length)(hj:j<(f xs[i]).length)(ho:((xs.take i).flatMap f).all (fun y=> !p y)=true)(hb:((f xs[i]).take j).all (fun y=> !p y)=true)(hp:p (f xs[i])[j]=true):
 (xs.flatMap f).find? p=some (f xs[i])[j]:=by
 have e:xs.flatMap f=(xs.take i).flatMap f++((f xs[i]).take j++(f xs[i])[j]::((f xs[i]).drop (j+1)++(xs.drop (i+1)).flatMap f)):=by
  conv=>lhs;rw[←ay i xs,ai hi,bg,List.flatMap_cons]
  congr 1
  have e2:f xs[i]=(f xs[i]).take j++(f xs[i])[j]::(f xs[i]).drop (j+1):=by rw[←ai hj,ay]
  rw[←List.cons_append,←List.append_assoc,←e2]
 have none_of: ∀l:List β,l.all (fun y=> !p y)=true→l.find? p=none:=fun l h=>by
  rw[List.find?_eq_none];intro x hx;have:=List.all_eq_true.1 h x hx
  simpa using this
 rw[e,bq,none_of _ ho,bQ,bq,none_of _ hb,bQ,List.find?_cons_of_pos hp]
theorem K6{α β:Type}{xs:List α}{f:α→List β}{p:β→Bool}(ho:(xs.flatMap f).all (fun y=> !p y)=true):(xs.flatMap f).find? p=none:=by
 rw[List.find?_eq_none];intro x hx;have:=List.all_eq_true.1 ho x hx
 simpa using this
theorem tn{α β:Type}{xs:List α}{f:α→List β}{q:β→Bool}{i:Nat}(hi:i<xs.length)(ho:((xs.take i).flatMap f).all q=true)(hb:(f xs[i]).all q=true):((xs.take (i+1)).flatMap f).all q=true:=by
 rw[List.take_succ_eq_append_getElem hi,bg,b7,ho];simp only[List.flatMap_cons,List.flatMap_nil,List.append_nil,Bool.true_and];exact hb
theorem Pm{α β:Type}{xs:List α}{f:α→List β}{p:β→Bool}{i j:Nat}(hi:i<xs.length)(hj:j<(f xs[i]).length)(hp:p (f xs[i])[j]=true):(xs.flatMap f).any p=true:=by
 rw[List.any_eq_true];exact⟨(f xs[i])[j],List.mem_flatMap.2 ⟨xs[i],List.getElem_mem hi,List.getElem_mem hj⟩,hp⟩
theorem M6{α β:Type}{xs:List α}{f:α→List β}{p:β→Bool}(ho:(xs.flatMap f).all (fun y=> !p y)=true):(xs.flatMap f).any p=false:=by
 rw[aM];intro h;obtain⟨x,hx,hp⟩:=List.any_eq_true.1 h;have:=List.all_eq_true.1 ho x hx;simp[hp]at this
def yD(n:Int)(x:du):Bool:=decide ((x.net:Int)=n)
theorem yP(k:Nat): ∀(i:Nat) (l:List Sub) (x:du),x∈iM k i l→x.net=k
 |_,[],_,h=>by simp[iM]at h
 |i,s::l,x,h=>by
  simp only[iM,List.mem_cons]at h;rcases h with rfl|h
  ·rfl
  ·exact yP k (i+1) l x h
def B2(n:Int)(x:du):List rl:=if yD n x=true then x.s.res else[]
def uZ(n:Int)(x:du):List rk:=if yD n x=true then x.s.pools else[]
def L0(x:du):List rl:=x.s.res
def A5(k:List UInt8)(r:rl):Bool:=decide (r.key=k)
def vu(a:Int)(r:rl):Bool:=decide (r.addr=a)
def iN(c:dq)(n:Int)(k:List UInt8):Option Int:=(((cJ c).flatMap (B2 n)).find? (A5 k)).map rl.addr
def jc(c:dq)(a:Int):Option (List UInt8):=(((cJ c).flatMap L0).find? (vu a)).map rl.key
def qQ(c:dq)(n a:Int):Bool:=((cJ c).flatMap (uZ n)).any fun p=>zD p a
theorem rH{c:dq}(hc:dW c):(cJ c).length≤1000000:=by
 unfold cJ;split
 ·exact lv hc
 ·simp
theorem pA{c:dq}(hc:dW c){i:Nat}(hi:i<(cJ c).length):tU (cJ c)[i].s:=by
 have hm:=List.getElem_mem hi
 generalize(cJ c)[i]=x at*
 unfold cJ at hm
 split at hm
 ·obtain⟨j,hj,rfl⟩:=List.mem_iff_getElem.1 hm;exact kg hc hj
 ·simp at hm
def kfI(c:dq)(n:Int)(k:List UInt8)(i:Nat)(S:PS):Prop:=
 i≤(cJ c).length∧(((cJ c).take i).flatMap (B2 n)).all (fun r=> !A5 k r)=true∧S.t 1= .d (.int .i64 n)∧S.t 2= .d (.str k)∧S.t 13= .d (.slice ((cJ c).map du.d))∧S.t 14= .d (.int .i64 (cJ c).length)∧S.t 15= .d (.int .i64 i)
def kfJ(c:dq)(n:Int)(k:List UInt8)(x:du)(i fo g:Nat)(j:Nat)(S:PS):Prop:=
 j≤x.s.res.length∧(yD n x=true→(x.s.res.take j).all (fun r=> !A5 k r)=true)∧S.t 1= .d (.int .i64 n)∧S.t 2= .d (.str k)∧S.t 13= .d (.slice ((cJ c).map du.d))∧S.t 14= .d (.int .i64 (cJ c).length)∧S.t 15= .d (.int .i64 i)∧
  S.t 9= .ptr (fo+9) g 0∧S.fo=fo∧S.gen (fo+9)=g∧S.box (fo+9)=(cells x.d).map .d∧S.t 21= .d (.slice (x.s.res.map rl.d))∧S.t 22= .d (.int .i64 x.s.res.length)∧S.t 23= .d (.int .i64 j)
theorem vn(c:dq)(n:Int)(k:List UInt8)(hc:dW c):cD Tryz.prog 282 [.d c.d,.d (.int .i64 n),.d (.str k)] (.tup [.d (.int .i64 ((iN c n k).getD 0)),.d (.bool (iN c n k).isSome)]) (fun _=>false):=by
 refine cD.bi Tryz.func282 [20003] ?_;have hsl:=rH hc
 simp-implicitDefEqProofs (disch:=try exact dd) [cB]
 refine oc (nY c hc) ?_
 simp-implicitDefEqProofs (disch:=try exact dd) [cB]
 refine lp (kfI c n k) (fun i=>(cJ c).length-i) 0 ⟨by omega,by simp,by simp-implicitDefEqProofs (disch:=try exact dd) [cB]⟩ ?_
 rintro i S ⟨hi,ha,e1,e2,e13,e14,e15⟩;by_cases hlt:i<(cJ c).length
 ·have k6:(i:Int)<(cJ c).length:=by omega
  have hsz:=(pA hc hlt).2.1;have hstep:=fun h=>tn (f:=B2 n) (q:=fun r=> !A5 k r) hlt ha h
  have hhit:=fun j hj hb hp=>K7 (f:=B2 n) (p:=A5 k) (i:=i) (j:=j) hlt hj ha hb hp
  generalize hx:(cJ c)[i]=x at*
  simp-implicitDefEqProofs (disch:=try exact dd) [cB,e1,e2,e13,e14,e15,k6,hx]
  refine lp (kfJ c n k x i S.fo (S.gen (S.fo+9)+1)) (fun j=>x.s.res.length-j) 0 ⟨by omega,by simp,by simp-implicitDefEqProofs (disch:=try exact dd) [cB,e1,e2,e13,e14,e15]⟩ ?_
  clear e1 e2 e13 e14 e15;rintro j S1 ⟨hj,hb,e1,e2,e13,e14,e15,e9,efo,eg,eb,e21,e22,e23⟩;simp only[du.iR,eu,List.map_cons,List.map_nil]at eb;by_cases hjl:j<x.s.res.length
  ·have k7:(j:Int)<x.s.res.length:=by omega
   by_cases hnet:(x.net:Int)=n
   ·have hnp:yD n x=true:=decide_eq_true hnet;have hrn:B2 n x=x.s.res:=if_pos hnp;have hb1:=hb hnp;simp only[hrn]at hhit;by_cases hk:x.s.res[j].key=k
    ·have hz:iN c n k=some x.s.res[j].addr:=by
      unfold iN;rw[hhit j hjl hb1 (decide_eq_true hk)];rfl
     rw[hz]
     simp-implicitDefEqProofs (disch:=try exact dd) [cB,e1,e2,e13,e14,e15,e9,efo,eg,eb,e21,e22,e23,k7,hnet,hk]
    ·have hb2:=dN (p:=fun r=> !A5 k r) hjl hb1 (by simp[A5,hk])
     simp-implicitDefEqProofs (disch:=try exact dd) [cB,e1,e2,e13,e14,e15,e9,efo,eg,eb,e21,e22,e23,k7,hnet,hk]
     exact cE (j+1) ⟨by omega,fun _=>hb2,by simp-implicitDefEqProofs (disch:=try exact dd) [cB,e1,e2,e13,e14,e15,e9,efo,eg,eb,e21,e22,e23]⟩ (by omega)
   ·have hnp: ¬yD n x=true:=by simp[yD,hnet]
    simp-implicitDefEqProofs (disch:=try exact dd) [cB,e1,e2,e13,e14,e15,e9,efo,eg,eb,e21,e22,e23,k7,hnet]
    exact cE (j+1) ⟨by omega,fun h=>absurd h hnp,by simp-implicitDefEqProofs (disch:=try exact dd) [cB,e1,e2,e13,e14,e15,e9,efo,eg,eb,e21,e22,e23]⟩ (by omega)
  ·have k7: ¬(j:Int)<x.s.res.length:=by omega
   have hst:(((cJ c).take (i+1)).flatMap (B2 n)).all (fun r=> !A5 k r)=true:=by
    refine hstep ?_;unfold B2;split
    ·rename_i h;exact eO hjl (hb h)
    ·rfl
   simp-implicitDefEqProofs (disch:=try exact dd) [cB,e1,e2,e13,e14,e15,e9,efo,eg,eb,e21,e22,e23,k7]
   exact cE (i+1) ⟨by omega,hst,by simp-implicitDefEqProofs (disch:=try exact dd) [cB,e1,e2,e13,e14,e15,e9,efo,eg,eb,e21,e22,e23]⟩ (by omega)
 ·have k6: ¬(i:Int)<(cJ c).length:=by omega
  rw[List.take_of_length_le (by omega)]at ha
  have hz:iN c n k=none:=by
   unfold iN;rw[K6 (p:=A5 k) ha];rfl
  rw[hz]
  simp-implicitDefEqProofs (disch:=try exact dd) [cB,e1,e2,e13,e14,e15,k6]
def kpI(c:dq)(a:Int)(i:Nat)(S:PS):Prop:=
 i≤(cJ c).length∧(((cJ c).take i).flatMap L0).all (fun r=> !vu a r)=true∧S.t 1= .d (.int .i64 a)∧S.t 11= .d (.slice ((cJ c).map du.d))∧S.t 12= .d (.int .i64 (cJ c).length)∧S.t 13= .d (.int .i64 i)
def kpJ(c:dq)(a:Int)(x:du)(i fo g:Nat)(j:Nat)(S:PS):Prop:=
 j≤x.s.res.length∧(x.s.res.take j).all (fun r=> !vu a r)=true∧S.t 1= .d (.int .i64 a)∧S.t 11= .d (.slice ((cJ c).map du.d))∧S.t 12= .d (.int .i64 (cJ c).length)∧S.t 13= .d (.int .i64 i)∧
  S.t 7= .ptr (fo+7) g 0∧S.fo=fo∧S.gen (fo+7)=g∧S.box (fo+7)=(cells x.d).map .d∧S.t 19= .d (.slice (x.s.res.map rl.d))∧S.t 20= .d (.int .i64 x.s.res.length)∧S.t 21= .d (.int .i64 j)
theorem E3(c:dq)(a:Int)(hc:dW c):cD Tryz.prog 285 [.d c.d,.d (.int .i64 a)] (.tup [.d (.str ((jc c a).getD [])),.d (.bool (jc c a).isSome)]) (fun _=>false):=by
 refine cD.bi Tryz.func285 [20002] ?_;have hsl:=rH hc
 simp-implicitDefEqProofs (disch:=try exact dd) [cB]
 refine oc (nY c hc) ?_
 simp-implicitDefEqProofs (disch:=try exact dd) [cB]
 refine lp (kpI c a) (fun i=>(cJ c).length-i) 0 ⟨by omega,by simp,by simp-implicitDefEqProofs (disch:=try exact dd) [cB]⟩ ?_
 rintro i S ⟨hi,ha,e1,e11,e12,e13⟩;by_cases hlt:i<(cJ c).length
 ·have k6:(i:Int)<(cJ c).length:=by omega
  have hsz:=(pA hc hlt).2.1;have hstep:=fun h=>tn (f:=L0) (q:=fun r=> !vu a r) hlt ha h
  have hhit:=fun j hj hb hp=>K7 (f:=L0) (p:=vu a) (i:=i) (j:=j) hlt hj ha hb hp
  generalize hx:(cJ c)[i]=x at*
  simp-implicitDefEqProofs (disch:=try exact dd) [cB,e1,e11,e12,e13,k6,hx]
  refine lp (kpJ c a x i S.fo (S.gen (S.fo+7)+1)) (fun j=>x.s.res.length-j) 0 ⟨by omega,by simp,by simp-implicitDefEqProofs (disch:=try exact dd) [cB,e1,e11,e12,e13]⟩ ?_
  clear e1 e11 e12 e13;rintro j S1 ⟨hj,hb,e1,e11,e12,e13,e7,efo,eg,eb,e19,e20,e21⟩;simp only[du.iR,eu,List.map_cons,List.map_nil]at eb;by_cases hjl:j<x.s.res.length
  ·have k7:(j:Int)<x.s.res.length:=by omega
   by_cases hk:x.s.res[j].addr=a
   ·have hz:jc c a=some x.s.res[j].key:=by
     unfold jc;rw[hhit j hjl hb (decide_eq_true hk)];rfl
    rw[hz]
    simp-implicitDefEqProofs (disch:=try exact dd) [cB,e1,e11,e12,e13,e7,efo,eg,eb,e19,e20,e21,k7,hk]
   ·have hb2:=dN (p:=fun r=> !vu a r) hjl hb (by simp[vu,hk])
    simp-implicitDefEqProofs (disch:=try exact dd) [cB,e1,e11,e12,e13,e7,efo,eg,eb,e19,e20,e21,k7,hk]
    exact cE (j+1) ⟨by omega,hb2,by simp-implicitDefEqProofs (disch:=try exact dd) [cB,e1,e11,e12,e13,e7,efo,eg,eb,e19,e20,e21]⟩ (by omega)
  ·have k7: ¬(j:Int)<x.s.res.length:=by omega
   have hst:=hstep (eO hjl hb)
   simp-implicitDefEqProofs (disch:=try exact dd) [cB,e1,e11,e12,e13,e7,efo,eg,eb,e19,e20,e21,k7]
   exact cE (i+1) ⟨by omega,hst,by simp-implicitDefEqProofs (disch:=try exact dd) [cB,e1,e11,e12,e13,e7,efo,eg,eb,e19,e20,e21]⟩ (by omega)
 ·have k6: ¬(i:Int)<(cJ c).length:=by omega
  rw[List.take_of_length_le (by omega)]at ha
  have hz:jc c a=none:=by
   unfold jc;rw[K6 (p:=vu a) ha];rfl
  rw[hz]
  simp-implicitDefEqProofs (disch:=try exact dd) [cB,e1,e11,e12,e13,k6]
def ipI(c:dq)(n a:Int)(i:Nat)(S:PS):Prop:=
 i≤(cJ c).length∧(((cJ c).take i).flatMap (uZ n)).all (fun p=> !zD p a)=true∧S.t 1= .d (.int .i64 n)∧S.t 2= .d (.int .i64 a)∧S.t 12= .d (.slice ((cJ c).map du.d))∧S.t 13= .d (.int .i64 (cJ c).length)∧S.t 14= .d (.int .i64 i)
def ipJ(c:dq)(n a:Int)(x:du)(i fo g:Nat)(j:Nat)(S:PS):Prop:=
 j≤x.s.pools.length∧(yD n x=true→(x.s.pools.take j).all (fun p=> !zD p a)=true)∧S.t 1= .d (.int .i64 n)∧S.t 2= .d (.int .i64 a)∧S.t 12= .d (.slice ((cJ c).map du.d))∧S.t 13= .d (.int .i64 (cJ c).length)∧S.t 14= .d (.int .i64 i)∧
  S.t 8= .ptr (fo+8) g 0∧S.fo=fo∧S.gen (fo+8)=g∧S.box (fo+8)=(cells x.d).map .d∧S.t 20= .d (.slice (x.s.pools.map rk.d))∧S.t 21= .d (.int .i64 x.s.pools.length)∧S.t 22= .d (.int .i64 j)
theorem E4(c:dq)(n a:Int)(hc:dW c):cD Tryz.prog 286 [.d c.d,.d (.int .i64 n),.d (.int .i64 a)] (.d (.bool (qQ c n a))) (fun _=>false):=by
 refine cD.bi Tryz.func286 [20003] ?_;have hsl:=rH hc
 simp-implicitDefEqProofs (disch:=try exact dd) [cB]
 refine oc (nY c hc) ?_
 simp-implicitDefEqProofs (disch:=try exact dd) [cB]
 refine lp (ipI c n a) (fun i=>(cJ c).length-i) 0 ⟨by omega,by simp,by simp-implicitDefEqProofs (disch:=try exact dd) [cB]⟩ ?_
 rintro i S ⟨hi,ha,e1,e2,e12,e13,e14⟩;by_cases hlt:i<(cJ c).length
 ·have k6:(i:Int)<(cJ c).length:=by omega
  have hsz:=(pA hc hlt).1;have hstep:=fun h=>tn (f:=uZ n) (q:=fun p=> !zD p a) hlt ha h
  have hhit:=fun j hj hp=>Pm (f:=uZ n) (p:=fun p=>zD p a) (i:=i) (j:=j) hlt hj hp
  generalize hx:(cJ c)[i]=x at*
  simp-implicitDefEqProofs (disch:=try exact dd) [cB,e1,e2,e12,e13,e14,k6,hx]
  refine lp (ipJ c n a x i S.fo (S.gen (S.fo+8)+1)) (fun j=>x.s.pools.length-j) 0 ⟨by omega,by simp,by simp-implicitDefEqProofs (disch:=try exact dd) [cB,e1,e2,e12,e13,e14]⟩ ?_
  clear e1 e2 e12 e13 e14;rintro j S1 ⟨hj,hb,e1,e2,e12,e13,e14,e8,efo,eg,eb,e20,e21,e22⟩;simp only[du.iR,eu,List.map_cons,List.map_nil]at eb;by_cases hjl:j<x.s.pools.length
  ·have k7:(j:Int)<x.s.pools.length:=by omega
   by_cases hnet:(x.net:Int)=n
   ·have hnp:yD n x=true:=decide_eq_true hnet;have hrn:uZ n x=x.s.pools:=if_pos hnp;have hb1:=hb hnp;simp only[hrn]at hhit;have q:=v_ x.s.pools[j] a
    cases hk:zD x.s.pools[j] a with
    |true=>
     have hz:qQ c n a=true:=hhit j hjl hk;rw[hk]at q;rw[hz]
     simp-implicitDefEqProofs (disch:=try exact dd) [cB,e1,e2,e12,e13,e14,e8,efo,eg,eb,e20,e21,e22,k7,hnet]
     refine oc q ?_
     simp-implicitDefEqProofs (disch:=try exact dd) [cB,e1,e2,e12,e13,e14,e8,efo,eg,eb,e20,e21,e22,k7,hnet]
    |false=>
     rw[hk]at q;have hb2:=dN (p:=fun p=> !zD p a) hjl hb1 (by simp[hk])
     simp-implicitDefEqProofs (disch:=try exact dd) [cB,e1,e2,e12,e13,e14,e8,efo,eg,eb,e20,e21,e22,k7,hnet]
     refine oc q ?_
     simp-implicitDefEqProofs (disch:=try exact dd) [cB,e1,e2,e12,e13,e14,e8,efo,eg,eb,e20,e21,e22,k7,hnet]
     exact cE (j+1) ⟨by omega,fun _=>hb2,by simp-implicitDefEqProofs (disch:=try exact dd) [cB,e1,e2,e12,e13,e14,e8,efo,eg,eb,e20,e21,e22]⟩ (by omega)
   ·have hnp: ¬yD n x=true:=by simp[yD,hnet]
    simp-implicitDefEqProofs (disch:=try exact dd) [cB,e1,e2,e12,e13,e14,e8,efo,eg,eb,e20,e21,e22,k7,hnet]
    exact cE (j+1) ⟨by omega,fun h=>absurd h hnp,by simp-implicitDefEqProofs (disch:=try exact dd) [cB,e1,e2,e12,e13,e14,e8,efo,eg,eb,e20,e21,e22]⟩ (by omega)
  ·have k7: ¬(j:Int)<x.s.pools.length:=by omega
   have hst:(((cJ c).take (i+1)).flatMap (uZ n)).all (fun p=> !zD p a)=true:=by
    refine hstep ?_;unfold uZ;split
    ·rename_i h;exact eO hjl (hb h)
    ·rfl
   simp-implicitDefEqProofs (disch:=try exact dd) [cB,e1,e2,e12,e13,e14,e8,efo,eg,eb,e20,e21,e22,k7]
   exact cE (i+1) ⟨by omega,hst,by simp-implicitDefEqProofs (disch:=try exact dd) [cB,e1,e2,e12,e13,e14,e8,efo,eg,eb,e20,e21,e22]⟩ (by omega)
 ·have k6: ¬(i:Int)<(cJ c).length:=by omega
  rw[List.take_of_length_le (by omega)]at ha
  have hz:qQ c n a=false:=M6 (p:=fun p=>zD p a) ha
  rw[hz]
  simp-implicitDefEqProofs (disch:=try exact dd) [cB,e1,e2,e12,e13,e14,k6]
def ir(now:Int)(l:cC):Bool:=decide (l.state=1)&&decide (now<l.expiry)
def pC(now:Int)(l:cC):Bool:=decide (l.state=3)&&decide (now<l.expiry)
def Dm(k:List UInt8)(l:cC):Bool:=decide (l.key=k)
def D8(t:List cC)(k:List UInt8):List cC:=(fI t).filter (Dm k)
def KV(l:cC)(k:List UInt8)(now:Int):Bool:= !pC now l&&(!ir now l||decide (l.key=k))
def CS(t:List cC)(a:Int)(k:List UInt8)(now:Int):Bool:= !(gq t a).2||KV (gq t a).1 k now
theorem zF{t:List cC}{a:Int}(h:(gq t a).2=true):(gq t a).1∈fI t∧(gq t a).1.addr=a:=by
 by_cases hc:um (fI t) a=true
 ·obtain⟨hp,he⟩:=qP hc;unfold gq;rw[if_pos hc];dsimp only;rw[List.getD_eq_getElem?_getD,List.getElem?_eq_getElem hp];exact⟨List.getElem_mem hp,he⟩
 ·unfold gq at h;rw[if_neg hc]at h
  cases h
theorem CM{t:List cC}{l:cC}(h:l∈fI t):c8 l=true:=(gy.1 (jZ t)).2.1 l h
def CJ(c:dq)(n a:Int):Bool:=match gr c a with|some x=>decide ((x.net:Int)=n)|none=>false
def ke(c:dq)(t:List cC)(n:Int)(k:List UInt8):Bool:=decide (dH c=0)&&dk t&&mi k&&decide (0≤n∧n<c.nets.length)
def yG(c:dq)(n a now:Int)(l:cC):Bool:= !decide (l.addr=a)&&ir now l&&CJ c n l.addr
def AP(c:dq)(t:List cC)(n:Int)(k:List UInt8)(a now:Int):Bool:=t.any fun l=>Dm k l&&yG c n a now l
def OR(c:dq)(a:Int)(k:List UInt8):Bool:=match jc c a with|some p=>decide (p=k)|none=>true
def AI(c:dq)(n:Int)(k:List UInt8)(a:Int):Bool:=decide (iN c n k=some a)||(qQ c n a&&OR c a k)
def jD(c:dq)(t:List cC)(n:Int)(k:List UInt8)(now a:Int):Bool:=ke c t n k&&AI c n k a&& !AP c t n k a now&&CS t a k now
def NY(c:dq)(n:Int)(k:List UInt8)(now:Int)(l:cC):Bool:=Dm k l&&(CJ c n l.addr&&ir now l)
def RO(c:dq)(n:Int)(k:List UInt8)(now:Int)(l:cC):Bool:=Dm k l&&(CJ c n l.addr&& !ir now l)
def KN(c:dq)(t:List cC)(n:Int)(k:List UInt8)(now:Int):List Int:=(t.filter (NY c n k now)).map cC.addr
def OU(c:dq)(t:List cC)(n:Int)(k:List UInt8)(now:Int):List Int:=(t.filter (RO c n k now)).map cC.addr
def lQ(p:rk):List Int:=(List.range (p.last-p.first+1).toNat).map fun(i:Nat)=>p.first+(i:Int)
def GX(s:Sub):List Int:=s.pools.flatMap lQ
def PN(c:dq)(n:Int):List Int:=match c.nets[n.toNat]? with|some x=>x.subs.flatMap GX|none=> []
def tA(H O:List Int)(kp:Option Int)(want:Int)(A:List Int)(p:Int→Bool):Option Int:=
 if H≠ []then H.find? p else((kp.toList++O++ [want]).find? p).or (A.find? p)
def lk(c:dq)(t:List cC)(n:Int)(k:List UInt8)(want now:Int):Option Int:=
 if ke c t n k=false then none else tA (KN c t n k now) (OU c t n k now) (iN c n k) want (PN c n) (jD c t n k now)
theorem ot(l:cC)(now:Int):cD Tryz.prog 280 [.d l.d,.d (.int .i64 now)] (.d (.bool (ir now l))) (fun _=>false):=by
 refine cD.bi Tryz.func280 [20002] ?_;unfold ir;by_cases h1:l.state=1
 ·simp-implicitDefEqProofs (disch:=try exact dd) [cB,cC.d,h1]
 ·simp-implicitDefEqProofs (disch:=try exact dd) [cB,cC.d,h1]
theorem Dw(l:cC)(now:Int):cD Tryz.prog 321 [.d l.d,.d (.int .i64 now)] (.d (.bool (pC now l))) (fun _=>false):=by
 refine cD.bi Tryz.func321 [20002] ?_;unfold pC;by_cases h1:l.state=3
 ·simp-implicitDefEqProofs (disch:=try exact dd) [cB,cC.d,h1]
 ·simp-implicitDefEqProofs (disch:=try exact dd) [cB,cC.d,h1]
theorem wo(t:List cC)(a:Int)(ht:t.length≤1000000)(hk: ∀l∈t,l.key.length≤9223372036854775807):cD Tryz.prog 210 [.d (.slice (t.map cC.d)),.d (.int .i64 a)] (.tup [.d (gq t a).1.d,.d (.bool (gq t a).2)]) (fun _=>false):=by
 refine cD.bi Tryz.func210 [] ?_;have q1:=yN t ht hk;obtain⟨h64,_,hsrt⟩:=gy.1 (jZ t);have q2:=Dx (fI t) a (by omega) hsrt
 unfold gq;generalize fI t=g at*
 cases hia:um g a with
 |false=>
  rw[hia]at q2;rw[if_neg (by decide)]
  simp-implicitDefEqProofs (disch:=try exact dd) [cB]
  refine oc q1 ?_
  simp-implicitDefEqProofs (disch:=try exact dd) [cB]
  refine oc q2 ?_
  simp-implicitDefEqProofs (disch:=try exact dd) [cB,cC.d]
 |true=>
  rw[hia]at q2;obtain⟨hp,_⟩:=qP hia;have hgd:g.getD (dZ g a) default=g[dZ g a]:=by rw[List.getD_eq_getElem?_getD,List.getElem?_eq_getElem hp,Option.getD_some]
  rw[if_pos rfl,hgd];have hn:nth g (dZ g a:Int)=g[dZ g a]:=dB hp;have k6:(dZ g a:Int)<g.length:=by omega
  generalize g[dZ g a]=x at*
  generalize dZ g a=p at*
  simp-implicitDefEqProofs (disch:=try exact dd) [cB]
  refine oc q1 ?_
  simp-implicitDefEqProofs (disch:=try exact dd) [cB]
  refine oc q2 ?_
  simp-implicitDefEqProofs (disch:=try exact dd) [cB,k6,hn,cC.d]
theorem GU(t:List cC)(a:Int)(k:List UInt8)(now:Int)(ht:t.length≤1000000)(hk: ∀l∈t,l.key.length≤9223372036854775807):cD Tryz.prog 287 [.d (.slice (t.map cC.d)),.d (.int .i64 a),.d (.str k),.d (.int .i64 now)] (.d (.bool (CS t a k now))) (fun _=>false):=by
 refine cD.bi Tryz.func287 [] ?_;have q1:=wo t a ht hk;unfold CS KV;generalize gq t a=g at*
 obtain⟨l,b⟩:=g;have q2:=Dw l now;have q3:=ot l now;dsimp only at q1⊢
 cases b with
 |false=>
  simp-implicitDefEqProofs (disch:=try exact dd) [cB,cC.d]
  refine oc q1 ?_
  simp-implicitDefEqProofs (disch:=try exact dd) [cB,cC.d]
 |true=>
  cases hr:pC now l with
  |true=>
   rw[hr]at q2
   simp-implicitDefEqProofs (disch:=try exact dd) [cB,cC.d]
   refine oc q1 ?_
   simp-implicitDefEqProofs (disch:=try exact dd) [cB,cC.d]
   refine oc q2 ?_
   simp-implicitDefEqProofs (disch:=try exact dd) [cB,cC.d]
  |false=>
   rw[hr]at q2
   cases hh:ir now l with
   |true=>
    rw[hh]at q3
    simp-implicitDefEqProofs (disch:=try exact dd) [cB,cC.d]
    refine oc q1 ?_
    simp-implicitDefEqProofs (disch:=try exact dd) [cB,cC.d]
    refine oc q2 ?_
    simp-implicitDefEqProofs (disch:=try exact dd) [cB,cC.d]
    refine oc q3 ?_
    simp-implicitDefEqProofs (disch:=try exact dd) [cB,cC.d]
   |false=>
    rw[hh]at q3
    simp-implicitDefEqProofs (disch:=try exact dd) [cB,cC.d]
    refine oc q1 ?_
    simp-implicitDefEqProofs (disch:=try exact dd) [cB,cC.d]
    refine oc q2 ?_
    simp-implicitDefEqProofs (disch:=try exact dd) [cB,cC.d]
    refine oc q3 ?_
    simp-implicitDefEqProofs (disch:=try exact dd) [cB,cC.d]
def toI(g:List cC)(k:List UInt8)(i:Nat)(S:PS):Prop:=
 i≤g.length∧S.t 1= .d (.str k)∧S.t 5= .d (.slice (((g.take i).filter (Dm k)).map cC.d))∧S.own (.t 5 0)=true∧S.t 9= .d (.slice (g.map cC.d))∧S.t 10= .d (.int .i64 g.length)∧S.t 11= .d (.int .i64 i)
theorem FG(t:List cC)(k:List UInt8)(ht:t.length≤1000000)(hk: ∀l∈t,l.key.length≤9223372036854775807):cD Tryz.prog 278 [.d (.slice (t.map cC.d)),.d (.str k)] (.d (.slice ((D8 t k).map cC.d))) (fun _=>false):=by
 refine cD.bi Tryz.func278 [19] ?_;have q1:=yN t ht hk;obtain⟨h64,_,_⟩:=gy.1 (jZ t);unfold D8;generalize fI t=g at*
 simp-implicitDefEqProofs (disch:=try exact dd) [cB]
 refine oc q1 ?_
 simp-implicitDefEqProofs (disch:=try exact dd) [cB]
 refine lp (toI g k) (fun i=>g.length-i) 0 ⟨by omega,by simp,by simp,by simp,by simp,by simp,by simp⟩ ?_
 rintro i S ⟨hi,e1,e5,o5,e9,e10,e11⟩;by_cases hlt:i<g.length
 ·have k6:(i:Int)<g.length:=by omega
  have hn:nth g (i:Int)=g[i]:=dB hlt;have hti:g.take (i+1)=g.take i++ [g[i]]:=List.take_succ_eq_append_getElem hlt;have hfl:=List.length_filter_le (Dm k) (g.take i);simp only[List.length_take]at hfl;have hst:(g.take (i+1)).filter (Dm k)=(g.take i).filter (Dm k)++(if Dm k g[i]=true then[g[i]]else[]):=by
   rw[hti,List.filter_append];by_cases h:Dm k g[i]=true<;>simp[h]
  clear hti
  generalize(g.take i).filter (Dm k)=F at*
  by_cases h:g[i].key=k
  ·rw[if_pos (show Dm k g[i]=true from decide_eq_true h)]at hst
   generalize g[i]=x at*
   simp-implicitDefEqProofs (disch:=try exact dd) [cB,e1,e5,o5,e9,e10,e11,k6,hn,h]
   exact cE (i+1) (by refine⟨by omega,?_,by rw[hst];simp-implicitDefEqProofs (disch:=try exact dd) [cB,e5,cC.d,h],?_,?_,?_,?_⟩<;>simp-implicitDefEqProofs (disch:=try exact dd) [cB,e1,o5,e9,e10]) (by omega)
  ·rw[if_neg (show¬Dm k g[i]=true by simp[Dm,h]),List.append_nil]at hst
   generalize g[i]=x at*
   simp-implicitDefEqProofs (disch:=try exact dd) [cB,e1,e5,o5,e9,e10,e11,k6,hn,h]
   exact cE (i+1) (by refine⟨by omega,?_,by rw[hst];simp-implicitDefEqProofs (disch:=try exact dd) [cB,e5],?_,?_,?_,?_⟩<;>simp-implicitDefEqProofs (disch:=try exact dd) [cB,e1,o5,e9,e10]) (by omega)
 ·have k6: ¬(i:Int)<g.length:=by omega
  rw[List.take_of_length_le (by omega)]at e5
  simp-implicitDefEqProofs (disch:=try exact dd) [cB,e1,e5,o5,e9,e10,e11,k6]
theorem GL(c:dq)(n a:Int)(hc:dW c):cD Tryz.prog 279 [.d c.d,.d (.int .i64 n),.d (.int .i64 a)] (.d (.bool (CJ c n a))) (fun _=>false):=by
 refine cD.bi Tryz.func279 [20003] ?_;have q:=qg c a hc;unfold CJ
 cases h:gr c a with
 |none=>
  rw[h,jF]at q
  simp-implicitDefEqProofs (disch:=try exact dd) [cB]
  refine oc q ?_
  simp-implicitDefEqProofs (disch:=try exact dd) [cB]
 |some x=>
  rw[h,iu]at q
  simp-implicitDefEqProofs (disch:=try exact dd) [cB]
  refine oc q ?_
  simp-implicitDefEqProofs (disch:=try exact dd) [cB]
theorem Ad(c:dq)(t:List cC)(n:Int)(k:List UInt8)(hc:dW c)(ht:t.length≤1000000)(hk: ∀l∈t,l.key.length≤9223372036854775807)(hkk:k.length≤9223372036854775807):
 cD Tryz.prog 276 [.d c.d,.d (.slice (t.map cC.d)),.d (.int .i64 n),.d (.str k)] (.d (.bool (ke c t n k))) (fun _=>false):=by
 refine cD.bi Tryz.func276 [20004] ?_;have hl1:=hc.1;have q1:=nZ c hc;have q2:=jP t ht hk;have q3:=s5 k hkk;unfold ke;by_cases h1:dH c=0
 ·rw[h1]at q1
  cases h2:dk t with
  |false=>
   rw[h2]at q2
   simp-implicitDefEqProofs (disch:=try exact dd) [cB]
   refine oc q1 ?_
   simp-implicitDefEqProofs (disch:=try exact dd) [cB,h1]
   refine oc q2 ?_
   simp-implicitDefEqProofs (disch:=try exact dd) [cB,h1]
  |true=>
   rw[h2]at q2
   cases h3:mi k with
   |false=>
    rw[h3]at q3
    simp-implicitDefEqProofs (disch:=try exact dd) [cB]
    refine oc q1 ?_
    simp-implicitDefEqProofs (disch:=try exact dd) [cB,h1]
    refine oc q2 ?_
    simp-implicitDefEqProofs (disch:=try exact dd) [cB,h1]
    refine oc q3 ?_
    simp-implicitDefEqProofs (disch:=try exact dd) [cB,h1]
   |true=>
    rw[h3]at q3;by_cases h4:0≤n
    ·simp-implicitDefEqProofs (disch:=try exact dd) [cB]
     refine oc q1 ?_
     simp-implicitDefEqProofs (disch:=try exact dd) [cB,h1]
     refine oc q2 ?_
     simp-implicitDefEqProofs (disch:=try exact dd) [cB,h1]
     refine oc q3 ?_
     simp-implicitDefEqProofs (disch:=try exact dd) [cB,h1,h4]
    ·simp-implicitDefEqProofs (disch:=try exact dd) [cB]
     refine oc q1 ?_
     simp-implicitDefEqProofs (disch:=try exact dd) [cB,h1]
     refine oc q2 ?_
     simp-implicitDefEqProofs (disch:=try exact dd) [cB,h1]
     refine oc q3 ?_
     simp-implicitDefEqProofs (disch:=try exact dd) [cB,h1,h4]
 ·simp-implicitDefEqProofs (disch:=try exact dd) [cB]
  refine oc q1 ?_
  simp-implicitDefEqProofs (disch:=try exact dd) [cB,h1]
structure S_(t:List cC):Prop where
 l:t.length≤1000000
 k: ∀l∈t,l.key.length≤9223372036854775807
theorem oN{c:dq}{t:List cC}{n:Int}{k:List UInt8}(h:ke c t n k=true):dH c=0∧dk t=true∧mi k=true∧0≤n∧n<c.nets.length:=by
 simp only[ke,Bool.and_eq_true,decide_eq_true_eq]at h;exact⟨h.1.1.1,h.1.1.2,h.1.2,h.2⟩
theorem JN{c:dq}{t:List cC}{n:Int}{k:List UInt8}{a now:Int}(h:dk t=true):AP c t n k a now=(D8 t k).any (yG c n a now):=by
 unfold AP D8;rw[kA h,List.any_filter]
def amI(c:dq)(t L:List cC)(n:Int)(k:List UInt8)(a now:Int)(i:Nat)(S:PS):Prop:=
 i≤L.length∧(L.take i).all (fun l=> !yG c n a now l)=true∧S.t 1= .d (.slice (t.map cC.d))∧S.t 2= .d (.int .i64 n)∧S.t 3= .d (.str k)∧S.t 4= .d (.int .i64 a)∧S.t 5= .d (.int .i64 now)∧S.t 6= .cptr (cells c.d)∧
 S.t 61= .d (.slice (L.map cC.d))∧S.t 62= .d (.int .i64 L.length)∧S.t 63= .d (.int .i64 i)
set_option maxHeartbeats 8000000 in
theorem Dj(c:dq)(t:List cC)(n:Int)(k:List UInt8)(a now:Int)(hc:dW c)(ht:S_ t)(hkk:k.length≤9223372036854775807):
 cD Tryz.prog 211 [.d c.d,.d (.slice (t.map cC.d)),.d (.int .i64 n),.d (.str k),.d (.int .i64 a),.d (.int .i64 now)] (.d (.bool (jD c t n k now a))) (fun _=>false):=by
 refine cD.bi Tryz.func211 [20006] ?_;have q1:=Ad c t n k hc ht.l ht.k hkk;have q2:=vn c n k hc;have q3:=E3 c a hc;have q4:=E4 c n a hc;have q5:=FG t k ht.l ht.k;have q6:=GU t a k now ht.l ht.k;have hoth:=fun h=> @JN c t n k a now h
 have hlen:(D8 t k).length≤64:=by
  have h1:=(gy.1 (jZ t)).1;have h2:=List.length_filter_le (Dm k) (fI t);unfold D8;omega
 unfold jD AI
 cases hf:ke c t n k with
 |false=>
  rw[hf]at q1
  simp-implicitDefEqProofs (disch:=try exact dd) [cB]
  refine oc q1 ?_
  simp-implicitDefEqProofs (disch:=try exact dd) [cB]
 |true=>
 rw[hf]at q1;rw[hoth (oN hf).2.1];clear hoth;generalize D8 t k=L at*
 generalize CS t a k now=fr at*
 have hkp:decide (iN c n k=some a)=((iN c n k).isSome&&decide ((iN c n k).getD 0=a)):=by
  cases iN c n k<;>simp
 have hkr:OR c a k=(!(jc c a).isSome||decide ((jc c a).getD []=k)):=by
  unfold OR
  cases jc c a<;>simp
 rw[hkp,hkr];clear hkp hkr
 generalize(iN c n k).isSome=kb at*
 generalize(iN c n k).getD 0=kv at*
 generalize(jc c a).isSome=pb at*
 generalize(jc c a).getD []=pv at*
 generalize qQ c n a=ip at*
 have hw:(kb=true∧kv=a∧k=k)∨(kb=false∧a=a∧ip=false∧k=k)∨(kb=false∧ip=true∧pb=false)∨(kb=false∧ip=true∧pb=true∧pv=k)∨(kb=false∧ip=true∧pb=true∧pv≠k)∨
  (kb=true∧kv≠a∧ip=false)∨(kb=true∧kv≠a∧ip=true∧pb=false)∨(kb=true∧kv≠a∧ip=true∧pb=true∧pv=k)∨(kb=true∧kv≠a∧ip=true∧pb=true∧pv≠k):=by
  cases kb<;>by_cases h1:kv=a<;>cases ip<;>cases pb<;>by_cases h2:pv=k<;>simp[h1,h2]
 have z1:(a=a):=rfl;rcases hw with⟨rfl,h1,h2⟩|⟨rfl,h1,rfl,h2⟩|⟨rfl,rfl,rfl⟩|⟨rfl,rfl,rfl,h1⟩|⟨rfl,rfl,rfl,h1⟩|⟨rfl,h1,rfl⟩|⟨rfl,h1,rfl,rfl⟩|⟨rfl,h1,rfl,rfl,h2⟩|⟨rfl,h1,rfl,rfl,h2⟩<;>(
  try simp only[ne_eq]at h1
  try simp only[ne_eq]at h2
  simp-implicitDefEqProofs (disch:=try exact dd) [cB, *]
  refine oc q1 ?_
  simp-implicitDefEqProofs (disch:=try exact dd) [cB, *]
  refine oc q2 ?_
  simp-implicitDefEqProofs (disch:=try exact dd) [cB, *]
  refine oc q3 ?_
  simp-implicitDefEqProofs (disch:=try exact dd) [cB, *]
  try refine oc q4 ?_
  try simp-implicitDefEqProofs (disch:=try exact dd) [cB, *]
  try refine oc q5 ?_
  try simp-implicitDefEqProofs (disch:=try exact dd) [cB, *])
 all_goals
  refine lp (amI c t L n k a now) (fun i=>L.length-i) 0 ⟨by omega,by simp,by simp,by simp,by simp,by simp,by simp,by simp,by simp,by simp,by simp⟩ ?_
  rintro i S ⟨hi,ha,e1,e2,e3,e4,e5,e6,e61,e62,e63⟩;by_cases hlt:i<L.length
  ·have k6:(i:Int)<L.length:=by omega
   have hn:nth L (i:Int)=L[i]:=dB hlt;have hbad:=gj (p:=fun l=> !yG c n a now l) hlt
   have hstep:=dN (p:=fun l=> !yG c n a now l) hlt ha
   have r1:=ot L[i] now;have r2:=GL c n L[i].addr hc;have hdef:yG c n a now L[i]=(!decide (L[i].addr=a)&&ir now L[i]&&CJ c n L[i].addr):=rfl;have hany:L.all (fun l=> !yG c n a now l)=false→L.any (yG c n a now)=true:=fun h=>by
    rw[bR]at h
    simpa using h
   rw[hdef]at hbad hstep;clear hdef;generalize CJ c n L[i].addr=ib at*
   generalize ir now L[i]=hb at*
   generalize L[i]=x at*
   by_cases hxa:x.addr=a
   ·simp-implicitDefEqProofs (disch:=try exact dd) [cB,e1,e2,e3,e4,e5,e6,e61,e62,e63,k6,hn,hxa]
    exact cE (i+1) (by refine⟨by omega,hstep (by simp[hxa]),?_,?_,?_,?_,?_,?_,?_,?_,?_⟩<;>simp-implicitDefEqProofs (disch:=try exact dd) [cB,e1,e2,e3,e4,e5,e6,e61,e62]) (by omega)
   ·cases hb with
    |false=>
     simp-implicitDefEqProofs (disch:=try exact dd) [cB,e1,e2,e3,e4,e5,e6,e61,e62,e63,k6,hn,hxa]
     refine oc r1 ?_
     simp-implicitDefEqProofs (disch:=try exact dd) [cB,e1,e2,e3,e4,e5,e6,e61,e62,e63]
     exact cE (i+1) (by refine⟨by omega,hstep (by simp),?_,?_,?_,?_,?_,?_,?_,?_,?_⟩<;>simp-implicitDefEqProofs (disch:=try exact dd) [cB,e1,e2,e3,e4,e5,e6,e61,e62]) (by omega)
    |true=>
     cases ib with
     |false=>
      simp-implicitDefEqProofs (disch:=try exact dd) [cB,e1,e2,e3,e4,e5,e6,e61,e62,e63,k6,hn,hxa]
      refine oc r1 ?_
      simp-implicitDefEqProofs (disch:=try exact dd) [cB,e1,e2,e3,e4,e5,e6,e61,e62,e63]
      refine oc r2 ?_
      simp-implicitDefEqProofs (disch:=try exact dd) [cB,e1,e2,e3,e4,e5,e6,e61,e62,e63]
      exact cE (i+1) (by refine⟨by omega,hstep (by simp),?_,?_,?_,?_,?_,?_,?_,?_,?_⟩<;>simp-implicitDefEqProofs (disch:=try exact dd) [cB,e1,e2,e3,e4,e5,e6,e61,e62]) (by omega)
     |true=>
      have hz:=hany (hbad (by simp[hxa]))
      simp-implicitDefEqProofs (disch:=try exact dd) [cB,e1,e2,e3,e4,e5,e6,e61,e62,e63,k6,hn,hxa,hz]
      refine oc r1 ?_
      simp-implicitDefEqProofs (disch:=try exact dd) [cB,e1,e2,e3,e4,e5,e6,e61,e62,e63,hz]
      refine oc r2 ?_
      simp-implicitDefEqProofs (disch:=try exact dd) [cB,e1,e2,e3,e4,e5,e6,e61,e62,e63,hz]
  ·have k6: ¬(i:Int)<L.length:=by omega
   have hz:L.any (yG c n a now)=false:=by
    have:=eO hlt ha;rw[bR]at this
    simpa using this
   simp-implicitDefEqProofs (disch:=try exact dd) [cB,e1,e2,e3,e4,e5,e6,e61,e62,e63,k6,hz]
   refine oc q6 ?_
   simp-implicitDefEqProofs (disch:=try exact dd) [cB]
def uK(m:ee)(c:Int):Bool:=(cY m.opts 55).isNone||Dt m.opts c
theorem zz{l:List cN}{c:Int}{b:List UInt8}(h: ∀o∈l,o.code≠c):CE l c b=l++ [⟨c,b⟩]:=by
 unfold CE
 congr 1
 induction l with
 |nil=>rfl
 |cons o l ih=>
  rw[List.flatMap_cons,ih fun x hx=>h x (al _ hx)]
  simp[vk,h o List.mem_cons_self]
theorem wF(m:ee)(c:Int)(hm:ez m):cD Tryz.prog 319 [.d m.d,.d (.int .i64 c)] (.d (.bool (uK m c))) (fun _=>false):=by
 refine cD.bi Tryz.func319 [20002] ?_;have q1:=j9 m.opts 55 hm.2;have q2:=Hs m.opts c hm.2;unfold uK
 cases h:cY m.opts 55 with
 |none=>
  rw[h]at q1
  repeat' (first|(simp-implicitDefEqProofs (disch:=try exact dd) [*,cB])|(refine oc (q1) ?_)|(refine oc (q2) ?_)|(refine dt ?_ ?_<;>intro hc<;>have hc2:=hc<;>(try simp only[dQ]at hc2)<;>try omega)|(refine dm ?_ ?_<;>intro hc<;>have hc2:=hc<;>(try simp only[dQ]at hc2)<;>try omega)|(refine dc (by omega) ?_)|(split<;>try omega)|omega)
 |some d=>
  rw[h]at q1
  repeat' (first|(simp-implicitDefEqProofs (disch:=try exact dd) [*,cB])|(refine oc (q1) ?_)|(refine oc (q2) ?_)|(refine dt ?_ ?_<;>intro hc<;>have hc2:=hc<;>(try simp only[dQ]at hc2)<;>try omega)|(refine dm ?_ ?_<;>intro hc<;>have hc2:=hc<;>(try simp only[dQ]at hc2)<;>try omega)|(refine dc (by omega) ?_)|(split<;>try omega)|omega)
def ou(c:dq)(net sub:Int):Option Sub:=if 0≤net∧0≤sub then(c.nets[net.toNat]?).bind fun n=>n.subs[sub.toNat]? else none
def kindOk(k:Int):Bool:=decide (k=2)||decide (k=5)||decide (k=6)
def i_(c:dq)(net sub:Int)(m:ee)(kind yi:Int):Bool:=decide (dH c=0)&&(ou c net sub).isSome&&db m&&dD yi&&kindOk kind
theorem CD{k:Int}:kindOk k=true↔k=2∨k=5∨k=6:=by simp[kindOk,or_assoc]
theorem vi{c:dq}{net sub:Int}{m:ee}{kind yi:Int}(h:i_ c net sub m kind yi=true):
 dH c=0∧ ∃(n k:Nat) (hn:n<c.nets.length) (hk:k<c.nets[n].subs.length),net=n∧sub=k∧ou c net sub=some (c.nets[n].subs[k])∧db m=true∧dD yi=true∧kindOk kind=true:=by
 simp only[i_,Bool.and_eq_true,decide_eq_true_eq]at h;obtain⟨⟨⟨⟨h1,h2⟩,h3⟩,h4⟩,h5⟩:=h;have h2':=h2;unfold ou at h2
 split at h2
 ·rename_i hz;obtain⟨n,rfl⟩:=Int.eq_ofNat_of_zero_le hz.1;obtain⟨k,rfl⟩:=Int.eq_ofNat_of_zero_le hz.2;simp only[Int.toNat_natCast]at h2;by_cases hn:n<c.nets.length
  ·rw[List.getElem?_eq_getElem hn,Option.bind_some]at h2;by_cases hk:k<c.nets[n].subs.length
   ·refine⟨h1,n,k,hn,hk,rfl,rfl,?_,h3,h4,h5⟩;unfold ou;rw[if_pos hz];simp only[Int.toNat_natCast];rw[List.getElem?_eq_getElem hn,Option.bind_some,List.getElem?_eq_getElem hk]
   ·rw[ar (by omega)]at h2
    cases h2
  ·rw[ar (by omega)]at h2
   cases h2
 ·cases h2
theorem Hc(c:dq)(net sub:Int)(m:ee)(kind yi:Int)(hc:dW c)(hm:ez m):
 cD Tryz.prog 314 [.d c.d,.d (.int .i64 net),.d (.int .i64 sub),.d m.d,.d (.int .i64 kind),.d (.int .i64 yi)] (.d (.bool (i_ c net sub m kind yi))) (fun _=>false):=by
 refine cD.bi Tryz.func314 [20006,20009] ?_;have q1:=nZ c hc;have q2:=sW m hm;have q3:=fV yi;have hl:=hc.1;by_cases h1:dH c=0
 ·by_cases h2:net<0
  ·have hz:i_ c net sub m kind yi=false:=by
    have: ¬(0≤net∧0≤sub):=by omega
    simp[i_,ou,this]
   rw[hz];rw[h1]at q1
   simp-implicitDefEqProofs (disch:=try exact dd) [cB]
   refine oc q1 ?_
   simp-implicitDefEqProofs (disch:=try exact dd) [cB,h2]
  ·obtain⟨n,rfl⟩:=Int.eq_ofNat_of_zero_le (show 0≤net by omega)
   by_cases h3:n<c.nets.length
   ·have h3': ¬(c.nets.length:Int)≤n:=by omega
    have hl2:=(hc.2 _ (List.getElem_mem h3)).1;by_cases h4:sub<0
    ·have hz:i_ c n sub m kind yi=false:=by
      have: ¬(0≤(n:Int)∧0≤sub):=by omega
      simp only[i_,ou,if_neg this];simp
     rw[hz];rw[h1]at q1
     simp-implicitDefEqProofs (disch:=try exact dd) [cB]
     refine oc q1 ?_
     simp-implicitDefEqProofs (disch:=try exact dd) [cB,h2,h3',h4]
    ·obtain⟨k,rfl⟩:=Int.eq_ofNat_of_zero_le (show 0≤sub by omega)
     by_cases h5:k<c.nets[n].subs.length
     ·have h5': ¬(c.nets[n].subs.length:Int)≤k:=by omega
      have hz:i_ c n k m kind yi=(db m&&dD yi&&kindOk kind):=by
       have:0≤(n:Int)∧0≤(k:Int):=by omega
       simp only[i_,ou,if_pos this,Int.toNat_natCast,List.getElem?_eq_getElem h3,Option.bind_some,List.getElem?_eq_getElem h5,h1];simp
      rw[hz];rw[h1]at q1;unfold kindOk
      cases hr:db m with
      |false=>
       rw[hr]at q2
       simp-implicitDefEqProofs (disch:=try exact dd) [cB]
       refine oc q1 ?_
       simp-implicitDefEqProofs (disch:=try exact dd) [cB,h2,h3',h4,h5']
       refine oc q2 ?_
       simp-implicitDefEqProofs (disch:=try exact dd) [cB]
      |true=>
       rw[hr]at q2
       simp-implicitDefEqProofs (disch:=try exact dd) [cB]
       refine oc q1 ?_
       simp-implicitDefEqProofs (disch:=try exact dd) [cB,h2,h3',h4,h5']
       refine oc q2 ?_
       simp-implicitDefEqProofs (disch:=try exact dd) [cB]
       refine oc q3 ?_
       cases dD yi with
       |false=>simp-implicitDefEqProofs (disch:=try exact dd) [cB]
       |true=>
        by_cases g1:kind=2
        ·simp-implicitDefEqProofs (disch:=try exact dd) [cB,g1]
        ·by_cases g2:kind=5
         ·simp-implicitDefEqProofs (disch:=try exact dd) [cB,g1,g2]
         ·simp-implicitDefEqProofs (disch:=try exact dd) [cB,g1,g2]
     ·have h5':(c.nets[n].subs.length:Int)≤k:=by omega
      have hz:i_ c n k m kind yi=false:=by
       simp only[i_,ou,Int.toNat_natCast,List.getElem?_eq_getElem h3,Option.bind_some,ar (show c.nets[n].subs.length≤k by omega)]
       simp
      rw[hz];rw[h1]at q1
      simp-implicitDefEqProofs (disch:=try exact dd) [cB]
      refine oc q1 ?_
      simp-implicitDefEqProofs (disch:=try exact dd) [cB,h2,h3',h4,h5']
   ·have h3':(c.nets.length:Int)≤n:=by omega
    have hz:i_ c n sub m kind yi=false:=by
     simp only[i_,ou,Int.toNat_natCast,ar (show c.nets.length≤n by omega)]
     simp
    rw[hz];rw[h1]at q1
    simp-implicitDefEqProofs (disch:=try exact dd) [cB]
    refine oc q1 ?_
    simp-implicitDefEqProofs (disch:=try exact dd) [cB,h2,h3']
 ·have hz:i_ c net sub m kind yi=false:=by simp[i_,h1]
  rw[hz]
  simp-implicitDefEqProofs (disch:=try exact dd) [cB]
  refine oc q1 ?_
  simp-implicitDefEqProofs (disch:=try exact dd) [cB,h1]
def Ax(o:ee)(c v:Int)(n:Nat):ee:= {o with opts:=o.opts++ [⟨c,di v n⟩]}
theorem pF(o:ee)(c v:Int)(n:Nat)(ho:sized o.opts)(hk:pw c v n=true)(hn: ∀x∈o.opts,x.code≠c)(nm g:Nat)(hg:0<g){fo:Nat}{gl:Nat→Nat}:
 de Tryz.prog fo gl 315 [.d (.int .i64 c),.d (.int .i64 v),.d (.int .i64 n),.ptr nm g 0] [⟨nm,g,(cells o.d).map .d,fun _=>false⟩] (.tup []) (fun _=>false) [⟨nm,g,(cells (Ax o c v n).d).map .d,fun _=>false⟩]:=by
 refine de.bi Tryz.func315 [] (by simp[cH,cS,hg]) (by simp[cH,cS,hg]) (by simp[hg]) ?_
 have q:=Mh o.opts c v n ho;rw[hk,zz hn]at q
 simp-implicitDefEqProofs (disch:=try exact dd) [cB]
 refine oc q ?_
 simp-implicitDefEqProofs (disch:=try exact dd) [cB,Ax]
def fO(m:ee)(c:Int):List cN:=match cY m.opts c with|some b=> [⟨c,b⟩]|none=> []
def Lc(o m:ee)(c:Int):ee:= {o with opts:=o.opts++fO m c}
theorem wD{m:ee}(h:db m=true){c:Int}{b:List UInt8}(hb:cY m.opts c=some b):b.length≤600:=by
 have h1:cI m.opts=true:=by
  simp only[db,Bool.and_eq_true]at h;exact h.1.2
 simp only[cI,Bool.and_eq_true,List.all_eq_true,vA,decide_eq_true_eq]at h1;unfold cY at hb;simp only[Option.map_eq_some_iff]at hb;obtain⟨o,ho,rfl⟩:=hb
 exact(h1.1.2 o (List.mem_of_find?_eq_some ho)).2
theorem EP{m:ee}{c:Int}: ∀x∈fO m c,x.code=c:=by
 unfold fO
 split<;>simp
theorem xS{m:ee}(h:db m=true){c:Int}: ∀x∈fO m c,x.data.length≤600:=by
 unfold fO;split
 ·rename_i b hb;simp only[List.mem_singleton];rintro x rfl;exact wD h hb
 ·simp
theorem Ih{m:ee}{c:Int}:(fO m c).length≤1:=by
 unfold fO
 split<;>simp
theorem y7(o m:ee)(c:Int)(ho:sized o.opts)(hm:ez m)(hr:db m=true)(hc:1≤c∧c≤254)(hn: ∀x∈o.opts,x.code≠c)(nm g:Nat)(hg:0<g){fo:Nat}{gl:Nat→Nat}:
 de Tryz.prog fo gl 317 [.d (.int .i64 c),.cptr (cells m.d),.ptr nm g 0] [⟨nm,g,(cells o.d).map .d,fun _=>false⟩] (.tup []) (fun _=>false) [⟨nm,g,(cells (Lc o m c).d).map .d,fun _=>false⟩]:=by
 refine de.bi Tryz.func317 [] (by simp[cH,cS,hg]) (by simp[cH,cS,hg]) (by simp[hg]) ?_
 have q1:=j9 m.opts c hm.2;unfold Lc fO
 cases h:cY m.opts c with
 |none=>
  rw[h]at q1
  simp-implicitDefEqProofs (disch:=try exact dd) [cB]
  refine oc q1 ?_
  simp-implicitDefEqProofs (disch:=try exact dd) [cB]
 |some b=>
  rw[h]at q1;have q2:=Cf o.opts c b ho;have hk:mW c b=true:=by simp only[mW,decide_eq_true_eq];exact⟨hc,wD hr h⟩
  rw[hk,zz hn]at q2
  simp-implicitDefEqProofs (disch:=try exact dd) [cB]
  refine oc q1 ?_
  simp-implicitDefEqProofs (disch:=try exact dd) [cB]
  refine oc q2 ?_
  simp-implicitDefEqProofs (disch:=try exact dd) [cB]
def zp(bits:Int):Int:=4294967296-eV bits
def th(m:ee)(kind:Int):Int:=if kind=6∧m.gi≠0∧m.flags<32768 then m.flags+32768 else m.flags
def yB(s:Sub)(yi:Int):List cN:=if yi=0 then[]else[⟨51,di s.time 4⟩]
def AT(s:Sub)(m:ee):List cN:=if uK m 1 then[⟨1,di (zp s.bits) 4⟩]else[]
def yC(s:Sub)(m:ee):List cN:=if s.router=0 then[]else if uK m 3 then[⟨3,di s.router 4⟩]else[]
def wS(s:Sub)(m:ee)(kind yi:Int):List cN:=if kind=6 then[]else yB s yi++AT s m++yC s m
def lS(c:dq)(s:Sub)(m:ee)(kind yi:Int):List cN:= [⟨53,di kind 1⟩,⟨54,di c.server 4⟩]++wS s m kind yi
def eI(c:dq)(s:Sub)(m:ee)(kind yi:Int):ee:=
 {op:=2,htype:=m.htype,hlen:=m.hlen,hops:=0,xid:=m.xid,secs:=0,flags:=th m kind,ci:=if kind=5 then m.ci else 0,yi:=if kind=6 then 0 else yi,si:=0,gi:=m.gi,chaddr:=m.chaddr,
  opts:=lS c s m kind yi++fO m 61++fO m 82}
def iG:ee:=⟨0,0,0,0,0,0,0,0,0,0,0,[],[]⟩
theorem zo: ∀(k i:Nat) (l:List Sub) (j:Nat) (h:j<l.length),(⟨k,i+j,l[j]⟩:du)∈iM k i l
 |k,i,s::l,0,_=>by simp[iM]
 |k,i,s::l,j+1,h=>by
  have:=zo k (i+1) l j (by simpa using h)
  simp only[iM,List.mem_cons,List.getElem_cons_succ];right
  rwa[show i+(j+1)=i+1+j by omega]
theorem rQ: ∀(k:Nat) (l:List Net) (n j:Nat) (h:n<l.length) (h2:j<l[n].subs.length),(⟨k+n,j,l[n].subs[j]⟩:du)∈gp k l
 |k,x::l,0,j,_,h2=>by
  simp only[gp,List.mem_append];left;have:=zo k 0 x.subs j (by simpa using h2)
  simpa using this
 |k,x::l,n+1,j,h,h2=>by
  simp only[gp,List.mem_append,List.getElem_cons_succ];right;have:=rQ (k+1) l n j (by simpa using h) (by simpa using h2)
  rwa[show k+(n+1)=k+1+n by omega]
theorem z_{c:dq}(h:dH c=0){n j:Nat}(h1:n<c.nets.length)(h2:j<c.nets[n].subs.length):
 dD c.server=true∧nV (c.nets[n].subs[j])=true∧mo (c.nets[n].subs[j])=true:=by
 have hm:(⟨0+n,j,c.nets[n].subs[j]⟩:du)∈cF c:=rQ 0 c.nets n j h1 h2;unfold dH at h
 split at h
 ·rename_i hf
  split at h
  ·rename_i hp;simp only[me,Bool.and_eq_true,List.all_eq_true]at hf;simp only[kc,List.all_eq_true]at hp;have k1:=hf.2 _ hm;have k2:=hp _ hm;simp only[JH,ka,Bool.and_eq_true]at k2;exact⟨hf.1.1.1.1,k1,k2.2⟩
  ·cases h
 ·cases h
theorem AM{v:Int}(h0:0≤v)(h1:v≤4294967295):ij v 4=true:=by
 simp only[ij,decide_eq_true_eq];have:(256:Int)^(4:Int).toNat=4294967296:=by decide
 omega
theorem Mf{f:Int}(h:0≤f∧f≤65535):BoEng.LI .i64 f 32768=if f<32768 then f+32768 else f:=by
 obtain⟨n,rfl⟩:=Int.eq_ofNat_of_zero_le h.1;unfold BoEng.LI;have h1:(BitVec.ofInt IntKind.i64.bits (n:Int)).toNat=n:=by
  rw[kF (by omega) (by omega)];omega
 have h2:(BitVec.ofInt IntKind.i64.bits (32768:Int)).toNat=32768:=by
  rw[kF (by omega) (by omega)];rfl
 rw[BitVec.toNat_or,h1,h2];by_cases hn:n<32768
 ·rw[if_pos (by omega),Nat.or_comm,AQ (n:=15) (by decide) (by omega),m8 (by omega)]
  omega
 ·rw[if_neg (by omega)]
  have e:n=32768|||(n-32768):=by
   rw[AQ (n:=15) (by decide) (by omega)]
   omega
  have e2:n|||32768=n:=by
   conv=>lhs;rw[e]
   rw[Nat.or_comm,←Nat.or_assoc,Nat.or_self,←e]
  rw[e2,m8 (by omega)]
def A1(s:Sub)(m:ee)(kind yi:Int)(o:ee)(S:PS):Prop:=
 S.t 4= .d (.int .i64 kind)∧S.t 5= .d (.int .i64 yi)∧S.t 9= .cptr (cells m.d)∧S.t 12= .ptr (FO+12) 1 0∧S.t 14= .ptr (FO+14) 1 0∧S.t 15= .fn 315 [.ptr (FO+14) 1 0]∧S.t 16= .fn 317 [.cptr (cells m.d),.ptr (FO+14) 1 0]∧
 S.t 17= .ptr (FO+17) 1 0∧S.fo=FO∧S.gen (FO+12)=1∧S.gen (FO+14)=1∧S.gen (FO+17)=1∧S.box (FO+12)=(cells iG.d).map .d∧S.box (FO+14)=(cells o.d).map .d∧S.box (FO+17)=(cells s.d).map .d
theorem re{l k:List cN}{c:Int}(h1: ∀x∈l,x.code≠c)(h2: ∀x∈k,x.code≠c): ∀x∈l++k,x.code≠c:=by
 intro x hx;rcases List.mem_append.1 hx with h|h
 ·exact h1 x h
 ·exact h2 x h
theorem lx{l k:List cN}(h1:sized l)(h2:sized k)(hl:l.length+k.length≤100000):sized (l++k):=by
 refine⟨by simp;omega,fun o ho=>?_⟩
 rcases List.mem_append.1 ho with h|h
 ·exact h1.2 o h
 ·exact h2.2 o h
theorem F6(s:Sub)(yi:Int):(yB s yi).length≤1∧sized (yB s yi)∧ ∀x∈yB s yi,x.code=51:=by
 unfold yB
 split<;>simp[sized]
theorem F7(s:Sub)(m:ee):(AT s m).length≤1∧sized (AT s m)∧ ∀x∈AT s m,x.code=1:=by
 unfold AT
 split<;>simp[sized]
theorem Mi(s:Sub)(m:ee):(yC s m).length≤1∧sized (yC s m)∧ ∀x∈yC s m,x.code=3:=by
 unfold yC;split
 ·simp[sized]
 ·split<;>simp[sized]
theorem M9{m:ee}(c:Int)(h:db m=true):(fO m c).length≤1∧sized (fO m c)∧ ∀x∈fO m c,x.code=c:=by
 have h1:=Ih (m:=m) (c:=c);refine⟨h1,⟨by omega,fun o ho=>?_⟩,EP⟩
 have:=xS h o ho;omega
theorem wa{l:List cN}{a b:Int}(h: ∀x∈l,x.code=a)(hab:a≠b): ∀x∈l,x.code≠b:=fun x hx=>by rw[h x hx];exact hab
theorem Mj(s:Sub)(m:ee)(kind yi:Int):(wS s m kind yi).length≤3∧sized (wS s m kind yi)∧ ∀x∈wS s m kind yi,x.code=51∨x.code=1∨x.code=3:=by
 obtain⟨a1,a2,a3⟩:=F6 s yi;obtain⟨b1,b2,b3⟩:=F7 s m;obtain⟨c1,c2,c3⟩:=Mi s m;unfold wS;split
 ·simp[sized]
 ·refine⟨by simp;omega,lx (lx a2 b2 (by omega)) c2 (by simp;omega),fun x hx=>?_⟩
  rcases List.mem_append.1 hx with h|h
  ·rcases List.mem_append.1 h with h|h
   ·exact .inl (a3 x h)
   ·exact .inr (.inl (b3 x h))
  ·exact .inr (.inr (c3 x h))
theorem Hb(c:dq)(net sub:Int)(m:ee)(kind yi:Int)(hc:dW c)(hm:ez m){s:Sub}(hf:i_ c net sub m kind yi=true)(hs:ou c net sub=some s):
 cD Tryz.prog 283 [.d c.d,.d (.int .i64 net),.d (.int .i64 sub),.d m.d,.d (.int .i64 kind),.d (.int .i64 yi)] (.tup [.d (eI c s m kind yi).d,.d (.int .i64 0)]) (fun _=>false):=by
 refine cD.bi Tryz.func283 [20006,20009,40049,40053,40078,40089,40100,40107,40109,50029,50030,50031,50032,50033,50034,50035,50036,50038,50039,50041,50042] ?_;have q:=Hc c net sub m kind yi hc hm;rw[hf]at q;obtain⟨hck,n,k,hn,hk,rfl,rfl,hs2,hr,hyi,hkd⟩:=vi hf;rw[hs]at hs2
 cases hs2
 have hn':(n:Int)<c.nets.length:=by omega
 have hk':(k:Int)<c.nets[n].subs.length:=by omega
 obtain⟨hsv,hfs,hro⟩:=z_ hck hn hk;have hkd:=CD.1 hkd;have hsv:=dI.1 hsv;have hyi:=dI.1 hyi;have hso:=hc.1;have hfl:0≤m.flags∧m.flags≤65535:=by
  simp only[db,Bool.and_eq_true,decide_eq_true_eq]at hr;exact hr.1.1.1.1.1.1.1.2
 have hch:m.chaddr.length=16:=by
  simp only[db,Bool.and_eq_true,decide_eq_true_eq]at hr;exact hr.1.1.2
 have hno:=(hc.2 _ (List.getElem_mem hn)).1;generalize hx:c.nets[n].subs[k]=s at*
 simp only[nV,Bool.and_eq_true,decide_eq_true_eq]at hfs;obtain⟨⟨⟨⟨⟨⟨⟨f1,f2⟩,_⟩,_⟩,_⟩,f3⟩,_⟩,_⟩:=hfs;have hsz:=sy (show 0≤s.bits by omega)
 have hsp:=jk s.bits;have hrt:s.router≠0→0≤s.router∧s.router≤4294967295:=by
  intro h;simp only[mo,Bool.or_eq_true,decide_eq_true_eq,mb]at hro;rcases hro with h1|h1
  ·exact absurd h1 h
  ·exact h1.2.1
 obtain⟨o0,ho0⟩: ∃o0:ee,o0=⟨2,m.htype,m.hlen,0,m.xid,0,m.flags,0,yi,0,m.gi,m.chaddr,[]⟩:=⟨_,rfl⟩;have z1:=fun gl=>pF o0 53 kind 1 (by simp[sized,ho0]) (by rcases hkd with h|h|h<;>subst h<;>rfl) (by simp[ho0]) (FO+14) 1 (by omega) (fo:=FO+1000) (gl:=gl)
 have z2:=fun gl=>pF (Ax o0 53 kind 1) 54 c.server 4 (by simp[sized,ho0,Ax]) (by simp[pw,AM hsv.1 hsv.2]) (by simp[ho0,Ax]) (FO+14) 1 (by omega) (fo:=FO+1000) (gl:=gl)
 simp-implicitDefEqProofs (disch:=try exact dd) [cB]
 refine oc q ?_
 simp-implicitDefEqProofs (disch:=try exact dd) [cB]
 refine dx (FO+1000) rfl rfl (z1 _) rfl (by simp-implicitDefEqProofs (disch:=try exact dd) [cB,ho0]) ?_
 simp-implicitDefEqProofs (disch:=try exact dd) [cB,Ax,ho0]
 refine dx (FO+1000) rfl rfl (z2 _) rfl (by simp-implicitDefEqProofs (disch:=try exact dd) [cB,ho0,Ax]) ?_
 simp-implicitDefEqProofs (disch:=try exact dd) [cB,Ax,ho0,hx]
 clear z1 z2 ho0 o0;refine qh (A1 s m kind yi {eI c s m kind yi with ci:=0,opts:=lS c s m kind yi}) ?_ ?_ ?_
 ·intro h6;simp only[decide_eq_true_eq]at h6;subst h6;by_cases hg:m.gi=0
  ·simp-implicitDefEqProofs (disch:=try exact dd) [cB,hg,A1,eI,th,lS,wS,iG]
  ·have ho:=Mf hfl;by_cases hb:m.flags<32768
   ·rw[if_pos hb]at ho
    simp-implicitDefEqProofs (disch:=try exact dd) [cB,hg,A1,eI,th,lS,wS,iG,hb,ho]
   ·rw[if_neg hb]at ho
    simp-implicitDefEqProofs (disch:=try exact dd) [cB,hg,A1,eI,th,lS,wS,iG,hb,ho]
 ·intro h6;simp only[aQ]at h6;obtain⟨B,hB⟩: ∃B:List cN,B= [⟨53,di kind 1⟩,⟨54,di c.server 4⟩]:=⟨_,rfl⟩;have hBs:B.length=2∧sized B∧ ∀x∈B,x.code=53∨x.code=54:=by subst hB;simp[sized]
  have hBm:B.map cN.d= [cN.d ⟨53,di kind 1⟩,cN.d ⟨54,di c.server 4⟩]:=by subst hB;rfl
  obtain⟨M,hM⟩: ∃M:List cN→ee,M=fun l=>⟨2,m.htype,m.hlen,0,m.xid,0,m.flags,0,yi,0,m.gi,m.chaddr,l⟩:=⟨_,rfl⟩
  have hMo: ∀l,(M l).opts=l:=fun l=>by rw[hM]
  have hMs: ∀l c v n,Ax (M l) c v n=M (l++ [⟨c,di v n⟩]):=fun l c v n=>by rw[hM];rfl
  have hMd: ∀l,(M l).d=(⟨2,m.htype,m.hlen,0,m.xid,0,m.flags,0,yi,0,m.gi,m.chaddr,l⟩:ee).d:=fun l=>by rw[hM]
  obtain⟨t1,t2,t3⟩:=F6 s yi;obtain⟨r1,r2,r3⟩:=F7 s m;obtain⟨L1,hL1⟩: ∃L,L=B++yB s yi:=⟨_,rfl⟩;obtain⟨L2,hL2⟩: ∃L,L=L1++AT s m:=⟨_,rfl⟩;obtain⟨L3,hL3⟩: ∃L,L=L2++yC s m:=⟨_,rfl⟩;have hfin:({eI c s m kind yi with ci:=0,opts:=lS c s m kind yi}:ee)=M L3:=by
   rw[hM,hL3,hL2,hL1,hB];simp[eI,th,lS,wS,h6]
  rw[hfin];have w0:sized B∧(∀x∈B,x.code≠51):=⟨hBs.2.1,fun x hx=>by rcases hBs.2.2 x hx with h|h<;>omega⟩
  have w1:L1.length≤3∧sized L1∧(∀x∈L1,x.code≠1)∧(∀x∈L1,x.code≠3):=by
   subst hL1;refine⟨by simp;omega,lx hBs.2.1 t2 (by omega),re (fun x hx=>?_) (wa t3 (by decide)),re (fun x hx=>?_) (wa t3 (by decide))⟩<;>rcases hBs.2.2 x hx with h|h<;>omega
  have w2:sized L2∧(∀x∈L2,x.code≠3):=by
   subst hL2;exact⟨lx w1.2.1 r2 (by omega),re w1.2.2.2 (wa r3 (by decide))⟩
  have z3:=fun gl=>pF (M B) 51 s.time 4 (by rw[hMo];exact w0.1) (by simp[pw,AM (v:=s.time) (by omega) (by omega)]) (by rw[hMo];exact w0.2) (FO+14) 1 (by omega) (fo:=FO+1000) (gl:=gl)
  have z4:=fun gl=>pF (M L1) 1 (zp s.bits) 4 (by rw[hMo];exact w1.2.1) (by simp[pw,AM (v:=zp s.bits) (by unfold zp;omega) (by unfold zp;omega)]) (by rw[hMo];exact w1.2.2.1) (FO+14) 1 (by omega) (fo:=FO+1000) (gl:=gl)
  simp only[hMs]at z3 z4;have q3:=wF m 1 hm;have q4:=wF m 3 hm;have q5:=Fo s.bits;rw[if_pos (show 0≤s.bits∧s.bits≤32 by omega),if_pos (show 0≤s.bits∧s.bits≤32 by omega)]at q5
  simp-implicitDefEqProofs (disch:=try exact dd) [cB]
  refine qh (A1 s m kind yi (M L1)) ?_ ?_ ?_
  ·intro h7;simp only[Bool.not_eq_true',aQ]at h7;have hl:L1=B++ [⟨51,di s.time 4⟩]:=by rw[hL1];simp[yB,h7]
   rw[hl]
   simp-implicitDefEqProofs (disch:=try exact dd) [cB]
   refine dx (FO+1000) rfl rfl (z3 _) rfl (by simp-implicitDefEqProofs (disch:=try exact dd) [cB,hM,hBm]) ?_
   simp-implicitDefEqProofs (disch:=try exact dd) [cB,A1,hM,hBm,iG]
  ·intro h7;simp only[Bool.not_eq_false',decide_eq_true_eq]at h7;have hl:L1=B:=by rw[hL1];simp[yB,h7]
   rw[hl]
   simp-implicitDefEqProofs (disch:=try exact dd) [cB,A1,hM,hBm,iG]
  ·clear z3 hBm;rintro S ⟨e4,e5,e9,e12,e14,e15,e16,e17,efo,g12,g14,g17,b12,b14,b17⟩;simp only[hM,ee.iR,Sub.iR,eu,List.map_cons,List.map_nil]at b12 b14 b17
   simp-implicitDefEqProofs (disch:=try exact dd) [cB,e4,e5,e9,e12,e14,e15,e16,e17,efo,g12,g14,g17,b12,b14,b17]
   refine oc q3 ?_
   simp-implicitDefEqProofs (disch:=try exact dd) [cB,e4,e5,e9,e12,e14,e15,e16,e17,efo,g12,g14,g17,b12,b14,b17]
   refine qh (A1 s m kind yi (M L2)) ?_ ?_ ?_
   ·intro h7;have hl:L2=L1++ [⟨1,di (zp s.bits) 4⟩]:=by rw[hL2];simp[AT,h7]
    rw[hl]
    simp-implicitDefEqProofs (disch:=try exact dd) [cB,e4,e5,e9,e12,e14,e15,e16,e17,efo,g12,g14,g17,b12,b14,b17]
    refine oc q5 ?_
    simp-implicitDefEqProofs (disch:=try exact dd) [cB,e4,e5,e9,e12,e14,e15,e16,e17,efo,g12,g14,g17,b12,b14,b17]
    refine dx (FO+1000) rfl rfl (z4 _) rfl (by simp-implicitDefEqProofs (disch:=try exact dd) [cB,e4,e5,e9,e12,e14,e15,e16,e17,efo,g12,g14,g17,b12,b14,b17,hM]) ?_
    simp-implicitDefEqProofs (disch:=try exact dd) [cB,e4,e5,e9,e12,e14,e15,e16,e17,efo,g12,g14,g17,b12,b14,b17,A1,hM,iG]
   ·intro h7;have hl:L2=L1:=by rw[hL2];simp[AT,h7]
    rw[hl]
    simp-implicitDefEqProofs (disch:=try exact dd) [cB,e4,e5,e9,e12,e14,e15,e16,e17,efo,g12,g14,g17,b12,b14,b17,A1,hM,iG]
   ·clear z4 e4 e5 e9 e12 e14 e15 e16 e17 efo g12 g14 g17 b12 b14 b17;rintro S ⟨e4,e5,e9,e12,e14,e15,e16,e17,efo,g12,g14,g17,b12,b14,b17⟩;simp only[hM,ee.iR,Sub.iR,eu,List.map_cons,List.map_nil]at b12 b14 b17;by_cases h7:s.router=0
    ·have hl:L3=L2:=by rw[hL3];simp[yC,h7]
     rw[hl]
     simp-implicitDefEqProofs (disch:=try exact dd) [cB,e4,e5,e9,e12,e14,e15,e16,e17,efo,g12,g14,g17,b12,b14,b17,h7,A1,hM,iG]
    ·have z6:=fun gl=>pF (M L2) 3 s.router 4 (by rw[hMo];exact w2.1) (by simp[pw,AM (hrt h7).1 (hrt h7).2]) (by rw[hMo];exact w2.2) (FO+14) 1 (by omega) (fo:=FO+1000) (gl:=gl)
     simp only[hMs]at z6
     simp-implicitDefEqProofs (disch:=try exact dd) [cB,e4,e5,e9,e12,e14,e15,e16,e17,efo,g12,g14,g17,b12,b14,b17,h7]
     refine oc q4 ?_
     simp-implicitDefEqProofs (disch:=try exact dd) [cB,e4,e5,e9,e12,e14,e15,e16,e17,efo,g12,g14,g17,b12,b14,b17,h7]
     refine qh (A1 s m kind yi (M L3)) ?_ ?_ ?_
     ·intro h8;have hl:L3=L2++ [⟨3,di s.router 4⟩]:=by rw[hL3];simp[yC,h7,h8]
      rw[hl]
      simp-implicitDefEqProofs (disch:=try exact dd) [cB,e4,e5,e9,e12,e14,e15,e16,e17,efo,g12,g14,g17,b12,b14,b17]
      refine dx (FO+1000) rfl rfl (z6 _) rfl (by simp-implicitDefEqProofs (disch:=try exact dd) [cB,e4,e5,e9,e12,e14,e15,e16,e17,efo,g12,g14,g17,b12,b14,b17,hM]) ?_
      simp-implicitDefEqProofs (disch:=try exact dd) [cB,e4,e5,e9,e12,e14,e15,e16,e17,efo,g12,g14,g17,b12,b14,b17,A1,hM,iG]
     ·intro h8;have hl:L3=L2:=by rw[hL3];simp[yC,h7,h8]
      rw[hl]
      simp-implicitDefEqProofs (disch:=try exact dd) [cB,e4,e5,e9,e12,e14,e15,e16,e17,efo,g12,g14,g17,b12,b14,b17,A1,hM,iG]
     ·intro S hS
      simp-implicitDefEqProofs (disch:=try exact dd) [cB]
      exact hS
 ·rintro S ⟨e4,e5,e9,e12,e14,e15,e16,e17,efo,g12,g14,g17,b12,b14,b17⟩;simp only[ee.iR,Sub.iR,eu,List.map_cons,List.map_nil]at b12 b14 b17;obtain⟨N,hN⟩: ∃N:List cN→ee,N=fun l=>({eI c s m kind yi with opts:=l}:ee):=⟨_,rfl⟩
  have hNo: ∀l,(N l).opts=l:=fun l=>by rw[hN]
  have hNe: ∀l c,Lc (N l) m c=N (l++fO m c):=fun l c=>by rw[hN];rfl
  have hNd: ∀l,(N l).d=(⟨2,m.htype,m.hlen,0,m.xid,0,th m kind,if kind=5 then m.ci else 0,if kind=6 then 0 else yi,0,m.gi,m.chaddr,l⟩:ee).d:=fun l=>by rw[hN];rfl
  have hfin:eI c s m kind yi=N (lS c s m kind yi++fO m 61++fO m 82):=by rw[hN];rfl
  rw[hfin];obtain⟨m1,m2,m3⟩:=Mj s m kind yi;obtain⟨n1,n2,n3⟩:=M9 (m:=m) 61 hr;have hB:(lS c s m kind yi).length≤5∧sized (lS c s m kind yi)∧ ∀x∈lS c s m kind yi,x.code=53∨x.code=54∨x.code=51∨x.code=1∨x.code=3:=by
   unfold lS;refine⟨by simp;omega,lx (by simp[sized]) m2 (by simp;omega),fun x hx=>?_⟩
   rcases List.mem_append.1 hx with h|h
   ·simp at h;rcases h with h|h<;>subst h<;>simp
   ·rcases m3 x h with h|h|h<;>simp[h]
  generalize lS c s m kind yi=B at*
  have z7:=fun gl=>y7 (N B) m 61 (by rw[hNo];exact hB.2.1) hm hr (by omega) (by rw[hNo];intro x hx;rcases hB.2.2 x hx with h|h|h|h|h<;>omega) (FO+14) 1 (by omega) (fo:=FO+1000) (gl:=gl)
  have z8:=fun gl=>y7 (N (B++fO m 61)) m 82 (by rw[hNo];exact lx hB.2.1 n2 (by omega)) hm hr (by omega) (by rw[hNo];exact re (fun x hx=>by rcases hB.2.2 x hx with h|h|h|h|h<;>omega) (wa n3 (by decide))) (FO+14) 1 (by omega) (fo:=FO+1000) (gl:=gl)
  simp only[hNe]at z7 z8;by_cases h5:kind=5
  ·simp-implicitDefEqProofs (disch:=try exact dd) [cB,e4,e5,e9,e12,e14,e15,e16,e17,efo,g12,g14,g17,b12,b14,b17,h5]
   refine dx (FO+1000) rfl rfl (z7 _) rfl (by simp-implicitDefEqProofs (disch:=try exact dd) [cB,e4,e5,e9,e12,e14,e15,e16,e17,efo,g12,g14,g17,b12,b14,b17,hN,eI,h5]) ?_
   simp-implicitDefEqProofs (disch:=try exact dd) [cB,e4,e5,e9,e12,e14,e15,e16,e17,efo,g12,g14,g17,b12,b14,b17,h5]
   refine dx (FO+1000) rfl rfl (z8 _) rfl (by simp-implicitDefEqProofs (disch:=try exact dd) [cB,e4,e5,e9,e12,e14,e15,e16,e17,efo,g12,g14,g17,b12,b14,b17,hN,eI,h5]) ?_
   simp-implicitDefEqProofs (disch:=try exact dd) [cB,e4,e5,e9,e12,e14,e15,e16,e17,efo,g12,g14,g17,b12,b14,b17,h5,hN,eI]
  ·simp-implicitDefEqProofs (disch:=try exact dd) [cB,e4,e5,e9,e12,e14,e15,e16,e17,efo,g12,g14,g17,b12,b14,b17,h5]
   refine dx (FO+1000) rfl rfl (z7 _) rfl (by simp-implicitDefEqProofs (disch:=try exact dd) [cB,e4,e5,e9,e12,e14,e15,e16,e17,efo,g12,g14,g17,b12,b14,b17,hN,eI,h5]) ?_
   simp-implicitDefEqProofs (disch:=try exact dd) [cB,e4,e5,e9,e12,e14,e15,e16,e17,efo,g12,g14,g17,b12,b14,b17,h5]
   refine dx (FO+1000) rfl rfl (z8 _) rfl (by simp-implicitDefEqProofs (disch:=try exact dd) [cB,e4,e5,e9,e12,e14,e15,e16,e17,efo,g12,g14,g17,b12,b14,b17,hN,eI,h5]) ?_
   simp-implicitDefEqProofs (disch:=try exact dd) [cB,e4,e5,e9,e12,e14,e15,e16,e17,efo,g12,g14,g17,b12,b14,b17,h5,hN,eI]
end Go.Proofs.YtoilfihojgeonaaGreatDoor
