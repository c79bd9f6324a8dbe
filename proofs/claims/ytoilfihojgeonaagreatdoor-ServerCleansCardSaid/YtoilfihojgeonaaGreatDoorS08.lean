/- Frames: numbers as bytes, bytes with their length and sum ahead; what the program and the document answer. -/
import Derived.Test.YtoilfihojgeonaaGreatDoorS07
import Derived.Test.YtoilfihojgeonaaGreatDoorS05
namespace Go.Proofs.YtoilfihojgeonaaGreatDoor
open BoEng Go
set_option maxRecDepth 100000
set_option linter.unusedSimpArgs false
set_option linter.unusedVariables false
def iE(v:Nat):Nat→List UInt8
 |0=> []
 |n+1=>iE (v/256) n++ [UInt8.ofNat (v % 256)]
theorem fY(v:Nat): ∀n,(iE v n).length=n
 |0=>rfl
 |n+1=>by simp[iE,fY (v/256) n]
theorem nh: ∀(n v:Nat),v<256^n→fC (iE v n)=v
 |0,v,h=>by
  have:v=0:=by simpa using h
  subst this;rfl
 |n+1,v,h=>by
  have h1:v/256<256^n:=by
   rw[Nat.pow_succ]at h;exact Nat.div_lt_of_lt_mul (by rw[Nat.mul_comm];exact h)
  unfold iE;rw[tN,nh n (v/256) h1];have h2:(UInt8.ofNat (v % 256)).toNat=v % 256:=by
   rw[cu];omega
  rw[h2];omega
def sl(b:List UInt8):Nat:=(fC (b.take 2)).toNat
def zI(b:List UInt8):List UInt8:=(b.drop 6).take (sl b)
def KW(b:List UInt8):Nat:=(fC ((b.drop 2).take 4)).toNat
def dr(b:List UInt8):List UInt8×Int×Int:=
 if b.length<6 then([],0,4)else if sl b>2000 then([],0,2)else if b.length<6+sl b then([],0,4)
 else if pn (zI b)=KW b then(zI b,6+sl b,0)else([],0,6)
def cU(b:List UInt8):List UInt8:=iE b.length 2++iE (pn b) 4++b
def ld(v:Int):UInt8:=UInt8.ofNat (v % 256).toNat
theorem xh(v:Int):((ld v).toNat:Int)=v % 256:=by
 have h2:((v % 256).toNat)<256:=by omega
 simp only[ld,cu];omega
theorem pk(v:Int):IntKind.u8.wrap v=((ld v).toNat:Int):=by
 rw[xh];unfold IntKind.wrap;simp[IntKind.bits,IntKind.signed]
def di(v:Int):Nat→List UInt8
 |0=> []
 |n+1=>di (v/256) n++ [ld v]
@[simp] theorem nq: ∀(n:Nat) (v:Int),(di v n).length=n
 |0,_=>rfl
 |n+1,v=>by simp[di,nq n]
theorem Nb(v:Int)(n:Nat):v/256/256^n=v/256^(n+1):=by
 have hp:(0:Int)<256^n:=cA (by decide)
 rw[Int.ediv_ediv,if_neg (by omega),Int.pow_succ,Int.mul_comm]
 simp
theorem ze: ∀(n:Nat) (v:Int),di v (n+1)=ld (v/256^n)::di v n
 |0,v=>by simp[di]
 |n+1,v=>by
  rw[di,ze n (v/256),di,List.cons_append,Nb]
theorem pJ: ∀(n:Nat) (v:Int),0≤v→v<256^n→fC (di v n)=v
 |0,v,h0,h1=>by
  have:v=0:=by simp at h1;omega
  subst this;rfl
 |n+1,v,h0,h1=>by
  rw[di,tN,pJ n (v/256) (by omega) (by rw[Int.pow_succ]at h1;omega),xh]
  omega
theorem JC(n:Nat):(256:Int)^n=2^(8*n):=by
 rw[Int.pow_mul];rfl
theorem FN{v:Int}{k:Nat}(hk:k≤64):BX .i64 v (k:Int)=v/2^k:=by
 unfold BX;have:min ((k:Int).toNat) IntKind.i64.bits=k:=by
  have:IntKind.i64.bits=64:=rfl;omega
 rw[this,Int.fdiv_eq_ediv_of_nonneg];exact Int.le_of_lt (cA (by decide))
def ij(v n:Int):Bool:=decide ((1≤n∧n≤7)∧0≤v∧v<256^n.toNat)
def yA(v:Int)(n i:Nat):List PV:=List.replicate (n-i) (.d (.int .u8 0))++((di v i).map cM).map .d
theorem Hm(v:Int){n i:Nat}(h:i<n):(yA v n i).take (n-1-i)++PV.d (.int .u8 ((ld (v/256^i)).toNat:Nat))::(yA v n i).drop (n-1-i+1)=yA v n (i+1):=by
 unfold yA;have e:n-i=(n-1-i)+1:=by omega
 have e2:n-(i+1)=n-1-i:=by omega
 rw[e,e2,List.take_append_of_le_length (by simp),List.drop_append_of_le_length (by simp),ze]
 simp
theorem Jy(v:Int){n i:Nat}(h:i≤n):(yA v n i).length=n:=by simp[yA];omega
def cpJ(v:Int)(n:Nat)(fo g:Nat)(i:Nat)(S:PS):Prop:=
 i≤n∧S.t 0= .d (.int .i64 v)∧S.t 1= .d (.int .i64 n)∧S.t 27= .d (.int .i64 n)∧S.t 28= .d (.int .i64 i)∧S.t 6= .bsl (fo+26) g n 1 false∧S.fo=fo∧S.gen (fo+26)=g∧S.box (fo+26)=yA v n i
theorem Br(v n:Int):
 cD Tryz.prog 126 [.d (.int .i64 v),.d (.int .i64 n)] (.tup [.d (.slice ((if ij v n then di v n.toNat else[]).map cM)),.d (.int .i64 (if ij v n then 0 else 1))]) (fun j=>j==0):=by
 refine cD.bi Tryz.func126 [] ?_;by_cases h1:n<1∨7<n∨v<0
 ·have hE:ij v n=false:=by simp only[ij,aQ];omega
  rw[hE]
  repeat' (first|(simp-implicitDefEqProofs (disch:=try exact dd) [*,cB])|(refine dt ?_ ?_<;>intro hc<;>have hc2:=hc<;>(try simp only[dQ]at hc2)<;>try omega)|(refine dm ?_ ?_<;>intro hc<;>have hc2:=hc<;>(try simp only[dQ]at hc2)<;>try omega)|(refine dc (by omega) ?_)|(split<;>try omega)|omega)
 ·obtain⟨n,rfl⟩:=Int.eq_ofNat_of_zero_le (show 0≤n by omega)
  have k1: ¬(n:Int)<1:=by omega
  have k2: ¬(7:Int)<n:=by omega
  have k3: ¬v<0:=by omega
  have hs:BX .i64 v (8*(n:Int))=v/256^n:=by
   have:=FN (v:=v) (k:=8*n) (by omega)
   rw[JC]
   simpa using this
  have hp:(0:Int)<256^n:=cA (by decide)
  by_cases h2:v<256^n
  ·have hE:ij v n=true:=by simp only[ij,decide_eq_true_eq,Int.toNat_natCast];omega
   have hd:v/256^n=0:=Int.ediv_eq_zero_of_lt (by omega) h2
   rw[hE];rw[hd]at hs
   simp-implicitDefEqProofs (disch:=try exact dd) [cB,k1,k2,k3,hs]
   rw[RQ (n:=n) (z:= .int .u8 0) (by simp) (by simp;omega)]
   simp-implicitDefEqProofs (disch:=try exact dd) [cB,k1,k2,k3,hs]
   refine lp (cpJ v n FO 1) (fun i=>n-i) 0 ⟨by omega,by simp-implicitDefEqProofs (disch:=try exact dd) [cB,yA,di]⟩ ?_
   rintro i S ⟨hi,e0,e1,e27,e28,e6,efo,eg,eb⟩;by_cases hlt:i<n
   ·have k6:(i:Int)<n:=by omega
    have hsi:BX .i64 v (8*(i:Int))=v/256^i:=by
     have:=FN (v:=v) (k:=8*i) (by omega)
     rw[JC]
     simpa using this
    have hj:(((n:Int)-1-i).toNat)=n-1-i:=by omega
    have hl:=Jy v (Nat.le_of_lt hlt);have hlb:(S.box (FO+26)).length=n:=by rw[eb];exact hl
    have hst:=Hm v hlt
    simp-implicitDefEqProofs (disch:=try exact dd) [cB,e0,e1,e27,e28,e6,efo,eg,eb,k6,hsi,hl,hj,pk]
    exact cE (i+1) ⟨by omega,by simp-implicitDefEqProofs (disch:=try exact dd) [*,cB,hst]⟩ (by omega)
   ·have:i=n:=by omega
    subst this;have hc:yA v i i=((di v i).map cM).map .d:=by simp[yA]
    have hi0:0<i:=by omega
    simp-implicitDefEqProofs (disch:=try exact dd) [cB,e0,e1,e27,e28,e6,efo,eg,eb,hc,hi0,List.take_of_length_le]
  ·have hE:ij v n=false:=by simp only[ij,aQ,Int.toNat_natCast];omega
   have hd: ¬v/256^n=0:=by
    intro h;have h3:=bD v (256^n);have h4:=Int.emod_lt_of_pos v hp;rw[h]at h3;simp at h3;omega
   rw[hE]
   simp-implicitDefEqProofs (disch:=try exact dd) [cB,k1,k2,k3,hs,hd]
theorem B': ∀(n v:Nat),di (v:Int) n=iE v n
 |0,v=>rfl
 |n+1,v=>by
  have h1:(v:Int)/256=((v/256:Nat):Int):=by omega
  have h2:((v:Int) % 256).toNat=v % 256:=by omega
  rw[di,iE,h1,B' n (v/256),ld,h2]
theorem x8(v n:Nat)(h1:1≤n)(h7:n≤7)(hv:v<256^n):cD Tryz.prog 126 [.d (.int .i64 v),.d (.int .i64 n)] (.tup [.d (.slice ((iE v n).map cM)),.d (.int .i64 0)]) (fun j=>j==0):=by
 have h:=Br v n;have hok:ij v n=true:=by
  simp only[ij,decide_eq_true_eq,Int.toNat_natCast];have:(v:Int)<((256^n:Nat):Int):=by omega
  rw[Int.natCast_pow]at this;exact⟨by omega,by omega,this⟩
 rw[hok,if_pos rfl,if_pos rfl,Int.toNat_natCast,B']at h;exact h
theorem zX(b:List UInt8)(hl:b.length≤2000):cD Tryz.prog 221 [.d (.slice (b.map cM))] (.tup [.d (.slice ((cU b).map cM)),.d (.int .i64 0)]) (fun j=>j==0):=by
 refine cD.bi Tryz.func221 [11,24] ?_;have h1:=As b;have q1:=x8 b.length 2 (by omega) (by omega) (by omega)
 have q2:=GH b (by omega)
 have q3:=x8 (pn b) 4 (by omega) (by omega) (by omega)
 have l1:=fY b.length 2;have l2:=fY (pn b) 4;have hw:IntKind.i64.wrap ((pn b:Nat):Int)=(pn b:Nat):=kZ (by omega)
 have hc: ¬(2000:Int)<b.length:=by omega
 unfold cU;generalize pn b=s at*
 generalize iE b.length 2=p at*
 generalize iE s 4=r at*
 simp-implicitDefEqProofs (disch:=try exact dd) [cB,hc]
 refine oc q1 ?_
 simp-implicitDefEqProofs (disch:=try exact dd) [cB,hc]
 refine oc q2 ?_
 simp-implicitDefEqProofs (disch:=try exact dd) [cB,hw]
 refine oc q3 ?_
 simp-implicitDefEqProofs (disch:=try exact dd) [cB,hc]
theorem Ll(b:List UInt8)(hl:b.length≤1000000):cD Tryz.prog 157 [.d (.slice (b.map cM))] (.tup [.d (.slice ((dr b).1.map cM)),.d (.int .i64 (dr b).2.1),.d (.int .i64 (dr b).2.2)]) (fun _=>false):=by
 refine cD.bi Tryz.func157 [] ?_;have q1:=oS b 0 2 (by omega)
 have q2:=oS b 2 4 (by omega)
 unfold dr;by_cases h6:b.length<6
 ·have e2:mc b 2 4=4:=by
   unfold mc;rw[if_neg (by omega),if_pos (by omega)]
  rw[e2]at q2;by_cases he:mc b 0 2=0
  ·rw[he]at q1
   simp-implicitDefEqProofs (disch:=try exact dd) [cB]
   refine oc q1 ?_
   simp-implicitDefEqProofs (disch:=try exact dd) [cB]
   refine oc q2 ?_
   simp-implicitDefEqProofs (disch:=try exact dd) [cB,h6]
  ·simp-implicitDefEqProofs (disch:=try exact dd) [cB]
   refine oc q1 ?_
   simp-implicitDefEqProofs (disch:=try exact dd) [cB]
   refine oc q2 ?_
   simp-implicitDefEqProofs (disch:=try exact dd) [cB,h6,he]
 have e1:mc b 0 2=0:=by
  unfold mc;rw[if_neg (by omega),if_neg (by omega)]
 have e2:mc b 2 4=0:=by
  unfold mc;rw[if_neg (by omega),if_neg (by omega)]
 have v1:lj b 0 2=(sl b:Nat):=by
  have:=(vM (l:=b.take 2) (by simp;omega)).1
  simp only[lj,e1,if_true]
  show fC (b.take 2)=_
  unfold sl;omega
 have v2:lj b 2 4=(KW b:Nat):=by
  have:=(vM (l:=(b.drop 2).take 4) (by simp;omega)).1
  simp only[lj,e2,if_true]
  show fC ((b.drop 2).take 4)=_
  unfold KW;omega
 rw[e1,v1]at q1;rw[e2,v2]at q2;have hfx:zI b=(b.take (6+sl b)).drop 6:=by
  rw[zI,List.drop_take]
  congr 1
  omega
 have q3:=GH (zI b) (by simp[zI];omega)
 have h1:=As (zI b);have hw:IntKind.i64.wrap ((pn (zI b):Nat):Int)=(pn (zI b):Nat):=kZ (by omega)
 rw[hfx]at q3 hw h1⊢;generalize sl b=n at*
 generalize KW b=s at*
 clear e1 e2 v1 v2 hfx;by_cases h2:2000<n
 ·have h2':(2000:Int)<n:=by omega
  simp-implicitDefEqProofs (disch:=try exact dd) [cB]
  refine oc q1 ?_
  simp-implicitDefEqProofs (disch:=try exact dd) [cB]
  refine oc q2 ?_
  simp-implicitDefEqProofs (disch:=try exact dd) [cB,h6,h2,h2']
 have h2': ¬(2000:Int)<n:=by omega
 by_cases h3:b.length<6+n
 ·have h3':(b.length:Int)<6+n:=by omega
  simp-implicitDefEqProofs (disch:=try exact dd) [cB]
  refine oc q1 ?_
  simp-implicitDefEqProofs (disch:=try exact dd) [cB]
  refine oc q2 ?_
  simp-implicitDefEqProofs (disch:=try exact dd) [cB,h6,h2,h2',h3,h3']
 have h3': ¬(b.length:Int)<6+n:=by omega
 have ht:((6:Int)+n).toNat=6+n:=by omega
 have hxl:((b.take (6+n)).drop 6).length≤1000000:=by simp;omega
 generalize pn ((b.take (6+n)).drop 6)=x at*
 by_cases hx:x=s
 ·simp-implicitDefEqProofs (disch:=try exact dd) [cB]
  refine oc q1 ?_
  simp-implicitDefEqProofs (disch:=try exact dd) [cB]
  refine oc q2 ?_
  simp-implicitDefEqProofs (disch:=try exact dd) [cB, -List.map_take, -List.map_drop,h6,h2,h2',h3,h3',ht]
  refine oc q3 ?_
  simp-implicitDefEqProofs (disch:=try exact dd) [cB, -List.map_take, -List.map_drop,hw,hx,h6,h2,h3]
 ·have hx': ¬(x:Int)=s:=by omega
  simp-implicitDefEqProofs (disch:=try exact dd) [cB]
  refine oc q1 ?_
  simp-implicitDefEqProofs (disch:=try exact dd) [cB]
  refine oc q2 ?_
  simp-implicitDefEqProofs (disch:=try exact dd) [cB, -List.map_take, -List.map_drop,h6,h2,h2',h3,h3',ht]
  refine oc q3 ?_
  simp-implicitDefEqProofs (disch:=try exact dd) [cB, -List.map_take, -List.map_drop,hw,hx,hx',h6,h2,h3]
def mi(k:List UInt8):Bool:=match k with| []=>false|b::r=>if b=105 then decide (2≤r.length∧r.length≤255)else if b=104 then decide (2≤r.length∧r.length≤17)else false
theorem s5(k:List UInt8)(hk:k.length≤9223372036854775807):cD Tryz.prog 246 [.d (.str k)] (.d (.bool (mi k))) (fun _=>false):=by
 refine cD.bi Tryz.func246 [] ?_
 match k,hk with
 | [],_=>simp-implicitDefEqProofs (disch:=try exact dd) [cB,mi]
 |b::r,hk=>
  simp only[List.length_cons]at hk;have hn:nth (b::r) 0=b:=rfl;have hb:(((b.toNat:Nat):Int)=105)↔b=105:=by
   constructor
   ·intro h
    apply bK
    have:(105:UInt8).toNat=105:=rfl;omega
   ·rintro rfl;rfl
  have hb2:(((b.toNat:Nat):Int)=104)↔b=104:=by
   constructor
   ·intro h
    apply bK
    have:(104:UInt8).toNat=104:=rfl;omega
   ·rintro rfl;rfl
  by_cases h1:b=105
  ·subst h1;have hb':=hb.2 rfl
   repeat' (first|(simp-implicitDefEqProofs (disch:=try exact dd) [*,cB,mi,hn])|(refine dt ?_ ?_<;>intro hc<;>have hc2:=hc<;>(try simp only[dQ]at hc2)<;>try omega)|(refine dm ?_ ?_<;>intro hc<;>have hc2:=hc<;>(try simp only[dQ]at hc2)<;>try omega)|(refine dc (by omega) ?_)|(split<;>try omega)|omega)
  ·by_cases h2:b=104
   ·subst h2;have hb':=hb2.2 rfl
    repeat' (first|(simp-implicitDefEqProofs (disch:=try exact dd) [*,cB,mi,hn])|(refine dt ?_ ?_<;>intro hc<;>have hc2:=hc<;>(try simp only[dQ]at hc2)<;>try omega)|(refine dm ?_ ?_<;>intro hc<;>have hc2:=hc<;>(try simp only[dQ]at hc2)<;>try omega)|(refine dc (by omega) ?_)|(split<;>try omega)|omega)
   ·have k1: ¬((b.toNat:Nat):Int)=105:=fun h=>h1 (hb.1 h)
    have k2: ¬((b.toNat:Nat):Int)=104:=fun h=>h2 (hb2.1 h)
    repeat' (first|(simp-implicitDefEqProofs (disch:=try exact dd) [*,cB,mi,hn,h1,h2])|(refine dt ?_ ?_<;>intro hc<;>have hc2:=hc<;>(try simp only[dQ]at hc2)<;>try omega)|(refine dm ?_ ?_<;>intro hc<;>have hc2:=hc<;>(try simp only[dQ]at hc2)<;>try omega)|(refine dc (by omega) ?_)|(split<;>try omega)|omega)
theorem DR(k:List UInt8)(hk:k.length≤9223372036854775807):cD Tryz.prog 256 [.d (.str k)] (.d (.bool (mi k))) (fun _=>false):=by
 refine cD.bi Tryz.func256 [] ?_
 match k,hk with
 | [],_=>simp-implicitDefEqProofs (disch:=try exact dd) [cB,mi]
 |b::r,hk=>
  simp only[List.length_cons]at hk;have hn:nth (b::r) 0=b:=rfl;have hb:(((b.toNat:Nat):Int)=105)↔b=105:=by
   constructor
   ·intro h
    apply bK
    have:(105:UInt8).toNat=105:=rfl;omega
   ·rintro rfl;rfl
  have hb2:(((b.toNat:Nat):Int)=104)↔b=104:=by
   constructor
   ·intro h
    apply bK
    have:(104:UInt8).toNat=104:=rfl;omega
   ·rintro rfl;rfl
  by_cases h1:b=105
  ·subst h1;have hb':=hb.2 rfl
   repeat' (first|(simp-implicitDefEqProofs (disch:=try exact dd) [*,cB,mi,hn])|(refine dt ?_ ?_<;>intro hc<;>have hc2:=hc<;>(try simp only[dQ]at hc2)<;>try omega)|(refine dm ?_ ?_<;>intro hc<;>have hc2:=hc<;>(try simp only[dQ]at hc2)<;>try omega)|(refine dc (by omega) ?_)|(split<;>try omega)|omega)
  ·by_cases h2:b=104
   ·subst h2;have hb':=hb2.2 rfl
    repeat' (first|(simp-implicitDefEqProofs (disch:=try exact dd) [*,cB,mi,hn])|(refine dt ?_ ?_<;>intro hc<;>have hc2:=hc<;>(try simp only[dQ]at hc2)<;>try omega)|(refine dm ?_ ?_<;>intro hc<;>have hc2:=hc<;>(try simp only[dQ]at hc2)<;>try omega)|(refine dc (by omega) ?_)|(split<;>try omega)|omega)
   ·have k1: ¬((b.toNat:Nat):Int)=105:=fun h=>h1 (hb.1 h)
    have k2: ¬((b.toNat:Nat):Int)=104:=fun h=>h2 (hb2.1 h)
    repeat' (first|(simp-implicitDefEqProofs (disch:=try exact dd) [*,cB,mi,hn,h1,h2])|(refine dt ?_ ?_<;>intro hc<;>have hc2:=hc<;>(try simp only[dQ]at hc2)<;>try omega)|(refine dm ?_ ?_<;>intro hc<;>have hc2:=hc<;>(try simp only[dQ]at hc2)<;>try omega)|(refine dc (by omega) ?_)|(split<;>try omega)|omega)
structure cC where
 addr:Int
 state:Int
 expiry:Int
 key:List UInt8
 deriving DecidableEq
instance:Inhabited cC:=⟨⟨0,0,0,[]⟩⟩
def cC.d(l:cC):DV:= .agg [.int .i64 l.addr,.int .i64 l.state,.int .i64 l.expiry,.str l.key]
@[simp] theorem Dd(l:cC):cells l.d= [.int .i64 l.addr,.int .i64 l.state,.int .i64 l.expiry,.str l.key]:=rfl
def c8(l:cC):Bool:=dD l.addr&&decide (1≤l.state∧l.state≤3)&&decide (0≤l.expiry∧l.expiry≤1125899906842624)&&mi l.key
theorem gV{l:cC}(h:c8 l=true):(0≤l.addr∧l.addr≤4294967295)∧(1≤l.state∧l.state≤3)∧(0≤l.expiry∧l.expiry≤1125899906842624)∧mi l.key=true:=by
 simp only[c8,Bool.and_eq_true,decide_eq_true_eq]at h;exact⟨dI.1 h.1.1.1,h.1.1.2,h.1.2,h.2⟩
theorem mr(l:cC)(hk:l.key.length≤9223372036854775807):cD Tryz.prog 161 [.d l.d] (.d (.bool (c8 l))) (fun _=>false):=by
 refine cD.bi Tryz.func161 [20001] ?_;have q1:=fV l.addr;have q2:=s5 l.key hk;unfold c8;generalize dD l.addr=x at*
 generalize mi l.key=y at*
 cases x with
 |false=>
  simp-implicitDefEqProofs (disch:=try exact dd) [cB]
  refine oc q1 ?_
  simp-implicitDefEqProofs (disch:=try exact dd) [cB]
 |true=>
  by_cases c1:1≤l.state
  ·by_cases c2:l.state≤3
   ·by_cases c3:0≤l.expiry
    ·by_cases c4:l.expiry≤1125899906842624
     ·simp-implicitDefEqProofs (disch:=try exact dd) [cB]
      refine oc q1 ?_
      simp-implicitDefEqProofs (disch:=try exact dd) [cB,c1,c2,c3,c4]
      refine oc q2 ?_
      simp-implicitDefEqProofs (disch:=try exact dd) [cB,c1,c2,c3,c4]
     ·simp-implicitDefEqProofs (disch:=try exact dd) [cB]
      refine oc q1 ?_
      simp-implicitDefEqProofs (disch:=try exact dd) [cB,c1,c2,c3,c4]
    ·simp-implicitDefEqProofs (disch:=try exact dd) [cB]
     refine oc q1 ?_
     simp-implicitDefEqProofs (disch:=try exact dd) [cB,c1,c2,c3]
   ·simp-implicitDefEqProofs (disch:=try exact dd) [cB]
    refine oc q1 ?_
    simp-implicitDefEqProofs (disch:=try exact dd) [cB,c1,c2]
  ·simp-implicitDefEqProofs (disch:=try exact dd) [cB]
   refine oc q1 ?_
   simp-implicitDefEqProofs (disch:=try exact dd) [cB,c1]
theorem DQ(l:cC)(hk:l.key.length≤9223372036854775807):cD Tryz.prog 180 [.d l.d] (.d (.bool (c8 l))) (fun _=>false):=by
 refine cD.bi Tryz.func180 [20001] ?_;have q1:=DS l.addr;have q2:=DR l.key hk;unfold c8;generalize dD l.addr=x at*
 generalize mi l.key=y at*
 cases x with
 |false=>
  simp-implicitDefEqProofs (disch:=try exact dd) [cB]
  refine oc q1 ?_
  simp-implicitDefEqProofs (disch:=try exact dd) [cB]
 |true=>
  cases y with
  |false=>
   simp-implicitDefEqProofs (disch:=try exact dd) [cB]
   refine oc q1 ?_
   simp-implicitDefEqProofs (disch:=try exact dd) [cB]
   refine oc q2 ?_
   simp-implicitDefEqProofs (disch:=try exact dd) [cB]
  |true=>
   have hst:(decide (1≤l.state∧l.state≤3))=(decide (l.state=1)||decide (l.state=2)||decide (l.state=3)):=by
    rw[Bool.eq_iff_iff];simp;omega
   rw[hst];have ex: ∀b:Bool,(b&&decide (0≤l.expiry∧l.expiry≤1125899906842624))=(b&&(decide (0≤l.expiry)&&decide (l.expiry≤1125899906842624))):=by
    intro b;rw[Bool.decide_and]
   by_cases s1:l.state=1
   ·by_cases c3:0≤l.expiry
    ·simp-implicitDefEqProofs (disch:=try exact dd) [cB]
     refine oc q1 ?_
     simp-implicitDefEqProofs (disch:=try exact dd) [cB]
     refine oc q2 ?_
     simp-implicitDefEqProofs (disch:=try exact dd) [cB,s1,c3]
    ·simp-implicitDefEqProofs (disch:=try exact dd) [cB]
     refine oc q1 ?_
     simp-implicitDefEqProofs (disch:=try exact dd) [cB]
     refine oc q2 ?_
     simp-implicitDefEqProofs (disch:=try exact dd) [cB,s1,c3]
   by_cases s2:l.state=2
   ·by_cases c3:0≤l.expiry
    ·simp-implicitDefEqProofs (disch:=try exact dd) [cB]
     refine oc q1 ?_
     simp-implicitDefEqProofs (disch:=try exact dd) [cB]
     refine oc q2 ?_
     simp-implicitDefEqProofs (disch:=try exact dd) [cB,s1,s2,c3]
    ·simp-implicitDefEqProofs (disch:=try exact dd) [cB]
     refine oc q1 ?_
     simp-implicitDefEqProofs (disch:=try exact dd) [cB]
     refine oc q2 ?_
     simp-implicitDefEqProofs (disch:=try exact dd) [cB,s1,s2,c3]
   by_cases s3:l.state=3
   ·by_cases c3:0≤l.expiry
    ·simp-implicitDefEqProofs (disch:=try exact dd) [cB]
     refine oc q1 ?_
     simp-implicitDefEqProofs (disch:=try exact dd) [cB]
     refine oc q2 ?_
     simp-implicitDefEqProofs (disch:=try exact dd) [cB,s1,s2,s3,c3]
    ·simp-implicitDefEqProofs (disch:=try exact dd) [cB]
     refine oc q1 ?_
     simp-implicitDefEqProofs (disch:=try exact dd) [cB]
     refine oc q2 ?_
     simp-implicitDefEqProofs (disch:=try exact dd) [cB,s1,s2,s3,c3]
   ·simp-implicitDefEqProofs (disch:=try exact dd) [cB]
    refine oc q1 ?_
    simp-implicitDefEqProofs (disch:=try exact dd) [cB]
    refine oc q2 ?_
    simp-implicitDefEqProofs (disch:=try exact dd) [cB,s1,s2,s3]
end Go.Proofs.YtoilfihojgeonaaGreatDoor
