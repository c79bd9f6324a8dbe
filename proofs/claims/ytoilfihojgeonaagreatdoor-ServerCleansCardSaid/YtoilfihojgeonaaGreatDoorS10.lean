/- Messages as bytes: what tlv.Write, msg.Write and the document's layers 3 and 4 answer. -/
import Derived.Test.YtoilfihojgeonaaGreatDoorS06
import Derived.Test.YtoilfihojgeonaaGreatDoorS09
import Derived.Test.YtoilfihojgeonaaGreatDoorS04
import Derived.Test.YtoilfihojgeonaaGreatDoorS07
import Derived.Test.YtoilfihojgeonaaGreatDoorS08
namespace Go.Proofs.YtoilfihojgeonaaGreatDoor
open BoEng Go
set_option maxRecDepth 100000
set_option linter.unusedSimpArgs false
set_option linter.unusedVariables false
def pM(c:Int)(d:List UInt8):List UInt8:=if h:255<d.length then ld c::255::(d.take 255++pM c (d.drop 255))else ld c::ld d.length::d
termination_by d.length
decreasing_by simp;omega
theorem qD{c:Int}{d:List UInt8}(h:255<d.length):pM c d=ld c::255::(d.take 255++pM c (d.drop 255)):=by rw[pM,dif_pos h]
theorem la{c:Int}{d:List UInt8}(h: ¬255<d.length):pM c d=ld c::ld d.length::d:=by rw[pM,dif_neg h]
theorem Cj(c:Int): ∀(n:Nat) (d:List UInt8),d.length≤n→(pM c d).length≤2*d.length+2:=by
 intro n
 induction n with
 |zero=>intro d h;rw[la (by omega)];simp;omega
 |succ n ih=>
  intro d h;by_cases hd:255<d.length
  ·have:=ih (d.drop 255) (by simp;omega)
   rw[qD hd];simp only[List.length_cons,List.length_append,List.length_take,List.length_drop]at this⊢;omega
  ·rw[la hd];simp;omega
def ru(o:cN):List UInt8:=pM o.code o.data
def eD(l:List cN):List UInt8:=l.flatMap ru++ [255]
theorem pz{l:List cN}(h:cI l=true):l.length≤60∧ ∀o∈l,o.data.length≤600:=by
 simp only[cI,Bool.and_eq_true,List.all_eq_true,vA,decide_eq_true_eq]at h;exact⟨h.1.1,fun o ho=>(h.1.2 o ho).2⟩
theorem uy{l:List cN}(h: ∀o∈l,o.data.length≤600):(l.flatMap ru).length≤l.length*1202:=by
 induction l with
 |nil=>simp
 |cons o l ih=>
  have h1:=Cj o.code o.data.length o.data (Nat.le_refl _);have h2:=h o List.mem_cons_self;have h3:=ih fun x hx=>h x (al _ hx)
  simp only[List.flatMap_cons,List.length_append,List.length_cons,ru]at h3⊢;omega
theorem Kv:ld (255:Int)=255:=by decide
def yM(c:Int)(f:Bool)(r:List UInt8):List UInt8:=if f=false∧r= []then[]else pM c r
def w2I(l:List cN)(i:Nat)(S:PS):Prop:=
 i≤l.length∧S.t 4= .d (.slice (((l.take i).flatMap ru).map cM))∧S.own (.t 4 0)=true∧S.t 13= .d (.slice (l.map cN.d))∧S.t 14= .d (.int .i64 l.length)∧S.t 15= .d (.int .i64 i)
def w2J(l:List cN)(i:Nat)(F:List UInt8)(o:cN)(fo g:Nat)(p:List UInt8×List UInt8×Bool)(S:PS):Prop:=
 p.1++yM o.code p.2.2 p.2.1=pM o.code o.data∧p.2.1.length≤o.data.length∧S.t 4= .d (.slice ((F++p.1).map cM))∧S.own (.t 4 0)=true∧S.t 13= .d (.slice (l.map cN.d))∧S.t 14= .d (.int .i64 l.length)∧S.t 15= .d (.int .i64 i)∧
 S.t 6= .ptr (fo+6) g 0∧S.fo=fo∧S.gen (fo+6)=g∧S.box (fo+6)=(cells o.d).map .d∧S.t 7= .d (.slice (p.2.1.map cM))∧S.t 8= .d (.bool p.2.2)
theorem GS(c:Int)(f:Bool)(r:List UInt8)(h: ¬(f=false∧r= [])):
 yM c f r=(ld c::ld (min (r.length:Int) 255)::r.take (min r.length 255))++yM c false (r.drop (min r.length 255)):=by
 unfold yM;rw[if_neg h];by_cases hr:255<r.length
 ·have e1:min r.length 255=255:=by omega
  have e2:min (r.length:Int) 255=255:=by omega
  rw[e1,e2,qD hr,if_neg (fun hh=>by have:=congrArg List.length hh.2;simp at this;omega),Kv]
  rfl
 ·have e1:min r.length 255=r.length:=by omega
  have e2:min (r.length:Int) 255=r.length:=by omega
  rw[e1,e2,la hr,if_pos ⟨rfl,List.drop_length⟩,List.take_length,List.append_nil]
set_option maxHeartbeats 1000000 in
theorem I2(l:List cN)(hl:sized l):cD Tryz.prog 127 [.d (.slice (l.map cN.d))] (.tup [.d (.slice ((if cI l=true then eD l else[]).map cM)),.d (.int .i64 (if cI l=true then 0 else 1))]) (fun _=>false):=by
 refine cD.bi Tryz.func127 [30,46] ?_;have q:=su l hl
 cases hr:cI l with
 |false=>
  rw[hr]at q
  simp-implicitDefEqProofs (disch:=try exact dd) [cB, -List.map_take, -List.map_drop, -List.length_flatMap]
  refine oc q ?_
  simp-implicitDefEqProofs (disch:=try exact dd) [cB, -List.map_take, -List.map_drop, -List.length_flatMap]
 |true=>
  rw[hr]at q;obtain⟨hl6,hd⟩:=pz hr;unfold eD
  simp-implicitDefEqProofs (disch:=try exact dd) [cB, -List.map_take, -List.map_drop, -List.length_flatMap]
  refine oc q ?_
  simp-implicitDefEqProofs (disch:=try exact dd) [cB, -List.map_take, -List.map_drop, -List.length_flatMap]
  refine lp (w2I l) (fun i=>l.length-i) 0 ⟨by omega,by simp,by simp,by simp,by simp,by simp⟩ ?_
  rintro i S ⟨hi,e4,o4,e13,e14,e15⟩;by_cases hlt:i<l.length
  ·have k6:(i:Int)<l.length:=by omega
   have hz:=hd _ (List.getElem_mem hlt);have hs:= @xI _ _ ru l i hlt;have hb1:ru l[i]=pM l[i].code l[i].data:=rfl;have ho:=Cj l[i].code 600 l[i].data hz;have hf:=uy (l:=l.take i) fun o h=>hd o (aA h)
   simp only[List.length_take]at hf;have hnn:nth l (i:Int)=l[i]:=dB hlt;rw[hb1]at hs
   generalize(l.take i).flatMap ru=F at*
   generalize l[i]=o at*
   simp-implicitDefEqProofs (disch:=try exact dd) [cB, -List.map_take, -List.map_drop, -List.length_flatMap,e4,o4,e13,e14,e15,k6,hnn]
   refine lp (w2J l i F o S.fo (S.gen (S.fo+6)+1)) (fun p=>p.2.1.length+(if p.2.2=true then 1 else 0)) ([],o.data,true) (by refine⟨by simp[yM],by simp,?_,?_,?_,?_,?_,?_,?_,?_,?_,?_,?_⟩<;>simp-implicitDefEqProofs (disch:=try exact dd) [cB, -List.map_take, -List.map_drop, -List.length_flatMap,e4,o4,e13,e14,e15]) ?_
   clear e4 o4 e13 e14 e15;rintro⟨P,R,f⟩ S1 ⟨hP,hR,e4,o4,e13,e14,e15,e6,efo,eg,eb,e7,e8⟩;simp only at hP hR e4 e7 e8;simp only[cN.iR,eu,List.map_cons,List.map_nil]at eb;have hPl:P.length≤(pM o.code o.data).length:=by rw[←hP];simp
   by_cases hst:f=false∧R= []
   ·obtain⟨rfl,rfl⟩:=hst;have hP2:P=pM o.code o.data:=by rw[←hP];simp[yM]
    subst hP2
    simp-implicitDefEqProofs (disch:=try exact dd) [cB, -List.map_take, -List.map_drop, -List.length_flatMap,e4,o4,e13,e14,e15,e6,efo,eg,eb,e7,e8]
    exact cE (i+1) (by refine⟨by omega,by rw[hs];simp-implicitDefEqProofs (disch:=try exact dd) [cB, -List.map_take, -List.map_drop, -List.length_flatMap,e4],?_,?_,?_,?_⟩<;>simp-implicitDefEqProofs (disch:=try exact dd) [cB, -List.map_take, -List.map_drop, -List.length_flatMap,o4,e13,e14]) (by omega)
   ·have hts:=GS o.code f R hst;rw[hts,←List.append_assoc]at hP;have hmn:min (R.length:Int) 255=((min R.length 255:Nat):Int):=by omega
    have hmi:(if(255:Int)<R.length then(255:Int)else R.length)=((min R.length 255:Nat):Int):=by split<;>omega
    have hmt:min R.length 255≤R.length:=by omega
    have hmx:min R.length 255≤255:=by omega
    have hmz:R≠ []→0<min R.length 255:=fun h=>by have:=List.length_pos_iff.2 h;omega
    rw[hmn]at hP;generalize min R.length 255=n at*
    have hgo:f=true∨(f=false∧(0:Int)<R.length):=by
     cases f with
     |true=>exact .inl rfl
     |false=>exact .inr ⟨rfl,by have:=List.length_pos_iff.2 (fun h:R= []=>hst ⟨rfl,h⟩);omega⟩
    have hdec:R.length-n+0<R.length+(if f=true then 1 else 0):=by
     rcases hgo with h|⟨h,h2⟩
     ·rw[if_pos h];omega
     ·have:=hmz (fun e=>by rw[e]at h2;simp at h2)
      omega
    clear hst hts hmz;rcases hgo with rfl|⟨rfl,hp0⟩
    ·simp-implicitDefEqProofs (disch:=try exact dd) [cB, -List.map_take, -List.map_drop, -List.length_flatMap,e4,o4,e13,e14,e15,e6,efo,eg,eb,e7,e8,hmi,pk]
     exact cE (P++(ld o.code::ld n::R.take n),R.drop n,false) (by refine⟨by simpa using hP,by simp;omega,?_,?_,?_,?_,?_,?_,?_,?_,?_,?_,?_⟩<;>simp-implicitDefEqProofs (disch:=try exact dd) [cB, -List.map_take, -List.map_drop, -List.length_flatMap,e4,o4,e13,e14,e15,e6,efo,eg,eb]) (by simpa using hdec)
    ·simp-implicitDefEqProofs (disch:=try exact dd) [cB, -List.map_take, -List.map_drop, -List.length_flatMap,e4,o4,e13,e14,e15,e6,efo,eg,eb,e7,e8,hmi,hp0,pk]
     exact cE (P++(ld o.code::ld n::R.take n),R.drop n,false) (by refine⟨by simpa using hP,by simp;omega,?_,?_,?_,?_,?_,?_,?_,?_,?_,?_,?_⟩<;>simp-implicitDefEqProofs (disch:=try exact dd) [cB, -List.map_take, -List.map_drop, -List.length_flatMap,e4,o4,e13,e14,e15,e6,efo,eg,eb]) (by simpa using hdec)
  ·have k6: ¬(i:Int)<l.length:=by omega
   have hf:=uy (l:=l) fun o h=>hd o h
   rw[List.take_of_length_le (by omega)]at e4
   simp-implicitDefEqProofs (disch:=try exact dd) [cB, -List.map_take, -List.map_drop, -List.length_flatMap,e4,o4,e13,e14,e15,k6]
def tc(m:ee):List UInt8:= [m.op,m.htype,m.hlen,m.hops].flatMap (fun v=>di v 1)++di m.xid 4++di m.secs 2++di m.flags 2++ [m.ci,m.yi,m.si,m.gi].flatMap (fun v=>di v 4)++m.chaddr++List.replicate 192 0++ [99,130,83,99]++eD m.opts
def kS(m:ee):List UInt8:=tc m++List.replicate (300-(tc m).length) 0
def gz(m:ee):List UInt8×Int:=if db m=false then([],1)else if 1500<(tc m).length then([],3)else(kS m,0)
structure No(m:ee):Prop where
 op:0≤m.op∧m.op≤255
 ht:0≤m.htype∧m.htype≤255
 hl:0≤m.hlen∧m.hlen≤16
 hp:0≤m.hops∧m.hops≤255
 xid:0≤m.xid∧m.xid≤4294967295
 secs:0≤m.secs∧m.secs≤65535
 flags:0≤m.flags∧m.flags≤65535
 ci:0≤m.ci∧m.ci≤4294967295
 yi:0≤m.yi∧m.yi≤4294967295
 si:0≤m.si∧m.si≤4294967295
 gi:0≤m.gi∧m.gi≤4294967295
 ch:m.chaddr.length=16
 ro:cI m.opts=true
theorem ki{m:ee}(h:db m=true):No m:=by
 simp only[db,Bool.and_eq_true,decide_eq_true_eq]at h;obtain⟨⟨⟨⟨⟨⟨⟨⟨⟨⟨⟨⟨⟨h1,h2⟩,h3⟩,h4⟩,h5⟩,h6⟩,h7⟩,h8⟩,h9⟩,h10⟩,h11⟩,h12⟩,h13⟩,_⟩:=h;exact⟨h1,h2,h3,h4,dI.1 h5,h6,h7,dI.1 h8,dI.1 h9,dI.1 h10,dI.1 h11,h12,h13⟩
theorem uf(v:Int)(n:Nat)(hk:ij v n=true)(no g:Nat){fo:Nat}{gl:Nat→Nat}(hno:no<fo)(hg:0<g)(xs:List UInt8)(hx:xs.length≤100000):
 de Tryz.prog fo gl 125 [.d (.int .i64 v),.d (.int .i64 n),.ptr no g 0] [⟨no,g,[.d (.slice (xs.map cM))],fun k=>k==0⟩] (.tup []) (fun _=>false) [⟨no,g,[.d (.slice ((xs++di v n).map cM))],fun k=>k==0⟩]:=by
 refine de.bi Tryz.func125 [13] (by simp[cH,cS,hg]) (by simp[cH,cS,hg]) (by simp[hg]) ?_
 have hk1: ∀k,(no=fo+k)=False:=fun k=>by simp;omega
 have hk2: ∀k,(fo+k=no)=False:=fun k=>by simp;omega
 have q:=Br v n;rw[hk,if_pos rfl,if_pos rfl,Int.toNat_natCast]at q;have hpl:=nq n v;have hn:n≤7:=by simp only[ij,decide_eq_true_eq]at hk;omega
 simp-implicitDefEqProofs (disch:=try exact dd) [cB,hk1,hk2]
 refine oc q ?_
 simp-implicitDefEqProofs (disch:=try exact dd) [cB,hk1,hk2]
theorem OH{v:Int}(h:0≤v∧v≤255):ij v 1=true:=by
 have:(256:Int)^(1:Int).toNat=256:=by decide
 simp only[ij,decide_eq_true_eq,this];omega
theorem Jw{v:Int}(h:0≤v∧v≤65535):ij v 2=true:=by
 have:(256:Int)^(2:Int).toNat=65536:=by decide
 simp only[ij,decide_eq_true_eq,this];omega
theorem F2{v:Int}(h:0≤v∧v≤4294967295):ij v 4=true:=by
 have:(256:Int)^(4:Int).toNat=4294967296:=by decide
 simp only[ij,decide_eq_true_eq,this];omega
def QQ(xs:List UInt8)(S:PS):Prop:=S.t 4= .ptr (FO+4) 1 0∧S.t 5= .fn 125 [.ptr (FO+4) 1 0]∧S.fo=FO∧S.gen (FO+4)=1∧S.box (FO+4)= [.d (.slice (xs.map cM))]∧S.own (.b (FO+4) 0)=true
def VW(m:ee)(i:Nat)(S:PS):Prop:=
 i≤4∧S.t 1= .cptr (cells m.d)∧QQ (([m.op,m.htype,m.hlen,m.hops].take i).flatMap (fun v=>di v 1)) S∧S.t 24= .d (.slice [.int .i64 m.op,.int .i64 m.htype,.int .i64 m.hlen,.int .i64 m.hops])∧S.t 25= .d (.int .i64 4)∧S.t 26= .d (.int .i64 i)
def VV(m:ee)(A:List UInt8)(i:Nat)(S:PS):Prop:=
 i≤4∧S.t 1= .cptr (cells m.d)∧QQ (A++([m.ci,m.yi,m.si,m.gi].take i).flatMap (fun v=>di v 4)) S∧S.t 54= .d (.slice [.int .i64 m.ci,.int .i64 m.yi,.int .i64 m.si,.int .i64 m.gi])∧S.t 55= .d (.int .i64 4)∧S.t 56= .d (.int .i64 i)
set_option maxHeartbeats 4000000 in
theorem xc(m:ee)(hm:ez m):cD Tryz.prog 68 [.d m.d] (.tup [.d (.slice ((gz m).1.map cM)),.d (.int .i64 (gz m).2)]) (fun _=>false):=by
 refine cD.bi Tryz.func68 [20001,40032,40037,40041,40045,40062,40071,64,68,78,87] ?_;have q:=sW m hm;unfold gz
 cases hr:db m with
 |false=>
  rw[hr]at q
  simp-implicitDefEqProofs (disch:=try exact dd) [cB]
  refine oc q ?_
  simp-implicitDefEqProofs (disch:=try exact dd) [cB]
 |true=>
  rw[hr]at q;rw[if_neg (by decide)]
  have hn:=ki hr
  simp-implicitDefEqProofs (disch:=try exact dd) [cB]
  refine oc q ?_
  simp-implicitDefEqProofs (disch:=try exact dd) [cB]
  refine lp (VW m) (fun i=>4-i) 0 ⟨by omega,by simp-implicitDefEqProofs (disch:=try exact dd) [cB],(by refine⟨?_,?_,?_,?_,?_,?_⟩<;>simp-implicitDefEqProofs (disch:=try exact dd) [cB]),by simp-implicitDefEqProofs (disch:=try exact dd) [cB],by simp-implicitDefEqProofs (disch:=try exact dd) [cB],by simp-implicitDefEqProofs (disch:=try exact dd) [cB]⟩ ?_
  rintro i S ⟨hi,e1,⟨e4,e5,efo,eg,eb,eo⟩,e24,e25,e26⟩;by_cases hlt:i<4
  ·have hx: ∃x,[m.op,m.htype,m.hlen,m.hops][i]? =some x∧([DV.int .i64 m.op,.int .i64 m.htype,.int .i64 m.hlen,.int .i64 m.hops])[i]? =some (.int .i64 x)∧(0≤x∧x≤255):=by
    match i,hlt with
    |0,_=>exact⟨m.op,rfl,rfl,hn.op⟩
    |1,_=>exact⟨m.htype,rfl,rfl,hn.ht⟩
    |2,_=>exact⟨m.hlen,rfl,rfl,by have:=hn.hl;omega⟩
    |3,_=>exact⟨m.hops,rfl,rfl,hn.hp⟩
   obtain⟨x,hx1,hx2,hx3⟩:=hx;have hs:([m.op,m.htype,m.hlen,m.hops].take (i+1)).flatMap (fun v=>di v 1)=([m.op,m.htype,m.hlen,m.hops].take i).flatMap (fun v=>di v 1)++di x 1:=by
    rw[cw,hx1,bg];simp
   have hl4:(([m.op,m.htype,m.hlen,m.hops].take i).flatMap (fun v=>di v 1)).length≤100:=by
    match i,hlt with
    |0,_=>simp
    |1,_=>simp
    |2,_=>simp
    |3,_=>simp
   generalize([m.op,m.htype,m.hlen,m.hops].take i).flatMap (fun v=>di v 1)=A at*
   have hL:=e24
   generalize[DV.int .i64 m.op,.int .i64 m.htype,.int .i64 m.hlen,.int .i64 m.hops]=L at hL hx2
   have k6:(i:Int)<4:=by omega
   have z:=fun gl=>uf x 1 (OH hx3) (FO+4) 1 (fo:=FO+1000) (gl:=gl) (by omega) (by omega) A (by omega)
   simp-implicitDefEqProofs (disch:=try exact dd) [cB,e1,e4,e5,efo,eg,eb,eo,hL,e25,e26,k6,eK,hx2]
   refine dx (FO+1000) rfl rfl (z _) rfl (by simp-implicitDefEqProofs (disch:=try exact dd) [cB,eg,eb,eo]) ?_
   simp-implicitDefEqProofs (disch:=try exact dd) [cB,e1,e4,e5,efo,eg,eb,eo,hL,e25,e26]
   exact cE (i+1) ⟨by omega,by simp-implicitDefEqProofs (disch:=try exact dd) [cB,e1],(by refine⟨?_,?_,?_,?_,by rw[hs];simp-implicitDefEqProofs (disch:=try exact dd) [cB],?_⟩<;>simp-implicitDefEqProofs (disch:=try exact dd) [cB,e4,e5,efo]),by simp-implicitDefEqProofs (disch:=try exact dd) [cB,e24],by simp-implicitDefEqProofs (disch:=try exact dd) [cB,e25],by simp-implicitDefEqProofs (disch:=try exact dd) [cB]⟩ (by omega)
  ·obtain rfl:i=4:=by omega
   rw[List.take_of_length_le (by simp)]at eb
   obtain⟨A,hA⟩: ∃A,A= [m.op,m.htype,m.hlen,m.hops].flatMap (fun v=>di v 1):=⟨_,rfl⟩
   have hAl:A.length=4:=by rw[hA];simp
   rw[←hA]at eb;have z1:=fun gl=>uf m.xid 4 (F2 hn.xid) (FO+4) 1 (fo:=FO+1000) (gl:=gl) (by omega) (by omega) A (by omega)
   have z2:=fun gl=>uf m.secs 2 (Jw hn.secs) (FO+4) 1 (fo:=FO+1000) (gl:=gl) (by omega) (by omega) (A++di m.xid 4) (by simp;omega)
   have z3:=fun gl=>uf m.flags 2 (Jw hn.flags) (FO+4) 1 (fo:=FO+1000) (gl:=gl) (by omega) (by omega) (A++di m.xid 4++di m.secs 2) (by simp;omega)
   simp-implicitDefEqProofs (disch:=try exact dd) [cB,e1,e4,e5,efo,eg,eb,eo,e24,e25,e26]
   refine dx (FO+1000) rfl rfl (z1 _) rfl (by simp-implicitDefEqProofs (disch:=try exact dd) [cB,eg,eb,eo]) ?_
   simp-implicitDefEqProofs (disch:=try exact dd) [cB,e1,e4,e5,efo,eg,eb,eo]
   refine dx (FO+1000) rfl rfl (z2 _) rfl (by simp-implicitDefEqProofs (disch:=try exact dd) [cB,eg,eb,eo]) ?_
   simp-implicitDefEqProofs (disch:=try exact dd) [cB,e1,e4,e5,efo,eg,eb,eo]
   refine dx (FO+1000) rfl rfl (z3 _) rfl (by simp-implicitDefEqProofs (disch:=try exact dd) [cB,eg,eb,eo]) ?_
   simp-implicitDefEqProofs (disch:=try exact dd) [cB,e1,e4,e5,efo,eg,eb,eo]
   obtain⟨B,hB⟩: ∃B,B=A++di m.xid 4++di m.secs 2++di m.flags 2:=⟨_,rfl⟩;have hBl:B.length=12:=by rw[hB];simp;omega
   refine lp (VV m B) (fun i=>4-i) 0 ⟨by omega,by simp-implicitDefEqProofs (disch:=try exact dd) [cB,e1],(by refine⟨?_,?_,?_,?_,?_,?_⟩<;>simp-implicitDefEqProofs (disch:=try exact dd) [cB,e4,e5,efo,hB]),by simp-implicitDefEqProofs (disch:=try exact dd) [cB],by simp-implicitDefEqProofs (disch:=try exact dd) [cB],by simp-implicitDefEqProofs (disch:=try exact dd) [cB]⟩ ?_
   clear e1 e4 e5 efo eg eb eo e24 e25 e26 z1 z2 z3;rintro i S ⟨hi,e1,⟨e4,e5,efo,eg,eb,eo⟩,e54,e55,e56⟩;by_cases hlt:i<4
   ·have hx: ∃x,[m.ci,m.yi,m.si,m.gi][i]? =some x∧([DV.int .i64 m.ci,.int .i64 m.yi,.int .i64 m.si,.int .i64 m.gi])[i]? =some (.int .i64 x)∧(0≤x∧x≤4294967295):=by
     match i,hlt with
     |0,_=>exact⟨m.ci,rfl,rfl,hn.ci⟩
     |1,_=>exact⟨m.yi,rfl,rfl,hn.yi⟩
     |2,_=>exact⟨m.si,rfl,rfl,hn.si⟩
     |3,_=>exact⟨m.gi,rfl,rfl,hn.gi⟩
    obtain⟨x,hx1,hx2,hx3⟩:=hx;have hs:B++([m.ci,m.yi,m.si,m.gi].take (i+1)).flatMap (fun v=>di v 4)=(B++([m.ci,m.yi,m.si,m.gi].take i).flatMap (fun v=>di v 4))++di x 4:=by
     rw[cw,hx1,bg,List.append_assoc];simp
    have hl4:(B++([m.ci,m.yi,m.si,m.gi].take i).flatMap (fun v=>di v 4)).length≤100:=by
     match i,hlt with
     |0,_=>simp;omega
     |1,_=>simp;omega
     |2,_=>simp;omega
     |3,_=>simp;omega
    generalize B++([m.ci,m.yi,m.si,m.gi].take i).flatMap (fun v=>di v 4)=C at*
    have hL:=e54
    generalize[DV.int .i64 m.ci,.int .i64 m.yi,.int .i64 m.si,.int .i64 m.gi]=L at hL hx2
    have k6:(i:Int)<4:=by omega
    have z:=fun gl=>uf x 4 (F2 hx3) (FO+4) 1 (fo:=FO+1000) (gl:=gl) (by omega) (by omega) C (by omega)
    simp-implicitDefEqProofs (disch:=try exact dd) [cB,e1,e4,e5,efo,eg,eb,eo,hL,e55,e56,k6,eK,hx2]
    refine dx (FO+1000) rfl rfl (z _) rfl (by simp-implicitDefEqProofs (disch:=try exact dd) [cB,eg,eb,eo]) ?_
    simp-implicitDefEqProofs (disch:=try exact dd) [cB,e1,e4,e5,efo,eg,eb,eo,hL,e55,e56]
    exact cE (i+1) ⟨by omega,by simp-implicitDefEqProofs (disch:=try exact dd) [cB,e1],(by refine⟨?_,?_,?_,?_,by rw[hs];simp-implicitDefEqProofs (disch:=try exact dd) [cB],?_⟩<;>simp-implicitDefEqProofs (disch:=try exact dd) [cB,e4,e5,efo]),by simp-implicitDefEqProofs (disch:=try exact dd) [cB,e54],by simp-implicitDefEqProofs (disch:=try exact dd) [cB,e55],by simp-implicitDefEqProofs (disch:=try exact dd) [cB]⟩ (by omega)
   ·obtain rfl:i=4:=by omega
    rw[List.take_of_length_le (by simp)]at eb
    obtain⟨C,hC⟩: ∃C,C=B++ [m.ci,m.yi,m.si,m.gi].flatMap (fun v=>di v 4):=⟨_,rfl⟩
    have hCl:C.length=28:=by rw[hC];simp;omega
    rw[←hC]at eb;have hch:=hn.ch;have q8:=I2 m.opts hm.2;rw[hn.ro,if_pos rfl,if_pos rfl]at q8;have hw:(eD m.opts).length≤72121:=by
     obtain⟨h1,h2⟩:=pz hn.ro;have:=uy h2;simp only[eD,List.length_append,List.length_cons,List.length_nil];omega
    have z:=fun gl=>uf 1669485411 4 (by decide) (FO+4) 1 (fo:=FO+1000) (gl:=gl) (by omega) (by omega) (C++m.chaddr++List.replicate 192 0) (by simp;omega)
    have hp:di 1669485411 4= [99,130,83,99]:=by decide
    rw[hp]at z;have hH:tc m=C++m.chaddr++List.replicate 192 0++ [99,130,83,99]++eD m.opts:=by rw[hC,hB,hA];rfl
    have hHl:(tc m).length=240+(eD m.opts).length:=by rw[hH];simp;omega
    have hZl:(List.replicate 192 (0:UInt8)).length=192:=List.length_replicate;have hZm:List.replicate 192 (DV.int .u8 0)=(List.replicate 192 (0:UInt8)).map cM:=by exact(List.map_replicate ..).symm
    generalize List.replicate 192 (0:UInt8)=Z at*
    simp-implicitDefEqProofs (disch:=try exact dd) [cB,e1,e4,e5,efo,eg,eb,eo,e54,e55,e56, -List.reduceReplicate,hZm]
    refine dx (FO+1000) rfl rfl (z _) rfl (by simp-implicitDefEqProofs (disch:=try exact dd) [cB,eg,eb,eo, -List.reduceReplicate,hZm]) ?_
    simp-implicitDefEqProofs (disch:=try exact dd) [cB,e1,e4,e5,efo,eg,eb,eo]
    refine oc q8 ?_;by_cases h15:1500<(tc m).length
    ·rw[if_pos h15];have k7:(1500:Int)<C.length+(m.chaddr.length+(Z.length+((eD m.opts).length+1+1+1+1))):=by omega
     simp-implicitDefEqProofs (disch:=try exact dd) [cB,e1,e4,e5,efo,eg,eb,eo,k7]
    ·rw[if_neg h15];have k7: ¬(1500:Int)<C.length+(m.chaddr.length+(Z.length+((eD m.opts).length+1+1+1+1))):=by omega
     unfold kS;by_cases h3:(tc m).length<300
     ·have k8:(C.length:Int)+(m.chaddr.length+(Z.length+((eD m.opts).length+1+1+1+1)))<300:=by omega
      have hz0:(300-((C.length:Int)+(m.chaddr.length+(Z.length+((eD m.opts).length+1+1+1+1))))).toNat=300-(tc m).length:=by omega
      have hz1:List.replicate (300-(tc m).length) (DV.int .u8 0)=(List.replicate (300-(tc m).length) (0:UInt8)).map cM:=by simp
      have hz2:(List.replicate (300-(tc m).length) (0:UInt8)).length≤300:=by simp
      rw[←hz0]at hz1 hz2⊢;generalize List.replicate _ (0:UInt8)=Y at*
      rw[hH]
      simp-implicitDefEqProofs (disch:=try exact dd) [cB,e1,e4,e5,efo,eg,eb,eo,k7,k8,hz1]
     ·have k8: ¬(C.length:Int)+(m.chaddr.length+(Z.length+((eD m.opts).length+1+1+1+1)))<300:=by omega
      have hz:300-(tc m).length=0:=by omega
      rw[hz,hH]
      simp-implicitDefEqProofs (disch:=try exact dd) [cB,e1,e4,e5,efo,eg,eb,eo,k7,k8]
def Au(r:rl):Bool:=decide (r.key.length≤1000)
def mO(s:Sub):Bool:=decide (s.pools.length≤20∧s.res.length≤20)&&s.res.all Au
def lI(n:Net):Bool:=decide (n.subs.length≤10)&&n.subs.all mO
def kI(c:dq):Bool:=decide (c.nets.length≤10)&&c.nets.all lI
theorem jy{c:dq}(h:kI c=true):dW c:=by
 simp only[kI,Bool.and_eq_true,decide_eq_true_eq,List.all_eq_true,lI,mO,Au]at h;refine⟨by omega,fun n hn=>?_⟩
 obtain⟨h1,h2⟩:=h.2 n hn;refine⟨by omega,fun s hs=>?_⟩
 obtain⟨⟨h3,h4⟩,h5⟩:=h2 s hs;exact⟨by omega,by omega,fun r hr=>by have:=h5 r hr;omega⟩
def XS(c:dq)(i:Nat)(S:PS):Prop:=
 i≤c.nets.length∧(c.nets.take i).all lI=true∧S.t 1= .cptr (cells c.d)∧S.t 3= .d (.int .i64 i)
def XT(c:dq)(i:Nat)(l:List Sub)(k:Nat)(S:PS):Prop:=
 k≤l.length∧(l.take k).all mO=true∧S.t 1= .cptr (cells c.d)∧S.t 3= .d (.int .i64 i)∧S.t 4= .d (.int .i64 k)
def XR(c:dq)(s:Sub)(i k fo g:Nat)(n:Nat)(S:PS):Prop:=
 n≤s.res.length∧(s.res.take n).all Au=true∧S.t 1= .cptr (cells c.d)∧S.t 3= .d (.int .i64 i)∧S.t 4= .d (.int .i64 k)∧
  S.t 5= .ptr (fo+5) g 0∧S.fo=fo∧S.gen (fo+5)=g∧S.box (fo+5)=(cells s.d).map .d∧S.t 6= .d (.int .i64 n)
theorem td(c:dq):cD Tryz.prog 15 [.d c.d] (.d (.bool (!kI c))) (fun _=>false):=by
 refine cD.bi Tryz.func15 [20001] ?_;by_cases h0:c.nets.length≤10
 ·have h0': ¬(10:Int)<c.nets.length:=by omega
  have hz:kI c=c.nets.all lI:=by simp[kI,h0]
  rw[hz]
  simp-implicitDefEqProofs (disch:=try exact dd) [cB,h0']
  refine lp (XS c) (fun i=>c.nets.length-i) 0 ⟨by omega,by simp,by simp-implicitDefEqProofs (disch:=try exact dd) [cB]⟩ ?_
  rintro i S ⟨hi,ha,e1,e3⟩;by_cases hlt:i<c.nets.length
  ·have k6:(i:Int)<c.nets.length:=by omega
   by_cases h1:c.nets[i].subs.length≤10
   ·have h1': ¬(10:Int)<c.nets[i].subs.length:=by omega
    have hpx:c.nets[i].subs.all mO=false→(!c.nets.all lI)=true:=fun h=>by
     have:=gj (p:=lI) hlt (by simp[lI,h])
     simp[this]
    simp-implicitDefEqProofs (disch:=try exact dd) [cB,e1,e3,k6,h1']
    refine lp (XT c i c.nets[i].subs) (fun k=>c.nets[i].subs.length-k) 0 ⟨by omega,by simp,by simp-implicitDefEqProofs (disch:=try exact dd) [cB,e1,e3]⟩ ?_
    rintro k S ⟨hk,hka,e1,e3,e4⟩;by_cases hlt2:k<c.nets[i].subs.length
    ·have k7:(k:Int)<c.nets[i].subs.length:=by omega
     have hqx:= @gj _ mO _ k hlt2;have hqy:= @dN _ mO _ k hlt2 hka;generalize hx:c.nets[i].subs[k]=s at hqx hqy;by_cases h2:s.pools.length≤20
     ·have h2': ¬(20:Int)<s.pools.length:=by omega
      by_cases h3:s.res.length≤20
      ·have h3': ¬(20:Int)<s.res.length:=by omega
       simp-implicitDefEqProofs (disch:=try exact dd) [cB,e1,e3,e4,k6,k7,hx,h2',h3']
       refine lp (XR c s i k S.fo (S.gen (S.fo+5)+1)) (fun n=>s.res.length-n) 0 ⟨by omega,by simp,by simp-implicitDefEqProofs (disch:=try exact dd) [cB,e1,e3,e4,hx]⟩ ?_
       rintro n S1 ⟨hn,hna,e1,e3,e4,e5,efo,eg,eb,e6⟩;simp only[Sub.iR,eu,List.map_cons,List.map_nil]at eb;by_cases hlt3:n<s.res.length
       ·have k8:(n:Int)<s.res.length:=by omega
        by_cases hb:s.res[n].key.length≤1000
        ·have hb': ¬(1000:Int)<s.res[n].key.length:=by omega
         simp-implicitDefEqProofs (disch:=try exact dd) [cB,e1,e3,e4,e5,efo,eg,eb,e6,k8,hb']
         exact cE (n+1) ⟨by omega,dN hlt3 hna (decide_eq_true hb),by simp-implicitDefEqProofs (disch:=try exact dd) [cB,e1,e3,e4,e5,efo,eg,eb,e6]⟩ (by omega)
        ·have hb':(1000:Int)<s.res[n].key.length:=by omega
         have hz:=hpx (hqx (by simp[mO,gj (p:=Au) hlt3 (decide_eq_false hb)]))
         simp-implicitDefEqProofs (disch:=try exact dd) [cB,e1,e3,e4,e5,efo,eg,eb,e6,k8,hb',hz]
       ·have k8: ¬(n:Int)<s.res.length:=by omega
        have hrall:=eO hlt3 hna
        simp-implicitDefEqProofs (disch:=try exact dd) [cB,e1,e3,e4,e5,efo,eg,eb,e6,k8]
        exact cE (k+1) ⟨by omega,hqy (by simp[mO,h2,h3,hrall]),by simp-implicitDefEqProofs (disch:=try exact dd) [cB,e1,e3,e4]⟩ (by omega)
      ·have h3':(20:Int)<s.res.length:=by omega
       have hz:=hpx (hqx (by simp[mO,h3]))
       simp-implicitDefEqProofs (disch:=try exact dd) [cB,e1,e3,e4,k6,k7,hx,h2',h3',hz]
     ·have h2':(20:Int)<s.pools.length:=by omega
      have hz:=hpx (hqx (by simp[mO,h2]))
      simp-implicitDefEqProofs (disch:=try exact dd) [cB,e1,e3,e4,k6,k7,hx,h2',hz]
    ·have k7: ¬(k:Int)<c.nets[i].subs.length:=by omega
     have hall:=eO hlt2 hka
     simp-implicitDefEqProofs (disch:=try exact dd) [cB,e1,e3,e4,k6,k7]
     exact cE (i+1) ⟨by omega,dN hlt ha (by simp[lI,h1,hall]),by simp-implicitDefEqProofs (disch:=try exact dd) [cB,e1,e3,e4]⟩ (by omega)
   ·have h1':(10:Int)<c.nets[i].subs.length:=by omega
    have hz:(!c.nets.all lI)=true:=by
     have:=gj (p:=lI) hlt (by simp[lI,h1])
     simp[this]
    simp-implicitDefEqProofs (disch:=try exact dd) [cB,e1,e3,k6,h1',hz]
  ·have k6: ¬(i:Int)<c.nets.length:=by omega
   rw[eO hlt ha]
   simp-implicitDefEqProofs (disch:=try exact dd) [cB,e1,e3,k6]
 ·have h0':(10:Int)<c.nets.length:=by omega
  have hz:kI c=false:=by simp[kI,h0]
  rw[hz]
  simp-implicitDefEqProofs (disch:=try exact dd) [cB,h0']
def g7:dq:=⟨167772161,300,[⟨[⟨167772160,24,[⟨167772170,167772180⟩],[⟨[105,48,49],167772165⟩],1,167772161,600⟩]⟩]⟩
theorem Md:cD Tryz.prog 48 [] (.d g7.d) (fun _=>false):=by
 refine cD.bi Tryz.func48 [] ?_
 simp-implicitDefEqProofs (disch:=try exact dd) [cB,g7]
theorem kr:dW g7:=by
 refine⟨by decide,fun n hn=>?_⟩
 simp only[g7,List.mem_singleton]at hn;subst hn;refine⟨by decide,fun s hs=>?_⟩
 simp only[List.mem_singleton]at hs;subst hs;exact⟨by decide,by decide,by simp⟩
theorem Cn(b:List UInt8)(hl:b.length≤100000):cD Tryz.prog 50 [.d (.slice (b.map cM))] (.tup [.d (jB b).2.d,.d (.int .i64 (jB b).1)]) (fun _=>false):=MA HH b hl
theorem Fc(m:ee):(kS m).length=max (tc m).length 300:=by
 unfold kS;simp only[List.length_append,List.length_replicate];omega
def Rd(l:List cN)(b:List UInt8)(r:Int×List cN):Prop:= ∀n,b.length≤n→mu n l b=r
theorem Rd.s{b:List UInt8}{r:Int×List cN}(h:Rd [] b r):sK b=r:=h _ (Nat.le_refl _)
theorem Rl(n:Nat)(l:List cN)(r:List UInt8):mu (n+1) l (255::r)=(0,l):=by
 unfold mu;rw[if_pos (by decide)]
theorem Rk(n:Nat)(l:List cN)(c k:UInt8)(r:List UInt8):mu (n+1) l (c::k::r)=if c.toNat=255 then(0,l)else if c.toNat=0 then mu n l (k::r)else if r.length<k.toNat then(2,[])else if cI (df l ⟨c.toNat,r.take k.toNat⟩)=true then mu n (df l ⟨c.toNat,r.take k.toNat⟩) (r.drop k.toNat)else(3,[]):=by
 conv=>lhs;unfold mu
theorem OE(l:List cN)(z:List UInt8):Rd l (255::z) (0,l):=by
 intro n hn
 match n,hn with
 |0,hn=>simp at hn
 |n+1,hn=>exact Rl n l z
theorem wJ{l:List cN}{c k:UInt8}{d rest:List UInt8}{r:Int×List cN}(h1:1≤c.toNat)(h2:c.toNat≤254)(hk:k.toNat=d.length)(hr:cI (df l ⟨c.toNat,d⟩)=true)(h:Rd (df l ⟨c.toNat,d⟩) rest r):Rd l (c::k::(d++rest)) r:=by
 intro n hn;simp only[List.length_cons,List.length_append]at hn
 match n,hn with
 |n+1,hn=>
  have ht:(d++rest).take k.toNat=d:=by rw[hk];simp
  have hd:(d++rest).drop k.toNat=rest:=by rw[hk];simp
  rw[Rk,if_neg (by omega),if_neg (by omega),ht,hd]
  rw[if_neg (by simp only[List.length_append];omega),if_pos hr]
  exact h n (by omega)
theorem Eh{c:Int}(h:0≤c∧c≤255):((ld c).toNat:Int)=c:=by rw[xh];omega
theorem Eg{n:Nat}(h:n≤255):(ld (n:Int)).toNat=n:=by have:=Eh (c:=n) (by omega);omega
theorem Mk{o:cN}:vA o=true↔(1≤o.code∧o.code≤254)∧o.data.length≤600:=by simp[vA]
theorem jR{l:List cN}:cI l=true↔l.length≤60∧(∀o∈l,(1≤o.code∧o.code≤254)∧o.data.length≤600)∧(l.map cN.code).Nodup:=by
 simp only[cI,Bool.and_eq_true,decide_eq_true_eq,List.all_eq_true,Mk,and_assoc]
theorem lN{l r:List cN}{c:Int}{d e:List UInt8}(h:cI (l++⟨c,d⟩::r)=true)(he:e.length≤d.length):cI (l++ [⟨c,e⟩])=true:=by
 rw[jR]at h⊢;obtain⟨h1,h2,h3⟩:=h;refine⟨by simp at h1⊢;omega,fun o ho=>?_,?_⟩
 ·rcases List.mem_append.1 ho with h|h
  ·exact h2 o (by simp[h])
  ·have hc:=h2 ⟨c,d⟩ (by simp)
   simp only[List.mem_singleton]at h;subst h;dsimp only at hc⊢;omega
 ·have:((l++ [(⟨c,e⟩:cN)]).map cN.code).Sublist ((l++(⟨c,d⟩:cN)::r).map cN.code):=by
   simp only[List.map_append,List.map_cons,List.map_nil]
   exact(List.Sublist.refl _).append (by simp)
  exact h3.sublist this
theorem va{l r:List cN}{o:cN}(h:((l++o::r).map cN.code).Nodup):iy l o.code<0:=by
 rw[kG];intro x hx e;rw[List.map_append,List.nodup_append]at h;exact h.2.2 _ (List.mem_map_of_mem hx) _ (by simp) e
theorem ui{l:List cN}{c:Int}{p d:List UInt8}(h:iy l c<0):df (l++ [⟨c,p⟩]) ⟨c,d⟩=l++ [⟨c,p++d⟩]:=by
 have hi:iy (l++ [⟨c,p⟩]) c=(l.length:Nat):=by
  refine n6 _ c l.length (by simp) (fun j hj e=>?_) (by simp)
  rw[List.getElem_append_left hj]at e
  exact(kG l c).1 h _ (List.getElem_mem hj) e
 rw[nD (i:=l.length) (by simp) hi]
 simp
theorem L6{l r:List cN}{c:Int}{D rest:List UInt8}{q:Int×List cN}(hr:cI (l++⟨c,D⟩::r)=true):
 ∀(n:Nat) (p d:List UInt8),d.length≤n→p++d=D→Rd (l++ [⟨c,D⟩]) rest q→Rd (l++ [⟨c,p⟩]) (pM c d++rest) q:=by
 have hc:1≤c∧c≤254:=((jR.1 hr).2.1 ⟨c,D⟩ (by simp)).1
 have hf:iy l c<0:=va (o:=⟨c,D⟩) (jR.1 hr).2.2;have hl:=Eh (c:=c) (by omega)
 intro n
 induction n with
 |zero=>
  intro p d hd e h;have:d= []:=List.length_eq_zero_iff.1 (by omega)
  subst this;rw[la (by simp)]
  have hj:=ui (p:=p) (d:= []) hf;refine wJ (d:= []) (by omega) (by omega) (Eg (by simp)) ?_ ?_
  ·rw[hl,hj];exact lN hr (by rw[e];exact Nat.le_refl _)
  ·rw[hl,hj,e];exact h
 |succ n ih=>
  intro p d hd e h;by_cases hb:255<d.length
  ·rw[qD hb];have hj:=ui (p:=p) (d:=d.take 255) hf;have e2:p++d.take 255++d.drop 255=D:=by rw[List.append_assoc,ay];exact e
   have:=ih (p++d.take 255) (d.drop 255) (by simp;omega) e2 h
   simp only[List.cons_append,List.append_assoc];refine wJ (d:=d.take 255) (by omega) (by omega) (by rw[List.length_take,Nat.min_eq_left (by omega)];decide) ?_ ?_
   ·rw[hl,hj];exact lN hr (by have:=congrArg List.length e2;simp only[List.length_append]at this⊢;omega)
   ·rw[hl,hj];exact this
  ·rw[la hb];have hj:=ui (p:=p) (d:=d) hf;simp only[List.cons_append];refine wJ (d:=d) (by omega) (by omega) (Eg (by omega)) ?_ ?_
   ·rw[hl,hj];exact lN hr (by rw[e];exact Nat.le_refl _)
   ·rw[hl,hj,e];exact h
theorem OD{l r:List cN}{c:Int}{D rest:List UInt8}{q:Int×List cN}(hr:cI (l++⟨c,D⟩::r)=true)(h:Rd (l++ [⟨c,D⟩]) rest q):Rd l (pM c D++rest) q:=by
 have hc:1≤c∧c≤254:=((jR.1 hr).2.1 ⟨c,D⟩ (by simp)).1
 have hf:iy l c<0:=va (o:=⟨c,D⟩) (jR.1 hr).2.2;have hl:=Eh (c:=c) (by omega)
 by_cases hb:255<D.length
 ·rw[qD hb];have hj:df l ⟨c,D.take 255⟩=l++ [⟨c,D.take 255⟩]:=jX hf;simp only[List.cons_append,List.append_assoc];refine wJ (d:=D.take 255) (by omega) (by omega) (by rw[List.length_take,Nat.min_eq_left (by omega)];decide) ?_ ?_
  ·rw[hl,hj];exact lN hr (by simp;omega)
  ·rw[hl,hj];exact L6 hr _ _ _ (Nat.le_refl _) (ay 255 D) h
 ·rw[la hb];have hj:df l ⟨c,D⟩=l++ [⟨c,D⟩]:=jX hf;simp only[List.cons_append];refine wJ (d:=D) (by omega) (by omega) (Eg (by omega)) ?_ ?_
  ·rw[hl,hj];exact lN hr (Nat.le_refl _)
  ·rw[hl,hj];exact h
theorem B9(z:List UInt8): ∀(r l:List cN),cI (l++r)=true→Rd l (eD r++z) (0,l++r)
 | [],l,h=>by
   rw[List.append_nil];exact OE l z
 |⟨c,D⟩::r,l,h=>by
  have e:eD (⟨c,D⟩::r)++z=pM c D++(eD r++z):=by simp[eD,ru]
  rw[e];refine OD h ?_;have:=B9 z r (l++ [⟨c,D⟩]) (by simpa using h)
  simpa using this
theorem ub{l:List cN}(h:cI l=true)(z:List UInt8):sK (eD l++z)=(0,l):=(B9 z l [] (by simpa using h)).s
theorem ia{v:Int}{k a n:Nat}{z:List UInt8}(h:k≤a):h_ (di v k++z) a n=h_ z (a-k) n:=by
 unfold h_;rw[List.drop_append,List.drop_eq_nil_of_le (by simpa using h)]
 simp
theorem ic{v:Int}{a n:Nat}{z:List UInt8}(h:a=0):h_ (di v n++z) a n=fC (di v n):=by
 unfold h_;subst h;rw[List.drop_zero,List.take_left' (nq n v)]
theorem DW{v:Int}(h:0≤v∧v≤255):fC (di v 1)=v:=pJ 1 v h.1 (by omega)
theorem Ru{v:Int}(h:0≤v∧v≤65535):fC (di v 2)=v:=pJ 2 v h.1 (by omega)
theorem Jz{v:Int}(h:0≤v∧v≤4294967295):fC (di v 4)=v:=pJ 4 v h.1 (by omega)
structure Tb(m:ee):Prop where
 op:0≤m.op∧m.op≤255
 ht:0≤m.htype∧m.htype≤255
 hl:0≤m.hlen∧m.hlen≤16
 hp:0≤m.hops∧m.hops≤255
 xid:0≤m.xid∧m.xid≤4294967295
 secs:0≤m.secs∧m.secs≤65535
 flags:0≤m.flags∧m.flags≤65535
 ci:0≤m.ci∧m.ci≤4294967295
 yi:0≤m.yi∧m.yi≤4294967295
 si:0≤m.si∧m.si≤4294967295
 gi:0≤m.gi∧m.gi≤4294967295
 ch:m.chaddr.length=16
theorem No.l{m:ee}(h:No m):Tb m:=⟨h.op,h.ht,h.hl,h.hp,h.xid,h.secs,h.flags,h.ci,h.yi,h.si,h.gi,h.ch⟩
def vF(m:ee):List UInt8:=di m.op 1++di m.htype 1++di m.hlen 1++di m.hops 1++di m.xid 4++di m.secs 2++di m.flags 2++di m.ci 4++di m.yi 4++di m.si 4++di m.gi 4++m.chaddr
theorem Gp{m:ee}(h:m.chaddr.length=16):(vF m).length=44:=by simp[vF,h]
theorem KO(m:ee):tc m=vF m++(List.replicate 192 0++([99,130,83,99]++eD m.opts)):=by
 simp[tc,vF,List.append_assoc]
theorem HY{m:ee}(h:Tb m){A rest b:List UInt8}(hA:A.length=192)(hb:b=vF m++(A++([99,130,83,99]++rest)))(hlen:b.length≤1500):
 jB b=if(gE b).1≠0 then((gE b).1,m0)else(0,{m with opts:=(gE b).2}):=by
 have h4:=Gp h.ch;have hbl:240≤b.length:=by rw[hb];simp[h4,hA];omega
 have c:h_ b 236 4=1669485411:=by
  have e:b=(vF m++A)++([99,130,83,99]++rest):=by rw[hb];simp only[List.append_assoc]
  unfold h_;rw[e,List.drop_left' (by simp[h4,hA])]
  rfl
 have e: ∃R,b=di m.op 1++(di m.htype 1++(di m.hlen 1++(di m.hops 1++(di m.xid 4++(di m.secs 2++(di m.flags 2++(di m.ci 4++(di m.yi 4++(di m.si 4++(di m.gi 4++R)))))))))):=⟨m.chaddr++(A++([99,130,83,99]++rest)),by rw[hb];simp only[vF,List.append_assoc]⟩
 obtain⟨R,e⟩:=e;have v0:h_ b 0 1=m.op:=by
  rw[e]
  repeat rw[ia (by decide)]
  rw[ic (by decide),DW h.op]
 have v1:h_ b 1 1=m.htype:=by
  rw[e]
  repeat rw[ia (by decide)]
  rw[ic (by decide),DW h.ht]
 have v2:h_ b 2 1=m.hlen:=by
  rw[e]
  repeat rw[ia (by decide)]
  rw[ic (by decide),DW (by have:=h.hl;omega)]
 have v3:h_ b 3 1=m.hops:=by
  rw[e]
  repeat rw[ia (by decide)]
  rw[ic (by decide),DW h.hp]
 have v4:h_ b 4 4=m.xid:=by
  rw[e]
  repeat rw[ia (by decide)]
  rw[ic (by decide),Jz h.xid]
 have v8:h_ b 8 2=m.secs:=by
  rw[e]
  repeat rw[ia (by decide)]
  rw[ic (by decide),Ru h.secs]
 have v10:h_ b 10 2=m.flags:=by
  rw[e]
  repeat rw[ia (by decide)]
  rw[ic (by decide),Ru h.flags]
 have v12:h_ b 12 4=m.ci:=by
  rw[e]
  repeat rw[ia (by decide)]
  rw[ic (by decide),Jz h.ci]
 have v16:h_ b 16 4=m.yi:=by
  rw[e]
  repeat rw[ia (by decide)]
  rw[ic (by decide),Jz h.yi]
 have v20:h_ b 20 4=m.si:=by
  rw[e]
  repeat rw[ia (by decide)]
  rw[ic (by decide),Jz h.si]
 have v24:h_ b 24 4=m.gi:=by
  rw[e]
  repeat rw[ia (by decide)]
  rw[ic (by decide),Jz h.gi]
 have vc:(b.take 44).drop 28=m.chaddr:=by
  have e1:b.take 44=vF m:=by rw[hb];exact List.take_left' h4
  have e2:vF m=(di m.op 1++di m.htype 1++di m.hlen 1++di m.hops 1++di m.xid 4++di m.secs 2++di m.flags 2++di m.ci 4++di m.yi 4++di m.si 4++di m.gi 4)++m.chaddr:=rfl;rw[e1,e2];exact List.drop_left' (by simp)
 unfold jB Ui;rw[if_neg (by omega),if_neg (by omega),c,v2,if_neg (by have:=h.hl;omega),v0,v1,v3,v4,v8,v10,v12,v16,v20,v24,vc]
theorem G9{m:ee}(h:No m)(h52:cY m.opts 52=none):db m=true:=by
 simp only[db,Bool.and_eq_true,decide_eq_true_eq,dI,h52,Option.isNone_none];exact⟨⟨⟨⟨⟨⟨⟨⟨⟨⟨⟨⟨⟨h.op,h.ht⟩,h.hl⟩,h.hp⟩,h.xid⟩,h.secs⟩,h.flags⟩,h.ci⟩,h.yi⟩,h.si⟩,h.gi⟩,h.ch⟩,h.ro⟩,trivial⟩
theorem OZ{m:ee}(h:db m=true):cY m.opts 52=none:=by
 simp only[db,Bool.and_eq_true]at h;exact Option.isNone_iff_eq_none.1 h.2
theorem JP{b:List UInt8}{l:List cN}{z:List UInt8}(hb:b.drop 240=eD l++z)(hr:cI l=true)(h52:cY l 52=none):gE b=(0,l):=by
 unfold gE;rw[hb,ub hr,An h52];rw[if_neg (by simp),if_neg (by simp),AS]
theorem back(m:ee)(h:db m=true)(hlen:(kS m).length≤1500):jB (kS m)=(0,m):=by
 have hn:=(ki h).l;have hb:kS m=vF m++(List.replicate 192 0++([99,130,83,99]++(eD m.opts++List.replicate (300-(tc m).length) 0))):=by
  unfold kS
  conv=>lhs;lhs;rw[KO]
  simp only[List.append_assoc]
 have ho:gE (kS m)=(0,m.opts):=by
  refine JP (z:=List.replicate (300-(tc m).length) 0) ?_ (ki h).ro (OZ h);have e:kS m=(vF m++(List.replicate 192 0++ [99,130,83,99]))++(eD m.opts++List.replicate (300-(tc m).length) 0):=by rw[hb];simp only[List.append_assoc]
  rw[e];exact List.drop_left' (by simp[Gp hn.ch])
 rw[HY hn (List.length_replicate) hb hlen,ho];rfl
theorem jv(b:List UInt8)(a n:Nat)(h:a+n≤b.length):0≤h_ b a n∧h_ b a n<256^n:=pj n _ (by simp;omega)
theorem Ag(l:List cN):cY (dv l 52) 52=none:=by
 simp[cY,dv,List.find?_eq_none]
theorem nR{l:List cN}{c:Int}:cY l c=none↔ ∀o∈l,o.code≠c:=by
 simp[cY,List.find?_eq_none]
theorem join_none{l:List cN}{o:cN}{c:Int}(h:cY l c=none)(ho:o.code≠c):cY (df l o) c=none:=by
 rw[nR]at h⊢;intro x hx;unfold df at hx
 split at hx
 ·rename_i hh;rcases bs hx with h1|h1
  ·exact h x h1
  ·subst h1;exact h (l[(iy l o.code).toNat]'hh.1) (List.getElem_mem hh.1)
 ·rcases List.mem_append.1 hx with h1|h1
  ·exact h x h1
  ·simp only[List.mem_singleton]at h1;subst h1;exact ho
theorem zL{c:Int}: ∀(xs l:List cN),cY l c=none→(∀o∈xs,o.code≠c)→cY (xs.foldl df l) c=none
 | [],l,h,_=>h
 |x::xs,l,h,hx=>zL xs _ (join_none h (hx x (by simp))) fun o ho=>hx o (by simp[ho])
theorem qH{l:List cN}(hl:cI l=true)(h:cY l 52=none)(a:List UInt8)(h0:(fi l a).1=0):cI (fi l a).2=true∧cY (fi l a).2 52=none:=by
 have he:=nA hl a;have hr:cI (fi l a).2=true:=by
  rcases he with h1|h1
  ·exact h1.2
  ·rw[h0]at h1;rcases h1.1 with h|h<;>exact absurd h (by decide)
 refine⟨hr,?_⟩;unfold fi at h0⊢;have hr2:=oz a;generalize sK a=p at*
 obtain⟨e,m⟩:=p;dsimp only at*
 split at h0
 ·rename_i hne;exact absurd h0 hne
 ·rename_i hne;rw[if_neg hne];have hm:cI m=true:=by
   rcases hr2 with h1|h1
   ·exact h1.2
   ·exact absurd (by rcases h1.1 with h|h<;>rw[h]<;>decide) hne
  cases hf:cY m 52 with
  |some d=>rw[hf]at h0;simp at h0
  |none=>
   rw[hf]at h0;rw[bj,if_neg (by decide)]at h0⊢
   unfold vD at h0⊢;rw[if_pos ⟨hl,hm⟩]at h0⊢;split
   ·rw[xq hl];exact zL m l h (nR.1 hf)
   ·rename_i hc;rw[if_neg hc]at h0;exact absurd h0 (by decide)
theorem D3(b:List UInt8)(h0:(gE b).1=0):cI (gE b).2=true∧cY (gE b).2 52=none:=by
 unfold gE at h0⊢;have he:=oz (b.drop 240);generalize sK (b.drop 240)=p at*
 obtain⟨e,l⟩:=p;dsimp only at*
 split at h0
 ·rename_i hne;exact absurd h0 hne
 ·rename_i hne;rw[if_neg hne];have hl:cI l=true:=by
   rcases he with h1|h1
   ·exact h1.2
   ·exact absurd (by rcases h1.1 with h|h<;>rw[h]<;>decide) hne
  cases hf:cY l 52 with
  |none=>
   rw[An hf,if_neg (by simp),AS]
   exact⟨hl,hf⟩
  |some d=>
   match d,hf with
   | [],hf=>rw[FF hf]at h0;simp at h0
   |x::y::r,hf=>rw[FE hf]at h0;simp at h0
   | [x],hf=>
     rw[Ao hf]at h0⊢;by_cases h13:1≤x.toNat∧x.toNat≤3
     ·rw[if_pos h13]at h0⊢;rw[if_neg (by simp)]at h0⊢
      have hw:=mN (c:=52) hl;have hwn:=Ag l;have h123:x.toNat=1∨x.toNat=2∨x.toNat=3:=by omega
      dsimp only at h0⊢;generalize dv l 52=m at*
      rcases h123 with h|h|h
      ·have hx:(x.toNat:Int)=1:=by omega
       rw[hx]at h0⊢;rw[D2]at h0⊢;exact qH hw hwn _ h0
      ·have hx:(x.toNat:Int)=2:=by omega
       rw[hx]at h0⊢;rw[D1]at h0⊢;exact qH hw hwn _ h0
      ·have hx:(x.toNat:Int)=3:=by omega
       rw[hx]at h0⊢;rw[AR]at h0⊢
       split at h0
       ·rename_i hn;exact absurd h0 hn
       ·rename_i hn;rw[if_neg hn];have h1:=qH hw hwn _ (bp.1 hn);exact qH h1.1 h1.2 _ h0
     ·rw[if_neg h13]at h0;simp at h0
theorem Hl(b:List UInt8)(h0:(jB b).1=0):db (jB b).2=true:=by
 unfold jB at h0⊢
 split at h0
 ·exact absurd h0 (by decide)
 ·rename_i h1;rw[if_neg h1]
  split at h0
  ·exact absurd h0 (by decide)
  ·rename_i h2;rw[if_neg h2]
   split at h0
   ·exact absurd h0 (by decide)
   ·rename_i h3;rw[if_neg h3]
    split at h0
    ·rename_i h4;exact absurd h0 h4
    ·rename_i h4;rw[if_neg h4];obtain⟨hr,hn⟩:=D3 b (bp.1 h4)
     generalize(gE b).2=l at hr hn⊢
     have w0:=jv b 0 1 (by omega)
     have w1:=jv b 1 1 (by omega)
     have w2:=jv b 2 1 (by omega)
     have w3:=jv b 3 1 (by omega)
     have w4:=jv b 4 4 (by omega)
     have w8:=jv b 8 2 (by omega)
     have w10:=jv b 10 2 (by omega)
     have w12:=jv b 12 4 (by omega)
     have w16:=jv b 16 4 (by omega)
     have w20:=jv b 20 4 (by omega)
     have w24:=jv b 24 4 (by omega)
     have p1:(256:Int)^1=256:=by decide
     have p2:(256:Int)^2=65536:=by decide
     have p4:(256:Int)^4=4294967296:=by decide
     rw[p1]at w0 w1 w2 w3;rw[p2]at w8 w10;rw[p4]at w4 w12 w16 w20 w24;have hch:((b.take 44).drop 28).length=16:=by simp;omega
     exact G9 ⟨⟨w0.1,by show h_ b 0 1≤255;omega⟩,⟨w1.1,by show h_ b 1 1≤255;omega⟩,⟨w2.1,by show h_ b 2 1≤16;omega⟩,⟨w3.1,by show h_ b 3 1≤255;omega⟩,⟨w4.1,by show h_ b 4 4≤4294967295;omega⟩,⟨w8.1,by show h_ b 8 2≤65535;omega⟩,⟨w10.1,by show h_ b 10 2≤65535;omega⟩,
      ⟨w12.1,by show h_ b 12 4≤4294967295;omega⟩,⟨w16.1,by show h_ b 16 4≤4294967295;omega⟩,⟨w20.1,by show h_ b 20 4≤4294967295;omega⟩,⟨w24.1,by show h_ b 24 4≤4294967295;omega⟩,hch,hr⟩ hn
theorem L8(b:List UInt8)(h0:(jB b).1≠0):(jB b).2=m0:=by
 unfold jB at h0⊢;split
 ·rfl
 ·rename_i h1;rw[if_neg h1]at h0;split
  ·rfl
  ·rename_i h2;rw[if_neg h2]at h0;split
   ·rfl
   ·rename_i h3;rw[if_neg h3]at h0;split
    ·rfl
    ·rename_i h4;rw[if_neg h4]at h0;exact absurd rfl h0
theorem K4{l:List cN}{o:cN}(h:cY l o.code=none):cY (l++ [o]) o.code=some o.data:=by
 have:=nR.1 h;have h2:l.find? (fun x=>decide (x.code=o.code))=none:=by rw[List.find?_eq_none];simpa using this
 simp[cY,bq,h2]
theorem BE{l:List cN}{d:List UInt8}(h:cY l 52=none):dv (l++ [⟨52,d⟩]) 52=l:=by
 have:=nR.1 h;unfold dv;rw[List.filter_append];have h2:l.filter (fun o=>decide (o.code≠52))=l:=by rw[List.filter_eq_self];simpa using this
 rw[h2];simp
theorem G8{l:List cN}(hr:cI l=true)(h:cY l 52=none)(hl:l.length<60):cI (l++ [⟨52,[3]⟩])=true:=by
 rw[jR]at hr⊢;refine⟨by simp;omega,fun o ho=>?_,?_⟩
 ·rcases List.mem_append.1 ho with h1|h1
  ·exact hr.2.1 o h1
  ·simp only[List.mem_singleton]at h1;subst h1;simp
 ·rw[List.map_append,List.nodup_append];refine⟨hr.2.2,by simp,fun a ha b hb e=>?_⟩
  simp at hb;subst hb;subst e;obtain⟨o,ho,e⟩:=List.mem_map.1 ha;exact nR.1 h o ho e
theorem Ge{l f:List cN}{a z:List UInt8}(ha:a=eD f++z)(hf:cI f=true)(h52:cY f 52=none):fi l a=vD l f:=by
 unfold fi;rw[ha,ub hf];rw[if_neg (by simp)]
 show(if(cY f 52).isSome=true then _ else _)=_
 rw[h52,bj,if_neg (by decide)]
def Lv(l f n:List cN):Int×List cN:=if(vD l f).1≠0 then vD l f else vD (vD l f).2 n
theorem abU{b:List UInt8}{l f n:List cN}{z z1 z2:List UInt8}(hb:b.drop 240=eD (l++ [⟨52,[3]⟩])++z)(h1:(b.take 236).drop 108=eD f++z1)(h2:(b.take 108).drop 44=eD n++z2)
 (hl:cI l=true) (h52:cY l 52=none) (hl60:l.length<60) (hf:cI f=true) (hn:cI n=true) (hf52:cY f 52=none) (hn52:cY n 52=none):gE b=Lv l f n:=by
 have hfind:=K4 (l:=l) (o:=⟨52,[3]⟩) h52;unfold gE;rw[hb,ub (G8 hl h52 hl60)];rw[if_neg (by simp)]
 have e3:ji (l++ [⟨52,[3]⟩])=(0,l,3):=by
  rw[Ao hfind,if_pos (by decide),BE h52]
  rfl
 show(if(ji (l++ [⟨52,[3]⟩])).1≠0 then _ else _)=_
 rw[e3,if_neg (by simp)]
 show kV l 3 b=_
 rw[AR,Ge h1 hf hf52,Ge h2 hn hn52];unfold Lv;rfl
def dZ(xs:List cC)(a:Int):Nat:=(xs.takeWhile fun b=>decide (b.addr<a)).length
def um(xs:List cC)(a:Int):Bool:=decide (dZ xs a<xs.length)&&decide ((xs.getD (dZ xs a) default).addr=a)
def pe(xs:List cC)(l:cC):List cC:=if um xs l.addr=true then xs.set (dZ xs l.addr) l else xs.take (dZ xs l.addr)++l::xs.drop (dZ xs l.addr)
def ei(ls:List cC):List cC:=ls.foldl pe []
def pg(xs:List cC):Prop:=xs.Pairwise fun a b=>a.addr<b.addr
theorem oJ(ls:List cC)(l:cC):ei (ls++ [l])=pe (ei ls) l:=by simp[ei]
theorem vV(xs:List cC)(a:Int):dZ xs a≤xs.length:=(List.takeWhile_sublist _).length_le
theorem F3{xs:List cC}{a:Int}{j:Nat}(h:j<dZ xs a)(hl:j<xs.length):xs[j].addr<a:=by
 have h1:(xs.takeWhile fun b=>decide (b.addr<a))=xs.take (dZ xs a):=List.prefix_iff_eq_take.1 (List.takeWhile_prefix (l:=xs) (fun b=>decide (b.addr<a)))
 have h2:xs[j]∈xs.takeWhile fun b=>decide (b.addr<a):=by
  rw[h1,List.mem_take_iff_getElem];exact⟨j,by omega,rfl⟩
 have h3:=List.all_eq_true.1 (List.all_takeWhile (l:=xs) (p:=fun b=>decide (b.addr<a))) _ h2
 simpa using h3
theorem F4{xs:List cC}{a:Int}(h:dZ xs a<xs.length):a≤xs[dZ xs a].addr:=by
 have h1:=bY (l:=xs) (p:=fun b=>decide (b.addr<a))
 have h2:(xs.dropWhile fun b=>decide (b.addr<a))=xs.drop (dZ xs a):=by
  have h3:=congrArg (List.drop (dZ xs a)) h1;unfold dZ at h3⊢;rw[List.drop_left]at h3;exact h3
 have h4:(xs.dropWhile fun b=>decide (b.addr<a)).head?=some xs[dZ xs a]:=by
  rw[h2,List.head?_drop];simp[h]
 have h5:=List.head?_dropWhile_not (fun b:cC=>decide (b.addr<a)) xs
 rw[h4]at h5;simp at h5;exact h5
theorem sM{xs:List cC}{a:Int}{i:Nat}(hi:i≤xs.length)(h1: ∀j (h:j<xs.length),j<i→xs[j].addr<a)(h2: ∀h:i<xs.length,a≤xs[i].addr):dZ xs a=i:=by
 rcases Nat.lt_trichotomy (dZ xs a) i with h|h|h
 ·have h3:dZ xs a<xs.length:=by omega
  have:=h1 _ h3 h;have:=F4 h3;omega
 ·exact h
 ·have h3:i<xs.length:=by have:=vV xs a;omega
  have:=F3 h h3;have:=h2 h3;omega
theorem jx{xs:List cC}(h:pg xs){i j:Nat}(hj:j<xs.length)(hij:i<j):(xs[i]'(by omega)).addr<xs[j].addr:=(List.pairwise_iff_getElem.1 h) i j (by omega) hj hij
theorem Jb{xs:List cC}(h:pg xs){i j:Nat}(hi:i<xs.length)(hj:j<xs.length)(e:xs[i].addr=xs[j].addr):i=j:=by
 rcases Nat.lt_trichotomy i j with h1|h1|h1
 ·have:=jx h hj h1;omega
 ·exact h1
 ·have:=jx h hi h1;omega
theorem A_{xs:List cC}(h:pg xs){a:Int}:um xs a=true↔ ∃b∈xs,b.addr=a:=by
 constructor
 ·intro h1;simp only[um,Bool.and_eq_true,decide_eq_true_eq]at h1;obtain⟨h2,h3⟩:=h1;rw[List.getD_eq_getElem?_getD,List.getElem?_eq_getElem h2]at h3;exact⟨_,List.getElem_mem h2,h3⟩
 ·rintro⟨b,hb,rfl⟩;obtain⟨i,hi,rfl⟩:=List.mem_iff_getElem.1 hb;have:dZ xs xs[i].addr=i:=sM (by omega) (fun j hj hji=>jx h hi hji) (fun _=>Int.le_refl _)
  simp only[um,this,hi,bG,List.getD_eq_getElem?_getD,List.getElem?_eq_getElem hi,Option.getD_some,Bool.and_self]
theorem qP{xs:List cC}{a:Int}(h:um xs a=true): ∃hl:dZ xs a<xs.length,xs[dZ xs a].addr=a:=by
 simp only[um,Bool.and_eq_true,decide_eq_true_eq]at h;obtain⟨h2,h3⟩:=h;rw[List.getD_eq_getElem?_getD,List.getElem?_eq_getElem h2]at h3;exact⟨h2,h3⟩
theorem uo{xs:List cC}(h:pg xs)(l:cC):pg (pe xs l)∧ ∀b,b∈pe xs l↔b=l∨(b∈xs∧b.addr≠l.addr):=by
 unfold pe;split
 ·rename_i hc;obtain⟨hl,he⟩:=qP hc;constructor
  ·unfold pg;rw[List.pairwise_iff_getElem];intro i j hi hj hij;simp only[List.length_set]at hi hj;simp only[List.getElem_set];have:=jx h hj hij;split
   ·rename_i e;subst e;rw[if_neg (by omega)]
    omega
   ·split
    ·rename_i e;subst e;omega
    ·exact this
  ·intro b;constructor
   ·intro hb;rw[List.mem_iff_getElem]at hb;obtain⟨i,hi,rfl⟩:=hb;simp only[List.length_set]at hi;simp only[List.getElem_set];split
    ·exact .inl rfl
    ·rename_i hne;refine .inr ⟨List.getElem_mem _,fun e=>hne ?_⟩
     exact Jb h hl hi (by rw[he,e])
   ·rintro(rfl|⟨hb,hne⟩)
    ·exact List.mem_iff_getElem.2 ⟨dZ xs b.addr,by simpa using hl,by simp⟩
    ·obtain⟨i,hi,rfl⟩:=List.mem_iff_getElem.1 hb;refine List.mem_iff_getElem.2 ⟨i,by simpa using hi,?_⟩
     rw[List.getElem_set_ne];intro e;subst e;exact hne he
 ·rename_i hc;have hno: ∀b∈xs,b.addr≠l.addr:=fun b hb e=>hc ((A_ h).2 ⟨b,hb,e⟩)
  have hlo: ∀b∈xs.take (dZ xs l.addr),b.addr<l.addr:=by
   intro b hb;obtain⟨j,hj,rfl⟩:=List.mem_take_iff_getElem.1 hb;exact F3 (by omega) (by omega)
  have hhi: ∀b∈xs.drop (dZ xs l.addr),l.addr<b.addr:=by
   intro b hb;obtain⟨j,hj,rfl⟩:=List.mem_drop_iff_getElem.1 hb;have ha:dZ xs l.addr<xs.length:=by omega
   have h0:=F4 ha;have h1:=hno _ (List.getElem_mem ha);by_cases e0:j=0
   ·subst e0;simp only[bN];omega
   ·have:=jx (i:=dZ xs l.addr) (j:=dZ xs l.addr+j) h (by omega) (by omega)
    omega
  constructor
  ·unfold pg;rw[List.pairwise_append];refine⟨List.Pairwise.sublist (List.take_sublist _ _) h,List.pairwise_cons.2 ⟨hhi,List.Pairwise.sublist (List.drop_sublist _ _) h⟩,fun a ha b hb=>?_⟩
   rcases List.mem_cons.1 hb with rfl|hb
   ·exact hlo a ha
   ·have:=hlo a ha;have:=hhi b hb;omega
  ·intro b;rw[List.mem_append,List.mem_cons];have hm:b∈xs↔b∈xs.take (dZ xs l.addr)∨b∈xs.drop (dZ xs l.addr):=by
    rw[←List.mem_append,ay]
   constructor
   ·rintro(hb|rfl|hb)
    ·exact .inr ⟨hm.2 (.inl hb),hno _ (hm.2 (.inl hb))⟩
    ·exact .inl rfl
    ·exact .inr ⟨hm.2 (.inr hb),hno _ (hm.2 (.inr hb))⟩
   ·rintro(rfl|⟨hb,_⟩)
    ·exact .inr (.inl rfl)
    ·rcases hm.1 hb with h1|h1
     ·exact .inl h1
     ·exact .inr (.inr h1)
def yk(ls:List cC)(b:cC):Prop:= ∃p q,ls=p++b::q∧ ∀c∈q,c.addr≠b.addr
theorem Cy{ls:List cC}{l b:cC}:yk (ls++ [l]) b↔b=l∨(yk ls b∧b.addr≠l.addr):=by
 constructor
 ·rintro⟨p,q,e,hq⟩;by_cases h:q= []
  ·subst h;have:=List.append_inj' e rfl;exact .inl (by have:=this.2;simp at this;exact this.symm)
  ·obtain⟨q',x,rfl⟩: ∃q' x,q=q'++ [x]:=⟨q.dropLast,q.getLast h,(bE h).symm⟩;rw[←List.cons_append,←List.append_assoc]at e;obtain⟨e1,e2⟩:=List.append_inj' e rfl;simp at e2;subst e2;exact .inr ⟨⟨p,q',e1,fun c hc=>hq c (by simp[hc])⟩,fun e=>hq l (by simp) e.symm⟩
 ·rintro(rfl|⟨⟨p,q,e,hq⟩,hne⟩)
  ·exact⟨ls,[],rfl,by simp⟩
  ·refine⟨p,q++ [l],by rw[e];simp,fun c hc=>?_⟩
   rcases List.mem_append.1 hc with h|h
   ·exact hq c h
   ·simp at h;subst h;exact fun e=>hne e.symm
theorem lC{p:List cC→Prop}(h0:p [])(hs: ∀l x,p l→p (l++ [x])): ∀l,p l:=by
 intro l;have: ∀n (l:List cC),l.length=n→p l:=by
  intro n
  induction n with
  |zero=>intro l h;rw[List.eq_nil_of_length_eq_zero h];exact h0
  |succ n ih=>
   intro l h;have hne:l≠ []:=fun e=>by subst e;simp at h
   rw[←bE hne];exact hs _ _ (ih _ (by simp[h]))
 exact this l.length l rfl
theorem rS(ls:List cC):pg (ei ls)∧ ∀b,b∈ei ls↔yk ls b:=by
 induction ls using lC with
 |h0=>
  refine⟨List.Pairwise.nil,fun b=>⟨fun h=>by simp[ei]at h,?_⟩⟩
  rintro⟨p,q,e,_⟩;simp at e
 |hs ls l ih=>
  obtain⟨h1,h2⟩:=uo ih.1 l;rw[oJ];refine⟨h1,fun b=>?_⟩
  rw[h2,Cy,ih.2]
theorem BV: ∀ {xs ys:List cC},pg xs→pg ys→(∀b,b∈xs↔b∈ys)→xs=ys
 | [],[],_,_,_=>rfl
 | [],y::ys,_,_,h=>by have:=(h y).2 (by simp);simp at this
 |x::xs,[],_,_,h=>by have:=(h x).1 (by simp);simp at this
 |x::xs,y::ys,hx,hy,h=>by
  have hx':=List.pairwise_cons.1 hx;have hy':=List.pairwise_cons.1 hy;have e:x=y:=by
   have h1:=(h x).1 (by simp)
   have h2:=(h y).2 (by simp)
   rcases List.mem_cons.1 h1 with h1|h1
   ·exact h1
   ·rcases List.mem_cons.1 h2 with h2|h2
    ·exact h2.symm
    ·have:=hy'.1 x h1;have:=hx'.1 y h2;omega
  subst e
  congr 1
  refine BV hx'.2 hy'.2 fun b=>?_
  have hb:=h b;rw[List.mem_cons,List.mem_cons]at hb;constructor
  ·intro hm;rcases hb.1 (.inr hm)with rfl|h1
   ·have:=hx'.1 _ hm;omega
   ·exact h1
  ·intro hm;rcases hb.2 (.inr hm)with rfl|h1
   ·have:=hy'.1 _ hm;omega
   ·exact h1
theorem En{xs:List cC}(h:pg xs){b:cC}:yk xs b↔b∈xs:=by
 constructor
 ·rintro⟨p,q,rfl,_⟩;simp
 ·intro hb;obtain⟨p,q,rfl⟩:=List.append_of_mem hb;refine⟨p,q,rfl,fun c hc=>?_⟩
  have:=(List.pairwise_append.1 h).2.1;have:=(List.pairwise_cons.1 this).1 c hc;omega
theorem HP{xs:List cC}(h:pg xs):ei xs=xs:=by
 obtain⟨h1,h2⟩:=rS xs;exact BV h1 h fun b=>by rw[h2,En h]
theorem pU(ls:List cC):ei (ei ls)=ei ls:=HP (rS ls).1
theorem Eo{ls:List cC}{b:cC}(h:yk ls b):b∈ls:=by
 obtain⟨p,q,rfl,_⟩:=h;simp
theorem CI(xs:List cC)(l:cC):(pe xs l).length=if um xs l.addr=true then xs.length else xs.length+1:=by
 unfold pe;have:=vV xs l.addr;split
 ·simp
 ·simp;omega
theorem lB(ls:List cC):(ei ls).length≤ls.length:=by
 induction ls using lC with
 |h0=>simp[ei]
 |hs ls l ih=>
  rw[oJ,CI,List.length_append];simp only[List.length_cons,List.length_nil]
  split<;>omega
theorem HQ{ls:List cC}{b:cC}(h:b∈ei ls):b∈ls:=Eo (((rS ls).2 b).1 h)
end Go.Proofs.YtoilfihojgeonaaGreatDoor
