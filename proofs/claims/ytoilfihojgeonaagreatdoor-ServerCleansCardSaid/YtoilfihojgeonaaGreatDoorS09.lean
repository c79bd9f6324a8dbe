/- Configurations: what the program's conf answers. -/
import Derived.Test.YtoilfihojgeonaaGreatDoorS06
import Derived.Test.YtoilfihojgeonaaGreatDoorS08
namespace Go.Proofs.YtoilfihojgeonaaGreatDoor
open BoEng Go
set_option maxRecDepth 100000
set_option linter.unusedSimpArgs false
set_option linter.unusedVariables false
structure rk where
 first:Int
 last:Int
 deriving Inhabited,DecidableEq
def rk.d(p:rk):DV:= .agg [.int .i64 p.first,.int .i64 p.last]
@[simp] theorem rk.iR(p:rk):p.d= .agg [.int .i64 p.first,.int .i64 p.last]:=rfl
structure rl where
 key:List UInt8
 addr:Int
 deriving Inhabited,DecidableEq
def rl.d(r:rl):DV:= .agg [.str r.key,.int .i64 r.addr]
@[simp] theorem rl.iR(r:rl):r.d= .agg [.str r.key,.int .i64 r.addr]:=rfl
structure Sub where
 base:Int
 bits:Int
 pools:List rk
 res:List rl
 iface:Int
 router:Int
 time:Int
 deriving Inhabited,DecidableEq
def Sub.d(s:Sub):DV:= .agg [.int .i64 s.base,.int .i64 s.bits,.slice (s.pools.map rk.d),.slice (s.res.map rl.d),.int .i64 s.iface,.int .i64 s.router,.int .i64 s.time]
@[simp] theorem Sub.iR(s:Sub):s.d= .agg [.int .i64 s.base,.int .i64 s.bits,.slice (s.pools.map rk.d),.slice (s.res.map rl.d),.int .i64 s.iface,.int .i64 s.router,.int .i64 s.time]:=rfl
structure Net where
 subs:List Sub
 deriving Inhabited,DecidableEq
def Net.d(n:Net):DV:= .agg [.slice (n.subs.map Sub.d)]
@[simp] theorem Net.iR(n:Net):n.d= .agg [.slice (n.subs.map Sub.d)]:=rfl
structure dq where
 server:Int
 probation:Int
 nets:List Net
 deriving Inhabited,DecidableEq
def dq.d(c:dq):DV:= .agg [.int .i64 c.server,.int .i64 c.probation,.slice (c.nets.map Net.d)]
@[simp] theorem dq.iR(c:dq):c.d= .agg [.int .i64 c.server,.int .i64 c.probation,.slice (c.nets.map Net.d)]:=rfl
structure du where
 net:Nat
 sub:Nat
 s:Sub
 deriving Inhabited,DecidableEq
def du.d(x:du):DV:= .agg [.int .i64 x.net,.int .i64 x.sub,.int .i64 x.s.base,.int .i64 x.s.bits,.slice (x.s.pools.map rk.d),.slice (x.s.res.map rl.d),.int .i64 x.s.iface,.int .i64 x.s.router,.int .i64 x.s.time]
@[simp] theorem du.iR(x:du):x.d= .agg [.int .i64 x.net,.int .i64 x.sub,.int .i64 x.s.base,.int .i64 x.s.bits,.slice (x.s.pools.map rk.d),.slice (x.s.res.map rl.d),.int .i64 x.s.iface,.int .i64 x.s.router,.int .i64 x.s.time]:=rfl
def tU(s:Sub):Prop:=s.pools.length≤1000∧s.res.length≤1000∧ ∀r∈s.res,r.key.length≤100000
def dW(c:dq):Prop:=c.nets.length≤1000∧ ∀n∈c.nets,n.subs.length≤1000∧ ∀s∈n.subs,tU s
theorem dN{α:Type}{p:α→Bool}{l:List α}{i:Nat}(h:i<l.length)(ha:(l.take i).all p=true)(hp:p l[i]=true):(l.take (i+1)).all p=true:=by
 rw[List.take_succ_eq_append_getElem h,b7,ha];simp[hp]
theorem gj{α:Type}{p:α→Bool}{l:List α}{i:Nat}(h:i<l.length)(hp:p l[i]=false):l.all p=false:=by
 rw[List.all_eq_false];exact⟨_,List.getElem_mem h,by simp[hp]⟩
theorem eO{α:Type}{p:α→Bool}{l:List α}{i:Nat}(h: ¬i<l.length)(ha:(l.take i).all p=true):l.all p=true:=by
 rwa[List.take_of_length_le (by omega)]at ha
def B0(p:rk):Bool:=decide (p.first≤p.last)
def wE(r:rl):Bool:=mi r.key
def Cm(n:Net):Bool:=decide (1≤n.subs.length∧n.subs.length≤4)
def nV(s:Sub):Bool:=
 fN s.base s.bits&&decide (8≤s.bits∧s.bits≤30)&&decide (s.pools.length≤4)&&decide (s.res.length≤8)&&decide (0≤s.iface∧s.iface≤99)&&decide (1≤s.time∧s.time≤2147483648)&&
  s.pools.all B0&&s.res.all wE
def iM(k:Nat):Nat→List Sub→List du
 |_,[]=> []
 |i,s::l=>⟨k,i,s⟩::iM k (i+1) l
def gp:Nat→List Net→List du
 |_,[]=> []
 |k,n::l=>iM k 0 n.subs++gp (k+1) l
def cF(c:dq):List du:=gp 0 c.nets
def vh(x:du):Bool:=nV x.s
def me(c:dq):Bool:=dD c.server&&decide (1≤c.probation∧c.probation≤2147483648)&&decide (c.nets.length≤4)&&c.nets.all Cm&&(cF c).all vh
def g_(s:Sub)(a:Int):Bool:=decide (s.base<a∧a<rz s.base s.bits)
def zD(p:rk)(a:Int):Bool:=decide (p.first≤a∧a≤p.last)
def pK(server:Int)(s:Sub)(p:rk):Bool:=g_ s p.first&&g_ s p.last&& !zD p server
def rI(server:Int)(s:Sub)(r:rl):Bool:=g_ s r.addr&& !decide (r.addr=server)
def mo(s:Sub):Bool:=decide (s.router=0)||nI s.base s.bits s.router
def ka(server:Int)(s:Sub):Bool:=s.pools.all (pK server s)&&s.res.all (rI server s)&&mo s
def JH(c:dq)(x:du):Bool:=ka c.server x.s
def kc(c:dq):Bool:=(cF c).all (JH c)
def lP(same:Bool)(a b:rk×Nat):Bool:= !(same&& !decide (a.2=b.2)&&(zD a.1 b.1.first||zD b.1 a.1.first))
def qB(same:Bool)(ys:List rk)(a:rk×Nat):Bool:=ys.zipIdx.all (lP same a)
def ox(one same:Bool)(a b:rl×Nat):Bool:= !((!same|| !decide (a.2=b.2))&&(decide (a.1.addr=b.1.addr)||one&&decide (a.1.key=b.1.key)))
def tY(one same:Bool)(ys:List rl)(a:rl×Nat):Bool:=ys.zipIdx.all (ox one same a)
def j7(x y:du):Bool:= !(sX x.s.base x.s.bits y.s.base y.s.bits|| !decide (x.net=y.net)&&decide (x.s.iface=y.s.iface)&&decide (0<x.s.iface))
def pN(x y:du)(same:Bool):Bool:=(same||j7 x y)&&x.s.pools.zipIdx.all (qB same y.s.pools)&&x.s.res.zipIdx.all (tY (decide (x.net=y.net)) same y.s.res)
def l_(a b:du×Nat):Bool:=pN a.1 b.1 (decide (a.2=b.2))
def qI(l:List du)(a:du×Nat):Bool:=l.zipIdx.all (l_ a)
def ml(c:dq):Bool:=(cF c).zipIdx.all (qI (cF c))
def dH(c:dq):Int:=if me c=true then(if kc c=true then(if ml c=true then 0 else 8)else 9)else 1
def cJ(c:dq):List du:=if dH c=0 then cF c else[]
def gr(c:dq)(a:Int):Option du:=(cJ c).find? fun x=>nI x.s.base x.s.bits a
def sm(c:dq)(i:Int):Option du:=(cJ c).find? fun x=>decide (x.s.iface=i)&&decide (0<i)
theorem yR: ∀(k i:Nat) (l:List Sub),(iM k i l).length=l.length
 |_,_,[]=>rfl
 |k,i,s::l=>by simp[iM,yR k (i+1) l]
theorem yQ: ∀(k i:Nat) (l:List Sub) (x:du),x∈iM k i l→x.s∈l
 |_,_,[],_,h=>by simp[iM]at h
 |k,i,s::l,x,h=>by
  simp only[iM,List.mem_cons]at h⊢;rcases h with rfl|h
  ·exact .inl rfl
  ·exact .inr (yQ k (i+1) l x h)
theorem wx: ∀(k:Nat) (l:List Net) (x:du),x∈gp k l→ ∃n∈l,x.s∈n.subs
 |_,[],_,h=>by simp[gp]at h
 |k,n::l,x,h=>by
  simp only[gp,List.mem_append]at h;rcases h with h|h
  ·exact⟨n,List.mem_cons_self,yQ _ _ _ _ h⟩
  ·obtain⟨m,hm,hx⟩:=wx (k+1) l x h;exact⟨m,al _ hm,hx⟩
theorem wy: ∀(k:Nat) (l:List Net),(∀n∈l,n.subs.length≤1000)→(gp k l).length≤l.length*1000
 |_,[],_=>by simp[gp]
 |k,n::l,h=>by
  have h1:=h n List.mem_cons_self;have h2:=wy (k+1) l fun m hm=>h m (al _ hm)
  simp only[gp,List.length_append,yR,List.length_cons];omega
theorem lv{c:dq}(hc:dW c):(cF c).length≤1000000:=by
 have:=wy 0 c.nets fun n hn=>(hc.2 n hn).1
 have:=hc.1;unfold cF;omega
theorem kg{c:dq}(hc:dW c){i:Nat}(hi:i<(cF c).length):tU (cF c)[i].s:=by
 obtain⟨n,hn,hx⟩:=wx _ _ _ (List.getElem_mem hi)
 exact(hc.2 n hn).2 _ hx
theorem j5(n a b:Int):cD Tryz.prog 163 [.d (.int .i64 n),.d (.int .i64 a),.d (.int .i64 b)] (.d (.bool (decide (a≤n∧n≤b)))) (fun _=>false):=by
 refine cD.bi Tryz.func163 [] ?_
 repeat' (first|(simp-implicitDefEqProofs (disch:=try exact dd) [*,cB])|(refine dt ?_ ?_<;>intro hc<;>have hc2:=hc<;>(try simp only[dQ]at hc2)<;>try omega)|(refine dm ?_ ?_<;>intro hc<;>have hc2:=hc<;>(try simp only[dQ]at hc2)<;>try omega)|(refine dc (by omega) ?_)|(split<;>try omega)|omega)
def spI(c:dq)(i:Nat)(S:PS):Prop:=
 i≤c.nets.length∧(∃out,cF c=out++gp i (c.nets.drop i)∧S.t 3= .d (.slice (out.map du.d))∧S.own (.t 3 0)=true)∧S.t 9= .d (.slice (c.nets.map Net.d))∧S.t 10= .d (.int .i64 c.nets.length)∧S.t 11= .d (.int .i64 i)
def spJ(c:dq)(i:Nat)(l:List Sub)(j:Nat)(S:PS):Prop:=
 j≤l.length∧(∃out,cF c=out++iM i j (l.drop j)++gp (i+1) (c.nets.drop (i+1))∧S.t 3= .d (.slice (out.map du.d))∧S.own (.t 3 0)=true)∧S.t 9= .d (.slice (c.nets.map Net.d))∧S.t 10= .d (.int .i64 c.nets.length)∧S.t 11= .d (.int .i64 i)∧
  S.t 4= .d (.int .i64 i)∧S.t 17= .d (.slice (l.map Sub.d))∧S.t 18= .d (.int .i64 l.length)∧S.t 19= .d (.int .i64 j)
theorem ra(c:dq)(hc:dW c):cD Tryz.prog 164 [.d c.d] (.d (.slice ((cF c).map du.d))) (fun _=>false):=by
 refine cD.bi Tryz.func164 [20001,24] ?_;have hl:=hc.1;have hsl:=lv hc
 simp-implicitDefEqProofs (disch:=try exact dd) [cB]
 refine lp (spI c) (fun i=>c.nets.length-i) 0 ⟨by omega,⟨[],by simp[cF],by simp,by simp⟩,by simp⟩ ?_
 rintro i S ⟨hi,⟨out,ho,e3,o3⟩,e9,e10,e11⟩;by_cases hlt:i<c.nets.length
 ·have k6:(i:Int)<c.nets.length:=by omega
  have hns:=(hc.2 _ (List.getElem_mem hlt)).1;have hd:c.nets.drop i=c.nets[i]::c.nets.drop (i+1):=ai hlt;rw[hd,gp,←List.append_assoc]at ho
  simp-implicitDefEqProofs (disch:=try exact dd) [cB,e3,o3,e9,e10,e11,k6]
  refine lp (spJ c i c.nets[i].subs) (fun j=>c.nets[i].subs.length-j) 0 ⟨by omega,(by refine⟨out,by simpa using ho,?_,?_⟩<;>simp-implicitDefEqProofs (disch:=try exact dd) [cB,e3,o3]),by simp-implicitDefEqProofs (disch:=try exact dd) [cB,e9,e10,e11]⟩ ?_
  rintro j S ⟨hj,⟨out,ho,e3,o3⟩,e9,e10,e11,e4,e17,e18,e19⟩;by_cases hjlt:j<c.nets[i].subs.length
  ·have k7:(j:Int)<c.nets[i].subs.length:=by omega
   have hd:c.nets[i].subs.drop j=c.nets[i].subs[j]::c.nets[i].subs.drop (j+1):=ai hjlt;rw[hd,iM]at ho;have hol:out.length≤1000000:=by
    have:=congrArg List.length ho;simp only[List.length_append]at this;omega
   simp-implicitDefEqProofs (disch:=try exact dd) [cB,e3,o3,e9,e10,e11,e4,e17,e18,e19,k7]
   exact cE (j+1) ⟨by omega,(by refine⟨out++ [⟨i,j,c.nets[i].subs[j]⟩],by simpa using ho,?_,?_⟩<;>simp-implicitDefEqProofs (disch:=try exact dd) [cB,e3,o3]),by simp-implicitDefEqProofs (disch:=try exact dd) [cB,e9,e10,e11,e4,e17,e18,e19]⟩ (by omega)
  ·have k7: ¬(j:Int)<c.nets[i].subs.length:=by omega
   have hd:c.nets[i].subs.drop j= []:=by simp;omega
   rw[hd,iM,List.append_nil]at ho
   simp-implicitDefEqProofs (disch:=try exact dd) [cB,e3,o3,e9,e10,e11,e4,e17,e18,e19,k7]
   exact cE (i+1) ⟨by omega,(by refine⟨out,ho,?_,?_⟩<;>simp-implicitDefEqProofs (disch:=try exact dd) [cB,e3,o3]),by simp-implicitDefEqProofs (disch:=try exact dd) [cB,e9,e10,e11,e4,e17,e18,e19]⟩ (by omega)
 ·have k6: ¬(i:Int)<c.nets.length:=by omega
  have hd:c.nets.drop i= []:=by simp;omega
  rw[hd,gp,List.append_nil]at ho
  simp-implicitDefEqProofs (disch:=try exact dd) [cB,e3,o3,e9,e10,e11,k6,ho]
def fpI(s:Sub)(i:Nat)(S:PS):Prop:=
 i≤s.pools.length∧(s.pools.take i).all B0=true∧S.t 1= .cptr (cells s.d)∧S.t 44= .d (.slice (s.pools.map rk.d))∧S.t 45= .d (.int .i64 s.pools.length)∧S.t 46= .d (.int .i64 i)
def frI(s:Sub)(i:Nat)(S:PS):Prop:=
 i≤s.res.length∧(s.res.take i).all wE=true∧S.t 57= .d (.slice (s.res.map rl.d))∧S.t 58= .d (.int .i64 s.res.length)∧S.t 59= .d (.int .i64 i)
theorem C_(s:Sub)(hs:tU s):cD Tryz.prog 165 [.d s.d] (.d (.bool (nV s))) (fun _=>false):=by
 refine cD.bi Tryz.func165 [20001] ?_;obtain⟨hp,hr,hk⟩:=hs;have q1:=j5 s.bits 8 30;have q2:=j5 s.iface 0 99;have q3:=j5 s.time 1 2147483648;have hd:nV s=(fN s.base s.bits&&decide (8≤s.bits∧s.bits≤30)&&decide (s.pools.length≤4)&&decide (s.res.length≤8)&&decide (0≤s.iface∧s.iface≤99)&&decide (1≤s.time∧s.time≤2147483648)&&
  s.pools.all B0&&s.res.all wE):=rfl
 generalize decide (8≤s.bits∧s.bits≤30)=b1 at q1 hd;generalize decide (0≤s.iface∧s.iface≤99)=b2 at q2 hd;generalize decide (1≤s.time∧s.time≤2147483648)=b3 at q3 hd;have w1:(decide (s.pools.length≤4))= !decide ((4:Int)<s.pools.length):=by rw[Bool.eq_iff_iff];simp;omega
 have w2:(decide (s.res.length≤8))= !decide ((8:Int)<s.res.length):=by rw[Bool.eq_iff_iff];simp;omega
 rw[w1,w2]at hd
 cases h0:fN s.base s.bits with
 |false=>
  rw[hd]
  repeat' (first|(simp-implicitDefEqProofs (disch:=try exact dd) [*,cB])|(refine oc (gB _ _) ?_)|(refine dt ?_ ?_<;>intro hc<;>have hc2:=hc<;>(try simp only[dQ]at hc2)<;>try omega)|(refine dm ?_ ?_<;>intro hc<;>have hc2:=hc<;>(try simp only[dQ]at hc2)<;>try omega)|(refine dc (by omega) ?_)|(split<;>try omega)|omega)
 |true=>
  cases b1 with
  |false=>
   rw[hd]
   repeat' (first|(simp-implicitDefEqProofs (disch:=try exact dd) [*,cB])|(refine oc (gB _ _) ?_)|(refine oc (q1) ?_)|(refine dt ?_ ?_<;>intro hc<;>have hc2:=hc<;>(try simp only[dQ]at hc2)<;>try omega)|(refine dm ?_ ?_<;>intro hc<;>have hc2:=hc<;>(try simp only[dQ]at hc2)<;>try omega)|(refine dc (by omega) ?_)|(split<;>try omega)|omega)
  |true=>
   by_cases k1:(4:Int)<s.pools.length
   ·rw[hd]
    repeat' (first|(simp-implicitDefEqProofs (disch:=try exact dd) [*,cB])|(refine oc (gB _ _) ?_)|(refine oc (q1) ?_)|(refine dt ?_ ?_<;>intro hc<;>have hc2:=hc<;>(try simp only[dQ]at hc2)<;>try omega)|(refine dm ?_ ?_<;>intro hc<;>have hc2:=hc<;>(try simp only[dQ]at hc2)<;>try omega)|(refine dc (by omega) ?_)|(split<;>try omega)|omega)
   ·by_cases k2:(8:Int)<s.res.length
    ·rw[hd]
     repeat' (first|(simp-implicitDefEqProofs (disch:=try exact dd) [*,cB])|(refine oc (gB _ _) ?_)|(refine oc (q1) ?_)|(refine dt ?_ ?_<;>intro hc<;>have hc2:=hc<;>(try simp only[dQ]at hc2)<;>try omega)|(refine dm ?_ ?_<;>intro hc<;>have hc2:=hc<;>(try simp only[dQ]at hc2)<;>try omega)|(refine dc (by omega) ?_)|(split<;>try omega)|omega)
    ·cases b2 with
     |false=>
      rw[hd]
      repeat' (first|(simp-implicitDefEqProofs (disch:=try exact dd) [*,cB])|(refine oc (gB _ _) ?_)|(refine oc (q1) ?_)|(refine oc (q2) ?_)|(refine dt ?_ ?_<;>intro hc<;>have hc2:=hc<;>(try simp only[dQ]at hc2)<;>try omega)|(refine dm ?_ ?_<;>intro hc<;>have hc2:=hc<;>(try simp only[dQ]at hc2)<;>try omega)|(refine dc (by omega) ?_)|(split<;>try omega)|omega)
     |true=>
      cases b3 with
      |false=>
       rw[hd]
       repeat' (first|(simp-implicitDefEqProofs (disch:=try exact dd) [*,cB])|(refine oc (gB _ _) ?_)|(refine oc (q1) ?_)|(refine oc (q2) ?_)|(refine oc (q3) ?_)|(refine dt ?_ ?_<;>intro hc<;>have hc2:=hc<;>(try simp only[dQ]at hc2)<;>try omega)|(refine dm ?_ ?_<;>intro hc<;>have hc2:=hc<;>(try simp only[dQ]at hc2)<;>try omega)|(refine dc (by omega) ?_)|(split<;>try omega)|omega)
      |true=>
       have hd2:nV s=(s.pools.all B0&&s.res.all wE):=by
        rw[hd,h0];simp[k1,k2]
       rw[hd2];clear hd hd2
       simp-implicitDefEqProofs (disch:=try exact dd) [cB]
       refine oc (gB _ _) ?_
       simp-implicitDefEqProofs (disch:=try exact dd) [cB,h0]
       refine oc q1 ?_
       simp-implicitDefEqProofs (disch:=try exact dd) [cB,k1,k2]
       refine oc q2 ?_
       simp-implicitDefEqProofs (disch:=try exact dd) [cB]
       refine oc q3 ?_
       simp-implicitDefEqProofs (disch:=try exact dd) [cB]
       refine lp (fpI s) (fun i=>s.pools.length-i) 0 ⟨by omega,by simp,by simp⟩ ?_
       rintro i S ⟨hi,ha,e1,e44,e45,e46⟩;by_cases hlt:i<s.pools.length
       ·have k6:(i:Int)<s.pools.length:=by omega
        by_cases hb:s.pools[i].first≤s.pools[i].last
        ·have hb': ¬s.pools[i].last<s.pools[i].first:=by omega
         simp-implicitDefEqProofs (disch:=try exact dd) [cB,e1,e44,e45,e46,k6,hb']
         exact cE (i+1) ⟨by omega,dN hlt ha (decide_eq_true hb),by simp-implicitDefEqProofs (disch:=try exact dd) [cB,e1,e44,e45,e46]⟩ (by omega)
        ·have hb':s.pools[i].last<s.pools[i].first:=by omega
         have hbad:=gj (p:=B0) hlt (decide_eq_false hb);rw[hbad]
         simp-implicitDefEqProofs (disch:=try exact dd) [cB,e1,e44,e45,e46,k6,hb']
       ·have k6: ¬(i:Int)<s.pools.length:=by omega
        rw[eO hlt ha]
        simp-implicitDefEqProofs (disch:=try exact dd) [cB,e1,e44,e45,e46,k6]
        refine lp (frI s) (fun i=>s.res.length-i) 0 ⟨by omega,by simp,by simp-implicitDefEqProofs (disch:=try exact dd) [cB]⟩ ?_
        rintro i S ⟨hi,ha,e57,e58,e59⟩;by_cases hlt:i<s.res.length
        ·have k6:(i:Int)<s.res.length:=by omega
         have hkl:=hk _ (List.getElem_mem hlt)
         cases hb:mi s.res[i].key with
         |true=>
          simp-implicitDefEqProofs (disch:=try exact dd) [cB,e57,e58,e59,k6]
          refine oc (s5 s.res[i].key (by omega)) ?_
          simp-implicitDefEqProofs (disch:=try exact dd) [cB,e57,e58,e59,hb]
          exact cE (i+1) ⟨by omega,dN hlt ha hb,by simp-implicitDefEqProofs (disch:=try exact dd) [cB,e57,e58,e59]⟩ (by omega)
         |false=>
          have hbad:=gj (p:=wE) hlt hb;rw[hbad]
          simp-implicitDefEqProofs (disch:=try exact dd) [cB,e57,e58,e59,k6]
          refine oc (s5 s.res[i].key (by omega)) ?_
          simp-implicitDefEqProofs (disch:=try exact dd) [cB,e57,e58,e59,hb]
        ·have k6: ¬(i:Int)<s.res.length:=by omega
         rw[eO hlt ha]
         simp-implicitDefEqProofs (disch:=try exact dd) [cB,e57,e58,e59,k6]
def foI(c:dq)(i:Nat)(S:PS):Prop:=
 i≤c.nets.length∧(c.nets.take i).all Cm=true∧S.t 1= .cptr (cells c.d)∧S.t 24= .d (.slice (c.nets.map Net.d))∧S.t 25= .d (.int .i64 c.nets.length)∧S.t 26= .d (.int .i64 i)
def foJ(c:dq)(i:Nat)(S:PS):Prop:=
 i≤(cF c).length∧((cF c).take i).all vh=true∧S.t 37= .d (.slice ((cF c).map du.d))∧S.t 38= .d (.int .i64 (cF c).length)∧S.t 39= .d (.int .i64 i)
theorem C'(c:dq)(hc:dW c):cD Tryz.prog 94 [.d c.d] (.d (.bool (me c))) (fun _=>false):=by
 refine cD.bi Tryz.func94 [20001] ?_;have hl:=hc.1;have hsl:=lv hc;have q1:=j5 c.probation 1 2147483648;have hd:me c=(dD c.server&&decide (1≤c.probation∧c.probation≤2147483648)&&decide (c.nets.length≤4)&&c.nets.all Cm&&(cF c).all vh):=rfl;generalize decide (1≤c.probation∧c.probation≤2147483648)=b1 at q1 hd;have w1:(decide (c.nets.length≤4))= !decide ((4:Int)<c.nets.length):=by rw[Bool.eq_iff_iff];simp;omega
 rw[w1]at hd
 cases h0:dD c.server with
 |false=>
  rw[hd]
  repeat' (first|(simp-implicitDefEqProofs (disch:=try exact dd) [*,cB])|(refine oc (fV _) ?_)|(refine dt ?_ ?_<;>intro hc<;>have hc2:=hc<;>(try simp only[dQ]at hc2)<;>try omega)|(refine dm ?_ ?_<;>intro hc<;>have hc2:=hc<;>(try simp only[dQ]at hc2)<;>try omega)|(refine dc (by omega) ?_)|(split<;>try omega)|omega)
 |true=>
  cases b1 with
  |false=>
   rw[hd]
   repeat' (first|(simp-implicitDefEqProofs (disch:=try exact dd) [*,cB])|(refine oc (fV _) ?_)|(refine oc (q1) ?_)|(refine dt ?_ ?_<;>intro hc<;>have hc2:=hc<;>(try simp only[dQ]at hc2)<;>try omega)|(refine dm ?_ ?_<;>intro hc<;>have hc2:=hc<;>(try simp only[dQ]at hc2)<;>try omega)|(refine dc (by omega) ?_)|(split<;>try omega)|omega)
  |true=>
   by_cases k1:(4:Int)<c.nets.length
   ·rw[hd]
    repeat' (first|(simp-implicitDefEqProofs (disch:=try exact dd) [*,cB])|(refine oc (fV _) ?_)|(refine oc (q1) ?_)|(refine dt ?_ ?_<;>intro hc<;>have hc2:=hc<;>(try simp only[dQ]at hc2)<;>try omega)|(refine dm ?_ ?_<;>intro hc<;>have hc2:=hc<;>(try simp only[dQ]at hc2)<;>try omega)|(refine dc (by omega) ?_)|(split<;>try omega)|omega)
   ·have hd2:me c=(c.nets.all Cm&&(cF c).all vh):=by
     rw[hd,h0];simp[k1]
    rw[hd2];clear hd hd2
    simp-implicitDefEqProofs (disch:=try exact dd) [cB]
    refine oc (fV _) ?_
    simp-implicitDefEqProofs (disch:=try exact dd) [cB,h0]
    refine oc q1 ?_
    simp-implicitDefEqProofs (disch:=try exact dd) [cB,k1]
    refine lp (foI c) (fun i=>c.nets.length-i) 0 ⟨by omega,by simp,by simp⟩ ?_
    rintro i S ⟨hi,ha,e1,e24,e25,e26⟩;by_cases hlt:i<c.nets.length
    ·have k6:(i:Int)<c.nets.length:=by omega
     have q2:=j5 (c.nets[i].subs.length:Int) 1 4;have w2:decide (1≤c.nets[i].subs.length∧c.nets[i].subs.length≤4)=decide ((1:Int)≤c.nets[i].subs.length∧(c.nets[i].subs.length:Int)≤4):=by rw[Bool.eq_iff_iff];simp;omega
     rw[←w2]at q2
     cases hb:decide (1≤c.nets[i].subs.length∧c.nets[i].subs.length≤4)with
     |true=>
      rw[hb]at q2
      simp-implicitDefEqProofs (disch:=try exact dd) [cB,e1,e24,e25,e26,k6]
      refine oc q2 ?_
      simp-implicitDefEqProofs (disch:=try exact dd) [cB,e1,e24,e25,e26]
      exact cE (i+1) ⟨by omega,dN hlt ha hb,by simp-implicitDefEqProofs (disch:=try exact dd) [cB,e1,e24,e25,e26]⟩ (by omega)
     |false=>
      rw[hb]at q2;have hbad:=gj (p:=Cm) hlt hb;rw[hbad]
      simp-implicitDefEqProofs (disch:=try exact dd) [cB,e1,e24,e25,e26,k6]
      refine oc q2 ?_
      simp-implicitDefEqProofs (disch:=try exact dd) [cB,e1,e24,e25,e26]
    ·have k6: ¬(i:Int)<c.nets.length:=by omega
     rw[eO hlt ha]
     simp-implicitDefEqProofs (disch:=try exact dd) [cB,e1,e24,e25,e26,k6]
     refine oc (ra c hc) ?_
     simp-implicitDefEqProofs (disch:=try exact dd) [cB]
     refine lp (foJ c) (fun i=>(cF c).length-i) 0 ⟨by omega,by simp,by simp-implicitDefEqProofs (disch:=try exact dd) [cB]⟩ ?_
     rintro i S ⟨hi,ha,e37,e38,e39⟩;by_cases hlt:i<(cF c).length
     ·have k6:(i:Int)<(cF c).length:=by omega
      have hsz:=kg hc hlt
      cases hb:nV (cF c)[i].s with
      |true=>
       simp-implicitDefEqProofs (disch:=try exact dd) [cB,e37,e38,e39,k6]
       refine oc (C_ (cF c)[i].s hsz) ?_
       simp-implicitDefEqProofs (disch:=try exact dd) [cB,e37,e38,e39,hb]
       exact cE (i+1) ⟨by omega,dN hlt ha hb,by simp-implicitDefEqProofs (disch:=try exact dd) [cB,e37,e38,e39]⟩ (by omega)
      |false=>
       have hbad:=gj (p:=vh) hlt hb;rw[hbad]
       simp-implicitDefEqProofs (disch:=try exact dd) [cB,e37,e38,e39,k6]
       refine oc (C_ (cF c)[i].s hsz) ?_
       simp-implicitDefEqProofs (disch:=try exact dd) [cB,e37,e38,e39,hb]
     ·have k6: ¬(i:Int)<(cF c).length:=by omega
      rw[eO hlt ha]
      simp-implicitDefEqProofs (disch:=try exact dd) [cB,e37,e38,e39,k6]
theorem sh(s:Sub)(a:Int)(hf:fN s.base s.bits=true):cD Tryz.prog 166 [.d s.d,.d (.int .i64 a)] (.d (.bool (g_ s a))) (fun _=>false):=by
 refine cD.bi Tryz.func166 [20002] ?_;have h:=LB s.base s.bits;rw[if_pos hf,if_pos hf]at h
 repeat' (first|(simp-implicitDefEqProofs (disch:=try exact dd) [*,cB,g_])|(refine oc (h) ?_)|(refine dt ?_ ?_<;>intro hc<;>have hc2:=hc<;>(try simp only[dQ]at hc2)<;>try omega)|(refine dm ?_ ?_<;>intro hc<;>have hc2:=hc<;>(try simp only[dQ]at hc2)<;>try omega)|(refine dc (by omega) ?_)|(split<;>try omega)|omega)
theorem v_(p:rk)(a:Int):cD Tryz.prog 167 [.d p.d,.d (.int .i64 a)] (.d (.bool (zD p a))) (fun _=>false):=by
 refine cD.bi Tryz.func167 [20002] ?_
 repeat' (first|(simp-implicitDefEqProofs (disch:=try exact dd) [*,cB,zD])|(refine oc (j5 a p.first p.last) ?_)|(refine dt ?_ ?_<;>intro hc<;>have hc2:=hc<;>(try simp only[dQ]at hc2)<;>try omega)|(refine dm ?_ ?_<;>intro hc<;>have hc2:=hc<;>(try simp only[dQ]at hc2)<;>try omega)|(refine dc (by omega) ?_)|(split<;>try omega)|omega)
theorem H8{c:dq}(hf:me c=true){i:Nat}(hi:i<(cF c).length):nV (cF c)[i].s=true:=by
 simp only[me,Bool.and_eq_true,List.all_eq_true]at hf;exact hf.2 _ (List.getElem_mem hi)
theorem K8{s:Sub}(h:nV s=true):fN s.base s.bits=true:=by
 simp only[nV,Bool.and_eq_true]at h;exact h.1.1.1.1.1.1.1
def pdI(c:dq)(i:Nat)(S:PS):Prop:=
 i≤(cF c).length∧((cF c).take i).all (JH c)=true∧S.t 1= .cptr (cells c.d)∧S.t 10= .d (.slice ((cF c).map du.d))∧S.t 11= .d (.int .i64 (cF c).length)∧S.t 12= .d (.int .i64 i)
def pdP(c:dq)(x:du)(i fo g:Nat)(k:Nat)(S:PS):Prop:=
 k≤x.s.pools.length∧(x.s.pools.take k).all (pK c.server x.s)=true∧S.t 1= .cptr (cells c.d)∧S.t 10= .d (.slice ((cF c).map du.d))∧S.t 11= .d (.int .i64 (cF c).length)∧S.t 12= .d (.int .i64 i)∧
  S.t 4= .ptr (fo+4) g 0∧S.fo=fo∧S.gen (fo+4)=g∧S.box (fo+4)=(cells x.d).map .d∧S.t 18= .d (.slice (x.s.pools.map rk.d))∧S.t 19= .d (.int .i64 x.s.pools.length)∧S.t 20= .d (.int .i64 k)
def pdR(c:dq)(x:du)(i fo g:Nat)(k:Nat)(S:PS):Prop:=
 k≤x.s.res.length∧(x.s.res.take k).all (rI c.server x.s)=true∧S.t 1= .cptr (cells c.d)∧S.t 10= .d (.slice ((cF c).map du.d))∧S.t 11= .d (.int .i64 (cF c).length)∧S.t 12= .d (.int .i64 i)∧
  S.t 4= .ptr (fo+4) g 0∧S.fo=fo∧S.gen (fo+4)=g∧S.box (fo+4)=(cells x.d).map .d∧S.t 47= .d (.slice (x.s.res.map rl.d))∧S.t 48= .d (.int .i64 x.s.res.length)∧S.t 49= .d (.int .i64 k)
theorem EZ(c:dq)(hc:dW c)(hf:me c=true):cD Tryz.prog 95 [.d c.d] (.d (.bool (kc c))) (fun _=>false):=by
 refine cD.bi Tryz.func95 [20001] ?_;have hsl:=lv hc
 simp-implicitDefEqProofs (disch:=try exact dd) [cB]
 refine oc (ra c hc) ?_
 simp-implicitDefEqProofs (disch:=try exact dd) [cB]
 refine lp (pdI c) (fun i=>(cF c).length-i) 0 ⟨by omega,by simp,by simp-implicitDefEqProofs (disch:=try exact dd) [cB]⟩ ?_
 rintro i S ⟨hi,ha,e1,e10,e11,e12⟩;by_cases hlt:i<(cF c).length
 ·have k6:(i:Int)<(cF c).length:=by omega
  have hsz:=kg hc hlt;have hfa:=K8 (H8 hf hlt);have hpx:= @gj _ (JH c) _ i hlt;have hpy:= @dN _ (JH c) _ i hlt ha;generalize hx:(cF c)[i]=x at hsz hfa hpx hpy;obtain⟨hp,hr,hk⟩:=hsz
  simp-implicitDefEqProofs (disch:=try exact dd) [cB,e1,e10,e11,e12,k6,hx]
  refine lp (pdP c x i S.fo (S.gen (S.fo+4)+1)) (fun k=>x.s.pools.length-k) 0 ⟨by omega,by simp,by simp-implicitDefEqProofs (disch:=try exact dd) [cB,e1,e10,e11,e12]⟩ ?_
  rintro k S1 ⟨hki,hka,e1,e10,e11,e12,e4,efo,eg,eb,e18,e19,e20⟩;simp only[du.iR,eu,List.map_cons,List.map_nil]at eb;by_cases hlt2:k<x.s.pools.length
  ·have k7:(k:Int)<x.s.pools.length:=by omega
   have hbx:= @gj _ (pK c.server x.s) _ k hlt2;have hby:= @dN _ (pK c.server x.s) _ k hlt2 hka;have hdef:pK c.server x.s x.s.pools[k]=(g_ x.s x.s.pools[k].first&&g_ x.s x.s.pools[k].last&& !zD x.s.pools[k] c.server):=rfl
   rw[hdef]at hbx hby;have hpl:(x.s.pools.all (pK c.server x.s))=false→kc c=false:=fun h=>hpx (by simp[JH,ka,h])
   simp-implicitDefEqProofs (disch:=try exact dd) [cB,e1,e10,e11,e12,e4,efo,eg,eb,e18,e19,e20,k7]
   refine oc (sh x.s x.s.pools[k].first hfa) ?_
   cases h1:g_ x.s x.s.pools[k].first with
   |false=>
    have hz:=hpl (hbx (by simp[h1]))
    simp-implicitDefEqProofs (disch:=try exact dd) [cB,hz]
   |true=>
    simp-implicitDefEqProofs (disch:=try exact dd) [cB,e1,e10,e11,e12,e4,efo,eg,eb,e18,e19,e20,k7]
    refine oc (sh x.s x.s.pools[k].last hfa) ?_
    cases h2:g_ x.s x.s.pools[k].last with
    |false=>
     have hz:=hpl (hbx (by simp[h2]))
     simp-implicitDefEqProofs (disch:=try exact dd) [cB,hz]
    |true=>
     simp-implicitDefEqProofs (disch:=try exact dd) [cB,e1,e10,e11,e12,e4,efo,eg,eb,e18,e19,e20,k7]
     refine oc (v_ x.s.pools[k] c.server) ?_
     cases h3:zD x.s.pools[k] c.server with
     |true=>
      have hz:=hpl (hbx (by simp[h3]))
      simp-implicitDefEqProofs (disch:=try exact dd) [cB,hz]
     |false=>
      simp-implicitDefEqProofs (disch:=try exact dd) [cB,e1,e10,e11,e12,e4,efo,eg,eb,e18,e19,e20,k7]
      exact cE (k+1) ⟨by omega,hby (by simp[h1,h2,h3]),by simp-implicitDefEqProofs (disch:=try exact dd) [cB,e1,e10,e11,e12,e4,efo,eg,eb,e18,e19,e20]⟩ (by omega)
  ·have k7: ¬(k:Int)<x.s.pools.length:=by omega
   have hpall:=eO hlt2 hka
   simp-implicitDefEqProofs (disch:=try exact dd) [cB,e1,e10,e11,e12,e4,efo,eg,eb,e18,e19,e20,k7]
   refine lp (pdR c x i S.fo (S.gen (S.fo+4)+1)) (fun k=>x.s.res.length-k) 0 ⟨by omega,by simp,by simp-implicitDefEqProofs (disch:=try exact dd) [cB,e1,e10,e11,e12,e4,efo,eg,eb]⟩ ?_
   clear e1 e10 e11 e12 e4 efo eg eb e18 e19 e20;rintro k S2 ⟨hki,hka,e1,e10,e11,e12,e4,efo,eg,eb,e47,e48,e49⟩;simp only[du.iR,eu,List.map_cons,List.map_nil]at eb;by_cases hlt3:k<x.s.res.length
   ·have k7:(k:Int)<x.s.res.length:=by omega
    have hbx:= @gj _ (rI c.server x.s) _ k hlt3;have hby:= @dN _ (rI c.server x.s) _ k hlt3 hka;have hdef:rI c.server x.s x.s.res[k]=(g_ x.s x.s.res[k].addr&& !decide (x.s.res[k].addr=c.server)):=rfl;rw[hdef]at hbx hby;have hpl:(x.s.res.all (rI c.server x.s))=false→kc c=false:=fun h=>hpx (by simp[JH,ka,h])
    simp-implicitDefEqProofs (disch:=try exact dd) [cB,e1,e10,e11,e12,e4,efo,eg,eb,e47,e48,e49,k7]
    refine oc (sh x.s x.s.res[k].addr hfa) ?_
    cases h1:g_ x.s x.s.res[k].addr with
    |false=>
     have hz:=hpl (hbx (by simp[h1]))
     simp-implicitDefEqProofs (disch:=try exact dd) [cB,hz]
    |true=>
     by_cases h2:x.s.res[k].addr=c.server
     ·have hz:=hpl (hbx (by simp[h2]))
      simp-implicitDefEqProofs (disch:=try exact dd) [cB,e1,e10,e11,e12,e4,efo,eg,eb,e47,e48,e49,k7,h2,hz]
     ·simp-implicitDefEqProofs (disch:=try exact dd) [cB,e1,e10,e11,e12,e4,efo,eg,eb,e47,e48,e49,k7,h2]
      exact cE (k+1) ⟨by omega,hby (by simp[h1,h2]),by simp-implicitDefEqProofs (disch:=try exact dd) [cB,e1,e10,e11,e12,e4,efo,eg,eb,e47,e48,e49]⟩ (by omega)
   ·have k7: ¬(k:Int)<x.s.res.length:=by omega
    have hrall:=eO hlt3 hka;have hpl:mo x.s=false→kc c=false:=fun h=>hpx (by simp[JH,ka,h])
    have hpo:mo x.s=true→(List.take (i+1) (cF c)).all (JH c)=true:=fun h=>hpy (by simp[JH,ka,h,hpall,hrall])
    by_cases h1:x.s.router=0
    ·simp-implicitDefEqProofs (disch:=try exact dd) [cB,e1,e10,e11,e12,e4,efo,eg,eb,e47,e48,e49,k7,h1]
     exact cE (i+1) ⟨by omega,hpo (by simp[mo,h1]),by simp-implicitDefEqProofs (disch:=try exact dd) [cB,e1,e10,e11,e12]⟩ (by omega)
    ·simp-implicitDefEqProofs (disch:=try exact dd) [cB,e1,e10,e11,e12,e4,efo,eg,eb,e47,e48,e49,k7,h1]
     refine oc (By x.s.base x.s.bits x.s.router) ?_
     cases h2:nI x.s.base x.s.bits x.s.router with
     |false=>
      have hz:=hpl (by simp[mo,h1,h2])
      simp-implicitDefEqProofs (disch:=try exact dd) [cB,hz]
     |true=>
      simp-implicitDefEqProofs (disch:=try exact dd) [cB,e1,e10,e11,e12]
      exact cE (i+1) ⟨by omega,hpo (by simp[mo,h1,h2]),by simp-implicitDefEqProofs (disch:=try exact dd) [cB,e1,e10,e11,e12]⟩ (by omega)
 ·have k6: ¬(i:Int)<(cF c).length:=by omega
  have hz:kc c=true:=eO hlt ha
  simp-implicitDefEqProofs (disch:=try exact dd) [cB,e1,e10,e11,e12,k6,hz]
theorem Af{α:Type}{l:List α}{i:Nat}(h:i<l.zipIdx.length):l.zipIdx[i]=(l[i]'(by simpa using h),i):=by simp
theorem lu{α:Type}{p:α×Nat→Bool}{l:List α}{i:Nat}(h:i<l.length)(ha:(l.zipIdx.take i).all p=true)(hp:p (l[i],i)=true):(l.zipIdx.take (i+1)).all p=true:=
 dN (by simpa using h) ha (by rw[Af];exact hp)
theorem m7{α:Type}{p:α×Nat→Bool}{l:List α}{i:Nat}(h:i<l.length)(hp:p (l[i],i)=false):l.zipIdx.all p=false:=
 gj (i:=i) (by simpa using h) (by rw[Af];exact hp)
theorem m6{α:Type}{p:α×Nat→Bool}{l:List α}{i:Nat}(h: ¬i<l.length)(ha:(l.zipIdx.take i).all p=true):l.zipIdx.all p=true:=
 eO (by simpa using h) ha
def onI(x y:du)(same:Bool)(i:Nat)(S:PS):Prop:=
 i≤x.s.pools.length∧(x.s.pools.zipIdx.take i).all (qB same y.s.pools)=true∧S.t 2= .d (.bool same)∧S.t 3= .cptr (cells x.d)∧S.t 4= .cptr (cells y.d)∧
  S.t 56= .d (.slice (x.s.pools.map rk.d))∧S.t 57= .d (.int .i64 x.s.pools.length)∧S.t 58= .d (.int .i64 i)
def onJ(x y:du)(same:Bool)(i:Nat)(p:rk)(fo g:Nat)(k:Nat)(S:PS):Prop:=
 k≤y.s.pools.length∧(y.s.pools.zipIdx.take k).all (lP same (p,i))=true∧S.t 2= .d (.bool same)∧S.t 3= .cptr (cells x.d)∧S.t 4= .cptr (cells y.d)∧
  S.t 56= .d (.slice (x.s.pools.map rk.d))∧S.t 57= .d (.int .i64 x.s.pools.length)∧S.t 58= .d (.int .i64 i)∧S.t 7= .d (.int .i64 i)∧
  S.t 8= .ptr (fo+8) g 0∧S.fo=fo∧S.gen (fo+8)=g∧S.box (fo+8)=(cells p.d).map .d∧S.t 65= .d (.slice (y.s.pools.map rk.d))∧S.t 66= .d (.int .i64 y.s.pools.length)∧S.t 67= .d (.int .i64 k)
def LI(x y:du)(one same:Bool)(i:Nat)(S:PS):Prop:=
 i≤x.s.res.length∧(x.s.res.zipIdx.take i).all (tY one same y.s.res)=true∧S.t 2= .d (.bool same)∧S.t 3= .cptr (cells x.d)∧S.t 4= .cptr (cells y.d)∧
  S.t 94= .d (.slice (x.s.res.map rl.d))∧S.t 95= .d (.int .i64 x.s.res.length)∧S.t 96= .d (.int .i64 i)
def WY(x y:du)(one same:Bool)(i:Nat)(r:rl)(fo g:Nat)(k:Nat)(S:PS):Prop:=
 k≤y.s.res.length∧(y.s.res.zipIdx.take k).all (ox one same (r,i))=true∧S.t 2= .d (.bool same)∧S.t 3= .cptr (cells x.d)∧S.t 4= .cptr (cells y.d)∧
  S.t 94= .d (.slice (x.s.res.map rl.d))∧S.t 95= .d (.int .i64 x.s.res.length)∧S.t 96= .d (.int .i64 i)∧S.t 11= .d (.int .i64 i)∧
  S.t 12= .ptr (fo+12) g 0∧S.fo=fo∧S.gen (fo+12)=g∧S.box (fo+12)=(cells r.d).map .d∧S.t 103= .d (.slice (y.s.res.map rl.d))∧S.t 104= .d (.int .i64 y.s.res.length)∧S.t 105= .d (.int .i64 k)
set_option maxHeartbeats 4000000 in
theorem Lk(x y:du)(same:Bool)(hx:tU x.s)(hy:tU y.s)(hxn:x.net≤100000)(hyn:y.net≤100000):cD Tryz.prog 169 [.d x.d,.d y.d,.d (.bool same)] (.d (.bool (pN x y same))) (fun _=>false):=by
 refine cD.bi Tryz.func169 [20003,20004] ?_;obtain⟨hp,hr,hk⟩:=hx;obtain⟨hp',hr',hk'⟩:=hy;have hm:=LA x.s.base x.s.bits y.s.base y.s.bits;rw[MC]at hm;have hnn:(x.net:Int)=y.net↔x.net=y.net:=by omega
 have hdef:pN x y same=((same||j7 x y)&&x.s.pools.zipIdx.all (qB same y.s.pools)&&x.s.res.zipIdx.all (tY (decide (x.net=y.net)) same y.s.res)):=rfl
 obtain⟨one,hone⟩: ∃one,decide (x.net=y.net)=one:=⟨_,rfl⟩;rw[hone]at hdef
 cases hao:(same||j7 x y)with
 |false=>
  have h1:same=false:=by cases same<;>simp_all
  have h2:j7 x y=false:=by cases same<;>simp_all
  rw[hdef,hao];subst h1
  cases h3:sX x.s.base x.s.bits y.s.base y.s.bits with
  |true=>repeat' (first|(simp-implicitDefEqProofs (disch:=try exact dd) [*,cB])|(refine oc (hm) ?_)|(refine dt ?_ ?_<;>intro hc<;>have hc2:=hc<;>(try simp only[dQ]at hc2)<;>try omega)|(refine dm ?_ ?_<;>intro hc<;>have hc2:=hc<;>(try simp only[dQ]at hc2)<;>try omega)|(refine dc (by omega) ?_)|(split<;>try omega)|omega)
  |false=>
   have h4: ¬x.net=y.net∧x.s.iface=y.s.iface∧0<x.s.iface:=by
    simp[j7,h3]at h2;exact⟨h2.1.1,h2.1.2,h2.2⟩
   obtain⟨n1,n2,n3⟩:=h4;have h5: ¬(x.net:Int)=y.net:=by omega
   have n4:0<y.s.iface:=by omega
   rw[h3]at hm
   simp-implicitDefEqProofs (disch:=try exact dd) [cB]
   refine oc hm ?_
   simp-implicitDefEqProofs (disch:=try exact dd) [cB,h5,n2,n3,n4]
 |true=>
  have hd2:pN x y same=(x.s.pools.zipIdx.all (qB same y.s.pools)&&x.s.res.zipIdx.all (tY one same y.s.res)):=by rw[hdef,hao];simp
  rw[hd2]
  cases hs:(!same)
  case' true=>
   have h1:same=false:=by simpa using hs
   have h2:j7 x y=true:=by simpa[h1]using hao
   have h3:sX x.s.base x.s.bits y.s.base y.s.bits=false:=by
    cases h:sX x.s.base x.s.bits y.s.base y.s.bits with
    |false=>rfl
    |true=>simp[j7,h]at h2
   rw[h3]at hm
   simp-implicitDefEqProofs (disch:=try exact dd) [cB,hs]
   refine oc hm ?_;by_cases k1:(x.net:Int)=y.net
   case' pos=>
    have k1':=eq_true k1
    simp-implicitDefEqProofs (disch:=try exact dd) [cB,k1'];clear k1 k1'
   case' neg=>
    by_cases k2:x.s.iface=y.s.iface
    case' pos=>
     have k3: ¬0<y.s.iface:=by
      intro h;simp[j7,h3,k2,h]at h2;omega
     have k2':=eq_true k2
     simp-implicitDefEqProofs (disch:=try exact dd) [cB,k1,k2',k3];clear k1 k2 k3 k2'
    case' neg=>simp-implicitDefEqProofs (disch:=try exact dd) [cB,k1,k2];clear k1 k2
  case' false=>simp-implicitDefEqProofs (disch:=try exact dd) [cB,hs]
  all_goals
   refine lp (onI x y same) (fun i=>x.s.pools.length-i) 0 ⟨by omega,by simp,by simp⟩ ?_
   rintro i S ⟨hi,ha,e2,e3,e4,e56,e57,e58⟩;by_cases hlt:i<x.s.pools.length
   ·have k6:(i:Int)<x.s.pools.length:=by omega
    simp-implicitDefEqProofs (disch:=try exact dd) [cB,e2,e3,e4,e56,e57,e58,k6]
    refine lp (onJ x y same i x.s.pools[i] S.fo (S.gen (S.fo+8)+1)) (fun k=>y.s.pools.length-k) 0 ⟨by omega,by simp,by simp-implicitDefEqProofs (disch:=try exact dd) [cB,e2,e3,e4,e56,e57,e58]⟩ ?_
    rintro k S1 ⟨hki,hka,e2,e3,e4,e56,e57,e58,e7,e8,efo,eg,eb,e65,e66,e67⟩;simp only[rk.iR,eu,List.map_cons,List.map_nil]at eb;by_cases hlt2:k<y.s.pools.length
    ·have k7:(k:Int)<y.s.pools.length:=by omega
     have hpair:lP same (x.s.pools[i],i) (y.s.pools[k],k)= !(same&& !decide (i=k)&&(zD x.s.pools[i] y.s.pools[k].first||zD y.s.pools[k] x.s.pools[i].first)):=rfl
     have hbx:=fun(hq:lP same (x.s.pools[i],i) (y.s.pools[k],k)=false)=>m7 (p:=qB same y.s.pools) hlt (m7 (p:=lP same (x.s.pools[i],i)) hlt2 hq)
     have hby:=lu (p:=lP same (x.s.pools[i],i)) hlt2 hka
     cases hsm:same with
     |false=>
      rw[hsm]at hby hpair
      simp-implicitDefEqProofs (disch:=try exact dd) [cB,e2,e3,e4,e56,e57,e58,e7,e8,efo,eg,eb,e65,e66,e67,k7,hsm]
      exact cE (k+1) ⟨by omega,hby (by rw[hpair];simp),by simp-implicitDefEqProofs (disch:=try exact dd) [cB,e2,e3,e4,e56,e57,e58,e7,e8,efo,eg,eb,e65,e66,e67,hsm]⟩ (by omega)
     |true=>
      rw[hsm]at hby hpair hbx;by_cases hik:i=k
      ·have hik':(i:Int)=k:=by omega
       simp-implicitDefEqProofs (disch:=try exact dd) [cB,e2,e3,e4,e56,e57,e58,e7,e8,efo,eg,eb,e65,e66,e67,k7,hsm,hik']
       exact cE (k+1) ⟨by omega,hby (by rw[hpair];simp[hik]),by simp-implicitDefEqProofs (disch:=try exact dd) [cB,e2,e3,e4,e56,e57,e58,e7,e8,efo,eg,eb,e65,e66,e67,hsm]⟩ (by omega)
      ·have hik': ¬(i:Int)=k:=by omega
       simp-implicitDefEqProofs (disch:=try exact dd) [cB,e2,e3,e4,e56,e57,e58,e7,e8,efo,eg,eb,e65,e66,e67,k7,hsm,hik']
       refine oc (v_ x.s.pools[i] y.s.pools[k].first) ?_
       cases h1:zD x.s.pools[i] y.s.pools[k].first with
       |true=>
        have hz:=hbx (by rw[hpair];simp[hik,h1])
        simp-implicitDefEqProofs (disch:=try exact dd) [cB,hz]
       |false=>
        simp-implicitDefEqProofs (disch:=try exact dd) [cB,e2,e3,e4,e56,e57,e58,e7,e8,efo,eg,eb,e65,e66,e67]
        refine oc (v_ y.s.pools[k] x.s.pools[i].first) ?_
        cases h2:zD y.s.pools[k] x.s.pools[i].first with
        |true=>
         have hz:=hbx (by rw[hpair];simp[hik,h2])
         simp-implicitDefEqProofs (disch:=try exact dd) [cB,hz]
        |false=>
         simp-implicitDefEqProofs (disch:=try exact dd) [cB,e2,e3,e4,e56,e57,e58,e7,e8,efo,eg,eb,e65,e66,e67]
         exact cE (k+1) ⟨by omega,hby (by rw[hpair];simp[h1,h2]),by simp-implicitDefEqProofs (disch:=try exact dd) [cB,e2,e3,e4,e56,e57,e58,e7,e8,efo,eg,eb,e65,e66,e67,hsm]⟩ (by omega)
    ·have k7: ¬(k:Int)<y.s.pools.length:=by omega
     simp-implicitDefEqProofs (disch:=try exact dd) [cB,e2,e3,e4,e56,e57,e58,e7,e65,e66,e67,k7]
     exact cE (i+1) ⟨by omega,lu hlt ha (m6 hlt2 hka),by simp-implicitDefEqProofs (disch:=try exact dd) [cB,e2,e3,e4,e56,e57,e58]⟩ (by omega)
   ·have k6: ¬(i:Int)<x.s.pools.length:=by omega
    rw[m6 hlt ha]
    simp-implicitDefEqProofs (disch:=try exact dd) [cB,e2,e3,e4,e56,e57,e58,k6]
    refine lp (LI x y one same) (fun i=>x.s.res.length-i) 0 ⟨by omega,by simp,by simp-implicitDefEqProofs (disch:=try exact dd) [cB,e2,e3,e4]⟩ ?_
    clear ha e2 e3 e4 e56 e57 e58 k6 hlt hi;rintro i S ⟨hi,ha,e2,e3,e4,e94,e95,e96⟩;by_cases hlt:i<x.s.res.length
    ·have k6:(i:Int)<x.s.res.length:=by omega
     simp-implicitDefEqProofs (disch:=try exact dd) [cB,e2,e3,e4,e94,e95,e96,k6]
     refine lp (WY x y one same i x.s.res[i] S.fo (S.gen (S.fo+12)+1)) (fun k=>y.s.res.length-k) 0 ⟨by omega,by simp,by simp-implicitDefEqProofs (disch:=try exact dd) [cB,e2,e3,e4,e94,e95,e96]⟩ ?_
     rintro k S1 ⟨hki,hka,e2,e3,e4,e94,e95,e96,e11,e12,efo,eg,eb,e103,e104,e105⟩;simp only[rl.iR,eu,List.map_cons,List.map_nil]at eb;by_cases hlt2:k<y.s.res.length
     ·have k7:(k:Int)<y.s.res.length:=by omega
      have hpair:ox one same (x.s.res[i],i) (y.s.res[k],k)= !((!same|| !decide (i=k))&&(decide (x.s.res[i].addr=y.s.res[k].addr)||one&&decide (x.s.res[i].key=y.s.res[k].key))):=rfl
      have hbx:=fun(hq:ox one same (x.s.res[i],i) (y.s.res[k],k)=false)=>m7 (p:=tY one same y.s.res) hlt (m7 (p:=ox one same (x.s.res[i],i)) hlt2 hq)
      have hby:=lu (p:=ox one same (x.s.res[i],i)) hlt2 hka;have hnx: ∀ {S':PS},WY x y one same i x.s.res[i] S.fo (S.gen (S.fo+12)+1) (k+1) S'→W7 (WY x y one same i x.s.res[i] S.fo (S.gen (S.fo+12)+1)) (fun k=>y.s.res.length-k) k S':=fun h=>cE (k+1) h (by show y.s.res.length-(k+1)<y.s.res.length-k;omega)
      by_cases hsk:same=true∧i=k
      ·have hik':(i:Int)=k:=by omega
       have hns:(!same)=false:=by rw[hsk.1];rfl
       simp-implicitDefEqProofs (disch:=try exact dd) [cB,e2,e3,e4,e94,e95,e96,e11,e12,efo,eg,eb,e103,e104,e105,k7,hns,hik']
       exact hnx ⟨by omega,hby (by rw[hpair];simp[hsk.1,hsk.2]),by simp-implicitDefEqProofs (disch:=try exact dd) [cB,e2,e3,e4,e94,e95,e96,e11,e12,efo,eg,eb,e103,e104,e105]⟩
      ·have hne:((!same)|| !decide (i=k))=true:=by
        cases hsm:same with
        |false=>rfl
        |true=>
         have: ¬i=k:=fun h=>hsk ⟨hsm,h⟩
         simp[this]
       rw[hne]at hpair;have hst: ∀ {Q:Prop},((!same)=true→Q)→((!same)=false→ ¬(i:Int)=k→Q)→Q:=by
        intro Q h1 h2
        cases hsm:same with
        |false=>exact h1 (by rw[hsm];rfl)
        |true=>exact h2 (by rw[hsm];rfl) (fun h=>hsk ⟨hsm,by omega⟩)
       by_cases h1:x.s.res[i].addr=y.s.res[k].addr
       ·have hz:=hbx (by rw[hpair];simp[h1])
        refine hst (fun hsm=>?_) (fun hsm hik=>?_)
        ·simp-implicitDefEqProofs (disch:=try exact dd) [cB,e2,e3,e4,e94,e95,e96,e11,e12,efo,eg,eb,e103,e104,e105,k7,hsm,h1,hz]
        ·simp-implicitDefEqProofs (disch:=try exact dd) [cB,e2,e3,e4,e94,e95,e96,e11,e12,efo,eg,eb,e103,e104,e105,k7,hsm,hik,h1,hz]
       ·by_cases h2:(x.net:Int)=y.net
        ·have h2n:one=true:=by rw[←hone];exact decide_eq_true (hnn.1 h2)
         by_cases h3:x.s.res[i].key=y.s.res[k].key
         ·have hz:=hbx (by rw[hpair];simp[h2n,h3])
          refine hst (fun hsm=>?_) (fun hsm hik=>?_)
          ·simp-implicitDefEqProofs (disch:=try exact dd) [cB,e2,e3,e4,e94,e95,e96,e11,e12,efo,eg,eb,e103,e104,e105,k7,hsm,h1,h2,h3,hz]
          ·simp-implicitDefEqProofs (disch:=try exact dd) [cB,e2,e3,e4,e94,e95,e96,e11,e12,efo,eg,eb,e103,e104,e105,k7,hsm,hik,h1,h2,h3,hz]
         ·refine hst (fun hsm=>?_) (fun hsm hik=>?_)
          ·simp-implicitDefEqProofs (disch:=try exact dd) [cB,e2,e3,e4,e94,e95,e96,e11,e12,efo,eg,eb,e103,e104,e105,k7,hsm,h1,h2,h3]
           exact hnx ⟨by omega,hby (by rw[hpair];simp[h1,h3]),by simp-implicitDefEqProofs (disch:=try exact dd) [cB,e2,e3,e4,e94,e95,e96,e11,e12,efo,eg,eb,e103,e104,e105]⟩
          ·simp-implicitDefEqProofs (disch:=try exact dd) [cB,e2,e3,e4,e94,e95,e96,e11,e12,efo,eg,eb,e103,e104,e105,k7,hsm,hik,h1,h2,h3]
           exact hnx ⟨by omega,hby (by rw[hpair];simp[h1,h3]),by simp-implicitDefEqProofs (disch:=try exact dd) [cB,e2,e3,e4,e94,e95,e96,e11,e12,efo,eg,eb,e103,e104,e105]⟩
        ·have h2n:one=false:=by rw[←hone];exact decide_eq_false (fun h=>h2 (hnn.2 h))
         refine hst (fun hsm=>?_) (fun hsm hik=>?_)
         ·simp-implicitDefEqProofs (disch:=try exact dd) [cB,e2,e3,e4,e94,e95,e96,e11,e12,efo,eg,eb,e103,e104,e105,k7,hsm,h1,h2]
          exact hnx ⟨by omega,hby (by rw[hpair];simp[h1,h2n]),by simp-implicitDefEqProofs (disch:=try exact dd) [cB,e2,e3,e4,e94,e95,e96,e11,e12,efo,eg,eb,e103,e104,e105]⟩
         ·simp-implicitDefEqProofs (disch:=try exact dd) [cB,e2,e3,e4,e94,e95,e96,e11,e12,efo,eg,eb,e103,e104,e105,k7,hsm,hik,h1,h2]
          exact hnx ⟨by omega,hby (by rw[hpair];simp[h1,h2n]),by simp-implicitDefEqProofs (disch:=try exact dd) [cB,e2,e3,e4,e94,e95,e96,e11,e12,efo,eg,eb,e103,e104,e105]⟩
     ·have k7: ¬(k:Int)<y.s.res.length:=by omega
      simp-implicitDefEqProofs (disch:=try exact dd) [cB,e2,e3,e4,e94,e95,e96,e11,e103,e104,e105,k7]
      exact cE (i+1) ⟨by omega,lu hlt ha (m6 hlt2 hka),by simp-implicitDefEqProofs (disch:=try exact dd) [cB,e2,e3,e4,e94,e95,e96]⟩ (by omega)
    ·have k6: ¬(i:Int)<x.s.res.length:=by omega
     rw[m6 hlt ha]
     simp-implicitDefEqProofs (disch:=try exact dd) [cB,e2,e3,e4,e94,e95,e96,k6]
def sY(l:List cN):List UInt8:=(cY l 55).getD []
def Dt(l:List cN)(c:Int):Bool:=(sY l).any fun b=>decide ((b.toNat:Int)=c)
def vk(c:Int)(o:cN):List cN:=if o.code=c then[]else[o]
def CE(l:List cN)(c:Int)(b:List UInt8):List cN:=l.flatMap (vk c)++ [⟨c,b⟩]
def mW(c:Int)(b:List UInt8):Bool:=decide ((1≤c∧c≤254)∧b.length≤600)
theorem zT(c:Int)(o:cN):(vk c o).length≤1:=by unfold vk;split<;>simp
theorem uw{α β:Type}{g:α→List β}(h: ∀o,(g o).length≤1): ∀l:List α,(l.flatMap g).length≤l.length
 | []=>by simp
 |o::l=>by
  have:=h o;have:=uw h l;simp only[List.flatMap_cons,List.length_append,List.length_cons];omega
theorem xI{α β:Type}{g:α→List β}{l:List α}{i:Nat}(h:i<l.length):(l.take (i+1)).flatMap g=(l.take i).flatMap g++g l[i]:=by
 rw[List.take_succ_eq_append_getElem h,bg];simp
def oeI(l:List cN)(f:FuncId)(cs:List DV)(g:cN→List cN)(i:Nat)(S:PS):Prop:=
 i≤l.length∧S.t 1= .fn f [.cptr cs]∧S.t 8= .d (.slice (l.map cN.d))∧S.t 9= .d (.int .i64 l.length)∧S.t 10= .d (.int .i64 i)∧S.t 5= .d (.slice (((l.take i).flatMap g).map cN.d))∧S.own (.t 5 0)=true
theorem Ht(l:List cN)(hl:sized l)(f:FuncId)(cs:List DV)(g:cN→List cN)(hg: ∀o,(g o).length≤1){ro:Nat→Bool}(hf: ∀o∈l,cD Tryz.prog f [.d o.d,.cptr cs] (.d (.slice ((g o).map cN.d))) ro):
 cD Tryz.prog 335 [.d (.slice (l.map cN.d)),.fn f [.cptr cs]] (.d (.slice ((l.flatMap g).map cN.d))) (fun j=>j==0):=by
 refine cD.bi Tryz.func335 [14,20] ?_;have hs:=hl.1
 simp-implicitDefEqProofs (disch:=try exact dd) [cB, -List.map_take, -List.map_drop, -List.length_flatMap]
 refine lp (oeI l f cs g) (fun i=>l.length-i) 0 ⟨by omega,by simp⟩ ?_
 rintro i S ⟨hi,e1,e8,e9,e10,e5,eo⟩;by_cases hlt:i<l.length
 ·have k6:(i:Int)<l.length:=by omega
  have h1:=uw hg (l.take i);have h2:(l.take i).length≤100000:=by simp;omega
  have h3:=hg l[i];have ht:=xI (g:=g) hlt
  simp-implicitDefEqProofs (disch:=try exact dd) [cB, -List.map_take, -List.map_drop, -List.length_flatMap,e1,e8,e9,e10,e5,eo,k6]
  refine oc (hf (l[i]) (List.getElem_mem hlt)) ?_
  simp-implicitDefEqProofs (disch:=try exact dd) [cB, -List.map_take, -List.map_drop, -List.length_flatMap,e1,e8,e9,e10,e5,eo,k6]
  exact cE (i+1) ⟨by omega,by simp-implicitDefEqProofs (disch:=try exact dd) [cB, -List.map_take, -List.map_drop, -List.length_flatMap, *,ht]⟩ (by omega)
 ·have k6: ¬(i:Int)<l.length:=by omega
  have:l.take i=l:=List.take_of_length_le (by omega)
  simp-implicitDefEqProofs (disch:=try exact dd) [cB, -List.map_take, -List.map_drop, -List.length_flatMap,e1,e8,e9,e10,e5,eo,k6,this]
theorem JQ(o:cN)(c:Int)(ho:o.data.length≤100000):cD Tryz.prog 336 [.d o.d,.cptr [.int .i64 c]] (.d (.slice ((vk c o).map cN.d))) (fun _=>false):=by
 refine cD.bi Tryz.func336 [20002] ?_;by_cases h:o.code=c
 ·simp-implicitDefEqProofs (disch:=try exact dd) [cB,h,vk]
 ·simp-implicitDefEqProofs (disch:=try exact dd) [cB,h,vk]
theorem Cf(l:List cN)(c:Int)(b:List UInt8)(hl:sized l):cD Tryz.prog 318 [.d (.slice (l.map cN.d)),.d (.int .i64 c),.d (.slice (b.map cM))] (.tup [.d (.slice ((if mW c b then CE l c b else[]).map cN.d)),.d (.int .i64 (if mW c b then 0 else 1))]) (fun _=>false):=by
 refine cD.bi Tryz.func318 [20004,23] ?_;have q:=Ht l hl 336 [.int .i64 c] (vk c) (zT c) (fun o ho=>JQ o c (hl.2 o ho))
 by_cases h:(1≤c∧c≤254)∧b.length≤600
 ·have hE:mW c b=true:=by simp only[mW,decide_eq_true_eq];exact h
  have k1: ¬c<1:=by omega
  have k2: ¬254<c:=by omega
  have k3: ¬(600:Int)<b.length:=by omega
  have h1:=uw (zT c) l;have hs:=hl.1;rw[hE]
  simp-implicitDefEqProofs (disch:=try exact dd) [cB, -List.map_take, -List.map_drop, -List.length_flatMap,k1,k2,k3]
  refine oc q ?_
  simp-implicitDefEqProofs (disch:=try exact dd) [cB, -List.map_take, -List.map_drop, -List.length_flatMap,k1,k2,k3,CE]
 ·have hE:mW c b=false:=by simp only[mW,aQ];exact h
  rw[hE];by_cases k1:c<1
  ·simp-implicitDefEqProofs (disch:=try exact dd) [cB,k1]
  ·by_cases k2:254<c
   ·simp-implicitDefEqProofs (disch:=try exact dd) [cB,k1,k2]
   ·have k3:(600:Int)<b.length:=by omega
    simp-implicitDefEqProofs (disch:=try exact dd) [cB,k1,k2,k3]
def pw(c v:Int)(n:Nat):Bool:=ij v n&&decide (1≤c∧c≤254)
theorem Mh(l:List cN)(c v:Int)(n:Nat)(hl:sized l):cD Tryz.prog 316 [.d (.slice (l.map cN.d)),.d (.int .i64 c),.d (.int .i64 v),.d (.int .i64 n)] (.tup [.d (.slice ((if pw c v n then CE l c (di v n)else[]).map cN.d)),.d (.int .i64 (if pw c v n then 0 else 1))]) (fun _=>false):=by
 refine cD.bi Tryz.func316 [] ?_;have q1:=Br v n;have q2:=Cf l c (di v n) hl
 cases h:ij v n with
 |false=>
  have hE:pw c v n=false:=by simp[pw,h]
  rw[h]at q1;rw[hE]
  repeat' (first|(simp-implicitDefEqProofs (disch:=try exact dd) [*,cB])|(refine oc (q1) ?_)|(refine dt ?_ ?_<;>intro hc<;>have hc2:=hc<;>(try simp only[dQ]at hc2)<;>try omega)|(refine dm ?_ ?_<;>intro hc<;>have hc2:=hc<;>(try simp only[dQ]at hc2)<;>try omega)|(refine dc (by omega) ?_)|(split<;>try omega)|omega)
 |true=>
  have hn:n≤7:=by simp only[ij,decide_eq_true_eq]at h;omega
  have hE:pw c v n=mW c (di v n):=by
   have:n≤600:=by omega
   simp[pw,h,mW,this]
  rw[h]at q1;rw[hE]
  repeat' (first|(simp-implicitDefEqProofs (disch:=try exact dd) [*,cB])|(refine oc (q1) ?_)|(refine oc (q2) ?_)|(refine dt ?_ ?_<;>intro hc<;>have hc2:=hc<;>(try simp only[dQ]at hc2)<;>try omega)|(refine dm ?_ ?_<;>intro hc<;>have hc2:=hc<;>(try simp only[dQ]at hc2)<;>try omega)|(refine dc (by omega) ?_)|(split<;>try omega)|omega)
theorem JR(b:UInt8):cD Tryz.prog 344 [.d (cM b)] (.d (.slice [.int .i64 (b.toNat:Nat)])) (fun _=>false):=by
 refine cD.bi Tryz.func344 [] ?_;have hw:=vO b
 simp-implicitDefEqProofs (disch:=try exact dd) [cB,hw]
def ye(b:UInt8):DV:= .int .i64 (b.toNat:Nat)
@[simp] theorem SX(b:UInt8):ye b= .int .i64 (b.toNat:Nat):=rfl
def leI(l:List UInt8)(i:Nat)(S:PS):Prop:=
 i≤l.length∧S.t 1= .fn 344 []∧S.t 8= .d (.slice (l.map cM))∧S.t 9= .d (.int .i64 l.length)∧S.t 10= .d (.int .i64 i)∧S.t 5= .d (.slice ((l.take i).map ye))∧S.own (.t 5 0)=true
theorem Hu(l:List UInt8)(hl:l.length≤100000):
 cD Tryz.prog 343 [.d (.slice (l.map cM)),.fn 344 []] (.d (.slice (l.map ye))) (fun j=>j==0):=by
 refine cD.bi Tryz.func343 [14,20] ?_
 simp-implicitDefEqProofs (disch:=try exact dd) [cB, -List.map_take, -List.map_drop]
 refine lp (leI l) (fun i=>l.length-i) 0 ⟨by omega,by simp⟩ ?_
 rintro i S ⟨hi,e1,e8,e9,e10,e5,eo⟩;by_cases hlt:i<l.length
 ·have k6:(i:Int)<l.length:=by omega
  have ht:(l.take (i+1)).map ye=(l.take i).map ye++ [.int .i64 (l[i].toNat:Nat)]:=by rw[List.take_succ_eq_append_getElem hlt,List.map_append];rfl
  simp-implicitDefEqProofs (disch:=try exact dd) [cB, -List.map_take, -List.map_drop,e1,e8,e9,e10,e5,eo,k6]
  refine oc (JR (l[i])) ?_
  simp-implicitDefEqProofs (disch:=try exact dd) [cB, -List.map_take, -List.map_drop,e1,e8,e9,e10,e5,eo,k6]
  exact cE (i+1) ⟨by omega,by simp-implicitDefEqProofs (disch:=try exact dd) [cB, -List.map_take, -List.map_drop, -List.length_flatMap, *,ht]⟩ (by omega)
 ·have k6: ¬(i:Int)<l.length:=by omega
  have:l.take i=l:=List.take_of_length_le (by omega)
  simp-implicitDefEqProofs (disch:=try exact dd) [cB, -List.map_take, -List.map_drop,e1,e8,e9,e10,e5,eo,k6,this]
theorem D4(l:List cN)(hl:sized l):cD Tryz.prog 341 [.d (.slice (l.map cN.d))] (.d (.slice ((sY l).map ye))) (fun _=>false):=by
 refine cD.bi Tryz.func341 [] ?_;have q1:=j9 l 55 hl;have hz:(sY l).length≤100000:=by
  unfold sY
  cases h:cY l 55 with
  |none=>simp
  |some d=>simpa using gF hl h
 have q2:=Hu (sY l) hz;have hd:(cY l 55).getD []=sY l:=rfl;rw[hd]at q1
 simp-implicitDefEqProofs (disch:=try exact dd) [cB]
 refine oc q1 ?_
 simp-implicitDefEqProofs (disch:=try exact dd) [cB]
 refine oc q2 ?_
 simp-implicitDefEqProofs (disch:=try exact dd) [cB]
def owI(l:List UInt8)(c:Int)(i:Nat)(S:PS):Prop:=
 i≤l.length∧(l.take i).all (fun b=> !decide ((b.toNat:Int)=c))=true∧S.t 1= .d (.int .i64 c)∧S.t 8= .d (.slice (l.map ye))∧S.t 9= .d (.int .i64 l.length)∧S.t 10= .d (.int .i64 i)
theorem Nh{α:Type}{p:α→Bool}{l:List α}:l.any p= !l.all fun x=> !p x:=by simp[bR]
theorem Hs(l:List cN)(c:Int)(hl:sized l):cD Tryz.prog 337 [.d (.slice (l.map cN.d)),.d (.int .i64 c)] (.d (.bool (Dt l c))) (fun _=>false):=by
 refine cD.bi Tryz.func337 [] ?_;have hz:(sY l).length≤100000:=by
  unfold sY
  cases h:cY l 55 with
  |none=>simp
  |some d=>simpa using gF hl h
 simp-implicitDefEqProofs (disch:=try exact dd) [cB]
 refine oc (D4 l hl) ?_;unfold Dt;generalize sY l=d at hz;rw[Nh]
 simp-implicitDefEqProofs (disch:=try exact dd) [cB]
 refine lp (owI d c) (fun i=>d.length-i) 0 ⟨by omega,by simp,by simp⟩ ?_
 rintro i S ⟨hi,ha,e1,e8,e9,e10⟩;by_cases hlt:i<d.length
 ·have k6:(i:Int)<d.length:=by omega
  by_cases hc:(d[i].toNat:Int)=c
  ·have hb:=gj (p:=fun b:UInt8=> !decide ((b.toNat:Int)=c)) hlt (by simp[hc])
   simp-implicitDefEqProofs (disch:=try exact dd) [cB,e1,e8,e9,e10,k6,hc,hb]
  ·have hb:=dN (p:=fun b:UInt8=> !decide ((b.toNat:Int)=c)) hlt ha (by simp[hc])
   simp-implicitDefEqProofs (disch:=try exact dd) [cB,e1,e8,e9,e10,k6,hc]
   exact cE (i+1) ⟨by omega,hb,by simp-implicitDefEqProofs (disch:=try exact dd) [cB,e1,e8,e9,e10]⟩ (by omega)
 ·have k6: ¬(i:Int)<d.length:=by omega
  have hb:=eO hlt ha
  simp-implicitDefEqProofs (disch:=try exact dd) [cB,e1,e8,e9,e10,k6,hb]
def f_(l:List cN):Int:=match cY l 53 with|some [b]=>if 1≤b.toNat∧b.toNat≤8 then b.toNat else 0|_=>0
theorem Hj(l:List cN)(hl:sized l):cD Tryz.prog 28 [.d (.slice (l.map cN.d))] (.d (.int .i64 (f_ l))) (fun _=>false):=by
 refine cD.bi Tryz.func28 [] ?_;have q:=tZ l 53 hl;unfold f_
 simp-implicitDefEqProofs (disch:=try exact dd) [cB]
 refine oc q ?_
 cases h:cY l 53 with
 |none=>simp-implicitDefEqProofs (disch:=try exact dd) [cB]
 |some d=>
  match d with
  | []=>simp-implicitDefEqProofs (disch:=try exact dd) [cB]
  |a::b::r=>
   have k: ¬((r.length:Int)+1+1=1):=by omega
   simp-implicitDefEqProofs (disch:=try exact dd) [cB,k]
  | [b]=>
    have hw:=vO b;have hu:=IY b;by_cases h1:1≤b.toNat
    ·have h1':(1:Int)≤(b.toNat:Nat):=by omega
     by_cases h2:b.toNat≤8
     ·have h2':((b.toNat:Nat):Int)≤8:=by omega
      simp-implicitDefEqProofs (disch:=try exact dd) [cB,h1,h2,h1',h2',hw]
     ·have h2': ¬((b.toNat:Nat):Int)≤8:=by omega
      simp-implicitDefEqProofs (disch:=try exact dd) [cB,h1,h2,h1',h2',hw]
    ·have h1': ¬(1:Int)≤(b.toNat:Nat):=by omega
     simp-implicitDefEqProofs (disch:=try exact dd) [cB,h1,h1',hw]
end Go.Proofs.YtoilfihojgeonaaGreatDoor
