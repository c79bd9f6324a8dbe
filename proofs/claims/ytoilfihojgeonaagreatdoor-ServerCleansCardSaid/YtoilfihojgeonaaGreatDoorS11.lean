/- The last leases: what the program answers. -/
import Derived.Test.YtoilfihojgeonaaGreatDoorS10
import Derived.Test.YtoilfihojgeonaaGreatDoorS09
namespace Go.Proofs.YtoilfihojgeonaaGreatDoor
open BoEng Go
set_option maxRecDepth 100000
set_option linter.unusedSimpArgs false
set_option linter.unusedVariables false
def fG(xs:List cC):List PV:=(flat (xs.map cC.d)).map .d
theorem s4:fG []= []:=rfl
theorem gX(x:cC)(xs:List cC):fG (x::xs)= .d (.int .i64 x.addr):: .d (.int .i64 x.state):: .d (.int .i64 x.expiry):: .d (.str x.key)::fG xs:=rfl
theorem xj(xs ys:List cC):fG (xs++ys)=fG xs++fG ys:=by simp[fG,kE]
@[simp] theorem iZ(xs:List cC):(fG xs).length=xs.length*4:=by
 induction xs with
 |nil=>rfl
 |cons x xs ih=>rw[gX];simp only[List.length_cons,ih];omega
theorem qM(xs:List cC): ∀i,(fG xs).drop (i*4)=fG (xs.drop i):=by
 induction xs with
 |nil=>intro i;simp[s4]
 |cons x xs ih=>
  intro i
  cases i with
  |zero=>simp
  |succ i=>
   rw[gX,show(i+1)*4=i*4+4 by omega]
   simp only[a8];exact ih i
theorem qL(xs:List cC): ∀i,(fG xs).take (i*4)=fG (xs.take i):=by
 induction xs with
 |nil=>intro i;simp[s4]
 |cons x xs ih=>
  intro i
  cases i with
  |zero=>simp[s4]
  |succ i=>
   rw[gX,show(i+1)*4=i*4+4 by omega]
   simp only[bd,ih i]
   exact(gX x _).symm
theorem ML{xs:List cC}{i:Nat}(h:i<xs.length):((fG xs).drop (i*4)).take 4= [.d (.int .i64 xs[i].addr),.d (.int .i64 xs[i].state),.d (.int .i64 xs[i].expiry),.d (.str xs[i].key)]:=by
 rw[qM,ai h,gX];rfl
theorem CB{xs:List cC}{i:Nat}(h:i<xs.length):(fG xs)[i*4]? =some (.d (.int .i64 xs[i].addr)):=by
 have h1:((fG xs).drop (i*4))[0]? =some (.d (.int .i64 xs[i].addr)):=by
  rw[qM,ai h,gX];rfl
 rwa[ak,bN]at h1
theorem CA{xs:List cC}{i:Nat}(h:i<xs.length)(l:cC):(fG xs).take (i*4)++ .d (.int .i64 l.addr):: .d (.int .i64 l.state):: .d (.int .i64 l.expiry):: .d (.str l.key)::(fG xs).drop (i*4+4)=fG (xs.set i l):=by
 rw[qL,show i*4+4=(i+1)*4 by omega,qM,aT,if_pos h,xj,gX]
theorem Ky(xs:List cC):pc (fG xs)=some (flat (xs.map cC.d)):=by unfold fG;exact FA
theorem Ep(xs:List cC):chunk 4 true xs.length (flat (xs.map cC.d))=xs.map cC.d:=by
 induction xs with
 |nil=>rfl
 |cons x xs ih=>
  rw[List.map_cons,dS,Dd,List.length_cons];simp only[chunk,List.cons_append,List.nil_append,bd,cj,a8,List.drop_zero,if_true,ih,cC.d]
theorem qK{xs:List cC}{n:Nat}(h:xs.length=n):(pc ((fG xs).take (n*4))).map (chunk 4 true n)=some (xs.map cC.d):=by
 subst h;rw[List.take_of_length_le (by rw[iZ];omega),Ky,Option.map_some,Ep]
theorem zw{xs:List cC}{lo n:Nat}(h:lo+n≤xs.length):(pc (((fG xs).drop (lo*4)).take (n*4))).map (chunk 4 true n)=some (((xs.drop lo).take n).map cC.d):=by
 rw[qM,qL];have hl:((xs.drop lo).take n).length=n:=by simp;omega
 have:=qK (xs:=(xs.drop lo).take n) hl
 rwa[List.take_of_length_le (by rw[iZ,hl];omega)]at this
def lU(no g:Nat)(xs:List cC):iL:=⟨no,g,fG xs,fun _=>false⟩
def aU(na ga:Nat)(a:cC):iL:=⟨na,ga,[.d (.int .i64 a.addr),.d (.int .i64 a.state),.d (.int .i64 a.expiry),.d (.str a.key)],fun _=>false⟩
def PA(b a:cC):Int:=if b.addr<a.addr then-1 else if a.addr<b.addr then 1 else 0
theorem MJ(b a:cC)(na ga:Nat){fo:Nat}{gl:Nat→Nat}(hna:na<fo)(hga:0<ga):de Tryz.prog fo gl 160 [.d b.d,.ptr na ga 0] [aU na ga a] (.d (.int .i64 (PA b a))) (fun _=>false) [aU na ga a]:=by
 refine de.bi Tryz.func160 [20002] (by simp[cH,cS,hga,aU]) (by simp[cH,cS,hga,aU]) (by simp[hga,aU]) ?_
 have hk1: ∀k,(na=fo+k)=False:=fun k=>by simp;omega
 have hk2: ∀k,(fo+k=na)=False:=fun k=>by simp;omega
 unfold PA;by_cases h1:b.addr<a.addr
 ·simp-implicitDefEqProofs (disch:=try exact dd) [cB,aU,hk1,hk2,h1]
 ·by_cases h2:a.addr<b.addr
  ·simp-implicitDefEqProofs (disch:=try exact dd) [cB,aU,hk1,hk2,h1,h2]
  ·simp-implicitDefEqProofs (disch:=try exact dd) [cB,aU,hk1,hk2,h1,h2]
def plI(fo no g na ga:Nat)(xs:List cC)(a:cC)(i:Nat)(S:PS):Prop:=
 i≤xs.length∧(∀j (h:j<xs.length),j<i→xs[j].addr<a.addr)∧S.t 0= .bsl no g xs.length 4 true∧S.t 1= .fn 160 [.ptr na ga 0]∧S.t 9= .bsl no g xs.length 4 true∧S.t 10= .d (.int .i64 xs.length)∧S.t 11= .d (.int .i64 i)∧S.fo=fo∧
  S.gen no=g∧S.box no=fG xs∧S.gen na=ga∧S.box na= [.d (.int .i64 a.addr),.d (.int .i64 a.state),.d (.int .i64 a.expiry),.d (.str a.key)]
theorem E8(xs:List cC)(a:cC)(no g na ga:Nat){fo:Nat}{gl:Nat→Nat}(hno:no<fo)(hna:na<fo)(hne:no≠na)(hg:0<g)(hga:0<ga)(hx:xs.length≤1000000):
 de Tryz.prog fo gl 159 [.bsl no g xs.length 4 true,.fn 160 [.ptr na ga 0]] [lU no g xs,aU na ga a] (.tup [.d (.int .i64 (dZ xs a.addr)),.d (.bool (um xs a.addr))]) (fun _=>false) [lU no g xs,aU na ga a]:=by
 refine de.bi Tryz.func159 [60007,70014,70015,40018] (by simp[cH,cS,hg,hga,aU,lU,fG]) (by simp[cH,cS,hg,hga,aU,lU,fG]) (by simp[hg,hga,aU,lU,fG]) ?_
 have hne':na≠no:=fun e=>hne e.symm
 have hk1: ∀k,(no=fo+k)=False:=fun k=>by simp;omega
 have hk2: ∀k,(fo+k=no)=False:=fun k=>by simp;omega
 have hk3: ∀k,(na=fo+k)=False:=fun k=>by simp;omega
 have hk4: ∀k,(fo+k=na)=False:=fun k=>by simp;omega
 simp-implicitDefEqProofs (disch:=try exact dd) [cB,aU,lU]
 refine lp (plI fo no g na ga xs a) (fun i=>xs.length-i) 0 (by refine⟨by omega,by simp,?_,?_,?_,?_,?_,?_,?_,?_,?_,?_⟩<;>simp-implicitDefEqProofs (disch:=try exact dd) [cB,hne,hne',hk1,hk2,hk3,hk4]) ?_
 rintro i S ⟨hi,hlo,e0,e1,e9,e10,e11,efo,g1,b1,g2,b2⟩;by_cases hlt:i<xs.length
 ·have k6:(i:Int)<xs.length:=by omega
  have hat:=ML hlt;have hbl:i*4+4≤(fG xs).length:=by rw[iZ];omega
  have q:=fun gl=>MJ xs[i] a na ga (fo:=fo+1000) (gl:=gl) (by omega) hga
  unfold PA at q;by_cases c1:xs[i].addr<a.addr
  ·rw[if_pos c1]at q
   simp-implicitDefEqProofs (disch:=try exact dd) [cB,e0,e1,e9,e10,e11,efo,g1,b1,g2,b2,k6,hat,hbl,hk1,hk2,hk3,hk4,hne,hne']
   refine dx (fo+1000) rfl rfl (q _) rfl ?_ ?_
   ·simp-implicitDefEqProofs (disch:=try exact dd) [cB,aU,e0,e1,e9,e10,e11,efo,g1,b1,g2,b2,k6,hat,hbl,hk1,hk2,hk3,hk4,hne,hne',hga]
   ·simp-implicitDefEqProofs (disch:=try exact dd) [cB,aU,e0,e1,e9,e10,e11,efo,g1,b1,g2,b2,k6,hat,hbl,hk1,hk2,hk3,hk4,hne,hne',c1]
    exact cE (i+1) ⟨by omega,fun j h hj=>by
     by_cases e:j=i
     ·subst e;exact c1
     ·exact hlo j h (by omega),by simp-implicitDefEqProofs (disch:=try exact dd) [cB,e0],by simp-implicitDefEqProofs (disch:=try exact dd) [cB,e1],by simp-implicitDefEqProofs (disch:=try exact dd) [cB,e9],by simp-implicitDefEqProofs (disch:=try exact dd) [cB,e10],by simp-implicitDefEqProofs (disch:=try exact dd) [cB],by simp-implicitDefEqProofs (disch:=try exact dd) [cB,efo],by simp-implicitDefEqProofs (disch:=try exact dd) [cB,aU,e0,e1,e9,e10,e11,efo,g1,b1,g2,b2,k6,hat,hbl,hk1,hk2,hk3,hk4,hne,hne'],by simp-implicitDefEqProofs (disch:=try exact dd) [cB,aU,e0,e1,e9,e10,e11,efo,g1,b1,g2,b2,k6,hat,hbl,hk1,hk2,hk3,hk4,hne,hne'],by simp-implicitDefEqProofs (disch:=try exact dd) [cB,aU,e0,e1,e9,e10,e11,efo,g1,b1,g2,b2,k6,hat,hbl,hk1,hk2,hk3,hk4,hne,hne'],by simp-implicitDefEqProofs (disch:=try exact dd) [cB,aU,e0,e1,e9,e10,e11,efo,g1,b1,g2,b2,k6,hat,hbl,hk1,hk2,hk3,hk4,hne,hne']⟩ (by omega)
  ·have hp:dZ xs a.addr=i:=sM hi hlo fun _=>by omega
   have hia:um xs a.addr=decide (xs[i].addr=a.addr):=by
    simp only[um,hp,hlt,bG,Bool.true_and,List.getD_eq_getElem?_getD,List.getElem?_eq_getElem hlt,Option.getD_some]
   rw[if_neg c1]at q;rw[hp,hia];by_cases c2:a.addr<xs[i].addr
   ·have hne2: ¬xs[i].addr=a.addr:=by omega
    rw[if_pos c2]at q
    simp-implicitDefEqProofs (disch:=try exact dd) [cB,e0,e1,e9,e10,e11,efo,g1,b1,g2,b2,k6,hat,hbl,hk1,hk2,hk3,hk4,hne,hne']
    refine dx (fo+1000) rfl rfl (q _) rfl ?_ ?_
    ·simp-implicitDefEqProofs (disch:=try exact dd) [cB,aU,e0,e1,e9,e10,e11,efo,g1,b1,g2,b2,k6,hat,hbl,hk1,hk2,hk3,hk4,hne,hne',hga]
    ·simp-implicitDefEqProofs (disch:=try exact dd) [cB,aU,lU,e0,e1,e9,e10,e11,efo,g1,b1,g2,b2,k6,hat,hbl,hk1,hk2,hk3,hk4,hne,hne',c1,c2,hne2]
   ·have he2:xs[i].addr=a.addr:=by omega
    rw[if_neg c2]at q
    simp-implicitDefEqProofs (disch:=try exact dd) [cB,e0,e1,e9,e10,e11,efo,g1,b1,g2,b2,k6,hat,hbl,hk1,hk2,hk3,hk4,hne,hne']
    refine dx (fo+1000) rfl rfl (q _) rfl ?_ ?_
    ·simp-implicitDefEqProofs (disch:=try exact dd) [cB,aU,e0,e1,e9,e10,e11,efo,g1,b1,g2,b2,k6,hat,hbl,hk1,hk2,hk3,hk4,hne,hne',hga]
    ·simp-implicitDefEqProofs (disch:=try exact dd) [cB,aU,lU,e0,e1,e9,e10,e11,efo,g1,b1,g2,b2,k6,hat,hbl,hk1,hk2,hk3,hk4,hne,hne',c1,c2,he2]
 ·have k6: ¬(i:Int)<xs.length:=by omega
  have hil:i=xs.length:=by omega
  have hp:dZ xs a.addr=xs.length:=sM (Nat.le_refl _) (fun j h _=>hlo j h (by omega)) fun h=>by omega
  have hia:um xs a.addr=false:=by
   simp only[um,hp,Nat.lt_irrefl,decide_false,aV]
  rw[hp,hia]
  simp-implicitDefEqProofs (disch:=try exact dd) [cB,aU,lU,e0,e1,e9,e10,e11,efo,g1,b1,g2,b2,k6,hk1,hk2,hk3,hk4,hne,hne']
theorem Db(a:cC)(na ga:Nat){fo:Nat}{gl:Nat→Nat}(hna:na<fo)(hga:0<ga):
 de Tryz.prog fo gl 159 [.d (.slice []),.fn 160 [.ptr na ga 0]] [aU na ga a] (.tup [.d (.int .i64 0),.d (.bool false)]) (fun _=>false) [aU na ga a]:=by
 refine de.bi Tryz.func159 [60007,70014,70015,40018] (by simp[cH,cS,hga,aU]) (by simp[cH,cS,hga,aU]) (by simp[hga,aU]) ?_
 have hk3: ∀k,(na=fo+k)=False:=fun k=>by simp;omega
 have hk4: ∀k,(fo+k=na)=False:=fun k=>by simp;omega
 simp-implicitDefEqProofs (disch:=try exact dd) [cB,aU]
 refine lp (fun(_:Unit) S=>S.t 0= .d (.slice [])∧S.t 9= .d (.slice [])∧S.t 10= .d (.int .i64 0)∧S.t 11= .d (.int .i64 0)∧S.fo=fo∧S.gen na=ga∧S.box na= [.d (.int .i64 a.addr),.d (.int .i64 a.state),.d (.int .i64 a.expiry),.d (.str a.key)]) (fun _=>0) () (by refine⟨?_,?_,?_,?_,?_,?_,?_⟩<;>simp-implicitDefEqProofs (disch:=try exact dd) [cB,hk3,hk4]) ?_
 rintro _ S ⟨e0,e9,e10,e11,efo,g2,b2⟩
 simp-implicitDefEqProofs (disch:=try exact dd) [cB,aU,e0,e9,e10,e11,efo,g2,b2,hk3,hk4]
def clI(ls:List cC)(q:Nat×Nat)(S:PS):Prop:=
 q.1≤ls.length∧S.t 9= .d (.slice (ls.map cC.d))∧S.t 10= .d (.int .i64 ls.length)∧S.t 11= .d (.int .i64 q.1)∧S.fo=FO∧
  ((q.1=0∧S.t 3= .d (.slice [])∧S.own (.t 3 0)=true)∨(0<q.1∧0<q.2∧S.t 3= .bsl (FO+37) q.2 (ei (ls.take q.1)).length 4 true∧S.gen (FO+37)=q.2∧S.box (FO+37)=fG (ei (ls.take q.1))))
theorem z0(ls:List cC)(hl:ls.length≤100000):cD Tryz.prog 92 [.d (.slice (ls.map cC.d))] (.d (.slice ((ei ls).map cC.d))) (fun _=>false):=by
 refine cD.bi Tryz.func92 [50013,50014,40018,30030,10037,10039] ?_
 simp-implicitDefEqProofs (disch:=try exact dd) [cB, -List.map_take, -List.map_drop]
 refine lp (clI ls) (fun q=>ls.length-q.1) (0,0) ⟨by simp,by simp,by simp,by simp,by simp,.inl ⟨by simp,by simp,by simp⟩⟩ ?_
 rintro⟨i,g⟩ S ⟨hi,e9,e10,e11,efo,hout⟩;dsimp only at hi e9 e10 e11 hout;by_cases hlt:i<ls.length
 ·have k6:(i:Int)<ls.length:=by omega
  have hti:ei (ls.take (i+1))=pe (ei (ls.take i)) ls[i]:=by rw[List.take_succ_eq_append_getElem hlt,oJ]
  have hn:nth ls (i:Int)=ls[i]:=dB hlt;generalize ls[i]=a at*
  rcases hout with⟨rfl,e3,o3⟩|⟨hi0,hg0,e3,g37,b37⟩
  ·have q:=fun gl=>Db a (FO+5) (S.gen (FO+5)+1) (fo:=FO+1000) (gl:=gl) (by omega) (by omega)
   have hti:ei (ls.take 1)= [a]:=hti;have hn:nth ls 0=a:=hn
   simp-implicitDefEqProofs (disch:=try exact dd) [cB, -List.map_take, -List.map_drop,e3,o3,e9,e10,e11,efo,k6,hn]
   refine dx (FO+1000) rfl rfl (q _) rfl ?_ ?_
   ·simp-implicitDefEqProofs (disch:=try exact dd) [cB, -List.map_take, -List.map_drop,aU,efo,hn]
   ·simp-implicitDefEqProofs (disch:=try exact dd) [cB, -List.map_take, -List.map_drop,aU,e3,o3,e9,e10,e11,efo,k6,hn,dS,nO]
    exact cE (1,S.gen (FO+37)+2) (by refine⟨by show 1≤ls.length;omega,?_,?_,?_,?_,.inr ⟨by simp,by simp,by rw[hti];simp-implicitDefEqProofs (disch:=try exact dd) [cB, -List.map_take, -List.map_drop,efo],by simp-implicitDefEqProofs (disch:=try exact dd) [cB, -List.map_take, -List.map_drop,efo],by rw[hti];simp-implicitDefEqProofs (disch:=try exact dd) [cB, -List.map_take, -List.map_drop,efo,gX,s4]⟩⟩<;>simp-implicitDefEqProofs (disch:=try exact dd) [cB, -List.map_take, -List.map_drop,e9,e10,efo]) (by show ls.length-1<ls.length-0;omega)
  ·have hxl:(ei (ls.take i)).length≤100000:=by have:=lB (ls.take i);simp only[List.length_take]at this;omega
   generalize ei (ls.take i)=xs at*
   have hp:=vV xs a.addr;have q:=fun gl=>E8 xs a (FO+37) g (FO+5) (S.gen (FO+5)+1) (fo:=FO+1000) (gl:=gl) (by omega) (by omega) (by decide) hg0 (by omega) (by omega)
   unfold pe at hti
   cases hia:um xs a.addr with
   |true=>
    obtain⟨hpl,_⟩:=qP hia;rw[hia]at q hti;rw[if_pos rfl]at hti;have hset:=CA hpl a;have hbl:dZ xs a.addr*4+4≤(fG xs).length:=by rw[iZ];omega
    generalize dZ xs a.addr=p at*
    simp-implicitDefEqProofs (disch:=try exact dd) [cB, -List.map_take, -List.map_drop,e3,e9,e10,e11,efo,k6,hn,g37,b37]
    refine dx (FO+1000) rfl rfl (q _) rfl ?_ ?_
    ·simp-implicitDefEqProofs (disch:=try exact dd) [cB, -List.map_take, -List.map_drop,aU,lU,efo,hn,g37,b37,hg0]
    ·simp-implicitDefEqProofs (disch:=try exact dd) [cB, -List.map_take, -List.map_drop,aU,lU,e3,e9,e10,e11,efo,k6,hn,g37,b37,hpl,hbl,hset]
     exact cE (i+1,g) (by refine⟨by show i+1≤ls.length;omega,?_,?_,?_,?_,.inr ⟨by simp,hg0,by rw[hti];simp-implicitDefEqProofs (disch:=try exact dd) [cB, -List.map_take, -List.map_drop,efo,e3],by simp-implicitDefEqProofs (disch:=try exact dd) [cB, -List.map_take, -List.map_drop,efo,g37],by rw[hti];simp-implicitDefEqProofs (disch:=try exact dd) [cB, -List.map_take, -List.map_drop,efo,hset]⟩⟩<;>simp-implicitDefEqProofs (disch:=try exact dd) [cB, -List.map_take, -List.map_drop,e9,e10,efo]) (by show ls.length-(i+1)<ls.length-i;omega)
   |false=>
    rw[hia]at q hti;rw[if_neg (by simp)]at hti
    generalize dZ xs a.addr=p at*
    have hpart:=zw (xs:=xs) (lo:=p) (n:=xs.length-p) (by omega)
    have hdl:(xs.drop p).take (xs.length-p)=xs.drop p:=List.take_of_length_le (by simp)
    have hW:yL g (fG xs) g p (xs.length-p) 4 true=some ((xs.drop p).map cC.d):=by
     unfold yL;rw[if_pos ⟨rfl,by rw[iZ];omega,by simp⟩,hpart,hdl]
    simp-implicitDefEqProofs (disch:=try exact dd) [cB, -List.map_take, -List.map_drop,e3,e9,e10,e11,efo,k6,hn,g37,b37]
    refine dx (FO+1000) rfl rfl (q _) rfl ?_ ?_
    ·simp-implicitDefEqProofs (disch:=try exact dd) [cB, -List.map_take, -List.map_drop,aU,lU,efo,hn,g37,b37,hg0]
    ·simp-implicitDefEqProofs (disch:=try exact dd) [cB, -List.map_take, -List.map_drop,aU,lU,e3,e9,e10,e11,efo,k6,hn,g37,b37,dS,nO,hW]
     exact cE (i+1,g+2) (by refine⟨by show i+1≤ls.length;omega,?_,?_,?_,?_,.inr ⟨by simp,by simp,by rw[hti];simp-implicitDefEqProofs (disch:=try exact dd) [cB, -List.map_take, -List.map_drop,efo,e3,g37];omega,by simp-implicitDefEqProofs (disch:=try exact dd) [cB, -List.map_take, -List.map_drop,efo,g37],by rw[hti,xj,gX,←qL];simp-implicitDefEqProofs (disch:=try exact dd) [cB, -List.map_take, -List.map_drop,efo,b37];rfl⟩⟩<;>simp-implicitDefEqProofs (disch:=try exact dd) [cB, -List.map_take, -List.map_drop,e9,e10,efo]) (by show ls.length-(i+1)<ls.length-i;omega)
 ·have k6: ¬(i:Int)<ls.length:=by omega
  have ht:ls.take i=ls:=List.take_of_length_le (by omega)
  rw[ht]at hout;rcases hout with⟨hi0,e3,o3⟩|⟨hi0,hg0,e3,g37,b37⟩
  ·have:ls= []:=List.eq_nil_of_length_eq_zero (by omega)
   subst this
   simp-implicitDefEqProofs (disch:=try exact dd) [cB, -List.map_take, -List.map_drop,e3,o3,e9,e10,e11,efo,ei]
  ·have hth:=qK (xs:=ei ls) rfl
   simp-implicitDefEqProofs (disch:=try exact dd) [cB, -List.map_take, -List.map_drop,e3,e9,e10,e11,efo,k6,g37,b37,jN,hth]
def wY(t:List cC)(i:Nat):Bool:=decide (i=0)||decide ((t.getD (i-1) default).addr<(t.getD i default).addr)
def mm(t:List cC)(i:Nat):Bool:=c8 (t.getD i default)&&wY t i
def dk(t:List cC):Bool:=decide (t.length≤64)&&(List.range t.length).all (mm t)
def fI(t:List cC):List cC:=if dk t=true then t else[]
theorem vP{t:List cC}:dk t=true↔t.length≤64∧ ∀i,i<t.length→mm t i=true:=by
 unfold dk;rw[Bool.and_eq_true,decide_eq_true_eq,List.all_eq_true];simp only[List.mem_range]
theorem qw{t:List cC}{i:Nat}(h:i<t.length):mm t i=(c8 t[i]&&(decide (i=0)||decide ((t.getD (i-1) default).addr<t[i].addr))):=by
 simp only[mm,wY,List.getD_eq_getElem?_getD,List.getElem?_eq_getElem h,Option.getD_some]
theorem gy{t:List cC}:dk t=true↔t.length≤64∧(∀l∈t,c8 l=true)∧pg t:=by
 rw[vP];constructor
 ·rintro⟨h1,h2⟩;refine⟨h1,fun l hl=>?_,?_⟩
  ·obtain⟨i,hi,rfl⟩:=List.mem_iff_getElem.1 hl;have:=h2 i hi;rw[qw hi,Bool.and_eq_true]at this;exact this.1
  ·unfold pg;rw[List.pairwise_iff_getElem];intro i j hi hj hij
   induction j with
   |zero=>omega
   |succ j ih=>
    have h3:=h2 (j+1) hj;have hjl:j<t.length:=by omega
    rw[qw hj]at h3;simp only[Bool.and_eq_true,Bool.or_eq_true,decide_eq_true_eq,Nat.add_sub_cancel,List.getD_eq_getElem?_getD,List.getElem?_eq_getElem hjl,Option.getD_some]at h3;have h4:t[j].addr<t[j+1].addr:=by
     rcases h3.2 with h|h
     ·omega
     ·exact h
    by_cases e:i=j
    ·subst e;exact h4
    ·have:=ih hjl (by omega)
     omega
 ·rintro⟨h1,h2,h3⟩;refine⟨h1,fun i hi=>?_⟩
  rw[qw hi,h2 _ (List.getElem_mem hi),Bool.true_and,Bool.or_eq_true,decide_eq_true_eq,decide_eq_true_eq];by_cases e:i=0
  ·exact .inl e
  ·have hj:i-1<t.length:=by omega
   refine .inr ?_;rw[List.getD_eq_getElem?_getD,List.getElem?_eq_getElem hj,Option.getD_some];exact jx h3 hi (by omega)
theorem Ar:dk []=true:=by simp[gy,pg]
theorem jZ(t:List cC):dk (fI t)=true:=by
 unfold fI;split
 ·assumption
 ·exact Ar
theorem kA{t:List cC}(h:dk t=true):fI t=t:=if_pos h
def gJ(t:List cC)(l:cC):List cC×Int:=
 if c8 l=false then([],1)else if um (fI t) l.addr=false∧(fI t).length=64 then([],3)else(pe (fI t) l,0)
def gq(t:List cC)(a:Int):cC×Bool:=if um (fI t) a=true then((fI t).getD (dZ (fI t) a) default,true)else(⟨0,0,0,[]⟩,false)
theorem sA{t:List cC}{l:cC}(h:(gJ t l).2=0):dk (gJ t l).1=true∧c8 l=true∧(gJ t l).1=pe (fI t) l:=by
 unfold gJ at h⊢;by_cases hr:c8 l=false
 ·rw[if_pos hr]at h;simp at h
 rw[if_neg hr]at h⊢;have hr:c8 l=true:=by simpa using hr
 by_cases hc:um (fI t) l.addr=false∧(fI t).length=64
 ·rw[if_pos hc]at h;simp at h
 rw[if_neg hc];refine⟨?_,hr,rfl⟩;obtain⟨h1,h2,h3⟩:=gy.1 (jZ t);obtain⟨h4,h5⟩:=uo h3 l;rw[gy];refine⟨?_,fun b hb=>?_,h4⟩
 ·show(pe (fI t) l).length≤64
  rw[CI];split
  ·exact h1
  ·rename_i hi;have hi:um (fI t) l.addr=false:=by simpa using hi
   have: ¬(fI t).length=64:=fun e=>hc ⟨hi,e⟩
   omega
 ·rcases(h5 b).1 hb with rfl|h6
  ·exact hr
  ·exact h2 b h6.1
def trI(t:List cC)(i:Nat)(S:PS):Prop:=
 i≤t.length∧(∀j,j<i→mm t j=true)∧S.t 0= .d (.slice (t.map cC.d))∧S.t 5= .d (.slice (t.map cC.d))∧S.t 6= .d (.int .i64 t.length)∧S.t 7= .d (.int .i64 i)
theorem Aq{t:List cC}{i:Nat}(h:i<t.length)(hn:mm t i=false):dk t=false:=by
 rw[aM];intro h2;rw[(vP.1 h2).2 i h]at hn
 cases hn
theorem jP(t:List cC)(ht:t.length≤1000000)(hk: ∀l∈t,l.key.length≤9223372036854775807):cD Tryz.prog 93 [.d (.slice (t.map cC.d))] (.d (.bool (dk t))) (fun _=>false):=by
 refine cD.bi Tryz.func93 [50010,50011] ?_
 simp-implicitDefEqProofs (disch:=try exact dd) [cB]
 refine lp (trI t) (fun i=>t.length-i) 0 ⟨by omega,by simp,by simp,by simp,by simp,by simp⟩ ?_
 rintro i S ⟨hi,ha,e0,e5,e6,e7⟩;by_cases hlt:i<t.length
 ·have k6:(i:Int)<t.length:=by omega
  have hn:nth t (i:Int)=t[i]:=dB hlt;have q:=mr t[i] (hk _ (List.getElem_mem hlt));have hat:=qw hlt;have hstep:mm t i=true→ ∀j,j<i+1→mm t j=true:=fun h j hj=>by
   by_cases e:j=i
   ·subst e;exact h
   ·exact ha j (by omega)
  cases hr:c8 t[i]with
  |false=>
   rw[hr]at q hat;have hz:=Aq hlt (by rw[hat];rfl)
   generalize t[i]=x at*
   simp-implicitDefEqProofs (disch:=try exact dd) [cB,e0,e5,e6,e7,k6,hn]
   refine oc q ?_
   simp-implicitDefEqProofs (disch:=try exact dd) [cB,e0,e5,e6,e7,k6,hn,hz]
  |true=>
   rw[hr,Bool.true_and]at hat;rw[hr]at q
   cases i with
   |zero=>
    have hs:=hstep (by rw[hat];rfl)
    have hn:nth t 0=t[0]:=hn;have k6:0<t.length:=by omega
    generalize t[0]=x at*
    simp-implicitDefEqProofs (disch:=try exact dd) [cB,e0,e5,e6,e7,k6,hn]
    refine oc q ?_
    simp-implicitDefEqProofs (disch:=try exact dd) [cB,e0,e5,e6,e7,k6,hn]
    exact cE 1 (by refine⟨by omega,hs,?_,?_,?_,?_⟩<;>simp-implicitDefEqProofs (disch:=try exact dd) [cB,e0,e5,e6]) (by omega)
   |succ i=>
    have hjl:i<t.length:=by omega
    have hn2:nth t (i:Int)=t[i]:=dB hjl;have hi1:((i+1:Nat):Int)-1=i:=by omega
    have hp1:(0:Int)<(i:Int)+1:=by omega
    have hl1:(i:Int)<t.length:=by omega
    have hn:nth t ((i:Int)+1)=t[i+1]:=hn;have k6:(i:Int)+1<t.length:=by omega
    have hat:mm t (i+1)=decide (t[i].addr<t[i+1].addr):=by
     rw[hat];simp[List.getD_eq_getElem?_getD,List.getElem?_eq_getElem hjl]
    by_cases hc:t[i].addr<t[i+1].addr
    ·have hs:=hstep (by rw[hat];simpa using hc)
     have hc': ¬t[i+1].addr≤t[i].addr:=by omega
     generalize t[i+1]=x at*
     generalize t[i]=y at*
     simp-implicitDefEqProofs (disch:=try exact dd) [cB,e0,e5,e6,e7,k6,hn]
     refine oc q ?_
     simp-implicitDefEqProofs (disch:=try exact dd) [cB,e0,e5,e6,e7,k6,hn,hn2,hi1,hp1,hl1,hc,hc']
     exact cE (i+2) (by refine⟨by omega,hs,?_,?_,?_,by simp-implicitDefEqProofs (disch:=try exact dd) [cB];omega⟩<;>simp-implicitDefEqProofs (disch:=try exact dd) [cB,e0,e5,e6]) (by omega)
    ·have hz:=Aq hlt (by rw[hat];simpa using hc)
     have hc':t[i+1].addr≤t[i].addr:=by omega
     generalize t[i+1]=x at*
     generalize t[i]=y at*
     simp-implicitDefEqProofs (disch:=try exact dd) [cB,e0,e5,e6,e7,k6,hn]
     refine oc q ?_
     simp-implicitDefEqProofs (disch:=try exact dd) [cB,e0,e5,e6,e7,k6,hn,hn2,hi1,hp1,hl1,hc,hc',hz]
 ·have k6: ¬(i:Int)<t.length:=by omega
  have hz:dk t=decide ((t.length:Int)≤64):=by
   rw[Bool.eq_iff_iff,vP,decide_eq_true_eq];constructor
   ·rintro⟨h,_⟩;omega
   ·exact fun h=>⟨by omega,fun j hj=>ha j (by omega)⟩
  rw[hz]
  simp-implicitDefEqProofs (disch:=try exact dd) [cB,e0,e5,e6,e7,k6]
theorem yN(t:List cC)(ht:t.length≤1000000)(hk: ∀l∈t,l.key.length≤9223372036854775807):cD Tryz.prog 217 [.d (.slice (t.map cC.d))] (.d (.slice ((fI t).map cC.d))) (fun j=>j==0):=by
 refine cD.bi Tryz.func217 [] ?_;have q:=jP t ht hk;unfold fI
 cases hr:dk t with
 |false=>
  rw[hr]at q
  simp-implicitDefEqProofs (disch:=try exact dd) [cB]
  refine oc q ?_
  simp-implicitDefEqProofs (disch:=try exact dd) [cB]
 |true=>
  rw[hr]at q
  simp-implicitDefEqProofs (disch:=try exact dd) [cB]
  refine oc q ?_
  simp-implicitDefEqProofs (disch:=try exact dd) [cB]
theorem Dz(t:List cC)(ht:t.length≤1000000)(hk: ∀l∈t,l.key.length≤9223372036854775807)(hr:dk t=true){fo:Nat}{gl:Nat→Nat}:
 de Tryz.prog fo gl 217 [.d (.slice (t.map cC.d))] [] (.bsl (fo+8) (gl (fo+8)+1) t.length 4 true) (fun _=>false) [lU (fo+8) (gl (fo+8)+1) t]:=by
 refine de.bi Tryz.func217 [10008] (by simp[cH,cS,lU,fG]) (by simp[cH,cS,lU,fG]) (by simp[lU,fG]) ?_
 have q:=jP t ht hk;rw[hr]at q
 simp-implicitDefEqProofs (disch:=try exact dd) [cB,lU]
 refine oc q ?_
 simp-implicitDefEqProofs (disch:=try exact dd) [cB,lU,fG]
theorem Dy(t:List cC)(ht:t.length≤1000000)(hk: ∀l∈t,l.key.length≤9223372036854775807)(hr:dk t=false){fo:Nat}{gl:Nat→Nat}:
 de Tryz.prog fo gl 217 [.d (.slice (t.map cC.d))] [] (.d (.slice [])) (fun j=>j==0) []:=by
 refine de.bi Tryz.func217 [10008] (by simp[cH,cS]) (by simp[cH,cS]) (by simp) ?_
 have q:=jP t ht hk;rw[hr]at q
 simp-implicitDefEqProofs (disch:=try exact dd) [cB]
 refine oc q ?_
 simp-implicitDefEqProofs (disch:=try exact dd) [cB]
theorem vQ{t:List cC}(h:pg t){a:Int}{m:Nat}(hm:m<t.length)(he:t[m].addr=a):dZ t a=m∧um t a=true:=by
 have:dZ t a=m:=sM (by omega) (fun j hj hjm=>by rw[←he];exact jx h hm hjm) (fun _=>by omega)
 exact⟨this,(A_ h).2 ⟨_,List.getElem_mem hm,he⟩⟩
theorem Gq{t:List cC}{a:Int}{m:Nat}(hm:m≤t.length)(h1: ∀j (h:j<t.length),j<m→t[j].addr<a)(h2: ∀j (h:j<t.length),m≤j→a<t[j].addr):dZ t a=m∧um t a=false:=by
 have hp:dZ t a=m:=sM hm h1 fun h=>by have:=h2 m h (Nat.le_refl _);omega
 refine⟨hp,?_⟩;rw[aM];intro h;obtain⟨hl,he⟩:=qP h;have:=h2 _ hl (by omega)
 omega
def tpI(t:List cC)(a:Int)(q:Nat×Nat)(S:PS):Prop:=
 q.1≤q.2∧q.2≤t.length∧(∀j (h:j<t.length),j<q.1→t[j].addr<a)∧(∀j (h:j<t.length),q.2≤j→a<t[j].addr)∧S.t 0= .d (.slice (t.map cC.d))∧S.t 1= .d (.int .i64 a)∧S.t 6= .d (.int .i64 q.1)∧S.t 7= .d (.int .i64 q.2)
theorem Dx(t:List cC)(a:Int)(ht:t.length≤1000000)(hs:pg t):cD Tryz.prog 218 [.d (.slice (t.map cC.d)),.d (.int .i64 a)] (.tup [.d (.int .i64 (dZ t a)),.d (.bool (um t a))]) (fun _=>false):=by
 refine cD.bi Tryz.func218 [] ?_
 simp-implicitDefEqProofs (disch:=try exact dd) [cB]
 refine lp (tpI t a) (fun q=>q.2-q.1) (0,t.length) ⟨by simp,by simp,by simp,fun j h h2=>by simp at h2;omega,by simp,by simp,by simp,by simp⟩ ?_
 rintro⟨lo,hi⟩ S ⟨hlh,hhl,h1,h2,e0,e1,e6,e7⟩;dsimp only at hlh hhl h1 h2 e6 e7;by_cases hlt:lo<hi
 ·have k6:(lo:Int)<hi:=by omega
  have hq:((lo:Int)+hi).tdiv 2=((lo+hi)/2:Nat):=by
   rw[show((lo:Int)+hi)=((lo+hi:Nat):Int) by omega]
   exact(Int.ofNat_tdiv (lo+hi) 2).symm
  have hm1:lo≤(lo+hi)/2:=by omega
  have hm2:(lo+hi)/2<hi:=by omega
  generalize(lo+hi)/2=m at*
  have hml:m<t.length:=by omega
  have hml':(m:Int)<t.length:=by omega
  have hn:nth t (m:Int)=t[m]:=dB hml;by_cases c1:t[m].addr=a
  ·obtain⟨hp,hia⟩:=vQ hs hml c1;rw[hp,hia];have hsx:=fun(j:Nat) (h:j<t.length)=>0
   generalize t[m]=x at*
   simp-implicitDefEqProofs (disch:=try exact dd) [cB,e0,e1,e6,e7,k6,hq,hml',hn,c1]
  ·by_cases c2:t[m].addr<a
   ·have h1': ∀j (h:j<t.length),j<m+1→t[j].addr<a:=fun j h hj=>by
     by_cases e:j=m
     ·subst e;exact c2
     ·have:=jx hs hml (show j<m by omega);omega
    generalize t[m]=x at*
    simp-implicitDefEqProofs (disch:=try exact dd) [cB,e0,e1,e6,e7,k6,hq,hml',hn,c1,c2]
    exact cE (m+1,hi) (by refine⟨by show m+1≤hi;omega,hhl,h1',h2,?_,?_,?_,?_⟩<;>simp-implicitDefEqProofs (disch:=try exact dd) [cB,e0,e1,e7]) (by show hi-(m+1)<hi-lo;omega)
   ·have h2': ∀j (h:j<t.length),m≤j→a<t[j].addr:=fun j h hj=>by
     by_cases e:j=m
     ·subst e;omega
     ·have:=jx hs h (show m<j by omega);omega
    generalize t[m]=x at*
    simp-implicitDefEqProofs (disch:=try exact dd) [cB,e0,e1,e6,e7,k6,hq,hml',hn,c1,c2]
    exact cE (lo,m) (by refine⟨hm1,by show m≤t.length;omega,h1,h2',?_,?_,?_,?_⟩<;>simp-implicitDefEqProofs (disch:=try exact dd) [cB,e0,e1,e6]) (by show m-lo<hi-lo;omega)
 ·have k6: ¬(lo:Int)<hi:=by omega
  have hle:lo=hi:=by omega
  subst hle;obtain⟨hp,hia⟩:=Gq hhl h1 h2;rw[hp,hia];by_cases hll:lo<t.length
  ·have hll':(lo:Int)<t.length:=by omega
   have hn:nth t (lo:Int)=t[lo]:=dB hll;have hne: ¬t[lo].addr=a:=by have:=h2 lo hll (Nat.le_refl _);omega
   generalize t[lo]=x at*
   simp-implicitDefEqProofs (disch:=try exact dd) [cB,e0,e1,e6,e7,k6,hll',hn,hne]
  ·have hll': ¬(lo:Int)<t.length:=by omega
   simp-implicitDefEqProofs (disch:=try exact dd) [cB,e0,e1,e6,e7,k6,hll']
theorem BS(a:Int){fo:Nat}{gl:Nat→Nat}:de Tryz.prog fo gl 218 [.d (.slice []),.d (.int .i64 a)] [] (.tup [.d (.int .i64 0),.d (.bool false)]) (fun _=>false) []:=by
 refine de.bi Tryz.func218 [] (by simp[cH,cS]) (by simp[cH,cS]) (by simp) ?_
 simp-implicitDefEqProofs (disch:=try exact dd) [cB]
 refine lp (fun(_:Unit) S=>S.t 0= .d (.slice [])∧S.t 1= .d (.int .i64 a)∧S.t 6= .d (.int .i64 0)∧S.t 7= .d (.int .i64 0)) (fun _=>0) () ⟨by simp,by simp,by simp,by simp⟩ ?_
 rintro _ S ⟨e0,e1,e6,e7⟩
 simp-implicitDefEqProofs (disch:=try exact dd) [cB,e0,e1,e6,e7]
def tqI(no g fo:Nat)(t:List cC)(a:Int)(q:Nat×Nat)(S:PS):Prop:=
 q.1≤q.2∧q.2≤t.length∧(∀j (h:j<t.length),j<q.1→t[j].addr<a)∧(∀j (h:j<t.length),q.2≤j→a<t[j].addr)∧S.t 0= .bsl no g t.length 4 true∧S.t 1= .d (.int .i64 a)∧S.t 6= .d (.int .i64 q.1)∧S.t 7= .d (.int .i64 q.2)∧S.fo=fo∧S.gen no=g∧S.box no=fG t
theorem BR(t:List cC)(a:Int)(ht:t.length≤1000000)(hs:pg t)(no g:Nat){fo:Nat}{gl:Nat→Nat}(hno:no<fo)(hg:0<g):
 de Tryz.prog fo gl 218 [.bsl no g t.length 4 true,.d (.int .i64 a)] [lU no g t] (.tup [.d (.int .i64 (dZ t a)),.d (.bool (um t a))]) (fun _=>false) [lU no g t]:=by
 refine de.bi Tryz.func218 [] (by simp[cH,cS,hg,lU,fG]) (by simp[cH,cS,hg,lU,fG]) (by simp[hg,lU,fG]) ?_
 have hk1: ∀k,(no=fo+k)=False:=fun k=>by simp;omega
 have hk2: ∀k,(fo+k=no)=False:=fun k=>by simp;omega
 simp-implicitDefEqProofs (disch:=try exact dd) [cB,lU]
 refine lp (tqI no g fo t a) (fun q=>q.2-q.1) (0,t.length) (by refine⟨by simp,by simp,by simp,fun j h h2=>by simp at h2;omega,by simp,by simp,by simp,by simp,by simp,?_,?_⟩<;>simp-implicitDefEqProofs (disch:=try exact dd) [cB,hk1,hk2]) ?_
 rintro⟨lo,hi⟩ S ⟨hlh,hhl,h1,h2,e0,e1,e6,e7,efo,g1,b1⟩;dsimp only at hlh hhl h1 h2 e6 e7;by_cases hlt:lo<hi
 ·have k6:(lo:Int)<hi:=by omega
  have hq:((lo:Int)+hi).tdiv 2=((lo+hi)/2:Nat):=by
   rw[show((lo:Int)+hi)=((lo+hi:Nat):Int) by omega]
   exact(Int.ofNat_tdiv (lo+hi) 2).symm
  have hm1:lo≤(lo+hi)/2:=by omega
  have hm2:(lo+hi)/2<hi:=by omega
  generalize(lo+hi)/2=m at*
  have hml:m<t.length:=by omega
  have hml':(m:Int)<t.length:=by omega
  have hat:=CB hml;have hbl:m*4<(fG t).length:=by rw[iZ];omega
  have hat:(fG t)[m*4]= .d (.int .i64 t[m].addr):=by rw[List.getElem?_eq_getElem hbl]at hat;exact au hat
  by_cases c1:t[m].addr=a
  ·obtain⟨hp,hia⟩:=vQ hs hml c1;rw[hp,hia];rw[c1]at hat
   simp-implicitDefEqProofs (disch:=try exact dd) [cB,e0,e1,e6,e7,k6,hq,hml',hat,hbl,g1,b1,lU,efo,hk1,hk2]
  ·by_cases c2:t[m].addr<a
   ·have h1': ∀j (h:j<t.length),j<m+1→t[j].addr<a:=fun j h hj=>by
     by_cases e:j=m
     ·subst e;exact c2
     ·have:=jx hs hml (show j<m by omega);omega
    generalize t[m].addr=x at*
    simp-implicitDefEqProofs (disch:=try exact dd) [cB,e0,e1,e6,e7,k6,hq,hml',hat,hbl,g1,b1,c1,c2]
    exact cE (m+1,hi) (by refine⟨by show m+1≤hi;omega,hhl,h1',h2,?_,?_,?_,?_,?_,?_,?_⟩<;>simp-implicitDefEqProofs (disch:=try exact dd) [cB,e0,e1,e7,efo,g1,b1]) (by show hi-(m+1)<hi-lo;omega)
   ·have h2': ∀j (h:j<t.length),m≤j→a<t[j].addr:=fun j h hj=>by
     by_cases e:j=m
     ·subst e;omega
     ·have:=jx hs h (show m<j by omega);omega
    generalize t[m].addr=x at*
    simp-implicitDefEqProofs (disch:=try exact dd) [cB,e0,e1,e6,e7,k6,hq,hml',hat,hbl,g1,b1,c1,c2]
    exact cE (lo,m) (by refine⟨hm1,by show m≤t.length;omega,h1,h2',?_,?_,?_,?_,?_,?_,?_⟩<;>simp-implicitDefEqProofs (disch:=try exact dd) [cB,e0,e1,e6,efo,g1,b1]) (by show m-lo<hi-lo;omega)
 ·have k6: ¬(lo:Int)<hi:=by omega
  have hle:lo=hi:=by omega
  subst hle;obtain⟨hp,hia⟩:=Gq hhl h1 h2;rw[hp,hia];by_cases hll:lo<t.length
  ·have hll':(lo:Int)<t.length:=by omega
   have hat:=CB hll;have hbl:lo*4<(fG t).length:=by rw[iZ];omega
   have hat:(fG t)[lo*4]= .d (.int .i64 t[lo].addr):=by rw[List.getElem?_eq_getElem hbl]at hat;exact au hat
   have hne: ¬t[lo].addr=a:=by have:=h2 lo hll (Nat.le_refl _);omega
   generalize t[lo].addr=x at*
   simp-implicitDefEqProofs (disch:=try exact dd) [cB,e0,e1,e6,e7,k6,hll',hat,hbl,hne,g1,b1,lU,efo,hk1,hk2]
  ·have hll': ¬(lo:Int)<t.length:=by omega
   simp-implicitDefEqProofs (disch:=try exact dd) [cB,e0,e1,e6,e7,k6,hll',g1,b1,lU,efo,hk1,hk2]
theorem KI(l:cC):pe [] l= [l]:=by simp[pe,um,dZ]
theorem BQ(t:List cC)(l:cC)(ht:t.length≤1000000)(hk: ∀l∈t,l.key.length≤9223372036854775807)(hl:l.key.length≤9223372036854775807):
 cD Tryz.prog 120 [.d (.slice (t.map cC.d)),.d l.d] (.tup [.d (.slice ((gJ t l).1.map cC.d)),.d (.int .i64 (gJ t l).2)]) (fun _=>false):=by
 refine cD.bi Tryz.func120 [20003,40010,40018,30034,10041,10043] ?_;have q2:=mr l hl;unfold gJ
 cases hr:dk t with
 |false=>
  have q1:=fun gl=>Dy t ht hk hr (fo:=FO+1000) (gl:=gl)
  have hg:fI t= []:=by unfold fI;rw[if_neg (by rw[hr];decide)]
  rw[hg]
  cases hrl:c8 l with
  |false=>
   rw[hrl]at q2;rw[if_pos rfl]
   simp-implicitDefEqProofs (disch:=try exact dd) [cB, -List.map_take, -List.map_drop,cC.d]
   refine dx (FO+1000) rfl rfl (q1 _) rfl (by simp-implicitDefEqProofs (disch:=try exact dd) [cB, -List.map_take, -List.map_drop]) ?_
   simp-implicitDefEqProofs (disch:=try exact dd) [cB, -List.map_take, -List.map_drop,cC.d]
   refine oc q2 ?_
   simp-implicitDefEqProofs (disch:=try exact dd) [cB, -List.map_take, -List.map_drop,cC.d]
  |true=>
   rw[hrl]at q2;rw[if_neg (by simp),if_neg (by simp),KI]
   have q3:=fun gl=>BS l.addr (fo:=FO+1000) (gl:=gl)
   simp-implicitDefEqProofs (disch:=try exact dd) [cB, -List.map_take, -List.map_drop,cC.d]
   refine dx (FO+1000) rfl rfl (q1 _) rfl (by simp-implicitDefEqProofs (disch:=try exact dd) [cB, -List.map_take, -List.map_drop]) ?_
   simp-implicitDefEqProofs (disch:=try exact dd) [cB, -List.map_take, -List.map_drop,cC.d]
   refine oc q2 ?_
   simp-implicitDefEqProofs (disch:=try exact dd) [cB, -List.map_take, -List.map_drop,cC.d]
   refine dx (FO+1000) rfl rfl (q3 _) rfl (by simp-implicitDefEqProofs (disch:=try exact dd) [cB, -List.map_take, -List.map_drop]) ?_
   simp-implicitDefEqProofs (disch:=try exact dd) [cB, -List.map_take, -List.map_drop,cC.d,dS,nO,jN,chunk]
 |true=>
  have q1:=fun gl=>Dz t ht hk hr (fo:=FO+1000) (gl:=gl)
  rw[kA hr];obtain⟨h64,_,hsrt⟩:=gy.1 hr
  cases hrl:c8 l with
  |false=>
   rw[hrl]at q2;rw[if_pos rfl]
   simp-implicitDefEqProofs (disch:=try exact dd) [cB, -List.map_take, -List.map_drop,cC.d]
   refine dx (FO+1000) rfl rfl (q1 _) rfl (by simp-implicitDefEqProofs (disch:=try exact dd) [cB, -List.map_take, -List.map_drop]) ?_
   simp-implicitDefEqProofs (disch:=try exact dd) [cB, -List.map_take, -List.map_drop,cC.d,lU]
   refine oc q2 ?_
   simp-implicitDefEqProofs (disch:=try exact dd) [cB, -List.map_take, -List.map_drop,cC.d,lU]
  |true=>
   rw[hrl]at q2;rw[if_neg (by simp)]
   have q3:=fun g hg gl=>BR t l.addr (by omega) hsrt (FO+1000+8) g (fo:=FO+2000) (gl:=gl) (by omega) hg
   have hpl:=vV t l.addr;have hFO:FO+1000+8=FO+1008:=rfl
   cases hia:um t l.addr with
   |true=>
    obtain⟨hp,_⟩:=qP hia;rw[if_neg (by simp)]
    rw[hia]at q3;have hins:pe t l=t.set (dZ t l.addr) l:=by unfold pe;rw[if_pos hia]
    rw[hins];have hset:=CA hp l;have hbl:dZ t l.addr*4+4≤(fG t).length:=by rw[iZ];omega
    have hth:=qK (xs:=t.set (dZ t l.addr) l) (n:=t.length) (by simp)
    generalize dZ t l.addr=p at*
    simp-implicitDefEqProofs (disch:=try exact dd) [cB, -List.map_take, -List.map_drop,cC.d]
    refine dx (FO+1000) rfl rfl (q1 _) rfl (by simp-implicitDefEqProofs (disch:=try exact dd) [cB, -List.map_take, -List.map_drop]) ?_
    simp-implicitDefEqProofs (disch:=try exact dd) [cB, -List.map_take, -List.map_drop,cC.d,lU]
    refine oc q2 ?_
    simp-implicitDefEqProofs (disch:=try exact dd) [cB, -List.map_take, -List.map_drop,cC.d,lU]
    refine dx (FO+2000) rfl rfl (q3 _ (by omega) _) rfl (by simp-implicitDefEqProofs (disch:=try exact dd) [cB, -List.map_take, -List.map_drop,lU]) ?_
    simp-implicitDefEqProofs (disch:=try exact dd) [cB, -List.map_take, -List.map_drop,cC.d,lU,hp,hbl,hset,jN,hth]
   |false=>
    rw[hia]at q3;by_cases hc:t.length=64
    ·rw[if_pos ⟨rfl,hc⟩];have hc':(t.length:Int)=64:=by omega
     simp-implicitDefEqProofs (disch:=try exact dd) [cB, -List.map_take, -List.map_drop,cC.d]
     refine dx (FO+1000) rfl rfl (q1 _) rfl (by simp-implicitDefEqProofs (disch:=try exact dd) [cB, -List.map_take, -List.map_drop]) ?_
     simp-implicitDefEqProofs (disch:=try exact dd) [cB, -List.map_take, -List.map_drop,cC.d,lU]
     refine oc q2 ?_
     simp-implicitDefEqProofs (disch:=try exact dd) [cB, -List.map_take, -List.map_drop,cC.d,lU]
     refine dx (FO+2000) rfl rfl (q3 _ (by omega) _) rfl (by simp-implicitDefEqProofs (disch:=try exact dd) [cB, -List.map_take, -List.map_drop,lU]) ?_
     simp-implicitDefEqProofs (disch:=try exact dd) [cB, -List.map_take, -List.map_drop,cC.d,lU,hc']
    ·rw[if_neg (fun h=>hc h.2)]
     have hc': ¬(t.length:Int)=64:=by omega
     have hins:pe t l=t.take (dZ t l.addr)++l::t.drop (dZ t l.addr):=by unfold pe;rw[if_neg (by rw[hia];decide)]
     rw[hins];have hpart:=zw (xs:=t) (lo:=dZ t l.addr) (n:=t.length-dZ t l.addr) (by omega)
     have hdl:(t.drop (dZ t l.addr)).take (t.length-dZ t l.addr)=t.drop (dZ t l.addr):=List.take_of_length_le (by simp)
     have hW: ∀g,yL g (fG t) g (dZ t l.addr) (t.length-dZ t l.addr) 4 true=some ((t.drop (dZ t l.addr)).map cC.d):=fun g=>by
      unfold yL;rw[if_pos ⟨rfl,by rw[iZ];omega,by simp⟩,hpart,hdl]
     have hth:=qK (xs:=t.take (dZ t l.addr)++l::t.drop (dZ t l.addr)) rfl;rw[xj,gX,←qL]at hth;have hlen:(t.take (dZ t l.addr)++l::t.drop (dZ t l.addr)).length=dZ t l.addr+1+(t.length-dZ t l.addr):=by simp;omega
     rw[hlen]at hth;generalize dZ t l.addr=p at*
     have hfl:(flat ((t.drop p).map cC.d)).length=(t.length-p)*4:=by
      have:=iZ (t.drop p);rw[List.length_drop]at this;rw[←this];simp[fG]
     have hbx:(flat ((t.drop p).map cC.d)).map PV.d=fG (t.drop p):=rfl;have hi1:(p+1+(t.length-p))*4≤p*4+((t.length-p)*4+1+1+1+1):=by omega
     have hi2:p*4+((t.length-p)*4+1+1+1+1)=(p+1+(t.length-p))*4:=by omega
     simp-implicitDefEqProofs (disch:=try exact dd) [cB, -List.map_take, -List.map_drop,cC.d]
     refine dx (FO+1000) rfl rfl (q1 _) rfl (by simp-implicitDefEqProofs (disch:=try exact dd) [cB, -List.map_take, -List.map_drop]) ?_
     simp-implicitDefEqProofs (disch:=try exact dd) [cB, -List.map_take, -List.map_drop,cC.d,lU]
     refine oc q2 ?_
     simp-implicitDefEqProofs (disch:=try exact dd) [cB, -List.map_take, -List.map_drop,cC.d,lU]
     refine dx (FO+2000) rfl rfl (q3 _ (by omega) _) rfl (by simp-implicitDefEqProofs (disch:=try exact dd) [cB, -List.map_take, -List.map_drop,lU]) ?_
     simp-implicitDefEqProofs (disch:=try exact dd) [cB, -List.map_take, -List.map_drop,cC.d,lU,hc',hW,dS,nO,jN,hfl,hbx,hi1,hi2,hth]
def WL(t:List cC)(i:Nat)(S:PS):Prop:=
 i≤t.length∧(∀j,j<i→mm t j=true)∧(0<i→i<t.length→wY t i=true)∧S.t 0= .d (.slice (t.map cC.d))∧S.t 3= .d (.int .i64 i)
theorem Hz{t:List cC}{i:Nat}(h:i+1<t.length):wY t (i+1)=decide (t[i].addr<t[i+1].addr):=by
 have hi:i<t.length:=by omega
 simp[wY,List.getD_eq_getElem?_getD,List.getElem?_eq_getElem h,List.getElem?_eq_getElem hi]
theorem DP(t:List cC)(ht:t.length≤1000000)(hk: ∀l∈t,l.key.length≤9223372036854775807):cD Tryz.prog 100 [.d (.slice (t.map cC.d))] (.d (.bool (dk t))) (fun _=>false):=by
 refine cD.bi Tryz.func100 [] ?_;by_cases h64:(64:Int)<t.length
 ·have hz:dk t=false:=by
   unfold dk;rw[show decide (t.length≤64)=false from decide_eq_false (by omega)]
   rfl
  simp-implicitDefEqProofs (disch:=try exact dd) [cB,h64,hz]
 simp-implicitDefEqProofs (disch:=try exact dd) [cB,h64]
 refine lp (WL t) (fun i=>t.length-i) 0 ⟨by omega,by simp,by simp,by simp,by simp⟩ ?_
 rintro i S ⟨hi,ha,hnx,e0,e3⟩;by_cases hlt:i<t.length
 ·have k6:(i:Int)<t.length:=by omega
  have hn:nth t (i:Int)=t[i]:=dB hlt;have q:=DQ t[i] (hk _ (List.getElem_mem hlt));have hgd:t.getD i default=t[i]:=by rw[List.getD_eq_getElem?_getD,List.getElem?_eq_getElem hlt,Option.getD_some]
  have hat:mm t i=c8 t[i]:=by
   unfold mm;rw[hgd];by_cases e:i=0
   ·subst e;simp[wY]
   ·rw[hnx (by omega) hlt,Bool.and_true]
  cases hr:c8 t[i]with
  |false=>
   rw[hr]at q hat;have hz:=Aq hlt hat;generalize t[i]=x at*
   simp-implicitDefEqProofs (disch:=try exact dd) [cB,e0,e3,k6,hn]
   refine oc q ?_
   simp-implicitDefEqProofs (disch:=try exact dd) [cB,e0,e3,k6,hn,hz]
  |true=>
   rw[hr]at q hat;have hs: ∀j,j<i+1→mm t j=true:=fun j hj=>by
    by_cases e:j=i
    ·subst e;exact hat
    ·exact ha j (by omega)
   by_cases hlast:i+1<t.length
   ·have hl':(i:Int)+1<t.length:=by omega
    have hn2:nth t ((i:Int)+1)=t[i+1]:=dB hlast;have hng:=Hz hlast;by_cases hc:t[i].addr<t[i+1].addr
    ·have hc': ¬t[i+1].addr≤t[i].addr:=by omega
     have hx:wY t (i+1)=true:=by rw[hng];simpa using hc
     generalize t[i+1]=y at*
     generalize t[i]=x at*
     simp-implicitDefEqProofs (disch:=try exact dd) [cB,e0,e3,k6,hn]
     refine oc q ?_
     simp-implicitDefEqProofs (disch:=try exact dd) [cB,e0,e3,k6,hn,hl',hn2,hc']
     exact cE (i+1) (by refine⟨by omega,hs,fun _ _=>hx,?_,?_⟩<;>simp-implicitDefEqProofs (disch:=try exact dd) [cB,e0]) (by omega)
    ·have hc':t[i+1].addr≤t[i].addr:=by omega
     have hz:dk t=false:=by
      refine Aq hlast ?_;unfold mm;rw[hng];simp[hc]
     generalize t[i+1]=y at*
     generalize t[i]=x at*
     simp-implicitDefEqProofs (disch:=try exact dd) [cB,e0,e3,k6,hn]
     refine oc q ?_
     simp-implicitDefEqProofs (disch:=try exact dd) [cB,e0,e3,k6,hn,hl',hn2,hc',hz]
   ·have hl': ¬(i:Int)+1<t.length:=by omega
    generalize t[i]=x at*
    simp-implicitDefEqProofs (disch:=try exact dd) [cB,e0,e3,k6,hn]
    refine oc q ?_
    simp-implicitDefEqProofs (disch:=try exact dd) [cB,e0,e3,k6,hn,hl']
    exact cE (i+1) (by refine⟨by omega,hs,fun _ h=>absurd h (by omega),?_,?_⟩<;>simp-implicitDefEqProofs (disch:=try exact dd) [cB,e0]) (by omega)
 ·have k6: ¬(i:Int)<t.length:=by omega
  have hz:dk t=true:=vP.2 ⟨by omega,fun j hj=>ha j (by omega)⟩
  simp-implicitDefEqProofs (disch:=try exact dd) [cB,e0,e3,k6,hz]
theorem Hh(t:List cC)(ht:t.length≤1000000)(hk: ∀l∈t,l.key.length≤9223372036854775807):cD Tryz.prog 73 [.d (.slice (t.map cC.d))] (.d (.slice ((fI t).map cC.d))) (fun _=>false):=by
 refine cD.bi Tryz.func73 [] ?_;have q:=DP t ht hk;unfold fI
 cases hr:dk t with
 |false=>
  rw[hr]at q
  simp-implicitDefEqProofs (disch:=try exact dd) [cB]
  refine oc q ?_
  simp-implicitDefEqProofs (disch:=try exact dd) [cB]
 |true=>
  rw[hr]at q
  simp-implicitDefEqProofs (disch:=try exact dd) [cB]
  refine oc q ?_
  simp-implicitDefEqProofs (disch:=try exact dd) [cB]
def XU(t:List cC)(a:Int)(i:Nat)(S:PS):Prop:=
 i≤t.length∧(∀j (h:j<t.length),j<i→t[j].addr≠a)∧S.t 0= .d (.slice (t.map cC.d))∧S.t 1= .d (.int .i64 a)∧S.t 4= .ptr (FO+4) 1 0∧S.t 6= .d (.int .i64 i)∧S.fo=FO∧S.gen (FO+4)=1∧S.box (FO+4)= [.d (.int .i64 0),.d (.int .i64 0),.d (.int .i64 0),.d (.str [])]
theorem Jq(t:List cC)(a:Int)(ht:t.length≤1000000)(hk: ∀l∈t,l.key.length≤9223372036854775807):cD Tryz.prog 32 [.d (.slice (t.map cC.d)),.d (.int .i64 a)] (.tup [.d (gq t a).1.d,.d (.bool (gq t a).2)]) (fun _=>false):=by
 refine cD.bi Tryz.func32 [] ?_;have q:=Hh t ht hk;obtain⟨h64,_,hsrt⟩:=gy.1 (jZ t);unfold gq;generalize fI t=g at*
 simp-implicitDefEqProofs (disch:=try exact dd) [cB]
 refine oc q ?_
 simp-implicitDefEqProofs (disch:=try exact dd) [cB]
 refine lp (XU g a) (fun i=>g.length-i) 0 ⟨by omega,by simp,by simp,by simp,by simp,by simp,by simp,by simp,by simp⟩ ?_
 rintro i S ⟨hi,hn0,e0,e1,e4,e6,efo,g4,b4⟩;by_cases hlt:i<g.length
 ·have k6:(i:Int)<g.length:=by omega
  have hn:nth g (i:Int)=g[i]:=dB hlt;by_cases hc:g[i].addr=a
  ·obtain⟨hp,hia⟩:=vQ hsrt hlt hc;have hgd:g.getD i default=g[i]:=by rw[List.getD_eq_getElem?_getD,List.getElem?_eq_getElem hlt,Option.getD_some]
   have hgd2:g[i]?.getD default=g[i]:=by rw[List.getElem?_eq_getElem hlt];rfl
   rw[hia,if_pos rfl,hp]
   first|rw[hgd]|rw[hgd2]
   generalize g[i]=x at*
   simp-implicitDefEqProofs (disch:=try exact dd) [cB,e0,e1,e4,e6,efo,g4,b4,k6,hn,hc,cC.d]
  ·have hn1: ∀j (h:j<g.length),j<i+1→g[j].addr≠a:=fun j h hj=>by
    by_cases e:j=i
    ·subst e;exact hc
    ·exact hn0 j h (by omega)
   generalize g[i]=x at*
   simp-implicitDefEqProofs (disch:=try exact dd) [cB,e0,e1,e4,e6,efo,g4,b4,k6,hn,hc]
   exact cE (i+1) (by refine⟨by omega,hn1,?_,?_,?_,?_,?_,?_,?_⟩<;>simp-implicitDefEqProofs (disch:=try exact dd) [cB,e0,e1,e4,efo,g4,b4]) (by omega)
 ·have k6: ¬(i:Int)<g.length:=by omega
  have hia:um g a=false:=by
   rw[aM];intro h;obtain⟨b,hb,he⟩:=(A_ hsrt).1 h;obtain⟨j,hj,rfl⟩:=List.mem_iff_getElem.1 hb;exact hn0 j hj (by omega) he
  rw[hia,if_neg (by decide)]
  simp-implicitDefEqProofs (disch:=try exact dd) [cB,e0,e1,e4,e6,efo,g4,b4,k6,cC.d]
theorem BU: ∀(k i:Nat) (l:List Sub) (x:du),x∈iM k i l→x.net=k∧i≤x.sub∧x.sub<i+l.length
 |_,_,[],_,h=>by simp[iM]at h
 |k,i,s::l,x,h=>by
  simp only[iM,List.mem_cons]at h;rcases h with rfl|h
  ·simp
  ·have:=BU k (i+1) l x h;simp only[List.length_cons];omega
theorem wv: ∀(k:Nat) (l:List Net) (x:du),x∈gp k l→k≤x.net∧x.net<k+l.length
 |_,[],_,h=>by simp[gp]at h
 |k,n::l,x,h=>by
  simp only[gp,List.mem_append,List.length_cons]at h⊢;rcases h with h|h
  ·have:=BU _ _ _ _ h;omega
  ·have:=wv (k+1) l x h;omega
theorem yX{c:dq}(hc:dW c){i:Nat}(hi:i<(cF c).length):(cF c)[i].net≤100000:=by
 have:=wv _ _ _ (List.getElem_mem hi);have:=hc.1;unfold cF at*
 omega
def ulI(c:dq)(i:Nat)(S:PS):Prop:=
 i≤(cF c).length∧((cF c).zipIdx.take i).all (qI (cF c))=true∧S.t 3= .d (.slice ((cF c).map du.d))∧S.t 10= .d (.slice ((cF c).map du.d))∧S.t 11= .d (.int .i64 (cF c).length)∧S.t 12= .d (.int .i64 i)
def ulJ(c:dq)(i:Nat)(x:du)(fo g:Nat)(k:Nat)(S:PS):Prop:=
 k≤(cF c).length∧((cF c).zipIdx.take k).all (l_ (x,i))=true∧S.t 3= .d (.slice ((cF c).map du.d))∧S.t 10= .d (.slice ((cF c).map du.d))∧S.t 11= .d (.int .i64 (cF c).length)∧S.t 12= .d (.int .i64 i)∧
  S.t 4= .d (.int .i64 i)∧S.t 5= .ptr (fo+5) g 0∧S.fo=fo∧S.gen (fo+5)=g∧S.box (fo+5)=(cells x.d).map .d∧S.t 17= .d (.slice ((cF c).map du.d))∧S.t 18= .d (.int .i64 (cF c).length)∧S.t 19= .d (.int .i64 k)
theorem EY(c:dq)(hc:dW c):cD Tryz.prog 96 [.d c.d] (.d (.bool (ml c))) (fun _=>false):=by
 refine cD.bi Tryz.func96 [] ?_;have hsl:=lv hc
 simp-implicitDefEqProofs (disch:=try exact dd) [cB]
 refine oc (ra c hc) ?_
 simp-implicitDefEqProofs (disch:=try exact dd) [cB]
 refine lp (ulI c) (fun i=>(cF c).length-i) 0 ⟨by omega,by simp,by simp-implicitDefEqProofs (disch:=try exact dd) [cB]⟩ ?_
 rintro i S ⟨hi,ha,e3,e10,e11,e12⟩;by_cases hlt:i<(cF c).length
 ·have k6:(i:Int)<(cF c).length:=by omega
  have hsz:=kg hc hlt;have hnt:=yX hc hlt;have hpx:(qI (cF c) ((cF c)[i],i))=false→ml c=false:=fun h=>m7 (p:=qI (cF c)) hlt h
  have hpy:=lu (p:=qI (cF c)) hlt ha
  simp-implicitDefEqProofs (disch:=try exact dd) [cB,e3,e10,e11,e12,k6]
  refine lp (ulJ c i (cF c)[i] S.fo (S.gen (S.fo+5)+1)) (fun k=>(cF c).length-k) 0 ⟨by omega,by simp,by simp-implicitDefEqProofs (disch:=try exact dd) [cB,e3,e10,e11,e12]⟩ ?_
  rintro k S1 ⟨hki,hka,e3,e10,e11,e12,e4,e5,efo,eg,eb,e17,e18,e19⟩;simp only[du.iR,eu,List.map_cons,List.map_nil]at eb;by_cases hlt2:k<(cF c).length
  ·have k7:(k:Int)<(cF c).length:=by omega
   have hsz2:=kg hc hlt2;have hnt2:=yX hc hlt2;have hq:=Lk (cF c)[i] (cF c)[k] (decide (i=k)) hsz hsz2 hnt hnt2;have hik:decide (i=k)=decide ((i:Int)=k):=by rw[Bool.eq_iff_iff];simp;omega
   have hpair:l_ ((cF c)[i],i) ((cF c)[k],k)=pN (cF c)[i] (cF c)[k] (decide (i=k)):=rfl;have hbx:=fun(hq:l_ ((cF c)[i],i) ((cF c)[k],k)=false)=>hpx (m7 (p:=l_ ((cF c)[i],i)) hlt2 hq)
   have hby:=lu (p:=l_ ((cF c)[i],i)) hlt2 hka;rw[hpair]at hbx hby;have hlast: ∀b,pN (cF c)[i] (cF c)[k] (decide (i=k))=b→cD Tryz.prog 169 [.d (cF c)[i].d,.d (cF c)[k].d,.d (.bool (decide ((i:Int)=k)))] (.d (.bool b)) (fun _=>false):=by
    intro b hb;rw[←hik,←hb];exact hq
   simp only[du.iR]at hlast;by_cases hik2:(i:Int)=k
   ·rw[decide_eq_true hik2]at hlast;have hikn:i=k:=by omega
    cases hb:pN (cF c)[i] (cF c)[k] (decide (i=k))with
    |false=>
     have hz:=hbx hb
     simp-implicitDefEqProofs (disch:=try exact dd) [cB,e3,e10,e11,e12,e4,e5,efo,eg,eb,e17,e18,e19,k7,eq_true hik2]
     refine oc (hlast false hb) ?_
     simp-implicitDefEqProofs (disch:=try exact dd) [cB,hz]
    |true=>
     simp-implicitDefEqProofs (disch:=try exact dd) [cB,e3,e10,e11,e12,e4,e5,efo,eg,eb,e17,e18,e19,k7,eq_true hik2]
     refine oc (hlast true hb) ?_
     simp-implicitDefEqProofs (disch:=try exact dd) [cB,e3,e10,e11,e12,e4,e5,efo,eg,eb,e17,e18,e19]
     exact cE (k+1) ⟨by omega,hby hb,by simp-implicitDefEqProofs (disch:=try exact dd) [cB,e3,e10,e11,e12,e4,e5,efo,eg,eb,e17,e18,e19]⟩ (by omega)
   ·rw[decide_eq_false hik2]at hlast
    cases hb:pN (cF c)[i] (cF c)[k] (decide (i=k))with
    |false=>
     have hz:=hbx hb
     simp-implicitDefEqProofs (disch:=try exact dd) [cB,e3,e10,e11,e12,e4,e5,efo,eg,eb,e17,e18,e19,k7,hik2]
     refine oc (hlast false hb) ?_
     simp-implicitDefEqProofs (disch:=try exact dd) [cB,hz]
    |true=>
     simp-implicitDefEqProofs (disch:=try exact dd) [cB,e3,e10,e11,e12,e4,e5,efo,eg,eb,e17,e18,e19,k7,hik2]
     refine oc (hlast true hb) ?_
     simp-implicitDefEqProofs (disch:=try exact dd) [cB,e3,e10,e11,e12,e4,e5,efo,eg,eb,e17,e18,e19]
     exact cE (k+1) ⟨by omega,hby hb,by simp-implicitDefEqProofs (disch:=try exact dd) [cB,e3,e10,e11,e12,e4,e5,efo,eg,eb,e17,e18,e19]⟩ (by omega)
  ·have k7: ¬(k:Int)<(cF c).length:=by omega
   simp-implicitDefEqProofs (disch:=try exact dd) [cB,e3,e10,e11,e12,e4,e17,e18,e19,k7]
   exact cE (i+1) ⟨by omega,hpy (m6 hlt2 hka),by simp-implicitDefEqProofs (disch:=try exact dd) [cB,e3,e10,e11,e12]⟩ (by omega)
 ·have k6: ¬(i:Int)<(cF c).length:=by omega
  have hz:ml c=true:=m6 hlt ha
  simp-implicitDefEqProofs (disch:=try exact dd) [cB,e3,e10,e11,e12,k6,hz]
theorem nZ(c:dq)(hc:dW c):cD Tryz.prog 53 [.d c.d] (.d (.int .i64 (dH c))) (fun _=>false):=by
 refine cD.bi Tryz.func53 [20001] ?_
 cases h1:me c with
 |false=>
  have hz:dH c=1:=by simp[dH,h1]
  simp-implicitDefEqProofs (disch:=try exact dd) [cB]
  refine oc (C' c hc) ?_
  simp-implicitDefEqProofs (disch:=try exact dd) [cB,h1,hz]
 |true=>
  simp-implicitDefEqProofs (disch:=try exact dd) [cB]
  refine oc (C' c hc) ?_
  simp-implicitDefEqProofs (disch:=try exact dd) [cB,h1]
  refine oc (EZ c hc h1) ?_
  cases h2:kc c with
  |false=>
   have hz:dH c=9:=by simp[dH,h1,h2]
   simp-implicitDefEqProofs (disch:=try exact dd) [cB,h1,hz]
  |true=>
   simp-implicitDefEqProofs (disch:=try exact dd) [cB,h1]
   refine oc (EY c hc) ?_
   cases h3:ml c with
   |false=>
    have hz:dH c=8:=by simp[dH,h1,h2,h3]
    simp-implicitDefEqProofs (disch:=try exact dd) [cB,hz]
   |true=>
    have hz:dH c=0:=by simp[dH,h1,h2,h3]
    simp-implicitDefEqProofs (disch:=try exact dd) [cB,hz]
theorem nY(c:dq)(hc:dW c):cD Tryz.prog 275 [.d c.d] (.d (.slice ((cJ c).map du.d))) (fun _=>false):=by
 refine cD.bi Tryz.func275 [20001] ?_
 simp-implicitDefEqProofs (disch:=try exact dd) [cB]
 refine oc (nZ c hc) ?_;by_cases h:dH c=0
 ·have hz:cJ c=cF c:=by simp[cJ,h]
  simp-implicitDefEqProofs (disch:=try exact dd) [cB,h]
  refine oc (ra c hc) ?_
  simp-implicitDefEqProofs (disch:=try exact dd) [cB,hz]
 ·have hz:cJ c= []:=by simp[cJ,h]
  simp-implicitDefEqProofs (disch:=try exact dd) [cB,h,hz]
theorem y6{c:dq}(hc:dW c):(cJ c).length≤1000000:=by
 unfold cJ;split
 ·exact lv hc
 ·simp
theorem CW{α:Type}{p:α→Bool}{l:List α}{i:Nat}(hi:i<l.length)(ha:(l.take i).all (fun x=> !p x)=true)(hp:p l[i]=true):l.find? p=some l[i]:=by
 rw[List.find?_eq_some_iff_getElem];refine⟨hp,i,hi,rfl,fun j hj=>?_⟩
 rw[List.all_eq_true]at ha;have:=ha l[j] (by rw[List.mem_take_iff_getElem];exact⟨j,by omega,rfl⟩)
 simpa using this
theorem zP{α:Type}{p:α→Bool}{l:List α}{i:Nat}(hi: ¬i<l.length)(ha:(l.take i).all (fun x=> !p x)=true):l.find? p=none:=by
 rw[List.find?_eq_none];intro x hx;have:=List.all_eq_true.1 (eO hi ha) x hx
 simpa using this
def MX(a:Int)(x:du):Bool:=nI x.s.base x.s.bits a
def cfI(c:dq)(a:Int)(i:Nat)(S:PS):Prop:=
 i≤(cJ c).length∧((cJ c).take i).all (fun x=> !MX a x)=true∧S.t 1= .d (.int .i64 a)∧S.t 10= .d (.slice ((cJ c).map du.d))∧S.t 11= .d (.int .i64 (cJ c).length)∧S.t 12= .d (.int .i64 i)
def r9(x:Option du):PV:= .tup [.d (.int .i64 ((x.map fun x=>(x.net:Int)).getD 0)),.d (.int .i64 ((x.map fun x=>(x.sub:Int)).getD 0)),.d (.bool x.isSome)]
theorem jF:r9 none= .tup [.d (.int .i64 0),.d (.int .i64 0),.d (.bool false)]:=rfl
theorem iu(x:du):r9 (some x)= .tup [.d (.int .i64 x.net),.d (.int .i64 x.sub),.d (.bool true)]:=rfl
theorem qg(c:dq)(a:Int)(hc:dW c):cD Tryz.prog 203 [.d c.d,.d (.int .i64 a)] (r9 (gr c a)) (fun _=>false):=by
 have hsplit:gr c a=none∨ ∃x,gr c a=some x:=by cases gr c a<;>simp
 refine cD.by (by kernel_rfl) Tryz.func203 (by kernel_rfl) rfl [20002] (by simp) (by kernel_rfl) (by kernel_rfl) (by rcases hsplit with h|⟨x,h⟩<;>rw[h]<;>rfl) ?_
 conv in Df _=>cbv
 have hsl:=y6 hc
 simp-implicitDefEqProofs (disch:=try exact dd) [cB]
 refine oc (nY c hc) ?_
 simp-implicitDefEqProofs (disch:=try exact dd) [cB]
 refine lp (cfI c a) (fun i=>(cJ c).length-i) 0 ⟨by omega,by simp,by simp-implicitDefEqProofs (disch:=try exact dd) [cB]⟩ ?_
 rintro i S ⟨hi,ha,e1,e10,e11,e12⟩;by_cases hlt:i<(cJ c).length
 ·have k6:(i:Int)<(cJ c).length:=by omega
  have hq:=By (cJ c)[i].s.base (cJ c)[i].s.bits a
  cases hb:nI (cJ c)[i].s.base (cJ c)[i].s.bits a with
  |true=>
   have hz:gr c a=some (cJ c)[i]:=CW (p:=MX a) hlt ha hb;rw[hb]at hq;rw[hz,iu]
   simp-implicitDefEqProofs (disch:=try exact dd) [cB,e1,e10,e11,e12,k6]
   refine oc hq ?_
   simp-implicitDefEqProofs (disch:=try exact dd) [cB,e1,e10,e11,e12]
  |false=>
   rw[hb]at hq
   simp-implicitDefEqProofs (disch:=try exact dd) [cB,e1,e10,e11,e12,k6]
   refine oc hq ?_
   simp-implicitDefEqProofs (disch:=try exact dd) [cB,e1,e10,e11,e12]
   exact cE (i+1) ⟨by omega,dN hlt ha (by simp[MX,hb]),by simp-implicitDefEqProofs (disch:=try exact dd) [cB,e1,e10,e11,e12]⟩ (by omega)
 ·have k6: ¬(i:Int)<(cJ c).length:=by omega
  have hz:gr c a=none:=zP (p:=MX a) hlt ha;rw[hz,jF]
  simp-implicitDefEqProofs (disch:=try exact dd) [cB,e1,e10,e11,e12,k6]
def uN(w:Int)(x:du):Bool:=decide (x.s.iface=w)&&decide (0<w)
def cwI(c:dq)(w:Int)(i:Nat)(S:PS):Prop:=
 i≤(cJ c).length∧((cJ c).take i).all (fun x=> !uN w x)=true∧S.t 1= .d (.int .i64 w)∧S.t 10= .d (.slice ((cJ c).map du.d))∧S.t 11= .d (.int .i64 (cJ c).length)∧S.t 12= .d (.int .i64 i)
theorem E1(c:dq)(w:Int)(hc:dW c):cD Tryz.prog 204 [.d c.d,.d (.int .i64 w)] (r9 (sm c w)) (fun _=>false):=by
 have hsplit:sm c w=none∨ ∃x,sm c w=some x:=by cases sm c w<;>simp
 refine cD.by (by kernel_rfl) Tryz.func204 (by kernel_rfl) rfl [20002] (by simp) (by kernel_rfl) (by kernel_rfl) (by rcases hsplit with h|⟨x,h⟩<;>rw[h]<;>rfl) ?_
 conv in Df _=>cbv
 have hsl:=y6 hc
 simp-implicitDefEqProofs (disch:=try exact dd) [cB]
 refine oc (nY c hc) ?_
 simp-implicitDefEqProofs (disch:=try exact dd) [cB]
 refine lp (cwI c w) (fun i=>(cJ c).length-i) 0 ⟨by omega,by simp,by simp-implicitDefEqProofs (disch:=try exact dd) [cB]⟩ ?_
 rintro i S ⟨hi,ha,e1,e10,e11,e12⟩;by_cases hlt:i<(cJ c).length
 ·have k6:(i:Int)<(cJ c).length:=by omega
  by_cases h1:(cJ c)[i].s.iface=w
  ·by_cases h2:0<w
   ·have hz:sm c w=some (cJ c)[i]:=CW (p:=uN w) hlt ha (by simp[uN,h1,h2])
    rw[hz,iu]
    simp-implicitDefEqProofs (disch:=try exact dd) [cB,e1,e10,e11,e12,k6,eq_true h1,h2]
   ·have hw:uN w (cJ c)[i]=false:=by simp only[uN,decide_eq_false h2,Bool.and_false]
    simp-implicitDefEqProofs (disch:=try exact dd) [cB,e1,e10,e11,e12,k6,eq_true h1,h2]
    exact cE (i+1) ⟨by omega,dN hlt ha (by rw[hw];rfl),by simp-implicitDefEqProofs (disch:=try exact dd) [cB,e1,e10,e11,e12]⟩ (by omega)
  ·have hw:uN w (cJ c)[i]=false:=by simp only[uN,decide_eq_false h1,aV]
   simp-implicitDefEqProofs (disch:=try exact dd) [cB,e1,e10,e11,e12,k6,h1]
   exact cE (i+1) ⟨by omega,dN hlt ha (by rw[hw];rfl),by simp-implicitDefEqProofs (disch:=try exact dd) [cB,e1,e10,e11,e12]⟩ (by omega)
 ·have k6: ¬(i:Int)<(cJ c).length:=by omega
  have hz:sm c w=none:=zP (p:=uN w) hlt ha;rw[hz,jF]
  simp-implicitDefEqProofs (disch:=try exact dd) [cB,e1,e10,e11,e12,k6]
def R7(x y:du):Prop:=j7 y x=true
instance:DecidableRel R7:=fun x y=>inferInstanceAs (Decidable (j7 y x=true))
def Ri(x:du):List (rl×Nat):=x.s.res.map fun r=>(r,x.net)
def PL(a b:rl×Nat):Prop:=(!(decide (b.1.addr=a.1.addr)||decide (b.2=a.2)&&decide (b.1.key=a.1.key)))=true
instance:DecidableRel PL:=fun a b=>inferInstanceAs (Decidable ((!(decide (b.1.addr=a.1.addr)||decide (b.2=a.2)&&decide (b.1.key=a.1.key)))=true))
def jS(c:dq):List (rl×Nat):=(cF c).flatMap Ri
theorem BC{α:Type}{p:α×Nat→Bool}{l:List α}:l.zipIdx.all p=true↔ ∀i (h:i<l.length),p (l[i],i)=true:=by
 rw[List.all_eq_true];constructor
 ·intro h i hi;have:=h (l.zipIdx[i]'(by simpa using hi)) (List.getElem_mem _)
  rwa[Af]at this
 ·intro h x hx;obtain⟨i,hi,rfl⟩:=List.mem_iff_getElem.1 hx;rw[Af];exact h i (by simpa using hi)
theorem JV(x y:du)(same:Bool):pN x y same=true↔(same=true∨j7 x y=true)∧
 (∀a (ha:a<x.s.pools.length) b (hb:b<y.s.pools.length),lP same (x.s.pools[a],a) (y.s.pools[b],b)=true)∧
 (∀a (ha:a<x.s.res.length) b (hb:b<y.s.res.length),ox (decide (x.net=y.net)) same (x.s.res[a],a) (y.s.res[b],b)=true):=by
 simp only[pN,Bool.and_eq_true,Bool.or_eq_true,qB,tY,BC,and_assoc]
theorem Du(c:dq):ml c=true↔ ∀i (hi:i<(cF c).length) k (hk:k<(cF c).length),pN (cF c)[i] (cF c)[k] (decide (i=k))=true:=by
 simp only[ml,qI,l_,BC]
end Go.Proofs.YtoilfihojgeonaaGreatDoor
