/- The address that a client gets: what alloc and the document's layer 15 answer. -/
import Derived.Test.YtoilfihojgeonaaGreatDoorS12
import Derived.Test.YtoilfihojgeonaaGreatDoorS06
import Derived.Test.YtoilfihojgeonaaGreatDoorS08
import Derived.Test.YtoilfihojgeonaaGreatDoorS09
import Derived.Test.YtoilfihojgeonaaGreatDoorS11
import Derived.Test.YtoilfihojgeonaaGreatDoorS10
namespace Go.Proofs.YtoilfihojgeonaaGreatDoor
open BoEng Go
set_option maxRecDepth 100000
set_option linter.unusedSimpArgs false
set_option linter.unusedVariables false
theorem Gv{α:Type}{l:List α}{p:α→Bool}{i:Nat}(h:i<l.length)(ha:(l.take i).all (fun y=> !p y)=true)(hp:p l[i]=true):l.find? p=some l[i]:=by
 have e:l=l.take i++l[i]::l.drop (i+1):=by rw[←ai h,ay]
 have hn:(l.take i).find? p=none:=by
  rw[List.find?_eq_none];intro x hx;have:=List.all_eq_true.1 ha x hx
  simpa using this
 conv=>lhs;rw[e]
 rw[bq,hn,bQ,List.find?_cons_of_pos hp]
theorem Be{α:Type}{l:List α}{p:α→Bool}(ha:l.all (fun y=> !p y)=true):l.find? p=none:=by
 rw[List.find?_eq_none];intro x hx;have:=List.all_eq_true.1 ha x hx
 simpa using this
theorem Iu(c:dq)(t:List cC)(n:Int)(k:List UInt8)(a now:Int)(hc:dW c)(ht:S_ t)(hkk:k.length≤9223372036854775807):
 cD Tryz.prog 277 [.d (.int .i64 a),.cptr (cells c.d),.cptr [.slice (t.map cC.d)],.cptr [.int .i64 n],.cptr [.str k],.cptr [.int .i64 now]] (.d (.bool (jD c t n k now a))) (fun _=>false):=by
 refine cD.bi Tryz.func277 [] ?_;have q:=Dj c t n k a now hc ht hkk
 simp-implicitDefEqProofs (disch:=try exact dd) [cB]
 refine oc q ?_
 simp-implicitDefEqProofs (disch:=try exact dd) [cB]
def afI(l:List Int)(f:FuncId)(c1 c2 c3 c4 c5:List DV)(p:Int→Bool)(i:Nat)(S:PS):Prop:=
 i≤l.length∧(l.take i).all (fun y=> !p y)=true∧S.t 1= .fn f [.cptr c1,.cptr c2,.cptr c3,.cptr c4,.cptr c5]∧S.t 8= .d (.slice (l.map gM))∧S.t 9= .d (.int .i64 l.length)∧S.t 10= .d (.int .i64 i)
theorem yh(l:List Int)(hl:l.length≤1000000)(f:FuncId)(c1 c2 c3 c4 c5:List DV)(p:Int→Bool){ro:Nat→Bool}(hf: ∀a,cD Tryz.prog f [.d (.int .i64 a),.cptr c1,.cptr c2,.cptr c3,.cptr c4,.cptr c5] (.d (.bool (p a))) ro):
 cD Tryz.prog 281 [.d (.slice (l.map gM)),.fn f [.cptr c1,.cptr c2,.cptr c3,.cptr c4,.cptr c5]] (.tup [.d (.int .i64 ((l.find? p).getD 0)),.d (.bool (l.find? p).isSome)]) (fun _=>false):=by
 refine cD.bi Tryz.func281 [] ?_
 simp-implicitDefEqProofs (disch:=try exact dd) [cB]
 refine lp (afI l f c1 c2 c3 c4 c5 p) (fun i=>l.length-i) 0 ⟨by omega,by simp,by simp,by simp,by simp,by simp⟩ ?_
 rintro i S ⟨hi,ha,e1,e8,e9,e10⟩;by_cases hlt:i<l.length
 ·have k6:(i:Int)<l.length:=by omega
  have hn:nth l (i:Int)=l[i]:=dB hlt;have q:=hf l[i];have hhit:=fun h=>Gv (p:=p) hlt ha h
  have hstep:=dN (p:=fun y=> !p y) hlt ha
  generalize l[i]=x at*
  cases hp:p x with
  |true=>
   rw[hp]at q;rw[hhit hp]
   simp-implicitDefEqProofs (disch:=try exact dd) [cB,e1,e8,e9,e10,k6,hn,gM]
   refine oc q ?_
   simp-implicitDefEqProofs (disch:=try exact dd) [cB,e1,e8,e9,e10]
  |false=>
   rw[hp]at q;have hs:=hstep (by simp[hp])
   clear hstep hhit
   simp-implicitDefEqProofs (disch:=try exact dd) [cB,e1,e8,e9,e10,k6,hn,gM]
   refine oc q ?_
   simp-implicitDefEqProofs (disch:=try exact dd) [cB,e1,e8,e9,e10]
   exact cE (i+1) (by refine⟨by omega,hs,?_,?_,?_,?_⟩<;>simp-implicitDefEqProofs (disch:=try exact dd) [cB,e1,e8,e9]) (by omega)
 ·have k6: ¬(i:Int)<l.length:=by omega
  rw[List.take_of_length_le (by omega)]at ha
  rw[Be ha]
  simp-implicitDefEqProofs (disch:=try exact dd) [cB,e1,e8,e9,e10,k6]
theorem Gx{α β:Type}{xs:List α}{f:α→List β}{p:β→Bool}{i:Nat}{y:β}(hi:i<xs.length)(ho:((xs.take i).flatMap f).all (fun y=> !p y)=true)(h:(f xs[i]).find? p=some y):(xs.flatMap f).find? p=some y:=by
 have e:xs.flatMap f=(xs.take i).flatMap f++(f xs[i]++(xs.drop (i+1)).flatMap f):=by
  conv=>lhs;rw[←ay i xs,ai hi,bg,List.flatMap_cons]
 have hn:((xs.take i).flatMap f).find? p=none:=Be ho;rw[e,bq,hn,bQ,bq,h,Option.some_or]
theorem JF{c:dq}(h:dH c=0){n j:Nat}(h1:n<c.nets.length)(h2:j<c.nets[n].subs.length){p:rk}(hp:p∈(c.nets[n].subs[j]).pools):0≤p.first∧p.last≤8589934591:=by
 have hm:(⟨0+n,j,c.nets[n].subs[j]⟩:du)∈cF c:=rQ 0 c.nets n j h1 h2;obtain⟨_,hfs,_⟩:=z_ h h1 h2;have hfa:=(iK.1 (K8 hfs));unfold dH at h
 split at h
 ·split at h
  ·rename_i hpl;simp only[kc,List.all_eq_true]at hpl;have k2:=hpl _ hm;simp only[JH,ka,Bool.and_eq_true,List.all_eq_true]at k2;have k3:=k2.1.1 _ hp;simp only[pK,g_,Bool.and_eq_true,decide_eq_true_eq,rz]at k3;have hs:eV (c.nets[n].subs[j]).bits≤4294967296:=by
    unfold eV;have hx:(32-(c.nets[n].subs[j]).bits).toNat≤32:=by omega
    have hd: ∀e,e<33→(2:Int)^e≤4294967296:=by decide
    exact hd _ (by omega)
   have k4:=of_decide_eq_true k3.1.1;have k5:=of_decide_eq_true k3.1.2;clear k3 k2 hm hpl hfs;omega
  ·cases h
 ·cases h
def KL(c:dq)(n now:Int)(l:cC):Bool:=CJ c n l.addr&&ir now l
def JY(c:dq)(n now:Int)(l:cC):Bool:=CJ c n l.addr&& !ir now l
def rV(c:dq)(n now:Int)(L:List cC):List Int:=(L.filter (KL c n now)).map cC.addr
def vC(c:dq)(n now:Int)(L:List cC):List Int:=(L.filter (JY c n now)).map cC.addr
theorem MV{c:dq}{t:List cC}{n:Int}{k:List UInt8}{now:Int}(h:dk t=true):KN c t n k now=rV c n now (D8 t k)∧OU c t n k now=vC c n now (D8 t k):=by
 unfold KN OU rV vC D8;rw[kA h,List.filter_filter,List.filter_filter]
 constructor<;>congr 2<;>funext l
 ·simp only[NY,KL,Bool.and_comm]
 ·simp only[RO,JY,Bool.and_comm]
theorem KK{c:dq}{n now:Int}{L:List cC}{i:Nat}(h:i<L.length):rV c n now (L.take (i+1))=rV c n now (L.take i)++(if KL c n now L[i]=true then[L[i].addr]else[]):=by
 unfold rV;rw[List.take_succ_eq_append_getElem h,List.filter_append,List.map_append]
 congr 1
 by_cases e:KL c n now L[i]=true<;>simp[e]
theorem JX{c:dq}{n now:Int}{L:List cC}{i:Nat}(h:i<L.length):vC c n now (L.take (i+1))=vC c n now (L.take i)++(if JY c n now L[i]=true then[L[i].addr]else[]):=by
 unfold vC;rw[List.take_succ_eq_append_getElem h,List.filter_append,List.map_append]
 congr 1
 by_cases e:JY c n now L[i]=true<;>simp[e]
theorem Bc{c:dq}{n now:Int}{L:List cC}:(rV c n now L).length≤L.length∧(vC c n now L).length≤L.length:=by
 unfold rV vC;simp only[List.length_map];exact⟨List.length_filter_le _ _,List.length_filter_le _ _⟩
def chI(c:dq)(t L:List cC)(n:Int)(k:List UInt8)(want now:Int)(f:FuncId)(i:Nat)(S:PS):Prop:=
 i≤L.length∧S.t 4= .d (.int .i64 want)∧S.t 6= .cptr (cells c.d)∧S.t 7= .cptr [.slice (t.map cC.d)]∧S.t 8= .cptr [.int .i64 n]∧S.t 9= .cptr [.str k]∧S.t 11= .cptr [.int .i64 now]∧
 S.t 14= .fn f [.cptr (cells c.d),.cptr [.slice (t.map cC.d)],.cptr [.int .i64 n],.cptr [.str k],.cptr [.int .i64 now]]∧
 S.t 15= .d (.slice ((rV c n now (L.take i)).map gM))∧S.own (.t 15 0)=true∧S.t 16= .d (.slice ((vC c n now (L.take i)).map gM))∧S.own (.t 16 0)=true∧
 S.t 40= .d (.slice (L.map cC.d))∧S.t 41= .d (.int .i64 L.length)∧S.t 42= .d (.int .i64 i)
def cpI(l:List Sub)(q:Int→Bool)(F:PV)(i:Nat)(S:PS):Prop:=
 i≤l.length∧((l.take i).flatMap GX).all (fun y=> !q y)=true∧S.t 14=F∧S.t 24= .d (.int .i64 0)∧S.t 25= .d (.bool false)∧S.t 106= .d (.slice (l.map Sub.d))∧S.t 107= .d (.int .i64 l.length)∧S.t 108= .d (.int .i64 i)
def cpM(l:List Sub)(q:Int→Bool)(F:PV)(i:Nat)(x:Sub)(j:Nat)(S:PS):Prop:=
 j≤x.pools.length∧((x.pools.take j).flatMap lQ).all (fun y=> !q y)=true∧S.t 14=F∧S.t 24= .d (.int .i64 0)∧S.t 25= .d (.bool false)∧S.t 106= .d (.slice (l.map Sub.d))∧S.t 107= .d (.int .i64 l.length)∧S.t 108= .d (.int .i64 i)∧
 S.t 113= .d (.slice (x.pools.map rk.d))∧S.t 114= .d (.int .i64 x.pools.length)∧S.t 115= .d (.int .i64 j)
def cpN(l:List Sub)(q:Int→Bool)(F:PV)(i:Nat)(x:Sub)(j:Nat)(p:rk)(fo g:Nat)(u:Nat)(S:PS):Prop:=
 u≤(lQ p).length∧((lQ p).take u).all (fun y=> !q y)=true∧S.t 14=F∧S.t 24= .d (.int .i64 0)∧S.t 25= .d (.bool false)∧S.t 106= .d (.slice (l.map Sub.d))∧S.t 107= .d (.int .i64 l.length)∧S.t 108= .d (.int .i64 i)∧
 S.t 113= .d (.slice (x.pools.map rk.d))∧S.t 114= .d (.int .i64 x.pools.length)∧S.t 115= .d (.int .i64 j)∧S.t 29= .ptr (fo+29) g 0∧S.fo=fo∧S.gen (fo+29)=g∧S.box (fo+29)=(cells p.d).map .d∧S.t 30= .d (.int .i64 (p.first+(u:Int)))
theorem Hq(p:rk):(lQ p).length=(p.last-p.first+1).toNat:=by simp[lQ]
theorem JG{p:rk}{u:Nat}(h:u<(lQ p).length):(lQ p)[u]=p.first+(u:Int):=by simp[lQ]
set_option maxHeartbeats 8000000 in
theorem Dl(c:dq)(t:List cC)(n:Int)(k:List UInt8)(want now:Int)(hc:dW c)(ht:S_ t)(hkk:k.length≤9223372036854775807):
 cD Tryz.prog 205 [.d c.d,.d (.slice (t.map cC.d)),.d (.int .i64 n),.d (.str k),.d (.int .i64 want),.d (.int .i64 now)] (.tup [.d (.int .i64 ((lk c t n k want now).getD 0)),.d (.bool (lk c t n k want now).isSome)]) (fun _=>false):=by
 refine cD.bi Tryz.func205 [20006,20007,20008,20009,20011,62,46,84,89] ?_;have q1:=Ad c t n k hc ht.l ht.k hkk;have q2:=FG t k ht.l ht.k;have hm:=fun a=>Iu c t n k a now hc ht hkk
 unfold lk
 cases hf:ke c t n k with
 |false=>
  rw[hf]at q1
  simp-implicitDefEqProofs (disch:=try exact dd) [cB]
  refine oc q1 ?_
  simp-implicitDefEqProofs (disch:=try exact dd) [cB]
 |true=>
 rw[hf]at q1;rw[if_neg (by decide)]
 obtain⟨h1,h2⟩:= @MV c t n k now (oN hf).2.1;obtain⟨hck,_,_,hn0,hn1⟩:=oN hf;obtain⟨m,rfl⟩:=Int.eq_ofNat_of_zero_le hn0;have hn1:m<c.nets.length:=by omega
 have hrng:=fun j h2 p hp=> @JF c hck m j hn1 h2 p hp
 have hall:PN c (m:Int)=c.nets[m].subs.flatMap GX:=by simp[PN,List.getElem?_eq_getElem hn1]
 have hsn:=(hc.2 _ (List.getElem_mem hn1)).1;have hss:=(hc.2 _ (List.getElem_mem hn1)).2;have hl1:=hc.1;rw[h1,h2,hall];clear hall;generalize hN:c.nets[m]=N at*
 obtain⟨l⟩:=N;dsimp only at hrng hsn hss⊢;generalize hR:tA (rV c (m:Int) now (D8 t k)) (vC c (m:Int) now (D8 t k)) (iN c (m:Int) k) want (l.flatMap GX) (jD c t (m:Int) k now)=R;have q4:=vn c m k hc;have hlen:(D8 t k).length≤64:=by
  have h1:=(gy.1 (jZ t)).1;have h2:=List.length_filter_le (Dm k) (fI t);unfold D8;omega
 clear h1 h2;generalize D8 t k=L at*
 have q3:=yh (rV c m now L) (by have:=(@Bc c m now L).1;omega) _ _ _ _ _ _ (jD c t m k now) hm
 simp-implicitDefEqProofs (disch:=try exact dd) [cB]
 refine oc q1 ?_
 simp-implicitDefEqProofs (disch:=try exact dd) [cB]
 refine oc q2 ?_
 simp-implicitDefEqProofs (disch:=try exact dd) [cB]
 refine lp (chI c t L m k want now 277) (fun i=>L.length-i) 0 ⟨by omega,by simp,by simp,by simp,by simp,by simp,by simp,by simp,by simp[rV],by simp,by simp[vC],by simp,by simp,by simp,by simp⟩ ?_
 rintro i S ⟨hi,e4,e6,e7,e8,e9,e11,e14,e15,o15,e16,o16,e40,e41,e42⟩;by_cases hlt:i<L.length
 ·have k6:(i:Int)<L.length:=by omega
  have hn:nth L (i:Int)=L[i]:=dB hlt;have hs1:= @KK c m now L i hlt;have hs2:= @JX c m now L i hlt;have hle:= @Bc c m now (L.take i);simp only[List.length_take]at hle;have r1:=GL c m L[i].addr hc;have r2:=ot L[i] now;have hd1:KL c m now L[i]=(CJ c m L[i].addr&&ir now L[i]):=rfl;have hd2:JY c m now L[i]=(CJ c m L[i].addr&& !ir now L[i]):=rfl;rw[hd1]at hs1
  rw[hd2]at hs2;clear hd1 hd2;generalize CJ c m L[i].addr=ib at*
  generalize ir now L[i]=hb at*
  generalize rV c m now (L.take i)=H1 at*
  generalize vC c m now (L.take i)=O1 at*
  generalize L[i]=x at*
  cases ib with
  |false=>
   rw[if_neg (by simp),List.append_nil]at hs1 hs2
   simp-implicitDefEqProofs (disch:=try exact dd) [cB,e4,e6,e7,e8,e9,e11,e14,e15,o15,e16,o16,e40,e41,e42,k6,hn]
   refine oc r1 ?_
   simp-implicitDefEqProofs (disch:=try exact dd) [cB,e4,e6,e7,e8,e9,e11,e14,e15,o15,e16,o16,e40,e41,e42]
   exact cE (i+1) (by refine⟨by omega,?_,?_,?_,?_,?_,?_,?_,by rw[hs1];simp-implicitDefEqProofs (disch:=try exact dd) [cB,e15],?_,by rw[hs2];simp-implicitDefEqProofs (disch:=try exact dd) [cB,e16],?_,?_,?_,?_⟩<;>simp-implicitDefEqProofs (disch:=try exact dd) [cB,e4,e6,e7,e8,e9,e11,e14,o15,o16,e40,e41]) (by omega)
  |true=>
   cases hb with
   |true=>
    rw[if_pos (by rfl)]at hs1
    rw[if_neg (by simp),List.append_nil]at hs2
    simp-implicitDefEqProofs (disch:=try exact dd) [cB,e4,e6,e7,e8,e9,e11,e14,e15,o15,e16,o16,e40,e41,e42,k6,hn]
    refine oc r1 ?_
    simp-implicitDefEqProofs (disch:=try exact dd) [cB,e4,e6,e7,e8,e9,e11,e14,e15,o15,e16,o16,e40,e41,e42]
    refine oc r2 ?_
    simp-implicitDefEqProofs (disch:=try exact dd) [cB,e4,e6,e7,e8,e9,e11,e14,e15,o15,e16,o16,e40,e41,e42]
    exact cE (i+1) (by refine⟨by omega,?_,?_,?_,?_,?_,?_,?_,by rw[hs1];simp-implicitDefEqProofs (disch:=try exact dd) [cB,e15,gM],?_,by rw[hs2];simp-implicitDefEqProofs (disch:=try exact dd) [cB,e16],?_,?_,?_,?_⟩<;>simp-implicitDefEqProofs (disch:=try exact dd) [cB,e4,e6,e7,e8,e9,e11,e14,o15,o16,e40,e41]) (by omega)
   |false=>
    rw[if_neg (by simp),List.append_nil]at hs1
    rw[if_pos (by rfl)]at hs2
    simp-implicitDefEqProofs (disch:=try exact dd) [cB,e4,e6,e7,e8,e9,e11,e14,e15,o15,e16,o16,e40,e41,e42,k6,hn]
    refine oc r1 ?_
    simp-implicitDefEqProofs (disch:=try exact dd) [cB,e4,e6,e7,e8,e9,e11,e14,e15,o15,e16,o16,e40,e41,e42]
    refine oc r2 ?_
    simp-implicitDefEqProofs (disch:=try exact dd) [cB,e4,e6,e7,e8,e9,e11,e14,e15,o15,e16,o16,e40,e41,e42]
    exact cE (i+1) (by refine⟨by omega,?_,?_,?_,?_,?_,?_,?_,by rw[hs1];simp-implicitDefEqProofs (disch:=try exact dd) [cB,e15],?_,by rw[hs2];simp-implicitDefEqProofs (disch:=try exact dd) [cB,e16,gM],?_,?_,?_,?_⟩<;>simp-implicitDefEqProofs (disch:=try exact dd) [cB,e4,e6,e7,e8,e9,e11,e14,o15,o16,e40,e41]) (by omega)
 ·have k6: ¬(i:Int)<L.length:=by omega
  rw[List.take_of_length_le (by omega)]at e15 e16
  have hle:= @Bc c m now L;have q5:=fun K hK=>yh K hK _ _ _ _ _ _ (jD c t m k now) hm
  generalize rV c m now L=H at*
  generalize vC c m now L=O at*
  by_cases hh0:H= []
  ·subst hh0;unfold tA at hR;rw[if_neg (by simp)]at hR
   have hz0: ¬(0:Int)<([]:List Int).length:=by simp
   have q6:=q5 ((iN c m k).toList++O++ [want]) (by
    have:(iN c m k).toList.length≤1:=by cases iN c m k<;>simp
    simp only[List.length_append,List.length_cons,List.length_nil]
    omega)
   cases hfi:((iN c m k).toList++O++ [want]).find? (jD c t m k now)with
   |some y=>
    rw[hfi]at q6 hR;simp only[Option.some_or]at hR;subst hR;clear hfi;rcases hkp:iN c m k with _|b<;>rw[hkp]at q4 q6<;>(
    simp-implicitDefEqProofs (disch:=try exact dd) [cB,e4,e6,e7,e8,e9,e11,e14,e15,o15,e16,o16,e40,e41,e42,k6]
    refine oc q4 ?_
    simp-implicitDefEqProofs (disch:=try exact dd) [cB,e4,e6,e7,e8,e9,e11,e14,e15,o15,e16,o16,e40,e41,e42]
    refine oc (by simpa[gM]using q6) ?_
    simp-implicitDefEqProofs (disch:=try exact dd) [cB])
   |none=>
    rw[hfi]at q6 hR;simp only[bQ]at hR;clear hfi;rcases hkp:iN c m k with _|b<;>rw[hkp]at q4 q6<;>(
    simp-implicitDefEqProofs (disch:=try exact dd) [cB,e4,e6,e7,e8,e9,e11,e14,e15,o15,e16,o16,e40,e41,e42,k6]
    refine oc q4 ?_
    simp-implicitDefEqProofs (disch:=try exact dd) [cB,e4,e6,e7,e8,e9,e11,e14,e15,o15,e16,o16,e40,e41,e42]
    refine oc (by simpa[gM]using q6) ?_
    simp-implicitDefEqProofs (disch:=try exact dd) [cB,e6,e8,e14,hn1,hN])
    all_goals
     clear e4 e6 e7 e8 e9 e11 e15 o15 e16 o16 e40 e41 e42;generalize hq:jD c t (m:Int) k now=q at*
     refine lp (cpI l q (.fn 277 [.cptr (cells c.d),.cptr [.slice (t.map cC.d)],.cptr [.int .i64 (m:Int)],.cptr [.str k],.cptr [.int .i64 now]])) (fun i=>l.length-i) 0 (by refine⟨by omega,by simp,?_,?_,?_,?_,?_,?_⟩<;>simp-implicitDefEqProofs (disch:=try exact dd) [cB,e14]) ?_
     clear e14;rintro i S2 ⟨hi2,ha,e14,e24,e25,e106,e107,e108⟩;by_cases hlt2:i<l.length
     ·have k6:(i:Int)<l.length:=by omega
      obtain⟨hx1,_⟩:=hss _ (List.getElem_mem hlt2);have hx2:=hrng i hlt2;have hsm:=fun y h=>Gx (f:=GX) (p:=q) (i:=i) (y:=y) hlt2 ha h
      have hst:=fun h=>tn (f:=GX) (q:=fun y=> !q y) hlt2 ha h
      generalize hx:l[i]=x at*
      simp-implicitDefEqProofs (disch:=try exact dd) [cB,e14,e24,e25,e106,e107,e108,k6,hx]
      refine lp (cpM l q (.fn 277 [.cptr (cells c.d),.cptr [.slice (t.map cC.d)],.cptr [.int .i64 (m:Int)],.cptr [.str k],.cptr [.int .i64 now]]) i x) (fun j=>x.pools.length-j) 0 (by refine⟨by omega,by simp,?_,?_,?_,?_,?_,?_,?_,?_,?_⟩<;>simp-implicitDefEqProofs (disch:=try exact dd) [cB,e14,e24,e25,e106,e107,e108]) ?_
      clear e14 e24 e25 e106 e107 e108;rintro j S3 ⟨hj,hb,e14,e24,e25,e106,e107,e108,e113,e114,e115⟩;by_cases hjl:j<x.pools.length
      ·have k7:(j:Int)<x.pools.length:=by omega
       have hy2:=hx2 _ (List.getElem_mem hjl);have hsm2:=fun y h=>Gx (f:=lQ) (p:=q) (i:=j) (y:=y) hjl hb h
       have hst2:=fun h=>tn (f:=lQ) (q:=fun y=> !q y) hjl hb h
       generalize hp:x.pools[j]=p at*
       simp-implicitDefEqProofs (disch:=try exact dd) [cB,e14,e24,e25,e106,e107,e108,e113,e114,e115,k7,hp]
       refine lp (cpN l q (.fn 277 [.cptr (cells c.d),.cptr [.slice (t.map cC.d)],.cptr [.int .i64 (m:Int)],.cptr [.str k],.cptr [.int .i64 now]]) i x j p S3.fo (S3.gen (S3.fo+29)+1)) (fun u=>(lQ p).length-u) 0 (by refine⟨by omega,by simp,?_,?_,?_,?_,?_,?_,?_,?_,?_,?_,?_,?_,?_,?_⟩<;>simp-implicitDefEqProofs (disch:=try exact dd) [cB,e14,e24,e25,e106,e107,e108,e113,e114,e115]) ?_
       clear e14 e24 e25 e106 e107 e108 e113 e114 e115;rintro u S4 ⟨hu,hd,e14,e24,e25,e106,e107,e108,e113,e114,e115,e29,efo,eg,eb,e30⟩;simp only[rk.iR,eu,List.map_cons,List.map_nil]at eb;have hpl:=Hq p;by_cases hul:u<(lQ p).length
       ·have k8:p.first+(u:Int)≤p.last:=by omega
        have hpa:=JG hul;have hq1:=hm (p.first+(u:Int))
        have hht:=fun h=>Gv (p:=q) hul hd h
        have hst3:=dN (p:=fun y=> !q y) hul hd
        rw[hpa]at hht hst3
        cases hqq:q (p.first+(u:Int))with
        |true=>
         rw[hqq]at hq1;have hR2:=hsm _ (hsm2 _ (hht hqq));rw[hR]at hR2;subst hR2
         simp-implicitDefEqProofs (disch:=try exact dd) [cB,e14,e24,e25,e106,e107,e108,e113,e114,e115,e29,efo,eg,eb,e30,k8]
         refine oc hq1 ?_
         simp-implicitDefEqProofs (disch:=try exact dd) [cB,e14,e24,e25,e106,e107,e108,e113,e114,e115,e29,efo,eg,eb,e30]
        |false=>
         rw[hqq]at hq1;have hs3:=hst3 (by simp[hqq])
         simp-implicitDefEqProofs (disch:=try exact dd) [cB,e14,e24,e25,e106,e107,e108,e113,e114,e115,e29,efo,eg,eb,e30,k8]
         refine oc hq1 ?_
         simp-implicitDefEqProofs (disch:=try exact dd) [cB,e14,e24,e25,e106,e107,e108,e113,e114,e115,e29,efo,eg,eb,e30]
         exact cE (u+1) (by refine⟨by omega,hs3,?_,?_,?_,?_,?_,?_,?_,?_,?_,?_,?_,?_,?_,by simp-implicitDefEqProofs (disch:=try exact dd) [cB];omega⟩<;>simp-implicitDefEqProofs (disch:=try exact dd) [cB,e14,e24,e25,e106,e107,e108,e113,e114,e115,e29,efo,eg,eb]) (by omega)
       ·have k8: ¬p.first+(u:Int)≤p.last:=by omega
        have hs2:=hst2 (eO hul hd)
        simp-implicitDefEqProofs (disch:=try exact dd) [cB,e14,e24,e25,e106,e107,e108,e113,e114,e115,e29,efo,eg,eb,e30,k8]
        exact cE (j+1) (by refine⟨by omega,hs2,?_,?_,?_,?_,?_,?_,?_,?_,?_⟩<;>simp-implicitDefEqProofs (disch:=try exact dd) [cB,e14,e24,e25,e106,e107,e108,e113,e114]) (by omega)
      ·have k7: ¬(j:Int)<x.pools.length:=by omega
       have hs1:=hst (eO (l:=x.pools.flatMap lQ) (i:=(x.pools.flatMap lQ).length) (by omega) (by rw[List.take_of_length_le (Nat.le_refl _)];rwa[List.take_of_length_le (by omega)]at hb))
       simp-implicitDefEqProofs (disch:=try exact dd) [cB,e14,e24,e25,e106,e107,e108,e113,e114,e115,k7]
       exact cE (i+1) (by refine⟨by omega,hs1,?_,?_,?_,?_,?_,?_⟩<;>simp-implicitDefEqProofs (disch:=try exact dd) [cB,e14,e24,e25,e106,e107]) (by omega)
     ·have k6: ¬(i:Int)<l.length:=by omega
      rw[List.take_of_length_le (by omega)]at ha
      have hR2:=Be (p:=q) ha;rw[hR]at hR2;subst hR2
      simp-implicitDefEqProofs (disch:=try exact dd) [cB,e14,e24,e25,e106,e107,e108,k6]
  ·unfold tA at hR;rw[if_pos hh0]at hR;subst hR;have hpos:0<H.length:=List.length_pos_iff.2 hh0;have hpos':(0:Int)<H.length:=by omega
   simp-implicitDefEqProofs (disch:=try exact dd) [cB,e4,e6,e7,e8,e9,e11,e14,e15,o15,e16,o16,e40,e41,e42,k6,hpos']
   refine oc q3 ?_
   simp-implicitDefEqProofs (disch:=try exact dd) [cB]
def oK(m:ee):List UInt8×Int:=
 if db m=false then([],1)else if 255<((cY m.opts 61).getD []).length then([],3)
 else if 1<((cY m.opts 61).getD []).length then(105::(cY m.opts 61).getD [],0)else if m.hlen=0 then([],5)else(104::ld m.htype::m.chaddr.take m.hlen.toNat,0)
theorem AD{m:ee}(h:db m=true):(0≤m.hlen∧m.hlen≤16)∧m.chaddr.length=16∧cI m.opts=true∧(0≤m.htype∧m.htype≤255):=by
 simp only[db,Bool.and_eq_true,decide_eq_true_eq]at h;exact⟨h.1.1.1.1.1.1.1.1.1.1.1.2,h.1.1.2,h.1.2,h.1.1.1.1.1.1.1.1.1.1.1.1.2⟩
theorem keyOf(m:ee)(hm:ez m):cD Tryz.prog 113 [.d m.d] (.tup [.d (.str (oK m).1),.d (.int .i64 (oK m).2)]) (fun _=>false):=by
 refine cD.bi Tryz.func113 [20001] ?_;have q1:=sW m hm;have q2:=j9 m.opts 61 hm.2;have hd:=fun d h=> @gF m.opts 61 d hm.2 h
 have hdl:((cY m.opts 61).getD []).length≤100000:=by
  cases h:cY m.opts 61 with
  |none=>simp
  |some d=>exact hd d h
 unfold oK;clear hd
 generalize(cY m.opts 61).getD []=d at*
 cases hr:db m with
 |false=>
  rw[hr]at q1
  simp-implicitDefEqProofs (disch:=try exact dd) [cB, -List.map_take, -List.map_drop]
  refine oc q1 ?_
  simp-implicitDefEqProofs (disch:=try exact dd) [cB, -List.map_take, -List.map_drop]
 |true=>
  rw[hr]at q1;obtain⟨⟨h0,h1⟩,hc,_⟩:=AD hr;rw[if_neg (by decide)]
  by_cases h2:(255:Int)<d.length
  ·rw[if_pos (by omega)]
   simp-implicitDefEqProofs (disch:=try exact dd) [cB, -List.map_take, -List.map_drop]
   refine oc q1 ?_
   simp-implicitDefEqProofs (disch:=try exact dd) [cB, -List.map_take, -List.map_drop]
   refine oc q2 ?_
   simp-implicitDefEqProofs (disch:=try exact dd) [cB, -List.map_take, -List.map_drop,h2]
  ·rw[if_neg (by omega)]
   by_cases h3:(2:Int)≤d.length
   ·rw[if_pos (by omega)]
    simp-implicitDefEqProofs (disch:=try exact dd) [cB, -List.map_take, -List.map_drop]
    refine oc q1 ?_
    simp-implicitDefEqProofs (disch:=try exact dd) [cB, -List.map_take, -List.map_drop]
    refine oc q2 ?_
    simp-implicitDefEqProofs (disch:=try exact dd) [cB, -List.map_take, -List.map_drop,h2,h3]
   ·rw[if_neg (by omega)]
    by_cases h4:0<m.hlen
    ·rw[if_neg (by omega)]
     obtain⟨n,hn⟩:=Int.eq_ofNat_of_zero_le h0
     simp-implicitDefEqProofs (disch:=try exact dd) [cB, -List.map_take, -List.map_drop]
     refine oc q1 ?_
     simp-implicitDefEqProofs (disch:=try exact dd) [cB, -List.map_take, -List.map_drop]
     refine oc q2 ?_
     simp-implicitDefEqProofs (disch:=try exact dd) [cB, -List.map_take, -List.map_drop,h2,h3,h4,hn,pk]
    ·rw[if_pos (by omega)]
     simp-implicitDefEqProofs (disch:=try exact dd) [cB, -List.map_take, -List.map_drop]
     refine oc q1 ?_
     simp-implicitDefEqProofs (disch:=try exact dd) [cB, -List.map_take, -List.map_drop]
     refine oc q2 ?_
     simp-implicitDefEqProofs (disch:=try exact dd) [cB, -List.map_take, -List.map_drop,h2,h3,h4]
def jG(m:ee)(server:Int):Bool:=(fa m.opts 54).isSome&& !decide ((fa m.opts 54).getD 0=server)
theorem Bt(m:ee)(server:Int)(hm:ez m):cD Tryz.prog 112 [.d m.d,.d (.int .i64 server)] (.d (.bool (jG m server))) (fun _=>false):=by
 refine cD.bi Tryz.func112 [20002] ?_;have q:=jT m.opts 54 hm.2;unfold jG
 generalize(fa m.opts 54).getD 0=v at*
 generalize(fa m.opts 54).isSome=b at*
 cases b with
 |false=>
  simp-implicitDefEqProofs (disch:=try exact dd) [cB]
  refine oc q ?_
  simp-implicitDefEqProofs (disch:=try exact dd) [cB]
 |true=>
  by_cases h:v=server
  ·simp-implicitDefEqProofs (disch:=try exact dd) [cB]
   refine oc q ?_
   simp-implicitDefEqProofs (disch:=try exact dd) [cB,h]
  ·simp-implicitDefEqProofs (disch:=try exact dd) [cB]
   refine oc q ?_
   simp-implicitDefEqProofs (disch:=try exact dd) [cB,h]
theorem AF(m:ee)(server:Int)(hm:ez m):cD Tryz.prog 34 [.d m.d,.d (.int .i64 server)] (.d (.bool (jG m server))) (fun _=>false):=by
 refine cD.bi Tryz.func34 [20002] ?_;have q:=uU m.opts 54 hm.2;unfold jG
 generalize(fa m.opts 54).getD 0=v at*
 generalize(fa m.opts 54).isSome=b at*
 cases b with
 |false=>
  simp-implicitDefEqProofs (disch:=try exact dd) [cB]
  refine oc q ?_
  simp-implicitDefEqProofs (disch:=try exact dd) [cB]
 |true=>
  by_cases h:v=server
  ·simp-implicitDefEqProofs (disch:=try exact dd) [cB]
   refine oc q ?_
   simp-implicitDefEqProofs (disch:=try exact dd) [cB,h]
  ·simp-implicitDefEqProofs (disch:=try exact dd) [cB]
   refine oc q ?_
   simp-implicitDefEqProofs (disch:=try exact dd) [cB,h]
theorem rM(l:List cN)(hl:sized l):cD Tryz.prog 51 [.d (.slice (l.map cN.d))] (.d (.int .i64 (f_ l))) (fun _=>false):=by
 refine cD.bi Tryz.func51 [] ?_;have q:=j9 l 53 hl;unfold f_;have hsz:=fun d h=> @gF l 53 d hl h
 generalize cY l 53=f at*
 match f with
 |none=>
  simp-implicitDefEqProofs (disch:=try exact dd) [cB]
  refine oc q ?_
  simp-implicitDefEqProofs (disch:=try exact dd) [cB]
 |some []=>
  simp-implicitDefEqProofs (disch:=try exact dd) [cB]
  refine oc q ?_
  simp-implicitDefEqProofs (disch:=try exact dd) [cB]
 |some [b]=>
  have hn:nth [b] 0=b:=rfl;have hb:=b.toNat_lt;by_cases h1:(b.toNat:Int)<1
  ·have h2: ¬(1≤b.toNat∧b.toNat≤8):=by omega
   simp-implicitDefEqProofs (disch:=try exact dd) [cB]
   refine oc q ?_
   simp-implicitDefEqProofs (disch:=try exact dd) [cB,hn,h1,h2]
  ·by_cases h3:(8:Int)<b.toNat
   ·have h2: ¬(1≤b.toNat∧b.toNat≤8):=by omega
    simp-implicitDefEqProofs (disch:=try exact dd) [cB]
    refine oc q ?_
    simp-implicitDefEqProofs (disch:=try exact dd) [cB,hn,h1,h2,h3]
   ·have h2:1≤b.toNat∧b.toNat≤8:=by omega
    simp-implicitDefEqProofs (disch:=try exact dd) [cB]
    refine oc q ?_
    simp-implicitDefEqProofs (disch:=try exact dd) [cB,hn,h1,h2,h3]
 |some (b::b2::r)=>
  have hlen:=hsz _ rfl;simp only[List.length_cons]at hlen;have h1: ¬(r.length:Int)+1+1=1:=by omega
  simp-implicitDefEqProofs (disch:=try exact dd) [cB]
  refine oc q ?_
  simp-implicitDefEqProofs (disch:=try exact dd) [cB,h1]
def jJ(m:ee):Int:=
 if f_ m.opts=3 then(if m.ci=0∧(fa m.opts 50).isSome=true then(if(fa m.opts 54).isSome=true then 1 else 2)else if¬m.ci=0∧(fa m.opts 50).isSome=false∧(fa m.opts 54).isSome=false then 3 else 0)else 0
theorem GI(m:ee)(hm:ez m):cD Tryz.prog 208 [.d m.d] (.d (.int .i64 (jJ m))) (fun _=>false):=by
 refine cD.bi Tryz.func208 [20001] ?_;have q1:=rM m.opts hm.2;have q2:=jT m.opts 54 hm.2;have q3:=jT m.opts 50 hm.2;unfold jJ
 generalize(fa m.opts 54).getD 0=v at*
 generalize(fa m.opts 54).isSome=sv at*
 generalize(fa m.opts 50).getD 0=u at*
 generalize(fa m.opts 50).isSome=wn at*
 generalize f_ m.opts=kd at*
 by_cases hk:kd=3<;>cases sv<;>cases wn<;>by_cases hc:m.ci=0<;>(
  simp-implicitDefEqProofs (disch:=try exact dd) [cB,hk,hc]
  refine oc q2 ?_
  simp-implicitDefEqProofs (disch:=try exact dd) [cB,hk,hc]
  refine oc q3 ?_
  simp-implicitDefEqProofs (disch:=try exact dd) [cB,hk,hc]
  refine oc q1 ?_
  simp-implicitDefEqProofs (disch:=try exact dd) [cB,hk,hc]
  done)
def gC(m:ee):Int:=if jJ m=1∨jJ m=2 then(fa m.opts 50).getD 0 else if jJ m=3 then m.ci else 0
theorem z9(m:ee):jJ m=0∨jJ m=1∨jJ m=2∨jJ m=3:=by
 unfold jJ
 repeat' split
 all_goals simp
theorem E_(m:ee)(hm:ez m):cD Tryz.prog 209 [.d m.d] (.d (.int .i64 (gC m))) (fun _=>false):=by
 refine cD.bi Tryz.func209 [20001] ?_;have q1:=GI m hm;have q2:=jT m.opts 50 hm.2;have hr:=z9 m;unfold gC
 generalize(fa m.opts 50).getD 0=u at*
 generalize(fa m.opts 50).isSome=wn at*
 generalize jJ m=kd at*
 rcases hr with rfl|rfl|rfl|rfl<;>(
  simp-implicitDefEqProofs (disch:=try exact dd) [cB]
  refine oc q1 ?_
  simp-implicitDefEqProofs (disch:=try exact dd) [cB]
  try refine oc q2 ?_
  try simp-implicitDefEqProofs (disch:=try exact dd) [cB]
  done)
def rK(m:ee):Option Int:=
 match(cY m.opts 82).bind lZ with
 |some a=>some a
 |none=>if m.gi≠0 then some m.gi else if(fa m.opts 118).getD 0≠0 then some ((fa m.opts 118).getD 0)else if m.ci≠0 then some m.ci else none
def OT(a:Option Int):PV:= .tup [.d (.int .i64 (a.getD 0)),.d (.bool a.isSome)]
@[simp] theorem W0:OT none= .tup [.d (.int .i64 0),.d (.bool false)]:=rfl
@[simp] theorem WZ(a:Int):OT (some a)= .tup [.d (.int .i64 a),.d (.bool true)]:=rfl
def gI(c:dq)(m:ee)(w:Int):Option du:=if db m=true then(match rK m with|some a=>gr c a|none=>sm c w)else none
theorem wO(a:Int):cD Tryz.prog 311 [.d (.int .i64 a)] (.tup [.d (.int .i64 a),.d (.bool (!decide (a=0)))]) (fun _=>false):=by
 refine cD.bi Tryz.func311 [] ?_
 simp-implicitDefEqProofs (disch:=try exact dd) [cB]
theorem JK(m:ee)(hm:ez m):cD Tryz.prog 309 [.d m.d] (.tup [.d (.int .i64 (((cY m.opts 82).bind lZ).getD 0)),.d (.bool ((cY m.opts 82).bind lZ).isSome)]) (fun _=>false):=by
 refine cD.bi Tryz.func309 [20001] ?_;obtain⟨hc,hs⟩:=hm;have ht:=j9 m.opts 82 hs
 cases h:cY m.opts 82 with
 |none=>
  rw[h]at ht
  simp-implicitDefEqProofs (disch:=try exact dd) [cB]
  refine oc ht ?_
  simp-implicitDefEqProofs (disch:=try exact dd) [cB]
 |some d=>
  rw[h]at ht;have hd:=gF hs h
  simp-implicitDefEqProofs (disch:=try exact dd) [cB]
  refine oc ht ?_
  simp-implicitDefEqProofs (disch:=try exact dd) [cB]
  refine oc (He d hd) ?_
  simp-implicitDefEqProofs (disch:=try exact dd) [cB]
theorem ON(m:ee):cD Tryz.prog 310 [.d m.d] (.tup [.d (.int .i64 m.gi),.d (.bool (!decide (m.gi=0)))]) (fun _=>false):=by
 refine cD.bi Tryz.func310 [20001] ?_
 simp-implicitDefEqProofs (disch:=try exact dd) [cB]
 refine oc (wO m.gi) ?_
 simp-implicitDefEqProofs (disch:=try exact dd) [cB]
theorem OM(m:ee)(hm:ez m):cD Tryz.prog 312 [.d m.d] (.tup [.d (.int .i64 ((fa m.opts 118).getD 0)),.d (.bool (!decide ((fa m.opts 118).getD 0=0)))]) (fun _=>false):=by
 refine cD.bi Tryz.func312 [20001] ?_
 simp-implicitDefEqProofs (disch:=try exact dd) [cB]
 refine oc (jT m.opts 118 hm.2) ?_
 simp-implicitDefEqProofs (disch:=try exact dd) [cB]
 refine oc (wO _) ?_
 simp-implicitDefEqProofs (disch:=try exact dd) [cB]
theorem OL(m:ee):cD Tryz.prog 313 [.d m.d] (.tup [.d (.int .i64 m.ci),.d (.bool (!decide (m.ci=0)))]) (fun _=>false):=by
 refine cD.bi Tryz.func313 [20001] ?_
 simp-implicitDefEqProofs (disch:=try exact dd) [cB]
 refine oc (wO m.ci) ?_
 simp-implicitDefEqProofs (disch:=try exact dd) [cB]
def od(f:Nat):DV:= .agg [.opq (.func (.func f) #[] #[])]
@[simp] theorem Tf(f:Nat):od f= .agg [.opq (.func (.func f) #[] #[])]:=rfl
theorem JI:cD Tryz.prog 274 [] (.d (.slice [od 309,od 310,od 312,od 313])) (fun _=>false):=by
 refine cD.bi Tryz.func274 [] ?_
 simp-implicitDefEqProofs (disch:=try exact dd) [cB]
def m9(m:ee):Nat→Option Int
 |0=>(cY m.opts 82).bind lZ
 |1=>if m.gi=0 then none else some m.gi
 |2=>if(fa m.opts 118).getD 0=0 then none else some ((fa m.opts 118).getD 0)
 |_=>if m.ci=0 then none else some m.ci
def Oc:Nat→Nat
 |0=>309
 |1=>310
 |2=>312
 |_=>313
theorem wN(m:ee):rK m=match m9 m 0 with|some a=>some a|none=>match m9 m 1 with|some a=>some a|none=>match m9 m 2 with|some a=>some a|none=>m9 m 3:=by
 unfold rK m9
 cases(cY m.opts 82).bind lZ with
 |some a=>rfl
 |none=>
  by_cases h1:m.gi=0
  ·by_cases h2:(fa m.opts 118).getD 0=0
   ·by_cases h3:m.ci=0<;>simp[h1,h2,h3]
   ·simp[h1,h2]
  ·simp[h1]
theorem VY(m:ee)(hm:ez m)(i:Nat)(hi:i<4): ∃v:Int,((m9 m i=none)∨(m9 m i=some v))∧cD Tryz.prog (Oc i) [.d m.d] (.tup [.d (.int .i64 v),.d (.bool (m9 m i).isSome)]) (fun _=>false):=by
 match i,hi with
 |0,_=>
  refine⟨(m9 m 0).getD 0,?_,JK m hm⟩
  cases m9 m 0<;>simp
 |1,_=>
  refine⟨m.gi,by by_cases h:m.gi=0<;>simp[m9,h],?_⟩
  have hs:(m9 m 1).isSome= !decide (m.gi=0):=by by_cases h:m.gi=0<;>simp[m9,h]
  rw[hs];exact ON m
 |2,_=>
  refine⟨(fa m.opts 118).getD 0,by by_cases h:(fa m.opts 118).getD 0=0<;>simp[m9,h],?_⟩
  have hs:(m9 m 2).isSome= !decide ((fa m.opts 118).getD 0=0):=by by_cases h:(fa m.opts 118).getD 0=0<;>simp[m9,h]
  rw[hs];exact OM m hm
 |3,_=>
  refine⟨m.ci,by by_cases h:m.ci=0<;>simp[m9,h],?_⟩
  have hs:(m9 m 3).isSome= !decide (m.ci=0):=by by_cases h:m.ci=0<;>simp[m9,h]
  rw[hs];exact OL m
def plP(m:ee)(L:List DV)(i:Nat)(S:PS):Prop:=
 i≤4∧(∀j,j<i→m9 m j=none)∧S.t 1= .cptr (cells m.d)∧S.t 8= .d (.slice L)∧S.t 9= .d (.int .i64 4)∧S.t 10= .d (.int .i64 i)
theorem Hr(m:ee)(hm:ez m):cD Tryz.prog 202 [.d m.d] (OT (rK m)) (fun _=>false):=by
 refine cD.bi Tryz.func202 [20001] ?_
 simp-implicitDefEqProofs (disch:=try exact dd) [cB]
 refine oc JI ?_;have hL: ∀i,i<4→ [od 309,od 310,od 312,od 313][i]? =some (od (Oc i)):=by
  intro i hi
  match i,hi with
  |0,_=>rfl
  |1,_=>rfl
  |2,_=>rfl
  |3,_=>rfl
 have hlen: [od 309,od 310,od 312,od 313].length=4:=rfl
 generalize[od 309,od 310,od 312,od 313]=L at hL hlen
 simp-implicitDefEqProofs (disch:=try exact dd) [cB,hlen]
 refine lp (plP m L) (fun i=>4-i) 0 ⟨by omega,by simp,by simp-implicitDefEqProofs (disch:=try exact dd) [cB]⟩ ?_
 rintro i S ⟨hi,hn,e1,e8,e9,e10⟩;by_cases hlt:i<4
 ·have k6:(i:Int)<4:=by omega
  have hLi:=hL i hlt;obtain⟨v,hv,hH⟩:=VY m hm i hlt;generalize Oc i=f at hLi hH;have hil:i<L.length:=by omega
  have hLv:L[i]=od f:=by
   rw[List.getElem?_eq_getElem hil]at hLi;exact au hLi
  simp-implicitDefEqProofs (disch:=try exact dd) [cB,e1,e8,e9,e10,k6,eK,hLv]
  refine JZ (f:=f) (caps:= []) rfl rfl hH rfl rfl ?_;rcases hv with hv|hv
  ·rw[hv]
   simp-implicitDefEqProofs (disch:=try exact dd) [cB,e1,e8,e9,e10]
   exact cE (i+1) ⟨by omega,fun j hj=>by
    rcases aR j i with h|h
    ·exact hn j h
    ·have:j=i:=by omega
     subst this;exact hv,by simp-implicitDefEqProofs (disch:=try exact dd) [cB,e1,e8,e9,e10]⟩ (by omega)
  ·have hz:rK m=some v:=by
    rw[wN]
    match i,hlt,hn,hv with
    |0,_,_,hv=>simp[hv]
    |1,_,hn,hv=>simp[hv,hn 0 (by omega)]
    |2,_,hn,hv=>simp[hv,hn 0 (by omega),hn 1 (by omega)]
    |3,_,hn,hv=>simp[hv,hn 0 (by omega),hn 1 (by omega),hn 2 (by omega)]
   rw[hv,hz]
   simp-implicitDefEqProofs (disch:=try exact dd) [cB,e1,e8,e9,e10]
 ·have k6: ¬(i:Int)<4:=by omega
  have hz:rK m=none:=by
   rw[wN];simp[hn 0 (by omega),hn 1 (by omega),hn 2 (by omega),hn 3 (by omega)]
  rw[hz]
  simp-implicitDefEqProofs (disch:=try exact dd) [cB,e1,e8,e9,e10,k6]
theorem CU(x:Option du):fZ (r9 x)=true:=by cases x<;>rfl
theorem DX(c:dq)(m:ee)(w:Int)(hc:dW c)(hm:ez m):cD Tryz.prog 114 [.d c.d,.d m.d,.d (.int .i64 w)] (r9 (gI c m w)) (fun _=>false):=by
 refine cD.by (by kernel_rfl) Tryz.func114 (by kernel_rfl) rfl [20003,20004] (by simp) (by kernel_rfl) (by kernel_rfl) (CU _) ?_
 conv in Df _=>cbv
 have hp:=Hr m hm
 simp-implicitDefEqProofs (disch:=try exact dd) [cB]
 refine oc (sW m hm) ?_
 cases h1:db m with
 |false=>
  have hz:gI c m w=none:=by simp[gI,h1]
  rw[hz,jF]
  simp-implicitDefEqProofs (disch:=try exact dd) [cB]
 |true=>
  simp-implicitDefEqProofs (disch:=try exact dd) [cB]
  refine oc hp ?_
  cases h2:rK m with
  |some a=>
   have hz:gI c m w=gr c a:=by simp[gI,h1,h2]
   rw[hz];have hq:=qg c a hc
   simp-implicitDefEqProofs (disch:=try exact dd) [cB]
   refine oc hq ?_
   cases gr c a with
   |none=>simp-implicitDefEqProofs (disch:=try exact dd) [cB,jF]
   |some x=>simp-implicitDefEqProofs (disch:=try exact dd) [cB,iu]
  |none=>
   have hz:gI c m w=sm c w:=by simp[gI,h1,h2]
   rw[hz];have hq:=E1 c w hc
   simp-implicitDefEqProofs (disch:=try exact dd) [cB]
   refine oc hq ?_
   cases sm c w with
   |none=>simp-implicitDefEqProofs (disch:=try exact dd) [cB,jF]
   |some x=>simp-implicitDefEqProofs (disch:=try exact dd) [cB,iu]
def qJ:cC:=⟨0,0,0,[]⟩
def vw(b:List UInt8):cC:=⟨fC (b.take 4),((b.getD 4 0).toNat:Int),fC ((b.drop 5).take 7),b.drop 12⟩
def jA(b:List UInt8):cC×Int:=if b.length<12 then(qJ,4)else if c8 (vw b)=true then(vw b,0)else(qJ,2)
theorem t_(v n:Nat)(h1:1≤n)(h7:n≤7)(hv:v<256^n)(no g:Nat){fo:Nat}{gl:Nat→Nat}(hno:no<fo)(hg:0<g)(xs:List UInt8)(hx:xs.length≤100000):
 de Tryz.prog fo gl 288 [.d (.int .i64 v),.d (.int .i64 n),.ptr no g 0] [⟨no,g,[.d (.slice (xs.map cM))],fun k=>k==0⟩] .undef (fun _=>false) [⟨no,g,[.d (.slice ((xs++iE v n).map cM))],fun k=>k==0⟩]:=by
 refine de.bi Tryz.func288 [13] (by simp[cH,cS,hg]) (by simp[cH,cS,hg]) (by simp[hg]) ?_
 have hk1: ∀k,(no=fo+k)=False:=fun k=>by simp;omega
 have hk2: ∀k,(fo+k=no)=False:=fun k=>by simp;omega
 have q:=x8 v n h1 h7 hv;have hpl:=fY v n
 simp-implicitDefEqProofs (disch:=try exact dd) [cB,hk1,hk2]
 refine oc q ?_
 simp-implicitDefEqProofs (disch:=try exact dd) [cB,hk1,hk2]
def dM(l:cC):List UInt8:=iE l.addr.toNat 4++iE l.state.toNat 1++iE l.expiry.toNat 7++l.key
theorem uX(l:cC)(hk:l.key.length≤1000000):cD Tryz.prog 219 [.d l.d] (.tup [.d (.slice ((if c8 l=true then dM l else[]).map cM)),.d (.int .i64 (if c8 l=true then 0 else 1))]) (fun _=>false):=by
 refine cD.bi Tryz.func219 [20001,40013,40017,40021,22] ?_;have q:=mr l (by omega)
 cases hr:c8 l with
 |false=>
  rw[hr]at q
  simp-implicitDefEqProofs (disch:=try exact dd) [cB]
  refine oc q ?_
  simp-implicitDefEqProofs (disch:=try exact dd) [cB]
 |true=>
  rw[hr]at q;obtain⟨⟨a0,a1⟩,⟨s0,s1⟩,⟨e0,e1⟩,_⟩:=gV hr;obtain⟨a,ha⟩:=Int.eq_ofNat_of_zero_le a0;obtain⟨st,hs⟩:=Int.eq_ofNat_of_zero_le (show 0≤l.state by omega)
  obtain⟨ex,he⟩:=Int.eq_ofNat_of_zero_le e0;have q1:= @t_ a 4 (by omega) (by omega) (by omega) (FO+4) 1
  have q2:= @t_ st 1 (by omega) (by omega) (by omega) (FO+4) 1
  have q3:= @t_ ex 7 (by omega) (by omega) (by omega) (FO+4) 1
  have l1:=fY a 4;have l2:=fY st 1;have l3:=fY ex 7;unfold dM;have hd:l.d= .agg [.int .i64 (a:Int),.int .i64 (st:Int),.int .i64 (ex:Int),.str l.key]:=by simp[cC.d,ha,hs,he]
  rw[hd]at q
  simp-implicitDefEqProofs (disch:=try exact dd) [cB,ha,hs,he]
  refine oc q ?_
  simp-implicitDefEqProofs (disch:=try exact dd) [cB,ha,hs,he]
  refine dx (FO+1000) rfl rfl (q1 (by omega) (by omega) [] (by simp)) rfl (by simp-implicitDefEqProofs (disch:=try exact dd) [cB]) ?_
  simp-implicitDefEqProofs (disch:=try exact dd) [cB,ha,hs,he]
  refine dx (FO+1000) rfl rfl (q2 (by omega) (by omega) (iE a 4) (by omega)) rfl (by simp-implicitDefEqProofs (disch:=try exact dd) [cB]) ?_
  simp-implicitDefEqProofs (disch:=try exact dd) [cB,ha,hs,he]
  refine dx (FO+1000) rfl rfl (q3 (by omega) (by omega) (iE a 4++iE st 1) (by simp;omega)) rfl (by simp-implicitDefEqProofs (disch:=try exact dd) [cB]) ?_
  simp-implicitDefEqProofs (disch:=try exact dd) [cB,ha,hs,he]
theorem ua(b:List UInt8)(hb:b.length≤1000000)(at_ n:Nat)(ha:at_≤1000)(h7:n≤7)(no g:Nat){fo:Nat}{gl:Nat→Nat}(hno:no<fo)(hg:0<g):
 de Tryz.prog fo gl 245 [.d (.int .i64 n),.cptr [.slice (b.map cM)],.ptr no g 0] [⟨no,g,[.d (.int .i64 at_)],fun _=>false⟩] (.d (.int .i64 (lj b at_ n))) (fun _=>false) [⟨no,g,[.d (.int .i64 ((at_+n:Nat):Int))],fun _=>false⟩]:=by
 refine de.bi Tryz.func245 [] (by simp[cH,cS,hg]) (by simp[cH,cS,hg]) (by simp[hg]) ?_
 have hk1: ∀k,(no=fo+k)=False:=fun k=>by simp;omega
 have hk2: ∀k,(fo+k=no)=False:=fun k=>by simp;omega
 have q:=oS b at_ n (by omega)
 simp-implicitDefEqProofs (disch:=try exact dd) [cB,hk1,hk2]
 refine oc q ?_
 simp-implicitDefEqProofs (disch:=try exact dd) [cB,hk1,hk2]
theorem DT(b:List UInt8)(hl:b.length≤1000000):cD Tryz.prog 158 [.d (.slice (b.map cM))] (.tup [.d (jA b).1.d,.d (.int .i64 (jA b).2)]) (fun _=>false):=by
 refine cD.bi Tryz.func158 [20001,40013,40016,40019] ?_;unfold jA;by_cases h:(b.length:Int)<12
 ·have h':b.length<12:=by omega
  simp-implicitDefEqProofs (disch:=try exact dd) [cB, -List.map_take, -List.map_drop,h,h',qJ,cC.d]
 have h': ¬b.length<12:=by omega
 have h4:4<b.length:=by omega
 have hr:vw b=⟨fC (b.take 4),(b[4].toNat:Int),fC ((b.drop 5).take 7),b.drop 12⟩:=by simp[vw,List.getD_eq_getElem?_getD,h4]
 have hd:(vw b).d= .agg [.int .i64 (fC (b.take 4)),.int .i64 (b[4].toNat:Int),.int .i64 (fC ((b.drop 5).take 7)),.str (b.drop 12)]:=by rw[hr];rfl
 have ge: ∀a n:Nat,1≤n→n≤7→a+n≤12→mc b a n=0:=by
  intro a n h1 h7 h12;unfold mc;rw[if_neg (by omega),if_neg (by omega)]
 have g1:lj b (0:Nat) (4:Nat)=fC (b.take 4):=by
  simp only[lj,ge 0 4 (by omega) (by omega) (by omega),if_true,Int.toNat_natCast,List.drop_zero]
 have g2:lj b (4:Nat) (1:Nat)=(b[4].toNat:Int):=by
  have e:(b.drop 4).take 1= [b[4]]:=by rw[ai h4];rfl
  simp only[lj,ge 4 1 (by omega) (by omega) (by omega),if_true,Int.toNat_natCast,e]
  simp[fC]
 have g3:lj b (5:Nat) (7:Nat)=fC ((b.drop 5).take 7):=by
  simp only[lj,ge 5 7 (by omega) (by omega) (by omega),if_true,Int.toNat_natCast]
 have q1:= @ua b hl 0 4 (by omega) (by omega) (FO+4) 1
 have q2:= @ua b hl 4 1 (by omega) (by omega) (FO+4) 1
 have q3:= @ua b hl 5 7 (by omega) (by omega) (FO+4) 1
 rw[g1]at q1;rw[g2]at q2;rw[g3]at q3;have q4:=mr (vw b) (by simp[vw];omega)
 rw[hd]at q4;clear ge g1 g2 g3
 simp-implicitDefEqProofs (disch:=try exact dd) [cB, -List.map_take, -List.map_drop,h,h']
 refine dx (FO+1000) rfl rfl (q1 (by omega) (by omega)) rfl (by simp-implicitDefEqProofs (disch:=try exact dd) [cB, -List.map_take, -List.map_drop]) ?_
 simp-implicitDefEqProofs (disch:=try exact dd) [cB, -List.map_take, -List.map_drop,h,h']
 refine dx (FO+1000) rfl rfl (q2 (by omega) (by omega)) rfl (by simp-implicitDefEqProofs (disch:=try exact dd) [cB, -List.map_take, -List.map_drop]) ?_
 simp-implicitDefEqProofs (disch:=try exact dd) [cB, -List.map_take, -List.map_drop,h,h']
 refine dx (FO+1000) rfl rfl (q3 (by omega) (by omega)) rfl (by simp-implicitDefEqProofs (disch:=try exact dd) [cB, -List.map_take, -List.map_drop]) ?_
 simp-implicitDefEqProofs (disch:=try exact dd) [cB, -List.map_take, -List.map_drop,h,h']
 refine oc q4 ?_
 cases hc:c8 (vw b)with
 |true=>simp-implicitDefEqProofs (disch:=try exact dd) [cB, -List.map_take, -List.map_drop,hd]
 |false=>simp-implicitDefEqProofs (disch:=try exact dd) [cB, -List.map_take, -List.map_drop,qJ,cC.d]
structure ym where
 addr:Int
 port:Int
 raw:Bool
 deriving Inhabited,DecidableEq
def ym.d(x:ym):DV:= .agg [.int .i64 x.addr,.int .i64 x.port,.bool x.raw]
@[simp] theorem ym.iR(x:ym):x.d= .agg [.int .i64 x.addr,.int .i64 x.port,.bool x.raw]:=rfl
def tz(m:ee)(kind yi:Int):ym:=
 if m.gi≠0 then⟨m.gi,67,false⟩else if kind=6 then⟨4294967295,68,false⟩else if m.ci≠0 then⟨m.ci,68,false⟩
 else if 32768≤m.flags∧m.flags≤65535 then⟨4294967295,68,false⟩else⟨yi,68,true⟩
structure kU where
 send:Bool
 keep:Bool
 reply:ee
 to:ym
 lease:cC
def kU.d(a:kU):DV:= .agg ([.bool a.send,.bool a.keep]++cells a.reply.d++cells a.to.d++cells a.lease.d)
@[simp] theorem kU.iR(a:kU):a.d= .agg ([.bool a.send,.bool a.keep]++cells a.reply.d++cells a.to.d++cells a.lease.d):=rfl
def jL:kU:=⟨false,false,iG,⟨0,0,false⟩,qJ⟩
structure eR where
 c:dq
 t:List cC
 m:ee
 k:List UInt8
 net:Int
 sub:Int
 s:Sub
 now:Int
def lG(u:eR):List DV:=cells u.c.d++ [.slice (u.t.map cC.d)]++cells u.m.d++ [.str u.k,.int .i64 u.net,.int .i64 u.sub,.int .i64 u.now]
def mZ(now time:Int):Int:=min (now+time) 1125899906842624
def iV(c:dq)(s:Sub)(kind a:Int):Sub:=if a≠0∧kind≠6 then(match gr c a with|some x=>x.s|none=>s)else s
def gQ(u:eR)(kind a:Int)(keep:Bool)(l:cC):kU:=⟨true,keep,eI u.c (iV u.c u.s kind a) u.m kind a,tz u.m kind (if kind=6 then 0 else a),l⟩
def nc(u:eR):Int:=(fa u.m.opts 50).getD 0
def nX(u:eR):kU:=match lk u.c u.t u.net u.k (nc u) u.now with|none=>jL|some a=>gQ u 2 a false qJ
def kB(u:eR)(a:Int):cC:=⟨a,1,mZ u.now (iV u.c u.s 5 a).time,u.k⟩
def o8(u:eR)(a:Int):kU:=if(gJ u.t (kB u a)).2=0 then gQ u 5 a true (kB u a)else jL
def Eb(u:eR):kU:=gQ u 6 0 false qJ
def pE(u:eR):kU:=
 if jJ u.m=0 then jL else if CJ u.c u.net (gC u.m)=false then Eb u
 else if jJ u.m=1 then(if jD u.c u.t u.net u.k u.now (gC u.m)=true then o8 u (gC u.m)else Eb u)
 else if(gq u.t (gC u.m)).2=false then jL
 else if(gq u.t (gC u.m)).1.key=u.k∧(gq u.t (gC u.m)).1.state≠3∧jD u.c u.t u.net u.k u.now (gC u.m)=true then o8 u (gC u.m)else Eb u
def oX(u:eR)(a:Int):Bool:=(gq u.t a).2&&decide ((gq u.t a).1.key=u.k)&&ir u.now (gq u.t a).1
def nC(l:cC):kU:=⟨false,true,iG,⟨0,0,false⟩,l⟩
def uC(u:eR)(a state until_:Int):kU:=if oX u a=true then nC ⟨a,state,until_,u.k⟩else jL
def qd(u:eR):kU:=uC u (nc u) 3 (mZ u.now u.c.probation)
def pG(u:eR):kU:=uC u u.m.ci 2 u.now
def s_(u:eR):kU:=if u.m.ci=0 then jL else gQ u 5 0 false qJ
def uO(u:eR):kU:=
 if f_ u.m.opts=1 then nX u else if f_ u.m.opts=3 then pE u else if f_ u.m.opts=4 then qd u else if f_ u.m.opts=7 then pG u else if f_ u.m.opts=8 then s_ u else jL
def xN(c:dq)(t:List cC)(m:ee)(now:Int):Bool:=decide (dH c=0)&&dk t&&decide (0≤now∧now≤1125899906842624)&&decide (m.op=1)&& !jG m c.server
def cL(c:dq)(t:List cC)(m:ee)(iface now:Int):kU:=
 if xN c t m now=true∧(oK m).2=0 then(match gI c m iface with|some x=>uO ⟨c,t,m,(oK m).1,x.net,x.sub,x.s,now⟩|none=>jL)else jL
theorem yO(k:Nat): ∀(i:Nat) (l:List Sub) (x:du),x∈iM k i l→ ∃j,x.sub=i+j∧l[j]? =some x.s
 |i,[],x,h=>by simp[iM]at h
 |i,s::l,x,h=>by
  simp only[iM,List.mem_cons]at h;rcases h with rfl|h
  ·exact⟨0,rfl,rfl⟩
  ·obtain⟨j,h1,h2⟩:=yO k (i+1) l x h;exact⟨j+1,by omega,by simpa using h2⟩
theorem rD: ∀(k:Nat) (l:List Net) (x:du),x∈gp k l→ ∃n N,x.net=k+n∧l[n]? =some N∧N.subs[x.sub]? =some x.s
 |k,[],x,h=>by simp[gp]at h
 |k,n::l,x,h=>by
  simp only[gp,List.mem_append]at h;rcases h with h|h
  ·obtain⟨j,h1,h2⟩:=yO k 0 n.subs x h;have h3:=yP k 0 n.subs x h;exact⟨0,n,by omega,rfl,by rw[h1,Nat.zero_add];exact h2⟩
  ·obtain⟨m,N,h1,h2,h3⟩:=rD (k+1) l x h;exact⟨m+1,N,by omega,by simpa using h2,h3⟩
theorem jj{c:dq}{x:du}(h:x∈cJ c):dH c=0∧ou c x.net x.sub=some x.s:=by
 unfold cJ at h
 split at h
 ·rename_i hk;obtain⟨n,N,h1,h2,h3⟩:=rD 0 c.nets x h;refine⟨hk,?_⟩;unfold ou;rw[if_pos (by omega),Int.toNat_natCast,Int.toNat_natCast,h1,Nat.zero_add,h2]
  exact h3
 ·cases h
theorem qT{c:dq}{a:Int}{x:du}(h:gr c a=some x):ou c x.net x.sub=some x.s:=(jj (List.mem_of_find?_eq_some h)).2
theorem tk{c:dq}{a:Int}{x:du}(h:gr c a=some x):nI x.s.base x.s.bits a=true∧x∈cJ c:=⟨List.find?_some (p:=fun x:du=>nI x.s.base x.s.bits a) h,List.mem_of_find?_eq_some h⟩
theorem r_{c:dq}{a:Int}{x:du}(h:gr c a=some x):dD a=true:=dI.2 (mb.1 (tk h).1).2.1
theorem po{c:dq}{m:ee}{w:Int}{x:du}(h:gI c m w=some x):dH c=0∧ou c x.net x.sub=some x.s∧db m=true:=by
 unfold gI at h
 split at h
 ·rename_i hm
  split at h
  ·exact⟨(jj (List.mem_of_find?_eq_some h)).1,qT h,hm⟩
  ·have:=jj (List.mem_of_find?_eq_some h);exact⟨this.1,this.2,hm⟩
 ·cases h
theorem iw{c:dq}(h:dH c=0):me c=true∧kc c=true∧ml c=true:=by
 unfold dH at h
 split at h
 ·split at h
  ·split at h
   ·exact⟨by assumption,by assumption,by assumption⟩
   ·cases h
  ·cases h
 ·cases h
theorem JS{c:dq}{x:du}{a:Int}(hx:x∈cJ c)(h:nI x.s.base x.s.bits a=true):gr c a=some x:=by
 have hk:=(jj hx).1;obtain⟨_,_,hu⟩:=iw hk;have hr:cJ c=cF c:=if_pos hk
 cases hf:gr c a with
 |none=>
  have:=List.find?_eq_none.1 hf x hx;exact absurd h this
 |some y=>
  obtain⟨hy,hym⟩:=tk hf;rw[hr]at hx hym;obtain⟨i,hi,rfl⟩:=List.mem_iff_getElem.1 hx;obtain⟨j,hj,rfl⟩:=List.mem_iff_getElem.1 hym;by_cases e:j=i
  ·subst e;rfl
  ·have h1:=(JV _ _ _).1 ((Du c).1 hu j hj i hi);have h2:j7 (cF c)[j] (cF c)[i]=true:=by
    rcases h1.1 with h3|h3
    ·exact absurd (of_decide_eq_true h3) e
    ·exact h3
   exfalso
   simp only[j7,Bool.not_eq_true',Bool.or_eq_false_iff]at h2;have h3:=h2.1;obtain⟨f1,_,b1,b2⟩:=mb.1 hy;obtain⟨f2,_,c1,c2⟩:=mb.1 h;simp only[sX,f1,f2,Bool.true_and]at h3;have h3:=of_decide_eq_false h3;unfold rz at h3;omega
theorem EC{c:dq}{x:du}{a:Int}(hx:x∈cJ c)(h:g_ x.s a=true):nI x.s.base x.s.bits a=true:=by
 obtain⟨hk,hs⟩:=jj hx;obtain⟨hf,_,_⟩:=iw hk;have hr:cJ c=cF c:=if_pos hk;rw[hr]at hx;simp only[me,Bool.and_eq_true,List.all_eq_true]at hf;have h1:=hf.2 x hx;simp only[vh,nV,Bool.and_eq_true]at h1;have hfa:=h1.1.1.1.1.1.1.1;obtain⟨⟨b0,b1⟩,⟨a0,a1⟩,hm⟩:=iK.1 hfa;have h:=of_decide_eq_true h;unfold rz at h;refine mb.2 ⟨hfa,⟨by omega,?_⟩,by omega,by omega⟩
 have hd: ∀e,e<33→(4294967296:Int) % 2^e=0:=by decide
 have h2:=hd (32-x.s.bits).toNat (by omega)
 have hp:=jk x.s.bits;have h3:(4294967296:Int) % eV x.s.bits=0:=h2;generalize eV x.s.bits=z at*
 have e1:=bD x.s.base z;have e2:=bD 4294967296 z;rw[hm]at e1;rw[h3]at e2;have:x.s.base/z<4294967296/z:=by
  by_cases hlt:x.s.base/z<4294967296/z
  ·exact hlt
  ·have:z*(4294967296/z)≤z*(x.s.base/z):=cf (by omega) (by omega)
   omega
 have h5:z*(x.s.base/z+1)≤z*(4294967296/z):=cf (by omega) (by omega)
 rw[Int.mul_add,Int.mul_one]at h5;omega
theorem Jt{c:dq}{n:Int}{k:List UInt8}{a:Int}(h:AI c n k a=true): ∃x,gr c a=some x∧(x.net:Int)=n∧0<a:=by
 have key: ∀x∈cJ c,(x.net:Int)=n→g_ x.s a=true→ ∃x,gr c a=some x∧(x.net:Int)=n∧0<a:=fun x hx hn hi=>by
  have h1:=EC hx hi;have h2:=(iK.1 (mb.1 h1).1).2.1.1;have h3:=of_decide_eq_true hi;exact⟨x,JS hx h1,hn,by omega⟩
 have hpl: ∀x∈cJ c,ka c.server x.s=true:=by
  intro x hx;have hk:=(jj hx).1;have hr:cJ c=cF c:=if_pos hk;rw[hr]at hx;exact List.all_eq_true.1 (iw hk).2.1 x hx
 simp only[AI,Bool.or_eq_true,decide_eq_true_eq,Bool.and_eq_true]at h;rcases h with h|⟨h,_⟩
 ·unfold iN at h;simp only[Option.map_eq_some_iff]at h;obtain⟨r,hr,rfl⟩:=h;have hm:=List.mem_of_find?_eq_some hr;rw[List.mem_flatMap]at hm;obtain⟨x,hx,hrx⟩:=hm;unfold B2 at hrx
  split at hrx
  ·rename_i hn;have h1:=hpl x hx;simp only[ka,Bool.and_eq_true,List.all_eq_true]at h1;have h2:=h1.1.2 r hrx;simp only[rI,Bool.and_eq_true]at h2;exact key x hx (of_decide_eq_true hn) h2.1
  ·cases hrx
 ·unfold qQ at h;rw[List.any_eq_true]at h;obtain⟨p,hp,hin⟩:=h;rw[List.mem_flatMap]at hp;obtain⟨x,hx,hpx⟩:=hp;unfold uZ at hpx
  split at hpx
  ·rename_i hn;have h1:=hpl x hx;simp only[ka,Bool.and_eq_true,List.all_eq_true]at h1;have h2:=h1.1.1 p hpx;simp only[pK,Bool.and_eq_true]at h2;have h3:=of_decide_eq_true h2.1.1;have h4:=of_decide_eq_true h2.1.2;have h5:=of_decide_eq_true hin;exact key x hx (of_decide_eq_true hn) (decide_eq_true (by omega))
  ·cases hpx
theorem A4{c:dq}{t:List cC}{n:Int}{k:List UInt8}{now a:Int}(h:jD c t n k now a=true): ∃x,gr c a=some x∧(x.net:Int)=n∧0<a:=by
 simp only[jD,Bool.and_eq_true]at h;exact Jt h.1.1.2
theorem yb{c:dq}{t:List cC}{n:Int}{k:List UInt8}{want now a:Int}(h:lk c t n k want now=some a):jD c t n k now a=true:=by
 unfold lk at h
 split at h
 ·cases h
 ·unfold tA at h
  split at h
  ·exact List.find?_some h
  ·rw[Option.or_eq_some_iff]at h;rcases h with h|⟨_,h⟩
   ·exact List.find?_some h
   ·exact List.find?_some h
theorem JT{c:Int}{d:List UInt8}(h:d.length≤600):(pM c d).length≤d.length+6:=by
 by_cases h1:255<d.length
 ·rw[qD h1];by_cases h2:255<(d.drop 255).length
  ·rw[qD h2];have h3: ¬255<((d.drop 255).drop 255).length:=by simp only[List.length_drop];omega
   rw[la h3];simp only[List.length_cons,List.length_append,List.length_take,List.length_drop]at h2⊢;omega
  ·rw[la h2];simp only[List.length_cons,List.length_append,List.length_take,List.length_drop]at h2⊢;omega
 ·rw[la h1];simp only[List.length_cons];omega
def BT(l:List cN):Nat:=(l.map fun o=>o.data.length+6).sum
theorem ux: ∀ {l:List cN},(∀o∈l,o.data.length≤600)→(l.flatMap ru).length≤BT l
 | [],_=>by simp[BT]
 |o::l,h=>by
  have h1:=ux fun x hx=>h x (al _ hx)
  have h2:=JT (c:=o.code) (h o List.mem_cons_self);simp only[BT,List.flatMap_cons,List.length_append,List.map_cons,List.sum_cons,ru]at h1⊢;omega
theorem FH(l k:List cN):BT (l++k)=BT l+BT k:=by simp[BT]
theorem HL{c:dq}{s:Sub}{m:ee}{kind yi:Int}(hm:db m=true):
 ((lS c s m kind yi++fO m 61++fO m 82).map cN.code).Sublist [53,54,51,1,3,61,82]∧(∀o∈lS c s m kind yi++fO m 61++fO m 82,o.data.length≤600)∧BT (lS c s m kind yi++fO m 61++fO m 82)≤1259:=by
 have e1: ∀c:Int,((fO m c).map cN.code).Sublist [c]∧(∀o∈fO m c,o.data.length≤600)∧BT (fO m c)≤606:=by
  intro c;have hd:= @xS m hm c;refine⟨?_,hd,?_⟩
  ·unfold fO
   split<;>simp
  ·unfold fO at hd⊢;split
   ·rename_i b hb;rw[hb]at hd;have:=hd _ (List.mem_singleton.2 rfl);simp only[BT,List.map_cons,List.map_nil,List.sum_cons,List.sum_nil]at this⊢;omega
   ·simp[BT]
 have e2:((lS c s m kind yi).map cN.code).Sublist [53,54,51,1,3]∧(∀o∈lS c s m kind yi,o.data.length≤600)∧BT (lS c s m kind yi)≤47:=by
  unfold lS wS yB AT yC;by_cases hk:kind=6<;>by_cases hy:yi=0<;>by_cases ha:uK m 1=true<;>by_cases hr:s.router=0<;>by_cases hb:uK m 3=true<;>simp[hk,hy,ha,hr,hb,BT]
 obtain⟨a1,a2,a3⟩:=e1 61;obtain⟨b1,b2,b3⟩:=e1 82;obtain⟨c1,c2,c3⟩:=e2;refine⟨?_,?_,?_⟩
 ·rw[List.map_append,List.map_append]
  exact(c1.append a1).append b1
 ·intro o ho;rw[List.mem_append,List.mem_append]at ho;rcases ho with(ho|ho)|ho
  ·exact c2 o ho
  ·exact a2 o ho
  ·exact b2 o ho
 ·rw[FH,FH];omega
theorem rR{c:dq}{net sub:Int}{m:ee}{kind yi:Int}{s:Sub}(hf:i_ c net sub m kind yi=true)(hs:ou c net sub=some s):
 db (eI c s m kind yi)=true∧(tc (eI c s m kind yi)).length≤1500:=by
 obtain⟨hck,n,k,hn,hk,rfl,rfl,hs2,hr,hyi,hkd⟩:=vi hf;have hN:=ki hr;obtain⟨o1,o2,o3⟩:=HL (c:=c) (s:=s) (kind:=kind) (yi:=yi) hr;have hyi':=dI.1 hyi;have hfl:0≤th m kind∧th m kind≤65535:=by
  have:=hN.flags;unfold th
  split<;>omega
 have hci:dD (if kind=5 then m.ci else 0)=true:=by
  have:=hN.ci
  split<;>exact dI.2 (by omega)
 have hy2:dD (if kind=6 then 0 else yi)=true:=by
  split<;>exact dI.2 (by omega)
 have hcodes: ∀o∈lS c s m kind yi++fO m 61++fO m 82,o.code∈([53,54,51,1,3,61,82]:List Int):=fun o ho=>o1.subset (List.mem_map_of_mem ho)
 have hro:cI (eI c s m kind yi).opts=true:=by
  simp only[cI,eI,Bool.and_eq_true,decide_eq_true_eq,List.all_eq_true,vA];refine⟨⟨decide_eq_true ?_,fun o ho=>⟨?_,o2 o ho⟩⟩,decide_eq_true (o1.nodup (by decide))⟩
  ·have:=o1.length_le;rw[List.length_map]at this;simp only[List.length_cons,List.length_nil]at this;omega
  ·have:=hcodes o ho;simp only[List.mem_cons,bW,or_false]at this;rcases this with h|h|h|h|h|h|h<;>rw[h]<;>decide
 have h52:(cY (eI c s m kind yi).opts 52).isNone=true:=by
  rw[CK];have:gS (eI c s m kind yi).opts 52=0:=by
   have:((eI c s m kind yi).opts.countP fun o=>decide (o.code=52))=0:=by
    rw[bJ];intro o ho;have:=hcodes o ho;simp only[List.mem_cons,bW,or_false]at this;simp only[decide_eq_true_eq];omega
   unfold gS;omega
  simp[this]
 have hxi:=dI.2 hN.xid;have hgi:=dI.2 hN.gi;have hz:dD 0=true:=by decide
 constructor
 ·unfold db;rw[hro,h52];simp only[Bool.and_eq_true];exact⟨⟨⟨⟨⟨⟨⟨⟨⟨⟨⟨⟨⟨rfl,decide_eq_true hN.ht⟩,decide_eq_true hN.hl⟩,rfl⟩,hxi⟩,rfl⟩,decide_eq_true hfl⟩,hci⟩,hy2⟩,hz⟩,hgi⟩,decide_eq_true hN.ch⟩,trivial⟩,trivial⟩
 ·have h1:=ux o2;have hch:=hN.ch;unfold tc eD;simp only[eI,List.flatMap_cons,List.flatMap_nil,List.length_append,nq,List.length_cons,List.length_nil,List.length_replicate]at h1⊢;omega
theorem Ef{c:dq}{s:Sub}{m:ee}{kind yi:Int}(h:db (eI c s m kind yi)=true):ez (eI c s m kind yi):=by
 have hN:=ki h;have:=pz hN.ro;exact⟨by have:=hN.ch;omega,by omega,fun o ho=>by have:=this.2 o ho;omega⟩
theorem oG:ez iG:=⟨by simp[iG],by simp[iG,sized]⟩
structure Fp(u:eR):Prop where
 hc:dW u.c
 ht:S_ u.t
 hm:ez u.m
 chk:dH u.c=0
 tab:dk u.t=true
 rm:db u.m=true
 sp:ou u.c u.net u.sub=some u.s
 kl:u.k.length≤1000000
 now:0≤u.now∧u.now≤1125899906842624
theorem Fp.fair{u:eR}(h:Fp u){kind a:Int}(hk:kindOk kind=true)(ha:dD a=true){net sub:Int}{s:Sub}(hs:ou u.c net sub=some s):i_ u.c net sub u.m kind a=true:=by
 unfold i_;rw[h.chk,hs,h.rm,hk,ha];rfl
theorem KA(m:ee)(hm:ez m):(oK m).1.length≤100001:=by
 unfold oK;have hdl:((cY m.opts 61).getD []).length≤100000:=by
  cases h:cY m.opts 61 with
  |none=>simp
  |some d=>exact gF hm.2 h
 generalize(cY m.opts 61).getD []=d at*
 split
 ·simp
 ·split
  ·simp
  ·split
   ·simp;omega
   ·split
    ·simp
    ·rename_i h1 _ _ _;have hN:=ki (by simpa using h1)
     have:=hN.ch;simp only[List.length_cons,List.length_take];omega
end Go.Proofs.YtoilfihojgeonaaGreatDoor
