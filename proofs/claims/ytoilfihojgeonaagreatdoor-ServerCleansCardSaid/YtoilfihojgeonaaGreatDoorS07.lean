/- The options of a message's bytes, as the document says. -/
import Derived.Test.YtoilfihojgeonaaGreatDoorS06
import Derived.WalkKit
import Derived.LaidEql
import Derived.RowKitTokens
import Derived.Test.YtoilfihojgeonaaGreatDoorS05
namespace Go.Proofs.YtoilfihojgeonaaGreatDoor
open BoEng Go
set_option maxRecDepth 100000
set_option linter.unusedSimpArgs false
set_option linter.unusedVariables false
def WK(l:List cN)(c:Int)(i:Nat)(S:PS):Prop:=
 i≤l.length∧S.t 0= .d (.slice (l.map cN.d))∧S.t 1= .d (.int .i64 c)∧S.t 6= .d (.int .i64 i)∧S.t 5= .d (.slice ((dv (l.take i) c).map cN.d))∧S.own (.t 5 0)=true
theorem AG(l:List cN)(c:Int)(hl:sized l):cD Tryz.prog 129 [.d (.slice (l.map cN.d)),.d (.int .i64 c)] (.d (.slice ((dv l c).map cN.d))) (fun _=>false):=by
 refine cD.bi Tryz.func129 [20] ?_;have hs:=hl.1
 simp-implicitDefEqProofs (disch:=try exact dd) [cB]
 refine lp (WK l c) (fun i=>l.length-i) 0 (by refine⟨by omega,?_,?_,?_,?_,?_⟩<;>simp-implicitDefEqProofs (disch:=try exact dd) [cB,dv]) ?_
 rintro i S ⟨hi,e0,e1,e6,e5,o5⟩;by_cases hlt:i<l.length
 ·have k6:(i:Int)<l.length:=by omega
  have hn:nth l (i:Int)=l[i]:=dB hlt;have hwl:(dv (l.take i) c).length≤100000:=by
   have:=List.length_filter_le (fun o:cN=>decide (o.code≠c)) (l.take i)
   simp only[List.length_take]at this;unfold dv;omega
  by_cases hc:l[i].code=c
  ·have ht:dv (l.take (i+1)) c=dv (l.take i) c:=by
    unfold dv;rw[List.take_succ_eq_append_getElem hlt,List.filter_append];simp[hc]
   simp-implicitDefEqProofs (disch:=try exact dd) [cB,e0,e1,e6,e5,o5,k6,hn,hc]
   exact cE (i+1) (by refine⟨by omega,?_,?_,?_,by rw[ht];simp-implicitDefEqProofs (disch:=try exact dd) [cB,e5],?_⟩<;>simp-implicitDefEqProofs (disch:=try exact dd) [cB,e0,e1,o5]) (by omega)
  ·have ht:dv (l.take (i+1)) c=dv (l.take i) c++ [l[i]]:=by
    unfold dv;rw[List.take_succ_eq_append_getElem hlt,List.filter_append];simp[hc]
   simp-implicitDefEqProofs (disch:=try exact dd) [cB,e0,e1,e6,e5,o5,k6,hn,hc]
   exact cE (i+1) (by refine⟨by omega,?_,?_,?_,by rw[ht];simp-implicitDefEqProofs (disch:=try exact dd) [cB,e5],?_⟩<;>simp-implicitDefEqProofs (disch:=try exact dd) [cB,e0,e1,o5]) (by omega)
 ·have k6: ¬(i:Int)<l.length:=by omega
  have ht:l.take i=l:=List.take_of_length_le (by omega)
  rw[ht]at e5
  simp-implicitDefEqProofs (disch:=try exact dd) [cB,e0,e1,e6,e5,o5,k6]
theorem pI(l:List cN)(a:List UInt8)(hl:cI l=true)(ha:a.length≤100000):cD Tryz.prog 130 [.d (.slice (l.map cN.d)),.d (.slice (a.map cM))] (.tup [.d (.slice ((fi l a).2.map cN.d)),.d (.int .i64 (fi l a).1)]) (fun _=>false):=by
 have q1:=y' a ha;have hz:=qA a;have hz0:sized l:=by
  obtain⟨h1,h2⟩:=fX hl;exact⟨by omega,fun o ho=>by have:=h2 o ho;omega⟩
 unfold fi;generalize sK a=p at*
 obtain⟨e,m⟩:=p;dsimp only at q1 hz⊢;have q2:=sH m 52 hz;have hh:=CK m 52;by_cases h0:e=0
 ·subst h0;rw[if_neg (by decide)]
  cases hf:cY m 52 with
  |some d=>
   rw[hf]at hh;have h52: ¬gS m 52=0:=by
    intro h;rw[h]at hh;simp at hh
   have hp:=(Gn m 52).1;have h53:0<gS m 52:=by omega
   rw[Option.isSome_some,if_pos rfl];refine cD.bi Tryz.func130 [] ?_
   simp-implicitDefEqProofs (disch:=try exact dd) [cB]
   refine oc q1 ?_
   simp-implicitDefEqProofs (disch:=try exact dd) [cB]
   refine oc q2 ?_
   simp-implicitDefEqProofs (disch:=try exact dd) [cB,h53]
  |none=>
   rw[hf]at hh;have h52:gS m 52=0:=by simpa using hh.symm
   rw[h52]at q2;rw[bj,if_neg (by decide)]
   have q3:=Hk l m hz0 hz;refine cD.bi Tryz.func130 [] ?_
   simp-implicitDefEqProofs (disch:=try exact dd) [cB]
   refine oc q1 ?_
   simp-implicitDefEqProofs (disch:=try exact dd) [cB]
   refine oc q2 ?_
   simp-implicitDefEqProofs (disch:=try exact dd) [cB]
   refine oc q3 ?_
   simp-implicitDefEqProofs (disch:=try exact dd) [cB]
 ·rw[if_pos h0];refine cD.bi Tryz.func130 [] ?_
  simp-implicitDefEqProofs (disch:=try exact dd) [cB]
  refine oc q1 ?_
  simp-implicitDefEqProofs (disch:=try exact dd) [cB,h0]
theorem An{l:List cN}(h:cY l 52=none):ji l=(0,l,0):=by unfold ji;rw[h]
theorem FF{l:List cN}(h:cY l 52=some []):ji l=(2,[],0):=by unfold ji;rw[h]
theorem FE{l:List cN}{x y:UInt8}{r:List UInt8}(h:cY l 52=some (x::y::r)):ji l=(2,[],0):=by unfold ji;rw[h]
theorem Ao{l:List cN}{x:UInt8}(h:cY l 52=some [x]):ji l=if 1≤x.toNat∧x.toNat≤3 then(0,dv l 52,(x.toNat:Int))else(2,[],0):=by unfold ji;rw[h]
theorem AH(b:List UInt8)(h240:240≤b.length)(hb:b.length≤100000):cD Tryz.prog 69 [.d (.slice (b.map cM))] (.tup [.d (.slice ((gE b).2.map cN.d)),.d (.int .i64 (gE b).1)]) (fun _=>false):=by
 have q1:=y' (b.drop 240) (by simp;omega)
 have he:=oz (b.drop 240);have hz:=qA (b.drop 240);have hf1:((b.take 236).drop 108).length≤100000:=by simp only[List.length_drop,List.length_take];omega
 have hf2:((b.take 108).drop 44).length≤100000:=by simp only[List.length_drop,List.length_take];omega
 have hlen:(240:Int)≤b.length:=by omega
 unfold gE;generalize sK (b.drop 240)=p at*
 obtain⟨e,l⟩:=p;dsimp only at q1 he hz⊢;by_cases h0:e=0
 ·subst h0;have hl:cI l=true:=by
   rcases he with h|h
   ·exact h.2
   ·rcases h.1 with h|h<;>exact absurd h (by decide)
  rw[if_neg (by decide)]
  have q2:=tZ l 52 hz;have q3:=AG l 52 hz
  cases hf:cY l 52 with
  |none=>
   rw[hf]at q2;rw[An hf];dsimp only;rw[if_neg (by decide),AS]
   refine cD.bi Tryz.func69 [] ?_
   simp-implicitDefEqProofs (disch:=try exact dd) [cB, -List.map_take, -List.map_drop]
   refine oc q1 ?_
   simp-implicitDefEqProofs (disch:=try exact dd) [cB, -List.map_take, -List.map_drop]
   refine oc q2 ?_
   simp-implicitDefEqProofs (disch:=try exact dd) [cB, -List.map_take, -List.map_drop]
  |some d=>
   rw[hf]at q2
   match d,q2,hf with
   | [],q2,hf=>
     rw[FF hf];dsimp only;rw[if_pos (by decide)]
     refine cD.bi Tryz.func69 [] ?_
     simp-implicitDefEqProofs (disch:=try exact dd) [cB, -List.map_take, -List.map_drop]
     refine oc q1 ?_
     simp-implicitDefEqProofs (disch:=try exact dd) [cB, -List.map_take, -List.map_drop]
     refine oc q2 ?_
     simp-implicitDefEqProofs (disch:=try exact dd) [cB, -List.map_take, -List.map_drop]
   |x::y::r,q2,hf=>
    rw[FE hf];dsimp only;rw[if_pos (by decide)]
    have k1: ¬(r.length:Int)+1+1=1:=by omega
    refine cD.bi Tryz.func69 [] ?_
    simp-implicitDefEqProofs (disch:=try exact dd) [cB, -List.map_take, -List.map_drop]
    refine oc q1 ?_
    simp-implicitDefEqProofs (disch:=try exact dd) [cB, -List.map_take, -List.map_drop]
    refine oc q2 ?_
    simp-implicitDefEqProofs (disch:=try exact dd) [cB, -List.map_take, -List.map_drop,k1]
   | [x],q2,hf=>
     have hx:=x.toNat_lt;have hwr:=mN (c:=52) hl;rw[Ao hf];by_cases h13:1≤x.toNat∧x.toNat≤3
     ·rw[if_pos h13];dsimp only;rw[if_neg (by decide)]
      have k0: ¬(x.toNat:Int)=0:=by omega
      have k3: ¬3<(x.toNat:Int):=by omega
      generalize dv l 52=m at*
      have q4:=pI m _ hwr hf1;have q5:=pI m _ hwr hf2;have h123:x.toNat=1∨x.toNat=2∨x.toNat=3:=by omega
      rcases h123 with h|h|h
      ·have hx1:((x.toNat:Nat):Int)=1:=by omega
       rw[hx1]
       show cD _ _ _ (.tup [.d (.slice ((kV m 1 b).2.map cN.d)),.d (.int .i64 (kV m 1 b).1)]) _
       rw[D2];have hm2:=nA hwr ((b.take 236).drop 108);generalize fi m ((b.take 236).drop 108)=p at*
       obtain⟨e2,l2⟩:=p;dsimp only at q4 hm2⊢;have hi:(x.toNat:Int)=1:=by omega
       by_cases h9:e2=0
       ·subst h9;refine cD.bi Tryz.func69 [] ?_
        simp-implicitDefEqProofs (disch:=try exact dd) [cB, -List.map_take, -List.map_drop]
        refine oc q1 ?_
        simp-implicitDefEqProofs (disch:=try exact dd) [cB, -List.map_take, -List.map_drop]
        refine oc q2 ?_
        simp-implicitDefEqProofs (disch:=try exact dd) [cB, -List.map_take, -List.map_drop,hi]
        refine oc q3 ?_
        simp-implicitDefEqProofs (disch:=try exact dd) [cB, -List.map_take, -List.map_drop,hi]
        refine oc q4 ?_
        simp-implicitDefEqProofs (disch:=try exact dd) [cB, -List.map_take, -List.map_drop,hi]
       ·have hl2:l2= []:=by
         rcases hm2 with h|h
         ·exact absurd h.1 h9
         ·exact h.2
        subst hl2;refine cD.bi Tryz.func69 [] ?_
        simp-implicitDefEqProofs (disch:=try exact dd) [cB, -List.map_take, -List.map_drop]
        refine oc q1 ?_
        simp-implicitDefEqProofs (disch:=try exact dd) [cB, -List.map_take, -List.map_drop]
        refine oc q2 ?_
        simp-implicitDefEqProofs (disch:=try exact dd) [cB, -List.map_take, -List.map_drop,hi]
        refine oc q3 ?_
        simp-implicitDefEqProofs (disch:=try exact dd) [cB, -List.map_take, -List.map_drop,hi]
        refine oc q4 ?_
        simp-implicitDefEqProofs (disch:=try exact dd) [cB, -List.map_take, -List.map_drop,hi,h9]
      ·have hx2:((x.toNat:Nat):Int)=2:=by omega
       rw[hx2]
       show cD _ _ _ (.tup [.d (.slice ((kV m 2 b).2.map cN.d)),.d (.int .i64 (kV m 2 b).1)]) _
       rw[D1];have hi:(x.toNat:Int)=2:=by omega
       refine cD.bi Tryz.func69 [] ?_
       simp-implicitDefEqProofs (disch:=try exact dd) [cB, -List.map_take, -List.map_drop]
       refine oc q1 ?_
       simp-implicitDefEqProofs (disch:=try exact dd) [cB, -List.map_take, -List.map_drop]
       refine oc q2 ?_
       simp-implicitDefEqProofs (disch:=try exact dd) [cB, -List.map_take, -List.map_drop,hi]
       refine oc q3 ?_
       simp-implicitDefEqProofs (disch:=try exact dd) [cB, -List.map_take, -List.map_drop,hi]
       refine oc q5 ?_
       simp-implicitDefEqProofs (disch:=try exact dd) [cB, -List.map_take, -List.map_drop,hi]
      ·have hx3:((x.toNat:Nat):Int)=3:=by omega
       rw[hx3]
       show cD _ _ _ (.tup [.d (.slice ((kV m 3 b).2.map cN.d)),.d (.int .i64 (kV m 3 b).1)]) _
       rw[AR];have hm2:=nA hwr ((b.take 236).drop 108);generalize fi m ((b.take 236).drop 108)=p at*
       obtain⟨e2,l2⟩:=p;dsimp only at q4 hm2⊢;have hi:(x.toNat:Int)=3:=by omega
       by_cases h9:e2=0
       ·subst h9;have hm3:cI l2=true:=by
         rcases hm2 with h|h
         ·exact h.2
         ·rcases h.1 with h|h<;>exact absurd h (by decide)
        have q6:=pI l2 _ hm3 hf2;rw[if_neg (by decide)]
        refine cD.bi Tryz.func69 [] ?_
        simp-implicitDefEqProofs (disch:=try exact dd) [cB, -List.map_take, -List.map_drop]
        refine oc q1 ?_
        simp-implicitDefEqProofs (disch:=try exact dd) [cB, -List.map_take, -List.map_drop]
        refine oc q2 ?_
        simp-implicitDefEqProofs (disch:=try exact dd) [cB, -List.map_take, -List.map_drop,hi]
        refine oc q3 ?_
        simp-implicitDefEqProofs (disch:=try exact dd) [cB, -List.map_take, -List.map_drop,hi]
        refine oc q4 ?_
        simp-implicitDefEqProofs (disch:=try exact dd) [cB, -List.map_take, -List.map_drop,hi]
        refine oc q6 ?_
        simp-implicitDefEqProofs (disch:=try exact dd) [cB, -List.map_take, -List.map_drop,hi]
       ·have hl2:l2= []:=by
         rcases hm2 with h|h
         ·exact absurd h.1 h9
         ·exact h.2
        subst hl2;rw[if_pos h9];refine cD.bi Tryz.func69 [] ?_
        simp-implicitDefEqProofs (disch:=try exact dd) [cB, -List.map_take, -List.map_drop]
        refine oc q1 ?_
        simp-implicitDefEqProofs (disch:=try exact dd) [cB, -List.map_take, -List.map_drop]
        refine oc q2 ?_
        simp-implicitDefEqProofs (disch:=try exact dd) [cB, -List.map_take, -List.map_drop,hi]
        refine oc q3 ?_
        simp-implicitDefEqProofs (disch:=try exact dd) [cB, -List.map_take, -List.map_drop,hi]
        refine oc q4 ?_
        simp-implicitDefEqProofs (disch:=try exact dd) [cB, -List.map_take, -List.map_drop,hi,h9]
     ·rw[if_neg h13];dsimp only;rw[if_pos (by decide)]
      by_cases k1:(x.toNat:Int)=0
      ·skip
       refine cD.bi Tryz.func69 [] ?_
       simp-implicitDefEqProofs (disch:=try exact dd) [cB, -List.map_take, -List.map_drop]
       refine oc q1 ?_
       simp-implicitDefEqProofs (disch:=try exact dd) [cB, -List.map_take, -List.map_drop]
       refine oc q2 ?_
       simp-implicitDefEqProofs (disch:=try exact dd) [cB, -List.map_take, -List.map_drop,k1]
      ·have k2:3<(x.toNat:Int):=by omega
       refine cD.bi Tryz.func69 [] ?_
       simp-implicitDefEqProofs (disch:=try exact dd) [cB, -List.map_take, -List.map_drop]
       refine oc q1 ?_
       simp-implicitDefEqProofs (disch:=try exact dd) [cB, -List.map_take, -List.map_drop]
       refine oc q2 ?_
       simp-implicitDefEqProofs (disch:=try exact dd) [cB, -List.map_take, -List.map_drop,k1,k2]
 ·rw[if_pos h0];refine cD.bi Tryz.func69 [] ?_
  simp-implicitDefEqProofs (disch:=try exact dd) [cB, -List.map_take, -List.map_drop]
  refine oc q1 ?_
  simp-implicitDefEqProofs (disch:=try exact dd) [cB, -List.map_take, -List.map_drop,h0]
def h_(b:List UInt8)(a n:Nat):Int:=fC ((b.drop a).take n)
def Ui(b:List UInt8)(l:List cN):ee:=⟨h_ b 0 1,h_ b 1 1,h_ b 2 1,h_ b 3 1,h_ b 4 4,h_ b 8 2,h_ b 10 2,h_ b 12 4,h_ b 16 4,h_ b 20 4,h_ b 24 4,(b.take 44).drop 28,l⟩
def m0:ee:=⟨0,0,0,0,0,0,0,0,0,0,0,[],[]⟩
def jB(b:List UInt8):Int×ee:=
 if b.length<240 then(4,m0)else if 1500<b.length then(3,m0)else if h_ b 236 4≠1669485411∨16<h_ b 2 1 then(2,m0)else
 if(gE b).1≠0 then((gE b).1,m0)else(0,Ui b (gE b).2)
theorem MY(b:List UInt8)(h:240≤b.length)(a n:Nat)(h1:1≤n)(h7:n≤7)(h2:a+n≤240):lj b a n=h_ b a n:=by
 have:mc b a n=0:=by
  unfold mc;rw[if_neg (by omega),if_neg (by omega)]
 simp only[lj,this,if_true,Int.toNat_natCast,h_]
theorem kK(b:List UInt8)(hb:240≤b.length)(hb2:b.length≤1000000)(at_ n:Nat)(h1:1≤n)(h7:n≤7)(h2:at_+n≤240)(no g:Nat){fo:Nat}{gl:Nat→Nat}(hno:no<fo)(hg:0<g):
 de Tryz.prog fo gl 85 [.d (.int .i64 n),.cptr [.slice (b.map cM)],.ptr no g 0] [⟨no,g,[.d (.int .i64 at_)],fun _=>false⟩] (.d (.int .i64 (h_ b at_ n))) (fun _=>false) [⟨no,g,[.d (.int .i64 ((at_+n:Nat):Int))],fun _=>false⟩]:=by
 rw[←MY b hb at_ n h1 h7 h2];refine de.bi Tryz.func85 [] (by simp[cH,cS,hg]) (by simp[cH,cS,hg]) (by simp[hg]) ?_
 have hk1: ∀k,(no=fo+k)=False:=fun k=>by simp;omega
 have hk2: ∀k,(fo+k=no)=False:=fun k=>by simp;omega
 have q:=oS b at_ n (by omega)
 simp-implicitDefEqProofs (disch:=try exact dd) [cB,hk1,hk2]
 refine oc q ?_
 simp-implicitDefEqProofs (disch:=try exact dd) [cB,hk1,hk2]
set_option maxHeartbeats 4000000 in
theorem MA(hnum: ∀v n,mh v n→n≠0→cD Tryz.prog 88 [.d (.opq v)] (.d (.int .i64 n)) (fun _=>false))(b:List UInt8)(hl:b.length≤100000):cD Tryz.prog 50 [.d (.slice (b.map cM))] (.tup [.d (jB b).2.d,.d (.int .i64 (jB b).1)]) (fun _=>false):=by
 refine cD.bi Tryz.func50 [20001,40019,40022,40024,40028,40030,40034,40036,40040,40042,40046,40048,40060] ?_;unfold jB;by_cases h1:b.length<240
 ·rw[if_pos h1];have h1':(b.length:Int)<240:=by omega
  simp-implicitDefEqProofs (disch:=try exact dd) [cB, -List.map_take, -List.map_drop,h1',m0]
 have h1': ¬(b.length:Int)<240:=by omega
 rw[if_neg h1];by_cases h2:1500<b.length
 ·rw[if_pos h2];have h2':1500<(b.length:Int):=by omega
  simp-implicitDefEqProofs (disch:=try exact dd) [cB, -List.map_take, -List.map_drop,h1',h2',m0]
 have h2': ¬1500<(b.length:Int):=by omega
 rw[if_neg h2];have vF:(44:Int)≤b.length:=by omega
 have q0:=fun gl=> @kK b (by omega) (by omega) 0 1 (by omega) (by omega) (by omega) (FO+4) 1 (FO+1000) gl (by decide) (by omega)
 have q1:=fun gl=> @kK b (by omega) (by omega) 1 1 (by omega) (by omega) (by omega) (FO+4) 1 (FO+1000) gl (by decide) (by omega)
 have q2:=fun gl=> @kK b (by omega) (by omega) 2 1 (by omega) (by omega) (by omega) (FO+4) 1 (FO+1000) gl (by decide) (by omega)
 have q3:=fun gl=> @kK b (by omega) (by omega) 3 1 (by omega) (by omega) (by omega) (FO+4) 1 (FO+1000) gl (by decide) (by omega)
 have q4:=fun gl=> @kK b (by omega) (by omega) 4 4 (by omega) (by omega) (by omega) (FO+4) 1 (FO+1000) gl (by decide) (by omega)
 have q5:=fun gl=> @kK b (by omega) (by omega) 8 2 (by omega) (by omega) (by omega) (FO+4) 1 (FO+1000) gl (by decide) (by omega)
 have q6:=fun gl=> @kK b (by omega) (by omega) 10 2 (by omega) (by omega) (by omega) (FO+4) 1 (FO+1000) gl (by decide) (by omega)
 have q7:=fun gl=> @kK b (by omega) (by omega) 12 4 (by omega) (by omega) (by omega) (FO+4) 1 (FO+1000) gl (by decide) (by omega)
 have q8:=fun gl=> @kK b (by omega) (by omega) 16 4 (by omega) (by omega) (by omega) (FO+4) 1 (FO+1000) gl (by decide) (by omega)
 have q9:=fun gl=> @kK b (by omega) (by omega) 20 4 (by omega) (by omega) (by omega) (FO+4) 1 (FO+1000) gl (by decide) (by omega)
 have q10:=fun gl=> @kK b (by omega) (by omega) 24 4 (by omega) (by omega) (by omega) (FO+4) 1 (FO+1000) gl (by decide) (by omega)
 have q11:=fun gl=> @kK b (by omega) (by omega) 236 4 (by omega) (by omega) (by omega) (FO+4) 1 (FO+1000) gl (by decide) (by omega)
 obtain⟨v,hv,qo⟩:=Ed b (by omega) (by omega)
 unfold Ui
 generalize(gE b).2=os at*
 generalize(gE b).1=oe at*
 generalize h_ b 0 1=v0 at*
 generalize h_ b 1 1=v1 at*
 generalize h_ b 2 1=v2 at*
 generalize h_ b 3 1=v3 at*
 generalize h_ b 4 4=v4 at*
 generalize h_ b 8 2=v5 at*
 generalize h_ b 10 2=v6 at*
 generalize h_ b 12 4=v7 at*
 generalize h_ b 16 4=v8 at*
 generalize h_ b 20 4=v9 at*
 generalize h_ b 24 4=v10 at*
 generalize h_ b 236 4=v11 at*
 simp-implicitDefEqProofs (disch:=try exact dd) [cB, -List.map_take, -List.map_drop,h1',h2']
 refine dx (FO+1000) rfl rfl (q0 _) rfl (by simp-implicitDefEqProofs (disch:=try exact dd) [cB, -List.map_take, -List.map_drop]) ?_
 simp-implicitDefEqProofs (disch:=try exact dd) [cB, -List.map_take, -List.map_drop,vF]
 refine dx (FO+1000) rfl rfl (q1 _) rfl (by simp-implicitDefEqProofs (disch:=try exact dd) [cB, -List.map_take, -List.map_drop]) ?_
 simp-implicitDefEqProofs (disch:=try exact dd) [cB, -List.map_take, -List.map_drop,vF]
 refine dx (FO+1000) rfl rfl (q2 _) rfl (by simp-implicitDefEqProofs (disch:=try exact dd) [cB, -List.map_take, -List.map_drop]) ?_
 simp-implicitDefEqProofs (disch:=try exact dd) [cB, -List.map_take, -List.map_drop,vF]
 refine dx (FO+1000) rfl rfl (q3 _) rfl (by simp-implicitDefEqProofs (disch:=try exact dd) [cB, -List.map_take, -List.map_drop]) ?_
 simp-implicitDefEqProofs (disch:=try exact dd) [cB, -List.map_take, -List.map_drop,vF]
 refine dx (FO+1000) rfl rfl (q4 _) rfl (by simp-implicitDefEqProofs (disch:=try exact dd) [cB, -List.map_take, -List.map_drop]) ?_
 simp-implicitDefEqProofs (disch:=try exact dd) [cB, -List.map_take, -List.map_drop,vF]
 refine dx (FO+1000) rfl rfl (q5 _) rfl (by simp-implicitDefEqProofs (disch:=try exact dd) [cB, -List.map_take, -List.map_drop]) ?_
 simp-implicitDefEqProofs (disch:=try exact dd) [cB, -List.map_take, -List.map_drop,vF]
 refine dx (FO+1000) rfl rfl (q6 _) rfl (by simp-implicitDefEqProofs (disch:=try exact dd) [cB, -List.map_take, -List.map_drop]) ?_
 simp-implicitDefEqProofs (disch:=try exact dd) [cB, -List.map_take, -List.map_drop,vF]
 refine dx (FO+1000) rfl rfl (q7 _) rfl (by simp-implicitDefEqProofs (disch:=try exact dd) [cB, -List.map_take, -List.map_drop]) ?_
 simp-implicitDefEqProofs (disch:=try exact dd) [cB, -List.map_take, -List.map_drop,vF]
 refine dx (FO+1000) rfl rfl (q8 _) rfl (by simp-implicitDefEqProofs (disch:=try exact dd) [cB, -List.map_take, -List.map_drop]) ?_
 simp-implicitDefEqProofs (disch:=try exact dd) [cB, -List.map_take, -List.map_drop,vF]
 refine dx (FO+1000) rfl rfl (q9 _) rfl (by simp-implicitDefEqProofs (disch:=try exact dd) [cB, -List.map_take, -List.map_drop]) ?_
 simp-implicitDefEqProofs (disch:=try exact dd) [cB, -List.map_take, -List.map_drop,vF]
 refine dx (FO+1000) rfl rfl (q10 _) rfl (by simp-implicitDefEqProofs (disch:=try exact dd) [cB, -List.map_take, -List.map_drop]) ?_
 simp-implicitDefEqProofs (disch:=try exact dd) [cB, -List.map_take, -List.map_drop,vF]
 refine dx (FO+1000) rfl rfl (q11 _) rfl (by simp-implicitDefEqProofs (disch:=try exact dd) [cB, -List.map_take, -List.map_drop]) ?_
 simp-implicitDefEqProofs (disch:=try exact dd) [cB, -List.map_take, -List.map_drop,vF]
 by_cases h3:v11=1669485411
 ·by_cases h4:16<v2
  ·rw[if_pos (.inr h4)]
   simp-implicitDefEqProofs (disch:=try exact dd) [cB, -List.map_take, -List.map_drop,h3,h4,m0]
  ·rw[if_neg (by omega)]
   simp-implicitDefEqProofs (disch:=try exact dd) [cB, -List.map_take, -List.map_drop,h3,h4]
   refine oc qo ?_;by_cases h5:oe=0
   ·subst h5;have e1:=hv.z;subst e1;rw[if_pos rfl]
    simp-implicitDefEqProofs (disch:=try exact dd) [cB, -List.map_take, -List.map_drop]
   ·rw[if_neg h5];have q5:=hnum v oe hv h5;obtain⟨t,u,rfl⟩:=hv.nz h5
    simp-implicitDefEqProofs (disch:=try exact dd) [cB, -List.map_take, -List.map_drop]
    refine oc q5 ?_
    simp-implicitDefEqProofs (disch:=try exact dd) [cB, -List.map_take, -List.map_drop,m0]
 ·rw[if_pos (.inl h3)]
  simp-implicitDefEqProofs (disch:=try exact dd) [cB, -List.map_take, -List.map_drop,h3,m0]
theorem vN(b:List UInt8){i:Nat}(h:i<b.length):h_ b i 1=(b[i].toNat:Int):=by
 have e:(b.drop i).take 1= [b[i]]:=by rw[ai h];rfl
 unfold h_;rw[e];simp[fC]
theorem IV(b:List UInt8){i:Nat}(h:i+3<b.length):h_ b i 4=((((b[i]'(by omega)).toNat:Int)*256+(b[i+1]'(by omega)).toNat)*256+(b[i+2]'(by omega)).toNat)*256+(b[i+3]'(by omega)).toNat:=by
 have e:(b.drop i).take 4= [b[i]'(by omega),b[i+1]'(by omega),b[i+2]'(by omega),b[i+3]]:=by
  rw[ai (by omega),ai (by omega),ai (by omega),ai h];rfl
 unfold h_;rw[e];simp[fC]
theorem og(b:List UInt8)(i n m:Nat)(h:m=i+n):h_ b i n=fC ((b.take m).drop i):=by
 unfold h_;rw[List.drop_take,h,Nat.add_sub_cancel_left]
set_option maxHeartbeats 4000000 in
theorem y9(b:List UInt8)(hl:b.length≤100000):cD Tryz.prog 27 [.d (.slice (b.map cM))] (.tup [.d (jB b).2.d,.d (.int .i64 (jB b).1)]) (fun _=>false):=by
 refine cD.bi Tryz.func27 [50054,50055,50058,50059,50062,50063,50066,50067] ?_;unfold jB;by_cases h1:b.length<240
 ·rw[if_pos h1];have h1':(b.length:Int)<240:=by omega
  simp-implicitDefEqProofs (disch:=try exact dd) [cB, -List.map_take, -List.map_drop,h1',m0]
 have h1': ¬(b.length:Int)<240:=by omega
 rw[if_neg h1];by_cases h2:1500<b.length
 ·rw[if_pos h2];have h2':1500<(b.length:Int):=by omega
  simp-implicitDefEqProofs (disch:=try exact dd) [cB, -List.map_take, -List.map_drop,h1',h2',m0]
 have h2': ¬1500<(b.length:Int):=by omega
 rw[if_neg h2];have h240:(240:Int)≤b.length:=by omega
 have hv4:=IV b (i:=236) (by omega)
 have u0:=vN b (i:=0) (by omega)
 have u1:=vN b (i:=1) (by omega)
 have u2:=vN b (i:=2) (by omega)
 have u3:=vN b (i:=3) (by omega)
 have n0:nth b (0:Int)=b[0]'(by omega):=dB (l:=b) (i:=0) (by omega)
 have n1:nth b (1:Int)=b[1]'(by omega):=dB (l:=b) (i:=1) (by omega)
 have n2:nth b (2:Int)=b[2]'(by omega):=dB (l:=b) (i:=2) (by omega)
 have n3:nth b (3:Int)=b[3]'(by omega):=dB (l:=b) (i:=3) (by omega)
 have n236:nth b (236:Int)=b[236]'(by omega):=dB (l:=b) (i:=236) (by omega)
 have n237:nth b (237:Int)=b[237]'(by omega):=dB (l:=b) (i:=237) (by omega)
 have n238:nth b (238:Int)=b[238]'(by omega):=dB (l:=b) (i:=238) (by omega)
 have n239:nth b (239:Int)=b[239]'(by omega):=dB (l:=b) (i:=239) (by omega)
 have w236:=(b[236]'(by omega)).toNat_lt
 have w237:=(b[237]'(by omega)).toNat_lt
 have w238:=(b[238]'(by omega)).toNat_lt
 have w239:=(b[239]'(by omega)).toNat_lt
 have qo:=AH b (by omega) (by omega)
 have q0:=ig ((b.take 8).drop 4) (by simp only[List.length_drop,List.length_take];omega)
 rw[←og b 4 4 8 rfl]at q0;have q1:=ig ((b.take 10).drop 8) (by simp only[List.length_drop,List.length_take];omega)
 rw[←og b 8 2 10 rfl]at q1;have q2:=ig ((b.take 12).drop 10) (by simp only[List.length_drop,List.length_take];omega)
 rw[←og b 10 2 12 rfl]at q2;have q3:=ig ((b.take 16).drop 12) (by simp only[List.length_drop,List.length_take];omega)
 rw[←og b 12 4 16 rfl]at q3;have q4:=ig ((b.take 20).drop 16) (by simp only[List.length_drop,List.length_take];omega)
 rw[←og b 16 4 20 rfl]at q4;have q5:=ig ((b.take 24).drop 20) (by simp only[List.length_drop,List.length_take];omega)
 rw[←og b 20 4 24 rfl]at q5;have q6:=ig ((b.take 28).drop 24) (by simp only[List.length_drop,List.length_take];omega)
 rw[←og b 24 4 28 rfl]at q6;unfold Ui
 generalize(gE b).2=os at*
 generalize(gE b).1=oe at*
 generalize h_ b 4 4=v0 at*
 generalize h_ b 8 2=v1 at*
 generalize h_ b 10 2=v2 at*
 generalize h_ b 12 4=v3 at*
 generalize h_ b 16 4=v4 at*
 generalize h_ b 20 4=v5 at*
 generalize h_ b 24 4=v6 at*
 rw[u0,u1,u2,u3,hv4];clear hv4 u0 u1 u2 u3;generalize b[0]'(by omega)=b0 at*
 generalize b[1]'(by omega)=b1 at*
 generalize b[2]'(by omega)=b2 at*
 generalize b[3]'(by omega)=b3 at*
 generalize b[236]'(by omega)=b236 at*
 generalize b[237]'(by omega)=b237 at*
 generalize b[238]'(by omega)=b238 at*
 generalize b[239]'(by omega)=b239 at*
 by_cases hc:b236.toNat=99∧b237.toNat=130∧b238.toNat=83∧b239.toNat=99
 ·obtain⟨c1,c2,c3,c4⟩:=hc;by_cases h4:16<(b2.toNat:Int)
  ·rw[if_pos (.inr h4)]
   simp-implicitDefEqProofs (disch:=try exact dd) [cB, -List.map_take, -List.map_drop,h1',h2',n2,n236,n237,n238,n239,c1,c2,c3,c4,h4,m0]
  ·rw[if_neg (by rw[c1,c2,c3,c4];intro h;rcases h with h|h;exact h rfl;exact h4 h)]
   simp-implicitDefEqProofs (disch:=try exact dd) [cB, -List.map_take, -List.map_drop,h1',h2',n2,n236,n237,n238,n239,c1,c2,c3,c4,h4]
   refine oc qo ?_;by_cases h5:oe=0
   ·subst h5;rw[if_pos rfl]
    simp-implicitDefEqProofs (disch:=try exact dd) [cB, -List.map_take, -List.map_drop,n0,n1,n2,n3]
    refine oc q0 ?_
    simp-implicitDefEqProofs (disch:=try exact dd) [cB, -List.map_take, -List.map_drop]
    refine oc q1 ?_
    simp-implicitDefEqProofs (disch:=try exact dd) [cB, -List.map_take, -List.map_drop]
    refine oc q2 ?_
    simp-implicitDefEqProofs (disch:=try exact dd) [cB, -List.map_take, -List.map_drop]
    refine oc q3 ?_
    simp-implicitDefEqProofs (disch:=try exact dd) [cB, -List.map_take, -List.map_drop]
    refine oc q4 ?_
    simp-implicitDefEqProofs (disch:=try exact dd) [cB, -List.map_take, -List.map_drop]
    refine oc q5 ?_
    simp-implicitDefEqProofs (disch:=try exact dd) [cB, -List.map_take, -List.map_drop]
    refine oc q6 ?_
    simp-implicitDefEqProofs (disch:=try exact dd) [cB, -List.map_take, -List.map_drop]
   ·rw[if_neg h5]
    simp-implicitDefEqProofs (disch:=try exact dd) [cB, -List.map_take, -List.map_drop,h5,m0]
 ·rw[if_pos (.inl (by omega))]
  by_cases c1:b236.toNat=99
  ·by_cases c2:b237.toNat=130
   ·by_cases c3:b238.toNat=83
    ·have c4: ¬(b239.toNat:Int)=99:=fun h=>hc ⟨c1,c2,c3,by omega⟩
     simp-implicitDefEqProofs (disch:=try exact dd) [cB, -List.map_take, -List.map_drop,h1',h2',n2,n236,n237,n238,n239,c1,c2,c3,c4,m0]
    ·have c3': ¬(b238.toNat:Int)=83:=by omega
     simp-implicitDefEqProofs (disch:=try exact dd) [cB, -List.map_take, -List.map_drop,h1',h2',n2,n236,n237,n238,n239,c1,c2,c3',m0]
   ·have c2': ¬(b237.toNat:Int)=130:=by omega
    simp-implicitDefEqProofs (disch:=try exact dd) [cB, -List.map_take, -List.map_drop,h1',h2',n2,n236,n237,n238,n239,c1,c2',m0]
  ·have c1': ¬(b236.toNat:Int)=99:=by omega
   simp-implicitDefEqProofs (disch:=try exact dd) [cB, -List.map_take, -List.map_drop,h1',h2',n2,n236,n237,n238,n239,c1',m0]
open Go.RowKit Go.Extern.Stop Go.Stop Go.Extern
def A0(want:Array (String×TypeId))(i:TypeInfo):List String:=(want.toList.filter fun(name,sig)=> !i.methods.any fun m=>m.name==name&&m.sig==sig).map (·.1)
theorem sU{P:Program}{t a:TypeId}{z:Value}{want:Array (String×TypeId)}(hu:P.underlying a=some (.interface want))(h:(P.info? t).map (fun i=>(A0 want i).length)=some 1)(hz:(P.info? a).map (·.zero)=some (some z))
 (v:Value) (xT:TypeId) (w:World):(Instr.typeAssert (.iface t v) xT a true).run P w= .ok (.tuple #[z,.bool false]) w:=by
 obtain⟨i,hi,hl⟩:=Option.map_eq_some_iff.1 h;obtain⟨j,hj,hz2⟩:=Option.map_eq_some_iff.1 hz;obtain⟨s,hl⟩:=List.length_eq_one_iff.1 hl;have hm:(Instr.missingMethod want i.methods).isSome=true:=by
  unfold A0 at hl;simp only[Instr.missingMethod,hl,List.partition,List.partition.loop]
  split<;>rfl
 obtain⟨m,hm⟩:=Option.isSome_iff_exists.1 hm;simp[Instr.typeAssert,aj hu,typeInfo,hi,hm,zeroValue,hj,hz2]
theorem R0{P:Program}{t a:TypeId}{want:Array (String×TypeId)}(hu:P.underlying a=some (.interface want))(h:(P.info? t).map (A0 want)=some [])(v:Value)(xT:TypeId)(w:World):
 (Instr.typeAssert (.iface t v) xT a true).run P w= .ok (.tuple #[.iface t v,.bool true]) w:=by
 obtain⟨i,hi,hl⟩:=Option.map_eq_some_iff.1 h;have hm:Instr.missingMethod want i.methods=none:=by
  unfold A0 at hl;simp only[Instr.missingMethod,hl];rfl
 simp[Instr.typeAssert,aj hu,typeInfo,hi,hm]
theorem NN{P:Program}{ti:TypeId}{ms:Array (String×TypeId)}(tx ty:TypeId)(vx vy:Value)(hi:P.underlying ti=some (.interface ms))(hne:tx≠ty)(w:World):
 (binOp .eql ti (.iface tx vx) (.iface ty vy)).run P w= .ok (.bool false) w:=by
 have h: ∀d:Nat,(Op.equalIn (d+1) ti (.iface tx vx) (.iface ty vy)).run P w= .ok false w:=fun d=>by simp[Op.equalIn,aj hi,hne]
 simp[binOp,Op.equal,Op.maxDepth,h 9999]
theorem sV(v:Value)(w:World):(Extern.ReflectliteType.typeOf #[.iface 246 v]).run Tryz.prog w= .ok (.iface 385 (.agg #[.pointer (some ⟨2,246,none⟩)])) w:=by kernel_rfl
theorem oF(w:World):(callFunc 370 #[.agg #[.pointer (some ⟨2,246,none⟩)]]).run Tryz.prog w= .ok (.value (.bool true)) w:=by
 have h:= @aB Tryz.prog 370 _ (Extern.ReflectliteType.method fun t=>do Extern.Rtype.noPackHeld "Comparable" t;pure (.bool (←typeInfo t).comparable)) Tryz.func370 (by kernel_rfl) (by kernel_rfl) (by kernel_rfl) (by kernel_rfl)
 have h2:((Extern.ReflectliteType.method fun t=>do Extern.Rtype.noPackHeld "Comparable" t;pure (.bool (←typeInfo t).comparable)) #[.agg #[.pointer (some ⟨2,246,none⟩)]]).run Tryz.prog w= .ok (.bool true) w:=by kernel_rfl
 exact(h _ w).trans (by rw[h2];rfl)
theorem jg(v:Value)(w:World):(Go.method 558 385 v "Comparable").run Tryz.prog w= .ok (370,v) w:=by kernel_rfl
theorem Kl(v:Value)(xT:TypeId)(w:World):(Instr.typeAssert (.iface 246 v) xT 387 true).run Tryz.prog w= .ok (.tuple #[.nilIface,.bool false]) w:=sU Tryz.underlying387 (by kernel_rfl) (by kernel_rfl) v xT w
theorem Gd(v:Value)(xT:TypeId)(w:World):(Instr.typeAssert (.iface 328 v) xT 387 true).run Tryz.prog w= .ok (.tuple #[.nilIface,.bool false]) w:=sU Tryz.underlying387 (by kernel_rfl) (by kernel_rfl) v xT w
theorem w_(v:Value)(xT:TypeId)(w:World):(Instr.typeAssert (.iface 246 v) xT 390 true).run Tryz.prog w= .ok (.tuple #[.nilIface,.bool false]) w:=sU Tryz.underlying390 (by kernel_rfl) (by kernel_rfl) v xT w
theorem vb(v:Value)(xT:TypeId)(w:World):(Instr.typeAssert (.iface 246 v) xT 392 true).run Tryz.prog w= .ok (.tuple #[.nilIface,.bool false]) w:=sU Tryz.underlying392 (by kernel_rfl) (by kernel_rfl) v xT w
theorem pR(v:Value)(xT:TypeId)(w:World):(Instr.typeAssert (.iface 328 v) xT 390 true).run Tryz.prog w= .ok (.tuple #[.iface 328 v,.bool true]) w:=R0 Tryz.underlying390 (by kernel_rfl) v xT w
theorem lW(v:Value)(w:World):(Go.method 558 328 v "Unwrap").run Tryz.prog w= .ok (364,v) w:=by kernel_rfl
theorem Km(w:World):(binOp .eql 176 (.iface 246 (.agg #[.int .i64 2])) (.iface 246 (.agg #[.int .i64 2]))).run Tryz.prog w= .ok (.bool true) w:=by kernel_rfl
theorem O9(w:World):(binOp .eql 176 (.iface 246 (.agg #[.int .i64 3])) (.iface 246 (.agg #[.int .i64 2]))).run Tryz.prog w= .ok (.bool false) w:=by kernel_rfl
theorem HE(w:World):Calls Tryz.prog 149 #[.iface 246 (.agg #[.int .i64 2]),.iface 246 (.agg #[.int .i64 2])] w fun e w'=>e= .returned (.bool true)∧w'=w:=by
 have h8:= @aB Tryz.prog 234 _ Extern.ReflectliteType.typeOf Tryz.func234 (by kernel_rfl) (by kernel_rfl) (by kernel_rfl) (by kernel_rfl)
 have tT:=sV;have cT:=oF;have mR:=jg;have heq:=Km
 go_enter Tryz.func149,Tryz.ntmps149
 go_wp2
 refine cm 1 ?_;rw[bH]
 go_wp2
 go_ret
 exact⟨rfl,rfl⟩
theorem HG(wh:ByteArray)(w:World):Calls Tryz.prog 149 #[.iface 328 (.agg #[.string wh,.iface 246 (.agg #[.int .i64 2])]),.iface 246 (.agg #[.int .i64 2])] w fun e w'=>e= .returned (.bool true)∧w'=w.alloc (.cells #[.string wh,.iface 246 (.agg #[.int .i64 2])] 328):=by
 have h8:= @aB Tryz.prog 234 _ Extern.ReflectliteType.typeOf Tryz.func234 (by kernel_rfl) (by kernel_rfl) (by kernel_rfl) (by kernel_rfl)
 have tT:=sV;have cT:=oF;have mR:=jg;have nE:=Kl;have uE:=w_;have vE:=vb;have nW:=Gd;have uW:=pR;have mU:=lW;have heq:=Km;have hty:=NN (P:=Tryz.prog) 328 246 (.agg #[.string wh,.iface 246 (.agg #[.int .i64 2])]) (.agg #[.int .i64 2]) Tryz.underlying176 (by decide) w
 go_enter Tryz.func149,Tryz.ntmps149
 go_wp2
 refine cm 2 ?_;rw[bH]
 go_wp2
 rw[bH]
 go_wp2
 go_ret
 exact⟨rfl,rfl⟩
theorem HF(wh:ByteArray)(w:World):Calls Tryz.prog 149 #[.iface 328 (.agg #[.string wh,.iface 246 (.agg #[.int .i64 3])]),.iface 246 (.agg #[.int .i64 2])] w fun e w'=>e= .returned (.bool false)∧w'=w.alloc (.cells #[.string wh,.iface 246 (.agg #[.int .i64 3])] 328):=by
 have h8:= @aB Tryz.prog 234 _ Extern.ReflectliteType.typeOf Tryz.func234 (by kernel_rfl) (by kernel_rfl) (by kernel_rfl) (by kernel_rfl)
 have tT:=sV;have cT:=oF;have mR:=jg;have nE:=Kl;have uE:=w_;have vE:=vb;have nW:=Gd;have uW:=pR;have mU:=lW;have heq:=O9;have hty:=NN (P:=Tryz.prog) 328 246 (.agg #[.string wh,.iface 246 (.agg #[.int .i64 3])]) (.agg #[.int .i64 2]) Tryz.underlying176 (by decide) w
 go_enter Tryz.func149,Tryz.ntmps149
 go_wp2
 refine cm 2 ?_;rw[bH]
 go_wp2
 rw[bH]
 go_wp2
 go_ret
 exact⟨rfl,rfl⟩
theorem HA(t:Addr)(w:World):(ReflectliteValue.unpack (.iface 248 (.pointer (some t)))).run Tryz.prog w
 = .ok (.agg #[.pointer (some ⟨2,248,none⟩),.pointer (some ⟨w.heap.size,0,none⟩),.int .u64 150]) (w.alloc (.cells #[.pointer (some t)] 248)):=by kernel_rfl
theorem O6(a:Addr)(w:World):(ReflectliteValue.methodAny (ReflectliteValue.valueError "reflectlite.Value.Type" 0) (fun t _ _ _=>ReflectliteType.toType t) #[.agg #[.pointer (some ⟨2,248,none⟩),.pointer (some a),.int .u64 150]]).run Tryz.prog w
 = .ok (.iface 385 (.agg #[.pointer (some ⟨2,248,none⟩)])) w:=by kernel_rfl
theorem AX(h:Value)(w:World):(Go.method 558 385 (.agg #[h]) "Kind").run Tryz.prog w= .ok (359,h) w:=by kernel_rfl
theorem Mv(w:World):((ReflectliteType.abiMethod fun t=>(fun a:Nat=>Value.int IntKind.u8 (a:Int))<$>Rtype.kind t) #[.pointer (some ⟨2,248,none⟩)]).run Tryz.prog w= .ok (.int .u8 22) w:=by kernel_rfl
theorem Mw(w:World):((ReflectliteType.abiMethod fun t=>(fun a:Nat=>Value.int IntKind.u8 (a:Int))<$>Rtype.kind t) #[.pointer (some ⟨2,246,none⟩)]).run Tryz.prog w= .ok (.int .u8 25) w:=by kernel_rfl
theorem NM(z:Sem Value)(f:TypeId→Addr→Nat→Nat→Sem Value)(v:Value):
 ReflectliteValue.method z f #[v]=(do match←ReflectliteValue.parts v with|none=>z|some (t,a,fl)=>f t a fl (fl % 32)):=rfl
theorem Gc(a:Addr)(w:World):(ReflectliteValue.parts (.agg #[.pointer (some ⟨2,248,none⟩),.pointer (some a),.int .u64 150])).run Tryz.prog w= .ok (some (248,a,150)) w:=by kernel_rfl
theorem Mx(a p:Addr)(W:World)(ha:W.cell? a=some (.pointer (some p))):
 (ReflectliteValue.method (ReflectliteValue.valueError "reflectlite.Value.IsNil" 0) ReflectliteValue.isNil #[.agg #[.pointer (some ⟨2,248,none⟩),.pointer (some a),.int .u64 150]]).run Tryz.prog W= .ok (.bool false) W:=by
 rw[NM];simp only[Sem.run_bind,Gc,Result.andThen];simp[ReflectliteValue.isNil,loadVar,isAgg,underlying,Tryz.underlying248,ha,Result.andThen]
theorem AY(h:Value)(w:World):(Go.method 558 385 (.agg #[h]) "Elem").run Tryz.prog w= .ok (371,.agg #[h]) w:=by kernel_rfl
theorem rO(h:Value)(w:World):(Go.method 558 385 (.agg #[h]) "Implements").run Tryz.prog w= .ok (372,.agg #[h]) w:=by kernel_rfl
theorem pQ(h:Value)(w:World):(Go.method 558 385 (.agg #[h]) "AssignableTo").run Tryz.prog w= .ok (369,.agg #[h]) w:=by kernel_rfl
theorem O8(w:World):(ReflectliteType.method ReflectliteType.elem #[.agg #[.pointer (some ⟨2,248,none⟩)]]).run Tryz.prog w= .ok (.iface 385 (.agg #[.pointer (some ⟨2,246,none⟩)])) w:=by kernel_rfl
theorem AZ(w:World):(ReflectliteType.relation "Implements" ReflectliteType.implements_ #[.agg #[.pointer (some ⟨2,246,none⟩)],.iface 385 (.agg #[.pointer (some ⟨2,176,none⟩)])]).run Tryz.prog w= .ok (.bool true) w:=by kernel_rfl
theorem HB(v:Value)(w:World):(ReflectliteType.typeOf #[.iface 328 v]).run Tryz.prog w= .ok (.iface 385 (.agg #[.pointer (some ⟨2,328,none⟩)])) w:=by kernel_rfl
theorem HD(w:World):(ReflectliteType.relation "AssignableTo" ReflectliteType.assignableTo #[.agg #[.pointer (some ⟨2,246,none⟩)],.iface 385 (.agg #[.pointer (some ⟨2,246,none⟩)])]).run Tryz.prog w= .ok (.bool true) w:=by kernel_rfl
theorem HC(w:World):(ReflectliteType.relation "AssignableTo" ReflectliteType.assignableTo #[.agg #[.pointer (some ⟨2,328,none⟩)],.iface 385 (.agg #[.pointer (some ⟨2,246,none⟩)])]).run Tryz.prog w= .ok (.bool false) w:=by kernel_rfl
theorem Ec(n:Int)(w:World):(ReflectliteValue.unpack (.iface 246 (.agg #[.int .i64 n]))).run Tryz.prog w
 = .ok (.agg #[.pointer (some ⟨2,246,none⟩),.pointer (some ⟨w.heap.size,0,none⟩),.int .u64 153]) (w.alloc (.cells #[.int .i64 n] 246)):=by kernel_rfl
theorem Ki(w:World):(Rtype.elem? 248).run Tryz.prog w= .ok (some 246) w:=by kernel_rfl
theorem Xj(p:Addr)(w:World):(ReflectliteValue.mk 246 p ReflectliteValue.flagAddr).run Tryz.prog w= .ok (.agg #[.pointer (some ⟨2,246,none⟩),.pointer (some p),.int .u64 409]) w:=by kernel_rfl
theorem My(a p:Addr)(W:World)(ha:W.cell? a=some (.pointer (some p))):
 (ReflectliteValue.method (ReflectliteValue.valueError "reflectlite.Value.Elem" 0) ReflectliteValue.elem #[.agg #[.pointer (some ⟨2,248,none⟩),.pointer (some a),.int .u64 150]]).run Tryz.prog W
  = .ok (.agg #[.pointer (some ⟨2,246,none⟩),.pointer (some p),.int .u64 409]) W:=by
 rw[NM];simp only[Sem.run_bind,Gc,Result.andThen];simp[ReflectliteValue.elem,loadVar,isAgg,underlying,Tryz.underlying248,ha,Result.andThen,Ki,Xj]
theorem RZ(v x:Value):ReflectliteValue.set #[v,x]=(do
 let(some (dst,a,fl),some (src,b,_)):=(←ReflectliteValue.parts v,←ReflectliteValue.parts x)
  |unsupported (.noEntry "extern/(internal/reflectlite.Value).Set.zeroValue")
 if fl/ReflectliteValue.flagAddr % 2==0 then unsupported (.noEntry "extern/(internal/reflectlite.Value).Set.unaddressable")
 let val←loadVar src b
 if←Rtype.directlyAssignable dst src then storeVar dst a val
 else if←Rtype.implements dst src then
  if(←Rtype.kind src)==20 then
   match val with
   | .nilIface=>unsupported (.noEntry "extern/reflectlite: a nil value of one interface type handed on as a value of another")
   |_=>storeVar dst a val
  else storeVar dst a (.iface src val)
 else panicString ("reflectlite.Set: value of type " ++(←Rtype.spelt src)++ " is not assignable to type " ++(←Rtype.spelt dst))
 pure (.tuple #[])):=rfl
theorem Kh(a:Addr)(w:World):(ReflectliteValue.parts (.agg #[.pointer (some ⟨2,246,none⟩),.pointer (some a),.int .u64 409])).run Tryz.prog w= .ok (some (246,a,409)) w:=by kernel_rfl
theorem Kg(a:Addr)(w:World):(ReflectliteValue.parts (.agg #[.pointer (some ⟨2,246,none⟩),.pointer (some a),.int .u64 153])).run Tryz.prog w= .ok (some (246,a,153)) w:=by kernel_rfl
theorem Kj(w:World):(Rtype.directlyAssignable 246 246).run Tryz.prog w= .ok true w:=by kernel_rfl
theorem O7(w:World):(sizeOf 246).run Tryz.prog w= .ok 1 w:=by kernel_rfl
theorem RY(ta b:Addr)(n:Int)(fT:Value)(W:World)(hb:W.cell? b=some (.int .i64 n))(ht:W.cell? ta=some fT)(hf:W.frozen? ta=false):
 (ReflectliteValue.set #[.agg #[.pointer (some ⟨2,246,none⟩),.pointer (some ta),.int .u64 409],.agg #[.pointer (some ⟨2,246,none⟩),.pointer (some b),.int .u64 153]]).run Tryz.prog W
  = .ok (.tuple #[]) (W.setCell ta (.int .i64 n)):=by
 rw[RZ];simp only[Sem.run_bind,Kh,Kg,Result.andThen];simp[ReflectliteValue.flagAddr,loadVar,isAgg,underlying,Tryz.underlying246,hb,Result.andThen,Kj,storeVar,Value.cells,storeCells,Addr.add,O7,loadCells,loadCellsFrom];rw[run_store Tryz.prog W ta _ _ (by rfl)]
 simp[ht,hf]
def Lu(t:Addr)(w:World):World:=(w.alloc (.cells #[.pointer (some t)] 248)).alloc (.cells #[.pointer (some ⟨2,248,none⟩),.pointer (some ⟨w.heap.size,0,none⟩),.int .u64 150] 337)
set_option maxHeartbeats 4000000 in
theorem Kk(wh:ByteArray)(t:Addr)(fT:Value)(w:World)(hg:w.cell? ⟨1,0,none⟩=some (.iface 385 (.agg #[.pointer (some ⟨2,176,none⟩)])))(ht0:w.cell? t=some fT)(hf0:w.frozen? t=false):
 Calls Tryz.prog 150 #[.iface 328 (.agg #[.string wh,.iface 246 (.agg #[.int .i64 3])]),.iface 248 (.pointer (some t))] w fun ev w'=>ev= .returned (.bool true)∧w'=(((((w.alloc (.cells #[.pointer (some t)] 248)).alloc (.cells #[.pointer (some ⟨2,248,none⟩),.pointer (some ⟨w.heap.size,0,none⟩),.int .u64 150] 337)).alloc (.cells #[.pointer (some ⟨2,248,none⟩),.pointer (some ⟨w.heap.size,0,none⟩),.int .u64 150] 337)).alloc (.cells #[.string wh,.iface 246 (.agg #[.int .i64 3])] 328)).alloc (.cells #[.int .i64 3] 246)).setCell t (.int .i64 3):=by
 have h6:= @aB Tryz.prog 236 _ (fun args=>ReflectliteValue.unpack (args.getD 0 (.tuple #[]))) Tryz.func236 (by kernel_rfl) (by kernel_rfl) (by kernel_rfl) (by kernel_rfl)
 have h7:= @aB Tryz.prog 237 _ (ReflectliteValue.methodAny (ReflectliteValue.valueError "reflectlite.Value.Type" 0) (fun t _ _ _=>ReflectliteType.toType t)) Tryz.func237 (by kernel_rfl) (by kernel_rfl) (by kernel_rfl) (by kernel_rfl)
 have h8:= @aB Tryz.prog 238 _ (ReflectliteValue.method (ReflectliteValue.valueError "reflectlite.Value.IsNil" 0) ReflectliteValue.isNil) Tryz.func238 (by kernel_rfl) (by kernel_rfl) (by kernel_rfl) (by kernel_rfl)
 have h27:= @aB Tryz.prog 359 _ (ReflectliteType.abiMethod fun t=>do pure (.int .u8 (←Rtype.kind t))) Tryz.func359 (by kernel_rfl) (by kernel_rfl) (by kernel_rfl) (by kernel_rfl)
 have h37:= @aB Tryz.prog 371 _ (ReflectliteType.method ReflectliteType.elem) Tryz.func371 (by kernel_rfl) (by kernel_rfl) (by kernel_rfl) (by kernel_rfl)
 have h38:= @aB Tryz.prog 372 _ (ReflectliteType.relation "Implements" ReflectliteType.implements_) Tryz.func372 (by kernel_rfl) (by kernel_rfl) (by kernel_rfl) (by kernel_rfl)
 have h10:= @aB Tryz.prog 234 _ ReflectliteType.typeOf Tryz.func234 (by kernel_rfl) (by kernel_rfl) (by kernel_rfl) (by kernel_rfl)
 have h35:= @aB Tryz.prog 369 _ (ReflectliteType.relation "AssignableTo" ReflectliteType.assignableTo) Tryz.func369 (by kernel_rfl) (by kernel_rfl) (by kernel_rfl) (by kernel_rfl)
 have h11:= @aB Tryz.prog 292 _ (ReflectliteValue.method (ReflectliteValue.valueError "reflectlite.Value.Elem" 0) ReflectliteValue.elem) Tryz.func292 (by kernel_rfl) (by kernel_rfl) (by kernel_rfl) (by kernel_rfl)
 have h12:= @aB Tryz.prog 293 _ ReflectliteValue.set Tryz.func293 (by kernel_rfl) (by kernel_rfl) (by kernel_rfl) (by kernel_rfl)
 have tO:=HB;have tB:=sV;have mA:=pQ;have a1:=HD;have a2:=HC;have vB:=Ec;have f6:=HA;have f7:=O6;have mK:=AX;have mE:=AY;have mI:=rO;have k27:=Mv;have k25:=Mw;have e27:=O8;have i25:=AZ;have nW: ∀(v:Value) (xT:TypeId) (w:World),(Instr.typeAssert (.iface 328 v) xT 397 true).run Tryz.prog w= .ok (.tuple #[.nilIface,.bool false]) w:=sU Tryz.underlying397 (by kernel_rfl) (by kernel_rfl)
 have uW:=pR;have mU:=lW;have n8:=Mx ⟨w.heap.size,0,none⟩ t (Lu t w) (by
  unfold Lu;rw[World.cell?_alloc_lt _ _ ⟨w.heap.size,0,none⟩ (by simp)];simp)
 have hlt:1<w.heap.size:=mJ hg;have hg2:(Lu t w).cell? ⟨1,0,none⟩=some (.iface 385 (.agg #[.pointer (some ⟨2,176,none⟩)])):=by
  unfold Lu;rw[World.cell?_alloc_lt _ _ ⟨1,0,none⟩ (by simp;omega),World.cell?_alloc_lt _ _ ⟨1,0,none⟩ hlt];exact hg
 have htl:t.block<w.heap.size:=by
  rcases aR t.block w.heap.size with h|h
  ·exact h
  ·simp[World.cell?,Array.getElem?_eq_none h]at ht0
 unfold Lu at n8 hg2;have el:=My ⟨w.heap.size,0,none⟩ t ((((w.alloc (.cells #[.pointer (some t)] 248)).alloc (.cells #[.pointer (some ⟨2,248,none⟩),.pointer (some ⟨w.heap.size,0,none⟩),.int .u64 150] 337)).alloc (.cells #[.pointer (some ⟨2,248,none⟩),.pointer (some ⟨w.heap.size,0,none⟩),.int .u64 150] 337)).alloc (.cells #[.string wh,.iface 246 (.agg #[.int .i64 3])] 328)) (by rw[World.cell?_alloc_lt _ _ ⟨w.heap.size,0,none⟩ (by simp;omega),World.cell?_alloc_lt _ _ ⟨w.heap.size,0,none⟩ (by simp;omega)];simp)
 have st:=RY t ⟨w.heap.size+1+1+1+1,0,none⟩ 3 fT (((((w.alloc (.cells #[.pointer (some t)] 248)).alloc (.cells #[.pointer (some ⟨2,248,none⟩),.pointer (some ⟨w.heap.size,0,none⟩),.int .u64 150] 337)).alloc (.cells #[.pointer (some ⟨2,248,none⟩),.pointer (some ⟨w.heap.size,0,none⟩),.int .u64 150] 337)).alloc (.cells #[.string wh,.iface 246 (.agg #[.int .i64 3])] 328)).alloc (.cells #[.int .i64 3] 246))
  (by rw[World.cell?_alloc_at _ _ _ _ (by simp)];rfl)
  (by rw[World.cell?_alloc_lt _ _ t (by simp;omega),World.cell?_alloc_lt _ _ t (by simp;omega),World.cell?_alloc_lt _ _ t (by simp;omega),World.cell?_alloc_lt _ _ t (by simp;omega),World.cell?_alloc_lt _ _ t htl];exact ht0)
  (by rw[bc _ _ t (by simp;omega),bc _ _ t (by simp;omega),bc _ _ t (by simp;omega),bc _ _ t (by simp;omega),bc _ _ t (Nat.ne_of_lt htl)];exact hf0)
 go_enter Tryz.func150,Tryz.ntmps150
 go_wp2
 refine cm 2 ?_;rw[bH]
 go_wp2
 rw[bH]
 go_wp2
 go_ret
 exact⟨rfl,rfl⟩
theorem HW{P:Program}{f:FuncId}{v:Value}{k:IntKind}{n:Int}(hfn: ∃fn c,P.funcs[f]? =some fn∧(fn.name== "runtime.NumGoroutine")=false∧fn.body=some c)
 (h: ∀w,Np P w→Calls P f #[v] w fun e w'=>e= .returned (.int k n)∧w'.os=w.os∧w'.tape=w.tape∧w'.output=w.output∧w.heap.size≤w'.heap.size∧ ∀b,b<w.heap.size→w'.heap[b]? =w.heap[b]?):
 cD P f [.d (.opq v)] (.d (.int k n)) (fun _=>false):=by
 refine⟨hfn,rfl,fun vs w fr hvs hfrb hgo hrep=>?_⟩
 have hv:vs= #[v]:=by
  have h0:0<vs.size:=by rw[hvs];exact Nat.zero_lt_one
  have h1:=hrep 0 _ _ (Array.getElem?_eq_getElem h0) rfl;have h2:=fH h1;have h3:vs[0]=v:=by
   generalize vs[0]=u at h2
   cases h2 with|opq v hb h1=>rfl
  apply Array.ext
  ·simpa using hvs
  ·intro i h1 h2;have:i=0:=by simp at h2;omega
   subst this
   simpa using h3
 subst hv
 refine(h w hgo).mono fun e w' ⟨he,ho,ht,hu,hs,hb⟩=>?_
 refine⟨_,fr,⟨fun i=>if i=0 then .d (.int k n)else .undef,fun _=> [],fun _=>0,fun _=>false,FO⟩,fun _=>⟨0,0,false⟩,he,?_,rfl,fun j hj=>by cases hj⟩
 refine⟨rfl,rfl,ho,ht,hu,hs,fun b f hf=>Nat.lt_of_lt_of_le (hfrb b f hf) hs,fun b hbl _=>⟨hb b hbl,rfl⟩,fun _ h=>h.elim,fun i=>?_,fun n hn=>by simp at hn,fun n m hn=>by simp at hn,fun l hl=>by simp at hl,fun n k hl=>by simp at hl,fun l l' hl=>by simp at hl,?_⟩
 ·by_cases hi:i=0
  ·subst hi;exact .d _ _ (.int k n)
  ·simp only[res,Array.getD_eq_getD_getElem?,if_neg hi];rw[Array.getElem?_eq_none (by simp;omega)]
   exact lz
 ·exact⟨fun _=>Nat.le_refl _,fun m e h=>rfl⟩
set_option maxHeartbeats 4000000 in
theorem n4F(w:World)(hg:w.cell? ⟨0,0,none⟩=some (.int .i64 2)):Calls Tryz.prog 88 #[Bi] w fun e w'=>e= .returned (.int .i64 2)∧w'=w:=by
 unfold Bi
 go_enter Tryz.func88,Tryz.ntmps88
 go_wp2_with (first|(go_at_call 149;refine(HE _).mono ?_;rintro e w' ⟨rfl,rfl⟩))
 go_ret
 exact⟨rfl,rfl⟩
set_option maxHeartbeats 4000000 in
theorem Xi(wh:List UInt8)(w:World)(hg:w.cell? ⟨0,0,none⟩=some (.int .i64 2)):Calls Tryz.prog 88 #[Bh wh 2] w fun e w'=>e= .returned (.int .i64 2)∧ ∃o,w'=w.alloc o:=by
 unfold Bh
 go_enter Tryz.func88,Tryz.ntmps88
 go_wp2_with (first|(go_at_call 149;refine(HG _ _).mono ?_;rintro e w' ⟨rfl,rfl⟩))
 go_ret
 exact⟨rfl,_,rfl⟩
set_option maxHeartbeats 4000000 in
theorem Xh(wh:List UInt8)(w:World)(hg:w.cell? ⟨0,0,none⟩=some (.int .i64 2))(hg2:w.cell? ⟨1,0,none⟩=some (.iface 385 (.agg #[.pointer (some ⟨2,176,none⟩)]))):
 Calls Tryz.prog 88 #[Bh wh 3] w fun e w'=>e= .returned (.int .i64 3)∧w'.os=w.os∧w'.tape=w.tape∧w'.output=w.output∧w.heap.size≤w'.heap.size∧ ∀b,b<w.heap.size→w'.heap[b]? =w.heap[b]? :=by
 unfold Bh;have hlt:1<w.heap.size:=mJ hg2;have hA:=Kk ⟨wh.toArray⟩ ⟨(w.alloc (.cells #[.string ⟨wh.toArray⟩,.iface 246 (.agg #[.int .i64 3])] 328)).heap.size,0,none⟩ (.int .i64 0) ((w.alloc (.cells #[.string ⟨wh.toArray⟩,.iface 246 (.agg #[.int .i64 3])] 328)).alloc (.cells #[.int .i64 0] 246))
  (by rw[World.cell?_alloc_lt _ _ ⟨1,0,none⟩ (by simp;omega),World.cell?_alloc_lt _ _ ⟨1,0,none⟩ hlt];exact hg2) (by simp) (by simp)
 simp only[World.size_alloc]at hA
 go_enter Tryz.func88,Tryz.ntmps88
 go_wp2_with (first|(go_at_call 149;refine(HF _ _).mono ?_;rintro e w' ⟨rfl,rfl⟩)|(go_at_call 150;refine hA.mono ?_;rintro e w' ⟨rfl,rfl⟩))
 go_ret
 refine⟨rfl,rfl,rfl,rfl,by simp;omega,fun b hb=>?_⟩
 have ho: ∀(W:World) (o:Obj),w.heap.size≤W.heap.size→(W.alloc o).heap[b]? =W.heap[b]? :=fun W o h=>by
  simp only[World.alloc];rw[Array.getElem?_push,if_neg (by omega)]
 repeat rw[ho _ _ (by simp<;>omega)]
theorem HH(v:Value)(n:Int)(hv:mh v n)(hn:n≠0):cD Tryz.prog 88 [.d (.opq v)] (.d (.int .i64 n)) (fun _=>false):=by
 have hG: ∀w,Np Tryz.prog w→w.cell? ⟨0,0,none⟩=some (.int .i64 2)∧w.cell? ⟨1,0,none⟩=some (.iface 385 (.agg #[.pointer (some ⟨2,176,none⟩)])):=fun w h=>
  ⟨(h 0 [.int .i64 2] (by kernel_rfl)).2 0 _ rfl,(h 1 [.iface 385 (.agg #[.pointer (some ⟨2,176,none⟩)])] (by kernel_rfl)).2 0 _ rfl⟩
 have hfn: ∃fn c,Tryz.prog.funcs[88]? =some fn∧(fn.name== "runtime.NumGoroutine")=false∧fn.body=some c:=⟨_,_,Tryz.func88,by kernel_rfl,rfl⟩
 have ha: ∀(w:World) (o:Obj),w.heap.size≤(w.alloc o).heap.size∧ ∀b,b<w.heap.size→(w.alloc o).heap[b]? =w.heap[b]? :=fun w o=>⟨by simp,fun b hb=>by
  simp only[World.alloc];rw[Array.getElem?_push,if_neg (by omega)]⟩
 refine HW hfn fun w hg=>?_
 obtain⟨h1,h2⟩:=hG w hg;rcases hv with h|h|h
 ·exact absurd h.1 hn
 ·obtain⟨rfl,rfl⟩:=h
  refine(n4F w h1).mono fun e w' ⟨he,hw⟩=>?_
  subst hw;exact⟨he,rfl,rfl,rfl,Nat.le_refl _,fun _ _=>rfl⟩
 ·obtain⟨h3,wh,rfl⟩:=h;rcases h3 with rfl|rfl
  ·refine(Xi wh w h1).mono fun e w' ⟨he,o,hw⟩=>?_
   subst hw;exact⟨he,rfl,rfl,rfl,(ha w o).1,(ha w o).2⟩
  ·exact Xh wh w h1 h2
def C7(c:Nat):Nat:=if c % 2=1 then(c/2)^^^3988292384 else c/2
def xZ:Nat→Nat→Nat
 |0,c=>c
 |n+1,c=>C7 (xZ n c)
def wq(b:List UInt8):Nat:=b.foldl (fun c x=>xZ 8 (c^^^x.toNat)) 4294967295
def pn(b:List UInt8):Nat:=wq b^^^4294967295
theorem ph{a b:Nat}(ha:a<4294967296)(hb:b<4294967296):a^^^b<4294967296:=Nat.xor_lt_two_pow (n:=32) ha hb
theorem Nd{c:Nat}(h:c<4294967296):C7 c<4294967296:=by
 unfold C7;split
 ·exact ph (by omega) (by decide)
 ·omega
theorem Bq{c:Nat}(h:c<4294967296): ∀n,xZ n c<4294967296
 |0=>h
 |n+1=>Nd (Bq h n)
theorem Aj(x:UInt8):x.toNat<4294967296:=by have:=x.toNat_lt;omega
theorem GW(b:List UInt8)(x:UInt8):wq (b++ [x])=xZ 8 (wq b^^^x.toNat):=by simp[wq]
theorem GV(b:List UInt8){i:Nat}(h:i<b.length):wq (b.take (i+1))=xZ 8 (wq (b.take i)^^^b[i].toNat):=by
 rw[List.take_succ_eq_append_getElem h,GW]
theorem FJ(b:List UInt8):wq b<4294967296:=by
 have: ∀(l:List UInt8) (c:Nat),c<4294967296→l.foldl (fun c x=>xZ 8 (c^^^x.toNat)) c<4294967296:=by
  intro l
  induction l with
  |nil=>intro c h;exact h
  |cons x l ih=>intro c h;exact ih _ (Bq (ph h (Aj x)) 8)
 exact this b _ (by decide)
theorem As(b:List UInt8):pn b<4294967296:=ph (FJ b) (by decide)
theorem vL{a b:Nat}(ha:a<4294967296)(hb:b<4294967296):Dp .u32 (a:Int) (b:Int)=((a^^^b:Nat):Int):=by
 have h:=ph ha hb;unfold Dp
 show IntKind.u32.wrap ((BitVec.ofInt 32 (a:Int)^^^BitVec.ofInt 32 (b:Int)).toNat:Int)=_
 rw[bF,bF,BitVec.toNat_xor,bP,bP,bV (by omega),bV (by omega)]
 exact wrap_u32 (by omega)
theorem IL{c:Nat}(hc:c<4294967296)(x:UInt8):Dp .u32 (c:Int) (x.toNat:Int)=((c^^^x.toNat:Nat):Int):=vL hc (Aj x)
theorem IZ(x:UInt8):IntKind.u32.wrap ((x.toNat:Nat):Int)=(x.toNat:Nat):=by have:=x.toNat_lt;exact wrap_u32 (by omega)
theorem Jd(x:Nat):BX .u32 (x:Int) 1=(x:Int)/2:=by
 unfold BX;have:min ((1:Int).toNat) IntKind.u32.bits=1:=rfl;rw[this,Int.fdiv_eq_ediv_of_nonneg]
 ·rfl
 ·decide
theorem Ly{x:Nat}(h:x<4294967296):tI .u32 (x:Int) 1=((x % 2:Nat):Int):=by
 unfold tI
 show IntKind.u32.wrap ((BitVec.ofInt 32 (x:Int)&&&BitVec.ofInt 32 ((1:Nat):Int)).toNat:Int)=_
 rw[bF,bF,cz,bP,bP,bV (by omega),bV (by omega),Nat.and_one_is_mod]
 exact wrap_u32 (by omega)
theorem Mq{a:Nat}(ha:a<4294967296):Mr .u32 (a:Int)=((a^^^4294967295:Nat):Int):=by
 have h:=vL (a:=4294967295) (b:=a) (by decide) ha
 unfold Mr;have e:(if IntKind.u32.signed=true then-1 else IntKind.u32.max)=((4294967295:Nat):Int):=rfl
 rw[e];rw[Nat.xor_comm];exact h
def csO(b:List UInt8)(i:Nat)(S:PS):Prop:=i≤b.length∧S.t 3= .d (.int .u32 (wq (b.take i):Nat))∧S.t 6= .d (.slice (b.map cM))∧S.t 7= .d (.int .i64 b.length)∧S.t 8= .d (.int .i64 i)
def csJ(b:List UInt8)(i:Nat)(c:Nat)(j:Nat)(S:PS):Prop:=j≤8∧S.t 3= .d (.int .u32 (xZ j c:Nat))∧S.t 6= .d (.slice (b.map cM))∧S.t 7= .d (.int .i64 b.length)∧S.t 8= .d (.int .i64 i)∧S.t 16= .d (.int .i64 j)
theorem GH(b:List UInt8)(hl:b.length≤9223372036854775807):cD Tryz.prog 244 [.d (.slice (b.map cM))] (.d (.int .u32 (pn b:Nat))) (fun _=>false):=by
 refine cD.bi Tryz.func244 [] ?_
 simp-implicitDefEqProofs (disch:=try exact dd) [cB]
 refine lp (csO b) (fun i=>b.length-i) 0 ⟨by omega,by simp[wq],by simp,by simp,by simp⟩ ?_
 rintro i S ⟨hi,e3,e6,e7,e8⟩;have hlt:=FJ (b.take i);by_cases h:i<b.length
 ·have k6:(i:Int)<b.length:=by omega
  have hst:=GV b h;generalize wq (b.take i)=c at*
  have hx:=IL hlt b[i];have hlt2:=ph hlt (Aj b[i])
  simp-implicitDefEqProofs (disch:=try exact dd) [cB,e3,e6,e7,e8,k6,IZ,hx,cM]
  refine lp (csJ b i (c^^^b[i].toNat)) (fun j=>8-j) 0 (by refine⟨by omega,by simp[xZ],?_,?_,?_,by simp⟩<;>simp-implicitDefEqProofs (disch:=try exact dd) [cB,e6,e7,e8]) ?_
  generalize c^^^b[i].toNat=y at*
  clear e3 e6 e7 e8 hx S;rintro j S ⟨hj,e3,e6,e7,e8,e16⟩;have hlt3:=Bq hlt2 j;have hs:xZ (j+1) y=C7 (xZ j y):=rfl;by_cases h8:(j:Int)<8
  ·generalize xZ j y=x at*
   have h1:=Jd x;have h2:=Ly hlt3;by_cases hp:x % 2=1
   ·rw[hp]at h2;have hm:IntKind.u32.wrap 3988292384=3988292384:=rfl;have hx:Dp .u32 ((x:Int)/2) 3988292384=((x/2^^^3988292384:Nat):Int):=by
     have:=vL (a:=x/2) (b:=3988292384) (by omega) (by decide)
     simpa using this
    have hb:C7 x=(x/2)^^^3988292384:=by simp[C7,hp]
    simp-implicitDefEqProofs (disch:=try exact dd) [cB,e3,e6,e7,e8,e16,h8,h1,h2,hm,hx]
    exact cE (j+1) (by refine⟨by omega,by rw[hs,hb];simp-implicitDefEqProofs (disch:=try exact dd) [cB,hx],?_,?_,?_,by simp⟩<;>simp-implicitDefEqProofs (disch:=try exact dd) [cB,e6,e7,e8]) (by omega)
   ·have hp0:x % 2=0:=by omega
    rw[hp0]at h2;have hm:IntKind.u32.wrap 0=0:=rfl;have hx:Dp .u32 ((x:Int)/2) 0=((x/2:Nat):Int):=by
     have:=vL (a:=x/2) (b:=0) (by omega) (by decide)
     simpa using this
    have hb:C7 x=x/2:=by simp[C7,hp]
    simp-implicitDefEqProofs (disch:=try exact dd) [cB,e3,e6,e7,e8,e16,h8,h1,h2,hm,hx]
    exact cE (j+1) (by refine⟨by omega,by rw[hs,hb];simp-implicitDefEqProofs (disch:=try exact dd) [cB,hx],?_,?_,?_,by simp⟩<;>simp-implicitDefEqProofs (disch:=try exact dd) [cB,e6,e7,e8]) (by omega)
  ·have:j=8:=by omega
   subst this
   simp-implicitDefEqProofs (disch:=try exact dd) [cB,e3,e6,e7,e8,e16,h8]
   exact cE (i+1) (by refine⟨by omega,by rw[hst];simp-implicitDefEqProofs (disch:=try exact dd) [cB,e3],?_,?_,by simp⟩<;>simp-implicitDefEqProofs (disch:=try exact dd) [cB,e6,e7]) (by omega)
 ·have k6: ¬(i:Int)<b.length:=by omega
  have:b.take i=b:=List.take_of_length_le (by omega)
  rw[this]at e3 hlt;have hx:=Mq hlt;have hx2:Mr .u32 (wq b:Int)=((pn b:Nat):Int):=hx
  simp-implicitDefEqProofs (disch:=try exact dd) [cB,e3,e6,e7,e8,k6,hx2]
end Go.Proofs.YtoilfihojgeonaaGreatDoor
