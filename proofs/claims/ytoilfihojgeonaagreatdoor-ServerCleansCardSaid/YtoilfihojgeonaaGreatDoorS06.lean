/- Options that are joined with others: tlv.Join; the document's. -/
import Derived.Test.YtoilfihojgeonaaGreatDoorS05
namespace Go.Proofs.YtoilfihojgeonaaGreatDoor
open BoEng Go
set_option maxRecDepth 100000
set_option linter.unusedSimpArgs false
set_option linter.unusedVariables false
theorem CV: ∀(xs out:List cN),(xs.foldl df out).length≤out.length+xs.length
 | [],out=>by simp
 |x::xs,out=>by
  have h1:=CV xs (df out x);have h2:=uj out x;simp only[List.foldl_cons,List.length_cons];omega
theorem zM: ∀(xs out:List cN) (m:Nat),(∀x∈xs,x.data.length≤600)→(∀x∈out,x.data.length≤m)→ ∀x∈xs.foldl df out,x.data.length≤m+600*xs.length
 | [],out,m,_,h=>by simpa using h
 |x::xs,out,m,h1,h2=>by
  have h3:=rT (o:=x) h2;have h4:=h1 x (by simp)
  intro y hy;have:=zM xs (df out x) (m+x.data.length) (fun z hz=>h1 z (by simp[hz])) h3 y hy
  simp only[List.length_cons];omega
theorem oM(xs:List cN)(h:xs.length≤120)(h2: ∀x∈xs,x.data.length≤600):sized (xs.foldl df []):=by
 have h3:=CV xs [];have h4:=zM xs [] 0 h2 (by simp)
 refine⟨by simp at h3;omega,fun o ho=>?_⟩
 have:=h4 o ho;omega
def vD(l m:List cN):Int×List cN:=if cI l=true∧cI m=true then(if cI ((l++m).foldl df [])=true then(0,(l++m).foldl df [])else(3,[]))else(1,[])
def Et(l m:List cN):Nat→List cN
 |0=> []
 |1=>l
 |_=>l++m
theorem KE{l m:List cN}:Et l m 0= []:=rfl
theorem NU{l m:List cN}:Et l m 1=l:=rfl
def joI(l m:List cN)(q:Nat×Nat)(S:PS):Prop:=
 q.1≤2∧0<q.2∧S.t 21= .d (.slice [.slice (l.map cN.d),.slice (m.map cN.d)])∧S.t 22= .d (.int .i64 2)∧S.t 23= .d (.int .i64 q.1)∧S.fo=FO∧S.t 6= .bsl (FO+6) q.2 ((Et l m q.1).foldl df []).length 2 true∧S.gen (FO+6)=q.2∧S.box (FO+6)=fE ((Et l m q.1).foldl df [])
def jiI(pre cur l m:List cN)(j:Nat)(q:Nat×Nat)(S:PS):Prop:=
 q.1≤cur.length∧0<q.2∧S.t 21= .d (.slice [.slice (l.map cN.d),.slice (m.map cN.d)])∧S.t 22= .d (.int .i64 2)∧S.t 23= .d (.int .i64 j)∧S.t 27= .d (.slice (cur.map cN.d))∧S.t 28= .d (.int .i64 cur.length)∧S.t 29= .d (.int .i64 q.1)∧S.fo=FO∧S.t 6= .bsl (FO+6) q.2 ((pre++cur.take q.1).foldl df []).length 2 true∧S.gen (FO+6)=q.2∧S.box (FO+6)=fE ((pre++cur.take q.1).foldl df [])
theorem LP(l m:List cN)(hl:sized l)(hm:sized m):cD Tryz.prog 233 [.d (.slice (l.map cN.d)),.d (.slice (m.map cN.d))] (.tup [.d (.slice ((vD l m).2.map cN.d)),.d (.int .i64 (vD l m).1)]) (fun _=>false):=by
 refine cD.bi Tryz.func233 [2006005,40035,40039] ?_;have q1:=su l hl;have q2:=su m hm
 cases hr1:cI l with
 |false=>
  have hz:vD l m=(1,[]):=by unfold vD;rw[if_neg (by rw[hr1];simp)]
  rw[hr1]at q1;rw[hz]
  simp-implicitDefEqProofs (disch:=try exact dd) [cB]
  refine oc q1 ?_
  simp-implicitDefEqProofs (disch:=try exact dd) [cB]
 |true=>
 cases hr2:cI m with
 |false=>
  have hz:vD l m=(1,[]):=by unfold vD;rw[if_neg (by rw[hr2];simp)]
  rw[hr1]at q1;rw[hr2]at q2;rw[hz]
  simp-implicitDefEqProofs (disch:=try exact dd) [cB]
  refine oc q1 ?_
  simp-implicitDefEqProofs (disch:=try exact dd) [cB]
  refine oc q2 ?_
  simp-implicitDefEqProofs (disch:=try exact dd) [cB]
 |true=>
 have hl60:=fX hr1;have hm60:=fX hr2;rw[hr1]at q1;rw[hr2]at q2
 simp-implicitDefEqProofs (disch:=try exact dd) [cB]
 refine oc q1 ?_
 simp-implicitDefEqProofs (disch:=try exact dd) [cB]
 refine oc q2 ?_
 simp-implicitDefEqProofs (disch:=try exact dd) [cB]
 refine lp (joI l m) (fun q=>2-q.1) (0,1) (by refine⟨by decide,by(show 0<1);decide,?_,?_,?_,?_,?_,?_,?_⟩<;>simp-implicitDefEqProofs (disch:=try exact dd) [cB,KE,nr]) ?_
 rintro⟨j,g⟩ S ⟨hj,hg,e21,e22,e23,efo,e6,g6,b6⟩;dsimp only at hj hg e21 e22 e23 e6 g6 b6;have hj3:j=0∨j=1∨j=2:=by omega
 rcases hj3 with rfl|rfl|rfl
 ·have hcur:l.length≤60:=hl60.1;have hn0:(0:Int)<2:=by decide
  simp-implicitDefEqProofs (disch:=try exact dd) [cB,e21,e22,e23,e6,efo,g6,b6]
  refine lp (jiI [] l l m 0) (fun q=>l.length-q.1) (0,g) (by refine⟨by omega,hg,?_,?_,?_,?_,?_,?_,?_,?_,?_,?_⟩<;>simp-implicitDefEqProofs (disch:=try exact dd) [cB,e21,e22,e23,efo,e6,KE,NU,g6,b6]) ?_
  rintro⟨i,g⟩ S ⟨hi,hg,e21,e22,e23,e27,e28,e29,efo,e6,g6,b6⟩;dsimp only at hi hg e21 e22 e23 e27 e28 e29 e6 g6 b6;by_cases hlt:i<l.length
  ·have k6:(i:Int)<l.length:=by omega
   have hnt:nth l (i:Int)=l[i]:=dB hlt;have hmem:=hl60.2 l[i] (List.getElem_mem hlt);have hst:([]++l.take (i+1)).foldl df []=df (([]++l.take i).foldl df []) l[i]:=by
    rw[List.take_succ_eq_append_getElem hlt,←List.append_assoc,List.foldl_append];rfl
   have hz:=oM ([]++l.take i) (by have:=hl60.1;simp only[List.length_append,List.length_take,List.length_nil];omega) (fun x hx=>by
    rcases List.mem_append.1 hx with h|h
    ·simp at h
    ·exact hl60.2 x (aA h))
   have hg2:=uk (l:=([]++l.take i).foldl df []) (c:=l[i].code) hg
   generalize([]++l.take i).foldl df []=out at*
   generalize l[i]=o at*
   have q:=fun gl=>Am out o (FO+6) g (fo:=FO+1000) (gl:=gl) hz (by omega) (by omega) hg
   generalize pV out o.code g=g2 at*
   simp-implicitDefEqProofs (disch:=try exact dd) [cB,e21,e22,e23,e27,e28,e29,efo,e6,g6,b6,k6,hnt]
   refine dx (FO+1000) rfl rfl (q _) rfl (by simp-implicitDefEqProofs (disch:=try exact dd) [cB,oU,efo,g6,b6,hg]) ?_
   simp-implicitDefEqProofs (disch:=try exact dd) [cB,oU,e21,e22,e23,e27,e28,e29,efo,e6,g6,b6]
   exact cE (i+1,g2) (by refine⟨by dsimp only;omega,hg2,?_,?_,?_,?_,?_,?_,?_,by dsimp only;rw[hst];simp-implicitDefEqProofs (disch:=try exact dd) [cB],?_,by dsimp only;rw[hst];simp-implicitDefEqProofs (disch:=try exact dd) [cB,efo]⟩<;>simp-implicitDefEqProofs (disch:=try exact dd) [cB,e21,e22,e23,e27,e28,efo]) (by dsimp only;omega)
  ·have k6: ¬(i:Int)<l.length:=by omega
   have ht:l.take i=l:=List.take_of_length_le (by omega)
   rw[ht]at e6 b6
   simp-implicitDefEqProofs (disch:=try exact dd) [cB,e21,e22,e23,e27,e28,e29,efo,e6,g6,b6,k6]
   exact cE (0+1,g) (by refine⟨by dsimp only;omega,hg,?_,?_,?_,?_,?_,?_,?_⟩<;>simp-implicitDefEqProofs (disch:=try exact dd) [cB,e21,e22,efo,e6,Et,g6,b6]) (by dsimp only;omega)
 ·have hcur:m.length≤60:=hm60.1;have hn1:(1:Int)<2:=by decide
  simp-implicitDefEqProofs (disch:=try exact dd) [cB,e21,e22,e23,e6,efo,g6,b6]
  refine lp (jiI l m l m 1) (fun q=>m.length-q.1) (0,g) (by refine⟨by omega,hg,?_,?_,?_,?_,?_,?_,?_,?_,?_,?_⟩<;>simp-implicitDefEqProofs (disch:=try exact dd) [cB,e21,e22,e23,efo,e6,KE,NU,g6,b6]) ?_
  rintro⟨i,g⟩ S ⟨hi,hg,e21,e22,e23,e27,e28,e29,efo,e6,g6,b6⟩;dsimp only at hi hg e21 e22 e23 e27 e28 e29 e6 g6 b6;by_cases hlt:i<m.length
  ·have k6:(i:Int)<m.length:=by omega
   have hnt:nth m (i:Int)=m[i]:=dB hlt;have hmem:=hm60.2 m[i] (List.getElem_mem hlt);have hst:(l++m.take (i+1)).foldl df []=df ((l++m.take i).foldl df []) m[i]:=by
    rw[List.take_succ_eq_append_getElem hlt,←List.append_assoc,List.foldl_append];rfl
   have hz:=oM (l++m.take i) (by have:=hl60.1;simp only[List.length_append,List.length_take,List.length_nil];omega) (fun x hx=>by
    rcases List.mem_append.1 hx with h|h
    ·exact hl60.2 x h
    ·exact hm60.2 x (aA h))
   have hg2:=uk (l:=(l++m.take i).foldl df []) (c:=m[i].code) hg
   generalize(l++m.take i).foldl df []=out at*
   generalize m[i]=o at*
   have q:=fun gl=>Am out o (FO+6) g (fo:=FO+1000) (gl:=gl) hz (by omega) (by omega) hg
   generalize pV out o.code g=g2 at*
   simp-implicitDefEqProofs (disch:=try exact dd) [cB,e21,e22,e23,e27,e28,e29,efo,e6,g6,b6,k6,hnt]
   refine dx (FO+1000) rfl rfl (q _) rfl (by simp-implicitDefEqProofs (disch:=try exact dd) [cB,oU,efo,g6,b6,hg]) ?_
   simp-implicitDefEqProofs (disch:=try exact dd) [cB,oU,e21,e22,e23,e27,e28,e29,efo,e6,g6,b6]
   exact cE (i+1,g2) (by refine⟨by dsimp only;omega,hg2,?_,?_,?_,?_,?_,?_,?_,by dsimp only;rw[hst];simp-implicitDefEqProofs (disch:=try exact dd) [cB],?_,by dsimp only;rw[hst];simp-implicitDefEqProofs (disch:=try exact dd) [cB,efo]⟩<;>simp-implicitDefEqProofs (disch:=try exact dd) [cB,e21,e22,e23,e27,e28,efo]) (by dsimp only;omega)
  ·have k6: ¬(i:Int)<m.length:=by omega
   have ht:m.take i=m:=List.take_of_length_le (by omega)
   rw[ht]at e6 b6
   simp-implicitDefEqProofs (disch:=try exact dd) [cB,e21,e22,e23,e27,e28,e29,efo,e6,g6,b6,k6]
   exact cE (1+1,g) (by refine⟨by dsimp only;omega,hg,?_,?_,?_,?_,?_,?_,?_⟩<;>simp-implicitDefEqProofs (disch:=try exact dd) [cB,e21,e22,efo,e6,Et,g6,b6]) (by dsimp only;omega)
 ·have hz:sized ((l++m).foldl df []):=oM _ (by have:=hl60.1;have:=hm60.1;simp only[List.length_append];omega) (fun x hx=>by
   rcases List.mem_append.1 hx with h|h
   ·exact hl60.2 x h
   ·exact hm60.2 x h)
  have hjn:vD l m=if cI ((l++m).foldl df [])=true then(0,(l++m).foldl df [])else(3,[]):=by unfold vD;rw[if_pos ⟨hr1,hr2⟩]
  have hp2:Et l m 2=l++m:=rfl;rw[hp2]at e6 b6;rw[hjn]
  generalize(l++m).foldl df []=out at*
  have hth:=zh (xs:=out) rfl;have qR:=fun gl=>tP out (FO+6) g (fo:=FO+1000) (gl:=gl) hz (by omega) hg
  cases hr3:cI out with
  |true=>
   rw[hr3]at qR;rw[if_pos rfl]
   simp-implicitDefEqProofs (disch:=try exact dd) [cB,e21,e22,e23,efo,e6,g6,b6]
   refine dx (FO+1000) rfl rfl (qR _) rfl (by simp-implicitDefEqProofs (disch:=try exact dd) [cB,oU,efo,g6,b6,hg]) ?_
   simp-implicitDefEqProofs (disch:=try exact dd) [cB,oU,e6,efo,g6,b6,jN,hth]
  |false=>
   rw[hr3]at qR;rw[if_neg (by decide)]
   simp-implicitDefEqProofs (disch:=try exact dd) [cB,e21,e22,e23,efo,e6,g6,b6]
   refine dx (FO+1000) rfl rfl (qR _) rfl (by simp-implicitDefEqProofs (disch:=try exact dd) [cB,oU,efo,g6,b6,hg]) ?_
   simp-implicitDefEqProofs (disch:=try exact dd) [cB,oU,e6,efo,g6,b6]
def zB(c:Int)(d:List UInt8)(x:cN):cN:=if x.code=c then⟨x.code,x.data++d⟩else x
def Pd(l:List cN)(c:Int)(d:List UInt8):List cN:=l.map (zB c d)++if gS l c=0 then[⟨c,d⟩]else[]
theorem KG{c:Int}{d:List UInt8}: ∀ {l:List cN},(∀o∈l,o.code≠c)→l.map (zB c d)=l
 | [],_=>rfl
 |x::l,h=>by
  have h1:zB c d x=x:=by unfold zB;rw[if_neg (h x (by simp))]
  rw[List.map_cons,h1,KG fun o ho=>h o (by simp[ho])]
theorem H2{l:List cN}{c:Int}:gS l c=0↔ ∀o∈l,o.code≠c:=by
 have h0:gS l c=0↔(l.countP fun o=>decide (o.code=c))=0:=by unfold gS;omega
 rw[h0,bJ];simp
theorem KF{x:cN}{l:List cN}{c:Int}{d:List UInt8}(h:x.code≠c):Pd (x::l) c d=x::Pd l c d:=by
 have h1:zB c d x=x:=by unfold zB;rw[if_neg h]
 have h2:gS (x::l) c=gS l c:=by unfold gS;rw[List.countP_cons];simp[h]
 unfold Pd;rw[List.map_cons,h1,h2];rfl
theorem Ev{x:cN}{l:List cN}{c:Int}{d:List UInt8}(h:x.code≠c):df (x::l) ⟨c,d⟩=x::df l ⟨c,d⟩:=by
 have hr:=ln l c;by_cases h0:iy l c<0
 ·have h1:iy (x::l) c<0:=by simp[iy,h,h0]
  rw[jX h1,jX h0];rfl
 ·obtain⟨i,hi⟩:=Int.eq_ofNat_of_zero_le (show 0≤iy l c by omega)
  have hil:i<l.length:=by omega
  have h1:iy (x::l) c=(i+1:Nat):=by
   have hn: ¬(i:Int)<0:=by omega
   simp[iy,h,hi,hn]
  rw[nD (i:=i+1) (by simp;omega) h1,nD hil hi]
  rfl
theorem Ew: ∀(l:List cN) (c:Int) (d:List UInt8),(l.map cN.code).Nodup→Pd l c d=df l ⟨c,d⟩
 | [],c,d,_=>by rw[jX (by show(-1:Int)<0;decide)];rfl
 |x::l,c,d,h=>by
  simp only[List.map_cons,bB]at h;by_cases e:x.code=c
  ·have hno: ∀o∈l,o.code≠c:=fun o ho he=>h.1 (by rw[e,←he];exact List.mem_map_of_mem ho)
   have h1: ¬gS (x::l) c=0:=fun h0=>H2.1 h0 x (by simp) e
   have h2:iy (x::l) c=(0:Nat):=by simp[iy,e]
   rw[nD (i:=0) (by simp) h2]
   unfold Pd;rw[if_neg h1,List.append_nil,List.map_cons,KG hno];simp[zB,e]
  ·rw[KF e,Ev e,Ew l c d h.2]
theorem CG(l:List cN)(o:cN)(h:(l.map cN.code).Nodup):((df l o).map cN.code).Nodup:=by
 have hr:=ln l o.code;by_cases h0:iy l o.code<0
 ·rw[jX h0,List.map_append,List.nodup_append];refine⟨h,by simp,fun a ha b hb e=>?_⟩
  subst e;simp at hb;obtain⟨x,hx,hxe⟩:=List.mem_map.1 ha
  exact(kG l o.code).1 h0 x hx (by rw[hxe,hb])
 ·obtain⟨i,hi⟩:=Int.eq_ofNat_of_zero_le (show 0≤iy l o.code by omega)
  have hil:i<l.length:=by omega
  rw[nD hil hi,cy];have:(l.map cN.code).set i l[i].code=l.map cN.code:=by
   have h2:l[i].code=(l.map cN.code)[i]'(by simpa using hil):=by simp
   rw[h2,List.set_getElem_self]
  rw[this];exact h
theorem xG: ∀(xs out:List cN),(out.map cN.code).Nodup→((xs.foldl df out).map cN.code).Nodup
 | [],out,h=>h
 |x::xs,out,h=>xG xs _ (CG out x h)
theorem pB{l:List cN}(h:cI l=true):(l.map cN.code).Nodup:=by
 simp only[cI,Bool.and_eq_true,decide_eq_true_eq]at h;exact h.2
theorem zK: ∀(xs out:List cN),((out++xs).map cN.code).Nodup→xs.foldl df out=out++xs
 | [],out,_=>by simp
 |x::xs,out,h=>by
  have hn:iy out x.code<0:=by
   rw[kG];intro o ho e;rw[List.map_append,List.nodup_append]at h;exact h.2.2 _ (List.mem_map_of_mem ho) _ (by simp) e
  rw[List.foldl_cons,jX hn,zK xs (out++ [x]) (by simpa using h)]
  simp
theorem xq{l m:List cN}(h:cI l=true):(l++m).foldl df []=m.foldl df l:=by
 rw[List.foldl_append,zK l [] (by simpa using pB h)]
 rfl
def r3K(l:List cN)(c:Int)(d:List UInt8)(i:Nat)(S:PS):Prop:=
 i≤l.length∧S.t 0= .d (.slice (l.map cN.d))∧S.t 1= .d (.int .i64 c)∧S.t 2= .d (.slice (d.map cM))∧S.t 8= .d (.int .i64 i)∧S.t 7= .d (.slice (((l.take i).map (zB c d)).map cN.d))∧S.own (.t 7 0)=true
theorem uV(l:List cN)(c:Int)(d:List UInt8)(hl:sized l)(hd:d.length≤100000):cD Tryz.prog 226 [.d (.slice (l.map cN.d)),.d (.int .i64 c),.d (.slice (d.map cM))] (.d (.slice ((Pd l c d).map cN.d))) (fun _=>false):=by
 refine cD.bi Tryz.func226 [33,47] ?_;have hs:=hl.1
 simp-implicitDefEqProofs (disch:=try exact dd) [cB]
 refine lp (r3K l c d) (fun i=>l.length-i) 0 (by refine⟨by omega,?_,?_,?_,?_,?_,?_⟩<;>simp-implicitDefEqProofs (disch:=try exact dd) [cB]) ?_
 rintro i S ⟨hi,e0,e1,e2,e8,e7,o7⟩;by_cases hlt:i<l.length
 ·have k6:(i:Int)<l.length:=by omega
  have hn:nth l (i:Int)=l[i]:=dB hlt;have hz:=lJ hl hlt;have hml:((l.take i).map (zB c d)).length≤100000:=by simp only[List.length_map,List.length_take];omega
  have ht:(l.take (i+1)).map (zB c d)=(l.take i).map (zB c d)++ [zB c d l[i]]:=by
   rw[List.take_succ_eq_append_getElem hlt,List.map_append];rfl
  generalize(l.take i).map (zB c d)=out at*
  by_cases hc:l[i].code=c
  ·have hj:zB c d l[i]=⟨l[i].code,l[i].data++d⟩:=by unfold zB;rw[if_pos hc]
   simp-implicitDefEqProofs (disch:=try exact dd) [cB,e0,e1,e2,e8,e7,o7,k6,hn,hc]
   exact cE (i+1) (by refine⟨by omega,?_,?_,?_,?_,by rw[ht,hj];simp-implicitDefEqProofs (disch:=try exact dd) [cB,e7,hc],?_⟩<;>simp-implicitDefEqProofs (disch:=try exact dd) [cB,e0,e1,e2,o7]) (by omega)
  ·have hj:zB c d l[i]=l[i]:=by unfold zB;rw[if_neg hc]
   simp-implicitDefEqProofs (disch:=try exact dd) [cB,e0,e1,e2,e8,e7,o7,k6,hn,hc]
   exact cE (i+1) (by refine⟨by omega,?_,?_,?_,?_,by rw[ht,hj];simp-implicitDefEqProofs (disch:=try exact dd) [cB,e7,hc],?_⟩<;>simp-implicitDefEqProofs (disch:=try exact dd) [cB,e0,e1,e2,o7]) (by omega)
 ·have k6: ¬(i:Int)<l.length:=by omega
  have ht:l.take i=l:=List.take_of_length_le (by omega)
  rw[ht]at e7;have q:=sH l c hl;have hml:(l.map (zB c d)).length≤100000:=by simp only[List.length_map];omega
  unfold Pd;by_cases h0:gS l c=0
  ·rw[if_pos h0];rw[h0]at q;generalize l.map (zB c d)=out at*
   simp-implicitDefEqProofs (disch:=try exact dd) [cB,e0,e1,e2,e8,e7,o7,k6]
   refine oc q ?_
   simp-implicitDefEqProofs (disch:=try exact dd) [cB,e0,e1,e2,e8,e7,o7,k6]
  ·rw[if_neg h0,List.append_nil];generalize l.map (zB c d)=out at*
   simp-implicitDefEqProofs (disch:=try exact dd) [cB,e0,e1,e2,e8,e7,o7,k6]
   refine oc q ?_
   simp-implicitDefEqProofs (disch:=try exact dd) [cB,e0,e1,e2,e8,e7,o7,k6,h0]
def r3I(b:List UInt8)(q:Nat×List cN×Nat)(S:PS):Prop:=
 sK b=mu q.1 q.2.1 (b.drop q.2.2)∧b.length≤q.1+q.2.2∧q.2.2≤b.length∧cI q.2.1=true∧S.t 0= .d (.slice (b.map cM))∧S.t 4= .d (.slice (q.2.1.map cN.d))∧S.t 5= .d (.int .i64 q.2.2)
theorem y'(b:List UInt8)(hb:b.length≤100000):cD Tryz.prog 128 [.d (.slice (b.map cM))] (.tup [.d (.slice ((sK b).2.map cN.d)),.d (.int .i64 (sK b).1)]) (fun _=>false):=by
 refine cD.bi Tryz.func128 [] ?_
 simp-implicitDefEqProofs (disch:=try exact dd) [cB, -List.map_take, -List.map_drop]
 refine lp (r3I b) (fun q=>b.length-q.2.2) (b.length,[],0) (by refine⟨rfl,Nat.le_refl _,bt _,by(show cI []=true);decide,?_,?_,?_⟩<;>simp-implicitDefEqProofs (disch:=try exact dd) [cB, -List.map_take, -List.map_drop]) ?_
 rintro⟨n,l,i⟩ S ⟨hr,hn,hi,hok,e0,e4,e5⟩;dsimp only at hr hn hi hok e0 e4 e5;rw[hr];obtain⟨hl60,hl6⟩:=fX hok;have hz:sized l:=⟨by omega,fun o ho=>by have:=hl6 o ho;omega⟩
 by_cases hlt:i<b.length
 ·have k6:(i:Int)<b.length:=by omega
  have hn0:nth b (i:Int)=b[i]:=dB hlt;have hdr:=ai hlt;obtain⟨n,rfl⟩: ∃k,n=k+1:=⟨n-1,by omega⟩
  rw[hdr]at hr⊢;generalize b[i]=c at*
  have hc2:=c.toNat_lt;by_cases c255:c.toNat=255
  ·have h1:mu (n+1) l (c::b.drop (i+1))=(0,l):=by simp only[mu,c255,if_true]
   simp-implicitDefEqProofs (disch:=try exact dd) [cB, -List.map_take, -List.map_drop,e0,e4,e5,k6,hn0,h1,c255]
  have k255: ¬(c.toNat:Int)=255:=by omega
  by_cases c0:c.toNat=0
  ·have h1:mu (n+1) l (c::b.drop (i+1))=mu n l (b.drop (i+1)):=by simp only[mu,c255,c0,if_true,aL];rfl
   rw[h1]at hr⊢
   simp-implicitDefEqProofs (disch:=try exact dd) [cB, -List.map_take, -List.map_drop,e0,e4,e5,k6,hn0,c0]
   exact cE (n,l,i+1) (by refine⟨hr,by dsimp only;omega,by dsimp only;omega,hok,?_,?_,?_⟩<;>simp-implicitDefEqProofs (disch:=try exact dd) [cB, -List.map_take, -List.map_drop,e0,e4]) (by dsimp only;omega)
  have k0: ¬(c.toNat:Int)=0:=by omega
  by_cases hlt2:i+1<b.length
  ·have hn1:nth b ((i:Int)+1)=b[i+1]:=by
    have:=dB (l:=b) (i:=i+1) hlt2;rw[←this];simp
   have hdr2:=ai hlt2;rw[hdr2]at hr⊢;generalize b[i+1]=k at*
   have hk2:=k.toNat_lt;have hk3:(b.drop (i+1+1)).length=b.length-(i+2):=by simp
   have k7: ¬(b.length:Int)≤(i:Int)+1:=by omega
   by_cases hk:(b.drop (i+1+1)).length<k.toNat
   ·have h1:mu (n+1) l (c::k::b.drop (i+1+1))=(2,[]):=by simp only[mu,c255,c0,aL,hk,if_true]
    have k8:(b.length:Int)<(i:Int)+2+k.toNat:=by omega
    simp-implicitDefEqProofs (disch:=try exact dd) [cB, -List.map_take, -List.map_drop,e0,e4,e5,k6,hn0,hn1,k255,k0,h1,k7,k8]
   ·have k8: ¬(b.length:Int)<(i:Int)+2+k.toNat:=by omega
    have ht1:((i:Int)+2).toNat=i+2:=by omega
    have ht2:((i:Int)+2+(k.toNat:Int)).toNat=i+2+k.toNat:=by omega
    have hsl:(b.take (i+2+k.toNat)).drop (i+2)=(b.drop (i+1+1)).take k.toNat:=by
     rw[List.drop_take]
     congr 1
     omega
    have hdl2:((b.drop (i+1+1)).take k.toNat).length≤255:=by rw[List.length_take];omega
    have hdd2:(b.drop (i+1+1)).drop k.toNat=b.drop (i+2+k.toNat):=by rw[cg]
    have h1:mu (n+1) l (c::k::b.drop (i+1+1))=if cI (df l ⟨c.toNat,(b.drop (i+1+1)).take k.toNat⟩)=true then mu n (df l ⟨c.toNat,(b.drop (i+1+1)).take k.toNat⟩) (b.drop (i+2+k.toNat))else(3,[]):=by simp only[mu,c255,c0,aL,hk,hdd2]
    rw[h1]at hr⊢;have q:=uV l c.toNat ((b.drop (i+1+1)).take k.toNat) hz (by omega)
    rw[Ew _ _ _ (pB hok)]at q;have hd2:=rT (o:=⟨c.toNat,(b.drop (i+1+1)).take k.toNat⟩) hl6;have hl2:=uj l ⟨c.toNat,(b.drop (i+1+1)).take k.toNat⟩;clear h1 hdr hdr2 hdd2;generalize df l ⟨c.toNat,(b.drop (i+1+1)).take k.toNat⟩=l2 at*
    have hz2:sized l2:=⟨by omega,fun o ho=>by have:=hd2 o ho;dsimp only at this;omega⟩
    have qR:=oy l2 hz2;have k9:(i:Int)+2+k.toNat≤b.length:=by omega
    cases hr2:cI l2 with
    |true=>
     rw[hr2]at qR;rw[hr2,if_pos rfl]at hr;rw[if_pos rfl]
     simp-implicitDefEqProofs (disch:=try exact dd) [cB, -List.map_take, -List.map_drop,e0,e4,e5,k6,hn0,hn1,k255,k0,k7,k8,k9,ht1,ht2,hsl]
     refine oc q ?_
     simp-implicitDefEqProofs (disch:=try exact dd) [cB, -List.map_take, -List.map_drop,e0,e4,e5,k6,hn0,hn1,k255,k0,k7,k8,ht1,ht2,hsl]
     refine oc qR ?_
     simp-implicitDefEqProofs (disch:=try exact dd) [cB, -List.map_take, -List.map_drop,e0,e4,e5,k6,hn0,hn1]
     exact cE (n,l2,i+2+k.toNat) (by refine⟨hr,by dsimp only;omega,by dsimp only;omega,hr2,?_,?_,?_⟩<;>simp-implicitDefEqProofs (disch:=try exact dd) [cB, -List.map_take, -List.map_drop,e0]) (by dsimp only;omega)
    |false=>
     rw[hr2]at qR;rw[if_neg (by decide)]
     simp-implicitDefEqProofs (disch:=try exact dd) [cB, -List.map_take, -List.map_drop,e0,e4,e5,k6,hn0,hn1,k255,k0,k7,k8,k9,ht1,ht2,hsl]
     refine oc q ?_
     simp-implicitDefEqProofs (disch:=try exact dd) [cB, -List.map_take, -List.map_drop,e0,e4,e5,k6,hn0,hn1,k255,k0,k7,k8,ht1,ht2,hsl]
     refine oc qR ?_
     simp-implicitDefEqProofs (disch:=try exact dd) [cB, -List.map_take, -List.map_drop,e0,e4,e5,k6,hn0,hn1]
  ·have hnil:b.drop (i+1)= []:=List.drop_eq_nil_of_le (by omega)
   rw[hnil];have h1:mu (n+1) l [c]=(2,[]):=by simp only[mu,c255,c0,aL]
   have k7:(b.length:Int)≤(i:Int)+1:=by omega
   simp-implicitDefEqProofs (disch:=try exact dd) [cB, -List.map_take, -List.map_drop,e0,e4,e5,k6,hn0,k255,k0,h1,k7]
 ·have k6: ¬(i:Int)<b.length:=by omega
  have hnil:b.drop i= []:=List.drop_eq_nil_of_le (by omega)
  rw[hnil];have h1:mu n l []=(0,l):=by cases n<;>rfl
  simp-implicitDefEqProofs (disch:=try exact dd) [cB, -List.map_take, -List.map_drop,e0,e4,e5,k6,h1]
def r3J(l m:List cN)(i:Nat)(S:PS):Prop:=
 i≤m.length∧S.t 1= .d (.slice (m.map cN.d))∧S.t 7= .d (.int .i64 i)∧S.t 6= .d (.slice (((m.take i).foldl df l).map cN.d))
theorem Hk(l m:List cN)(hl:sized l)(hm:sized m):cD Tryz.prog 229 [.d (.slice (l.map cN.d)),.d (.slice (m.map cN.d))] (.tup [.d (.slice ((vD l m).2.map cN.d)),.d (.int .i64 (vD l m).1)]) (fun _=>false):=by
 refine cD.bi Tryz.func229 [] ?_;have q1:=oy l hl;have q2:=oy m hm
 cases hr1:cI l with
 |false=>
  have hz:vD l m=(1,[]):=by unfold vD;rw[if_neg (by rw[hr1];simp)]
  rw[hr1]at q1;rw[hz]
  simp-implicitDefEqProofs (disch:=try exact dd) [cB]
  refine oc q1 ?_
  simp-implicitDefEqProofs (disch:=try exact dd) [cB]
 |true=>
 cases hr2:cI m with
 |false=>
  have hz:vD l m=(1,[]):=by unfold vD;rw[if_neg (by rw[hr2];simp)]
  rw[hr1]at q1;rw[hr2]at q2;rw[hz]
  simp-implicitDefEqProofs (disch:=try exact dd) [cB]
  refine oc q1 ?_
  simp-implicitDefEqProofs (disch:=try exact dd) [cB]
  refine oc q2 ?_
  simp-implicitDefEqProofs (disch:=try exact dd) [cB]
 |true=>
 have hl60:=fX hr1;have hm60:=fX hr2;have hfz: ∀i,sized ((m.take i).foldl df l):=fun i=>by
  have:=oM (l++m.take i) (by have:=hl60.1;have:=hm60.1;simp only[List.length_append,List.length_take];omega) (fun x hx=>by
   rcases List.mem_append.1 hx with h|h
   ·exact hl60.2 x h
   ·exact hm60.2 x (aA h))
  rwa[xq hr1]at this
 have hjn:vD l m=if cI (m.foldl df l)=true then(0,m.foldl df l)else(3,[]):=by unfold vD;rw[if_pos ⟨hr1,hr2⟩,xq hr1]
 rw[hjn];rw[hr1]at q1;rw[hr2]at q2
 simp-implicitDefEqProofs (disch:=try exact dd) [cB]
 refine oc q1 ?_
 simp-implicitDefEqProofs (disch:=try exact dd) [cB]
 refine oc q2 ?_
 simp-implicitDefEqProofs (disch:=try exact dd) [cB]
 refine lp (r3J l m) (fun i=>m.length-i) 0 (by refine⟨by omega,?_,?_,?_⟩<;>simp-implicitDefEqProofs (disch:=try exact dd) [cB]) ?_
 rintro i S ⟨hi,e1,e7,e6⟩;by_cases hlt:i<m.length
 ·have k6:(i:Int)<m.length:=by omega
  have hn:nth m (i:Int)=m[i]:=dB hlt;have hmem:=hm60.2 m[i] (List.getElem_mem hlt);have hz:=hfz i;have hst:(m.take (i+1)).foldl df l=df ((m.take i).foldl df l) m[i]:=by
   rw[List.take_succ_eq_append_getElem hlt,List.foldl_append];rfl
  have hco:=xG (m.take i) l (pB hr1)
  generalize(m.take i).foldl df l=out at*
  generalize m[i]=o at*
  have q:=uV out o.code o.data hz (by omega)
  rw[Ew _ _ _ hco]at q
  simp-implicitDefEqProofs (disch:=try exact dd) [cB,e1,e7,e6,k6,hn]
  refine oc q ?_
  simp-implicitDefEqProofs (disch:=try exact dd) [cB,e1,e7,e6,k6,hn]
  exact cE (i+1) (by refine⟨by omega,?_,?_,by rw[hst];simp-implicitDefEqProofs (disch:=try exact dd) [cB]⟩<;>simp-implicitDefEqProofs (disch:=try exact dd) [cB,e1]) (by omega)
 ·have k6: ¬(i:Int)<m.length:=by omega
  have ht:m.take i=m:=List.take_of_length_le (by omega)
  have hz:=hfz i;rw[ht]at e6 hz;generalize m.foldl df l=out at*
  have qR:=oy out hz
  cases hr3:cI out with
  |true=>
   rw[hr3]at qR;rw[if_pos rfl]
   simp-implicitDefEqProofs (disch:=try exact dd) [cB,e1,e7,e6,k6]
   refine oc qR ?_
   simp-implicitDefEqProofs (disch:=try exact dd) [cB,e6]
  |false=>
   rw[hr3]at qR;rw[if_neg (by decide)]
   simp-implicitDefEqProofs (disch:=try exact dd) [cB,e1,e7,e6,k6]
   refine oc qR ?_
   simp-implicitDefEqProofs (disch:=try exact dd) [cB,e6]
def dv(l:List cN)(c:Int):List cN:=l.filter fun o=>decide (o.code≠c)
def ji(l:List cN):Int×List cN×Int:=
 match cY l 52 with
 |none=>(0,l,0)
 |some [x]=>if 1≤x.toNat∧x.toNat≤3 then(0,dv l 52,x.toNat)else(2,[],0)
 |some _=>(2,[],0)
def fi(l:List cN)(area:List UInt8):Int×List cN:=
 if(sK area).1≠0 then((sK area).1,[])else if(cY (sK area).2 52).isSome=true then(2,[])else vD l (sK area).2
def kV(l:List cN)(v:Int)(b:List UInt8):Int×List cN:=
 if(if v=1∨v=3 then fi l ((b.take 236).drop 108)else(0,l)).1≠0 then(if v=1∨v=3 then fi l ((b.take 236).drop 108)else(0,l))else
 if v=2∨v=3 then fi (if v=1∨v=3 then fi l ((b.take 236).drop 108)else(0,l)).2 ((b.take 108).drop 44)else(if v=1∨v=3 then fi l ((b.take 236).drop 108)else(0,l))
def gE(b:List UInt8):Int×List cN:=
 if(sK (b.drop 240)).1≠0 then((sK (b.drop 240)).1,[])else
 if(ji (sK (b.drop 240)).2).1≠0 then(2,[])else kV (ji (sK (b.drop 240)).2).2.1 (ji (sK (b.drop 240)).2).2.2 b
theorem AJ: ∀(n:Nat) (l:List cN) (b:List UInt8),cI l=true→((mu n l b).1=0∧cI (mu n l b).2=true)∨(((mu n l b).1=2∨(mu n l b).1=3)∧(mu n l b).2= [])
 |0,l,b,h=> .inl ⟨rfl,h⟩
 |n+1,l,[],h=> .inl ⟨rfl,h⟩
 |n+1,l,c::r,h=>by
  unfold mu;split
  ·exact .inl ⟨rfl,h⟩
  ·split
   ·exact AJ n l r h
   ·split
    ·exact .inr ⟨.inl rfl,rfl⟩
    ·split
     ·exact .inr ⟨.inl rfl,rfl⟩
     ·split
      ·rename_i h2;exact AJ n _ _ h2
      ·exact .inr ⟨.inr rfl,rfl⟩
theorem oz(b:List UInt8):((sK b).1=0∧cI (sK b).2=true)∨(((sK b).1=2∨(sK b).1=3)∧(sK b).2= []):=AJ _ _ _ (by decide)
theorem qA(b:List UInt8):sized (sK b).2:=by
 rcases oz b with h|h
 ·obtain⟨h1,h2⟩:=fX h.2;exact⟨by omega,fun o ho=>by have:=h2 o ho;omega⟩
 ·rw[h.2];exact⟨by simp,by simp⟩
theorem mN{l:List cN}{c:Int}(h:cI l=true):cI (dv l c)=true:=by
 simp only[cI,Bool.and_eq_true,decide_eq_true_eq,List.all_eq_true]at h⊢;refine⟨⟨ao (List.length_filter_le _ _) h.1.1,fun o ho=>h.1.2 o (List.mem_filter.1 ho).1⟩,?_⟩
 exact h.2.sublist (List.filter_sublist.map _)
theorem nA{l:List cN}(hl:cI l=true)(a:List UInt8):((fi l a).1=0∧cI (fi l a).2=true)∨(((fi l a).1=2∨(fi l a).1=3)∧(fi l a).2= []):=by
 unfold fi;rcases oz a with h|h
 ·rw[if_neg (by simp[h.1])]
  split
  ·exact .inr ⟨.inl rfl,rfl⟩
  ·unfold vD;rw[if_pos ⟨hl,h.2⟩];split
   ·rename_i h2;exact .inl ⟨rfl,h2⟩
   ·exact .inr ⟨.inr rfl,rfl⟩
 ·rw[if_pos (by rcases h.1 with h|h<;>rw[h]<;>decide)]
  exact .inr ⟨h.1,rfl⟩
def Bi:Value:= .iface 246 (.agg #[.int .i64 2])
def Bh(w:List UInt8)(n:Int):Value:= .iface 328 (.agg #[.string ⟨w.toArray⟩,.iface 246 (.agg #[.int .i64 n])])
def rB(n:Int)(w:List UInt8):Value:=if n=0 then .nilIface else Bh w n
def mh(v:Value)(n:Int):Prop:=(n=0∧v= .nilIface)∨(n=2∧v=Bi)∨((n=2∨n=3)∧ ∃w,v=Bh w n)
theorem mh.IM{n:Int}{w:List UInt8}(h:n=0∨n=2∨n=3):mh (rB n w) n:=by
 unfold rB mh;rcases h with h|h|h
 ·subst h;exact .inl ⟨rfl,rfl⟩
 ·subst h;exact .inr (.inr ⟨.inl rfl,w,rfl⟩)
 ·subst h;exact .inr (.inr ⟨.inr rfl,w,rfl⟩)
@[simp] theorem SR{t:Nat}{v:Value}:cells (.opq (.iface t v))= [.opq (.iface t v)]:=rfl
@[simp] theorem XO:Sp Tryz.prog 0 246=some (.agg [.int .i64 2]):=by kernel_rfl
theorem xa(n:Int)(w:List UInt8):cD Tryz.prog 146 [.d (.int .i64 n),.d (.str w)] (.d (.opq (rB n w))) (fun _=>false):=by
 refine cD.bi Tryz.func146 [] ?_;unfold rB Bh;by_cases h:n=0
 ·rw[if_pos h]
  simp-implicitDefEqProofs (disch:=try exact dd) [cB,h]
 ·rw[if_neg h]
  simp-implicitDefEqProofs (disch:=try exact dd) [cB,h]
def tkI(l:List cN)(x:UInt8)(i:Nat)(S:PS):Prop:=
 i≤l.length∧S.t 5= .d (.slice [cM x])∧S.t 35= .d (.slice (l.map cN.d))∧S.t 36= .d (.int .i64 l.length)∧S.t 37= .d (.int .i64 i)∧S.t 7= .d (.slice ((dv (l.take i) 52).map cN.d))∧S.own (.t 7 0)=true
theorem Mz(l:List cN)(hl:sized l): ∃v,mh v (ji l).1∧cD Tryz.prog 147 [.d (.slice (l.map cN.d))] (.tup [.d (.slice ((ji l).2.1.map cN.d)),.d (.int .i64 (ji l).2.2),.d (.opq v)]) (fun _=>false):=by
 have q:=j9 l 52 hl;have hs:=hl.1;unfold ji
 cases hf:cY l 52 with
 |none=>
  rw[hf]at q;refine⟨.nilIface,.inl ⟨rfl,rfl⟩,?_⟩;refine cD.bi Tryz.func147 [44] ?_
  simp-implicitDefEqProofs (disch:=try exact dd) [cB]
  refine oc q ?_
  simp-implicitDefEqProofs (disch:=try exact dd) [cB]
 |some d=>
  rw[hf]at q
  match d,q with
  | [],q=>
    refine⟨Bi,.inr (.inl ⟨rfl,rfl⟩),?_⟩;refine cD.bi Tryz.func147 [44] ?_;unfold Bi
    simp-implicitDefEqProofs (disch:=try exact dd) [cB]
    refine oc q ?_
    simp-implicitDefEqProofs (disch:=try exact dd) [cB]
  |x::y::r,q=>
   refine⟨Bi,.inr (.inl ⟨rfl,rfl⟩),?_⟩;refine cD.bi Tryz.func147 [44] ?_;unfold Bi;have k1: ¬(r.length:Int)+1+1=1:=by omega
   simp-implicitDefEqProofs (disch:=try exact dd) [cB]
   refine oc q ?_
   simp-implicitDefEqProofs (disch:=try exact dd) [cB,k1]
  | [x],q=>
    have hx:=x.toNat_lt;dsimp only;by_cases h13:1≤x.toNat∧x.toNat≤3
    ·rw[if_pos h13];refine⟨.nilIface,.inl ⟨rfl,rfl⟩,?_⟩;refine cD.bi Tryz.func147 [44] ?_;have k1: ¬(x.toNat:Int)<1:=by omega
     have k2: ¬3<(x.toNat:Int):=by omega
     simp-implicitDefEqProofs (disch:=try exact dd) [cB]
     refine oc q ?_
     simp-implicitDefEqProofs (disch:=try exact dd) [cB,k1,k2]
     refine lp (tkI l x) (fun i=>l.length-i) 0 (by refine⟨by omega,?_,?_,?_,?_,?_,?_⟩<;>simp-implicitDefEqProofs (disch:=try exact dd) [cB,dv]) ?_
     rintro i S ⟨hi,e5,e35,e36,e37,e7,o7⟩;by_cases hlt:i<l.length
     ·have k6:(i:Int)<l.length:=by omega
      have hn:nth l (i:Int)=l[i]:=dB hlt;have hwl:(dv (l.take i) 52).length≤100000:=by
       have:=List.length_filter_le (fun o:cN=>decide (o.code≠52)) (l.take i)
       simp only[List.length_take]at this;unfold dv;omega
      by_cases hc:l[i].code=52
      ·have ht:dv (l.take (i+1)) 52=dv (l.take i) 52:=by
        unfold dv;rw[List.take_succ_eq_append_getElem hlt,List.filter_append];simp[hc]
       simp-implicitDefEqProofs (disch:=try exact dd) [cB,e5,e35,e36,e37,e7,o7,k6,hn,hc]
       exact cE (i+1) (by refine⟨by omega,?_,?_,?_,?_,by rw[ht];simp-implicitDefEqProofs (disch:=try exact dd) [cB,e7],?_⟩<;>simp-implicitDefEqProofs (disch:=try exact dd) [cB,e5,e35,e36,o7]) (by omega)
      ·have ht:dv (l.take (i+1)) 52=dv (l.take i) 52++ [l[i]]:=by
        unfold dv;rw[List.take_succ_eq_append_getElem hlt,List.filter_append];simp[hc]
       simp-implicitDefEqProofs (disch:=try exact dd) [cB,e5,e35,e36,e37,e7,o7,k6,hn,hc]
       exact cE (i+1) (by refine⟨by omega,?_,?_,?_,?_,by rw[ht];simp-implicitDefEqProofs (disch:=try exact dd) [cB,e7],?_⟩<;>simp-implicitDefEqProofs (disch:=try exact dd) [cB,e5,e35,e36,o7]) (by omega)
     ·have k6: ¬(i:Int)<l.length:=by omega
      have ht:l.take i=l:=List.take_of_length_le (by omega)
      rw[ht]at e7
      simp-implicitDefEqProofs (disch:=try exact dd) [cB,e5,e35,e36,e37,e7,o7,k6]
    ·rw[if_neg h13];refine⟨Bi,.inr (.inl ⟨rfl,rfl⟩),?_⟩;refine cD.bi Tryz.func147 [44] ?_;unfold Bi
     simp-implicitDefEqProofs (disch:=try exact dd) [cB]
     refine oc q ?_;by_cases k1:(x.toNat:Int)<1
     ·simp-implicitDefEqProofs (disch:=try exact dd) [cB,k1]
     ·have k2:3<(x.toNat:Int):=by omega
      simp-implicitDefEqProofs (disch:=try exact dd) [cB,k1,k2]
theorem vX(l:List cN)(a:List UInt8)(hl:cI l=true)(ha:a.length≤100000): ∃v,mh v (fi l a).1∧cD Tryz.prog 148 [.d (.slice (l.map cN.d)),.d (.slice (a.map cM))] (.tup [.d (.slice ((fi l a).2.map cN.d)),.d (.opq v)]) (fun _=>false):=by
 have q1:=FB a ha;have hz:=qA a;have he:=oz a;have hz0:sized l:=by
  obtain⟨h1,h2⟩:=fX hl;exact⟨by omega,fun o ho=>by have:=h2 o ho;omega⟩
 have hm:=nA hl a;unfold fi at hm⊢;generalize sK a=p at*
 obtain⟨e,m⟩:=p;dsimp only at q1 hz he hm⊢;have q2:=j9 m 52 hz;by_cases h0:e=0
 ·subst h0;rw[if_neg (by decide)]at hm⊢
  cases hf:cY m 52 with
  |some d=>
   rw[hf]at q2;rw[Option.isSome_some,if_pos rfl];refine⟨Bh [116,119,105,99,101] 2,.inr (.inr ⟨.inl rfl,_,rfl⟩),?_⟩;refine cD.bi Tryz.func148 [] ?_;unfold Bh
   simp-implicitDefEqProofs (disch:=try exact dd) [cB]
   refine oc q1 ?_
   simp-implicitDefEqProofs (disch:=try exact dd) [cB]
   refine oc q2 ?_
   simp-implicitDefEqProofs (disch:=try exact dd) [cB]
  |none=>
   rw[hf]at q2 hm;rw[bj,if_neg (by decide)]at hm⊢
   have q3:=LP l m hz0 hz;generalize vD l m=j at*
   obtain⟨f,o⟩:=j;dsimp only at q3 hm⊢;have q4:=xa f [106,111,105,110];refine⟨rB f [106,111,105,110],mh.IM (by omega),?_⟩
   refine cD.bi Tryz.func148 [] ?_
   simp-implicitDefEqProofs (disch:=try exact dd) [cB]
   refine oc q1 ?_
   simp-implicitDefEqProofs (disch:=try exact dd) [cB]
   refine oc q2 ?_
   simp-implicitDefEqProofs (disch:=try exact dd) [cB]
   refine oc q3 ?_
   simp-implicitDefEqProofs (disch:=try exact dd) [cB]
   refine oc q4 ?_
   simp-implicitDefEqProofs (disch:=try exact dd) [cB]
 ·rw[if_pos h0];have q4:=xa e [97,114,101,97];refine⟨rB e [97,114,101,97],mh.IM (by omega),?_⟩
  refine cD.bi Tryz.func148 [] ?_
  simp-implicitDefEqProofs (disch:=try exact dd) [cB]
  refine oc q1 ?_
  simp-implicitDefEqProofs (disch:=try exact dd) [cB,h0]
  refine oc q4 ?_
  simp-implicitDefEqProofs (disch:=try exact dd) [cB]
theorem mh.z{v:Value}(h:mh v 0):v= .nilIface:=by
 rcases h with h|h|h
 ·exact h.2
 ·exact absurd h.1 (by decide)
 ·rcases h.1 with h|h<;>exact absurd h (by decide)
theorem mh.nz{v:Value}{n:Int}(h:mh v n)(hn:n≠0): ∃t u,v= .iface t u:=by
 rcases h with h|h|h
 ·exact absurd h.1 hn
 ·exact⟨_,_,h.2⟩
 ·obtain⟨w,h⟩:=h.2;exact⟨_,_,h⟩
theorem BP{l:List cN}(hl:cI l=true):(ji l=(2,[],0))∨ ∃m v,ji l=(0,m,v)∧cI m=true∧(v=0∨v=1∨v=2∨v=3):=by
 unfold ji
 cases hf:cY l 52 with
 |none=>exact .inr ⟨l,0,rfl,hl,.inl rfl⟩
 |some d=>
  match d with
  | []=>exact .inl rfl
  |_::_::_=>exact .inl rfl
  | [x]=>
    dsimp only;split
    ·exact .inr ⟨_,_,rfl,mN hl,by omega⟩
    ·exact .inl rfl
theorem AS(m:List cN)(b:List UInt8):kV m 0 b=(0,m):=by simp[kV]
theorem D2(m:List cN)(b:List UInt8):kV m 1 b=fi m ((b.take 236).drop 108):=by simp[kV]
theorem D1(m:List cN)(b:List UInt8):kV m 2 b=fi m ((b.take 108).drop 44):=by simp[kV]
theorem AR(m:List cN)(b:List UInt8):kV m 3 b=if(fi m ((b.take 236).drop 108)).1≠0 then fi m ((b.take 236).drop 108)else fi (fi m ((b.take 236).drop 108)).2 ((b.take 108).drop 44):=by simp[kV]
theorem Ed(b:List UInt8)(h240:240≤b.length)(hb:b.length≤100000): ∃v,mh v (gE b).1∧cD Tryz.prog 87 [.d (.slice (b.map cM))] (.tup [.d (.slice ((gE b).2.map cN.d)),.d (.opq v)]) (fun _=>false):=by
 have q1:=FB (b.drop 240) (by simp;omega)
 have he:=oz (b.drop 240);have hz:=qA (b.drop 240);have hf1:((b.take 236).drop 108).length≤100000:=by simp only[List.length_drop,List.length_take];omega
 have hf2:((b.take 108).drop 44).length≤100000:=by simp only[List.length_drop,List.length_take];omega
 have a01:tI .i64 0 1=0:=by decide
 have a02:tI .i64 0 2=0:=by decide
 have a11:tI .i64 1 1=1:=by decide
 have a12:tI .i64 1 2=0:=by decide
 have a21:tI .i64 2 1=0:=by decide
 have a22:tI .i64 2 2=2:=by decide
 have a31:tI .i64 3 1=1:=by decide
 have a32:tI .i64 3 2=2:=by decide
 have hlen:(240:Int)≤b.length:=by omega
 unfold gE;generalize sK (b.drop 240)=p at*
 obtain⟨e,l⟩:=p;dsimp only at q1 he hz⊢;by_cases h0:e=0
 ·subst h0;have hl:cI l=true:=by
   rcases he with h|h
   ·exact h.2
   ·rcases h.1 with h|h<;>exact absurd h (by decide)
  rw[if_neg (by decide)]
  obtain⟨v1,hv1,q2⟩:=Mz l hz;rcases BP hl with ht|⟨m,v,ht,hm,hv⟩
  ·rw[ht]at hv1 q2⊢;obtain⟨t,u,rfl⟩:=hv1.nz (by decide)
   refine⟨_,hv1,?_⟩;refine cD.bi Tryz.func87 [] ?_
   simp-implicitDefEqProofs (disch:=try exact dd) [cB, -List.map_take, -List.map_drop]
   refine oc q1 ?_
   simp-implicitDefEqProofs (disch:=try exact dd) [cB, -List.map_take, -List.map_drop]
   refine oc q2 ?_
   simp-implicitDefEqProofs (disch:=try exact dd) [cB, -List.map_take, -List.map_drop]
  ·rw[ht]at hv1 q2⊢;have e1:=hv1.z;subst e1;dsimp only at q2⊢;rw[if_neg (by decide)]
   rcases hv with rfl|rfl|rfl|rfl
   ·rw[AS];refine⟨_,hv1,?_⟩;refine cD.bi Tryz.func87 [] ?_
    simp-implicitDefEqProofs (disch:=try exact dd) [cB, -List.map_take, -List.map_drop]
    refine oc q1 ?_
    simp-implicitDefEqProofs (disch:=try exact dd) [cB, -List.map_take, -List.map_drop]
    refine oc q2 ?_
    simp-implicitDefEqProofs (disch:=try exact dd) [cB, -List.map_take, -List.map_drop,a01,a02]
   ·rw[D2];obtain⟨v2,hv2,q3⟩:=vX m _ hm hf1;refine⟨_,hv2,?_⟩;by_cases hz3:(fi m ((b.take 236).drop 108)).1=0
    ·rw[hz3]at hv2;have e2:=hv2.z;subst e2;refine cD.bi Tryz.func87 [] ?_
     simp-implicitDefEqProofs (disch:=try exact dd) [cB, -List.map_take, -List.map_drop]
     refine oc q1 ?_
     simp-implicitDefEqProofs (disch:=try exact dd) [cB, -List.map_take, -List.map_drop]
     refine oc q2 ?_
     simp-implicitDefEqProofs (disch:=try exact dd) [cB, -List.map_take, -List.map_drop,a11,a12]
     refine oc q3 ?_
     simp-implicitDefEqProofs (disch:=try exact dd) [cB, -List.map_take, -List.map_drop,a11,a12]
    ·obtain⟨t,u,rfl⟩:=hv2.nz hz3;refine cD.bi Tryz.func87 [] ?_
     simp-implicitDefEqProofs (disch:=try exact dd) [cB, -List.map_take, -List.map_drop]
     refine oc q1 ?_
     simp-implicitDefEqProofs (disch:=try exact dd) [cB, -List.map_take, -List.map_drop]
     refine oc q2 ?_
     simp-implicitDefEqProofs (disch:=try exact dd) [cB, -List.map_take, -List.map_drop,a11,a12]
     refine oc q3 ?_
     simp-implicitDefEqProofs (disch:=try exact dd) [cB, -List.map_take, -List.map_drop,a11,a12]
   ·rw[D1];obtain⟨v2,hv2,q3⟩:=vX m _ hm hf2;refine⟨_,hv2,?_⟩;refine cD.bi Tryz.func87 [] ?_
    simp-implicitDefEqProofs (disch:=try exact dd) [cB, -List.map_take, -List.map_drop]
    refine oc q1 ?_
    simp-implicitDefEqProofs (disch:=try exact dd) [cB, -List.map_take, -List.map_drop]
    refine oc q2 ?_
    simp-implicitDefEqProofs (disch:=try exact dd) [cB, -List.map_take, -List.map_drop,a21,a22]
    refine oc q3 ?_
    simp-implicitDefEqProofs (disch:=try exact dd) [cB, -List.map_take, -List.map_drop,a21,a22]
   ·rw[AR];obtain⟨v2,hv2,q3⟩:=vX m _ hm hf1;have hm2:=nA hm ((b.take 236).drop 108);generalize fi m ((b.take 236).drop 108)=p at*
    obtain⟨e2,l2⟩:=p;dsimp only at hv2 q3 hm2⊢;by_cases hz3:e2=0
    ·subst hz3;rw[if_neg (by decide)]
     have e2:=hv2.z;subst e2;have hm3:cI l2=true:=by
      rcases hm2 with h|h
      ·exact h.2
      ·rcases h.1 with h|h<;>exact absurd h (by decide)
     obtain⟨v3,hv3,q4⟩:=vX l2 _ hm3 hf2;refine⟨_,hv3,?_⟩;refine cD.bi Tryz.func87 [] ?_
     simp-implicitDefEqProofs (disch:=try exact dd) [cB, -List.map_take, -List.map_drop]
     refine oc q1 ?_
     simp-implicitDefEqProofs (disch:=try exact dd) [cB, -List.map_take, -List.map_drop]
     refine oc q2 ?_
     simp-implicitDefEqProofs (disch:=try exact dd) [cB, -List.map_take, -List.map_drop,a31,a32]
     refine oc q3 ?_
     simp-implicitDefEqProofs (disch:=try exact dd) [cB, -List.map_take, -List.map_drop,a31,a32]
     refine oc q4 ?_
     simp-implicitDefEqProofs (disch:=try exact dd) [cB, -List.map_take, -List.map_drop,a31,a32]
    ·rw[if_pos hz3];obtain⟨t,u,rfl⟩:=hv2.nz hz3;refine⟨_,hv2,?_⟩;refine cD.bi Tryz.func87 [] ?_
     simp-implicitDefEqProofs (disch:=try exact dd) [cB, -List.map_take, -List.map_drop]
     refine oc q1 ?_
     simp-implicitDefEqProofs (disch:=try exact dd) [cB, -List.map_take, -List.map_drop]
     refine oc q2 ?_
     simp-implicitDefEqProofs (disch:=try exact dd) [cB, -List.map_take, -List.map_drop,a31,a32]
     refine oc q3 ?_
     simp-implicitDefEqProofs (disch:=try exact dd) [cB, -List.map_take, -List.map_drop,a31,a32]
 ·rw[if_pos h0];refine⟨rB e [111,112,116,105,111,110,115],mh.IM (by omega),?_⟩
  have q4:=xa e [111,112,116,105,111,110,115];refine cD.bi Tryz.func87 [] ?_
  simp-implicitDefEqProofs (disch:=try exact dd) [cB, -List.map_take, -List.map_drop]
  refine oc q1 ?_
  simp-implicitDefEqProofs (disch:=try exact dd) [cB, -List.map_take, -List.map_drop,h0]
  refine oc q4 ?_
  simp-implicitDefEqProofs (disch:=try exact dd) [cB, -List.map_take, -List.map_drop]
def mP:Nat→List UInt8→Option (List cN)
 |_,[]=>some []
 |0,_=>none
 |_+1,[_]=>none
 |n+1,c::k::r=>if r.length<k.toNat then none else(mP n (r.drop k.toNat)).map (⟨c.toNat,r.take k.toNat⟩:: ·)
def il(b:List UInt8):Option (List cN):=mP b.length b
theorem u6: ∀(n m:Nat) (b:List UInt8),b.length≤n→b.length≤m→mP n b=mP m b
 |n,m,[],_,_=>by cases n<;>cases m<;>rfl
 |0,_,x::r,h,_=>by simp at h
 |_,0,x::r,_,h=>by simp at h
 |n+1,m+1,[x],_,_=>rfl
 |n+1,m+1,c::k::r,h1,h2=>by
  simp only[mP];simp only[List.length_cons]at h1 h2;rw[u6 n m (r.drop k.toNat) (by simp;omega) (by simp;omega)]
theorem wQ:il []=some []:=rfl
theorem wP(x:UInt8):il [x]=none:=rfl
theorem rL(c k:UInt8)(r:List UInt8):il (c::k::r)=if r.length<k.toNat then none else(il (r.drop k.toNat)).map (⟨c.toNat,r.take k.toNat⟩:: ·):=by
 unfold il;simp only[List.length_cons,mP];rw[u6 (r.length+1) (r.drop k.toNat).length _ (by simp;omega) (Nat.le_refl _)]
theorem sN: ∀(n:Nat) (b:List UInt8) (l:List cN),b.length≤n→mP n b=some l→l.length≤b.length∧ ∀o∈l,o.data.length≤255∧o.data.length≤b.length
 |n,[],l,_,h=>by cases n<;>(simp[mP]at h;subst h;simp)
 |0,x::r,l,h,_=>by simp at h
 |n+1,[x],l,_,h=>by simp[mP]at h
 |n+1,c::k::r,l,hl,h=>by
  simp only[mP]at h
  split at h
  ·cases h
  ·rename_i hk;simp only[Option.map_eq_some_iff]at h;obtain⟨l',h',rfl⟩:=h;simp only[List.length_cons]at hl;obtain⟨h1,h2⟩:=sN n _ l' (by simp;omega) h'
   have hk2:=k.toNat_lt;simp only[List.length_drop]at h1 h2;refine⟨by simp only[List.length_cons];omega,fun o ho=>?_⟩
   rcases List.mem_cons.1 ho with rfl|ho
   ·simp only[List.length_take,List.length_cons];omega
   ·have:=h2 o ho;simp only[List.length_cons];omega
theorem AO{b:List UInt8}{l:List cN}(hb:b.length≤600)(h:il b=some l):sized l:=by
 obtain⟨h1,h2⟩:=sN _ b l (Nat.le_refl _) h;exact⟨by omega,fun o ho=>by have:=(h2 o ho).1;omega⟩
def lR(b:List UInt8):Int:=if 600<b.length then 3 else if(il b).isSome=true then 0 else 2
def d_(b:List UInt8):List cN:=if 600<b.length then[]else(il b).getD []
theorem AN(b:List UInt8):sized (d_ b):=by
 unfold d_;split
 ·exact⟨by simp,by simp⟩
 ·rename_i h
  cases hp:il b with
  |none=>exact⟨by simp,by simp⟩
  |some l=>exact AO (by omega) hp
def lZ(b:List UInt8):Option Int:=match(d_ b).find? fun o=>decide (o.code=5)with|some o=>if o.data.length=4 then some (fC o.data)else none|none=>none
theorem DY{b:List UInt8}{out:List cN}{rest:List UInt8}(hp:il b=(il rest).map (out++ ·)){c k:UInt8}{r:List UInt8}(hr:rest=c::k::r)(hk: ¬r.length<k.toNat):
 il b=(il (r.drop k.toNat)).map ((out++ [⟨c.toNat,r.take k.toNat⟩])++ ·):=by
 rw[hp,hr,rL,if_neg hk]
 cases il (r.drop k.toNat)<;>simp
def rpI(b:List UInt8)(p:List cN×List UInt8)(S:PS):Prop:=
 p.2.length≤600∧p.1.length+p.2.length≤600∧(∀o∈p.1,o.data.length≤600)∧il b=(il p.2).map (p.1++ ·)∧S.t 4= .d (.slice (p.1.map cN.d))∧S.own (.t 4 0)=true∧S.t 5= .d (.slice (p.2.map cM))
theorem DN(b:List UInt8)(hb:b.length≤100000):cD Tryz.prog 340 [.d (.slice (b.map cM))] (.tup [.d (.slice ((d_ b).map cN.d)),.d (.int .i64 (lR b))]) (fun _=>false):=by
 refine cD.bi Tryz.func340 [34] ?_;by_cases hbig:(600:Int)<b.length
 ·have h1:lR b=3:=by simp only[lR,if_pos (show 600<b.length by omega)]
  have h2:d_ b= []:=by simp only[d_,if_pos (show 600<b.length by omega)]
  simp-implicitDefEqProofs (disch:=try exact dd) [cB,hbig,h1,h2]
 have h0: ¬600<b.length:=by omega
 simp-implicitDefEqProofs (disch:=try exact dd) [cB,hbig]
 refine lp (rpI b) (fun p=>p.2.length) ([],b) ⟨by simp;omega,by simp;omega,by simp,by simp,by simp⟩ ?_
 rintro⟨out,rest⟩ S ⟨hr,hor,hod,hp,e4,o4,e5⟩;simp only at hr hor hod hp e4 e5
 match rest,hr,hor,hp,e5 with
 | [],hr,hor,hp,e5=>
   have h1:lR b=0:=by simp[lR,h0,hp,wQ]
   have h2:d_ b=out:=by simp[d_,h0,hp,wQ]
   simp-implicitDefEqProofs (disch:=try exact dd) [cB,e4,o4,e5,h1,h2]
 | [x],hr,hor,hp,e5=>
   have h1:lR b=2:=by simp[lR,h0,hp,wP]
   have h2:d_ b= []:=by simp[d_,h0,hp,wP]
   simp-implicitDefEqProofs (disch:=try exact dd) [cB,e4,o4,e5,h1,h2]
 |c::k::r,hr,hor,hp,e5=>
  have hk2:=k.toNat_lt;simp only[List.length_cons]at hr hor;by_cases hk:r.length<k.toNat
  ·have h1:lR b=2:=by simp[lR,h0,hp,rL,hk]
   have h2:d_ b= []:=by simp[d_,h0,hp,rL,hk]
   have k1: ¬(r.length:Int)+1+1<2:=by omega
   have k2:(r.length:Int)+1+1<2+k.toNat:=by omega
   simp-implicitDefEqProofs (disch:=try exact dd) [cB,e4,o4,e5,h1,h2,k1,k2]
  ·have k1: ¬(r.length:Int)+1+1<2:=by omega
   have k2: ¬(r.length:Int)+1+1<2+k.toNat:=by omega
   have hst:=DY hp rfl hk;have ht:((2:Int)+k.toNat).toNat=k.toNat+1+1:=by omega
   simp-implicitDefEqProofs (disch:=try exact dd) [cB, -List.map_take, -List.map_drop,e4,o4,e5,k1,k2,ht]
   exact cE (out++ [⟨c.toNat,r.take k.toNat⟩],r.drop k.toNat) ⟨by simp;omega,by simp;omega,by
    intro o ho;rcases List.mem_append.1 ho with h|h
    ·exact hod o h
    ·simp at h;subst h;simp
     omega,hst,by simp-implicitDefEqProofs (disch:=try exact dd) [cB, -List.map_take, -List.map_drop,e4,o4,e5,ht]⟩ (by simp;omega)
def loI(b:List UInt8)(i:Nat)(S:PS):Prop:=
 i≤(d_ b).length∧(∀j (hj:j<i) (hl:j<(d_ b).length),(d_ b)[j].code≠5)∧S.t 17= .d (.slice ((d_ b).map cN.d))∧S.t 18= .d (.int .i64 (d_ b).length)∧S.t 19= .d (.int .i64 i)
theorem M3{l:List cN}{c:Int}{i:Nat}(hi:i<l.length)(hn: ∀j (hj:j<i) (hl:j<l.length),l[j].code≠c)(hc:l[i].code=c):(l.find? fun o=>decide (o.code=c))=some l[i]:=by
 rw[List.find?_eq_some_iff_getElem];exact⟨by simpa using hc,i,hi,rfl,fun j hj=>by simpa using hn j hj (by omega)⟩
theorem K3{l:List cN}{c:Int}{i:Nat}(hi: ¬i<l.length)(hn: ∀j (hj:j<i) (hl:j<l.length),l[j].code≠c):(l.find? fun o=>decide (o.code=c))=none:=by
 rw[List.find?_eq_none];intro o ho;obtain⟨j,hj,rfl⟩:=List.mem_iff_getElem.1 ho
 simpa using hn j (by omega) hj
theorem He(b:List UInt8)(hb:b.length≤100000):cD Tryz.prog 334 [.d (.slice (b.map cM))] (.tup [.d (.int .i64 ((lZ b).getD 0)),.d (.bool (lZ b).isSome)]) (fun _=>false):=by
 refine cD.bi Tryz.func334 [] ?_
 simp-implicitDefEqProofs (disch:=try exact dd) [cB]
 refine oc (DN b hb) ?_;by_cases hE:lR b=0
 ·have hsz:=AN b;have hs:=hsz.1
  simp-implicitDefEqProofs (disch:=try exact dd) [cB,hE]
  refine lp (loI b) (fun i=>(d_ b).length-i) 0 ⟨by omega,by simp,by simp⟩ ?_
  rintro i S ⟨hi,hn,e17,e18,e19⟩;by_cases hlt:i<(d_ b).length
  ·have k6:(i:Int)<(d_ b).length:=by omega
   have hz:=lJ hsz hlt;by_cases hc:(d_ b)[i].code=5
   ·have hfa:=M3 hlt hn hc;by_cases h4:(d_ b)[i].data.length=4
    ·have hl:lZ b=some (fC (d_ b)[i].data):=by simp only[lZ,hfa,if_pos h4]
     have hgE:mc (d_ b)[i].data 0 4=0:=by simp[mc,h4]
     have hgV:lj (d_ b)[i].data 0 4=fC (d_ b)[i].data:=by
      simp only[lj,hgE,if_true];simp[h4,List.take_of_length_le]
     have hg:=oS (d_ b)[i].data 0 4 (by omega)
     rw[hgE,hgV]at hg;have h4':((d_ b)[i].data.length:Int)=4:=by omega
     simp-implicitDefEqProofs (disch:=try exact dd) [cB,e17,e18,e19,k6,hc]
     refine oc hg ?_
     simp-implicitDefEqProofs (disch:=try exact dd) [cB,e17,e18,e19,k6,hc,h4',hl]
    ·have hl:lZ b=none:=by simp only[lZ,hfa,if_neg h4]
     have h4': ¬((d_ b)[i].data.length:Int)=4:=by omega
     simp-implicitDefEqProofs (disch:=try exact dd) [cB,e17,e18,e19,k6,hc]
     refine oc (oS (d_ b)[i].data 0 4 (by omega)) ?_
     simp-implicitDefEqProofs (disch:=try exact dd) [cB,e17,e18,e19,k6,hc,h4',hl]
   ·simp-implicitDefEqProofs (disch:=try exact dd) [cB,e17,e18,e19,k6,hc]
    exact cE (i+1) ⟨by omega,fun j hj hl=>by
     rcases aR j i with h|h
     ·exact hn j h hl
     ·have:j=i:=by omega
      subst this;exact hc,by simp-implicitDefEqProofs (disch:=try exact dd) [cB,e17,e18,e19]⟩ (by omega)
  ·have k6: ¬(i:Int)<(d_ b).length:=by omega
   have hl:lZ b=none:=by simp only[lZ,K3 hlt hn]
   simp-implicitDefEqProofs (disch:=try exact dd) [cB,e17,e18,e19,k6,hl]
 ·have hv:d_ b= []:=by
   unfold lR at hE;unfold d_;split
   ·rfl
   ·rename_i h;rw[if_neg h]at hE
    cases hp:il b with
    |none=>rfl
    |some l=>simp[hp]at hE
  have hl:lZ b=none:=by simp[lZ,hv]
  simp-implicitDefEqProofs (disch:=try exact dd) [cB,hE,hl]
def fa(l:List cN)(c:Int):Option Int:=match cY l c with|some d=>if d.length=4 then some (fC d)else none|none=>none
theorem gF{l:List cN}{c:Int}{d:List UInt8}(hl:sized l)(h:cY l c=some d):d.length≤100000:=by
 unfold cY at h;simp only[Option.map_eq_some_iff]at h;obtain⟨o,ho,rfl⟩:=h;exact hl.2 o (List.mem_of_find?_eq_some ho)
def db(m:ee):Bool:=
 decide (0≤m.op∧m.op≤255)&&decide (0≤m.htype∧m.htype≤255)&&decide (0≤m.hlen∧m.hlen≤16)&&decide (0≤m.hops∧m.hops≤255)&&
 dD m.xid&&decide (0≤m.secs∧m.secs≤65535)&&decide (0≤m.flags∧m.flags≤65535)&&dD m.ci&&dD m.yi&&dD m.si&&dD m.gi&&
 decide (m.chaddr.length=16)&&cI m.opts&&(cY m.opts 52).isNone
def ez(m:ee):Prop:=m.chaddr.length≤100000∧sized m.opts
theorem CK(l:List cN)(c:Int):(cY l c).isNone=decide (gS l c=0):=by
 have h0:gS l c=0↔(l.countP fun o=>decide (o.code=c))=0:=by unfold gS;omega
 rw[Bool.eq_iff_iff,decide_eq_true_eq,h0,bJ];simp[cY]
theorem jT(l:List cN)(c:Int)(hl:sized l):cD Tryz.prog 201 [.d (.slice (l.map cN.d)),.d (.int .i64 c)] (.tup [.d (.int .i64 ((fa l c).getD 0)),.d (.bool (fa l c).isSome)]) (fun _=>false):=by
 refine cD.bi Tryz.func201 [] ?_
 simp-implicitDefEqProofs (disch:=try exact dd) [cB]
 refine oc (j9 l c hl) ?_
 cases hf:cY l c with
 |none=>
  have hn:fa l c=none:=by simp[fa,hf]
  simp-implicitDefEqProofs (disch:=try exact dd) [cB,hn]
 |some d=>
  have hd:=gF hl hf;by_cases h4:d.length=4
  ·have hn:fa l c=some (fC d):=by simp[fa,hf,h4]
   have hgE:mc d 0 4=0:=by simp[mc,h4]
   have hgV:lj d 0 4=fC d:=by
    simp only[lj,hgE,if_true];simp[h4,List.take_of_length_le]
   have hg:=oS d 0 4 (by omega)
   rw[hgE,hgV]at hg;have h4':(d.length:Int)=4:=by omega
   simp-implicitDefEqProofs (disch:=try exact dd) [cB,h4']
   refine oc hg ?_
   simp-implicitDefEqProofs (disch:=try exact dd) [cB,hn]
  ·have hn:fa l c=none:=by simp[fa,hf,h4]
   have h4': ¬(d.length:Int)=4:=by omega
   simp-implicitDefEqProofs (disch:=try exact dd) [cB,h4',hn]
theorem uU(l:List cN)(c:Int)(hl:sized l):cD Tryz.prog 33 [.d (.slice (l.map cN.d)),.d (.int .i64 c)] (.tup [.d (.int .i64 ((fa l c).getD 0)),.d (.bool (fa l c).isSome)]) (fun _=>false):=by
 refine cD.bi Tryz.func33 [] ?_
 simp-implicitDefEqProofs (disch:=try exact dd) [cB]
 refine oc (tZ l c hl) ?_
 cases hf:cY l c with
 |none=>
  have hn:fa l c=none:=by simp[fa,hf]
  simp-implicitDefEqProofs (disch:=try exact dd) [cB,hn]
 |some d=>
  have hd:=gF hl hf;by_cases h4:d.length=4
  ·have hn:fa l c=some (fC d):=by simp[fa,hf,h4]
   have h4':(d.length:Int)=4:=by omega
   simp-implicitDefEqProofs (disch:=try exact dd) [cB,h4']
   refine oc (ig d (by omega)) ?_
   simp-implicitDefEqProofs (disch:=try exact dd) [cB,hn]
  ·have hn:fa l c=none:=by simp[fa,hf,h4]
   have h4': ¬(d.length:Int)=4:=by omega
   simp-implicitDefEqProofs (disch:=try exact dd) [cB,h4',hn]
theorem ny(n k:Int):cD Tryz.prog 224 [.d (.int .i64 n),.d (.int .i64 k)] (.d (.bool (decide (0≤n∧n≤k)))) (fun _=>false):=by
 refine cD.bi Tryz.func224 [] ?_
 repeat' (first|(simp-implicitDefEqProofs (disch:=try exact dd) [*,cB])|(refine dt ?_ ?_<;>intro hc<;>have hc2:=hc<;>(try simp only[dQ]at hc2)<;>try omega)|(refine dm ?_ ?_<;>intro hc<;>have hc2:=hc<;>(try simp only[dQ]at hc2)<;>try omega)|(refine dc (by omega) ?_)|(split<;>try omega)|omega)
def Xn(m:ee)(i:Nat)(S:PS):Prop:=
 i≤3∧(∀j,j<i→ ∀x,[m.op,m.htype,m.hops][j]? =some x→0≤x∧x≤255)∧S.t 1= .ptr (FO+1) 1 0∧S.gen (FO+1)=1∧S.box (FO+1)=(cells m.d).map .d∧S.t 15= .d (.slice [.int .i64 m.op,.int .i64 m.htype,.int .i64 m.hops])∧S.t 16= .d (.int .i64 3)∧S.t 17= .d (.int .i64 i)
def Xm(m:ee)(i:Nat)(S:PS):Prop:=
 i≤5∧(∀j,j<i→ ∀x,[m.xid,m.ci,m.yi,m.si,m.gi][j]? =some x→dD x=true)∧S.t 1= .ptr (FO+1) 1 0∧S.gen (FO+1)=1∧S.box (FO+1)=(cells m.d).map .d∧S.t 35= .d (.slice [.int .i64 m.xid,.int .i64 m.ci,.int .i64 m.yi,.int .i64 m.si,.int .i64 m.gi])∧S.t 36= .d (.int .i64 5)∧S.t 37= .d (.int .i64 i)
theorem sW(m:ee)(hm:ez m):cD Tryz.prog 124 [.d m.d] (.d (.bool (db m))) (fun _=>false):=by
 refine cD.bi Tryz.func124 [] ?_;obtain⟨hc,hs⟩:=hm
 simp-implicitDefEqProofs (disch:=try exact dd) [cB]
 refine lp (Xn m) (fun i=>3-i) 0 ⟨by omega,by simp,by simp⟩ ?_
 rintro i S ⟨hi,hn,e1,eg,eb,e15,e16,e17⟩;simp only[ee.iR,eu,List.map_cons,List.map_nil]at eb;by_cases hlt:i<3
 ·have hx: ∃x,[m.op,m.htype,m.hops][i]? =some x∧([DV.int .i64 m.op,.int .i64 m.htype,.int .i64 m.hops])[i]? =some (.int .i64 x)∧(¬(0≤x∧x≤255)→db m=false):=by
   match i,hlt with
   |0,_=>exact⟨m.op,rfl,rfl,fun h=>by simp only[db,decide_eq_false h,aV]⟩
   |1,_=>exact⟨m.htype,rfl,rfl,fun h=>by simp only[db,decide_eq_false h,aV,Bool.and_false]⟩
   |2,_=>exact⟨m.hops,rfl,rfl,fun h=>by simp only[db,decide_eq_false h,aV,Bool.and_false]⟩
  obtain⟨x,hx1,hx2,hx3⟩:=hx;have hL:=e15
  generalize[DV.int .i64 m.op,.int .i64 m.htype,.int .i64 m.hops]=L at hL hx2
  by_cases hw:0≤x∧x≤255
  ·simp-implicitDefEqProofs (disch:=try exact dd) [cB,e1,eg,eb,hL,e16,e17,eK,hx2]
   refine oc (ny x 255) ?_
   simp-implicitDefEqProofs (disch:=try exact dd) [cB,e1,eg,eb,e15,e16,e17,hw]
   exact cE (i+1) ⟨by omega,fun j hj y hy=>by
    rcases aR j i with h|h
    ·exact hn j h y hy
    ·have:j=i:=by omega
     subst this;rw[hx1]at hy
     cases hy
     exact hw,by simp-implicitDefEqProofs (disch:=try exact dd) [cB,e1,eg,eb,e15,e16,e17]⟩ (by omega)
  ·have hf:=hx3 hw
   simp-implicitDefEqProofs (disch:=try exact dd) [cB,e1,eg,eb,hL,e16,e17,eK,hx2]
   refine oc (ny x 255) ?_;rw[decide_eq_false hw]
   simp-implicitDefEqProofs (disch:=try exact dd) [cB,e1,eg,eb,e15,e16,e17,hf]
 ·have hi3:i=3:=by omega
  subst hi3;have n1:=hn 0 (by omega) m.op rfl
  have n2:=hn 1 (by omega) m.htype rfl
  have n3:=hn 2 (by omega) m.hops rfl
  simp-implicitDefEqProofs (disch:=try exact dd) [cB,e1,eg,eb,e15,e16,e17]
  refine lp (Xm m) (fun i=>5-i) 0 ⟨by omega,by simp,by simp-implicitDefEqProofs (disch:=try exact dd) [cB,e1,eg,eb,e15,e16,e17]⟩ ?_
  rintro i S ⟨hi,hn,e1,eg,eb,e35,e36,e37⟩;simp only[ee.iR,eu,List.map_cons,List.map_nil]at eb;by_cases hlt:i<5
  ·have hx: ∃x,[m.xid,m.ci,m.yi,m.si,m.gi][i]? =some x∧([DV.int .i64 m.xid,.int .i64 m.ci,.int .i64 m.yi,.int .i64 m.si,.int .i64 m.gi])[i]? =some (.int .i64 x)∧(dD x=false→db m=false):=by
    match i,hlt with
    |0,_=>exact⟨m.xid,rfl,rfl,fun h=>by simp only[db,h,aV,Bool.and_false]⟩
    |1,_=>exact⟨m.ci,rfl,rfl,fun h=>by simp only[db,h,aV,Bool.and_false]⟩
    |2,_=>exact⟨m.yi,rfl,rfl,fun h=>by simp only[db,h,aV,Bool.and_false]⟩
    |3,_=>exact⟨m.si,rfl,rfl,fun h=>by simp only[db,h,aV,Bool.and_false]⟩
    |4,_=>exact⟨m.gi,rfl,rfl,fun h=>by simp only[db,h,aV,Bool.and_false]⟩
   obtain⟨x,hx1,hx2,hx3⟩:=hx;have hL:=e35
   generalize[DV.int .i64 m.xid,.int .i64 m.ci,.int .i64 m.yi,.int .i64 m.si,.int .i64 m.gi]=L at hL hx2
   cases hw:dD x with
   |true=>
    simp-implicitDefEqProofs (disch:=try exact dd) [cB,e1,eg,eb,hL,e36,e37,eK,hx2]
    refine oc (fV x) ?_
    simp-implicitDefEqProofs (disch:=try exact dd) [cB,e1,eg,eb,e35,e36,e37,hw]
    exact cE (i+1) ⟨by omega,fun j hj y hy=>by
     rcases aR j i with h|h
     ·exact hn j h y hy
     ·have:j=i:=by omega
      subst this;rw[hx1]at hy
      cases hy
      exact hw,by simp-implicitDefEqProofs (disch:=try exact dd) [cB,e1,eg,eb,e35,e36,e37]⟩ (by omega)
   |false=>
    have hf:=hx3 hw
    simp-implicitDefEqProofs (disch:=try exact dd) [cB,e1,eg,eb,hL,e36,e37,eK,hx2]
    refine oc (fV x) ?_
    simp-implicitDefEqProofs (disch:=try exact dd) [cB,e1,eg,eb,e35,e36,e37,hw,hf]
  ·have hi5:i=5:=by omega
   subst hi5;have a1:=hn 0 (by omega) m.xid rfl
   have a2:=hn 1 (by omega) m.ci rfl
   have a3:=hn 2 (by omega) m.yi rfl
   have a4:=hn 3 (by omega) m.si rfl
   have a5:=hn 4 (by omega) m.gi rfl
   have hr:db m=(decide (0≤m.hlen∧m.hlen≤16)&&decide (0≤m.secs∧m.secs≤65535)&&decide (0≤m.flags∧m.flags≤65535)&&decide (m.chaddr.length=16)&&cI m.opts&&(cY m.opts 52).isNone):=by
    simp[db,n1,n2,n3,a1,a2,a3,a4,a5]
   have q1:=ny m.hlen 16;have q2:=ny m.secs 65535;have q3:=ny m.flags 65535;generalize decide (0≤m.hlen∧m.hlen≤16)=b1 at hr q1;generalize decide (0≤m.secs∧m.secs≤65535)=b2 at hr q2;generalize decide (0≤m.flags∧m.flags≤65535)=b3 at hr q3;rw[hr]
   simp-implicitDefEqProofs (disch:=try exact dd) [cB,e1,eg,eb,e35,e36,e37]
   refine oc (j9 m.opts 52 hs) ?_
   simp-implicitDefEqProofs (disch:=try exact dd) [cB,e1,eg,eb]
   refine oc q1 ?_
   cases b1 with
   |false=>simp-implicitDefEqProofs (disch:=try exact dd) [cB,e1,eg,eb]
   |true=>
    simp-implicitDefEqProofs (disch:=try exact dd) [cB,e1,eg,eb]
    refine oc q2 ?_
    cases b2 with
    |false=>simp-implicitDefEqProofs (disch:=try exact dd) [cB,e1,eg,eb]
    |true=>
     simp-implicitDefEqProofs (disch:=try exact dd) [cB,e1,eg,eb]
     refine oc q3 ?_
     cases b3 with
     |false=>simp-implicitDefEqProofs (disch:=try exact dd) [cB,e1,eg,eb]
     |true=>
      by_cases b4:m.chaddr.length=16
      ·have b4':(m.chaddr.length:Int)=16:=by omega
       simp-implicitDefEqProofs (disch:=try exact dd) [cB,e1,eg,eb,b4',b4]
       refine oc (su m.opts hs) ?_
       cases b5:cI m.opts with
       |false=>simp-implicitDefEqProofs (disch:=try exact dd) [cB,e1,eg,eb]
       |true=>
        cases b6:cY m.opts 52<;>simp-implicitDefEqProofs (disch:=try exact dd) [cB,e1,eg,eb]
      ·have b4': ¬(m.chaddr.length:Int)=16:=by omega
       simp-implicitDefEqProofs (disch:=try exact dd) [cB,e1,eg,eb,b4',b4]
end Go.Proofs.YtoilfihojgeonaaGreatDoor
