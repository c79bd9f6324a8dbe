/- Disks: what the program's disk answers, second part: right disks. -/
import Derived.Test.YtoilfihojgeonaaGreatDoorS14
namespace Go.Proofs.YtoilfihojgeonaaGreatDoor
open BoEng Go
set_option maxRecDepth 100000
set_option linter.unusedSimpArgs false
set_option linter.unusedVariables false
theorem DI{k:Dk}(h1:fF k.now k.files.length=true)(h2:fF k.kept k.files.length=true):decide (dj (k.now++k.kept)=kf k.files.length)=decide (iq 0 (k.now++k.kept)=some (k.files.length:Int)):=by
 rw[Bool.eq_iff_iff];simp only[decide_eq_true_eq];have hf: ∀e∈k.now++k.kept,0≤e.file:=by
  intro e he;rcases List.mem_append.1 he with h|h
  ·exact(gR h1 e h).1
  ·exact(gR h2 e h).1
 rw[Ea _ hf];simp
theorem ue{m:Nat}: ∀(l:List cZ),yq l m→ ∀n q:Int,0≤n→n≤m→iq n l=some q→0≤q∧q≤m
 | [],_,n,q,h0,h1,h=>by simp[iq]at h;omega
 |e::l,hl,n,q,h0,h1,h=>by
  have he:=hl e (by simp)
  simp only[iq]at h
  split at h
  ·cases h
  ·exact ue l (fun x hx=>hl x (by simp[hx])) _ q (by omega) (by omega) h
theorem Lz{α:Type}{p:α→Bool}{l:List α}{i:Nat}(h:i<l.length)(ha:(l.take i).all p=true)(hc:p l[i]=true):(l.take (i+1)).all p=true:=by
 rw[List.take_succ_eq_append_getElem h,b7,ha,Bool.true_and,List.all_cons,hc];rfl
def drF(k:Dk)(i:Nat)(S:PS):Prop:=
 i≤k.files.length∧(k.files.take i).all fv=true∧S.t 1= .cptr (cells k.d)∧S.t 33= .d (.slice (k.files.map cK.d))∧S.t 34= .d (.int .i64 k.files.length)∧S.t 35= .d (.int .i64 i)
def lists(k:Dk):List (List cZ):= [k.now,k.kept]
def drO(k:Dk)(j:Nat)(S:PS):Prop:=
 j≤2∧S.t 1= .cptr (cells k.d)∧S.t 61= .d (.slice [.slice (k.now.map cZ.d),.slice (k.kept.map cZ.d)])∧S.t 62= .d (.int .i64 2)∧S.t 63= .d (.int .i64 j)∧
  ∃n:Int,iq 0 ((lists k).take j).flatten=some n∧S.t 5= .d (.int .i64 n)
def drI(k:Dk)(j:Nat)(l:List cZ)(n0:Int)(i:Nat)(S:PS):Prop:=
 i≤l.length∧S.t 1= .cptr (cells k.d)∧S.t 61= .d (.slice [.slice (k.now.map cZ.d),.slice (k.kept.map cZ.d)])∧S.t 62= .d (.int .i64 2)∧S.t 63= .d (.int .i64 j)∧
  S.t 67= .d (.slice (l.map cZ.d))∧S.t 68= .d (.int .i64 l.length)∧S.t 69= .d (.int .i64 i)∧ ∃n:Int,iq n0 (l.take i)=some n∧S.t 5= .d (.int .i64 n)
theorem zU(k:Dk)(hk:kJ k):cD Tryz.prog 230 [.d k.d] (.d (.bool (c9 k))) (fun _=>false):=by
 refine cD.bi Tryz.func230 [20001] ?_;obtain⟨⟨hf1,hf2⟩,hn,hkp⟩:=hk;have hn1:=hn.1;have hk1:=hkp.1;have q1:=zV k.now k.files.length hn hf1;have q2:=zV k.kept k.files.length hkp hf1;by_cases hbig:(20:Int)<k.files.length
 ·have hr:c9 k=false:=by
   have: ¬k.files.length≤20:=by omega
   simp[c9,this]
  simp-implicitDefEqProofs (disch:=try exact dd) [cB,hbig,hr]
 have hsm:k.files.length≤20:=by omega
 cases h1:fF k.now k.files.length with
 |false=>
  have hr:c9 k=false:=by simp[c9,h1]
  rw[h1]at q1
  simp-implicitDefEqProofs (disch:=try exact dd) [cB,hbig,hr]
  refine oc q1 ?_
  simp-implicitDefEqProofs (disch:=try exact dd) [cB,hbig,hr]
 |true=>
 rw[h1]at q1
 cases h2:fF k.kept k.files.length with
 |false=>
  have hr:c9 k=false:=by simp[c9,h2]
  rw[h2]at q2
  simp-implicitDefEqProofs (disch:=try exact dd) [cB,hbig,hr]
  refine oc q1 ?_
  simp-implicitDefEqProofs (disch:=try exact dd) [cB,hbig,hr]
  refine oc q2 ?_
  simp-implicitDefEqProofs (disch:=try exact dd) [cB,hbig,hr]
 |true=>
 rw[h2]at q2;have hin1:=gR h1;have hin2:=gR h2;have hrk:c9 k=(k.files.all fv&&decide (iq 0 (k.now++k.kept)=some (k.files.length:Int))):=by
  rw[←DI h1 h2];simp[c9,h1,h2,hsm]
 simp-implicitDefEqProofs (disch:=try exact dd) [cB,hbig]
 refine oc q1 ?_
 simp-implicitDefEqProofs (disch:=try exact dd) [cB,hbig]
 refine oc q2 ?_
 simp-implicitDefEqProofs (disch:=try exact dd) [cB,hbig]
 refine lp (drF k) (fun i=>k.files.length-i) 0 ⟨by omega,by simp,by simp⟩ ?_
 rintro i S ⟨hi,ha,e1,e33,e34,e35⟩;by_cases hlt:i<k.files.length
 ·have k6:(i:Int)<k.files.length:=by omega
  have hz:=hf2 _ (List.getElem_mem hlt);by_cases hc:fv k.files[i]=true
  ·have hc':=hc;simp only[fv,decide_eq_true_eq]at hc';obtain⟨c1,c2,c3⟩:=hc';have k1: ¬(20000:Int)<k.files[i].data.length:=by omega
   have k2: ¬k.files[i].safe<0:=by omega
   have k3: ¬(k.files[i].data.length:Int)<k.files[i].safe:=by omega
   simp-implicitDefEqProofs (disch:=try exact dd) [cB,e1,e33,e34,e35,k6,k1,k2,k3]
   exact cE (i+1) ⟨by omega,Lz hlt ha hc,by simp-implicitDefEqProofs (disch:=try exact dd) [cB,e1,e33,e34,e35]⟩ (by omega)
  ·have hr:c9 k=false:=by
    rw[hrk,Bool.and_eq_false_iff];left;rw[aM];intro h;exact hc (List.all_eq_true.1 h _ (List.getElem_mem hlt))
   have hc': ¬(k.files[i].data.length≤20000∧0≤k.files[i].safe∧k.files[i].safe≤k.files[i].data.length):=by simpa[fv]using hc
   by_cases k1:(20000:Int)<k.files[i].data.length
   ·simp-implicitDefEqProofs (disch:=try exact dd) [cB,e1,e33,e34,e35,k6,k1,hr]
   ·by_cases k2:k.files[i].safe<0
    ·simp-implicitDefEqProofs (disch:=try exact dd) [cB,e1,e33,e34,e35,k6,k1,k2,hr]
    ·have k3:(k.files[i].data.length:Int)<k.files[i].safe:=by omega
     simp-implicitDefEqProofs (disch:=try exact dd) [cB,e1,e33,e34,e35,k6,k1,k2,k3,hr]
 ·have k6: ¬(i:Int)<k.files.length:=by omega
  have hall:k.files.all fv=true:=by
   rw[←List.take_of_length_le (show k.files.length≤i by omega)]
   exact ha
  rw[hall,Bool.true_and]at hrk
  simp-implicitDefEqProofs (disch:=try exact dd) [cB,e1,e33,e34,e35,k6]
  refine lp (drO k) (fun j=>2-j) 0 ⟨by omega,by simp-implicitDefEqProofs (disch:=try exact dd) [cB,e1],by simp,by simp,by simp,0,by simp[iq],by simp⟩ ?_
  clear e1 e33 e34 e35 k6 hlt ha hi i S;rintro j S ⟨hj,e1,e61,e62,e63,n0,hn0,e5⟩;by_cases hjl:j<2
  ·have k6:(j:Int)<2:=by omega
   have hjl':j<(lists k).length:=hjl;have hinL:yq (lists k)[j] k.files.length∧(lists k)[j].length≤100000:=by
    rcases(by omega:j=0∨j=1)with rfl|rfl
    ·exact⟨hin1,hn1⟩
    ·exact⟨hin2,hk1⟩
   obtain⟨hinL,hlL⟩:=hinL;have hflat:((lists k).take (j+1)).flatten=((lists k).take j).flatten++(lists k)[j]:=by
    rw[List.take_succ_eq_append_getElem hjl',List.flatten_append];simp only[List.flatten_cons,List.flatten_nil,List.append_nil]
   have hrest: ∃r,k.now++k.kept=(((lists k).take j).flatten++(lists k)[j])++r:=by
    rcases(by omega:j=0∨j=1)with rfl|rfl
    ·exact⟨k.kept,by simp[lists]⟩
    ·exact⟨[],by simp[lists]⟩
   have rV:yq ((lists k).take j).flatten k.files.length:=by
    rcases(by omega:j=0∨j=1)with rfl|rfl
    ·intro e he;simp at he
    ·simpa[lists]using hin1
   have hr0:=ue _ rV 0 n0 (by omega) (by omega) hn0
   have hsl:([.slice (k.now.map cZ.d),.slice (k.kept.map cZ.d)]:List DV)[j]? =some (.slice ((lists k)[j].map cZ.d)):=by
    rcases(by omega:j=0∨j=1)with rfl|rfl<;>rfl
   generalize hL:(lists k)[j]=L at*
   simp-implicitDefEqProofs (disch:=try exact dd) [cB,e1,e61,e62,e63,e5,k6]
   rw[tb,hsl]
   simp-implicitDefEqProofs (disch:=try exact dd) [cB,e1,e61,e62,e63,e5,k6]
   refine lp (drI k j L n0) (fun i=>L.length-i) 0 (by refine⟨by omega,?_,?_,?_,?_,by simp,by simp,by simp,n0,by simp[iq],?_⟩<;>simp-implicitDefEqProofs (disch:=try exact dd) [cB,e1,e61,e62,e63,e5]) ?_
   clear e1 e61 e62 e63 e5 S;rintro i S ⟨hi,e1,e61,e62,e63,e67,e68,e69,n,hn,e5⟩;have hinT:yq (L.take i) k.files.length:=fun e he=>hinL e (aA he)
   have hr:=ue _ hinT n0 n hr0.1 hr0.2 hn;by_cases hlt:i<L.length
   ·have k7:(i:Int)<L.length:=by omega
    have hst:=wX n0 (L.take i) L[i];rw[hn,Option.bind_some,←List.take_succ_eq_append_getElem hlt]at hst;obtain⟨f1,f2⟩:=hinL _ (List.getElem_mem hlt);by_cases hc:n<L[i].file
    ·rw[if_pos hc]at hst;have hr:c9 k=false:=by
      rw[hrk,aQ];obtain⟨r,hr⟩:=hrest;rw[hr,qF,qF,hn0,Option.bind_some];have:iq n0 L=none:=by
       rw[←ay (i+1) L,qF,hst];rfl
      rw[this];simp
     simp-implicitDefEqProofs (disch:=try exact dd) [cB,e1,e61,e62,e63,e5,e67,e68,e69,k7,hc,hr]
    ·rw[if_neg hc]at hst;have hm:(if n<L[i].file+1 then L[i].file+1 else n)=max n (L[i].file+1):=by split<;>omega
     simp-implicitDefEqProofs (disch:=try exact dd) [cB,e1,e61,e62,e63,e5,e67,e68,e69,k7,hc]
     exact cE (i+1) (by refine⟨by omega,?_,?_,?_,?_,?_,?_,by simp,_,hst,?_⟩<;>simp-implicitDefEqProofs (disch:=try exact dd) [cB,e1,e61,e62,e63,e67,e68,hm]) (by omega)
   ·have k7: ¬(i:Int)<L.length:=by omega
    have ht:L.take i=L:=List.take_of_length_le (by omega)
    rw[ht]at hn
    simp-implicitDefEqProofs (disch:=try exact dd) [cB,e1,e61,e62,e63,e5,e67,e68,e69,k7]
    exact cE (j+1) (by refine⟨by omega,?_,?_,?_,by simp,n,by rw[hflat,qF,hn0,Option.bind_some];exact hn,?_⟩<;>simp-implicitDefEqProofs (disch:=try exact dd) [cB,e1,e61,e62,e5]) (by omega)
  ·have:j=2:=by omega
   subst this;have hflat:((lists k).take 2).flatten=k.now++k.kept:=by simp[lists]
   rw[hflat]at hn0;have hr:c9 k=decide (n0=(k.files.length:Int)):=by
    rw[hrk,hn0];simp
   simp-implicitDefEqProofs (disch:=try exact dd) [cB,e1,e61,e62,e63,e5,hr]
def gM(x:Int):DV:= .int .i64 x
@[simp] theorem Iw(x:Int):cells (gM x)= [.int .i64 x]:=rfl
def dK(fs:List cK):List PV:=(flat (fs.map cK.d)).map .d
def iD(nf gf:Nat)(fs:List cK)(now kept:List cZ)(fT:List cK)(was:List Int):List PV:=
 [.bsl nf gf fs.length 2 true,.d (.slice (now.map cZ.d)),.d (.slice (kept.map cZ.d)),.d (.slice (fT.map cK.d)),.d (.slice (was.map gM))]
def fU(nf gf:Nat)(fs:List cK):iL:=⟨nf,gf,dK fs,fun k=>k % 2==0&&decide (k<2*fs.length)⟩
def qU(no g nf gf:Nat)(fs:List cK)(now kept:List cZ)(fT:List cK)(was:List Int):iL:=⟨no,g,iD nf gf fs now kept fT was,fun k=>k==4⟩
@[simp] theorem aee{nf gf:Nat}{fs:List cK}:(fU nf gf fs).n=nf:=rfl
@[simp] theorem adM{no g nf gf:Nat}{fs:List cK}{now kept:List cZ}{fT:List cK}{was:List Int}:(qU no g nf gf fs now kept fT was).n=no:=rfl
theorem iv:dK []= []:=rfl
theorem lE(f:cK)(fs:List cK):dK (f::fs)= .d (.slice (f.data.map cM)):: .d (.int .i64 f.safe)::dK fs:=rfl
theorem tq(fs gs:List cK):dK (fs++gs)=dK fs++dK gs:=by simp[dK,kE]
theorem K9(fs:List cK):pc (dK fs)=some (flat (fs.map cK.d)):=by unfold dK;exact FA
theorem fj{fs:List cK}{n:Nat}(h:fs.length=n):pc ((dK fs).take (n*2))=some (flat (fs.map cK.d)):=by
 have: ∀fs:List cK,(dK fs).length=2*fs.length:=by
  intro fs
  induction fs with
  |nil=>rfl
  |cons f fs ih=>rw[lE];simp[ih];omega
 rw[List.take_of_length_le (by rw[this];omega),K9]
theorem eM{fs:List cK}{n:Nat}(h:fs.length=n):chunk 2 true n (flat (fs.map cK.d))=fs.map cK.d:=by
 subst h
 induction fs with
 |nil=>rfl
 |cons f fs ih=>
  rw[List.map_cons,dS,List.length_cons,chunk];simp only[Fa,List.cons_append,List.nil_append,bd,cj,a8,List.drop_zero,if_true,ih];rfl
theorem gA(fs:List cK):(dK fs).length=2*fs.length:=by
 induction fs with
 |nil=>rfl
 |cons f fs ih=>rw[lE];simp[ih];omega
def SI(fo no g nf gf:Nat)(fs:List cK)(now kept:List cZ)(fT:List cK)(was:List Int)(S:PS):Prop:=
 S.fo=fo∧S.gen no=g∧S.box no=iD nf gf fs now kept fT was∧S.gen nf=gf∧S.box nf=dK fs∧S.own (.b no 4)=true∧ ∀k,(k % 2==0&&decide (k<2*fs.length))=true→S.own (.b nf k)=true
def SH(fo no g nf gf:Nat)(fs:List cK)(now kept:List cZ)(fT:List cK)(was:List Int)(x:Int)(i:Nat)(S:PS):Prop:=
 i≤was.length∧(∀j (h:j<was.length),j<i→was[j]≠x)∧S.t 0= .ptr no g 0∧S.t 1= .d (.int .i64 x)∧S.t 11= .d (.slice (was.map gM))∧S.t 12= .d (.int .i64 was.length)∧S.t 13= .d (.int .i64 i)∧SI fo no g nf gf fs now kept fT was S
theorem wL{was:List Int}{x:Int}{i:Nat}(h:i<was.length)(hn: ∀j (h:j<was.length),j<i→was[j]≠x)(hx:was[i]=x):jf was x=i:=by
 unfold jf
 congr 1
 induction was generalizing i with
 |nil=>simp at h
 |cons a w ih=>
  cases i with
  |zero=>simp at hx;subst hx;simp
  |succ i=>
   have h0:=hn 0 (by simp) (by omega)
   simp at h0;rw[List.idxOf_cons,Bool.cond_eq_ite,if_neg (by simpa using h0),ih (i:=i) (by simpa using h) (fun j hj hji=>by have:=hn (j+1) (by simpa using hj) (by omega);simpa using this) (by simpa using hx)]
theorem C6(no g nf gf:Nat){fo:Nat}{gl:Nat→Nat}(hno:no<fo)(hnf:nf<fo)(hne:no≠nf)(hg:0<g)(hgf:0<gf)(x:Int)(fs:List cK)(now kept:List cZ)(fT:List cK)(was:List Int)(hx:x∈was)(hw:was.length≤100000):
 de Tryz.prog fo gl 291 [.ptr no g 0,.d (.int .i64 x)] [qU no g nf gf fs now kept fT was,fU nf gf fs] (.d (.int .i64 (jf was x))) (fun _=>false) [qU no g nf gf fs now kept fT was,fU nf gf fs]:=by
 refine de.bi Tryz.func291 [27,70045,80052,10053,60053,10054,30054,80054] (by simp[cH,cS,hg,hgf,qU,fU,iD,dK]) (by simp[cH,cS,hg,hgf,qU,fU,iD,dK]) (by simp[hg,hgf,qU,fU,iD,dK]) ?_
 have hne':nf≠no:=fun e=>hne e.symm
 have hk1: ∀k,(no=fo+k)=False:=fun k=>by simp;omega
 have hk2: ∀k,(fo+k=no)=False:=fun k=>by simp;omega
 have hk3: ∀k,(nf=fo+k)=False:=fun k=>by simp;omega
 have hk4: ∀k,(fo+k=nf)=False:=fun k=>by simp;omega
 simp-implicitDefEqProofs (disch:=try exact dd) [cB,qU,fU,iD]
 refine lp (SH fo no g nf gf fs now kept fT was x) (fun i=>was.length-i) 0 (by refine⟨by omega,by simp,?_,?_,?_,?_,?_,?_⟩<;>simp-implicitDefEqProofs (disch:=try exact dd) [cB,SI,hne,hne',iD]) ?_
 rintro i S ⟨hi,hn,e0,e1,e11,e12,e13,hB⟩;have hlt:i<was.length:=by
  rcases aR i was.length with h|h
  ·exact h
  ·obtain⟨j,hj,e⟩:=List.mem_iff_getElem.1 hx;exact absurd e (hn j hj (by omega))
 have k6:(i:Int)<was.length:=by omega
 by_cases hc:was[i]=x
 ·have hp:=wL hlt hn hc;obtain⟨efo,g1,b1,g2,b2,o1,o2⟩:=hB
  simp-implicitDefEqProofs (disch:=try exact dd) [cB,e0,e1,e11,e12,e13,k6,hc,hp,qU,fU,iD,g1,b1,g2,b2,gM]
  refine⟨o1,fun k h1 h2=>o2 k (by simp[h1,h2])⟩
 ·simp-implicitDefEqProofs (disch:=try exact dd) [cB,e0,e1,e11,e12,e13,k6,hc,gM]
  exact cE (i+1) ⟨by omega,fun j h hj=>by
   by_cases e:j=i
   ·subst e;exact hc
   ·exact hn j h (by omega),by simp-implicitDefEqProofs (disch:=try exact dd) [cB,e0],by simp-implicitDefEqProofs (disch:=try exact dd) [cB,e1],by simp-implicitDefEqProofs (disch:=try exact dd) [cB,e11],by simp-implicitDefEqProofs (disch:=try exact dd) [cB,e12],by simp-implicitDefEqProofs (disch:=try exact dd) [cB],by
   obtain⟨efo,g1,b1,g2,b2,o1,o2⟩:=hB
   exact(by refine⟨?_,?_,?_,?_,?_,?_,fun k hk=>by simp-implicitDefEqProofs (disch:=try exact dd) [cB];exact o2 k hk⟩<;>simp-implicitDefEqProofs (disch:=try exact dd) [cB,efo,g1,b1,g2,b2,o1])⟩ (by omega)
theorem C5(no g nf gf:Nat){fo:Nat}{gl:Nat→Nat}(hno:no<fo)(hnf:nf<fo)(hne:no≠nf)(hg:0<g)(hgf:0<gf)(x:Int)(fs:List cK)(now kept:List cZ)(fT:List cK)(was:List Int)(hx:x∉was)(hw:was.length≤100000)(hf:fs.length≤100000)(h0:0≤x)(h1:x<fT.length)(hz:(fileAt fT x).data.length≤100000):
 de Tryz.prog fo gl 291 [.ptr no g 0,.d (.int .i64 x)] [qU no g nf gf fs now kept fT was,fU nf gf fs] (.d (.int .i64 was.length)) (fun _=>false) [qU no g nf (gf+1) (fs++ [fileAt fT x]) now kept fT (was++ [x]),fU nf (gf+1) (fs++ [fileAt fT x])]:=by
 refine de.bi Tryz.func291 [27,70045,80052,10053,60053,10054,30054,80054] (by simp[cH,cS,hg,hgf,qU,fU,iD,dK]) (by simp[cH,cS,hg,hgf,qU,fU,iD,dK]) (by simp[hg,hgf,qU,fU,iD,dK]) ?_
 have hne':nf≠no:=fun e=>hne e.symm
 have hk1: ∀k,(no=fo+k)=False:=fun k=>by simp;omega
 have hk2: ∀k,(fo+k=no)=False:=fun k=>by simp;omega
 have hk3: ∀k,(nf=fo+k)=False:=fun k=>by simp;omega
 have hk4: ∀k,(fo+k=nf)=False:=fun k=>by simp;omega
 simp-implicitDefEqProofs (disch:=try exact dd) [cB,qU,fU,iD]
 refine lp (SH fo no g nf gf fs now kept fT was x) (fun i=>was.length-i) 0 (by refine⟨by omega,by simp,?_,?_,?_,?_,?_,?_⟩<;>simp-implicitDefEqProofs (disch:=try exact dd) [cB,SI,hne,hne',iD]) ?_
 rintro i S ⟨hi,hn,e0,e1,e11,e12,e13,hB⟩;by_cases hlt:i<was.length
 ·have k6:(i:Int)<was.length:=by omega
  have hc: ¬was[i]=x:=fun e=>hx (e▸List.getElem_mem hlt)
  simp-implicitDefEqProofs (disch:=try exact dd) [cB,e0,e1,e11,e12,e13,k6,hc,gM]
  exact cE (i+1) ⟨by omega,fun j h hj=>by
   by_cases e:j=i
   ·subst e;exact hc
   ·exact hn j h (by omega),by simp-implicitDefEqProofs (disch:=try exact dd) [cB,e0],by simp-implicitDefEqProofs (disch:=try exact dd) [cB,e1],by simp-implicitDefEqProofs (disch:=try exact dd) [cB,e11],by simp-implicitDefEqProofs (disch:=try exact dd) [cB,e12],by simp-implicitDefEqProofs (disch:=try exact dd) [cB],by
   obtain⟨efo,g1,b1,g2,b2,o1,o2⟩:=hB
   exact(by refine⟨?_,?_,?_,?_,?_,?_,fun k hk=>by simp-implicitDefEqProofs (disch:=try exact dd) [cB];exact o2 k hk⟩<;>simp-implicitDefEqProofs (disch:=try exact dd) [cB,efo,g1,b1,g2,b2,o1])⟩ (by omega)
 ·have k6: ¬(i:Int)<was.length:=by omega
  obtain⟨efo,g1,b1,g2,b2,o1,o2⟩:=hB;obtain⟨n,rfl⟩:=Int.eq_ofNat_of_zero_le h0;have hnl:n<fT.length:=by omega
  have hfa:fileAt fT (n:Int)=fT[n]:=by simp[fileAt,List.getD_eq_getElem?_getD,hnl]
  rw[hfa]at hz⊢;have hbl:(dK fs).length=fs.length*2:=by rw[gA];omega
  have hfl:flat [DV.agg [DV.slice (fT[n].data.map cM),DV.int .i64 fT[n].safe]]= [DV.slice (fT[n].data.map cM),DV.int .i64 fT[n].safe]:=rfl;have hbd:(fs.length+1)*32≤140737488355328:=by omega
  simp-implicitDefEqProofs (disch:=try exact dd) [cB,e0,e1,e11,e12,e13,k6,gM,iD,efo,g1,b1,g2,b2,o1,hk1,hk2,hk3,hk4,hne,hne',chunk,je,hbl,hbd,hfl]
  refine⟨by rw[tq,lE,iv],fun k h1 h2=>?_⟩
  by_cases hk:k<fs.length*2
  ·rw[if_pos hk];exact o2 k (by simp;omega)
  ·rw[if_neg hk];exact⟨by omega,.inl (by omega)⟩
def dF(was:List Int)(l:List cZ):List Int:=l.foldl (fun w e=>mg w e.file) was
theorem m_(was:List Int)(l:List cZ)(e:cZ):dF was (l++ [e])=mg (dF was l) e.file:=by simp[dF]
theorem qu(l:List cZ):dF [] l=dj l:=rfl
theorem IQ(was:List Int)(l k:List cZ):dF was (l++k)=dF (dF was l) k:=by simp[dF]
theorem IP(was:List Int)(l k:List cZ): ∃r,dF was (l++k)=dF was l++r:=by
 induction k using iW with
 |h0=>exact⟨[],by simp⟩
 |hs k e ih=>
  obtain⟨r,hr⟩:=ih;rw[←List.append_assoc,m_,hr];obtain⟨r2,h2⟩:=tL (dF was l++r) e.file;exact⟨r++r2,by rw[h2,List.append_assoc]⟩
theorem Kq{was:List Int}{l:List cZ}{x:Int}:x∈dF was l↔x∈was∨ ∃e∈l,e.file=x:=by
 induction l using iW with
 |h0=>simp[dF]
 |hs l e ih=>
  rw[m_,Cq,ih];constructor
  ·rintro((h|⟨e',h,rfl⟩)|rfl)
   ·exact .inl h
   ·exact .inr ⟨e',by simp[h],rfl⟩
   ·exact .inr ⟨e,by simp,rfl⟩
  ·rintro(h|⟨e',h,rfl⟩)
   ·exact .inl (.inl h)
   ·rcases List.mem_append.1 h with h|h
    ·exact .inl (.inr ⟨e',h,rfl⟩)
    ·simp at h;subst h;exact .inr rfl
theorem sn(was:List Int)(l:List cZ):(dF was l).length≤was.length+l.length:=by
 induction l using iW with
 |h0=>simp[dF]
 |hs l e ih=>
  rw[m_];unfold mg
  split<;>simp<;>omega
theorem GM{was:List Int}{l:List cZ}{i:Nat}(h:i<l.length):dF was (l.take (i+1))=mg (dF was (l.take i)) l[i].file:=by
 rw[List.take_succ_eq_append_getElem h,m_]
theorem Ft(was:List Int)(l:List cZ):was.length≤(dF was l).length:=by
 have:=IP was [] l;obtain⟨r,hr⟩:=this;simp only[List.nil_append]at hr;rw[hr];simp[dF]
theorem Jo{was:List Int}{l:List cZ}{i:Nat}(h:i<l.length):((l.take (i+1)).map fun e=>cZ.d (gZ (dF was (l.take (i+1))) e))=((l.take i).map fun e=>cZ.d (gZ (dF was (l.take i)) e))++ [cZ.d ⟨l[i].name,jf (mg (dF was (l.take i)) l[i].file) l[i].file⟩]:=by
 rw[List.take_succ_eq_append_getElem h,List.map_append];have hw:dF was (l.take i++ [l[i]])=mg (dF was (l.take i)) l[i].file:=m_ _ _ _
 congr 1
 ·refine bz fun e he=>?_
  have hm:e.file∈dF was (l.take i):=Kq.2 (.inr ⟨e,he,rfl⟩);obtain⟨r,hr⟩:=tL (dF was (l.take i)) l[i].file;unfold gZ;rw[hw,hr,wM hm]
 ·rw[hw];rfl
def dlI(fo no g nf gf:Nat)(now kept:List cZ)(fT:List cK)(was:List Int)(l:List cZ)(i:Nat)(S:PS):Prop:=
 i≤l.length∧S.t 0= .ptr no g 0∧S.t 8= .d (.slice (l.map cZ.d))∧S.t 9= .d (.int .i64 l.length)∧S.t 10= .d (.int .i64 i)∧S.t 5= .d (.slice ((l.take i).map fun e=>cZ.d (gZ (dF was (l.take i)) e)))∧S.own (.t 5 0)=true∧
  SI fo no g nf (gf+((dF was (l.take i)).length-was.length)) ((dF was (l.take i)).map (fileAt fT)) now kept fT (dF was (l.take i)) S
theorem Lf(no g nf gf:Nat){fo:Nat}{gl:Nat→Nat}(hno:no<fo)(hnf:nf<fo)(hne:no≠nf)(hg:0<g)(hgf:0<gf)(l now kept:List cZ)(fT:List cK)(was:List Int)(hw:was.length+l.length≤100000)(hin:yq l fT.length)(hz:Aw fT):
 de Tryz.prog fo gl 231 [.ptr no g 0,.d (.slice (l.map cZ.d))] [qU no g nf gf (was.map (fileAt fT)) now kept fT was,fU nf gf (was.map (fileAt fT))] (.d (.slice (l.map fun e=>cZ.d (gZ (dF was l) e)))) (fun _=>false)
  [qU no g nf (gf+((dF was l).length-was.length)) ((dF was l).map (fileAt fT)) now kept fT (dF was l),fU nf (gf+((dF was l).length-was.length)) ((dF was l).map (fileAt fT))]:=by
 refine de.bi Tryz.func231 [14,60007,90016,40020,100020] (by simp[cH,cS,hg,hgf,qU,fU,iD,dK,(fun n=>aW hgf n: ∀n,0<gf+n)]) (by simp[cH,cS,hg,hgf,qU,fU,iD,dK,(fun n=>aW hgf n: ∀n,0<gf+n)]) (by simp[hg,hgf,qU,fU,iD,dK,(fun n=>aW hgf n: ∀n,0<gf+n)]) ?_
 have hne':nf≠no:=fun e=>hne e.symm
 have hk1: ∀k,(no=fo+k)=False:=fun k=>by simp;omega
 have hk2: ∀k,(fo+k=no)=False:=fun k=>by simp;omega
 have hk3: ∀k,(nf=fo+k)=False:=fun k=>by simp;omega
 have hk4: ∀k,(fo+k=nf)=False:=fun k=>by simp;omega
 simp-implicitDefEqProofs (disch:=try exact dd) [cB, -List.map_take, -List.map_drop,qU,fU,iD]
 refine lp (dlI fo no g nf gf now kept fT was l) (fun i=>l.length-i) 0 (by refine⟨by omega,?_,?_,?_,?_,?_,?_,?_⟩<;>simp-implicitDefEqProofs (disch:=try exact dd) [cB, -List.map_take, -List.map_drop,SI,hne,hne',iD,dF]) ?_
 rintro i S ⟨hi,e0,e8,e9,e10,e5,o5,hB⟩;by_cases hlt:i<l.length
 ·have k6:(i:Int)<l.length:=by omega
  obtain⟨efo,g1,b1,g2,b2,o1,o2⟩:=hB;have hwl:=sn was (l.take i);have hwg:=Ft was (l.take i);rw[List.length_take]at hwl;obtain⟨f0,f1⟩:=hin _ (List.getElem_mem hlt);have hgr:=GM (was:=was) hlt;have hrg:=Jo (was:=was) hlt;by_cases hx:l[i].file∈dF was (l.take i)
  ·have hadd:mg (dF was (l.take i)) l[i].file=dF was (l.take i):=by
    unfold mg;rw[if_pos (by simpa using hx)]
   rw[hadd]at hgr hrg;have q:=fun gl=>C6 no g nf (gf+((dF was (l.take i)).length-was.length)) (fo:=fo+1000) (gl:=gl) (by omega) (by omega) hne hg (by omega) l[i].file ((dF was (l.take i)).map (fileAt fT)) now kept fT (dF was (l.take i)) hx (by omega)
   simp-implicitDefEqProofs (disch:=try exact dd) [cB, -List.map_take, -List.map_drop,e0,e5,e8,e9,e10,o5,k6,efo,g1,b1,g2,b2,o1]
   refine dx (fo+1000) rfl rfl (q _) rfl ?_ ?_ ?_
   ·simp-implicitDefEqProofs (disch:=try exact dd) [cB, -List.map_take, -List.map_drop,qU,fU,iD,g1,b1,g2,b2,o1,efo,hk1,hk2,hk3,hk4,hne,hne']
    refine⟨hg,by omega,fun k h1 h2=>o2 k (by simp[h1,h2])⟩
   ·simp-implicitDefEqProofs (disch:=try exact dd) [cB, -List.map_take, -List.map_drop,qU,fU,iD,e0,e8,e9,e10,g1,b1,g2,b2,o1,o5,efo,hk1,hk2,hk3,hk4,hne,hne']
    exact cE (i+1) ⟨by omega,by simp-implicitDefEqProofs (disch:=try exact dd) [cB, -List.map_take, -List.map_drop,e0],by simp-implicitDefEqProofs (disch:=try exact dd) [cB, -List.map_take, -List.map_drop,e8],by simp-implicitDefEqProofs (disch:=try exact dd) [cB, -List.map_take, -List.map_drop,e9],by simp-implicitDefEqProofs (disch:=try exact dd) [cB, -List.map_take, -List.map_drop],by rw[hrg];simp-implicitDefEqProofs (disch:=try exact dd) [cB, -List.map_take, -List.map_drop,cZ.d,gZ],by simp-implicitDefEqProofs (disch:=try exact dd) [cB, -List.map_take, -List.map_drop],by
     rw[hgr];exact⟨by simp-implicitDefEqProofs (disch:=try exact dd) [cB, -List.map_take, -List.map_drop,efo],by simp-implicitDefEqProofs (disch:=try exact dd) [cB, -List.map_take, -List.map_drop,efo,hk1,hk2,hk3,hk4,hne,hne'],by simp-implicitDefEqProofs (disch:=try exact dd) [cB, -List.map_take, -List.map_drop,iD,efo,hk1,hk2,hk3,hk4,hne,hne'],by simp-implicitDefEqProofs (disch:=try exact dd) [cB, -List.map_take, -List.map_drop,efo,hk1,hk2,hk3,hk4,hne,hne'],by simp-implicitDefEqProofs (disch:=try exact dd) [cB, -List.map_take, -List.map_drop,efo,hk1,hk2,hk3,hk4,hne,hne'],by simp-implicitDefEqProofs (disch:=try exact dd) [cB, -List.map_take, -List.map_drop,efo,hk1,hk2,hk3,hk4,hne,hne'],fun k hk=>by
      simp only[Bool.and_eq_true,br,decide_eq_true_eq,List.length_map,List.length_append,List.length_cons,List.length_nil]at hk
      simp-implicitDefEqProofs (disch:=try exact dd) [cB, -List.map_take, -List.map_drop,efo,hk1,hk2,hk3,hk4,hne,hne',hk]⟩⟩ (by omega)
   ·refine .inr ?_
    simp-implicitDefEqProofs (disch:=try exact dd) [cB, -List.map_take, -List.map_drop,efo,hk1,hk2,hk3,hk4,hne,hne']
  ·have hadd:mg (dF was (l.take i)) l[i].file=dF was (l.take i)++ [l[i].file]:=by
    unfold mg;rw[if_neg (by simpa using hx)]
   rw[hadd]at hgr hrg;have hfz:(fileAt fT l[i].file).data.length≤100000:=by
    obtain⟨n,hn⟩:=Int.eq_ofNat_of_zero_le f0;have hnl:n<fT.length:=by omega
    have:fileAt fT l[i].file=fT[n]:=by rw[hn];simp[fileAt,List.getD_eq_getElem?_getD,hnl]
    rw[this];exact hz.2 _ (List.getElem_mem hnl)
   have hq:gf+((dF was (l.take i)).length+1-was.length)=gf+((dF was (l.take i)).length-was.length)+1:=by omega
   have q:=fun gl=>C5 no g nf (gf+((dF was (l.take i)).length-was.length)) (fo:=fo+1000) (gl:=gl) (by omega) (by omega) hne hg (by omega) l[i].file ((dF was (l.take i)).map (fileAt fT)) now kept fT (dF was (l.take i)) hx (by omega) (by simp;omega) f0 f1 hfz
   simp-implicitDefEqProofs (disch:=try exact dd) [cB, -List.map_take, -List.map_drop,e0,e5,e8,e9,e10,o5,k6,efo,g1,b1,g2,b2,o1]
   refine dx (fo+1000) rfl rfl (q _) rfl ?_ ?_ ?_
   ·simp-implicitDefEqProofs (disch:=try exact dd) [cB, -List.map_take, -List.map_drop,qU,fU,iD,g1,b1,g2,b2,o1,efo,hk1,hk2,hk3,hk4,hne,hne']
    refine⟨hg,by omega,fun k h1 h2=>o2 k (by simp[h1,h2])⟩
   ·simp-implicitDefEqProofs (disch:=try exact dd) [cB, -List.map_take, -List.map_drop,qU,fU,iD,e0,e8,e9,e10,g1,b1,g2,b2,o1,o5,efo,hk1,hk2,hk3,hk4,hne,hne']
    exact cE (i+1) ⟨by omega,by simp-implicitDefEqProofs (disch:=try exact dd) [cB, -List.map_take, -List.map_drop,e0],by simp-implicitDefEqProofs (disch:=try exact dd) [cB, -List.map_take, -List.map_drop,e8],by simp-implicitDefEqProofs (disch:=try exact dd) [cB, -List.map_take, -List.map_drop,e9],by simp-implicitDefEqProofs (disch:=try exact dd) [cB, -List.map_take, -List.map_drop],by rw[hrg];simp-implicitDefEqProofs (disch:=try exact dd) [cB, -List.map_take, -List.map_drop,cZ.d,gZ,JD hx],by simp-implicitDefEqProofs (disch:=try exact dd) [cB, -List.map_take, -List.map_drop],by
     rw[hgr];exact⟨by simp-implicitDefEqProofs (disch:=try exact dd) [cB, -List.map_take, -List.map_drop,efo],by simp-implicitDefEqProofs (disch:=try exact dd) [cB, -List.map_take, -List.map_drop,efo,hk1,hk2,hk3,hk4,hne,hne'],by simp-implicitDefEqProofs (disch:=try exact dd) [cB, -List.map_take, -List.map_drop,iD,hq,efo,hk1,hk2,hk3,hk4,hne,hne'],by simp-implicitDefEqProofs (disch:=try exact dd) [cB, -List.map_take, -List.map_drop,hq,efo,hk1,hk2,hk3,hk4,hne,hne'],by simp-implicitDefEqProofs (disch:=try exact dd) [cB, -List.map_take, -List.map_drop,efo,hk1,hk2,hk3,hk4,hne,hne'],by simp-implicitDefEqProofs (disch:=try exact dd) [cB, -List.map_take, -List.map_drop,efo,hk1,hk2,hk3,hk4,hne,hne'],fun k hk=>by
      simp only[Bool.and_eq_true,br,decide_eq_true_eq,List.length_map,List.length_append,List.length_cons,List.length_nil]at hk
      simp-implicitDefEqProofs (disch:=try exact dd) [cB, -List.map_take, -List.map_drop,efo,hk1,hk2,hk3,hk4,hne,hne',hk]⟩⟩ (by omega)
   ·refine .inr ?_
    simp-implicitDefEqProofs (disch:=try exact dd) [cB, -List.map_take, -List.map_drop,efo,hk1,hk2,hk3,hk4,hne,hne']
 ·have k6: ¬(i:Int)<l.length:=by omega
  have ht:l.take i=l:=List.take_of_length_le (by omega)
  obtain⟨efo,g1,b1,g2,b2,o1,o2⟩:=hB;rw[ht]at b1 g2 b2 o2 e5
  simp-implicitDefEqProofs (disch:=try exact dd) [cB, -List.map_take, -List.map_drop,e0,e5,e8,e9,e10,o5,k6,efo,g1,b1,g2,b2,o1,qU,fU,iD]
  exact fun k h1 h2=>o2 k (by simp[h1,h2])
theorem Gf{w:List Int}{l:List cZ}:(l.map fun e=>cZ.d (gZ w e))=(l.map (gZ w)).map cZ.d:=by rw[List.map_map];rfl
theorem q_(no g nf gf:Nat){fo:Nat}{gl:Nat→Nat}(hno:no<fo)(hnf:nf<fo)(hne:no≠nf)(hg:0<g)(hgf:0<gf)(l now kept:List cZ)(fT:List cK)(was:List Int)(hw:was.length+l.length≤100000)(hin:yq l fT.length)(hz:Aw fT):
 de Tryz.prog fo gl 231 [.ptr no g 0,.d (.slice (l.map cZ.d))] [qU no g nf gf (was.map (fileAt fT)) now kept fT was,fU nf gf (was.map (fileAt fT))] (.d (.slice ((l.map (gZ (dF was l))).map cZ.d))) (fun _=>false)
  [qU no g nf (gf+((dF was l).length-was.length)) ((dF was l).map (fileAt fT)) now kept fT (dF was l),fU nf (gf+((dF was l).length-was.length)) ((dF was l).map (fileAt fT))]:=by
 have:=Lf no g nf gf (gl:=gl) hno hnf hne hg hgf l now kept fT was hw hin hz
 rwa[Gf]at this
theorem mQ(k:Dk):dF (dF [] k.now) k.kept=dj (k.now++k.kept):=by rw[←IQ,qu]
theorem Jn{l k:List cZ}:(l.map fun e=>cZ.d (gZ (dF [] l) e))=l.map fun e=>cZ.d (gZ (dj (l++k)) e):=by
 refine bz fun e he=>?_
 obtain⟨r,hr⟩:=Dg l k;have hm:e.file∈dj l:=iX.2 ⟨e,he,rfl⟩;rw[qu,hr];unfold gZ;rw[wM hm]
def XD(k:Dk):Prop:=yq k.now k.files.length∧yq k.kept k.files.length
theorem D0(k:Dk):(dz k).d= .agg [.slice (((dF (dF [] k.now) k.kept).map (fileAt k.files)).map cK.d),.slice ((k.now.map (gZ (dF [] k.now))).map cZ.d),.slice ((k.kept.map (gZ (dF (dF [] k.now) k.kept))).map cZ.d)]:=by
 rw[←Gf (w:=dF [] k.now),Jn (k:=k.kept),mQ];unfold dz Dk.d;simp only[List.map_map];rfl
def hY(nf gf:Nat)(k:Dk):List PV:= [.bsl nf gf k.files.length 2 true,.d (.slice (k.now.map cZ.d)),.d (.slice (k.kept.map cZ.d))]
theorem js(k:Dk)(hk:kJ k)(hin:XD k)(hl:k.now.length+k.kept.length≤100000):cD Tryz.prog 132 [.d k.d] (.d (dz k).d) (fun _=>false):=by
 refine cD.bi Tryz.func132 [20001,80006,1006005,80007,40012,40020] ?_;have q1:=fun gl=>q_ (FO+7) 1 (FO+6) 1 (fo:=FO+2000) (gl:=gl) (by omega) (by omega) (by omega) (by omega) (by omega) k.now [] [] k.files [] (by simp;omega) hin.1 hk.1
 have hw1:=sn [] k.now;simp only[List.length_nil,Nat.zero_add]at hw1;have q2:=fun gl=>q_ (FO+7) 1 (FO+6) (1+((dF [] k.now).length-0)) (fo:=FO+2000) (gl:=gl) (by omega) (by omega) (by omega) (by omega) (by omega) k.kept (k.now.map (gZ (dF [] k.now))) [] k.files (dF [] k.now) (by omega) hin.2 hk.1
 simp-implicitDefEqProofs (disch:=try exact dd) [cB]
 refine dx (FO+2000) rfl rfl (q1 _) rfl (by simp-implicitDefEqProofs (disch:=try exact dd) [cB,qU,fU,iD,iv]) ?_
 simp-implicitDefEqProofs (disch:=try exact dd) [cB,qU,fU,iD,iv]
 refine dx (FO+2000) rfl rfl (q2 _) rfl ?_ ?_
 ·simp-implicitDefEqProofs (disch:=try exact dd) [cB,qU,fU,iD,iv]
  omega
 ·have hfl:((dF (dF [] k.now) k.kept).map (fileAt k.files)).length=(dF (dF [] k.now) k.kept).length:=by simp
  have hfb:(dK ((dF (dF [] k.now) k.kept).map (fileAt k.files))).length=(dF (dF [] k.now) k.kept).length*2:=by
   rw[gA,hfl];omega
  simp-implicitDefEqProofs (disch:=try exact dd) [cB,qU,fU,iD,iv,fj hfl,hfb]
  rw[←List.map_map (g:=cK.d),eM hfl,D0];simp only[List.map_map]
theorem Bo{fo:Nat}{gl:Nat→Nat}(k:Dk)(hk:kJ k)(hin:XD k)(hl:k.now.length+k.kept.length≤100000):
 de Tryz.prog fo gl 132 [.d k.d] [] (.pa (hY (fo+6) (gl (fo+6)+1+(dj (k.now++k.kept)).length) (dz k))) (fun _=>false) [fU (fo+6) (gl (fo+6)+1+(dj (k.now++k.kept)).length) (dz k).files]:=by
 refine de.bi Tryz.func132 [20001,80006,1006005,80007,40012,40020] (by simp[cH,cS,fU,hY,dK,(fun n=>aW (bO (gl (fo+6))) n: ∀n,0<gl (fo+6)+1+n)]) (by simp[cH,cS,fU,hY,dK,(fun n=>aW (bO (gl (fo+6))) n: ∀n,0<gl (fo+6)+1+n)]) (by simp[fU,hY,dK,(fun n=>aW (bO (gl (fo+6))) n: ∀n,0<gl (fo+6)+1+n)]) ?_
 have q1:=fun gl2=>q_ (fo+7) (gl (fo+7)+1) (fo+6) (gl (fo+6)+1) (fo:=fo+2000) (gl:=gl2) (by omega) (by omega) (by omega) (by omega) (by omega) k.now [] [] k.files [] (by simp;omega) hin.1 hk.1
 have hw1:=sn [] k.now;simp only[List.length_nil,Nat.zero_add]at hw1;have q2:=fun gl2=>q_ (fo+7) (gl (fo+7)+1) (fo+6) (gl (fo+6)+1+((dF [] k.now).length-0)) (fo:=fo+2000) (gl:=gl2) (by omega) (by omega) (by omega) (by omega) (by omega) k.kept (k.now.map (gZ (dF [] k.now))) [] k.files (dF [] k.now) (by omega) hin.2 hk.1
 simp-implicitDefEqProofs (disch:=try exact dd) [cB]
 refine dx (fo+2000) rfl rfl (q1 _) rfl (by simp-implicitDefEqProofs (disch:=try exact dd) [cB,qU,fU,iD,iv]) ?_
 simp-implicitDefEqProofs (disch:=try exact dd) [cB,qU,fU,iD,iv]
 refine dx (fo+2000) rfl rfl (q2 _) rfl ?_ ?_
 ·simp-implicitDefEqProofs (disch:=try exact dd) [cB,qU,fU,iD,iv]
  omega
 ·have hge:(dF [] k.now).length≤(dj (k.now++k.kept)).length:=by
   rw[←mQ];exact Ft _ _
  have hg2:gl (fo+6)+1+(dF [] k.now).length+((dj (k.now++k.kept)).length-(dF [] k.now).length)=gl (fo+6)+1+(dj (k.now++k.kept)).length:=by omega
  have e1:(k.now.map (gZ (dF [] k.now)))=k.now.map (gZ (dj (k.now++k.kept))):=by
   refine bz fun e he=>?_
   obtain⟨r,hr⟩:=Dg k.now k.kept;have hm:e.file∈dj k.now:=iX.2 ⟨e,he,rfl⟩;rw[qu,hr];unfold gZ;rw[wM hm]
  have e2:=congrArg (List.map cZ.d) e1;simp only[List.map_map]at e2
  simp-implicitDefEqProofs (disch:=try exact dd) [cB,qU,fU,iD,iv,mQ,hg2,hY,dz,e2]
theorem lM{k:Dk}(h:c9 k=true):XD k:=by
 obtain⟨h1,h2,h3,h4,h5⟩:=dP.1 h;exact⟨gR h2,gR h3⟩
theorem vY(k:Dk)(hk:kJ k)(hl:k.now.length+k.kept.length≤100000):cD Tryz.prog 131 [.d k.d] (.d (cP k).d) (fun _=>false):=by
 refine cD.bi Tryz.func131 [20001] ?_;have q:=zU k hk
 cases hr:c9 k with
 |true=>
  rw[hr]at q;have q2:=js k hk (lM hr) hl;rw[rr hr]at q2;rw[fK hr]
  simp-implicitDefEqProofs (disch:=try exact dd) [cB]
  refine oc q ?_
  simp-implicitDefEqProofs (disch:=try exact dd) [cB]
  refine oc q2 ?_
  simp-implicitDefEqProofs (disch:=try exact dd) [cB,Dk.d]
 |false=>
  have hg:cP k=kR:=by simp[cP,hr]
  rw[hr]at q;rw[hg]
  simp-implicitDefEqProofs (disch:=try exact dd) [cB]
  refine oc q ?_
  simp-implicitDefEqProofs (disch:=try exact dd) [cB,Dk.d,kR]
theorem tw{fo:Nat}{gl:Nat→Nat}(k:Dk)(hk:kJ k)(hl:k.now.length+k.kept.length≤100000):
 ∃i:Nat×Nat,(fo≤i.1∧i.1<fo+2000∧0<i.2)∧de Tryz.prog fo gl 131 [.d k.d] [] (.pa (hY i.1 i.2 (cP k))) (fun _=>false) [fU i.1 i.2 (cP k).files]:=by
 have q:=zU k hk
 cases hr:c9 k with
 |true=>
  rw[hr]at q;have q2:=fun gl2=>Bo (fo:=fo+1000) (gl:=gl2) k hk (lM hr) hl
  refine⟨(fo+1000+6,gl (fo+1000+6)+1+1+(dj (k.now++k.kept)).length),⟨by simp;omega,by simp,by simp;omega⟩,?_⟩
  simp only;rw[fK hr];rw[rr hr]at q2;refine de.bi Tryz.func131 [20001,1006005,40008] (by simp[cH,cS,fU,hY,dK,(fun n=>aW (bO (gl (fo+1000+6)+1)) n: ∀n,0<gl (fo+1000+6)+1+1+n)]) (by simp[cH,cS,fU,hY,dK,(fun n=>aW (bO (gl (fo+1000+6)+1)) n: ∀n,0<gl (fo+1000+6)+1+1+n)]) (by simp[fU,hY,dK,(fun n=>aW (bO (gl (fo+1000+6)+1)) n: ∀n,0<gl (fo+1000+6)+1+1+n)]) ?_
  simp-implicitDefEqProofs (disch:=try exact dd) [cB]
  refine oc q ?_
  simp-implicitDefEqProofs (disch:=try exact dd) [cB]
  refine dx (fo+1000) rfl rfl (q2 _) rfl (by simp-implicitDefEqProofs (disch:=try exact dd) [cB]) ?_
  simp-implicitDefEqProofs (disch:=try exact dd) [cB,hY,fU]
 |false=>
  have hg:cP k=kR:=by simp[cP,hr]
  rw[hr]at q;refine⟨(fo+6,gl (fo+6)+1),⟨by simp,by simp,by simp⟩,?_⟩
  simp only;rw[hg];refine de.bi Tryz.func131 [20001,1006005,40008] (by simp[cH,cS,fU,hY,dK]) (by simp[cH,cS,fU,hY,dK]) (by simp[fU,hY,dK]) ?_
  simp-implicitDefEqProofs (disch:=try exact dd) [cB]
  refine oc q ?_
  simp-implicitDefEqProofs (disch:=try exact dd) [cB,hY,fU,kR,iv]
theorem nQ{k:Dk}(h:c9 k=true){name:List UInt8}{x:Int}(hx:cQ k.now name=some x):0≤x∧x<k.files.length:=by
 unfold cQ at hx;simp only[Option.map_eq_some_iff]at hx;obtain⟨e,he,rfl⟩:=hx
 exact(lM h).1 e (List.mem_of_find?_eq_some he)
theorem Io{fo:Nat}{gl:Nat→Nat}(nd g:Nat)(hnd:nd<fo)(hg:0<g)(k:Dk)(hk:kJ k)(hr:c9 k=true)(name:List UInt8):
 de Tryz.prog fo gl 241 [.ptr nd g 0,.d (.str name)] [⟨nd,g,(cells k.d).map .d,fun _=>false⟩] (match cQ k.now name with|some x=> .cptr (cells (fileAt k.files x).d)|none=> .d (.opq (.pointer none))) (fun _=>false) [⟨nd,g,(cells k.d).map .d,fun _=>false⟩]:=by
 obtain⟨hf1,hf2,hf3⟩:=uv (nv (dP.1 hr).2.1) (name:=name);have hl:=hk.2.1.1;have q:=xX k.now name (by omega)
 cases hfo:gN k.now name with
 |false=>
  rw[hf3 hfo];rw[hfo]at q;refine de.bi Tryz.func241 [70011,70021,70025] (by simp[cH,cS,hg]) (by simp[cH,cS,hg]) (by simp[hg]) ?_
  simp-implicitDefEqProofs (disch:=try exact dd) [cB]
  refine oc q ?_
  simp-implicitDefEqProofs (disch:=try exact dd) [cB]
 |true=>
  have hx:=hf2 hfo;rw[hx];rw[hfo]at q;have hrg:=nQ hr hx;have hat:qn k.now name<k.now.length:=by
   simp only[gN,Bool.and_eq_true,decide_eq_true_eq]at hfo;exact hfo.1
  rw[List.getD_eq_getElem?_getD,List.getElem?_eq_getElem hat,Option.getD_some]at hrg⊢;obtain⟨n,hn⟩:=Int.eq_ofNat_of_zero_le hrg.1;rw[hn]at hrg⊢;have hnl:n<k.files.length:=by omega
  have hfa:fileAt k.files (n:Int)=k.files[n]:=by simp[fileAt,List.getD_eq_getElem?_getD,hnl]
  simp only[hfa];refine de.bi Tryz.func241 [70011,70021,70025,50027,50029] (by simp[cH,cS,hg]) (by simp[cH,cS,hg]) (by simp[hg]) ?_
  simp-implicitDefEqProofs (disch:=try exact dd) [cB]
  refine oc q ?_
  simp-implicitDefEqProofs (disch:=try exact dd) [cB,hn]
theorem uD{fo:Nat}{gl:Nat→Nat}(nd g nf gf:Nat)(hnd:nd<fo)(hnf:nf<fo)(hne:nd≠nf)(hg:0<g)(hgf:0<gf)(k:Dk)(hk:kJ k)(hr:c9 k=true)(name:List UInt8):
 de Tryz.prog fo gl 241 [.ptr nd g 0,.d (.str name)] [⟨nd,g,hY nf gf k,fun _=>false⟩,fU nf gf k.files] (match cQ k.now name with|some x=> .ptr nf gf (x.toNat*2)|none=> .d (.opq (.pointer none))) (fun _=>false) [⟨nd,g,hY nf gf k,fun _=>false⟩,fU nf gf k.files]:=by
 obtain⟨hf1,hf2,hf3⟩:=uv (nv (dP.1 hr).2.1) (name:=name);have hl:=hk.2.1.1;have q:=xX k.now name (by omega)
 have hne':nf≠nd:=fun e=>hne e.symm
 cases hfo:gN k.now name with
 |false=>
  rw[hf3 hfo];rw[hfo]at q;refine de.bi Tryz.func241 [70011,70021,70025] (by simp[cH,cS,hg,hgf,fU,hY,dK]) (by simp[cH,cS,hg,hgf,fU,hY,dK]) (by simp[hg,hgf,fU,hY,dK]) ?_
  simp-implicitDefEqProofs (disch:=try exact dd) [cB,hY]
  refine oc q ?_
  simp-implicitDefEqProofs (disch:=try exact dd) [cB,hY,fU,hne,hne']
 |true=>
  have hx:=hf2 hfo;rw[hx];rw[hfo]at q;have hrg:=nQ hr hx;have hat:qn k.now name<k.now.length:=by
   simp only[gN,Bool.and_eq_true,decide_eq_true_eq]at hfo;exact hfo.1
  rw[List.getD_eq_getElem?_getD,List.getElem?_eq_getElem hat,Option.getD_some]at hrg⊢;obtain⟨n,hn⟩:=Int.eq_ofNat_of_zero_le hrg.1;rw[hn]at hrg⊢;have hnl:n<k.files.length:=by omega
  have hfb:(dK k.files).length=k.files.length*2:=by rw[gA];omega
  refine de.bi Tryz.func241 [70011,70021,70025,50027,50029] (by simp[cH,cS,hg,hgf,fU,hY,dK]) (by simp[cH,cS,hg,hgf,fU,hY,dK]) (by simp[hg,hgf,fU,hY,dK]) ?_
  simp-implicitDefEqProofs (disch:=try exact dd) [cB,hY]
  refine oc q ?_
  simp-implicitDefEqProofs (disch:=try exact dd) [cB,hn,hY,fU,hne,hne',hfb]
def m5(k:Dk):Prop:=kJ k∧k.now.length+k.kept.length≤90000
theorem W1:m5 kR:=by simp[m5,kJ,Aw,lK,kR]
theorem mw{k:Dk}(h:m5 k):m5 (cP k):=by
 unfold cP;split
 ·exact h
 ·exact W1
theorem DE{l m:List cZ}(h:lK l)(hs: ∀e∈m,e∈l)(hl:m.length≤l.length):lK m:=⟨ao hl h.1,fun e he=>h.2 e (hs e he)⟩
theorem tu(l:List cZ)(n:List UInt8):(fc l n).length≤l.length:=List.length_filter_le _ _
theorem C2{l:List cZ}{n:List UInt8}: ∀e∈fc l n,e∈l:=fun e he=>(List.mem_filter.1 he).1
theorem rG{l:List cZ}(h:lK l)(n:List UInt8):lK (fc l n):=DE h C2 (tu l n)
theorem AL(l:List cZ)(n:List UInt8)(x:Int):(km l n x).length=l.length+1:=by
 have:=Fj l n;simp[km];omega
theorem AK{l:List cZ}{n:List UInt8}{x:Int}{e:cZ}(he:e∈km l n x):e∈l∨e=⟨n,x⟩:=by
 unfold km at he;rcases List.mem_append.1 he with h|h
 ·exact .inl (aA h)
 ·rcases List.mem_cons.1 h with h|h
  ·exact .inr h
  ·exact .inl (aY h)
theorem yY{l:List cZ}(h:lK l){n:List UInt8}(hn:n.length≤9223372036854775807)(x:Int)(hl:l.length<100000):lK (km l n x):=by
 refine⟨by rw[AL];omega,fun e he=>?_⟩
 rcases AK he with h1|rfl
 ·exact h.2 e h1
 ·exact hn
theorem xz{l:List cZ}{m:Nat}(h:yq l m)(n:List UInt8):yq (fc l n) m:=fun e he=>h e (C2 e he)
theorem Bb{l:List cZ}{m:Nat}(h:yq l m){n:List UInt8}{x:Int}(h0:0≤x)(h1:x<m):yq (km l n x) m:=by
 intro e he;rcases AK he with h2|rfl
 ·exact h e h2
 ·exact⟨h0,h1⟩
theorem pO: ∀(n:Nat) (w:List Int),w.Nodup→(∀x∈w,0≤x∧x<n)→w.length≤n
 |0,w,_,h=>by
  cases w with
  |nil=>simp
  |cons a w=>have:=h a (by simp);omega
 |n+1,w,hn,h=>by
  by_cases hm:(n:Int)∈w
  ·have h1:=pO n (w.erase (n:Int)) (hn.erase _) (fun x hx=>by
    have h2:=(hn.mem_erase_iff).1 hx;have h3:=h x h2.2;have h4:=h2.1
    omega)
   rw[List.length_erase_of_mem hm]at h1;omega
  ·have h1:=pO n w hn (fun x hx=>by
    have h3:=h x hx;have h4:x≠n:=fun e=>hm (e▸hx)
    omega)
   omega
theorem mC{l:List cZ}{m:Int}(h:fF l m=true):(l.map cZ.file).Nodup:=by
 unfold List.Nodup;rw[List.pairwise_iff_getElem];intro i j hi hj hij e;simp only[List.length_map]at hi hj;simp only[List.getElem_map]at e;have h1:=jU.1 h j hj;rw[nu hj]at h1;simp only[Bool.and_eq_true,Bool.not_eq_true']at h1;have h2:=h1.1.2;have h3:rn (l.take j) l[j].file=true:=CL.2 ⟨l[i],by rw[List.mem_take_iff_getElem];exact⟨i,by omega,rfl⟩,e⟩
 rw[h3]at h2
 cases h2
theorem zl{l:List cZ}{m:Nat}(h:fF l m=true):l.length≤m:=by
 have:=pO m (l.map cZ.file) (mC h) (fun x hx=>by
  obtain⟨e,he,rfl⟩:=List.mem_map.1 hx;exact gR h e he)
 simpa using this
theorem rN{l:List cZ}{m:Int}(h:fF l m=true): ∀e∈l,hF e.name=true:=by
 intro e he;obtain⟨i,hi,rfl⟩:=List.mem_iff_getElem.1 he;have h1:=jU.1 h i hi;rw[nu hi]at h1;simp only[Bool.and_eq_true]at h1;exact h1.1.1.1
theorem gL{k:Dk}(h:c9 k=true):k.files.length≤20∧k.now.length≤20∧k.kept.length≤20:=by
 obtain⟨h1,h2,h3,h4,h5⟩:=dP.1 h;have:=zl h2;have:=zl h3;omega
theorem CY{n:List UInt8}(h:hF n=true):1≤n.length∧n.length≤16:=by simpa[hF]using h
theorem jC{k:Dk}(h:c9 k=true):m5 k:=by
 have hl:=gL h;obtain⟨h1,h2,h3,h4,h5⟩:=dP.1 h;refine⟨⟨⟨by omega,fun f hf=>?_⟩,⟨by omega,fun e he=>?_⟩,⟨by omega,fun e he=>?_⟩⟩,by omega⟩
 ·have:=List.all_eq_true.1 h4 f hf;simp only[fv,decide_eq_true_eq]at this;omega
 ·have:=CY (rN h2 e he);omega
 ·have:=CY (rN h3 e he);omega
theorem GD(k:Dk)(hk:m5 k)(name:List UInt8):cD Tryz.prog 156 [.d k.d,.d (.str name)] (.tup [.d (.slice ((eW k name).1.map cM)),.d (.int .i64 (eW k name).2)]) (fun _=>false):=by
 refine cD.bi Tryz.func156 [40010] ?_;obtain⟨hk1,hk2⟩:=hk;have q:=vY k hk1 (by omega)
 have hok:=mw ⟨hk1,hk2⟩;have hrg:=dw k;unfold eW;generalize cP k=d at*
 have q2:=fun g hg gl=>Io (fo:=FO+1000) (gl:=gl) (FO+2) g (by omega) hg d hok.1 hrg name
 have hdd:d.d= .agg [.slice (d.files.map cK.d),.slice (d.now.map cZ.d),.slice (d.kept.map cZ.d)]:=rfl
 cases hx:cQ d.now name with
 |none=>
  rw[hx]at q2
  simp-implicitDefEqProofs (disch:=try exact dd) [cB,Dk.d]
  refine oc q ?_
  simp-implicitDefEqProofs (disch:=try exact dd) [cB,hdd]
  refine dx (FO+1000) rfl rfl (q2 1 (by omega) _) rfl (by simp-implicitDefEqProofs (disch:=try exact dd) [cB]) ?_
  simp-implicitDefEqProofs (disch:=try exact dd) [cB]
 |some x=>
  rw[hx]at q2
  simp-implicitDefEqProofs (disch:=try exact dd) [cB,Dk.d]
  refine oc q ?_
  simp-implicitDefEqProofs (disch:=try exact dd) [cB,hdd]
  refine dx (FO+1000) rfl rfl (q2 1 (by omega) _) rfl (by simp-implicitDefEqProofs (disch:=try exact dd) [cB]) ?_
  simp-implicitDefEqProofs (disch:=try exact dd) [cB]
theorem qc(k:Dk)(hk:m5 k):cD Tryz.prog 155 [.d k.d] (.d (dR k).d) (fun _=>false):=by
 refine cD.bi Tryz.func155 [] ?_;obtain⟨hk1,hk2⟩:=hk;have q:=vY k hk1 (by omega)
 have hok:=mw ⟨hk1,hk2⟩;have hrg:=dw k;unfold dR;generalize cP k=d at*
 have hdd:d.d= .agg [.slice (d.files.map cK.d),.slice (d.now.map cZ.d),.slice (d.kept.map cZ.d)]:=rfl;have hin:=lM hrg;have hlen:=(gL hrg).2.1;have q2:=js ⟨d.files,d.now,d.now⟩ ⟨hok.1.1,hok.1.2.1,hok.1.2.1⟩ ⟨hin.1,hin.1⟩ (by simp;omega)
 simp-implicitDefEqProofs (disch:=try exact dd) [cB,Dk.d]
 refine oc q ?_
 simp-implicitDefEqProofs (disch:=try exact dd) [cB,hdd]
 refine oc q2 ?_
 simp-implicitDefEqProofs (disch:=try exact dd) [cB,Dk.d]
theorem xF{l:List cZ}(hs:Fq l){name:List UInt8}:(cQ l name=none↔gN l name=false)∧ ∀x,cQ l name=some x→gN l name=true∧qn l name<l.length∧x=(l.getD (qn l name) default).file:=by
 obtain⟨h1,h2,h3⟩:=uv hs (name:=name)
 cases hf:gN l name with
 |true=>
  rw[h2 hf];refine⟨by simp,fun x hx=>⟨rfl,?_,(au hx).symm⟩⟩
  simp only[gN,Bool.and_eq_true,decide_eq_true_eq]at hf;exact hf.1
 |false=>
  rw[h3 hf];exact⟨by simp,fun x hx=>by cases hx⟩
theorem sf(k:Dk)(hk:m5 k)(name:List UInt8):cD Tryz.prog 154 [.d k.d,.d (.str name)] (.tup [.d (dU k name).1.d,.d (.int .i64 (dU k name).2)]) (fun _=>false):=by
 refine cD.bi Tryz.func154 [] ?_;obtain⟨hk1,hk2⟩:=hk;have q:=vY k hk1 (by omega)
 have hrg:=dw k;have hok:=mw ⟨hk1,hk2⟩;unfold dU;generalize cP k=d at*
 have hll:=gL hrg;have hdd:d.d= .agg [.slice (d.files.map cK.d),.slice (d.now.map cZ.d),.slice (d.kept.map cZ.d)]:=rfl;have hin:=lM hrg;have q1:=xX d.now name (by omega)
 have q2:=xW d.now name (by omega)
 obtain⟨f1,f2⟩:=xF (nv (dP.1 hrg).2.1) (name:=name);have hdl:=tu d.now name;have q3:=js ⟨d.files,fc d.now name,d.kept⟩ ⟨hok.1.1,rG hok.1.2.1 name,hok.1.2.2⟩ ⟨xz hin.1 name,hin.2⟩ (by simp;omega)
 cases hx:cQ d.now name with
 |none=>
  rw[f1.1 hx]at q1
  simp-implicitDefEqProofs (disch:=try exact dd) [cB,Dk.d]
  refine oc q ?_
  simp-implicitDefEqProofs (disch:=try exact dd) [cB,hdd]
  refine oc q1 ?_
  simp-implicitDefEqProofs (disch:=try exact dd) [cB]
 |some x=>
  rw[(f2 x hx).1]at q1
  simp-implicitDefEqProofs (disch:=try exact dd) [cB,Dk.d]
  refine oc q ?_
  simp-implicitDefEqProofs (disch:=try exact dd) [cB,hdd]
  refine oc q1 ?_
  simp-implicitDefEqProofs (disch:=try exact dd) [cB]
  refine oc q2 ?_
  simp-implicitDefEqProofs (disch:=try exact dd) [cB]
  refine oc q3 ?_
  simp-implicitDefEqProofs (disch:=try exact dd) [cB,Dk.d]
theorem EU(k:Dk)(hk:m5 k)(name to:List UInt8)(hto:to.length≤9223372036854775807):cD Tryz.prog 339 [.d k.d,.d (.str name),.d (.str to)] (.tup [.d (fh k name to).1.d,.d (.int .i64 (fh k name to).2)]) (fun _=>false):=by
 refine cD.bi Tryz.func339 [] ?_;obtain⟨hk1,hk2⟩:=hk;have q:=vY k hk1 (by omega)
 have hrg:=dw k;have hok:=mw ⟨hk1,hk2⟩;unfold fh;generalize cP k=d at*
 have hll:=gL hrg;have hdd:d.d= .agg [.slice (d.files.map cK.d),.slice (d.now.map cZ.d),.slice (d.kept.map cZ.d)]:=rfl;have hin:=lM hrg;have q1:=xX d.now name (by omega)
 have q2:=xW d.now name (by omega)
 have hdl:=tu d.now name;have hdl2:=tu (fc d.now name) to;have q3:=xW (fc d.now name) to (by omega)
 have qf:=xV to hto;obtain⟨f1,f2⟩:=xF (nv (dP.1 hrg).2.1) (name:=name)
 cases hx:cQ d.now name with
 |none=>
  rw[f1.1 hx]at q1
  simp-implicitDefEqProofs (disch:=try exact dd) [cB,Dk.d]
  refine oc q ?_
  simp-implicitDefEqProofs (disch:=try exact dd) [cB,hdd]
  refine oc q1 ?_
  simp-implicitDefEqProofs (disch:=try exact dd) [cB]
 |some x=>
  obtain⟨g1,g2,g3⟩:=f2 x hx;rw[g1]at q1;have hrx:=nQ hrg hx;have q4:=GC (fc (fc d.now name) to) to x (by omega)
  rw[List.getD_eq_getElem?_getD,List.getElem?_eq_getElem g2,Option.getD_some]at g3;have hpl:=AL (fc (fc d.now name) to) to x
  cases hf:hF to with
  |false=>
   rw[hf]at qf
   simp-implicitDefEqProofs (disch:=try exact dd) [cB,Dk.d]
   refine oc q ?_
   simp-implicitDefEqProofs (disch:=try exact dd) [cB,hdd]
   refine oc q1 ?_
   simp-implicitDefEqProofs (disch:=try exact dd) [cB]
   refine oc qf ?_
   simp-implicitDefEqProofs (disch:=try exact dd) [cB]
  |true=>
   have q5:=js ⟨d.files,km (fc (fc d.now name) to) to x,d.kept⟩ ⟨hok.1.1,yY (rG (rG hok.1.2.1 name) to) hto x (by omega),hok.1.2.2⟩ ⟨Bb (xz (xz hin.1 name) to) hrx.1 hrx.2,hin.2⟩ (by simp;omega)
   rw[hf]at qf
   simp-implicitDefEqProofs (disch:=try exact dd) [cB,Dk.d]
   refine oc q ?_
   simp-implicitDefEqProofs (disch:=try exact dd) [cB,hdd]
   refine oc q1 ?_
   simp-implicitDefEqProofs (disch:=try exact dd) [cB]
   refine oc qf ?_
   simp-implicitDefEqProofs (disch:=try exact dd) [cB,g2]
   refine oc q2 ?_
   simp-implicitDefEqProofs (disch:=try exact dd) [cB]
   refine oc q3 ?_
   simp-implicitDefEqProofs (disch:=try exact dd) [cB,←g3]
   refine oc q4 ?_
   simp-implicitDefEqProofs (disch:=try exact dd) [cB]
   refine oc q5 ?_
   simp-implicitDefEqProofs (disch:=try exact dd) [cB,Dk.d]
theorem Lr(l:List cZ):(dj l).length≤l.length:=by
 have:=sn [] l;rw[qu]at this
 simpa using this
def iO(l:List cZ)(name:List UInt8):Int:=match cQ l name with|some x=>x|none=> -1
theorem EI{l:List cZ}{name:List UInt8}{i:Nat}(h:i<l.length)(hn: ∀j (h:j<l.length),j<i→l[j].name≠name)(hx:l[i].name=name):cQ l name=some l[i].file:=by
 unfold cQ;have:(l.find? fun e=>decide (e.name=name))=some l[i]:=by
  rw[List.find?_eq_some_iff_getElem];exact⟨by simpa using hx,i,h,rfl,fun j hj=>by simpa using hn j (by omega) hj⟩
 rw[this];rfl
theorem M1{l:List cZ}{name:List UInt8}(hn: ∀j (h:j<l.length),l[j].name≠name):cQ l name=none:=by
 unfold cQ;have:(l.find? fun e=>decide (e.name=name))=none:=by
  rw[List.find?_eq_none];intro e he;obtain⟨j,hj,rfl⟩:=List.mem_iff_getElem.1 he
  simpa using hn j hj
 rw[this];rfl
end Go.Proofs.YtoilfihojgeonaaGreatDoor
