/- The engine, texts N to Q. -/
import Derived.Test.YtoilfihojgeonaaGreatDoorS01
import Derived.MapKept
import Derived.Deep.LoopGhost
set_option linter.unusedVariables false
set_option linter.unusedSimpArgs false
namespace BoEng
open Go Go.RowKit
section
variable {P:Program} {N:Nat} {tch:Env} {w0:World} {fr0:Nat→Option Nat} {S:PS} {a:Act} {w:World} {fr:Nat→Option Nat} {β:Nat→hU}
theorem GY(h:dC N tch w0 fr0 S a w fr β){o:Oper}{t:TypeId}{x v:Operand}{n g off:Nat}{cs:List PV}(hdst:o.dst=none)(ho:o.op= .store t x v)(hx:S.ev x= .ptr n g off)(hc:cW (S.ev v)=some cs)
 (hg:g=S.gen n) (hsz:cs.length=cX P t) (hpos:0<cX P t) (hle:off+cs.length≤(S.box n).length):
 (execOp a.eval o).run P w= .ok .skip (w.setCells (β n).b off (a.eval v).cells.toList)∧(a.eval v).cells.toList.length=cs.length∧0<S.gen n∧
  ∀(k:Nat) (u:Value) (p:PV),(a.eval v).cells.toList[k]? =some u→cs[k]? =some p→da w fr β S.gen u p∧one u:=by
 have hxv:=h.ev x;rw[hx]at hxv;obtain⟨e,h0⟩:=Gl hxv hg;obtain⟨e1,e2⟩:=ik (h.ev v) hc;have hgn:0<S.gen n:=by rw[←hg];exact h0
 have hbn:=h.boxes n hgn;have hk0:=JA hxv hg;have hbl:=hbn.len (.inl hk0);obtain⟨c,E,hh,dQ,hcp⟩:=hbn.ex (by omega) hk0
 have hcell: ∀k,w.cell? ⟨(β n).b,k,none⟩=c[k]? :=fun k=>by simp only[World.cell?,hh];rfl
 have hl:(a.eval v).cells.toList.length=cs.length:=by rw[←e1];simp
 have hp2: ∀(k:Nat) (u:Value) (p:PV),(a.eval v).cells.toList[k]? =some u→cs[k]? =some p→da w fr β S.gen u p∧one u:=fun k u p hu hp=>e2 k u p (by simpa using hu) hp
 have hst:(storeCells ⟨(β n).b,off,none⟩ (a.eval v).cells.toList).run P w= .ok () (w.setCells (β n).b off (a.eval v).cells.toList):=by
  refine b8 (P:=P) (β n).b off _ 0 w (fun j hj=>?_) (fun j hj=>?_) (fun u hu=>?_)
  ·rw[hcell];have:off+(0+j)<c.size:=by omega
   simp;omega
  ·simp[World.frozen?,hh]
  ·obtain⟨k,hk⟩:=b_ hu;have hkl:k<cs.length:=by
    have:=(List.getElem?_eq_some_iff.1 hk).1;omega
   exact(hp2 k u _ hk (List.getElem?_eq_getElem hkl)).2
 refine⟨?_,hl,hgn,hp2⟩;simp only[execOp,ho,e,Instr.storeAt,Instr.sureAddr,storeVar,Sem.run_bind,aw,aa,eG hpos];rw[if_neg (by rw[e1,hsz];simp)]
 simp only[Sem.run_bind,hst,aa,aw]
theorem uH{sz:Nat}{ag:Bool}: ∀(k:Nat) (ds:List DV),(chunk sz ag k ds).length=k
 |0,_=>rfl
 |k+1,ds=>by simp[chunk,uH k]
theorem sj{sz:Nat}{ag:Bool}(hs:ag=false→sz=1): ∀(k:Nat) (ds:List DV),ds.length=k*sz→(ag=false→ ∀d∈ds,∀cs,d≠ .agg cs)→flat (chunk sz ag k ds)=ds∧ ∀x∈chunk sz ag k ds,(cells x).length=sz
 |0,ds,hl,_=>by
  have:ds= []:=List.eq_nil_of_length_eq_zero (by omega)
  subst this;exact⟨rfl,by simp[chunk]⟩
 |k+1,ds,hl,hn=>by
  rw[bL]at hl;obtain⟨h1,h2⟩:=sj hs k (ds.drop sz) (by rw[List.length_drop];omega) (fun e d hd=>hn e d (aY hd))
  cases ag with
  |true=>
   refine⟨?_,fun x hx=>?_⟩
   ·simp only[chunk,if_true,dS,h1,cells];exact ay _ _
   ·simp only[chunk,if_true,List.mem_cons]at hx;rcases hx with rfl|hx
    ·simp[cells];omega
    ·exact h2 x hx
  |false=>
   have hsz:=hs rfl;subst hsz
   cases ds with
   |nil=>simp at hl
   |cons d ds=>
    have hc:cells d= [d]:=by
     have:=hn rfl d List.mem_cons_self
     cases d<;>first|rfl|exact absurd rfl (this _)
    refine⟨?_,fun x hx=>?_⟩
    ·simp only[chunk,dS,h1,List.headD_cons,aF,aL,hc];rfl
    ·simp only[chunk,List.headD_cons,aF,aL,List.mem_cons]at hx;rcases hx with rfl|hx
     ·rw[hc];rfl
     ·exact h2 x hx
theorem om(h:dC N tch w0 fr0 S a w fr β){n g len sz:Nat}{ag:Bool}{xs:List DV}(ht:iP S n g len sz ag=some xs)(h0:0<S.gen n)(hs0:0<sz)(hk0:(β n).k=false):
 xs.length=len∧(∀x∈xs,(cells x).length=sz)∧len*sz≤(S.box n).length∧(S.box n).take (len*sz)=(flat xs).map .d∧ ∃us:List Value,us.length=len*sz∧kH w fr us (flat xs)∧(0<len→ ∀k,k<len*sz→w.cell? ⟨(β n).b,k,none⟩=us[k]?):=by
 unfold iP at ht
 split at ht
 ·rename_i hc;simp only[Option.map_eq_some_iff]at ht;obtain⟨ds,hds,rfl⟩:=ht;have hsp:=nj _ _ hds;have hdl:ds.length=len*sz:=by
   have:=congrArg List.length hsp;simp at this;omega
  have hbn:=h.boxes n h0;have hbl:=hbn.len (.inl hk0);rcases az len with hl0|hl0
  ·subst hl0;have hd0:ds= []:=List.eq_nil_of_length_eq_zero (by omega)
   subst hd0;refine⟨rfl,by simp[chunk],by omega,by simp[chunk,flat],[],by simp,⟨rfl,by simp,by simp⟩,fun h=>by omega⟩
  ·have hpos:0<len*sz:=aX hl0 hs0;obtain⟨cs,E,hh,dQ,hcp⟩:=hbn.ex (by omega) hk0
   have hcell: ∀k,w.cell? ⟨(β n).b,k,none⟩=cs[k]? :=fun k=>by simp only[World.cell?,hh];rfl
   have hrep: ∀(k:Nat) (u:Value) (d:DV),cs[k]? =some u→ds[k]? =some d→eB w fr u d∧one u:=by
    intro k u d hu hd;have hp:(S.box n)[k]? =some (.d d):=by
     have h1:((S.box n).take (len*sz))[k]? =some (.d d):=by rw[hsp,List.getElem?_map,hd];rfl
     rw[ah]at h1
     split at h1
     ·exact h1
     ·cases h1
    exact⟨fH (hcp k u _ hu hp).1,(hcp k u _ hu hp).2⟩
   have hna: ∀d∈ds,∀c,d≠ .agg c:=by
    intro d hd c e;subst e;obtain⟨k,hk⟩:=List.mem_iff_getElem?.1 hd;have hkl:=(List.getElem?_eq_some_iff.1 hk).1;have hkc:k<cs.size:=by omega
    obtain⟨hr,ho⟩:=hrep k cs[k] _ (by simp[hkc]) hk
    obtain⟨vs,e,_⟩:=tJ hr;rw[e]at ho;simp[one,Value.oneCell']at ho
   obtain⟨hf,hz⟩:=sj hc.2.2 len ds hdl (fun _=>hna)
   refine⟨uH _ _,hz,hc.2.1,by rw[hf,hsp],cs.toList.take (len*sz),by simp;omega,?_,fun _ k hk=>?_⟩
   ·rw[hf];refine⟨by simp;omega,fun u hu=>?_,fun k u p hu hp=>?_⟩
    ·obtain⟨k,hk⟩:=List.mem_iff_getElem?.1 hu;rw[ah]at hk
     split at hk
     ·rename_i hkl
      exact(hrep k u _ (by simpa using hk) (List.getElem?_eq_getElem (by omega))).2
     ·cases hk
    ·rw[ah]at hu
     split at hu
     ·exact(hrep k u p (by simpa using hu) hp).1
     ·cases hu
   ·rw[hcell,ah,if_pos hk];simp
 ·cases ht
theorem yu(h:dC N tch w0 fr0 S a w fr β){n g lo len sz:Nat}{ag:Bool}{xs:List DV}(ht:oq S n g lo len sz ag=some xs)(h0:0<S.gen n)(hs0:0<sz)(hk0:(β n).k=false):
 xs.length=len∧(∀x∈xs,(cells x).length=sz)∧(lo+len)*sz≤(S.box n).length∧ ∃us:List Value,us.length=len*sz∧kH w fr us (flat xs)∧(0<len→ ∀k,k<len*sz→w.cell? ⟨(β n).b,lo*sz+k,none⟩=us[k]?):=by
 unfold oq at ht
 split at ht
 ·rename_i hc;simp only[Option.map_eq_some_iff]at ht;obtain⟨ds,hds,rfl⟩:=ht;have hsp:=nj _ _ hds;have hle2:lo*sz+len*sz≤(S.box n).length:=by rw[←aK];exact hc.2.1
  have hdl:ds.length=len*sz:=by
   have:=congrArg List.length hsp;simp at this;omega
  have hbn:=h.boxes n h0;have hbl:=hbn.len (.inl hk0);rcases az len with hl0|hl0
  ·subst hl0;have hd0:ds= []:=List.eq_nil_of_length_eq_zero (by omega)
   subst hd0;exact⟨rfl,by simp[chunk],hc.2.1,[],by simp,⟨rfl,by simp,by simp⟩,fun h=>by omega⟩
  ·have hpos:0<len*sz:=aX hl0 hs0;obtain⟨cs,E,hh,dQ,hcp⟩:=hbn.ex (by omega) hk0
   have hcell: ∀k,w.cell? ⟨(β n).b,k,none⟩=cs[k]? :=fun k=>by simp only[World.cell?,hh];rfl
   have hrep: ∀(k:Nat) (u:Value) (d:DV),cs[lo*sz+k]? =some u→ds[k]? =some d→eB w fr u d∧one u:=by
    intro k u d hu hd;have hp:(S.box n)[lo*sz+k]? =some (.d d):=by
     have h1:(((S.box n).drop (lo*sz)).take (len*sz))[k]? =some (.d d):=by rw[hsp,List.getElem?_map,hd];rfl
     rw[ah]at h1
     split at h1
     ·rwa[ak]at h1
     ·cases h1
    exact⟨fH (hcp _ u _ hu hp).1,(hcp _ u _ hu hp).2⟩
   have hna: ∀d∈ds,∀c,d≠ .agg c:=by
    intro d hd c e;subst e;obtain⟨k,hk⟩:=List.mem_iff_getElem?.1 hd;have hkl:=(List.getElem?_eq_some_iff.1 hk).1;have hkc:lo*sz+k<cs.size:=by omega
    obtain⟨hr,ho⟩:=hrep k cs[lo*sz+k] _ (by simp[hkc]) hk
    obtain⟨vs,e,_⟩:=tJ hr;rw[e]at ho;simp[one,Value.oneCell']at ho
   obtain⟨hf,hz⟩:=sj hc.2.2 len ds hdl (fun _=>hna)
   refine⟨uH _ _,hz,hc.2.1,(cs.toList.drop (lo*sz)).take (len*sz),by simp;omega,?_,fun _ k hk=>?_⟩
   ·rw[hf];refine⟨by simp;omega,fun u hu=>?_,fun k u p hu hp=>?_⟩
    ·obtain⟨k,hk⟩:=List.mem_iff_getElem?.1 hu;rw[ah]at hk
     split at hk
     ·rename_i hkl;rw[ak]at hk
      exact(hrep k u _ (by simpa using hk) (List.getElem?_eq_getElem (by omega))).2
     ·cases hk
    ·rw[ah]at hu
     split at hu
     ·rw[ak]at hu
      exact(hrep k u p (by simpa using hu) hp).1
     ·cases hu
   ·rw[hcell,ah,if_pos hk,ak];simp
 ·cases ht
theorem qx(h:dC N tch w0 fr0 S a w fr β){e:TypeId}{i:TypeInfo}{z:Value}{x:Operand}{tx:TypeId}{by_:Nat}{xl:Nat}{ys:List DV}{rd:Bool}(hsrc:m4 P rd S e x tx=some ys)(hz:eQ P e=some z)(his:i.size=cX P e)(hib:i.bytes=by_)(hzs:z.cells.size=cX P e)
 (hpos:0<cX P e) (hzy: ∀x∈ys,(cells x).length=i.size) (hlen:xl+ys.length≤140737488355328) (hbound:(xl+ys.length)*by_≤140737488355328):
 ∃(m:Nat) (news:List Value),IF P i.size i.bytes z tx (a.eval x) m news w∧m=ys.length∧kH w fr news (flat ys)∧(∀n g len sz ag,S.ev x= .bsl n g len sz ag→g=S.gen n∧((S.box n).length=len*sz→(flat ys).map .d=S.box n)∧(0<len→ ∀k,k<len*sz→w.cell? ⟨(β n).b,k,none⟩=news[k]?)):=by
 unfold m4 at hsrc;have hx:=h.ev x
 split at hsrc
 ·rename_i ys' e' hp hu
  cases hsrc
  rw[hp]at hx;obtain⟨A,cap,sz,us,ev,hcap,hsz,ha,h1,hh⟩:=ff (fH hx);have hesz:0<ys.length→sz=i.size:=by
   intro h0;obtain⟨q,hq⟩:=aC h0;rw[←hsz q hq,hzy q hq]
  have hog: ∀k,k<ys.length*i.size→((List.range (ys.length*i.size)).map us)[k]? =some (us k):=by
   intro k hk;simp[hk]
  have hfc: ∀w2:World,w2.heap=w.heap→(Builtin.firstCells i.size ys.length (.slice A ys.length cap)).run P w2= .ok ((List.range (ys.length*i.size)).map us).toArray w2:=by
   intro w2 hw2;rcases az ys.length with h0|h0
   ·rw[h0,bM]
    cases A with
    |none=>simp[Builtin.firstCells]
    |some ad=>simp[Builtin.firstCells,loadCells,loadCellsFrom]
   ·obtain⟨ad,rfl,hsp,hf,hcc⟩:=ha h0;refine bf w2 i.size ys.length ad ys.length cap _ (by simp) fun j u hj=>?_
    have hjl:j<ys.length*i.size:=by
     have:=(List.getElem?_eq_some_iff.1 hj).1
     simpa using this
    rw[hog j hjl]at hj
    cases hj
    rw[fz hsp,←hcc j (by rw[hesz h0];exact hjl)]
    simp only[World.cell?,hw2]
  refine⟨ys.length,(List.range (ys.length*i.size)).map us,?_,rfl,?_,fun n g len sz ag e=>by rw[hp]at e;cases e⟩
  ·rw[ev];exact .row _ hu (by simp) rfl rfl (hfc w rfl) (hfc w.drew rfl)
  ·refine⟨by simp[ed hzy],fun u hu=>?_,fun k u p hu hp=>?_⟩
   ·simp only[List.mem_map,List.mem_range]at hu;obtain⟨k,hk,rfl⟩:=hu;have h0:0<ys.length:=by
     rcases az ys.length with h0|h0
     ·rw[h0,bM]at hk;omega
     ·exact h0
    exact h1 k (by rw[hesz h0];exact hk)
   ·have hk:k<ys.length*i.size:=by
     have:=(List.getElem?_eq_some_iff.1 hu).1
     simpa using this
    rw[hog k hk]at hu
    cases hu
    exact hh k p hp
 ·rename_i st hp hu
  cases hsrc
  rw[hp]at hx;have ev:=iI hx;have hfl:flat (st.map fun b=>DV.int .u8 b.toNat)=st.map fun b=>DV.int .u8 b.toNat:=by
   clear hzy hbound hlen hp hx ev
   induction st with
   |nil=>rfl
   |cons b st ih=>rw[List.map_cons,dS,ih];rfl
  have hfc: ∀w2:World,(Builtin.firstCells i.size st.length (.string ⟨st.toArray⟩)).run P w2= .ok (st.map fun b=>Value.int .u8 b.toNat).toArray w2:=by
   intro w2;have hex:(ByteArray.mk st.toArray).extract 0 st.length=ByteArray.mk st.toArray:=by
    apply ByteArray.ext
    simp
   simp only[Builtin.firstCells,hex,aw]
   congr 1
   simp
  refine⟨st.length,st.map fun b=> .int .u8 b.toNat,?_,by simp,?_,fun n g len sz ag e=>by rw[hp]at e;cases e⟩
  ·rw[ev];refine .row _ hu (by simp) ?_ ?_ (hfc w) (hfc w.drew)
   ·simp[Builtin.lenOf,nn]
   ·simp[Builtin.lenOf,nn]
  ·rw[hfl];refine⟨by simp,fun u hu=>?_,fun k u p hu hp=>?_⟩
   ·simp only[List.mem_map]at hu;obtain⟨b,_,rfl⟩:=hu;rfl
   ·rw[List.getElem?_map]at hu hp
    cases hk:st[k]? with
    |none=>rw[hk]at hu;cases hu
    |some b=>
     rw[hk]at hu hp
     cases hu
     cases hp
     exact .int _ _
 ·rename_i k n kn hp hu;rw[hp]at hx;have ev:=eT hx;rw[hz]at hsrc;simp only at hsrc
  split at hsrc
  ·rename_i hn
   cases hsrc
   obtain⟨m,rfl⟩:=Int.eq_ofNat_of_zero_le hn.1;have hzc:z.cells= #[z]:=by
    have:=hn.2.2
    cases z<;>first|rfl|simp[Value.oneCell']at this
   have hi1:i.size=1:=by rw[his,←hzs,hzc];rfl
   have hrep:(Builtin.zeroCells z.cells m).toList=List.replicate m z:=by
    rw[hzc]
    apply bk
    intro q;simp[Builtin.zeroCells,Nat.mod_one];by_cases hq:q<m<;>simp[hq]
   have hcz:cells (dh z)= [dh z]:=by
    have:=hn.2.2
    cases z<;>first|rfl|(simp[Value.oneCell']at this;done)|(unfold dh;split<;>rfl)
   refine⟨m,List.replicate m z,?_,by simp,?_,fun n g len sz ag e=>by rw[hp]at e;cases e⟩
   ·rw[ev];refine .zeros kn k hu rfl hn.2.1 ?_ (by omega) hrep.symm
    have hl:(List.replicate (m:Int).toNat (dh z)).length=m:=by simp
    rw[hl]at hbound;have:m*by_≤(xl+m)*by_:=aN _ (by omega)
    rw[hib];omega
   ·have hf:flat (List.replicate (m:Int).toNat (dh z))=List.replicate m (dh z):=by
     have e:(m:Int).toNat=m:=by simp
     rw[e];clear hrep hbound hlen hn ev hu hx hp hzy
     induction m with
     |zero=>rfl
     |succ m ih=>rw[List.replicate_succ,dS,ih (by simp),hcz];rfl
    rw[hf];refine⟨by simp,fun u hu=>?_,fun q u p hu hp=>?_⟩
    ·rw[List.eq_of_mem_replicate hu];exact hn.2.2
    ·have hq:q<m:=by
      have:=(List.getElem?_eq_some_iff.1 hu).1
      simpa using this
     simp[hq]at hu hp;subst hu hp;exact eX hn.2.2
  ·cases hsrc
 ·rename_i n g len sz ag e' hp hu;rw[hp]at hx
  split at hsrc
  case isFalse=>cases hsrc
  obtain⟨A,cap,ev,h0,hs0,hA⟩:=lg hx;have hg:g=S.gen n:=by
   unfold iP at hsrc
   split at hsrc
   ·rename_i hc;exact hc.1
   ·cases hsrc
  obtain⟨hyl,hyz,hle,htk,us,hul,hur,huc⟩:=om h hsrc (by rw[←hg];exact h0) hs0 (o9 hx hg)
  have hbn:=h.boxes n (by rw[←hg];exact h0)
  have hbl:=hbn.len (.inl (o9 hx hg));obtain⟨hA1,_,_⟩:=hA hg;have hfc: ∀w2:World,w2.heap=w.heap→(Builtin.firstCells i.size len (.slice A len cap)).run P w2= .ok us.toArray w2:=by
   intro w2 hw2;rcases az len with hl0|hl0
   ·subst hl0;have:us= []:=List.eq_nil_of_length_eq_zero (by omega)
    subst this
    cases A with
    |none=>simp[Builtin.firstCells]
    |some ad=>simp[Builtin.firstCells,loadCells,loadCellsFrom]
   ·have hsz:sz=i.size:=by
     obtain⟨q,hq⟩:=aC (l:=ys) (by omega)
     rw[←hyz q hq,hzy q hq]
    have hc0:0<(β n).c:=by
     have:=aX hl0 hs0;omega
    obtain rfl:=hA1 hc0;refine bf w2 i.size len _ len cap _ (by rw[hul,hsz]) fun j u hj=>?_
    have hjl:j<len*sz:=by
     have:=(List.getElem?_eq_some_iff.1 hj).1;omega
    rw[fz rfl];simp only[Nat.zero_add];rw[←hj,←huc hl0 j hjl];simp only[World.cell?,hw2]
  refine⟨len,us,?_,hyl.symm,hur,fun n' g' len' sz' ag' e=>by rw[hp]at e;cases e;exact⟨hg,fun e1=>by rw[←htk,List.take_of_length_le (by omega)],huc⟩⟩
  rw[ev];exact .row _ hu (by simp) rfl rfl (hfc w rfl) (hfc w.drew rfl)
 ·rename_i n g lo len sz ag ti e' hp hu;rw[hp]at hx
  split at hsrc
  case isFalse=>cases hsrc
  obtain⟨A,cap,ev,h0,hs0,hlc,hti,hA,hkk⟩:=xu hx;have hg:g=S.gen n:=by
   unfold oq at hsrc
   split at hsrc
   ·rename_i hc;exact hc.1
   ·cases hsrc
  obtain⟨hyl,hyz,hle,us,hul,hur,huc⟩:=yu h hsrc (by rw[←hg];exact h0) hs0 (hkk hg)
  have hfc: ∀w2:World,w2.heap=w.heap→(Builtin.firstCells i.size len (.slice A len cap)).run P w2= .ok us.toArray w2:=by
   intro w2 hw2;rcases az len with hl0|hl0
   ·subst hl0;have:us= []:=List.eq_nil_of_length_eq_zero (by omega)
    subst this
    cases A with
    |none=>simp[Builtin.firstCells]
    |some ad=>simp[Builtin.firstCells,loadCells,loadCellsFrom]
   ·have hsz:sz=i.size:=by
     obtain⟨q,hq⟩:=aC (l:=ys) (by omega)
     rw[←hyz q hq,hzy q hq]
    obtain⟨hc0,rfl⟩:=hA hg hl0;refine bf w2 i.size len _ len cap _ (by rw[hul,hsz]) fun j u hj=>?_
    have hjl:j<len*sz:=by
     have:=(List.getElem?_eq_some_iff.1 hj).1;omega
    rw[fz rfl];rw[←hj,←huc hl0 j hjl];simp only[World.cell?,hw2]
  refine⟨len,us,?_,hyl.symm,hur,fun n' g' len' sz' ag' e=>by rw[hp]at e;cases e⟩
  rw[ev];exact .row _ hu (by simp) rfl rfl (hfc w rfl) (hfc w.drew rfl)
 ·cases hsrc
theorem IA{t e:TypeId}{by_:Nat}{z:Value}(h:Ng P t=some (e,by_,z)):kP P t=some e∧yf P e=some by_∧eQ P e=some z∧z.cells.size=cX P e∧0<cX P e∧0<by_:=by
 unfold Ng at h
 split at h
 ·rename_i e' he
  split at h
  ·rename_i b' z' hb hz
   split at h
   ·rename_i hc
    cases h
    exact⟨he,hb,hz,hc⟩
   ·cases h
  ·cases h
 ·cases h
theorem nP{news:List Value}{ys:List DV}(hR:kH w fr news (flat ys)){gen:Nat→Nat}(k:Nat)(u:Value)(p:PV)(hu:news[k]? =some u)(hp:((flat ys).map PV.d)[k]? =some p):da w fr β gen u p∧one u:=by
 rw[List.getElem?_map]at hp
 cases hq:(flat ys)[k]? with
 |none=>rw[hq]at hp;cases hp
 |some q=>
  rw[hq]at hp
  cases hp
  exact⟨.d _ _ (hR.2.2 k u q hu hq),hR.2.1 u (List.mem_of_getElem? hu)⟩
def Ae(P:Program)(N:Nat)(tch:Env)(w0:World)(fr0:Nat→Option Nat)(S S':PS)(o:Oper)(a:Act)(w:World)(β:Nat→hU)(n L:Nat)(news:List Value):Prop:=
 ∃w' fr' β' v,(execOp a.eval o).run P w= .ok (.value v) w'∧dC N tch w0 fr0 S' (a.put o.dst v) w' fr' β'∧(∀(j:Nat) (u:Value),news[j]? =some u→w'.cell? ⟨(β' n).b,L+j,none⟩=some u)∧
  (∀k,k≠n→β' k=β k)∧ ∀b,b<w.heap.size→(0<S.gen n→0<(β n).c→b≠(β n).b)→w'.heap[b]? =w.heap[b]?
theorem Ae.Na{P:Program}{N:Nat}{tch:Env}{w0:World}{fr0:Nat→Option Nat}{S S':PS}{o:Oper}{a:Act}{w:World}{β:Nat→hU}{n L:Nat}{news:List Value}(h:Ae P N tch w0 fr0 S S' o a w β n L news):
 lr P N tch w0 fr0 S' o a w:=by
 obtain⟨w',fr',β',v,hr,hS,_⟩:=h;exact⟨w',fr',β',.inl ⟨v,hr,hS⟩⟩
theorem EF(h:dC N tch w0 fr0 S a w fr β){o:Oper}{s n len m by_ cap:Nat}{ag:Bool}{t tx e:TypeId}{i:TypeInfo}{z x:Value}{ys:List DV}{news:List Value}{A:Option Addr}
 (hexec: ∀v w',(Builtin.append_ #[t,tx] o.type #[a.tmps.getD s undef,x]).run P w= .ok v w'→(execOp a.eval o).run P w= .ok (.value v) w') (hd: ∀d,o.dst=some d→d<N) {d:Nat} (hdd:o.dst=some d)
 (ht:kP P t=some e) (hi:P.info? e=some i) (hiz:i.zero=some z) (hzs:z.cells.size=cX P e) (his:i.size=cX P e) (hib:i.bytes=by_) (hpos:0<cX P e)
 (hA:IF P i.size i.bytes z tx x m news w) (hm:m=ys.length) (hR:kH w fr news (flat ys)) (hzy: ∀x∈ys,(cells x).length=i.size) (hbl:(S.box n).length=len*cX P e) (hbound:(len+ys.length)*by_≤140737488355328)
 (hgn:0<S.gen n) (ev:a.tmps.getD s undef= .slice A len cap) (hA1:0<(β n).c→A=some ⟨(β n).b,0,none⟩) (hlc:len≤cap) (hcap:cap*cX P e=(β n).c) (hbn:mM tch.tch w0 w fr β S.gen (β n) (S.box n)) (hk0:(β n).k=false) (hnl:news.length=ys.length*i.size) (hlen:len+ys.length≤140737488355328):
 Ae P N tch w0 fr0 S ((⟨o.dst,.bsl n (S.gen n+1) (len+ys.length) (cX P e) ag,fun _=>false,fun _=>false,[⟨n,S.gen n+1,S.box n++(flat ys).map .d,fun k=>S.own (.b n k)⟩]⟩:dp).apply S) o a w β n (len*cX P e) news:=by
 have hbnl:len*cX P e≤(β n).c:=by rw[←hbl];exact hbn.len (.inl hk0)
 rw[hdd];by_cases hroom:len+m≤cap
 ·by_cases hm0:ys= []
  ·subst hm0;have hm0:m=0:=hm;subst hm0;have hn0:news= []:=List.eq_nil_of_length_eq_zero (by rw[hnl];simp)
   subst hn0;have hrun:=qq (ty:=o.type) (dy ht) hi hiz hA (A:=A) (n:=len) (c:=cap) hroom (w':=w) (fun ad _=>rfl) (fun _=>rfl)
   refine⟨w,fr,fA β n (β n),_,hexec _ _ (by rw[ev];exact hrun),?_,fun j u hu=>by simp at hu,fun k hk=>c6 _ _ hk,fun _ _ _=>rfl⟩
   rw[hdd];exact h.bump (hd d hdd) (β n) _ _ _ _ (len+([]:List DV).length) (cX P e) cap ag A (.inl ⟨hgn,rfl,by simp[flat],fun k hk=>hk⟩) hpos (by simpa using hroom) hcap hA1 (by simp) hk0
  ·have hm1:0<ys.length:=List.length_pos_iff.2 hm0;have hc0:0<(β n).c:=by
    rw[←hcap];exact aX (by omega) hpos
   obtain rfl:=hA1 hc0;obtain⟨cs,E',hh,dQ,hcp⟩:=hbn.ex hc0 hk0;have hfit:len*cX P e+news.length≤(β n).c:=by
    rw[hnl,his,←hcap,←aK];exact aN _ (by omega)
   have hst:(storeCells ⟨(β n).b,len*cX P e,none⟩ news).run P w= .ok () (w.setCells (β n).b (len*cX P e) news):=by
    refine b8 (P:=P) (β n).b (len*cX P e) _ 0 w (fun j hj=>?_) (fun j hj=>?_) (fun u hu=>hR.2.1 u hu)
    ·simp only[World.cell?,hh];have:len*cX P e+(0+j)<cs.size:=by omega
     simp;omega
    ·simp[World.frozen?,hh]
   have hrun:=qq (ty:=o.type) (dy ht) hi hiz hA (A:=some ⟨(β n).b,0,none⟩) (n:=len) (c:=cap) hroom (w':=w.setCells (β n).b (len*cX P e) news) (fun ad had=>by
    cases had
    rw[fz rfl,his];simp only[Nat.zero_add];exact hst) (fun h=>by cases h)
   have hpl:((flat ys).map PV.d).length=news.length:=by rw[List.length_map,hR.1]
   have hS1:=h.Ay hgn hk0 (off:=len*cX P e) news ((flat ys).map .d) (fun _=>false) (fun k=>S.own (.b n k)) (fun _ _=>rfl) hpl.symm (by omega) (by omega) hc0 (fun k u p hu hp=>nP hR k u p hu hp)
    (fun k hk=> .inl ⟨by have:=(h.live n k hk).2;omega,hk⟩)
   have hdrop:(S.box n).take (len*cX P e)++(flat ys).map PV.d++(S.box n).drop (len*cX P e+((flat ys).map PV.d).length)=S.box n++(flat ys).map .d:=by
    rw[List.take_of_length_le (by omega),List.drop_eq_nil_of_le (by omega),List.append_nil]
   rw[hdrop]at hS1;have hg1:((⟨none,.undef,fun _=>false,fun _=>false,[⟨n,S.gen n,S.box n++(flat ys).map .d,fun k=>S.own (.b n k)⟩]⟩:dp).apply S).gen n=S.gen n:=by
    show(match cV [⟨n,S.gen n,S.box n++(flat ys).map .d,fun k=>S.own (.b n k)⟩] n with|some u=>u.g|none=>S.gen n)=_
    simp
   have hS2:=hS1.bump (d:=d) (n:=n) (hd d hdd) (β n) (S.box n++(flat ys).map .d) (fun k=>S.own (.b n k)) (fun _=>false) (.slice (some ⟨(β n).b,0,none⟩) (len+ys.length) cap) (len+ys.length) (cX P e) cap ag (some ⟨(β n).b,0,none⟩)
    (.inl ⟨by rw[hg1];exact hgn,rfl,by simp[dp.apply],fun k hk=>by simp[dp.apply,hk]⟩) hpos (by omega) hcap (fun _=>rfl) rfl hk0
   refine⟨_,fr,fA β n (β n),_,hexec _ _ (by rw[ev];exact hrun),?_,fun j u hu=>?_,fun k hk=>c6 _ _ hk,fun b hb hne=>fD _ _ _ _ _ (hne hgn hc0)⟩
   rotate_left
   ·rw[cR];have hjl:=(List.getElem?_eq_some_iff.1 hu).1;obtain⟨cs',hcs'⟩: ∃cs':List Value,cs'.toArray=cs:=⟨cs.toList,by simp⟩
    have hh':w.heap[(β n).b]? =some (.cells cs'.toArray E' (0,0)):=by rw[hcs'];exact hh
    have:=iB (β n).b news (len*cX P e) w cs' E' (0,0) hh' (by rw[←hcs']at dQ;simp at dQ;omega)
    simp only[World.cell?,this];have hl':cs'.length=(β n).c:=by rw[←dQ,←hcs'];simp
    simp only[ax];rw[List.getElem?_append_left (by simp;omega),List.getElem?_append_right (by simp;omega)]
    simp only[List.length_take];rw[show len*cX P e+j-min (len*cX P e) cs'.length=j by omega]
    simp[hu]
   rw[hdd,hm];rw[hg1]at hS2;have hEq:((⟨some d,.bsl n (S.gen n+1) (len+ys.length) (cX P e) ag,fun _=>false,fun _=>false,[⟨n,S.gen n+1,S.box n++(flat ys).map .d,fun k=>S.own (.b n k)⟩]⟩:dp).apply ((⟨none,.undef,fun _=>false,fun _=>false,[⟨n,S.gen n,S.box n++(flat ys).map .d,fun k=>S.own (.b n k)⟩]⟩:dp).apply S))=
    ((⟨some d,.bsl n (S.gen n+1) (len+ys.length) (cX P e) ag,fun _=>false,fun _=>false,[⟨n,S.gen n+1,S.box n++(flat ys).map .d,fun k=>S.own (.b n k)⟩]⟩:dp).apply S):=by
    simp only[dp.apply,cO]
    congr 1
    ·funext q
     by_cases e:n=q<;>simp[e]
    ·funext q
     by_cases e:n=q<;>simp[e]
    ·funext l
     cases l with
     |t i j=>simp
     |b q k=>by_cases e:n=q<;>simp[e]
   rw[hEq]at hS2;exact hS2
 ·have hml:m=ys.length:=hm;have hC0:0<i.bytes→True:=fun _=>trivial
  --the fT cells
  obtain⟨olds,hol,hog,hofc⟩: ∃olds:List Value,olds.length=len*cX P e∧(∀(k:Nat) (u:Value),olds[k]? =some u→w.cell? ⟨(β n).b,k,none⟩=some u)∧(Builtin.firstCells i.size len (.slice A len cap)).run P w.drew= .ok olds.toArray w.drew:=by
   rcases az len with hl0|hl0
   ·subst hl0;refine⟨[],by simp,by simp,?_⟩
    cases A with
    |none=>simp[Builtin.firstCells]
    |some ad=>simp[Builtin.firstCells,loadCells,loadCellsFrom]
   ·have hp0:=aX hl0 hpos;have hc0:0<(β n).c:=by omega
    obtain rfl:=hA1 hc0;obtain⟨cs,E',hh,dQ,hcp⟩:=hbn.ex hc0 hk0;have hcell: ∀k,w.cell? ⟨(β n).b,k,none⟩=cs[k]? :=fun k=>by simp only[World.cell?,hh];rfl
    refine⟨cs.toList.take (len*cX P e),by simp;omega,fun k u hk=>?_,?_⟩
    ·rw[ah]at hk
     split at hk
     ·rw[hcell]
      simpa using hk
     ·cases hk
    ·refine bf w.drew i.size len _ len cap _ (by rw[his];simp;omega) fun j u hj=>?_
     rw[ah]at hj
     split at hj
     ·rw[fz rfl];simp only[Nat.zero_add];have:w.drew.cell? ⟨(β n).b,j,none⟩=w.cell? ⟨(β n).b,j,none⟩:=rfl;rw[this,hcell]
      simpa using hj
     ·cases hj
  have hrun:=tH (ty:=o.type) (dy ht) hi hiz (A:=A) (n:=len) (c:=cap) (olds:=olds) hA hofc (by omega) (by omega) (by rw[hm,hib];exact hbound)
  have hge:=grownCap_ge w (len+m) cap e;generalize hC:grownCap w (len+m) cap e=C at hrun hge;obtain⟨row,hrow⟩: ∃row:List Value,row=olds++news++(Builtin.zeroCells z.cells (C-(len+m))).toList:=⟨_,rfl⟩;rw[←hrow]at hrun;have hrl:row.length=C*cX P e:=by
   rw[hrow];simp only[List.length_append,hol,hnl,Array.length_toList,ju,hzs,his,hm];rw[←aK,←aK]
   congr 1
   omega
  have hfx:gH w fr (w.drew.alloc (.cells row.toArray e)) (fA fr w.heap.size (some 0)):=by
   refine⟨rfl,rfl,rfl,by show w.heap.size≤(w.heap.push _).size;simp,fun b hb=>aO w.drew _ _ hb,fun b hb=>c6 _ _ (by omega),fun b f hf=>?_⟩
   by_cases e:b=w.heap.size
   ·subst e
    show w.heap.size<(w.heap.push _).size
    simp
   ·rw[c6 _ _ e]at hf;have:=h.frb b f hf
    show b<(w.heap.push _).size
    simp;omega
  have holdrep: ∀(k:Nat) (u:Value) (p:PV),k<len*cX P e→olds[k]? =some u→(S.box n)[k]? =some p→da w fr β S.gen u p∧one u:=by
   intro k u p hk hu hp;have hc0:0<(β n).c:=by omega
   obtain⟨cs,E',hh,dQ,hcp⟩:=hbn.ex hc0 hk0;have hcell:w.cell? ⟨(β n).b,k,none⟩=cs[k]? :=by simp only[World.cell?,hh];rfl
   have:=hog k u hu;rw[hcell]at this;exact hcp k u p this hp
  refine⟨_,fA fr w.heap.size (some 0),fA β n ⟨w.heap.size,row.toArray.size,false⟩,_,hexec _ _ (by rw[ev];exact hrun),?_,fun j u hu=>?_,fun k hk=>c6 _ _ hk,fun b hb _=>aO w.drew _ _ hb⟩
  rotate_left
  ·rw[cR];have hjl:=(List.getElem?_eq_some_iff.1 hu).1
   show(w.drew.alloc (.cells row.toArray e)).cell? ⟨w.drew.heap.size,len*cX P e+j,none⟩=some u
   rw[fe,ax,hrow,List.append_assoc,List.getElem?_append_right (by omega),List.getElem?_append_left (by omega)]
   rw[hol,show len*cX P e+j-len*cX P e=j by omega]
   exact hu
  rw[hdd,hm];refine h.oE (hd d hdd) hfx (Nat.le_refl _) row.toArray e (dY w.drew _) _ _ _ _ _ ?_ (fun k u p hu hp=>?_) (fun k hk=> .inr ?_) (.inr ⟨len+ys.length,cX P e,C,ag,hpos,by omega,by simp[hrl],rfl,rfl⟩)
  ·rw[List.size_toArray,hrl,List.length_append,hbl,List.length_map,ed hzy,his,←aK];exact aN _ (by omega)
  ·rw[ax,hrow,List.append_assoc]at hu;by_cases hk:k<len*cX P e
   ·rw[List.getElem?_append_left (by omega)]at hu hp
    exact holdrep k u p hk hu hp
   ·rw[List.getElem?_append_right (by omega)]at hu hp
    rw[hol]at hu;rw[hbl]at hp;have hkn:k-len*cX P e<news.length:=by
     have:=(List.getElem?_eq_some_iff.1 hp).1;rw[List.length_map,←hR.1]at this;exact this
    rw[List.getElem?_append_left hkn]at hu;exact nP hR _ u p hu hp
  ·have hlv:=h.live n k hk;have hkl:k<len*cX P e:=by omega
   have hko:k<olds.length:=by omega
   refine⟨hk,?_,?_⟩
   ·rw[ax,hrow,List.append_assoc,List.getElem?_append_left hko,List.getElem?_eq_getElem hko];simp only[ew];rw[hog k _ (List.getElem?_eq_getElem hko)];rfl
   ·rw[List.getElem?_append_left hlv.2];simp only[PS.at,List.getD_eq_getElem?_getD,List.getElem?_eq_getElem hlv.2];rfl
theorem wc(h:dC N tch w0 fr0 S a w fr β){o:Oper}{s n lo len m by_:Nat}{ag:Bool}{t tx e:TypeId}{i:TypeInfo}{z x:Value}{ys:List DV}{news:List Value}{A:Option Addr}
 (hexec: ∀v w',(Builtin.append_ #[t,tx] o.type #[a.tmps.getD s undef,x]).run P w= .ok v w'→(execOp a.eval o).run P w= .ok (.value v) w') (hd: ∀d,o.dst=some d→d<N) {d:Nat} (hdd:o.dst=some d)
 (ht:kP P t=some e) (hi:P.info? e=some i) (hiz:i.zero=some z) (hzs:z.cells.size=cX P e) (his:i.size=cX P e) (hib:i.bytes=by_) (hpos:0<cX P e)
 (hA:IF P i.size i.bytes z tx x m news w) (hm:m=ys.length) (hR:kH w fr news (flat ys)) (hzy: ∀x∈ys,(cells x).length=i.size) (hbl:(lo+len)*cX P e≤(S.box n).length) (hbound:(len+ys.length)*by_≤140737488355328)
 (hgn:0<S.gen n) (ev:a.tmps.getD s undef= .slice A len len) (hA1:0<len→0<(β n).c∧A=some ⟨(β n).b,lo*cX P e,none⟩) (hbn:mM tch.tch w0 w fr β S.gen (β n) (S.box n)) (hk0:(β n).k=false) (hnl:news.length=ys.length*i.size) (hlen:len+ys.length≤140737488355328) (hy0:0<ys.length):
 Ae P N tch w0 fr0 S ((⟨o.dst,.bsl (S.fo+d) (S.gen (S.fo+d)+1) (len+ys.length) (cX P e) ag,fun _=>false,fun _=>false,[⟨S.fo+d,S.gen (S.fo+d)+1,((S.box n).drop (lo*cX P e)).take (len*cX P e)++(flat ys).map .d,fun _=>false⟩]⟩:dp).apply S) o a w β (S.fo+d) (len*cX P e) news:=by
 have hble:=hbn.len (.inl hk0);rw[aK]at hbl;have hml:m=ys.length:=hm;obtain⟨olds,hol,hog,hofc⟩: ∃olds:List Value,olds.length=len*cX P e∧(∀(k:Nat) (u:Value),olds[k]? =some u→w.cell? ⟨(β n).b,lo*cX P e+k,none⟩=some u)∧(Builtin.firstCells i.size len (.slice A len len)).run P w.drew= .ok olds.toArray w.drew:=by
  rcases az len with hl0|hl0
  ·subst hl0;refine⟨[],by simp,by simp,?_⟩
   cases A with
   |none=>simp[Builtin.firstCells]
   |some ad=>simp[Builtin.firstCells,loadCells,loadCellsFrom]
  ·have hp0:=aX hl0 hpos;obtain⟨hc0,rfl⟩:=hA1 hl0;obtain⟨cs,E',hh,dQ,hcp⟩:=hbn.ex hc0 hk0;have hcell: ∀k,w.cell? ⟨(β n).b,k,none⟩=cs[k]? :=fun k=>by simp only[World.cell?,hh];rfl
   refine⟨(cs.toList.drop (lo*cX P e)).take (len*cX P e),by simp;omega,fun k u hk=>?_,?_⟩
   ·rw[ah]at hk
    split at hk
    ·rw[hcell];rw[ak]at hk
     simpa using hk
    ·cases hk
   ·refine bf w.drew i.size len _ len len _ (by rw[his];simp;omega) fun j u hj=>?_
    rw[ah]at hj
    split at hj
    ·rw[fz rfl];have:w.drew.cell? ⟨(β n).b,lo*cX P e+j,none⟩=w.cell? ⟨(β n).b,lo*cX P e+j,none⟩:=rfl;rw[this,hcell];rw[ak]at hj
     simpa using hj
    ·cases hj
 have hrun:=tH (ty:=o.type) (dy ht) hi hiz (A:=A) (n:=len) (c:=len) (olds:=olds) hA hofc (by omega) (by omega) (by rw[hm,hib];exact hbound)
 have hge:=grownCap_ge w (len+m) len e;generalize hC:grownCap w (len+m) len e=C at hrun hge;obtain⟨row,hrow⟩: ∃row:List Value,row=olds++news++(Builtin.zeroCells z.cells (C-(len+m))).toList:=⟨_,rfl⟩;rw[←hrow]at hrun;have hrl:row.length=C*cX P e:=by
  rw[hrow];simp only[List.length_append,hol,hnl,Array.length_toList,ju,hzs,his,hm];rw[←aK,←aK]
  congr 1
  omega
 have hfx:gH w fr (w.drew.alloc (.cells row.toArray e)) (fA fr w.heap.size (some 0)):=by
  refine⟨rfl,rfl,rfl,by show w.heap.size≤(w.heap.push _).size;simp,fun b hb=>aO w.drew _ _ hb,fun b hb=>c6 _ _ (by omega),fun b f hf=>?_⟩
  by_cases e:b=w.heap.size
  ·subst e
   show w.heap.size<(w.heap.push _).size
   simp
  ·rw[c6 _ _ e]at hf;have:=h.frb b f hf
   show b<(w.heap.push _).size
   simp;omega
 have hpl:(((S.box n).drop (lo*cX P e)).take (len*cX P e)).length=len*cX P e:=by simp;omega
 refine⟨_,fA fr w.heap.size (some 0),fA β (S.fo+d) ⟨w.heap.size,row.toArray.size,false⟩,_,hexec _ _ (by rw[ev];exact hrun),?_,fun j u hu=>?_,fun k hk=>c6 _ _ hk,fun b hb _=>aO w.drew _ _ hb⟩
 rotate_left
 ·rw[cR];have hjl:=(List.getElem?_eq_some_iff.1 hu).1
  show(w.drew.alloc (.cells row.toArray e)).cell? ⟨w.drew.heap.size,len*cX P e+j,none⟩=some u
  rw[fe,ax,hrow,List.append_assoc,List.getElem?_append_right (by omega),List.getElem?_append_left (by omega)]
  rw[hol,show len*cX P e+j-len*cX P e=j by omega]
  exact hu
 rw[hdd,hm];refine h.oE (hd d hdd) hfx (Nat.le_refl _) row.toArray e (dY w.drew _) _ _ (fun _=>false) _ _ ?_ (fun k u p hu hp=>?_) (by simp) (.inr ⟨len+ys.length,cX P e,C,ag,hpos,by omega,by simp[hrl],rfl,rfl⟩)
 ·rw[List.size_toArray,hrl,List.length_append,hpl,List.length_map,ed hzy,his,←aK];exact aN _ (by omega)
 ·rw[ax,hrow,List.append_assoc]at hu;by_cases hk:k<len*cX P e
  ·rw[List.getElem?_append_left (by omega)]at hu hp
   rw[ah,if_pos hk,ak]at hp;have hl0:0<len:=by
    rcases az len with e0|e0
    ·subst e0;simp at hk
    ·exact e0
   obtain⟨hc0,_⟩:=hA1 hl0;obtain⟨cs,E',hh,dQ,hcp⟩:=hbn.ex hc0 hk0;have hcell:w.cell? ⟨(β n).b,lo*cX P e+k,none⟩=cs[lo*cX P e+k]? :=by simp only[World.cell?,hh];rfl
   have:=hog k u hu;rw[hcell]at this;exact hcp _ u p this hp
  ·rw[List.getElem?_append_right (by omega)]at hu hp
   rw[hol]at hu;rw[hpl]at hp;have hkn:k-len*cX P e<news.length:=by
    have:=(List.getElem?_eq_some_iff.1 hp).1;rw[List.length_map,←hR.1]at this;exact this
   rw[List.getElem?_append_left hkn]at hu;exact nP hR _ u p hu hp
theorem vl(h:dC N tch w0 fr0 S a w fr β){o:Oper}{tr:List Nat}{args:Array Operand}{ts:Array TypeId}{E:dp}(hd: ∀d,o.dst=some d→d<N)(ho:o.op= .call ⟨.builtin .append,args,ts⟩)(he:iz P tr S o args.toList ts.toList=some E):
 lr P N tch w0 fr0 (E.apply S) o a w∧(kN tr o=true→ ∃u L news tail fT s x,args= #[.tmp s,x]∧E.bx= [u]∧u.c=fT++tail∧fT.length=L∧tail.length=news.length∧0<u.g∧(∀n k,E.clr (.b n k)=false)∧E.dst.isSome=true∧(∀j,E.ro j=false)∧
  (∀m g len sz ag,S.ev x= .bsl m g len sz ag→g=S.gen m∧((S.box m).length=len*sz→tail=S.box m)∧(0<len→ ∀k,k<len*sz→w.cell? ⟨(β m).b,k,none⟩=news[k]?))∧
  Ae P N tch w0 fr0 S (E.apply S) o a w β u.n L news):=by
 unfold iz at he
 split at he
 ·rename_i s x t tx hargs hts;obtain rfl:args= #[.tmp s,x]:=by rw[←aJ (xs:=args),hargs]
  obtain rfl:ts= #[t,tx]:=by rw[←aJ (xs:=ts),hts]
  have hexec: ∀v w',(Builtin.append_ #[t,tx] o.type #[a.tmps.getD s undef,a.eval x]).run P w= .ok v w'→(execOp a.eval o).run P w= .ok (.value v) w':=by
   intro v w' hrun;have hrun':(Builtin.append_ #[t,tx] o.type #[a.eval (.tmp s),a.eval x]).run P w= .ok v w':=hrun;simp only[execOp,ho,resolve,invoke,builtin,Sem.run_bind,aw,aa,bu,List.map_cons,List.map_nil,hrun']
  split at he
  ·rename_i e by_ z hap;obtain⟨ht,hb,hz,hzs,hpos,hb0⟩:=IA hap;obtain⟨i,hi,hiz⟩:=fq hz;obtain⟨i2,hi2,hib⟩:=pX hb;rw[hi]at hi2
   cases hi2
   obtain⟨i3,hi3,his⟩:=lh (P:=P) (t:=e) hpos;rw[hi]at hi3
   cases hi3
   split at he
   ·rename_i ys hsrc
    split at he
    ·rename_i hszy;have hzy: ∀x∈ys,(cells x).length=i.size:=by
      intro q hq;have:=List.all_eq_true.1 hszy q hq;rw[his]
      simpa using this
     split at he
     ·rename_i xs hs
      split at he
      ·rename_i hbx
       split at he
       ·rename_i d hdd
        split at he
        ·rename_i hc;obtain⟨hown,rfl,hbound,hag,_⟩:=hc
         cases he
         have hlen:0+ys.length≤140737488355328:=by
          have:=ba ys.length hb0;omega
         obtain⟨m,news,hA,hm,hR,hX⟩:=qx h hsrc hz his hib hzs hpos hzy hlen (by rw[Nat.zero_add];exact hbound)
         have hv:=h.vals s;rw[hs]at hv;have hot:=h.own _ hown;obtain⟨A,cap,sz,us,ev,hcap,_⟩:=ff (fH hv);have hcap0:cap=0:=by
          obtain⟨xs',e1,hh⟩:=hot;have hvs:ew a w β (.t s 0)= .slice A ([]:List DV).length cap:=by simp only[ew,ev];rfl
          rw[hvs]at hh;have e1':S.at (.t s 0)= .d (.slice []):=by simp only[PS.at,hs,PV.part]
          rw[e1']at e1
          cases e1
          rcases hh with⟨A',n',e2⟩|⟨b,c,cur,E',sz',e2,q1,q2,q3⟩
          ·cases e2;rfl
          ·simp at q2
         subst hcap0;have hnl:news.length=ys.length*i.size:=by rw[hR.1,ed hzy]
         have hDX:Ae P N tch w0 fr0 S ((⟨o.dst,.bsl (S.fo+d) (S.gen (S.fo+d)+1) ys.length (cX P e) (dL P e==some true),fun _=>false,dg s,[⟨S.fo+d,S.gen (S.fo+d)+1,(flat ys).map .d,fun _=>false⟩]⟩:dp).apply S) o a w β (S.fo+d) 0 news:=by
          by_cases hm0:ys= []
          ·subst hm0;have hm0:m=0:=hm;subst hm0;have hn0:news= []:=List.eq_nil_of_length_eq_zero (by rw[hnl];simp)
           subst hn0;have hrun:=qq (ty:=o.type) (dy ht) hi hiz hA (A:=A) (n:=0) (c:=0) (by omega) (w':=w) (fun ad _=>rfl) (fun _=>rfl)
           refine⟨w,fr,fA β (S.fo+d) ⟨0,0,false⟩,_,hexec _ _ (by rw[ev];exact hrun),?_,fun j u hu=>by simp at hu,fun k hk=>c6 _ _ hk,fun _ _ _=>rfl⟩
           rw[hdd];exact h.bump (hd d hdd) ⟨0,0,false⟩ _ _ (dg s) _ 0 (cX P e) 0 _ A (.inr ⟨rfl,rfl,fun _=>rfl⟩) hpos (Nat.le_refl _) (by simp) (fun h=>absurd h (by simp)) rfl rfl
          ·have hm1:0<ys.length:=List.length_pos_iff.2 hm0;have hrun:=tH (ty:=o.type) (dy ht) hi hiz (A:=A) (n:=0) (c:=0) (olds:= []) hA (by
            cases A with
            |none=>simp[Builtin.firstCells]
            |some ad=>simp[Builtin.firstCells,loadCells,loadCellsFrom]) (by omega) (by omega) (by rw[hm,hib];simpa using hbound)
           have hge:=grownCap_ge w (0+m) 0 e;generalize hC:grownCap w (0+m) 0 e=C at hrun hge;have hfx:gH w fr (w.drew.alloc (.cells ([]++news++(Builtin.zeroCells z.cells (C-(0+m))).toList).toArray e)) (fA fr w.heap.size (some 0)):=by
            have hd1:gH w fr w.drew fr:=⟨rfl,rfl,rfl,Nat.le_refl _,fun _ _=>rfl,fun _ _=>rfl,h.frb⟩
            refine⟨rfl,rfl,rfl,by simp,fun b hb=>aO w.drew _ _ hb,fun b hb=>c6 _ _ (by omega),fun b f hf=>?_⟩
            by_cases e:b=w.heap.size
            ·subst e
             show w.heap.size<(w.heap.push _).size
             simp
            ·rw[c6 _ _ e]at hf;have:=h.frb b f hf
             show b<(w.heap.push _).size
             simp;omega
           have hcsz:([]++news++(Builtin.zeroCells z.cells (C-(0+m))).toList).toArray.size=C*cX P e:=by
            simp only[List.nil_append,List.size_toArray,List.length_append,hnl,Array.length_toList,ju,hzs,his,hm];rw[←aK]
            congr 1
            omega
           refine⟨_,fA fr w.heap.size (some 0),fA β (S.fo+d) ⟨w.heap.size,([]++news++(Builtin.zeroCells z.cells (C-(0+m))).toList).toArray.size,false⟩,_,hexec _ _ (by rw[ev];exact hrun),?_,fun j u hu=>?_,fun k hk=>c6 _ _ hk,fun b hb _=>aO w.drew _ _ hb⟩
           rotate_left
           ·rw[cR];have hjl:=(List.getElem?_eq_some_iff.1 hu).1
            show(w.drew.alloc (.cells ([]++news++(Builtin.zeroCells z.cells (C-(0+m))).toList).toArray e)).cell? ⟨w.drew.heap.size,0+j,none⟩=some u
            rw[show(0+j)=j by omega,fe,ax,List.nil_append,List.getElem?_append_left (by omega)]
            exact hu
           rw[hdd];refine h.oE (hd d hdd) hfx (Nat.le_refl _) _ e (dY w.drew _) _ _ (dg s) _ _ ?_ (fun k u p hu hp=>?_) (by simp) (.inr ⟨ys.length,cX P e,C,_,hpos,by omega,hcsz.symm,rfl,by rw[hm,Nat.zero_add]⟩)
           ·rw[hcsz,List.length_map,ed hzy,his];exact aN _ (by omega)
           ·have hk:k<news.length:=by
             have:=(List.getElem?_eq_some_iff.1 hp).1;rw[List.length_map,←hR.1]at this;exact this
            refine nP hR k u p ?_ hp;rw[List.nil_append,ax,List.getElem?_append_left hk]at hu;exact hu
         exact⟨hDX.Na,fun _=>⟨_,0,news,(flat ys).map .d,[],s,x,rfl,rfl,rfl,rfl,by rw[List.length_map,hR.1],by simp,fun _ _=>rfl,by rw[hdd];rfl,fun _=>rfl,hX,hDX⟩⟩
        ·cases he
       ·cases he
      ·split at he
       ·rename_i hc;obtain⟨hown,hszx,hbound⟩:=hc
        cases he
        have hzx: ∀x∈xs,(cells x).length=i.size:=by
         intro q hq;have:=List.all_eq_true.1 hszx q hq;rw[his]
         simpa using this
        have hlen:xs.length+ys.length≤140737488355328:=ao (ba _ hb0) hbound;obtain⟨m,news,hA,hm,hR,hX⟩:=qx h hsrc hz his hib hzs hpos hzy hlen hbound;obtain⟨v,w',fr',hrun,hS⟩:=h.append (P:=P) (ty:=o.type) hd hs hown (dy ht) hi hiz (by rw[hzs,his]) (by omega) hA hm hR hzx hzy (by omega) (by rw[hib];exact hbound)
        exact⟨⟨w',fr',β,.inl ⟨v,hexec v w' hrun,hS⟩⟩,fun hb=>absurd hb (by assumption)⟩
       ·cases he
     ·rename_i n g len sz ag hs
      split at he
      ·rename_i hc;obtain⟨hg,rfl,hbl,hbound,hds,hbxx⟩:=hc
       cases he
       have hlen:len+ys.length≤140737488355328:=ao (ba _ hb0) hbound;obtain⟨m,news,hA,hm,hR,hX⟩:=qx h hsrc hz his hib hzs hpos hzy hlen hbound;have hv:=h.vals s;rw[hs]at hv;obtain⟨A,cap,ev,h0,hs0,hAA⟩:=lg hv;obtain⟨hA1,hlc,hcap⟩:=hAA hg;have hgn:0<S.gen n:=by rw[←hg];exact h0
       have hk0:=o9 hv hg;have hbn:=h.boxes n hgn;have hnl:news.length=ys.length*i.size:=by rw[hR.1,ed hzy]
       subst hg;obtain⟨d,hdd⟩:=Option.isSome_iff_exists.1 hds;have hDX:=EF (ag:=ag) h hexec hd hdd ht hi hiz hzs his hib hpos hA hm hR hzy hbl hbound hgn ev hA1 hlc hcap hbn hk0 hnl hlen;exact⟨hDX.Na,fun _=>⟨_,_,news,(flat ys).map .d,S.box n,s,x,rfl,rfl,rfl,hbl,by rw[List.length_map,hR.1],by simp,fun _ _=>rfl,by rw[hdd];rfl,fun _=>rfl,hX,hDX⟩⟩
      ·cases he
     ·rename_i n g lo len sz ag ti hs
      split at he
      ·rename_i d hdd
       split at he
       ·rename_i hc;obtain⟨hti,hg,rfl,hbl,hy0,hbound,hbxx⟩:=hc
        cases he
        have hlen:len+ys.length≤140737488355328:=ao (ba _ hb0) hbound;obtain⟨m,news,hA,hm,hR,hX⟩:=qx h hsrc hz his hib hzs hpos hzy hlen hbound;have hv:=h.vals s;rw[hs]at hv;obtain⟨A,cap,ev,h0,hs0,hlc,hcl,hAA,hkk⟩:=xu hv;have hcap:=hcl hti;subst hcap;have hgn:0<S.gen n:=by rw[←hg];exact h0
        have hk0:=hkk hg;have hbn:=h.boxes n hgn;have hnl:news.length=ys.length*i.size:=by rw[hR.1,ed hzy]
        have hDX:=wc (ag:=ag) h hexec hd hdd ht hi hiz hzs his hib hpos hA hm hR hzy hbl hbound hgn ev (hAA hg) hbn hk0 hnl hlen hy0;exact⟨hDX.Na,fun _=>⟨_,_,news,(flat ys).map .d,((S.box n).drop (lo*cX P e)).take (cap*cX P e),s,x,rfl,rfl,rfl,by
         rw[aK]at hbl;simp
         omega,by rw[List.length_map,hR.1],by simp,fun _ _=>rfl,by rw[hdd];rfl,fun _=>rfl,hX,hDX⟩⟩
       ·cases he
      ·cases he
     ·cases he
    ·cases he
   ·cases he
  ·cases he
 ·cases he
def PS.nB(S:PS)(ns:List Nat):PS:=(⟨none,.undef,fun _=>false,fun _=>false,ns.map (kill S)⟩:dp).apply S
theorem dC.Gt(h:dC N tch w0 fr0 S a w fr β){n:Nat}(hn:0<S.gen n):
 ∃fr' β',dC N tch w0 fr0 (S.nB [n]) a w fr' β'∧jM w fr w fr'∧hZ β S.gen β' (S.nB [n]).gen∧(∀m,m≠n→β' m=β m)∧(0<(β n).c→fr' (β n).b=some (β n).c)∧(∀b,fr b≠some 0→fr' b=fr b)∧
  (∀m,m≠n→0<S.gen m→0<(β m).c→fr' (β m).b=fr (β m).b):=by
 have hbn:=h.boxes n hn
 let fr':Nat→Option Nat:=if 0<(β n).c then fA fr (β n).b (some (β n).c)else fr
 have hfr1:0<(β n).c→fr'=fA fr (β n).b (some (β n).c):=fun h0=>if_pos h0
 have hfr2: ¬0<(β n).c→fr'=fr:=fun h0=>if_neg h0
 have hbne: ∀m,m≠n→0<S.gen m→0<(β m).c→0<(β n).c→(β m).b≠(β n).b:=fun m hm h1 h2 h3 e=>hm (h.binj m n h1 hn h2 h3 e)
 have hfre: ∀b,fr b≠some 0→fr' b=fr b:=by
  intro b hb;by_cases h0:0<(β n).c
  ·rw[hfr1 h0,c6];intro e;rw[e]at hb;exact hb (hbn.reg h0)
  ·rw[hfr2 h0]
 have hdx:jM w fr w fr':=by
  refine⟨fun _ _ _ h _=>h,fun b f' _ hf=>?_,Nat.le_refl _⟩
  by_cases h0:0<(β n).c
  ·rw[hfr1 h0]at hf;by_cases e:b=(β n).b
   ·rw[e];exact⟨0,hbn.reg h0,by omega⟩
   ·rw[c6 _ _ e]at hf;exact⟨f',hf,Nat.le_refl _⟩
  ·rw[hfr2 h0]at hf;exact⟨f',hf,Nat.le_refl _⟩
 have hgm: ∀m,(S.nB [n]).gen m=if m=n then S.gen n+1 else S.gen m:=by
  intro m
  show(match cV [kill S n] m with|some u=>u.g|none=>S.gen m)=_
  rw[cO];by_cases e:m=n
  ·subst e;simp[kill]
  ·have e': ¬n=m:=fun x=>e x.symm
   simp[e,e',kill]
 have hgen:(S.nB [n]).gen=fA S.gen n (S.gen n+1):=by
  funext m
  rw[hgm];rfl
 have hbm: ∀m,(S.nB [n]).box m=if m=n then[]else S.box m:=by
  intro m
  show(match cV [kill S n] m with|some u=>u.c|none=>S.box m)=_
  rw[cO];by_cases e:m=n
  ·subst e;simp[kill]
  ·have e': ¬n=m:=fun x=>e x.symm
   simp[e,e',kill]
 have hg:hZ β S.gen (fA β n ⟨(β n).b,0,false⟩) (S.nB [n]).gen:=by
  rw[hgen];refine⟨fun m=>?_,fun m e _=>?_⟩
  ·unfold fA;split
   ·subst_vars;omega
   ·omega
  ·unfold fA at e⊢
   split at e
   ·subst_vars;omega
   ·rename_i hne;rw[if_neg hne]
 have hold: ∀l,(S.nB [n]).own l=true→S.own l=true∧ew a w (fA β n ⟨(β n).b,0,false⟩) l=ew a w β l∧(S.nB [n]).at l=S.at l∧ ∀m k,l= .b m k→m≠n:=by
  intro l hl
  cases l with
  |t i j=>
   have:(S.own (.t i j)&& !false)=true:=hl;simp at this;exact⟨this,rfl,rfl,by simp⟩
  |b m k=>
   have:(match cV [kill S n] m with|some u=>u.o k|none=>S.own (.b m k)&& !false)=true:=hl
   rw[cO]at this;by_cases e:m=n
   ·subst e;simp[kill]at this
   ·have e': ¬n=m:=fun x=>e x.symm
    simp[kill,e']at this;refine⟨this,by simp only[ew,c6 _ _ e],?_,fun m' k' h=>by cases h;exact e⟩
    show((S.nB [n]).box m).getD k .any=_
    rw[hbm,if_neg e];rfl
 refine⟨fr',fA β n ⟨(β n).b,0,false⟩,⟨h.defers,h.ntmps,h.os,h.tape,h.output,h.size,fun b f hf=>?_,fun b hb ht=>?_,fun b ht=>?_,fun i=>(h.vals i).mono hdx hg,fun m hm=>?_,fun m m' hm hm' h1 h2 e=>?_,fun l hl=>?_,fun m k hl=>?_,fun l l' hl hl' hne b hb=>?_,h.ext.trans hg⟩,hdx,hg,fun m hm=>c6 _ _ hm,fun h0=>by rw[hfr1 h0,cR],hfre,fun m hm h1 h2=>?_⟩
 ·by_cases h0:0<(β n).c
  ·rw[hfr1 h0]at hf;by_cases e:b=(β n).b
   ·rw[e];exact hbn.blt h0
   ·rw[c6 _ _ e]at hf;exact h.frb b f hf
  ·rw[hfr2 h0]at hf;exact h.frb b f hf
 ·refine⟨(h.frame b hb ht).1,?_⟩;by_cases h0:0<(β n).c
  ·rw[hfr1 h0,c6]
   ·exact(h.frame b hb ht).2
   ·intro e;subst e;rcases hbn.mine h0 with hm|hm
    ·omega
    ·exact ht hm
  ·rw[hfr2 h0]
   exact(h.frame b hb ht).2
 ·obtain⟨hb,f0,f,e0,e,hle,hk⟩:=h.keep b ht;by_cases h0:0<(β n).c
  ·by_cases eb:b=(β n).b
   ·subst eb;rw[hbn.reg h0]at e
    cases e
    exact⟨hb,f0,(β n).c,e0,by rw[hfr1 h0,cR],by omega,hk⟩
   ·exact⟨hb,f0,f,e0,by rw[hfr1 h0,c6 _ _ eb];exact e,hle,hk⟩
  ·exact⟨hb,f0,f,e0,by rw[hfr2 h0];exact e,hle,hk⟩
 ·rw[hbm];rw[hgm]at hm;by_cases e:m=n
  ·subst e;rw[cR,if_pos rfl];exact⟨by simp,fun h0=>absurd h0 (by simp),fun h0=>absurd h0 (by simp),fun h0=>absurd h0 (by simp),fun h0=>absurd h0 (by simp)⟩
  ·rw[if_neg e]at hm;rw[c6 _ _ e,if_neg e];have hbx:=h.boxes m hm;refine hbx.move hdx hg (fun _=>rfl) (fun h0=>?_)
   by_cases h3:0<(β n).c
   ·rw[hfr1 h3,c6 _ _ (hbne m e hm h0 h3)]
   ·rw[hfr2 h3]
 ·rw[hgm]at hm hm';by_cases e1:m=n
  ·subst e1;rw[cR]at h1;simp at h1
  ·by_cases e2:m'=n
   ·subst e2;rw[cR]at h2;simp at h2
   ·rw[c6 _ _ e1,c6 _ _ e2]at e;rw[if_neg e1]at hm;rw[if_neg e2]at hm';rw[c6 _ _ e1]at h1;rw[c6 _ _ e2]at h2;exact h.binj m m' hm hm' h1 h2 e
 ·obtain⟨ho,e1,e2,_⟩:=hold l hl;rw[e1,e2]
  refine(h.own l ho).same fun b hb=>⟨rfl,hfre b fun e=>?_⟩
  obtain⟨xs,hxs,hh⟩:=h.own l ho;rcases hh with⟨A,q,hq⟩|⟨b',c,cur,E2,sz,hq,h1,h2,h20,h3,h4,h5,h6,h7⟩
  ·rw[hq]at hb
   cases A<;>simp[rowOf]at hb
  ·rw[hq]at hb;have eb:b'=b:=by simpa[rowOf,h1]using hb
   rw[eb,e]at h6;have hz:xs.length*sz=0:=by simpa using h6.symm
   rcases bA.1 hz with h'|h'<;>omega
 ·obtain⟨ho,_,_,hne⟩:=hold _ hl;have hmn:=hne m k rfl;rw[hgm,hbm,if_neg hmn,if_neg hmn];exact h.live m k ho
 ·obtain⟨ho,e1,_,_⟩:=hold l hl;obtain⟨ho',e1',_,_⟩:=hold l' hl';rw[e1]at hb;rw[e1'];exact h.oinj l l' ho ho' hne b hb
 ·by_cases h3:0<(β n).c
  ·rw[hfr1 h3,c6 _ _ (hbne m hm h1 h2 h3)]
  ·rw[hfr2 h3]
theorem xD(h:dC N tch w0 fr0 S a w fr β){c:PV}{x:DV}{ns:List Nat}(hf:pZ S c=some (x,ns)){v:Value}(hv:da w fr β S.gen v c){fr':Nat→Option Nat}(hx:jM w fr w fr')
 (hfr: ∀n∈ns,0<S.gen n→0<(β n).c→ ∃f,fr' (β n).b=some f∧(S.box n).length≤f):eB w fr' v x∧ ∀n∈ns,0<S.gen n:=by
 unfold pZ at hf
 split at hf
 ·cases hf
  exact⟨(fH hv).mono hx,by simp⟩
 ·rename_i n g len sz ag;simp only[Option.map_eq_some_iff]at hf;obtain⟨xs,hxs,he⟩:=hf
  cases he
  obtain⟨A,cap,rfl,h0,hs0,hAA⟩:=lg hv;have hg:g=S.gen n:=by
   unfold iP at hxs
   split at hxs
   ·rename_i hc;exact hc.1
   ·cases hxs
  have hgn:0<S.gen n:=by rw[←hg];exact h0
  obtain⟨hA1,hlc,hcap⟩:=hAA hg;obtain⟨hyl,hyz,hle,_,us,hul,hur,huc⟩:=om h hxs hgn hs0 (o9 hv hg);have hbl:=(h.boxes n hgn).len (.inl (o9 hv hg));refine⟨?_,by simpa using hgn⟩
  rw[←hyl]at hlc hul huc⊢;refine .slice A cap sz (fun k=>us.getD k undef) xs hlc hyz (fun hp=>?_) (fun k hk=>?_) (fun k p hp=>?_)
  ·have hpos:=aX hp hs0;have hc0:0<(β n).c:=by rw[←hyl]at hle;omega
   refine⟨_,hA1 hc0,rfl,fun f hf k hk=>?_,fun k hk=>?_⟩
   ·obtain⟨f1,hf1,hle1⟩:=hfr n (by simp) hgn hc0
    rw[hf1]at hf
    cases hf
    rw[←hyl]at hle;simp only;omega
   ·have:=huc hp k hk;simp only[Nat.zero_add];rw[this,List.getD_eq_getElem?_getD,List.getElem?_eq_getElem (by omega)]
    rfl
  ·have hku:k<us.length:=by omega
   simp only[List.getD_eq_getElem?_getD,List.getElem?_eq_getElem hku];exact hur.2.1 _ (List.getElem_mem hku)
  ·have hku:k<us.length:=by
    rw[hur.1]
    exact(List.getElem?_eq_some_iff.1 hp).1
   have:=(hur.2.2 k us[k] p (List.getElem?_eq_getElem hku) hp).mono hx
   simpa[List.getD_eq_getElem?_getD,List.getElem?_eq_getElem hku]using this
 ·cases hf
theorem CP(h:dC N tch w0 fr0 S a w fr β){fr':Nat→Option Nat}(hx:jM w fr w fr'): ∀(cs:List PV) (ys:List DV) (ns:List Nat),kD S cs=some (ys,ns)→
 (∀n∈ns,0<S.gen n→0<(β n).c→ ∃f,fr' (β n).b=some f∧(S.box n).length≤f)→ ∀(vs:List Value),vs.length=cs.length→(∀(k:Nat) (v:Value) (p:PV),vs[k]? =some v→cs[k]? =some p→da w fr β S.gen v p)→
 ys.length=cs.length∧(∀(k:Nat) (v:Value) (y:DV),vs[k]? =some v→ys[k]? =some y→eB w fr' v y)∧ ∀n∈ns,0<S.gen n
 | [],ys,ns,hf,_,vs,hl,_=>by
   simp[kD]at hf;obtain⟨rfl,rfl⟩:=hf;exact⟨rfl,by simp,by simp⟩
 |c::r,ys,ns,hf,hfr,vs,hl,hv=>by
  simp only[kD,Option.bind_eq_some_iff,Option.map_eq_some_iff]at hf;obtain⟨⟨x,n1⟩,hx1,⟨ys',n2⟩,hx2,he⟩:=hf
  cases he
  cases vs with
  |nil=>simp at hl
  |cons v vs=>
   obtain⟨h1,h2⟩:=xD h hx1 (hv 0 v c rfl rfl) hx (fun n hn=>hfr n (List.mem_append.2 (.inl hn)))
   obtain⟨h3,h4,h5⟩:=CP h hx r ys' n2 hx2 (fun n hn=>hfr n (List.mem_append.2 (.inr hn))) vs (by simpa using hl) (fun k u p hu hp=>hv (k+1) u p (by simpa using hu) (by simpa using hp))
   refine⟨by simp[h3],fun k u y hu hy=>?_,fun n hn=>?_⟩
   ·cases k with
    |zero=>simp at hu hy;subst hu hy;exact h1
    |succ k=>exact h4 k u y (by simpa using hu) (by simpa using hy)
   ·rcases List.mem_append.1 hn with hn|hn
    ·exact h2 n hn
    ·exact h5 n hn
theorem pY(h:dC N tch w0 fr0 S a w fr β){c:PV}{x:DV}{ns:List Nat}(hf:nM S c=some (x,ns)){v:Value}(hv:da w fr β S.gen v c){fr':Nat→Option Nat}(hx:jM w fr w fr')
 (hfr: ∀n∈ns,0<S.gen n→0<(β n).c→ ∃f,fr' (β n).b=some f∧(S.box n).length≤f):eB w fr' v x∧ ∀n∈ns,0<S.gen n:=by
 unfold nM at hf
 split at hf
 ·simp only[Option.map_eq_some_iff]at hf;obtain⟨⟨ys,ns'⟩,hl,he⟩:=hf
  cases he
  obtain⟨vs,rfl,hvl,h1,hh⟩:=EB hv;obtain⟨q1,q2,q3⟩:=CP h hx _ ys ns' hl hfr vs hvl hh;exact⟨.agg vs ys (by omega) h1 q2,q3⟩
 ·exact xD h hf hv hx hfr
theorem CR{c:PV}{x:DV}{ns:List Nat}(hf:pZ S c=some (x,ns)){v:Value}(hv:da w fr β S.gen v c): ∀n∈ns,0<S.gen n∧(β n).k=false:=by
 unfold pZ at hf
 split at hf
 ·cases hf;simp
 ·rename_i n g len sz ag;simp only[Option.map_eq_some_iff]at hf;obtain⟨xs,hxs,he⟩:=hf
  cases he
  obtain⟨A,cap,rfl,h0,hs0,hAA⟩:=lg hv;unfold iP at hxs
  split at hxs
  ·rename_i hc;have:=hc.1;simp only[List.mem_singleton,forall_eq];exact⟨by omega,o9 hv hc.1⟩
  ·cases hxs
 ·cases hf
theorem CQ: ∀(cs:List PV) (ys:List DV) (ns:List Nat),kD S cs=some (ys,ns)→ ∀(vs:List Value),vs.length=cs.length→(∀(k:Nat) (v:Value) (p:PV),vs[k]? =some v→cs[k]? =some p→da w fr β S.gen v p)→ ∀n∈ns,0<S.gen n∧(β n).k=false
 | [],ys,ns,hf,vs,hl,_=>by
   simp[kD]at hf;obtain⟨rfl,rfl⟩:=hf;simp
 |c::r,ys,ns,hf,vs,hl,hv=>by
  simp only[kD,Option.bind_eq_some_iff,Option.map_eq_some_iff]at hf;obtain⟨⟨x,n1⟩,hx1,⟨ys',n2⟩,hx2,he⟩:=hf
  cases he
  cases vs with
  |nil=>simp at hl
  |cons v vs=>
   intro n hn;rcases List.mem_append.1 hn with hn|hn
   ·exact CR hx1 (hv 0 v c rfl rfl) n hn
   ·exact CQ r ys' n2 hx2 vs (by simpa using hl) (fun k u p hu hp=>hv (k+1) u p (by simpa using hu) (by simpa using hp)) n hn
theorem KT{c:PV}{x:DV}{ns:List Nat}(hf:nM S c=some (x,ns)){v:Value}(hv:da w fr β S.gen v c): ∀n∈ns,0<S.gen n∧(β n).k=false:=by
 unfold nM at hf
 split at hf
 ·simp only[Option.map_eq_some_iff]at hf;obtain⟨⟨ys,ns'⟩,hl,he⟩:=hf
  cases he
  obtain⟨vs,rfl,hvl,h1,hh⟩:=EB hv;exact CQ _ ys ns' hl vs hvl hh
 ·exact CR hf hv
theorem xC(h:dC N tch w0 fr0 S a w fr β){o:Oper}{r:PV}{E:dp}(hd: ∀d,o.dst=some d→d<N)(hf:rZ o S r=some E){v:Value}(hv:da w fr β S.gen v r):
 ∃fr' β',dC N tch w0 fr0 (E.apply S) (a.put o.dst v) w fr' β':=by
 unfold rZ at hf
 split at hf
 ·rename_i x hx
  cases hf
  exact⟨fr,β,h.vz o.dst v _ hd (.d _ _ (pY h hx hv (jM.refl w fr) (by simp)).1)⟩
 ·rename_i x n hx
  cases hf
  obtain⟨hgn,hk0⟩:=KT hx hv n (by simp)
  obtain⟨fr',β',hS,hdx,hg,hb1,hb2,_,_⟩:=h.Gt hgn;have hr:=(pY h hx hv hdx (fun m hm hg0 h0=>by simp at hm;subst hm;exact⟨_,hb2 h0,(h.boxes _ hg0).len (.inl hk0)⟩)).1
  have hS':=hS.vz o.dst v (.d x) hd (.d _ _ hr);refine⟨fr',β',?_⟩;have hEq:((⟨o.dst,.d x,fun _=>false,fun _=>false,[]⟩:dp).apply (S.nB [n]))=((⟨o.dst,.d x,fun _=>false,fun _=>false,[kill S n]⟩:dp).apply S):=by
   simp only[dp.apply,PS.nB,List.map_cons,List.map_nil,nT]
   congr 1
   funext l
   cases l with
   |t i j=>simp
   |b q k=>by_cases e:(kill S n).n=q<;>simp[e]
  rw[hEq]at hS';exact hS'
 ·cases hf
theorem Ii(h:dC N tch w0 fr0 S a w fr β){o:Oper}{tr:List Nat}{args:Array Operand}{ts:Array TypeId}{E E':dp}{m:Nat}(hd: ∀d,o.dst=some d→d<N)(ho:o.op= .call ⟨.builtin .append,args,ts⟩)(hs:lH S args.toList=some m)(hbx:kN tr o=true)
 (he:iz P tr S o args.toList ts.toList=some E) (hg:mH S m E=some E'):lr P N tch w0 fr0 (E'.apply S) o a w:=by
 obtain⟨_,h2⟩:=vl (P:=P) (tr:=tr) h hd ho he;obtain⟨u,L,news,tail,fT,s,x,rfl,hb,huc,hol,htl,hug,hclr,hds,hro,hX,w',fr',β',v,hr,hS,hcell,hβ,hheap⟩:=h2 hbx;unfold mH at hg;rw[hb]at hg;simp only at hg
 split at hg
 ·rename_i hc;obtain⟨hne,hle⟩:=hc
  cases hg
  have hxs: ∃g len sz ag,S.ev x= .bsl m g len sz ag∧(S.box m).length=len*sz:=by
   unfold lH at hs;simp only[List.toList_toArray]at hs
   split at hs
   ·rename_i m' g len sz ag hp
    split at hs
    ·rename_i hq
     cases hs
     exact⟨g,len,sz,ag,hp,hq.1⟩
    ·cases hs
   ·cases hs
  obtain⟨g,len,sz,ag,hp,hbl⟩:=hxs;obtain⟨hgm,htail,hcells⟩:=hX m g len sz ag hp;have htail:=htail hbl;have hbase:u.c.length-(S.box m).length=L:=by
   rw[huc,htail,List.length_append,hol];omega
  let own':Loc→Bool:=fun l=>match l with
   | .t i j=>(E.apply S).own (.t i j)
   | .b n k=>if n=u.n then(if k<L then u.o k else S.own (.b m (k-L)))else if n=m then false else(E.apply S).own (.b n k)
  have hgenm:(E.apply S).gen m=S.gen m∧(E.apply S).box m=S.box m:=by
   have e: ¬u.n=m:=fun e=>hne e.symm
   constructor
   ·show(match cV E.bx m with|some u=>u.g|none=>S.gen m)=_
    rw[hb,cO,if_neg e]
   ·show(match cV E.bx m with|some u=>u.c|none=>S.box m)=_
    rw[hb,cO,if_neg e]
  have hgenu:(E.apply S).gen u.n=u.g∧(E.apply S).box u.n=u.c:=by
   constructor
   ·show(match cV E.bx u.n with|some u=>u.g|none=>S.gen u.n)=_
    rw[hb,cO,if_pos rfl]
   ·show(match cV E.bx u.n with|some u=>u.c|none=>S.box u.n)=_
    rw[hb,cO,if_pos rfl]
  have hownm: ∀k,(E.apply S).own (.b m k)=S.own (.b m k):=by
   intro k;have e: ¬u.n=m:=fun e=>hne e.symm
   show(match cV E.bx m with|some u=>u.o k|none=>S.own (.b m k)&& !E.clr (.b m k))=_
   rw[hb,cO,if_neg e];simp[hclr]
  have hownu: ∀k,(E.apply S).own (.b u.n k)=u.o k:=by
   intro k
   show(match cV E.bx u.n with|some u=>u.o k|none=>S.own (.b u.n k)&& !E.clr (.b u.n k))=_
   rw[hb,cO,if_pos rfl]
  have hEq:((⟨E.dst,E.r,E.ro,E.clr,[⟨u.n,u.g,u.c,fun k=>if k<u.c.length-(S.box m).length then u.o k else S.own (.b m (k-(u.c.length-(S.box m).length)))⟩,⟨m,S.gen m,S.box m,fun _=>false⟩]⟩:dp).apply S)= {E.apply S with own:=own'}:=by
   rw[hbase];have e: ¬u.n=m:=fun e=>hne e.symm
   simp only[dp.apply,PS.mk.injEq,true_and,and_true];refine⟨?_,?_,?_⟩
   ·funext n
    simp only[cV,hb];by_cases e1:u.n=n
    ·simp[e1]
    ·by_cases e2:m=n
     ·subst e2;simp[e1]
     ·simp[e1,e2]
   ·funext n
    simp only[cV,hb];by_cases e1:u.n=n
    ·simp[e1]
    ·by_cases e2:m=n
     ·subst e2;simp[e1]
     ·simp[e1,e2]
   ·funext l
    cases l with
    |t i j=>rfl
    |b n k=>
     simp only[cV,own',dp.apply,hb];by_cases e1:u.n=n
     ·subst e1;simp
     ·have e1': ¬n=u.n:=fun e=>e1 e.symm
      by_cases e2:m=n
      ·subst e2;simp[e1,e1']
      ·have e2': ¬n=m:=fun e=>e2 e.symm
       simp[e1,e1',e2,e2']
  have hgm0: ∀k,S.own (.b m k)=true→0<S.gen m∧k<(S.box m).length:=fun k hk=>h.live m k hk
  rw[hEq]
  let src:Loc→Loc:=fun l=>match l with| .t i j=> .t i j| .b n k=>if n=u.n∧L≤k then .b m (k-L)else .b n k
  have hsrc1: ∀k,L≤k→src (.b u.n k)= .b m (k-L):=fun k hk=>if_pos ⟨rfl,hk⟩
  have hsrc2: ∀n k,¬(n=u.n∧L≤k)→src (.b n k)= .b n k:=fun n k hk=>if_neg hk
  refine⟨w',fr',β',.inl ⟨v,hr,hS.NA own' src (fun l hl=>?_) (fun l l' hl hl' he=>?_) (fun n k hl=>?_)⟩⟩
  ·cases l with
   |t i j=>exact⟨hl,rfl,rfl⟩
   |b n k=>
    simp only[own']at hl;by_cases e1:n=u.n
    ·subst e1;rw[if_pos rfl]at hl;by_cases hk:k<L
     ·rw[if_pos hk]at hl;rw[hsrc2 _ _ (by omega)]
      exact⟨by rw[hownu];exact hl,rfl,rfl⟩
     ·rw[if_neg hk]at hl;rw[hsrc1 k (by omega)]
      obtain⟨hg0,hkb⟩:=hgm0 _ hl;refine⟨by rw[hownm];exact hl,?_,?_⟩
      ·simp only[PS.at,hgenu.2,hgenm.2,huc,htail];rw[List.getD_eq_getElem?_getD,List.getD_eq_getElem?_getD,List.getElem?_append_right (by omega),hol]
      ·have hln:k-L<news.length:=by rw[←htl,htail];exact hkb
       have hl0:0<len:=by
        rcases az len with e|e
        ·subst e;omega
        ·exact e
       have hBm:=h.boxes m hg0;have hbs:=hBm.blt (hBm.at hkb);have hsame:w'.heap[(β m).b]? =w.heap[(β m).b]? :=hheap _ hbs fun q1 q2 e=>hne (h.binj m u.n hg0 q1 (hBm.at hkb) q2 e)
       have e2:w'.cell? ⟨(β' m).b,k-L,none⟩=news[k-L]? :=by
        rw[hβ m hne,aE (w:=w) hsame];exact hcells hl0 (k-L) (by omega)
       simp only[ew];rw[e2,List.getElem?_eq_getElem hln];have:=hcell (k-L) news[k-L] (List.getElem?_eq_getElem hln);rw[show L+(k-L)=k by omega]at this
       rw[this]
    ·rw[if_neg e1]at hl;rw[hsrc2 _ _ (fun q=>e1 q.1)]
     split at hl
     ·cases hl
     ·exact⟨hl,rfl,rfl⟩
  ·cases l with
   |t i j=>
    cases l' with
    |t i' j'=>exact he
    |b n' k'=>
     by_cases e2:n'=u.n∧L≤k'
     ·obtain⟨rfl,q2⟩:=e2;rw[hsrc1 _ q2]at he
      cases he
     ·rw[hsrc2 _ _ e2]at he
      cases he
   |b n k=>
    cases l' with
    |t i' j'=>
     by_cases e2:n=u.n∧L≤k
     ·obtain⟨rfl,q2⟩:=e2;rw[hsrc1 _ q2]at he
      cases he
     ·rw[hsrc2 _ _ e2]at he
      cases he
    |b n' k'=>
     simp only[own']at hl hl';by_cases e1:n=u.n∧L≤k<;>by_cases e2:n'=u.n∧L≤k'
     ·obtain⟨rfl,q1⟩:=e1;obtain⟨rfl,q2⟩:=e2;rw[hsrc1 _ q1,hsrc1 _ q2]at he;have:k-L=k'-L:=by injection he
      have:k=k':=by omega
      rw[this]
     ·obtain⟨rfl,q1⟩:=e1;rw[hsrc1 _ q1,hsrc2 _ _ e2]at he
      injection he with q1 q2
      subst q1;rw[if_neg hne]at hl';simp at hl'
     ·obtain⟨rfl,q1⟩:=e2;rw[hsrc1 _ q1,hsrc2 _ _ e1]at he
      injection he with q1 q2
      subst q1;rw[if_neg hne]at hl;simp at hl
     ·rw[hsrc2 _ _ e1,hsrc2 _ _ e2]at he;exact he
  ·simp only[own']at hl;by_cases e1:n=u.n
   ·subst e1;rw[if_pos rfl]at hl;rw[hgenu.1,hgenu.2];refine⟨hug,?_⟩;rw[huc,List.length_append,hol,htail]
    split at hl
    ·have:=hS.live u.n k (by rw[hownu];exact hl)
     rw[hgenu.2,huc,List.length_append,hol,htail]at this;exact this.2
    ·have:=(hgm0 _ hl).2;omega
   ·rw[if_neg e1]at hl
    split at hl
    ·cases hl
    ·exact hS.live n k hl
 ·cases hg
theorem oR(h:dC N tch w0 fr0 S a w fr β){o:Oper}{r:PV×Bool}(hd: ∀d,o.dst=some d→d<N)(he:fw P S o=some r):lr P N tch w0 fr0 ((⟨o.dst,r.1,fun _=>r.2,fun _=>false,[]⟩:dp).apply S) o a w:=by
 obtain⟨r,b⟩:=r;obtain⟨v,w',fr',hrun,hfx,hr,hb⟩:=EK h he;have hS:=h.fresh hfx;refine⟨w',fr',β,.inl ⟨v,hrun,?_⟩⟩
 cases b with
 |false=>exact hS.vz o.dst v r hd hr
 |true=>
  obtain⟨A,n,xs,rfl,rfl⟩:=hb rfl;exact hS.DW o.dst A n xs hd (fH hr)
theorem Bm(h:dC N tch w0 fr0 S a w fr β){o:Oper}{t:TypeId}{ps:Array (Nat×Operand)}{r:PV}{b:Bool}(hd: ∀d,o.dst=some d→d<N)(ho:o.op= .build t ps)(he:fw P S o=some (r,b)):
 lr P N tch w0 fr0 ((match fk P S t ps.toList with|some s=>(⟨o.dst,r,fun j=>(j==0&&S.own (.t s 0))||jn P t ps.toList j,dg s,[]⟩:dp)|none=>⟨o.dst,r,fun j=>jn P t ps.toList j,fun _=>false,[]⟩).apply S) o a w:=by
 obtain⟨us,hrun,hr,_,hk,hn⟩:=uI h ho he;have hnil: ∀j,jn P t ps.toList j=true→eC (.agg us.toArray) j= .slice none 0 0∧r.part j= .d (.slice []):=by
  intro j hj;refine⟨?_,(hn j hj).2⟩;simp only[eC];rw[Array.getD_eq_getD_getElem?,ax,(hn j hj).1];rfl
 have hexec:(execOp a.eval o).run P w= .ok (.value (.agg us.toArray)) w:=by simp[execOp,ho,hrun]
 split
 ·rename_i s hs;obtain⟨hu0,hr0⟩:=hk s hs;have hv0:eC (.agg us.toArray) 0=a.tmps.getD s undef:=by
   simp only[eC];rw[Array.getD_eq_getD_getElem?,ax,hu0];rfl
  have hsl: ∃xs,S.t s= .d (.slice xs):=by
   unfold fk at hs
   split at hs
   ·split at hs
    ·split at hs
     ·rename_i hq
      cases hs
      exact s8 hq.2.2.2
     ·cases hs
    ·cases hs
   ·cases hs
  obtain⟨xs,hxs⟩:=hsl;have hvv:eC (a.tmps.getD s undef) 0=a.tmps.getD s undef:=by
   have hv:=h.vals s;rw[hxs]at hv;obtain⟨A,cap,sz,us0,ev,_⟩:=ff (fH hv);rw[ev];rfl
  have hpp:(S.t s).part 0=S.t s:=by rw[hxs];rfl
  have hcase: ∀j,((j==0&&S.own (.t s 0))||jn P t ps.toList j)=true→(j=0∧S.own (.t s 0)=true)∨(eC (.agg us.toArray) j= .slice none 0 0∧r.part j= .d (.slice [])):=by
   intro j hj;simp only[Bool.or_eq_true,Bool.and_eq_true,br]at hj;rcases hj with hj|hj
   ·exact .inl hj
   ·exact .inr (hnil j hj)
  have hnr: ∀b,rowOf (.slice none 0 0)≠some b:=fun b=>by simp[rowOf]
  refine⟨w,fr,β,.inl ⟨.agg us.toArray,hexec,?_⟩⟩;refine h.sL ⟨o.dst,r,fun j=>(j==0&&S.own (.t s 0))||jn P t ps.toList j,dg s,[]⟩ rfl _ hd hr (fun j hj=>?_) (fun j hj b hb l hl hc=>?_) (fun j j' hj hj' hne b hb=>?_)
  ·rcases hcase j hj with⟨rfl,hj0⟩|⟨e1,e2⟩
   ·have:=h.own _ hj0;simp only[ew,PS.at,hvv,hpp]at this;rw[hv0,hr0];exact this
   ·rw[e1,e2];exact ly
  ·rcases hcase j hj with⟨rfl,hj0⟩|⟨e1,e2⟩
   ·rw[hv0]at hb;refine h.oinj (.t s 0) l hj0 hl (fun e=>?_) b (by simp only[ew,hvv];exact hb)
    subst e;simp[dg]at hc
   ·rw[e1]at hb;exact absurd hb (hnr b)
  ·rcases hcase j hj with⟨rfl,hj⟩|⟨e1,e2⟩
   ·rcases hcase j' hj' with⟨rfl,hj2⟩|⟨e1',e2'⟩
    ·exact absurd rfl hne
    ·rw[e1'];exact hnr b
   ·rw[e1]at hb;exact absurd hb (hnr b)
 ·have hnr: ∀b,rowOf (.slice none 0 0)≠some b:=fun b=>by simp[rowOf]
  refine⟨w,fr,β,.inl ⟨.agg us.toArray,hexec,?_⟩⟩;refine h.sL ⟨o.dst,r,fun j=>jn P t ps.toList j,fun _=>false,[]⟩ rfl _ hd hr (fun j hj=>?_) (fun j hj b hb l hl hc=>?_) (fun j j' hj hj' hne b hb=>?_)
  ·obtain⟨e1,e2⟩:=hnil j hj
   show ja tch.tch w0 w fr (eC (.agg us.toArray) j) (r.part j)
   rw[e1,e2];exact ly
  ·rw[(hnil j hj).1]at hb;exact absurd hb (hnr b)
  ·rw[(hnil j hj).1]at hb;exact absurd hb (hnr b)
theorem u5{p:PV}{cs:List PV}(hf: ∀f,p≠ .fn f [])(h:cW p=some cs){k:Nat}(hk:k<cs.length):some (p.part k)=cs[k]? :=by
 cases p with
 |d x=>
  cases x with
  |agg xs=>
   simp[cW,cells]at h;subst h;simp at hk;simp[PV.part,hk,List.getD_eq_getElem?_getD]
  |_=>
   simp[cW,cells]at h;subst h;simp at hk;subst hk;rfl
 |pa xs=>
  simp[cW]at h;subst h;simp[PV.part,hk,List.getD_eq_getElem?_getD]
 |fn f c=>
  cases c with
  |nil=>exact absurd rfl (hf f)
  |cons c0 cr=>
   simp[cW]at h;subst h;simp at hk;subst hk;rfl
 |bm f c=>
  simp[cW]at h;subst h;simp at hk;subst hk;rfl
 |tup vs=>simp[cW]at h
 |mp _ _=>simp[cW]at h
 |view _ _ _ _ _ _ _=>simp[cW]at h
 |any=>simp[cW]at h
 |_=>
  simp[cW]at h;subst h;simp at hk;subst hk;rfl
theorem JM(h:dC N tch w0 fr0 S a w fr β){s k:Nat}(ho:S.own (.t s k)=true){cs:List PV}(hc:cW (S.t s)=some cs)(hk:k<cs.length)(hks:(∀c,S.t s≠ .d (.agg c))→(∀c,S.t s≠ .pa c)→k=0):
 (a.tmps.getD s undef).cells[k]? =some (ew a w β (.t s k))∧cs[k]? =some (S.at (.t s k)):=by
 refine⟨?_,(u5 (fun f e=>by
  obtain⟨xs,e1,_⟩:=h.own _ ho;simp only[PS.at,e,PV.part]at e1
  cases e1) hc hk).symm⟩
 have hv:=h.vals s;obtain⟨hl,_⟩:=ik hv hc;obtain⟨xs,e,hh⟩:=h.own _ ho;simp only[ew]at hh⊢;generalize a.tmps.getD s undef=v at hv hl hh
 cases v with
 |agg vs=>
  simp only[Value.cells]at hl⊢;simp only[eC,Array.getD_eq_getD_getElem?];have:k<vs.size:=by omega
  simp[this]
 |slice A n c=>
  have hk0:k=0:=by
   simp[Value.cells]at hl;omega
  subst hk0;rfl
 |tuple vs=>
  exfalso
  generalize hp:S.t s=p at hv hc
  cases hv with
  |d _ x hx=>cases hx with|opq _ hb h1=>simp[one,Value.oneCell']at h1
  |tup vs ps hl hh=>simp[cW]at hc
  |any=>simp[cW]at hc
 |_=>
  simp only[eC]at hh;rcases hh with⟨_,_,e⟩|⟨_,_,_,_,_,e,_⟩<;>cases e
theorem dC.Ko(h:dC N tch w0 fr0 S a w fr β){d s g:Nat}{cs:List PV}{v:PV}{u:Value}{w':World}{fr':Nat→Option Nat}{nb:Nat}{us:Array Value}(hd':d<a.tmps.size)(hsd:s≠d)(hg0:0<g)(hc:cW (S.t s)=some cs)
 (hcell: ∀k,w'.cell? ⟨nb,k,none⟩=us[k]?) (hus:us=(a.tmps.getD s undef).cells)
 (hS:dC N tch w0 fr0 ((⟨some d,v,fun _=>false,fun _=>false,[⟨S.fo+d,g,cs,fun _=>false⟩]⟩:dp).apply S) (a.put (some d) u) w' fr' (fA β (S.fo+d) ⟨nb,us.size,false⟩)):
 dC N tch w0 fr0 ((⟨some d,v,fun _=>false,dg s,[⟨S.fo+d,g,cs,fun k=>decide (k<cs.length)&&S.own (.t s k)⟩]⟩:dp).apply S) (a.put (some d) u) w' fr' (fA β (S.fo+d) ⟨nb,us.size,false⟩):=by
 let E0:dp:=⟨some d,v,fun _=>false,fun _=>false,[⟨S.fo+d,g,cs,fun _=>false⟩]⟩
 let own':Loc→Bool:=fun l=>match l with
  | .t i j=>if d=i then false else S.own (.t i j)&& !(i==s)
  | .b n k=>if n=S.fo+d then decide (k<cs.length)&&S.own (.t s k)else S.own (.b n k)
 have hEq:((⟨some d,v,fun _=>false,dg s,[⟨S.fo+d,g,cs,fun k=>decide (k<cs.length)&&S.own (.t s k)⟩]⟩:dp).apply S)= {E0.apply S with own:=own'}:=by
  simp only[dp.apply,E0,PS.mk.injEq,true_and,and_true];refine⟨?_,?_,?_⟩
  ·funext n
   simp only[cV];by_cases e1:S.fo+d=n<;>simp[e1]
  ·funext n
   simp only[cV];by_cases e1:S.fo+d=n<;>simp[e1]
  ·funext l
   cases l with
   |t i j=>
    simp only[own',dg,ab]
   |b n k=>
    simp only[cV,own',dg];by_cases e1:S.fo+d=n
    ·simp[e1]
    ·have e1': ¬n=S.fo+d:=fun e=>e1 e.symm
     simp[e1,e1']
 rw[hEq];have hown0: ∀i j,d≠i→(E0.apply S).own (.t i j)=S.own (.t i j):=by
  intro i j hi
  show(if(some d:Option Nat)=some i then false else S.own (.t i j)&& !false)=_
  rw[if_neg (by simpa using hi)]
  simp
 have hownb: ∀n k,n≠S.fo+d→(E0.apply S).own (.b n k)=S.own (.b n k):=by
  intro n k hn
  show(match cV [⟨S.fo+d,g,cs,fun _=>false⟩] n with|some u=>u.o k|none=>S.own (.b n k)&& !false)=_
  rw[cO,if_neg (fun e=>hn e.symm)]
  simp
 have hbx:(E0.apply S).box (S.fo+d)=cs∧(E0.apply S).gen (S.fo+d)=g:=by
  constructor
  ·show(match cV [⟨S.fo+d,g,cs,fun _=>false⟩] (S.fo+d)with|some u=>u.c|none=>_)=_
   rw[cO,if_pos rfl]
  ·show(match cV [⟨S.fo+d,g,cs,fun _=>false⟩] (S.fo+d)with|some u=>u.g|none=>_)=_
   rw[cO,if_pos rfl]
 let src:Loc→Loc:=fun l=>match l with| .t i j=> .t i j| .b n k=>if n=S.fo+d then .t s k else .b n k
 have hsrc1: ∀k,src (.b (S.fo+d) k)= .t s k:=fun k=>if_pos rfl
 have hsrc2: ∀n k,n≠S.fo+d→src (.b n k)= .b n k:=fun n k hk=>if_neg hk
 have hzero:(∀c,S.t s≠ .d (.agg c))→(∀c,S.t s≠ .pa c)→ ∀k,k<cs.length→k=0:=by
  intro h1 h2 k hk;have:cs.length=1:=by
   generalize S.t s=p at hc h1 h2
   cases p with
   |d x=>cases x<;>first|exact absurd rfl (h1 _)|(simp[cW,cells]at hc;subst hc;rfl)
   |pa c=>exact absurd rfl (h2 _)
   |fn f c=>cases c<;>(simp[cW]at hc;subst hc;rfl)
   |tup _=>simp[cW]at hc
   |any=>simp[cW]at hc
   |mp _ _=>simp[cW]at hc
   |view _ _ _ _ _ _ _=>simp[cW]at hc
   |_=>simp[cW]at hc;subst hc;rfl
  omega
 refine hS.NA own' src (fun l hl=>?_) (fun l l' hl hl' hle=>?_) (fun n k hl=>?_)
 ·cases l with
  |t i j=>
   simp only[own']at hl
   split at hl
   ·cases hl
   ·rename_i hne;exact⟨by show(E0.apply S).own (.t i j)=true;rw[hown0 i j hne];exact(aq.1 hl).1,rfl,rfl⟩
  |b n k=>
   simp only[own']at hl;by_cases e1:n=S.fo+d
   ·subst e1;rw[if_pos rfl]at hl;simp only[Bool.and_eq_true,decide_eq_true_eq]at hl;rw[hsrc1];obtain⟨q1,q2⟩:=JM h hl.2 hc hl.1 (fun h1 h2=>hzero h1 h2 k hl.1)
    refine⟨by show(E0.apply S).own (.t s k)=true;rw[hown0 s k (fun e=>hsd e.symm)];exact hl.2,?_,?_⟩
    ·have e1:(E0.apply S).at (.b (S.fo+d) k)=cs.getD k .any:=by
      simp only[PS.at,hbx.1]
     have e2:(E0.apply S).at (.t s k)=S.at (.t s k):=by
      simp only[PS.at]
      congr 1
      exact c6 _ _ hsd
     show(E0.apply S).at (.b (S.fo+d) k)=(E0.apply S).at (.t s k)
     rw[e1,e2,List.getD_eq_getElem?_getD,q2];rfl
    ·simp only[ew,kj hd',if_neg hsd,cR];rw[hcell];simp only[ew]at q1;rw[hus,q1];rfl
   ·rw[if_neg e1]at hl;rw[hsrc2 _ _ e1];exact⟨by show(E0.apply S).own (.b n k)=true;rw[hownb n k e1];exact hl,rfl,rfl⟩
 ·cases l with
  |t i j=>
   cases l' with
   |t i' j'=>exact hle
   |b n' k'=>
    by_cases e1:n'=S.fo+d
    ·subst e1;rw[hsrc1]at hle
     injection hle with q1 q2
     simp only[own']at hl;subst q1
     split at hl
     ·cases hl
     ·simp at hl
    ·rw[hsrc2 _ _ e1]at hle
     cases hle
  |b n k=>
   by_cases e1:n=S.fo+d
   ·subst e1;rw[hsrc1]at hle
    cases l' with
    |t i' j'=>
     injection hle with q1 q2
     simp only[own']at hl';subst q1
     split at hl'
     ·cases hl'
     ·simp at hl'
    |b n' k'=>
     by_cases e2:n'=S.fo+d
     ·subst e2;rw[hsrc1]at hle
      injection hle with q1 q2
      rw[q2]
     ·rw[hsrc2 _ _ e2]at hle
      cases hle
   ·rw[hsrc2 _ _ e1]at hle
    cases l' with
    |t i' j'=>cases hle
    |b n' k'=>
     by_cases e2:n'=S.fo+d
     ·subst e2;rw[hsrc1]at hle
      cases hle
     ·rw[hsrc2 _ _ e2]at hle;exact hle
 ·simp only[own']at hl;by_cases e1:n=S.fo+d
  ·subst e1;rw[if_pos rfl]at hl;simp only[Bool.and_eq_true,decide_eq_true_eq]at hl
   show 0<(E0.apply S).gen (S.fo+d)∧k<((E0.apply S).box (S.fo+d)).length
   rw[hbx.1,hbx.2];exact⟨hg0,hl.1⟩
  ·rw[if_neg e1]at hl;exact hS.live n k (by show(E0.apply S).own (.b n k)=true;rw[hownb n k e1];exact hl)
theorem Il(h:dC N tch w0 fr0 S a w fr β){o:Oper}{t:TypeId}{len:Nat}{ps:Array (Nat×Operand)}{E:dp}(hd: ∀d,o.dst=some d→d<N)(ho:o.op= .buildSlice t len ps)(he:sk P S o t len ps.toList=some E):
 lr P N tch w0 fr0 (E.apply S) o a w:=by
 unfold sk at he
 split at he
 ·rename_i d e i s hdd ht hps
  split at he
  ·rename_i cs hc
   split at he
   ·rename_i hq;obtain⟨rfl,rfl,hcl,hpos,hbig,hzs,hag,hsd⟩:=hq
    cases he
    obtain rfl:ps= #[(0,.tmp s)]:=by rw[←aJ (xs:=ps),hps]
    obtain⟨z,hz⟩:=Option.isSome_iff_exists.1 hzs;obtain⟨hl,hrep⟩:=ik (h.vals s) hc;have hvs:(a.tmps.getD s undef).cells.size=cX P e:=by rw[hl,hcl]
    have hrun:=vI (w:=w) ht hpos hbig hz hvs;have hfx:gH w fr (w.alloc (.cells (a.tmps.getD s undef).cells.toList.toArray e)) (fA fr w.heap.size (some 0)):=by
     refine⟨rfl,rfl,rfl,by simp,fun b hb=>aO _ _ _ hb,fun b hb=>c6 _ _ (by omega),fun b f hf=>?_⟩
     by_cases e1:b=w.heap.size
     ·subst e1;simp
     ·rw[c6 _ _ e1]at hf;have:=h.frb b f hf;simp;omega
    have hS:=h.oE (hd d hdd) hfx (Nat.le_refl _) _ e (dY w _) cs (fun _=>false) (fun _=>false) (.bsl (S.fo+d) (S.gen (S.fo+d)+1) 1 (cX P e) (dL P e==some true)) (.slice (some ⟨w.heap.size,0,none⟩) 1 1) (n:=S.fo+d)
     (by rw[hcl,←hvs];simp only[List.size_toArray,Array.length_toList];omega) (fun k u p hu hp=>hrep k u p (by simpa using hu) hp) (by simp) (.inr ⟨1,cX P e,1,_,hpos,Nat.le_refl _,by rw[←hvs];simp only[List.size_toArray,Array.length_toList];omega,rfl,rfl⟩)
    refine⟨w.alloc (.cells (a.tmps.getD s undef).cells.toList.toArray e),fA fr w.heap.size (some 0),fA β (S.fo+d) ⟨w.heap.size,(a.tmps.getD s undef).cells.toList.toArray.size,false⟩,.inl ⟨.slice (some ⟨w.heap.size,0,none⟩) 1 1,?_,?_⟩⟩
    ·simp only[execOp,ho];have:(#[((0:Nat),Operand.tmp s)].map fun(x:Nat×Operand)=>(x.1,a.eval x.2))= #[(0,a.tmps.getD s undef)]:=by simp[Act.eval]
     simp only[this,Sem.run_bind,hrun,aa,aw]
    ·rw[hdd];have hd':d<a.tmps.size:=by rw[h.ntmps];exact hd d hdd
     exact h.Ko hd' hsd (by omega) hc (fun k=>fe w _ e k) (by simp) hS
   ·cases he
  ·cases he
 ·cases he
theorem ER(h:dC N tch w0 fr0 S a w fr β){o:Oper}{e d:Nat}{x:Operand}{cs:List PV}{E:dp}(hd:d<N)(hdst:o.dst=some d)(ho:o.op= .box e x)(hc:cW (S.ev x)=some cs)(he:tG S d x cs=some E):
 lr P N tch w0 fr0 (E.apply S) o a w:=by
 unfold tG at he
 split at he
 ·rename_i s
  split at he
  ·rename_i hsd
   cases he
   obtain⟨e1,e2⟩:=ik (h.ev (.tmp s)) hc;have hS:=h.oE hd (tf h _) (Nat.le_refl _) (a.eval (.tmp s)).cells e (dY _ _) cs (fun _=>false) (fun _=>false) (.ptr (S.fo+d) (S.gen (S.fo+d)+1) 0) (.pointer (some ⟨w.heap.size,0,none⟩)) (n:=S.fo+d) (by omega) e2 (by simp) (.inl ⟨rfl,rfl⟩)
   refine⟨w.alloc (.cells (a.eval (.tmp s)).cells e),fA fr w.heap.size (some 0),fA β (S.fo+d) ⟨w.heap.size,(a.eval (.tmp s)).cells.size,false⟩,.inl ⟨.pointer (some ⟨w.heap.size,0,none⟩),?_,?_⟩⟩
   ·simp[execOp,ho,Instr.box,oD]
   ·rw[hdst];exact h.Ko (by rw[h.ntmps];exact hd) hsd (by omega) hc (fun k=>fe w _ e k) rfl hS
  ·cases he
 ·cases he
theorem M_(h:dC N tch w0 fr0 S a w fr β){o:Oper}{x:Operand}{q:Option (Nat×Bool)}{E:dp}(hd: ∀d,o.dst=some d→d<N)(ho:o.op= .assign x)(he:zk S o x q=some E):
 lr P N tch w0 fr0 (E.apply S) o a w:=by
 unfold zk at he
 split at he
 ·rename_i d sz ag c hdd
  split at he
  ·rename_i hq;obtain⟨hnc,hsz⟩:=hq
   cases he
   have hcn:=jY hnc;subst hcn;refine⟨w,fr,fA β (S.fo+d) ⟨0,0,false⟩,.inl ⟨.slice none 0 0,by simp[execOp,ho,Act.eval],?_⟩⟩
   rw[hdd];refine h.GJ (hd d hdd) ⟨0,0,false⟩ [] (fun _=>false) (fun _=>false) _ _ _ (.inr (.inl ⟨rfl,rfl,fun _=>rfl⟩)) ?_ (fun j hj=>by simp at hj)
   exact .bsl _ _ _ _ _ _ _ (by omega) (by rw[cR];omega) hsz (Nat.le_refl _) (fun _=>by rw[cR];exact⟨fun h=>absurd h (by simp),Nat.le_refl _,by simp⟩) (fun _=>by rw[cR])
  ·cases he
 ·cases he
theorem Bn(h:dC N tch w0 fr0 S a w fr β){o:Oper}{t:TypeId}{ps:Array (Nat×Operand)}{q:Option (Nat×Nat×Bool)}{E:dp}(hd: ∀d,o.dst=some d→d<N)(ho:o.op= .build t ps)(he:wZ P S o t ps.toList q=some E):
 lr P N tch w0 fr0 (E.apply S) o a w:=by
 unfold wZ at he
 split at he
 ·rename_i d c sz ag r hdd hv
  split at he
  ·rename_i cs hc
   split at he
   ·rename_i hq;obtain⟨hnc,hsz,hcl⟩:=hq
    cases he
    obtain⟨r,b⟩:=r;obtain⟨us,hrun,hr,_,_,hn⟩:=uI h ho hv;obtain⟨hul,hrep⟩:=ik hr hc;have hus:(Value.agg us.toArray).cells=us.toArray:=rfl;rw[hus]at hul hrep;have hul:us.length=cs.length:=by simpa using hul
    have hg:hZ β S.gen (fA β (S.fo+d) ⟨0,0,false⟩) (fA S.gen (S.fo+d) (S.gen (S.fo+d)+1)):=by
     refine⟨fun m=>?_,fun m e _=>?_⟩
     ·unfold fA;split
      ·subst_vars;omega
      ·omega
     ·unfold fA at e⊢
      split at e
      ·subst_vars;omega
      ·rename_i hne;rw[if_neg hne]
    have hpart: ∀j,jn P t ps.toList j=true→j<cs.length∧cs[j]? =some (.d (.slice [])):=by
     intro j hj;obtain⟨q1,q2⟩:=hn j hj;have hjl:j<cs.length:=by
      have:=(List.getElem?_eq_some_iff.1 q1).1;omega
     refine⟨hjl,?_⟩;have h1:=u5 (p:=r) (fun f e=>by rw[e]at q2;simp[PV.part]at q2) hc hjl
     rw[←h1,q2]
    refine⟨w,fr,fA β (S.fo+d) ⟨0,0,false⟩,.inl ⟨.agg us.toArray,by simp[execOp,ho,hrun],?_⟩⟩
    rw[hdd];refine h.GJ (hd d hdd) ⟨0,0,false⟩ [] (fun _=>false) (fun _=>false) _ _ _ (.inr (.inl ⟨rfl,rfl,fun _=>rfl⟩)) (.pa _ _ (by simp[hul]) (fun u hu=>?_) (fun k u p hu hp=>?_)) (fun j hj=>?_)
    ·obtain⟨k,hk⟩:=List.mem_iff_getElem?.1 hu;have hkl:k<cs.length:=by have:=(List.getElem?_eq_some_iff.1 hk).1;omega
     exact(hrep k u _ (by simpa using hk) (List.getElem?_eq_getElem hkl)).2
    ·rw[List.getElem?_set]at hp
     split at hp
     ·rename_i e;subst e;simp only[hcl,if_true,ab]at hp;subst hp;rw[(hn c hnc).1]at hu
      cases hu
      exact .bsl _ _ _ _ _ _ _ (by omega) (by rw[cR];omega) hsz (Nat.le_refl _) (fun _=>by rw[cR];exact⟨fun h=>absurd h (by simp),Nat.le_refl _,by simp⟩) (fun _=>by rw[cR])
     ·exact(hrep k u p (by simpa using hu) hp).1.mono (jM.refl w fr) hg
    ·simp only[Bool.and_eq_true,decide_eq_true_eq]at hj;obtain⟨q1,q2⟩:=hpart j hj.2;refine⟨?_,?_⟩
     ·simp only[eC];rw[Array.getD_eq_getD_getElem?,ax,(hn j hj.2).1];rfl
     ·simp only[PV.part,List.getD_eq_getElem?_getD];rw[ca (fun e=>hj.1 e.symm),q2]
      rfl
   ·cases he
  ·cases he
 ·cases he
theorem Ik(h:dC N tch w0 fr0 S a w fr β){o:Oper}{t:TypeId}{len:Nat}{ps:Array (Nat×Operand)}{E:dp}(hd: ∀d,o.dst=some d→d<N)(ho:o.op= .buildSlice t len ps)(he:ll P S o t len ps=some E):
 lr P N tch w0 fr0 (E.apply S) o a w:=by
 unfold ll at he
 split at he
 ·rename_i d e hdd ht
  split at he
  ·rename_i hc;obtain⟨hlen,hbig,hpos,hz,_,_⟩:=hc
   split at he
   ·rename_i xs hx
    cases he
    obtain⟨e1,e2,e3,e4,e5⟩:=oO h ps.toList 0 xs hx;obtain⟨z,hz⟩:=Option.isSome_iff_exists.1 hz;have hxl:xs.length=len:=by rw[e2];simpa using hlen
    obtain⟨us,hus⟩: ∃us,us=(ps.toList.map fun(_,x)=>a.eval x).flatMap fun v=>v.cells.toList:=⟨_,rfl⟩
    rw[←hus]at e5;have hul:us.length=len*cX P e:=by rw[e5.1,ed e3,hxl]
    have hrun:(Instr.buildSlice t len (ps.map fun(i,x)=>(i,a.eval x))).run P w= .ok (.slice (some ⟨w.heap.size,0,none⟩) len len) (w.alloc (.cells us.toArray e)):=by
     have hfill: ∀cs:Array Value,cs.size=len*cX P e→Instr.fill (fun i=>some (i*cX P e,cX P e)) cs (ps.map fun(i,x)=>(i,a.eval x)).toList=some us.toArray:=by
      intro cs dQ;have:=Great.fill_whole hpos (ps.toList.map fun(_,x)=>a.eval x) cs e4 (by rw[dQ];simp[hlen])
      rw[←e1,←hus]at this;rw[←this];simp
     obtain⟨i,hi,hiz⟩:=fq hz;have hb: ¬(len*cX P e>2^24):=by omega
     have hb': ¬(16777216<len*cX P e):=by omega
     have hfill': ∀cs:Array Value,cs.size=len*cX P e→Instr.fill (fun i=>some (i*cX P e,cX P e)) cs (List.map (fun x=>(x.fst,a.eval x.snd)) ps.toList)=some us.toArray:=by
      intro cs dQ
      simpa using hfill cs dQ
     by_cases h0:len*cX P e=0
     ·simp[Instr.buildSlice,underlying,dy ht,eG hpos,h0,newRow];rw[hfill' _ (by simp[h0])]
      simp
     ·simp[Instr.buildSlice,underlying,dy ht,eG hpos,hb',h0,zeroValue,typeInfo,hi,hiz,newRow];rw[hfill' _ (by simp)]
      simp
    have hfx:gH w fr (w.alloc (.cells us.toArray e)) (fA fr w.heap.size (some 0)):=by
     refine⟨rfl,rfl,rfl,by simp,fun b hb=>aO _ _ _ hb,fun b hb=>c6 _ _ (by omega),fun b f hf=>?_⟩
     by_cases e1:b=w.heap.size
     ·subst e1;simp
     ·rw[c6 _ _ e1]at hf;have:=h.frb b f hf;simp;omega
    have hS:=h.oE (hd d hdd) hfx (Nat.le_refl _) _ e (dY w _) ((flat xs).map .d) (fun _=>false) (fun _=>false) (.bsl (S.fo+d) (S.gen (S.fo+d)+1) len (cX P e) (dL P e==some true)) (.slice (some ⟨w.heap.size,0,none⟩) len len) (n:=S.fo+d)
     (by rw[List.length_map,←e5.1];simp) (fun k u p hu hp=>nP e5 k u p (by simpa using hu) hp) (by simp) (.inr ⟨len,cX P e,len,_,hpos,Nat.le_refl _,by simp[hul],rfl,rfl⟩)
    refine⟨w.alloc (.cells us.toArray e),fA fr w.heap.size (some 0),fA β (S.fo+d) ⟨w.heap.size,us.toArray.size,false⟩,.inl ⟨.slice (some ⟨w.heap.size,0,none⟩) len len,?_,?_⟩⟩
    ·simp[execOp,ho,hrun]
    ·rw[hdd];exact hS
   ·cases he
  ·cases he
 ·cases he
theorem dC.mark(h:dC N tch w0 fr0 S a w fr β){b:Nat}{cs:Array Value}{E:TypeId}(hb:w.heap[b]? =some (.cells cs E (0,0)))(hf:fr b=some cs.size)(hpos:0<cs.size)(hm:w0.heap.size≤b∨tch b):
 dC N tch w0 fr0 S a (w.freeze ⟨b,cs.size,none⟩ 1) fr β:=by
 obtain⟨w',hw'⟩: ∃w',w'=w.freeze ⟨b,cs.size,none⟩ 1:=⟨_,rfl⟩;rw[←hw'];have hfz:w'= {w with heap:=w.heap.modify b fun
  | .cells c elem (lo,hi)=> .cells c elem (if lo==hi then(cs.size,cs.size+1)else(min lo cs.size,max hi (cs.size+1)))
  |o=>o}:=by rw[hw'];rfl
 have hsz:w'.heap.size=w.heap.size:=by rw[hfz];simp
 have hne: ∀b',b'≠b→w'.heap[b']? =w.heap[b']? :=by
  intro b' hn;rw[hfz];simp only[bX];rw[if_neg (fun e=>hn e.symm)]
 have heq:w'.heap[b]? =some (.cells cs E (cs.size,cs.size+1)):=by
  rw[hfz];simp only[bX,if_true,hb];simp
 have hcell: ∀b' o,w'.cell? ⟨b',o,none⟩=w.cell? ⟨b',o,none⟩:=by
  intro b' o;by_cases e:b'=b
  ·subst e;simp only[World.cell?,heq,hb]
  ·exact aE (w:=w) (hne b' e)
 have hd:jM w fr w' fr:=⟨fun b' o u hc _=>by rw[hcell];exact hc,fun b' f' _ hf'=>⟨f',hf',Nat.le_refl _⟩,by omega⟩
 have hg:=hZ.refl β S.gen;have hvat: ∀l,ew a w' β l=ew a w β l:=by
  intro l
  cases l with
  |t i j=>rfl
  |b n k=>simp only[ew,hcell]
 have hbox: ∀n,0<S.gen n→0<(β n).c→(β n).b≠b:=by
  intro n hn h0 e;have:=(h.boxes n hn).reg h0;rw[e,hf]at this;have:=au this;omega
 refine⟨h.defers,h.ntmps,by rw[←h.os,hfz],by rw[←h.tape,hfz],by rw[←h.output,hfz],by rw[hsz];exact h.size,fun b' f' hf'=>by rw[hsz];exact h.frb b' f' hf',fun b' hb' ht=>?_,fun b' ht=>?_,fun i=>(h.vals i).mono hd hg,fun n hn=>?_,h.binj,fun l hl=>?_,h.live,fun l l' hl hl' hne' b' hb'=>?_,h.ext⟩
 ·rw[hne b' fun e=>?_]
  ·exact h.frame b' hb' ht
  ·subst e;rcases hm with hm|hm
   ·omega
   ·exact ht hm
 ·obtain⟨hb',f0,f,e0,e,hle,hk⟩:=h.keep b' ht;exact⟨hb',f0,f,e0,e,hle,fun k u hk0 hc=>by rw[hcell];exact hk k u hk0 hc⟩
 ·exact(h.boxes n hn).move hd hg (fun h0=>hne _ (hbox n hn h0)) (fun _=>rfl)
 ·rw[hvat l];obtain⟨xs,hxs,hh⟩:=h.own l hl;refine⟨xs,hxs,?_⟩;rcases hh with hh|⟨b',c,cur,E',sz,q1,q2,q3,q4,q5,q6,q7,q8,q9⟩
  ·exact .inl hh
  ·have hbb:b'≠b:=by
    intro e;subst e;rw[hb]at q5
    cases q5
    rw[hf]at q8;have h1:cs.size=xs.length*sz:=by simpa using q8
    rw[q7]at h1;have:=Nat.mul_lt_mul_of_pos_right q2 q4;omega
   exact .inr ⟨b',c,cur,E',sz,q1,q2,q3,q4,by rw[hne _ hbb];exact q5,q6,q7,q8,q9⟩
 ·rw[hvat]at hb';rw[hvat];exact h.oinj l l' hl hl' hne' b' hb'
theorem Ld(h:dC N tch w0 fr0 S a w fr β){o:Oper}{src dst:TypeId}{x:Operand}{E:dp}(hd: ∀d,o.dst=some d→d<N)(ho:o.op= .convert src dst x)(he:uF P S o src dst x=some E):
 lr P N tch w0 fr0 (E.apply S) o a w:=by
 unfold uF at he
 split at he
 ·rename_i e n g len sz ag hu hx
  split at he
  ·rename_i hc;obtain⟨rfl,hu8,hlen⟩:=hc;have hu8:=MO hu8;have hv:=h.ev x;rw[hx]at hv;obtain⟨A,cap,hev,h0,hs0,hAA⟩:=lg hv;have hth: ∃xs,iP S n g len sz ag=some xs:=by
    unfold rZ nM pZ at he
    cases ht:iP S n g len sz ag with
    |none=>simp[ht]at he
    |some xs=>exact⟨xs,rfl⟩
   obtain⟨xs,hxs⟩:=hth;have hgg:g=S.gen n:=by
    unfold iP at hxs
    split at hxs
    ·rename_i hq;exact hq.1
    ·cases hxs
   have hgn:0<S.gen n:=by omega
   obtain⟨hA,hle,hcap⟩:=hAA hgg;have hcpos:0<(β n).c:=by
    rw[←hcap];exact aX (by omega) hs0
   have hAe:=hA hcpos;have hbn:=h.boxes n hgn;have hk0:=o9 hv hgg;obtain⟨cs,E',dQ,hsz,_⟩:=hbn.ex hcpos hk0;obtain⟨fr',β',hS,hdx,hg,hb1,hb2,_,_⟩:=h.Gt hgn;have hE:E=⟨o.dst,.d (.slice xs),fun _=>false,fun _=>false,[kill S n]⟩:=by
    unfold rZ nM pZ at he;simp[hxs]at he;exact he.symm
   subst hE;have hfv:nM S (.bsl n g len sz ag)=some (.slice xs,[n]):=by simp[nM,pZ,hxs]
   have hr:=(pY h hfv hv hdx (fun m hm hg0 h0=>by simp at hm;subst hm;exact⟨_,hb2 h0,(h.boxes _ hg0).len (.inl hk0)⟩)).1
   have hS':=hS.vz o.dst (a.eval x) (.d (.slice xs)) hd (.d _ _ hr);have hEq:((⟨o.dst,.d (.slice xs),fun _=>false,fun _=>false,[]⟩:dp).apply (S.nB [n]))=((⟨o.dst,.d (.slice xs),fun _=>false,fun _=>false,[kill S n]⟩:dp).apply S):=by
    simp only[dp.apply,PS.nB,List.map_cons,List.map_nil,nT]
    congr 1
    funext l
    cases l with
    |t i j=>simp
    |b q k=>by_cases e:(kill S n).n=q<;>simp[e]
   rw[hEq]at hS';have hM:=hS'.mark dQ (by rw[hb2 hcpos,hsz]) (by omega) (hbn.mine hcpos)
   refine⟨_,fr',β',.inl ⟨a.eval x,?_,hM⟩⟩;have hshape:w.shape? (β n).b=some (E',cs.size):=by simp[World.shape?,dQ]
   rw[hev,hAe];simp[execOp,ho,hev,hAe,convert,aj hu,aj hu8,markStringish,hshape]
  ·cases he
 ·cases he
theorem Co{t e:TypeId}{kd:TypeDesc}(h:NO P t=some (kd,e)): ∃k,P.underlying t=some (.map k e)∧P.underlying k=some kd∧((∃i,kd= .int i)∨kd= .string):=by
 unfold NO at h
 split at h
 ·rename_i k e' hu
  split at h
  ·rename_i i hk
   cases h
   exact⟨k,hu,hk,.inl ⟨i,rfl⟩⟩
  ·rename_i hk
   cases h
   exact⟨k,hu,hk,.inr rfl⟩
  ·cases h
 ·cases h
theorem zy{kd:TypeDesc}{kv cv:Value}{k:DV}{c:PV}{b:Bool}{gen:Nat→Nat}(hk:da w fr β gen kv (.d k))(hc:da w fr β gen cv c)(h:s6 kd k c=some b):Instr.sameNow kd kv cv=some b∧(b=true→cv=kv):=by
 unfold s6 at h
 split at h
 ·rename_i a1 k1 a k2 b1
  split at h
  ·rename_i e
   cases h
   subst e;rw[eT hk,eT hc];refine⟨by simp[Instr.sameNow],fun e=>?_⟩
   have:a=b1:=by simpa using e
   rw[this]
  ·cases h
 ·rename_i a b1
  cases h
  rw[iI hk,iI hc];refine⟨?_,fun e=>?_⟩
  ·simp only[Instr.sameNow,ab];rw[beq_toListBytes,pq,pq]
  ·have:a=b1:=by simpa using e
   rw[this]
 ·cases h
theorem K2{kd:TypeDesc}{kv:Value}{k:DV}{gen:Nat→Nat}(hk:da w fr β gen kv (.d k)){es:List MapEntry}{ps:List PV}(h:jh w fr β gen es ps): ∀i:Nat,
 (Ee kd k ps=some none→Instr.findNow kd kv es i=some none)∧(∀v,Ee kd k ps=some (some v)→ ∃j e,es[j]? =some e∧Instr.findNow kd kv es i=some (some (i+j,e.val))∧da w fr β gen e.val v):=by
 induction h with
 |nil=>exact fun i=>⟨fun _=>rfl,fun v hv=>by simp[Ee]at hv⟩
 |cons e es c v ps hck hv _ ih=>
  intro i;unfold Ee
  cases hq:s6 kd k c with
  |none=>exact⟨fun h=>by simp at h,fun v h=>by simp at h⟩
  |some b=>
   obtain⟨q1,q2⟩:=zy hk hck hq
   cases b with
   |true=>
    refine⟨fun h=>by simp at h,fun u h=>?_⟩
    simp only[ab]at h;subst h;exact⟨0,e,rfl,by simp[Instr.findNow,q1],hv⟩
   |false=>
    obtain⟨h1,h2⟩:=ih (i+1);refine⟨fun h=>by simp[Instr.findNow,q1,h1 h],fun u h=>?_⟩
    obtain⟨j,e',e1,e2,e3⟩:=h2 u h;exact⟨j+1,e',e1,by simp only[Instr.findNow,q1];rw[e2];congr 3;omega,e3⟩
theorem Ma{kd:TypeDesc}{kv xv:Value}{k:DV}{x:PV}{gen:Nat→Nat}(hk:da w fr β gen kv (.d k))(hx:da w fr β gen xv x){es:List MapEntry}{ps:List PV}(h:jh w fr β gen es ps): ∀(i:Nat) (ps':List PV),xd kd k x ps=some ps'→
 (Instr.findNow kd kv es i=some none∧ ∀born,jh w fr β gen (es++ [⟨kv,xv,born⟩]) ps')∨
  ∃j e,es[j]? =some e∧e.key=kv∧Instr.findNow kd kv es i=some (some (i+j,e.val))∧jh w fr β gen (es.modify j fun e=> {e with key:=kv,val:=xv}) ps':=by
 induction h with
 |nil=>
  intro i ps' hp;simp only[xd,ab]at hp;subst hp;exact .inl ⟨rfl,fun born=> .cons _ _ _ _ _ hk hx .nil⟩
 |cons e es c v ps hck hv hr ih=>
  intro i ps' hp;unfold xd at hp
  cases hq:s6 kd k c with
  |none=>rw[hq]at hp;simp at hp
  |some b=>
   rw[hq]at hp;obtain⟨q1,q2⟩:=zy hk hck hq
   cases b with
   |true=>
    simp only[ab]at hp;subst hp;exact .inr ⟨0,e,rfl,q2 rfl,by simp[Instr.findNow,q1],.cons _ _ _ _ _ hk hx hr⟩
   |false=>
    simp only[Option.map_eq_some_iff]at hp;obtain⟨r,hr2,rfl⟩:=hp;rcases ih (i+1) r hr2 with⟨h1,h2⟩|⟨j,e',h1,h2,h3,h4⟩
    ·exact .inl ⟨by simp[Instr.findNow,q1,h1],fun born=> .cons _ _ _ _ _ hck hv (h2 born)⟩
    ·exact .inr ⟨j+1,e',h1,h2,by simp only[Instr.findNow,q1];rw[h3];congr 3;omega,.cons _ _ _ _ _ hck hv h4⟩
theorem tC{kd:TypeDesc}{k:TypeId}(hk:P.underlying k=some kd)(h:(∃i,kd= .int i)∨kd= .string)(b:Bool)(n:Nat)(v:Value){w:World}:(Instr.checkKey b (n+1) k v).run P w= .ok () w:=by
 rcases h with⟨i,rfl⟩|rfl<;>simp[Instr.checkKey,aj hk]
theorem AA(n:Nat)(j:IntKind)(a:Int):Instr.sameBits n (.int j a) (.int j a)=true:=by cases n<;>simp[Instr.sameBits]
theorem Az(n:Nat)(s:ByteArray):Instr.sameBits n (.string s) (.string s)=true:=by cases n<;>simp[Instr.sameBits,beq_toListBytes]
theorem G1{v:Value}{w:World}(h:(∃i n,v= .int i n)∨ ∃s,v= .string s):(Instr.keyThatStays v v).run P w= .ok v w:=by
 rcases h with⟨i,n,rfl⟩|⟨s,rfl⟩
 ·rw[Instr.keyThatStays,AA,if_pos rfl];simp
 ·rw[Instr.keyThatStays,Az,if_pos rfl];simp
theorem Kn{kd:TypeDesc}{k:DV}{x:PV}{ps ps':List PV}(h:xd kd k x ps=some ps')(hne:ps≠ []):(∃i n,k= .int i n)∨ ∃s,k= .str s:=by
 match ps,hne with
 | [c],_=>simp[xd]at h
 |c::v::r,_=>
  unfold xd at h
  cases hq:s6 kd k c with
  |none=>rw[hq]at h;simp at h
  |some b=>
   unfold s6 at hq
   split at hq
   ·exact .inl ⟨_,_,rfl⟩
   ·exact .inr ⟨_,rfl⟩
   ·cases hq
theorem Bk(h:dC N tch w0 fr0 S a w fr β){o:Oper}{t:TypeId}{E:dp}(hd: ∀d,o.dst=some d→d<N)(ho:o.op= .makeMap t none)(he:zn S o=some E):lr P N tch w0 fr0 (E.apply S) o a w:=by
 unfold zn at he
 split at he
 ·rename_i d hdd
  cases he
  refine⟨w.alloc (.map #[] 0),fA fr w.heap.size (some 0),fA β (S.fo+d) ⟨w.heap.size,1,true⟩,.inl ⟨.map (some w.heap.size),?_,?_⟩⟩
  ·simp[execOp,ho,Instr.makeMap]
  ·rw[hdd];exact h.O3 (hd d hdd)
 ·cases he
theorem C4(h:dC N tch w0 fr0 S a w fr β){o:Oper}{t:TypeId}{m k x:Operand}{E:dp}(ho:o.op= .insert t m k x)(he:uq P S o t m k x=some E):lr P N tch w0 fr0 (E.apply S) o a w:=by
 unfold uq at he
 split at he
 ·rename_i n g kk kd e hdd hm hk ht
  split at he
  ·rename_i hg;simp only[Option.map_eq_some_iff]at he;obtain⟨ps,hp,rfl⟩:=he;obtain⟨kt,hu,huk,hkd⟩:=Co ht;have hmv:=h.ev m;rw[hm]at hmv;obtain⟨r,hr,h0,_,hh⟩:=KH hmv;obtain⟨rfl,hbk,hbc⟩:=hh hg;have hgn:0<S.gen n:=by omega
   have hkv:=h.ev k;rw[hk]at hkv;have hbn:=h.boxes n hgn;obtain⟨es,clk,hheap,hrep⟩:=hbn.mex (by omega) hbk
   have hget: ∀ {α:Type} (f:Obj→Sem α),((getObj (β n).b).bind f).run P w=(f (.map es clk)).run P w:=by
    intro α f;simp[getObj,Sem.bind,Sem.run,hheap]
   have hset: ∀(ob:Obj),(setObj (β n).b ob).run P w= .ok () {w with heap:=w.heap.setIfInBounds (β n).b ob}:=by
    intro ob;simp[setObj,Sem.run,hheap]
   have hck: ∀(v:Value),(Instr.checkKey false 10000 kt v).run P w= .ok () w:=fun v=>tC huk hkd false 9999 v
   rcases Ma hkv (h.ev x) hrep 0 ps hp with⟨h1,h2⟩|⟨j,e',h1,h2,h3,h4⟩
   ·refine⟨{w with heap:=w.heap.setIfInBounds (β n).b (.map (es.push ⟨a.eval k,a.eval x,clk⟩) (clk+1))},fr,β,.inr ⟨?_,?_⟩⟩
    ·simp[execOp,ho,hr,Instr.mapUpdate,aj hu,bC hheap,hck,bI huk h1,MapKept.run_setObj_map _ hheap]
    ·rw[hdd,hg];exact h.Je hgn hbk (by omega) (es.push ⟨a.eval k,a.eval x,clk⟩) (clk+1) ps (by simpa using h2 clk) rfl
   ·refine⟨{w with heap:=w.heap.setIfInBounds (β n).b (.map (es.modify j fun e=> {e with key:=a.eval k,val:=a.eval x}) clk)},fr,β,.inr ⟨?_,?_⟩⟩
    ·have hes:es[j]? =some e':=by simpa using h1
     have hst:(Instr.keyThatStays (a.eval k) (a.eval k)).run P w= .ok (a.eval k) w:=by
      refine G1 ?_;rcases Kn hp (by
       intro e0;rw[e0]at hrep;have hnil:es.toList= []:=by
        generalize es.toList=l at hrep
        cases hrep
        rfl
       rw[hnil]at h1;simp at h1)with⟨i1,n1,rfl⟩|⟨s1,rfl⟩
      ·exact .inl ⟨_,_,eT hkv⟩
      ·exact .inr ⟨_,iI hkv⟩
     rw[Nat.zero_add]at h3;simp[execOp,ho,hr,Instr.mapUpdate,aj hu,bC hheap,hck,bI huk h3,hes,h2,hst,MapKept.run_setObj_map _ hheap]
    ·rw[hdd,hg];exact h.Je hgn hbk (by omega) (es.modify j fun e=> {e with key:=a.eval k,val:=a.eval x}) clk ps (by simpa using h4) rfl
  ·cases he
 ·cases he
theorem EA{xs:List DV}(h:xs.all MQ=true):flat xs=xs:=by
 induction xs with
 |nil=>rfl
 |cons x xs ih=>
  simp only[List.all_cons,Bool.and_eq_true]at h;rw[dS,ih h.2]
  cases x<;>simp[MQ]at h
  rfl
theorem Ij(h:dC N tch w0 fr0 S a w fr β){o:Oper}{args:Array Operand}{ts:Array TypeId}{E:dp}(hd: ∀d,o.dst=some d→d<N)(ho:o.op= .call ⟨.builtin .copy,args,ts⟩)(he:x7 P S o args.toList ts.toList=some E):lr P N tch w0 fr0 (E.apply S) o a w:=by
 unfold x7 at he
 split at he
 ·rename_i x y t t2 hargs hts
  split at he
  ·rename_i n g lo len xs e hx hy ht
   split at he
   ·rename_i hc;obtain⟨hg,hs,h0,hle,hbl,hall⟩:=hc
    cases he
    obtain⟨ag,ti,hxe⟩: ∃ag ti,S.ev x= .view n g lo len 1 ag ti:=by
     unfold SN at hx
     split at hx
     ·rename_i e1
      split at hx
      ·rename_i e2
       cases hx
       rw[e2]at e1;exact⟨_,_,e1⟩
      ·cases hx
     ·cases hx
    have hxv:=h.ev x;rw[hxe]at hxv;obtain⟨A,cap,ev,hg0,_,hlc,_,hA,hk0⟩:=xu hxv;obtain⟨hc0,rfl⟩:=hA hg (by omega)
    have hk0:=hk0 hg;have hgn:0<S.gen n:=by omega
    have hyv:=h.ev y;rw[hy]at hyv;obtain⟨A2,cap2,sz,us,ev2,hcap,hsz,ha,h1,hr⟩:=ff (fH hyv);have hsz1:sz=1:=by
     obtain⟨z,hz⟩:=aC h0;have q1:=hsz z hz;have q2:=List.all_eq_true.1 hall z hz
     cases z<;>simp[MQ]at q2
     simpa[cells]using q1.symm
    subst hsz1;rw[EA hall]at hr;obtain⟨ad,rfl,has,_,hcell⟩:=ha h0;simp only[Nat.mul_one]at hcell h1;have hbn:=h.boxes n hgn;obtain⟨cs,E,hh,dQ,hcp⟩:=hbn.ex hc0 hk0;have hbl2:=hbn.len (.inl hk0);have hcl: ∀k,w.cell? ⟨(β n).b,k,none⟩=cs[k]? :=fun k=>by simp only[World.cell?,hh];rfl
    obtain⟨vs,hvs⟩: ∃vs:List Value,vs=(List.range xs.length).map us:=⟨_,rfl⟩;have hvl:vs.length=xs.length:=by simp[hvs]
    have hva: ∀k u,vs[k]? =some u→u=us k∧k<xs.length:=by
     intro k u hu;have hk:k<xs.length:=by rw[←hvl];exact(List.getElem?_eq_some_iff.1 hu).1
     rw[hvs]at hu;simp[hk]at hu;exact⟨hu.symm,hk⟩
    have hadd: ∀j,ad.add j=⟨ad.block,ad.off+j,none⟩:=fun j=>by
     obtain⟨b,f,s⟩:=ad
     cases has
     unfold Addr.add
     split<;>simp_all
    have hu:=dy ht;obtain⟨i,hi,his⟩:=lh (P:=P) (t:=e) (by omega)
    have hsz2:(P.info? e).map (·.size)=some 1:=by rw[hi,Option.map_some,his,hs]
    obtain rfl:args= #[x,y]:=by rw[←aJ (xs:=args),hargs]
    obtain rfl:ts= #[t,t2]:=by rw[←aJ (xs:=ts),hts]
    rw[Nat.mul_one]at ev;have hrun:(Builtin.copy_ #[t,t2] o.type #[a.eval x,a.eval y]).run P w= .ok (goInt vs.length) (w.setCells (β n).b lo vs):=by
     rw[ev,ev2];exact run_copy_cells (P:=P) w t t2 o.type e (β n).b lo len cap ad xs.length cap2 vs hu hsz2 (by rw[hvl];exact(Nat.min_eq_left hle).symm)
      (fun j v hv=>by obtain⟨rfl,hj⟩:=hva j v hv;rw[hadd];exact hcell j hj)
      (fun j hj=>by rw[hcl,Array.getElem?_eq_getElem (by omega)];rfl) (fun j hj=>by simp[World.frozen?,hh])
      (fun v hv=>by obtain⟨k,hk⟩:=b_ hv;obtain⟨rfl,hj⟩:=hva k v hk;exact h1 k hj)
    refine⟨w.setCells (β n).b lo vs,fr,β,.inl ⟨goInt vs.length,?_,?_⟩⟩
    ·simp only[execOp,ho,resolve,invoke,builtin,Sem.run_bind,aw,aa,bu,List.map_cons,List.map_nil,hrun]
    ·have hpl:(xs.map PV.d).length=xs.length:=List.length_map ..;have hS:=h.Ay hgn hk0 vs (xs.map .d) (fun _=>false) (fun _=>false) (off:=lo) (fun _ _=>rfl) (by rw[hvl,hpl]) (by omega) (by rw[hpl];omega) hc0 (fun k u p hu hp=>by
      obtain⟨rfl,hk⟩:=hva k u hu;rw[List.getElem?_map,List.getElem?_eq_getElem hk,Option.map_some]at hp
      cases hp
      exact⟨.d _ _ (hr k _ (List.getElem?_eq_getElem hk)),h1 k hk⟩) (fun k hk=>by cases hk)
     have hP:=hS.sL ⟨o.dst,.d (.int .i64 xs.length),fun _=>false,fun _=>false,[]⟩ rfl (goInt vs.length) hd (by rw[hvl];exact .d _ _ (.int _ _)) (by simp) (by simp) (by simp)
     rw[hpl,←hg]at hP;have hap: ∀u:iL,(⟨o.dst,.d (.int .i64 xs.length),fun _=>false,fun _=>false,[]⟩:dp).apply ((⟨none,.undef,fun _=>false,fun _=>false,[u]⟩:dp).apply S)=(⟨o.dst,.d (.int .i64 xs.length),fun _=>false,fun _=>false,[u]⟩:dp).apply S:=by
      intro u;simp only[dp.apply,nT,Bool.not_false,Bool.and_true]
      congr 1
     rw[hap]at hP;exact hP
   ·cases he
  ·cases he
 ·cases he
theorem C3(h:dC N tch w0 fr0 S a w fr β){o:Oper}{t:TypeId}{m k:Operand}{ok:Bool}{r:PV}(hd: ∀d,o.dst=some d→d<N)(ho:o.op= .lookup t m k ok)(he:Qv P S.gen S.box t (S.ev m) (S.ev k) ok=some r):
 lr P N tch w0 fr0 ((⟨o.dst,r,fun _=>false,fun _=>false,[]⟩:dp).apply S) o a w:=by
 unfold Qv at he
 split at he
 ·rename_i n g kk kd e hm hk ht
  split at he
  ·rename_i hg;obtain⟨kt,hu,huk,hkd⟩:=Co ht;have hmv:=h.ev m;rw[hm]at hmv;obtain⟨r0,hr,h0,_,hh⟩:=KH hmv;obtain⟨rfl,hbk,hbc⟩:=hh hg;have hgn:0<S.gen n:=by omega
   have hkv:=h.ev k;rw[hk]at hkv;have hbn:=h.boxes n hgn;obtain⟨es,clk,hheap,hrep⟩:=hbn.mex (by omega) hbk
   have hck: ∀(b:Bool) (v:Value),(Instr.checkKey b 10000 kt v).run P w= .ok () w:=fun b v=>tC huk hkd b 9999 v
   obtain⟨f1,f2⟩:=K2 hkv hrep 0;have hb: ∀(v:Value) (p:PV) (b:Bool),da w fr β S.gen v p→da w fr β S.gen (.tuple #[v,.bool b]) (.tup [p,.d (.bool b)]):=by
    intro v p b hv;refine .tup [v,.bool b] _ rfl fun q u y hu hy=>?_
    match q,hu,hy with
    |0,hu,hy=>cases hu;cases hy;exact hv
    |1,hu,hy=>cases hu;cases hy;exact .d _ _ (.bool b)
    |q+2,hu,hy=>simp at hu
   split at he
   ·rename_i v hg1
    cases he
    obtain⟨j,e',e1,e2,e3⟩:=f2 v hg1;refine⟨w,fr,β,.inl ⟨if ok=true then .tuple #[e'.val,.bool true]else e'.val,?_,?_⟩⟩
    ·cases ok<;>simp[execOp,ho,hr,Instr.lookup,aj hu,bC hheap,hck,bI huk e2]
    ·refine h.vz o.dst _ _ hd ?_
     cases ok
     ·exact e3
     ·exact hb _ _ _ e3
   ·rename_i z hg1 hz
    cases he
    rw[Option.map_eq_some_iff]at hz;obtain⟨zv,hz,rfl⟩:=hz;obtain⟨i,hi,hiz⟩:=fq hz;refine⟨w,fr,β,.inl ⟨if ok=true then .tuple #[zv,.bool false]else zv,?_,?_⟩⟩
    ·cases ok<;>simp[execOp,ho,hr,Instr.lookup,aj hu,bC hheap,hck,bI huk (f1 hg1),zeroValue,typeInfo,hi,hiz]
    ·refine h.vz o.dst _ _ hd ?_
     cases ok
     ·exact mz zv
     ·exact hb _ _ _ (mz zv)
   ·cases he
  ·cases he
 ·cases he
theorem C0(hG:qt P tch w0)(h:dC N tch w0 fr0 S a w fr β){tr:List Nat}{o:Oper}{E:dp}(he:dO P N tr S o=some E):lr P N tch w0 fr0 (E.apply S) o a w:=by
 unfold dO at he
 split at he
 ·rename_i hdst;have hd: ∀d,o.dst=some d→d<N:=by
   intro d e;unfold gG at hdst;rw[e]at hdst
   simpa using hdst
  split at he
  ·rename_i ho
   split at he
   ·exact M_ h hd ho he
   ·cases he;exact GB h hd (.inr ho)
  ·rename_i x ho
   split at he
   ·obtain⟨fr',β',hS⟩:=xC h hd he (h.ev x);exact⟨w,fr',β',.inl ⟨a.eval x,by simp[execOp,ho],hS⟩⟩
   ·cases he;exact GB h hd (.inl ho)
  ·rename_i ho
   split at he
   ·split at he
    ·rename_i hs
     split at he
     ·cases he
     ·rename_i hpt hp
      cases he
      exact Bl h hd ho hs hp (fun q e=>by subst e;exact hpt q rfl)
     ·cases he
    ·cases he
   ·cases he
  ·rename_i t x ho
   split at he
   ·rename_i r hl;obtain⟨v,hrun,hr,hcell⟩:=Ek hG h hl;have hrun':(execOp a.eval o).run P w= .ok (.value v) w:=by simp[execOp,ho,hrun]
    split at he
    ·obtain⟨fr',β',hS⟩:=xC h hd he hr;exact⟨w,fr',β',.inl ⟨v,hrun',hS⟩⟩
    split at he
    ·split at he
     ·rename_i n g off hx hagg
      cases he
      obtain⟨e1,e2,hgn⟩:=hcell n g off hx hagg;refine⟨w,fr,β,.inl ⟨v,hrun',?_⟩⟩;have hvp:S.own (.b n off)=true→eC v 0=v∧r.part 0=r:=by
       intro ho;obtain⟨xs,e,hh⟩:=h.own (.b n off) ho;rw[←e1]at hh;rw[←e2]at e;subst e;rcases hh with⟨A,n',rfl⟩|⟨b,c,cur,E,sz,rfl,_⟩<;>exact⟨rfl,rfl⟩
      refine h.sL ⟨o.dst,r,fun j=>j==0&&S.own (.b n off),fun l=>l== .b n off,[]⟩ rfl v hd hr (fun j hj=>?_) (fun j hj b hb l hl' hc=>?_) (fun j j' hj hj' hne=>?_)
      ·simp at hj;obtain⟨rfl,ho⟩:=hj;obtain⟨q1,q2⟩:=hvp ho;rw[q1,q2,e1,e2];exact h.own _ ho
      ·simp at hj;obtain⟨rfl,ho⟩:=hj;obtain⟨q1,q2⟩:=hvp ho;rw[q1,e1]at hb;exact h.oinj (.b n off) l ho hl' (fun e=>by subst e;simp at hc) b hb
      ·simp at hj hj';omega
     ·cases he
    ·cases he
     exact⟨w,fr,β,.inl ⟨v,hrun',h.vz o.dst v r hd hr⟩⟩
   ·cases he
  ·rename_i e ho
   split at he
   ·rename_i d z hdd hz
    split at he
    ·rename_i hall
     cases he
     exact ES h (hd d hdd) hdd ho hz hall
    ·cases he
   ·cases he
  ·rename_i e x ho
   split at he
   ·rename_i d cs hdd hc
    split at he
    ·simp only[Option.map_eq_some_iff]at he;obtain⟨ds,hds,rfl⟩:=he;exact Im h (hd d hdd) hdd ho hc hds
    ·split at he
     ·exact ER h (hd d hdd) hdd ho hc he
     cases he
     exact Le h (hd d hdd) hdd ho hc
   ·cases he
  ·rename_i t l c ho
   split at he
   ·rename_i d e k n k' m hdd ht hl hc
    split at he
    ·rename_i z by_ hz hb
     split at he
     ·rename_i hcond;obtain⟨rfl,h0,hn,hnb,hs,h1⟩:=hcond
      split at he
      ·cases he
       exact vH h (hd d hdd) hdd ho ht hl hc hz hb h0 hn hnb hs h1
      ·cases he
       exact xU h (hd d hdd) hdd ho ht hl hc hz hb h0 hn hnb hs h1
     ·cases he
    ·cases he
   ·cases he
  ·rename_i t x v ho
   split at he
   ·rename_i n g off cs hdd hx hc
    split at he
    ·rename_i hcond;obtain⟨hg,hsz,hpos,hle⟩:=hcond;obtain⟨hrun,hl,hgn,hrep⟩:=GY (P:=P) h hdd ho hx hc hg hsz hpos hle;have hk0:(β n).k=false:=by
      have hxv:=h.ev x;rw[hx]at hxv;exact JA hxv hg
     split at he
     ·rename_i s
      cases he
      refine⟨_,fr,β,.inr ⟨hrun,?_⟩⟩;rw[hdd,hg];refine h.Ay hgn hk0 _ cs (dg s) _ (fun _ _=>rfl) hl (by omega) (by have:=(h.boxes n hgn).len (.inl hk0);omega) (by have:=(h.boxes n hgn).len (.inl hk0);omega) hrep (fun k hk=>?_)
      split at hk
      ·rename_i hin;simp only[Bool.and_eq_true,br]at hk;obtain⟨⟨h1,hos⟩,hsl⟩:=hk;have hk0:k=off:=by omega
       refine .inr ⟨0,.t s 0,by omega,by omega,.inr ⟨hos,by simp[dg],h1,?_,?_⟩⟩
       ·obtain⟨xs,e,hh⟩:=h.own (.t s 0) hos;have hv:ew a w β (.t s 0)=a.tmps.getD s undef∨True:= .inr trivial
        --the slot holds a slice
        have hsv: ∃ys,S.t s= .d (.slice ys):=by
         cases hst:S.t s with
         |d x=>
          cases x with
          |slice ys=>exact⟨ys,rfl⟩
          |_=>simp[PS.ev,hst]at hsl
         |_=>simp[PS.ev,hst]at hsl
        obtain⟨ys,hys⟩:=hsv;have hvs:=h.vals s;rw[hys]at hvs;obtain⟨A,cap,sz,us,ev,_⟩:=ff (fH hvs);simp only[Act.eval,ew,ev];rfl
       ·have hsv: ∃ys,S.t s= .d (.slice ys):=by
         cases hst:S.t s with
         |d x=>
          cases x with
          |slice ys=>exact⟨ys,rfl⟩
          |_=>simp[PS.ev,hst]at hsl
         |_=>simp[PS.ev,hst]at hsl
        obtain⟨ys,hys⟩:=hsv;simp only[PS.ev,hys,cW,cells,ab]at hc;subst hc;simp[PS.at,hys,PV.part]
      ·rename_i hout;exact .inl ⟨by omega,hk⟩
     ·rename_i v hnt
      cases he
      refine⟨_,fr,β,.inr ⟨hrun,?_⟩⟩;rw[hdd,hg];refine h.Ay hgn hk0 _ cs (fun _=>false) _ (fun _ _=>rfl) hl (by omega) (by have:=(h.boxes n hgn).len (.inl hk0);omega) (by have:=(h.boxes n hgn).len (.inl hk0);omega) hrep (fun k hk=>?_)
      split at hk
      ·rename_i hin
       split at hk
       ·rename_i c;have hcn:=jY hk;subst hcn;have dQ:cs= [.d (.slice [])]:=by
         simp[PS.ev,ofConst,dh,cW,cells]at hc;exact hc.symm
        subst dQ;simp at hin;refine .inr ⟨0,.t 0 0,by omega,by simp,.inl ⟨rfl,rfl⟩⟩
       ·cases hk
      ·rename_i hout;exact .inl ⟨by omega,hk⟩
    ·cases he
   ·cases he
  ·rename_i args ts ho
   split at he
   ·split at he
    ·rename_i m hsb
     split at he
     ·rename_i hrb;simp only[Option.bind_eq_some_iff]at he;obtain⟨E0,he0,hg⟩:=he;exact Ii h hd ho hsb hrb.2 he0 hg
     ·cases he
    ·cases he
   ·exact(vl h hd ho he).1
  ·rename_i t ps ho
   split at he
   ·exact Bn h hd ho he
   split at he
   ·simp only[Option.map_eq_some_iff]at he;obtain⟨r,hr,rfl⟩:=he;exact Bm h hd ho hr
   ·simp only[Option.map_eq_some_iff]at he;obtain⟨r,hr,rfl⟩:=he;exact oR h hd hr
  ·rename_i t len ps ho
   split at he
   ·split at he
    ·exact Ik h hd ho he
    ·exact Il h hd ho he
   ·simp only[Option.map_eq_some_iff]at he;obtain⟨r,hr,rfl⟩:=he;exact oR h hd hr
  ·rename_i t ho;exact Bk h hd ho he
  ·rename_i t m k x ho;exact C4 h ho he
  ·rename_i args ts ho;exact Ij h hd ho he
  ·rename_i t m k ok ho;simp only[Option.map_eq_some_iff]at he;obtain⟨r,hr,rfl⟩:=he;exact C3 h hd ho hr
  ·rename_i src dst x ho
   split at he
   ·exact Ld h hd ho he
   ·simp only[Option.map_eq_some_iff]at he;obtain⟨r,hr,rfl⟩:=he;exact oR h hd hr
  ·simp only[Option.map_eq_some_iff]at he;obtain⟨r,hr,rfl⟩:=he;exact oR h hd hr
 ·cases he
theorem EM(hG:qt P tch w0)(h:dC N tch w0 fr0 S a w fr β){tr:List Nat}{o:Oper}{E:dp}(he:gx P N tr S o=some E):lr P N tch w0 fr0 (E.apply S) o a w:=by
 unfold gx at he
 split at he
 ·exact C0 hG h he
 ·cases he
end
def PS.start(args:List PV):PS:=⟨fun i=>args.getD i .undef,fun _=> [],fun _=>0,fun _=>false,FO⟩
def vg:PV→Bool
 | .d _=>true
 | .cptr _=>true
 |_=>false
def fZ:PV→Bool
 | .d _=>true
 | .cptr _=>true
 | .fn _ cs=>cs.all vg
 | .bm _ _=>true
 | .tup vs=>vs.all fun| .d _=>true| .cptr _=>true| .fn _ cs=>cs.all vg|_=>false
 |_=>false
theorem mv{w:World}{fr:Nat→Option Nat}{β:Nat→hU}{gen:Nat→Nat}{β':Nat→hU}{gen':Nat→Nat}{v:Value}{p:PV}(hp:fZ p=true)(h:da w fr β gen v p):da w fr β' gen' v p:=by
 have h0: ∀ {v:Value} {p:PV},vg p=true→da w fr β gen v p→da w fr β' gen' v p:=by
  intro v p hp h
  cases h with
  |d v x h=>exact .d v x h
  |cptr ad us cs hs hf hc h1 h=>exact .cptr ad us cs hs hf hc h1 h
  |_=>simp[vg]at hp
 have h1: ∀ {v:Value} {p:PV},(match p with| .d _=>true| .cptr _=>true| .fn _ cs=>cs.all vg|_=>false)=true→da w fr β gen v p→da w fr β' gen' v p:=by
  intro v p hp h
  cases h with
  |d v x h=>exact .d v x h
  |cptr ad us cs hs hf hc h1 h=>exact .cptr ad us cs hs hf hc h1 h
  |fn f vs caps hl h=>exact .fn f vs caps hl fun k v p hv hpk=>h0 (List.all_eq_true.1 hp p (List.mem_of_getElem? hpk)) (h k v p hv hpk)
  |_=>simp at hp
 cases h with
 |tup vs ps hl hh=>
  refine .tup vs ps hl fun k v p hv hpk=>h1 ?_ (hh k v p hv hpk)
  simp only[fZ,List.all_eq_true]at hp;exact hp p (List.mem_of_getElem? hpk)
 |d v x h=>exact .d v x h
 |cptr ad us cs hs hf hc h1 h=>exact .cptr ad us cs hs hf hc h1 h
 |fn f vs caps hl h=>exact .fn f vs caps hl fun k v p hv hpk=>h0 (List.all_eq_true.1 hp p (List.mem_of_getElem? hpk)) (h k v p hv hpk)
 |bm f v cs h=>exact .bm f v cs (h0 rfl h)
 |_=>simp[fZ]at hp
def res(v:Value):Act:=⟨#[v],[]⟩
def cD(P:Program)(f:FuncId)(args:List PV)(r:PV)(ro:Nat→Bool):Prop:=
 (∃fn c,P.funcs[f]? =some fn∧(fn.name== "runtime.NumGoroutine")=false∧fn.body=some c)∧fZ r=true∧
 ∀(vs:Array Value) (w:World) (fr:Nat→Option Nat),vs.size=args.length→(∀b f,fr b=some f→b<w.heap.size)→Np P w→
  (∀(i:Nat) (v:Value) (p:PV),vs[i]? =some v→args[i]? =some p→da w fr (fun _=>⟨0,0,false⟩) (fun _=>0) v p)→
  Calls P f vs w fun e w'=> ∃v fr' S' β',e= .returned v∧dC 1 Env.free w fr S' (res v) w' fr' β'∧S'.t 0=r∧ ∀j,ro j=true→S'.own (.t 0 j)=true
mutual
def cH(ns:List Nat):PV→Bool
 | .ptr n _ _=>ns.contains n
 | .bsl n _ _ _ _=>ns.contains n
 | .mp n _=>ns.contains n
 | .view n _ _ _ _ _ _=>ns.contains n
 | .pa cs=>cS ns cs
 | .fn _ cs=>cS ns cs
 | .tup cs=>cS ns cs
 |_=>true
def cS(ns:List Nat):List PV→Bool
 | []=>true
 |c::r=>cH ns c&&cS ns r
end
theorem jo{ns:List Nat}: ∀ {cs:List PV},cS ns cs=true→ ∀p∈cs,cH ns p=true
 | [],_,p,hp=>by simp at hp
 |c::r,h,p,hp=>by
  simp only[cS,Bool.and_eq_true]at h;rcases List.mem_cons.1 hp with rfl|hp
  ·exact h.1
  ·exact jo h.2 p hp
@[simp] theorem Kf{ns:List Nat}: ∀(xs:List DV),cS ns (xs.map PV.d)=true
 | []=>rfl
 |x::xs=>by simp[cS,cH,Kf xs]
theorem qG{w:World}{fr:Nat→Option Nat}{β:Nat→hU}{gen:Nat→Nat}{β':Nat→hU}{gen':Nat→Nat}{ns:List Nat}(hx: ∀n,n∈ns→β' n=β n∧gen' n=gen n)
 {v:Value} {p:PV} (h:da w fr β gen v p):cH ns p=true→da w fr β' gen' v p:=by
 induction h with
 |d v x h=>exact fun _=> .d v x h
 |ptr a n g o h0 hg hs h hk=>
  intro hn;obtain⟨e1,e2⟩:=hx n (by simpa[cH]using hn)
  exact .ptr a n g o h0 (by rw[e2];exact hg) hs (by rw[e1,e2];exact h) (by rw[e1,e2];exact hk)
 |cptr ad us cs hs hf hc h1 h=>exact fun _=> .cptr ad us cs hs hf hc h1 h
 |mp r n g h0 hg h hk=>
  intro hn;obtain⟨e1,e2⟩:=hx n (by simpa[cH]using hn)
  exact .mp r n g h0 (by rw[e2];exact hg) (by rw[e1,e2];exact h) (by rw[e1,e2];exact hk)
 |bsl A n g len sz cap ag h0 hg hs hl h hk=>
  intro hn;obtain⟨e1,e2⟩:=hx n (by simpa[cH]using hn)
  exact .bsl A n g len sz cap ag h0 (by rw[e2];exact hg) hs hl (by rw[e1,e2];exact h) (by rw[e1,e2];exact hk)
 |view A n g lo len sz cap ag ti h0 hg hs hl hti h hk=>
  intro hn;obtain⟨e1,e2⟩:=hx n (by simpa[cH]using hn)
  exact .view A n g lo len sz cap ag ti h0 (by rw[e2];exact hg) hs hl hti (by rw[e1,e2];exact h) (by rw[e1,e2];exact hk)
 |pa vs cs hl h1 h ih=>exact fun hn=> .pa vs cs hl h1 fun k v p hv hp=>ih k v p hv hp (jo (by simpa[cH]using hn) p (List.mem_of_getElem? hp))
 |fn f vs caps hl h ih=>exact fun hn=> .fn f vs caps hl fun k v p hv hp=>ih k v p hv hp (jo (by simpa[cH]using hn) p (List.mem_of_getElem? hp))
 |bm f v cs h ih=>exact fun _=> .bm f v cs (ih rfl)
 |tup vs ps hl h ih=>exact fun hn=> .tup vs ps hl fun k v p hv hp=>ih k v p hv hp (jo (by simpa[cH]using hn) p (List.mem_of_getElem? hp))
 |any v hb=>exact fun _=> .any v hb
theorem jh.names{w:World}{fr:Nat→Option Nat}{β:Nat→hU}{gen:Nat→Nat}{β':Nat→hU}{gen':Nat→Nat}{ns:List Nat}(hx: ∀n,n∈ns→β' n=β n∧gen' n=gen n){es:List MapEntry}{ps:List PV}
 (h:jh w fr β gen es ps):(∀p∈ps,cH ns p=true)→jh w fr β' gen' es ps:=by
 induction h with
 |nil=>exact fun _=> .nil
 |cons e es k v ps hk hv _ ih=>exact fun hn=> .cons e es k v ps (qG hx hk (hn k (by simp))) (qG hx hv (hn v (by simp))) (ih fun p hp=>hn p (by simp[hp]))
def PS.eZ(fo:Nat)(gl:Nat→Nat)(args:List PV)(pre:List iL):PS:=
 ⟨fun i=>args.getD i .undef,fun n=>match cV pre n with|some u=>u.c|none=> [],fun n=>match cV pre n with|some u=>u.g|none=>gl n,
  fun l=>match l with| .b n k=>(match cV pre n with|some u=>u.o k|none=>false)|_=>false,fo⟩
def snap(S:PS)(n:Nat):iL:=⟨n,S.gen n,S.box n,fun k=>S.own (.b n k)⟩
def de(P:Program)(fo:Nat)(gl:Nat→Nat)(f:FuncId)(args:List PV)(pre:List iL)(r:PV)(ro:Nat→Bool)(post:List iL):Prop:=
 (∃fn c,P.funcs[f]? =some fn∧(fn.name== "runtime.NumGoroutine")=false∧fn.body=some c)∧cH (post.map (·.n)) r=true∧(∀u∈post,cS (post.map (·.n)) u.c=true∧0<u.g)∧(∀u∈pre,u.n∈post.map (·.n))∧
 ∀(vs:Array Value) (w:World) (fr:Nat→Option Nat) (T:Env) (β:Nat→hU),vs.size=args.length→qt P T w→dC vs.size T w fr (PS.eZ fo gl args pre) ⟨vs,[]⟩ w fr β→
  Calls P f vs w fun e w'=> ∃v fr' S' β',e= .returned v∧dC 1 T w fr S' (res v) w' fr' β'∧S'.t 0=r∧(∀j,ro j=true→S'.own (.t 0 j)=true)∧
   ∀u∈post,S'.gen u.n=u.g∧S'.box u.n=u.c∧ ∀k,u.o k=true→S'.own (.b u.n k)=true
theorem j3{S:PS}{ns:List Nat}{n:Nat}:cV (ns.map (snap S)) n=if n∈ns then some (snap S n)else none:=by
 induction ns with
 |nil=>simp
 |cons m l ih=>
  simp only[List.map_cons,cV,ih,List.mem_cons];by_cases e:m=n
  ·subst e;simp[snap]
  ·have e': ¬n=m:=fun x=>e x.symm
   simp[snap,e,e']
theorem tm{l:List iL}{n:Nat}(h:n∈l.map (·.n)): ∃u,cV l n=some u∧u∈l∧u.n=n:=by
 induction l with
 |nil=>simp at h
 |cons v l ih=>
  by_cases e:v.n=n
  ·exact⟨v,by simp[cV,e],List.mem_cons_self,e⟩
  ·simp only[List.map_cons,List.mem_cons]at h;rcases h with h|h
   ·exact absurd h.symm e
   ·obtain⟨u,hu,hm,hn⟩:=ih h;exact⟨u,by simp[cV,e,hu],al _ hm,hn⟩
theorem rA{l:List iL}{n:Nat}(h:cV l n=none):n∉l.map (·.n):=by
 intro hm;obtain⟨u,hu,_⟩:=tm hm;rw[h]at hu
 cases hu
theorem gg{l:List iL}{n:Nat}{u:iL}(h:cV l n=some u):u∈l∧u.n=n:=by
 induction l with
 |nil=>simp at h
 |cons v l ih=>
  simp only[cV]at h
  split at h
  ·rename_i e
   cases h
   exact⟨List.mem_cons_self,e⟩
  ·exact⟨al _ (ih h).1,(ih h).2⟩
section
variable {N:Nat} {tch:Env} {w0:World} {fr0:Nat→Option Nat} {S:PS} {a:Act} {w:World} {fr:Nat→Option Nat} {β:Nat→hU}
def j4(β:Nat→hU)(ns:List Nat):Nat→hU:=fun n=>if n∈ns then β n else⟨0,0,false⟩
def kO(S:PS)(ns:List Nat):Nat→Nat:=fun n=>if n∈ns then S.gen n else S.gen n+1
def uB(S:PS)(a:Act)(w:World)(β:Nat→hU)(ns:List Nat):Env:=
 ⟨fun b=>(∃n,n∈ns∧0<(β n).c∧b=(β n).b)∨ ∃n k,n∈ns∧S.own (.b n k)=true∧rowOf (ew a w β (.b n k))=some b,j4 β ns,kO S ns⟩
theorem ja.sD{T:Nat→Prop}{v:Value}{p:PV}(h:ja T w0 w fr v p){b:Nat}(hb:rowOf v=some b):(∃f,fr b=some f∧0<f)∧(w0.heap.size≤b∨T b):=by
 obtain⟨xs,rfl,h⟩:=h;rcases h with⟨A,n,rfl⟩|⟨b',c,cur,E,sz,rfl,hn,h0,h00,hh,hz,hs,hf,hm⟩
 ·cases A<;>simp[rowOf]at hb
 ·have e:b'=b:=by simpa[rowOf,hn]using hb
  subst e;exact⟨⟨_,hf,aX h0 h00⟩,hm⟩
theorem ja.lift{T:Nat→Prop}{tch:Nat→Prop}{w1 w':World}{fr':Nat→Option Nat}(hT: ∀b,T b→w0.heap.size≤b∨tch b)(hs:w0.heap.size≤w1.heap.size){v:Value}{p:PV}(h:ja T w1 w' fr' v p):ja tch w0 w' fr' v p:=by
 obtain⟨xs,rfl,h⟩:=h;refine⟨xs,rfl,?_⟩;rcases h with h|⟨b',c,cur,E,sz,e,hn,h0,h00,hh,hz,hs',hf,hm⟩
 ·exact .inl h
 ·refine .inr ⟨b',c,cur,E,sz,e,hn,h0,h00,hh,hz,hs',hf,?_⟩;rcases hm with hm|hm
  ·exact .inl (ao hs hm)
  ·exact hT _ hm
theorem dC.enter(h:dC N tch w0 fr0 S a w fr β){ns:List Nat}(hns: ∀n∈ns,0<S.gen n)(fo:Nat){args:List PV}{vs:Array Value}(hlen:vs.size=args.length)
 (hvs: ∀(i:Nat) (v:Value) (p:PV),vs[i]? =some v→args[i]? =some p→da w fr β S.gen v p):
 dC vs.size (uB S a w β ns) w fr (PS.eZ fo (fun n=>S.gen n+1) args (ns.map (snap S))) ⟨vs,[]⟩ w fr (j4 β ns):=by
 have hb: ∀n,(PS.eZ fo (fun n=>S.gen n+1) args (ns.map (snap S))).box n=if n∈ns then S.box n else[]:=by
  intro n;simp only[PS.eZ,j3]
  split<;>rename_i hx<;>split at hx<;>simp_all [snap]
  ·rw[←hx]
 have hg:(PS.eZ fo (fun n=>S.gen n+1) args (ns.map (snap S))).gen=kO S ns:=by
  funext n
  simp only[PS.eZ,j3,kO]
  split<;>rename_i hx<;>split at hx<;>simp_all [snap]
  ·rw[←hx]
 have ho: ∀n k,(PS.eZ fo (fun n=>S.gen n+1) args (ns.map (snap S))).own (.b n k)=true→n∈ns∧S.own (.b n k)=true:=by
  intro n k hx;simp only[PS.eZ,j3]at hx;by_cases e:n∈ns
  ·simp only[if_pos e,snap]at hx;exact⟨e,hx⟩
  ·simp[if_neg e]at hx
 have hot: ∀i j,(PS.eZ fo (fun n=>S.gen n+1) args (ns.map (snap S))).own (.t i j)=false:=fun _ _=>rfl
 have hG:hZ β S.gen (j4 β ns) (kO S ns):=by
  refine⟨fun n=>?_,fun n e h0=>?_⟩
  ·unfold kO;split<;>omega
  ·unfold kO at e;unfold j4
   split at e
   ·rename_i hm;rw[if_pos hm]
   ·omega
 have hD:=jM.refl w fr;have hvat: ∀n k,n∈ns→ew ⟨vs,[]⟩ w (j4 β ns) (.b n k)=ew a w β (.b n k):=by
  intro n k hm;simp only[ew,j4,if_pos hm]
 have hat: ∀n k,n∈ns→(PS.eZ fo (fun n=>S.gen n+1) args (ns.map (snap S))).at (.b n k)=S.at (.b n k):=by
  intro n k hm;simp only[PS.at,hb,if_pos hm]
 refine⟨rfl,rfl,rfl,rfl,rfl,Nat.le_refl _,h.frb,fun _ _ _=>⟨rfl,rfl⟩,fun b hbT=>?_,fun i=>?_,fun n hn=>?_,fun n m hn hm hcn hcm e=>?_,fun l hl=>?_,fun n k hl=>?_,fun l l' hl hl' hne b hbr=>?_,?_⟩
 ·rcases hbT with⟨n,hm,hc,rfl⟩|⟨n,k,hm,hw,hr⟩
  ·have hB:=h.boxes n (hns n hm);exact⟨hB.blt hc,0,0,hB.reg hc,hB.reg hc,Nat.le_refl _,fun _ _ _ hx=>hx⟩
  ·have hO:=h.own _ hw;obtain⟨⟨f,hf,_⟩,_⟩:=hO.sD hr;exact⟨hO.row hr,f,f,hf,hf,Nat.le_refl _,fun _ _ _ hx=>hx⟩
 ·rw[hg];simp only[PS.eZ,Array.getD_eq_getD_getElem?,List.getD_eq_getElem?_getD];by_cases hi:i<vs.size
  ·rw[Array.getElem?_eq_getElem hi,List.getElem?_eq_getElem (by omega)]
   exact(hvs i _ _ (Array.getElem?_eq_getElem hi) (List.getElem?_eq_getElem (by omega))).mono hD hG
  ·rw[Array.getElem?_eq_none (by omega),ar (by omega)]
   exact lz
 ·rw[hb,hg];by_cases e:n∈ns
  ·have hB:=h.boxes n (hns n e);simp only[j4,if_pos e];have hM:=hB.move hD hG (fun _=>rfl) (fun _=>rfl)
   exact⟨hM.len,hM.ex,hM.reg,fun hc=> .inr (.inl ⟨n,e,hc,rfl⟩),hM.mex⟩
  ·simp only[j4,if_neg e];exact⟨by simp,fun hc=>absurd hc (by simp),fun hc=>absurd hc (by simp),fun hc=>absurd hc (by simp),fun hc=>absurd hc (by simp)⟩
 ·by_cases e1:n∈ns
  ·by_cases e2:m∈ns
   ·simp only[j4,if_pos e1,if_pos e2]at hcn hcm e;exact h.binj n m (hns n e1) (hns m e2) hcn hcm e
   ·simp[j4,if_neg e2]at hcm
  ·simp[j4,if_neg e1]at hcn
 ·cases l with
  |t i j=>simp[hot]at hl
  |b n k=>
   obtain⟨hm,hw⟩:=ho n k hl;rw[hvat n k hm,hat n k hm];obtain⟨xs,e,hh⟩:=h.own _ hw;refine⟨xs,e,?_⟩;rcases hh with hh|⟨b,c,cur,E,sz,q1,q2,q3,q4,q5,q6,q7,q8,q9⟩
   ·exact .inl hh
   ·exact .inr ⟨b,c,cur,E,sz,q1,q2,q3,q4,q5,q6,q7,q8,.inr (.inr ⟨n,k,hm,hw,by rw[q1];simp[rowOf,q2]⟩)⟩
 ·obtain⟨hm,hw⟩:=ho n k hl;obtain⟨h1,h2⟩:=h.live n k hw;rw[hb,hg];simp only[kO,if_pos hm];exact⟨h1,h2⟩
 ·cases l with
  |t i j=>simp[hot]at hl
  |b n k=>
   cases l' with
   |t i j=>simp[hot]at hl'
   |b n' k'=>
    obtain⟨hm,hw⟩:=ho n k hl;obtain⟨hm',hw'⟩:=ho n' k' hl';rw[hvat n k hm]at hbr;rw[hvat n' k' hm'];exact h.oinj _ _ hw hw' hne b hbr
 ·rw[hg];exact hZ.refl _ _
theorem dC.leave(h:dC N tch w0 fr0 S a w fr β){ns:List Nat}(hns: ∀n∈ns,0<S.gen n){S':PS}{w':World}{fr':Nat→Option Nat}{β':Nat→hU}{n1:Nat}{a1:Act}{post:List iL}
 (hc:dC n1 (uB S a w β ns) w fr S' a1 w' fr' β') (hpn: ∀u∈post,cS (post.map (·.n)) u.c=true∧0<u.g) (hpre: ∀n∈ns,n∈post.map (·.n))
 (hpost: ∀u∈post,S'.gen u.n=u.g∧S'.box u.n=u.c∧ ∀k,u.o k=true→S'.own (.b u.n k)=true):
 ∃β2:Nat→hU,dC N tch w0 fr0 ((⟨none,.undef,fun _=>false,fun _=>false,post⟩:dp).apply S) a w' fr' β2∧(∀n,n∈post.map (·.n)→β2 n=β' n∧((⟨none,.undef,fun _=>false,fun _=>false,post⟩:dp).apply S).gen n=S'.gen n)∧
  (∀b,(uB S a w β ns).tch b→w0.heap.size≤b∨tch b)∧
  ∀l,((⟨none,.undef,fun _=>false,fun _=>false,post⟩:dp).apply S).own l=true→(∃n k,l= .b n k∧S'.own (.b n k)=true∧ew a w' β2 l=ew a1 w' β' l)∨(∀b,rowOf (ew a w' β2 l)=some b→b<w.heap.size∧ ¬(uB S a w β ns).tch b):=by
 generalize hT':uB S a w β ns=T at hc;have hTd: ∀b,T.tch b↔((∃n,n∈ns∧0<(β n).c∧b=(β n).b)∨ ∃n k,n∈ns∧S.own (.b n k)=true∧rowOf (ew a w β (.b n k))=some b):=by
  intro b;rw[←hT'];exact Iff.rfl
 have hText:hZ (j4 β ns) (kO S ns) β' S'.gen:=by
  have:=hc.ext;rw[←hT']at this;exact this
 have hT: ∀b,T.tch b→w0.heap.size≤b∨tch b:=by
  intro b hb
  rcases(hTd b).1 hb with⟨n,hm,hcc,rfl⟩|⟨n,k,hm,hw,hr⟩
  ·exact(h.boxes n (hns n hm)).mine hcc
  ·exact((h.own _ hw).sD hr).2
 have hTn: ∀n,n∉ns→0<S.gen n→0<(β n).c→ ¬T.tch (β n).b:=by
  intro n hn h0 hcn hb
  rcases(hTd _).1 hb with⟨m,hm,hcc,e⟩|⟨m,k,hm,hw,hr⟩
  ·exact hn (by rw[h.binj n m h0 (hns m hm) hcn hcc e];exact hm)
  ·obtain⟨⟨f,hf,hf0⟩,_⟩:=(h.own _ hw).sD hr;rw[(h.boxes n h0).reg hcn]at hf
   cases hf
   omega
 have hTo: ∀l,S.own l=true→(∀n k,l= .b n k→n∉ns)→ ∀b,rowOf (ew a w β l)=some b→ ¬T.tch b:=by
  intro l hl hln b hbr hb;obtain⟨⟨f,hf,hf0⟩,_⟩:=(h.own _ hl).sD hbr
  rcases(hTd _).1 hb with⟨m,hm,hcc,rfl⟩|⟨m,k,hm,hw,hr⟩
  ·rw[(h.boxes m (hns m hm)).reg hcc]at hf
   cases hf
   omega
  ·exact h.oinj l (.b m k) hl hw (fun e=>hln m k e hm) b hbr hr
 generalize hS2:(⟨none,.undef,fun _=>false,fun _=>false,post⟩:dp).apply S=S2
 have et:S2.t=S.t:=by rw[←hS2];rfl
 have eb: ∀n,S2.box n=match cV post n with|some u=>u.c|none=>S.box n:=by intro n;rw[←hS2];rfl
 have eg: ∀n,S2.gen n=match cV post n with|some u=>u.g|none=>S.gen n:=by intro n;rw[←hS2];rfl
 have eot: ∀i j,S2.own (.t i j)=S.own (.t i j):=by intro i j;rw[←hS2];simp[dp.apply]
 have eob: ∀n k,S2.own (.b n k)=match cV post n with|some u=>u.o k|none=>S.own (.b n k):=by
  intro n k;rw[←hS2];simp only[dp.apply];cases cV post n<;>simp
 obtain⟨β2,hβ2⟩: ∃β2:Nat→hU,∀n,β2 n=match cV post n with|some _=>β' n|none=>β n:=⟨_,fun _=>rfl⟩
 have hnone: ∀n,cV post n=none→n∉ns:=fun n hn hm=>rA hn (hpre n hm)
 have hin: ∀n,n∈post.map (·.n)→β2 n=β' n∧S2.gen n=S'.gen n:=by
  intro n hn;obtain⟨u,hu,hm,e⟩:=tm hn;rw[hβ2,eg,hu];exact⟨rfl,by show u.g=S'.gen n;rw[←(hpost u hm).1,e]⟩
 have hG:hZ β S.gen β2 S2.gen:=by
  refine⟨fun n=>?_,fun n e h0=>?_⟩
  ·rw[eg]
   cases hf:cV post n with
   |none=>exact Nat.le_refl _
   |some u=>
    obtain⟨hm,e⟩:=gg hf;have h1:=hText.le n;have h2:=(hpost u hm).1;rw[e]at h2;simp only;rw[←h2];unfold kO at h1
    split at h1<;>omega
  ·rw[hβ2];rw[eg]at e
   cases hf:cV post n with
   |none=>rfl
   |some u=>
    rw[hf]at e;obtain⟨hm,e'⟩:=gg hf;have h1:=hText.le n;have h2:=(hpost u hm).1;rw[e']at h2;simp only at e⊢;by_cases hn:n∈ns
    ·have h3:=hText.same n (by unfold kO;rw[if_pos hn,h2,e]) (by unfold kO;rw[if_pos hn];exact h0)
     rw[h3];unfold j4;rw[if_pos hn]
    ·unfold kO at h1;rw[if_neg hn,h2,e]at h1;omega
 have hD:=hc.Bp;have hcell: ∀n k,cV post n=none→S.own (.b n k)=true→ew a w' β2 (.b n k)=ew a w β (.b n k):=by
  intro n k hn hl;obtain⟨h0,hk⟩:=h.live n k hl;have hB:=h.boxes n h0;have hcp:=hB.at hk;have hlt:=hB.blt hcp;have hfrm:=(hc.frame _ hlt (hTn n (hnone n hn) h0 hcp)).1;simp only[ew,hβ2,hn];rw[aE (w:=w) hfrm]
 have hown2: ∀l,S2.own l=true→(∃n k u,l= .b n k∧cV post n=some u∧u.o k=true∧S'.own (.b n k)=true∧ew a w' β2 l=ew a1 w' β' l∧S2.at l=S'.at l)∨
  (S.own l=true∧(∀n k,l= .b n k→n∉ns)∧ew a w' β2 l=ew a w β l∧S2.at l=S.at l):=by
  intro l hl
  cases l with
  |t i j=>
   rw[eot]at hl;exact .inr ⟨hl,by simp,rfl,by simp only[PS.at,et]⟩
  |b n k=>
   rw[eob]at hl
   cases hf:cV post n with
   |none=>
    rw[hf]at hl;exact .inr ⟨hl,fun n' k' e=>by cases e;exact hnone n hf,hcell n k hf hl,by simp only[PS.at,eb,hf]⟩
   |some u=>
    rw[hf]at hl;obtain⟨hm,e⟩:=gg hf;obtain⟨p1,p2,p3⟩:=hpost u hm;have hx:=p3 k hl;rw[e]at hx p2;exact .inl ⟨n,k,u,rfl,hf,hl,hx,by simp only[ew,hβ2,hf],by simp only[PS.at,eb,hf,p2]⟩
 have hrowB: ∀l,S.own l=true→(∀n k,l= .b n k→n∉ns)→ ∀b,rowOf (ew a w β l)=some b→b<w.heap.size∧ ¬T.tch b:=
  fun l h1 h2 b hb=>⟨(h.own l h1).row hb,hTo l h1 h2 b hb⟩
 refine⟨β2,?_,hin,hT,fun l hl=>?_⟩
 ·refine⟨h.defers,h.ntmps,hc.os.trans h.os,hc.tape.trans h.tape,hc.output.trans h.output,ao h.size hc.size,hc.frb,fun b hb ht=>?_,fun b hb=>?_,fun i=>?_,fun n hn=>?_,fun n m hn hm hcn hcm e=>?_,fun l hl=>?_,fun n k hl=>?_,fun l l' hl hl' hne b hbr=>?_,h.ext.trans hG⟩
  ·have hnT: ¬T.tch b:=fun hx=>(hT b hx).elim (by omega) ht
   have h1:=hc.frame b (Nat.lt_of_lt_of_le hb h.size) hnT;have h2:=h.frame b hb ht;exact⟨h1.1.trans h2.1,h1.2.trans h2.2⟩
  ·obtain⟨hlt,f0,f,e0,e,hle,hk⟩:=h.keep b hb;have hlt':=Nat.lt_of_lt_of_le hlt h.size;by_cases hx:T.tch b
   ·obtain⟨_,g0,g,q0,q,hle',hk'⟩:=hc.keep b hx;rw[e]at q0
    cases q0
    exact⟨hlt,f0,g,e0,q,ao hle hle',fun k u hkf hcl=>hk' k u (Nat.lt_of_lt_of_le hkf hle) (hk k u hkf hcl)⟩
   ·have h1:=hc.frame b hlt' hx;exact⟨hlt,f0,f,e0,by rw[h1.2];exact e,hle,fun k u hkf hcl=>by rw[aE (w:=w) h1.1];exact hk k u hkf hcl⟩
  ·rw[et]
   exact(h.vals i).mono hD hG
  ·cases hf:cV post n with
   |none=>
    have hn':0<S.gen n:=by rw[eg,hf]at hn;exact hn
    have hB:=h.boxes n hn';rw[hβ2,eb,hf];exact hB.move hD hG (fun hcp=>(hc.frame _ (hB.blt hcp) (hTn n (hnone n hf) hn' hcp)).1) (fun hcp=>(hc.frame _ (hB.blt hcp) (hTn n (hnone n hf) hn' hcp)).2)
   |some u=>
    obtain⟨hm,e⟩:=gg hf;obtain⟨p1,p2,p3⟩:=hpost u hm;rw[e]at p1 p2;have hB:=hc.boxes n (by rw[p1];exact(hpn u hm).2)
    rw[p2]at hB;rw[hβ2,eb,hf];refine⟨hB.len,fun hcp hk=>?_,hB.reg,fun hcp=>?_,fun hcp hk=>?_⟩
    ·obtain⟨cs,E,h1,h2,h3⟩:=hB.ex hcp hk;exact⟨cs,E,h1,h2,fun k u' p hu hp=>⟨qG hin (h3 k u' p hu hp).1 (jo (hpn u hm).1 p (List.mem_of_getElem? hp)),(h3 k u' p hu hp).2⟩⟩
    ·rcases hB.mine hcp with hx|hx
     ·exact .inl (ao h.size hx)
     ·exact hT _ hx
    ·obtain⟨es,clk,h1,h2⟩:=hB.mex hcp hk;exact⟨es,clk,h1,h2.names hin (fun p hp=>jo (hpn u hm).1 p hp)⟩
  ·have hA: ∀n u,cV post n=some u→0<(β' n).c→w.heap.size≤(β' n).b∨T.tch (β' n).b:=by
    intro n u hf hcp;obtain⟨hm,e⟩:=gg hf;have p1:=(hpost u hm).1;rw[e]at p1
    exact(hc.boxes n (by rw[p1];exact(hpn u hm).2)).mine hcp
   have hgp: ∀n u,cV post n=some u→0<S'.gen n:=by
    intro n u hf;obtain⟨hm,e⟩:=gg hf;have p1:=(hpost u hm).1;rw[e]at p1;rw[p1]
    exact(hpn u hm).2
   have hB': ∀n,cV post n=none→0<S2.gen n→0<(β n).c→(β n).b<w.heap.size∧ ¬T.tch (β n).b:=by
    intro n hf hn' hcp;rw[eg,hf]at hn';exact⟨(h.boxes n hn').blt hcp,hTn n (hnone n hf) hn' hcp⟩
   rw[hβ2]at hcn e;rw[hβ2 m]at hcm e
   cases hf:cV post n with
   |none=>
    rw[hf]at hcn e
    cases hf':cV post m with
    |none=>
     rw[hf']at hcm e;rw[eg,hf]at hn;rw[eg,hf']at hm;exact h.binj n m hn hm hcn hcm e
    |some u'=>
     rw[hf']at hcm e;have h1:=hB' n hf hn hcn;have h2:=hA m u' hf' hcm;simp only at e;rw[e]at h1;rcases h2 with h2|h2
     ·omega
     ·exact absurd h2 h1.2
   |some u=>
    rw[hf]at hcn e
    cases hf':cV post m with
    |none=>
     rw[hf']at hcm e;have h1:=hB' m hf' hm hcm;have h2:=hA n u hf hcn;simp only at e;rw[e]at h2;rcases h2 with h2|h2
     ·omega
     ·exact absurd h2 h1.2
    |some u'=>
     rw[hf']at hcm e;exact hc.binj n m (hgp n u hf) (hgp m u' hf') hcn hcm e
  ·rcases hown2 l hl with⟨n,k,u,rfl,hf,hu,hx,e1,e2⟩|⟨hx,hln,e1,e2⟩
   ·rw[e1,e2]
    exact(hc.own _ hx).lift hT h.size
   ·rw[e1,e2]
    refine(h.own l hx).same fun b hb=>?_
    obtain⟨q1,q2⟩:=hrowB l hx hln b hb;exact hc.frame b q1 q2
  ·rw[eob]at hl;rw[eb,eg]
   cases hf:cV post n with
   |none=>
    rw[hf]at hl;exact h.live n k hl
   |some u=>
    rw[hf]at hl;obtain⟨hm,e⟩:=gg hf;obtain⟨p1,p2,p3⟩:=hpost u hm;have hx:=hc.live _ _ (p3 k hl);rw[p2]at hx;exact⟨(hpn u hm).2,hx.2⟩
  ·have hrowA: ∀n k,S'.own (.b n k)=true→ ∀b,rowOf (ew a1 w' β' (.b n k))=some b→w.heap.size≤b∨T.tch b:=fun n k hx b hb=>((hc.own _ hx).sD hb).2
   rcases hown2 l hl with⟨n,k,u,rfl,hf,hu,hx,e1,e2⟩|⟨hx,hln,e1,e2⟩
   ·rw[e1]at hbr;rcases hown2 l' hl' with⟨n',k',u',rfl,hf',hu',hx',e1',e2'⟩|⟨hx',hln',e1',e2'⟩
    ·rw[e1'];exact hc.oinj _ _ hx hx' hne b hbr
    ·rw[e1'];intro hb';obtain⟨q1,q2⟩:=hrowB l' hx' hln' b hb';rcases hrowA n k hx b hbr with q|q
     ·omega
     ·exact q2 q
   ·rw[e1]at hbr;rcases hown2 l' hl' with⟨n',k',u',rfl,hf',hu',hx',e1',e2'⟩|⟨hx',hln',e1',e2'⟩
    ·rw[e1'];intro hb';obtain⟨q1,q2⟩:=hrowB l hx hln b hbr;rcases hrowA n' k' hx' b hb' with q|q
     ·omega
     ·exact q2 q
    ·rw[e1'];exact h.oinj l l' hx hx' hne b hbr
 ·rcases hown2 l hl with⟨n,k,u,rfl,hf,hu,hx,e1,e2⟩|⟨hx,hln,e1,e2⟩
  ·exact .inl ⟨n,k,rfl,hx,e1⟩
  ·refine .inr fun b hb=>?_
   rw[e1]at hb;exact hrowB l hx hln b hb
end
def tD(o:Oper)(r:PV)(ro:Nat→Bool):dp:=⟨o.dst,r,ro,fun _=>false,[]⟩
def mS(P:Program)(N:Nat)(tr:List Nat)(o:Oper)(S:PS)(E:dp):Prop:=
 match o.op with
 | .call ⟨.value x,args,_⟩=>gG N o=true∧
   if s9 tr o=true then∃(f:FuncId) (caps:List PV) (ns:List Nat) (fo:Nat) (r:PV) (ro:Nat→Bool) (post:List iL),yE (S.ev x) args.toList.isEmpty=some (f,caps)∧(∀n∈ns,0<S.gen n)∧de P fo (fun n=>S.gen n+1) f (args.toList.map S.ev++caps) (ns.map (snap S)) r ro post∧(nF tr o=true→ ∀u∈post,zi tr S.fo u.n=true)∧E=⟨o.dst,r,ro,fun _=>false,post⟩
   else∃f caps r ro,yE (S.ev x) args.toList.isEmpty=some (f,caps)∧(args.toList.map S.ev++caps).all fZ=true∧cD P f (args.toList.map S.ev++caps) r ro∧E=tD o r ro
 |_=>gx P N tr S o=some E
section
variable {P:Program} {N:Nat} {tch:Env} {w0:World} {fr0:Nat→Option Nat} {S:PS} {a:Act} {w:World} {fr:Nat→Option Nat} {β:Nat→hU}
theorem dC.Gs{S1:PS}{a1:Act}{w':World}{fr':Nat→Option Nat}{β1:Nat→hU}{n:Nat}(h:dC n Env.free w fr S1 a1 w' fr' β1):gH w fr w' fr':=
 ⟨h.os,h.tape,h.output,h.size,fun b hb=>(h.frame b hb (by simp[Env.free])).1,fun b hb=>(h.frame b hb (by simp[Env.free])).2,h.frb⟩
theorem y5{f:FuncId}{fn:Func}{c:Code}(hf:P.funcs[f]? =some fn)(hname:(fn.name== "runtime.NumGoroutine")=false)(hb:fn.body=some c)(args:Array Value)(w:World):
 (callFunc f args).run P w= .ok (.enter f args) w:=by
 have h1:fn.name≠ "runtime.NumGoroutine" :=by simpa using hname
 simp[callFunc,hf,h1,hb]
theorem KZ{v:Value}{p:PV}{f:FuncId}{caps:List PV}{gen:Nat→Nat}(h:da w fr β gen v p)(hf:K0 p=some (f,caps)):
 ∃vs:List Value,v= .func (.func f) #[] vs.toArray∧vs.length=caps.length∧ ∀(k:Nat) (v:Value) (p:PV),vs[k]? =some v→caps[k]? =some p→da w fr β gen v p:=by
 unfold K0 at hf
 split at hf
 ·cases hf
  cases h with
  |fn f vs caps hl hh=>exact⟨vs,rfl,hl,hh⟩
 ·rename_i f' x y
  split at hf
  ·rename_i hc
   cases hf
   obtain rfl:x= #[]:=a_ hc.1;obtain rfl:y= #[]:=a_ hc.2;have:=fH h;generalize hx:DV.opq _=x at this
   cases this<;>cases hx
   exact⟨[],rfl,rfl,by simp⟩
  ·cases hf
 ·cases hf
theorem K1{v:Value}{p:PV}{f:FuncId}{caps:List PV}{gen:Nat→Nat}{e:Bool}(h:da w fr β gen v p)(hf:yE p e=some (f,caps)):
 ∃vs:List Value,(v= .func (.func f) #[] vs.toArray∨(e=true∧v= .func (.func f) vs.toArray #[]))∧vs.length=caps.length∧ ∀(k:Nat) (v:Value) (p:PV),vs[k]? =some v→caps[k]? =some p→da w fr β gen v p:=by
 unfold yE at hf
 split at hf
 ·rename_i f' cs
  split at hf
  ·rename_i he
   cases hf
   cases h with
   |bm f v cs h=>
    refine⟨[v],.inr ⟨he,rfl⟩,rfl,fun k u q hu hq=>?_⟩
    cases k<;>simp at hu hq
    subst hu hq;exact h
  ·cases hf
 ·obtain⟨vs,h1,h2,h3⟩:=KZ h hf;exact⟨vs,.inl h1,h2,h3⟩
theorem qt.enter{P:Program}(hG:qt P tch w0)(h:dC N tch w0 fr0 S a w fr β){ns:List Nat}(hns: ∀n∈ns,0<S.gen n):qt P (uB S a w β ns) w:=by
 refine⟨hG.now h,fun g cs hg ht=>?_⟩
 have hlt:=hG.lt hg;have hno:=hG.out g cs hg;have:w0.heap.size≤g∨tch g:=by
  rcases ht with⟨n,hn,hc,rfl⟩|⟨n,k,hn,ho,hr⟩
  ·exact(h.boxes n (hns n hn)).mine hc
  ·exact((h.own _ ho).sD hr).2
 rcases this with h1|h1
 ·omega
 ·exact hno h1
theorem AU{Q:Exit→Act→World→Prop}(hG:qt P tch w0)(h:dC N tch w0 fr0 S a w fr β){tr:List Nat}{o:Oper}{E:dp}(hs:mS P N tr o S E){K:Act→World→Prop}
 (hK: ∀a' w' fr' β',dC N tch w0 fr0 (E.apply S) a' w' fr' β'→K a' w'):o.wp P a w K Q:=by
 have hplain:gx P N tr S o=some E→o.wp P a w K Q:=by
  intro he;obtain⟨w',fr',β',hd⟩:=EM (P:=P) hG h he;unfold Oper.wp;rcases hd with⟨v,hrun,hS⟩|⟨hrun,hS⟩
  ·rw[hrun];exact hK _ _ _ _ hS
  ·rw[hrun];exact hK _ _ _ _ hS
 unfold mS at hs
 split at hs
 ·rename_i x args ts ho;obtain⟨hdok,hs⟩:=hs;have hd: ∀d,o.dst=some d→d<N:=by
   intro d e;unfold gG at hdok;rw[e]at hdok
   simpa using hdok
  have hent: ∀ {f caps fn c},yE (S.ev x) args.toList.isEmpty=some (f,caps)→P.funcs[f]? =some fn→(fn.name== "runtime.NumGoroutine")=false→fn.body=some c→
   ∃vs:List Value,vs.length=caps.length∧(∀(k:Nat) (v:Value) (p:PV),vs[k]? =some v→caps[k]? =some p→da w fr β S.gen v p)∧(execOp a.eval o).run P w= .ok (.enter f (args.map a.eval++vs.toArray)) w:=by
   intro f caps fn c hx hf hname hb;obtain⟨vs,hu,hl,hh⟩:=K1 (h.ev x) hx;refine⟨vs,hl,hh,?_⟩;rcases hu with hu|⟨he,hu⟩
   ·simp only[execOp,ho,resolve,hu,Deferred.ofValue,invoke,Sem.run_bind,aw,aa];have:=y5 hf hname hb (args.map a.eval++vs.toArray) w
    simpa using this
   ·obtain rfl:args= #[]:=by
     obtain⟨args⟩:=args
     simpa using he
    simp only[execOp,ho,resolve,hu,Deferred.ofValue,invoke,Sem.run_bind,aw,aa];have:=y5 hf hname hb (#[].map a.eval++vs.toArray) w
    simpa using this
  have hargs: ∀ {vs:List Value} {caps:List PV},vs.length=caps.length→(∀(k:Nat) (v:Value) (p:PV),vs[k]? =some v→caps[k]? =some p→da w fr β S.gen v p)→
   ∀(i:Nat) (v:Value) (p:PV),(args.map a.eval++vs.toArray)[i]? =some v→(args.toList.map S.ev++caps)[i]? =some p→da w fr β S.gen v p:=by
   intro vs caps hl hh i v p hv hp;by_cases hi:i<args.size
   ·rw[Array.getElem?_append_left (by simpa using hi)]at hv
    rw[List.getElem?_append_left (by simpa using hi)]at hp
    simp[hi]at hv hp;subst hv hp;exact h.ev _
   ·rw[Array.getElem?_append_right (by simpa using hi)]at hv
    rw[List.getElem?_append_right (by simpa using hi)]at hp
    exact hh _ v p (by simpa using hv) (by simpa using hp)
  split at hs
  ·obtain⟨f,caps,ns,fo,r,ro,post,hx,hns,⟨⟨fn,c,hf,hname,hb⟩,hnr,hpn,hpre,hM⟩,_,rfl⟩:=hs;obtain⟨vs,hl,hh,hrun⟩:=hent hx hf hname hb;unfold Oper.wp;rw[hrun];simp only[Oper.upon];have hE:=h.enter hns fo (args:=args.toList.map S.ev++caps) (vs:=args.map a.eval++vs.toArray) (by simp[hl]) (hargs hl hh)
   refine(hM _ w fr _ _ (by simp[hl]) (hG.enter h hns) hE).mono ?_
   rintro e w' ⟨v,fr',S',β',rfl,hS',hr,hro,hpost⟩;have hpre': ∀n∈ns,n∈post.map (·.n):=fun n hn=>hpre _ (List.mem_map.2 ⟨n,hn,rfl⟩)
   obtain⟨β2,hL,hin,hTm,hrow⟩:=h.leave hns hS' hpn hpre' hpost;have hP:=hL.sL ⟨o.dst,r,ro,fun _=>false,[]⟩ rfl v hd (by
    have:=hS'.vals 0;rw[hr]at this;exact qG hin this hnr) (fun j hj=>by
    have:=hS'.own _ (hro j hj);have e1:S'.at (.t 0 j)=r.part j:=by simp only[PS.at,hr]
    rw[e1]at this;exact this.lift hTm h.size) (fun j hj b hbr l hl' hc hcon=>by
    rcases hrow l hl' with⟨n,k,rfl,hx,e1⟩|hB
    ·rw[e1]at hcon;exact hS'.oinj (.t 0 j) (.b n k) (hro j hj) hx (by simp) b hbr hcon
    ·obtain⟨q1,q2⟩:=hB b hcon
     rcases((hS'.own _ (hro j hj)).sD hbr).2 with q|q
     ·omega
     ·exact q2 q) (fun j j' hj hj' hne b hbr=>hS'.oinj (.t 0 j) (.t 0 j') (hro j hj) (hro j' hj') (fun e=>hne (by cases e;rfl)) b hbr)
   have hap:(⟨o.dst,r,ro,fun _=>false,[]⟩:dp).apply ((⟨none,.undef,fun _=>false,fun _=>false,post⟩:dp).apply S)=(⟨o.dst,r,ro,fun _=>false,post⟩:dp).apply S:=by
    simp only[dp.apply,nT,Bool.not_false,Bool.and_true]
    congr 1
   rw[hap]at hP;exact hK _ w' fr' β2 hP
  ·obtain⟨f,caps,r,ro,hx,hall,⟨⟨fn,c,hf,hname,hb⟩,hpr,hH⟩,rfl⟩:=hs;obtain⟨vs,hl,hh,hrun⟩:=hent hx hf hname hb;unfold Oper.wp;rw[hrun];simp only[Oper.upon]
   refine(hH (args.map a.eval++vs.toArray) w fr (by simp[hl]) h.frb (hG.now h) (fun i v p hv hp=>?_)).mono ?_
   ·have hfree:fZ p=true:=List.all_eq_true.1 hall p (List.mem_of_getElem? hp);exact mv hfree (β:=β) (gen:=S.gen) (hargs hl hh i v p hv hp)
   ·rintro e w' ⟨v,fr',S',β',rfl,hS',hr,hro⟩;have hfx:=hS'.Gs;have hS:=h.fresh hfx;refine hK _ w' fr' β (hS.sL (tD o r ro) rfl v hd ?_ (fun j hj=>?_) (fun j hj b hbr l hl' hc=>?_) (fun j j' hj hj' hne b hbr=>?_))
    ·have:=hS'.vals 0;rw[hr]at this;exact mv hpr this
    ·have:=hS'.own _ (hro j hj);have e1:S'.at (.t 0 j)=r.part j:=by simp only[PS.at,hr]
     rw[e1]at this;obtain⟨xs,e2,hh2⟩:=this;refine⟨xs,e2,?_⟩;rcases hh2 with hh2|⟨b,c,cur,E,sz,q1,q2,q3,q4,q5,q6,q7,q8,q9⟩
     ·exact .inl hh2
     ·refine .inr ⟨b,c,cur,E,sz,q1,q2,q3,q4,q5,q6,q7,q8,?_⟩;rcases q9 with q9|q9
      ·exact .inl (ao h.size q9)
      ·exact q9.elim
    ·have hown:=hS'.own _ (hro j hj);obtain⟨xs,e2,hh2⟩:=hown;have hbn:w.heap.size≤b:=by
      rcases hh2 with⟨A,n,q⟩|⟨b',c,cur,E,sz,q1,q2,q3,q4,q5,q6,q7,q8,q9⟩
      ·have q':eC v j= .slice A n n:=q;rw[q']at hbr
       cases A<;>simp[rowOf]at hbr
      ·have q':eC v j= .slice (some ⟨b',0,none⟩) xs.length c:=q1;rw[q']at hbr;simp[rowOf,q2]at hbr;subst hbr;rcases q9 with q9|q9
       ·exact q9
       ·exact q9.elim
     intro hcon;have hvl:ew a w' β l=ew a w β l:=by
      cases l with
      |t i j=>rfl
      |b n k=>
       have hlv:=h.live n k hl';simp only[ew];rw[hfx.cell ((h.boxes n hlv.1).blt ((h.boxes n hlv.1).at hlv.2))]
     rw[hvl]at hcon;have:=(h.own l hl').row hcon;omega
    ·exact hS'.oinj (.t 0 j) (.t 0 j') (hro j hj) (hro j' hj') (fun e=>hne (by cases e;rfl)) b hbr
 ·exact hplain hs
def gd(ops:Array Oper)(o:Oper)(S:PS):Bool:=
 match o.guard with
 |none=>true
 |some (j,want)=>
  match(ops[j]?).bind (·.dst)with
  |some d=>match S.t d with| .d (.bool b)=>b==want|_=>false
  |none=>false
theorem J4{gen:Nat→Nat}{v:Value}{p:PV}(h:da w fr β gen v p)(hp: ∀b,p≠ .d (.bool b))(b:Bool):v≠ .bool b:=by
 cases h with
 |d v x h=>
  cases h with
  |bool b'=>exact absurd rfl (hp b')
  |opq v hb _=>exact hb b
  |_=>simp
 |any v hb=>exact hb b
 |_=>simp
theorem KR(h:dC N tch w0 fr0 S a w fr β)(ops:Array Oper)(o:Oper)(hd: ∀(j:Nat) (x:Oper) (d:Nat),ops[j]? =some x→x.dst=some d→d<N):Region.wanted o (yielded ops a.tmps)=gd ops o S:=by
 unfold Region.wanted gd
 cases hg:o.guard with
 |none=>rfl
 |some g=>
  obtain⟨j,want⟩:=g;simp only;unfold yielded
  cases hj:(ops[j]?).bind (·.dst)with
  |none=>rfl
  |some d=>
   simp only[Option.bind_some];have hdN:d<a.tmps.size:=by
    rw[h.ntmps];obtain⟨x,hx,hxd⟩:=Option.bind_eq_some_iff.1 hj;exact hd j x d hx hxd
   have hv:=h.vals d;have hgd:a.tmps.getD d undef=a.tmps[d]:=by simp[Array.getD_eq_getD_getElem?,hdN]
   rw[hgd]at hv;rw[Array.getElem?_eq_getElem hdN];generalize a.tmps[d]=z at hv;by_cases hb: ∃b,S.t d= .d (.bool b)
   ·obtain⟨b,hb⟩:=hb;rw[hb]at hv;rw[kz hv,hb]
    cases b<;>cases want<;>rfl
   ·have hnb:=J4 hv fun b e=>hb ⟨b,e⟩
    have e2:(match S.t d with| .d (.bool b)=>b==want|_=>false)=false:=by
     split
     ·rename_i b e;exact absurd ⟨b,e⟩ hb
     ·rfl
    rw[e2]
    cases z<;>first|rfl|exact absurd rfl (hnb _)
def uP(o:Oper):dp:=⟨o.dst,.undef,fun _=>false,fun _=>false,[]⟩
def IK(P:Program)(N:Nat)(tr:List Nat)(ops:Array Oper)(o:Oper)(S:PS)(E:dp):Prop:=
 if gd ops o S=true then mS P N tr o S E else gG N o=true∧E=uP o
def se(N:Nat)(ops:Array Oper):Bool:=ops.toList.all (gG N)
theorem vj{ops:Array Oper}(h:se N ops=true)(j:Nat)(x:Oper)(d:Nat)(hx:ops[j]? =some x)(hd:x.dst=some d):d<N:=by
 have:=List.all_eq_true.1 h x (List.mem_of_getElem? (by simpa using hx))
 unfold gG at this;rw[hd]at this
 simpa using this
theorem yS{Q:Exit→Act→World→Prop}(hG:qt P tch w0)(h:dC N tch w0 fr0 S a w fr β){tr:List Nat}{ops:Array Oper}(hN:se N ops=true){i:Nat}{o:Oper}(hi:ops[i]? =some o){E:dp}(hs:IK P N tr ops o S E){K:Act→World→Prop}
 (hK: ∀a' w' fr' β',dC N tch w0 fr0 (E.apply S) a' w' fr' β'→K a' w'):wpOp P ops Q i K a w:=by
 unfold wpOp;rw[hi];simp only;rw[KR h ops o (vj hN)];unfold IK at hs
 split at hs
 ·rename_i hg;rw[if_pos hg];exact .inl (AU hG h hs hK)
 ·rename_i hg;rw[if_neg hg];obtain⟨hd,rfl⟩:=hs;refine hK _ _ fr β (h.vz o.dst undef .undef (fun d e=>vj hN i o d hi e) lz)
end
def er(tr:List Nat)(o:Oper):Nat:=
 match o.op with
 | .indexAddr .. =>2
 | .load .. =>if iH tr o then 5 else if lf tr o then 3 else 2
 | .store .. =>4
 | .alloc .. =>5
 | .box .. =>5
 | .makeSlice .. =>5
 | .move _=>if iH tr o then 5 else 0
 | .assign x=>if(Kd tr o x).isSome then 5 else 0
 | .call ⟨.builtin .append,_,_⟩=>if kN tr o then 5 else if xr tr o then 2 else 0
 | .call ⟨.builtin .copy,_,_⟩=>4
 | .call ⟨.value _,_,_⟩=>if s9 tr o then 5 else 0
 | .buildSlice .. =>if kN tr o then 5 else 0
 | .build .. =>if(Ke tr o).isSome then 5 else 0
 | .convert .. =>if iH tr o then 5 else 0
 | .makeMap .. =>5
 | .insert .. =>4
 | .lookup .. =>2
 |_=>0
def oZ:Op→Bool
 | .alloc .. =>true
 | .box .. =>true
 | .makeSlice .. =>true
 | .buildSlice .. =>true
 | .build .. =>true
 |_=>false
def nG:Op→Bool
 | .call ⟨.value _,_,_⟩=>true
 |_=>false
def Cr(tr:List Nat)(o:Oper):Nat:=
 if(A7 tr o&&(ej o.op).isSome)=true then 0
 else if(A8 tr o&&(ej o.op).isSome)=true then 6
 else if(A9 tr o&&(ej o.op).isSome)=true then 8
 else if(HV tr o&&oZ o.op)=true then 7
 else if(nF tr o&&s9 tr o&&nG o.op)=true then 9
 else er tr o
def lvl(tr:List Nat)(o:Oper):Nat:=match gu tr o with|some q=>20+q.1|none=>match M0 tr o with|some d=>20+d|none=>Cr tr o
theorem eJ(tr:List Nat)(o:Oper):er tr o≤5:=by
 unfold er
 split<;>first|omega|(split<;>first|omega|(split<;>omega))
def pd(tr:List Nat)(o:Oper):List (Nat×Option Nat):=
 match o.op with
 | .assign (.tmp s)=> [(s,none)]
 | .move (.tmp s)=>if lf tr o then[(s,none)]else[]
 | .extract (.tmp s) k=> [(s,some k)]
 | .store _ _ (.tmp s)=> [(s,none)]
 | .call ⟨.builtin .append,args,_⟩=>match args.toList with| .tmp s::_=> [(s,none)]|_=> []
 | .box _ (.tmp s)=>if rU tr o then[(s,none)]else[]
 | .build _ ps=>if rU tr o then(match ps.toList with|(_,.tmp s)::_=> [(s,none)]|_=> [])else[]
 | .buildSlice _ _ ps=>if kN tr o then(match ps.toList with|(_,.tmp s)::_=> [(s,none)]|_=> [])else[]
 |_=> []
def Gg(x y:Nat):Bool:=(decide (x<20)||(y==0||(decide (20≤y)&&x !=y)))&&(decide (y<20)||(x==0||(decide (20≤x)&&x !=y)))&&(x !=5||y==0)&&(y !=5||x==0)&&(x !=4||decide (y≤1))&&(y !=4||decide (x≤1))&& !(x==3&&y==3)&&(x !=7||(y==0||y==6))&&(y !=7||(x==0||x==6))&&(x !=9||(y==0||y==8))&&(y !=9||(x==0||x==8))
def Nw(xs ys:List (Nat×Option Nat)):Bool:=xs.all fun p=>ys.all fun q=> !(p.1==q.1&&(p.2==none||q.2==none||p.2==q.2))
def LG(tr:List Nat)(o:Oper):Bool:=(gu tr o).isSome&&(ej o.op).isSome
theorem L7{tr:List Nat}{o:Oper}(h:LG tr o=true):20≤lvl tr o:=by
 unfold LG at h;unfold lvl
 cases hq:gu tr o with
 |none=>rw[hq]at h;simp at h
 |some q=>simp
def indep(tr:List Nat)(ops:Array Oper)(x y:Oper):Bool:=x.apart ops y&&(Gg (lvl tr x) (lvl tr y)||(LG tr x&&LG tr y))&&Nw (pd tr x) (pd tr y)
structure yn(L:Nat)(tr:List Nat)(ops:Array Oper)(o:Oper)(S S2:PS):Prop where
 fo:S2.fo=S.fo
 t: ∀i,i∈o.looksAt ops→S2.t i=S.t i
 gen:1≤L→L≠6→L≠8→L<20→S2.gen=S.gen
 box:2≤L→L≠6→L≠8→L<20→S2.box=S.box
 calm:L=6→ ∀n,zi tr S.fo n=true→S2.gen n=S.gen n∧S2.box n=S.box n
 near:L=8→ ∀n,zi tr S.fo n=false→S2.gen n=S.gen n∧S2.box n=S.box n
 bown:3≤L→L≠6→L≠8→L<20→ ∀n k,S2.own (.b n k)=S.own (.b n k)
 fp: ∀m,L=20+m→S2.gen (S.fo+m)=S.gen (S.fo+m)∧S2.box (S.fo+m)=S.box (S.fo+m)∧ ∀k,S2.own (.b (S.fo+m) k)=S.own (.b (S.fo+m) k)
 own: ∀s k,(s,k)∈pd tr o→ ∀j,(k=none∨k=some j)→S2.own (.t s j)=S.own (.t s j)
abbrev Alike(tr:List Nat)(ops:Array Oper)(o:Oper)(S S2:PS):Prop:=yn (lvl tr o) tr ops o S S2
section
variable {P:Program} {N:Nat} {tr:List Nat} {ops:Array Oper} {o:Oper} {S S2:PS}
theorem yn.ev{L:Nat}(h:yn L tr ops o S S2){x:Operand}(hx:x∈o.op.operands.toList):S2.ev x=S.ev x:=by
 cases x with
 |tmp t=>
  refine h.t t ?_;unfold Oper.looksAt;exact List.mem_append.2 (.inl (List.mem_filterMap.2 ⟨.tmp t,hx,rfl⟩))
 |const v=>rfl
 |global g=>rfl
 |func f=>rfl
theorem ri{top:Nat}{x:Operand}(h:S2.ev x=S.ev x):Di S2 top x=Di S top x:=by unfold Di;rw[h]
theorem HM{top:Nat}{x:Option Operand}(h: ∀v,x=some v→S2.ev v=S.ev v):IH S2 top x=IH S top x:=by
 cases x with
 |none=>rfl
 |some v=>exact ri (h v rfl)
theorem HX{top:Nat}{x:Option Operand}(h: ∀v,x=some v→S2.ev v=S.ev v):NX S2 top x=NX S top x:=by
 cases x with
 |none=>rfl
 |some v=>exact ri (h v rfl)
theorem tF{t:TypeId}: ∀(ps:List (Nat×Operand)) (cs:List PV),(∀p∈ps,S2.ev p.2=S.ev p.2)→gP P S2 t ps cs=gP P S t ps cs
 | [],cs,_=>rfl
 |(i,x)::r,cs,h=>by
  have ih: ∀cs,gP P S2 t r cs=gP P S t r cs:=fun cs=>tF r cs fun p hp=>h p (al _ hp)
  have hx:S2.ev x=S.ev x:=h (i,x) List.mem_cons_self;unfold gP;simp only[hx,ih]
theorem oP{sz:Nat}: ∀(ps:List (Nat×Operand)) (k:Nat),(∀p∈ps,S2.ev p.2=S.ev p.2)→fR S2 sz k ps=fR S sz k ps
 | [],k,_=>rfl
 |(i,x)::r,k,h=>by
  have ih: ∀k,fR S2 sz k r=fR S sz k r:=fun k=>oP r k fun p hp=>h p (al _ hp)
  have hx:S2.ev x=S.ev x:=h (i,x) List.mem_cons_self;unfold fR;simp only[hx,ih]
theorem Av{t:TypeId}{x:Operand}{lo hi mx:Option Operand}(hx:S2.ev x=S.ev x)(h1: ∀v,lo=some v→S2.ev v=S.ev v)(h2: ∀v,hi=some v→S2.ev v=S.ev v)(h3: ∀v,mx=some v→S2.ev v=S.ev v):
 rF P S2 t x lo hi mx=rF P S t x lo hi mx:=by
 unfold rF;simp only[hx,HX h2,HM h1]
 cases mx with
 |none=>rfl
 |some m=>
  simp only[ri (h3 m rfl)]
  cases hi with
  |none=>rfl
  |some v=>simp only[ri (h2 v rfl)]
theorem lb{l:List Operand}(h: ∀x∈l,S2.ev x=S.ev x):l.map S2.ev=l.map S.ev:=bz h
theorem EL(h:yn (er tr o) tr ops o S S2):fw P S2 o=fw P S o:=by
 have he: ∀x,x∈o.op.operands.toList→S2.ev x=S.ev x:=fun x hx=>h.ev hx
 have hl:=fun k:1≤er tr o=>h.gen k (by have:=eJ tr o;omega) (by have:=eJ tr o;omega) (by have:=eJ tr o;omega)
 have hb:=fun k:2≤er tr o=>h.box k (by have:=eJ tr o;omega) (by have:=eJ tr o;omega) (by have:=eJ tr o;omega)
 unfold er at hl hb;unfold fw
 cases ho:o.op with
 |pick c x y=>simp only[ho,Op.operands]at he;simp only[he c (by simp),he x (by simp),he y (by simp)]
 |nilCheck x=>simp only[ho,Op.operands]at he;simp only[he x (by simp)]
 |binOp op t x y t'=>simp only[ho,Op.operands]at he;simp only[uJ,he x (by simp),he y (by simp)]
 |makeInterface t x=>simp only[ho,Op.operands]at he;simp only[he x (by simp)]
 |unOp op t x=>simp only[ho,Op.operands]at he;simp only[he x (by simp)]
 |fieldAddr t x f=>simp only[ho,Op.operands]at he;simp only[he x (by simp)]
 |field t x f=>simp only[ho,Op.operands]at he;simp only[he x (by simp)]
 |indexAddr t x i=>simp only[ho,Op.operands]at he hl hb;simp only[he x (by simp),he i (by simp),hl (by omega),hb (by omega)]
 |index t x i=>simp only[ho,Op.operands]at he;simp only[he x (by simp),he i (by simp)]
 |slice t x lo hi mx=>
  simp only[ho,Op.operands]at he;exact Av (he x (by simp)) (fun v e=>he v (by simp[e])) (fun v e=>he v (by simp[e])) (fun v e=>he v (by simp[e]))
 |build t ps=>
  simp only[ho,Op.operands]at he;have: ∀cs,gP P S2 t ps.toList cs=gP P S t ps.toList cs:=fun cs=>tF _ _ fun p hp=>he p.2 (by simpa using List.mem_map_of_mem (f:=(·.2)) hp)
  simp only[this]
 |buildSlice t len ps=>
  simp only[ho,Op.operands]at he;have: ∀k sz,fR S2 sz k ps.toList=fR S sz k ps.toList:=fun k sz=>oP _ _ fun p hp=>he p.2 (by simpa using List.mem_map_of_mem (f:=(·.2)) hp)
  simp only[this]
 |makeFunc fn first caps=>
  simp only[ho,Op.operands]at he;have:caps.toList.map S2.ev=caps.toList.map S.ev:=lb fun x hx=>he x (by simp at hx⊢;exact .inr hx)
  have h2:first.toList.map S2.ev=first.toList.map S.ev:=lb fun x hx=>he x (by simp at hx⊢;exact .inl hx)
  cases fn<;>simp only[this,h2]
 |convert src dst x=>simp only[ho,Op.operands]at he;simp only[he x (by simp)]
 |call c=>
  obtain⟨cal,args,ts⟩:=c;simp only[ho,Op.operands]at he;have hm:args.toList.map S2.ev=args.toList.map S.ev:=lb fun x hx=>he x (by simp[Call.operands]at hx⊢;first|exact hx|exact .inr hx)
  cases cal with
  |builtin b=>
   cases b<;>try rfl
   ·have: ∀x,args.toList= [x]→S2.ev x=S.ev x:=fun x e=>he x (by simp[Call.operands];rw[←Array.mem_toList_iff,e];simp)
    have hh: ∀l,args.toList=l→(match l,ts.toList with
     | [x],[t]=>(match P.underlying t,S2.ev x with
       |some (.slice _),.d (.slice xs)=>some (PV.d (.int .i64 xs.length),false)
       |some (.slice _),.bsl _ _ n _ _=>some (.d (.int .i64 n),false)
       |some .string,.d (.str s)=>some (.d (.int .i64 s.length),false)
       |_,_=>none)
     |_,_=>none)=(match l,ts.toList with
     | [x],[t]=>(match P.underlying t,S.ev x with
       |some (.slice _),.d (.slice xs)=>some (PV.d (.int .i64 xs.length),false)
       |some (.slice _),.bsl _ _ n _ _=>some (.d (.int .i64 n),false)
       |some .string,.d (.str s)=>some (.d (.int .i64 s.length),false)
       |_,_=>none)
     |_,_=>none):=by
     intro l hl;split
     ·rename_i x _
      first
       |rw[this _ hl]
     ·rfl
    exact hh _ rfl
   ·simp only[hm]
   ·simp only[hm]
  |_=>rfl
 |_=>rfl
theorem sw{n g len sz:Nat}{ag:Bool}(hg:S2.gen=S.gen)(hb:S2.box=S.box):iP S2 n g len sz ag=iP S n g len sz ag:=by
 unfold iP;rw[hg,hb]
theorem yv{n g lo len sz:Nat}{ag:Bool}(hg:S2.gen=S.gen)(hb:S2.box=S.box):oq S2 n g lo len sz ag=oq S n g lo len sz ag:=by
 unfold oq;rw[hg,hb]
theorem xE(hg:S2.gen=S.gen)(hb:S2.box=S.box)(c:PV):pZ S2 c=pZ S c:=by
 unfold pZ
 cases c<;>simp only[sw hg hb]
theorem xB(hg:S2.gen=S.gen)(hb:S2.box=S.box): ∀(cs:List PV),kD S2 cs=kD S cs
 | []=>rfl
 |c::r=>by simp only[kD,xE hg hb,xB hg hb r]
theorem rY(hg:S2.gen=S.gen)(hb:S2.box=S.box)(c:PV):rZ o S2 c=rZ o S c:=by
 have:nM S2 c=nM S c:=by
  unfold nM
  cases c<;>simp only[xB hg hb,xE hg hb]
 unfold rZ kill;rw[this,hg]
theorem Bv{rd:Bool}{e:TypeId}{x:Operand}{tx:TypeId}(hx:S2.ev x=S.ev x)(hrd:rd=true→S2.gen=S.gen∧S2.box=S.box):m4 P rd S2 e x tx=m4 P rd S e x tx:=by
 unfold m4;rw[hx]
 cases rd with
 |true=>
  obtain⟨hg,hb⟩:=hrd rfl;simp only[sw hg hb,yv hg hb]
 |false=>simp only[aF,aL]
theorem C8{P:Program}{S S2:PS}{o:Oper}{as:List Operand}{ts:List TypeId}(he: ∀x∈as,S2.ev x=S.ev x)(h1:S2.gen=S.gen)(h2:S2.box=S.box):x7 P S2 o as ts=x7 P S o as ts:=by
 match as,ts with
 | [x,y],[t,_]=>simp only[x7,he x (by simp),he y (by simp),h1,h2]
 | [],_=>rfl
 | [_],_=>rfl
 |_::_::_::_,_=>rfl
 | [_,_],[]=>rfl
 | [_,_],[_]=>rfl
 | [_,_],_::_::_::_=>rfl
theorem Bw{args:List Operand}{ts:List TypeId}(he: ∀x∈args,S2.ev x=S.ev x)(hown: ∀s,args.head?=some (.tmp s)→S2.own (.t s 0)=S.own (.t s 0))
 (hrd:xr tr o=true→S2.gen=S.gen∧S2.box=S.box) (hbx:kN tr o=true→S2.gen=S.gen∧S2.box=S.box∧ ∀n k,S2.own (.b n k)=S.own (.b n k)) (hfo:S2.fo=S.fo):iz P tr S2 o args ts=iz P tr S o args ts:=by
 unfold iz;split
 ·rename_i s x t tx;have h1:S2.t s=S.t s:=he (.tmp s) (by simp)
  have h2: ∀e,m4 P (xr tr o) S2 e x tx=m4 P (xr tr o) S e x tx:=fun e=>Bv (he x (by simp)) hrd
  simp only[h1,h2,hown s rfl];by_cases hb:kN tr o=true
  ·obtain⟨q1,q2,q3⟩:=hbx hb;simp only[q1,q2,q3,hfo]
  ·have hb':kN tr o=false:=by simpa using hb
   simp only[hb',aF,aL,and_false]
 ·rfl
theorem qb(h:yn (er tr o) tr ops o S S2):dO P N tr S2 o=dO P N tr S o:=by
 have he: ∀x,x∈o.op.operands.toList→S2.ev x=S.ev x:=fun x hx=>h.ev hx
 have hl:=fun k:1≤er tr o=>h.gen k (by have:=eJ tr o;omega) (by have:=eJ tr o;omega) (by have:=eJ tr o;omega)
 have hb:=fun k:2≤er tr o=>h.box k (by have:=eJ tr o;omega) (by have:=eJ tr o;omega) (by have:=eJ tr o;omega)
 have hbo:=fun k:3≤er tr o=>h.bown k (by have:=eJ tr o;omega) (by have:=eJ tr o;omega) (by have:=eJ tr o;omega)
 have hs:=h.own;have hV:=EL (P:=P) h;unfold er at hl hb hbo;unfold pd at hs;unfold dO;split
 ·cases ho:o.op with
  |assign x=>
   simp only[ho,Op.operands]at he hs hl;simp only;by_cases hne:(Kd tr o x).isSome=true
   ·simp only[if_pos hne]at hl⊢;unfold zk;rw[hl (by omega),h.fo]
   simp only[if_neg hne];unfold ry
   cases x with
   |tmp s=>
    have e1:S2.t s=S.t s:=he (.tmp s) (by simp)
    have e2:(fun j=>S2.own (.t s j))=fun j=>S.own (.t s j):=funext fun j=>hs s none (by simp) j (.inl rfl)
    simp only[e1,e2]
   |const v=>rfl
   |global g=>rfl
   |func f=>rfl
  |move x=>
   simp only[ho,Op.operands]at he hs hl hb;simp only;by_cases hfz:iH tr o=true
   ·have hg:S2.gen=S.gen:=hl (by rw[if_pos hfz];omega)
    have hbx:S2.box=S.box:=hb (by rw[if_pos hfz];omega)
    simp only[if_pos hfz,he x (by simp),rY hg hbx]
   ·simp only[if_neg hfz];unfold ry
    cases x with
    |tmp s=>
     have e1:S2.t s=S.t s:=he (.tmp s) (by simp)
     by_cases ht:lf tr o=true
     ·have e2:(fun j=>S2.own (.t s j))=fun j=>S.own (.t s j):=funext fun j=>hs s none (by simp[ht]) j (.inl rfl)
      simp only[e1,e2]
     ·simp only[e1,if_neg ht]
    |const v=>rfl
    |global g=>rfl
    |func f=>rfl
  |extract x k=>
   simp only[ho,Op.operands]at he hs
   cases x with
   |tmp s=>
    have e1:S2.t s=S.t s:=he (.tmp s) (by simp)
    have e2:S2.own (.t s k)=S.own (.t s k):=hs s (some k) (by simp) k (.inr rfl)
    simp only[e1,e2]
   |_=>rfl
  |load t x=>
   simp only[ho,Op.operands]at he hl hb hbo;have hg:S2.gen=S.gen:=hl (by split<;>first|omega|(split<;>omega))
   have hbx:S2.box=S.box:=hb (by split<;>first|omega|(split<;>omega))
   have e1:iQ P S2 t x=iQ P S t x:=by
    have e0:mV P S2 t x=mV P S t x:=by unfold mV;rw[he x (by simp),hg,hbx]
    unfold iQ;split
    ·rfl
    ·exact e0
   by_cases hfz:iH tr o=true
   ·simp only[e1,if_pos hfz,rY hg hbx]
   ·simp only[if_neg hfz];by_cases ht:lf tr o=true
    ·have e2: ∀n k,S2.own (.b n k)=S.own (.b n k):=hbo (by rw[if_neg hfz,if_pos ht];omega)
     simp only[e1,he x (by simp),e2]
    ·simp only[e1,if_neg ht]
  |alloc e=>
   simp only[ho]at hl;simp only[hl (by omega),h.fo]
  |box e x=>
   simp only[ho,Op.operands]at hl he hs;have h1: ∀d cs,rU tr o=true→tG S2 d x cs=tG S d x cs:=by
    intro d cs how
    cases x with
    |tmp s=>
     have e2: ∀k,S2.own (.t s k)=S.own (.t s k):=fun k=>hs s none (by simp[how]) k (.inl rfl)
     simp only[tG,hl (by omega),h.fo,e2]
    |_=>rfl
   simp only[hl (by omega),he x (by simp),h.fo]
   by_cases how:rU tr o=true
   ·simp only[if_pos how,h1 _ _ how]
   ·simp only[if_neg how]
  |makeSlice t l c=>
   simp only[ho,Op.operands]at hl he;simp only[hl (by omega),he l (by simp),he c (by simp),h.fo]
  |store t x v=>
   simp only[ho,Op.operands]at hl he hb hbo hs;have e2: ∀n k,S2.own (.b n k)=S.own (.b n k):=hbo (by omega)
   simp only[hl (by omega),hb (by omega),he x (by simp),he v (by simp),e2]
   cases v with
   |tmp s=>
    have e3:S2.own (.t s 0)=S.own (.t s 0):=hs s none (by simp) 0 (.inl rfl)
    simp only[e3]
   |_=>rfl
  |call c=>
   obtain⟨cal,args,ts⟩:=c
   cases cal with
   |builtin b=>
    cases b<;>first
     |(simp only[hV];done)
     |(simp only[ho,Op.operands]at he hl hb
       exact C8 (fun x hx=>he x (by simp[Call.operands]at hx⊢;first|exact hx|exact .inr hx)) (hl (by omega)) (hb (by omega)))
     |(simp only[ho,Op.operands]at he hs hl hb hbo
       have hap:iz P tr S2 o args.toList ts.toList=iz P tr S o args.toList ts.toList:=by
        refine Bw ?_ ?_ (fun hrd=>?_) (fun hbx=>?_) h.fo
        ·exact fun x hx=>he x (by simp[Call.operands]at hx⊢;first|exact hx|exact .inr hx)
        ·intro s hsd
         cases ha:args.toList with
         |nil=>rw[ha]at hsd;cases hsd
         |cons y r=>
          rw[ha]at hsd
          cases hsd
          exact hs s none (by simp[ha]) 0 (.inl rfl)
        ·have hle:2≤(if kN tr o=true then 5 else if xr tr o=true then 2 else 0):=by rw[hrd];split<;>simp
         exact⟨hl (by omega),hb (by omega)⟩
        ·have hle:3≤(if kN tr o=true then 5 else if xr tr o=true then 2 else 0):=by rw[hbx];simp
         exact⟨hl (by omega),hb (by omega),hbo (by omega)⟩
       by_cases how:rU tr o=true
       ·simp only[if_pos how];by_cases hbx:kN tr o=true
        ·have hle:3≤(if kN tr o=true then 5 else if xr tr o=true then 2 else 0):=by rw[hbx];simp
         have q1:S2.gen=S.gen:=hl (by omega)
         have q2:S2.box=S.box:=hb (by omega)
         have q3: ∀n k,S2.own (.b n k)=S.own (.b n k):=hbo (by omega)
         have h1:lH S2 args.toList=lH S args.toList:=by
          unfold lH
          cases ha:args.toList with
          |nil=>rfl
          |cons y r=>
           cases r with
           |nil=>rfl
           |cons x r2=>
            cases r2 with
            |cons _ _=>rfl
            |nil=>
             have hx:x∈args.toList:=by rw[ha];simp
             have:S2.ev x=S.ev x:=he x (by simp[Call.operands]at hx⊢;first|exact hx|exact .inr hx)
             simp only[this,q1,q2]
         have h2:mH S2=mH S:=by
          funext m E
          simp only[mH,q1,q2,q3]
         rw[h1,hap,h2]
        ·have hbx':kN tr o=false:=by simpa using hbx
         simp only[hbx',aF,and_false,aL]
         cases lH S2 args.toList<;>cases lH S args.toList<;>rfl
       ·simp only[if_neg how];exact hap)
   |_=>simp only[hV]
  |build t ps=>
   simp only[ho,Op.operands]at he hs hl;simp only[hV];by_cases hnb:(Ke tr o).isSome=true
   ·simp only[if_pos hnb]at hl⊢;unfold wZ;rw[hl (by omega),h.fo,hV]
   simp only[if_neg hnb];by_cases how:rU tr o=true
   ·simp only[if_pos how]at hs⊢
    congr 1
    funext r
    cases hp:ps.toList with
    |nil=>simp[fk]
    |cons q r=>
     obtain⟨i,x⟩:=q
     cases x with
     |tmp s=>
      rw[hp]at hs;have hx: ∃i,(i,Operand.tmp s)∈ps.toList:=⟨i,by rw[hp];simp⟩
      have e1:S2.t s=S.t s:=he (.tmp s) (by obtain⟨i,hi⟩:=hx;simp at hi⊢;exact⟨i,hi⟩)
      have e2:S2.own (.t s 0)=S.own (.t s 0):=hs s none (by simp) 0 (.inl rfl)
      have e3:fk P S2 t ((i,.tmp s)::r)=fk P S t ((i,.tmp s)::r):=by
       simp only[fk,e1]
      rw[e3]
      cases hbo:fk P S t ((i,.tmp s)::r)with
      |none=>rfl
      |some s'=>
       have:s'=s:=by
        unfold fk at hbo;simp only at hbo
        split at hbo
        ·split at hbo
         ·cases hbo;rfl
         ·cases hbo
        ·cases hbo
       subst this;simp only[e2]
     |_=>simp[fk]
   ·simp only[if_neg how]
  |buildSlice t len ps=>
   simp only[ho,Op.operands]at he hs hl;simp only[hV];by_cases hbx:kN tr o=true
   ·simp only[if_pos hbx]at hs hl⊢;have q1:S2.gen=S.gen:=hl (by omega)
    have hE:ll P S2 o t len ps=ll P S o t len ps:=by
     have: ∀k sz,fR S2 sz k ps.toList=fR S sz k ps.toList:=fun k sz=>oP _ _ fun p hp=>he p.2 (by simpa using List.mem_map_of_mem (f:=(·.2)) hp)
     unfold ll;simp only[this,q1,h.fo]
    rw[hE]
    congr 1
    unfold sk
    cases o.dst with
    |none=>rfl
    |some d=>
     cases kP P t with
     |none=>rfl
     |some e=>
      cases hp:ps.toList with
      |nil=>rfl
      |cons q r=>
       obtain⟨i,x⟩:=q
       cases x with
       |tmp s=>
        rw[hp]at hs;have hx: ∃i,(i,Operand.tmp s)∈ps.toList:=⟨i,by rw[hp];simp⟩
        have e1:S2.t s=S.t s:=he (.tmp s) (by obtain⟨i,hi⟩:=hx;simp at hi⊢;exact⟨i,hi⟩)
        have e2: ∀k,S2.own (.t s k)=S.own (.t s k):=fun k=>hs s none (by simp) k (.inl rfl)
        cases r with
        |nil=>simp only[e1,e2,q1,h.fo]
        |cons _ _=>rfl
       |_=>rfl
   ·simp only[if_neg hbx]
  |makeMap t r=>
   simp only[ho]at hl
   cases r with
   |none=>simp only[zn,hl (by omega),h.fo]
   |some r=>simp only[hV]
  |insert t m k x=>
   simp only[ho,Op.operands]at he hl hb;simp only[uq,he m (by simp),he k (by simp),he x (by simp),hl (by omega),hb (by omega)]
  |lookup t m k ok=>
   simp only[ho,Op.operands]at he hl hb;simp only[he m (by simp),he k (by simp),hl (by omega),hb (by omega)]
  |convert src dst x=>
   simp only[ho,Op.operands]at he hl hb;by_cases hfz:iH tr o=true
   ·have hg:S2.gen=S.gen:=hl (by rw[if_pos hfz];omega)
    have hbx:S2.box=S.box:=hb (by rw[if_pos hfz];omega)
    simp only[if_pos hfz,uF,he x (by simp),rY hg hbx]
   ·simp only[if_neg hfz,hV]
  |_=>simp only[hV]
 ·rfl
theorem EW(h:Alike tr ops o S S2):g8 tr S2 o=g8 tr S o:=by
 unfold g8
 cases hc:ej o.op with
 |none=>rfl
 |some x=>
  have hx:x∈o.op.operands.toList:=by
   cases ho:o.op<;>rw[ho]at hc<;>simp[ej]at hc<;>subst hc<;>simp[Op.operands]
  simp only[h.ev hx,h.fo]
theorem KX{q:Nat×Operand}(h:gu tr o=some q):q.2∈o.op.operands.toList:=by
 unfold gu at h
 split at h
 ·rename_i ho
  split at h
  ·rw[Option.map_eq_some_iff]at h;obtain⟨m,_,rfl⟩:=h;rw[ho];simp[Op.operands]
  ·cases h
 ·rename_i ho
  split at h
  ·rw[Option.map_eq_some_iff]at h;obtain⟨m,_,rfl⟩:=h;rw[ho];simp[Op.operands]
  ·cases h
 ·rename_i ho;rw[Option.map_eq_some_iff]at h;obtain⟨m,_,rfl⟩:=h;rw[ho];simp[Op.operands]
 ·cases h
theorem Gu{q:Nat×Operand}(h:gu tr o=some q):ej o.op=some q.2∨ ∃t s,o.op= .store t q.2 (.tmp s):=by
 unfold gu at h
 split at h
 ·rename_i ho
  split at h
  ·rw[Option.map_eq_some_iff]at h;obtain⟨m,_,rfl⟩:=h;rw[ho];exact .inl rfl
  ·cases h
 ·rename_i ho
  split at h
  ·rw[Option.map_eq_some_iff]at h;obtain⟨m,_,rfl⟩:=h;rw[ho];exact .inl rfl
  ·cases h
 ·rename_i ho;rw[Option.map_eq_some_iff]at h;obtain⟨m,_,rfl⟩:=h;exact .inr ⟨_,_,ho⟩
 ·cases h
theorem EH(h:Alike tr ops o S S2):gT tr S2 o=gT tr S o:=by
 unfold gT
 cases hq:gu tr o with
 |none=>rfl
 |some q=>
  simp only[h.ev (KX hq),h.fo]
theorem KY{q:Nat×Operand}(hq:gu tr o=some q)(h:gT tr S o=true):vo (S.fo+q.1) (S.ev q.2)=true∧((ej o.op).isSome=true→lf tr o=false∧iH tr o=false):=by
 unfold gT at h;rw[hq]at h;simp only[Bool.and_eq_true,Bool.or_eq_true,Bool.not_eq_true']at h;refine⟨h.1,fun hs=>?_⟩
 rcases h.2 with h2|h2
 ·rw[Option.isNone_iff_eq_none]at h2;rw[h2]at hs
  cases hs
 ·exact h2
theorem CT{d:Nat}(h:M0 tr o=some d):(∃e,o.op= .alloc e)∧o.dst=some d:=by
 unfold M0 at h
 split at h
 ·rename_i e ho
  split at h
  ·rename_i d' hd
   split at h
   ·cases h
    exact⟨⟨e,ho⟩,hd⟩
   ·cases h
  ·cases h
 ·cases h
theorem Li{x:Operand}(hx:ej o.op=some x)(hc:A7 tr o=true)(h:g8 tr S o=true):zC (S.ev x)=true∧lf tr o=false∧iH tr o=false:=by
 unfold g8 at h;simp only[hx,hc,Bool.not_true,Bool.false_or,Bool.and_eq_true,Bool.not_eq_true']at h;exact⟨h.1.1.1.1,h.1.1.1.2,h.1.1.2⟩
theorem Lh{x:Operand}(hx:ej o.op=some x)(hc:A8 tr o=true)(h:g8 tr S o=true):E6 tr S.fo (S.ev x)=true∧lf tr o=false∧iH tr o=false:=by
 unfold g8 at h;simp only[hx,hc,Bool.not_true,Bool.false_or,Bool.and_eq_true,Bool.not_eq_true']at h;exact⟨h.1.2.1.1,h.1.2.1.2,h.1.2.2⟩
theorem Lg{x:Operand}(hx:ej o.op=some x)(hc:A9 tr o=true)(h:g8 tr S o=true):Dc tr S.fo (S.ev x)=true∧lf tr o=false∧iH tr o=false:=by
 unfold g8 at h;simp only[hx,hc,Bool.not_true,Bool.false_or,Bool.and_eq_true,Bool.not_eq_true']at h;exact⟨h.2.1.1,h.2.1.2,h.2.2⟩
theorem qZ{x:Operand}(hx:ej o.op=some x)(he: ∀x,x∈o.op.operands.toList→S2.ev x=S.ev x)(ht:lf tr o=false)(hf:iH tr o=false)
 (hb: ∀n,(∃g k,S.ev x= .ptr n g k)∨(∃g l z b,S.ev x= .bsl n g l z b)→S2.gen n=S.gen n∧S2.box n=S.box n):dO P N tr S2 o=dO P N tr S o:=by
 have e1: ∀n g k,S.ev x= .ptr n g k→S2.gen n=S.gen n:=fun n g k h=>(hb n (.inl ⟨g,k,h⟩)).1
 have e2: ∀n g k,S.ev x= .ptr n g k→S2.box n=S.box n:=fun n g k h=>(hb n (.inl ⟨g,k,h⟩)).2
 have e3: ∀n g l z b,S.ev x= .bsl n g l z b→S2.gen n=S.gen n:=fun n g l z b h=>(hb n (.inr ⟨g,l,z,b,h⟩)).1
 have e4: ∀n g l z b,S.ev x= .bsl n g l z b→S2.box n=S.box n:=fun n g l z b h=>(hb n (.inr ⟨g,l,z,b,h⟩)).2
 clear hb
 cases ho:o.op with
 |indexAddr t y i=>
  rw[ho]at hx
  cases hx
  simp only[ho,Op.operands]at he;unfold dO fw;simp only[ho,he x (by simp),he i (by simp)]
  cases hv:S.ev x with
  |bsl n g l z b=>
   cases kP P t with
   |none=>rfl
   |some q=>
    cases S.ev i with
    |d y=>
     cases y with
     |int k v=>simp only[e3 n g l z b hv,e4 n g l z b hv]
     |_=>rfl
    |_=>rfl
  |ptr n g k=>cases kP P t<;>cases S.ev i<;>first|rfl|(rename_i y;cases y<;>rfl)
  |d y=>cases y<;>cases kP P t<;>cases S.ev i<;>first|rfl|(rename_i y;cases y<;>rfl)
  |_=>cases kP P t<;>cases S.ev i<;>first|rfl|(rename_i y;cases y<;>rfl)
 |load t y=>
  rw[ho]at hx
  cases hx
  simp only[ho,Op.operands]at he;have e0:iQ P S2 t x=iQ P S t x:=by
   have e0:mV P S2 t x=mV P S t x:=by
    unfold mV;rw[he x (by simp)]
    cases hv:S.ev x with
    |ptr n g k=>simp only[e1 n g k hv,e2 n g k hv]
    |_=>rfl
   unfold iQ;split
   ·rfl
   ·exact e0
  unfold dO;simp only[ho,e0,he x (by simp),ht,hf]
  rfl
 |_=>rw[ho]at hx;simp[ej]at hx
theorem CZ{t:TypeId}{x:Operand}{s:Nat}(ho:o.op= .store t x (.tmp s))(hx:S2.ev x=S.ev x)(hs:S2.t s=S.t s)(hos:S2.own (.t s 0)=S.own (.t s 0))
 (hb: ∀n g k,S.ev x= .ptr n g k→S2.gen n=S.gen n∧S2.box n=S.box n∧ ∀k,S2.own (.b n k)=S.own (.b n k)):dO P N tr S2 o=dO P N tr S o:=by
 have hv:S2.ev (.tmp s)=S.ev (.tmp s):=hs;unfold dO;simp only[ho,hx,hv]
 cases hp:S.ev x with
 |ptr n g k=>
  obtain⟨q1,q2,q3⟩:=hb n g k hp
  cases o.dst with
  |some d=>cases cW (S.ev (.tmp s))<;>rfl
  |none=>
   cases cW (S.ev (.tmp s))with
   |none=>rfl
   |some cs=>simp only[q1,q2,q3,hos]
 |_=>cases o.dst<;>cases cW (S.ev (.tmp s))<;>rfl
theorem EO(h:Alike tr ops o S S2):gx P N tr S2 o=gx P N tr S o:=by
 unfold gx;rw[EW h,EH h];by_cases hok0:(g8 tr S o&&gT tr S o)=true
 ·rw[if_pos hok0,if_pos hok0];have hok:=(aq.1 hok0).1;have he: ∀x,x∈o.op.operands.toList→S2.ev x=S.ev x:=fun x hx=>h.ev hx
  cases hq:gu tr o with
  |some q=>
   have hl:lvl tr o=20+q.1:=by simp[lvl,hq]
   obtain⟨hat,hnt⟩:=KY hq (aq.1 hok0).2;obtain⟨g1,g2,g3⟩:=h.fp q.1 hl;have hnm: ∀n,((∃g k,S.ev q.2= .ptr n g k)∨(∃g l z b,S.ev q.2= .bsl n g l z b))→n=S.fo+q.1:=by
    rintro n (⟨g,k,e⟩|⟨g,l,z,b,e⟩)<;>rw[e]at hat<;>simpa[vo]using hat
   rcases Gu hq with hc|⟨t,s,ho⟩
   ·obtain⟨n1,n2⟩:=hnt (by rw[hc];rfl)
    refine qZ hc he n1 n2 fun n hn=>?_
    rw[hnm n hn];exact⟨g1,g2⟩
   ·refine CZ ho (he _ (by rw[ho];simp[Op.operands])) (he (.tmp s) (by rw[ho];simp[Op.operands])) (h.own s none (by simp[pd,ho]) 0 (.inl rfl)) fun n g k e=>?_
    rw[hnm n (.inl ⟨g,k,e⟩)];exact⟨g1,g2,g3⟩
  |none=>
  cases hA:M0 tr o with
  |some d=>
   have hl:lvl tr o=20+d:=by simp[lvl,hq,hA]
   obtain⟨⟨e,ho⟩,hdd⟩:=CT hA;obtain⟨g1,_,_⟩:=h.fp d hl;unfold dO;simp only[ho,hdd,h.fo]
   cases eQ P e with
   |none=>rfl
   |some z=>simp only[g1]
  |none=>
  have hlv:lvl tr o=(if(A7 tr o&&(ej o.op).isSome)=true then 0 else if(A8 tr o&&(ej o.op).isSome)=true then 6 else if(A9 tr o&&(ej o.op).isSome)=true then 8 else if(HV tr o&&oZ o.op)=true then 7 else if(nF tr o&&s9 tr o&&nG o.op)=true then 9 else er tr o):=by simp only[lvl,hq,hA,Cr]
  by_cases dQ:(A7 tr o&&(ej o.op).isSome)=true
  ·have hcs2:=aq.1 dQ;obtain⟨x,hx⟩:=Option.isSome_iff_exists.1 hcs2.2;obtain⟨q1,q2,q3⟩:=Li hx hcs2.1 hok;refine qZ hx he q2 q3 fun n hn=>?_
   rcases hn with⟨g,k,e⟩|⟨g,l,z,b,e⟩<;>rw[e]at q1<;>simp[zC]at q1
  ·rw[if_neg dQ]at hlv;by_cases hcm:(A8 tr o&&(ej o.op).isSome)=true
   ·rw[if_pos hcm]at hlv;have hcm2:=aq.1 hcm;obtain⟨x,hx⟩:=Option.isSome_iff_exists.1 hcm2.2;obtain⟨q1,q2,q3⟩:=Lh hx hcm2.1 hok;refine qZ hx he q2 q3 fun n hn=>?_
    refine h.calm hlv n ?_;rcases hn with⟨g,k,e⟩|⟨g,l,z,b,e⟩<;>rw[e]at q1<;>exact q1
   ·rw[if_neg hcm]at hlv;by_cases hcl:(A9 tr o&&(ej o.op).isSome)=true
    ·rw[if_pos hcl]at hlv;have hcl2:=aq.1 hcl;obtain⟨x,hx⟩:=Option.isSome_iff_exists.1 hcl2.2;obtain⟨q1,q2,q3⟩:=Lg hx hcl2.1 hok;refine qZ hx he q2 q3 fun n hn=>?_
     refine h.near hlv n ?_;rcases hn with⟨g,k,e⟩|⟨g,l,z,b,e⟩<;>rw[e]at q1<;>simpa[Dc]using q1
    rw[if_neg hcl]at hlv;by_cases hnw:(HV tr o&&oZ o.op)=true
    ·rw[if_pos hnw]at hlv;have h7:=h;unfold Alike at h7;rw[hlv]at h7;exact qb ⟨h7.fo,h7.t,fun _ _ _ _=>h7.gen (by omega) (by omega) (by omega) (by omega),fun _ _ _ _=>h7.box (by omega) (by omega) (by omega) (by omega),fun e=>absurd e (by have:=eJ tr o;omega),fun e=>absurd e (by have:=eJ tr o;omega),fun _ _ _ _=>h7.bown (by omega) (by omega) (by omega) (by omega),fun m e=>absurd e (by have:=eJ tr o;omega),h7.own⟩
    ·rw[if_neg hnw]at hlv;by_cases hbg:(nF tr o&&s9 tr o&&nG o.op)=true
     ·rw[if_pos hbg]at hlv;have h9:=h;unfold Alike at h9;rw[hlv]at h9;exact qb ⟨h9.fo,h9.t,fun _ _ _ _=>h9.gen (by omega) (by omega) (by omega) (by omega),fun _ _ _ _=>h9.box (by omega) (by omega) (by omega) (by omega),fun e=>absurd e (by have:=eJ tr o;omega),fun e=>absurd e (by have:=eJ tr o;omega),fun _ _ _ _=>h9.bown (by omega) (by omega) (by omega) (by omega),fun m e=>absurd e (by have:=eJ tr o;omega),h9.own⟩
     ·rw[if_neg hbg]at hlv;exact qb (by unfold Alike at h;rwa[hlv]at h)
 ·rw[if_neg hok0,if_neg hok0]
theorem AW(h:Alike tr ops o S S2){E:dp}(hs:mS P N tr o S E):mS P N tr o S2 E:=by
 unfold mS at hs⊢
 split at hs
 ·rename_i x args ts ho;have he: ∀x,x∈o.op.operands.toList→S2.ev x=S.ev x:=fun x hx=>h.ev hx
  simp only[ho,Op.operands]at he;have hm:args.toList.map S2.ev=args.toList.map S.ev:=lb fun x hx=>he x (by simp[Call.operands]at hx⊢;first|exact hx|exact .inr hx)
  rw[hm,he x (by simp[Call.operands])]
  refine⟨hs.1,?_⟩;have hs:=hs.2
  split at hs
  ·rename_i hcb;rw[if_pos hcb];have hl5:lvl tr o=5∨lvl tr o=9:=by
    by_cases hq:nF tr o=true
    ·exact .inr (by simp[lvl,Cr,gu,M0,ej,oZ,nG,ho,hcb,hq])
    ·exact .inl (by simp[lvl,Cr,gu,M0,er,ej,oZ,nG,ho,hcb,hq])
   have hg:=h.gen (by omega) (by omega) (by omega) (by omega)
   have hb:=h.box (by omega) (by omega) (by omega) (by omega)
   have hbo:=h.bown (by omega) (by omega) (by omega) (by omega)
   have hsn:snap S2=snap S:=by
    funext n
    simp only[snap,hg,hb,hbo]
   rw[hsn,hg,h.fo];exact hs
  ·rename_i hcb;rw[if_neg hcb];exact hs
 ·rw[EO h];exact hs
structure yj(L:Nat)(tr:List Nat)(o:Oper)(S:PS)(E:dp):Prop where
 dst:E.dst=o.dst
 clr: ∀i j,E.clr (.t i j)=true→ ∃k,(i,k)∈pd tr o∧(k=none∨k=some j)
 bclr: ∀n k,E.clr (.b n k)=true→L=3
 bx:E.bx≠ []→4≤L
 gen:L=4→ ∀u∈E.bx,u.g=S.gen u.n
structure Shape(tr:List Nat)(o:Oper)(S:PS)(E:dp):Prop extends yj (lvl tr o) tr o S E where
 calm:lvl tr o=6∨lvl tr o=8→E.bx= []
 out:lvl tr o=9→ ∀u∈E.bx,zi tr S.fo u.n=true
 nw:lvl tr o=7→ ∀u∈E.bx,zi tr S.fo u.n=false
 fp: ∀m,lvl tr o=20+m→ ∀u∈E.bx,u.n=S.fo+m
 rd:LG tr o=true→E.bx= []
theorem RV{d:Nat}(hd:d+60000∈tr)(hl:d<10000)(fo:Nat):zi tr fo (fo+d)=false:=by
 unfold zi;rw[List.all_eq_false];refine⟨_,hd,?_⟩;have:60000≤d+60000∧d+60000<70000:=by omega
 simp[this]
theorem dE{L:Nat}{r:PV}{ro:Nat→Bool}:yj L tr o S ⟨o.dst,r,ro,fun _=>false,[]⟩:=
 ⟨rfl,fun _ _ h=>by simp at h,fun _ _ h=>by simp at h,fun h=>absurd rfl h,fun _ _ h=>by simp at h⟩
theorem tV{L:Nat}{r:PV}{E:dp}(hl:L=5)(h:rZ o S r=some E):yj L tr o S E:=by
 unfold rZ at h
 split at h
 ·cases h;exact dE
 ·cases h
  exact⟨rfl,fun _ _ h=>by simp at h,fun _ _ h=>by simp at h,fun _=>by omega,fun h=>by omega⟩
 ·cases h
theorem C1{E:dp}(he:dO P N tr S o=some E):yj (er tr o) tr o S E:=by
 unfold dO at he
 split at he
 ·split at he
  ·rename_i x ho
   split at he
   ·rename_i hne;unfold zk at he
    split at he
    ·rename_i hdd _
     split at he
     ·cases he
      exact⟨hdd.symm,fun _ _ h=>by simp at h,fun _ _ h=>by simp at h,fun _=>by simp[er,ho,hne],fun h=>by simp[er,ho,hne]at h⟩
     ·cases he
    ·cases he
   cases he
   unfold ry
   cases x with
   |tmp s=>
    refine⟨rfl,fun i j h=>?_,fun _ _ h=>by simp[dg]at h,fun h=>absurd rfl h,fun _ _ h=>by simp at h⟩
    simp[dg]at h;exact⟨none,by simp[pd,ho,h],.inl rfl⟩
   |const v=>exact dE
   |global g=>exact dE
   |func f=>exact dE
  ·rename_i x ho
   split at he
   ·rename_i hfz;exact tV (by simp[er,ho,hfz]) he
   rename_i hfz
   cases he
   unfold ry
   cases x with
   |tmp s=>
    by_cases ht:lf tr o=true
    ·simp only[if_pos ht];refine⟨rfl,fun i j h=>?_,fun _ _ h=>by simp[dg]at h,fun h=>absurd rfl h,fun _ _ h=>by simp at h⟩
     simp[dg]at h;exact⟨none,by simp[pd,ho,h,ht],.inl rfl⟩
    ·simp only[if_neg ht];exact dE
   |const v=>exact dE
   |global g=>exact dE
   |func f=>exact dE
  ·rename_i x k ho
   split at he
   ·rename_i s
    split at he
    ·split at he
     ·cases he
     ·cases he
      refine⟨rfl,fun i j h=>?_,fun _ _ h=>by simp at h,fun h=>absurd rfl h,fun _ _ h=>by simp at h⟩
      simp at h;exact⟨some k,by simp[pd,ho,h.1],.inr (by rw[h.2])⟩
     ·cases he
    ·cases he
   ·cases he
  ·rename_i t x ho
   split at he
   ·split at he
    ·rename_i hfz;exact tV (by simp[er,ho,hfz]) he
    rename_i hfz
    split at he
    ·rename_i ht
     split at he
     ·cases he
      refine⟨rfl,fun i j h=>by simp at h,fun _ _ h=>by simp[er,ho,ht,hfz],fun h=>absurd rfl h,fun _ _ h=>by simp at h⟩
     ·cases he
    ·cases he
     exact dE
   ·cases he
  ·rename_i e ho
   split at he
   ·split at he
    ·cases he
     refine⟨rfl,fun i j h=>by simp at h,fun _ _ h=>by simp at h,fun _=>by simp[er,ho],fun h=>by simp[er,ho]at h⟩
    ·cases he
   ·cases he
  ·rename_i e x ho
   split at he
   ·split at he
    ·simp only[Option.map_eq_some_iff]at he;obtain⟨ds,_,rfl⟩:=he;exact dE
    ·split at he
     ·rename_i how;unfold tG at he
      split at he
      ·split at he
       ·cases he
        refine⟨by simp[*],fun i j h=>?_,fun _ _ h=>by simp[dg]at h,fun _=>by simp[er,ho],fun h=>by simp[er,ho]at h⟩
        simp[dg]at h;exact⟨none,by simp[pd,ho,how,h],.inl rfl⟩
       ·cases he
      ·cases he
     cases he
     refine⟨rfl,fun i j h=>by simp at h,fun _ _ h=>by simp at h,fun _=>by simp[er,ho],fun h=>by simp[er,ho]at h⟩
   ·cases he
  ·rename_i t l c ho
   split at he
   ·split at he
    ·split at he
     ·split at he
      ·cases he
       exact dE
      ·cases he
       refine⟨rfl,fun i j h=>by simp at h,fun _ _ h=>by simp at h,fun _=>by simp[er,ho],fun h=>by simp[er,ho]at h⟩
     ·cases he
    ·cases he
   ·cases he
  ·rename_i t x v ho
   split at he
   ·rename_i hd hx hc
    split at he
    ·rename_i hcond
     split at he
     ·rename_i s
      cases he
      refine⟨hd.symm,fun i j h=>?_,fun _ _ h=>by simp[dg]at h,fun _=>by simp[er,ho],fun _ u h=>?_⟩
      ·simp[dg]at h;exact⟨none,by simp[pd,ho,h],.inl rfl⟩
      ·simp at h;subst h;exact hcond.1
     ·cases he
      refine⟨hd.symm,fun i j h=>by simp at h,fun _ _ h=>by simp at h,fun _=>by simp[er,ho],fun _ u h=>?_⟩
      simp at h;subst h;exact hcond.1
    ·cases he
   ·cases he
  ·rename_i args ts ho;have key: ∀E,iz P tr S o args.toList ts.toList=some E→yj (er tr o) tr o S E:=by
    intro E he;unfold iz at he
    split at he
    ·rename_i s x t tx hargs hts;have hsr: ∀i j,dg s (.t i j)=true→ ∃k,(i,k)∈pd tr o∧(k=none∨k=some j):=by
      intro i j h;simp[dg]at h;exact⟨none,by simp[pd,ho,hargs,h],.inl rfl⟩
     split at he
     ·split at he
      ·split at he
       ·split at he
        ·split at he
         ·rename_i hbx
          split at he
          ·split at he
           ·cases he
            exact⟨rfl,hsr,fun _ _ h=>by simp[dg]at h,fun _=>by simp[er,ho,hbx],fun h=>by simp[er,ho,hbx]at h⟩
           ·cases he
          ·cases he
         ·split at he
          ·cases he
           exact⟨rfl,hsr,fun _ _ h=>by simp[dg]at h,fun h=>absurd rfl h,fun _ _ h=>by simp at h⟩
          ·cases he
        ·split at he
         ·rename_i hc;have hbx:=hc.2.2.2.2.2
          cases he
          exact⟨rfl,fun _ _ h=>by simp at h,fun _ _ h=>by simp at h,fun _=>by simp[er,ho,hbx],fun h=>by simp[er,ho,hbx]at h⟩
         ·cases he
        ·split at he
         ·split at he
          ·rename_i hc;have hbx:=hc.2.2.2.2.2.2
           cases he
           exact⟨rfl,fun _ _ h=>by simp at h,fun _ _ h=>by simp at h,fun _=>by simp[er,ho,hbx],fun h=>by simp[er,ho,hbx]at h⟩
          ·cases he
         ·cases he
        ·cases he
       ·cases he
      ·cases he
     ·cases he
    ·cases he
   split at he
   ·split at he
    ·rename_i m hsb
     split at he
     ·rename_i hrb;simp only[Option.bind_eq_some_iff]at he;obtain⟨E0,he0,hg⟩:=he;have hk:=key E0 he0;unfold mH at hg
      split at hg
      ·split at hg
       ·cases hg
        have h5:er tr o=5:=by simp[er,ho,hrb.2]
        exact⟨hk.dst,hk.clr,hk.bclr,fun _=>by omega,fun h=>by omega⟩
       ·cases hg
      ·cases hg
     ·cases he
    ·cases he
   ·exact key E he
  ·rename_i t ps ho
   split at he
   ·rename_i hnb;unfold wZ at he
    split at he
    ·rename_i _ _ _ _ _ hdd _ _
     split at he
     ·split at he
      ·cases he
       exact⟨hdd.symm,fun _ _ h=>by simp at h,fun _ _ h=>by simp at h,fun _=>by simp[er,ho,hnb],fun h=>by simp[er,ho,hnb]at h⟩
      ·cases he
     ·cases he
    ·cases he
   split at he
   ·rename_i how;simp only[Option.map_eq_some_iff]at he;obtain⟨r,hv,rfl⟩:=he;split
    ·rename_i s hb;refine⟨rfl,fun i j h=>?_,fun _ _ h=>by simp[dg]at h,fun h=>absurd rfl h,fun _ _ h=>by simp at h⟩
     simp[dg]at h;unfold fk at hb
     split at hb
     ·rename_i hps
      split at hb
      ·split at hb
       ·cases hb
        exact⟨none,by simp[pd,ho,how,hps,h],.inl rfl⟩
       ·cases hb
      ·cases hb
     ·cases hb
    ·exact⟨rfl,fun _ _ h=>by simp at h,fun _ _ h=>by simp at h,fun h=>absurd rfl h,fun _ _ h=>by simp at h⟩
   ·simp only[Option.map_eq_some_iff]at he;obtain⟨r,_,rfl⟩:=he;exact dE
  ·rename_i t len ps ho
   split at he
   ·rename_i hbx
    split at he
    ·unfold ll at he
     split at he
     ·split at he
      ·split at he
       ·cases he
        exact⟨rfl,fun i j h=>by simp at h,fun _ _ h=>by simp at h,fun _=>by simp[er,ho,hbx],fun h=>by simp[er,ho,hbx]at h⟩
       ·cases he
      ·cases he
     ·cases he
    unfold sk at he
    split at he
    ·rename_i d e i s hdd ht hps
     split at he
     ·split at he
      ·cases he
       refine⟨rfl,fun i j h=>?_,fun _ _ h=>by simp[dg]at h,fun _=>by simp[er,ho,hbx],fun h=>by simp[er,ho,hbx]at h⟩
       simp[dg]at h;exact⟨none,by simp[pd,ho,hbx,hps,h],.inl rfl⟩
      ·cases he
     ·cases he
    ·cases he
   ·simp only[Option.map_eq_some_iff]at he;obtain⟨r,_,rfl⟩:=he;exact dE
  ·rename_i t ho;unfold zn at he
   split at he
   ·cases he
    exact⟨rfl,fun _ _ h=>by simp at h,fun _ _ h=>by simp at h,fun _=>by simp[er,ho],fun h=>by simp[er,ho]at h⟩
   ·cases he
  ·rename_i t m k x ho;unfold uq at he
   split at he
   ·rename_i hdd _ _ _
    split at he
    ·rename_i hg;simp only[Option.map_eq_some_iff]at he;obtain⟨ps,_,rfl⟩:=he;refine⟨hdd.symm,fun _ _ h=>by simp at h,fun _ _ h=>by simp at h,fun _=>by simp[er,ho],fun _ u hu=>?_⟩
     simp at hu;subst hu;exact hg
    ·cases he
   ·cases he
  ·rename_i args ts ho;unfold x7 at he
   split at he
   ·split at he
    ·split at he
     ·rename_i hg
      cases he
      refine⟨rfl,fun _ _ h=>by simp at h,fun _ _ h=>by simp at h,fun _=>by simp[er,ho],fun _ u hu=>?_⟩
      simp at hu;subst hu;exact hg.1
     ·cases he
    ·cases he
   ·cases he
  ·rename_i t m k ok ho;simp only[Option.map_eq_some_iff]at he;obtain⟨r,_,rfl⟩:=he;exact dE
  ·rename_i src dst x ho
   split at he
   ·rename_i hfz;unfold uF at he
    split at he
    ·split at he
     ·exact tV (by simp[er,ho,hfz]) he
     ·cases he
    ·cases he
   ·simp only[Option.map_eq_some_iff]at he;obtain⟨r,_,rfl⟩:=he;exact dE
  ·simp only[Option.map_eq_some_iff]at he;obtain⟨r,_,rfl⟩:=he;exact dE
 ·cases he
theorem Kc{E:dp}(hn:oZ o.op=true)(he:dO P N tr S o=some E): ∀u∈E.bx,∃d,o.dst=some d∧u.n=S.fo+d:=by
 intro u hu;unfold dO at he
 split at he
 ·cases ho:o.op with
  |alloc e=>
   simp only[ho]at he
   split at he
   ·rename_i d z hd hz
    split at he
    ·cases he
     simp at hu;exact⟨d,hd,by rw[hu]⟩
    ·cases he
   ·cases he
  |box e x=>
   simp only[ho]at he
   split at he
   ·rename_i d cs hd hc
    split at he
    ·simp only[Option.map_eq_some_iff]at he;obtain⟨ds,_,rfl⟩:=he;simp at hu
    ·split at he
     ·unfold tG at he
      split at he
      ·split at he
       ·cases he
        simp at hu;exact⟨d,hd,by rw[hu]⟩
       ·cases he
      ·cases he
     cases he
     simp at hu;exact⟨d,hd,by rw[hu]⟩
   ·cases he
  |makeSlice t l c=>
   simp only[ho]at he
   split at he
   ·rename_i d e k1 n k2 m hd h1 h2 h3
    split at he
    ·split at he
     ·split at he
      ·cases he
       simp at hu
      ·cases he
       simp at hu;exact⟨d,hd,by rw[hu]⟩
     ·cases he
    ·cases he
   ·cases he
  |build t ps=>
   simp only[ho]at he
   split at he
   ·unfold wZ at he
    split at he
    ·rename_i d c sz ag r hd _ hv
     split at he
     ·split at he
      ·cases he
       simp at hu;exact⟨d,hd,by rw[hu]⟩
      ·cases he
     ·cases he
    ·cases he
   split at he
   ·simp only[Option.map_eq_some_iff]at he;obtain⟨r,_,rfl⟩:=he
    split at hu<;>simp at hu
   ·simp only[Option.map_eq_some_iff]at he;obtain⟨r,_,rfl⟩:=he;simp at hu
  |buildSlice t len ps=>
   simp only[ho]at he
   split at he
   ·split at he
    ·unfold ll at he
     split at he
     ·rename_i d e hd h1
      split at he
      ·split at he
       ·cases he
        simp at hu;exact⟨d,hd,by rw[hu]⟩
       ·cases he
      ·cases he
     ·cases he
    unfold sk at he
    split at he
    ·rename_i d e i s hd h1 h2
     split at he
     ·split at he
      ·cases he
       simp at hu;exact⟨d,hd,by rw[hu]⟩
      ·cases he
     ·cases he
    ·cases he
   ·simp only[Option.map_eq_some_iff]at he;obtain⟨r,_,rfl⟩:=he;simp at hu
  |_=>rw[ho]at hn;simp[oZ]at hn
 ·cases he
theorem I6{E:dp}{t:TypeId}{x v:Operand}(ho:o.op= .store t x v)(he:dO P N tr S o=some E): ∀u∈E.bx,∃g k,S.ev x= .ptr u.n g k:=by
 intro u hu;unfold dO at he
 split at he
 ·simp only[ho]at he
  split at he
  ·rename_i n g off cs _ hx _
   split at he
   ·split at he<;>(cases he;simp at hu;subst hu;exact⟨g,off,hx⟩)
   ·cases he
  ·cases he
 ·cases he
theorem EN{E:dp}(he:gx P N tr S o=some E):Shape tr o S E:=by
 unfold gx at he
 split at he
 ·rename_i hok0;have hok:=(aq.1 hok0).1;have h:=C1 he
  cases hq:gu tr o with
  |some q=>
   have hl:lvl tr o=20+q.1:=by simp[lvl,hq]
   obtain⟨hat,hnt⟩:=KY hq (aq.1 hok0).2;rcases Gu hq with hc|⟨t,s,ho⟩
   ·obtain⟨n1,n2⟩:=hnt (by rw[hc];rfl)
    have hl2:er tr o≤2:=by
     unfold er
     cases ho:o.op<;>rw[ho]at hc<;>simp[ej]at hc<;>simp[n1,n2]
    have hbx:E.bx= []:=Classical.byContradiction fun hb=>by have:=h.bx hb;omega
    exact⟨⟨h.dst,h.clr,fun n k hc=>by have:=h.bclr n k hc;omega,fun hb=>absurd hbx hb,fun h4=>by omega⟩,fun _=>hbx,fun h9=>by omega,fun h7=>by omega,fun m e u hu=>by rw[hbx]at hu;simp at hu,fun _=>hbx⟩
   ·have hl4:er tr o=4:=by simp[er,ho]
    refine⟨⟨h.dst,h.clr,fun n k hc=>by have:=h.bclr n k hc;omega,fun _=>by omega,fun h4=>by omega⟩,fun h6=>by omega,fun h9=>by omega,fun h7=>by omega,fun m e u hu=>?_,fun hr=>by simp[LG,ho,ej]at hr⟩
    obtain⟨g,k,hx⟩:=I6 ho he u hu;rw[hx]at hat;have:u.n=S.fo+q.1:=by simpa[vo]using hat
    have hm:q.1=m:=by omega
    rw[this,hm]
  |none=>
  have hr0:LG tr o=true→E.bx= []:=fun hr=>by simp[LG,hq]at hr
  cases hA:M0 tr o with
  |some d=>
   have hl:lvl tr o=20+d:=by simp[lvl,hq,hA]
   obtain⟨⟨e,ho⟩,hdd⟩:=CT hA;have hl5:er tr o=5:=by simp[er,ho]
   refine⟨⟨h.dst,h.clr,fun n k hc=>by have:=h.bclr n k hc;omega,fun _=>by omega,fun h4=>by omega⟩,fun h6=>by omega,fun h9=>by omega,fun h7=>by omega,fun m e2 u hu=>?_,hr0⟩
   obtain⟨d',hd',e3⟩:=Kc (by rw[ho];rfl) he u hu
   rw[hdd]at hd'
   cases hd'
   rw[e3];omega
  |none=>
  have hlv:lvl tr o=(if(A7 tr o&&(ej o.op).isSome)=true then 0 else if(A8 tr o&&(ej o.op).isSome)=true then 6 else if(A9 tr o&&(ej o.op).isSome)=true then 8 else if(HV tr o&&oZ o.op)=true then 7 else if(nF tr o&&s9 tr o&&nG o.op)=true then 9 else er tr o):=by simp only[lvl,hq,hA,Cr]
  have h5:=eJ tr o;have e0: ∀x,ej o.op=some x→lf tr o=false→iH tr o=false→er tr o≤2:=by
   intro x hx ht hf;unfold er
   cases ho:o.op<;>rw[ho]at hx<;>simp[ej]at hx<;>simp[ht,hf]
  have key: ∀x,ej o.op=some x→lf tr o=false→iH tr o=false→lvl tr o=0∨lvl tr o=6∨lvl tr o=8→Shape tr o S E:=by
   intro x hx ht hf hl;have:=e0 x hx ht hf;have hbx:E.bx= []:=Classical.byContradiction fun hb=>by have:=h.bx hb;omega
   exact⟨⟨h.dst,h.clr,fun n k hc=>by have:=h.bclr n k hc;omega,fun hb=>absurd hbx hb,fun h4=>by omega⟩,fun _=>hbx,fun h9=>by omega,fun h7=>by omega,fun m e=>by omega,hr0⟩
  by_cases dQ:(A7 tr o&&(ej o.op).isSome)=true
  ·rw[if_pos dQ]at hlv;have hcs2:=aq.1 dQ;obtain⟨x,hx⟩:=Option.isSome_iff_exists.1 hcs2.2;obtain⟨q1,q2,q3⟩:=Li hx hcs2.1 hok;exact key x hx q2 q3 (.inl hlv)
  ·rw[if_neg dQ]at hlv;by_cases hcm:(A8 tr o&&(ej o.op).isSome)=true
   ·rw[if_pos hcm]at hlv;have hcm2:=aq.1 hcm;obtain⟨x,hx⟩:=Option.isSome_iff_exists.1 hcm2.2;obtain⟨q1,q2,q3⟩:=Lh hx hcm2.1 hok;exact key x hx q2 q3 (.inr (.inl hlv))
   ·rw[if_neg hcm]at hlv;by_cases hcl:(A9 tr o&&(ej o.op).isSome)=true
    ·rw[if_pos hcl]at hlv;have hcl2:=aq.1 hcl;obtain⟨x,hx⟩:=Option.isSome_iff_exists.1 hcl2.2;obtain⟨q1,q2,q3⟩:=Lg hx hcl2.1 hok;exact key x hx q2 q3 (.inr (.inr hlv))
    rw[if_neg hcl]at hlv;by_cases hnw:(HV tr o&&oZ o.op)=true
    ·rw[if_pos hnw]at hlv;have hnw2:=aq.1 hnw;have hl0:er tr o≠3:=by
      unfold er;have:=hnw2.2
      cases ho:o.op<;>rw[ho]at this<;>simp[oZ]at this<;>simp
      all_goals (split<;>simp)
     refine⟨⟨h.dst,h.clr,fun n k hc=>absurd (h.bclr n k hc) hl0,fun _=>by omega,fun h4=>by omega⟩,fun h6=>by omega,fun h9=>by omega,fun _ u hu=>?_,fun m e=>by omega,hr0⟩
     obtain⟨d,hd,e⟩:=Kc hnw2.2 he u hu;have:=hnw2.1;unfold HV at this;rw[hd]at this;simp only[Bool.and_eq_true,decide_eq_true_eq]at this;rw[e];exact RV (by simpa using this.1) this.2 _
    ·rw[if_neg hnw]at hlv;by_cases hbg:(nF tr o&&s9 tr o&&nG o.op)=true
     ·have hbg2:=aq.1 hbg;have hbx:E.bx= []:=by
       have hb:=hbg2.2;unfold dO at he
       split at he
       ·cases ho:o.op with
        |call c=>
         obtain⟨cal,args,ts⟩:=c
         cases cal with
         |value x=>
          simp only[ho,fw,aZ]at he
          cases he
         |_=>rw[ho]at hb;simp[nG]at hb
        |_=>rw[ho]at hb;simp[nG]at hb
       ·cases he
      rw[if_pos hbg]at hlv;refine⟨⟨h.dst,h.clr,fun n k hc=>absurd (h.bclr n k hc) ?_,fun hb=>absurd hbx hb,fun h4=>by omega⟩,fun _=>hbx,fun _ u hu=>by rw[hbx]at hu;simp at hu,fun h7=>by omega,fun m e=>by omega,hr0⟩
      have hcb:=(aq.1 hbg2.1).2;have:=hbg2.2
      cases ho:o.op with
      |call c=>
       obtain⟨cal,args,ts⟩:=c
       cases cal with
       |value x=>simp[er,ho,hcb]
       |_=>rw[ho]at this;simp[nG]at this
      |_=>rw[ho]at this;simp[nG]at this
     ·rw[if_neg hbg]at hlv;exact⟨by rwa[hlv],fun h6=>by omega,fun h9=>by omega,fun h7=>by omega,fun m e=>by omega,hr0⟩
 ·cases he
theorem AV{E:dp}(hs:mS P N tr o S E):Shape tr o S E:=by
 unfold mS at hs
 split at hs
 ·rename_i x args ts ho;obtain⟨_,hs⟩:=hs
  split at hs
  ·rename_i hcb;obtain⟨f,caps,ns,fo,r,ro,post,_,_,_,hout,rfl⟩:=hs;by_cases hq:nF tr o=true
   ·have hl9:lvl tr o=9:=by simp[lvl,Cr,gu,M0,ej,oZ,nG,ho,hcb,hq]
    exact⟨⟨rfl,fun _ _ h=>by simp at h,fun _ _ h=>by simp at h,fun _=>by omega,fun h=>by omega⟩,fun h=>by omega,fun _=>hout hq,fun h=>by omega,fun m e=>by omega,fun hr=>by simp[LG,ho,ej]at hr⟩
   ·have hl5:lvl tr o=5:=by simp[lvl,Cr,gu,M0,er,ej,oZ,nG,ho,hcb,hq]
    exact⟨⟨rfl,fun _ _ h=>by simp at h,fun _ _ h=>by simp at h,fun _=>by omega,fun h=>by omega⟩,fun h=>by omega,fun h=>by omega,fun h=>by omega,fun m e=>by omega,fun hr=>by simp[LG,ho,ej]at hr⟩
  ·obtain⟨f,caps,r,ro,_,_,_,rfl⟩:=hs;exact⟨dE,fun _=>rfl,fun _ u hu=>by simp[tD]at hu,fun _ u hu=>by simp[tD]at hu,fun _ _ u hu=>by simp[tD]at hu,fun _=>rfl⟩
 ·exact EN hs
theorem yT{E:dp}(hs:IK P N tr ops o S E):Shape tr o S E:=by
 unfold IK at hs
 split at hs
 ·exact AV hs
 ·rw[hs.2];exact⟨dE,fun _=>rfl,fun _ u hu=>by simp[uP]at hu,fun _ u hu=>by simp[uP]at hu,fun _ _ u hu=>by simp[uP]at hu,fun _=>rfl⟩
end
section
variable {P:Program} {N:Nat} {tr:List Nat} {ops:Array Oper}
theorem Cs{x:Oper}{j:Nat}{want:Bool}{d:Nat}(hg:x.guard=some (j,want))(hd:(ops[j]?).bind (·.dst)=some d):d∈x.looksAt ops:=by
 unfold Oper.looksAt;rw[hg];simp only[hd];exact List.mem_append.2 (.inr (by simp))
theorem tR{x:Oper}{s:Nat}{k:Option Nat}(h:(s,k)∈pd tr x):s∈x.looksAt ops:=by
 have key: .tmp s∈x.op.operands.toList→s∈x.looksAt ops:=by
  intro hm;unfold Oper.looksAt;exact List.mem_append.2 (.inl (List.mem_filterMap.2 ⟨.tmp s,hm,rfl⟩))
 apply key
 unfold pd at h
 split at h
 ·rename_i ho;simp at h;rw[ho,h.1];simp[Op.operands]
 ·rename_i ho
  split at h
  ·simp at h;rw[ho,h.1];simp[Op.operands]
  ·simp at h
 ·rename_i ho;simp at h;rw[ho,h.1];simp[Op.operands]
 ·rename_i ho;simp at h;rw[ho,h.1];simp[Op.operands]
 ·rename_i args ts ho
  split at h
  ·rename_i s' r ha;simp at h;rw[ho,h.1];simp only[Op.operands,Call.operands];have:Operand.tmp s'∈args.toList:=by rw[ha];simp
   simpa using this
  ·simp at h
 ·rename_i ho
  split at h
  ·simp at h;rw[ho,h.1];simp[Op.operands]
  ·simp at h
 ·rename_i t ps ho
  split at h
  ·split at h
   ·rename_i i s' r ha;simp at h;rw[ho,h.1];simp only[Op.operands];have:(i,Operand.tmp s')∈ps.toList:=by rw[ha];simp
    simp at this⊢;exact⟨i,this⟩
   ·simp at h
  ·simp at h
 ·rename_i t l ps ho
  split at h
  ·split at h
   ·rename_i i s' r ha;simp at h;rw[ho,h.1];simp only[Op.operands];have:(i,Operand.tmp s')∈ps.toList:=by rw[ha];simp
    simp at this⊢;exact⟨i,this⟩
   ·simp at h
  ·simp at h
 ·simp at h
theorem lY{x y:Nat}(h:Gg x y=true):(x=5→y=0)∧(y=5→x=0)∧(x=4→y≤1)∧(y=4→x≤1)∧ ¬(x=3∧y=3)∧(x=7→y=0∨y=6)∧(y=7→x=0∨x=6)∧(x=9→y=0∨y=8)∧(y=9→x=0∨x=8)∧(20≤x→y=0∨(20≤y∧x≠y))∧(20≤y→x=0∨(20≤x∧x≠y)):=by
 simp only[Gg,Bool.and_eq_true,Bool.or_eq_true,bne_iff_ne,ne_eq,br,decide_eq_true_eq,Bool.not_eq_true',Bool.and_eq_false_iff,beq_eq_false_iff_ne]at h;obtain⟨⟨⟨⟨⟨⟨⟨⟨⟨⟨h10,h11⟩,h1⟩,h2⟩,h3⟩,h4⟩,h5⟩,h6⟩,h7⟩,h8⟩,h9⟩:=h;refine⟨fun e=>?_,fun e=>?_,fun e=>?_,fun e=>?_,fun e=>?_,fun e=>?_,fun e=>?_,fun e=>?_,fun e=>?_,fun e=>?_,fun e=>?_⟩<;>omega
theorem xg(o:Oper):lvl tr o≤9∨20≤lvl tr o:=by
 have:=eJ tr o;unfold lvl Cr
 repeat' split
 all_goals omega
theorem j0{l:List iL}{n:Nat}{u:iL}(h:cV l n=some u):u∈l∧u.n=n:=by
 induction l with
 |nil=>simp at h
 |cons v l ih=>
  simp only[cV]at h
  split at h
  ·rename_i e
   cases h
   exact⟨List.mem_cons_self,e⟩
  ·exact⟨al _ (ih h).1,(ih h).2⟩
theorem vt{x y:Oper}{S:PS}{E:dp}(hi:indep tr ops x y=true)(hs:Shape tr x S E):Alike tr ops y S (E.apply S)∧Alike tr ops y (E.apply S) S:=by
 simp only[indep,Bool.and_eq_true]at hi;obtain⟨⟨hap,hlv⟩,hsr⟩:=hi;obtain⟨ha1,ha2,ha3⟩:=Oper.apart_spec hap;have hdl: ∀i,i∈y.looksAt ops→E.dst≠some i:=by
  intro i hi e;rw[hs.dst]at e;exact ha1 i e hi
 have ht: ∀i,i∈y.looksAt ops→(E.apply S).t i=S.t i:=by
  intro i hi;simp only[dp.apply]
  cases hd:E.dst with
  |none=>rfl
  |some d=>
   have:i≠d:=fun e=>hdl i hi (by rw[hd,e])
   exact c6 _ _ this
 have ho: ∀s k,(s,k)∈pd tr y→ ∀j,(k=none∨k=some j)→(E.apply S).own (.t s j)=S.own (.t s j):=by
  intro s k hsk j hj;simp only[dp.apply];rw[if_neg (hdl s (tR hsk))];have:E.clr (.t s j)=false:=by
   cases hc:E.clr (.t s j)with
   |false=>rfl
   |true=>
    obtain⟨k',hk',hkj⟩:=hs.clr s j hc;have h1:=List.all_eq_true.1 hsr _ hk';have h2:=List.all_eq_true.1 h1 _ hsk;simp at h2;rcases hj with rfl|rfl<;>rcases hkj with rfl|rfl<;>simp at h2
  simp[this]
 rw[Bool.or_eq_true,Bool.and_eq_true]at hlv;rcases hlv.symm with hr|hlv
 ·have hbx:=hs.rd hr.1;have hcl: ∀n k,E.clr (.b n k)=false:=fun n k=>by
   cases hc:E.clr (.b n k)with
   |false=>rfl
   |true=>
    have h3:=hs.bclr n k hc;have:=L7 hr.1;omega
  have e1:(E.apply S).gen=S.gen:=by funext m;simp[dp.apply,hbx]
  have e2:(E.apply S).box=S.box:=by funext m;simp[dp.apply,hbx]
  have e3: ∀n k,(E.apply S).own (.b n k)=S.own (.b n k):=fun n k=>by simp[dp.apply,hbx,hcl]
  exact⟨⟨rfl,ht,fun _ _ _ _=>e1,fun _ _ _ _=>e2,fun _ n _=>⟨congrFun e1 n,congrFun e2 n⟩,fun _ n _=>⟨congrFun e1 n,congrFun e2 n⟩,fun _ _ _ _=>e3,fun m _=>⟨congrFun e1 _,congrFun e2 _,e3 _⟩,ho⟩,
   ⟨rfl,fun i hi=>(ht i hi).symm,fun _ _ _ _=>e1.symm,fun _ _ _ _=>e2.symm,fun _ n _=>⟨(congrFun e1 n).symm,(congrFun e2 n).symm⟩,fun _ n _=>⟨(congrFun e1 n).symm,(congrFun e2 n).symm⟩,fun _ _ _ _ n k=>(e3 n k).symm,fun m _=>⟨(congrFun e1 _).symm,(congrFun e2 _).symm,fun k=>(e3 _ k).symm⟩,fun s k hsk j hj=>(ho s k hsk j hj).symm⟩⟩
 obtain⟨l1,l2,l3,l4,l5,l6,l7,l8,l9,l10,l11⟩:=lY hlv;have hle:=xg (tr:=tr) x;have h45: ∀n u,cV E.bx n=some u→lvl tr x=4∨lvl tr x=5∨lvl tr x=7∨lvl tr x=9∨20≤lvl tr x:=by
  intro n u hf;have hne:E.bx≠ []:=fun e=>by rw[e]at hf;simp at hf
  have h4:=hs.bx hne;have h6:lvl tr x≠6:=fun e=>hne (hs.calm (.inl e))
  have h8:lvl tr x≠8:=fun e=>hne (hs.calm (.inr e))
  omega
 have hg:1≤lvl tr y→lvl tr y≠6→lvl tr y≠8→lvl tr y<20→(E.apply S).gen=S.gen:=by
  intro hy hy6 hy8 hy20
  funext m
  simp only[dp.apply]
  cases hf:cV E.bx m with
  |none=>rfl
  |some u=>
   rcases h45 m u hf with h|h|h|h|h
   ·obtain⟨hm,e⟩:=j0 hf;have:=hs.gen h u hm;rw[e]at this;exact this
   ·have:=l1 h;omega
   ·have:=l6 h;omega
   ·have:=l8 h;omega
   ·have:=l10 h;omega
 have hb:2≤lvl tr y→lvl tr y≠6→lvl tr y≠8→lvl tr y<20→(E.apply S).box=S.box:=by
  intro hy hy6 hy8 hy20
  funext m
  simp only[dp.apply]
  cases hf:cV E.bx m with
  |none=>rfl
  |some u=>
   rcases h45 m u hf with h|h|h|h|h
   ·have:=l3 h;omega
   ·have:=l1 h;omega
   ·have:=l6 h;omega
   ·have:=l8 h;omega
   ·have:=l10 h;omega
 have hcm:lvl tr y=6→ ∀n,zi tr S.fo n=true→(E.apply S).gen n=S.gen n∧(E.apply S).box n=S.box n:=by
  intro hy n hn;simp only[dp.apply]
  cases hf:cV E.bx n with
  |none=>exact⟨rfl,rfl⟩
  |some u=>
   rcases h45 n u hf with h|h|h|h|h
   ·have:=l3 h;omega
   ·have:=l1 h;omega
   ·obtain⟨hm,e⟩:=j0 hf;have:=hs.nw h u hm;rw[e,hn]at this
    cases this
   ·have:=l8 h;omega
   ·have:=l10 h;omega
 have hnr:lvl tr y=8→ ∀n,zi tr S.fo n=false→(E.apply S).gen n=S.gen n∧(E.apply S).box n=S.box n:=by
  intro hy n hn;simp only[dp.apply]
  cases hf:cV E.bx n with
  |none=>exact⟨rfl,rfl⟩
  |some u=>
   rcases h45 n u hf with h|h|h|h|h
   ·have:=l3 h;omega
   ·have:=l1 h;omega
   ·have:=l6 h;omega
   ·obtain⟨hm,e⟩:=j0 hf;have:=hs.out h u hm;rw[e,hn]at this
    cases this
   ·have:=l10 h;omega
 have hbo:3≤lvl tr y→lvl tr y≠6→lvl tr y≠8→lvl tr y<20→ ∀n k,(E.apply S).own (.b n k)=S.own (.b n k):=by
  intro hy hy6 hy8 hy20 n k;simp only[dp.apply]
  cases hf:cV E.bx n with
  |none=>
   have:E.clr (.b n k)=false:=by
    cases hc:E.clr (.b n k)with
    |false=>rfl
    |true=>
     have h3:=hs.bclr n k hc;have hy5:=xg (tr:=tr) y;have:lvl tr y=3∨lvl tr y=4∨lvl tr y=5∨lvl tr y=7∨lvl tr y=9:=by omega
     rcases this with h|h|h|h|h
     ·exact absurd ⟨h3,h⟩ l5
     ·have:=l4 h;omega
     ·have:=l2 h;omega
     ·have:=l7 h;omega
     ·have:=l9 h;omega
   simp[this]
  |some u=>
   rcases h45 n u hf with h|h|h|h|h
   ·have:=l3 h;omega
   ·have:=l1 h;omega
   ·have:=l6 h;omega
   ·have:=l8 h;omega
   ·have:=l10 h;omega
 have hfp: ∀m,lvl tr y=20+m→(E.apply S).gen (S.fo+m)=S.gen (S.fo+m)∧(E.apply S).box (S.fo+m)=S.box (S.fo+m)∧ ∀k,(E.apply S).own (.b (S.fo+m) k)=S.own (.b (S.fo+m) k):=by
  intro m hm;have hfu:cV E.bx (S.fo+m)=none:=by
   cases hf:cV E.bx (S.fo+m)with
   |none=>rfl
   |some u=>
    rcases h45 _ u hf with h|h|h|h|h
    ·have:=l3 h;omega
    ·have:=l1 h;omega
    ·have:=l6 h;omega
    ·have:=l8 h;omega
    ·obtain⟨hm2,e⟩:=j0 hf;have h1:=hs.fp (lvl tr x-20) (by omega) u hm2
     have h2:=l10 h;omega
  have hcl: ∀k,E.clr (.b (S.fo+m) k)=false:=by
   intro k
   cases hc:E.clr (.b (S.fo+m) k)with
   |false=>rfl
   |true=>
    have h3:=hs.bclr _ k hc;have h4:=l11 (by omega)
    omega
  refine⟨by simp only[dp.apply,hfu],by simp only[dp.apply,hfu],fun k=>by simp[dp.apply,hfu,hcl]⟩
 exact⟨⟨rfl,ht,hg,hb,hcm,hnr,hbo,hfp,ho⟩,⟨rfl,fun i hi=>(ht i hi).symm,fun h h6 h8 h20=>(hg h h6 h8 h20).symm,fun h h6 h8 h20=>(hb h h6 h8 h20).symm,fun h n hn=>⟨(hcm h n hn).1.symm,(hcm h n hn).2.symm⟩,fun h n hn=>⟨(hnr h n hn).1.symm,(hnr h n hn).2.symm⟩,fun h h6 h8 h20 n k=>(hbo h h6 h8 h20 n k).symm,fun m h=>⟨(hfp m h).1.symm,(hfp m h).2.1.symm,fun k=>((hfp m h).2.2 k).symm⟩,fun s k h j hj=>(ho s k h j hj).symm⟩⟩
theorem yU{o:Oper}{S S2:PS}(h:Alike tr ops o S S2){E:dp}(hs:IK P N tr ops o S E):IK P N tr ops o S2 E:=by
 have hg:gd ops o S2=gd ops o S:=by
  unfold gd
  cases ho:o.guard with
  |none=>rfl
  |some q=>
   obtain⟨j,want⟩:=q;simp only
   cases hd:(ops[j]?).bind (·.dst)with
   |none=>rfl
   |some d=>simp only[h.t d (Cs ho hd)]
 unfold IK at hs⊢;rw[hg];split
 ·rename_i hgt;rw[if_pos hgt]at hs;exact AW h hs
 ·rename_i hgt;rw[if_neg hgt]at hs;exact hs
theorem EE{x y:Oper}(h:indep tr ops x y=true):indep tr ops y x=true:=by
 simp only[indep,Bool.and_eq_true]at h⊢;obtain⟨⟨h1,h2⟩,h3⟩:=h;refine⟨⟨?_,?_⟩,?_⟩
 ·obtain⟨a1,a2,a3⟩:=Oper.apart_spec h1;unfold Oper.apart;simp only[Bool.and_eq_true];constructor
  ·cases hd:y.dst with
   |none=>rfl
   |some d=>
    have:=a3 d hd;have hne:x.dst≠some d:=fun e=>a2 d e hd
    simp[this,hne]
  ·cases hd:x.dst with
   |none=>rfl
   |some d=>
    have:=a1 d hd;simp[this]
 ·rw[Bool.or_eq_true,Bool.and_eq_true]at h2⊢;rcases h2.symm with h2|h2
  ·exact .inr ⟨h2.2,h2.1⟩
  left;obtain⟨l1,l2,l3,l4,l5,l6,l7,l8,l9,l10,l11⟩:=lY h2
  simp only[Gg,Bool.and_eq_true,Bool.or_eq_true,bne_iff_ne,ne_eq,br,decide_eq_true_eq,Bool.not_eq_true',Bool.and_eq_false_iff,beq_eq_false_iff_ne];omega
 ·unfold Nw at h3⊢;rw[List.all_eq_true]at h3⊢;intro p hp;rw[List.all_eq_true];intro q hq;have:=List.all_eq_true.1 (h3 q hq) p hp;simp only[Bool.not_eq_true',Bool.and_eq_false_iff,beq_eq_false_iff_ne,Bool.or_eq_false_iff]at this⊢;rcases this with h|h
  ·exact .inl fun e=>h e.symm
  ·exact .inr ⟨⟨h.1.2,h.1.1⟩,fun e=>h.2 e.symm⟩
theorem Fl{x y:Oper}{S S1:PS}{Ex Ey:dp}(hi:indep tr ops x y=true)(hx:Shape tr x S1 Ex)(hy:Shape tr y S1 Ey):Ey.apply (Ex.apply S)=Ex.apply (Ey.apply S):=by
 simp only[indep,Bool.and_eq_true]at hi;obtain⟨⟨hap,hlv⟩,hsr⟩:=hi;obtain⟨ha1,ha2,ha3⟩:=Oper.apart_spec hap;rw[Bool.or_eq_true,Bool.and_eq_true]at hlv;have hdd: ∀d,Ex.dst=some d→Ey.dst≠some d:=by
  intro d e1 e2;rw[hx.dst]at e1;rw[hy.dst]at e2;exact ha2 d e1 e2
 have hbb: ∀n,cV Ex.bx n=none∨cV Ey.bx n=none:=by
  intro n;rcases hlv.symm with hr|hlv
  ·exact .inl (by rw[hx.rd hr.1];rfl)
  obtain⟨l1,l2,l3,l4,l5,l6,l7,l8,l9,l10,l11⟩:=lY hlv
  cases h1:cV Ex.bx n with
  |none=>exact .inl rfl
  |some u=>
   cases h2:cV Ey.bx n with
   |none=>exact .inr rfl
   |some u2=>
    have b1:Ex.bx≠ []:=fun e=>by rw[e]at h1;simp at h1
    have b2:Ey.bx≠ []:=fun e=>by rw[e]at h2;simp at h2
    have e1:=hx.bx b1;have e2:=hy.bx b2;have e3:=xg (tr:=tr) x;have e6: ¬(lvl tr x=6∨lvl tr x=8):=fun e=>b1 (hx.calm e)
    have e7: ¬(lvl tr y=6∨lvl tr y=8):=fun e=>b2 (hy.calm e)
    have:lvl tr x=4∨lvl tr x=5∨lvl tr x=7∨lvl tr x=9∨20≤lvl tr x:=by omega
    rcases this with h|h|h|h|h
    ·have:=l3 h;omega
    ·have:=l1 h;omega
    ·have:=l6 h;omega
    ·have:=l8 h;omega
    ·obtain⟨m1,q1⟩:=j0 h1;obtain⟨m2,q2⟩:=j0 h2;have:=l10 h;have w1:=hx.fp (lvl tr x-20) (by omega) u m1
     have w2:=hy.fp (lvl tr y-20) (by omega) u2 m2
     omega
 have hcx: ∀i j,Ex.dst=some i→Ey.clr (.t i j)=false:=by
  intro i j e
  cases hc:Ey.clr (.t i j)with
  |false=>rfl
  |true=>
   obtain⟨k,hk,_⟩:=hy.clr i j hc;rw[hx.dst]at e;exact absurd (tR hk) (ha1 i e)
 have hcy: ∀i j,Ey.dst=some i→Ex.clr (.t i j)=false:=by
  intro i j e
  cases hc:Ex.clr (.t i j)with
  |false=>rfl
  |true=>
   obtain⟨k,hk,_⟩:=hx.clr i j hc;rw[hy.dst]at e;exact absurd (tR hk) (ha3 i e)
 have hbx:Ex.bx≠ []→ ∀n k,Ey.clr (.b n k)=false:=by
  intro e n k;rcases hlv.symm with hr|hlv
  ·exact absurd (hx.rd hr.1) e
  obtain⟨l1,l2,l3,l4,l5,l6,l7,l8,l9,l10,l11⟩:=lY hlv
  cases hc:Ey.clr (.b n k)with
  |false=>rfl
  |true=>
   have e1:=hx.bx e;have e2:=hy.bclr n k hc;have e3:=xg (tr:=tr) x;have e6: ¬(lvl tr x=6∨lvl tr x=8):=fun e6=>e (hx.calm e6)
   have:lvl tr x=4∨lvl tr x=5∨lvl tr x=7∨lvl tr x=9∨20≤lvl tr x:=by omega
   rcases this with h|h|h|h|h
   ·have:=l3 h;omega
   ·have:=l1 h;omega
   ·have:=l6 h;omega
   ·have:=l8 h;omega
   ·have:=l10 h;omega
 have hby:Ey.bx≠ []→ ∀n k,Ex.clr (.b n k)=false:=by
  intro e n k;rcases hlv.symm with hr|hlv
  ·exact absurd (hy.rd hr.2) e
  obtain⟨l1,l2,l3,l4,l5,l6,l7,l8,l9,l10,l11⟩:=lY hlv
  cases hc:Ex.clr (.b n k)with
  |false=>rfl
  |true=>
   have e1:=hy.bx e;have e2:=hx.bclr n k hc;have e3:=xg (tr:=tr) y;have e6: ¬(lvl tr y=6∨lvl tr y=8):=fun e6=>e (hy.calm e6)
   have:lvl tr y=4∨lvl tr y=5∨lvl tr y=7∨lvl tr y=9∨20≤lvl tr y:=by omega
   rcases this with h|h|h|h|h
   ·have:=l4 h;omega
   ·have:=l2 h;omega
   ·have:=l7 h;omega
   ·have:=l9 h;omega
   ·have:=l11 h;omega
 have et:(Ey.apply (Ex.apply S)).t=(Ex.apply (Ey.apply S)).t:=by
  simp only[dp.apply]
  cases h1:Ex.dst with
  |none=>rfl
  |some d=>
   cases h2:Ey.dst with
   |none=>rfl
   |some d'=>
    have hne:d≠d':=fun e=>hdd d h1 (by rw[h2,e])
    funext i
    simp only[fA];by_cases e1:i=d'
    ·have h3: ¬i=d:=fun e=>hne (e.symm.trans e1)
     rw[if_pos e1,if_neg h3,if_pos e1]
    ·by_cases e2:i=d
     ·rw[if_neg e1,if_pos e2,if_pos e2]
     ·rw[if_neg e1,if_neg e2,if_neg e2,if_neg e1]
 have eb:(Ey.apply (Ex.apply S)).box=(Ex.apply (Ey.apply S)).box:=by
  funext n
  simp only[dp.apply];rcases hbb n with h|h<;>simp only[h]
 have eg:(Ey.apply (Ex.apply S)).gen=(Ex.apply (Ey.apply S)).gen:=by
  funext n
  simp only[dp.apply];rcases hbb n with h|h<;>simp only[h]
 have eo:(Ey.apply (Ex.apply S)).own=(Ex.apply (Ey.apply S)).own:=by
  funext l
  cases l with
  |t i j=>
   simp only[dp.apply];by_cases e1:Ex.dst=some i
   ·have e2:Ey.dst≠some i:=hdd i e1;simp[e1,e2,hcx i j e1]
   ·by_cases e2:Ey.dst=some i
    ·simp[e1,e2,hcy i j e2]
    ·simp only[if_neg e1,if_neg e2]
     cases S.own (.t i j)<;>cases Ex.clr (.t i j)<;>cases Ey.clr (.t i j)<;>rfl
  |b n k=>
   simp only[dp.apply];have hcxx: ∀u,cV Ex.bx n=some u→Ey.clr (.b n k)=false:=fun u hu=>hbx (fun e=>by rw[e]at hu;simp at hu) n k
   have hcyy: ∀u,cV Ey.bx n=some u→Ex.clr (.b n k)=false:=fun u hu=>hby (fun e=>by rw[e]at hu;simp at hu) n k
   cases h1:cV Ex.bx n with
   |none=>
    cases h2:cV Ey.bx n with
    |none=>
     simp only
     cases S.own (.b n k)<;>cases Ex.clr (.b n k)<;>cases Ey.clr (.b n k)<;>rfl
    |some u2=>simp[hcyy u2 h2]
   |some u=>
    have h2:cV Ey.bx n=none:=by
     rcases hbb n with h|h
     ·rw[h1]at h;cases h
     ·exact h
    simp[h2,hcxx u h1]
 have ef:(Ey.apply (Ex.apply S)).fo=(Ex.apply (Ey.apply S)).fo:=rfl;generalize hA:Ey.apply (Ex.apply S)=A at et eb eg eo ef;generalize hB:Ex.apply (Ey.apply S)=B at et eb eg eo ef
 cases A
 cases B
 simp only at et eb eg eo ef;subst et eb eg eo ef;rfl
def Fs(P:Program)(N:Nat)(tr:List Nat)(ops:Array Oper):List Nat→PS→PS→Prop
 | [],S,S'=>S'=S
 |i::l,S,S'=> ∃o E,ops[i]? =some o∧IK P N tr ops o S E∧Fs P N tr ops l (E.apply S) S'
theorem y4{i:Nat}{oi:Oper}(hi:ops[i]? =some oi): ∀(l1:List Nat) (l2:List Nat) (S S':PS),(∀j∈l1,∀oj,ops[j]? =some oj→indep tr ops oj oi=true)→
 Fs P N tr ops (l1++i::l2) S S'→Fs P N tr ops (i::(l1++l2)) S S'
 | [],l2,S,S',_,h=>h
 |j::l1,l2,S,S',hind,h=>by
  simp only[List.cons_append,Fs]at h;obtain⟨oj,Ej,hj,hsj,hrest⟩:=h;have hr:=y4 hi l1 l2 _ _ (fun k hk=>hind k (al _ hk)) hrest
  simp only[Fs]at hr;obtain⟨o',Ei,hi',hsi,hrest2⟩:=hr;rw[hi]at hi'
  cases hi'
  have hd:=hind j List.mem_cons_self oj hj;have shj:=yT hsj;have hsi0:IK P N tr ops oi S Ei:=yU (vt hd shj).2 hsi;have shi:=yT hsi0;have hsj1:IK P N tr ops oj (Ei.apply S) Ej:=yU (vt (EE hd) shi).1 hsj;refine⟨oi,Ei,hi,hsi0,?_⟩;simp only[List.cons_append,Fs];refine⟨oj,Ej,hj,hsj1,?_⟩;rw[←Fl hd shj shi];exact hrest2
def jK(o:Oper):List Nat:=(o.after.toList.filter fun e=>Region.binds .any e).map (·.on)
def ID:List Oper→List (List Nat)→List (List Nat)
 | [],acc=>acc
 |o::r,acc=>ID r (acc++ [((jK o).flatMap fun k=>k::acc.getD k []).eraseDups])
def y8(tr:List Nat)(ops:Array Oper):Bool:=
 let A:=ID ops.toList []
 (List.range ops.size).all fun i=>((match ops[i]? with|some y=>(jK y).all fun k=>decide (k<i)|none=>true)&&(List.range i).all fun j=>
  (A.getD i []).contains j||(match ops[j]?,ops[i]? with|some x,some y=>indep tr ops x y|_,_=>true))
inductive yo(ops:Array Oper):Nat→Nat→Prop
 |one {j i:Nat} {o:Oper} (h:ops[i]? =some o) (hj:j∈jK o):yo ops j i
 |more {j k i:Nat} {o:Oper} (h:ops[i]? =some o) (hk:k∈jK o) (hj:yo ops j k):yo ops j i
theorem Ac: ∀(l:List Oper) (acc:List (List Nat)),(∀k,k<acc.length→ ∀j∈acc.getD k [],yo ops j k)→(∀k o,l[k]? =some o→ops[acc.length+k]? =some o)→
 ∀i,∀j∈(ID l acc).getD i [],yo ops j i
 | [],acc,h,_,i,j,hj=>by
   simp only[ID]at hj;by_cases hi:i<acc.length
   ·exact h i hi j hj
   ·rw[List.getD_eq_getElem?_getD,ar (by omega)]at hj
    simp at hj
 |o::r,acc,h,hl,i,j,hj=>by
  simp only[ID]at hj;refine Ac r _ (fun k hk j hj=>?_) (fun k o' hk=>?_) i j hj
  ·have hk':k<acc.length+1:=by simpa using hk
   rcases Nat.lt_or_eq_of_le (Nat.le_of_lt_succ hk')with hk2|hk2
   ·rw[List.getD_eq_getElem?_getD,List.getElem?_append_left hk2,←List.getD_eq_getElem?_getD]at hj;exact h k hk2 j hj
   ·subst hk2;rw[List.getD_eq_getElem?_getD,List.getElem?_append_right (Nat.le_refl _)]at hj;simp at hj;have ho:ops[acc.length]? =some o:=by
     have:=hl 0 o rfl
     simpa using this
    obtain⟨k,hk,hjk⟩:=hj;rcases hjk with rfl|hjk
    ·exact .one ho hk
    ·by_cases hka:k<acc.length
     ·exact .more ho hk (h k hka j (by rw[List.getD_eq_getElem?_getD];exact hjk))
     ·rw[ar (by omega)]at hjk
      simp at hjk
  ·have:=hl (k+1) o' (by simpa using hk)
   rw[List.length_append,List.length_singleton,show acc.length+1+k=acc.length+(k+1) by omega]
   exact this
theorem DO(h:y8 tr ops=true){i j:Nat}(hi:i<ops.size)(hj:j<i):yo ops j i∨ ∀x y,ops[j]? =some x→ops[i]? =some y→indep tr ops x y=true:=by
 have h1:=List.all_eq_true.1 h i (List.mem_range.2 hi);rw[Bool.and_eq_true]at h1;have h2:=List.all_eq_true.1 h1.2 j (List.mem_range.2 hj);simp only[Bool.or_eq_true]at h2;rcases h2 with h2|h2
 ·left;have:j∈(ID ops.toList []).getD i []:=by simpa using h2
  exact Ac ops.toList [] (fun k hk=>by simp at hk) (fun k o ho=>by simpa using ho) i j this
 ·right;intro x y hx hy
  rw[hx,hy]at h2;exact h2
theorem Jp(h:y8 tr ops=true){i:Nat}{o:Oper}(ho:ops[i]? =some o): ∀k∈jK o,k<i:=by
 have hi:i<ops.size:=(aH.1 ho).1;have h1:=List.all_eq_true.1 h i (List.mem_range.2 hi);rw[Bool.and_eq_true,ho]at h1;intro k hk
 simpa using List.all_eq_true.1 h1.1 k hk
section
variable {tch:Env} {w0:World} {fr0:Nat→Option Nat} {Q:Exit→Act→World→Prop}
theorem y0(hG:qt P tch w0)(hN:se N ops=true): ∀(l:List Nat) (S S':PS) (a:Act) (w:World) (fr:Nat→Option Nat) (β:Nat→hU),Fs P N tr ops l S S'→dC N tch w0 fr0 S a w fr β→
 (∀a' w' fr' β',dC N tch w0 fr0 S' a' w' fr' β'→Q .normal a' w')→wpOps P ops Q l a w
 | [],S,S',a,w,fr,β,hr,hS,hQ=>by
   simp only[Fs]at hr;subst hr;exact hQ a w fr β hS
 |i::l,S,S',a,w,fr,β,hr,hS,hQ=>by
  simp only[Fs]at hr;obtain⟨o,E,hi,hs,hrest⟩:=hr;rw[wpOps_cons];exact yS hG hS hN hi hs fun a' w' fr' β' hS'=>y0 hG hN l _ S' a' w' fr' β' hrest hS' hQ
theorem wH{listed:Array Bool}{i:Nat}(h:i∈Region.ready .any ops listed):i<ops.size∧listed.getD i true=false∧ ∀o,ops[i]? =some o→ ∀k∈jK o,listed.getD k false=true:=by
 unfold Region.ready at h;rw[List.mem_filter]at h;obtain⟨h1,h2⟩:=h;have hi:i<ops.size:=by simpa using h1
 simp only[Bool.and_eq_true,Bool.not_eq_true']at h2;refine⟨hi,h2.1,fun o ho k hk=>?_⟩
 have h3:=h2.2;rw[ho]at h3;simp only[Option.map_some,Option.getD_some]at h3;unfold jK at hk;rw[List.mem_map]at hk;obtain⟨e,he,rfl⟩:=hk;rw[List.mem_filter]at he;have h4:=Array.all_eq_true_iff_forall_mem.1 h3 e (by simpa using he.1)
 simp only[Bool.or_eq_true,Bool.not_eq_true']at h4;rcases h4 with h4|h4
 ·rw[he.2]at h4;cases h4
 ·exact h4
theorem G5(hG:qt P tch w0)(hN:se N ops=true)(hok:y8 tr ops=true): ∀(fuel:Nat) (l:List Nat) (listed:Array Bool) (S S':PS) (a:Act) (w:World) (fr:Nat→Option Nat) (β:Nat→hU),
 listed.size=ops.size→l.Pairwise (· < ·)→(∀i,i∈l↔(i<ops.size∧listed.getD i true=false))→l.length≤fuel→
 (∀i o,ops[i]? =some o→listed.getD i false=true→ ∀k∈jK o,listed.getD k false=true)→
 Fs P N tr ops l S S'→dC N tch w0 fr0 S a w fr β→(∀a' w' fr' β',dC N tch w0 fr0 S' a' w' fr' β'→Q .normal a' w')→wpAny P .any ops Q fuel listed a w:=by
 intro fuel
 induction fuel with
 |zero=>
  intro l listed S S' a w fr β hsz hpw hmem hlen hcl hr hS hQ;obtain rfl:l= []:=List.eq_nil_of_length_eq_zero (by omega)
  simp only[Fs]at hr;subst hr;refine⟨?_,hQ a w fr β hS⟩;refine List.eq_nil_iff_forall_not_mem.2 fun i hi=>?_
  have:=wH hi;exact absurd ((hmem i).2 ⟨this.1,this.2.1⟩) (by simp)
 |succ fuel ih=>
  intro l listed S S' a w fr β hsz hpw hmem hlen hcl hr hS hQ;refine⟨fun hnil=>?_,fun i hi=>?_⟩
  ·cases l with
   |nil=>
    simp only[Fs]at hr;subst hr;exact hQ a w fr β hS
   |cons i l=>
    exfalso
    have hm:=(hmem i).1 List.mem_cons_self;have hin:i∈Region.ready .any ops listed:=by
     unfold Region.ready;refine List.mem_filter.2 ⟨List.mem_range.2 hm.1,?_⟩;rw[hm.2];simp only[Bool.not_false,Bool.true_and];rw[Array.getElem?_eq_getElem hm.1];simp only[Option.map_some,Option.getD_some];refine Array.all_eq_true_iff_forall_mem.2 fun e he=>?_
     cases hb:Region.binds .any e with
     |false=>simp
     |true=>
      have hk:e.on∈jK ops[i]:=by
       unfold jK;exact List.mem_map.2 ⟨e,List.mem_filter.2 ⟨by simpa using he,hb⟩,rfl⟩
      have hlt:=Jp hok (Array.getElem?_eq_getElem hm.1) _ hk
      cases hl:listed.getD e.on false with
      |true=>simp
      |false=>
       have hsz2:e.on<listed.size:=by omega
       have:listed.getD e.on true=false:=by
        rw[Array.getD_eq_getD_getElem?,Array.getElem?_eq_getElem hsz2]at hl⊢;exact hl
       have hmem2:=(hmem e.on).2 ⟨by omega,this⟩
       rcases List.mem_cons.1 hmem2 with h|h
       ·omega
       ·have:=(List.pairwise_cons.1 hpw).1 _ h;omega
    rw[hnil]at hin
    cases hin
  ·obtain⟨hlt,hnl,hbf⟩:=wH hi;have hil:=(hmem i).2 ⟨hlt,hnl⟩;obtain⟨l1,l2,rfl⟩:=List.append_of_mem hil;have hoi:ops[i]? =some ops[i]:=Array.getElem?_eq_getElem hlt
   --what must go ahead has gone
   have hah: ∀j i',yo ops j i'→(∀o,ops[i']? =some o→ ∀k∈jK o,listed.getD k false=true)→listed.getD j false=true:=by
    intro j i' hA
    induction hA with
    |one h hj=>intro hb;exact hb _ h _ hj
    |more h hk _ ih2=>intro hb;exact ih2 fun o ho=>hcl _ o ho (hb _ h _ hk)
   have hpw':=List.pairwise_append.1 hpw;have hind: ∀j∈l1,∀oj,ops[j]? =some oj→indep tr ops oj ops[i]=true:=by
    intro j hj oj hoj;have hjlt:j<i:=hpw'.2.2 j hj i List.mem_cons_self;rcases DO hok hlt hjlt with hA|hI
    ·have h1:=hah j i hA hbf;have h2:=((hmem j).1 (aG _ hj)).2;have hjs:j<listed.size:=by omega
     rw[Array.getD_eq_getD_getElem?,Array.getElem?_eq_getElem hjs]at h1 h2;simp at h1 h2;rw[h1]at h2
     cases h2
    ·exact hI oj ops[i] hoj hoi
   have hr2:=y4 hoi l1 l2 S S' hind hr;simp only[Fs]at hr2;obtain⟨o,E,ho,hs,hrest⟩:=hr2;rw[hoi]at ho
   cases ho
   refine yS hG hS hN hoi hs fun a' w' fr' β' hS'=>?_
   have his:i<listed.size:=by omega
   have hget: ∀k b,(listed.setIfInBounds i true).getD k b=if k=i then true else listed.getD k b:=by
    intro k b;rw[Array.getD_eq_getD_getElem?,bh,Array.getD_eq_getD_getElem?];by_cases e:i=k
    ·subst e;simp[his]
    ·have e': ¬k=i:=fun h=>e h.symm
     simp[e,e']
   refine ih (l1++l2) (listed.setIfInBounds i true) (E.apply S) S' a' w' fr' β' (by simpa using hsz) ?_ (fun k=>?_) ?_ (fun k o ho hk q hq=>?_) hrest hS' hQ
   ·exact List.pairwise_append.2 ⟨hpw'.1,(List.pairwise_cons.1 hpw'.2.1).2,fun x hx y hy=>hpw'.2.2 x hx y (al _ hy)⟩
   ·rw[hget];constructor
    ·intro hk;have hk2:k∈l1++i::l2:=by
      rcases List.mem_append.1 hk with h|h
      ·exact aG _ h
      ·exact aP _ (al _ h)
     have hne:k≠i:=by
      intro e;subst e;rcases List.mem_append.1 hk with h|h
      ·have:=hpw'.2.2 k h k List.mem_cons_self;omega
      ·have:=(List.pairwise_cons.1 hpw'.2.1).1 k h;omega
     rw[if_neg hne]
     exact(hmem k).1 hk2
    ·rintro⟨hk1,hk2⟩;by_cases e:k=i
     ·rw[if_pos e]at hk2;cases hk2
     ·rw[if_neg e]at hk2;have:=(hmem k).2 ⟨hk1,hk2⟩;rcases List.mem_append.1 this with h|h
      ·exact aG _ h
      ·rcases List.mem_cons.1 h with h|h
       ·exact absurd h e
       ·exact aP _ h
   ·simp at hlen⊢;omega
   ·rw[hget]at hk⊢;by_cases e:q=i
    ·rw[if_pos e]
    ·rw[if_neg e];by_cases e2:k=i
     ·subst e2;rw[hoi]at ho
      cases ho
      exact hbf _ hoi q hq
     ·rw[if_neg e2]at hk;exact hcl k o ho hk q hq
end
end
end BoEng
