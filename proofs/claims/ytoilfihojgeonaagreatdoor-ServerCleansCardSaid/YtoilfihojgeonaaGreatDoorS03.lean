/- The engine, texts R to Z. -/
import Derived.Test.YtoilfihojgeonaaGreatDoorS02
import Derived.ProofKit
import Derived.OpenShut
import Derived.ShutString
import Derived.ChangeOld
import Derived.Carry
set_option linter.unusedVariables false
set_option linter.unusedSimpArgs false
namespace BoEng
open Go Go.RowKit
def noGoto(Q:Exit→Act→World→Prop)(e:Exit)(a:Act)(w:World):Prop:=match e with| .goto _=>False|e=>Q e a w
theorem IN{P:Program}{c:Code}{Q:Exit→Act→World→Prop}{a:Act}{w:World}(h:c.wp P (noGoto Q) a w):(Code.scope c).wp P Q a w:=by
 intro b k cs;have hs: ∀a w,step P (lone (b.at a (.code (.scope c)::k)) cs w)= .next (lone (b.at a (.code c:: .inScope c::k)) cs w):=
  fun a w=>step_lone_go (by simp[stepG,stepG.exec,Frame.at])
 have he: ∀a w,step P (lone (b.at a (.inScope c::k)) cs w)= .next (lone (b.at a k) cs w):=
  fun a w=>step_lone_go (by simp[stepG,stepG.exec,Frame.at])
 obtain⟨e,a₁,w₁,hq,harr⟩:=h b (.inScope c::k) cs
 cases e with
 |normal=>exact⟨.normal,a₁,w₁,hq,.head (hs a w) (Steps.trans harr (.one (he a₁ w₁)))⟩
 |exit id'=>exact⟨.exit id',a₁,w₁,hq,fun k' hk=> .head (hs a w) (harr k' (by simp[exitTo,hk]))⟩
 |goto l=>exact hq.elim
 |ret=>exact⟨_,a₁,w₁,hq,.of_steps (.one (hs a w)) harr⟩
 |panic ch=>exact⟨_,a₁,w₁,hq,.of_steps (.one (hs a w)) harr⟩
 |outgrown=>exact⟨_,a₁,w₁,hq,.of_steps (b:=b) (k:=k) (cs:=cs) (e:= .outgrown) (.one (hs a w)) harr⟩
def DZ(P:Program)(N:Nat)(tr:List Nat)(o:Oper)(S:PS)(K:PS→Prop):Prop:=
 match o.op with
 | .call ⟨.value x,args,_⟩=>gG N o=true∧
   match yE (S.ev x) args.toList.isEmpty with
   |some (f,caps)=>
    if s9 tr o=true then∃(ns:List Nat) (fo:Nat) (r:PV) (ro:Nat→Bool) (post:List iL),(∀n∈ns,0<S.gen n)∧de P fo (fun n=>S.gen n+1) f (args.toList.map S.ev++caps) (ns.map (snap S)) r ro post∧(nF tr o=true→ ∀u∈post,zi tr S.fo u.n=true)∧K ((⟨o.dst,r,ro,fun _=>false,post⟩:dp).apply S)
    else(args.toList.map S.ev++caps).all fZ=true∧ ∃r ro,cD P f (args.toList.map S.ev++caps) r ro∧K ((tD o r ro).apply S)
   |none=>False
 |_=>
  match gx P N tr S o with
  |some E=>K (E.apply S)
  |none=>False
def Jh(P:Program)(N:Nat)(tr:List Nat)(ops:Array Oper):List Oper→(PS→Prop)→PS→Prop
 | [],Q,S=>Q S
 |o::l,Q,S=>if gd ops o S=true then DZ P N tr o S (Jh P N tr ops l Q)else gG N o=true∧Jh P N tr ops l Q ((uP o).apply S)
def yp(P:Program)(N:Nat)(tr:List Nat):Code→(Exit→PS→Prop)→PS→Prop
 | .skip,Q,S=>Q .normal S
 | .region _ ops _,Q,S=>Jh P N tr ops ops.toList (Q .normal) S
 | .seq a b,Q,S=>yp P N tr a (fun e S'=>match e with| .normal=>yp P N tr b Q S'|e=>Q e S') S
 | .cond c a b,Q,S=>match S.ev c with| .d (.bool t)=>if t=true then yp P N tr a Q S else yp P N tr b Q S|_=>False
 | .block id c,Q,S=>yp P N tr c (fun e S'=>match e with| .exit id'=>if id'=id then Q .normal S' else Q (.exit id') S'|e=>Q e S') S
 | .loop c,Q,S=> ∃(I:PS→Prop) (μ:PS→Nat),I S∧ ∀S1,I S1→yp P N tr c (fun e S'=>match e with| .normal=>I S'∧μ S'<μ S1|e=>Q e S') S1
 | .scope c,Q,S=>yp P N tr c Q S
 | .exit id,Q,S=>Q (.exit id) S
 | .label _,Q,S=>Q .normal S
 | .ret,Q,S=>Q .ret S
 |_,_,_=>False
def codeOk(N:Nat)(tr:List Nat):Code→Bool
 | .skip=>true
 | .region _ ops draw=>se N ops&&(!draw||y8 tr ops)
 | .seq a b=>codeOk N tr a&&codeOk N tr b
 | .cond _ a b=>codeOk N tr a&&codeOk N tr b
 | .block _ c=>codeOk N tr c
 | .loop c=>codeOk N tr c
 | .scope c=>codeOk N tr c
 | .exit _=>true
 | .label _=>true
 | .ret=>true
 |_=>false
section
variable {P:Program} {N:Nat} {tr:List Nat} {ops:Array Oper}
theorem JL{o:Oper}{S:PS}{K:PS→Prop}(h:DZ P N tr o S K): ∃E,mS P N tr o S E∧K (E.apply S):=by
 have key:(match gx P N tr S o with|some E=>K (E.apply S)|none=>False)→ ∃E,gx P N tr S o=some E∧K (E.apply S):=by
  intro h
  split at h
  ·rename_i E he;exact⟨E,he,h⟩
  ·exact h.elim
 unfold DZ at h;unfold mS
 cases ho:o.op with
 |call c=>
  obtain⟨cal,args,ts⟩:=c
  cases cal with
  |value x=>
   simp only[ho]at h⊢;obtain⟨hd,h⟩:=h
   split at h
   ·rename_i f caps hx
    split at h
    ·rename_i hcb;obtain⟨ns,fo,r,ro,post,hns,hM,hout,hK⟩:=h;exact⟨_,⟨hd,by rw[if_pos hcb];exact⟨f,caps,ns,fo,r,ro,post,hx,hns,hM,hout,rfl⟩⟩,hK⟩
    ·rename_i hcb;obtain⟨hall,r,ro,hH,hK⟩:=h;exact⟨_,⟨hd,by rw[if_neg hcb];exact⟨f,caps,r,ro,hx,hall,hH,rfl⟩⟩,hK⟩
   ·exact h.elim
  |_=>simp only[ho]at h⊢;exact key h
 |_=>simp only[ho]at h⊢;exact key h
theorem AB: ∀(l:List Oper) (k:Nat) (Q:PS→Prop) (S:PS),l=ops.toList.drop k→Jh P N tr ops l Q S→ ∃S',Fs P N tr ops (List.range' k l.length) S S'∧Q S'
 | [],k,Q,S,_,h=>⟨S,rfl,h⟩
 |o::l,k,Q,S,hl,h=>by
  have hk:ops.toList[k]? =some o:=by
   have:=congrArg (fun l=>l[0]?) hl
   simp at this
   simpa using this.symm
  have hl':l=ops.toList.drop (k+1):=by
   have:=congrArg List.tail hl;simp at this
   simpa using this
  unfold Jh at h;rw[List.length_cons,List.range'_succ];simp only[Fs]
  split at h
  ·rename_i hg;obtain⟨E,hs,hK⟩:=JL h;obtain⟨S',hr,hQ⟩:=AB l (k+1) Q _ hl' hK;exact⟨S',⟨o,E,by simpa using hk,by unfold IK;rw[if_pos hg];exact hs,hr⟩,hQ⟩
  ·rename_i hg;obtain⟨S',hr,hQ⟩:=AB l (k+1) Q _ hl' h.2;exact⟨S',⟨o,uP o,by simpa using hk,by unfold IK;rw[if_neg hg];exact⟨h.1,rfl⟩,hr⟩,hQ⟩
variable {tch:Env} {w0:World} {fr0:Nat→Option Nat}
theorem dC.drawn{S:PS}{a:Act}{w:World}{fr:Nat→Option Nat}{β:Nat→hU}(h:dC N tch w0 fr0 S a w fr β):dC N tch w0 fr0 S a {w with drawn:=w.drawn+1} fr β:=
 h.fresh ⟨rfl,rfl,rfl,Nat.le_refl _,fun _ _=>rfl,fun _ _=>rfl,h.frb⟩
theorem np{c:Code}: ∀ {Q Q':Exit→PS→Prop} {S:PS},(∀e S,Q e S→Q' e S)→yp P N tr c Q S→yp P N tr c Q' S:=by
 have rmono: ∀(ops:Array Oper) (l:List Oper) {Q Q':PS→Prop} {S:PS},(∀S,Q S→Q' S)→Jh P N tr ops l Q S→Jh P N tr ops l Q' S:=by
  intro ops l
  induction l with
  |nil=>intro Q Q' S hq h;exact hq S h
  |cons o l ih=>
   intro Q Q' S hq h;unfold Jh at h⊢
   split at h
   ·rename_i hg;rw[if_pos hg];unfold DZ at h⊢
    split at h
    ·refine⟨h.1,?_⟩;have h2:=h.2
     split at h2
     ·split at h2
      ·rename_i hcb;obtain⟨ns,fo,r,ro,post,hns,hM,hout,hK⟩:=h2;rw[if_pos hcb];exact⟨ns,fo,r,ro,post,hns,hM,hout,ih hq hK⟩
      ·rename_i hcb;obtain⟨ha,r,ro,hH,hK⟩:=h2;rw[if_neg hcb];exact⟨ha,r,ro,hH,ih hq hK⟩
     ·exact h2.elim
    ·split at h
     ·exact ih hq h
     ·exact h.elim
   ·rename_i hg;rw[if_neg hg];exact⟨h.1,ih hq h.2⟩
 induction c with
 |skip=>intro Q Q' S hq h;exact hq _ _ h
 |region id ops draw=>intro Q Q' S hq h;exact rmono ops _ (fun S hS=>hq .normal S hS) h
 |seq a b iha ihb=>
  intro Q Q' S hq h;refine iha (fun e S hS=>?_) h
  cases e<;>first|exact ihb hq hS|exact hq _ _ hS
 |cond c a b iha ihb=>
  intro Q Q' S hq h;unfold yp at h⊢
  split at h
  ·split at h
   ·rename_i ht;rw[if_pos ht];exact iha hq h
   ·rename_i ht;rw[if_neg ht];exact ihb hq h
  ·exact h.elim
 |block id c ih=>
  intro Q Q' S hq h;refine ih (fun e S hS=>?_) h
  cases e with
  |exit id'=>
   simp only at hS⊢
   split at hS
   ·rename_i e;rw[if_pos e];exact hq _ _ hS
   ·rename_i e;rw[if_neg e];exact hq _ _ hS
  |_=>exact hq _ _ hS
 |loop c ih=>
  intro Q Q' S hq h;obtain⟨I,μ,h0,hr⟩:=h;refine⟨I,μ,h0,fun S1 h1=>ih (fun e S hS=>?_) (hr S1 h1)⟩
  cases e<;>first|exact hS|exact hq _ _ hS
 |scope c ih=>intro Q Q' S hq h;exact ih hq h
 |exit id=>intro Q Q' S hq h;exact hq _ _ h
 |label l=>intro Q Q' S hq h;exact hq _ _ h
 |ret=>intro Q Q' S hq h;exact hq _ _ h
 |_=>intro Q Q' S hq h;exact h.elim
def scQ(Q:Exit→PS→Prop)(e:Exit)(S:PS):Prop:=match e with| .goto _=>False|e=>Q e S
theorem OG: ∀ {c:Code} {Q:Exit→PS→Prop} {S:PS},yp P N tr c Q S→yp P N tr c (scQ Q) S:=by
 intro c
 induction c with
 |skip=>intro Q S h;exact h
 |region id ops draw=>intro Q S h;exact h
 |seq a b iha ihb=>
  intro Q S h;unfold yp;refine np (fun e S hS=>?_) (iha h)
  cases e with
  |normal=>exact ihb hS
  |_=>exact hS
 |cond c a b iha ihb=>
  intro Q S h;unfold yp at h⊢
  split at h
  ·rename_i t hc
   try(rw[hc];simp only)
   split at h
   ·rename_i ht;rw[if_pos ht];exact iha h
   ·rename_i ht;rw[if_neg ht];exact ihb h
  ·exact h.elim
 |block id c ih=>
  intro Q S h;unfold yp;refine np (fun e S hS=>?_) (ih h)
  cases e with
  |exit id'=>
   simp only[scQ]at hS⊢
   split at hS
   ·rename_i e;rw[if_pos e];exact hS
   ·rename_i e;rw[if_neg e];exact hS
  |_=>exact hS
 |loop c ih=>
  intro Q S h;obtain⟨I,μ,h0,hr⟩:=h;refine⟨I,μ,h0,fun S1 h1=>np (fun e S hS=>?_) (ih (hr S1 h1))⟩
  cases e<;>exact hS
 |scope c ih=>intro Q S h;exact ih h
 |exit id=>intro Q S h;exact h
 |label l=>intro Q S h;exact h
 |ret=>intro Q S h;exact h
 |_=>intro Q S h;exact h.elim
theorem zd(hG:qt P tch w0)(hm:P.follows .mixedOrders=true): ∀(c:Code),codeOk N tr c=true→ ∀(Q:Exit→PS→Prop) (S:PS),yp P N tr c Q S→ ∀(a:Act) (w:World) (fr:Nat→Option Nat) (β:Nat→hU),dC N tch w0 fr0 S a w fr β→
 c.wp P (fun e a' w'=> ∃S' fr' β',Q e S'∧dC N tch w0 fr0 S' a' w' fr' β') a w:=by
 intro c
 induction c with
 |skip=>intro _ Q S h a w fr β hS;exact wp_skip ⟨S,fr,β,h,hS⟩
 |region id ops draw=>
  intro hok Q S h a w fr β hS;simp only[codeOk,Bool.and_eq_true,Bool.or_eq_true,Bool.not_eq_true']at hok;obtain⟨S',hr,hQ⟩:=AB ops.toList 0 (Q .normal) S (by simp) h
  cases draw with
  |false=>
   refine wp_region ?_;have:List.range' 0 ops.toList.length=List.range ops.size:=by rw[List.range_eq_range'];simp
   rw[this]at hr;exact y0 (tch:=tch) (w0:=w0) (fr0:=fr0) hG hok.1 _ S S' a w fr β hr hS fun a' w' fr' β' h'=>⟨S',fr',β',hQ,h'⟩
  |true=>
   have hreg:y8 tr ops=true:=by
    rcases hok.2 with h|h
    ·cases h
    ·exact h
   refine wp_region_any hm ?_;have e1:List.range' 0 ops.toList.length=List.range ops.size:=by rw[List.range_eq_range'];simp
   rw[e1]at hr;refine G5 (tch:=tch) (w0:=w0) (fr0:=fr0) hG hok.1 hreg ops.size (List.range ops.size) _ S S' a _ fr β (by simp) ?_ (fun i=>?_) (by simp) (fun i o ho hl=>?_) hr hS.drawn fun a' w' fr' β' h'=>⟨S',fr',β',hQ,h'⟩
   ·exact List.pairwise_lt_range
   ·simp only[List.mem_range,Array.getD_eq_getD_getElem?,aS];constructor
    ·intro hi;exact⟨hi,by simp[hi]⟩
    ·intro hi;exact hi.1
   ·exfalso
    simp only[Array.getD_eq_getD_getElem?,aS]at hl
    split at hl<;>simp at hl
 |seq x y ihx ihy=>
  intro hok Q S h a w fr β hS;simp only[codeOk,Bool.and_eq_true]at hok;refine wp_seq (wp_mono (ihx hok.1 _ S h a w fr β hS) fun e a' w' hq=>?_)
  obtain⟨S',fr',β',hq,hS'⟩:=hq
  cases e with
  |normal=>exact ihy hok.2 Q S' hq a' w' fr' β' hS'
  |_=>exact⟨S',fr',β',hq,hS'⟩
 |cond c x y ihx ihy=>
  intro hok Q S h a w fr β hS;simp only[codeOk,Bool.and_eq_true]at hok;unfold yp at h
  split at h
  ·rename_i t hc;have hv:=hS.ev c;rw[hc]at hv;refine wp_cond (kz hv) ?_
   cases t with
   |true=>rw[if_pos rfl]at h⊢;exact ihx hok.1 Q S h a w fr β hS
   |false=>rw[if_neg (by simp)]at h⊢;exact ihy hok.2 Q S h a w fr β hS
  ·exact h.elim
 |block id c ih=>
  intro hok Q S h a w fr β hS;refine wp_block (wp_mono (ih hok _ S h a w fr β hS) fun e a' w' hq=>?_)
  obtain⟨S',fr',β',hq,hS'⟩:=hq
  cases e with
  |exit id'=>
   simp only[Exit.inBlock];simp only at hq
   split at hq
   ·rename_i e;rw[if_pos e];exact⟨S',fr',β',hq,hS'⟩
   ·rename_i e;rw[if_neg e];exact⟨S',fr',β',hq,hS'⟩
  |_=>exact⟨S',fr',β',hq,hS'⟩
 |loop c ih=>
  intro hok Q S h a w fr β hS;obtain⟨I,μ,h0,hr⟩:=h;refine wp_loop_ghost (fun n a w=> ∃S fr β,I S∧μ S=n∧dC N tch w0 fr0 S a w fr β) (μ S) ⟨S,fr,β,h0,rfl,hS⟩ ?_
  rintro n a1 w1 ⟨S1,fr1,β1,h1,hn,hS1⟩;refine wp_mono (ih hok _ S1 (hr S1 h1) a1 w1 fr1 β1 hS1) fun e a' w' hq=>?_
  obtain⟨S',fr',β',hq,hS'⟩:=hq
  cases e with
  |normal=>exact⟨μ S',by rw[←hn];exact hq.2,S',fr',β',hq.1,rfl,hS'⟩
  |_=>exact⟨S',fr',β',hq,hS'⟩
 |scope c ih=>
  intro hok Q S h a w fr β hS;refine IN (wp_mono (ih hok _ S (OG h) a w fr β hS) fun e a' w' hq=>?_)
  obtain⟨S',fr',β',hq,hS'⟩:=hq
  cases e with
  |goto l=>exact hq.elim
  |_=>exact⟨S',fr',β',hq,hS'⟩
 |exit id=>intro _ Q S h a w fr β hS;exact wp_exit ⟨S,fr,β,h,hS⟩
 |label l=>intro _ Q S h a w fr β hS;exact wp_label ⟨S,fr,β,h,hS⟩
 |ret=>intro _ Q S h a w fr β hS;exact wp_ret ⟨S,fr,β,h,hS⟩
 |_=>intro _ Q S h;exact h.elim
end
def sE(P:Program)(S:PS):ResultVar→Option (PV×Bool)
 | .tmp t=>
   match S.t t with
   | .d x=>some (.d x,S.own (.t t 0)&&kM (.d x))
   | .cptr c=>some (.cptr c,false)
   | .fn f []=>some (.fn f [],false)
   | .bsl n g len sz ag=>(iP S n g len sz ag).map fun xs=>(.d (.slice xs),decide (0<len∧(S.box n).length=len*sz))
   | .pa cs=>(kD S cs).map fun x=>(.d (.agg x.1),false)
   |_=>none
 | .cell a t=>(iQ P S t (.tmp a)).bind fun r=>(nM S r).map fun x=>(.d x.1,false)
def jS(P:Program)(S:PS):List ResultVar→Option (List (PV×Bool))
 | []=>some []
 |r::l=>(sE P S r).bind fun x=>(jS P S l).map (x:: ·)
def AE(P:Program)(S:PS):ResultVar→Option (PV×Bool)
 | .tmp t=>match S.t t with| .tup _=>none|p=>some (p,S.own (.t t 0)&&kM p)
 | .cell a t=>match iQ P S t (.tmp a)with|some (.tup _)=>none|some p=>some (p,false)|none=>none
def jb(P:Program)(S:PS):List ResultVar→Option (List (PV×Bool))
 | []=>some []
 |r::l=>(AE P S r).bind fun x=>(jb P S l).map (x:: ·)
def pack:List (PV×Bool)→PV
 | [x]=>x.1
 |l=> .tup (l.map (·.1))
def tmpsOf:List ResultVar→List Nat
 | []=> []
 | .tmp t::l=>t::tmpsOf l
 |_::l=>tmpsOf l
def uT(l:List ResultVar):Bool:=decide (tmpsOf l).Nodup
def fP(S:PS):List ResultVar→List Nat
 | []=> []
 | .tmp t::l=>match S.t t with| .bsl n _ _ _ _=>n::fP S l|_=>fP S l
 |_::l=>fP S l
def G_(P:Program)(rs:List ResultVar)(r:PV)(ro:Nat→Bool)(e:Exit)(S:PS):Prop:=
 match e with
 | .normal=> ∃l,jS P S rs=some l∧r=pack l∧(fP S rs).Nodup∧ ∀j,ro j=true→(l.getD j (.any,false)).2=true
 | .ret=> ∃l,jS P S rs=some l∧r=pack l∧(fP S rs).Nodup∧ ∀j,ro j=true→(l.getD j (.any,false)).2=true
 |_=>False
def Ha(P:Program)(rs:List ResultVar)(r:PV)(ro:Nat→Bool)(post:List iL)(e:Exit)(S:PS):Prop:=
 match e with
 | .normal=>(∃l,jb P S rs=some l∧r=pack l∧ ∀j,ro j=true→(l.getD j (.any,false)).2=true)∧ ∀u∈post,S.gen u.n=u.g∧S.box u.n=u.c∧ ∀k,u.o k=true→S.own (.b u.n k)=true
 | .ret=>(∃l,jb P S rs=some l∧r=pack l∧ ∀j,ro j=true→(l.getD j (.any,false)).2=true)∧ ∀u∈post,S.gen u.n=u.g∧S.box u.n=u.c∧ ∀k,u.o k=true→S.own (.b u.n k)=true
 |_=>False
section
variable {P:Program} {N:Nat} {S:PS} {a:Act} {w0 w:World} {fr0 fr:Nat→Option Nat} {β:Nat→hU} {tch:Env}
open Classical in
noncomputable def Fg(S:PS)(β:Nat→hU)(b:Nat):Nat:=if h: ∃n,0<S.gen n∧0<(β n).c∧(β n).b=b then(S.box h.choose).length else 0
theorem Iz(h:dC N tch w0 fr0 S a w fr β){n:Nat}(hn:0<S.gen n)(hc:0<(β n).c):Fg S β (β n).b=(S.box n).length:=by
 have hx: ∃m,0<S.gen m∧0<(β m).c∧(β m).b=(β n).b:=⟨n,hn,hc,rfl⟩;unfold Fg;rw[dif_pos hx];obtain⟨h1,h2,h3⟩:=hx.choose_spec;rw[h.binj _ n h1 hn h2 hc h3]
noncomputable def ma(w0:World)(S:PS)(β:Nat→hU)(fr:Nat→Option Nat):Nat→Option Nat:=fun b=>if b<w0.heap.size then fr b else if fr b=some 0 then some (Fg S β b)else fr b
theorem jV:jM w fr w (ma w0 S β fr):=by
 refine⟨fun _ _ _ h _=>h,fun b f' _ h=>?_,Nat.le_refl _⟩
 unfold ma at h
 split at h
 ·exact⟨f',h,Nat.le_refl _⟩
 ·split at h
  ·rename_i h0;exact⟨0,h0,bt _⟩
  ·exact⟨f',h,Nat.le_refl _⟩
theorem Cw(h:dC N Env.free w0 fr0 S a w fr β){n:Nat}(hn:0<S.gen n)(hc:0<(β n).c):ma w0 S β fr (β n).b=some (S.box n).length:=by
 have hB:=h.boxes n hn;have hm:w0.heap.size≤(β n).b:=(hB.mine hc).resolve_right (by simp[Env.free])
 unfold ma;rw[if_neg (by omega),if_pos (hB.reg hc),Iz h hn hc]
theorem HN{b f:Nat}(hf:fr b=some f)(h0:0<f):ma w0 S β fr b=some f:=by
 unfold ma;split
 ·exact hf
 ·rw[hf,if_neg (by simp;omega)]
theorem De(h:dC N tch w0 fr0 S a w fr β){c:Nat}{t:TypeId}{r:PV}(hl:iQ P S t (.tmp c)=some r){v:Value}(hrun:(Instr.loadAt t (a.tmps.getD c undef)).run P w= .ok v w):
 (do loadVar t (←asAddr (a.tmps.getD c undef)):Sem Value).run P w= .ok v w:=by
 unfold Instr.loadAt at hrun;have hc: ∃ad,a.tmps.getD c undef= .pointer (some ad):=by
  have hv:=h.vals c;unfold iQ mV at hl;simp only[PS.ev]at hl
  split at hl
  ·rename_i n g o hs;rw[hs]at hv;generalize a.tmps.getD c undef=u at hv
   cases hv
   exact⟨_,rfl⟩
  ·rename_i cs hs;rw[hs]at hv;generalize a.tmps.getD c undef=u at hv
   cases hv
   exact⟨_,rfl⟩
  ·cases hl
 obtain⟨ad,had⟩:=hc;rw[had]at hrun;simp only[had]
 simpa[Instr.sureAddr,asAddr]using hrun
theorem B1(h:dC N Env.free w0 fr0 S a w fr β){rv:ResultVar}{x:PV×Bool}(hx:sE P S rv=some x):
 ∃v,(match rv with| .tmp t=>(pure (a.tmps.getD t undef):Sem Value)| .cell c t=>do loadVar t (←asAddr (a.tmps.getD c undef))).run P w= .ok v w∧da w (ma w0 S β fr) (fun _=>⟨0,0,false⟩) (fun _=>0) v x.1∧
  (x.2=true→ja (fun _=>False) w0 w (ma w0 S β fr) v x.1∧ ∀b,rowOf v=some b→(∃t,rv= .tmp t∧S.own (.t t 0)=true∧ew a w β (.t t 0)=v)∨
   ∃t n g len sz ag,rv= .tmp t∧S.t t= .bsl n g len sz ag∧0<S.gen n∧0<(β n).c∧b=(β n).b):=by
 have hfz: ∀n,0<S.gen n→0<(β n).c→ ∃f,ma w0 S β fr (β n).b=some f∧(S.box n).length≤f:=fun n hn hc=>⟨_,Cw h hn hc,Nat.le_refl _⟩
 cases rv with
 |tmp t=>
  simp only[sE]at hx;have hv:=h.vals t
  split at hx
  ·rename_i d hs
   cases hx
   rw[hs]at hv;refine⟨_,rfl,.d _ _ ((fH hv).mono jV),fun ho=>?_⟩
   obtain⟨ho,hsl⟩:=aq.1 ho;have hown:=h.own _ ho;have e1:S.at (.t t 0)= .d d:=by
    obtain⟨xs,ex⟩:=s8 hsl;simp only[PS.at,hs,ex];rfl
   rw[e1]at hown;have e2:ew a w β (.t t 0)=a.tmps.getD t undef:=by
    obtain⟨xs,e,_⟩:=hown
    cases e
    obtain⟨A',cap,sz,us,ev,_⟩:=ff (fH hv);simp only[ew,ev];rfl
   rw[e2]at hown;refine⟨hown.same fun b hb=>⟨rfl,?_⟩,fun b hb=> .inl ⟨t,rfl,ho,e2⟩⟩
   obtain⟨⟨f,hf,hf0⟩,_⟩:=hown.sD hb;rw[HN hf hf0,hf]
  ·rename_i c hs
   cases hx
   rw[hs]at hv;exact⟨_,rfl,mv rfl (hv.mono jV (hZ.refl β S.gen)),by simp⟩
  ·rename_i f hs
   cases hx
   rw[hs]at hv;exact⟨_,rfl,mv rfl (hv.mono jV (hZ.refl β S.gen)),by simp⟩
  ·rename_i n g len sz ag hs;simp only[Option.map_eq_some_iff]at hx;obtain⟨xs,hxs,rfl⟩:=hx;rw[hs]at hv;have hfc:pZ S (.bsl n g len sz ag)=some (.slice xs,[n]):=by simp[pZ,hxs]
   obtain⟨hr,hg⟩:=xD h hfc hv jV (fun m hm h1 h2=>hfz m h1 h2)
   have hgn:=hg n (by simp)
   refine⟨_,rfl,.d _ _ hr,fun ho=>?_⟩
   obtain⟨hl0,hbl⟩:0<len∧(S.box n).length=len*sz:=by simpa using ho
   obtain⟨A,cap,ev,h0,hs0,hAA⟩:=lg hv;have hgg:g=S.gen n:=by
    unfold iP at hxs
    split at hxs
    ·rename_i hc;exact hc.1
    ·cases hxs
   obtain⟨hA1,hlc,hcap⟩:=hAA hgg;obtain⟨hyl,hyz,hle,_,us,hul,hur,huc⟩:=om h hxs hgn hs0 (o9 hv hgg);have hB:=h.boxes n hgn;have hcp:0<(β n).c:=by
    rw[←hcap];exact aX (by omega) hs0
   obtain⟨cs,E,hcc,dQ,_⟩:=hB.ex hcp (o9 hv hgg);have hm:w0.heap.size≤(β n).b:=(hB.mine hcp).resolve_right (by simp[Env.free])
   refine⟨⟨xs,rfl,?_⟩,fun b hb=>?_⟩
   ·rcases aR len cap with hlt|hge
    ·refine .inr ⟨(β n).b,cap,cs,E,sz,by rw[ev,hA1 hcp,hyl],by omega,by omega,hs0,hcc,hyz,by rw[dQ,hcap],by rw[Cw h hgn hcp,hbl,hyl],.inl hm⟩
    ·have:cap=len:=by omega
     exact .inl ⟨A,len,by rw[ev,this]⟩
   ·rw[ev,hA1 hcp]at hb;simp only[rowOf]at hb
    split at hb
    ·cases hb
     exact .inr ⟨t,n,g,len,sz,ag,rfl,hs,hgn,hcp,rfl⟩
    ·cases hb
  ·rename_i cs hs;simp only[Option.map_eq_some_iff]at hx;obtain⟨⟨ys,ns⟩,hxs,rfl⟩:=hx;rw[hs]at hv;have hfv:nM S (.pa cs)=some (.agg ys,ns):=by simp[nM,hxs]
   exact⟨_,rfl,.d _ _ (pY h hfv hv jV (fun m hm h1 h2=>hfz m h1 h2)).1,by simp⟩
  ·cases hx
 |cell c t=>
  simp only[sE,Option.bind_eq_some_iff,Option.map_eq_some_iff]at hx;obtain⟨r,hl,⟨y,ns⟩,hfv,rfl⟩:=hx;obtain⟨v,hrun,hr,_⟩:=oI (P:=P) h hl;refine⟨v,?_,.d _ _ (pY h hfv hr jV (fun m hm h1 h2=>hfz m h1 h2)).1,by simp⟩
  exact De h hl hrun
def DM(a:Act):ResultVar→Sem Value
 | .tmp t=>pure (a.tmps.getD t undef)
 | .cell c t=>do loadVar t (←asAddr (a.tmps.getD c undef))
theorem sF(h:dC N Env.free w0 fr0 S a w fr β): ∀(rs:List ResultVar) (l:List (PV×Bool)),jS P S rs=some l→
 ∃vs:List Value,(rs.mapM (DM a)).run P w= .ok vs w∧vs.length=l.length∧ ∀(k:Nat) (v:Value) (x:PV×Bool),vs[k]? =some v→l[k]? =some x→
  da w (ma w0 S β fr) (fun _=>⟨0,0,false⟩) (fun _=>0) v x.1∧
  (x.2=true→ja (fun _=>False) w0 w (ma w0 S β fr) v x.1∧ ∀b,rowOf v=some b→(∃t,rs[k]? =some (.tmp t)∧S.own (.t t 0)=true∧ew a w β (.t t 0)=v)∨
   ∃t n g len sz ag,rs[k]? =some (.tmp t)∧S.t t= .bsl n g len sz ag∧0<S.gen n∧0<(β n).c∧b=(β n).b)
 | [],l,hl=>by
   simp[jS]at hl;subst hl;exact⟨[],by simp,rfl,by simp⟩
 |r::rs,l,hl=>by
  simp only[jS,Option.bind_eq_some_iff,Option.map_eq_some_iff]at hl;obtain⟨x,hx,l',hl',rfl⟩:=hl;obtain⟨v,hv,hr,ho⟩:=B1 (P:=P) h hx;obtain⟨vs,hvs,hlen,hall⟩:=sF h rs l' hl';have hv':(DM a r).run P w= .ok v w:=by
   cases r<;>exact hv
  refine⟨v::vs,by simp[List.mapM_cons,hv',hvs],by simp[hlen],fun k u y hu hy=>?_⟩
  cases k with
  |zero=>
   cases hu
   cases hy
   refine⟨hr,fun h2=>⟨(ho h2).1,fun b hb=>?_⟩⟩
   rcases(ho h2).2 b hb with⟨t,e,rest⟩|⟨t,n,g,len,sz,ag,e,rest⟩
   ·exact .inl ⟨t,by rw[e];rfl,rest⟩
   ·exact .inr ⟨t,n,g,len,sz,ag,by rw[e];rfl,rest⟩
  |succ k=>
   obtain⟨h1,h2⟩:=hall k u y (by simpa using hu) (by simpa using hy)
   exact⟨h1,fun h3=>by simpa using h2 h3⟩
theorem DL(h:dC N tch w0 fr0 S a w fr β){rv:ResultVar}{x:PV×Bool}(hx:AE P S rv=some x):
 ∃v,(DM a rv).run P w= .ok v w∧da w fr β S.gen v x.1∧(x.2=true→ ∃t,rv= .tmp t∧S.own (.t t 0)=true∧ew a w β (.t t 0)=v∧S.at (.t t 0)=x.1):=by
 cases rv with
 |tmp t=>
  simp only[AE]at hx;have hnt:(∀q,S.t t≠ .tup q)∧x=(S.t t,S.own (.t t 0)&&kM (S.t t)):=by
   split at hx
   ·cases hx
   ·rename_i hne
    cases hx
    exact⟨fun q e=>hne q e,rfl⟩
  obtain⟨h1,rfl⟩:=hnt;refine⟨_,rfl,h.vals t,fun ho=>⟨t,rfl,(aq.1 ho).1,?_,?_⟩⟩
  ·obtain⟨ho,hsl⟩:=aq.1 ho;obtain⟨xs,e,hh⟩:=h.own _ ho;simp only[ew]at hh⊢;have hv:=h.vals t;have hp:(S.t t).part 0=S.t t:=by
    obtain⟨ys,ey⟩:=s8 hsl;rw[ey];rfl
   simp only[PS.at]at e;rw[hp]at e;rw[e]at hv;obtain⟨A',cap,sz,us,ev,_⟩:=ff (fH hv);rw[ev];rfl
  ·obtain⟨ys,ey⟩:=s8 (aq.1 ho).2;simp only[PS.at,ey];rfl
 |cell c t=>
  simp only[AE]at hx
  split at hx
  ·cases hx
  ·rename_i p hne hl
   cases hx
   obtain⟨v,hrun,hr,_⟩:=oI (P:=P) h hl;exact⟨v,De h hl hrun,hr,by simp⟩
  ·cases hx
theorem rp(h:dC N tch w0 fr0 S a w fr β): ∀(rs:List ResultVar) (l:List (PV×Bool)),jb P S rs=some l→
 ∃vs:List Value,(rs.mapM (DM a)).run P w= .ok vs w∧vs.length=l.length∧ ∀(k:Nat) (v:Value) (x:PV×Bool),vs[k]? =some v→l[k]? =some x→
  da w fr β S.gen v x.1∧(x.2=true→ ∃t,rs[k]? =some (.tmp t)∧S.own (.t t 0)=true∧ew a w β (.t t 0)=v∧S.at (.t t 0)=x.1)
 | [],l,hl=>by
   simp[jb]at hl;subst hl;exact⟨[],by simp,rfl,by simp⟩
 |r::rs,l,hl=>by
  simp only[jb,Option.bind_eq_some_iff,Option.map_eq_some_iff]at hl;obtain⟨x,hx,l',hl',rfl⟩:=hl;obtain⟨v,hv,hr,ho⟩:=DL (P:=P) h hx;obtain⟨vs,hvs,hlen,hall⟩:=rp h rs l' hl';refine⟨v::vs,by simp[List.mapM_cons,hv,hvs],by simp[hlen],fun k u y hu hy=>?_⟩
  cases k with
  |zero=>
   cases hu
   cases hy
   refine⟨hr,fun h2=>?_⟩
   obtain⟨t,e,rest⟩:=ho h2;exact⟨t,by rw[e];rfl,rest⟩
  |succ k=>
   obtain⟨h1,h2⟩:=hall k u y (by simpa using hu) (by simpa using hy)
   exact⟨h1,fun h3=>by simpa using h2 h3⟩
def rq:List Value→Value
 | [v]=>v
 |vs=> .tuple vs.toArray
theorem uS{fn:Func}{vs:List Value}(hvs:(fn.results.toList.mapM (DM a)).run P w= .ok vs w):
 (results fn a.tmps).run P w= .ok (rq vs) w:=by
 have hm:(fn.results.mapM (DM a)).run P w= .ok vs.toArray w:=by
  rw[Array.mapM_eq_mapM_toList];simp[hvs]
 have hr:results fn a.tmps=(do
  let vs←fn.results.mapM (DM a)
  pure (if h:vs.size=1 then vs[0]else .tuple vs):Sem Value):=rfl
 rw[hr,Sem.run_bind,hm];simp only[aa,aw]
 cases vs with
 |nil=>rfl
 |cons v vs=>
  cases vs with
  |nil=>rfl
  |cons u vs=>simp[rq]
theorem Al: ∀(rs:List ResultVar),(tmpsOf rs).Nodup→ ∀(j j' t:Nat),rs[j]? =some (ResultVar.tmp t)→rs[j']? =some (ResultVar.tmp t)→j=j'
 | [],_,j,j',t,h,_=>by simp at h
 |r::rs,hn,j,j',t,h,h'=>by
  have hmem: ∀(rs:List ResultVar) (k t:Nat),rs[k]? =some (ResultVar.tmp t)→t∈tmpsOf rs:=by
   intro rs
   induction rs with
   |nil=>intro k t h;simp at h
   |cons r rs ih=>
    intro k t h
    cases k with
    |zero=>simp at h;subst h;simp[tmpsOf]
    |succ k=>
     have:=ih k t (by simpa using h)
     cases r<;>simp[tmpsOf,this]
  have hn':(tmpsOf rs).Nodup:=by
   cases r with
   |tmp t=>simp[tmpsOf]at hn;exact hn.2
   |cell _ _=>exact hn
  cases j with
  |zero=>
   cases j' with
   |zero=>rfl
   |succ j'=>
    simp at h;subst h;have:=hmem rs j' t (by simpa using h')
    simp[tmpsOf]at hn;exact absurd this hn.1
  |succ j=>
   cases j' with
   |zero=>
    simp at h';subst h';have:=hmem rs j t (by simpa using h)
    simp[tmpsOf]at hn;exact absurd this hn.1
   |succ j'=>
    rw[Al rs hn' j j' t (by simpa using h) (by simpa using h')]
theorem Cd{fr:Nat→Option Nat}{gen:Nat→Nat}{vs:List Value}{l:List (PV×Bool)}(hlen:vs.length=l.length)
 (hall: ∀(k:Nat) (v:Value) (x:PV×Bool),vs[k]? =some v→l[k]? =some x→da w fr β gen v x.1):da w fr β gen (rq vs) (pack l):=by
 cases vs with
 |nil=>
  have:l= []:=List.eq_nil_of_length_eq_zero hlen.symm;subst this;exact .tup [] [] rfl (by simp)
 |cons v1 vs1=>
  cases l with
  |nil=>simp at hlen
  |cons x1 l1=>
   cases vs1 with
   |nil=>
    have:l1= []:=List.eq_nil_of_length_eq_zero (by simpa using hlen.symm)
    subst this;exact hall 0 v1 x1 rfl rfl
   |cons v2 vs2=>
    cases l1 with
    |nil=>simp at hlen
    |cons x2 l2=>
     refine .tup (v1::v2::vs2) _ (by simpa using hlen) fun k v p hv hp=>?_
     rw[List.getElem?_map]at hp
     cases hx:(x1::x2::l2)[k]? with
     |none=>rw[hx]at hp;cases hp
     |some x=>
      rw[hx]at hp
      cases hp
      exact hall k v x hv hx
theorem zf{T:Nat→Prop}{w1:World}{fr:Nat→Option Nat}{vs:List Value}{l:List (PV×Bool)}(hlen:vs.length=l.length){j:Nat}(h2:(l.getD j (.any,false)).2=true)
 (hall: ∀(v:Value) (x:PV×Bool),vs[j]? =some v→l[j]? =some x→x.2=true→ja T w1 w fr v x.1):
 ∃x v,l[j]? =some x∧vs[j]? =some v∧x.2=true∧eC (rq vs) j=v∧(pack l).part j=x.1:=by
 rw[List.getD_eq_getElem?_getD]at h2
 cases hx:l[j]? with
 |none=>rw[hx]at h2;cases h2
 |some x=>
  rw[hx]at h2;have hjl:j<vs.length:=by
   rw[hlen]
   exact(List.getElem?_eq_some_iff.1 hx).1
  have hown:=hall _ x (List.getElem?_eq_getElem hjl) hx h2;obtain⟨xs,e,hh⟩:=hown;have hnt: ∃A n c,vs[j]= .slice A n c:=by
   rcases hh with⟨A,n,e'⟩|⟨b,c,cur,E,sz,e',_⟩
   ·exact⟨A,n,n,e'⟩
   ·exact⟨_,_,_,e'⟩
  obtain⟨A,n,c,ev⟩:=hnt;refine⟨x,vs[j],rfl,List.getElem?_eq_getElem hjl,h2,?_,?_⟩
  ·cases vs with
   |nil=>simp at hjl
   |cons v1 vs1=>
    cases vs1 with
    |nil=>
     have:j=0:=by simp at hjl;exact hjl
     subst this;simp only[List.getElem_cons_zero]at ev⊢;simp only[rq];rw[ev];rfl
    |cons v2 vs2=>
     simp only[eC,rq];rw[Array.getD_eq_getD_getElem?,ax,List.getElem?_eq_getElem hjl];rfl
  ·cases l with
   |nil=>simp at hx
   |cons x1 l1=>
    cases l1 with
    |nil=>
     have:j=0:=by
      have:=(List.getElem?_eq_some_iff.1 hx).1
      simpa using this
     subst this;simp at hx;subst hx;simp only[pack];rw[e];rfl
    |cons x2 l2=>
     simp only[pack,PV.part];rw[List.getD_eq_getElem?_getD,List.getElem?_map,hx];rfl
theorem FM: ∀(rs:List ResultVar) (_:(fP S rs).Nodup) (j j' t t' n:Nat),rs[j]? =some (ResultVar.tmp t)→rs[j']? =some (ResultVar.tmp t')→(∃g len sz ag,S.t t= .bsl n g len sz ag)→(∃g len sz ag,S.t t'= .bsl n g len sz ag)→j=j'
 | [],_,j,j',t,t',n,h,_,_,_=>by simp at h
 |r::rs,hn,j,j',t,t',n,h,h',hs,hs'=>by
  have hmem: ∀(rs:List ResultVar) (k t:Nat),rs[k]? =some (ResultVar.tmp t)→(∃g len sz ag,S.t t= .bsl n g len sz ag)→n∈fP S rs:=by
   intro rs
   induction rs with
   |nil=>intro k t h;simp at h
   |cons r rs ih=>
    intro k t h hs
    cases k with
    |zero=>
     simp at h;subst h;obtain⟨g,len,sz,ag,e⟩:=hs;simp[fP,e]
    |succ k=>
     have:=ih k t (by simpa using h) hs
     cases r with
     |tmp t2=>
      simp only[fP]
      split<;>simp[this]
     |cell _ _=>exact this
  have hn':(fP S rs).Nodup:=by
   cases r with
   |tmp t2=>
    simp only[fP]at hn
    split at hn
    ·exact(bB.1 hn).2
    ·exact hn
   |cell _ _=>exact hn
  cases j with
  |zero=>
   cases j' with
   |zero=>rfl
   |succ j'=>
    simp at h;subst h;have:=hmem rs j' t' (by simpa using h') hs'
    obtain⟨g,len,sz,ag,e⟩:=hs;simp only[fP,e]at hn;exact absurd this (bB.1 hn).1
  |succ j=>
   cases j' with
   |zero=>
    simp at h';subst h';have:=hmem rs j t (by simpa using h) hs
    obtain⟨g,len,sz,ag,e⟩:=hs';simp only[fP,e]at hn;exact absurd this (bB.1 hn).1
   |succ j'=>
    rw[FM rs hn' j j' t t' n (by simpa using h) (by simpa using h') hs hs']
theorem CN{vs:Array Value}{n:Nat}(i:Nat):((vs++Array.replicate n undef)[i]?).getD undef=(vs[i]?).getD undef:=by
 by_cases hi:i<vs.size
 ·rw[Array.getElem?_append_left hi]
 ·rw[Array.getElem?_append_right (by omega),aS,Array.getElem?_eq_none (by omega:vs.size≤i)]
  split<;>rfl
theorem cD.of(hm:P.follows .mixedOrders=true){f:FuncId}{fn:Func}{c:Code}(hf:P.funcs[f]? =some fn)(hname:(fn.name== "runtime.NumGoroutine")=false)(hb:fn.body=some c)(tr:List Nat){args:List PV}
 (hargs:args.length≤fn.ntmps) (hok:codeOk fn.ntmps tr c=true) (hres:uT fn.results.toList=true) {r:PV} {ro:Nat→Bool} (hfree:fZ r=true)
 (h:yp P fn.ntmps tr c (G_ P fn.results.toList r ro) (PS.start args)):cD P f args r ro:=by
 refine⟨⟨fn,c,hf,hname,hb⟩,hfree,fun vs w fr hvs hfrb hgo hrep=>?_⟩
 refine calls_of_wp hf hb ?_;have hS:dC fn.ntmps Env.free w fr (PS.start args) ⟨vs++Array.replicate (fn.ntmps-vs.size) undef,[]⟩ w fr (fun _=>⟨0,0,false⟩):=by
  refine⟨rfl,by simp;omega,rfl,rfl,rfl,Nat.le_refl _,hfrb,fun _ _ _=>⟨rfl,rfl⟩,fun _ h=>h.elim,fun i=>?_,fun n hn=>by simp[PS.start]at hn,fun n m hn=>by simp[PS.start]at hn,fun l hl=>by simp[PS.start]at hl,fun n k hl=>by simp[PS.start]at hl,fun l l' hl=>by simp[PS.start]at hl,hZ.refl _ _⟩
  simp only[PS.start,Array.getD_eq_getD_getElem?,List.getD_eq_getElem?_getD,CN];by_cases hi:i<vs.size
  ·rw[Array.getElem?_eq_getElem hi,List.getElem?_eq_getElem (by omega)]
   exact hrep i _ _ (Array.getElem?_eq_getElem hi) (List.getElem?_eq_getElem (by omega))
  ·rw[Array.getElem?_eq_none (by omega),ar (by omega)]
   exact lz
 refine wp_mono (zd (tch:=Env.free) (w0:=w) (fr0:=fr) ⟨hgo,fun _ _ _ h=>h⟩ hm c hok _ _ h _ w fr _ hS) fun e a' w' hq=>?_
 obtain⟨S',fr',β',hq,hS'⟩:=hq;have key:(∃l,jS P S' fn.results.toList=some l∧r=pack l∧(fP S' fn.results.toList).Nodup∧ ∀j,ro j=true→(l.getD j (.any,false)).2=true)→
  a'.defers= []∧ ∃v,(results fn a'.tmps).run P w'= .ok v w'∧ ∃v' fr' S' β',Ending.returned v= .returned v'∧dC 1 Env.free w fr S' (res v') w' fr' β'∧S'.t 0=r∧ ∀j,ro j=true→S'.own (.t 0 j)=true:=by
  rintro⟨l,hl,hr,hsn,hro⟩;refine⟨hS'.defers,?_⟩;obtain⟨vs',hvs',hlen,hall⟩:=sF (P:=P) hS' _ l hl;refine⟨_,uS hvs',_,ma w S' β' fr',⟨fun i=>if i=0 then r else .undef,fun _=> [],fun _=>0,fun l=>match l with| .t 0 j=>ro j|_=>false,FO⟩,fun _=>⟨0,0,false⟩,rfl,?_,rfl,fun j hj=>hj⟩
  have hV0:da w' (ma w S' β' fr') (fun _=>⟨0,0,false⟩) (fun _=>0) (rq vs') r:=by
   rw[hr];exact Cd hlen fun k v x hv hx=>(hall k v x hv hx).1
  obtain⟨V,hV⟩: ∃V,V=rq vs':=⟨_,rfl⟩;rw[←hV]at hV0⊢;have hpart: ∀j,ro j=true→ ∃x v,l[j]? =some x∧vs'[j]? =some v∧x.2=true∧eC V j=v∧r.part j=x.1:=by
   intro j hj;rw[hV,hr];exact zf hlen (hro j hj) fun v x hv hx h2=>((hall j v x hv hx).2 h2).1
  have hvl: ∀i j,ew (res V) w' (fun _=>⟨0,0,false⟩) (.t i j)=if i=0 then eC V j else eC undef j:=by
   intro i j;simp only[ew,res,Array.getD_eq_getD_getElem?];by_cases hi:i=0
   ·subst hi;rfl
   ·rw[if_neg hi];have:(#[V]:Array Value)[i]? =none:=by simp;omega
    rw[this];rfl
  refine⟨rfl,rfl,hS'.os,hS'.tape,hS'.output,hS'.size,fun b f hf=>?_,fun b hb _=>?_,fun _ h=>h.elim,fun i=>?_,fun n hn=>by simp at hn,fun n m hn=>by simp at hn,fun lo hlo=>?_,fun n k hlo=>by simp at hlo,fun lo lo' hlo hlo' hne b hb=>?_,hZ.refl _ _⟩
  ·unfold ma at hf
   split at hf
   ·exact hS'.frb b f hf
   ·split at hf
    ·rename_i h0;exact hS'.frb b _ h0
    ·exact hS'.frb b f hf
  ·have:=hS'.frame b hb (by simp[Env.free])
   refine⟨this.1,?_⟩;unfold ma;rw[if_pos hb];exact this.2
  ·simp only[res,Array.getD_eq_getD_getElem?];by_cases hi:i=0
   ·subst hi;rw[if_pos rfl];exact hV0
   ·rw[if_neg hi];have:(#[V]:Array Value)[i]? =none:=by simp;omega
    rw[this];exact lz
  ·cases lo with
   |b n k=>simp at hlo
   |t i j=>
    cases i with
    |succ i=>simp at hlo
    |zero=>
     simp only at hlo;obtain⟨x,v,hx,hv,h2,e1,e2⟩:=hpart j hlo;rw[hvl,if_pos rfl,e1];have:PS.at ⟨fun i=>if i=0 then r else .undef,fun _=> [],fun _=>0,fun l=>match l with| .t 0 j=>ro j|_=>false,FO⟩ (.t 0 j)=r.part j:=by simp[PS.at]
     rw[this,e2]
     exact((hall j v x hv hx).2 h2).1
  ·cases lo with
   |b n k=>simp at hlo
   |t i j=>
    cases lo' with
    |b n k=>simp at hlo'
    |t i' j'=>
     cases i with
     |succ i=>simp at hlo
     |zero=>
      cases i' with
      |succ i'=>simp at hlo'
      |zero=>
       simp only at hlo hlo';obtain⟨x,v,hx,hv,h2,e1,e2⟩:=hpart j hlo;obtain⟨x',v',hx',hv',h2',e1',e2'⟩:=hpart j' hlo';rw[hvl,if_pos rfl,e1]at hb;rw[hvl,if_pos rfl,e1'];intro hb';have hrow0: ∀t,S'.own (.t t 0)=true→rowOf (ew a' w' β' (.t t 0))=some b→ ∀n,0<S'.gen n→0<(β' n).c→b≠(β' n).b:=by
        intro t ho hrb n hn hc e;obtain⟨⟨f,hf,hf0⟩,_⟩:=(hS'.own _ ho).sD hrb;rw[e,(hS'.boxes n hn).reg hc]at hf
        cases hf
        omega
       rcases((hall j v x hv hx).2 h2).2 b hb with⟨t,ht,ho,ev⟩|⟨t,n,g,len,sz,ag,ht,hs,hgn,hcn,eb⟩
       ·rcases((hall j' v' x' hv' hx').2 h2').2 b hb' with⟨t',ht',ho',ev'⟩|⟨t',n',g',len',sz',ag',ht',hs',hgn',hcn',eb'⟩
        ·by_cases htt:t=t'
         ·subst htt;have hnd:(tmpsOf fn.results.toList).Nodup:=by simpa[uT]using hres
          have:=Al _ hnd j j' t ht ht';subst this;exact hne rfl
         ·refine hS'.oinj (.t t 0) (.t t' 0) ho ho' (fun e=>htt (by cases e;rfl)) b (by rw[ev];exact hb) (by rw[ev'];exact hb')
        ·exact hrow0 t ho (by rw[ev];exact hb) n' hgn' hcn' eb'
       ·rcases((hall j' v' x' hv' hx').2 h2').2 b hb' with⟨t',ht',ho',ev'⟩|⟨t',n',g',len',sz',ag',ht',hs',hgn',hcn',eb'⟩
        ·exact hrow0 t' ho' (by rw[ev'];exact hb') n hgn hcn eb
        ·have hnn:n=n':=hS'.binj n n' hgn hgn' hcn hcn' (by rw[←eb,eb'])
         subst hnn;have:=FM _ hsn j j' t t' n ht ht' ⟨_,_,_,_,hs⟩ ⟨_,_,_,_,hs'⟩;subst this;exact hne rfl
 cases e with
 |normal=>exact key hq
 |ret=>exact key hq
 |_=>exact hq.elim
theorem de.of(hm:P.follows .mixedOrders=true){f:FuncId}{fn:Func}{c:Code}(hf:P.funcs[f]? =some fn)(hname:(fn.name== "runtime.NumGoroutine")=false)(hb:fn.body=some c)(tr:List Nat){fo:Nat}{gl:Nat→Nat}{args:List PV}{pre post:List iL}
 (hargs:args.length≤fn.ntmps) (hok:codeOk fn.ntmps tr c=true) (hres:uT fn.results.toList=true) {r:PV} {ro:Nat→Bool}
 (hnr:cH (post.map (·.n)) r=true) (hpn: ∀u∈post,cS (post.map (·.n)) u.c=true∧0<u.g) (hpre: ∀u∈pre,u.n∈post.map (·.n))
 (h:yp P fn.ntmps tr c (Ha P fn.results.toList r ro post) (PS.eZ fo gl args pre)):de P fo gl f args pre r ro post:=by
 refine⟨⟨fn,c,hf,hname,hb⟩,hnr,hpn,hpre,fun vs w fr T β hvs hgo h0=>?_⟩
 refine calls_of_wp hf hb ?_;have hpad: ∀i,(vs++Array.replicate (fn.ntmps-vs.size) undef).getD i undef=vs.getD i undef:=by
  intro i;simp only[Array.getD_eq_getD_getElem?,CN]
 have hvt: ∀l,ew ⟨vs++Array.replicate (fn.ntmps-vs.size) undef,[]⟩ w β l=ew ⟨vs,[]⟩ w β l:=by
  intro l
  cases l with
  |t i j=>simp only[ew,hpad]
  |b n k=>rfl
 have hS:dC fn.ntmps T w fr (PS.eZ fo gl args pre) ⟨vs++Array.replicate (fn.ntmps-vs.size) undef,[]⟩ w fr β:=by
  refine⟨rfl,by simp;omega,rfl,rfl,rfl,Nat.le_refl _,h0.frb,h0.frame,h0.keep,fun i=>?_,h0.boxes,h0.binj,fun l hl=>?_,h0.live,fun l l' hl hl' hne b hbr=>?_,h0.ext⟩
  ·rw[hpad];exact h0.vals i
  ·rw[hvt];exact h0.own l hl
  ·rw[hvt]at hbr;rw[hvt];exact h0.oinj l l' hl hl' hne b hbr
 refine wp_mono (zd (tch:=T) (w0:=w) (fr0:=fr) hgo hm c hok _ _ h _ w fr _ hS) fun e a' w' hq=>?_
 obtain⟨S',fr',β',hq,hS'⟩:=hq;have key:((∃l,jb P S' fn.results.toList=some l∧r=pack l∧ ∀j,ro j=true→(l.getD j (.any,false)).2=true)∧ ∀u∈post,S'.gen u.n=u.g∧S'.box u.n=u.c∧ ∀k,u.o k=true→S'.own (.b u.n k)=true)→
  a'.defers= []∧ ∃v,(results fn a'.tmps).run P w'= .ok v w'∧ ∃v' fr' S' β',Ending.returned v= .returned v'∧dC 1 T w fr S' (res v') w' fr' β'∧S'.t 0=r∧(∀j,ro j=true→S'.own (.t 0 j)=true)∧
   ∀u∈post,S'.gen u.n=u.g∧S'.box u.n=u.c∧ ∀k,u.o k=true→S'.own (.b u.n k)=true:=by
  rintro⟨⟨l,hl,hr,hro⟩,hpost⟩;refine⟨hS'.defers,?_⟩;obtain⟨vs',hvs',hlen,hall⟩:=rp (P:=P) hS' _ l hl;refine⟨_,uS hvs',_,fr',⟨fun i=>if i=0 then r else .undef,S'.box,S'.gen,fun l=>match l with| .t 0 j=>ro j| .t _ _=>false| .b n k=>S'.own (.b n k),S'.fo⟩,β',rfl,?_,rfl,fun j hj=>hj,hpost⟩
  have hV0:da w' fr' β' S'.gen (rq vs') r:=by
   rw[hr];exact Cd hlen fun k v x hv hx=>(hall k v x hv hx).1
  obtain⟨V,hV⟩: ∃V,V=rq vs':=⟨_,rfl⟩;rw[←hV]at hV0⊢;have hpart: ∀j,ro j=true→ ∃x t,l[j]? =some x∧fn.results.toList[j]? =some (.tmp t)∧S'.own (.t t 0)=true∧eC V j=ew a' w' β' (.t t 0)∧r.part j=S'.at (.t t 0):=by
   intro j hj;obtain⟨x,v,hx,hv,h2,e1,e2⟩:=zf (T:=T.tch) (w1:=w) (w:=w') (fr:=fr') hlen (hro j hj) fun v x hv hx h2=>by
    obtain⟨t,ht,ho,ev,ex⟩:=(hall j v x hv hx).2 h2;rw[←ev,←ex];exact hS'.own _ ho
   obtain⟨t,ht,ho,ev,ex⟩:=(hall j v x hv hx).2 h2;exact⟨x,t,hx,ht,ho,by rw[hV,e1,ev],by rw[hr,e2,ex]⟩
  have hvl: ∀i j,ew (res V) w' β' (.t i j)=if i=0 then eC V j else eC undef j:=by
   intro i j;simp only[ew,res,Array.getD_eq_getD_getElem?];by_cases hi:i=0
   ·subst hi;rfl
   ·rw[if_neg hi];have:(#[V]:Array Value)[i]? =none:=by simp;omega
    rw[this];rfl
  have hcase: ∀lo,(match lo with|Loc.t 0 j=>ro j| .t _ _=>false| .b n k=>S'.own (.b n k))=true→
   ∃l',S'.own l'=true∧ew (res V) w' β' lo=ew a' w' β' l'∧(PS.at ⟨fun i=>if i=0 then r else .undef,S'.box,S'.gen,fun l=>match l with| .t 0 j=>ro j| .t _ _=>false| .b n k=>S'.own (.b n k),S'.fo⟩ lo)=S'.at l'∧
    ((∃n k,lo= .b n k∧l'= .b n k)∨ ∃j t,lo= .t 0 j∧l'= .t t 0∧fn.results.toList[j]? =some (.tmp t)):=by
   intro lo hlo
   cases lo with
   |b n k=>exact⟨.b n k,hlo,rfl,rfl,.inl ⟨n,k,rfl,rfl⟩⟩
   |t i j=>
    cases i with
    |succ i=>simp at hlo
    |zero=>
     simp only at hlo;obtain⟨x,t,hx,ht,ho,e1,e2⟩:=hpart j hlo;exact⟨.t t 0,ho,by rw[hvl,if_pos rfl,e1],by rw[←e2];simp[PS.at],.inr ⟨j,t,rfl,rfl,ht⟩⟩
  refine⟨rfl,rfl,hS'.os,hS'.tape,hS'.output,hS'.size,hS'.frb,hS'.frame,hS'.keep,fun i=>?_,hS'.boxes,hS'.binj,fun lo hlo=>?_,fun n k hlo=>hS'.live n k hlo,fun lo lo' hlo hlo' hne b hbr=>?_,hS'.ext⟩
  ·simp only[res,Array.getD_eq_getD_getElem?];by_cases hi:i=0
   ·subst hi;rw[if_pos rfl];exact hV0
   ·rw[if_neg hi];have:(#[V]:Array Value)[i]? =none:=by simp;omega
    rw[this];exact lz
  ·obtain⟨l',ho,e1,e2,_⟩:=hcase lo hlo;rw[e1,e2];exact hS'.own l' ho
  ·obtain⟨l1,ho,e1,e2,hc1⟩:=hcase lo hlo;obtain⟨l2,ho',e1',e2',hc2⟩:=hcase lo' hlo';rw[e1]at hbr;rw[e1'];refine hS'.oinj l1 l2 ho ho' (fun e=>?_) b hbr
   subst e;rcases hc1 with⟨n,k,rfl,rfl⟩|⟨j,t,rfl,rfl,ht⟩
   ·rcases hc2 with⟨n',k',rfl,e⟩|⟨j',t',rfl,e,ht'⟩
    ·cases e;exact hne rfl
    ·cases e
   ·rcases hc2 with⟨n',k',rfl,e⟩|⟨j',t',rfl,e,ht'⟩
    ·cases e
    ·cases e
     have hnd:(tmpsOf fn.results.toList).Nodup:=by simpa[uT]using hres
     have:=Al _ hnd j j' t ht ht';subst this;exact hne rfl
 cases e with
 |normal=>exact key hq
 |ret=>exact key hq
 |_=>exact hq.elim
end
structure CO where
 g:Option (Nat×Bool)
 d:Option Nat
 op:Op
inductive CC where
 |skip
 |reg (l:List CO)
 |seq (a b:CC)
 |cond (c:Operand) (a b:CC)
 |block (id:Nat) (c:CC)
 |loop (c:CC)
 |exit (id:Nat)
 |ret
 |bad
def Y5(l:List Oper):Option (Nat×Bool)→Option (Nat×Bool)
 |none=>none
 |some (j,w)=>match l[j]? with|some x=>(match x.dst with|some d=>some (d,w)|none=>some (0,w))|none=>some (0,w)
def Vz(l:List Oper)(o:Oper):CO:=⟨Y5 l o.guard,o.dst,o.op⟩
def NZ(ops:Array Oper):Bool:=ops.toList.all fun o=>match o.guard with|none=>true|some (j,_)=>((ops[j]?).bind (·.dst)).isSome
def Df:Code→CC
 | .skip=> .skip
 | .region _ ops _=> .reg (ops.toList.map (Vz ops.toList))
 | .seq a b=> .seq (Df a) (Df b)
 | .cond c a b=> .cond c (Df a) (Df b)
 | .block id c=> .block id (Df c)
 | .loop c=> .loop (Df c)
 | .scope c=>Df c
 | .exit id=> .exit id
 | .label _=> .skip
 | .ret=> .ret
 |_=> .bad
def fx(N:Nat)(tr:List Nat):Code→Bool
 | .region _ ops draw=>se N ops&&(!draw||y8 tr ops)&&NZ ops
 | .seq a b=>fx N tr a&&fx N tr b
 | .cond _ a b=>fx N tr a&&fx N tr b
 | .block _ c=>fx N tr c
 | .loop c=>fx N tr c
 | .scope c=>fx N tr c
 | .skip=>true
 | .exit _=>true
 | .label _=>true
 | .ret=>true
 |_=>false
theorem x9{N:Nat}{tr:List Nat}: ∀(c:Code),fx N tr c=true→codeOk N tr c=true:=by
 intro c
 induction c with
 |region id ops draw=>intro h;simp only[fx,Bool.and_eq_true]at h;simp only[codeOk,Bool.and_eq_true];exact h.1
 |seq a b iha ihb=>intro h;simp only[fx,Bool.and_eq_true]at h;simp only[codeOk,Bool.and_eq_true];exact⟨iha h.1,ihb h.2⟩
 |cond c a b iha ihb=>intro h;simp only[fx,Bool.and_eq_true]at h;simp only[codeOk,Bool.and_eq_true];exact⟨iha h.1,ihb h.2⟩
 |block id c ih=>intro h;exact ih h
 |loop c ih=>intro h;exact ih h
 |scope c ih=>intro h;exact ih h
 |_=>intro h;first|rfl|cases h
def PS.set(S:PS)(d:Nat)(v:PV):PS:= {S with t:=fA S.t d v,own:=fun l=>match l with| .t i j=>if i=d then false else S.own (.t i j)|l=>S.own l}
def PS.yw(S:PS)(d:Option Nat)(v:PV):PS:=match d with|some d=>S.set d v|none=>S
def H5(p:PV)(w:Bool):Bool:=match p with| .d (.bool b)=>b==w|_=>false
def ow(P:Program)(tr:List Nat)(d:Option Nat)(op:Op)(S:PS)(K:PS→Prop):Prop:=
 DZ P (d.getD 0+1) tr {dst:=d,op:=op,type:=0,pos:= "",after:= #[],guard:=none} S K
def uQ(P:Program)(tr:List Nat):List CO→(PS→Prop)→PS→Prop
 | [],Q,S=>Q S
 |c::l,Q,S=>
  match c.g with
  |none=>ow P tr c.d c.op S (uQ P tr l Q)
  |some (j,w)=>if H5 (S.t j) w=true then ow P tr c.d c.op S (uQ P tr l Q)else uQ P tr l Q (S.yw c.d .undef)
def yy(P:Program)(k:PS→Prop)(Q:Exit→PS→Prop)(e:Exit)(S:PS):Prop:=match e with| .normal=>k S|e=>Q e S
def Fi(id:Nat)(Q:Exit→PS→Prop)(e:Exit)(S:PS):Prop:=match e with| .exit id'=>if id'=id then Q .normal S else Q (.exit id') S|e=>Q e S
def oA(P:Program)(tr:List Nat):CC→(Exit→PS→Prop)→PS→Prop
 | .skip,Q,S=>Q .normal S
 | .reg l,Q,S=>uQ P tr l (Q .normal) S
 | .seq a b,Q,S=>oA P tr a (yy P (oA P tr b Q) Q) S
 | .cond c a b,Q,S=>match S.ev c with| .d (.bool t)=>if t=true then oA P tr a Q S else oA P tr b Q S|_=>False
 | .block id c,Q,S=>oA P tr c (Fi id Q) S
 | .loop c,Q,S=> ∃(I:PS→Prop) (μ:PS→Nat),I S∧ ∀S1,I S1→oA P tr c (yy P (fun S'=>I S'∧μ S'<μ S1) Q) S1
 | .exit id,Q,S=>Q (.exit id) S
 | .ret,Q,S=>Q .ret S
 | .bad,_,_=>False
section
variable {P:Program} {N:Nat} {tr:List Nat}
theorem M8{N':Nat}{S:PS}{o o':Oper}(hd:o'.dst=o.dst)(ho:o'.op=o.op)(h:gG N o=true)(h':gG N' o'=true):dO P N' tr S o'=dO P N tr S o:=by
 obtain⟨d,op,ty,pos,af,g⟩:=o;obtain⟨d',op',ty',pos',af',g'⟩:=o';simp only at hd ho;subst hd ho;unfold dO;rw[if_pos h,if_pos h'];rfl
theorem Px{N':Nat}{S:PS}{o o':Oper}(hd:o'.dst=o.dst)(ho:o'.op=o.op)(h:gG N o=true)(h':gG N' o'=true):gx P N' tr S o'=gx P N tr S o:=by
 have e:g8 tr S o'=g8 tr S o:=by
  unfold g8 A7 A8 A9 lf iH;rw[hd,ho]
 have e2:gT tr S o'=gT tr S o:=by
  unfold gT gu lf iH;rw[hd,ho]
 unfold gx;rw[e,e2,M8 hd ho h h']
theorem OQ{N':Nat}{S:PS}{K:PS→Prop}{o o':Oper}(hd:o'.dst=o.dst)(ho:o'.op=o.op)(h:gG N o=true)(h':gG N' o'=true)(hw:DZ P N' tr o' S K):DZ P N tr o S K:=by
 unfold DZ at hw⊢;rw[ho]at hw
 split at hw
 ·refine⟨h,?_⟩;have h2:=hw.2;have hcb:s9 tr o'=s9 tr o:=by unfold s9;rw[hd]
  have hou:nF tr o'=nF tr o:=by unfold nF;rw[hd]
  rw[hcb,hou,hd]at h2
  split at h2
  ·split at h2
   ·rename_i hc;rw[if_pos hc];exact h2
   ·rename_i hc;rw[if_neg hc];obtain⟨ha,r,ro,hH,hK⟩:=h2;refine⟨ha,r,ro,hH,?_⟩;have:tD o' r ro=tD o r ro:=by unfold tD;rw[hd]
    rw[←this];exact hK
  ·exact h2.elim
 ·rw[Px hd ho h h']at hw;exact hw
theorem Jc(o:Oper)(S:PS):(uP o).apply S=S.yw o.dst .undef:=by
 unfold uP PS.yw
 cases hd:o.dst with
 |none=>
  simp only[dp.apply];obtain⟨t,bx,g,ow,fo⟩:=S;simp only
  congr 1
  funext l
  cases l<;>simp
 |some d=>
  simp only[dp.apply,PS.set]
  congr 1
  funext l
  cases l with
  |t i j=>
   simp only[ab,Bool.not_false,Bool.and_true];by_cases e:d=i
   ·subst e;simp
   ·have e': ¬i=d:=fun h=>e h.symm
    simp[e,e']
  |b n k=>simp
theorem wR{S:PS}{o:Oper}{K K':PS→Prop}(hk: ∀S,K S→K' S)(h:DZ P N tr o S K):DZ P N tr o S K':=by
 unfold DZ at h⊢
 split at h
 ·refine⟨h.1,?_⟩;have h2:=h.2
  split at h2
  ·split at h2
   ·rename_i hc;rw[if_pos hc];obtain⟨ns,fo,r,ro,post,hns,hM,hou,hK⟩:=h2;exact⟨ns,fo,r,ro,post,hns,hM,hou,hk _ hK⟩
   ·rename_i hc;rw[if_neg hc];obtain⟨ha,r,ro,hH,hK⟩:=h2;exact⟨ha,r,ro,hH,hk _ hK⟩
  ·exact h2.elim
 ·split at h
  ·exact hk _ h
  ·exact h.elim
theorem FR{ops:Array Oper}(hN:se N ops=true)(hG:NZ ops=true): ∀(l:List Oper) (Q:PS→Prop) (S:PS),(∀o∈l,o∈ops.toList)→uQ P tr (l.map (Vz ops.toList)) Q S→Jh P N tr ops l Q S
 | [],Q,S,_,h=>h
 |o::l,Q,S,hm,h=>by
  have hmo:=hm o List.mem_cons_self;have ih:=fun S'=>FR hN hG l Q S' fun o ho=>hm o (al _ ho)
  have hd:gG N o=true:=List.all_eq_true.1 hN o hmo;have hgk:=List.all_eq_true.1 hG o hmo;have hd':gG (o.dst.getD 0+1) {dst:=o.dst,op:=o.op,type:=0,pos:= "",after:= #[],guard:=none}=true:=by
   unfold gG
   cases o.dst<;>simp
  have hgo:ow P tr o.dst o.op S (uQ P tr (l.map (Vz ops.toList)) Q)→DZ P N tr o S (Jh P N tr ops l Q):=by
   intro hw;unfold ow at hw;exact wR ih (OQ rfl rfl hd hd' hw)
  rw[List.map_cons]at h;unfold uQ at h;unfold Jh;simp only[Vz]at h
  cases hg:o.guard with
  |none=>
   rw[hg]at h;simp only[Y5]at h;have:gd ops o S=true:=by unfold gd;rw[hg]
   rw[if_pos this];exact hgo h
  |some q=>
   obtain⟨j,w⟩:=q;rw[hg]at h hgk;simp only[Option.isSome_iff_exists]at hgk;obtain⟨d,hjd⟩:=hgk;obtain⟨x,hx,hxd⟩:=Option.bind_eq_some_iff.1 hjd;have hx':ops.toList[j]? =some x:=by simpa using hx
   simp only[Y5,hx',hxd]at h;have:gd ops o S=H5 (S.t d) w:=by
    unfold gd H5;rw[hg];simp only[hjd];rfl
   rw[this]
   split at h
   ·rename_i h1;rw[if_pos h1];exact hgo h
   ·rename_i h1;rw[if_neg h1];refine⟨hd,?_⟩;rw[Jc];exact ih _ h
theorem F0: ∀(c:Code),fx N tr c=true→ ∀(Q:Exit→PS→Prop) (S:PS),oA P tr (Df c) Q S→yp P N tr c Q S:=by
 intro c
 induction c with
 |region id ops draw=>
  intro hok Q S h;simp only[fx,Bool.and_eq_true]at hok;exact FR hok.1.1 hok.2 ops.toList _ S (fun _ h=>h) h
 |seq a b iha ihb=>
  intro hok Q S h;simp only[fx,Bool.and_eq_true]at hok;unfold yp;refine np (fun e S' hS=>?_) (iha hok.1 (yy P (oA P tr (Df b) Q) Q) S h)
  cases e with
  |normal=>exact ihb hok.2 Q S' hS
  |_=>exact hS
 |cond c a b iha ihb=>
  intro hok Q S h;simp only[fx,Bool.and_eq_true]at hok;simp only[Df,oA]at h;unfold yp
  split at h
  ·rename_i t hc
   try(rw[hc];simp only)
   split at h
   ·rename_i ht;rw[if_pos ht];exact iha hok.1 Q S h
   ·rename_i ht;rw[if_neg ht];exact ihb hok.2 Q S h
  ·exact h.elim
 |block id c ih=>
  intro hok Q S h;refine np (fun e S' hS=>?_) (ih hok (Fi id Q) S h)
  cases e<;>exact hS
 |loop c ih=>
  intro hok Q S h;obtain⟨I,μ,h0,hr⟩:=h;refine⟨I,μ,h0,fun S1 h1=>np (fun e S' hS=>?_) (ih hok _ S1 (hr S1 h1))⟩
  cases e<;>exact hS
 |scope c ih=>intro hok Q S h;exact ih hok Q S h
 |skip=>intro _ Q S h;exact h
 |exit id=>intro _ Q S h;exact h
 |label l=>intro _ Q S h;exact h
 |ret=>intro _ Q S h;exact h
 |_=>intro hok;cases hok
theorem cD.by(hm:P.follows .mixedOrders=true){f:FuncId}{fn:Func}{c:Code}(hf:P.funcs[f]? =some fn)(hname:(fn.name== "runtime.NumGoroutine")=false)(hb:fn.body=some c)(tr:List Nat){args:List PV}
 (hargs:args.length≤fn.ntmps) (hok:fx fn.ntmps tr c=true) (hres:uT fn.results.toList=true) {r:PV} {ro:Nat→Bool} (hfree:fZ r=true)
 (h:oA P tr (Df c) (G_ P fn.results.toList r ro) (PS.start args)):cD P f args r ro:=
 cD.of hm hf hname hb tr hargs (x9 c hok) hres hfree (F0 c hok _ _ h)
theorem de.by(hm:P.follows .mixedOrders=true){f:FuncId}{fn:Func}{c:Code}(hf:P.funcs[f]? =some fn)(hname:(fn.name== "runtime.NumGoroutine")=false)(hb:fn.body=some c)(tr:List Nat){fo:Nat}{gl:Nat→Nat}{args:List PV}{pre post:List iL}
 (hargs:args.length≤fn.ntmps) (hok:fx fn.ntmps tr c=true) (hres:uT fn.results.toList=true) {r:PV} {ro:Nat→Bool}
 (hnr:cH (post.map (·.n)) r=true) (hpn: ∀u∈post,cS (post.map (·.n)) u.c=true∧0<u.g) (hpre: ∀u∈pre,u.n∈post.map (·.n))
 (h:oA P tr (Df c) (Ha P fn.results.toList r ro post) (PS.eZ fo gl args pre)):de P fo gl f args pre r ro post:=
 de.of hm hf hname hb tr hargs (x9 c hok) hres hnr hpn hpre (F0 c hok _ _ h)
end
section
variable {P:Program} {tr:List Nat} {S:PS} {K:PS→Prop} {Q:PS→Prop} {l:List CO}
@[simp] theorem pt(s i j:Nat):dg s (.t i j)=(i==s):=rfl
@[simp] theorem BW(s i j:Nat):dg s (.b i j)=false:=rfl
@[simp] theorem aaI(d:Nat)(v:PV)(i:Nat):(S.set d v).t i=if i=d then v else S.t i:=rfl
@[simp] theorem Tr(d:Nat)(v:PV):(S.set d v).box=S.box:=rfl
@[simp] theorem Tq(d:Nat)(v:PV):(S.set d v).gen=S.gen:=rfl
@[simp] theorem Wq(d:Nat)(v:PV):(S.set d v).fo=S.fo:=rfl
@[simp] theorem Rc(d:Nat)(v:PV)(i j:Nat):(S.set d v).own (.t i j)=if i=d then false else S.own (.t i j):=rfl
@[simp] theorem Re(d:Nat)(v:PV)(i j:Nat):(S.set d v).own (.b i j)=S.own (.b i j):=rfl
@[simp] theorem P4{d:Nat}{v:PV}:S.yw (some d) v=S.set d v:=rfl
@[simp] theorem P5{v:PV}:S.yw none v=S:=rfl
def BI:List iL→Nat→List PV→List PV| [],_,d=>d|u::l,n,d=>if u.n=n then u.c else BI l n d
def BH:List iL→Nat→Nat→Nat| [],_,d=>d|u::l,n,d=>if u.n=n then u.g else BH l n d
def BG:List iL→Nat→Nat→Bool→Bool| [],_,_,d=>d|u::l,n,k,d=>if u.n=n then u.o k else BG l n k d
@[simp] theorem QT{n:Nat}{d:List PV}:BI [] n d=d:=rfl
@[simp] theorem PR{u:iL}{l:List iL}{n:Nat}{d:List PV}:BI (u::l) n d=if u.n=n then u.c else BI l n d:=rfl
@[simp] theorem QS{n d:Nat}:BH [] n d=d:=rfl
@[simp] theorem PQ{u:iL}{l:List iL}{n d:Nat}:BH (u::l) n d=if u.n=n then u.g else BH l n d:=rfl
@[simp] theorem QR{n k:Nat}{d:Bool}:BG [] n k d=d:=rfl
@[simp] theorem PO{u:iL}{l:List iL}{n k:Nat}{d:Bool}:BG (u::l) n k d=if u.n=n then u.o k else BG l n k d:=rfl
theorem Fw{l:List iL}{n:Nat}{d:List PV}:BI l n d=match cV l n with|some u=>u.c|none=>d:=by
 induction l with
 |nil=>rfl
 |cons u l ih=>simp only[BI,cV];split<;>simp_all
theorem Fv{l:List iL}{n:Nat}{d:Nat}:BH l n d=match cV l n with|some u=>u.g|none=>d:=by
 induction l with
 |nil=>rfl
 |cons u l ih=>simp only[BH,cV];split<;>simp_all
theorem Fu{l:List iL}{n k:Nat}{d:Bool}:BG l n k d=match cV l n with|some u=>u.o k|none=>d:=by
 induction l with
 |nil=>rfl
 |cons u l ih=>simp only[BG,cV];split<;>simp_all
theorem j8(E:dp)(i j:Nat):(E.apply S).own (.t i j)=if E.dst=some i then E.ro j else S.own (.t i j)&& !E.clr (.t i j):=rfl
theorem hJ(E:dp)(n k:Nat):(E.apply S).own (.b n k)=match cV E.bx n with|some u=>u.o k|none=>S.own (.b n k)&& !E.clr (.b n k):=rfl
def PS.q(S:PS)(d:Nat)(v:PV)(b:Bool):PS:=(⟨some d,v,fun _=>b,fun _=>false,[]⟩:dp).apply S
@[simp] theorem q_t{d:Nat}{v:PV}{b:Bool}{i:Nat}:(S.q d v b).t i=if i=d then v else S.t i:=rfl
@[simp] theorem aaN{d:Nat}{v:PV}{b:Bool}:(S.q d v b).box=S.box:=rfl
@[simp] theorem aaM{d:Nat}{v:PV}{b:Bool}:(S.q d v b).gen=S.gen:=rfl
@[simp] theorem adC{d:Nat}{v:PV}{b:Bool}:(S.q d v b).fo=S.fo:=rfl
@[simp] theorem WS{d:Nat}{v:PV}{b:Bool}{i j:Nat}:(S.q d v b).own (.t i j)=if i=d then b else S.own (.t i j):=by
 simp only[PS.q,j8,ab,Bool.not_false,Bool.and_true,aI (a:=d)]
@[simp] theorem WT{d:Nat}{v:PV}{b:Bool}{i j:Nat}:(S.q d v b).own (.b i j)=S.own (.b i j):=by simp[PS.q,hJ]
def PS.m(S:PS)(d s:Nat)(v:PV):PS:=(⟨some d,v,fun j=>S.own (.t s j),dg s,[]⟩:dp).apply S
@[simp] theorem m_t{d s:Nat}{v:PV}{i:Nat}:(S.m d s v).t i=if i=d then v else S.t i:=rfl
@[simp] theorem aa6{d s:Nat}{v:PV}:(S.m d s v).box=S.box:=rfl
@[simp] theorem aa5{d s:Nat}{v:PV}:(S.m d s v).gen=S.gen:=rfl
@[simp] theorem adR{d s:Nat}{v:PV}:(S.m d s v).fo=S.fo:=rfl
@[simp] theorem Xp{d s:Nat}{v:PV}{i j:Nat}:(S.m d s v).own (.t i j)=if i=d then S.own (.t s j)else if i=s then false else S.own (.t i j):=by
 simp only[PS.m,j8,ab,pt,aI (a:=d)];by_cases h:i=d
 ·simp[h]
 ·by_cases h2:i=s<;>simp[h,h2]
@[simp] theorem Xq{d s:Nat}{v:PV}{i j:Nat}:(S.m d s v).own (.b i j)=S.own (.b i j):=by simp[PS.m,hJ]
def PS.ap(S:PS)(d s:Nat)(xs:List DV):PS:=(⟨some d,.d (.slice xs),fun j=>j==0,dg s,[]⟩:dp).apply S
@[simp] theorem ae4{d s:Nat}{xs:List DV}{i:Nat}:(S.ap d s xs).t i=if i=d then .d (.slice xs)else S.t i:=rfl
@[simp] theorem Zs{d s:Nat}{xs:List DV}:(S.ap d s xs).box=S.box:=rfl
@[simp] theorem Zr{d s:Nat}{xs:List DV}:(S.ap d s xs).gen=S.gen:=rfl
@[simp] theorem abV{d s:Nat}{xs:List DV}:(S.ap d s xs).fo=S.fo:=rfl
@[simp] theorem VR{d s:Nat}{xs:List DV}{i j:Nat}:(S.ap d s xs).own (.t i j)=if i=d then j==0 else if i=s then false else S.own (.t i j):=by
 simp only[PS.ap,j8,ab,pt,aI (a:=d)];by_cases h:i=d
 ·simp[h]
 ·by_cases h2:i=s<;>simp[h,h2]
@[simp] theorem VS{d s:Nat}{xs:List DV}{i j:Nat}:(S.ap d s xs).own (.b i j)=S.own (.b i j):=by simp[PS.ap,hJ]
def PS.lt(S:PS)(d:Nat)(v:PV)(n o:Nat):PS:=(⟨some d,v,fun j=>j==0&&S.own (.b n o),fun l=>l== .b n o,[]⟩:dp).apply S
@[simp] theorem adS{d n o:Nat}{v:PV}{i:Nat}:(S.lt d v n o).t i=if i=d then v else S.t i:=rfl
@[simp] theorem Xs{d n o:Nat}{v:PV}:(S.lt d v n o).box=S.box:=rfl
@[simp] theorem Xr{d n o:Nat}{v:PV}:(S.lt d v n o).gen=S.gen:=rfl
@[simp] theorem aa7{d n o:Nat}{v:PV}:(S.lt d v n o).fo=S.fo:=rfl
@[simp] theorem T6{d n o:Nat}{v:PV}{i j:Nat}:(S.lt d v n o).own (.t i j)=if i=d then j==0&&S.own (.b n o)else S.own (.t i j):=by
 have:(Loc.t i j==Loc.b n o)=false:=beq_eq_false_iff_ne.2 (by simp)
 simp only[PS.lt,j8,ab,aI (a:=d),this,Bool.not_false,Bool.and_true]
@[simp] theorem T7{d n o:Nat}{v:PV}{i j:Nat}:(S.lt d v n o).own (.b i j)=if i=n∧j=o then false else S.own (.b i j):=by
 simp only[PS.lt,hJ,nT];by_cases h:i=n∧j=o
 ·simp[h.1,h.2]
 ·rw[if_neg h];have:(Loc.b i j==Loc.b n o)=false:=by simpa using h
  simp[this]
def PS.ex(S:PS)(d:Nat)(v:PV)(s k:Nat):PS:=(⟨some d,v,fun j=>j==0&&S.own (.t s k),fun l=>l== .t s k,[]⟩:dp).apply S
@[simp] theorem aef{d s k:Nat}{v:PV}{i:Nat}:(S.ex d v s k).t i=if i=d then v else S.t i:=rfl
@[simp] theorem YN{d s k:Nat}{v:PV}:(S.ex d v s k).box=S.box:=rfl
@[simp] theorem YM{d s k:Nat}{v:PV}:(S.ex d v s k).gen=S.gen:=rfl
@[simp] theorem abg{d s k:Nat}{v:PV}:(S.ex d v s k).fo=S.fo:=rfl
@[simp] theorem Vt{d s k:Nat}{v:PV}{i j:Nat}:(S.ex d v s k).own (.t i j)=if i=d then j==0&&S.own (.t s k)else if i=s∧j=k then false else S.own (.t i j):=by
 simp only[PS.ex,j8,ab,aI (a:=d)];by_cases h:i=d
 ·simp[h]
 ·by_cases h2:i=s∧j=k
  ·rw[if_neg h,if_neg h,if_pos h2];simp[h2.1,h2.2]
  ·rw[if_neg h,if_neg h,if_neg h2];have:(Loc.t i j==Loc.t s k)=false:=by simpa using h2
   simp[this]
@[simp] theorem Vu{d s k:Nat}{v:PV}{i j:Nat}:(S.ex d v s k).own (.b i j)=S.own (.b i j):=by
 have:(Loc.b i j==Loc.t s k)=false:=beq_eq_false_iff_ne.2 (by simp)
 simp[PS.ex,hJ,this]
def PS.nb(S:PS)(d:Nat)(v:PV)(g:Nat)(c:List PV)(z:Nat→Bool):PS:=(⟨some d,v,fun _=>false,fun _=>false,[⟨S.fo+d,g,c,z⟩]⟩:dp).apply S
@[simp] theorem adO{d g:Nat}{v:PV}{c:List PV}{z:Nat→Bool}{i:Nat}:(S.nb d v g c z).t i=if i=d then v else S.t i:=rfl
@[simp] theorem Xf{d g:Nat}{v:PV}{c:List PV}{z:Nat→Bool}{m:Nat}:(S.nb d v g c z).box m=if m=S.fo+d then c else S.box m:=by
 simp only[PS.nb,dp.apply,cO];split<;>rename_i h<;>split at h<;>simp_all [aI]
@[simp] theorem Xe{d g:Nat}{v:PV}{c:List PV}{z:Nat→Bool}{m:Nat}:(S.nb d v g c z).gen m=if m=S.fo+d then g else S.gen m:=by
 simp only[PS.nb,dp.apply,cO];split<;>rename_i h<;>split at h<;>simp_all [aI]
@[simp] theorem aaW{d g:Nat}{v:PV}{c:List PV}{z:Nat→Bool}:(S.nb d v g c z).fo=S.fo:=rfl
@[simp] theorem T1{d g:Nat}{v:PV}{c:List PV}{z:Nat→Bool}{i j:Nat}:(S.nb d v g c z).own (.t i j)=if i=d then false else S.own (.t i j):=by
 simp only[PS.nb,j8,ab,Bool.not_false,Bool.and_true,aI (a:=d)]
@[simp] theorem T2{d g:Nat}{v:PV}{c:List PV}{z:Nat→Bool}{m k:Nat}:(S.nb d v g c z).own (.b m k)=if m=S.fo+d then z k else S.own (.b m k):=by
 simp only[PS.nb,hJ,cO,Bool.not_false,Bool.and_true];split<;>rename_i h<;>split at h<;>simp_all [aI]
@[simp] theorem XC{xs:List DV}:kM (.d (.slice xs))=true:=rfl
@[simp] theorem Si{k:IntKind}{n:Int}:kM (.d (.int k n))=false:=rfl
@[simp] theorem Qx{n:Bool}:kM (.d (.bool n))=false:=rfl
@[simp] theorem Sh{n:List UInt8}:kM (.d (.str n))=false:=rfl
@[simp] theorem Sk{n:List DV}:kM (.d (.agg n))=false:=rfl
@[simp] theorem Sj{n g l z:Nat}{a:Bool}:kM (.bsl n g l z a)=false:=rfl
@[simp] theorem Ub{n:List PV}:kM (.pa n)=false:=rfl
def At(S:PS)(v:Operand)(n:Nat):Bool:=match v with| .tmp s=>n==1&&S.own (.t s 0)&&kM (S.t s)| .const c=>fQ c|_=>false
def wu(v:Operand):Loc→Bool:=match v with| .tmp s=>dg s|_=>fun _=>false
@[simp] theorem Q2{s n:Nat}:At S (.tmp s) n=(n==1&&S.own (.t s 0)&&kM (S.t s)):=rfl
@[simp] theorem Q3{c:Value}{n:Nat}:At S (.const c) n=fQ c:=rfl
@[simp] theorem Q4{s:Nat}:wu (.tmp s)=dg s:=rfl
@[simp] theorem Q5{c:Value}:wu (.const c)=fun _=>false:=rfl
@[simp] theorem I_{v:Operand}{m k:Nat}:wu v (.b m k)=false:=by cases v<;>rfl
def PS.st(S:PS)(v:Operand)(n g o len:Nat)(c:List PV):PS:=(⟨none,.undef,fun _=>false,wu v,[⟨n,g,c,fun k=>if o≤k∧k<o+len then At S v len else S.own (.b n k)⟩]⟩:dp).apply S
@[simp] theorem adp{v:Operand}{n g o len:Nat}{c:List PV}{i:Nat}:(S.st v n g o len c).t i=S.t i:=rfl
@[simp] theorem Wc{v:Operand}{n g o len:Nat}{c:List PV}{m:Nat}:(S.st v n g o len c).box m=if m=n then c else S.box m:=by
 simp only[PS.st,dp.apply,cO];split<;>rename_i h<;>split at h<;>simp_all [aI]
@[simp] theorem Wb{v:Operand}{n g o len:Nat}{c:List PV}{m:Nat}:(S.st v n g o len c).gen m=if m=n then g else S.gen m:=by
 simp only[PS.st,dp.apply,cO];split<;>rename_i h<;>split at h<;>simp_all [aI]
@[simp] theorem aaD{v:Operand}{n g o len:Nat}{c:List PV}:(S.st v n g o len c).fo=S.fo:=rfl
@[simp] theorem Tm{v:Operand}{n g o len:Nat}{c:List PV}{i j:Nat}:(S.st v n g o len c).own (.t i j)=(S.own (.t i j)&& !wu v (.t i j)):=rfl
@[simp] theorem Tn{v:Operand}{n g o len:Nat}{c:List PV}{m k:Nat}:(S.st v n g o len c).own (.b m k)=if m=n then(if o≤k∧k<o+len then At S v len else S.own (.b n k))else S.own (.b m k):=by
 simp only[PS.st,hJ,cO,I_,Bool.not_false,Bool.and_true];by_cases h:m=n
 ·subst h;simp
 ·have h': ¬n=m:=fun e=>h e.symm
  simp[h,h']
def PS.nx(S:PS)(d s:Nat)(v:PV)(g:Nat)(c:List PV):PS:=(⟨some d,v,fun _=>false,dg s,[⟨S.fo+d,g,c,fun _=>false⟩]⟩:dp).apply S
@[simp] theorem adN{d s g:Nat}{v:PV}{c:List PV}{i:Nat}:(S.nx d s v g c).t i=if i=d then v else S.t i:=rfl
@[simp] theorem W9{d s g:Nat}{v:PV}{c:List PV}{m:Nat}:(S.nx d s v g c).box m=if m=S.fo+d then c else S.box m:=by
 simp only[PS.nx,dp.apply,cO];split<;>rename_i h<;>split at h<;>simp_all [aI]
@[simp] theorem W8{d s g:Nat}{v:PV}{c:List PV}{m:Nat}:(S.nx d s v g c).gen m=if m=S.fo+d then g else S.gen m:=by
 simp only[PS.nx,dp.apply,cO];split<;>rename_i h<;>split at h<;>simp_all [aI]
@[simp] theorem aaV{d s g:Nat}{v:PV}{c:List PV}:(S.nx d s v g c).fo=S.fo:=rfl
@[simp] theorem TX{d s g:Nat}{v:PV}{c:List PV}{i j:Nat}:(S.nx d s v g c).own (.t i j)=if i=d then false else if i=s then false else S.own (.t i j):=by
 simp only[PS.nx,j8,ab,pt,aI (a:=d)];by_cases h:i=d
 ·simp[h]
 ·by_cases h2:i=s<;>simp[h,h2]
@[simp] theorem TY{d s g:Nat}{v:PV}{c:List PV}{m k:Nat}:(S.nx d s v g c).own (.b m k)=if m=S.fo+d then false else S.own (.b m k):=by
 simp only[PS.nx,hJ,cO,BW,Bool.not_false,Bool.and_true];split<;>rename_i h<;>split at h<;>simp_all [aI]
def PS.gw(S:PS)(d n:Nat)(v:PV)(g:Nat)(c:List PV):PS:=(⟨some d,v,fun _=>false,fun _=>false,[⟨n,g,c,fun k=>S.own (.b n k)⟩]⟩:dp).apply S
@[simp] theorem ad'{d n g:Nat}{v:PV}{c:List PV}{i:Nat}:(S.gw d n v g c).t i=if i=d then v else S.t i:=rfl
@[simp] theorem XN{d n g:Nat}{v:PV}{c:List PV}{m:Nat}:(S.gw d n v g c).box m=if m=n then c else S.box m:=by
 simp only[PS.gw,dp.apply,cO];split<;>rename_i h<;>split at h<;>simp_all [aI]
@[simp] theorem XM{d n g:Nat}{v:PV}{c:List PV}{m:Nat}:(S.gw d n v g c).gen m=if m=n then g else S.gen m:=by
 simp only[PS.gw,dp.apply,cO];split<;>rename_i h<;>split at h<;>simp_all [aI]
@[simp] theorem abf{d n g:Nat}{v:PV}{c:List PV}:(S.gw d n v g c).fo=S.fo:=rfl
@[simp] theorem Uj{d n g:Nat}{v:PV}{c:List PV}{i j:Nat}:(S.gw d n v g c).own (.t i j)=if i=d then false else S.own (.t i j):=by
 simp only[PS.gw,j8,ab,Bool.not_false,Bool.and_true,aI (a:=d)]
@[simp] theorem Uk{d n g:Nat}{v:PV}{c:List PV}{m k:Nat}:(S.gw d n v g c).own (.b m k)=S.own (.b m k):=by
 simp only[PS.gw,hJ,cO,Bool.not_false,Bool.and_true];by_cases h:n=m
 ·subst h;simp
 ·simp[h]
def PS.bo(S:PS)(d s:Nat)(v:PV)(nl:Nat→Bool):PS:=(⟨some d,v,fun j=>(j==0&&S.own (.t s 0))||nl j,dg s,[]⟩:dp).apply S
@[simp] theorem ae0{d s:Nat}{v:PV}{nl:Nat→Bool}{i:Nat}:(S.bo d s v nl).t i=if i=d then v else S.t i:=rfl
@[simp] theorem Zc{d s:Nat}{v:PV}{nl:Nat→Bool}:(S.bo d s v nl).box=S.box:=rfl
@[simp] theorem Zb{d s:Nat}{v:PV}{nl:Nat→Bool}:(S.bo d s v nl).gen=S.gen:=rfl
@[simp] theorem abM{d s:Nat}{v:PV}{nl:Nat→Bool}:(S.bo d s v nl).fo=S.fo:=rfl
@[simp] theorem VE{d s:Nat}{v:PV}{nl:Nat→Bool}{i j:Nat}:(S.bo d s v nl).own (.t i j)=if i=d then((j==0&&S.own (.t s 0))||nl j)else if i=s then false else S.own (.t i j):=by
 simp only[PS.bo,j8,ab,pt,aI (a:=d)];by_cases h:i=d
 ·simp[h]
 ·by_cases h2:i=s<;>simp[h,h2]
@[simp] theorem VF{d s:Nat}{v:PV}{nl:Nat→Bool}{i j:Nat}:(S.bo d s v nl).own (.b i j)=S.own (.b i j):=by simp[PS.bo,hJ]
def PS.bn(S:PS)(d:Nat)(v:PV)(nl:Nat→Bool):PS:=(⟨some d,v,nl,fun _=>false,[]⟩:dp).apply S
@[simp] theorem ae1{d:Nat}{v:PV}{nl:Nat→Bool}{i:Nat}:(S.bn d v nl).t i=if i=d then v else S.t i:=rfl
@[simp] theorem Zf{d:Nat}{v:PV}{nl:Nat→Bool}:(S.bn d v nl).box=S.box:=rfl
@[simp] theorem Ze{d:Nat}{v:PV}{nl:Nat→Bool}:(S.bn d v nl).gen=S.gen:=rfl
@[simp] theorem abN{d:Nat}{v:PV}{nl:Nat→Bool}:(S.bn d v nl).fo=S.fo:=rfl
def PS.n1(S:PS)(d s:Nat)(v:PV)(g:Nat)(c:List PV):PS:=(⟨some d,v,fun _=>false,dg s,[⟨S.fo+d,g,c,fun k=>decide (k<c.length)&&S.own (.t s k)⟩]⟩:dp).apply S
@[simp] theorem adQ{d s g:Nat}{v:PV}{c:List PV}{i:Nat}:(S.n1 d s v g c).t i=if i=d then v else S.t i:=rfl
@[simp] theorem Xl{d s g:Nat}{v:PV}{c:List PV}{m:Nat}:(S.n1 d s v g c).box m=if m=S.fo+d then c else S.box m:=by
 simp only[PS.n1,dp.apply,cO];split<;>rename_i h<;>split at h<;>simp_all [aI]
@[simp] theorem Xk{d s g:Nat}{v:PV}{c:List PV}{m:Nat}:(S.n1 d s v g c).gen m=if m=S.fo+d then g else S.gen m:=by
 simp only[PS.n1,dp.apply,cO];split<;>rename_i h<;>split at h<;>simp_all [aI]
@[simp] theorem aaX{d s g:Nat}{v:PV}{c:List PV}:(S.n1 d s v g c).fo=S.fo:=rfl
@[simp] theorem T3{d s g:Nat}{v:PV}{c:List PV}{i j:Nat}:(S.n1 d s v g c).own (.t i j)=if i=d then false else if i=s then false else S.own (.t i j):=by
 simp only[PS.n1,j8,ab,pt,aI (a:=d)];by_cases h:i=d
 ·simp[h]
 ·by_cases h2:i=s<;>simp[h,h2]
@[simp] theorem T4{d s g:Nat}{v:PV}{c:List PV}{m k:Nat}:(S.n1 d s v g c).own (.b m k)=if m=S.fo+d then decide (k<c.length)&&S.own (.t s k)else S.own (.b m k):=by
 simp only[PS.n1,hJ,cO,BW,Bool.not_false,Bool.and_true];by_cases h:m=S.fo+d
 ·simp[h]
 ·have h': ¬S.fo+d=m:=fun e=>h e.symm
  simp[h,h']
def PS.rW(S:PS)(u m L:Nat):PS:= {S with own:=fun l=>match l with| .t i j=>S.own (.t i j)| .b n k=>if n=u then(if k<L then S.own (.b u k)else S.own (.b m (k-L)))else if n=m then false else S.own (.b n k)}
@[simp] theorem XQ{u m L i:Nat}:(S.rW u m L).t i=S.t i:=rfl
@[simp] theorem Sr{u m L:Nat}:(S.rW u m L).box=S.box:=rfl
@[simp] theorem Sq{u m L:Nat}:(S.rW u m L).gen=S.gen:=rfl
@[simp] theorem Ul{u m L:Nat}:(S.rW u m L).fo=S.fo:=rfl
@[simp] theorem Qz{u m L i j:Nat}:(S.rW u m L).own (.t i j)=S.own (.t i j):=rfl
@[simp] theorem QA{u m L n k:Nat}:(S.rW u m L).own (.b n k)=if n=u then(if k<L then S.own (.b u k)else S.own (.b m (k-L)))else if n=m then false else S.own (.b n k):=rfl
def PS.kl(S:PS)(d:Nat)(v:PV)(n:Nat):PS:=(⟨some d,v,fun _=>false,fun _=>false,[kill S n]⟩:dp).apply S
@[simp] theorem adY{d n:Nat}{v:PV}{i:Nat}:(S.kl d v n).t i=if i=d then v else S.t i:=rfl
@[simp] theorem Xx{d n:Nat}{v:PV}{m:Nat}:(S.kl d v n).box m=if m=n then[]else S.box m:=by
 simp only[PS.kl,dp.apply,cO,kill];split<;>rename_i h<;>split at h<;>simp_all [aI]
@[simp] theorem Xw{d n:Nat}{v:PV}{m:Nat}:(S.kl d v n).gen m=if m=n then S.gen n+1 else S.gen m:=by
 simp only[PS.kl,dp.apply,cO,kill];split<;>rename_i h<;>split at h<;>simp_all [aI]
@[simp] theorem aa_{d n:Nat}{v:PV}:(S.kl d v n).fo=S.fo:=rfl
def PS.cl(S:PS)(d:Nat)(r:PV)(ro:Nat→Bool):PS:=(⟨some d,r,ro,fun _=>false,[]⟩:dp).apply S
@[simp] theorem aeK{d:Nat}{r:PV}{ro:Nat→Bool}{i:Nat}:(S.cl d r ro).t i=if i=d then r else S.t i:=rfl
@[simp] theorem Y0{d:Nat}{r:PV}{ro:Nat→Bool}:(S.cl d r ro).box=S.box:=rfl
@[simp] theorem YZ{d:Nat}{r:PV}{ro:Nat→Bool}:(S.cl d r ro).gen=S.gen:=rfl
@[simp] theorem abx{d:Nat}{r:PV}{ro:Nat→Bool}:(S.cl d r ro).fo=S.fo:=rfl
@[simp] theorem VA{d:Nat}{r:PV}{ro:Nat→Bool}{i j:Nat}:(S.cl d r ro).own (.t i j)=if i=d then ro j else S.own (.t i j):=by
 simp only[PS.cl,j8,ab,Bool.not_false,Bool.and_true,aI (a:=d)]
@[simp] theorem VB{d:Nat}{r:PV}{ro:Nat→Bool}{n k:Nat}:(S.cl d r ro).own (.b n k)=S.own (.b n k):=by simp[PS.cl,hJ]
def PS.cb(S:PS)(d:Option Nat)(r:PV)(ro:Nat→Bool)(post:List iL):PS:=(⟨d,r,ro,fun _=>false,post⟩:dp).apply S
@[simp] theorem aby{d:Nat}{r:PV}{ro:Nat→Bool}{post:List iL}{i:Nat}:(S.cb (some d) r ro post).t i=if i=d then r else S.t i:=rfl
@[simp] theorem abz{r:PV}{ro:Nat→Bool}{post:List iL}{i:Nat}:(S.cb none r ro post).t i=S.t i:=rfl
@[simp] theorem Y7{d:Option Nat}{r:PV}{ro:Nat→Bool}{post:List iL}{m:Nat}:(S.cb d r ro post).box m=BI post m (S.box m):=Fw.symm
@[simp] theorem Y6{d:Option Nat}{r:PV}{ro:Nat→Bool}{post:List iL}{m:Nat}:(S.cb d r ro post).gen m=BH post m (S.gen m):=Fv.symm
@[simp] theorem abA{d:Option Nat}{r:PV}{ro:Nat→Bool}{post:List iL}:(S.cb d r ro post).fo=S.fo:=rfl
@[simp] theorem SW{d:Nat}{r:PV}{ro:Nat→Bool}{post:List iL}{i j:Nat}:(S.cb (some d) r ro post).own (.t i j)=if i=d then ro j else S.own (.t i j):=by
 simp only[PS.cb,j8,ab,Bool.not_false,Bool.and_true,aI (a:=d)]
@[simp] theorem VD{d:Option Nat}{r:PV}{ro:Nat→Bool}{post:List iL}{m k:Nat}:(S.cb d r ro post).own (.b m k)=BG post m k (S.own (.b m k)):=by
 rw[Fu];simp only[PS.cb,hJ,Bool.not_false,Bool.and_true]
@[simp] theorem Ts:uQ P tr [] Q S=Q S:=rfl
@[simp] theorem Rf{d:Option Nat}{op:Op}:uQ P tr (⟨none,d,op⟩::l) Q S=ow P tr d op S (uQ P tr l Q):=rfl
inductive LF(P:Program)(tr:List Nat)(p:PV)(w:Bool)(d:Option Nat)(op:Op)(l:List CO)(Q:PS→Prop)(S:PS):Prop
 |t (h:H5 p w=true) (k:ow P tr d op S (uQ P tr l Q))
 |f (h: ¬H5 p w=true) (k:uQ P tr l Q (S.yw d .undef))
theorem Jf{p:PV}{w:Bool}{d:Option Nat}{op:Op}(h:H5 p w=true):LF P tr p w d op l Q S=ow P tr d op S (uQ P tr l Q):=
 propext ⟨fun x=>by cases x with|t _ k=>exact k|f h' _=>exact absurd h h',fun k=> .t h k⟩
theorem FQ{p:PV}{w:Bool}{d:Option Nat}{op:Op}(h: ¬H5 p w=true):LF P tr p w d op l Q S=uQ P tr l Q (S.yw d .undef):=
 propext ⟨fun x=>by cases x with|f _ k=>exact k|t h' _=>exact absurd h' h,fun k=> .f h k⟩
@[simp] theorem Wu{d:Option Nat}{op:Op}:LF P tr (.d (.bool true)) true d op l Q S=ow P tr d op S (uQ P tr l Q):=Jf rfl
@[simp] theorem Wx{d:Option Nat}{op:Op}:LF P tr (.d (.bool false)) false d op l Q S=ow P tr d op S (uQ P tr l Q):=Jf rfl
@[simp] theorem Wv{d:Option Nat}{op:Op}:LF P tr (.d (.bool true)) false d op l Q S=uQ P tr l Q (S.yw d .undef):=FQ (by simp[H5])
@[simp] theorem Ww{d:Option Nat}{op:Op}:LF P tr (.d (.bool false)) true d op l Q S=uQ P tr l Q (S.yw d .undef):=FQ (by simp[H5])
@[simp] theorem aaJ{w:Bool}{d:Option Nat}{op:Op}:LF P tr .undef w d op l Q S=uQ P tr l Q (S.yw d .undef):=FQ (by simp[H5])
theorem dt{c w:Bool}{d:Option Nat}{op:Op}(h1:c=true→LF P tr (.d (.bool true)) w d op l Q S)(h2:c=false→LF P tr (.d (.bool false)) w d op l Q S):LF P tr (.d (.bool c)) w d op l Q S:=by
 cases c
 ·exact h2 rfl
 ·exact h1 rfl
@[simp] theorem Y8{j:Nat}{w:Bool}{d:Option Nat}{op:Op}:uQ P tr (⟨some (j,w),d,op⟩::l) Q S=LF P tr (S.t j) w d op l Q S:=by
 by_cases h:H5 (S.t j) w=true
 ·rw[Jf h];simp only[uQ,if_pos h]
 ·rw[FQ h];simp only[uQ,if_neg h]
@[simp] theorem Ss{b w:Bool}:H5 (.d (.bool b)) w=(b==w):=rfl
@[simp] theorem QB{w:Bool}:H5 .undef w=false:=rfl
@[simp] theorem Po{t:Nat}:S.ev (.tmp t)=S.t t:=rfl
@[simp] theorem SA{v:Value}:S.ev (.const v)=ofConst v:=rfl
@[simp] theorem Vv{f:Nat}:S.ev (.func f)= .fn f []:=rfl
@[simp] theorem NI{k:IntKind}{n:Int}:ofConst (.int k n)= .d (.int k n):=rfl
@[simp] theorem Mo{b:Bool}:ofConst (.bool b)= .d (.bool b):=rfl
@[simp] theorem NH{l:List UInt8}:ofConst (.string ⟨⟨l⟩⟩)= .d (.str l):=rfl
@[simp] theorem Ml:ofConst (.slice none 0 0)= .d (.slice []):=rfl
@[simp] theorem Mm:ofConst (.pointer none)= .d (.opq (.pointer none)):=rfl
@[simp] theorem Mn:ofConst .nilFunc= .d (.opq .nilFunc):=rfl
@[simp] theorem Ws{k:PS→Prop}{Q:Exit→PS→Prop}:yy P k Q .normal S=k S:=rfl
@[simp] theorem Wr{k:PS→Prop}{Q:Exit→PS→Prop}:yy P k Q .ret S=Q .ret S:=rfl
@[simp] theorem Wt{k:PS→Prop}{Q:Exit→PS→Prop}{i:Nat}:yy P k Q (.exit i) S=Q (.exit i) S:=rfl
@[simp] theorem Zh{j:Nat}{Q:Exit→PS→Prop}:Fi j Q .normal S=Q .normal S:=rfl
@[simp] theorem Zg{j:Nat}{Q:Exit→PS→Prop}:Fi j Q .ret S=Q .ret S:=rfl
@[simp] theorem Zi{i j:Nat}{Q:Exit→PS→Prop}:Fi j Q (.exit i) S=if i=j then Q .normal S else Q (.exit i) S:=rfl
@[simp] theorem Rq{Q:Exit→PS→Prop}:oA P tr .skip Q S=Q .normal S:=rfl
@[simp] theorem TC{Q:Exit→PS→Prop}:oA P tr (.reg l) Q S=uQ P tr l (Q .normal) S:=rfl
@[simp] theorem TA{a b:CC}{Q:Exit→PS→Prop}:oA P tr (.seq a b) Q S=oA P tr a (yy P (oA P tr b Q) Q) S:=rfl
@[simp] theorem P'{i:Nat}{c:CC}{Q:Exit→PS→Prop}:oA P tr (.block i c) Q S=oA P tr c (Fi i Q) S:=rfl
@[simp] theorem Rr{i:Nat}{Q:Exit→PS→Prop}:oA P tr (.exit i) Q S=Q (.exit i) S:=rfl
@[simp] theorem TB{Q:Exit→PS→Prop}:oA P tr .ret Q S=Q .ret S:=rfl
inductive Tc(P:Program)(tr:List Nat)(p:PV)(a b:CC)(Q:Exit→PS→Prop)(S:PS):Prop
 |t (h:p= .d (.bool true)) (k:oA P tr a Q S)
 |f (h:p= .d (.bool false)) (k:oA P tr b Q S)
@[simp] theorem abv{a b:CC}{Q:Exit→PS→Prop}:Tc P tr (.d (.bool true)) a b Q S=oA P tr a Q S:=
 propext ⟨fun x=>by cases x with|t _ k=>exact k|f h _=>simp at h,fun k=> .t rfl k⟩
@[simp] theorem abw{a b:CC}{Q:Exit→PS→Prop}:Tc P tr (.d (.bool false)) a b Q S=oA P tr b Q S:=
 propext ⟨fun x=>by cases x with|f _ k=>exact k|t h _=>simp at h,fun k=> .f rfl k⟩
theorem dm{t:Bool}{a b:CC}{Q:Exit→PS→Prop}(h1:t=true→oA P tr a Q S)(h2:t=false→oA P tr b Q S):Tc P tr (.d (.bool t)) a b Q S:=by
 cases t
 ·exact .f rfl (h2 rfl)
 ·exact .t rfl (h1 rfl)
@[simp] theorem Y9{c:Operand}{a b:CC}{Q:Exit→PS→Prop}:oA P tr (.cond c a b) Q S=Tc P tr (S.ev c) a b Q S:=by
 simp only[oA];refine propext ⟨fun h=>?_,fun h=>?_⟩
 ·split at h
  ·rename_i t ht;rw[ht]
   cases t
   ·exact .f rfl h
   ·exact .t rfl h
  ·exact h.elim
 ·cases h with
  |t h k=>rw[h];exact k
  |f h k=>rw[h];exact k
def fL(o:Option PS)(K:PS→Prop):Prop:=match o with|some S=>K S|none=>False
@[simp] theorem lA{K:PS→Prop}:fL (some S) K=K S:=rfl
@[simp] theorem Qo{K:PS→Prop}:fL none K=False:=rfl
theorem dc{c:Prop}[Decidable c]{S':PS}(h:c)(hk:K S'):fL (if c then some S' else none) K:=by
 rw[if_pos h];exact hk
theorem eh{d:Option Nat}{op:Op}(hc: ∀x a t,op≠ .call ⟨.value x,a,t⟩):ow P tr d op S K=fL ((gx P (d.getD 0+1) tr S {dst:=d,op:=op,type:=0,pos:= "",after:= #[],guard:=none}).map fun E=>E.apply S) K:=by
 have:ow P tr d op S K=(match gx P (d.getD 0+1) tr S {dst:=d,op:=op,type:=0,pos:= "",after:= #[],guard:=none}with|some E=>K (E.apply S)|none=>False):=by
  unfold ow DZ
  cases op with
  |call c=>
   obtain⟨cal,a,t⟩:=c
   cases cal with
   |value x=>exact absurd rfl (hc x a t)
   |_=>rfl
  |_=>rfl
 rw[this]
 cases gx P (d.getD 0+1) tr S {dst:=d,op:=op,type:=0,pos:= "",after:= #[],guard:=none}<;>rfl
theorem oQ{d:Nat}{op:Op}:gG ((some d).getD 0+1) {dst:=some d,op:=op,type:=0,pos:= "",after:= #[],guard:=none}=true:=by simp[gG]
theorem SF{d:Nat}{op:Op}:gG (d+1) {dst:=some d,op:=op,type:=0,pos:= "",after:= #[],guard:=none}=true:=by simp[gG]
theorem SG{op:Op}:gG ((none:Option Nat).getD 0+1) {dst:=none,op:=op,type:=0,pos:= "",after:= #[],guard:=none}=true:=by simp[gG]
def jN(gn:Nat)(c:List PV)(g len sz:Nat)(ag:Bool):Option (List DV):=if g=gn∧len*sz≤c.length∧(ag=false→sz=1)then(pc (c.take (len*sz))).map (chunk sz ag len)else none
theorem BO{n g len sz:Nat}{ag:Bool}:iP S n g len sz ag=jN (S.gen n) (S.box n) g len sz ag:=rfl
def yL(gn:Nat)(c:List PV)(g lo len sz:Nat)(ag:Bool):Option (List DV):=if g=gn∧(lo+len)*sz≤c.length∧(ag=false→sz=1)then(pc ((c.drop (lo*sz)).take (len*sz))).map (chunk sz ag len)else none
def Xz(S:PS)(d n:Nat)(xs:List DV):PS:=S.kl d (.d (.slice xs)) n
@[simp] theorem Xy{d n:Nat}{xs:List DV}:Xz S d n xs=S.kl d (.d (.slice xs)) n:=rfl
def T'(S:PS)(d:Nat)(x:List DV×List Nat):Option PS:=match x.2 with| []=>some (S.q d (.d (.agg x.1)) false)| [n]=>some (S.kl d (.d (.agg x.1)) n)|_=>none
@[simp] theorem abb{d:Nat}{xs:List DV}:T' S d (xs,[])=some (S.q d (.d (.agg xs)) false):=rfl
@[simp] theorem aba{d n:Nat}{xs:List DV}:T' S d (xs,[n])=some (S.kl d (.d (.agg xs)) n):=rfl
def uu(S:PS)(d:Nat)(r:PV):Option PS:=
 match r with
 | .d x=>some (S.q d (.d x) false)
 | .bsl n g len sz ag=>(jN (S.gen n) (S.box n) g len sz ag).map (Xz S d n)
 | .pa cs=>(kD S cs).bind (T' S d)
 |_=>none
@[simp] theorem XW{d:Nat}{x:DV}:uu S d (.d x)=some (S.q d (.d x) false):=rfl
@[simp] theorem XX{d n g len sz:Nat}{ag:Bool}:uu S d (.bsl n g len sz ag)=(jN (S.gen n) (S.box n) g len sz ag).map (Xz S d n):=rfl
@[simp] theorem XV{d:Nat}{cs:List PV}:uu S d (.pa cs)=(kD S cs).bind (T' S d):=rfl
theorem Bd{d:Nat}{r:PV}{op:Op}:(rZ {dst:=some d,op:=op,type:=0,pos:= "",after:= #[],guard:=none} S r).map (fun E=>E.apply S)=uu S d r:=by
 cases r with
 |d x=>rfl
 |bsl n g len sz ag=>
  simp only[rZ,nM,pZ,uu,BO]
  cases jN (S.gen n) (S.box n) g len sz ag<;>rfl
 |pa cs=>
  simp only[rZ,nM,uu]
  cases kD S cs with
  |none=>rfl
  |some x=>
   obtain⟨x,ns⟩:=x
   cases ns with
   |nil=>rfl
   |cons n r=>cases r<;>rfl
 |_=>rfl
@[simp] theorem W4{d s:Nat}:ow P tr (some d) (.move (.tmp s)) S K=if d+20000∈tr then fL (uu S d (S.t s)) K else K (if d∈tr then S.m d s (S.t s)else S.q d (S.t s) false):=by
 rw[eh (by simp)]
 simp only[gx,g8,ej,gT,gu,Bool.and_self,if_true,dO,oQ,if_true,iH,lf,List.contains_iff_mem];by_cases h:d+20000∈tr
 ·rw[if_pos h,if_pos h];have:=Bd (S:=S) (d:=d) (r:=S.t s) (op:= .move (.tmp s));rw[←this];rfl
 ·rw[if_neg h,if_neg h];by_cases h2:d∈tr
  ·have h3:tr.contains d=true:=by simpa using h2
   simp only[ry,h3,if_true,Option.map_some,lA,if_pos h2];rfl
  ·have h3:tr.contains d=false:=by simpa using h2
   simp only[ry,h3,Option.map_some,lA,if_neg h2];rfl
@[simp] theorem TS{d:Nat}{v:Value}:ow P tr (some d) (.move (.const v)) S K=if d+20000∈tr then fL (uu S d (ofConst v)) K else K (S.q d (ofConst v) (fQ v)):=by
 rw[eh (by simp)]
 simp only[gx,g8,ej,gT,gu,Bool.and_self,if_true,dO,oQ,if_true,iH,List.contains_iff_mem];by_cases h:d+20000∈tr
 ·rw[if_pos h,if_pos h];have:=Bd (S:=S) (d:=d) (r:=ofConst v) (op:= .move (.const v));rw[←this];rfl
 ·rw[if_neg h,if_neg h];rfl
def qv(P:Program)(S:PS)(op:Op):Option (PV×Bool):=fw P S {dst:=none,op:=op,type:=0,pos:= "",after:= #[],guard:=none}
def PS.q2(S:PS)(d:Nat)(r:PV×Bool):PS:=S.q d r.1 r.2
@[simp] theorem aaO{d:Nat}{r:PV}{b:Bool}:S.q2 d (r,b)=S.q d r b:=rfl
def MP:Op→Bool
 | .pick .. =>true
 | .nilCheck .. =>true
 | .binOp .. =>true
 | .unOp .. =>true
 | .fieldAddr .. =>true
 | .field .. =>true
 | .indexAddr .. =>true
 | .index .. =>true
 | .slice .. =>true
 | .makeFunc .. =>true
 | .makeInterface .. =>true
 | .call ⟨.builtin .len,_,_⟩=>true
 | .call ⟨.builtin .min,_,_⟩=>true
 | .call ⟨.builtin .max,_,_⟩=>true
 |_=>false
def Uo(tr:List Nat)(fo d:Nat)(p:PV):Prop:=match II tr d with|some m=>vo (fo+m) p=true∧ ¬d∈tr∧ ¬d+20000∈tr|none=>True
def N7(tr:List Nat)(fo d:Nat)(p:PV):Prop:=(if d+50000∈tr then zC p=true∧ ¬d∈tr∧ ¬d+20000∈tr else True)∧(if d+70000∈tr then E6 tr fo p=true∧ ¬d∈tr∧ ¬d+20000∈tr else True)∧(if d+90000∈tr then Dc tr fo p=true∧ ¬d∈tr∧ ¬d+20000∈tr else True)∧Uo tr fo d p
theorem NG{d:Nat}{op:Op}{x:Operand}(hc: ∀x a t,op≠ .call ⟨.value x,a,t⟩)(hx:ej op=some x):
 ow P tr (some d) op S K=(N7 tr S.fo d (S.ev x)∧fL ((dO P (d+1) tr S {dst:=some d,op:=op,type:=0,pos:= "",after:= #[],guard:=none}).map fun E=>E.apply S) K):=by
 rw[eh hc];simp only[gx];have hk:(g8 tr S {dst:=some d,op:=op,type:=0,pos:= "",after:= #[],guard:=none}&&gT tr S {dst:=some d,op:=op,type:=0,pos:= "",after:= #[],guard:=none})=true↔N7 tr S.fo d (S.ev x):=by
  have hf:gT tr S {dst:=some d,op:=op,type:=0,pos:= "",after:= #[],guard:=none}=true↔Uo tr S.fo d (S.ev x):=by
   have ho:gu tr {dst:=some d,op:=op,type:=0,pos:= "",after:= #[],guard:=none}=(II tr d).map fun m=>(m,x):=by
    unfold gu
    cases op<;>simp[ej]at hx<;>subst hx<;>rfl
   unfold gT Uo;rw[ho]
   cases II tr d with
   |none=>simp
   |some m=>simp[hx,lf,iH]
  rw[Bool.and_eq_true,hf];unfold g8 N7 A7 A8 A9 lf iH;simp only[hx,Bool.and_eq_true,Bool.or_eq_true,Bool.not_eq_true',List.contains_iff_mem,←Bool.not_eq_true];by_cases h1:d+50000∈tr<;>by_cases h2:d+70000∈tr<;>by_cases h3:d+90000∈tr<;>simp[h1,h2,h3,and_assoc]
 by_cases h:N7 tr S.fo d (S.ev x)
 ·rw[if_pos (hk.2 h)];exact propext ⟨fun h3=>⟨h,h3⟩,fun h3=>h3.2⟩
 ·rw[if_neg (fun e=>h (hk.1 e))]
  refine propext ⟨fun h3=>?_,fun h3=>absurd h3.1 h⟩
  simp[fL]at h3
theorem W6{d:Nat}{op:Op}{x:Operand}(h:MP op=true)(hx:ej op=some x):ow P tr (some d) op S K=(N7 tr S.fo d (S.ev x)∧fL ((qv P S op).map (S.q2 d)) K):=by
 have hc: ∀x a t,op≠ .call ⟨.value x,a,t⟩:=by
  intro x a t e;subst e;simp[MP]at h
 rw[NG hc hx];have h1:dO P (d+1) tr S {dst:=some d,op:=op,type:=0,pos:= "",after:= #[],guard:=none}=(qv P S op).map fun r=>⟨some d,r.1,fun _=>r.2,fun _=>false,[]⟩:=by
  unfold dO;rw[if_pos SF]
  cases op<;>first|rfl|(simp[ej]at hx;done)|(simp[MP]at h;done)
 rw[h1]
 cases qv P S op<;>rfl
theorem IG{d:Nat}{op:Op}(h:MP op=true)(hn:ej op=none):ow P tr (some d) op S K=fL ((qv P S op).map (S.q2 d)) K:=by
 have hc: ∀x a t,op≠ .call ⟨.value x,a,t⟩:=by
  intro x a t e;subst e;simp[MP]at h
 rw[eh hc];have h1:gx P ((some d).getD 0+1) tr S {dst:=some d,op:=op,type:=0,pos:= "",after:= #[],guard:=none}=(qv P S op).map fun r=>⟨some d,r.1,fun _=>r.2,fun _=>false,[]⟩:=by
  have hfp:gT tr S {dst:=some d,op:=op,type:=0,pos:= "",after:= #[],guard:=none}=true:=by
   unfold gT;have:gu tr {dst:=some d,op:=op,type:=0,pos:= "",after:= #[],guard:=none}=none:=by
    unfold gu
    cases op<;>first|rfl|(simp[ej]at hn;done)|(simp[MP]at h;done)
   rw[this]
  unfold gx g8;rw[hn,hfp];simp only[Bool.and_self,if_true];unfold dO;rw[if_pos oQ]
  cases op with
  |call c=>
   obtain⟨cal,a,t⟩:=c
   cases cal with
   |builtin b=>cases b<;>first|rfl|(simp[MP]at h;done)
   |_=>simp[MP]at h
  |_=>first|rfl|(simp[MP]at h;done)
 rw[h1]
 cases qv P S op<;>rfl
@[simp] theorem W3{d:Nat}{c a b:Operand}:ow P tr (some d) (.pick c a b) S K=fL ((qv P S (.pick c a b)).map (S.q2 d)) K:=IG rfl rfl
@[simp] theorem OX{d:Nat}{x:Operand}:ow P tr (some d) (.nilCheck x) S K=fL ((qv P S (.nilCheck x)).map (S.q2 d)) K:=IG rfl rfl
@[simp] theorem TV{d:Nat}{op:BinOp}{t t':TypeId}{x y:Operand}:ow P tr (some d) (.binOp op t x y t') S K=fL ((qv P S (.binOp op t x y t')).map (S.q2 d)) K:=IG rfl rfl
@[simp] theorem W2{d:Nat}{op:UnOp}{t:TypeId}{x:Operand}:ow P tr (some d) (.unOp op t x) S K=fL ((qv P S (.unOp op t x)).map (S.q2 d)) K:=IG rfl rfl
@[simp] theorem NK{d:Nat}{t:TypeId}{x:Operand}{f:Nat}:ow P tr (some d) (.fieldAddr t x f) S K=fL ((qv P S (.fieldAddr t x f)).map (S.q2 d)) K:=IG rfl rfl
@[simp] theorem NJ{d:Nat}{t:TypeId}{x i:Operand}:ow P tr (some d) (.indexAddr t x i) S K=(N7 tr S.fo d (S.ev x)∧fL ((qv P S (.indexAddr t x i)).map (S.q2 d)) K):=W6 rfl rfl
@[simp] theorem TT{d:Nat}{t:TypeId}{x i:Operand}:ow P tr (some d) (.index t x i) S K=fL ((qv P S (.index t x i)).map (S.q2 d)) K:=IG rfl rfl
@[simp] theorem TR{d:Nat}{t:TypeId}{x:Operand}{lo hi mx:Option Operand}:ow P tr (some d) (.slice t x lo hi mx) S K=fL ((qv P S (.slice t x lo hi mx)).map (S.q2 d)) K:=IG rfl rfl
def Zd(P:Program)(S:PS)(d t:Nat)(ps:List (Nat×Operand))(r:PV×Bool):PS:=match fk P S t ps with|some s=>S.bo d s r.1 (jn P t ps)|none=>S.bn d r.1 (jn P t ps)
def PS.bb(S:PS)(d:Nat)(v:PV)(nl:Nat→Bool):PS:=(⟨some d,v,nl,fun _=>false,[⟨S.fo+d,S.gen (S.fo+d)+1,[],fun _=>false⟩]⟩:dp).apply S
@[simp] theorem ae2{d:Nat}{v:PV}{nl:Nat→Bool}{i:Nat}:(S.bb d v nl).t i=if i=d then v else S.t i:=rfl
@[simp] theorem Zl{d:Nat}{v:PV}{nl:Nat→Bool}{m:Nat}:(S.bb d v nl).box m=if m=S.fo+d then[]else S.box m:=by
 simp only[PS.bb,dp.apply,cO];split<;>rename_i h<;>split at h<;>simp_all [aI]
@[simp] theorem Zk{d:Nat}{v:PV}{nl:Nat→Bool}{m:Nat}:(S.bb d v nl).gen m=if m=S.fo+d then S.gen (S.fo+d)+1 else S.gen m:=by
 simp only[PS.bb,dp.apply,cO];split<;>rename_i h<;>split at h<;>simp_all [aI]
@[simp] theorem abR{d:Nat}{v:PV}{nl:Nat→Bool}:(S.bb d v nl).fo=S.fo:=rfl
@[simp] theorem VP{d:Nat}{v:PV}{nl:Nat→Bool}{i j:Nat}:(S.bb d v nl).own (.t i j)=if i=d then nl j else S.own (.t i j):=by
 simp only[PS.bb,j8,ab,Bool.not_false,Bool.and_true,aI (a:=d)]
@[simp] theorem VQ{d:Nat}{v:PV}{nl:Nat→Bool}{m k:Nat}:(S.bb d v nl).own (.b m k)=if m=S.fo+d then false else S.own (.b m k):=by
 simp only[PS.bb,hJ,cO,Bool.not_false,Bool.and_true];split<;>rename_i h<;>split at h<;>simp_all [aI]
attribute [simp] Qu
@[simp] theorem Qs{d:Nat}{v:Value}:ow P tr (some d) (.assign (.const v)) S K=
 match Qu tr d with
 |some (sz,ag)=>if fQ v=true∧0<sz then K (S.bb d (.bsl (S.fo+d) (S.gen (S.fo+d)+1) 0 sz ag) (fun _=>false))else False
 |none=>K (S.q d (ofConst v) (fQ v)):=by
 rw[eh (by simp)]
 simp only[gx,g8,ej,gT,gu,Bool.and_self,if_true,dO,oQ,if_true];have hn:Kd tr {dst:=some d,op:=Op.assign (Operand.const v),type:=0,pos:= "",after:= #[],guard:=none} (.const v)=Qu tr d:=rfl;rcases Option.eq_none_or_eq_some (Qu tr d)with hne|⟨⟨sz,ag⟩,hne⟩<;>simp only[hn,hne]
 ·simp only[bj,aF,aL];rfl
 ·simp only[Option.isSome_some,if_true,zk];by_cases h:fQ v=true∧0<sz
  ·rw[if_pos h,if_pos h];rfl
  ·rw[if_neg h,if_neg h];rfl
@[simp] theorem RU{d s:Nat}:ow P tr (some d) (.assign (.tmp s)) S K=K (S.m d s (S.t s)):=by
 rw[eh (by simp)];simp only[gx,g8,ej,gT,gu,Bool.and_self,if_true,dO,oQ,if_true];rfl
def Xg(P:Program)(S:PS)(d t:Nat)(ps:List (Nat×Operand))(c sz:Nat)(ag:Bool)(r:PV×Bool):Option PS:=
 match cW r.1 with
 |some cs=>if jn P t ps c=true∧0<sz∧c<cs.length then some (S.bb d (.pa (cs.set c (.bsl (S.fo+d) (S.gen (S.fo+d)+1) 0 sz ag))) (fun j=>decide (j≠c)&&jn P t ps j))else none
 |none=>none
attribute [simp] RX Xg
@[simp] theorem TU{d:Nat}{t:TypeId}{ps:Array (Nat×Operand)}:ow P tr (some d) (.build t ps) S K=
 match RX tr d with
 |some (c,sz,ag)=>fL ((qv P S (.build t ps)).bind (Xg P S d t ps.toList c sz ag)) K
 |none=>if d+80000∈tr then fL ((qv P S (.build t ps)).map (Zd P S d t ps.toList)) K else fL ((qv P S (.build t ps)).map (S.q2 d)) K:=by
 have e:fw P S {dst:=some d,op:= .build t ps,type:=0,pos:= "",after:= #[],guard:=none}=qv P S (.build t ps):=rfl;rw[eh (by simp)]
 simp only[gx,g8,ej,gT,gu,Bool.and_self,if_true,dO,oQ,if_true,rU,List.contains_iff_mem,Ke]
 cases hnb:RX tr d with
 |some q=>
  obtain⟨c,sz,ag⟩:=q;simp only[Option.isSome_some,if_true,wZ,e]
  cases qv P S (.build t ps)with
  |none=>rfl
  |some r=>
   simp only[Option.bind_some,Xg]
   cases cW r.1 with
   |none=>rfl
   |some cs=>
    simp only;by_cases h:jn P t ps.toList c=true∧0<sz∧c<cs.length
    ·rw[if_pos h,if_pos h];rfl
    ·rw[if_neg h,if_neg h];rfl
 |none=>
  simp only[bj,aF,aL];by_cases how:d+80000∈tr
  ·rw[if_pos how];simp only[how,if_true,e]
   cases qv P S (.build t ps)with
   |none=>rfl
   |some r=>
    simp only[Option.map_some,lA,Zd]
    cases fk P S t ps.toList<;>rfl
  ·rw[if_neg how];simp only[how,aL,e]
   cases qv P S (.build t ps)<;>rfl
def Zo(S:PS)(d s sz:Nat)(ag:Bool)(c:List PV):PS:=S.n1 d s (.bsl (S.fo+d) (S.gen (S.fo+d)+1) 1 sz ag) (S.gen (S.fo+d)+1) c
@[simp] theorem Zn{d s sz:Nat}{ag:Bool}{c:List PV}:Zo S d s sz ag c=S.n1 d s (.bsl (S.fo+d) (S.gen (S.fo+d)+1) 1 sz ag) (S.gen (S.fo+d)+1) c:=rfl
def QF(P:Program)(t:Nat):Option (Nat×Bool):=
 match kP P t with
 |some e=>match dL P e with|some ag=>if 0<cX P e∧cX P e≤16777216∧(eQ P e).isSome=true then some (cX P e,ag)else none|none=>none
 |none=>none
def b1O(S:PS)(d s:Nat)(c:List PV)(q:Nat×Bool):Option PS:=if c.length=q.1∧s≠d then some (Zo S d s q.1 q.2 c)else none
@[simp] theorem PJ{d s sz:Nat}{ag:Bool}{c:List PV}:b1O S d s c (sz,ag)=if c.length=sz∧s≠d then some (Zo S d s sz ag c)else none:=rfl
def b2O(S:PS)(d n:Nat)(r:PV)(q:Nat×Bool):Option PS:=
 match r with
 | .d (.slice xs)=>some (S.nb d (.bsl (S.fo+d) (S.gen (S.fo+d)+1) n q.1 q.2) (S.gen (S.fo+d)+1) ((flat xs).map .d) (fun _=>false))
 |_=>none
@[simp] theorem Zm{d n sz:Nat}{ag:Bool}{xs:List DV}:b2O S d n (.d (.slice xs)) (sz,ag)=some (S.nb d (.bsl (S.fo+d) (S.gen (S.fo+d)+1) n sz ag) (S.gen (S.fo+d)+1) ((flat xs).map .d) (fun _=>false)):=rfl
@[simp] theorem Mp{d:Nat}{t:TypeId}{n:Nat}{ps:Array (Nat×Operand)}:ow P tr (some d) (.buildSlice t n ps) S K=
 if d+10000∈tr then(if d+80000∈tr then fL ((qv P S (.buildSlice t n ps)).bind fun r=>(QF P t).bind (b2O S d n r.1)) K else match n,ps.toList with|1,[(0,.tmp s)]=>fL ((cW (S.t s)).bind fun c=>(QF P t).bind (b1O S d s c)) K|_,_=>ow P tr (some d) (.buildSlice t n ps) S K)else fL ((qv P S (.buildSlice t n ps)).map (S.q2 d)) K:=by
 by_cases hbx:d+10000∈tr
 ·rw[if_pos hbx];by_cases how:d+80000∈tr
  ·rw[if_pos how,eh (by simp)]
   simp only[gx,g8,ej,gT,gu,Bool.and_self,if_true,dO,oQ,if_true,kN,rU,List.contains_iff_mem,hbx,how,ll,QF,qv,fw]
   cases he:kP P t with
   |none=>rfl
   |some e=>
    dsimp only;by_cases hc:ps.size=n∧n*cX P e≤16777216∧0<cX P e∧(eQ P e).isSome=true
    ·rw[if_pos hc]
     cases hx:fR S (cX P e) 0 ps.toList with
     |none=>
      simp only[aZ,Option.bind_none]
      split<;>rfl
     |some xs=>
      simp only[Option.map_some,Option.bind_some]
      cases hag:dL P e with
      |none=>
       rw[if_neg (by simp)]
       rfl
      |some ag=>
       by_cases h1:cX P e≤16777216
       ·rw[if_pos ⟨hc.1,hc.2.1,hc.2.2.1,hc.2.2.2,h1,rfl⟩];dsimp only;rw[if_pos ⟨hc.2.2.1,h1,hc.2.2.2⟩];have:((some ag:Option Bool)==some true)=ag:=by cases ag<;>rfl
        rw[this];rfl
       ·rw[if_neg (fun h=>h1 h.2.2.2.2.1)]
        dsimp only;rw[if_neg (fun h=>h1 h.2.1)]
        rfl
    ·rw[if_neg hc,if_neg (fun h=>hc ⟨h.1,h.2.1,h.2.2.1,h.2.2.2.1⟩)]
     rfl
  have hno:tr.contains (d+80000)=false:=by simpa using how
  rw[if_neg how];split
  ·rename_i s hps;rw[eh (by simp)]
   simp only[gx,g8,ej,gT,gu,Bool.and_self,if_true,dO,oQ,if_true,kN,rU,hno,aF,aL,List.contains_iff_mem,hbx,sk,hps,QF]
   cases he:kP P t with
   |none=>cases cW (S.t s)<;>rfl
   |some e=>
    dsimp only
    cases hc:cW (S.t s)with
    |none=>rfl
    |some c=>
     simp only[Option.bind_some,true_and]
     cases hag:dL P e with
     |none=>
      rw[if_neg (by simp)]
      rfl
     |some ag=>
      simp only[Option.isSome_some,true_and];by_cases h1:0<cX P e∧cX P e≤16777216∧(eQ P e).isSome=true
      ·rw[if_pos h1];simp only[Option.bind_some,PJ];by_cases h2:c.length=cX P e∧s≠d
       ·rw[if_pos ⟨h2.1,h1.1,h1.2.1,h1.2.2,h2.2⟩,if_pos h2];have:((some ag:Option Bool)==some true)=ag:=by cases ag<;>rfl
        rw[this];rfl
       ·rw[if_neg (fun h=>h2 ⟨h.1,h.2.2.2.2⟩),if_neg h2]
        rfl
      ·rw[if_neg h1,if_neg (fun h=>h1 ⟨h.2.1,h.2.2.1,h.2.2.2.1⟩)]
       rfl
  ·rfl
 ·rw[if_neg hbx,eh (by simp)]
  have hf:tr.contains (d+10000)=false:=by simpa using hbx
  simp only[gx,g8,ej,gT,gu,Bool.and_self,if_true,dO,oQ,if_true,kN,hf,aF,aL]
  show fL (Option.map _ (Option.map _ (qv P S (.buildSlice t n ps)))) K=_
  cases qv P S (.buildSlice t n ps)<;>rfl
@[simp] theorem OY{d:Nat}{f:Fn}{a b:Array Operand}:ow P tr (some d) (.makeFunc f a b) S K=fL ((qv P S (.makeFunc f a b)).map (S.q2 d)) K:=IG rfl rfl
def YU(P:Program)(S:PS)(d s t:Nat)(p:PV):Option PS:=
 match P.underlying s,p with
 |some (.slice e),.bsl n g len sz ag=>if s=t∧HU P e=true∧0<len then uu S d (.bsl n g len sz ag)else none
 |_,_=>none
@[simp] theorem RR{d:Nat}{t:TypeId}{x:Operand}:ow P tr (some d) (.makeInterface t x) S K=fL ((qv P S (.makeInterface t x)).map (S.q2 d)) K:=IG rfl rfl
@[simp] theorem Qr{d:Nat}{s t:TypeId}{x:Operand}:ow P tr (some d) (.convert s t x) S K=if d+20000∈tr then fL (YU P S d s t (S.ev x)) K else fL ((qv P S (.convert s t x)).map (S.q2 d)) K:=by
 rw[eh (by simp)]
 by_cases h:d+20000∈tr
 ·rw[if_pos h];simp only[gx,g8,ej,gT,gu,Bool.and_self,if_true,dO,oQ,if_true,iH,List.contains_iff_mem,h,uF,YU]
  cases hu:P.underlying s with
  |none=>rfl
  |some q=>
   cases hx:S.ev x with
   |bsl n g len sz ag=>
    cases q with
    |slice e=>
     dsimp only;by_cases hc:s=t∧HU P e=true∧0<len
     ·rw[if_pos hc,if_pos hc,←Bd (op:= .convert s t x)]
     ·rw[if_neg hc,if_neg hc];rfl
    |_=>rfl
   |_=>cases q<;>rfl
 ·rw[if_neg h];have hf:tr.contains (d+20000)=false:=by simpa using h
  simp only[gx,g8,ej,gT,gu,Bool.and_self,if_true,dO,oQ,if_true,iH,hf,aF,aL]
  show fL (Option.map _ (Option.map _ (qv P S (.convert s t x)))) K=_
  cases qv P S (.convert s t x)<;>rfl
@[simp] theorem aaR{d:Nat}{a:Array Operand}{ts:Array TypeId}:ow P tr (some d) (.call ⟨.builtin .len,a,ts⟩) S K=fL ((qv P S (.call ⟨.builtin .len,a,ts⟩)).map (S.q2 d)) K:=IG rfl rfl
@[simp] theorem aaP{d:Nat}{a:Array Operand}{ts:Array TypeId}:ow P tr (some d) (.call ⟨.builtin .min,a,ts⟩) S K=fL ((qv P S (.call ⟨.builtin .min,a,ts⟩)).map (S.q2 d)) K:=IG rfl rfl
@[simp] theorem aaQ{d:Nat}{a:Array Operand}{ts:Array TypeId}:ow P tr (some d) (.call ⟨.builtin .max,a,ts⟩) S K=fL ((qv P S (.call ⟨.builtin .max,a,ts⟩)).map (S.q2 d)) K:=IG rfl rfl
def xi(P:Program)(gen:Nat→Nat)(box:Nat→List PV)(t:TypeId)(x:PV):Option PV:=
 match x with
 | .ptr n g o=>
   if g=gen n∧0<cX P t∧o+cX P t≤(box n).length then
    match dL P t with
    |some true=>some (Kp (((box n).drop o).take (cX P t)))
    |some false=>if cX P t=1 then(box n)[o]? else none
    |none=>none
   else none
 | .cptr cs=>(u9 P t cs 0).map .d
 |_=>none
theorem Cu{t:TypeId}{s:Nat}:iQ P S t (.tmp s)=xi P S.gen S.box t (S.t s):=rfl
def Ct(P:Program)(S:PS)(t:TypeId)(x:Operand):Option PV:=iQ P S t x
@[simp] theorem T8{t:TypeId}{s:Nat}:Ct P S t (.tmp s)=xi P S.gen S.box t (S.t s):=rfl
@[simp] theorem T9{t:TypeId}{g:Nat}:Ct P S t (.global g)=(Sp P g t).map .d:=rfl
@[simp] theorem QE{g:Nat}:S.ev (.global g)= .any:=rfl
def Qw(P:Program)(tr:List Nat)(d t:Nat)(x:PV)(S:PS)(r:PV):Option PS:=
 if d+20000∈tr then uu S d r else if d∈tr then(match x with| .ptr n _ o=>if dL P t=some false then some (S.lt d r n o)else none|_=>none)else some (S.q d r false)
@[simp] theorem aa8{d t n g o:Nat}{r:PV}:Qw P tr d t (.ptr n g o) S r=if d+20000∈tr then uu S d r else if d∈tr then(if dL P t=some false then some (S.lt d r n o)else none)else some (S.q d r false):=rfl
@[simp] theorem aa'{d t:Nat}{r:PV}:Qw P tr d t .any S r=if d+20000∈tr then uu S d r else if d∈tr then none else some (S.q d r false):=rfl
@[simp] theorem aa9{d t:Nat}{cs:List DV}{r:PV}:Qw P tr d t (.cptr cs) S r=if d+20000∈tr then uu S d r else if d∈tr then none else some (S.q d r false):=rfl
@[simp] theorem W5{d:Nat}{t:TypeId}{x:Operand}:ow P tr (some d) (.load t x) S K=(N7 tr S.fo d (S.ev x)∧fL ((Ct P S t x).bind (Qw P tr d t (S.ev x) S)) K):=by
 rw[NG (by simp) rfl]
 have key:fL ((dO P (d+1) tr S {dst:=some d,op:= .load t x,type:=0,pos:= "",after:= #[],guard:=none}).map fun E=>E.apply S) K=fL ((Ct P S t x).bind (Qw P tr d t (S.ev x) S)) K:=by
  simp only[dO,SF,if_true,Ct]
  cases iQ P S t x with
  |none=>rfl
  |some r=>
   simp only[Option.bind_some,Qw,iH,lf,List.contains_iff_mem];by_cases h:d+20000∈tr
   ·rw[if_pos h,if_pos h,Bd]
   ·rw[if_neg h,if_neg h];by_cases h2:d∈tr
    ·rw[if_pos h2,if_pos h2]
     cases S.ev x with
     |ptr n g o=>
      cases dL P t with
      |none=>rfl
      |some b=>cases b<;>rfl
     |_=>rfl
    ·rw[if_neg h2,if_neg h2];rfl
 rw[key]
structure Sto where
 n:Nat
 g:Nat
 o:Nat
 cs:List PV
def Q1(P:Program)(t:Nat)(gen:Nat→Nat)(box:Nat→List PV)(x:PV)(cs:Option (List PV)):Option Sto:=
 match x,cs with
 | .ptr n g o,some cs=>if g=gen n∧cs.length=cX P t∧0<cX P t∧o+cs.length≤(box n).length then some ⟨n,g,o,cs⟩else none
 |_,_=>none
@[simp] theorem I'{t:Nat}{gen:Nat→Nat}{box:Nat→List PV}{n g o:Nat}{cs:List PV}:Q1 P t gen box (.ptr n g o) (some cs)=if g=gen n∧cs.length=cX P t∧0<cX P t∧o+cs.length≤(box n).length then some ⟨n,g,o,cs⟩else none:=rfl
def over(l:List PV)(o:Nat)(cs:List PV):List PV:=l.take o++cs++l.drop (o+cs.length)
def stS(S:PS)(v:Operand)(q:Sto):PS:=S.st v q.n q.g q.o q.cs.length (over (S.box q.n) q.o q.cs)
@[simp] theorem Wd{v:Operand}{n g o:Nat}{cs:List PV}:stS S v ⟨n,g,o,cs⟩=S.st v n g o cs.length (over (S.box n) o cs):=rfl
def Oo(tr:List Nat)(fo:Nat)(v:Operand)(p:PV):Prop:=match v with| .tmp s=>(match II tr (2000+s)with|some m=>vo (fo+m) p=true|none=>True)|_=>True
@[simp] theorem aaF{fo s:Nat}{p:PV}:Oo tr fo (.tmp s) p=(match II tr (2000+s)with|some m=>vo (fo+m) p=true|none=>True):=rfl
@[simp] theorem aaG{fo:Nat}{v:Value}{p:PV}:Oo tr fo (.const v) p=True:=rfl
theorem On{t:TypeId}{x v:Operand}:gT tr S {dst:=none,op:= .store t x v,type:=0,pos:= "",after:= #[],guard:=none}=true↔Oo tr S.fo v (S.ev x):=by
 cases v with
 |tmp s=>
  unfold gT gu Oo;simp only
  cases II tr (2000+s)with
  |none=>simp
  |some m=>simp[ej]
 |_=>simp[gT,gu,Oo]
@[simp] theorem TQ{t:TypeId}{x v:Operand}:ow P tr none (.store t x v) S K=(Oo tr S.fo v (S.ev x)∧fL ((Q1 P t S.gen S.box (S.ev x) (cW (S.ev v))).map (stS S v)) K):=by
 rw[eh (by simp)]
 have hf:=On (tr:=tr) (S:=S) (t:=t) (x:=x) (v:=v);by_cases hg:Oo tr S.fo v (S.ev x)
 case neg=>
  have h0:gT tr S {dst:=none,op:= .store t x v,type:=0,pos:= "",after:= #[],guard:=none}=false:=by
   rw[aM];exact fun e=>hg (hf.1 e)
  simp only[gx,h0,Bool.and_false,aF,aL,hg,false_and];rfl
 simp only[gx,g8,ej,hf.2 hg,Bool.and_self,if_true,dO,SG,if_true,hg,true_and]
 cases hx:S.ev x with
 |ptr n g o=>
  cases hc:cW (S.ev v)with
  |none=>rfl
  |some cs=>
   by_cases h:g=S.gen n∧cs.length=cX P t∧0<cX P t∧o+cs.length≤(S.box n).length
   ·rw[I',if_pos h];simp only[if_pos h]
    cases v with
    |tmp s=>
     have e1:(match S.t s with| .d (.slice _)=>true|_=>false)=kM (S.t s):=rfl
     simp only[Po,e1];rfl
    |_=>rfl
   ·rw[I',if_neg h];simp only[if_neg h];rfl
 |_=>rfl
def PS.im(S:PS)(n g:Nat)(c:List PV):PS:=(⟨none,.undef,fun _=>false,fun _=>false,[⟨n,g,c,fun _=>false⟩]⟩:dp).apply S
@[simp] theorem ad9{n g:Nat}{c:List PV}{i:Nat}:(S.im n g c).t i=S.t i:=rfl
@[simp] theorem XF{n g:Nat}{c:List PV}{m:Nat}:(S.im n g c).box m=if m=n then c else S.box m:=by
 simp only[PS.im,dp.apply,cO];split<;>rename_i h<;>split at h<;>simp_all [aI]
@[simp] theorem XE{n g:Nat}{c:List PV}{m:Nat}:(S.im n g c).gen m=if m=n then g else S.gen m:=by
 simp only[PS.im,dp.apply,cO];split<;>rename_i h<;>split at h<;>simp_all [aI]
@[simp] theorem abe{n g:Nat}{c:List PV}:(S.im n g c).fo=S.fo:=rfl
def Ph(P:Program)(S:PS)(t:TypeId)(m k x:PV):Option PS:=
 match m,k,NO P t with
 | .mp n g,.d kk,some (kd,_)=>if g=S.gen n then(xd kd kk x (S.box n)).map (S.im n g)else none
 |_,_,_=>none
@[simp] theorem Qq{d:Nat}{t:TypeId}:ow P tr (some d) (.makeMap t none) S K=K (S.nb d (.mp (S.fo+d) (S.gen (S.fo+d)+1)) (S.gen (S.fo+d)+1) [] (fun _=>false)):=by
 rw[eh (by simp)]
 simp only[gx,g8,ej,gT,gu,Bool.and_self,if_true,dO,oQ,if_true,zn,Option.map_some,lA];rfl
@[simp] theorem RT{t:TypeId}{m k x:Operand}:ow P tr none (.insert t m k x) S K=fL (Ph P S t (S.ev m) (S.ev k) (S.ev x)) K:=by
 rw[eh (by simp)]
 simp only[gx,g8,ej,gT,gu,Bool.and_self,if_true,dO,SG,if_true,uq,Ph]
 cases hm:S.ev m with
 |mp n g=>
  cases hk:S.ev k with
  |d kk=>
   cases ht:NO P t with
   |none=>rfl
   |some q=>
    obtain⟨kd,e⟩:=q;dsimp only;by_cases h:g=S.gen n
    ·rw[if_pos h,if_pos h]
     cases xd kd kk (S.ev x) (S.box n)<;>rfl
    ·rw[if_neg h,if_neg h];rfl
  |_=>rfl
 |_=>rfl
@[simp] theorem RS{d:Nat}{t:TypeId}{m k:Operand}{ok:Bool}:ow P tr (some d) (.lookup t m k ok) S K=fL ((Qv P S.gen S.box t (S.ev m) (S.ev k) ok).map fun r=>S.q d r false) K:=by
 rw[eh (by simp)]
 simp only[gx,g8,ej,gT,gu,Bool.and_self,if_true,dO,oQ,if_true]
 cases Qv P S.gen S.box t (S.ev m) (S.ev k) ok<;>rfl
def gD(P:Program)(e:TypeId):Option (List DV):=match eQ P e with|some z=>if z.cells.toList.all (·.oneCell')=true then some (z.cells.toList.map dh)else none|none=>none
def ud(P:Program)(e:TypeId)(k:Nat):Bool:=match eQ P e with|some z=>fQ (z.cells.getD k undef)|none=>false
theorem Kb{t:TypeId}{ps:List (Nat×Operand)}{j:Nat}:jn P t ps j=(sQ P t j ps&&ud P t j):=by
 unfold jn ud
 congr 1
 cases eQ P t with
 |none=>rfl
 |some z=>
  by_cases h:j<z.cells.size
  ·simp[h]
  ·simp only[h,decide_false,aV];rw[Array.getD_eq_getD_getElem?,Array.getElem?_eq_none (by omega)]
   rfl
@[simp] theorem Qp{t:TypeId}{j:Nat}:sQ P t j []=true:=rfl
@[simp] theorem OV{t:TypeId}{j i:Nat}{x:Operand}{r:List (Nat×Operand)}:sQ P t j ((i,x)::r)=((match c_ P t i with|some (off,ft)=>decide (j<off∨off+cX P ft≤j)|none=>false)&&sQ P t j r):=rfl
@[simp] theorem N_{t:TypeId}:fk P S t []=none:=rfl
@[simp] theorem QL{t:TypeId}{i:Nat}{v:Value}{r:List (Nat×Operand)}:fk P S t ((i,.const v)::r)=none:=rfl
@[simp] theorem QK{t:TypeId}{i s:Nat}{r:List (Nat×Operand)}:fk P S t ((i,.tmp s)::r)=(match c_ P t i with|some (off,ft)=>if off=0∧cX P ft=1∧sQ P t 0 r=true∧kM (S.t s)=true then some s else none|none=>none):=rfl
attribute [simp] Kb Zd
def Zu(P:Program)(S:PS)(d e:Nat)(c:List DV):PS:=S.nb d (.ptr (S.fo+d) (S.gen (S.fo+d)+1) 0) (S.gen (S.fo+d)+1) (c.map .d) (ud P e)
@[simp] theorem Zt{d e:Nat}{c:List DV}:Zu P S d e c=S.nb d (.ptr (S.fo+d) (S.gen (S.fo+d)+1) 0) (S.gen (S.fo+d)+1) (c.map .d) (ud P e):=rfl
@[simp] theorem TW{d:Nat}{e:TypeId}:ow P tr (some d) (.alloc e) S K=fL ((gD P e).map (Zu P S d e)) K:=by
 rw[eh (by simp)]
 simp only[gx,g8,ej,gT,gu,Bool.and_self,if_true,dO,oQ,if_true,gD]
 cases hz:eQ P e with
 |none=>rfl
 |some z=>
  by_cases hall:z.cells.toList.all (·.oneCell')=true
  ·simp only[if_pos hall,Option.map_some,lA,Zu,PS.nb,List.map_map];have:ud P e=fun k=>fQ (z.cells.getD k undef):=by funext k;simp only[ud,hz]
   rw[this];rfl
  ·simp only[if_neg hall];rfl
def bxF(S:PS)(d:Nat)(c:List DV):PS:=S.q d (.cptr c) false
@[simp] theorem Y_{d:Nat}{c:List DV}:bxF S d c=S.q d (.cptr c) false:=rfl
def bxS(S:PS)(d:Nat)(c:List PV):PS:=S.nb d (.ptr (S.fo+d) (S.gen (S.fo+d)+1) 0) (S.gen (S.fo+d)+1) c (fun _=>false)
@[simp] theorem Y'{d:Nat}{c:List PV}:bxS S d c=S.nb d (.ptr (S.fo+d) (S.gen (S.fo+d)+1) 0) (S.gen (S.fo+d)+1) c (fun _=>false):=rfl
def bxO(S:PS)(d:Nat)(x:Operand)(c:List PV):Option PS:=match x with| .tmp s=>if s≠d then some (S.n1 d s (.ptr (S.fo+d) (S.gen (S.fo+d)+1) 0) (S.gen (S.fo+d)+1) c)else none|_=>none
@[simp] theorem SZ{d s:Nat}{c:List PV}:bxO S d (.tmp s) c=if s≠d then some (S.n1 d s (.ptr (S.fo+d) (S.gen (S.fo+d)+1) 0) (S.gen (S.fo+d)+1) c)else none:=rfl
@[simp] theorem aaT{d:Nat}{e:TypeId}{x:Operand}:ow P tr (some d) (.box e x) S K=if d+20000∈tr then fL (((cW (S.ev x)).bind pc).map (bxF S d)) K else if d+80000∈tr then fL ((cW (S.ev x)).bind (bxO S d x)) K else fL ((cW (S.ev x)).map (bxS S d)) K:=by
 rw[eh (by simp)]
 simp only[gx,g8,ej,gT,gu,Bool.and_self,if_true,dO,oQ,if_true,iH,List.contains_iff_mem];by_cases h:d+20000∈tr
 ·rw[if_pos h];simp only[if_pos h]
  cases cW (S.ev x)with
  |none=>rfl
  |some cs=>
   simp only[Option.bind_some]
   cases pc cs<;>rfl
 ·rw[if_neg h];simp only[if_neg h,rU,List.contains_iff_mem];by_cases h2:d+80000∈tr
  ·rw[if_pos h2];simp only[if_pos h2]
   cases cW (S.ev x)with
   |none=>rfl
   |some cs=>
    simp only[Option.bind_some]
    cases x with
    |tmp s=>
     simp only[tG,SZ];by_cases h3:s≠d
     ·rw[if_pos h3,if_pos h3];rfl
     ·rw[if_neg h3,if_neg h3];rfl
    |_=>rfl
  ·rw[if_neg h2];simp only[if_neg h2]
   cases cW (S.ev x)<;>rfl
def Pn(p:PV)(k:Nat):Option PV:=match p with| .tup ps=>(match ps[k]? with|some (.tup _)=>none|some p=>some p|none=>none)|_=>none
@[simp] theorem Sy{ps:List PV}{k:Nat}:Pn (.tup ps) k=(match ps[k]? with|some (.tup _)=>none|some p=>some p|none=>none):=rfl
def PS.exS(S:PS)(d s k:Nat)(p:PV):PS:=S.ex d p s k
@[simp] theorem YO{d s k:Nat}{p:PV}:S.exS d s k p=S.ex d p s k:=rfl
@[simp] theorem aaS{d s k:Nat}:ow P tr (some d) (.extract (.tmp s) k) S K=fL ((Pn (S.t s) k).map (S.exS d s k)) K:=by
 rw[eh (by simp)]
 simp only[gx,g8,ej,gT,gu,Bool.and_self,if_true,dO,oQ,if_true]
 cases S.t s with
 |tup ps=>
  simp only[Pn]
  cases ps[k]? with
  |none=>rfl
  |some p=>cases p<;>rfl
 |_=>rfl
def Bx(P:Program)(t:Nat):Option (Nat×Nat×DV×Bool):=
 match kP P t with
 |some e=>match yf P e,eQ P e with
  |some b,some z=>if z.cells.size=cX P e∧0<cX P e∧0<b then some (cX P e,b,dh z,z.oneCell')else none
  |_,_=>none
 |none=>none
def IE(P:Program)(t:Nat):Option Bool:=(kP P t).bind (dL P)
def apS(u:Option TypeDesc)(z:DV)(o:Bool)(y:PV):Option (List DV):=
 match y,u with
 | .d (.slice ys),some (.slice _)=>some ys
 | .d (.str s),some .string=>some (s.map fun b=> .int .u8 b.toNat)
 | .d (.int _ n),some (.int _)=>if 0≤n∧n≤9223372036854775807∧o=true then some (List.replicate n.toNat z)else none
 |_,_=>none
def LK(rd:Bool)(u:Option TypeDesc)(z:DV)(o:Bool)(S:PS)(y:PV):Option (List DV):=
 match y with
 | .bsl n g len sz ag=>(match u with|some (.slice _)=>if rd=true then jN (S.gen n) (S.box n) g len sz ag else none|_=>none)
 | .view n g lo len sz ag _=>(match u with|some (.slice _)=>if rd=true then yL (S.gen n) (S.box n) g lo len sz ag else none|_=>none)
 |y=>apS u z o y
@[simp] theorem abX{rd:Bool}{e:TypeId}{z:DV}{o:Bool}{ys:List DV}:LK rd (some (.slice e)) z o S (.d (.slice ys))=some ys:=rfl
@[simp] theorem VT{rd:Bool}{z:DV}{o:Bool}{s:List UInt8}:LK rd (some .string) z o S (.d (.str s))=some (s.map fun b=> .int .u8 b.toNat):=rfl
@[simp] theorem abY{rd:Bool}{k k':IntKind}{z:DV}{o:Bool}{n:Int}:LK rd (some (.int k)) z o S (.d (.int k' n))=if 0≤n∧n≤9223372036854775807∧o=true then some (List.replicate n.toNat z)else none:=rfl
@[simp] theorem abZ{rd:Bool}{e:TypeId}{z:DV}{o:Bool}{n g len sz:Nat}{ag:Bool}:LK rd (some (.slice e)) z o S (.bsl n g len sz ag)=if rd=true then jN (S.gen n) (S.box n) g len sz ag else none:=rfl
@[simp] theorem abW{rd:Bool}{e:TypeId}{z:DV}{o:Bool}{n g lo len sz:Nat}{ag ti:Bool}:LK rd (some (.slice e)) z o S (.view n g lo len sz ag ti)=if rd=true then yL (S.gen n) (S.box n) g lo len sz ag else none:=rfl
def Lw(S:PS)(d s:Nat)(q:Nat×Nat×DV×Bool)(bx:Bool)(ae:Option Bool)(x:PV)(own:Bool)(ys:List DV):Option PS:=
 if je q.1 ys=true then
  match x with
  | .d (.slice xs)=>
    if bx=true then
     match ae with
     |some ag=>if own=true∧xs= []∧ys.length*q.2.1≤140737488355328∧(ag=false→q.1=1)then some (S.nx d s (.bsl (S.fo+d) (S.gen (S.fo+d)+1) ys.length q.1 ag) (S.gen (S.fo+d)+1) ((flat ys).map .d))else none
     |none=>none
    else if own=true∧je q.1 xs=true∧(xs.length+ys.length)*q.2.1≤140737488355328 then some (S.ap d s (xs++ys))else none
  | .bsl n g len sz ag=>
    if g=S.gen n∧sz=q.1∧(S.box n).length=len*sz∧(len+ys.length)*q.2.1≤140737488355328∧bx=true then some (S.gw d n (.bsl n (g+1) (len+ys.length) sz ag) (g+1) (S.box n++(flat ys).map .d))else none
  | .view n g lo len sz ag ti=>
    if ti=true∧g=S.gen n∧sz=q.1∧(lo+len)*sz≤(S.box n).length∧0<ys.length∧(len+ys.length)*q.2.1≤140737488355328∧bx=true then
     some (S.nb d (.bsl (S.fo+d) (S.gen (S.fo+d)+1) (len+ys.length) sz ag) (S.gen (S.fo+d)+1) (((S.box n).drop (lo*sz)).take (len*sz)++(flat ys).map .d) (fun _=>false))else none
  |_=>none
 else none
@[simp] theorem ab2{d s:Nat}{q:Nat×Nat×DV×Bool}{ae:Option Bool}{xs:List DV}{own:Bool}{ys:List DV}:
 Lw S d s q false ae (.d (.slice xs)) own ys=if je q.1 ys=true∧own=true∧je q.1 xs=true∧(xs.length+ys.length)*q.2.1≤140737488355328 then some (S.ap d s (xs++ys))else none:=by
 unfold Lw;by_cases h:je q.1 ys=true
 ·simp[h]
 ·simp[h]
@[simp] theorem ab3{d s:Nat}{q:Nat×Nat×DV×Bool}{ag:Bool}{xs:List DV}{own:Bool}{ys:List DV}:
 Lw S d s q true (some ag) (.d (.slice xs)) own ys=if je q.1 ys=true∧own=true∧xs= []∧ys.length*q.2.1≤140737488355328∧(ag=false→q.1=1)then some (S.nx d s (.bsl (S.fo+d) (S.gen (S.fo+d)+1) ys.length q.1 ag) (S.gen (S.fo+d)+1) ((flat ys).map .d))else none:=by
 unfold Lw;by_cases h:je q.1 ys=true
 ·simp[h]
 ·simp[h]
@[simp] theorem ab4{d s:Nat}{q:Nat×Nat×DV×Bool}{ae:Option Bool}{n g len sz:Nat}{ag own:Bool}{ys:List DV}:
 Lw S d s q true ae (.bsl n g len sz ag) own ys=if je q.1 ys=true∧g=S.gen n∧sz=q.1∧(S.box n).length=len*sz∧(len+ys.length)*q.2.1≤140737488355328 then some (S.gw d n (.bsl n (g+1) (len+ys.length) sz ag) (g+1) (S.box n++(flat ys).map .d))else none:=by
 unfold Lw;by_cases h:je q.1 ys=true
 ·simp[h]
 ·simp[h]
@[simp] theorem ab1{d s:Nat}{q:Nat×Nat×DV×Bool}{ae:Option Bool}{n g lo len sz:Nat}{ag ti own:Bool}{ys:List DV}:
 Lw S d s q true ae (.view n g lo len sz ag ti) own ys=if je q.1 ys=true∧ti=true∧g=S.gen n∧sz=q.1∧(lo+len)*sz≤(S.box n).length∧0<ys.length∧(len+ys.length)*q.2.1≤140737488355328 then
  some (S.nb d (.bsl (S.fo+d) (S.gen (S.fo+d)+1) (len+ys.length) sz ag) (S.gen (S.fo+d)+1) (((S.box n).drop (lo*sz)).take (len*sz)++(flat ys).map .d) (fun _=>false))else none:=by
 unfold Lw;by_cases h:je q.1 ys=true
 ·simp[h]
 ·simp[h]
def VU(P:Program)(tr:List Nat)(S:PS)(d s t tx:Nat)(x y:PV)(own:Bool)(q:Nat×Nat×DV×Bool):Option PS:=
 (LK (decide (d+30000∈tr)) (P.underlying tx) q.2.2.1 q.2.2.2 S y).bind (Lw S d s q (decide (d+10000∈tr)) (IE P t) x own)
@[simp] theorem PM{d s t tx:Nat}{x y:PV}{own:Bool}{sz b:Nat}{z:DV}{o:Bool}:VU P tr S d s t tx x y own (sz,b,z,o)=(LK (decide (d+30000∈tr)) (P.underlying tx) z o S y).bind (Lw S d s (sz,b,z,o) (decide (d+10000∈tr)) (IE P t) x own):=rfl
theorem GK{d s t tx:Nat}{x:Operand}{op:Op}:(iz P tr S {dst:=some d,op:=op,type:=0,pos:= "",after:= #[],guard:=none} [.tmp s,x] [t,tx]).map (fun E=>E.apply S)=(Bx P t).bind (VU P tr S d s t tx (S.t s) (S.ev x) (S.own (.t s 0))):=by
 simp only[iz,kN,xr,Bx,Ng]
 cases he:kP P t with
 |none=>rfl
 |some e=>
  simp only
  cases hb:yf P e with
  |none=>rfl
  |some b=>
   cases hz:eQ P e with
   |none=>rfl
   |some z=>
    simp only;by_cases h1:z.cells.size=cX P e∧0<cX P e∧0<b
    ·rw[if_pos h1,if_pos h1];simp only[Option.bind_some,PM];have hap:m4 P (tr.contains (d+30000)) S e x tx=LK (decide (d+30000∈tr)) (P.underlying tx) (dh z) (z.oneCell') S (S.ev x):=by
      have hcn:tr.contains (d+30000)=decide (d+30000∈tr):=by
       rw[Bool.eq_iff_iff];simp
      rw[hcn];unfold m4 LK apS;rw[hz]
      cases S.ev x with
      |d y=>cases y<;>first|rfl|(cases P.underlying tx with
         |none=>rfl
         |some u=>cases u<;>rfl)
      |bsl n g len sz ag=>cases P.underlying tx with
       |none=>rfl
       |some u=>cases u<;>rfl
      |view n g lo len sz ag ti=>cases P.underlying tx with
       |none=>rfl
       |some u=>cases u<;>rfl
      |_=>rfl
     rw[hap]
     cases LK (decide (d+30000∈tr)) (P.underlying tx) (dh z) (z.oneCell') S (S.ev x)with
     |none=>rfl
     |some ys=>
      simp only[Option.bind_some,Lw,List.contains_iff_mem,decide_eq_true_eq,IE,he];by_cases h2:je (cX P e) ys=true
      ·simp only[if_pos h2]
       cases S.t s with
       |d xv=>
        cases xv with
        |slice xs=>
         simp only;by_cases h3:d+10000∈tr
         ·simp only[if_pos h3]
          cases hag:dL P e with
          |none=>
           rw[if_neg (by simp)]
           rfl
          |some ag=>
           simp only[ab,Option.isSome_some,and_true];by_cases h4:S.own (.t s 0)=true∧xs= []∧ys.length*b≤140737488355328∧(ag=false→cX P e=1)
           ·rw[if_pos h4,if_pos h4];have:((some ag:Option Bool)==some true)=ag:=by cases ag<;>rfl
            rw[this];rfl
           ·rw[if_neg h4,if_neg h4];rfl
         ·simp only[if_neg h3];by_cases h4:S.own (.t s 0)=true∧je (cX P e) xs=true∧(xs.length+ys.length)*b≤140737488355328
          ·rw[if_pos h4,if_pos h4];rfl
          ·rw[if_neg h4,if_neg h4];rfl
        |_=>rfl
       |bsl n g len sz ag=>
        simp only;by_cases h3:d+10000∈tr
        ·simp only[h3,Option.isSome_some,and_true,true_and];by_cases h4:g=S.gen n∧sz=cX P e∧(S.box n).length=len*sz∧(len+ys.length)*b≤140737488355328
         ·rw[if_pos h4,if_pos h4];rfl
         ·rw[if_neg h4,if_neg h4];rfl
        ·simp only[h3,and_false,aL];rfl
       |view n g lo len sz ag ti=>
        simp only;by_cases h3:d+10000∈tr
        ·simp only[h3,and_true];by_cases h4:ti=true∧g=S.gen n∧sz=cX P e∧(lo+len)*sz≤(S.box n).length∧0<ys.length∧(len+ys.length)*b≤140737488355328
         ·rw[if_pos h4,if_pos h4];rfl
         ·rw[if_neg h4,if_neg h4];rfl
        ·simp only[h3,and_false,aL];rfl
       |_=>rfl
      ·simp only[if_neg h2];rfl
    ·rw[if_neg h1,if_neg h1];rfl
def o8(S:PS)(d:Nat)(y:PV)(S':PS):Option PS:=
 match y,S'.t d with
 | .bsl m g len sz _,.bsl u _ _ _ _=>if(S.box m).length=len*sz∧g=S.gen m∧m≠u∧(S.box m).length≤(S'.box u).length then some (S'.rW u m ((S'.box u).length-(S.box m).length))else none
 |_,_=>none
def KQ(S:PS)(m g len sz:Nat)(r:PV)(S':PS):Option PS:=
 match r with
 | .bsl u _ _ _ _=>if(S.box m).length=len*sz∧g=S.gen m∧m≠u∧(S.box m).length≤(S'.box u).length then some (S'.rW u m ((S'.box u).length-(S.box m).length))else none
 |_=>none
@[simp] theorem Un{d m g len sz:Nat}{ag:Bool}{S':PS}:o8 S d (.bsl m g len sz ag) S'=KQ S m g len sz (S'.t d) S':=by unfold o8 KQ;cases S'.t d<;>rfl
@[simp] theorem Um{m g len sz u a b c:Nat}{e:Bool}{S':PS}:KQ S m g len sz (.bsl u a b c e) S'=if(S.box m).length=len*sz∧g=S.gen m∧m≠u∧(S.box m).length≤(S'.box u).length then some (S'.rW u m ((S'.box u).length-(S.box m).length))else none:=rfl
theorem PK{d s t tx:Nat}{x:Operand}{op:Op}{E:dp}(hbx:d+10000∈tr)(he:iz P tr S {dst:=some d,op:=op,type:=0,pos:= "",after:= #[],guard:=none} [.tmp s,x] [t,tx]=some E):
 E.dst=some d∧ ∃u,E.bx= [u]∧(∃g l z a,E.r= .bsl u.n g l z a)∧ ∀n k,E.clr (.b n k)=false:=by
 have hc:tr.contains (d+10000)=true:=by simpa using hbx
 simp only[iz,kN,hc,if_true]at he
 repeat' (split at he)
 all_goals first
  |(cases he;exact⟨rfl,_,rfl,⟨_,_,_,_,rfl⟩,fun _ _=>rfl⟩)
  |(cases he;done)
@[simp] theorem aaU{d s t tx:Nat}{x:Operand}:ow P tr (some d) (.call ⟨.builtin .append,⟨[.tmp s,x]⟩,⟨[t,tx]⟩⟩) S K=
 if d+80000∈tr then(if d+30000∈tr∧d+10000∈tr then fL (((Bx P t).bind (VU P tr S d s t tx (S.t s) (S.ev x) (S.own (.t s 0)))).bind (o8 S d (S.ev x))) K else False)
 else fL ((Bx P t).bind (VU P tr S d s t tx (S.t s) (S.ev x) (S.own (.t s 0)))) K:=by
 rw[eh (by simp)]
 simp only[gx,g8,ej,gT,gu,Bool.and_self,if_true,dO,oQ,if_true,rU,List.contains_iff_mem];by_cases how:d+80000∈tr
 ·simp only[if_pos how,kN,xr,List.contains_iff_mem];by_cases hrb:d+30000∈tr∧d+10000∈tr
  ·simp only[if_pos hrb];rw[←GK (op:= .call ⟨.builtin .append,⟨[.tmp s,x]⟩,⟨[t,tx]⟩⟩)]
   cases he:iz P tr S {dst:=some d,op:= .call ⟨.builtin .append,⟨[.tmp s,x]⟩,⟨[t,tx]⟩⟩,type:=0,pos:= "",after:= #[],guard:=none} [.tmp s,x] [t,tx]with
   |none=>
    simp only[Option.bind_none,aZ]
    cases lH S [.tmp s,x]<;>rfl
   |some E=>
    obtain⟨hd,u,hb,⟨g,l,z,a,hr⟩,hclr⟩:=PK hrb.2 he;have e1:(E.apply S).t d= .bsl u.n g l z a:=by
     simp only[dp.apply,hd,hr,cR]
    have e2:(E.apply S).box u.n=u.c:=by
     simp only[dp.apply,hb,cO,if_true]
    simp only[Option.map_some,Option.bind_some,o8,e1,e2,lH]
    cases hx:S.ev x with
    |bsl m g' len sz ag=>
     simp only;by_cases h1:(S.box m).length=len*sz∧g'=S.gen m
     ·rw[if_pos h1];simp only[mH,hb];by_cases h2:m≠u.n∧(S.box m).length≤u.c.length
      ·rw[if_pos h2,if_pos ⟨h1.1,h1.2,h2.1,by rw[e2];exact h2.2⟩,e2]
       simp only[Option.map_some,lA]
       congr 1
       have e: ¬u.n=m:=fun e=>h2.1 e.symm
       simp only[dp.apply,PS.rW,PS.mk.injEq,true_and,and_true];refine⟨?_,?_,?_⟩
       ·funext n
        simp only[cV,hb];by_cases e1:u.n=n
        ·simp[e1]
        ·by_cases e2:m=n
         ·subst e2;simp[e1]
         ·simp[e1,e2]
       ·funext n
        simp only[cV,hb];by_cases e1:u.n=n
        ·simp[e1]
        ·by_cases e2:m=n
         ·subst e2;simp[e1]
         ·simp[e1,e2]
       ·funext l
        cases l with
        |t i j=>rfl
        |b n k=>
         simp only[cV,hb,hclr,Bool.not_false,Bool.and_true];by_cases e1:u.n=n
         ·subst e1;simp[e]
         ·have e1': ¬n=u.n:=fun e=>e1 e.symm
          by_cases e2:m=n
          ·subst e2;simp[e1,e1']
          ·have e2': ¬n=m:=fun e=>e2 e.symm
           simp[e1,e1',e2,e2']
      ·rw[if_neg h2,if_neg (fun h=>h2 ⟨h.2.2.1,by rw[←e2];exact h.2.2.2⟩)]
       rfl
     ·rw[if_neg h1,if_neg (fun h=>h1 ⟨h.1,h.2.1⟩)]
      rfl
    |_=>rfl
  ·simp only[if_neg hrb]
   cases lH S [.tmp s,x]<;>simp
 ·simp only[if_neg how];rw[←GK (op:= .call ⟨.builtin .append,⟨[.tmp s,x]⟩,⟨[t,tx]⟩⟩)]
def HI(q:Option (Nat×Nat×DV×Bool))(x y:PV):Option (Nat×DV):=
 match q,x,y with
 |some (sz,b,z,o),.d (.int _ n),.d (.int _ m)=>if n=m∧0≤n∧n≤9223372036854775807∧n*b≤281474976710656∧sz=1∧o=true then some (n.toNat,z)else none
 |_,_,_=>none
@[simp] theorem aa2{sz b:Nat}{z:DV}{o:Bool}{k k':IntKind}{n m:Int}:HI (some (sz,b,z,o)) (.d (.int k n)) (.d (.int k' m))=if n=m∧0≤n∧n≤9223372036854775807∧n*b≤281474976710656∧sz=1∧o=true then some (n.toNat,z)else none:=rfl
def mkS(S:PS)(d:Nat)(q:Nat×DV):PS:=S.nb d (.bsl (S.fo+d) (S.gen (S.fo+d)+1) q.1 1 false) (S.gen (S.fo+d)+1) (List.replicate q.1 (.d q.2)) (fun _=>false)
@[simp] theorem Xo{d n:Nat}{z:DV}:mkS S d (n,z)=S.nb d (.bsl (S.fo+d) (S.gen (S.fo+d)+1) n 1 false) (S.gen (S.fo+d)+1) (List.replicate n (.d z)) (fun _=>false):=rfl
theorem RQ{d t:Nat}{l c:Operand}{n:Nat}{z:DV}(hf: ¬d+20000∈tr)(h:HI (Bx P t) (S.ev l) (S.ev c)=some (n,z)):
 ow P tr (some d) (.makeSlice t l c) S K=K (mkS S d (n,z)):=by
 rw[eh (by simp)]
 simp only[gx,g8,ej,gT,gu,Bool.and_self,if_true,dO,oQ,if_true];unfold Bx at h
 cases he:kP P t with
 |none=>rw[he]at h;simp[HI]at h
 |some e=>
  rw[he]at h;simp only at h
  cases hb:yf P e with
  |none=>rw[hb]at h;simp[HI]at h
  |some b=>
   cases hz:eQ P e with
   |none=>rw[hb,hz]at h;simp[HI]at h
   |some z'=>
    rw[hb,hz]at h;simp only at h
    split at h
    ·unfold HI at h
     split at h
     ·rename_i k n' k' m hq hl hc
      cases hq
      split at h
      ·rename_i hh
       cases h
       simp only[hl,hc,hb,hz,if_pos hh,iH,List.contains_iff_mem,if_neg hf];rfl
      ·cases h
     ·cases h
    ·simp[HI]at h
theorem RP{d t:Nat}{l c:Operand}{n:Nat}{z:DV}(hf:d+20000∈tr)(h:HI (Bx P t) (S.ev l) (S.ev c)=some (n,z)):
 ow P tr (some d) (.makeSlice t l c) S K=K (S.q d (.d (.slice (List.replicate n z))) true):=by
 rw[eh (by simp)]
 simp only[gx,g8,ej,gT,gu,Bool.and_self,if_true,dO,oQ,if_true];unfold Bx at h
 cases he:kP P t with
 |none=>rw[he]at h;simp[HI]at h
 |some e=>
  rw[he]at h;simp only at h
  cases hb:yf P e with
  |none=>rw[hb]at h;simp[HI]at h
  |some b=>
   cases hz:eQ P e with
   |none=>rw[hb,hz]at h;simp[HI]at h
   |some z'=>
    rw[hb,hz]at h;simp only at h
    split at h
    ·unfold HI at h
     split at h
     ·rename_i k n' k' m hq hl hc
      cases hq
      split at h
      ·rename_i hh
       cases h
       simp only[hl,hc,hb,hz,if_pos hh,iH,List.contains_iff_mem,if_pos hf];rfl
      ·cases h
     ·cases h
    ·simp[HI]at h
theorem JZ{d:Nat}{f:FuncId}{caps:List PV}{x:Operand}{args:List Operand}{ts:Array TypeId}{r:PV}{ro:Nat→Bool}{as:List PV}(hx:yE (S.ev x) args.isEmpty=some (f,caps))(ha:args.map S.ev++caps=as)(hH:cD P f as r ro)(hf:as.all fZ=true)(hc:tr.contains (d+40000)=false)
 (hK:K (S.cl d r ro)):ow P tr (some d) (.call ⟨.value x,⟨args⟩,ts⟩) S K:=by
 subst ha;unfold ow DZ;refine⟨by simp[gG],?_⟩
 rw[hx];simp only[s9,hc];exact⟨hf,r,ro,hH,hK⟩
def uY(S:PS)(pre:List iL):Prop:= ∀u∈pre,0<u.g∧S.gen u.n=u.g∧S.box u.n=u.c∧ ∀k,u.o k=true→S.own (.b u.n k)=true
@[simp] theorem Qd:uY S []:=by simp[uY]
@[simp] theorem OJ{u:iL}{l:List iL}:uY S (u::l)↔(0<u.g∧S.gen u.n=u.g∧S.box u.n=u.c∧ ∀k,u.o k=true→S.own (.b u.n k)=true)∧uY S l:=by
 simp[uY]
theorem de.VX{fo:Nat}{gl:Nat→Nat}{f:FuncId}{args:List PV}{pre:List iL}{r:PV}{ro:Nat→Bool}{post:List iL}(hp:uY S pre)(h:de P fo gl f args pre r ro post):
 de P fo gl f args ((pre.map (·.n)).map (snap S)) r ro post:=by
 obtain⟨h1,h2,h3,h4,h5⟩:=h;refine⟨h1,h2,h3,fun u hu=>?_,fun vs w fr T β hl hgo hS=>?_⟩
 ·obtain⟨n,hn,rfl⟩:=List.mem_map.1 hu;obtain⟨v,hv,rfl⟩:=List.mem_map.1 hn;exact h4 v hv
 ·have hf: ∀n,cV pre n=none∧n∉pre.map (·.n)∨ ∃u,cV pre n=some u∧n∈pre.map (·.n)∧S.gen n=u.g∧S.box n=u.c∧ ∀k,u.o k=true→S.own (.b n k)=true:=by
   intro n
   cases hx:cV pre n with
   |none=>exact .inl ⟨rfl,rA hx⟩
   |some u=>
    obtain⟨hm,e⟩:=gg hx;obtain⟨_,q2,q3,q4⟩:=hp u hm;subst e;exact .inr ⟨u,rfl,List.mem_map.2 ⟨u,hm,rfl⟩,q2,q3,q4⟩
  have hc:=hS.clear fun l=> !(PS.eZ fo gl args pre).own l
  have e:(PS.eZ fo gl args ((pre.map (·.n)).map (snap S))).clear (fun l=> !(PS.eZ fo gl args pre).own l)=PS.eZ fo gl args pre:=by
   unfold PS.eZ PS.clear
   congr 1
   ·funext n
    simp only[j3];rcases hf n with⟨q1,q2⟩|⟨u,q1,q2,q3,q4,q5⟩
    ·simp only[q1,if_neg q2]
    ·simp only[q1,if_pos q2,snap,q4]
   ·funext n
    simp only[j3];rcases hf n with⟨q1,q2⟩|⟨u,q1,q2,q3,q4,q5⟩
    ·simp only[q1,if_neg q2]
    ·simp only[q1,if_pos q2,snap,q3]
   ·funext l
    cases l with
    |t i j=>simp
    |b n k=>
     simp only[j3];rcases hf n with⟨q1,q2⟩|⟨u,q1,q2,q3,q4,q5⟩
     ·simp[q1]
     ·simp only[q1,if_pos q2,snap]
      cases hk:u.o k with
      |false=>simp
      |true=>simp[q5 k hk]
  rw[e]at hc;exact h5 vs w fr T β hl hgo hc
def Ez(tr:List Nat)(d:Option Nat):Bool:=match d with|some d=>tr.contains (d+100000)|none=>tr.contains 100000
theorem dx(fo:Nat){d:Option Nat}{f:FuncId}{caps:List PV}{x:Operand}{args:List Operand}{ts:Array TypeId}{r:PV}{ro:Nat→Bool}{as:List PV}{pre post:List iL}(hx:yE (S.ev x) args.isEmpty=some (f,caps))(ha:args.map S.ev++caps=as)
 (hH:de P fo (fun n=>S.gen n+1) f as pre r ro post) (hc:(match d with|some d=>tr.contains (d+40000)|none=>tr.contains 40000)=true) (hp:uY S pre)
 (hK:K (S.cb d r ro post)) (ho:Ez tr d=false∨ ∀u∈post,zi tr S.fo u.n=true:=by exact Or.inl rfl):ow P tr d (.call ⟨.value x,⟨args⟩,ts⟩) S K:=by
 subst ha;unfold ow DZ;refine⟨by cases d<;>simp[gG],?_⟩
 rw[hx];have hcb:s9 tr {dst:=d,op:= .call ⟨.value x,⟨args⟩,ts⟩,type:=0,pos:= "",after:= #[],guard:=none}=true:=by
  unfold s9
  cases d<;>exact hc
 simp only[hcb,if_true];refine⟨pre.map (·.n),fo,r,ro,post,fun n hn=>?_,de.VX hp hH,fun hq=>?_,hK⟩
 rotate_left
 ·rcases ho with h|h
  ·unfold nF at hq;unfold Ez at h
   cases d<;>simp only at hq h<;>rw[h]at hq<;>cases hq
  ·exact h
 obtain⟨u,hu,rfl⟩:=List.mem_map.1 hn;obtain⟨q1,q2,_⟩:=hp u hu;rw[q2];exact q1
theorem F'{ι:Type}{C:ι→Prop}(fo:Nat){d:Option Nat}{f:FuncId}{caps:List PV}{x:Operand}{args:List Operand}{ts:Array TypeId}{r:ι→PV}{ro:Nat→Bool}{as:List PV}{pre:List iL}{post:ι→List iL}(hx:yE (S.ev x) args.isEmpty=some (f,caps))(ha:args.map S.ev++caps=as)
 (hH: ∃i,C i∧de P fo (fun n=>S.gen n+1) f as pre (r i) ro (post i)) (hc:(match d with|some d=>tr.contains (d+40000)|none=>tr.contains 40000)=true) (hp:uY S pre)
 (hK: ∀i,C i→K (S.cb d (r i) ro (post i))) (ho:Ez tr d=false:=by exact rfl):ow P tr d (.call ⟨.value x,⟨args⟩,ts⟩) S K:=by
 obtain⟨i,hC,hM⟩:=hH;exact dx fo hx ha hM hc hp (hK i hC) (.inl ho)
end
def nth{α:Type}[Inhabited α](l:List α)(i:Int):α:=l.getD i.toNat default
def tI(k:IntKind)(a b:Int):Int:=k.wrap (BitVec.ofInt k.bits a&&&BitVec.ofInt k.bits b).toNat
def LI(k:IntKind)(a b:Int):Int:=k.wrap (BitVec.ofInt k.bits a|||BitVec.ofInt k.bits b).toNat
def Dp(k:IntKind)(a b:Int):Int:=k.wrap (BitVec.ofInt k.bits a^^^BitVec.ofInt k.bits b).toNat
def rj(k:IntKind)(a b:Int):Int:=k.wrap (BitVec.ofInt k.bits a&&& ~~~BitVec.ofInt k.bits b).toNat
def Mr(k:IntKind)(a:Int):Int:=k.wrap (BitVec.ofInt k.bits (if k.signed then-1 else k.max)^^^BitVec.ofInt k.bits a).toNat
def DF(k:IntKind)(a b:Int):Int:=k.wrap (a*2^(min b.toNat k.bits))
def BX(k:IntKind)(a b:Int):Int:=a.fdiv (2^(min b.toNat k.bits))
section
variable {P:Program} {tr:List Nat} {S:PS} {K:PS→Prop} {Q:PS→Prop} {l:List CO}
def JJ(c a b:PV):Option (PV×Bool):=match c with| .d (.bool t)=>some (if t then a else b,false)|_=>none
@[simp] theorem Ty{c a b:Operand}:qv P S (.pick c a b)=JJ (S.ev c) (S.ev a) (S.ev b):=rfl
@[simp] theorem TG{a b:PV}:JJ (.d (.bool true)) a b=some (a,false):=rfl
@[simp] theorem TH{a b:PV}:JJ (.d (.bool false)) a b=some (b,false):=rfl
def O2(x:PV):Option (PV×Bool):=match x with| .ptr n g o=>some (.ptr n g o,false)| .cptr cs=>some (.cptr cs,false)|_=>none
@[simp] theorem WM{x:Operand}:qv P S (.nilCheck x)=O2 (S.ev x):=rfl
@[simp] theorem RW{n g o:Nat}:O2 (.ptr n g o)=some (.ptr n g o,false):=rfl
@[simp] theorem Qt{cs:List DV}:O2 (.cptr cs)=some (.cptr cs,false):=rfl
def q1(r:Option PV):Option (PV×Bool):=r.map fun r=>(r,false)
@[simp] theorem Tz{r:PV}:q1 (some r)=some (r,false):=rfl
@[simp] theorem WR{op:BinOp}{t t':TypeId}{x y:Operand}:qv P S (.binOp op t x y t')=q1 (uJ P S op t x y):=rfl
@[simp] theorem Zj{op:BinOp}{t:TypeId}{x:Operand}{s:Nat}:uJ P S op t x (.tmp s)=dT P op t (S.ev x) (S.t s):=rfl
@[simp] theorem VL{op:BinOp}{t:TypeId}{x:Operand}{k:IntKind}{n:Int}:uJ P S op t x (.const (.int k n))=dT P op t (S.ev x) (.d (.int k n)):=rfl
@[simp] theorem VN{op:BinOp}{t:TypeId}{x:Operand}{b:Bool}:uJ P S op t x (.const (.bool b))=dT P op t (S.ev x) (.d (.bool b)):=rfl
@[simp] theorem VI{op:BinOp}{t:TypeId}{x:Operand}{b:ByteArray}:uJ P S op t x (.const (.string b))=dT P op t (S.ev x) (ofConst (.string b)):=rfl
@[simp] theorem VJ{op:BinOp}{t:TypeId}{x:Operand}{b:Option Addr}:uJ P S op t x (.const (.pointer b))=dT P op t (S.ev x) (ofConst (.pointer b)):=rfl
@[simp] theorem VM{op:BinOp}{t:TypeId}{x:Operand}:uJ P S op t x (.const .nilFunc)=dT P op t (S.ev x) (ofConst .nilFunc):=rfl
@[simp] theorem VK{op:BinOp}{t:TypeId}{x:Operand}{b:Option Addr}{n c:Nat}:uJ P S op t x (.const (.slice b n c))=dT P op t (S.ev x) (ofConst (.slice b n c)):=rfl
@[simp] theorem VO{op:BinOp}{t:TypeId}{x:Operand}{vs:Array Value}:uJ P S op t x (.const (.agg vs))=dT P op t (S.ev x) (ofConst (.agg vs)):=rfl
@[simp] theorem VH{op:BinOp}{t:TypeId}{x:Operand}:uJ P S op t x (.const .nilIface)=NW (P.underlying t) op (S.ev x):=rfl
@[simp] theorem XJ{m:Array (String×TypeId)}{t:TypeId}{v:Value}:NW (some (.interface m)) .eql (.d (.opq (.iface t v)))=some (.d (.bool false)):=rfl
@[simp] theorem XI{m:Array (String×TypeId)}{t:TypeId}{v:Value}:NW (some (.interface m)) .neq (.d (.opq (.iface t v)))=some (.d (.bool true)):=rfl
@[simp] theorem XH{m:Array (String×TypeId)}:NW (some (.interface m)) .eql (.d (.opq .nilIface))=some (.d (.bool true)):=rfl
@[simp] theorem XG{m:Array (String×TypeId)}:NW (some (.interface m)) .neq (.d (.opq .nilIface))=some (.d (.bool false)):=rfl
@[simp] theorem P8{t:TypeId}{x:Operand}:qv P S (.makeInterface t x)=if CH (P.underlying t)=false then A1 t (S.ev x)else none:=rfl
@[simp] theorem Sm{fs:Array Go.Field}:CH (some (.struct fs))=false:=rfl
@[simp] theorem Uc{t:TypeId}:CH (some (.pointer t))=false:=rfl
@[simp] theorem OW:ofConst .nilIface= .d (.opq .nilIface):=rfl
@[simp] theorem Qy:fQ .nilIface=false:=rfl
@[simp] theorem aa4{t:TypeId}{x:DV}:A1 t (.d x)=(ng x).map fun u=>(.d (.opq (.iface t u)),false):=rfl
@[simp] theorem V7{k:IntKind}{n:Int}:ng (.int k n)=some (.int k n):=by simp[ng]
@[simp] theorem V5{s:List UInt8}:ng (.str s)=some (.string ⟨s.toArray⟩):=by simp[ng]
@[simp] theorem V6{v:Value}:ng (.opq v)=some v:=by simp[ng]
@[simp] theorem V8{cs:List DV}:ng (.agg cs)=(wi cs).map fun vs=> .agg vs.toArray:=by simp[ng]
@[simp] theorem V3:wi []=some []:=by simp[wi]
@[simp] theorem V4{c:DV}{r:List DV}:wi (c::r)=(ng c).bind fun v=>(wi r).map fun vs=>v::vs:=by simp[wi]
@[simp] theorem aaL{op:UnOp}{t:TypeId}{x:Operand}:qv P S (.unOp op t x)=q1 (OI op (S.ev x)):=rfl
@[simp] theorem TE{b:Bool}:OI .not (.d (.bool b))=some (.d (.bool (!b))):=rfl
@[simp] theorem TF{k:IntKind}{n:Int}:OI .neg (.d (.int k n))=some (.d (.int k (k.wrap (0-n)))):=rfl
@[simp] theorem TD{k:IntKind}{n:Int}:OI .xor (.d (.int k n))=some (.d (.int k (Mr k n))):=rfl
@[simp] theorem RM{t:TypeId}{k:IntKind}{a b:Int}:dT P .add t (.d (.int k a)) (.d (.int k b))=some (.d (.int k (k.wrap (a+b)))):=by simp[dT,fJ,pf,IJ]
@[simp] theorem Rx{t:TypeId}{k:IntKind}{a b:Int}:dT P .sub t (.d (.int k a)) (.d (.int k b))=some (.d (.int k (k.wrap (a-b)))):=by simp[dT,fJ,pf,IJ]
@[simp] theorem RD{t:TypeId}{k:IntKind}{a b:Int}:dT P .mul t (.d (.int k a)) (.d (.int k b))=some (.d (.int k (k.wrap (a*b)))):=by simp[dT,fJ,pf,IJ]
@[simp] theorem RB{t:TypeId}{k:IntKind}{a b:Int}(h:b≠0):dT P .quo t (.d (.int k a)) (.d (.int k b))=some (.d (.int k (k.wrap (a.tdiv b)))):=by simp[dT,fJ,pf,IJ,h]
@[simp] theorem RA{t:TypeId}{k:IntKind}{a b:Int}(h:b≠0):dT P .rem t (.d (.int k a)) (.d (.int k b))=some (.d (.int k (a.tmod b))):=by simp[dT,fJ,pf,IJ,h]
@[simp] theorem RL{t:TypeId}{k:IntKind}{a b:Int}:dT P .and t (.d (.int k a)) (.d (.int k b))=some (.d (.int k (tI k a b))):=by simp[dT,fJ,pf,IJ,tI]
@[simp] theorem TK{t:TypeId}{k:IntKind}{a b:Int}:dT P .or t (.d (.int k a)) (.d (.int k b))=some (.d (.int k (LI k a b))):=by simp[dT,fJ,pf,IJ,LI]
@[simp] theorem Rw{t:TypeId}{k:IntKind}{a b:Int}:dT P .xor t (.d (.int k a)) (.d (.int k b))=some (.d (.int k (Dp k a b))):=by simp[dT,fJ,pf,IJ,Dp]
@[simp] theorem NF{t:TypeId}{k:IntKind}{a b:Int}:dT P .andNot t (.d (.int k a)) (.d (.int k b))=some (.d (.int k (rj k a b))):=by simp[dT,fJ,pf,IJ,rj]
@[simp] theorem Rz{t:TypeId}{k k':IntKind}{a b:Int}(h:0≤b):dT P .shl t (.d (.int k a)) (.d (.int k' b))=some (.d (.int k (DF k a b))):=by simp[dT,fJ,Rb,DF,show¬b<0 by omega]
@[simp] theorem Ry{t:TypeId}{k k':IntKind}{a b:Int}(h:0≤b):dT P .shr t (.d (.int k a)) (.d (.int k' b))=some (.d (.int k (BX k a b))):=by simp[dT,fJ,Rb,BX,show¬b<0 by omega]
@[simp] theorem RJ{t:TypeId}{k:IntKind}{a b:Int}:dT P .eql t (.d (.int k a)) (.d (.int k b))=some (.d (.bool (decide (a=b)))):=by simp[dT,fJ,pf]
@[simp] theorem RC{t:TypeId}{k:IntKind}{a b:Int}:dT P .neq t (.d (.int k a)) (.d (.int k b))=some (.d (.bool (!decide (a=b)))):=by simp[dT,fJ,pf]
@[simp] theorem RE{t:TypeId}{k:IntKind}{a b:Int}:dT P .lss t (.d (.int k a)) (.d (.int k b))=some (.d (.bool (decide (a<b)))):=by simp[dT,fJ,pf]
@[simp] theorem RF{t:TypeId}{k:IntKind}{a b:Int}:dT P .leq t (.d (.int k a)) (.d (.int k b))=some (.d (.bool (decide (a≤b)))):=by simp[dT,fJ,pf]
@[simp] theorem RG{t:TypeId}{k:IntKind}{a b:Int}:dT P .gtr t (.d (.int k a)) (.d (.int k b))=some (.d (.bool (decide (b<a)))):=by simp[dT,fJ,pf]
@[simp] theorem RH{t:TypeId}{k:IntKind}{a b:Int}:dT P .geq t (.d (.int k a)) (.d (.int k b))=some (.d (.bool (decide (b≤a)))):=by simp[dT,fJ,pf]
@[simp] theorem Ql{t:TypeId}{a b:List UInt8}:dT P .eql t (.d (.str a)) (.d (.str b))=some (.d (.bool (decide (a=b)))):=by simp[dT,E5]
@[simp] theorem Qi{t:TypeId}{a b:List UInt8}:dT P .neq t (.d (.str a)) (.d (.str b))=some (.d (.bool (!decide (a=b)))):=by simp[dT,E5]
@[simp] theorem Qj{t:TypeId}{a b:List UInt8}:dT P .lss t (.d (.str a)) (.d (.str b))=some (.d (.bool (strLt a b))):=by simp[dT,E5]
@[simp] theorem Qk{t:TypeId}{a b:List UInt8}:dT P .geq t (.d (.str a)) (.d (.str b))=some (.d (.bool (!strLt a b))):=by simp[dT,E5]
@[simp] theorem Qm{t:TypeId}{a b:List UInt8}(h:a.length+b.length≤9223372036854775807):dT P .add t (.d (.str a)) (.d (.str b))=some (.d (.str (a++b))):=by simp[dT,h]
@[simp] theorem Qn{t:TypeId}{a b:Bool}(h:P.underlying t=some .bool):dT P .eql t (.d (.bool a)) (.d (.bool b))=some (.d (.bool (a==b))):=by simp[dT,h,Vx]
def mY(u:Option TypeDesc):Bool:=match u with|some (.pointer _)=>true|_=>false
def pW(u:Option TypeDesc):Bool:=match u with|some (.func ..)=>true|_=>false
@[simp] theorem Sl{e:TypeId}:mY (some (.pointer e))=true:=rfl
theorem J8{u:Option TypeDesc}{n g o:Nat}(h:mY u=true):mT u (.ptr n g o) (.d (.opq (.pointer none)))=some false:=by unfold mY at h;split at h<;>first|rfl|cases h
theorem J_{u:Option TypeDesc}{c:List DV}(h:mY u=true):mT u (.cptr c) (.d (.opq (.pointer none)))=some false:=by unfold mY at h;split at h<;>first|rfl|cases h
theorem J9{u:Option TypeDesc}(h:mY u=true):mT u (.d (.opq (.pointer none))) (.d (.opq (.pointer none)))=some true:=by unfold mY at h;split at h<;>first|rfl|cases h
theorem J'{u:Option TypeDesc}{f:FuncId}{c:List PV}(h:pW u=true):mT u (.fn f c) (.d (.opq .nilFunc))=some false:=by unfold pW at h;split at h<;>first|rfl|cases h
theorem Ka{u:Option TypeDesc}{f:FuncId}{c:List DV}(h:pW u=true):mT u (.bm f c) (.d (.opq .nilFunc))=some false:=by unfold pW at h;split at h<;>first|rfl|cases h
theorem zj{u:Option TypeDesc}(h:pW u=true):mT u (.d (.opq .nilFunc)) (.d (.opq .nilFunc))=some true:=by unfold pW at h;split at h<;>first|rfl|cases h
@[simp] theorem TJ{t:TypeId}{n g o:Nat}(h:mY (P.underlying t)=true):dT P .eql t (.ptr n g o) (.d (.opq (.pointer none)))=some (.d (.bool false)):=by simp[dT,J8 h]
@[simp] theorem TO{t:TypeId}{c:List DV}(h:mY (P.underlying t)=true):dT P .eql t (.cptr c) (.d (.opq (.pointer none)))=some (.d (.bool false)):=by simp[dT,J_ h]
@[simp] theorem TL{t:TypeId}(h:mY (P.underlying t)=true):dT P .eql t (.d (.opq (.pointer none))) (.d (.opq (.pointer none)))=some (.d (.bool true)):=by simp[dT,J9 h]
@[simp] theorem TM{t:TypeId}{f:FuncId}{c:List PV}(h:pW (P.underlying t)=true):dT P .eql t (.fn f c) (.d (.opq .nilFunc))=some (.d (.bool false)):=by simp[dT,J' h]
@[simp] theorem RK{t:TypeId}{f:FuncId}{c:List DV}(h:pW (P.underlying t)=true):dT P .neq t (.bm f c) (.d (.opq .nilFunc))=some (.d (.bool true)):=by simp[dT,Ka h]
@[simp] theorem TN{t:TypeId}(h:pW (P.underlying t)=true):dT P .eql t (.d (.opq .nilFunc)) (.d (.opq .nilFunc))=some (.d (.bool true)):=by simp[dT,zj h]
@[simp] theorem RI{t:TypeId}(h:pW (P.underlying t)=true):dT P .neq t (.d (.opq .nilFunc)) (.d (.opq .nilFunc))=some (.d (.bool false)):=by simp[dT,zj h]
theorem kZ{n:Int}(h: -9223372036854775808≤n∧n≤9223372036854775807):IntKind.i64.wrap n=n:=by rw[bU];omega
theorem wrap_u32{n:Int}(h:0≤n∧n≤4294967295):IntKind.u32.wrap n=n:=by
 unfold IntKind.wrap;simp[IntKind.bits,IntKind.signed];omega
def xM(P:Program)(t f:Nat)(gen:Nat→Nat)(x:PV):Option (PV×Bool):=
 match c_ P t f,x with
 |some (off,ft),.ptr n g o=>if 0<cX P ft then some (.ptr n g (o+off),false)else none
 |some (off,ft),.cptr cs=>if 0<cX P ft∧off<cs.length then some (.cptr (cs.drop off),false)else none
 |_,_=>none
@[simp] theorem L'{t f:Nat}{x:Operand}:qv P S (.fieldAddr t x f)=xM P t f S.gen (S.ev x):=rfl
def K5(P:Program)(t f:Nat)(x:PV):Option (PV×Bool):=
 match c_ P t f,x with
 |some (off,ft),.d (.agg cs)=>(u9 P ft cs off).map fun r=>(.d r,false)
 |some (off,ft),.pa cs=>(Cc P ft cs off).map fun r=>(r,false)
 |_,_=>none
@[simp] theorem Ro{t f:Nat}{x:Operand}:qv P S (.field t x f)=K5 P t f (S.ev x):=rfl
def fm(P:Program)(t:Nat)(gen:Nat→Nat)(box:Nat→List PV)(x i:PV):Option (PV×Bool):=
 match kP P t,x,i with
 |some e,.d (.slice xs),.d (.int _ i)=>
  if 0≤i∧i<(xs.length:Int)then
   match xs[i.toNat]? with
   |some x=>if(cells x).length=cX P e∧0<cX P e then some (.cptr (cells x),false)else none
   |none=>none
  else none
 |some e,.bsl n g len sz _,.d (.int _ i)=>if 0≤i∧i<(len:Int)∧g=gen n∧cX P e=sz∧len*sz≤(box n).length then some (.ptr n g (i.toNat*sz),false)else none
 |_,_,_=>none
@[simp] theorem L9{t:Nat}{x i:Operand}:qv P S (.indexAddr t x i)=fm P t S.gen S.box (S.ev x) (S.ev i):=rfl
theorem xx{α:Type}[Inhabited α]{t e:Nat}{gen:Nat→Nat}{box:Nat→List PV}{enc:α→DV}{xs:List α}{k:IntKind}{i:Int}(he:kP P t=some e)(hs: ∀x,(cells (enc x)).length=cX P e)(hp:0<cX P e)(h0:0≤i)(h1:i<xs.length):
 fm P t gen box (.d (.slice (xs.map enc))) (.d (.int k i))=some (.cptr (cells (enc (nth xs i))),false):=by
 have hlt:i.toNat<xs.length:=by omega
 unfold fm;rw[he];simp only[List.length_map,h0,h1,and_self,if_true,List.getElem?_map,List.getElem?_eq_getElem hlt,Option.map_some,hs,hp];rw[nth,List.getD_eq_getElem?_getD,List.getElem?_eq_getElem hlt];rfl
theorem xy{t e n g len sz:Nat}{ag:Bool}{gen:Nat→Nat}{box:Nat→List PV}{k:IntKind}{i:Int}(he:kP P t=some e)(hs:cX P e=sz)(h0:0≤i)(h1:i<len)(hg:g=gen n)(hb:len*sz≤(box n).length):
 fm P t gen box (.bsl n g len sz ag) (.d (.int k i))=some (.ptr n g (i.toNat*sz),false):=by
 subst hs hg;simp[fm,he,h0,h1,hb]
def Ba(P:Program)(t:Nat)(x i:PV):Option (PV×Bool):=
 match P.underlying t,x,i with
 |some .string,.d (.str s),.d (.int _ i)=>if 0≤i∧i<(s.length:Int)then some (.d (.int .u8 (s.getD i.toNat 0).toNat),false)else none
 |_,_,_=>none
@[simp] theorem Rn{t:Nat}{x i:Operand}:qv P S (.index t x i)=Ba P t (S.ev x) (S.ev i):=rfl
theorem ED{t:Nat}{s:List UInt8}{k:IntKind}{i:Int}(ht:P.underlying t=some .string)(h0:0≤i)(h1:i<s.length):Ba P t (.d (.str s)) (.d (.int k i))=some (.d (.int .u8 (nth s i).toNat),false):=by
 simp only[Ba,ht,h0,h1,and_self,if_true];rfl
def R8(P:Program)(t:Nat)(x:PV):Option (PV×Bool):=
 match P.underlying t,x with
 |some (.slice _),.d (.slice xs)=>some (.d (.int .i64 xs.length),false)
 |some (.slice _),.bsl _ _ n _ _=>some (.d (.int .i64 n),false)
 |some .string,.d (.str s)=>some (.d (.int .i64 s.length),false)
 |_,_=>none
@[simp] theorem WQ{t:Nat}{x:Operand}:qv P S (.call ⟨.builtin .len,⟨[x]⟩,⟨[t]⟩⟩)=R8 P t (S.ev x):=rfl
@[simp] theorem WN{a:List Operand}{ts:Array TypeId}:qv P S (.call ⟨.builtin .min,⟨a⟩,ts⟩)=q1 (rP false (a.map S.ev)):=rfl
@[simp] theorem WO{a:List Operand}{ts:Array TypeId}:qv P S (.call ⟨.builtin .max,⟨a⟩,ts⟩)=q1 (rP true (a.map S.ev)):=rfl
@[simp] theorem NP{mx:Bool}{k:IntKind}{a:Int}{r:List PV}:rP mx (.d (.int k a)::r)=ug mx k a r:=rfl
@[simp] theorem R1{mx:Bool}{k:IntKind}{a:Int}:ug mx k a []=some (.d (.int k a)):=rfl
@[simp] theorem R3{k:IntKind}{a b:Int}{r:List PV}:ug true k a (.d (.int k b)::r)=ug true k (if b>a then b else a) r:=by simp[ug]
@[simp] theorem R2{k:IntKind}{a b:Int}{r:List PV}:ug false k a (.d (.int k b)::r)=ug false k (if b<a then b else a) r:=by simp[ug]
def mj(P:Program)(t:Nat):Nat:=match kP P t with|some e=>cX P e|none=>0
def BB(top:Nat)(x:Option PV):Option Nat:=match x with|none=>some top|some (.d (.int _ i))=>if 0≤i∧i≤(top:Int)then some i.toNat else none|_=>none
def El(top:Nat)(x:Option PV):Option Nat:=match x with|none=>some 0|some (.d (.int _ i))=>if 0≤i∧i≤(top:Int)then some i.toNat else none|_=>none
@[simp] theorem So{top:Nat}:BB top none=some top:=rfl
@[simp] theorem R6{top:Nat}:El top none=some 0:=rfl
@[simp] theorem XL{top:Nat}{k:IntKind}{i:Int}(h:0≤i∧i≤(top:Int)):BB top (some (.d (.int k i)))=some i.toNat:=if_pos h
@[simp] theorem Xt{top:Nat}{k:IntKind}{i:Int}(h:0≤i∧i≤(top:Int)):El top (some (.d (.int k i)))=some i.toNat:=if_pos h
def Wn(xs:List DV)(h l:Nat):PV×Bool:=(.d (.slice ((xs.take h).drop l)),false)
@[simp] theorem Wm{xs:List DV}{h l:Nat}:Wn xs h l=(.d (.slice ((xs.take h).drop l)),false):=rfl
def Wp(xs:List DV)(lo:Option PV)(h:Nat):Option (PV×Bool):=(El h lo).map (Wn xs h)
@[simp] theorem Wo{xs:List DV}{lo:Option PV}{h:Nat}:Wp xs lo h=(El h lo).map (Wn xs h):=rfl
def Ov(xs:List DV)(m h l:Nat):PV×Bool:=(.d (.slice ((xs.take h).drop l)),m==h)
@[simp] theorem To{xs:List DV}{m h l:Nat}:Ov xs m h l=(.d (.slice ((xs.take h).drop l)),m==h):=rfl
def Ow(xs:List DV)(lo:Option PV)(m h:Nat):Option (PV×Bool):=(El h lo).map (Ov xs m h)
@[simp] theorem Tp{xs:List DV}{lo:Option PV}{m h:Nat}:Ow xs lo m h=(El h lo).map (Ov xs m h):=rfl
def Ou(xs:List DV)(lo:Option PV)(hi:PV)(m:Nat):Option (PV×Bool):=(BB m (some hi)).bind (Ow xs lo m)
@[simp] theorem LU{xs:List DV}{lo:Option PV}{hi:PV}{m:Nat}:Ou xs lo hi m=(BB m (some hi)).bind (Ow xs lo m):=rfl
def Wf(s:List UInt8)(h l:Nat):PV×Bool:=(.d (.str ((s.take h).drop l)),false)
@[simp] theorem We{s:List UInt8}{h l:Nat}:Wf s h l=(.d (.str ((s.take h).drop l)),false):=rfl
def ssH(s:List UInt8)(lo:Option PV)(h:Nat):Option (PV×Bool):=(El h lo).map (Wf s h)
@[simp] theorem Wg{s:List UInt8}{lo:Option PV}{h:Nat}:ssH s lo h=(El h lo).map (Wf s h):=rfl
def V0(n g sz:Nat)(ag:Bool)(h l:Nat):PV×Bool:=(.view n g l (h-l) sz ag false,false)
@[simp] theorem VZ{n g sz h l:Nat}{ag:Bool}:V0 n g sz ag h l=(.view n g l (h-l) sz ag false,false):=rfl
def V2(n g sz:Nat)(ag:Bool)(lo:Option PV)(h:Nat):Option (PV×Bool):=(El h lo).map (V0 n g sz ag h)
@[simp] theorem V1{n g sz h:Nat}{ag:Bool}{lo:Option PV}:V2 n g sz ag lo h=(El h lo).map (V0 n g sz ag h):=rfl
def Oe(n g sz:Nat)(ag:Bool)(m h l:Nat):PV×Bool:=(.view n g l (h-l) sz ag (m==h),false)
@[simp] theorem Tg{n g sz m h l:Nat}{ag:Bool}:Oe n g sz ag m h l=(.view n g l (h-l) sz ag (m==h),false):=rfl
def Of(n g sz:Nat)(ag:Bool)(lo:Option PV)(m h:Nat):Option (PV×Bool):=(El h lo).map (Oe n g sz ag m h)
@[simp] theorem Th{n g sz m h:Nat}{ag:Bool}{lo:Option PV}:Of n g sz ag lo m h=(El h lo).map (Oe n g sz ag m h):=rfl
def Od(n g sz:Nat)(ag:Bool)(lo:Option PV)(hi:PV)(m:Nat):Option (PV×Bool):=(BB m (some hi)).bind (Of n g sz ag lo m)
@[simp] theorem LL{n g sz m:Nat}{ag:Bool}{lo:Option PV}{hi:PV}:Od n g sz ag lo hi m=(BB m (some hi)).bind (Of n g sz ag lo m):=rfl
def tS(P:Program)(t:Nat)(x:PV)(lo hi mx:Option PV):Option (PV×Bool):=
 match x with
 | .d (.slice xs)=>
   if je (mj P t) xs=true∧0<mj P t then
    match mx,hi with
    |none,hi=>(BB xs.length hi).bind (Wp xs lo)
    |some m,some h=>(BB xs.length (some m)).bind (Ou xs lo h)
    |some _,none=>none
   else none
 | .d (.str s)=>match mx,P.underlying t with|none,some .string=>(BB s.length hi).bind (ssH s lo)|_,_=>none
 | .bsl n g len sz ag=>
   if(kP P t).isSome=true∧mj P t=sz then
    match mx,hi with
    |none,hi=>(BB len hi).bind (V2 n g sz ag lo)
    |some m,some h=>(BB len (some m)).bind (Od n g sz ag lo h)
    |some _,none=>none
   else none
 |_=>none
@[simp] theorem P0{t n g len sz:Nat}{ag:Bool}{lo hi:Option PV}:tS P t (.bsl n g len sz ag) lo hi none=if(kP P t).isSome=true∧mj P t=sz then(BB len hi).bind (V2 n g sz ag lo)else none:=rfl
@[simp] theorem PZ{t n g len sz:Nat}{ag:Bool}{lo:Option PV}{h m:PV}:tS P t (.bsl n g len sz ag) lo (some h) (some m)=if(kP P t).isSome=true∧mj P t=sz then(BB len (some m)).bind (Od n g sz ag lo h)else none:=rfl
@[simp] theorem Ra{t:Nat}{xs:List DV}{lo hi:Option PV}:tS P t (.d (.slice xs)) lo hi none=if je (mj P t) xs=true∧0<mj P t then(BB xs.length hi).bind (Wp xs lo)else none:=rfl
@[simp] theorem Q_{t:Nat}{xs:List DV}{lo:Option PV}{h m:PV}:tS P t (.d (.slice xs)) lo (some h) (some m)=if je (mj P t) xs=true∧0<mj P t then(BB xs.length (some m)).bind (Ou xs lo h)else none:=rfl
theorem Fh{top:Nat}{x:Operand}:Di S top x=BB top (some (S.ev x)):=by
 unfold Di BB
 cases S.ev x with
 |d y=>cases y<;>rfl
 |_=>rfl
theorem PI{top:Nat}{x:Operand}:Di S top x=El top (some (S.ev x)):=by
 unfold Di El
 cases S.ev x with
 |d y=>cases y<;>rfl
 |_=>rfl
theorem Cv{top:Nat}{x:Option Operand}:IH S top x=El top (x.map S.ev):=by
 cases x with
 |none=>rfl
 |some x=>exact PI
theorem KM{top:Nat}{x:Option Operand}:NX S top x=BB top (x.map S.ev):=by
 cases x with
 |none=>rfl
 |some x=>exact Fh
theorem map_bind{α β:Type}(o:Option α)(f:α→β):(o.bind fun x=>some (f x))=o.map f:=by cases o<;>rfl
@[simp] theorem Rm{t:Nat}{x:Operand}{lo hi mx:Option Operand}:qv P S (.slice t x lo hi mx)=tS P t (S.ev x) (lo.map S.ev) (hi.map S.ev) (mx.map S.ev):=by
 show rF P S t x lo hi mx=_
 unfold rF tS
 cases S.ev x with
 |d y=>
  cases y with
  |slice xs=>
   simp only;unfold mj
   cases kP P t with
   |none=>simp
   |some e=>
    simp only;by_cases hc:je (cX P e) xs=true∧0<cX P e
    ·rw[if_pos hc,if_pos hc]
     cases mx with
     |none=>
      simp only[KM,Cv,aZ]
      congr 1
      funext h
      exact map_bind _ _
     |some m=>
      cases hi with
      |none=>rfl
      |some hv=>
       simp only[Fh,Cv,Option.map_some]
       congr 1
       funext m
       rw[LU]
       congr 1
       funext h
       exact map_bind _ _
    ·rw[if_neg hc,if_neg hc]
  |str s=>
   simp only
   cases mx with
   |none=>
    cases P.underlying t with
    |none=>rfl
    |some u=>
     cases u<;>first|rfl|(simp only[KM,Cv,aZ];congr 1;funext h;exact map_bind _ _)
   |some m=>rfl
  |_=>rfl
 |bsl n g len sz ag=>
  simp only;unfold mj
  cases kP P t with
  |none=>simp
  |some e=>
   simp only[Option.isSome_some,true_and];by_cases hc:cX P e=sz
   ·rw[if_pos hc,if_pos hc]
    cases mx with
    |none=>
     simp only[KM,Cv,aZ]
     congr 1
     funext h
     exact map_bind _ _
    |some m=>
     cases hi with
     |none=>rfl
     |some hv=>
      simp only[Fh,Cv,Option.map_some]
      congr 1
      funext m
      rw[LL]
      congr 1
      funext h
      exact map_bind _ _
   ·rw[if_neg hc,if_neg hc]
 |_=>rfl
theorem HJ{α β:Type}{f:α→β}{l:List α}{i:Nat}:(l.map f).take i=(l.take i).map f:=List.map_take.symm
theorem HK{α β:Type}{f:α→β}{l:List α}{i:Nat}:(l.map f).drop i=(l.drop i).map f:=List.map_drop.symm
@[simp] theorem Q0{α:Type}{sz:Nat}{enc:α→DV}{xs:List α}(h: ∀x,(cells (enc x)).length=sz):je sz (xs.map enc)=true:=by simp[je,h]
@[simp] theorem QZ{sz:Nat}:je sz []=true:=rfl
@[simp] theorem PT{sz:Nat}{x:DV}{xs:List DV}:je sz (x::xs)=((cells x).length==sz&&je sz xs):=rfl
@[simp] theorem Ns{sz:Nat}{xs ys:List DV}:je sz (xs++ys)=(je sz xs&&je sz ys):=by simp[je]
@[simp] theorem Iw{k:IntKind}{n:Int}:cells (.int k n)= [.int k n]:=rfl
@[simp] theorem PE{b:Bool}:cells (.bool b)= [.bool b]:=rfl
@[simp] theorem QG{s:List UInt8}:cells (.str s)= [.str s]:=rfl
@[simp] theorem N8{xs:List DV}:cells (.slice xs)= [.slice xs]:=rfl
@[simp] theorem eu{cs:List DV}:cells (.agg cs)=cs:=rfl
def T5(r:Option (List PV)):Option (PV×Bool):=r.map fun cs=>(Kp cs,false)
@[simp] theorem R4{cs:List PV}:T5 (some cs)=some (Kp cs,false):=rfl
def Ff(P:Program)(S:PS)(t:Nat)(ps:List (Nat×Operand)):Option (PV×Bool):=
 match eQ P t with
 |some (.agg z)=>if z.toList.all (·.oneCell')=true∧xH P t=true then T5 (gP P S t ps (z.toList.map fun c=> .d (dh c)))else none
 |_=>none
@[simp] theorem Rp{t:Nat}{ps:List (Nat×Operand)}:qv P S (.build t ⟨ps⟩)=Ff P S t ps:=rfl
def iT(P:Program)(t:Nat):Option (List DV):=
 match eQ P t with
 |some (.agg z)=>if z.toList.all (·.oneCell')=true∧xH P t=true then some (z.toList.map dh)else none
 |_=>none
def Fe(P:Program)(S:PS)(t:Nat)(ps:List (Nat×Operand))(z:Option (List DV)):Option (PV×Bool):=match z with|some cs=>T5 (gP P S t ps (cs.map .d))|none=>none
@[simp] theorem S0{t:Nat}{ps:List (Nat×Operand)}{cs:List DV}:Fe P S t ps (some cs)=T5 (gP P S t ps (cs.map .d)):=rfl
@[simp] theorem S5{t:Nat}{ps:List (Nat×Operand)}:Ff P S t ps=Fe P S t ps (iT P t):=by
 unfold iT Ff;split
 ·rename_i z hz;by_cases hc:z.toList.all (·.oneCell')=true∧xH P t=true
  ·rw[if_pos hc,if_pos hc];simp only[Fe,List.map_map];rfl
  ·rw[if_neg hc,if_neg hc];rfl
 ·rfl
@[simp] theorem PG{t:Nat}{cs:List PV}:gP P S t [] cs=some cs:=rfl
def qm(P:Program)(S:PS)(t len:Nat)(ps:List (Nat×Operand)):Option (PV×Bool):=
 match kP P t with
 |some e=>if ps.length=len∧len*cX P e≤16777216∧0<cX P e∧(eQ P e).isSome then(fR S (cX P e) 0 ps).map fun xs=>(.d (.slice xs),true)else none
 |none=>none
@[simp] theorem LH{t n:Nat}{ps:List (Nat×Operand)}:qv P S (.buildSlice t n ⟨ps⟩)=qm P S t n ps:=rfl
@[simp] theorem Pw{sz k:Nat}:fR S sz k []=some []:=rfl
@[simp] theorem NB{f:Nat}{a:List Operand}:qv P S (.makeFunc (.func f) ⟨[]⟩ ⟨a⟩)=some (.fn f (a.map S.ev),false):=rfl
@[simp] theorem P9{f:Nat}{x:Operand}:qv P S (.makeFunc (.func f) ⟨[x]⟩ ⟨[]⟩)=VG f [S.ev x] []:=rfl
@[simp] theorem abO{f:Nat}{c:List DV}:VG f [.cptr c] []=some (.bm f c,false):=rfl
def C9(P:Program)(src dst:Nat)(x:PV):Option (PV×Bool):=
 match P.underlying src,P.underlying dst,x with
 |some (.int _),some (.int k),.d (.int _ n)=>some (.d (.int k (k.wrap n)),false)
 |some .string,some .string,.d (.str s)=>some (.d (.str s),false)
 |some (.slice e),some .string,.d (.slice xs)=>
  match P.underlying e with
  |some (.int .u8)=>(eE xs).map fun s=>(.d (.str s),false)
  |_=>none
 |some .string,some (.slice e),.d (.str s)=>
  match P.underlying e with
  |some (.int .u8)=>if cX P e=1 then some (.d (.slice (s.map fun b=> .int .u8 b.toNat)),false)else none
  |_=>none
 |_,_,_=>none
@[simp] theorem OF{s t:Nat}{x:Operand}:qv P S (.convert s t x)=C9 P s t (S.ev x):=rfl
end
open Go Go.RowKit Go.WideShapes
def pS(P:Program)(t:TypeId)(cs:List DV):DV:=
 match P.underlying t with
 |some (.struct _)=> .agg cs
 |_=>cs.headD (.bool false)
def Bf(r:TypeId→List DV→Prop):List Field→List DV→Prop
 | [],cs=>cs= []
 |f::fs,cs=> ∃a b,cs=a++b∧r f.type a∧Bf r fs b
def gk(P:Program):Nat→TypeId→List DV→Prop
 |0,_,_=>False
 |n+1,t,cs=>
  match P.underlying t with
  |some .bool=> ∃b,cs= [.bool b]
  |some (.int k)=> ∃i,cs= [.int k i]∧(Lit.int k i).wf=true
  |some .string=> ∃s:List UInt8,cs= [.str s]∧s.length≤maxLen
  |some (.slice e)=> ∃xs,cs= [.slice xs]∧xs.length≤maxLen∧ ∀x∈xs,∃ds,gk P n e ds∧x=pS P e ds
  |some (.struct fs)=>Bf (gk P n) fs.toList cs
  |_=>False
def rC(P:Program)(n:Nat)(t:TypeId)(x:DV):Prop:= ∃ds,gk P n t ds∧x=pS P t ds
def BZ(P:Program):Nat→List Field→Nat→Bool
 |o,[],e=>o==e
 |o,f::fs,e=>f.offset==o&&BZ P (o+P.cellsOf f.type) fs e
def qe(P:Program):Nat→TypeId→Bool
 |0,_=>false
 |n+1,t=>
  match P.underlying t with
  |some .bool=>P.cellsOf t==1
  |some (.int _)=>P.cellsOf t==1
  |some .string=>P.cellsOf t==1
  |some (.slice e)=>P.cellsOf t==1&&qe P n e&&decide (0<P.cellsOf e)
  |some (.struct fs)=>BZ P 0 fs.toList (P.cellsOf t)&&fs.toList.all fun f=>qe P n f.type
  |_=>false
def wV:Nat→Option Nat:=fun _=>none
def uL(w:World)(cs:List Value)(ds:List DV):Prop:=
 ds.length=cs.length∧ ∀(k:Nat) (u:Value) (p:DV),cs[k]? =some u→ds[k]? =some p→one u∧eB w wV u p
theorem uL.append{w:World}{a b:List Value}{x y:List DV}(h:uL w a x)(k:uL w b y):uL w (a++b) (x++y):=by
 refine⟨by simp[h.1,k.1],fun i u p hu hp=>?_⟩
 by_cases hi:i<a.length
 ·rw[List.getElem?_append_left hi]at hu;rw[List.getElem?_append_left (by rw[h.1];exact hi)]at hp
  exact h.2 i u p hu hp
 ·rw[List.getElem?_append_right (by omega)]at hu
  rw[List.getElem?_append_right (by rw[h.1];omega)]at hp
  rw[h.1]at hp;exact k.2 _ u p hu hp
theorem uL.JU{w:World}{u:Value}{p:DV}(h1:one u)(h:eB w wV u p):uL w [u] [p]:=by
 refine⟨rfl,fun k u' p' hu hp=>?_⟩
 cases k with
 |zero=>simp at hu hp;subst hu hp;exact⟨h1,h⟩
 |succ k=>simp at hu
section
variable {H:Type} {enc:TypeId×Value→H} {P:Program} {w:World} {base:Nat} {spare:Nat→Bool} {held:Bool}
theorem Iv{n:Nat}{t:TypeId}{ds:List DV}(h:gk P n t ds):cells (pS P t ds)=ds:=by
 cases n with
 |zero=>exact h.elim
 |succ n=>
  unfold gk at h;unfold pS
  split at h
  ·rename_i hu;rw[hu];obtain⟨b,rfl⟩:=h;rfl
  ·rename_i hu;rw[hu];obtain⟨b,rfl,_⟩:=h;rfl
  ·rename_i hu;rw[hu];obtain⟨b,rfl,_⟩:=h;rfl
  ·rename_i hu;rw[hu];obtain⟨b,rfl,_⟩:=h;rfl
  ·rename_i hu;rw[hu];rfl
  ·exact h.elim
theorem sO{n:Nat}(fuel:Nat)(ih: ∀t cs x,qe P n t=true→DataW.trod enc P w base spare held fuel t cs=some x→ ∃ds,uL w cs ds∧cs.length=P.cellsOf t∧gk P n t ds):
 ∀(fs:List Field) (o e:Nat) (cs:List Value),BZ P o fs e=true→(∀f∈fs,qe P n f.type=true)→o+cs.length=e→
  ∀(all:List Value),(∀f∈fs,∃x,DataW.trod enc P w base spare held fuel f.type ((all.drop f.offset).take (P.cellsOf f.type))=some x)→all.drop o=cs→
   ∃ds,uL w cs ds∧Bf (gk P n) fs ds
 | [],o,e,cs,hs,_,hl,all,_,hd=>by
   simp[BZ]at hs;have:cs= []:=List.eq_nil_of_length_eq_zero (by omega)
   subst this;exact⟨[],⟨rfl,by simp⟩,rfl⟩
 |f::fs,o,e,cs,hs,hall,hl,all,hx,hd=>by
  simp only[BZ,Bool.and_eq_true,br]at hs;obtain⟨ho,hs⟩:=hs;obtain⟨x,hfx⟩:=hx f List.mem_cons_self;rw[ho,hd]at hfx;obtain⟨d1,r1,l1,t1⟩:=ih _ _ _ (hall f List.mem_cons_self) hfx;have hle:P.cellsOf f.type≤cs.length:=by
   rw[List.length_take]at l1;omega
  obtain⟨d2,r2,t2⟩:=sO fuel ih fs (o+P.cellsOf f.type) e (cs.drop (P.cellsOf f.type)) hs (fun g hg=>hall g (al _ hg)) (by rw[List.length_drop];omega) all
   (fun g hg=>hx g (al _ hg)) (by rw[←hd,cg])
  refine⟨d1++d2,?_,d1,d2,rfl,t1,t2⟩;have:=r1.append r2
  rwa[ay]at this
theorem opens: ∀(n:Nat) (fuel:Nat) (t:TypeId) (cs:List Value) (x:DataW H×List MemPlace),qe P n t=true→DataW.trod enc P w base spare held fuel t cs=some x→
 ∃ds,uL w cs ds∧cs.length=P.cellsOf t∧gk P n t ds
 |0,_,_,_,_,h,_=>by simp[qe]at h
 |n+1,fuel,t,cs,x,h,hx=>by
  unfold qe at h
  split at h
  ·rename_i hu;obtain⟨b,rfl,_⟩:=DataW.trod_bool hu hx;refine⟨[.bool b],.JU rfl (.bool b),by simp at h;simp[h],?_⟩
   unfold gk;rw[hu];exact⟨b,rfl⟩
  ·rename_i k hu;obtain⟨i,rfl,_,hw⟩:=DataW.trod_int hu hx;refine⟨[.int k i],.JU rfl (.int k i),by simp at h;simp[h],?_⟩
   unfold gk;rw[hu];exact⟨i,rfl,hw⟩
  ·rename_i hu;obtain⟨s,rfl,_,hw⟩:=DataW.trod_string hu hx;refine⟨[.str s.data.toList],.JU rfl ?_,by simp at h;simp[h],?_⟩
   ·have:=eB.str (w:=w) (fr:=wV) s.data.toList
    simpa using this
   ·unfold gk;rw[hu];exact⟨_,rfl,by simpa using hw⟩
  ·rename_i e hu;simp only[Bool.and_eq_true,br,decide_eq_true_eq]at h;obtain⟨⟨h1,h2⟩,h3⟩:=h;rcases DataW.trod_slice hu hx with⟨rfl,_⟩|⟨a,len,cap,elems,rest,m,rfl,rfl,_,_,hlc,hcm,hel,helem,_,_⟩
   ·refine⟨[.slice []],.JU rfl ?_,by simp[h1],?_⟩
    ·exact .slice none 0 0 (fun _=>undef) [] (Nat.le_refl _) (by simp) (by simp) (by simp) (by simp[flat])
    ·unfold gk;rw[hu];exact⟨[],rfl,by simp,by simp⟩
   ·have key: ∀i,i<len→ ∃cs' ds,w.cells? base (a.add (i*P.cellsOf e)) (P.cellsOf e)=some cs'∧uL w cs' ds∧cs'.length=P.cellsOf e∧gk P n e ds:=by
     intro i hi;have h4:=helem i hi;have: ∃y,elems[i]? =some y:=⟨elems[i]'(by omega),List.getElem?_eq_getElem (by omega)⟩
     obtain⟨y,hy⟩:=this;rw[hy,Option.bind_eq_some_iff]at h4;obtain⟨cs',dQ,hy'⟩:=h4;obtain⟨ds,r,l,t'⟩:=opens n m e cs' y h2 hy';exact⟨cs',ds,dQ,r,l,t'⟩
    --the elements
    have: ∃dss:List (List DV),dss.length=len∧ ∀(i:Nat) (ds:List DV),dss[i]? =some ds→ ∃cs',w.cells? base (a.add (i*P.cellsOf e)) (P.cellsOf e)=some cs'∧uL w cs' ds∧cs'.length=P.cellsOf e∧gk P n e ds:=by
     clear helem hel hlc hx
     revert key
     generalize P.cellsOf e=sz;intro key;have: ∀m',m'≤len→ ∃dss:List (List DV),dss.length=m'∧ ∀(i:Nat) (ds:List DV),dss[i]? =some ds→ ∃cs',w.cells? base (a.add (i*sz)) sz=some cs'∧uL w cs' ds∧cs'.length=sz∧gk P n e ds:=by
      intro m'
      induction m' with
      |zero=>intro _;exact⟨[],rfl,by simp⟩
      |succ m' ih=>
       intro hm;obtain⟨dss,hl,hd⟩:=ih (by omega)
       obtain⟨cs',ds,q⟩:=key m' (by omega)
       refine⟨dss++ [ds],by simp[hl],fun i ds' hi=>?_⟩
       by_cases hlt:i<dss.length
       ·rw[List.getElem?_append_left hlt]at hi;exact hd i ds' hi
       ·rw[List.getElem?_append_right (by omega)]at hi
        have:i-dss.length=0:=by
         cases hh:i-dss.length with
         |zero=>rfl
         |succ _=>rw[hh]at hi;simp at hi
        rw[this]at hi;simp at hi;subst hi;have:i=m':=by omega
        subst this;exact⟨cs',q⟩
     exact this len (Nat.le_refl _)
    obtain⟨dss,hdl,hds⟩:=this
    let xs:=dss.map (pS P e)
    have hxl:xs.length=len:=by simp[xs,hdl]
    have hxs: ∀i x',xs[i]? =some x'→ ∃cs' ds,w.cells? base (a.add (i*P.cellsOf e)) (P.cellsOf e)=some cs'∧uL w cs' ds∧cs'.length=P.cellsOf e∧gk P n e ds∧x'=pS P e ds∧cells x'=ds:=by
     intro i x' hi;simp only[xs,List.getElem?_map,Option.map_eq_some_iff]at hi;obtain⟨ds,h5,rfl⟩:=hi;obtain⟨cs',q1,q2,q3,q4⟩:=hds i ds h5;exact⟨cs',ds,q1,q2,q3,q4,rfl,Iv q4⟩
    have hsz: ∀x'∈xs,(cells x').length=P.cellsOf e:=by
     intro x' hm;obtain⟨i,hi⟩:=List.mem_iff_getElem?.1 hm;obtain⟨cs',ds,_,r,l,_,_,hc⟩:=hxs i x' hi;rw[hc,r.1,l]
    have hspot:0<xs.length→a.spot=none:=by
     intro h0;obtain⟨cs',ds,q1,q2,q3,q4,q5,q6⟩:=hxs 0 xs[0] (List.getElem?_eq_getElem h0);obtain⟨_,_,q7⟩:=World.cells?_some q1;have q8:=q7 0 h3;rw[List.getElem?_eq_getElem (by omega)]at q8
     have h9:=World.cell?_spot q8
     simpa[Addr.add]using h9
    have hcell: ∀k,k<xs.length*P.cellsOf e→ ∃u,w.cell? (a.add k)=some u∧one u∧ ∀p,(flat xs)[k]? =some p→eB w wV u p:=by
     intro k hk;have hi:k/P.cellsOf e<xs.length:=(Nat.div_lt_iff_lt_mul h3).2 hk;have hj:k % P.cellsOf e<P.cellsOf e:=Nat.mod_lt _ h3;have hk':k/P.cellsOf e*P.cellsOf e+k % P.cellsOf e=k:=by rw[Nat.mul_comm];exact Nat.div_add_mod _ _
     obtain⟨cs',ds,q1,q2,q3,q4,q5,q6⟩:=hxs _ xs[k/P.cellsOf e] (List.getElem?_eq_getElem hi);obtain⟨_,_,q7⟩:=World.cells?_some q1;have q8:=q7 (k % P.cellsOf e) hj;rw[List.getElem?_eq_getElem (by omega)]at q8
     have hadd:(a.add (k/P.cellsOf e*P.cellsOf e)).add (k % P.cellsOf e)=a.add k:=by
      have hsp: ∀(a:Addr) (i j:Nat),a.spot=none→(a.add i).add j=a.add (i+j):=by
       intro a i j ha;obtain⟨b,o,s⟩:=a;simp only at ha;subst ha;rw[add_plain,add_plain,add_plain,bS]
      rw[hsp a _ _ (hspot (Nat.lt_of_le_of_lt (bt _) hi)),hk']
     rw[hadd]at q8;have hf:=tg hsz _ _ (List.getElem?_eq_getElem hi) (k % P.cellsOf e) hj;rw[hk',q6]at hf;have hd: ∃p,ds[k % P.cellsOf e]? =some p:=⟨ds[k % P.cellsOf e]'(by rw[q2.1];omega),List.getElem?_eq_getElem _⟩
     obtain⟨p,hp⟩:=hd;obtain⟨o1,r1⟩:=q2.2 (k % P.cellsOf e) _ p (List.getElem?_eq_getElem (by omega)) hp
     refine⟨_,q8,o1,fun p' hp'=>?_⟩
     rw[hf,hp]at hp'
     cases hp'
     exact r1
    refine⟨[.slice xs],.JU rfl ?_,by simp[h1],?_⟩
    ·rw[←hxl];refine .slice (some a) cap (P.cellsOf e) (fun k=>(w.cell? (a.add k)).getD undef) xs (by omega) hsz (fun h0=>?_) (fun k hk=>?_) (fun k p hp=>?_)
     ·have hspot:=hspot h0;refine⟨a,rfl,hspot,fun f hf=>by simp[wV]at hf,fun k hk=>?_⟩
      obtain⟨u,hu',_⟩:=hcell k hk;have e1:a.add k=⟨a.block,a.off+k,none⟩:=by
       obtain⟨b,o,s⟩:=a;simp only at hspot;subst hspot;exact add_plain _ _ _
      rw[hu',←e1,hu'];rfl
     ·obtain⟨u,hu',o1,_⟩:=hcell k hk
      show one ((w.cell? (a.add k)).getD undef)
      rw[hu'];exact o1
     ·have hk:k<xs.length*P.cellsOf e:=by
       have:=(List.getElem?_eq_some_iff.1 hp).1
       rwa[ed hsz]at this
      obtain⟨u,hu',_,r1⟩:=hcell k hk
      show eB w wV ((w.cell? (a.add k)).getD undef) p
      rw[hu'];exact r1 p hp
    ·unfold gk;rw[hu];refine⟨xs,rfl,by omega,fun x' hm=>?_⟩
     obtain⟨i,hi⟩:=List.mem_iff_getElem?.1 hm;obtain⟨cs',ds,_,_,_,q4,q5,_⟩:=hxs i x' hi;exact⟨ds,q4,q5⟩
  ·rename_i fs hu;simp only[Bool.and_eq_true,List.all_eq_true]at h;obtain⟨h1,h2⟩:=h;obtain⟨xs,m,rfl,_,hl,hxl,hf⟩:=DataW.trod_struct hu hx;obtain⟨ds,r,t'⟩:=sO (P:=P) (n:=n) m (fun t cs x hd hx=>opens n m t cs x hd hx) fs.toList 0 (P.cellsOf t) cs h1 h2 (by omega) cs (fun f hm=>by
    obtain⟨i,hi⟩:=List.mem_iff_getElem?.1 hm;have hi':fs[i]? =some f:=by simpa using hi
    have hlt:i<fs.size:=by
     have:=(aH.1 hi').1;exact this
    exact⟨xs[i]'(by omega),by rw[hf i f hi'];exact List.getElem?_eq_getElem (by omega)⟩) rfl
   refine⟨ds,r,hl,?_⟩;unfold gk;rw[hu];exact t'
  ·cases h
theorem e_{r:Reach}{b0 n:Nat}{t:TypeId}{v:Value}{d:DataW H}{ps:List MemPlace}(hd:qe P n t=true)(hv:Value.okWide P w r b0 t v)
 (h:DataW.Trod enc P w base spare held t v d ps): ∃x,rC P n t x∧eB w wV v x:=by
 obtain⟨fuel,hf⟩:=h;obtain⟨ds,⟨hl,hr⟩,hc,ht⟩:=opens n fuel t _ _ hd hf;refine⟨pS P t ds,⟨ds,ht,rfl⟩,?_⟩
 cases n with
 |zero=>exact ht.elim
 |succ n=>
  unfold gk at ht;unfold pS
  split at ht
  ·rename_i hu;rw[hu];obtain⟨b,rfl⟩:=ht;obtain⟨b',rfl⟩:=okWide_bool hu hv
   exact(hr 0 _ _ rfl rfl).2
  ·rename_i k hu;rw[hu];obtain⟨i,rfl,_⟩:=ht;obtain⟨b',rfl⟩:=okWide_int hu hv
   exact(hr 0 _ _ rfl rfl).2
  ·rename_i hu;rw[hu];obtain⟨i,rfl,_⟩:=ht;obtain⟨b',rfl⟩:=okWide_string hu hv
   exact(hr 0 _ _ rfl rfl).2
  ·rename_i e hu;rw[hu];obtain⟨i,rfl,_⟩:=ht;obtain⟨a',l',c',rfl⟩:=okWide_slice hu hv
   exact(hr 0 _ _ rfl rfl).2
  ·rename_i fs hu;rw[hu];obtain⟨cs,rfl,_⟩:=okWide_struct hu hv;have e1:(Value.agg cs).cells.toList=cs.toList:=rfl;rw[e1]at hr hl;have:=eB.agg (w:=w) (fr:=wV) cs.toList ds hl.symm (fun u hm=>?_) (fun k u p hu hp=>(hr k u p hu hp).2)
   ·simpa using this
   ·obtain⟨k,hk⟩:=List.mem_iff_getElem?.1 hm;have hkl:k<ds.length:=by rw[hl];exact(List.getElem?_eq_some_iff.1 hk).1
    exact(hr k u _ hk (List.getElem?_eq_getElem hkl)).1
  ·exact ht.elim
theorem Np.free{w:World}(h:(List.range P.globals.size).all (fun g=>(oL P g).isNone)=true):Np P w:=by
 intro g cs hg
 exfalso
 by_cases hl:g<P.globals.size
 ·have:=List.all_eq_true.1 h g (List.mem_range.2 hl);rw[hg]at this
  cases this
 ·unfold oL at hg;rw[Array.getElem?_eq_none (by omega)]at hg
  cases hg
theorem cD.walk{f:FuncId}{args:List DV}{r:Bool}(h:cD P f (args.map .d) (.d (.bool r)) (fun _=>false)){vs:Array Value}{w:World}(hl:vs.size=args.length)
 (hg:Np P w) (hv: ∀(i:Nat) (v:Value) (p:DV),vs[i]? =some v→args[i]? =some p→eB w wV v p):
 Calls P f vs w fun e w'=>e= .returned (.bool r)∧Below w.heap.size w w':=by
 obtain⟨_,_,h⟩:=h
 refine(h vs w wV (by simpa using hl) (by simp[wV]) hg (fun i v p hvi hp=>?_)).mono ?_
 ·rw[List.getElem?_map,Option.map_eq_some_iff]at hp;obtain⟨x,hx,rfl⟩:=hp;exact .d _ _ (hv i v x hvi hx)
 ·rintro e w' ⟨v,fr',S',β',rfl,hS,hr,_⟩;have hx:=hS.Gs;have h0:=hS.vals 0;rw[hr]at h0;have h1:=fH h0;have:v= .bool r:=by
   have e0:(res v).tmps.getD 0 undef=v:=rfl;rw[e0]at h1;generalize hg:DV.bool r=y at h1
   cases h1<;>simp_all
  subst this;exact⟨rfl,hx.os,hx.tape,hx.output,hx.size,fun k hk=>hx.fT k hk⟩
end
def cM(b:UInt8):DV:= .int .u8 b.toNat
@[simp] theorem N9(b:UInt8):cells (cM b)= [.int .u8 b.toNat]:=rfl
@[simp] theorem SY(b:UInt8):cM b= .int .u8 b.toNat:=rfl
def gM(n:Int):DV:= .int .i64 n
@[simp] theorem Ug(n:Int):gM n= .int .i64 n:=rfl
def PF(l:List UInt8):DV:= .slice (l.map cM)
@[simp] theorem QJ(l:List UInt8):PF l= .slice (l.map cM):=rfl
structure cN where
 code:Int
 data:List UInt8
 deriving Inhabited,DecidableEq
def cN.d(o:cN):DV:= .agg [.int .i64 o.code,.slice (o.data.map cM)]
@[simp] theorem cN.iR(o:cN):o.d= .agg [.int .i64 o.code,.slice (o.data.map cM)]:=rfl
structure ee where
 op:Int
 htype:Int
 hlen:Int
 hops:Int
 xid:Int
 secs:Int
 flags:Int
 ci:Int
 yi:Int
 si:Int
 gi:Int
 chaddr:List UInt8
 opts:List cN
 deriving Inhabited,DecidableEq
def ee.d(m:ee):DV:= .agg [.int .i64 m.op,.int .i64 m.htype,.int .i64 m.hlen,.int .i64 m.hops,.int .i64 m.xid,.int .i64 m.secs,.int .i64 m.flags,.int .i64 m.ci,.int .i64 m.yi,.int .i64 m.si,.int .i64 m.gi,
 .slice (m.chaddr.map cM),.slice (m.opts.map cN.d)]
@[simp] theorem ee.iR(m:ee):m.d= .agg [.int .i64 m.op,.int .i64 m.htype,.int .i64 m.hlen,.int .i64 m.hops,.int .i64 m.xid,.int .i64 m.secs,.int .i64 m.flags,.int .i64 m.ci,.int .i64 m.yi,.int .i64 m.si,.int .i64 m.gi,
 .slice (m.chaddr.map cM),.slice (m.opts.map cN.d)]:=rfl
def nH(n:Int):Prop:= -9223372036854775808≤n∧n≤9223372036854775807
theorem Pj{n:Int}(h:(Lit.int .i64 n).wf=true):nH n:=by
 have:IntKind.min .i64= -9223372036854775808∧IntKind.max .i64=9223372036854775807:=⟨rfl,rfl⟩;simp[Lit.wf]at h;unfold nH;omega
section
variable {P:Program}
theorem eY{n t:Nat}{ds:List DV}(hu:P.underlying t=some (.int .i64))(h:gk P n t ds): ∃i,ds= [.int .i64 i]∧nH i:=by
 cases n with
 |zero=>exact h.elim
 |succ n=>
  unfold gk at h;rw[hu]at h;obtain⟨i,rfl,hw⟩:=h;exact⟨i,rfl,Pj hw⟩
theorem Fy{n t:Nat}{ds:List DV}(hu:P.underlying t=some (.int .u8))(h:gk P n t ds): ∃b:UInt8,ds= [cM b]:=by
 cases n with
 |zero=>exact h.elim
 |succ n=>
  unfold gk at h;rw[hu]at h;obtain⟨i,rfl,hw⟩:=h;have:IntKind.min .u8=0∧IntKind.max .u8=255:=⟨rfl,rfl⟩;simp[Lit.wf]at hw;refine⟨UInt8.ofNat i.toNat,?_⟩;simp;omega
theorem ni{n t:Nat}{ds:List DV}(hu:P.underlying t=some .bool)(h:gk P n t ds): ∃b,ds= [.bool b]:=by
 cases n with
 |zero=>exact h.elim
 |succ n=>
  unfold gk at h;rw[hu]at h;exact h
theorem I0{n t:Nat}{ds:List DV}(hu:P.underlying t=some .string)(h:gk P n t ds): ∃s:List UInt8,ds= [.str s]∧s.length≤maxLen:=by
 cases n with
 |zero=>exact h.elim
 |succ n=>
  unfold gk at h;rw[hu]at h;exact h
theorem jd{α:Type}{n t e:Nat}{ds:List DV}{f:α→DV}{Q:α→Prop}(hu:P.underlying t=some (.slice e))(hf: ∀n ds,gk P n e ds→ ∃a,pS P e ds=f a∧Q a)(h:gk P n t ds):
 ∃l:List α,ds= [.slice (l.map f)]∧l.length≤maxLen∧ ∀a∈l,Q a:=by
 cases n with
 |zero=>exact h.elim
 |succ n=>
  unfold gk at h;rw[hu]at h;obtain⟨xs,rfl,hl,hx⟩:=h;have: ∃l:List α,xs=l.map f∧ ∀a∈l,Q a:=by
   clear hl
   induction xs with
   |nil=>exact⟨[],rfl,by simp⟩
   |cons x xs ih=>
    obtain⟨l,rfl,hq⟩:=ih fun y hy=>hx y (al _ hy)
    obtain⟨ds,hd,rfl⟩:=hx x List.mem_cons_self;obtain⟨a,ha,hqa⟩:=hf n ds hd;refine⟨a::l,by rw[ha];rfl,fun b hb=>?_⟩
    rcases List.mem_cons.1 hb with rfl|hb
    ·exact hqa
    ·exact hq b hb
  obtain⟨l,rfl,hq⟩:=this;exact⟨l,rfl,by simpa using hl,hq⟩
theorem oh{n t e:Nat}{ds:List DV}(hu:P.underlying t=some (.slice e))(he:P.underlying e=some (.int .u8))(h:gk P n t ds): ∃l:List UInt8,ds= [.slice (l.map cM)]∧l.length≤maxLen:=by
 obtain⟨l,h1,h2,_⟩:=jd (f:=cM) (Q:=fun _=>True) hu (fun n ds h=>by
  obtain⟨b,rfl⟩:=Fy he h;exact⟨b,by simp[pS,he],trivial⟩) h
 exact⟨l,h1,h2⟩
theorem yJ{n t e:Nat}{ds:List DV}(hu:P.underlying t=some (.slice e))(he:P.underlying e=some (.int .i64))(h:gk P n t ds): ∃l:List Int,ds= [.slice (l.map gM)]∧l.length≤maxLen∧ ∀i∈l,nH i:=by
 obtain⟨l,h1,h2,h3⟩:=jd (f:=gM) (Q:=nH) hu (fun n ds h=>by
  obtain⟨b,rfl,hb⟩:=eY he h;exact⟨b,by simp[pS,he],hb⟩) h
 exact⟨l,h1,h2,h3⟩
end
section
variable {P:Program} {tr:List Nat} {S:PS} {K:PS→Prop} {Q:PS→Prop} {l:List CO}
@[simp] theorem Tl{args:List PV}{i:Nat}:(PS.start args).t i=args.getD i .undef:=rfl
@[simp] theorem PX{args:List PV}{i:Nat}:(PS.start args).box i= []:=rfl
@[simp] theorem PW{args:List PV}{i:Nat}:(PS.start args).gen i=0:=rfl
@[simp] theorem Q6{args:List PV}:(PS.start args).fo=FO:=rfl
@[simp] theorem Q7{fo:Nat}{gl:Nat→Nat}{args:List PV}{pre:List iL}{i:Nat}:(PS.eZ fo gl args pre).t i=args.getD i .undef:=rfl
@[simp] theorem Om{fo:Nat}{gl:Nat→Nat}{args:List PV}{pre:List iL}{n:Nat}:(PS.eZ fo gl args pre).box n=BI pre n []:=Fw.symm
@[simp] theorem Ol{fo:Nat}{gl:Nat→Nat}{args:List PV}{pre:List iL}{n:Nat}:(PS.eZ fo gl args pre).gen n=BH pre n (gl n):=Fv.symm
@[simp] theorem PY{fo:Nat}{gl:Nat→Nat}{args:List PV}{pre:List iL}:(PS.eZ fo gl args pre).fo=fo:=rfl
@[simp] theorem Nt{fo:Nat}{gl:Nat→Nat}{args:List PV}{pre:List iL}{i j:Nat}:(PS.eZ fo gl args pre).own (.t i j)=false:=rfl
@[simp] theorem Nu{fo:Nat}{gl:Nat→Nat}{args:List PV}{pre:List iL}{n k:Nat}:(PS.eZ fo gl args pre).own (.b n k)=BG pre n k false:=Fu.symm
@[simp] theorem PU{args:List PV}{i:Loc}:(PS.start args).own i=false:=rfl
@[simp] theorem Pl{α:Type}{x d:α}{l:List α}:(x::l).getD 0 d=x:=rfl
@[simp] theorem Pk{α:Type}{x d:α}{l:List α}{n:Nat}:(x::l).getD (n+1) d=l.getD n d:=rfl
@[simp] theorem Rv{x:DV}:cW (.d x)=some ((cells x).map .d):=rfl
@[simp] theorem OO{n g o:Nat}:cW (.ptr n g o)=some [.ptr n g o]:=rfl
@[simp] theorem OP{n g o z:Nat}{a:Bool}:cW (.bsl n g o z a)=some [.bsl n g o z a]:=rfl
@[simp] theorem Qe{cs:List PV}:cW (.pa cs)=some cs:=rfl
@[simp] theorem ND{cs:List DV}:cW (.cptr cs)=some [.cptr cs]:=rfl
@[simp] theorem Qg{f:FuncId}:cW (.fn f [])=some [.d (.opq (.func (.func f) #[] #[]))]:=rfl
@[simp] theorem Qf{f:FuncId}{x:PV}{c:List PV}:cW (.fn f (x::c))=some [.fn f (x::c)]:=rfl
@[simp] theorem Qh{f:FuncId}{c:List DV}:cW (.bm f c)=some [.bm f c]:=rfl
@[simp] theorem Up{f:FuncId}{c:List PV}:K0 (.fn f c)=some (f,c):=rfl
@[simp] theorem Su{f:FuncId}:K0 (.d (.opq (.func (.func f) #[] #[])))=some (f,[]):=rfl
@[simp] theorem Tj:pc []=some []:=rfl
@[simp] theorem QX{x:DV}{r:List PV}:pc (.d x::r)=(pc r).map (x:: ·):=rfl
@[simp] theorem Tk{n g o z:Nat}{a:Bool}{r:List PV}:pc (.bsl n g o z a::r)=none:=rfl
@[simp] theorem Ti{n g o:Nat}{r:List PV}:pc (.ptr n g o::r)=none:=rfl
@[simp] theorem QW{c:List DV}{r:List PV}:pc (.cptr c::r)=none:=rfl
@[simp] theorem Wa{f:FuncId}{c r:List PV}:pc (.fn f c::r)=none:=rfl
@[simp] theorem St:kD S []=some ([],[]):=rfl
@[simp] theorem X0{x:DV}{r:List PV}:kD S (.d x::r)=(kD S r).map fun y=>(x::y.1,y.2):=by
 simp only[kD,pZ,Option.bind_some,List.nil_append]
@[simp] theorem X1{n g len sz:Nat}{ag:Bool}{r:List PV}:kD S (.bsl n g len sz ag::r)=(jN (S.gen n) (S.box n) g len sz ag).bind fun xs=>(kD S r).map fun y=>(.slice xs::y.1,n::y.2):=by
 simp only[kD,pZ,BO]
 cases jN (S.gen n) (S.box n) g len sz ag<;>rfl
attribute [simp] xM K5 R8 xi u9 Cc Kp jN over C9 YU HU
@[simp] theorem Ob(b:UInt8):IntKind.i64.wrap ((b.toNat:Nat):Int)=(b.toNat:Nat):=by have:=b.toNat_lt;exact kZ (by omega)
@[simp] theorem Nr:eE []=some []:=rfl
@[simp] theorem BN: ∀(l:List UInt8),eE (l.map cM)=some l
 | []=>rfl
 |b::l=>by
  simp only[List.map_cons,cM,eE,BN l,Option.map_some];simp
@[simp] theorem LO{n:Int}{r:List DV}:eE (.int .u8 n::r)=(eE r).map (UInt8.ofNat n.toNat:: ·):=rfl
def bld(P:Program)(f:Option (Nat×Nat))(x:Option (List PV))(cs:List PV)(k:List PV→Option (List PV)):Option (List PV):=
 match f,x with
 |some (off,ft),some vs=>if vs.length=cX P ft∧off+vs.length≤cs.length then k (cs.take off++vs++cs.drop (off+vs.length))else none
 |_,_=>none
@[simp] theorem abP{off ft:Nat}{vs cs:List PV}{k:List PV→Option (List PV)}:bld P (some (off,ft)) (some vs) cs k=if vs.length=cX P ft∧off+vs.length≤cs.length then k (cs.take off++vs++cs.drop (off+vs.length))else none:=rfl
@[simp] theorem S6{t i:Nat}{x:Operand}{r:List (Nat×Operand)}{cs:List PV}:gP P S t ((i,x)::r) cs=bld P (c_ P t i) (cW (S.ev x)) cs (gP P S t r):=by
 rw[gP]
 cases c_ P t i with
 |none=>rfl
 |some q=>
  obtain⟨off,ft⟩:=q
  cases cW (S.ev x)<;>rfl
def Vy(sz:Nat)(x:PV)(k:Option (List DV)):Option (List DV):=match x with| .d v=>if(cells v).length=sz then k.map (v:: ·)else none|_=>none
@[simp] theorem abt{sz:Nat}{v:DV}{k:Option (List DV)}:Vy sz (.d v) k=if(cells v).length=sz then k.map (v:: ·)else none:=rfl
@[simp] theorem SE{sz k i:Nat}{x:Operand}{r:List (Nat×Operand)}:fR S sz k ((i,x)::r)=if i=k then Vy sz (S.ev x) (fR S sz (k+1) r)else none:=by
 rw[fR]
 cases S.ev x with
 |d v=>
  simp only[Vy];by_cases h1:i=k
  ·by_cases h2:(cells v).length=sz<;>simp[h1,h2]
  ·by_cases h2:(cells v).length=sz<;>simp[h1]
 |_=>simp[Vy]
def Nf(P:Program)(t:Nat)(n:Nat):Bool:=match kP P t with|some e=>decide (n*cX P e≤16777216∧0<cX P e)&&(eQ P e).isSome|none=>false
def n5(P:Program)(t:Nat):Bool:=match kP P t with|some e=>decide (0<cX P e)&&(eQ P e).isSome|none=>false
@[simp] theorem Za{t n:Nat}:Nf P t n=(decide (n*mj P t≤16777216)&&n5 P t):=by
 unfold Nf n5 mj
 cases kP P t with
 |none=>simp
 |some e=>
  simp only;by_cases h1:n*cX P e≤16777216<;>by_cases h2:0<cX P e<;>simp[h1,h2]
@[simp] theorem LJ{t len:Nat}{ps:List (Nat×Operand)}:qm P S t len ps=if ps.length=len∧Nf P t len=true then(fR S (mj P t) 0 ps).map fun xs=>(.d (.slice xs),true)else none:=by
 unfold qm Nf mj
 cases kP P t with
 |none=>simp
 |some e=>
  simp only[Bool.and_eq_true,decide_eq_true_eq];by_cases h:ps.length=len∧len*cX P e≤16777216∧0<cX P e∧(eQ P e).isSome=true
  ·rw[if_pos h,if_pos ⟨h.1,⟨h.2.1,h.2.2.1⟩,h.2.2.2⟩]
  ·rw[if_neg h,if_neg (fun k=>h ⟨k.1,k.2.1.1,k.2.1.2,k.2.2⟩)]
@[simp] theorem Uf{c:List DV}:zC (.cptr c)=true:=rfl
@[simp] theorem Ue{c:DV}:zC (.d c)=true:=rfl
attribute [simp] N7 Uo II vo Ee xd s6 Ph Qv
@[simp] theorem YX{fo:Nat}{c:List DV}:E6 tr fo (.cptr c)=true:=rfl
@[simp] theorem YW{fo:Nat}{c:DV}:E6 tr fo (.d c)=true:=rfl
@[simp] theorem YV{fo n g k:Nat}:E6 tr fo (.ptr n g k)=zi tr fo n:=rfl
@[simp] theorem YY{fo n g l z:Nat}{a:Bool}:E6 tr fo (.bsl n g l z a)=zi tr fo n:=rfl
@[simp] theorem Y3{fo:Nat}{c:List DV}:Dc tr fo (.cptr c)=true:=rfl
@[simp] theorem Y2{fo:Nat}{c:DV}:Dc tr fo (.d c)=true:=rfl
@[simp] theorem Y1{fo n g k:Nat}:Dc tr fo (.ptr n g k)= !zi tr fo n:=rfl
@[simp] theorem Y4{fo n g l z:Nat}{a:Bool}:Dc tr fo (.bsl n g l z a)= !zi tr fo n:=rfl
attribute [simp] zi
@[simp] theorem MR{α:Type}[Inhabited α]{t:Nat}{gen:Nat→Nat}{box:Nat→List PV}{enc:α→DV}{xs:List α}{k:IntKind}{i:Int}(hs: ∀x,(cells (enc x)).length=mj P t)(hp:0<mj P t)(h0:0≤i)(h1:i<xs.length):
 fm P t gen box (.d (.slice (xs.map enc))) (.d (.int k i))=some (.cptr (cells (enc (nth xs i))),false):=by
 unfold mj at hs hp
 cases he:kP P t with
 |none=>rw[he]at hp;simp at hp
 |some e=>
  rw[he]at hs hp;exact xx he hs hp h0 h1
@[simp] theorem MS{t n g len sz:Nat}{ag:Bool}{gen:Nat→Nat}{box:Nat→List PV}{k:IntKind}{i:Int}(hs:mj P t=sz)(hsz:0<sz)(h0:0≤i)(h1:i<len)(hg:g=gen n)(hb:len*sz≤(box n).length):
 fm P t gen box (.bsl n g len sz ag) (.d (.int k i))=some (.ptr n g (i.toNat*sz),false):=by
 unfold mj at hs
 cases he:kP P t with
 |none=>rw[he]at hs;simp at hs;omega
 |some e=>
  rw[he]at hs;exact xy he hs h0 h1 hg hb
theorem tb{t:Nat}{gen:Nat→Nat}{box:Nat→List PV}{xs:List DV}{k:IntKind}{n:Nat}:fm P t gen box (.d (.slice xs)) (.d (.int k (n:Nat)))=
 (match kP P t,xs[n]? with|some e,some x=>if(cells x).length=cX P e∧0<cX P e then some (.cptr (cells x),false)else none|_,_=>none):=by
 unfold fm
 cases kP P t with
 |none=>rfl
 |some e=>
  simp only;by_cases h:n<xs.length
  ·rw[if_pos (by omega)]
   simp[List.getElem?_eq_getElem h]
  ·rw[if_neg (by omega),ar (by omega)]
def KJ(P:Program)(t:Nat)(x:Option DV):Option (PV×Bool):=match x with|some x=>if(cells x).length=mj P t∧0<mj P t then some (.cptr (cells x),false)else none|none=>none
@[simp] theorem XK{t:Nat}{x:DV}:KJ P t (some x)=if(cells x).length=mj P t∧0<mj P t then some (.cptr (cells x),false)else none:=rfl
theorem eK{t:Nat}{gen:Nat→Nat}{box:Nat→List PV}{xs:List DV}{k:IntKind}(n:Nat):fm P t gen box (.d (.slice xs)) (.d (.int k (n:Nat)))=KJ P t xs[n]? :=by
 rw[tb];unfold KJ mj
 cases kP P t with
 |none=>cases xs[n]? <;>simp
 |some e=>cases xs[n]? <;>rfl
@[simp] theorem MU{t:Nat}{gen:Nat→Nat}{box:Nat→List PV}{x:DV}{xs:List DV}{k:IntKind}:fm P t gen box (.d (.slice (x::xs))) (.d (.int k 0))=KJ P t (some x):=eK 0
@[simp] theorem MT{t:Nat}{gen:Nat→Nat}{box:Nat→List PV}{x y:DV}{xs:List DV}{k:IntKind}:fm P t gen box (.d (.slice (x::y::xs))) (.d (.int k 1))=KJ P t (some y):=eK 1
@[simp] theorem Sn{t:Nat}{s:List UInt8}{k:IntKind}{i:Int}(ht:P.underlying t=some .string)(h0:0≤i)(h1:i<s.length):Ba P t (.d (.str s)) (.d (.int k i))=some (.d (.int .u8 (nth s i).toNat),false):=ED ht h0 h1
end
section
variable {P:Program} {tr:List Nat} {S:PS} {K:PS→Prop} {Q:PS→Prop} {l:List CO}
theorem dB{α:Type}[Inhabited α]{l:List α}{i:Nat}(h:i<l.length):nth l (i:Int)=l[i]:=by
 simp[nth,List.getD_eq_getElem?_getD,List.getElem?_eq_getElem h]
@[simp] theorem Pg{k:IntKind}{n:Int}:fQ (.int k n)=false:=rfl
@[simp] theorem NV{b:Bool}:fQ (.bool b)=false:=rfl
@[simp] theorem Pe{b:ByteArray}:fQ (.string b)=false:=rfl
@[simp] theorem Pf:fQ (.slice none 0 0)=true:=rfl
@[simp] theorem Qa{x:DV}:fZ (.d x)=true:=rfl
@[simp] theorem Qb{x:List DV}:fZ (.cptr x)=true:=rfl
@[simp] theorem P_{f:FuncId}{cs:List PV}:fZ (.fn f cs)=cs.all vg:=rfl
@[simp] theorem Ud{a b:Array TypeId}{c:Bool}:pW (some (.func a b c))=true:=rfl
@[simp] theorem Qc{f:FuncId}{c:List DV}:fZ (.bm f c)=true:=rfl
@[simp] theorem Uq{x:DV}:vg (.d x)=true:=rfl
@[simp] theorem Ur{x:List DV}:vg (.cptr x)=true:=rfl
def vG(k:Nat)(x y:Option DV):Option Bool:=
 match k,x,y with
 |0,some (.int k a),some (.int k' b)=>if k=k' then some (decide (a=b))else none
 |1,some (.bool a),some (.bool b)=>some (a==b)
 |2,some (.str a),some (.str b)=>some (decide (a=b))
 |_,_,_=>none
@[simp] theorem YQ{k:IntKind}{a b:Int}:vG 0 (some (.int k a)) (some (.int k b))=some (decide (a=b)):=by simp[vG]
@[simp] theorem YR{a b:Bool}:vG 1 (some (.bool a)) (some (.bool b))=some (a==b):=rfl
@[simp] theorem YP{a b:List UInt8}:vG 2 (some (.str a)) (some (.str b))=some (decide (a=b)):=rfl
def xR:List (Nat×Nat)→List DV→List DV→Option Bool
 | [],_,_=>some true
 |(o,k)::r,xs,ys=>(vG k xs[o]? ys[o]?).bind fun b=>(xR r xs ys).map fun r=>b&&r
@[simp] theorem Vw{xs ys:List DV}:xR [] xs ys=some true:=rfl
@[simp] theorem SC{o k:Nat}{r:List (Nat×Nat)}{xs ys:List DV}:xR ((o,k)::r) xs ys=(vG k xs[o]? ys[o]?).bind fun b=>(xR r xs ys).map fun r=>b&&r:=rfl
def Gi:Option TypeDesc→Option Nat
 |some (.int _)=>some 0
 |some .bool=>some 1
 |some .string=>some 2
 |_=>none
def Lb(P:Program):List Field→Option (List (Nat×Nat))
 | []=>some []
 |f::fs=>if f.name= "_" then none else(Gi (P.underlying f.type)).bind fun k=>(Lb P fs).map ((f.offset,k):: ·)
def SB(P:Program)(f:Field):Option (List (Nat×Nat)):=
 match P.underlying f.type with
 |some (.struct gs)=>if P.stoodInHeld f.type=false∧0<cX P f.type then(Lb P gs.toList).bind fun ks=>if ks.all (fun q=>decide (q.1<cX P f.type))=true then some (ks.map fun q=>(f.offset+q.1,q.2))else none else none
 |u=>(Gi u).map fun k=> [(f.offset,k)]
def K_(P:Program):List Field→Option (List (Nat×Nat))
 | []=>some []
 |f::fs=>if f.name= "_" then none else(SB P f).bind fun l=>(K_ P fs).map (l++ ·)
def Pq(P:Program)(t:TypeId):Option (List (Nat×Nat)):=
 match P.underlying t with
 |some (.struct fs)=>if Pr P t then K_ P fs.toList else none
 |_=>none
theorem GA{xs ys:List DV}{b:List (Nat×Nat)}: ∀(a:List (Nat×Nat)),xR (a++b) xs ys=(xR a xs ys).bind fun r=>(xR b xs ys).map fun s=>r&&s
 | []=>by simp only[List.nil_append,xR];cases xR b xs ys<;>rfl
 |(o,k)::a=>by
  simp only[List.cons_append,xR,GA a]
  cases vG k xs[o]? ys[o]? with
  |none=>rfl
  |some v=>cases xR a xs ys with
   |none=>rfl
   |some r=>cases xR b xs ys with
    |none=>rfl
    |some s=>simp[Bool.and_assoc]
theorem La{xs ys:List DV}{off sz:Nat}: ∀(ks:List (Nat×Nat)),(∀q∈ks,q.1<sz)→xR ks ((xs.drop off).take sz) ((ys.drop off).take sz)=xR (ks.map fun q=>(off+q.1,q.2)) xs ys
 | [],_=>rfl
 |(o,k)::r,h=>by
  have h1:o<sz:=h _ List.mem_cons_self;simp only[List.map_cons,xR,La r (fun q hq=>h q (al _ hq)),ah,ak,if_pos h1]
theorem N1{k:IntKind}{a b:Option DV}:Pp (some (.int k)) a b=vG 0 a b:=by
 rcases a with _|(_|_|_|_|_|_)<;>rcases b with _|(_|_|_|_|_|_)<;>rfl
theorem N2{a b:Option DV}:Pp (some .bool) a b=vG 1 a b:=by
 rcases a with _|(_|_|_|_|_|_)<;>rcases b with _|(_|_|_|_|_|_)<;>rfl
theorem N0{a b:Option DV}:Pp (some .string) a b=vG 2 a b:=by
 rcases a with _|(_|_|_|_|_|_)<;>rcases b with _|(_|_|_|_|_|_)<;>rfl
theorem N4: ∀(fs:List Field) (ks:List (Nat×Nat)) (xs ys:List DV),Lb P fs=some ks→Pu P xs ys fs=xR ks xs ys
 | [],ks,xs,ys,h=>by simp[Lb]at h;subst h;rfl
 |f::fs,ks,xs,ys,h=>by
  simp only[Lb]at h
  split at h
  ·cases h
  ·rename_i hn;simp only[Option.bind_eq_some_iff,Option.map_eq_some_iff]at h;obtain⟨k,hk,r,hr,rfl⟩:=h;simp only[Pu,if_neg hn,xR,N4 fs r xs ys hr]
   congr 1
   unfold Gi at hk
   split at hk
   ·rename_i hu;cases hk;rw[hu];exact N1
   ·rename_i hu;cases hk;rw[hu];exact N2
   ·rename_i hu;cases hk;rw[hu];exact N0
   ·cases hk
theorem N3: ∀(fs:List Field) (ks:List (Nat×Nat)) (xs ys:List DV),K_ P fs=some ks→Pt P xs ys fs=xR ks xs ys
 | [],ks,xs,ys,h=>by simp[K_]at h;subst h;rfl
 |f::fs,ks,xs,ys,h=>by
  simp only[K_]at h
  split at h
  ·cases h
  ·rename_i hn;simp only[Option.bind_eq_some_iff,Option.map_eq_some_iff]at h;obtain⟨l,hl,r,hr,rfl⟩:=h;simp only[Pt,if_neg hn,GA,N3 fs r xs ys hr]
   congr 1
   unfold SB at hl;unfold Ps
   split at hl
   ·rename_i gs hu
    split at hl
    ·rename_i hc;simp only[Option.bind_eq_some_iff]at hl;obtain⟨q,hq,hl⟩:=hl
     split at hl
     ·rename_i ha
      cases hl
      rw[hu];simp only[if_pos hc,N4 gs.toList q _ _ hq];exact La q fun x hx=>of_decide_eq_true (List.all_eq_true.1 ha x hx)
     ·cases hl
    ·cases hl
   ·rename_i hns;simp only[Option.map_eq_some_iff]at hl;obtain⟨k,hk,rfl⟩:=hl;split
    ·rename_i gs hu;exact absurd hu (hns gs)
    ·unfold Gi at hk;have e: ∀v:Option Bool,v=xR [(f.offset,k)] xs ys↔v=vG k xs[f.offset]? ys[f.offset]? :=by
      intro v;simp only[xR]
      cases vG k xs[f.offset]? ys[f.offset]? <;>simp
     rw[e]
     split at hk
     ·rename_i hu;cases hk;rw[hu];exact N1
     ·rename_i hu;cases hk;rw[hu];exact N2
     ·rename_i hu;cases hk;rw[hu];exact N0
     ·cases hk
theorem SD{t:TypeId}{ks:List (Nat×Nat)}{xs ys:List DV}(h:Pq P t=some ks):N5 P t xs ys=xR ks xs ys:=by
 unfold Pq at h;unfold N5
 split at h
 ·rename_i fs hu
  split at h
  ·rename_i ho;rw[hu];simp only[if_pos ho];exact N3 fs.toList ks xs ys h
  ·cases h
 ·cases h
def M7(P:Program)(t:TypeId)(xs ys:List DV)(q:Option (List (Nat×Nat))):Option Bool:=match q with|some ks=>xR ks xs ys|none=>N5 P t xs ys
@[simp] theorem YS{t:TypeId}{xs ys:List DV}{ks:List (Nat×Nat)}:M7 P t xs ys (some ks)=xR ks xs ys:=rfl
theorem Pv{t:TypeId}{xs ys:List DV}:N5 P t xs ys=M7 P t xs ys (Pq P t):=by
 unfold M7
 cases h:Pq P t with
 |none=>rfl
 |some ks=>exact SD h
def S8(b:Bool):PV:= .d (.bool b)
@[simp] theorem S7{b:Bool}:S8 b= .d (.bool b):=rfl
def Oa(b:Bool):PV:= .d (.bool (!b))
@[simp] theorem S9{b:Bool}:Oa b= .d (.bool (!b)):=rfl
@[simp] theorem TI{t:TypeId}{a b:List DV}:dT P .neq t (.d (.agg a)) (.d (.agg b))=(M7 P t a b (Pq P t)).map Oa:=by rw[←Pv];rfl
theorem least{p:Nat→Prop}: ∀n,p n→ ∃m,p m∧ ∀k,p k→m≤k:=by
 intro n
 induction n using Nat.strongRecOn with
 |ind n ih=>
  intro h;by_cases hk: ∃k,k<n∧p k
  ·obtain⟨k,hlt,hp⟩:=hk;exact ih k hlt hp
  ·exact⟨n,h,fun k hp=>Nat.le_of_not_lt fun hlt=>hk ⟨k,hlt,hp⟩⟩
theorem sC{Q Q':PS→Prop}(h: ∀S,Q S→Q' S): ∀ {l:List CO} {S:PS},uQ P tr l Q S→uQ P tr l Q' S
 | [],S,hr=>h S hr
 |c::l,S,hr=>by
  unfold uQ at hr⊢
  cases hg:c.g with
  |none=>
   rw[hg]at hr;exact wR (fun S=>sC h) hr
  |some q=>
   obtain⟨j,w⟩:=q;rw[hg]at hr;simp only at hr⊢
   split at hr
   ·rename_i hc;rw[if_pos hc];exact wR (fun S=>sC h) hr
   ·rename_i hc;rw[if_neg hc];exact sC h hr
theorem wK{c:CC}: ∀ {Q Q':Exit→PS→Prop} {S:PS},(∀e S,Q e S→Q' e S)→oA P tr c Q S→oA P tr c Q' S:=by
 induction c with
 |skip=>intro Q Q' S h hc;exact h _ _ hc
 |reg l=>intro Q Q' S h hc;exact sC (fun S=>h _ S) hc
 |seq a b iha ihb=>
  intro Q Q' S h hc;refine iha (fun e S' hS=>?_) hc
  cases e with
  |normal=>exact ihb h hS
  |_=>exact h _ _ hS
 |cond c a b iha ihb=>
  intro Q Q' S h hc;simp only[oA]at hc⊢
  split at hc
  ·rename_i t ht
   split at hc
   ·rename_i hh;rw[if_pos hh];exact iha h hc
   ·rename_i hh;rw[if_neg hh];exact ihb h hc
  ·exact hc.elim
 |block id c ih=>
  intro Q Q' S h hc;refine ih (fun e S' hS=>?_) hc
  cases e with
  |exit j=>
   simp only[Fi]at hS⊢
   split at hS
   ·rename_i hh;rw[if_pos hh];exact h _ _ hS
   ·rename_i hh;rw[if_neg hh];exact h _ _ hS
  |_=>exact h _ _ hS
 |loop c ih=>
  intro Q Q' S h hc;obtain⟨I,μ,h0,hs⟩:=hc;refine⟨I,μ,h0,fun S1 h1=>ih (fun e S' hS=>?_) (hs S1 h1)⟩
  cases e with
  |normal=>exact hS
  |_=>exact h _ _ hS
 |exit i=>intro Q Q' S h hc;exact h _ _ hc
 |ret=>intro Q Q' S h hc;exact h _ _ hc
 |bad=>intro Q Q' S h hc;exact hc
theorem OS{α:Type}{c:Prop}[Decidable c]{x:α}(h:c):(if c then some x else none)=some x:=if_pos h
theorem SJ{c:Prop}[Decidable c](h:c):decide c=true:=decide_eq_true h
theorem SK{c:Prop}[Decidable c](h: ¬c):decide c=false:=decide_eq_false h
def W7{α:Type}(I:α→PS→Prop)(μ:α→Nat)(a:α)(S:PS):Prop:= ∃a',I a' S∧μ a'<μ a
theorem cE{α:Type}{I:α→PS→Prop}{μ:α→Nat}{a:α}{S:PS}(a':α)(h:I a' S)(hm:μ a'<μ a):W7 I μ a S:=⟨a',h,hm⟩
theorem lp{α:Type}{c:CC}{Q:Exit→PS→Prop}(I:α→PS→Prop)(μ:α→Nat)(a0:α)(h0:I a0 S)
 (hs: ∀a S,I a S→oA P tr c (yy P (W7 I μ a) Q) S):oA P tr (.loop c) Q S:=by
 have hm: ∀(k k':PS→Prop),(∀S,k S→k' S)→ ∀S,oA P tr c (yy P k Q) S→oA P tr c (yy P k' Q) S:=by
  intro k k' hk S h;refine wK (fun e S' hS=>?_) h
  cases e with
  |normal=>exact hk _ hS
  |_=>exact hS
 have hmin: ∀S,(∃a,I a S)→ ∃m,(∃a,I a S∧μ a=m)∧ ∀k,(∃a,I a S∧μ a=k)→m≤k:=fun S ⟨a,ha⟩=>least (p:=fun m=> ∃a,I a S∧μ a=m) (μ a) ⟨a,ha,rfl⟩
 have dec: ∀p:Prop,Decidable p:=Classical.propDecidable
 let ν:PS→Nat:=fun S=>if h: ∃a,I a S then Classical.choose (hmin S h)else 0
 have hν: ∀S,(∃a,I a S)→(∃a,I a S∧μ a=ν S)∧ ∀a,I a S→ν S≤μ a:=by
  intro S h;have:=Classical.choose_spec (hmin S h);simp only[ν,dif_pos h];exact⟨this.1,fun a ha=>this.2 _ ⟨a,ha,rfl⟩⟩
 refine⟨fun S=> ∃a,I a S,ν,⟨a0,h0⟩,fun S1 h1=>?_⟩
 obtain⟨⟨a,ha,hμ⟩,_⟩:=hν S1 h1;refine hm _ _ (fun S' hS'=>?_) S1 (hs a S1 ha)
 obtain⟨a',ha',hlt⟩:=hS';exact⟨⟨a',ha'⟩,Nat.lt_of_le_of_lt ((hν S' ⟨a',ha'⟩).2 a' ha') (hμ▸hlt)⟩
theorem oc{d:Nat}{f:FuncId}{caps:List PV}{x:Operand}{args:List Operand}{ts:Array TypeId}{r:PV}{ro:Nat→Bool}{as:List PV}(hH:cD P f as r ro)(hK:K (S.cl d r ro))(hx:yE (S.ev x) args.isEmpty=some (f,caps):=by exact rfl)(ha:args.map S.ev++caps=as:=by exact rfl)(hf:as.all fZ=true:=by exact rfl)(hc:tr.contains (d+40000)=false:=by exact rfl):
 ow P tr (some d) (.call ⟨.value x,⟨args⟩,ts⟩) S K:=JZ hx ha hH hf hc hK
def Gk(I:PS→Prop)(e:Exit)(S:PS):Prop:=e= .normal∧I S
@[simp] theorem Ua{I:PS→Prop}:Gk I .normal S=I S:=by simp[Gk]
theorem qh{t:Bool}{a b:CC}{Q:Exit→PS→Prop}(I:PS→Prop)(h1:t=true→oA P tr a (Gk I) S)(h2:t=false→oA P tr b (Gk I) S)(h: ∀S',I S'→Q .normal S'):Tc P tr (.d (.bool t)) a b Q S:=
 dm (fun e=>wK (fun _ S' ⟨he,hI⟩=>he▸h S' hI) (h1 e)) (fun e=>wK (fun _ S' ⟨he,hI⟩=>he▸h S' hI) (h2 e))
@[simp] theorem FA{xs:List DV}:pc (xs.map PV.d)=some xs:=by
 induction xs with
 |nil=>rfl
 |cons x xs ih=>simp[ih]
@[simp] theorem V_{α:Type}{f:α→DV}{xs:List α}:pc (xs.map (PV.d∘f))=some (xs.map f):=by
 rw[←List.map_map];exact FA
@[simp] theorem VC{n:Nat}{xs:List DV}(h:xs.length=n):chunk 1 false n xs=xs:=by
 subst h
 induction xs with
 |nil=>rfl
 |cons x xs ih=>simp[chunk,ih]
def M4(o:Option (List (PV×Bool)))(ns:List Nat)(r:PV)(ro:Nat→Bool):Prop:= ∃l,o=some l∧r=pack l∧ns.Nodup∧ ∀j,ro j=true→(l.getD j (.any,false)).2=true
@[simp] theorem QC{l:List (PV×Bool)}{ns:List Nat}{r:PV}{ro:Nat→Bool}:M4 (some l) ns r ro=(r=pack l∧ns.Nodup∧ ∀j,ro j=true→(l.getD j (.any,false)).2=true):=by
 simp[M4]
@[simp] theorem Rg{rs:List ResultVar}{r:PV}{ro:Nat→Bool}:G_ P rs r ro .ret S=M4 (jS P S rs) (fP S rs) r ro:=rfl
@[simp] theorem WA{rs:List ResultVar}{r:PV}{ro:Nat→Bool}:G_ P rs r ro .normal S=M4 (jS P S rs) (fP S rs) r ro:=rfl
@[simp] theorem WB{rs:List ResultVar}{r:PV}{ro:Nat→Bool}{i:Nat}:G_ P rs r ro (.exit i) S=False:=rfl
@[simp] theorem OC:jS P S []=some []:=rfl
@[simp] theorem Ny{x:ResultVar}{rs:List ResultVar}:jS P S (x::rs)=(sE P S x).bind fun x=>(jS P S rs).map (x:: ·):=rfl
def KU(S:PS)(r:PV):Option DV:=(nM S r).map fun x=>x.1
@[simp] theorem XZ{x:DV}:KU S (.d x)=some x:=rfl
@[simp] theorem XY{cs:List PV}:KU S (.pa cs)=(kD S cs).map fun x=> .agg x.1:=by
 simp only[KU,nM]
 cases kD S cs<;>rfl
@[simp] theorem OB{a t:Nat}:sE P S (.cell a t)=(xi P S.gen S.box t (S.t a)).bind fun r=>(KU S r).map fun x=>(.d x,false):=by
 simp only[sE,Cu,KU]
 cases xi P S.gen S.box t (S.t a)with
 |none=>rfl
 |some r=>
  simp only[Option.bind_some]
  cases nM S r<;>rfl
def DK(S:PS)(x:PV)(o:Bool):Option (PV×Bool):=
 match x with
 | .d x=>some (.d x,o&&kM (.d x))
 | .cptr c=>some (.cptr c,false)
 | .fn f []=>some (.fn f [],false)
 | .bsl n g len sz ag=>(jN (S.gen n) (S.box n) g len sz ag).map fun xs=>(.d (.slice xs),decide (0<len∧(S.box n).length=len*sz))
 | .pa cs=>(kD S cs).map fun x=>(.d (.agg x.1),false)
 |_=>none
@[simp] theorem WH{x:DV}{o:Bool}:DK S (.d x) o=some (.d x,o&&kM (.d x)):=rfl
@[simp] theorem WI{x:List DV}{o:Bool}:DK S (.cptr x) o=some (.cptr x,false):=rfl
@[simp] theorem WG{f:FuncId}{o:Bool}:DK S (.fn f []) o=some (.fn f [],false):=rfl
@[simp] theorem WJ{n g len sz:Nat}{ag:Bool}{o:Bool}:DK S (.bsl n g len sz ag) o=(jN (S.gen n) (S.box n) g len sz ag).map fun xs=>(.d (.slice xs),decide (0<len∧(S.box n).length=len*sz)):=rfl
@[simp] theorem WE{cs:List PV}{o:Bool}:DK S (.pa cs) o=(kD S cs).map fun x=>(.d (.agg x.1),false):=rfl
@[simp] theorem P6{t:Nat}:sE P S (.tmp t)=DK S (S.t t) (S.own (.t t 0)):=by
 simp only[sE,DK]
 cases S.t t with
 |fn f c=>cases c<;>rfl
 |_=>rfl
def DD(x:PV)(l:List Nat):List Nat:=match x with| .bsl n _ _ _ _=>n::l|_=>l
@[simp] theorem Wj{x:DV}{l:List Nat}:DD (.d x) l=l:=rfl
@[simp] theorem Wk{x:List DV}{l:List Nat}:DD (.cptr x) l=l:=rfl
@[simp] theorem Wi{f:FuncId}{c:List PV}{l:List Nat}:DD (.fn f c) l=l:=rfl
@[simp] theorem Wh{c:List PV}{l:List Nat}:DD (.pa c) l=l:=rfl
@[simp] theorem Wl{n g len sz:Nat}{ag:Bool}{l:List Nat}:DD (.bsl n g len sz ag) l=n::l:=rfl
@[simp] theorem Ot:fP S []= []:=rfl
@[simp] theorem Oq{t:Nat}{l:List ResultVar}:fP S (.tmp t::l)=DD (S.t t) (fP S l):=by
 simp only[fP,DD]<;>cases S.t t<;>rfl
@[simp] theorem Nv{a t:Nat}{l:List ResultVar}:fP S (.cell a t::l)=fP S l:=rfl
@[simp] theorem WV{x:PV×Bool}:pack [x]=x.1:=rfl
@[simp] theorem WU{x y:PV×Bool}{l:List (PV×Bool)}:pack (x::y::l)= .tup (x.1::y.1::l.map (·.1)):=rfl
@[simp] theorem WW:pack []= .tup []:=rfl
def rJ(S:PS)(post:List iL):Prop:= ∀u∈post,S.gen u.n=u.g∧S.box u.n=u.c∧ ∀k,u.o k=true→S.own (.b u.n k)=true
@[simp] theorem OK:rJ S []:=by simp[rJ]
@[simp] theorem NC{u:iL}{l:List iL}:rJ S (u::l)↔(S.gen u.n=u.g∧S.box u.n=u.c∧ ∀k,u.o k=true→S.own (.b u.n k)=true)∧rJ S l:=by
 simp[rJ]
def M5(o:Option (List (PV×Bool)))(r:PV)(ro:Nat→Bool):Prop:= ∃l,o=some l∧r=pack l∧ ∀j,ro j=true→(l.getD j (.any,false)).2=true
@[simp] theorem QD{l:List (PV×Bool)}{r:PV}{ro:Nat→Bool}:M5 (some l) r ro=(r=pack l∧ ∀j,ro j=true→(l.getD j (.any,false)).2=true):=by
 simp[M5]
@[simp] theorem Rh{rs:List ResultVar}{r:PV}{ro:Nat→Bool}{post:List iL}:Ha P rs r ro post .ret S=(M5 (jb P S rs) r ro∧rJ S post):=rfl
@[simp] theorem WC{rs:List ResultVar}{r:PV}{ro:Nat→Bool}{post:List iL}:Ha P rs r ro post .normal S=(M5 (jb P S rs) r ro∧rJ S post):=rfl
@[simp] theorem WD{rs:List ResultVar}{r:PV}{ro:Nat→Bool}{post:List iL}{i:Nat}:Ha P rs r ro post (.exit i) S=False:=rfl
@[simp] theorem Nz:jb P S []=some []:=rfl
@[simp] theorem L4{x:ResultVar}{rs:List ResultVar}:jb P S (x::rs)=(AE P S x).bind fun x=>(jb P S rs).map (x:: ·):=rfl
def oW(p:PV)(o:Bool):Option (PV×Bool):=match p with| .tup _=>none|p=>some (p,o&&kM p)
@[simp] theorem Tv{x:DV}{o:Bool}:oW (.d x) o=some (.d x,o&&kM (.d x)):=rfl
@[simp] theorem Tu{x:List PV}{o:Bool}:oW (.pa x) o=some (.pa x,false):=by simp[oW,kM]
@[simp] theorem Tw{x:List DV}{o:Bool}:oW (.cptr x) o=some (.cptr x,false):=by simp[oW,kM]
@[simp] theorem Tt{n g k:Nat}{o:Bool}:oW (.ptr n g k) o=some (.ptr n g k,false):=by simp[oW,kM]
@[simp] theorem Tx{n g len sz:Nat}{ag o:Bool}:oW (.bsl n g len sz ag) o=some (.bsl n g len sz ag,false):=by simp[oW,kM]
@[simp] theorem Rj{t:Nat}:AE P S (.tmp t)=oW (S.t t) (S.own (.t t 0)):=by
 simp only[AE,oW]<;>cases S.t t<;>rfl
@[simp] theorem P7{a t:Nat}:AE P S (.cell a t)=(xi P S.gen S.box t (S.t a)).bind fun p=>oW p false:=by
 simp only[AE,Cu]
 cases xi P S.gen S.box t (S.t a)with
 |none=>rfl
 |some p=>cases p<;>rfl
end
theorem dd{p:Prop}(h:p:=by first|omega|(simp-implicitDefEqProofs<;>omega)|(simp-implicitDefEqProofs [*]<;>omega)):p:=h
theorem cB:(∀ {α β:Type} {f:α→β} {l:List α} {i:Nat},(l.map f).take i=(l.take i).map f)∧(∀ {α β:Type} {f:α→β} {l:List α} {i:Nat},(l.map f).drop i=(l.drop i).map f)∧
 (∀ {n:Int}, -9223372036854775808≤n∧n≤9223372036854775807→IntKind.i64.wrap n=n)∧(∀ {α:Type} [Inhabited α] {l:List α} {i:Nat} (h:i<l.length),nth l (i:Int)=l[i])∧
 (∀ {α:Type} {c:Prop} [Decidable c] {x:α},c→(if c then some x else none)=some x)∧(∀ {c:Prop} [Decidable c],c→decide c=true)∧(∀ {c:Prop} [Decidable c],¬c→decide c=false):=
 ⟨HJ,HK,kZ,dB,OS,SJ,SK⟩
theorem dQ:(∀ {p:Prop} [Decidable p],(decide p=true)=p)∧(∀ {p:Prop} [Decidable p],(decide p=false)= ¬p)∧(∀ {a b:Bool},((a&&b)=true)=(a=true∧b=true))∧(∀ {a b:Bool},((a||b)=true)=(a=true∨b=true))∧
 (∀ {a:Bool},((!a)=true)=(a=false))∧(∀ {a:Bool},((!a)=false)=(a=true))∧(∀ {a b:Bool},((a||b)=false)=(a=false∧b=false))∧(∀ {a b:Bool},((a&&b)=false)=(a=false∨b=false)):=
 ⟨decide_eq_true_eq,by simp,by simp,by simp,by simp,by simp,by simp,by simp⟩
section
variable {P:Program}
theorem cD.bi{f:FuncId}{fn:Func}{c:Code}{cc:CC}(hf:P.funcs[f]? =some fn)(tr:List Nat){args:List PV}{r:PV}{ro:Nat→Bool}(h:oA P tr cc (G_ P fn.results.toList r ro) (PS.start args))
 (hm:P.follows .mixedOrders=true:=by kernel_rfl) (hname:(fn.name== "runtime.NumGoroutine")=false:=by kernel_rfl) (hb:fn.body=some c:=by exact rfl) (hcc:Df c=cc:=by conv=>lhs;cbv) (hargs:args.length≤fn.ntmps:=by simp) (hok:fx fn.ntmps tr c=true:=by kernel_rfl)
 (hres:uT fn.results.toList=true:=by kernel_rfl) (hfree:fZ r=true:=by exact rfl):cD P f args r ro:=cD.by hm hf hname hb tr hargs hok hres hfree (hcc▸h)
theorem de.bi{f:FuncId}{fn:Func}{c:Code}{cc:CC}(hf:P.funcs[f]? =some fn)(tr:List Nat){fo:Nat}{gl:Nat→Nat}{args:List PV}{pre post:List iL}{r:PV}{ro:Nat→Bool}
 (hnr:cH (post.map (·.n)) r=true) (hpn: ∀u∈post,cS (post.map (·.n)) u.c=true∧0<u.g) (hpre: ∀u∈pre,u.n∈post.map (·.n)) (h:oA P tr cc (Ha P fn.results.toList r ro post) (PS.eZ fo gl args pre))
 (hm:P.follows .mixedOrders=true:=by kernel_rfl) (hname:(fn.name== "runtime.NumGoroutine")=false:=by kernel_rfl) (hb:fn.body=some c:=by exact rfl) (hcc:Df c=cc:=by conv=>lhs;cbv) (hargs:args.length≤fn.ntmps:=by simp) (hok:fx fn.ntmps tr c=true:=by kernel_rfl)
 (hres:uT fn.results.toList=true:=by kernel_rfl):de P fo gl f args pre r ro post:=de.by hm hf hname hb tr hargs hok hres hnr hpn hpre (hcc▸h)
end
end BoEng
