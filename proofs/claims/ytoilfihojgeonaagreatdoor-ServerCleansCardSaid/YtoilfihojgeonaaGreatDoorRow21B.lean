/- The rows of chapter 21: each law answers true for every input, and leaves its arguments as they were. -/
import Derived.Test.YtoilfihojgeonaaGreatDoorRows
import Derived.Test.YtoilfihojgeonaaGreatDoorS19
import Derived.Test.YtoilfihojgeonaaGreatDoorS20
import Derived.WalkKit
import Derived.ProofKit
import Derived.OpenShut
import Derived.ShutString
import Derived.ChangeOld
import Derived.Below
import Derived.Test.YtoilfihojgeonaaGreatDoorTie
import Derived.Test.YtoilfihojgeonaaGreatDoorCards
import Derived.ChangeSame
import Derived.ChangeVars
import Derived.JoinedOf
import Derived.LaidLaws
import Derived.LaidHandle
import Derived.SevenTiedAt
namespace Go.Proofs.YtoilfihojgeonaaGreatDoor
open BoEng Go Go.RowKit Go.ChangeShapes Go.WideShapes Go.ChangeAt
set_option maxRecDepth 100000
set_option maxHeartbeats 20000000
set_option linter.unusedVariables false
theorem own:ownKnob Tryz.prog.godebug=none:=by as_aux_lemma=>kernel_rfl
theorem laidOut:laidOutB Tryz.prog=true:=by as_aux_lemma=>kernel_rfl
theorem oT{n:Nat}{x:DV}(h:rC Tryz.prog n 4 x): ∃i:Bool,x= .bool i∧True:=by
 obtain⟨ds,h,rfl⟩:=h;obtain⟨i,rfl⟩:=ni IX h;exact⟨i,by simp[pS],trivial⟩
namespace serverCleans
theorem lifted(os:Os)(started:os.Started)(H:Type)(enc:TypeId×Value→H):
 ReturnsInHanded {} Tryz.checked os 8 .any (fun w args=>(Rows.serverCleansSpec.pre enc Tryz.prog Tryz.f8 Rows.serverCleansRow.domain false w args∧laidMetH Tryz.prog jE w)∧sizedMet enc Tryz.prog Tryz.f8 (OpenSpec.ofChange Rows.serverCleansSpec) false w args)
  (Rows.serverCleansSpec.post enc Tryz.prog Tryz.f8 false true false false):=by
 refine returnsInHanded_of_change_and (C:=Tryz.checked) (X:=fun w _=>laidMetH Tryz.prog jE w) (fun _ _ _ hh h=>h.of_heap hh) own started (by as_aux_lemma=>kernel_rfl) Tryz.func8
  (ChangeSpec.witness_at (enc:=enc) (C:=Tryz.checked) (os:=os) (X:=fun w _=>laidMetH Tryz.prog jE w) false (lD os) #[.agg #[.int .i64 0,.int .i64 0,.slice none 0 0],.slice none 0 0,.int .u8 0,.slice none 0 0,.bool false] 8 rfl (by as_aux_lemma=>kernel_rfl) (by as_aux_lemma=>kernel_rfl) (by as_aux_lemma=>kernel_rfl) (by as_aux_lemma=>kernel_rfl) (by as_aux_lemma=>kernel_rfl) (iY os _)) ?_
 intro W base args ds gs before hval0 hW hcnd _ hL _;have hval: ∀(j:Nat) t v,Tryz.f8.params[j]? =some t→args[j]? =some v→Value.okWide Tryz.prog W .any base t v:=hval0;have hW':=hW;obtain⟨p,q,hA0,hV,rfl,hfz,hnd⟩:=hW;have hA:DataW.TrodAll enc Tryz.prog W 0 (fun _=>true) true Tryz.f8.params.toList args.toList ds p:=hA0
 rw[Tryz.params8]at hA hval;obtain⟨a0,as0,d0,ds0,p0,q0,hargs,rfl,rfl,h0,r0⟩:=trodAll_cons hA;obtain⟨a1,QO,d1,ds1,p1,q1,rfl,rfl,rfl,h1,r1⟩:=trodAll_cons r0;obtain⟨a2,QN,d2,ds2,p2,q2,rfl,rfl,rfl,h2,r2⟩:=trodAll_cons r1;obtain⟨a3,QM,d3,ds3,p3,q3,rfl,rfl,rfl,h3,r3⟩:=trodAll_cons r2;obtain⟨a4,as4,d4,ds4,p4,q4,rfl,rfl,rfl,h4,r4⟩:=trodAll_cons r3;obtain⟨rfl,rfl,rfl⟩:=trodAll_nil r4;obtain rfl:args= #[a0,a1,a2,a3,a4]:=by cases args;simp_all
 obtain⟨rfl,rfl⟩:=trodVars_none hV;obtain⟨x0,t0,e0⟩:=e_ (n:=8) (by as_aux_lemma=>kernel_rfl) (hval 0 24 a0 rfl rfl) h0
 obtain⟨x1,t1,e1⟩:=e_ (n:=8) (by as_aux_lemma=>kernel_rfl) (hval 1 25 a1 rfl rfl) h1
 obtain⟨x2,t2,e2⟩:=e_ (n:=8) (by as_aux_lemma=>kernel_rfl) (hval 2 5 a2 rfl rfl) h2
 obtain⟨x3,t3,e3⟩:=e_ (n:=8) (by as_aux_lemma=>kernel_rfl) (hval 3 49 a3 rfl rfl) h3
 obtain⟨x4,t4,e4⟩:=e_ (n:=8) (by as_aux_lemma=>kernel_rfl) (hval 4 4 a4 rfl rfl) h4
 obtain⟨v0,rfl,k0⟩:=yc t0;obtain⟨v1,rfl,k1⟩:=xQ t1;obtain⟨v2,rfl,k2⟩:=zS t2;obtain⟨v3,rfl,k3⟩:=qY t3;obtain⟨v4,rfl,k4⟩:=oT t4;have lt0: ∀x∈p0,x.block<W.heap.size:=by obtain⟨m,hm⟩:=h0;exact av m _ _ _ hm
 have lt1: ∀x∈p1,x.block<W.heap.size:=by obtain⟨m,hm⟩:=h1;exact av m _ _ _ hm
 have lt2: ∀x∈p2,x.block<W.heap.size:=by obtain⟨m,hm⟩:=h2;exact av m _ _ _ hm
 have lt3: ∀x∈p3,x.block<W.heap.size:=by obtain⟨m,hm⟩:=h3;exact av m _ _ _ hm
 have lt4: ∀x∈p4,x.block<W.heap.size:=by obtain⟨m,hm⟩:=h4;exact av m _ _ _ hm
 refine(cD.walk (args:= [v0.d,(.slice (v1.map lq.d)),(cM v2),(.slice (v3.map gM)),(.bool v4)]) (Cx v0 v1 v2 v3 v4 k1 k3) (vs:= #[a0,a1,a2,a3,a4]) (w:=W) rfl (sZ hL) ?_).mono fun e W' ⟨he,bel⟩=>?_
 ·intro i v p hv hp
  match i,hv,hp with
  |0,hv,hp=>cases hv;cases hp;exact e0
  |1,hv,hp=>cases hv;cases hp;exact e1
  |2,hv,hp=>cases hv;cases hp;exact e2
  |3,hv,hp=>cases hv;cases hp;exact e3
  |4,hv,hp=>cases hv;cases hp;exact e4
  |n+5,hv,hp=>simp at hp
 subst he;exact⟨_,rfl,_,_,_,[],_,[],hW',trodAll_mk1 (shut_bool Tryz.underlying4 _),(trodAll_cons_mk (aD laidOut (by as_aux_lemma=>kernel_rfl) (of_decide_eq_true (by as_aux_lemma=>kernel_rfl)) h0 bel lt0) (trodAll_cons_mk (aD laidOut (by as_aux_lemma=>kernel_rfl) (of_decide_eq_true (by as_aux_lemma=>kernel_rfl)) h1 bel lt1) (trodAll_cons_mk (aD laidOut (by as_aux_lemma=>kernel_rfl) (of_decide_eq_true (by as_aux_lemma=>kernel_rfl)) h2 bel lt2) (trodAll_cons_mk (aD laidOut (by as_aux_lemma=>kernel_rfl) (of_decide_eq_true (by as_aux_lemma=>kernel_rfl)) h3 bel lt3) (trodAll_cons_mk (aD laidOut (by as_aux_lemma=>kernel_rfl) (of_decide_eq_true (by as_aux_lemma=>kernel_rfl)) h4 bel lt4) trodAll_mk0))))),rfl,bel.frame _,fun h=>by cases h⟩
theorem facts:joinedFacts Tryz.pinned.checked.prog 8 Tryz.f8 Rows.serverCleansSpec Rows.serverCleansRow=true:=by
 unfold joinedFacts
 repeat' (with_reducible refine aq.2 ⟨?_,?_⟩)
 all_goals (as_aux_lemma=>kernel_rfl)
theorem named:Tryz.pinned.checked.prog.funcNamed Rows.serverCleansRow.func=some 8:=by kernel_rfl
theorem over:Rows.serverCleansRow.holds Tryz.pinned (OpenSpec.ofChange Rows.serverCleansSpec):=
 OpenClaim.holds_of_wide 8 Tryz.f8 rfl rfl rfl rfl rfl rfl rfl ⟨rfl,rfl,rfl,rfl,rfl⟩ rfl rfl rfl rfl rfl named Tryz.func8 facts
  (of_decide_eq_true (by as_aux_lemma=>kernel_rfl)) (by unfold Func.isWrapper;first|(rw[if_pos (by decide+kernel)];(as_aux_lemma=>kernel_rfl))|(rw[if_neg (by decide+kernel)];exact⟨rfl,rfl⟩))
  (fun os started H enc _=>lifted os started H enc)
theorem proved:Rows.ServerCleansCardSaid:=
 Claim7.holds_tied_plain_at .later [] [.handle,.data] true (true, "0a8a67cfa6d0af14f5760f6e1313ca667ba70e888b96495b760ecdfcc214a679") true
  over (fun _ h=>by cases h) (by as_aux_lemma=>kernel_rfl) (fun _ h=>by cases h) serverCleans_row_tie rfl ⟨rfl,rfl⟩ (by as_aux_lemma=>kernel_rfl) rfl
  (fun f fn hf hfn=>by
   obtain rfl:f=8:=au ((show Tryz.prog.funcNamed "boarder/boarderlaw21.ServerCleans" =some 8 by as_aux_lemma=>kernel_rfl).symm.trans hf) |>.symm
   obtain rfl:fn=Tryz.f8:=(au (Tryz.func8.symm.trans hfn)).symm;exact⟨by as_aux_lemma=>kernel_rfl,fun j t ht=>by
    rw[Tryz.params8]at ht
    match j,ht with
    |0,ht=>cases ht;exact(show Tryz.prog.wantsStandIn 24=false by as_aux_lemma=>kernel_rfl)
    |1,ht=>cases ht;exact(show Tryz.prog.wantsStandIn 25=false by as_aux_lemma=>kernel_rfl)
    |2,ht=>cases ht;exact(show Tryz.prog.wantsStandIn 5=false by as_aux_lemma=>kernel_rfl)
    |3,ht=>cases ht;exact(show Tryz.prog.wantsStandIn 49=false by as_aux_lemma=>kernel_rfl)
    |4,ht=>cases ht;exact(show Tryz.prog.wantsStandIn 4=false by as_aux_lemma=>kernel_rfl)
    |n+5,ht=>simp at ht⟩)
  (by as_aux_lemma=>kernel_rfl)
end serverCleans
theorem serverCleansCard_holds:Rows.ServerCleansCardSaid:=serverCleans.proved
#print axioms serverCleansCard_holds
end Go.Proofs.YtoilfihojgeonaaGreatDoor
