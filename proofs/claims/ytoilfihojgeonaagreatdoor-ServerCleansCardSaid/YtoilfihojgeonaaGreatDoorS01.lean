/- The engine, texts A to M. -/
import Derived.Calls
import Derived.Orders
import Derived.WalkKit
import Derived.Below
import Derived.Laws.Append
import Derived.Laws.AppendOwn
import Derived.Laws.MakeOwn
import Derived.Laws.CopyRow
import Derived.Lib.ConvBytes
import Derived.Deep.Draws
import Derived.Laws.Small
import Derived.Laws.StructEq
import Derived.Laws.Slices
import Derived.Laws.Strings
import Derived.Laws.IdiomStrings
import Derived.Laws.BytesArg
import Derived.Great.FillDense
import Derived.Laws.Tables
set_option linter.unusedVariables false
set_option linter.unusedSimpArgs false
set_option linter.defProp false
namespace BoEng
open Go Go.RowKit
def aa:=@Go.Result.andThen_ok
def ab:=@Option.some.injEq
def ah:=@List.getElem?_take
def ai:=@List.drop_eq_getElem_cons
def aj:=@Go.run_underlying
def ak:=@List.getElem?_drop
def al:=@List.mem_cons_of_mem
def ao:=@Nat.le_trans
def aq:=@Bool.and_eq_true_iff
def ar:=@List.getElem?_eq_none
def au:=@Option.some.inj
def av:=@Go.DataW.trod_lt
def aw:=@Go.Sem.run_pure
def ax:=@List.getElem?_toArray
def ay:=@List.take_append_drop
def az:=@Nat.eq_zero_or_pos
def aA:=@List.mem_of_mem_take
def aB:=@Go.run_callFunc_extern
def aC:=@List.exists_mem_of_length_pos
def aD:=@Go.RowKit.Below.trod
def aE:=@Go.World.cell?_of_block
def aF:=@Bool.false_eq_true
def aG:=@List.mem_append_left
def aH:=@Array.getElem?_eq_some_iff
def aI:=@eq_comm
def aJ:=@Array.toArray_toList
def aK:=@Nat.add_mul
def aL:=@if_false
def aM:=@Bool.eq_false_iff
def aN:=@Nat.mul_le_mul_right
def aO:=@Go.RowKit.Below.heap_alloc
def aP:=@List.mem_append_right
def aQ:=@decide_eq_false_iff_not
def aR:=@Nat.lt_or_ge
def aS:=@Array.getElem?_replicate
def aT:=@List.set_eq_take_append_cons_drop
def aV:=@Bool.false_and
def aW:=@Nat.add_pos_left
def aX:=@Nat.mul_pos
def aY:=@List.mem_of_mem_drop
def aZ:=@Option.map_none
def a8:=@List.drop_succ_cons
def a9:=@List.extract_eq_take_drop
def a_:=@Array.eq_empty_of_size_eq_zero
def ba:=@Nat.le_mul_of_pos_right
def bc:=@Go.World.frozen?_alloc_old
def bd:=@List.take_succ_cons
def bf:=@Go.run_firstCells_some
def bg:=@List.flatMap_append
def bh:=@Array.getElem?_setIfInBounds
def bj:=@Option.isSome_none
def bk:=@List.ext_getElem?
def bp:=@Decidable.not_not
def bq:=@List.find?_append
def br:=@beq_iff_eq
def bs:=@List.mem_or_eq_of_mem_set
def bt:=@Nat.zero_le
def bu:=@List.map_toArray
def bw:=@Array.getElem?_push_size
def bz:=@List.map_congr_left
def bA:=@Nat.mul_eq_zero
def bB:=@List.nodup_cons
def bC:=@Go.MapKept.run_getObj_map
def bD:=@Int.emod_add_mul_ediv
def bE:=@List.dropLast_concat_getLast
def bF:=@BitVec.ofInt_natCast
def bG:=@decide_true
def bH:=@Go.rounds_succ
def bI:=@Go.MapKept.run_findKey
def bJ:=@List.countP_eq_zero
def bK:=@UInt8.toNat.inj
def bL:=@Nat.succ_mul
def bM:=@Nat.zero_mul
def bN:=@Nat.add_zero
def bO:=@Nat.succ_pos
def bP:=@BitVec.toNat_ofNat
def bQ:=@Option.none_or
def bR:=@List.all_eq_not_any_not
def bS:=@Nat.add_assoc
def bT:=@Prod.mk.injEq
def bU:=@Go.IntKind.wrap_i64
def bV:=@Nat.mod_eq_of_lt
def bW:=@List.not_mem_nil
def bX:=@Array.getElem?_modify
def bY:=@List.takeWhile_append_dropWhile
def bZ:=@Nat.le_antisymm
def b7:=@List.all_append
def b8:=@Go.run_storeCells_cells
def b_:=@List.getElem?_of_mem
def ca:=@List.getElem?_set_ne
def cd:=@Nat.and_two_pow_sub_one_eq_mod
def cf:=@Int.mul_le_mul_of_nonneg_left
def cg:=@List.drop_drop
def cj:=@List.take_zero
def cm:=@Go.wp_loop_rounds
def cp:=@Array.ext_getElem?
def cq:=@Go.run_loadCells_list
def cu:=@UInt8.toNat_ofNat'
def cw:=@List.take_add_one
def cx:=@Bool.not_eq_false
def cy:=@List.map_set
def cz:=@BitVec.toNat_and
def cA:=@Int.pow_pos
inductive DV where
 |int (k:IntKind) (n:Int)
 |bool (b:Bool)
 |str (s:List UInt8)
 |slice (xs:List DV)
 |agg (cs:List DV)
 |opq (v:Value)
 deriving Inhabited
def cells:DV→List DV
 | .agg cs=>cs
 |d=> [d]
def flat(xs:List DV):List DV:=xs.flatMap cells
theorem nO:flat []= []:=rfl
theorem dS(x:DV)(xs:List DV):flat (x::xs)=cells x++flat xs:=by simp[flat]
theorem kE(xs ys:List DV):flat (xs++ys)=flat xs++flat ys:=by simp[flat]
theorem ed{xs:List DV}{sz:Nat}(h: ∀x∈xs,(cells x).length=sz):(flat xs).length=xs.length*sz:=by
 induction xs with
 |nil=>simp[flat]
 |cons x xs ih=>
  rw[dS,List.length_append,ih (fun y hy=>h y (al _ hy)),h x List.mem_cons_self,List.length_cons,bL]
  omega
theorem tg{xs:List DV}{sz:Nat}(h: ∀x∈xs,(cells x).length=sz)(j:Nat)(x:DV)(hj:xs[j]? =some x)(k:Nat)(hk:k<sz):
 (flat xs)[j*sz+k]? =(cells x)[k]? :=by
 induction xs generalizing j with
 |nil=>simp at hj
 |cons y ys ih=>
  have hy:=h y List.mem_cons_self;rw[dS]
  cases j with
  |zero=>
   simp at hj;subst hj;rw[bM,Nat.zero_add,List.getElem?_append_left (by omega)]
  |succ j=>
   simp at hj;rw[bL,List.getElem?_append_right (by omega)]
   have:=ih (fun z hz=>h z (al _ hz)) j hj
   rw[show j*sz+sz+k-(cells y).length=j*sz+k by omega]
   exact this
def one(v:Value):Prop:=v.oneCell'=true
inductive eB(w:World)(fr:Nat→Option Nat):Value→DV→Prop
 |int (k n):eB w fr (.int k n) (.int k n)
 |bool (b):eB w fr (.bool b) (.bool b)
 |str (s:List UInt8):eB w fr (.string ⟨s.toArray⟩) (.str s)
 |opq (v:Value) (hb: ∀b,v≠ .bool b) (h1:one v):eB w fr v (.opq v)
 |agg (vs:List Value) (cs:List DV) (hl:vs.length=cs.length) (h1: ∀v∈vs,one v)
  (h: ∀(k:Nat) (v:Value) (p:DV),vs[k]? =some v→cs[k]? =some p→eB w fr v p):eB w fr (.agg vs.toArray) (.agg cs)
 |slice (A:Option Addr) (cap sz:Nat) (us:Nat→Value) (xs:List DV) (hcap:xs.length≤cap) (hsz: ∀x∈xs,(cells x).length=sz)
  (ha:0<xs.length→ ∃ad,A=some ad∧ad.spot=none∧(∀f,fr ad.block=some f→ ∀k,k<xs.length*sz→ad.off+k<f)∧
   ∀k,k<xs.length*sz→w.cell? ⟨ad.block,ad.off+k,none⟩=some (us k))
  (h1: ∀k,k<xs.length*sz→one (us k))
  (h: ∀(k:Nat) (p:DV),(flat xs)[k]? =some p→eB w fr (us k) p):eB w fr (.slice A xs.length cap) (.slice xs)
structure jM(w:World)(fr:Nat→Option Nat)(w':World)(fr':Nat→Option Nat):Prop where
 cell: ∀b o u,w.cell? ⟨b,o,none⟩=some u→(∀f,fr b=some f→o<f)→w'.cell? ⟨b,o,none⟩=some u
 reg: ∀b f',b<w.heap.size→fr' b=some f'→ ∃f,fr b=some f∧f≤f'
 size:w.heap.size≤w'.heap.size
theorem jM.refl(w:World)(fr:Nat→Option Nat):jM w fr w fr:=⟨fun _ _ _ h _=>h,fun _ f' _ h=>⟨f',h,Nat.le_refl _⟩,Nat.le_refl _⟩
theorem mJ{w:World}{b o:Nat}{u:Value}(h:w.cell? ⟨b,o,none⟩=some u):b<w.heap.size:=World.block_lt_of_cell? w ⟨b,o,none⟩ h
theorem jM.trans{w w1 w2:World}{fr fr1 fr2:Nat→Option Nat}(h:jM w fr w1 fr1)(k:jM w1 fr1 w2 fr2):jM w fr w2 fr2:=by
 refine⟨fun b o u hc hf=>k.cell b o u (h.cell b o u hc hf) (fun f1 h1=>?_),fun b f' hb hf=>?_,ao h.size k.size⟩
 ·obtain⟨f,e,hle⟩:=h.reg b f1 (mJ hc) h1;exact Nat.lt_of_lt_of_le (hf f e) hle
 ·obtain⟨f1,e1,hle1⟩:=k.reg b f' (Nat.lt_of_lt_of_le hb h.size) hf;obtain⟨f,e,hle⟩:=h.reg b f1 hb e1;exact⟨f,e,ao hle hle1⟩
theorem eB.mono{w w':World}{fr fr':Nat→Option Nat}(hx:jM w fr w' fr'){v:Value}{p:DV}(h:eB w fr v p):eB w' fr' v p:=by
 induction h with
 |int k n=>exact .int k n
 |bool b=>exact .bool b
 |str s=>exact .str s
 |opq v hb h1=>exact .opq v hb h1
 |agg vs cs hl h1 h ih=>exact .agg vs cs hl h1 ih
 |slice A cap sz us xs hcap hsz ha h1 h ih=>
  refine .slice A cap sz us xs hcap hsz (fun h0=>?_) h1 ih
  obtain⟨ad,e,hs,hf,hc⟩:=ha h0;refine⟨ad,e,hs,fun f' hf' k hk=>?_,fun k hk=>hx.cell _ _ _ (hc k hk) fun f e=>hf f e k hk⟩
  obtain⟨f,e1,hle⟩:=hx.reg _ f' (mJ (hc k hk)) hf';exact Nat.lt_of_lt_of_le (hf f e1 k hk) hle
structure hU where
 b:Nat
 c:Nat
 k:Bool
inductive PV where
 |d (x:DV)
 |ptr (name gen off:Nat)
 |cptr (cs:List DV)
 |bsl (name gen len sz:Nat) (ag:Bool)
 |mp (name gen:Nat)
 |view (name gen lo len sz:Nat) (ag tight:Bool)
 |pa (cs:List PV)
 |fn (f:FuncId) (caps:List PV)
 |bm (f:FuncId) (cs:List DV)
 |tup (vs:List PV)
 |any
 deriving Inhabited
abbrev PV.undef:PV:= .tup []
inductive da(w:World)(fr:Nat→Option Nat)(β:Nat→hU)(gen:Nat→Nat):Value→PV→Prop
 |d (v x) (h:eB w fr v x):da w fr β gen v (.d x)
 |ptr (a:Addr) (n g o:Nat) (h0:0<g) (hg:g≤gen n) (hs:a.spot=none) (h:g=gen n→a=⟨(β n).b,o,none⟩) (hk:g=gen n→(β n).k=false):da w fr β gen (.pointer (some a)) (.ptr n g o)
 |cptr (ad:Addr) (us:Nat→Value) (cs:List DV) (hs:ad.spot=none) (hf: ∀f,fr ad.block=some f→ ∀k,k<cs.length→ad.off+k<f)
  (hc: ∀k,k<cs.length→w.cell? ⟨ad.block,ad.off+k,none⟩=some (us k)) (h1: ∀k,k<cs.length→one (us k))
  (h: ∀(k:Nat) (p:DV),cs[k]? =some p→eB w fr (us k) p):da w fr β gen (.pointer (some ad)) (.cptr cs)
 |bsl (A:Option Addr) (n g len sz cap:Nat) (ag:Bool) (h0:0<g) (hg:g≤gen n) (hs:0<sz) (hl:len≤cap) (h:g=gen n→(0<(β n).c→A=some ⟨(β n).b,0,none⟩)∧len≤cap∧cap*sz=(β n).c) (hk:g=gen n→(β n).k=false):da w fr β gen (.slice A len cap) (.bsl n g len sz ag)
 |view (A:Option Addr) (n g lo len sz cap:Nat) (ag ti:Bool) (h0:0<g) (hg:g≤gen n) (hs:0<sz) (hl:len≤cap) (hti:ti=true→cap=len) (h:g=gen n→0<len→0<(β n).c∧A=some ⟨(β n).b,lo*sz,none⟩) (hk:g=gen n→(β n).k=false):da w fr β gen (.slice A len cap) (.view n g lo len sz ag ti)
 |mp (r n g:Nat) (h0:0<g) (hg:g≤gen n) (h:g=gen n→r=(β n).b) (hk:g=gen n→(β n).k=true∧(β n).c=1):da w fr β gen (.map (some r)) (.mp n g)
 |pa (vs:List Value) (cs:List PV) (hl:vs.length=cs.length) (h1: ∀v∈vs,one v)
  (h: ∀(k:Nat) (v:Value) (p:PV),vs[k]? =some v→cs[k]? =some p→da w fr β gen v p):da w fr β gen (.agg vs.toArray) (.pa cs)
 |fn (f:FuncId) (vs:List Value) (caps:List PV) (hl:vs.length=caps.length)
  (h: ∀(k:Nat) (v:Value) (p:PV),vs[k]? =some v→caps[k]? =some p→da w fr β gen v p):da w fr β gen (.func (.func f) #[] vs.toArray) (.fn f caps)
 |bm (f:FuncId) (v:Value) (cs:List DV) (h:da w fr β gen v (.cptr cs)):da w fr β gen (.func (.func f) #[v] #[]) (.bm f cs)
 |tup (vs:List Value) (ps:List PV) (hl:vs.length=ps.length)
  (h: ∀(k:Nat) (v:Value) (p:PV),vs[k]? =some v→ps[k]? =some p→da w fr β gen v p):da w fr β gen (.tuple vs.toArray) (.tup ps)
 |any (v) (hb: ∀b,v≠ .bool b):da w fr β gen v .any
structure hZ(β:Nat→hU)(gen:Nat→Nat)(β':Nat→hU)(gen':Nat→Nat):Prop where
 le: ∀n,gen n≤gen' n
 same: ∀n,gen' n=gen n→0<gen n→β' n=β n
theorem hZ.refl(β:Nat→hU)(gen:Nat→Nat):hZ β gen β gen:=⟨fun _=>Nat.le_refl _,fun _ _ _=>rfl⟩
theorem hZ.trans{β0:Nat→hU}{g0:Nat→Nat}{β:Nat→hU}{g:Nat→Nat}{β':Nat→hU}{g':Nat→Nat}(h:hZ β0 g0 β g)(k:hZ β g β' g'):hZ β0 g0 β' g':=by
 refine⟨fun n=>ao (h.le n) (k.le n),fun n e h0=>?_⟩
 have h1:=h.le n;have h2:=k.le n;have e1:g n=g0 n:=by omega
 rw[k.same n (by omega) (by omega),h.same n e1 h0]
theorem da.mono{w w':World}{fr fr':Nat→Option Nat}{β:Nat→hU}{gen:Nat→Nat}{β':Nat→hU}{gen':Nat→Nat}(hx:jM w fr w' fr')(hb:hZ β gen β' gen')
 {v:Value} {p:PV} (h:da w fr β gen v p):da w' fr' β' gen' v p:=by
 induction h with
 |d v x h=>exact .d v x (h.mono hx)
 |ptr a n g o h0 hg hs h hk=>
  have hb1:g=gen' n→β' n=β n∧g=gen n:=fun e=>by
   have h1:gen' n=gen n:=bZ (e▸hg) (hb.le n);exact⟨hb.same n h1 (by omega),by omega⟩
  exact .ptr a n g o h0 (ao hg (hb.le n)) hs (fun e=>by rw[(hb1 e).1];exact h (hb1 e).2) (fun e=>by rw[(hb1 e).1];exact hk (hb1 e).2)
 |cptr ad us cs hs hf hc h1 h=>
  refine .cptr ad us cs hs (fun f' hf' k hk=>?_) (fun k hk=>hx.cell _ _ _ (hc k hk) fun f e=>hf f e k hk) h1 fun k p hp=>(h k p hp).mono hx
  obtain⟨f,e1,hle⟩:=hx.reg _ f' (mJ (hc k hk)) hf';exact Nat.lt_of_lt_of_le (hf f e1 k hk) hle
 |bsl A n g len sz cap ag h0 hg hs hl h hk=>
  have hb1:g=gen' n→β' n=β n∧g=gen n:=fun e=>by
   have h1:gen' n=gen n:=bZ (e▸hg) (hb.le n);exact⟨hb.same n h1 (by omega),by omega⟩
  exact .bsl A n g len sz cap ag h0 (ao hg (hb.le n)) hs hl (fun e=>by rw[(hb1 e).1];exact h (hb1 e).2) (fun e=>by rw[(hb1 e).1];exact hk (hb1 e).2)
 |view A n g lo len sz cap ag ti h0 hg hs hl hti h hk=>
  have hb1:g=gen' n→β' n=β n∧g=gen n:=fun e=>by
   have h1:gen' n=gen n:=bZ (e▸hg) (hb.le n);exact⟨hb.same n h1 (by omega),by omega⟩
  exact .view A n g lo len sz cap ag ti h0 (ao hg (hb.le n)) hs hl hti (fun e=>by rw[(hb1 e).1];exact h (hb1 e).2) (fun e=>by rw[(hb1 e).1];exact hk (hb1 e).2)
 |mp r n g h0 hg h hk=>
  have hb1:g=gen' n→β' n=β n∧g=gen n:=fun e=>by
   have h1:gen' n=gen n:=bZ (e▸hg) (hb.le n);exact⟨hb.same n h1 (by omega),by omega⟩
  exact .mp r n g h0 (ao hg (hb.le n)) (fun e=>by rw[(hb1 e).1];exact h (hb1 e).2) (fun e=>by rw[(hb1 e).1];exact hk (hb1 e).2)
 |pa vs cs hl h1 h ih=>exact .pa vs cs hl h1 ih
 |fn f vs caps hl h ih=>exact .fn f vs caps hl ih
 |bm f v cs h ih=>exact .bm f v cs ih
 |tup vs ps hl h ih=>exact .tup vs ps hl ih
 |any v hb=>exact .any v hb
inductive Loc where
 |t (i j:Nat)
 |b (n k:Nat)
 deriving DecidableEq
def fA{α:Type}(f:Nat→α)(i:Nat)(v:α):Nat→α:=fun j=>if j=i then v else f j
structure PS where
 t:Nat→PV
 box:Nat→List PV
 gen:Nat→Nat
 own:Loc→Bool
 fo:Nat
def kM:PV→Bool| .d (.slice _)=>true|_=>false
theorem s8{p:PV}(h:kM p=true): ∃xs,p= .d (.slice xs):=by
 unfold kM at h
 split at h
 ·exact⟨_,rfl⟩
 ·cases h
def PV.part(p:PV)(j:Nat):PV:=match p with| .tup vs=>vs.getD j .any| .pa cs=>cs.getD j .any| .d (.agg xs)=>(xs.map .d).getD j .any|p=>p
def eC(v:Value)(j:Nat):Value:=match v with| .tuple vs=>vs.getD j undef| .agg vs=>vs.getD j undef|v=>v
def PS.at(S:PS):Loc→PV
 | .t i j=>(S.t i).part j
 | .b n k=>(S.box n).getD k .any
def ew(a:Act)(w:World)(β:Nat→hU):Loc→Value
 | .t i j=>eC (a.tmps.getD i undef) j
 | .b n k=>(w.cell? ⟨(β n).b,k,none⟩).getD undef
def rowOf(v:Value):Option Nat:=match v with| .slice (some a) n c=>if n<c then some a.block else none|_=>none
def ja(tch:Nat→Prop)(w0 w:World)(fr:Nat→Option Nat)(v:Value)(p:PV):Prop:=
 ∃xs,p= .d (.slice xs)∧((∃A n,v= .slice A n n)∨
  ∃b c cur E sz,v= .slice (some ⟨b,0,none⟩) xs.length c∧xs.length<c∧0<xs.length∧0<sz∧w.heap[b]? =some (.cells cur E (0,0))∧(∀x∈xs,(cells x).length=sz)∧
   cur.size=c*sz∧fr b=some (xs.length*sz)∧(w0.heap.size≤b∨tch b))
inductive jh(w:World)(fr:Nat→Option Nat)(β:Nat→hU)(gen:Nat→Nat):List MapEntry→List PV→Prop
 |nil:jh w fr β gen [] []
 |cons (e:MapEntry) (es:List MapEntry) (k v:PV) (ps:List PV) (hk:da w fr β gen e.key k) (hv:da w fr β gen e.val v) (h:jh w fr β gen es ps):jh w fr β gen (e::es) (k::v::ps)
theorem jh.mono{w w':World}{fr fr':Nat→Option Nat}{β:Nat→hU}{gen:Nat→Nat}{β':Nat→hU}{gen':Nat→Nat}(hx:jM w fr w' fr')(hb:hZ β gen β' gen'){es:List MapEntry}{ps:List PV}(h:jh w fr β gen es ps):jh w' fr' β' gen' es ps:=by
 induction h with
 |nil=>exact .nil
 |cons e es k v ps hk hv _ ih=>exact .cons e es k v ps (hk.mono hx hb) (hv.mono hx hb) ih
structure mM(tch:Nat→Prop)(w0 w:World)(fr:Nat→Option Nat)(β:Nat→hU)(gen:Nat→Nat)(B:hU)(ps:List PV):Prop where
 len:B.k=false∨B.c=0→ps.length≤B.c
 ex:0<B.c→B.k=false→ ∃cs E,w.heap[B.b]? =some (.cells cs E (0,0))∧cs.size=B.c∧ ∀(k:Nat) (u:Value) (p:PV),cs[k]? =some u→ps[k]? =some p→da w fr β gen u p∧one u
 reg:0<B.c→fr B.b=some 0
 mine:0<B.c→w0.heap.size≤B.b∨tch B.b
 mex:0<B.c→B.k=true→ ∃es clk,w.heap[B.b]? =some (.map es clk)∧jh w fr β gen es.toList ps
structure Env where
 tch:Nat→Prop
 β0:Nat→hU
 g0:Nat→Nat
instance:CoeFun Env (fun _=>Nat→Prop):=⟨Env.tch⟩
def Env.free:Env:=⟨fun _=>False,fun _=>⟨0,0,false⟩,fun _=>0⟩
structure dC(N:Nat)(tch:Env)(w0:World)(fr0:Nat→Option Nat)(S:PS)(a:Act)(w:World)(fr:Nat→Option Nat)(β:Nat→hU):Prop where
 defers:a.defers= []
 ntmps:a.tmps.size=N
 os:w.os=w0.os
 tape:w.tape=w0.tape
 output:w.output=w0.output
 size:w0.heap.size≤w.heap.size
 frb: ∀b f,fr b=some f→b<w.heap.size
 frame: ∀b,b<w0.heap.size→ ¬tch b→w.heap[b]? =w0.heap[b]? ∧fr b=fr0 b
 keep: ∀b,tch b→b<w0.heap.size∧ ∃f0 f,fr0 b=some f0∧fr b=some f∧f0≤f∧ ∀k u,k<f0→w0.cell? ⟨b,k,none⟩=some u→w.cell? ⟨b,k,none⟩=some u
 vals: ∀i,da w fr β S.gen (a.tmps.getD i undef) (S.t i)
 boxes: ∀n,0<S.gen n→mM tch.tch w0 w fr β S.gen (β n) (S.box n)
 binj: ∀n m,0<S.gen n→0<S.gen m→0<(β n).c→0<(β m).c→(β n).b=(β m).b→n=m
 own: ∀l,S.own l=true→ja tch.tch w0 w fr (ew a w β l) (S.at l)
 live: ∀n k,S.own (.b n k)=true→0<S.gen n∧k<(S.box n).length
 oinj: ∀l l',S.own l=true→S.own l'=true→l≠l'→ ∀b,rowOf (ew a w β l)=some b→rowOf (ew a w β l')≠some b
 ext:hZ tch.β0 tch.g0 β S.gen
section
variable {N:Nat} {tch:Env} {w0:World} {fr0:Nat→Option Nat} {S:PS} {a:Act} {w:World} {fr:Nat→Option Nat} {β:Nat→hU}
theorem dC.Bp(h:dC N tch w0 fr0 S a w fr β):jM w0 fr0 w fr:=by
 refine⟨fun b o u hc hf=>?_,fun b f' hb hf=>?_,h.size⟩
 ·by_cases ht:tch b
  ·obtain⟨_,f0,f,e0,e,hle,hk⟩:=h.keep b ht;exact hk o u (hf f0 e0) hc
  ·rw[aE (w:=w0) (h.frame b (mJ hc) ht).1];exact hc
 ·by_cases ht:tch b
  ·obtain⟨_,f0,f,e0,e,hle,hk⟩:=h.keep b ht;rw[e]at hf
   cases hf
   exact⟨f0,e0,hle⟩
  ·rw[(h.frame b hb ht).2]at hf;exact⟨f',hf,Nat.le_refl _⟩
theorem mM.blt{tch:Nat→Prop}{w0 w:World}{fr:Nat→Option Nat}{β:Nat→hU}{gen:Nat→Nat}{B:hU}{ps:List PV}(h:mM tch w0 w fr β gen B ps)(h0:0<B.c):B.b<w.heap.size:=by
 cases hk:B.k with
 |false=>
  obtain⟨cs,E,hc,_⟩:=h.ex h0 hk
  exact(aH.1 hc).1
 |true=>
  obtain⟨es,clk,hc,_⟩:=h.mex h0 hk
  exact(aH.1 hc).1
theorem dC.RN(h:dC N tch w0 fr0 S a w fr β){n k:Nat}(ho:S.own (.b n k)=true):(β n).k=false:=by
 cases hk:(β n).k with
 |false=>rfl
 |true=>
  have hbx:=h.boxes n (h.live n k ho).1;have h0:0<(β n).c:=by
   have h1:=(h.live n k ho).2;rcases az (β n).c with e|e
   ·have:=hbx.len (.inr e);omega
   ·exact e
  obtain⟨es,clk,hh,_⟩:=hbx.mex h0 hk;obtain⟨xs,_,h2⟩:=h.own _ ho;have:ew a w β (.b n k)=undef:=by simp only[ew,World.cell?,hh];rfl
  rw[this]at h2;rcases h2 with⟨A,m,e⟩|⟨b,c,cur,E,sz,e,_⟩<;>cases e
theorem ja.same{tch:Nat→Prop}{w0 w w':World}{fr fr':Nat→Option Nat}{v:Value}{p:PV}(h:ja tch w0 w fr v p)
 (hb: ∀b,rowOf v=some b→w'.heap[b]? =w.heap[b]? ∧fr' b=fr b):ja tch w0 w' fr' v p:=by
 obtain⟨xs,rfl,h⟩:=h;refine⟨xs,rfl,?_⟩;rcases h with h|⟨b,c,cur,E,sz,rfl,hn,h0,h00,hh,hz,hs,hf,hm⟩
 ·exact .inl h
 ·obtain⟨e1,e2⟩:=hb b (by simp[rowOf,hn])
  exact .inr ⟨b,c,cur,E,sz,rfl,hn,h0,h00,by rw[e1];exact hh,hz,hs,by rw[e2];exact hf,hm⟩
theorem ja.row{tch:Nat→Prop}{w0 w:World}{fr:Nat→Option Nat}{v:Value}{p:PV}(h:ja tch w0 w fr v p){b:Nat}(hb:rowOf v=some b):b<w.heap.size:=by
 obtain⟨xs,rfl,h⟩:=h;rcases h with⟨A,n,rfl⟩|⟨b',c,cur,E,sz,rfl,hn,h0,h00,hh,hz,hs,hf,hm⟩
 ·cases A<;>simp[rowOf]at hb
 ·have e:b'=b:=by simpa[rowOf,hn]using hb
  subst e
  exact(aH.1 hh).1
structure gH(w:World)(fr:Nat→Option Nat)(w':World)(fr':Nat→Option Nat):Prop where
 os:w'.os=w.os
 tape:w'.tape=w.tape
 output:w'.output=w.output
 size:w.heap.size≤w'.heap.size
 fT: ∀b,b<w.heap.size→w'.heap[b]? =w.heap[b]?
 reg: ∀b,b<w.heap.size→fr' b=fr b
 frb: ∀b f,fr' b=some f→b<w'.heap.size
theorem gH.Bp{w w':World}{fr fr':Nat→Option Nat}(h:gH w fr w' fr'):jM w fr w' fr':=
 ⟨fun b o u hc _=>by rw[aE (w:=w) (h.fT b (mJ hc))];exact hc,fun b f' hb hf=>⟨f',by rw[←h.reg b hb];exact hf,Nat.le_refl _⟩,h.size⟩
theorem gH.cell{w w':World}{fr fr':Nat→Option Nat}(h:gH w fr w' fr'){b o:Nat}(hb:b<w.heap.size):w'.cell? ⟨b,o,none⟩=w.cell? ⟨b,o,none⟩:=
 aE (w:=w) (h.fT b hb)
theorem mM.at{tch:Nat→Prop}{w0 w:World}{fr:Nat→Option Nat}{β:Nat→hU}{gen:Nat→Nat}{B:hU}{ps:List PV}(h:mM tch w0 w fr β gen B ps){k:Nat}(hk:k<ps.length):0<B.c:=by
 rcases az B.c with e|e
 ·have:=h.len (.inr e);omega
 ·exact e
theorem mM.move{tch:Nat→Prop}{w0 w w':World}{fr fr':Nat→Option Nat}{β β':Nat→hU}{gen gen':Nat→Nat}{B:hU}{ps:List PV}(h:mM tch w0 w fr β gen B ps)(hd:jM w fr w' fr')(hg:hZ β gen β' gen')
 (hh:0<B.c→w'.heap[B.b]? =w.heap[B.b]?) (hr:0<B.c→fr' B.b=fr B.b):mM tch w0 w' fr' β' gen' B ps:=by
 refine⟨h.len,fun h0 hk=>?_,fun h0=>by rw[hr h0];exact h.reg h0,h.mine,fun h0 hk=>?_⟩
 ·obtain⟨cs,E,hc,hs,hp⟩:=h.ex h0 hk;exact⟨cs,E,by rw[hh h0];exact hc,hs,fun k u p hu hp'=>⟨(hp k u p hu hp').1.mono hd hg,(hp k u p hu hp').2⟩⟩
 ·obtain⟨es,clk,hc,hm⟩:=h.mex h0 hk;exact⟨es,clk,by rw[hh h0];exact hc,hm.mono hd hg⟩
theorem dC.fresh(h:dC N tch w0 fr0 S a w fr β){w':World}{fr':Nat→Option Nat}(hx:gH w fr w' fr'):dC N tch w0 fr0 S a w' fr' β:=by
 have hd:=hx.Bp;have hg:=hZ.refl β S.gen;have hvat: ∀l,S.own l=true→ew a w' β l=ew a w β l:=by
  intro l hl
  cases l with
  |t i j=>rfl
  |b n k=>
   have hb:=h.boxes n (h.live n k hl).1;obtain⟨cs,E,hc,_⟩:=hb.ex (hb.at (h.live n k hl).2) (h.RN hl);simp only[ew];rw[hx.cell (aH.1 hc).1]
 refine⟨h.defers,h.ntmps,hx.os.trans h.os,hx.tape.trans h.tape,hx.output.trans h.output,ao h.size hx.size,hx.frb,fun b hb ht=>?_,fun b ht=>?_,fun i=>(h.vals i).mono hd hg,fun n hn=>?_,h.binj,fun l hl=>?_,h.live,fun l l' hl hl' hne b hb=>?_,h.ext⟩
 ·have hb':=Nat.lt_of_lt_of_le hb h.size;exact⟨(hx.fT b hb').trans (h.frame b hb ht).1,(hx.reg b hb').trans (h.frame b hb ht).2⟩
 ·obtain⟨hb,f0,f,e0,e,hle,hk⟩:=h.keep b ht;have hb':=Nat.lt_of_lt_of_le hb h.size;exact⟨hb,f0,f,e0,by rw[hx.reg b hb'];exact e,hle,fun k u hk0 hc=>by rw[hx.cell hb'];exact hk k u hk0 hc⟩
 ·have hbx:=h.boxes n hn;exact hbx.move hd hg (fun h0=>hx.fT _ (hbx.blt h0)) (fun h0=>hx.reg _ (hbx.blt h0))
 ·rw[hvat l hl]
  refine(h.own l hl).same fun b hb=>?_
  have:=(h.own l hl).row hb;exact⟨hx.fT b this,hx.reg b this⟩
 ·rw[hvat l hl]at hb;rw[hvat l' hl'];exact h.oinj l l' hl hl' hne b hb
end
theorem cR{α:Type}(f:Nat→α)(i:Nat)(v:α):fA f i v i=v:=by simp[fA]
theorem c6{α:Type}(f:Nat→α){i j:Nat}(v:α)(h:j≠i):fA f i v j=f j:=by simp[fA,h]
structure iL where
 n:Nat
 g:Nat
 c:List PV
 o:Nat→Bool
def cV:List iL→Nat→Option iL
 | [],_=>none
 |u::l,n=>if u.n=n then some u else cV l n
@[simp] theorem nT{n:Nat}:cV [] n=none:=rfl
@[simp] theorem cO{u:iL}{n:Nat}:cV [u] n=if u.n=n then some u else none:=rfl
structure dp where
 dst:Option Nat
 r:PV
 ro:Nat→Bool
 clr:Loc→Bool
 bx:List iL
def dp.apply(E:dp)(S:PS):PS where
 t:=match E.dst with|some d=>fA S.t d E.r|none=>S.t
 box:=fun n=>match cV E.bx n with|some u=>u.c|none=>S.box n
 gen:=fun n=>match cV E.bx n with|some u=>u.g|none=>S.gen n
 own:=fun l=>match l with
  | .t i j=>if E.dst=some i then E.ro j else S.own (.t i j)&& !E.clr (.t i j)
  | .b n k=>match cV E.bx n with
    |some u=>u.o k
    |none=>S.own (.b n k)&& !E.clr (.b n k)
 fo:=S.fo
theorem kj{a:Act}{d:Nat}{v:Value}(hd:d<a.tmps.size)(i:Nat):(a.put (some d) v).tmps.getD i undef=if i=d then v else a.tmps.getD i undef:=by
 simp only[Act.put,Array.getD_eq_getD_getElem?,bh];by_cases h:d=i
 ·subst h;simp[hd]
 ·have h': ¬i=d:=fun e=>h e.symm
  simp[h,h']
section
variable {N:Nat} {tch:Env} {w0:World} {fr0:Nat→Option Nat} {S:PS} {a:Act} {w:World} {fr:Nat→Option Nat} {β:Nat→hU}
theorem dC.sL(h:dC N tch w0 fr0 S a w fr β)(E:dp)(hbx:E.bx= [])(v:Value)(hdst: ∀d,E.dst=some d→d<N)(hv:da w fr β S.gen v E.r)
 (hown: ∀j,E.ro j=true→ja tch.tch w0 w fr (eC v j) (E.r.part j))
 (hrow: ∀j,E.ro j=true→ ∀b,rowOf (eC v j)=some b→ ∀l,S.own l=true→E.clr l=false→rowOf (ew a w β l)≠some b)
 (hrow2: ∀j j',E.ro j=true→E.ro j'=true→j≠j'→ ∀b,rowOf (eC v j)=some b→rowOf (eC v j')≠some b):
 dC N tch w0 fr0 (E.apply S) (a.put E.dst v) w fr β:=by
 obtain⟨dst,r,ro,clr,bx⟩:=E;subst hbx
 cases dst with
 |none=>
  have hap: ∀l,((⟨none,r,ro,clr,[]⟩:dp).apply S).own l=true→S.own l=true:=by
   intro l hl
   cases l<;>simp[dp.apply]at hl<;>exact hl.1
  refine⟨h.defers,h.ntmps,h.os,h.tape,h.output,h.size,h.frb,h.frame,h.keep,h.vals,h.boxes,h.binj,fun l hl=>?_,fun n k hl=>h.live n k (hap _ hl),fun l l' hl hl'=>h.oinj l l' (hap l hl) (hap l' hl'),h.ext⟩
  have:=h.own l (hap l hl)
  cases l<;>exact this
 |some d=>
  have hd:d<a.tmps.size:=by rw[h.ntmps];exact hdst d rfl
  have hvt: ∀i j,ew (a.put (some d) v) w β (.t i j)=if i=d then eC v j else ew a w β (.t i j):=by
   intro i j;simp only[ew,kj hd]
   split<;>rfl
  have hat: ∀i j,((⟨some d,r,ro,clr,[]⟩:dp).apply S).at (.t i j)=if i=d then r.part j else S.at (.t i j):=by
   intro i j;simp only[PS.at,dp.apply,fA]
   split<;>rfl
  have hot: ∀i j,((⟨some d,r,ro,clr,[]⟩:dp).apply S).own (.t i j)=if i=d then ro j else S.own (.t i j)&& !clr (.t i j):=by
   intro i j;simp only[dp.apply,ab];by_cases e:d=i
   ·subst e;simp
   ·have e': ¬i=d:=fun x=>e x.symm
    simp[e,e']
  have hob: ∀n k,((⟨some d,r,ro,clr,[]⟩:dp).apply S).own (.b n k)=(S.own (.b n k)&& !clr (.b n k)):=fun n k=>rfl
  --an fT place that is still one's own
  have hold: ∀l,((⟨some d,r,ro,clr,[]⟩:dp).apply S).own l=true→
   (∃j,l= .t d j∧ro j=true∧ew (a.put (some d) v) w β l=eC v j∧((⟨some d,r,ro,clr,[]⟩:dp).apply S).at l=r.part j)∨
   (S.own l=true∧clr l=false∧ew (a.put (some d) v) w β l=ew a w β l∧((⟨some d,r,ro,clr,[]⟩:dp).apply S).at l=S.at l):=by
   intro l hl
   cases l with
   |t i j=>
    rw[hot]at hl;by_cases e:i=d
    ·subst e;rw[if_pos rfl]at hl;exact .inl ⟨j,rfl,hl,by rw[hvt,if_pos rfl],by rw[hat,if_pos rfl]⟩
    ·rw[if_neg e]at hl;simp at hl;exact .inr ⟨hl.1,hl.2,by rw[hvt,if_neg e],by rw[hat,if_neg e]⟩
   |b n k=>
    rw[hob]at hl;simp at hl;exact .inr ⟨hl.1,hl.2,rfl,rfl⟩
  refine⟨h.defers,by simp[Act.put,h.ntmps],h.os,h.tape,h.output,h.size,h.frb,h.frame,h.keep,fun i=>?_,h.boxes,h.binj,fun l hl=>?_,fun n k hl=>?_,fun l l' hl hl' hne b hb=>?_,h.ext⟩
  ·rw[kj hd];simp only[dp.apply,fA];split
   ·exact hv
   ·exact h.vals i
  ·rcases hold l hl with⟨j,rfl,hj,e1,e2⟩|⟨ho,hc,e1,e2⟩
   ·rw[e1,e2];exact hown j hj
   ·rw[e1,e2];exact h.own l ho
  ·rw[hob]at hl;simp at hl;exact h.live n k hl.1
  ·rcases hold l hl with⟨j,rfl,hj,e1,e2⟩|⟨ho,hc,e1,e2⟩
   ·rw[e1]at hb;rcases hold l' hl' with⟨j',rfl,hj',e1',e2'⟩|⟨ho',hc',e1',e2'⟩
    ·rw[e1'];exact hrow2 j j' hj hj' (fun e=>hne (e▸rfl)) b hb
    ·rw[e1'];exact hrow j hj b hb l' ho' hc'
   ·rw[e1]at hb;rcases hold l' hl' with⟨j',rfl,hj',e1',e2'⟩|⟨ho',hc',e1',e2'⟩
    ·rw[e1'];intro hb';exact hrow j' hj' b hb' l ho hc hb
    ·rw[e1'];exact h.oinj l l' ho ho' hne b hb
theorem dC.vz(h:dC N tch w0 fr0 S a w fr β)(dst:Option Nat)(v:Value)(r:PV)(hdst: ∀d,dst=some d→d<N)(hv:da w fr β S.gen v r):
 dC N tch w0 fr0 ((⟨dst,r,fun _=>false,fun _=>false,[]⟩:dp).apply S) (a.put dst v) w fr β:=
 h.sL ⟨dst,r,fun _=>false,fun _=>false,[]⟩ rfl v hdst hv (by simp) (by simp) (by simp)
theorem dC.DW(h:dC N tch w0 fr0 S a w fr β)(dst:Option Nat)(A:Option Addr)(n:Nat)(xs:List DV)(hdst: ∀d,dst=some d→d<N)(hv:eB w fr (.slice A n n) (.slice xs)):
 dC N tch w0 fr0 ((⟨dst,.d (.slice xs),fun _=>true,fun _=>false,[]⟩:dp).apply S) (a.put dst (.slice A n n)) w fr β:=by
 refine h.sL ⟨dst,.d (.slice xs),fun _=>true,fun _=>false,[]⟩ rfl _ hdst (.d _ _ hv) (fun j _=>⟨xs,rfl,.inl ⟨A,n,rfl⟩⟩) (fun j _ b hb=>?_) (fun j j' _ _ _ b hb=>?_)
 ·cases A<;>simp[eC,rowOf]at hb
 ·cases A<;>simp[eC,rowOf]at hb
theorem dC.Rs(h:dC N tch w0 fr0 S a w fr β)(dst:Option Nat)(s:Nat)(hdst: ∀d,dst=some d→d<N):
 dC N tch w0 fr0 ((⟨dst,S.t s,fun j=>S.own (.t s j),fun l=>match l with| .t i _=>i==s|_=>false,[]⟩:dp).apply S) (a.put dst (a.tmps.getD s undef)) w fr β:=by
 refine h.sL ⟨dst,S.t s,fun j=>S.own (.t s j),fun l=>match l with| .t i _=>i==s|_=>false,[]⟩ rfl _ hdst (h.vals s) (fun j hj=>h.own (.t s j) hj) (fun j hj b hb l hl hc=>?_) (fun j j' hj hj' hne b hb=>?_)
 ·refine h.oinj (.t s j) l hj hl (fun e=>?_) b hb
  subst e;simp at hc
 ·exact h.oinj (.t s j) (.t s j') hj hj' (fun e=>hne (by cases e;rfl)) b hb
theorem dC.L_(h:dC N tch w0 fr0 S a w fr β)(dst:Option Nat)(s k:Nat)(vs:List Value)(ps:List PV)(p:PV)(v:Value)(hs:S.t s= .tup ps)(hp:ps[k]? =some p)(ha:a.tmps.getD s undef= .tuple vs.toArray)(hv:vs[k]? =some v)
 (hpt: ∀q,p≠ .tup q) (hdst: ∀d,dst=some d→d<N):
 dC N tch w0 fr0 ((⟨dst,p,fun j=>j==0&&S.own (.t s k),fun l=>l== .t s k,[]⟩:dp).apply S) (a.put dst v) w fr β:=by
 have hvk:eC (a.tmps.getD s undef) k=v:=by rw[ha];simp[eC,hv]
 have hpk:(S.t s).part k=p:=by rw[hs];simp[PV.part,hp]
 have hr:da w fr β S.gen v p:=by
  have:=h.vals s;rw[hs,ha]at this
  cases this with
  |tup vs' ps' hl hh=>exact hh k v p hv hp
 have hp0:S.own (.t s k)=true→p.part 0=p:=by
  intro ho;obtain⟨xs,e,hx⟩:=h.own (.t s k) ho;simp only[PS.at,hpk]at e;rw[e];rfl
 have hv0:S.own (.t s k)=true→eC v 0=v:=by
  intro ho;obtain⟨xs,e,hx⟩:=h.own (.t s k) ho;simp only[ew,hvk]at hx;rcases hx with⟨A,n,rfl⟩|⟨b,c,cur,E,sz,rfl,_⟩<;>rfl
 refine h.sL ⟨dst,p,fun j=>j==0&&S.own (.t s k),fun l=>l== .t s k,[]⟩ rfl _ hdst hr (fun j hj=>?_) (fun j hj b hb l hl hc=>?_) (fun j j' hj hj' hne b hb=>?_)
 ·simp at hj;obtain⟨rfl,ho⟩:=hj;have:=h.own (.t s k) ho;simp only[ew,PS.at,hvk,hpk]at this;rw[hv0 ho,hp0 ho];exact this
 ·simp at hj;obtain⟨rfl,ho⟩:=hj;rw[hv0 ho]at hb;exact h.oinj (.t s k) l ho hl (fun e=>by subst e;simp at hc) b (by simp only[ew,hvk];exact hb)
 ·simp at hj hj';omega
theorem dC.NA(h:dC N tch w0 fr0 S a w fr β)(own':Loc→Bool)(src:Loc→Loc)(hs: ∀l,own' l=true→S.own (src l)=true∧S.at l=S.at (src l)∧ew a w β l=ew a w β (src l))
 (hinj: ∀l l',own' l=true→own' l'=true→src l=src l'→l=l') (hlive: ∀n k,own' (.b n k)=true→0<S.gen n∧k<(S.box n).length):
 dC N tch w0 fr0 {S with own:=own'} a w fr β:=by
 refine⟨h.defers,h.ntmps,h.os,h.tape,h.output,h.size,h.frb,h.frame,h.keep,h.vals,h.boxes,h.binj,fun l hl=>?_,hlive,fun l l' hl hl' hne b hb=>?_,h.ext⟩
 ·obtain⟨q1,q2,q3⟩:=hs l hl;have:=h.own (src l) q1;rw[←q3,←q2]at this;exact this
 ·obtain⟨q1,_,q3⟩:=hs l hl;obtain⟨q1',_,q3'⟩:=hs l' hl';rw[q3]at hb;rw[q3'];exact h.oinj _ _ q1 q1' (fun e=>hne (hinj l l' hl hl' e)) b hb
end
def cX(P:Program)(t:TypeId):Nat:=match(Go.sizeOf t).run P default with| .ok n _=>n|_=>0
def yf(P:Program)(t:TypeId):Option Nat:=match(typeInfo t).run P default with| .ok i _=>some i.bytes|_=>none
def eQ(P:Program)(t:TypeId):Option Value:=match(typeInfo t).run P default with| .ok i _=>i.zero|_=>none
def H0(P:Program)(t:TypeId):Bool:=match(typeInfo t).run P default with| .ok _ _=>true|_=>false
def xH(P:Program)(t:TypeId):Bool:=match P.underlying t with|some (.struct fs)=>fs.toList.all fun f=>H0 P f.type|_=>false
def dL(P:Program)(t:TypeId):Option Bool:=match P.underlying t with|some (.struct _)=>some true|some (.array _ _)=>some true|some _=>some false|none=>none
def kP(P:Program)(t:TypeId):Option TypeId:=match P.underlying t with|some (.slice e)=>some e|_=>none
def c_(P:Program)(t:TypeId)(f:Nat):Option (Nat×TypeId):=match P.underlying t with|some (.struct fs)=>(fs[f]?).map fun x=>(x.offset,x.type)|_=>none
def dh:Value→DV
 | .int k n=> .int k n
 | .bool b=> .bool b
 | .string s=> .str s.data.toList
 | .slice none 0 0=> .slice []
 |v=> .opq v
def ofConst:Value→PV
 | .agg vs=>if vs.toList.all (·.oneCell')then .d (.agg (vs.toList.map dh))else .any
 | .tuple vs=>if vs.size=0 then .tup []else .any
 |v=> .d (dh v)
def fQ:Value→Bool
 | .slice none 0 0=>true
 |_=>false
def PS.ev(S:PS):Operand→PV
 | .tmp t=>S.t t
 | .const v=>ofConst v
 | .global _=> .any
 | .func f=> .fn f []
def cW:PV→Option (List PV)
 | .d x=>some ((cells x).map .d)
 | .ptr n g o=>some [.ptr n g o]
 | .cptr cs=>some [.cptr cs]
 | .bsl n g l z a=>some [.bsl n g l z a]
 | .pa cs=>some cs
 | .fn f []=>some [.d (.opq (.func (.func f) #[] #[]))]
 | .fn f c=>some [.fn f c]
 | .bm f c=>some [.bm f c]
 |_=>none
def pc:List PV→Option (List DV)
 | []=>some []
 | .d x::r=>(pc r).map (x:: ·)
 |_=>none
def Kp(cs:List PV):PV:=match pc cs with|some c=> .d (.agg c)|none=> .pa cs
def eE:List DV→Option (List UInt8)
 | []=>some []
 | .int .u8 n::r=>(eE r).map (UInt8.ofNat n.toNat:: ·)
 |_=>none
def pf(op:BinOp)(a b:Int):Option Bool:=
 match op with
 | .eql=>some (decide (a=b))
 | .neq=>some (!decide (a=b))
 | .lss=>some (decide (a<b))
 | .leq=>some (decide (a≤b))
 | .gtr=>some (decide (b<a))
 | .geq=>some (decide (b≤a))
 |_=>none
def IJ(op:BinOp)(k:IntKind)(a b:Int):Option Int:=
 match op with
 | .add=>some (k.wrap (a+b))
 | .sub=>some (k.wrap (a-b))
 | .mul=>some (k.wrap (a*b))
 | .quo=>if b=0 then none else some (k.wrap (a.tdiv b))
 | .rem=>if b=0 then none else some (a.tmod b)
 | .and=>some (k.wrap (BitVec.ofInt k.bits a&&&BitVec.ofInt k.bits b).toNat)
 | .or=>some (k.wrap (BitVec.ofInt k.bits a|||BitVec.ofInt k.bits b).toNat)
 | .xor=>some (k.wrap (BitVec.ofInt k.bits a^^^BitVec.ofInt k.bits b).toNat)
 | .andNot=>some (k.wrap (BitVec.ofInt k.bits a&&& ~~~BitVec.ofInt k.bits b).toNat)
 |_=>none
def Rb(op:BinOp)(k:IntKind)(a b:Int):Option Int:=
 if b<0 then none else
 match op with
 | .shl=>some (k.wrap (a*2^(min b.toNat k.bits)))
 | .shr=>some (a.fdiv (2^(min b.toNat k.bits)))
 |_=>none
def strLt(a b:List UInt8):Bool:=Op.bytesLess a b
def E5(op:BinOp)(a b:List UInt8):Option Bool:=
 match op with
 | .eql=>some (decide (a=b))
 | .neq=>some (!decide (a=b))
 | .lss=>some (strLt a b)
 | .leq=>some (strLt a b||decide (a=b))
 | .gtr=>some (!(strLt a b||decide (a=b)))
 | .geq=>some (!strLt a b)
 |_=>none
def fJ:BinOp→Bool
 | .shl=>true
 | .shr=>true
 |_=>false
def Vx(op:BinOp)(a b:Bool):Option Bool:=
 match op with
 | .eql=>some (a==b)
 | .neq=>some (!(a==b))
 |_=>none
def Pp(u:Option TypeDesc)(x y:Option DV):Option Bool:=
 match u,x,y with
 |some (.int _),some (.int k a),some (.int k' b)=>if k=k' then some (decide (a=b))else none
 |some .bool,some (.bool a),some (.bool b)=>some (a==b)
 |some .string,some (.str a),some (.str b)=>some (decide (a=b))
 |_,_,_=>none
def Pu(P:Program)(xs ys:List DV):List Field→Option Bool
 | []=>some true
 |f::fs=>if f.name= "_" then none else(Pp (P.underlying f.type) xs[f.offset]? ys[f.offset]?).bind fun b=>(Pu P xs ys fs).map fun r=>b&&r
def Pr(P:Program)(t:TypeId):Bool:= !P.stoodInHeld t&& !P.eqGuardType P.depth t
def Ps(P:Program)(f:Field)(xs ys:List DV):Option Bool:=
 match P.underlying f.type with
 |some (.struct gs)=>
  if P.stoodInHeld f.type=false∧0<cX P f.type then
   Pu P ((xs.drop f.offset).take (cX P f.type)) ((ys.drop f.offset).take (cX P f.type)) gs.toList
  else none
 |u=>Pp u xs[f.offset]? ys[f.offset]?
def Pt(P:Program)(xs ys:List DV):List Field→Option Bool
 | []=>some true
 |f::fs=>if f.name= "_" then none else(Ps P f xs ys).bind fun b=>(Pt P xs ys fs).map fun r=>b&&r
def N5(P:Program)(t:TypeId)(xs ys:List DV):Option Bool:=
 match P.underlying t with
 |some (.struct fs)=>if Pr P t then Pt P xs ys fs.toList else none
 |_=>none
def mT(u:Option TypeDesc)(x y:PV):Option Bool:=
 match u,x,y with
 |some (.pointer _),.ptr ..,.d (.opq (.pointer none))=>some false
 |some (.pointer _),.cptr _,.d (.opq (.pointer none))=>some false
 |some (.pointer _),.d (.opq (.pointer none)),.d (.opq (.pointer none))=>some true
 |some (.func ..),.fn ..,.d (.opq .nilFunc)=>some false
 |some (.func ..),.bm ..,.d (.opq .nilFunc)=>some false
 |some (.func ..),.d (.opq .nilFunc),.d (.opq .nilFunc)=>some true
 |_,_,_=>none
def dT(P:Program)(op:BinOp)(t:TypeId)(x y:PV):Option PV:=
 match x,y with
 | .d (.agg xs),.d (.agg ys)=>
   match op with
   | .eql=>(N5 P t xs ys).map fun r=> .d (.bool r)
   | .neq=>(N5 P t xs ys).map fun r=> .d (.bool (!r))
   |_=>none
 | .d (.int k a),.d (.int k' b)=>
   if fJ op then(Rb op k a b).map fun r=> .d (.int k r)
   else if k=k' then
    match pf op a b with
    |some r=>some (.d (.bool r))
    |none=>(IJ op k a b).map fun r=> .d (.int k r)
   else none
 | .d (.str a),.d (.str b)=>
   match op with
   | .add=>if a.length+b.length≤9223372036854775807 then some (.d (.str (a++b)))else none
   |op=>(E5 op a b).map fun r=> .d (.bool r)
 | .d (.bool a),.d (.bool b)=>
   match P.underlying t with
   |some .bool=>(Vx op a b).map fun r=> .d (.bool r)
   |_=>none
 |x,y=>
  match op with
  | .eql=>(mT (P.underlying t) x y).map fun r=> .d (.bool r)
  | .neq=>(mT (P.underlying t) x y).map fun r=> .d (.bool (!r))
  |_=>none
def OI(op:UnOp)(x:PV):Option PV:=
 match op,x with
 | .not,.d (.bool b)=>some (.d (.bool (!b)))
 | .neg,.d (.int k n)=>some (.d (.int k (k.wrap (0-n))))
 | .xor,.d (.int k n)=>some (.d (.int k (k.wrap (BitVec.ofInt k.bits (if k.signed then-1 else k.max)^^^BitVec.ofInt k.bits n).toNat)))
 |_,_=>none
def u9(P:Program)(t:TypeId)(cs:List DV)(off:Nat):Option DV:=
 match dL P t with
 |some true=>if 0<cX P t∧off+cX P t≤cs.length then some (.agg ((cs.drop off).take (cX P t)))else none
 |some false=>cs[off]?
 |none=>none
def Di(S:PS)(top:Nat)(x:Operand):Option Nat:=
 match S.ev x with
 | .d (.int _ i)=>if 0≤i∧i≤(top:Int)then some i.toNat else none
 |_=>none
def IH(S:PS)(top:Nat):Option Operand→Option Nat
 |some v=>Di S top v
 |none=>some 0
def NX(S:PS)(top:Nat):Option Operand→Option Nat
 |some v=>Di S top v
 |none=>some top
def je(sz:Nat)(xs:List DV):Bool:=xs.all fun x=>(cells x).length==sz
def rF(P:Program)(S:PS)(t:TypeId)(x:Operand)(lo hi mx:Option Operand):Option (PV×Bool):=
 match S.ev x with
 | .d (.slice xs)=>
   match kP P t with
   |none=>none
   |some e=>
    if je (cX P e) xs=true∧0<cX P e then
     match mx with
     |none=>(NX S xs.length hi).bind fun h=>(IH S h lo).bind fun l=>some (.d (.slice ((xs.take h).drop l)),false)
     |some m=>
      match hi with
      |none=>none
      |some hv=>(Di S xs.length m).bind fun m=>(Di S m hv).bind fun h=>(IH S h lo).bind fun l=>some (.d (.slice ((xs.take h).drop l)),m==h)
    else none
 | .d (.str s)=>
   match mx,P.underlying t with
   |none,some .string=>(NX S s.length hi).bind fun h=>(IH S h lo).bind fun l=>some (.d (.str ((s.take h).drop l)),false)
   |_,_=>none
 | .bsl n g len sz ag=>
   match kP P t with
   |none=>none
   |some e=>
    if cX P e=sz then
     match mx with
     |none=>(NX S len hi).bind fun h=>(IH S h lo).bind fun l=>some (.view n g l (h-l) sz ag false,false)
     |some m=>
      match hi with
      |none=>none
      |some hv=>(Di S len m).bind fun m=>(Di S m hv).bind fun h=>(IH S h lo).bind fun l=>some (.view n g l (h-l) sz ag (m==h),false)
    else none
 |_=>none
def gP(P:Program)(S:PS)(t:TypeId):List (Nat×Operand)→List PV→Option (List PV)
 | [],cs=>some cs
 |(i,x)::r,cs=>
  match c_ P t i,cW (S.ev x)with
  |some (off,ft),some vs=>if vs.length=cX P ft∧off+vs.length≤cs.length then gP P S t r (cs.take off++vs++cs.drop (off+vs.length))else none
  |_,_=>none
def Cc(P:Program)(t:TypeId)(cs:List PV)(off:Nat):Option PV:=
 match dL P t with
 |some true=>if 0<cX P t∧off+cX P t≤cs.length then some (Kp ((cs.drop off).take (cX P t)))else none
 |some false=>cs[off]?
 |none=>none
def fR(S:PS)(sz:Nat):Nat→List (Nat×Operand)→Option (List DV)
 |_,[]=>some []
 |k,(i,x)::r=>
  match S.ev x with
  | .d v=>if i=k∧(cells v).length=sz then(fR S sz (k+1) r).map (v:: ·)else none
  |_=>none
def rtN(P:Program):Option TypeId:=(P.cutTypes.find? (·.1== "internal/reflectlite.rtype")).map (·.2)
def erN(P:Program):Option TypeId:=(List.range P.types.size).find? fun t=>P.rowNamed t [101,114,114,111,114]
def oL(P:Program)(g:Nat):Option (List Value):=
 match P.globals[g]? with
 |some x=>if x.name= "boarder/msg.errForm" then some [.int .i64 2]else if x.name= "errors.errorType" then(rtN P).bind fun r=>(erN P).map fun e=> [.iface r (.agg #[typeHandle P e])]else none
 |none=>none
def Sp(P:Program)(g:Nat)(t:TypeId):Option DV:=
 match oL P g,dL P t with
 |some cs,some true=>if cs.length=cX P t∧0<cX P t∧cs.all (·.oneCell')=true then some (.agg (cs.map dh))else none
 |_,_=>none
def mV(P:Program)(S:PS)(t:TypeId)(x:Operand):Option PV:=
 match S.ev x with
 | .ptr n g o=>
   if g=S.gen n∧0<cX P t∧o+cX P t≤(S.box n).length then
    match dL P t with
    |some true=>some (Kp (((S.box n).drop o).take (cX P t)))
    |some false=>if cX P t=1 then(S.box n)[o]? else none
    |none=>none
   else none
 | .cptr cs=>(u9 P t cs 0).map .d
 |_=>none
def iQ(P:Program)(S:PS)(t:TypeId)(x:Operand):Option PV:=match x with| .global g=>(Sp P g t).map .d|x=>mV P S t x
def ug(mx:Bool)(k:IntKind):Int→List PV→Option PV
 |a,[]=>some (.d (.int k a))
 |a,.d (.int k' b)::r=>if k=k' then ug mx k (if mx then(if b>a then b else a)else(if b<a then b else a)) r else none
 |_,_=>none
def rP(mx:Bool):List PV→Option PV
 | .d (.int k a)::r=>ug mx k a r
 |_=>none
mutual
def ng:DV→Option Value
 | .int k n=>some (.int k n)
 | .bool b=>some (.bool b)
 | .str s=>some (.string ⟨s.toArray⟩)
 | .slice _=>none
 | .agg cs=>(wi cs).map fun vs=> .agg vs.toArray
 | .opq v=>some v
def wi:List DV→Option (List Value)
 | []=>some []
 |c::r=>(ng c).bind fun v=>(wi r).map fun vs=>v::vs
end
def CH(u:Option TypeDesc):Bool:=match u with|some (.interface _)=>true|none=>true|_=>false
def A1(t:TypeId)(x:PV):Option (PV×Bool):=match x with| .d v=>(ng v).map fun u=>(.d (.opq (.iface t u)),false)|_=>none
def Uh:Value→Option Bool
 | .iface _ _=>some false
 | .nilIface=>some true
 |_=>none
def NW(u:Option TypeDesc)(op:BinOp)(x:PV):Option PV:=
 match u,x,op with
 |some (.interface _),.d (.opq v),.eql=>(Uh v).map fun b=> .d (.bool b)
 |some (.interface _),.d (.opq v),.neq=>(Uh v).map fun b=> .d (.bool (!b))
 |_,_,_=>none
def uJ(P:Program)(S:PS)(op:BinOp)(t:TypeId)(x y:Operand):Option PV:=match y with| .const .nilIface=>NW (P.underlying t) op (S.ev x)|_=>dT P op t (S.ev x) (S.ev y)
def VG(f:FuncId)(xs cs:List PV):Option (PV×Bool):=match xs,cs with| [.cptr c],[]=>some (.bm f c,false)|_,_=>none
def fw(P:Program)(S:PS)(o:Oper):Option (PV×Bool):=
 match o.op with
 | .pick c a b=>match S.ev c with| .d (.bool t)=>some (if t then S.ev a else S.ev b,false)|_=>none
 | .nilCheck x=>match S.ev x with| .ptr n g o=>some (.ptr n g o,false)| .cptr cs=>some (.cptr cs,false)|_=>none
 | .binOp op t x y _=>(uJ P S op t x y).map fun r=>(r,false)
 | .unOp op _ x=>(OI op (S.ev x)).map fun r=>(r,false)
 | .fieldAddr t x f=>
   match c_ P t f,S.ev x with
   |some (off,ft),.ptr n g o=>if 0<cX P ft then some (.ptr n g (o+off),false)else none
   |some (off,ft),.cptr cs=>if 0<cX P ft∧off<cs.length then some (.cptr (cs.drop off),false)else none
   |_,_=>none
 | .field t x f=>
   match c_ P t f,S.ev x with
   |some (off,ft),.d (.agg cs)=>(u9 P ft cs off).map fun r=>(.d r,false)
   |some (off,ft),.pa cs=>(Cc P ft cs off).map fun r=>(r,false)
   |_,_=>none
 | .indexAddr t x i=>
   match kP P t,S.ev x,S.ev i with
   |some e,.d (.slice xs),.d (.int _ i)=>
    if 0≤i∧i<(xs.length:Int)then
     match xs[i.toNat]? with
     |some x=>if(cells x).length=cX P e∧0<cX P e then some (.cptr (cells x),false)else none
     |none=>none
    else none
   |some e,.bsl n g len sz _,.d (.int _ i)=>if 0≤i∧i<(len:Int)∧g=S.gen n∧cX P e=sz∧len*sz≤(S.box n).length then some (.ptr n g (i.toNat*sz),false)else none
   |_,_,_=>none
 | .index t x i=>
   match P.underlying t,S.ev x,S.ev i with
   |some .string,.d (.str s),.d (.int _ i)=>if 0≤i∧i<(s.length:Int)then some (.d (.int .u8 (s.getD i.toNat 0).toNat),false)else none
   |_,_,_=>none
 | .slice t x lo hi mx=>rF P S t x lo hi mx
 | .build t ps=>
   match eQ P t with
   |some (.agg z)=>if z.toList.all (·.oneCell')=true∧xH P t=true then(gP P S t ps.toList (z.toList.map fun c=> .d (dh c))).map fun cs=>(Kp cs,false)else none
   |_=>none
 | .buildSlice t len ps=>
   match kP P t with
   |some e=>if ps.size=len∧len*cX P e≤16777216∧0<cX P e∧(eQ P e).isSome then(fR S (cX P e) 0 ps.toList).map fun xs=>(.d (.slice xs),true)else none
   |none=>none
 | .makeFunc (.func f) first caps=>if first.size=0 then some (.fn f (caps.toList.map S.ev),false)else VG f (first.toList.map S.ev) (caps.toList.map S.ev)
 | .makeInterface t x=>if CH (P.underlying t)=false then A1 t (S.ev x)else none
 | .convert src dst x=>
   match P.underlying src,P.underlying dst,S.ev x with
   |some (.int _),some (.int k),.d (.int _ n)=>some (.d (.int k (k.wrap n)),false)
   |some .string,some .string,.d (.str s)=>some (.d (.str s),false)
   |some (.slice e),some .string,.d (.slice xs)=>
    match P.underlying e with
    |some (.int .u8)=>(eE xs).map fun s=>(.d (.str s),false)
    |_=>none
   |some .string,some (.slice e),.d (.str s)=>
    match P.underlying e with
    |some (.int .u8)=>if cX P e=1 then some (.d (.slice (s.map fun b=> .int .u8 b.toNat)),false)else none
    |_=>none
   |_,_,_=>none
 | .call {callee:= .builtin .len,args,argTypes}=>
   match args.toList,argTypes.toList with
   | [x],[t]=>
     match P.underlying t,S.ev x with
     |some (.slice _),.d (.slice xs)=>some (.d (.int .i64 xs.length),false)
     |some (.slice _),.bsl _ _ n _ _=>some (.d (.int .i64 n),false)
     |some .string,.d (.str s)=>some (.d (.int .i64 s.length),false)
     |_,_=>none
   |_,_=>none
 | .call {callee:= .builtin .min,args,argTypes:=_}=>(rP false (args.toList.map S.ev)).map fun r=>(r,false)
 | .call {callee:= .builtin .max,args,argTypes:=_}=>(rP true (args.toList.map S.ev)).map fun r=>(r,false)
 |_=>none
def FO:Nat:=100
def dg(s:Nat):Loc→Bool| .t i _=>i==s|_=>false
def ry(o:Oper)(S:PS)(x:Operand)(tr:Bool):dp:=
 match x with
 | .tmp s=>if tr then⟨o.dst,S.t s,fun j=>S.own (.t s j),dg s,[]⟩else⟨o.dst,S.t s,fun _=>false,fun _=>false,[]⟩
 | .const v=>⟨o.dst,ofConst v,fun _=>fQ v,fun _=>false,[]⟩
 |x=>⟨o.dst,S.ev x,fun _=>false,fun _=>false,[]⟩
def lf(tr:List Nat)(o:Oper):Bool:=match o.dst with|some d=>tr.contains d|none=>false
def kN(tr:List Nat)(o:Oper):Bool:=match o.dst with|some d=>tr.contains (d+10000)|none=>false
def xr(tr:List Nat)(o:Oper):Bool:=match o.dst with|some d=>tr.contains (d+30000)|none=>false
def iH(tr:List Nat)(o:Oper):Bool:=match o.dst with|some d=>tr.contains (d+20000)|none=>false
def s9(tr:List Nat)(o:Oper):Bool:=match o.dst with|some d=>tr.contains (d+40000)|none=>tr.contains 40000
def K0:PV→Option (FuncId×List PV)
 | .fn f c=>some (f,c)
 | .d (.opq (.func (.func f) x y))=>if x.size=0∧y.size=0 then some (f,[])else none
 |_=>none
def chunk(sz:Nat)(ag:Bool):Nat→List DV→List DV
 |0,_=> []
 |k+1,ds=>(if ag then .agg (ds.take sz)else ds.headD (.bool false))::chunk sz ag k (ds.drop sz)
def iP(S:PS)(n g len sz:Nat)(ag:Bool):Option (List DV):=
 if g=S.gen n∧len*sz≤(S.box n).length∧(ag=false→sz=1)then(pc ((S.box n).take (len*sz))).map (chunk sz ag len)else none
def oq(S:PS)(n g lo len sz:Nat)(ag:Bool):Option (List DV):=
 if g=S.gen n∧(lo+len)*sz≤(S.box n).length∧(ag=false→sz=1)then(pc (((S.box n).drop (lo*sz)).take (len*sz))).map (chunk sz ag len)else none
def yE(p:PV)(e:Bool):Option (FuncId×List PV):=match p with| .bm f cs=>if e=true then some (f,[.cptr cs])else none|p=>K0 p
def m4(P:Program)(rd:Bool)(S:PS)(e:TypeId)(x:Operand)(tx:TypeId):Option (List DV):=
 match S.ev x,P.underlying tx with
 | .d (.slice ys),some (.slice _)=>some ys
 | .d (.str s),some .string=>some (s.map fun b=> .int .u8 b.toNat)
 | .d (.int _ n),some (.int _)=>
   match eQ P e with
   |some z=>if 0≤n∧n≤9223372036854775807∧z.oneCell'=true then some (List.replicate n.toNat (dh z))else none
   |none=>none
 | .bsl n g len sz ag,some (.slice _)=>if rd=true then iP S n g len sz ag else none
 | .view n g lo len sz ag _,some (.slice _)=>if rd=true then oq S n g lo len sz ag else none
 |_,_=>none
def Ng(P:Program)(t:TypeId):Option (TypeId×Nat×Value):=
 match kP P t with
 |some e=>
  match yf P e,eQ P e with
  |some by_,some z=>if z.cells.size=cX P e∧0<cX P e∧0<by_ then some (e,by_,z)else none
  |_,_=>none
 |none=>none
def iz(P:Program)(tr:List Nat)(S:PS)(o:Oper)(args:List Operand)(ts:List TypeId):Option dp:=
 match args,ts with
 | [.tmp s,x],[t,tx]=>
   match Ng P t with
   |some (e,by_,_)=>
    match m4 P (xr tr o) S e x tx with
    |some ys=>
     if je (cX P e) ys=true then
      match S.t s with
      | .d (.slice xs)=>
        if kN tr o=true then
         match o.dst with
         |some d=>
          if S.own (.t s 0)=true∧xs= []∧ys.length*by_≤140737488355328∧(dL P e=some false→cX P e=1)∧(dL P e).isSome then
           some ⟨o.dst,.bsl (S.fo+d) (S.gen (S.fo+d)+1) ys.length (cX P e) (dL P e==some true),fun _=>false,dg s,[⟨S.fo+d,S.gen (S.fo+d)+1,(flat ys).map .d,fun _=>false⟩]⟩
          else none
         |none=>none
        else if S.own (.t s 0)=true∧je (cX P e) xs=true∧(xs.length+ys.length)*by_≤140737488355328 then
         some ⟨o.dst,.d (.slice (xs++ys)),fun j=>j==0,dg s,[]⟩
        else none
      | .bsl n g len sz ag=>
        if g=S.gen n∧sz=cX P e∧(S.box n).length=len*sz∧(len+ys.length)*by_≤140737488355328∧o.dst.isSome=true∧kN tr o=true then
         some ⟨o.dst,.bsl n (g+1) (len+ys.length) sz ag,fun _=>false,fun _=>false,[⟨n,g+1,S.box n++(flat ys).map .d,fun k=>S.own (.b n k)⟩]⟩
        else none
      | .view n g lo len sz ag ti=>
        match o.dst with
        |some d=>
         if ti=true∧g=S.gen n∧sz=cX P e∧(lo+len)*sz≤(S.box n).length∧0<ys.length∧(len+ys.length)*by_≤140737488355328∧kN tr o=true then
          some ⟨o.dst,.bsl (S.fo+d) (S.gen (S.fo+d)+1) (len+ys.length) sz ag,fun _=>false,fun _=>false,[⟨S.fo+d,S.gen (S.fo+d)+1,((S.box n).drop (lo*sz)).take (len*sz)++(flat ys).map .d,fun _=>false⟩]⟩
         else none
        |none=>none
      |_=>none
     else none
    |none=>none
   |none=>none
 |_,_=>none
def pZ(S:PS):PV→Option (DV×List Nat)
 | .d x=>some (x,[])
 | .bsl n g len sz ag=>(iP S n g len sz ag).map fun xs=>(.slice xs,[n])
 |_=>none
def kD(S:PS):List PV→Option (List DV×List Nat)
 | []=>some ([],[])
 |c::r=>(pZ S c).bind fun x=>(kD S r).map fun y=>(x.1::y.1,x.2++y.2)
def nM(S:PS):PV→Option (DV×List Nat)
 | .pa cs=>(kD S cs).map fun x=>(.agg x.1,x.2)
 |c=>pZ S c
def kill(S:PS)(n:Nat):iL:=⟨n,S.gen n+1,[],fun _=>false⟩
def rZ(o:Oper)(S:PS)(r:PV):Option dp:=
 match nM S r with
 |some (x,[])=>some ⟨o.dst,.d x,fun _=>false,fun _=>false,[]⟩
 |some (x,[n])=>some ⟨o.dst,.d x,fun _=>false,fun _=>false,[kill S n]⟩
 |_=>none
def rU(tr:List Nat)(o:Oper):Bool:=match o.dst with|some d=>tr.contains (d+80000)|none=>false
def sQ(P:Program)(t:TypeId)(j:Nat)(ps:List (Nat×Operand)):Bool:=ps.all fun p=>match c_ P t p.1 with|some (off,ft)=>decide (j<off∨off+cX P ft≤j)|none=>false
def jn(P:Program)(t:TypeId)(ps:List (Nat×Operand))(j:Nat):Bool:=sQ P t j ps&&(match eQ P t with|some z=>decide (j<z.cells.size)&&fQ (z.cells.getD j undef)|_=>false)
def fk(P:Program)(S:PS)(t:TypeId)(ps:List (Nat×Operand)):Option Nat:=
 match ps with
 |(i,.tmp s)::r=>
  match c_ P t i with
  |some (off,ft)=>if off=0∧cX P ft=1∧sQ P t 0 r=true∧kM (S.t s)=true then some s else none
  |none=>none
 |_=>none
def sk(P:Program)(S:PS)(o:Oper)(t:TypeId)(len:Nat)(ps:List (Nat×Operand)):Option dp:=
 match o.dst,kP P t,ps with
 |some d,some e,[(i,.tmp s)]=>
  match cW (S.t s)with
  |some cs=>
   if i=0∧len=1∧cs.length=cX P e∧0<cX P e∧cX P e≤16777216∧(eQ P e).isSome=true∧(dL P e).isSome=true∧s≠d then
    some ⟨o.dst,.bsl (S.fo+d) (S.gen (S.fo+d)+1) 1 (cX P e) (dL P e==some true),fun _=>false,dg s,[⟨S.fo+d,S.gen (S.fo+d)+1,cs,fun k=>decide (k<cs.length)&&S.own (.t s k)⟩]⟩
   else none
  |none=>none
 |_,_,_=>none
def ll(P:Program)(S:PS)(o:Oper)(t:TypeId)(len:Nat)(ps:Array (Nat×Operand)):Option dp:=
 match o.dst,kP P t with
 |some d,some e=>
  if ps.size=len∧len*cX P e≤16777216∧0<cX P e∧(eQ P e).isSome=true∧cX P e≤16777216∧(dL P e).isSome=true then
   match fR S (cX P e) 0 ps.toList with
   |some xs=>some ⟨o.dst,.bsl (S.fo+d) (S.gen (S.fo+d)+1) len (cX P e) (dL P e==some true),fun _=>false,fun _=>false,[⟨S.fo+d,S.gen (S.fo+d)+1,(flat xs).map .d,fun _=>false⟩]⟩
   |none=>none
  else none
 |_,_=>none
def HU(P:Program)(e:TypeId):Bool:=match P.underlying e with|some (.int .u8)=>true|_=>false
theorem MO{P:Program}{e:TypeId}(h:HU P e=true):P.underlying e=some (.int .u8):=by
 unfold HU at h
 split at h
 ·assumption
 ·cases h
def uF(P:Program)(S:PS)(o:Oper)(src dst:TypeId)(x:Operand):Option dp:=
 match P.underlying src,S.ev x with
 |some (.slice e),.bsl n g len sz ag=>if src=dst∧HU P e=true∧0<len then rZ o S (.bsl n g len sz ag)else none
 |_,_=>none
def mH(S:PS)(m:Nat)(E:dp):Option dp:=
 match E.bx with
 | [u]=>
   if m≠u.n∧(S.box m).length≤u.c.length then
    some ⟨E.dst,E.r,E.ro,E.clr,[⟨u.n,u.g,u.c,fun k=>if k<u.c.length-(S.box m).length then u.o k else S.own (.b m (k-(u.c.length-(S.box m).length)))⟩,⟨m,S.gen m,S.box m,fun _=>false⟩]⟩
   else none
 |_=>none
def lH(S:PS)(args:List Operand):Option Nat:=
 match args with
 | [_,x]=>match S.ev x with| .bsl m g len sz _=>if(S.box m).length=len*sz∧g=S.gen m then some m else none|_=>none
 |_=>none
def RX:List Nat→Nat→Option (Nat×Nat×Bool)
 | [],_=>none
 |x::r,d=>if 1000000≤x∧(x-1000000)/1000=d then some (x % 1000/100,x % 100/2,x % 2==1)else RX r d
def Ke(tr:List Nat)(o:Oper):Option (Nat×Nat×Bool):=match o.dst with|some d=>RX tr d|none=>none
def wZ(P:Program)(S:PS)(o:Oper)(t:TypeId)(ps:List (Nat×Operand))(q:Option (Nat×Nat×Bool)):Option dp:=
 match o.dst,q,fw P S o with
 |some d,some (c,sz,ag),some r=>
  match cW r.1 with
  |some cs=>if jn P t ps c=true∧0<sz∧c<cs.length then some ⟨some d,.pa (cs.set c (.bsl (S.fo+d) (S.gen (S.fo+d)+1) 0 sz ag)),fun j=>decide (j≠c)&&jn P t ps j,fun _=>false,[⟨S.fo+d,S.gen (S.fo+d)+1,[],fun _=>false⟩]⟩else none
  |none=>none
 |_,_,_=>none
def Qu:List Nat→Nat→Option (Nat×Bool)
 | [],_=>none
 |x::r,d=>if 2000000≤x∧(x-2000000)/1000=d then some (x % 1000/2,x % 2==1)else Qu r d
def Kd(tr:List Nat)(o:Oper)(x:Operand):Option (Nat×Bool):=match o.dst,x with|some d,.const _=>Qu tr d|_,_=>none
def zk(S:PS)(o:Oper)(x:Operand)(q:Option (Nat×Bool)):Option dp:=
 match o.dst,q,x with
 |some d,some (sz,ag),.const c=>if fQ c=true∧0<sz then some ⟨some d,.bsl (S.fo+d) (S.gen (S.fo+d)+1) 0 sz ag,fun _=>false,fun _=>false,[⟨S.fo+d,S.gen (S.fo+d)+1,[],fun _=>false⟩]⟩else none
 |_,_,_=>none
def tG(S:PS)(d:Nat)(x:Operand)(cs:List PV):Option dp:=
 match x with
 | .tmp s=>if s≠d then some ⟨some d,.ptr (S.fo+d) (S.gen (S.fo+d)+1) 0,fun _=>false,dg s,[⟨S.fo+d,S.gen (S.fo+d)+1,cs,fun k=>decide (k<cs.length)&&S.own (.t s k)⟩]⟩else none
 |_=>none
def NO(P:Program)(t:TypeId):Option (TypeDesc×TypeId):=
 match P.underlying t with
 |some (.map k e)=>match P.underlying k with|some (.int kd)=>some (.int kd,e)|some .string=>some (.string,e)|_=>none
 |_=>none
def s6:TypeDesc→DV→PV→Option Bool
 | .int _,.int k a,.d (.int k' b)=>if k=k' then some (a==b)else none
 | .string,.str a,.d (.str b)=>some (a==b)
 |_,_,_=>none
def Ee(kd:TypeDesc)(k:DV):List PV→Option (Option PV)
 | []=>some none
 | [_]=>none
 |c::v::r=>match s6 kd k c with|some true=>some (some v)|some false=>Ee kd k r|none=>none
def xd(kd:TypeDesc)(k:DV)(x:PV):List PV→Option (List PV)
 | []=>some [.d k,x]
 | [_]=>none
 |c::v::r=>match s6 kd k c with|some true=>some (.d k::x::r)|some false=>(xd kd k x r).map fun r'=>c::v::r'|none=>none
def zn(S:PS)(o:Oper):Option dp:=
 match o.dst with
 |some d=>some ⟨o.dst,.mp (S.fo+d) (S.gen (S.fo+d)+1),fun _=>false,fun _=>false,[⟨S.fo+d,S.gen (S.fo+d)+1,[],fun _=>false⟩]⟩
 |none=>none
def uq(P:Program)(S:PS)(o:Oper)(t:TypeId)(m k x:Operand):Option dp:=
 match o.dst,S.ev m,S.ev k,NO P t with
 |none,.mp n g,.d kk,some (kd,_)=>
  if g=S.gen n then(xd kd kk (S.ev x) (S.box n)).map fun ps=>⟨none,.undef,fun _=>false,fun _=>false,[⟨n,g,ps,fun _=>false⟩]⟩else none
 |_,_,_,_=>none
def Qv(P:Program)(gen:Nat→Nat)(box:Nat→List PV)(t:TypeId)(m k:PV)(ok:Bool):Option PV:=
 match m,k,NO P t with
 | .mp n g,.d kk,some (kd,e)=>
   if g=gen n then
    match Ee kd kk (box n),(eQ P e).map ofConst with
    |some (some v),_=>some (if ok=true then .tup [v,.d (.bool true)]else v)
    |some none,some z=>some (if ok=true then .tup [z,.d (.bool false)]else z)
    |_,_=>none
   else none
 |_,_,_=>none
def MQ:DV→Bool
 | .int _ _=>true
 |_=>false
def SN:PV→Option (Nat×Nat×Nat×Nat)
 | .view n g lo len sz _ _=>if sz=1 then some (n,g,lo,len)else none
 |_=>none
def x7(P:Program)(S:PS)(o:Oper)(as:List Operand)(ts:List TypeId):Option dp:=
 match as,ts with
 | [x,y],[t,_]=>
   match SN (S.ev x),S.ev y,kP P t with
   |some (n,g,lo,len),.d (.slice xs),some e=>
    if g=S.gen n∧cX P e=1∧0<xs.length∧xs.length≤len∧lo+xs.length≤(S.box n).length∧xs.all MQ=true then
     some ⟨o.dst,.d (.int .i64 xs.length),fun _=>false,fun _=>false,[⟨n,g,(S.box n).take lo++xs.map .d++(S.box n).drop (lo+xs.length),fun _=>false⟩]⟩
    else none
   |_,_,_=>none
 |_,_=>none
def gG(N:Nat)(o:Oper):Bool:=match o.dst with|some d=>decide (d<N)|none=>true
def dO(P:Program)(N:Nat)(tr:List Nat)(S:PS)(o:Oper):Option dp:=
 if gG N o=true then
  match o.op with
  | .assign x=>if(Kd tr o x).isSome=true then zk S o x (Kd tr o x)else some (ry o S x true)
  | .move x=>
    if iH tr o=true then rZ o S (S.ev x)
    else some (ry o S x (lf tr o))
  | .extract x k=>
    match x with
    | .tmp s=>
      match S.t s with
      | .tup ps=>
        match ps[k]? with
        |some (.tup _)=>none
        |some p=>some ⟨o.dst,p,fun j=>j==0&&S.own (.t s k),fun l=>l== .t s k,[]⟩
        |none=>none
      |_=>none
    |_=>none
  | .load t x=>
    match iQ P S t x with
    |some r=>
     if iH tr o=true then rZ o S r
     else if lf tr o then
      match S.ev x,dL P t with
      | .ptr n _ off,some false=>some ⟨o.dst,r,fun j=>j==0&&S.own (.b n off),fun l=>l== .b n off,[]⟩
      |_,_=>none
     else some ⟨o.dst,r,fun _=>false,fun _=>false,[]⟩
    |none=>none
  | .alloc e=>
    match o.dst,eQ P e with
    |some d,some z=>
     if z.cells.toList.all (·.oneCell')then
      some ⟨o.dst,.ptr (S.fo+d) (S.gen (S.fo+d)+1) 0,fun _=>false,fun _=>false,[⟨S.fo+d,S.gen (S.fo+d)+1,z.cells.toList.map fun c=> .d (dh c),fun k=>fQ (z.cells.getD k undef)⟩]⟩
     else none
    |_,_=>none
  | .box _ x=>
    match o.dst,cW (S.ev x)with
    |some d,some cs=>
     if iH tr o=true then(pc cs).map fun ds=>⟨o.dst,.cptr ds,fun _=>false,fun _=>false,[]⟩
     else if rU tr o=true then tG S d x cs
     else some ⟨o.dst,.ptr (S.fo+d) (S.gen (S.fo+d)+1) 0,fun _=>false,fun _=>false,[⟨S.fo+d,S.gen (S.fo+d)+1,cs,fun _=>false⟩]⟩
    |_,_=>none
  | .makeSlice t l c=>
    match o.dst,kP P t,S.ev l,S.ev c with
    |some d,some e,.d (.int _ n),.d (.int _ m)=>
     match eQ P e,yf P e with
     |some z,some by_=>
      if n=m∧0≤n∧n≤9223372036854775807∧n*by_≤281474976710656∧cX P e=1∧z.oneCell'=true then
       if iH tr o=true then some ⟨o.dst,.d (.slice (List.replicate n.toNat (dh z))),fun _=>true,fun _=>false,[]⟩
       else some ⟨o.dst,.bsl (S.fo+d) (S.gen (S.fo+d)+1) n.toNat 1 false,fun _=>false,fun _=>false,[⟨S.fo+d,S.gen (S.fo+d)+1,List.replicate n.toNat (.d (dh z)),fun _=>false⟩]⟩
      else none
     |_,_=>none
    |_,_,_,_=>none
  | .store t x v=>
    match o.dst,S.ev x,cW (S.ev v)with
    |none,.ptr n g off,some cs=>
     if g=S.gen n∧cs.length=cX P t∧0<cX P t∧off+cs.length≤(S.box n).length then
      match v with
      | .tmp s=>some ⟨none,.undef,fun _=>false,dg s,[⟨n,g,(S.box n).take off++cs++(S.box n).drop (off+cs.length),fun k=>if off≤k∧k<off+cs.length then cs.length==1&&S.own (.t s 0)&&(match S.ev v with| .d (.slice _)=>true|_=>false)else S.own (.b n k)⟩]⟩
      |v=>some ⟨none,.undef,fun _=>false,fun _=>false,[⟨n,g,(S.box n).take off++cs++(S.box n).drop (off+cs.length),fun k=>if off≤k∧k<off+cs.length then(match v with| .const c=>fQ c|_=>false)else S.own (.b n k)⟩]⟩
     else none
    |_,_,_=>none
  | .call {callee:= .builtin .append,args,argTypes}=>
    if rU tr o=true then(match lH S args.toList with|some m=>if xr tr o=true∧kN tr o=true then(iz P tr S o args.toList argTypes.toList).bind (mH S m)else none|none=>none)
    else iz P tr S o args.toList argTypes.toList
  | .build t ps=>
    if(Ke tr o).isSome=true then wZ P S o t ps.toList (Ke tr o)
    else if rU tr o=true then(fw P S o).map fun r=>match fk P S t ps.toList with|some s=>⟨o.dst,r.1,fun j=>(j==0&&S.own (.t s 0))||jn P t ps.toList j,dg s,[]⟩|none=>⟨o.dst,r.1,fun j=>jn P t ps.toList j,fun _=>false,[]⟩
    else(fw P S o).map fun r=>⟨o.dst,r.1,fun _=>r.2,fun _=>false,[]⟩
  | .buildSlice t len ps=>
    if kN tr o=true then(if rU tr o=true then ll P S o t len ps else sk P S o t len ps.toList)
    else(fw P S o).map fun r=>⟨o.dst,r.1,fun _=>r.2,fun _=>false,[]⟩
  | .makeMap _ none=>zn S o
  | .insert t m k x=>uq P S o t m k x
  | .call {callee:= .builtin .copy,args,argTypes}=>x7 P S o args.toList argTypes.toList
  | .lookup t m k ok=>(Qv P S.gen S.box t (S.ev m) (S.ev k) ok).map fun r=>⟨o.dst,r,fun _=>false,fun _=>false,[]⟩
  | .convert src dst x=>
    if iH tr o=true then uF P S o src dst x
    else(fw P S o).map fun r=>⟨o.dst,r.1,fun _=>r.2,fun _=>false,[]⟩
  |_=>(fw P S o).map fun r=>⟨o.dst,r.1,fun _=>r.2,fun _=>false,[]⟩
 else none
def A7(tr:List Nat)(o:Oper):Bool:=match o.dst with|some d=>tr.contains (d+50000)|none=>false
def ej:Op→Option Operand
 | .indexAddr _ x _=>some x
 | .load _ x=>some x
 |_=>none
def zC:PV→Bool
 | .cptr _=>true
 | .d _=>true
 |_=>false
def A8(tr:List Nat)(o:Oper):Bool:=match o.dst with|some d=>tr.contains (d+70000)|none=>false
def HV(tr:List Nat)(o:Oper):Bool:=match o.dst with|some d=>tr.contains (d+60000)&&decide (d<10000)|none=>false
def zi(tr:List Nat)(fo n:Nat):Bool:=tr.all fun x=> !(decide (60000≤x)&&decide (x<70000)&&n==fo+(x-60000))
def E6(tr:List Nat)(fo:Nat):PV→Bool
 | .cptr _=>true
 | .d _=>true
 | .ptr n _ _=>zi tr fo n
 | .bsl n _ _ _ _=>zi tr fo n
 |_=>false
def A9(tr:List Nat)(o:Oper):Bool:=match o.dst with|some d=>tr.contains (d+90000)|none=>false
def Dc(tr:List Nat)(fo:Nat):PV→Bool
 | .cptr _=>true
 | .d _=>true
 | .ptr n _ _=> !zi tr fo n
 | .bsl n _ _ _ _=> !zi tr fo n
 |_=>false
def nF(tr:List Nat)(o:Oper):Bool:=match o.dst with|some d=>tr.contains (d+100000)|none=>tr.contains 100000
def g8(tr:List Nat)(S:PS)(o:Oper):Bool:=
 match ej o.op with
 |some x=>(!A7 tr o||(zC (S.ev x)&& !lf tr o&& !iH tr o))&&(!A8 tr o||(E6 tr S.fo (S.ev x)&& !lf tr o&& !iH tr o))&&(!A9 tr o||(Dc tr S.fo (S.ev x)&& !lf tr o&& !iH tr o))
 |none=>true
def II:List Nat→Nat→Option Nat
 | [],_=>none
 |x::r,d=>if 3000000≤x∧(x-3000000)/1000=d then some (x % 1000)else II r d
def gu(tr:List Nat)(o:Oper):Option (Nat×Operand):=
 match o.op with
 | .indexAddr _ x _=>match o.dst with|some d=>(II tr d).map fun m=>(m,x)|none=>none
 | .load _ x=>match o.dst with|some d=>(II tr d).map fun m=>(m,x)|none=>none
 | .store _ x (.tmp s)=>(II tr (2000+s)).map fun m=>(m,x)
 |_=>none
def M0(tr:List Nat)(o:Oper):Option Nat:=
 match o.op with
 | .alloc _=>match o.dst with|some d=>if II tr d=some d then some d else none|none=>none
 |_=>none
def vo(n:Nat):PV→Bool
 | .ptr n' _ _=>n'==n
 | .bsl n' _ _ _ _=>n'==n
 |_=>false
def gT(tr:List Nat)(S:PS)(o:Oper):Bool:=
 match gu tr o with
 |some (m,x)=>vo (S.fo+m) (S.ev x)&&((ej o.op).isNone||(!lf tr o&& !iH tr o))
 |none=>true
def gx(P:Program)(N:Nat)(tr:List Nat)(S:PS)(o:Oper):Option dp:=if(g8 tr S o&&gT tr S o)=true then dO P N tr S o else none
section inv
variable {w:World} {fr:Nat→Option Nat} {β:Nat→hU} {gen:Nat→Nat} {v:Value}
theorem eT{k:IntKind}{n:Int}(h:da w fr β gen v (.d (.int k n))):v= .int k n:=by
 cases h with|d v x h=>cases h;rfl
theorem kz{b:Bool}(h:da w fr β gen v (.d (.bool b))):v= .bool b:=by
 cases h with|d v x h=>cases h;rfl
theorem iI{s:List UInt8}(h:da w fr β gen v (.d (.str s))):v= .string ⟨s.toArray⟩:=by
 cases h with|d v x h=>cases h;rfl
theorem fH{x:DV}(h:da w fr β gen v (.d x)):eB w fr v x:=by cases h;assumption
theorem Gl{n g o:Nat}(h:da w fr β gen v (.ptr n g o))(hg:g=gen n):v= .pointer (some ⟨(β n).b,o,none⟩)∧0<g:=by
 cases h with|ptr a n g o h0 hle hs h hk=>exact⟨by rw[h hg],h0⟩
theorem lg{n g l sz:Nat}{ag:Bool}(h:da w fr β gen v (.bsl n g l sz ag)): ∃A cap,v= .slice A l cap∧0<g∧0<sz∧(g=gen n→(0<(β n).c→A=some ⟨(β n).b,0,none⟩)∧l≤cap∧cap*sz=(β n).c):=by
 cases h with|bsl A n g l sz cap ag h0 hle hs hl h hk=>exact⟨A,cap,rfl,h0,hs,h⟩
theorem JA{n g o:Nat}(h:da w fr β gen v (.ptr n g o))(hg:g=gen n):(β n).k=false:=by cases h with|ptr a n g o h0 hle hs h hk=>exact hk hg
theorem o9{n g l sz:Nat}{ag:Bool}(h:da w fr β gen v (.bsl n g l sz ag))(hg:g=gen n):(β n).k=false:=by cases h with|bsl A n g l sz cap ag h0 hle hs hl h hk=>exact hk hg
theorem PH{n g l sz:Nat}{ag:Bool}{A:Option Addr}{cap:Nat}(h:da w fr β gen (.slice A l cap) (.bsl n g l sz ag)):l≤cap:=by cases h with|bsl A n g l sz cap ag h0 hle hs hl h hk=>exact hl
theorem xu{n g lo l sz:Nat}{ag ti:Bool}(h:da w fr β gen v (.view n g lo l sz ag ti)): ∃A cap,v= .slice A l cap∧0<g∧0<sz∧l≤cap∧(ti=true→cap=l)∧(g=gen n→0<l→0<(β n).c∧A=some ⟨(β n).b,lo*sz,none⟩)∧(g=gen n→(β n).k=false):=by
 cases h with|view A n g lo l sz cap ag ti h0 hle hs hl hti h hk=>exact⟨A,cap,rfl,h0,hs,hl,hti,h,hk⟩
theorem KH{n g:Nat}(h:da w fr β gen v (.mp n g)): ∃r,v= .map (some r)∧0<g∧g≤gen n∧(g=gen n→r=(β n).b∧(β n).k=true∧(β n).c=1):=by
 cases h with|mp r n g h0 hle h hk=>exact⟨r,rfl,h0,hle,fun e=>⟨h e,hk e⟩⟩
theorem EB{cs:List PV}(h:da w fr β gen v (.pa cs)): ∃vs:List Value,v= .agg vs.toArray∧vs.length=cs.length∧(∀u∈vs,one u)∧ ∀(k:Nat) (u:Value) (p:PV),vs[k]? =some u→cs[k]? =some p→da w fr β gen u p:=by
 cases h with|pa vs cs hl h1 h=>exact⟨vs,rfl,hl,h1,h⟩
end inv
theorem eX{w:World}{fr:Nat→Option Nat}{v:Value}(h:one v):eB w fr v (dh v):=by
 unfold dh;split
 ·exact .int _ _
 ·exact .bool _
 ·rename_i s;have:=eB.str (w:=w) (fr:=fr) s.data.toList
  simpa using this
 ·exact .slice none 0 0 (fun _=>undef) [] (Nat.le_refl _) (by simp) (by simp) (by simp) (by simp[flat])
 ·rename_i v h1 h2 h3 h4;exact .opq _ (fun b e=>h2 b e) h
theorem mz{w:World}{fr:Nat→Option Nat}{β:Nat→hU}{gen:Nat→Nat}(v:Value):da w fr β gen v (ofConst v):=by
 unfold ofConst;split
 ·rename_i vs;split
  ·rename_i hall;simp only[List.all_eq_true]at hall;have:=eB.agg (w:=w) (fr:=fr) vs.toList (vs.toList.map dh) (by simp) (fun v hv=>hall v hv) (fun k v p hv hp=>by
    rw[List.getElem?_map,hv]at hp;simp at hp;subst hp;exact eX (hall v (List.mem_of_getElem? hv)))
   exact .d _ _ (by simpa using this)
  ·exact .any _ (by simp)
 ·rename_i vs;split
  ·rename_i h0;obtain rfl:vs= #[]:=a_ h0;exact .tup [] [] rfl (by simp)
  ·exact .any _ (by simp)
 ·rename_i h1 h2;exact .d _ _ (eX (by cases v<;>first|rfl|exact absurd rfl (h1 _)|exact absurd rfl (h2 _)))
theorem lz{w:World}{fr:Nat→Option Nat}{β:Nat→hU}{gen:Nat→Nat}:da w fr β gen undef .undef:= .tup [] [] rfl (by simp)
section
variable {N:Nat} {tch:Env} {w0:World} {fr0:Nat→Option Nat} {S:PS} {a:Act} {w:World} {fr:Nat→Option Nat} {β:Nat→hU}
theorem dC.ev(h:dC N tch w0 fr0 S a w fr β)(x:Operand):da w fr β S.gen (a.eval x) (S.ev x):=by
 cases x with
 |tmp t=>exact h.vals t
 |const v=>exact mz v
 |global g=>exact .any _ (by simp[Act.eval])
 |func f=>exact .fn f [] [] rfl (by simp)
end
section types
variable {P:Program} {w:World}
theorem DA(t:TypeId):cX P t=P.cellsOf t:=by
 unfold cX Program.cellsOf
 cases h:P.info? t<;>simp[Go.sizeOf,typeInfo,h]
theorem eG{t:TypeId}(h:0<cX P t):(Go.sizeOf t).run P w= .ok (cX P t) w:=by
 rw[DA]at*
 unfold Program.cellsOf at*
 cases hi:P.info? t with
 |none=>simp[hi]at h
 |some i=>simp[Go.sizeOf,typeInfo,hi]
theorem lh{t:TypeId}(h:0<cX P t): ∃i,P.info? t=some i∧i.size=cX P t:=by
 rw[DA]at*
 unfold Program.cellsOf at*
 cases hi:P.info? t with
 |none=>simp[hi]at h
 |some i=>exact⟨i,rfl,by simp⟩
theorem fq{t:TypeId}{z:Value}(h:eQ P t=some z): ∃i,P.info? t=some i∧i.zero=some z:=by
 unfold eQ at h
 cases hi:P.info? t with
 |none=>simp[typeInfo,hi]at h
 |some i=>simp[typeInfo,hi]at h;exact⟨i,rfl,h⟩
theorem pX{t:TypeId}{n:Nat}(h:yf P t=some n): ∃i,P.info? t=some i∧i.bytes=n:=by
 unfold yf at h
 cases hi:P.info? t with
 |none=>simp[typeInfo,hi]at h
 |some i=>simp[typeInfo,hi]at h;exact⟨i,rfl,h⟩
theorem fg{t:TypeId}{b:Bool}(h:dL P t=some b):(isAgg t).run P w= .ok b w:=by
 unfold dL at h
 cases hu:P.underlying t with
 |none=>simp[hu]at h
 |some d=>
  simp only[isAgg,Sem.run_bind,underlying,run_program,aa,hu];rw[hu]at h
  cases d<;>simp at h<;>subst h<;>rfl
theorem dy{t e:TypeId}(h:kP P t=some e):P.underlying t=some (.slice e):=by
 unfold kP at h
 split at h<;>simp_all
theorem jw{t:TypeId}{f off:Nat}{ft:TypeId}(h:c_ P t f=some (off,ft)): ∃fs x,P.underlying t=some (.struct fs)∧fs[f]? =some x∧x.offset=off∧x.type=ft:=by
 unfold c_ at h
 split at h
 ·rename_i fs hu
  cases hx:fs[f]? with
  |none=>simp[hx]at h
  |some x=>simp[hx]at h;exact⟨fs,x,hu,hx,h.1,h.2⟩
 ·simp at h
end types
theorem Jk{P:Program}{w:World}{op:BinOp}{t:TypeId}{k:IntKind}{a b:Int}{c:Bool}(h:pf op a b=some c):(binOp op t (.int k a) (.int k b)).run P w= .ok (.bool c) w:=by
 cases op<;>simp only[pf,ab,reduceCtorEq]at h<;>subst h<;>simp[binOp,Op.intCmp]<;>rfl
theorem LZ{P:Program}{w:World}{op:BinOp}{t:TypeId}{k:IntKind}{a b c:Int}(h:IJ op k a b=some c):(binOp op t (.int k a) (.int k b)).run P w= .ok (.int k c) w:=by
 cases op<;>simp only[IJ,ab,reduceCtorEq]at h<;>first
  |(subst h;simp[binOp,Op.intArith,Op.intBits];done)
  |(split at h
    ·cases h
    ·rename_i h0;simp only[ab]at h;subst h;simp[binOp,Op.intDiv,h0])
theorem LV{P:Program}{w:World}{op:BinOp}{t:TypeId}{k k':IntKind}{a b c:Int}(h:Rb op k a b=some c):(binOp op t (.int k a) (.int k' b)).run P w= .ok (.int k c) w:=by
 unfold Rb at h
 split at h
 ·cases h
 ·rename_i h0
  cases op<;>simp only[ab,reduceCtorEq]at h<;>subst h<;>simp only[binOp,Op.shift,if_neg h0]<;>rfl
theorem pq(l:List UInt8):(ByteArray.mk l.toArray).toList=l:=by rw[ByteArray.toList_eq]
theorem nn(l:List UInt8):(ByteArray.mk l.toArray).size=l.length:=by simp[ByteArray.size]
theorem Jj{P:Program}{w:World}{op:BinOp}{t:TypeId}{a b:List UInt8}{c:Bool}(h:E5 op a b=some c):(binOp op t (.string ⟨a.toArray⟩) (.string ⟨b.toArray⟩)).run P w= .ok (.bool c) w:=by
 have e:(a==b)=decide (a=b):=by
  by_cases h:a=b<;>simp[h]
 cases op<;>simp only[E5,ab,reduceCtorEq]at h<;>subst h<;>simp only[binOp,Op.stringOp,pq,strLt,e]<;>rfl
theorem Jl{P:Program}{w:World}{t:TypeId}{a b:List UInt8}(h:a.length+b.length≤9223372036854775807):(binOp .add t (.string ⟨a.toArray⟩) (.string ⟨b.toArray⟩)).run P w= .ok (.string ⟨(a++b).toArray⟩) w:=by
 have h3:ByteArray.mk a.toArray++ByteArray.mk b.toArray=ByteArray.mk (a++b).toArray:=by
  apply ByteArray.ext
  simp
 have h4: ¬(IntKind.max .i64<((a.length+b.length:Nat):Int)):=by
  have:IntKind.max .i64=9223372036854775807:=rfl;omega
 simp only[binOp,Op.stringOp,nn,h3,gt_iff_lt,if_neg h4];rfl
theorem LY{P:Program}{w:World}{op:BinOp}{t:TypeId}{a b c:Bool}(ht:P.underlying t=some .bool)(h:Vx op a b=some c):(binOp op t (.bool a) (.bool b)).run P w= .ok (.bool c) w:=by
 cases op<;>simp only[Vx,ab,reduceCtorEq]at h<;>subst h
 ·exact run_eql_bool _ _ _ _ ht
 ·exact run_neq_bool _ _ _ _ ht
theorem k_{P:Program}{w:World}{op:BinOp}{t:TypeId}{x y:Operand}{u v:Value}(h:(∀vs,u≠ .agg vs)∧u≠ .nilIface):(eqGuard op t x y u v).run P w= .ok () w:=by
 unfold eqGuard
 cases op<;>first
  |rfl
  |(cases u<;>first|rfl|exact absurd rfl (h.1 _)|exact absurd rfl h.2)
theorem Gm{w:World}{fr:Nat→Option Nat}{β:Nat→hU}{gen:Nat→Nat}{v:Value}{cs:List DV}(h:da w fr β gen v (.d (.agg cs))):
 ∃vs:List Value,v= .agg vs.toArray∧vs.length=cs.length∧(∀u∈vs,one u)∧ ∀(k:Nat) (u:Value) (p:DV),vs[k]? =some u→cs[k]? =some p→eB w fr u p:=by
 cases h with
 |d v x h=>cases h with|agg vs cs hl h1 h=>exact⟨vs,rfl,hl,h1,h⟩
theorem DH{P:Program}(w:World)(d:Nat)(t:TypeId)(k k1:IntKind)(a b:Int)(h:P.underlying t=some (.int k)):(Op.equalIn (d+1) t (.int k1 a) (.int k1 b)).run P w= .ok (a==b) w:=by
 simp[Op.equalIn,aj h]
theorem FU{P:Program}{w:World}{fr:Nat→Option Nat}{us vs:List Value}{xs ys:List DV}(d:Nat)(hl:us.length=xs.length)(hl':vs.length=ys.length)
 (hu: ∀(k:Nat) (u:Value) (p:DV),us[k]? =some u→xs[k]? =some p→eB w fr u p) (hv: ∀(k:Nat) (u:Value) (p:DV),vs[k]? =some u→ys[k]? =some p→eB w fr u p)
 {t:TypeId} {o:Nat} {b:Bool} (hb:Pp (P.underlying t) xs[o]? ys[o]? =some b):
 ∃u v,(part t us.toArray o).run P w= .ok u w∧(part t vs.toArray o).run P w= .ok v w∧(Op.equalIn (d+1) t u v).run P w= .ok b w:=by
 have key: ∃u v,us[o]? =some u∧vs[o]? =some v∧dL P t=some false∧(Op.equalIn (d+1) t u v).run P w= .ok b w:=by
  have hr: ∀ {x y:DV},xs[o]? =some x→ys[o]? =some y→ ∃u v,us[o]? =some u∧vs[o]? =some v∧da w fr (fun _=>⟨0,0,false⟩) (fun _=>0) u (.d x)∧da w fr (fun _=>⟨0,0,false⟩) (fun _=>0) v (.d y):=by
   intro x y hx hy;have h1:o<us.length:=by rw[hl];exact(List.getElem?_eq_some_iff.1 hx).1
   have h2:o<vs.length:=by rw[hl'];exact(List.getElem?_eq_some_iff.1 hy).1
   exact⟨_,_,List.getElem?_eq_getElem h1,List.getElem?_eq_getElem h2,.d _ _ (hu _ _ _ (List.getElem?_eq_getElem h1) hx),.d _ _ (hv _ _ _ (List.getElem?_eq_getElem h2) hy)⟩
  unfold Pp at hb
  split at hb
  ·rename_i k k1 a k2 c hty hx hy
   split at hb
   ·rename_i ek;subst ek
    cases hb
    obtain⟨u,v,g1,g2,e1,e2⟩:=hr hx hy;refine⟨u,v,g1,g2,by simp[dL,hty],?_⟩
    rw[eT e1,eT e2,DH w d t k k1 a c hty];by_cases h:a=c<;>simp[h]
   ·cases hb
  ·rename_i a c hty hx hy
   cases hb
   obtain⟨u,v,g1,g2,e1,e2⟩:=hr hx hy;refine⟨u,v,g1,g2,by simp[dL,hty],?_⟩
   rw[kz e1,kz e2,run_equalIn_bool' w d t a c hty]
  ·rename_i a c hty hx hy
   cases hb
   obtain⟨u,v,g1,g2,e1,e2⟩:=hr hx hy;refine⟨u,v,g1,g2,by simp[dL,hty],?_⟩
   rw[iI e1,iI e2,run_equalIn_string w d t _ _ hty,pq,pq]
   congr 1
   by_cases h:a=c<;>simp[h]
  ·cases hb
 obtain⟨u,v,hu',hv',ha,he⟩:=key;exact⟨u,v,by simp[part,fg ha,hu'],by simp[part,fg ha,hv'],he⟩
theorem wC{P:Program}{w:World}{us vs:Array Value}{d:Nat}{f:Field}{fs:List Field}{b r:Bool}(hn: ¬f.name= "_")
 (hk: ∃u v,(part f.type us f.offset).run P w= .ok u w∧(part f.type vs f.offset).run P w= .ok v w∧(Op.equalIn d f.type u v).run P w= .ok b w) (hrest:(Op.eqFields d us vs fs).run P w= .ok r w):
 (Op.eqFields d us vs (f::fs)).run P w= .ok (b&&r) w:=by
 obtain⟨u,v,p1,p2,he⟩:=hk;simp only[Op.eqFields,Sem.run_ite,Sem.run_bind];rw[if_pos (by simpa using hn),p1]
 simp only[aa];rw[p2];simp only[aa];rw[he];simp only[aa]
 cases b
 ·simp
 ·simpa using hrest
theorem FW{P:Program}{w:World}{fr:Nat→Option Nat}{us vs:List Value}{xs ys:List DV}(d:Nat)(hl:us.length=xs.length)(hl':vs.length=ys.length)
 (hu: ∀(k:Nat) (u:Value) (p:DV),us[k]? =some u→xs[k]? =some p→eB w fr u p) (hv: ∀(k:Nat) (u:Value) (p:DV),vs[k]? =some u→ys[k]? =some p→eB w fr u p):
 ∀(fs:List Field) (r:Bool),Pu P xs ys fs=some r→(Op.eqFields (d+1) us.toArray vs.toArray fs).run P w= .ok r w
 | [],r,h=>by simp[Pu]at h;subst h;rfl
 |f::fs,r,h=>by
  simp only[Pu]at h
  split at h
  ·cases h
  ·rename_i hn;simp only[Option.bind_eq_some_iff,Option.map_eq_some_iff]at h;obtain⟨b,hb,r',hr',rfl⟩:=h;exact wC hn (FU d hl hl' hu hv hb) (FW d hl hl' hu hv fs r' hr')
theorem FV{P:Program}{w:World}{fr:Nat→Option Nat}{us vs:List Value}{xs ys:List DV}(d:Nat)(hl:us.length=xs.length)(hl':vs.length=ys.length)
 (hu: ∀(k:Nat) (u:Value) (p:DV),us[k]? =some u→xs[k]? =some p→eB w fr u p) (hv: ∀(k:Nat) (u:Value) (p:DV),vs[k]? =some u→ys[k]? =some p→eB w fr u p):
 ∀(fs:List Field) (r:Bool),Pt P xs ys fs=some r→(Op.eqFields (d+2) us.toArray vs.toArray fs).run P w= .ok r w
 | [],r,h=>by simp[Pt]at h;subst h;rfl
 |f::fs,r,h=>by
  simp only[Pt]at h
  split at h
  ·cases h
  ·rename_i hn;simp only[Option.bind_eq_some_iff,Option.map_eq_some_iff]at h;obtain⟨b,hb,r',hr',rfl⟩:=h;refine wC hn ?_ (FV d hl hl' hu hv fs r' hr');unfold Ps at hb
   split at hb
   ·rename_i gs hty
    split at hb
    ·rename_i hc;obtain⟨hs,h0⟩:=hc;have ha:dL P f.type=some true:=by simp[dL,hty]
     have hp: ∀(zs:List Value),(part f.type zs.toArray f.offset).run P w= .ok (.agg (((zs.drop f.offset).take (cX P f.type)).toArray)) w:=by
      intro zs;simp only[part,Sem.run_bind,fg ha,aa,if_true,eG h0,aw]
      congr 2
      simp[a9]
     refine⟨_,_,hp us,hp vs,?_⟩;have hf:P.fieldsOf f.type=gs:=by simp[Program.fieldsOf,hty]
     rw[run_equalIn_struct w (d+1) f.type _ _ (by rw[hf];exact hty) hs,hf]
     have sub: ∀ {zs:List Value} {cs:List DV},(∀(k:Nat) (u:Value) (p:DV),zs[k]? =some u→cs[k]? =some p→eB w fr u p)→
      ∀(k:Nat) (u:Value) (p:DV),((zs.drop f.offset).take (cX P f.type))[k]? =some u→((cs.drop f.offset).take (cX P f.type))[k]? =some p→eB w fr u p:=by
      intro zs cs hz k u p hu hp;rw[ah]at hu hp
      split at hu
      ·rename_i hk;rw[if_pos hk]at hp;rw[ak]at hu hp;exact hz _ u p hu hp
      ·cases hu
     exact FW d (by simp[hl]) (by simp[hl']) (sub hu) (sub hv) gs.toList b hb
    ·cases hb
   ·exact FU (d+1) hl hl' hu hv hb
theorem FX{P:Program}{w:World}{fr:Nat→Option Nat}{β:Nat→hU}{gen:Nat→Nat}{t:TypeId}{u v:Value}{xs ys:List DV}{r:Bool}
 (hu:da w fr β gen u (.d (.agg xs))) (hv:da w fr β gen v (.d (.agg ys))) (h:N5 P t xs ys=some r):
 ∃us vs,u= .agg us∧v= .agg vs∧P.eqGuardType P.depth t=false∧(Op.equalIn 10000 t (.agg us) (.agg vs)).run P w= .ok r w:=by
 obtain⟨us,rfl,l1,_,r1⟩:=Gm hu;obtain⟨vs,rfl,l2,_,r2⟩:=Gm hv;unfold N5 at h
 split at h
 ·rename_i fs ht
  split at h
  ·rename_i hok;simp only[Pr,Bool.and_eq_true,Bool.not_eq_true']at hok;refine⟨_,_,rfl,rfl,hok.2,?_⟩;have hf:P.fieldsOf t=fs:=by simp[Program.fieldsOf,ht]
   rw[run_equalIn_struct w 9999 t us.toArray vs.toArray (by rw[hf];exact ht) hok.1,hf]
   exact FV 9997 l1 l2 r1 r2 _ _ h
  ·cases h
 ·cases h
theorem kh{P:Program}{w:World}{t:TypeId}{u v:Value}{r:Bool}(h1:binOp .eql t u v=(do return .bool (←Op.equal t u v)))(h2:binOp .neq t u v=(do return .bool (!(←Op.equal t u v))))
 (hb: ∀d,(Op.equalIn (d+1) t u v).run P w= .ok r w):(binOp .eql t u v).run P w= .ok (.bool r) w∧(binOp .neq t u v).run P w= .ok (.bool (!r)) w:=by
 have h3:(Op.equal t u v).run P w= .ok r w:=hb 9999;refine⟨?_,?_⟩
 ·rw[h1];simp only[Sem.run_bind,h3,aa,aw]
 ·rw[h2];simp only[Sem.run_bind,h3,aa,aw]
theorem FT{P:Program}{w:World}{fr:Nat→Option Nat}{β:Nat→hU}{gen:Nat→Nat}{t:TypeId}{x y:Operand}{u v:Value}{p q:PV}{r:Bool}
 (hu:da w fr β gen u p) (hv:da w fr β gen v q) (h:mT (P.underlying t) p q=some r):
 (∀op,(eqGuard op t x y u v).run P w= .ok () w)∧(binOp .eql t u v).run P w= .ok (.bool r) w∧(binOp .neq t u v).run P w= .ok (.bool (!r)) w:=by
 have nilp: ∀ {v:Value},da w fr β gen v (.d (.opq (.pointer none)))→v= .pointer none:=by
  intro v h
  cases fH h
  rfl
 have nilf: ∀ {v:Value},da w fr β gen v (.d (.opq .nilFunc))→v= .nilFunc:=by
  intro v h
  cases fH h
  rfl
 have ge: ∀(op:BinOp) (u v:Value),(∀vs,u≠ .agg vs)∧u≠ .nilIface→(eqGuard op t x y u v).run P w= .ok () w:=fun op u v h=>k_ h
 unfold mT at h
 split at h
 ·rename_i e n g o hty
  cases h
  cases hu with
  |ptr a n g o h0 hg hs hh=>
   rw[nilp hv];exact⟨fun op=>ge op _ _ ⟨fun _=>by simp,by simp⟩,kh rfl rfl fun d=>by simp[Op.equalIn,aj hty]⟩
 ·rename_i e cs hty
  cases h
  cases hu with
  |cptr ad us cs hs hf hc h1 hh=>
   rw[nilp hv];exact⟨fun op=>ge op _ _ ⟨fun _=>by simp,by simp⟩,kh rfl rfl fun d=>by simp[Op.equalIn,aj hty]⟩
 ·rename_i e hty
  cases h
  rw[nilp hu,nilp hv];exact⟨fun op=>ge op _ _ ⟨fun _=>by simp,by simp⟩,kh rfl rfl fun d=>by simp[Op.equalIn,aj hty]⟩
 ·rename_i a b c f caps hty
  cases h
  cases hu with
  |fn f vs caps hl hh=>
   rw[nilf hv];exact⟨fun op=>ge op _ _ ⟨fun _=>by simp,by simp⟩,kh rfl rfl fun d=>by simp[Op.equalIn,aj hty]⟩
 ·rename_i a b c f cs hty
  cases h
  cases hu with
  |bm f v cs hh=>
   rw[nilf hv];exact⟨fun op=>ge op _ _ ⟨fun _=>by simp,by simp⟩,kh rfl rfl fun d=>by simp[Op.equalIn,aj hty]⟩
 ·rename_i a b c hty
  cases h
  rw[nilf hu,nilf hv];exact⟨fun op=>ge op _ _ ⟨fun _=>by simp,by simp⟩,kh rfl rfl fun d=>by simp[Op.equalIn,aj hty]⟩
 ·cases h
theorem Ji{P:Program}{w:World}{fr:Nat→Option Nat}{β:Nat→hU}{gen:Nat→Nat}{op:BinOp}{t:TypeId}{x y:Operand}{u v:Value}{p q r:PV}
 (hu:da w fr β gen u p) (hv:da w fr β gen v q) (h:dT P op t p q=some r):
 ∃z,(do eqGuard op t x y u v;binOp op t u v:Sem Value).run P w= .ok z w∧da w fr β gen z r:=by
 unfold dT at h
 split at h
 ·rename_i xs ys
  split at h
  ·simp only[Option.map_eq_some_iff]at h;obtain⟨r',hr,rfl⟩:=h;obtain⟨us,vs,rfl,rfl,hg,he⟩:=FX (P:=P) hu hv hr;refine⟨.bool r',?_,.d _ _ (.bool _)⟩;simp only[Sem.run_bind,run_eqGuard_agg w _ t x y us vs hg,aa,run_eql_struct,he]
  ·simp only[Option.map_eq_some_iff]at h;obtain⟨r',hr,rfl⟩:=h;obtain⟨us,vs,rfl,rfl,hg,he⟩:=FX (P:=P) hu hv hr;refine⟨.bool (!r'),?_,.d _ _ (.bool _)⟩;simp only[Sem.run_bind,run_eqGuard_agg w _ t x y us vs hg,aa,run_neq_struct,he]
  ·cases h
 ·rename_i k a k' b;rw[eT hu,eT hv];simp only[Sem.run_bind,k_ (P:=P) (w:=w) (op:=op) (t:=t) (x:=x) (y:=y) (u:= .int k a) (v:= .int k' b) ⟨fun _=>by simp,by simp⟩,aa]
  split at h
  ·simp only[Option.map_eq_some_iff]at h;obtain⟨z,hz,rfl⟩:=h;exact⟨_,LV hz,.d _ _ (.int k z)⟩
  ·split at h
   ·rename_i e;subst e
    split at h
    ·rename_i c hc
     cases h
     exact⟨_,Jk hc,.d _ _ (.bool c)⟩
    ·simp only[Option.map_eq_some_iff]at h;obtain⟨z,hz,rfl⟩:=h;exact⟨_,LZ hz,.d _ _ (.int k z)⟩
   ·cases h
 ·rename_i a b;rw[iI hu,iI hv];simp only[Sem.run_bind,k_ (P:=P) (w:=w) (op:=op) (t:=t) (x:=x) (y:=y) (u:= .string ⟨a.toArray⟩) (v:= .string ⟨b.toArray⟩) ⟨fun _=>by simp,by simp⟩,aa]
  split at h
  ·split at h
   ·rename_i hl
    cases h
    exact⟨_,Jl hl,.d _ _ (.str _)⟩
   ·cases h
  ·simp only[Option.map_eq_some_iff]at h;obtain⟨z,hz,rfl⟩:=h;exact⟨_,Jj hz,.d _ _ (.bool z)⟩
 ·rename_i a b;rw[kz hu,kz hv];simp only[Sem.run_bind,k_ (P:=P) (w:=w) (op:=op) (t:=t) (x:=x) (y:=y) (u:= .bool a) (v:= .bool b) ⟨fun _=>by simp,by simp⟩,aa]
  split at h
  ·rename_i ht;simp only[Option.map_eq_some_iff]at h;obtain⟨z,hz,rfl⟩:=h;exact⟨_,LY ht hz,.d _ _ (.bool z)⟩
  ·cases h
 ·split at h
  ·simp only[Option.map_eq_some_iff]at h;obtain⟨r',hr,rfl⟩:=h;obtain⟨hg,he⟩:=FT (P:=P) (w:=w) (x:=x) (y:=y) hu hv hr;refine⟨.bool r',?_,.d _ _ (.bool _)⟩;simp only[Sem.run_bind,hg,aa,he.1]
  ·simp only[Option.map_eq_some_iff]at h;obtain⟨r',hr,rfl⟩:=h;obtain⟨hg,he⟩:=FT (P:=P) (w:=w) (x:=x) (y:=y) hu hv hr;refine⟨.bool (!r'),?_,.d _ _ (.bool _)⟩;simp only[Sem.run_bind,hg,aa,he.2]
  ·cases h
theorem LW{P:Program}{w:World}{fr:Nat→Option Nat}{β:Nat→hU}{gen:Nat→Nat}{op:UnOp}{u:Value}{p r:PV}(hu:da w fr β gen u p)(h:OI op p=some r):
 ∃z,(Op.unary op u).run P w= .ok z w∧da w fr β gen z r:=by
 unfold OI at h
 split at h
 ·rw[kz hu];cases h;exact⟨_,rfl,.d _ _ (.bool _)⟩
 ·rw[eT hu];cases h;exact⟨_,rfl,.d _ _ (.int _ _)⟩
 ·rw[eT hu];cases h;exact⟨_,rfl,.d _ _ (.int _ _)⟩
 ·cases h
section parts
variable {P:Program} {w:World} {fr:Nat→Option Nat}
theorem u7{t:TypeId}{vs:List Value}{cs:List DV}{off:Nat}{r:DV}(hl:vs.length=cs.length)(h1: ∀v∈vs,one v)
 (h: ∀(k:Nat) (v:Value) (p:DV),vs[k]? =some v→cs[k]? =some p→eB w fr v p) (hp:u9 P t cs off=some r):
 ∃z,(part t vs.toArray off).run P w= .ok z w∧eB w fr z r:=by
 unfold u9 at hp
 split at hp
 ·rename_i ha
  split at hp
  ·rename_i hle
   cases hp
   refine⟨.agg (((vs.drop off).take (cX P t)).toArray),?_,.agg _ _ (by simp[hl]) (fun v hv=>h1 v (aY (aA hv))) (fun k v p hv hp=>?_)⟩
   ·simp only[part,Sem.run_bind,fg ha,aa,if_true,eG hle.1,aw]
    congr 2
    simp[a9]
   ·rw[ah]at hv hp
    split at hv
    ·rename_i hk;rw[if_pos hk]at hp;rw[ak]at hv hp;exact h _ v p hv hp
    ·cases hv
  ·cases hp
 ·rename_i ha;have hlt:off<vs.length:=by
   rw[hl]
   exact(List.getElem?_eq_some_iff.1 hp).1
  refine⟨vs[off],?_,h off _ _ (List.getElem?_eq_getElem hlt) hp⟩;simp[part,fg ha,List.getElem?_eq_getElem hlt]
 ·cases hp
theorem nj: ∀(ps:List PV) (ds:List DV),pc ps=some ds→ps=ds.map .d
 | [],ds,h=>by simp[pc]at h;subst h;rfl
 | .d x::r,ds,h=>by
   simp only[pc,Option.map_eq_some_iff]at h;obtain⟨ds',h',rfl⟩:=h;rw[nj r ds' h'];rfl
 | .ptr _ _ _::r,ds,h=>by simp[pc]at h
 | .cptr _::r,ds,h=>by simp[pc]at h
 | .bsl _ _ _ _ _::r,ds,h=>by simp[pc]at h
 | .pa _::r,ds,h=>by simp[pc]at h
 | .fn _ _::r,ds,h=>by simp[pc]at h
 | .tup _::r,ds,h=>by simp[pc]at h
 | .any::r,ds,h=>by simp[pc]at h
theorem A3{w:World}{fr:Nat→Option Nat}{β:Nat→hU}{gen:Nat→Nat}{vs:List Value}{cs:List PV}(hl:vs.length=cs.length)(h1: ∀v∈vs,one v)
 (h: ∀(k:Nat) (v:Value) (p:PV),vs[k]? =some v→cs[k]? =some p→da w fr β gen v p):da w fr β gen (.agg vs.toArray) (Kp cs):=by
 unfold Kp;split
 ·rename_i c hc;have hs:=nj _ _ hc;subst hs;refine .d _ _ (.agg vs c (by simpa using hl) h1 fun k v p hv hp=>?_)
  exact fH (h k v (.d p) hv (by rw[List.getElem?_map,hp];rfl))
 ·exact .pa vs cs hl h1 h
theorem Cb{P:Program}{w:World}{fr:Nat→Option Nat}{β:Nat→hU}{gen:Nat→Nat}{t:TypeId}{vs:List Value}{cs:List PV}{off:Nat}{r:PV}(hl:vs.length=cs.length)(h1: ∀v∈vs,one v)
 (h: ∀(k:Nat) (v:Value) (p:PV),vs[k]? =some v→cs[k]? =some p→da w fr β gen v p) (hp:Cc P t cs off=some r):
 ∃z,(part t vs.toArray off).run P w= .ok z w∧da w fr β gen z r:=by
 unfold Cc at hp
 split at hp
 ·rename_i ha
  split at hp
  ·rename_i hle
   cases hp
   refine⟨.agg (((vs.drop off).take (cX P t)).toArray),?_,A3 (by simp[hl]) (fun v hv=>h1 v (aY (aA hv))) (fun k v p hv hp=>?_)⟩
   ·simp only[part,Sem.run_bind,fg ha,aa,if_true,eG hle.1,aw]
    congr 2
    simp[a9]
   ·rw[ah]at hv hp
    split at hv
    ·rename_i hk;rw[if_pos hk]at hp;rw[ak]at hv hp;exact h _ v p hv hp
    ·cases hv
  ·cases hp
 ·rename_i ha;have hlt:off<vs.length:=by
   rw[hl]
   exact(List.getElem?_eq_some_iff.1 hp).1
  refine⟨vs[off],?_,h off _ _ (List.getElem?_eq_getElem hlt) hp⟩;simp[part,fg ha,List.getElem?_eq_getElem hlt]
 ·cases hp
theorem ff{v:Value}{xs:List DV}(h:eB w fr v (.slice xs)): ∃(A:Option Addr) (cap sz:Nat) (us:Nat→Value),v= .slice A xs.length cap∧xs.length≤cap∧(∀x∈xs,(cells x).length=sz)∧
 (0<xs.length→ ∃ad,A=some ad∧ad.spot=none∧(∀f,fr ad.block=some f→ ∀k,k<xs.length*sz→ad.off+k<f)∧ ∀k,k<xs.length*sz→w.cell? ⟨ad.block,ad.off+k,none⟩=some (us k))∧
 (∀k,k<xs.length*sz→one (us k))∧(∀(k:Nat) (p:DV),(flat xs)[k]? =some p→eB w fr (us k) p):=by
 cases h with
 |slice A cap sz us xs hcap hsz ha h1 h=>exact⟨A,cap,sz,us,rfl,hcap,hsz,ha,h1,h⟩
theorem tJ{v:Value}{cs:List DV}(h:eB w fr v (.agg cs)): ∃vs:List Value,v= .agg vs.toArray∧vs.length=cs.length∧(∀u∈vs,one u)∧ ∀(k:Nat) (u:Value) (p:DV),vs[k]? =some u→cs[k]? =some p→eB w fr u p:=by
 cases h with
 |agg vs cs hl h1 h=>exact⟨vs,rfl,hl,h1,h⟩
theorem fz{ad:Addr}(h:ad.spot=none)(n:Nat):ad.add n=⟨ad.block,ad.off+n,none⟩:=by
 obtain⟨b,o,s⟩:=ad;simp only at h;subst h;unfold Addr.add
 split<;>simp_all
end parts
section
variable {P:Program} {N:Nat} {tch:Env} {w0:World} {fr0:Nat→Option Nat} {S:PS} {a:Act} {w:World} {fr:Nat→Option Nat} {β:Nat→hU}
theorem dC.iJ(h:dC N tch w0 fr0 S a w fr β):gH w fr w fr:=⟨rfl,rfl,rfl,Nat.le_refl _,fun _ _=>rfl,fun _ _=>rfl,h.frb⟩
theorem rh(h:dC N tch w0 fr0 S a w fr β){top l:Nat}{x:Operand}(hb:Di S top x=some l):l≤top∧ ∃k i,a.eval x= .int k i∧0≤i∧i.toNat=l∧
 ∀y code,l≤y→(Instr.sliceBound (a.eval x) y code).run P w= .ok l w:=by
 unfold Di at hb
 split at hb
 ·rename_i k i hx;have hv:=h.ev x;rw[hx]at hv;have hv:=eT hv
  split at hb
  ·rename_i hi
   cases hb
   refine⟨by omega,k,i,hv,hi.1,rfl,fun y code hy=>?_⟩
   rw[hv];exact run_sliceBound w k i y code hi.1 (by omega)
  ·cases hb
 ·cases hb
def n9(P:Program)(S:PS)(o:Oper)(a:Act)(w:World)(fr:Nat→Option Nat)(β:Nat→hU)(r:PV)(b:Bool):Prop:=
 ∃v w' fr',(execOp a.eval o).run P w= .ok (.value v) w'∧gH w fr w' fr'∧da w' fr' β S.gen v r∧(b=true→ ∃A n xs,v= .slice A n n∧r= .d (.slice xs))
theorem n9.of(h:dC N tch w0 fr0 S a w fr β){o:Oper}{s:Sem Value}{r:PV}{v:Value}(he:execOp a.eval o=(do pure (.value (←s))))(hs:s.run P w= .ok v w)(hr:da w fr β S.gen v r):n9 P S o a w fr β r false:=
 ⟨v,w,fr,by rw[he];simp[hs],h.iJ,hr,by simp⟩
theorem yt(h:dC N tch w0 fr0 S a w fr β){o:Oper}{t f:Nat}{x:Operand}{r:PV}{b:Bool}(ho:o.op= .fieldAddr t x f)(he:fw P S o=some (r,b)):n9 P S o a w fr β r b:=by
 simp only[fw,ho]at he;have hx:=h.ev x
 split at he
 ·rename_i off ft n g oo hf hp;rw[hp]at hx
  split at he
  ·rename_i hg
   cases he
   obtain⟨fs,fl,hu,hfl,rfl,rfl⟩:=jw hf
   cases hxe:a.eval x with
   |pointer oa=>
    rw[hxe]at hx
    cases hx with
    |ptr ad n g o h0 hle hs hh hk=>
     refine n9.of h (s:=Instr.fieldAt t (a.eval x) f) (by simp[execOp,ho]) (v:= .pointer (some ⟨ad.block,ad.off+fl.offset,none⟩)) ?_ ?_
     ·have hne:cX P fl.type≠0:=by omega
      rw[hxe];simp[Instr.fieldAt,underlying,hu,hfl,Instr.sureAddr,fieldPlace,eG hg,hne,fz hs]
     ·refine .ptr _ _ _ _ h0 hle rfl (fun e=>?_) hk
      rw[hh e]
   |_=>rw[hxe]at hx;cases hx
  ·cases he
 ·rename_i off ft cs hf hp;rw[hp]at hx
  split at he
  ·rename_i hg
   cases he
   obtain⟨fs,fl,hu,hfl,rfl,rfl⟩:=jw hf
   cases hxe:a.eval x with
   |pointer oa=>
    rw[hxe]at hx
    cases hx with
    |cptr ad us cs hs hff hc h1 hh=>
     refine n9.of h (s:=Instr.fieldAt t (a.eval x) f) (by simp[execOp,ho]) (v:= .pointer (some ⟨ad.block,ad.off+fl.offset,none⟩)) ?_ ?_
     ·have hne:cX P fl.type≠0:=by omega
      rw[hxe];simp[Instr.fieldAt,underlying,hu,hfl,Instr.sureAddr,fieldPlace,eG hg.1,hne,fz hs]
     ·refine .cptr ⟨ad.block,ad.off+fl.offset,none⟩ (fun k=>us (fl.offset+k)) _ rfl (fun f hf k hk=>?_) (fun k hk=>?_) (fun k hk=>?_) (fun k p hp=>?_)
      ·rw[List.length_drop]at hk;have:=hff f hf (fl.offset+k) (by omega)
       simp only;omega
      ·rw[List.length_drop]at hk;have:=hc (fl.offset+k) (by omega)
       simp only;rw[bS];exact this
      ·rw[List.length_drop]at hk;exact h1 _ (by omega)
      ·rw[ak]at hp;exact hh _ p hp
   |_=>rw[hxe]at hx;cases hx
  ·cases he
 ·cases he
theorem GP(h:dC N tch w0 fr0 S a w fr β){o:Oper}{t f:Nat}{x:Operand}{r:PV}{b:Bool}(ho:o.op= .field t x f)(he:fw P S o=some (r,b)):n9 P S o a w fr β r b:=by
 simp only[fw,ho]at he;have hx:=h.ev x
 split at he
 ·rename_i off ft cs hf hp;rw[hp]at hx;obtain⟨fs,fl,hu,hfl,rfl,rfl⟩:=jw hf;simp only[Option.map_eq_some_iff]at he;obtain⟨d,hd,he⟩:=he
  cases he
  obtain⟨vs,e,hl,h1,hh⟩:=tJ (fH hx);obtain⟨z,hz,hzr⟩:=u7 (P:=P) hl h1 hh hd;refine n9.of h (s:=Instr.field t (a.eval x) f) (by simp[execOp,ho]) (v:=z) ?_ (.d _ _ hzr)
  rw[e];simp[Instr.field,underlying,hu,hfl,asAgg,hz]
 ·rename_i off ft cs hf hp;rw[hp]at hx;obtain⟨fs,fl,hu,hfl,rfl,rfl⟩:=jw hf;simp only[Option.map_eq_some_iff]at he;obtain⟨d,hd,he⟩:=he
  cases he
  obtain⟨vs,e,hl,h1,hh⟩:=EB hx;obtain⟨z,hz,hzr⟩:=Cb (P:=P) hl h1 hh hd;refine n9.of h (s:=Instr.field t (a.eval x) f) (by simp[execOp,ho]) (v:=z) ?_ hzr
  rw[e];simp[Instr.field,underlying,hu,hfl,asAgg,hz]
 ·cases he
theorem yr(h:dC N tch w0 fr0 S a w fr β){o:Oper}{t:Nat}{x i:Operand}{r:PV}{b:Bool}(ho:o.op= .indexAddr t x i)(he:fw P S o=some (r,b)):n9 P S o a w fr β r b:=by
 simp only[fw,ho]at he;have hx:=h.ev x;have hi:=h.ev i
 split at he
 ·rename_i e xs k n ht hp hq;rw[hp]at hx;rw[hq]at hi
  split at he
  ·rename_i hb
   split at he
   ·rename_i y hy
    split at he
    ·rename_i hz
     cases he
     obtain⟨A,cap,sz,us,ev,hcap,hsz,ha,h1,hh⟩:=ff (fH hx);obtain⟨ad,rfl,hs,hf,hc⟩:=ha (by omega)
     have hsy:=hsz y (List.mem_of_getElem? hy);have esz:sz=cX P e:=by omega
     have hlt:n.toNat*sz+sz≤xs.length*sz:=by
      rw[←bL];exact aN _ (by omega)
     refine n9.of h (s:=Instr.indexAt t (a.eval x) (a.eval i)) (by simp[execOp,ho]) (v:= .pointer (some ⟨ad.block,ad.off+n.toNat*sz,none⟩)) ?_ ?_
     ·rw[ev,eT hi];simp[Instr.indexAt,underlying,dy ht,asIntOf,hb,eG hz.2,fz hs,esz]
     ·refine .cptr ⟨ad.block,ad.off+n.toNat*sz,none⟩ (fun k=>us (n.toNat*sz+k)) _ rfl (fun f hff k hk=>?_) (fun k hk=>?_) (fun k hk=>?_) (fun k p hp=>?_)
      ·have:=hf f hff (n.toNat*sz+k) (by omega)
       simp only;omega
      ·have:=hc (n.toNat*sz+k) (by omega)
       simp only;rw[bS];exact this
      ·exact h1 _ (by omega)
      ·refine hh _ p ?_;have hk:k<sz:=by
        have:=(List.getElem?_eq_some_iff.1 hp).1;omega
       rw[tg hsz _ y hy k hk];exact hp
    ·cases he
   ·cases he
  ·cases he
 ·rename_i e n g len sz ag k m ht hp hq;rw[hp]at hx;rw[hq]at hi
  split at he
  ·rename_i hb
   cases he
   obtain⟨A,cap,ev,h0,hsz,hA⟩:=lg hx;have hA:=hA hb.2.2.1;have hgn:0<S.gen n:=by rw[←hb.2.2.1];exact h0
   have hbx:=h.boxes n hgn;have hl0:0<len:=by omega
   have hc:0<(β n).c:=Nat.lt_of_lt_of_le (aX hl0 hsz) (ao hb.2.2.2.2 (hbx.len (.inl (o9 hx hb.2.2.1))));obtain⟨hA1,_,_⟩:=hA;have hA1:=hA1 hc;subst hA1;refine n9.of h (s:=Instr.indexAt t (a.eval x) (a.eval i)) (by simp[execOp,ho]) (v:= .pointer (some ⟨(β n).b,m.toNat*sz,none⟩)) ?_ ?_
   ·rw[ev,eT hi];have hz:(Go.sizeOf e).run P w= .ok sz w:=by
     have:=eG (P:=P) (w:=w) (t:=e) (by omega)
     rw[hb.2.2.2.1]at this;exact this
    simp[Instr.indexAt,underlying,dy ht,asIntOf,hb.1,hb.2.1,hz,fz]
   ·exact .ptr _ _ _ _ h0 (by omega) rfl (fun e=>rfl) (o9 hx)
  ·cases he
 ·cases he
theorem GO(h:dC N tch w0 fr0 S a w fr β){o:Oper}{t:Nat}{x i:Operand}{r:PV}{b:Bool}(ho:o.op= .index t x i)(he:fw P S o=some (r,b)):n9 P S o a w fr β r b:=by
 simp only[fw,ho]at he;have hx:=h.ev x;have hi:=h.ev i
 split at he
 ·rename_i s k n ht hp hq;rw[hp]at hx;rw[hq]at hi
  split at he
  ·rename_i hb
   cases he
   refine n9.of h (s:=Instr.index t (a.eval x) (a.eval i)) (by simp[execOp,ho]) (v:= .int .u8 (s.getD n.toNat 0).toNat) ?_ (.d _ _ (.int _ _))
   rw[iI hx,eT hi,run_index_string _ _ _ _ _ ht];have hsz:(ByteArray.mk s.toArray).size=s.length:=nn s;rw[dif_pos ⟨hb.1,by rw[hsz];exact hb.2⟩]
   congr 2
   have hlt:n.toNat<s.length:=by omega
   have:(ByteArray.mk s.toArray)[n.toNat]'(by rw[hsz];exact hlt)=s.getD n.toNat 0:=by
    simp[List.getD_eq_getElem?_getD,List.getElem?_eq_getElem hlt];rfl
   rw[this]
  ·cases he
 ·cases he
end
theorem zN{sz:Nat}: ∀(xs:List DV) (_: ∀x∈xs,(cells x).length=sz) (h:Nat),flat (xs.take h)=(flat xs).take (h*sz)
 | [],_,h=>by simp[flat]
 |x::xs,hz,0=>by simp[flat]
 |x::xs,hz,h+1=>by
  have hx:=hz x List.mem_cons_self;rw[bd,dS,dS,zN xs (fun y hy=>hz y (al _ hy)) h,bL,List.take_append]
  rw[List.take_of_length_le (show(cells x).length≤h*sz+sz by omega),show h*sz+sz-(cells x).length=h*sz by omega]
theorem zO{sz:Nat}: ∀(xs:List DV) (_: ∀x∈xs,(cells x).length=sz) (l:Nat),flat (xs.drop l)=(flat xs).drop (l*sz)
 | [],_,h=>by simp[flat]
 |x::xs,hz,0=>by simp
 |x::xs,hz,l+1=>by
  have hx:=hz x List.mem_cons_self;rw[a8,dS,zO xs (fun y hy=>hz y (al _ hy)) l,bL,List.drop_append]
  rw[List.drop_eq_nil_of_le (show(cells x).length≤l*sz+sz by omega),show l*sz+sz-(cells x).length=l*sz by omega,List.nil_append]
theorem ss: ∀(xs:List DV) (s:List UInt8),eE xs=some s→ ∃ns:List Int,xs=ns.map (DV.int .u8)∧s=ns.map fun n=>UInt8.ofNat n.toNat
 | [],s,h=>by simp[eE]at h;exact⟨[],rfl,by simp[h]⟩
 | .int .u8 n::r,s,h=>by
   simp only[eE,Option.map_eq_some_iff]at h;obtain⟨s',h',rfl⟩:=h;obtain⟨ns,rfl,rfl⟩:=ss r s' h';exact⟨n::ns,rfl,rfl⟩
 | .int .i8 n::r,s,h=>by simp[eE]at h
 | .int .i16 n::r,s,h=>by simp[eE]at h
 | .int .i32 n::r,s,h=>by simp[eE]at h
 | .int .i64 n::r,s,h=>by simp[eE]at h
 | .int .u16 n::r,s,h=>by simp[eE]at h
 | .int .u32 n::r,s,h=>by simp[eE]at h
 | .int .u64 n::r,s,h=>by simp[eE]at h
 | .bool _::r,s,h=>by simp[eE]at h
 | .str _::r,s,h=>by simp[eE]at h
 | .slice _::r,s,h=>by simp[eE]at h
 | .agg _::r,s,h=>by simp[eE]at h
 | .opq _::r,s,h=>by simp[eE]at h
section
variable {w:World} {fr:Nat→Option Nat}
theorem eB.cut{A:Option Addr}{cap sz:Nat}{xs:List DV}(h:eB w fr (.slice A xs.length cap) (.slice xs))(hsz: ∀x∈xs,(cells x).length=sz){l hh m:Nat}(h1:l≤hh)(h2:hh≤xs.length)(h3:hh≤m)(_h4:m≤cap):
 eB w fr (sliced A l hh m sz) (.slice ((xs.take hh).drop l)):=by
 obtain⟨A',cap',sz',us,e,hcap,hsz',ha,ho,hr⟩:=ff h
 cases e
 have hl:((xs.take hh).drop l).length=hh-l:=by simp;omega
 rw[sliced,show(hh-l)=((xs.take hh).drop l).length from hl.symm]
 refine .slice _ _ sz (fun k=>us (l*sz+k)) _ (by rw[hl];omega) (fun x hx=>hsz x (aA (aY hx))) (fun h0=>?_) (fun k hk=>?_) (fun k p hp=>?_)
 all_goals rw[hl]at*
 ·have hpos:0<xs.length:=by omega
  obtain⟨ad,rfl,hs,hf,hc⟩:=ha hpos;obtain⟨x,hx⟩:=aC hpos;have es:sz'=sz:=by rw[←hsz x hx,hsz' x hx]
  subst es;have hle:l*sz'+(hh-l)*sz'≤xs.length*sz':=by
   rw[←aK];exact aN _ (by omega)
  refine⟨ad.add (l*sz'),by rw[if_neg (by omega)];rfl,by rw[fz hs],fun f hff k hk=>?_,fun k hk=>?_⟩
  ·rw[fz hs]at hff⊢;have:=hf f hff (l*sz'+k) (by omega)
   simp only;omega
  ·rw[fz hs];have:=hc (l*sz'+k) (by omega)
   simp only;rw[bS];exact this
 ·have hpos:0<xs.length:=by
   rcases az xs.length with h0|h0
   ·have:hh-l=0:=by omega
    rw[this,bM]at hk;omega
   ·exact h0
  obtain⟨x,hx⟩:=aC hpos;have es:sz'=sz:=by rw[←hsz x hx,hsz' x hx]
  subst es;have hle:l*sz'+(hh-l)*sz'≤xs.length*sz':=by
   rw[←aK];exact aN _ (by omega)
  exact ho _ (by omega)
 ·rw[zO _ (fun x hx=>hsz x (aA hx)),zN _ hsz,ak,ah]at hp
  split at hp
  ·exact hr _ p hp
  ·cases hp
end
section
variable {P:Program} {N:Nat} {tch:Env} {w0:World} {fr0:Nat→Option Nat} {S:PS} {a:Act} {w:World} {fr:Nat→Option Nat} {β:Nat→hU}
theorem zr(h:dC N tch w0 fr0 S a w fr β){top l:Nat}{x:Option Operand}(hb:IH S top x=some l):l≤top∧
 ((x=none∧l=0)∨ ∃v,x=some v∧ ∀y code,l≤y→(Instr.sliceBound (a.eval v) y code).run P w= .ok l w):=by
 cases x with
 |none=>simp[IH]at hb;subst hb;exact⟨bt _,.inl ⟨rfl,rfl⟩⟩
 |some v=>
  obtain⟨hle,_,_,_,_,_,hr⟩:=rh (P:=P) h hb;exact⟨hle,.inr ⟨v,rfl,hr⟩⟩
theorem py(h:dC N tch w0 fr0 S a w fr β){isS:Bool}{top cap:Nat}(hc:top≤cap){lo hi:Option Operand}{l hh:Nat}
 (hh':NX S top hi=some hh) (hl:IH S hh lo=some l):
 (Instr.sliceBounds isS top cap (lo.map a.eval) (hi.map a.eval) none).run P w= .ok (l,hh,cap) w∧l≤hh∧hh≤top:=by
 obtain⟨hle,hr⟩:=zr (P:=P) h hl;unfold Instr.sliceBounds
 cases hi with
 |none=>
  simp[NX]at hh';subst hh';refine⟨?_,hle,Nat.le_refl _⟩;rcases hr with⟨rfl,rfl⟩|⟨v,rfl,hr⟩
  ·rfl
  ·simp only[aZ,Option.map_some,Sem.run_bind,aw,aa,hr top _ hle]
 |some u=>
  obtain⟨hle',_,_,_,_,_,hr'⟩:=rh (P:=P) h hh';refine⟨?_,hle,hle'⟩;rcases hr with⟨rfl,rfl⟩|⟨v,rfl,hr⟩
  ·simp only[aZ,Option.map_some,Sem.run_bind,aw,aa,hr' cap _ (ao hle' hc)]
  ·simp only[Option.map_some,Sem.run_bind,aw,aa,hr' cap _ (ao hle' hc),hr hh _ hle]
theorem uR(h:dC N tch w0 fr0 S a w fr β){isS:Bool}{top cap:Nat}(hc:top≤cap){lo:Option Operand}{hi mx:Operand}{l hh m:Nat}
 (hm:Di S top mx=some m) (hh':Di S m hi=some hh) (hl:IH S hh lo=some l):
 (Instr.sliceBounds isS top cap (lo.map a.eval) (some (a.eval hi)) (some (a.eval mx))).run P w= .ok (l,hh,m) w∧l≤hh∧hh≤m∧m≤top:=by
 obtain⟨hle,hr⟩:=zr (P:=P) h hl;obtain⟨hle',_,_,_,_,_,hr'⟩:=rh (P:=P) h hh';obtain⟨hle0,_,_,_,_,_,hr0⟩:=rh (P:=P) h hm;unfold Instr.sliceBounds;refine⟨?_,hle,hle',hle0⟩;rcases hr with⟨rfl,rfl⟩|⟨v,rfl,hr⟩
 ·simp only[aZ,Sem.run_bind,aw,aa,hr0 cap _ (ao hle0 hc),hr' m _ hle']
 ·simp only[Option.map_some,Sem.run_bind,aw,aa,hr0 cap _ (ao hle0 hc),hr' m _ hle',hr hh _ hle]
theorem GN(h:dC N tch w0 fr0 S a w fr β){o:Oper}{t:Nat}{x:Operand}{lo hi mx:Option Operand}{r:PV}{b:Bool}(ho:o.op= .slice t x lo hi mx)(he:fw P S o=some (r,b)):n9 P S o a w fr β r b:=by
 simp only[fw,ho,rF]at he;have hx:=h.ev x
 split at he
 ·rename_i xs hp;rw[hp]at hx
  split at he
  ·cases he
  ·rename_i e ht
   split at he
   ·rename_i hall;have hsz: ∀x∈xs,(cells x).length=cX P e:=by simpa[je]using hall.1
    obtain⟨A,cap,sz,us,ev,hcap,hsz',ha,h1,hh⟩:=ff (fH hx);have hrep:eB w fr (.slice A xs.length cap) (.slice xs):=by rw[←ev];exact fH hx
    have hu:=dy ht;have key: ∀l h' m,(Instr.sliceBounds true xs.length cap (lo.map a.eval) (hi.map a.eval) (mx.map a.eval)).run P w= .ok (l,h',m) w→l≤h'→h'≤xs.length→h'≤m→m≤cap→
     (r= .d (.slice ((xs.take h').drop l)))→(b=true→m=h')→n9 P S o a w fr β r b:=by
     intro l h' m hb e1 e2 e3 e4 hr hbm;subst hr;refine⟨sliced A l h' m (cX P e),w,fr,?_,h.iJ,.d _ _ (hrep.cut hsz e1 e2 e3 e4),fun hbt=>?_⟩
     ·have:(Instr.sliceAt t (a.eval x) (lo.map a.eval) (hi.map a.eval) (mx.map a.eval)).run P w= .ok (sliced A l h' m (cX P e)) w:=by
       rw[ev];simp[Instr.sliceAt,underlying,hu,Instr.slice,hb,eG hall.2,sliced]
      simp[execOp,ho,this]
     ·exact⟨_,h'-l,_,by rw[sliced,hbm hbt],rfl⟩
    split at he
    ·simp only[Option.bind_eq_some_iff]at he;obtain⟨h',hh',l,hl,he⟩:=he;simp only[ab,bT]at he;obtain⟨rfl,rfl⟩:=he;obtain⟨hr,e1,e2⟩:=py (P:=P) h (isS:=true) hcap hh' hl;exact key l h' cap hr e1 e2 (ao e2 hcap) (Nat.le_refl _) rfl (by simp)
    ·split at he
     ·cases he
     ·rename_i hv;simp only[Option.bind_eq_some_iff]at he;obtain⟨m,hm,h',hh',l,hl,he⟩:=he;simp only[ab,bT]at he;obtain⟨rfl,rfl⟩:=he;obtain⟨hr,e1,e2,e3⟩:=uR (P:=P) h (isS:=true) hcap hm hh' hl;exact key l h' m hr e1 (ao e2 e3) e2 (ao e3 hcap) rfl (by simp)
   ·cases he
 ·rename_i s hp;rw[hp]at hx
  split at he
  ·rename_i hu;simp only[Option.bind_eq_some_iff]at he;obtain⟨h',hh',l,hl,he⟩:=he;simp only[ab,bT]at he;obtain⟨rfl,rfl⟩:=he;obtain⟨hr,e1,e2⟩:=py (P:=P) h (isS:=false) (Nat.le_refl s.length) hh' hl;have hev:=iI hx;have hext:(ByteArray.mk s.toArray).extract l h'=ByteArray.mk ((s.take h').drop l).toArray:=by
    apply ByteArray.ext
    simp[a9,List.drop_take]
   refine n9.of h (s:=Instr.sliceAt t (a.eval x) (lo.map a.eval) (hi.map a.eval) none) (by simp[execOp,ho]) (v:= .string ⟨((s.take h').drop l).toArray⟩) ?_ (.d _ _ (.str _))
   rw[hev];simp[Instr.sliceAt,underlying,hu,Instr.slice,nn,hr,hext]
  ·cases he
 ·rename_i n g len sz ag hp;rw[hp]at hx
  split at he
  ·cases he
  ·rename_i e ht
   split at he
   ·rename_i hse;obtain⟨A,cap,ev,h0,hs0,hA⟩:=lg hx;have hcap:len≤cap:=by rw[ev]at hx;exact PH hx
    have hu:=dy ht;have hle0:g≤S.gen n:=by
     have hx2:=hx;rw[ev]at hx2
     cases hx2 with|bsl _ _ _ _ _ _ _ _ hle _ _ _ _=>exact hle
    have hkk:=fun e=>o9 (g:=g) hx e
    have key: ∀l h' m ti,(Instr.sliceBounds true len cap (lo.map a.eval) (hi.map a.eval) (mx.map a.eval)).run P w= .ok (l,h',m) w→l≤h'→h'≤len→h'≤m→m≤cap→(ti=true→m=h')→
     r= .view n g l (h'-l) sz ag ti→b=false→n9 P S o a w fr β r b:=by
     intro l h' m ti hb e1 e2 e3 e4 eti hr hbf;subst hr hbf;refine⟨sliced A l h' m (cX P e),w,fr,?_,h.iJ,?_,fun hbt=>by cases hbt⟩
     ·have:(Instr.sliceAt t (a.eval x) (lo.map a.eval) (hi.map a.eval) (mx.map a.eval)).run P w= .ok (sliced A l h' m (cX P e)) w:=by
       rw[ev];simp[Instr.sliceAt,underlying,hu,Instr.slice,hb,eG (show 0<cX P e by omega),sliced]
      simp[execOp,ho,this]
     ·unfold sliced;refine .view _ n g l (h'-l) sz (m-l) ag ti h0 hle0 hs0 (by omega) (fun e=>by rw[eti e]) (fun eg hl=>?_) hkk
      obtain⟨hA1,_,hA3⟩:=hA eg;have hc0:0<(β n).c:=by
       rw[←hA3];exact aX (by omega) hs0
      refine⟨hc0,?_⟩;rw[if_neg (by omega),hA1 hc0,hse]
      show some ((⟨(β n).b,0,none⟩:Addr).add (l*sz))=_
      rw[fz rfl];simp
    split at he
    ·simp only[Option.bind_eq_some_iff]at he;obtain⟨h',hh',l,hl,he⟩:=he;simp only[ab,bT]at he;obtain⟨he1,he2⟩:=he;obtain⟨hr,e1,e2⟩:=py (P:=P) h (isS:=true) hcap hh' hl;exact key l h' cap false hr e1 e2 (ao e2 hcap) (Nat.le_refl _) (by simp) he1.symm he2.symm
    ·split at he
     ·cases he
     ·rename_i hv;simp only[Option.bind_eq_some_iff]at he;obtain⟨m,hm,h',hh',l,hl,he⟩:=he;simp only[ab,bT]at he;obtain⟨he1,he2⟩:=he;obtain⟨hr,e1,e2,e3⟩:=uR (P:=P) h (isS:=true) hcap hm hh' hl;exact key l h' m (m==h') hr e1 (ao e2 e3) e2 (ao e3 hcap) (by simp) he1.symm he2.symm
   ·cases he
 ·cases he
end
theorem grownCap_ge(w:World)(need fT:Nat)(e:TypeId):need≤grownCap w need fT e:=Nat.le_add_right _ _
section
variable {P:Program} {N:Nat} {tch:Env} {w0:World} {fr0:Nat→Option Nat} {S:PS} {a:Act} {w:World} {fr:Nat→Option Nat} {β:Nat→hU}
theorem IT(h:dC N tch w0 fr0 S a w fr β){o:Oper}{c x y:Operand}{r:PV}{b:Bool}(ho:o.op= .pick c x y)(he:fw P S o=some (r,b)):n9 P S o a w fr β r b:=by
 simp only[fw,ho]at he;have hc:=h.ev c
 split at he
 ·rename_i t hp;rw[hp]at hc
  cases he
  refine n9.of h (s:=do pure (if←asBool (a.eval c)then a.eval x else a.eval y)) (by simp[execOp,ho]) (v:=if t then a.eval x else a.eval y) ?_ ?_
  ·rw[kz hc];rfl
  ·cases t
   ·exact h.ev y
   ·exact h.ev x
 ·cases he
theorem Ah(h:dC N tch w0 fr0 S a w fr β){o:Oper}{x:Operand}{r:PV}{b:Bool}(ho:o.op= .nilCheck x)(he:fw P S o=some (r,b)):n9 P S o a w fr β r b:=by
 simp only[fw,ho]at he;have hx:=h.ev x
 split at he
 ·rename_i n g oo hp
  cases he
  rw[hp]at hx;refine⟨a.eval x,w,fr,?_,h.iJ,hx,by simp⟩
  generalize hu:a.eval x=u at hx
  cases hx
  simp[execOp,ho,hu]
 ·rename_i cs hp
  cases he
  rw[hp]at hx;refine⟨a.eval x,w,fr,?_,h.iJ,hx,by simp⟩
  generalize hu:a.eval x=u at hx
  cases hx
  simp[execOp,ho,hu]
 ·cases he
theorem LX{w:World}{fr:Nat→Option Nat}{β:Nat→hU}{gen:Nat→Nat}{op:BinOp}{t:TypeId}{x:Operand}{u:Value}{p r:PV}(hu:da w fr β gen u p)(h:NW (P.underlying t) op p=some r):
 ∃z,(do eqGuard op t x (.const .nilIface) u .nilIface;binOp op t u .nilIface:Sem Value).run P w= .ok z w∧da w fr β gen z r:=by
 have key: ∀v b,Uh v=some b→da w fr β gen u (.d (.opq v))→(∃m,P.underlying t=some (.interface m))→
  (∀op,(eqGuard op t x (.const .nilIface) u .nilIface).run P w= .ok () w)∧(binOp .eql t u .nilIface).run P w= .ok (.bool b) w∧(binOp .neq t u .nilIface).run P w= .ok (.bool (!b)) w:=by
  intro v b hb hv hm;obtain⟨m,hty⟩:=hm;have h1:=fH hv;generalize hx:DV.opq v=y at h1
  cases h1 with
  |opq v' h2 h3=>
   cases hx
   unfold Uh at hb
   split at hb
   ·cases hb
    refine⟨fun op=>?_,kh rfl rfl fun d=>by simp[Op.equalIn,aj hty]⟩
    cases op<;>rfl
   ·cases hb
    refine⟨fun op=>?_,kh rfl rfl fun d=>by simp[Op.equalIn,aj hty]⟩
    cases op<;>simp[eqGuard]
   ·cases hb
  |_=>cases hx
 unfold NW at h
 split at h
 ·rename_i m v hty;simp only[Option.map_eq_some_iff]at h;obtain⟨b,hb,rfl⟩:=h;obtain⟨g1,g2,g3⟩:=key v b hb hu ⟨m,hty⟩;exact⟨_,by simp only[Sem.run_bind,g1,aa,g2],.d _ _ (.bool _)⟩
 ·rename_i m v hty;simp only[Option.map_eq_some_iff]at h;obtain⟨b,hb,rfl⟩:=h;obtain⟨g1,g2,g3⟩:=key v b hb hu ⟨m,hty⟩;exact⟨_,by simp only[Sem.run_bind,g1,aa,g3],.d _ _ (.bool _)⟩
 ·cases h
theorem GR(h:dC N tch w0 fr0 S a w fr β){o:Oper}{op:BinOp}{t t':TypeId}{x y:Operand}{r:PV}{b:Bool}(ho:o.op= .binOp op t x y t')(he:fw P S o=some (r,b)):n9 P S o a w fr β r b:=by
 simp only[fw,ho,Option.map_eq_some_iff]at he;obtain⟨r',hr,he⟩:=he
 cases he
 unfold uJ at hr
 split at hr
 ·obtain⟨z,hz,hzr⟩:=LX (P:=P) (w:=w) (x:=x) (h.ev x) hr;exact n9.of h (s:=do eqGuard op t x (.const .nilIface) (a.eval x) .nilIface;binOp op t (a.eval x) .nilIface) (by simp[execOp,ho,Act.eval]) hz hzr
 ·obtain⟨z,hz,hzr⟩:=Ji (P:=P) (w:=w) (x:=x) (y:=y) (h.ev x) (h.ev y) hr;exact n9.of h (s:=do eqGuard op t x y (a.eval x) (a.eval y);binOp op t (a.eval x) (a.eval y)) (by simp[execOp,ho]) hz hzr
theorem IS(h:dC N tch w0 fr0 S a w fr β){o:Oper}{op:UnOp}{t:TypeId}{x:Operand}{r:PV}{b:Bool}(ho:o.op= .unOp op t x)(he:fw P S o=some (r,b)):n9 P S o a w fr β r b:=by
 simp only[fw,ho,Option.map_eq_some_iff]at he;obtain⟨r',hr,he⟩:=he
 cases he
 obtain⟨z,hz,hzr⟩:=LW (P:=P) (w:=w) (h.ev x) hr;exact n9.of h (s:=Op.unary op (a.eval x)) (by simp[execOp,ho]) hz hzr
theorem Ai(h:dC N tch w0 fr0 S a w fr β){o:Oper}{f:FuncId}{first caps:Array Operand}{r:PV}{b:Bool}(ho:o.op= .makeFunc (.func f) first caps)(he:fw P S o=some (r,b)):n9 P S o a w fr β r b:=by
 simp only[fw,ho]at he
 split at he
 ·rename_i h0
  cases he
  obtain rfl:first= #[]:=a_ h0
  refine n9.of h (s:=Instr.makeFunc (.func f) #[] (caps.map a.eval)) (by simp[execOp,ho]) (v:= .func (.func f) #[] (caps.toList.map a.eval).toArray) ?_ ?_
  ·rw[bu];rfl
  ·refine .fn f _ _ (by simp) fun k v p hv hp=>?_
   rw[List.getElem?_map]at hv hp
   cases hk:caps.toList[k]? with
   |none=>rw[hk]at hv;cases hv
   |some c=>
    rw[hk]at hv hp
    cases hv
    cases hp
    exact h.ev c
 ·unfold VG at he
  split at he
  ·rename_i c h1 h2
   cases he
   obtain⟨first⟩:=first
   obtain⟨caps⟩:=caps
   match first,h1 with
   | [x],h1=>
     simp only[List.map_cons,List.map_nil,List.cons.injEq,and_true]at h1;obtain rfl:caps= []:=by simpa using h2
     have hx:=h.ev x;rw[h1]at hx;refine n9.of h (s:=Instr.makeFunc (.func f) #[a.eval x] #[]) (by simp[execOp,ho]) (v:= .func (.func f) #[a.eval x] #[]) ?_ (.bm f _ _ hx)
     rfl
   | [],h1=>simp at h1
   |_::_::_,h1=>simp at h1
  ·cases he
theorem yH: ∀(cs:List DV) (us:List Value),wi cs=some us→us.length=cs.length∧ ∀(k:Nat) (p:DV),cs[k]? =some p→ ∃u,us[k]? =some u∧ng p=some u
 | [],us,h=>by simp[wi]at h;subst h;simp
 |c::r,us,h=>by
  simp only[wi,Option.bind_eq_some_iff,Option.map_eq_some_iff]at h;obtain⟨v,hv,vs,hvs,rfl⟩:=h;obtain⟨h1,h2⟩:=yH r vs hvs;refine⟨by simp[h1],fun k p hp=>?_⟩
  cases k with
  |zero=>simp at hp;subst hp;exact⟨v,rfl,hv⟩
  |succ k=>simp at hp⊢;exact h2 k p hp
theorem IU{w:World}{fr:Nat→Option Nat}{v:Value}{x:DV}(h:eB w fr v x): ∀u,ng x=some u→v=u:=by
 induction h with
 |int k n=>intro u hu;simp[ng]at hu;exact hu
 |bool b=>intro u hu;simp[ng]at hu;exact hu
 |str s=>intro u hu;simp[ng]at hu;exact hu
 |opq v hb h1=>intro u hu;simp[ng]at hu;exact hu
 |agg vs cs hl h1 h ih=>
  intro u hu;simp only[ng,Option.map_eq_some_iff]at hu;obtain⟨us,hus,rfl⟩:=hu;obtain⟨g1,g2⟩:=yH cs us hus;have:vs=us:=by
   refine bk fun k=>?_
   by_cases hk:k<cs.length
   ·obtain⟨u,e1,e2⟩:=g2 k cs[k] (List.getElem?_eq_getElem hk);have hv:vs[k]? =some (vs[k]'(by omega)):=List.getElem?_eq_getElem (by omega)
    rw[hv,e1,ih k _ _ hv (List.getElem?_eq_getElem hk) u e2]
   ·rw[ar (by omega),ar (by omega)]
  rw[this]
 |slice A cap sz us xs hcap hsz ha h1 h ih=>intro u hu;simp[ng]at hu
theorem sq(h:dC N tch w0 fr0 S a w fr β){o:Oper}{t:TypeId}{x:Operand}{r:PV}{b:Bool}(ho:o.op= .makeInterface t x)(he:fw P S o=some (r,b)):n9 P S o a w fr β r b:=by
 simp only[fw,ho]at he
 split at he
 ·rename_i hi;unfold A1 at he
  split at he
  ·rename_i v hv;simp only[Option.map_eq_some_iff]at he;obtain⟨u,hu,he⟩:=he
   cases he
   have hx:=h.ev x;rw[hv]at hx;have e:=IU (fH hx) u hu;refine n9.of h (s:=Instr.makeInterface t (a.eval x)) (by simp[execOp,ho]) (v:= .iface t u) ?_ (.d _ _ (.opq _ (by simp) rfl))
   rw[e];unfold CH at hi;unfold Instr.makeInterface
   cases hty:P.underlying t with
   |none=>rw[hty]at hi;cases hi
   |some ty=>
    rw[hty]at hi;simp only[Sem.run_bind,aj hty,aa]
    cases ty<;>first|(cases hi;done)|rfl
  ·cases he
 ·cases he
theorem BF(h:dC N tch w0 fr0 S a w fr β){o:Oper}{src dst:TypeId}{x:Operand}{r:PV}{b:Bool}(ho:o.op= .convert src dst x)(he:fw P S o=some (r,b)):n9 P S o a w fr β r b:=by
 simp only[fw,ho]at he;have hx:=h.ev x
 split at he
 ·rename_i k0 k k' n hs hd hp
  cases he
  rw[hp]at hx;refine n9.of h (s:=convert src dst (a.eval x)) (by simp[execOp,ho]) (v:= .int k (k.wrap n)) ?_ (.d _ _ (.int _ _))
  rw[eT hx];simp[convert,underlying,hs,hd,Conv.intToInt]
 ·rename_i s hs hd hp
  cases he
  rw[hp]at hx;refine n9.of h (s:=convert src dst (a.eval x)) (by simp[execOp,ho]) (v:= .string ⟨s.toArray⟩) ?_ (.d _ _ (.str _))
  rw[iI hx];simp[convert,underlying,hs,hd]
 ·rename_i e xs hs hd hp;rw[hp]at hx
  split at he
  ·rename_i hu8;simp only[Option.map_eq_some_iff]at he;obtain⟨s,hb,he⟩:=he
   cases he
   obtain⟨ns,rfl,rfl⟩:=ss _ _ hb;obtain⟨A,cap,sz,us,ev,hcap,hsz,ha,h1,hh⟩:=ff (fH hx);refine n9.of h (s:=convert src dst (a.eval x)) (by simp[execOp,ho]) (v:= .string (strOfNums ns)) ?_ (.d _ _ (.str _))
   rw[ev];have hl:(ns.map (DV.int .u8)).length=ns.length:=by simp
   rcases az ns.length with h0|h0
   ·obtain rfl:ns= []:=List.eq_nil_of_length_eq_zero h0
    cases A with
    |none=>exact run_convert_bytes_nil w src e hs hu8 _ _ dst hd
    |some ad=>
     have:=run_convert_bytes_arg w src e hs hu8 ad.block ad.off 0 cap [] rfl (by simp) dst hd
     have hload: ∀(ad:Addr),(convert src dst (.slice (some ad) 0 cap)).run P w= .ok (.string (strOfNums [])) w:=by
      intro ad;simp[convert,underlying,hs,hd,hu8,Conv.bytesToString,loadCells,loadCellsFrom,strOfNums];rfl
     exact hload ad
   ·obtain⟨ad,rfl,hsp,hf,hc⟩:=ha (by rw[hl];exact h0)
    have e1:sz=1:=by
     obtain⟨n,hn⟩:=aC h0;have:=hsz (.int .u8 n) (List.mem_map_of_mem hn)
     simpa[cells]using this.symm
    subst e1;obtain⟨bl,of,sp⟩:=ad;simp only at hsp;subst hsp;rw[hl];refine run_convert_bytes_arg w src e hs hu8 bl of ns.length cap ns rfl (fun i hi=>?_) dst hd
    have hci:=hc i (by simpa using hi)
    rw[hci];have hfl:(flat (ns.map (DV.int .u8)))[i]? =some (.int .u8 (ns.getD i 0)):=by
     have:=tg hsz i (.int .u8 (ns.getD i 0)) (by simp[hi,List.getD_eq_getElem?_getD]) 0 (by omega)
     simpa[cells]using this
    have:=hh i _ hfl;generalize us i=u at this⊢
    cases this
    rfl
  ·cases he
 ·rename_i e s hs hd hp;rw[hp]at hx
  split at he
  ·rename_i hu8
   split at he
   ·rename_i hsz1
    cases he
    have hev:=iI hx;refine⟨.slice (some ⟨w.heap.size,0,none⟩) (ByteArray.mk s.toArray).size (grownCap w (ByteArray.mk s.toArray).size 0 e),Lib.bytesWorld w e ⟨s.toArray⟩,fr,?_,?_,.d _ _ ?_,by simp⟩
    ·have:=Lib.run_convert_string_bytes (P:=P) w src dst e ⟨s.toArray⟩ hs hd hu8;simp only[execOp,ho,hev];simp only[Sem.run_bind,this,aa,aw]
    ·refine⟨rfl,rfl,rfl,by rw[Lib.bytesWorld_size];omega,fun b hb=>Lib.bytesWorld_at_old w e _ b hb,fun _ _=>rfl,fun b f hf=>?_⟩
     have:=h.frb b f hf;rw[Lib.bytesWorld_size];omega
    ·have hl:(s.map fun b=>DV.int .u8 b.toNat).length=(ByteArray.mk s.toArray).size:=by simp[ByteArray.size]
     rw[←hl];have hz: ∀x∈(s.map fun b=>DV.int .u8 b.toNat),(cells x).length=1:=by
      intro x hx;simp only[List.mem_map]at hx;obtain⟨b,_,rfl⟩:=hx;rfl
     refine .slice _ _ 1 (fun k=> .int .u8 (s.getD k 0).toNat) _ ?_ hz (fun h0=>⟨_,rfl,rfl,fun f hf=>?_,fun k hk=>?_⟩) (fun k hk=>rfl) (fun k p hp=>?_)
     ·rw[hl];exact grownCap_ge _ _ _ _
     ·have:=h.frb _ _ hf;simp at this
     ·have hk':k<(ByteArray.mk s.toArray).size:=by rw[←hl];simpa using hk
      have:=Lib.bytesWorld_cell w e ⟨s.toArray⟩ k hk'
      simpa using this
     ·have hk:k<s.length:=by
       have:=(List.getElem?_eq_some_iff.1 hp).1;rw[ed hz]at this
       simpa using this
      have:=tg hz k (.int .u8 (s.getD k 0).toNat) (by simp[hk,List.getD_eq_getElem?_getD]) 0 (by omega)
      simp[cells]at this;rw[this]at hp
      cases hp
      simp only[List.getD_eq_getElem?_getD];exact .int _ _
   ·cases he
  ·cases he
 ·cases he
theorem LM(h:dC N tch w0 fr0 S a w fr β){o:Oper}{args:Array Operand}{ts:Array TypeId}{r:PV}{b:Bool}(ho:o.op= .call ⟨.builtin .len,args,ts⟩)(he:fw P S o=some (r,b)):n9 P S o a w fr β r b:=by
 simp only[fw,ho]at he
 split at he
 ·rename_i x t hx ht;obtain rfl:args= #[x]:=by rw[←aJ (xs:=args),hx]
  obtain rfl:ts= #[t]:=by rw[←aJ (xs:=ts),ht]
  have hv:=h.ev x;have hrun: ∀n:Int,(Builtin.len_ #[t] o.type #[a.eval x]).run P w= .ok (goInt n) w→(execOp a.eval o).run P w= .ok (.value (.int .i64 n)) w:=by
   intro n hn;simp only[execOp,ho,resolve,invoke,builtin,Sem.run_bind,aw,aa,bu,List.map_cons,List.map_nil,hn];rfl
  split at he
  ·rename_i e xs hu hp
   cases he
   rw[hp]at hv;obtain⟨A,cap,sz,us,ev,_⟩:=ff (fH hv);exact⟨_,w,fr,hrun xs.length (by rw[ev];simp[Builtin.len_,underlying,hu]),h.iJ,.d _ _ (.int _ _),by simp⟩
  ·rename_i e n g l sz ag hu hp
   cases he
   rw[hp]at hv;obtain⟨A,cap,ev,_⟩:=lg hv;exact⟨_,w,fr,hrun l (by rw[ev];simp[Builtin.len_,underlying,hu]),h.iJ,.d _ _ (.int _ _),by simp⟩
  ·rename_i s hu hp
   cases he
   rw[hp]at hv;exact⟨_,w,fr,hrun s.length (by rw[iI hv];simp[Builtin.len_,underlying,hu,nn]),h.iJ,.d _ _ (.int _ _),by simp⟩
  ·cases he
 ·cases he
theorem zm(mx:Bool)(k:IntKind): ∀(ps:List PV) (n:Int) (r:PV),ug mx k n ps=some r→ ∀(vs:List Value),vs.length=ps.length→
 (∀(i:Nat) (v:Value) (p:PV),vs[i]? =some v→ps[i]? =some p→da w fr β S.gen v p)→
 ∃m,r= .d (.int k m)∧(vs.foldlM (if mx then Builtin.max2 else Builtin.min2) (.int k n)).run P w= .ok (.int k m) w
 | [],n,r,h,vs,hl,hh=>by
   obtain rfl:vs= []:=List.eq_nil_of_length_eq_zero hl;simp[ug]at h;exact⟨n,h.symm,rfl⟩
 |p::ps,n,r,h,[],hl,hh=>by simp at hl
 |p::ps,n,r,h,v::vs,hl,hh=>by
  unfold ug at h
  split at h
  ·rename_i heq
   cases heq
  ·rename_i x k' b' rest heq
   cases heq
   split at h
   ·rename_i e;subst e;have hv:=eT (hh 0 v _ rfl rfl);subst hv;obtain⟨m,hm,hr⟩:=zm mx k ps _ r h vs (by simpa using hl) fun i v p hv hp=>hh (i+1) v p (by simpa using hv) (by simpa using hp)
    refine⟨m,hm,?_⟩;rw[List.foldlM_cons];simp only[Sem.run_bind]
    cases mx
    ·simp only[aF,aL]at hr⊢;simp only[Builtin.min2,aw,aa];exact hr
    ·simp only[if_true]at hr⊢;simp only[Builtin.max2,aw,aa];exact hr
   ·cases h
  ·cases h
theorem we(h:dC N tch w0 fr0 S a w fr β){o:Oper}{mx:Bool}{args:Array Operand}{ts:Array TypeId}{r:PV}(ho:o.op= .call ⟨.builtin (if mx then .max else .min),args,ts⟩)(he:rP mx (args.toList.map S.ev)=some r):n9 P S o a w fr β r false:=by
 unfold rP at he
 split at he
 ·rename_i k n rest hps
  cases hargs:args.toList with
  |nil=>rw[hargs]at hps;cases hps
  |cons x xs=>
   rw[hargs]at hps;simp only[List.map_cons,List.cons.injEq]at hps;obtain⟨hx,rfl⟩:=hps;obtain rfl:args=(x::xs).toArray:=by rw[←hargs,aJ]
   have hv:=h.ev x;rw[hx]at hv;obtain⟨m,rfl,hm⟩:=zm (P:=P) (w:=w) (fr:=fr) (β:=β) mx k (xs.map S.ev) n r he (xs.map a.eval) (by simp) fun i v p hv hp=>by
    rw[List.getElem?_map]at hv hp
    cases hk:xs[i]? with
    |none=>rw[hk]at hv;cases hv
    |some c=>
     rw[hk]at hv hp
     cases hv
     cases hp
     exact h.ev c
   refine⟨.int k m,w,fr,?_,h.iJ,.d _ _ (.int _ _),by simp⟩
   cases mx
   ·simp only[aF,aL]at ho hm;simp only[execOp,ho,resolve,invoke,builtin,Sem.run_bind,aw,aa,bu,List.map_cons,Builtin.min_,eT hv,hm]
   ·simp only[if_true]at ho hm;simp only[execOp,ho,resolve,invoke,builtin,Sem.run_bind,aw,aa,bu,List.map_cons,Builtin.max_,eT hv,hm]
 ·cases he
end
section
variable {P:Program}
theorem HZ{t:TypeId}(h:H0 P t=true): ∃i,P.info? t=some i:=by
 unfold H0 at h
 cases hi:P.info? t with
 |none=>simp[typeInfo,hi]at h
 |some i=>exact⟨i,rfl⟩
theorem vd: ∀(fs:List Field),(∀f∈fs,H0 P f.type=true)→fs.mapM (fun f=>(P.info? f.type).map fun i=>(f.offset,i.size))=some (fs.map fun f=>(f.offset,P.cellsOf f.type))
 | [],_=>rfl
 |f::fs,h=>by
  obtain⟨i,hi⟩:=HZ (h f List.mem_cons_self);rw[List.mapM_cons,vd fs fun g hg=>h g (al _ hg)]
  simp[hi,Program.cellsOf]
theorem Ic(off:Nat)(v:Value)(cs:List Value)(h:off+v.cells.size≤cs.length):
 (v.cells.zipIdx.foldl (fun cs (x:Value×Nat)=>cs.setIfInBounds (off+x.2) x.1) cs.toArray)=(cs.take off++v.cells.toList++cs.drop (off+v.cells.size)).toArray:=by
 have hz:v.cells.zipIdx=(v.cells.toList.zipIdx 0).toArray:=by
  apply Array.ext'
  simp
 have hf:=Great.foldl_set off v.cells.toList 0 cs.toArray;rw[hz,List.foldl_toArray];obtain⟨h1,h2⟩:=hf
 apply cp
 intro k;rw[h2 k];have hlen:v.cells.toList.length=v.cells.size:=by simp
 simp only[ax,List.size_toArray,bN,hlen];by_cases h3:off≤k∧k<off+v.cells.size∧k<cs.length
 ·rw[if_pos h3,List.append_assoc,List.getElem?_append_right (by simp;omega),List.length_take,Nat.min_eq_left (by omega),List.getElem?_append_left (by rw[hlen];omega)]
 ·rw[if_neg h3];by_cases h4:k<off
  ·rw[List.append_assoc,List.getElem?_append_left (by simp;omega),ah,if_pos h4]
  ·rw[List.getElem?_append_right (by simp;omega)]
   by_cases h5:k<cs.length
   ·rw[ak]
    congr 1
    simp;omega
   ·rw[ar (by omega),ar (by simp;omega)]
end
section
variable {P:Program} {N:Nat} {tch:Env} {w0:World} {fr0:Nat→Option Nat} {S:PS} {a:Act} {w:World} {fr:Nat→Option Nat} {β:Nat→hU}
def kH(w:World)(fr:Nat→Option Nat)(us:List Value)(cs:List DV):Prop:=
 us.length=cs.length∧(∀u∈us,one u)∧ ∀(k:Nat) (u:Value) (p:DV),us[k]? =some u→cs[k]? =some p→eB w fr u p
theorem kH.take{us:List Value}{cs:List DV}(h:kH w fr us cs)(n:Nat):kH w fr (us.take n) (cs.take n):=by
 refine⟨by simp[h.1],fun u hu=>h.2.1 u (aA hu),fun k u p hu hp=>?_⟩
 rw[ah]at hu hp
 split at hu
 ·rename_i hk;rw[if_pos hk]at hp;exact h.2.2 k u p hu hp
 ·cases hu
theorem kH.drop{us:List Value}{cs:List DV}(h:kH w fr us cs)(n:Nat):kH w fr (us.drop n) (cs.drop n):=by
 refine⟨by simp[h.1],fun u hu=>h.2.1 u (aY hu),fun k u p hu hp=>?_⟩
 rw[ak]at hu hp;exact h.2.2 _ u p hu hp
theorem kH.append{us us':List Value}{cs cs':List DV}(h:kH w fr us cs)(h':kH w fr us' cs'):kH w fr (us++us') (cs++cs'):=by
 refine⟨by simp[h.1,h'.1],fun u hu=>?_,fun k u p hu hp=>?_⟩
 ·rcases List.mem_append.1 hu with hu|hu
  ·exact h.2.1 u hu
  ·exact h'.2.1 u hu
 ·by_cases hk:k<us.length
  ·rw[List.getElem?_append_left hk]at hu;rw[List.getElem?_append_left (by rw[←h.1];exact hk)]at hp
   exact h.2.2 k u p hu hp
  ·rw[List.getElem?_append_right (by omega)]at hu
   rw[List.getElem?_append_right (by rw[←h.1];omega),←h.1]at hp
   exact h'.2.2 _ u p hu hp
theorem kH.nil:kH w fr [] []:=⟨rfl,by simp,by simp⟩
theorem Aa{v:Value}{x:DV}(h:eB w fr v x)(hv: ∀ps,v≠ .tuple ps):kH w fr v.cells.toList (cells x):=by
 cases h with
 |int k n=>exact⟨rfl,by simp[Value.cells,one,Value.oneCell'],fun k u p hu hp=>by cases k<;>simp[Value.cells,cells]at hu hp;subst hu;subst hp;exact .int _ _⟩
 |bool b=>exact⟨rfl,by simp[Value.cells,one,Value.oneCell'],fun k u p hu hp=>by cases k<;>simp[Value.cells,cells]at hu hp;subst hu;subst hp;exact .bool _⟩
 |str s=>exact⟨rfl,by simp[Value.cells,one,Value.oneCell'],fun k u p hu hp=>by cases k<;>simp[Value.cells,cells]at hu hp;subst hu;subst hp;exact .str _⟩
 |opq _ hb h1=>
  have hc:v.cells= #[v]:=by cases v<;>first|rfl|simp[one,Value.oneCell']at h1
  rw[hc];exact⟨rfl,by simpa using h1,fun k u p hu hp=>by cases k<;>simp[cells]at hu hp;subst hu;subst hp;exact .opq _ hb h1⟩
 |agg vs cs hl h1 hh=>exact⟨by simpa[Value.cells,cells]using hl,by simpa[Value.cells]using h1,fun k u p hu hp=>hh k u p (by simpa[Value.cells]using hu) (by simpa[cells]using hp)⟩
 |slice A cap sz us xs hcap hsz ha h1 hh=>
  exact⟨rfl,by simp[Value.cells,one,Value.oneCell'],fun k u p hu hp=>by cases k<;>simp[Value.cells,cells]at hu hp;subst hu;subst hp;exact .slice A cap sz us xs hcap hsz ha h1 hh⟩
def mL(w:World)(fr:Nat→Option Nat)(β:Nat→hU)(gen:Nat→Nat)(us:List Value)(cs:List PV):Prop:=
 us.length=cs.length∧(∀u∈us,one u)∧ ∀(k:Nat) (u:Value) (p:PV),us[k]? =some u→cs[k]? =some p→da w fr β gen u p
theorem mL.take{gen:Nat→Nat}{us:List Value}{cs:List PV}(h:mL w fr β gen us cs)(n:Nat):mL w fr β gen (us.take n) (cs.take n):=by
 refine⟨by simp[h.1],fun u hu=>h.2.1 u (aA hu),fun k u p hu hp=>?_⟩
 rw[ah]at hu hp
 split at hu
 ·rename_i hk;rw[if_pos hk]at hp;exact h.2.2 k u p hu hp
 ·cases hu
theorem mL.drop{gen:Nat→Nat}{us:List Value}{cs:List PV}(h:mL w fr β gen us cs)(n:Nat):mL w fr β gen (us.drop n) (cs.drop n):=by
 refine⟨by simp[h.1],fun u hu=>h.2.1 u (aY hu),fun k u p hu hp=>?_⟩
 rw[ak]at hu hp;exact h.2.2 _ u p hu hp
theorem mL.append{gen:Nat→Nat}{us us':List Value}{cs cs':List PV}(h:mL w fr β gen us cs)(h':mL w fr β gen us' cs'):mL w fr β gen (us++us') (cs++cs'):=by
 refine⟨by simp[h.1,h'.1],fun u hu=>?_,fun k u p hu hp=>?_⟩
 ·rcases List.mem_append.1 hu with hu|hu
  ·exact h.2.1 u hu
  ·exact h'.2.1 u hu
 ·by_cases hk:k<us.length
  ·rw[List.getElem?_append_left hk]at hu;rw[List.getElem?_append_left (by rw[←h.1];exact hk)]at hp
   exact h.2.2 k u p hu hp
  ·rw[List.getElem?_append_right (by omega)]at hu
   rw[List.getElem?_append_right (by rw[←h.1];omega),←h.1]at hp
   exact h'.2.2 _ u p hu hp
theorem ik{v:Value}{p:PV}{cs:List PV}{gen:Nat→Nat}(h:da w fr β gen v p)(hc:cW p=some cs):
 v.cells.size=cs.length∧ ∀(k:Nat) (u:Value) (q:PV),v.cells[k]? =some u→cs[k]? =some q→da w fr β gen u q∧one u:=by
 cases h with
 |d v x h=>
  simp[cW]at hc;subst hc;have hnt: ∀ps,v≠ .tuple ps:=by
   intro ps e;rw[e]at h;generalize hx:x=x' at h
   cases h with
   |opq v hb h1=>simp[one,Value.oneCell']at h1
  have hcv:=Aa h hnt;refine⟨by have:=hcv.1;simpa using this,fun k u q hu hq=>?_⟩
  rw[List.getElem?_map]at hq
  cases hk:(cells x)[k]? with
  |none=>rw[hk]at hq;cases hq
  |some y=>
   rw[hk]at hq
   cases hq
   have hu':v.cells.toList[k]? =some u:=by simpa using hu
   exact⟨.d _ _ (hcv.2.2 k u y hu' hk),hcv.2.1 u (List.mem_of_getElem? hu')⟩
 |mp r n g h0 hg h hk=>simp[cW]at hc
 |ptr a n g o h0 hg hs h hk2=>
  simp[cW]at hc;subst hc;refine⟨rfl,fun k u q hu hq=>?_⟩
  cases k<;>simp[Value.cells]at hu hq
  subst hu hq;exact⟨.ptr a n g o h0 hg hs h hk2,rfl⟩
 |cptr ad us cs' hs hf hcc h1 h=>
  simp[cW]at hc;subst hc;refine⟨rfl,fun k u q hu hq=>?_⟩
  cases k<;>simp[Value.cells]at hu hq
  subst hu hq;exact⟨.cptr ad us cs' hs hf hcc h1 h,rfl⟩
 |view A n g lo len sz cap ag ti h0 hg hs hl hti h hk2=>simp[cW]at hc
 |bsl A n g len sz cap ag h0 hg hs hl h hk2=>
  simp[cW]at hc;subst hc;refine⟨rfl,fun k u q hu hq=>?_⟩
  cases k<;>simp[Value.cells]at hu hq
  subst hu hq;exact⟨.bsl A n g len sz cap ag h0 hg hs hl h hk2,rfl⟩
 |fn f vs caps hl h=>
  cases caps with
  |nil=>
   obtain rfl:vs= []:=List.eq_nil_of_length_eq_zero hl;simp[cW]at hc;subst hc;refine⟨rfl,fun k u q hu hq=>?_⟩
   cases k<;>simp[Value.cells]at hu hq
   subst hu hq;exact⟨.d _ _ (.opq _ (by simp) rfl),rfl⟩
  |cons c0 cr=>
   simp[cW]at hc;subst hc;refine⟨rfl,fun k u q hu hq=>?_⟩
   cases k<;>simp[Value.cells]at hu hq
   subst hu hq;exact⟨.fn f vs (c0::cr) hl h,rfl⟩
 |bm f v c h=>
  simp[cW]at hc;subst hc;refine⟨rfl,fun k u q hu hq=>?_⟩
  cases k<;>simp[Value.cells]at hu hq
  subst hu hq;exact⟨.bm f v c h,rfl⟩
 |pa vs cs' hl h1 h=>
  simp[cW]at hc;subst hc;refine⟨by simpa[Value.cells]using hl,fun k u q hu hq=>?_⟩
  have hu':vs[k]? =some u:=by simpa[Value.cells]using hu
  exact⟨h k u q hu' hq,h1 u (List.mem_of_getElem? hu')⟩
 |tup vs ps hl h=>simp[cW]at hc
 |any v hb=>simp[cW]at hc
theorem tE(h:dC N tch w0 fr0 S a w fr β){t:TypeId}{fs:Array Field}(hu:P.underlying t=some (.struct fs))(hok: ∀f∈fs.toList,H0 P f.type=true):
 ∀(ps:List (Nat×Operand)) (us:List Value) (cs cs':List PV),mL w fr β S.gen us cs→gP P S t ps cs=some cs'→
  ∃us',Instr.fill (((fs.toList.map fun f=>(f.offset,P.cellsOf f.type)).toArray)[·]?) us.toArray (ps.map fun(i,x)=>(i,a.eval x))=some us'.toArray∧mL w fr β S.gen us' cs'∧(∀j,sQ P t j ps=true→us'[j]? =us[j]? ∧cs'[j]? =cs[j]?)∧
   (∀s,fk P S t ps=some s→us'[0]? =some (a.tmps.getD s undef)∧cs'[0]? =some (S.t s))
 | [],us,cs,cs',hc,hb=>by
   simp[gP]at hb;subst hb;exact⟨us,rfl,hc,fun _ _=>⟨rfl,rfl⟩,fun s e=>by simp[fk]at e⟩
 |(i,x)::r,us,cs,cs',hc,hb=>by
  unfold gP at hb;have hx:=h.ev x
  split at hb
  ·rename_i off ft v hf hp
   split at hb
   ·rename_i hle;obtain⟨fs',fl,hu',hfl,rfl,rfl⟩:=jw hf;rw[hu]at hu'
    cases hu'
    obtain⟨dQ,hcr⟩:=ik hx hp;have hcv:mL w fr β S.gen (a.eval x).cells.toList v:=by
     refine⟨by simpa using dQ,fun u hu=>?_,fun k u p hu hq=>(hcr k u p (by simpa using hu) hq).1⟩
     obtain⟨k,hk⟩:=List.mem_iff_getElem?.1 hu;have hkl:k<v.length:=by rw[←dQ];have:=(List.getElem?_eq_some_iff.1 hk).1;simpa using this
     exact(hcr k u _ (by simpa using hk) (List.getElem?_eq_getElem hkl)).2
    obtain⟨us',hf',hr,hk0,hk1⟩:=tE h hu hok r (us.take fl.offset++(a.eval x).cells.toList++us.drop (fl.offset+v.length)) _ cs'
     (((hc.take _).append hcv).append (hc.drop _)) hb
    have hlu:us.length=cs.length:=hc.1;refine⟨us',?_,hr,fun j hl=>?_,fun s hs=>?_⟩
    rotate_left
    ·simp only[sQ,List.all_cons,hf,Bool.and_eq_true,decide_eq_true_eq]at hl;obtain⟨h1,h2⟩:=hk0 j hl.2;have hle1:=hle.2;have hle0:=hle.1;have hvl:(a.eval x).cells.toList.length=v.length:=by simpa using dQ
     rcases hl.1 with hj|hj
     ·constructor
      ·rw[h1,List.append_assoc,List.getElem?_append_left (by simp;omega),ah,if_pos (by omega)]
      ·rw[h2,List.append_assoc,List.getElem?_append_left (by simp;omega),ah,if_pos (by omega)]
     ·constructor
      ·rw[h1,List.getElem?_append_right (by rw[List.length_append,List.length_take,hvl];omega),ak]
       congr 1
       rw[List.length_append,List.length_take,hvl];omega
      ·rw[h2,List.getElem?_append_right (by rw[List.length_append,List.length_take];omega),ak]
       congr 1
       rw[List.length_append,List.length_take];omega
    ·unfold fk at hs
     split at hs
     ·rename_i i' s' r' heq
      cases heq
      rw[hf]at hs;simp only at hs
      split at hs
      ·rename_i hq;obtain⟨q1,q2,q3,q4⟩:=hq
       cases hs
       obtain⟨h1,h2⟩:=hk0 0 q3;obtain⟨xs,hxs⟩:=s8 q4;simp only[PS.ev]at hp;rw[hxs]at hp;simp only[cW,cells,ab]at hp;subst hp;have hv:=h.vals s;rw[hxs]at hv;obtain⟨A,cap,sz,us0,ev,_⟩:=ff (fH hv);have hev:(a.eval (.tmp s)).cells.toList= [a.tmps.getD s undef]:=by
        show(a.tmps.getD s undef).cells.toList=_
        rw[ev];rfl
       rw[h1,h2,q1,hev,hxs];exact⟨rfl,rfl⟩
      ·cases hs
     ·cases hs
    rw[←hf',List.map_cons,Instr.fill];have hpl:((fs.toList.map fun f=>(f.offset,P.cellsOf f.type)).toArray)[i]? =some (fl.offset,P.cellsOf fl.type):=by
     simp[hfl]
    simp only[hpl];rw[←DA];have hus:us.length=cs.length:=hc.1;rw[if_neg (by simp only[List.size_toArray,dQ,ne_eq,hle.1,not_true_eq_false,Bool.or_eq_true,decide_eq_true_eq,gt_iff_lt,];simp;omega)]
    rw[Ic _ _ _ (by rw[dQ];omega),dQ]
   ·cases hb
  ·cases hb
theorem jY{v:Value}(h:fQ v=true):v= .slice none 0 0:=by
 unfold fQ at h
 split at h
 ·rfl
 ·cases h
theorem Cp{cs:List PV}{k:Nat}{p:PV}(h:cs[k]? =some p):(Kp cs).part k=p:=by
 unfold Kp;split
 ·rename_i c hc;have hs:=nj _ _ hc;simp only[PV.part,List.getD_eq_getElem?_getD,←hs,h];rfl
 ·simp only[PV.part,List.getD_eq_getElem?_getD,h];rfl
theorem uI(h:dC N tch w0 fr0 S a w fr β){o:Oper}{t:Nat}{ps:Array (Nat×Operand)}{r:PV}{b:Bool}(ho:o.op= .build t ps)(he:fw P S o=some (r,b)):
 ∃us:List Value,(Instr.build t (ps.map fun(i,x)=>(i,a.eval x))).run P w= .ok (.agg us.toArray) w∧da w fr β S.gen (.agg us.toArray) r∧b=false∧(∀s,fk P S t ps.toList=some s→us[0]? =some (a.tmps.getD s undef)∧r.part 0=S.t s)∧(∀j,jn P t ps.toList j=true→us[j]? =some (.slice none 0 0)∧r.part j= .d (.slice [])):=by
 simp only[fw,ho]at he
 split at he
 ·rename_i z hz
  split at he
  ·rename_i hall;simp only[Option.map_eq_some_iff]at he;obtain⟨cs,dQ,he⟩:=he
   cases he
   obtain⟨i,hi,hiz⟩:=fq hz;have hfl:=hall.2;unfold xH at hfl
   split at hfl
   ·rename_i fs hu;have hok: ∀f∈fs.toList,H0 P f.type=true:=List.all_eq_true.1 hfl;have h0:mL w fr β S.gen z.toList (z.toList.map fun c=> .d (dh c)):=by
     have h1: ∀u∈z.toList,one u:=List.all_eq_true.1 hall.1;refine⟨by simp,h1,fun k u p hu hp=>?_⟩
     rw[List.getElem?_map,hu]at hp
     cases hp
     exact .d _ _ (eX (h1 u (List.mem_of_getElem? hu)))
    obtain⟨us',hf,hr,hkj,hk⟩:=tE (P:=P) h hu hok ps.toList z.toList _ cs h0 dQ;refine⟨us',?_,A3 hr.1 hr.2.1 hr.2.2,rfl,fun s hs=>⟨(hk s hs).1,Cp (hk s hs).2⟩,fun j hj=>?_⟩
    rotate_left
    ·simp only[jn,hz,Value.cells,Bool.and_eq_true]at hj;have hjz:=of_decide_eq_true hj.2.1;obtain⟨h1,h2⟩:=hkj j hj.1;have hzj:z.toList[j]? =some (.slice none 0 0):=by
      have:=jY hj.2.2;rw[Array.getD_eq_getD_getElem?,Array.getElem?_eq_getElem hjz]at this;simp only[Option.getD_some]at this;rw[Array.getElem?_toList,Array.getElem?_eq_getElem hjz,this]
     refine⟨by rw[h1,hzj],Cp ?_⟩
     rw[h2,List.getElem?_map,hzj];rfl
    refine run_build w t _ us'.toArray ?_;simp only[Program.built,hi,hu,hiz,vd _ hok,Value.cells]
    simpa using hf
   ·cases hfl
  ·cases he
 ·cases he
theorem GQ(h:dC N tch w0 fr0 S a w fr β){o:Oper}{t:Nat}{ps:Array (Nat×Operand)}{r:PV}{b:Bool}(ho:o.op= .build t ps)(he:fw P S o=some (r,b)):n9 P S o a w fr β r b:=by
 obtain⟨us',hrun,hr,rfl,_,_⟩:=uI h ho he;exact n9.of h (s:=Instr.build t (ps.map fun(i,x)=>(i,a.eval x))) (by simp[execOp,ho]) (v:= .agg us'.toArray) hrun hr
theorem oO(h:dC N tch w0 fr0 S a w fr β){sz:Nat}: ∀(ps:List (Nat×Operand)) (k:Nat) (xs:List DV),fR S sz k ps=some xs→
 (ps.map fun(i,x)=>(i,a.eval x))=(((ps.map fun(_,x)=>a.eval x).zipIdx k).map fun x=>(x.2,x.1))∧xs.length=ps.length∧(∀x∈xs,(cells x).length=sz)∧
 (∀v∈(ps.map fun(_,x)=>a.eval x),v.cells.size=sz)∧kH w fr ((ps.map fun(_,x)=>a.eval x).flatMap fun v=>v.cells.toList) (flat xs)
 | [],k,xs,he=>by
   simp[fR]at he;subst he;exact⟨rfl,rfl,by simp,by simp,kH.nil⟩
 |(i,x)::r,k,xs,he=>by
  unfold fR at he;have hx:=h.ev x
  split at he
  ·rename_i v hp;rw[hp]at hx
   split at he
   ·rename_i hi;obtain⟨rfl,hsz⟩:=hi;simp only[Option.map_eq_some_iff]at he;obtain⟨ys,hy,rfl⟩:=he;obtain⟨e1,e2,e3,e4,e5⟩:=oO h r (i+1) ys hy;have hv:=fH hx;have hnt: ∀ps,a.eval x≠ .tuple ps:=by
     intro ps e;rw[e]at hv;generalize v=v' at hv
     cases hv with
     |opq v hb h1=>simp[one,Value.oneCell']at h1
    have hcv:=Aa hv hnt;have hs:(a.eval x).cells.size=sz:=by rw[←hsz,←hcv.1];simp
    refine⟨by simp only[List.map_cons,List.zipIdx_cons,e1],by simp[e2],fun y hy=>?_,fun u hu=>?_,?_⟩
    ·rcases List.mem_cons.1 hy with rfl|hy
     ·exact hsz
     ·exact e3 y hy
    ·rw[List.map_cons]at hu;rcases List.mem_cons.1 hu with rfl|hu
     ·exact hs
     ·exact e4 u hu
    ·rw[List.map_cons,List.flatMap_cons,dS];exact hcv.append e5
   ·cases he
  ·cases he
theorem gH.alloc(hfrb: ∀b f,fr b=some f→b<w.heap.size)(o:Obj):gH w fr (w.alloc o) fr:=by
 refine⟨rfl,rfl,rfl,by simp,fun b hb=>aO _ _ _ hb,fun _ _=>rfl,fun b f hf=>?_⟩
 have:=hfrb b f hf;simp;omega
theorem wg(h:dC N tch w0 fr0 S a w fr β){o:Oper}{t len:Nat}{ps:Array (Nat×Operand)}{r:PV}{b:Bool}(ho:o.op= .buildSlice t len ps)(he:fw P S o=some (r,b)):n9 P S o a w fr β r b:=by
 simp only[fw,ho]at he
 split at he
 ·rename_i e ht
  split at he
  ·rename_i hc;obtain⟨hlen,hbig,hpos,hz⟩:=hc;simp only[Option.map_eq_some_iff]at he;obtain⟨xs,hx,he⟩:=he
   cases he
   obtain⟨e1,e2,e3,e4,e5⟩:=oO h ps.toList 0 xs hx;obtain⟨z,hz⟩:=Option.isSome_iff_exists.1 hz;have hxl:xs.length=len:=by rw[e2];simpa using hlen
   obtain⟨us,hus⟩: ∃us,us=(ps.toList.map fun(_,x)=>a.eval x).flatMap fun v=>v.cells.toList:=⟨_,rfl⟩
   rw[←hus]at e5;have hul:us.length=len*cX P e:=by rw[e5.1,ed e3,hxl]
   have hrun:(Instr.buildSlice t len (ps.map fun(i,x)=>(i,a.eval x))).run P w= .ok (.slice (some ⟨w.heap.size,0,none⟩) len len) (w.alloc (.cells us.toArray e)):=by
    have hfill: ∀cs:Array Value,cs.size=len*cX P e→Instr.fill (fun i=>some (i*cX P e,cX P e)) cs (ps.map fun(i,x)=>(i,a.eval x)).toList=some us.toArray:=by
     intro cs dQ;have:=Great.fill_whole hpos (ps.toList.map fun(_,x)=>a.eval x) cs e4 (by rw[dQ];simp[hlen])
     rw[←e1,←hus]at this;rw[←this];simp
    obtain⟨i,hi,hiz⟩:=fq hz;have hb: ¬(len*cX P e>2^24):=by omega
    have hb': ¬(16777216<len*cX P e):=by omega
    have hfill': ∀cs:Array Value,cs.size=len*cX P e→Instr.fill (fun i=>some (i*cX P e,cX P e)) cs (List.map (fun x=>(x.fst,a.eval x.snd)) ps.toList)=some us.toArray:=by
     intro cs dQ
     simpa using hfill cs dQ
    by_cases h0:len*cX P e=0
    ·simp[Instr.buildSlice,underlying,dy ht,eG hpos,h0,newRow];rw[hfill' _ (by simp[h0])]
     simp
    ·simp[Instr.buildSlice,underlying,dy ht,eG hpos,hb',h0,zeroValue,typeInfo,hi,hiz,newRow];rw[hfill' _ (by simp)]
     simp
   refine⟨.slice (some ⟨w.heap.size,0,none⟩) len len,w.alloc (.cells us.toArray e),fr,?_,gH.alloc h.frb _,.d _ _ ?_,fun _=>⟨_,_,_,rfl,rfl⟩⟩
   ·simp[execOp,ho,hrun]
   ·rw[←hxl];refine .slice _ _ (cX P e) (fun k=>us.getD k undef) xs (Nat.le_refl _) e3 (fun h0=>⟨_,rfl,rfl,fun f hf=>?_,fun k hk=>?_⟩) (fun k hk=>?_) (fun k p hp=>?_)
    ·have:=h.frb _ _ hf;simp at this
    ·have hk':k<us.length:=by rw[hul,←hxl];exact hk
     have hn:(w.alloc (.cells us.toArray e)).heap[w.heap.size]? =some (.cells us.toArray e):=by
      show(w.heap.push _)[w.heap.size]? =_
      rw[bw]
     simp only[World.cell?,hn,Nat.zero_add];simp[hk',List.getD_eq_getElem?_getD]
    ·have hk':k<us.length:=by rw[hul,←hxl];exact hk
     refine e5.2.1 _ ?_;simp[hk',List.getD_eq_getElem?_getD]
    ·have hk':k<us.length:=by
      rw[e5.1]
      exact(List.getElem?_eq_some_iff.1 hp).1
     have hd:us.getD k undef=us[k]:=by simp[hk',List.getD_eq_getElem?_getD]
     show eB _ _ (us.getD k undef) p
     rw[hd]
     exact(e5.2.2 k _ p (List.getElem?_eq_getElem hk') hp).mono (gH.alloc h.frb _).Bp
  ·cases he
 ·cases he
theorem vI{t e:TypeId}{v z:Value}{w:World}(ht:kP P t=some e)(hpos:0<cX P e)(hbig:cX P e≤16777216)(hz:eQ P e=some z)(hv:v.cells.size=cX P e):
 (Instr.buildSlice t 1 #[(0,v)]).run P w= .ok (.slice (some ⟨w.heap.size,0,none⟩) 1 1) (w.alloc (.cells v.cells.toList.toArray e)):=by
 have hfill: ∀cs:Array Value,cs.size=cX P e→Instr.fill (fun i=>some (i*cX P e,cX P e)) cs [(0,v)]=some v.cells.toList.toArray:=by
  intro cs dQ;have:=Great.fill_whole hpos [v] cs (by simpa using hv) (by simp[dQ])
  simpa using this
 obtain⟨i,hi,hiz⟩:=fq hz;have hb': ¬(16777216<cX P e):=by omega
 have h0: ¬cX P e=0:=by omega
 simp[Instr.buildSlice,underlying,dy ht,eG hpos,hb',h0,zeroValue,typeInfo,hi,hiz,newRow];rw[hfill _ (by simp)]
 simp
theorem EK(h:dC N tch w0 fr0 S a w fr β){o:Oper}{r:PV}{b:Bool}(he:fw P S o=some (r,b)):n9 P S o a w fr β r b:=by
 have he':=he;unfold fw at he'
 split at he'
 ·rename_i ho;exact IT h ho he
 ·rename_i ho;exact Ah h ho he
 ·rename_i ho;exact GR h ho he
 ·rename_i ho;exact IS h ho he
 ·rename_i ho;exact yt h ho he
 ·rename_i ho;exact GP h ho he
 ·rename_i ho;exact yr h ho he
 ·rename_i ho;exact GO h ho he
 ·rename_i ho;exact GN h ho he
 ·rename_i ho;exact GQ h ho he
 ·rename_i ho;exact wg h ho he
 ·rename_i ho;exact Ai h ho he
 ·rename_i ho;exact sq h ho he
 ·rename_i ho;exact BF h ho he
 ·rename_i ho;exact LM h ho he
 ·rename_i ho;simp only[Option.map_eq_some_iff]at he';obtain⟨r',hr,e⟩:=he'
  cases e
  exact we h (mx:=false) ho hr
 ·rename_i ho;simp only[Option.map_eq_some_iff]at he';obtain⟨r',hr,e⟩:=he'
  cases e
  exact we h (mx:=true) ho hr
 ·cases he'
end
theorem ly{tch:Nat→Prop}{w0 w:World}{fr:Nat→Option Nat}:ja tch w0 w fr (.slice none 0 0) (.d (.slice [])):=⟨[],rfl,.inl ⟨none,0,rfl⟩⟩
section
variable {N:Nat} {tch:Env} {w0:World} {fr0:Nat→Option Nat} {S:PS} {a:Act} {w:World} {fr:Nat→Option Nat} {β:Nat→hU}
theorem fe(w:World)(cs:Array Value)(E:TypeId)(k:Nat):(w.alloc (.cells cs E)).cell? ⟨w.heap.size,k,none⟩=cs[k]? :=by
 have hn:(w.alloc (.cells cs E)).heap[w.heap.size]? =some (.cells cs E):=by
  show(w.heap.push _)[w.heap.size]? =_
  rw[bw]
 simp only[World.cell?,hn];rfl
theorem dY(w:World)(o:Obj):(w.alloc o).heap[w.heap.size]? =some o:=by
 show(w.heap.push _)[w.heap.size]? =_
 rw[bw]
theorem dC.oE(h:dC N tch w0 fr0 S a w fr β){d n:Nat}(hd:d<N){w':World}{nb:Nat}(hfx:gH w fr w' (fA fr nb (some 0)))(hnb:w.heap.size≤nb)(cs:Array Value)(E:TypeId)(hat:w'.heap[nb]? =some (.cells cs E (0,0)))
 (content:List PV) (ob:Nat→Bool) (clr:Loc→Bool) (r:PV) (v:Value)
 (hlen:content.length≤cs.size) (hc: ∀(k:Nat) (u:Value) (p:PV),cs[k]? =some u→content[k]? =some p→da w fr β S.gen u p∧one u)
 (hob: ∀k,ob k=true→(cs[k]? =some (.slice none 0 0)∧content[k]? =some (.d (.slice [])))∨(S.own (.b n k)=true∧cs[k]? =some (ew a w β (.b n k))∧content[k]? =some (S.at (.b n k))))
 (hr:(r= .ptr n (S.gen n+1) 0∧v= .pointer (some ⟨nb,0,none⟩))∨ ∃l sz cap ag,0<sz∧l≤cap∧cap*sz=cs.size∧r= .bsl n (S.gen n+1) l sz ag∧v= .slice (some ⟨nb,0,none⟩) l cap):
 dC N tch w0 fr0 ((⟨some d,r,fun _=>false,clr,[⟨n,S.gen n+1,content,ob⟩]⟩:dp).apply S) (a.put (some d) v) w' (fA fr nb (some 0)) (fA β n ⟨nb,cs.size,false⟩):=by
 have hd':d<a.tmps.size:=by rw[h.ntmps];exact hd
 have hg:hZ β S.gen (fA β n ⟨nb,cs.size,false⟩) (fA S.gen n (S.gen n+1)):=by
  refine⟨fun m=>?_,fun m e _=>?_⟩
  ·unfold fA;split
   ·subst_vars;omega
   ·omega
  ·unfold fA at e⊢
   split at e
   ·subst_vars;omega
   ·rename_i hne;rw[if_neg hne]
 have hblt: ∀m,0<S.gen m→0<(β m).c→(β m).b<w.heap.size:=fun m hm h0=>by
  exact(h.boxes m hm).blt h0
 have hsz:=h.size
 let S':PS:=(⟨some d,r,fun _=>false,clr,[⟨n,S.gen n+1,content,ob⟩]⟩:dp).apply S
 have hgm: ∀m,S'.gen m=if m=n then S.gen n+1 else S.gen m:=by
  intro m
  show(match cV [⟨n,S.gen n+1,content,ob⟩] m with|some u=>u.g|none=>S.gen m)=_
  rw[cO];by_cases e:m=n
  ·subst e;simp
  ·have e': ¬n=m:=fun x=>e x.symm
   simp[e,e']
 have hgen:S'.gen=fA S.gen n (S.gen n+1):=by
  funext m
  rw[hgm];rfl
 have hbm: ∀m,S'.box m=if m=n then content else S.box m:=by
  intro m
  show(match cV [⟨n,S.gen n+1,content,ob⟩] m with|some u=>u.c|none=>S.box m)=_
  rw[cO];by_cases e:m=n
  ·subst e;simp
  ·have e': ¬n=m:=fun x=>e x.symm
   simp[e,e']
 have ho_t: ∀i j,S'.own (.t i j)=true→d≠i∧S.own (.t i j)=true:=by
  intro i j ho;have:(if(some d:Option Nat)=some i then false else S.own (.t i j)&& !clr (.t i j))=true:=ho
  simp only[ab]at this
  split at this
  ·cases this
  ·rename_i hne;simp at this;exact⟨hne,this.1⟩
 have ho_b: ∀m k,S'.own (.b m k)=true→(m=n∧ob k=true)∨(m≠n∧S.own (.b m k)=true):=by
  intro m k ho;have:(match cV [⟨n,S.gen n+1,content,ob⟩] m with|some u=>u.o k|none=>S.own (.b m k)&& !clr (.b m k))=true:=ho
  rw[cO]at this;by_cases e:m=n
  ·subst e;simp at this;exact .inl ⟨rfl,this⟩
  ·have e': ¬n=m:=fun x=>e x.symm
   simp[e']at this;exact .inr ⟨e,this.1⟩
 have hcell: ∀m k,m≠n→0<S.gen m→0<(β m).c→ew (a.put (some d) v) w' (fA β n ⟨nb,cs.size,false⟩) (.b m k)=ew a w β (.b m k):=by
  intro m k hm h0 h1;simp only[ew];rw[c6 _ _ hm,hfx.cell (hblt m h0 h1)]
 have htmp: ∀i j,i≠d→ew (a.put (some d) v) w' (fA β n ⟨nb,cs.size,false⟩) (.t i j)=ew a w β (.t i j):=by
  intro i j hi;simp only[ew,kj hd',if_neg hi]
 have hnew: ∀k,ew (a.put (some d) v) w' (fA β n ⟨nb,cs.size,false⟩) (.b n k)=(cs[k]?).getD undef:=by
  intro k;simp only[ew,World.cell?,cR,hat];rfl
 have hold: ∀l,S'.own l=true→(ew (a.put (some d) v) w' (fA β n ⟨nb,cs.size,false⟩) l= .slice none 0 0∧S'.at l= .d (.slice []))∨(S.own l=true∧ew (a.put (some d) v) w' (fA β n ⟨nb,cs.size,false⟩) l=ew a w β l∧S'.at l=S.at l):=by
  intro l hl
  cases l with
  |t i j=>
   obtain⟨hne,hl⟩:=ho_t i j hl;refine .inr ⟨hl,htmp i j (fun e=>hne e.symm),?_⟩
   show(fA S.t d r i).part j=(S.t i).part j
   rw[c6 _ _ (fun e=>hne e.symm)]
  |b m k=>
   rcases ho_b m k hl with⟨e,hk⟩|⟨hne,hl⟩
   ·subst e;have hat':S'.at (.b m k)=content.getD k .any:=by
     show(S'.box m).getD k .any=_
     rw[hbm,if_pos rfl]
    rcases hob k hk with⟨h1,h2⟩|⟨h0,h1,h2⟩
    ·refine .inl ⟨by rw[hnew,h1];rfl,?_⟩
     rw[hat',List.getD_eq_getElem?_getD,h2];rfl
    ·refine .inr ⟨h0,by rw[hnew,h1];rfl,?_⟩
     rw[hat',List.getD_eq_getElem?_getD,h2];rfl
   ·have hlv:=h.live m k hl;refine .inr ⟨hl,hcell m k hne hlv.1 ((h.boxes m hlv.1).at hlv.2),?_⟩
    show(S'.box m).getD k .any=(S.box m).getD k .any
    rw[hbm,if_neg hne]
 refine⟨h.defers,by simp[Act.put,h.ntmps],hfx.os.trans h.os,hfx.tape.trans h.tape,hfx.output.trans h.output,ao hsz hfx.size,hfx.frb,fun b hb ht=>?_,fun b ht=>?_,fun i=>?_,fun m hm=>?_,fun m m' hm hm' hc1 hc2 e=>?_,fun l hl=>?_,fun m k hl=>?_,fun l l' hl hl' hne b hb=>?_,?_⟩
 ·have hb':=Nat.lt_of_lt_of_le hb hsz;exact⟨(hfx.fT b hb').trans (h.frame b hb ht).1,(hfx.reg b hb').trans (h.frame b hb ht).2⟩
 ·obtain⟨hb,f0,f,e0,e,hle,hk⟩:=h.keep b ht;have hb':=Nat.lt_of_lt_of_le hb hsz;exact⟨hb,f0,f,e0,by rw[hfx.reg b hb'];exact e,hle,fun k u hk0 hcc=>by rw[hfx.cell hb'];exact hk k u hk0 hcc⟩
 ·rw[kj hd']
  show da _ _ _ S'.gen _ (fA S.t d r i)
  rw[hgen];by_cases e:i=d
  ·subst e;rw[if_pos rfl,cR];rcases hr with⟨rfl,rfl⟩|⟨l,sz,cap,ag,hs0,hlc,hcap,rfl,rfl⟩
   ·exact .ptr _ _ _ _ (by omega) (by rw[cR];omega) rfl (fun _=>by rw[cR]) (fun _=>by rw[cR])
   ·exact .bsl _ _ _ _ _ _ _ (by omega) (by rw[cR];omega) hs0 hlc (fun _=>by rw[cR];exact⟨fun _=>rfl,hlc,hcap⟩) (fun _=>by rw[cR])
  ·rw[if_neg e,c6 _ _ e]
   exact(h.vals i).mono hfx.Bp hg
 ·have hm:0<S'.gen m:=hm
  show mM _ _ _ _ _ S'.gen (fA β n ⟨nb,cs.size,false⟩ m) (S'.box m)
  rw[hbm,hgen];rw[hgm]at hm;by_cases e:m=n
  ·subst e;rw[cR,if_pos rfl];refine⟨fun _=>hlen,fun _ _=>⟨cs,E,hat,rfl,fun k u p hu hp=>⟨((hc k u p hu hp).1).mono hfx.Bp hg,(hc k u p hu hp).2⟩⟩,fun _=>cR _ _ _,fun _=> .inl (ao hsz hnb),fun _ hk=>absurd hk (by simp)⟩
  ·rw[if_neg e]at hm;rw[c6 _ _ e,if_neg e];have hbx:=h.boxes m hm;exact hbx.move hfx.Bp hg (fun h0=>hfx.fT _ (hblt m hm h0)) (fun h0=>hfx.reg _ (hblt m hm h0))
 ·have hm:0<S'.gen m:=hm;have hm':0<S'.gen m':=hm';rw[hgm]at hm hm';by_cases e1:m=n
  ·by_cases e2:m'=n
   ·rw[e1,e2]
   ·subst e1;rw[cR,c6 _ _ e2]at e;rw[if_neg e2]at hm';rw[c6 _ _ e2]at hc2;have:=hblt m' hm' hc2;simp only at e;omega
  ·by_cases e2:m'=n
   ·subst e2;rw[cR,c6 _ _ e1]at e;rw[if_neg e1]at hm;rw[c6 _ _ e1]at hc1;have:=hblt m hm hc1;simp only at e;omega
   ·rw[c6 _ _ e1,c6 _ _ e2]at e;rw[if_neg e1]at hm;rw[if_neg e2]at hm';rw[c6 _ _ e1]at hc1;rw[c6 _ _ e2]at hc2;exact h.binj m m' hm hm' hc1 hc2 e
 ·rcases hold l hl with⟨e1,e2⟩|⟨ho,e1,e2⟩
  ·rw[e1]
   show ja _ _ _ _ _ (S'.at l)
   rw[e2];exact ly
  ·rw[e1]
   show ja _ _ _ _ _ (S'.at l)
   rw[e2]
   refine(h.own l ho).same fun b hb=>?_
   have:=(h.own l ho).row hb;exact⟨hfx.fT b this,hfx.reg b this⟩
 ·show 0<S'.gen m∧k<(S'.box m).length
  rw[hgm,hbm];rcases ho_b m k hl with⟨e,hk⟩|⟨hne,hl⟩
  ·subst e;rw[if_pos rfl,if_pos rfl];refine⟨by omega,?_⟩
   rcases hob k hk with⟨_,h2⟩|⟨_,_,h2⟩
   ·exact(List.getElem?_eq_some_iff.1 h2).1
   ·exact(List.getElem?_eq_some_iff.1 h2).1
  ·rw[if_neg hne,if_neg hne];exact h.live m k hl
 ·rcases hold l hl with⟨e1,e2⟩|⟨ho,e1,e2⟩
  ·rw[e1]at hb
   cases hb
  ·rcases hold l' hl' with⟨e1',e2'⟩|⟨ho',e1',e2'⟩
   ·rw[e1'];simp[rowOf]
   ·rw[e1'];rw[e1]at hb;exact h.oinj l l' ho ho' hne b hb
 ·show hZ _ _ _ S'.gen
  rw[hgen];exact h.ext.trans hg
theorem fD(b:Nat): ∀(vs:List Value) (o:Nat) (w:World) (k:Nat),k≠b→(w.setCells b o vs).heap[k]? =w.heap[k]?
 | [],_,_,_,_=>rfl
 |v::r,o,w,k,hk=>by
  unfold World.setCells;rw[fD b r (o+1) _ k hk,Below.heap_setCell _ _ _ _ hk]
theorem j_(b:Nat): ∀(vs:List Value) (o:Nat) (w:World),(w.setCells b o vs).os=w.os∧(w.setCells b o vs).tape=w.tape∧(w.setCells b o vs).output=w.output∧(w.setCells b o vs).heap.size=w.heap.size
 | [],_,_=>⟨rfl,rfl,rfl,rfl⟩
 |v::r,o,w=>by
  unfold World.setCells;obtain⟨h1,h2,h3,h4⟩:=j_ b r (o+1) (w.setCell ⟨b,o,none⟩ v);exact⟨h1,h2,h3,by rw[h4];simp[World.setCell]⟩
theorem vv(w:World)(b o:Nat)(v:Value)(cs:Array Value)(E:TypeId)(f:Nat×Nat)(h:w.heap[b]? =some (.cells cs E f)):
 (w.setCell ⟨b,o,none⟩ v).heap[b]? =some (.cells (cs.setIfInBounds o v) E f):=by
 simp only[World.setCell,bX,if_true,h,Option.map_some];rfl
theorem iB(b:Nat): ∀(vs:List Value) (o:Nat) (w:World) (cs:List Value) (E:TypeId) (f:Nat×Nat),w.heap[b]? =some (.cells cs.toArray E f)→o+vs.length≤cs.length→
 (w.setCells b o vs).heap[b]? =some (.cells (cs.take o++vs++cs.drop (o+vs.length)).toArray E f)
 | [],o,w,cs,E,f,h,_=>by simpa[World.setCells]using h
 |v::r,o,w,cs,E,f,h,hl=>by
  unfold World.setCells;simp only[List.length_cons]at hl;have h1:=vv w b o v cs.toArray E f h;rw[List.setIfInBounds_toArray]at h1;rw[iB b r (o+1) _ (cs.set o v) E f h1 (by simp;omega)]
  congr 2
  congr 1
  have hk1:o<cs.length:=by omega
  have ht:(cs.take o).length=o:=by simp;omega
  have h2:(cs.set o v).take (o+1)=cs.take o++ [v]:=by
   rw[aT,if_pos hk1,List.take_append,ht,List.take_of_length_le (by omega)]
   simp
  have h3:(cs.set o v).drop (o+1+r.length)=cs.drop (o+(v::r).length):=by
   rw[aT,if_pos hk1,List.drop_append,ht,List.drop_eq_nil_of_le (by omega),List.nil_append,show o+1+r.length-o=r.length+1 by omega,a8,cg]
   congr 1
   simp only[List.length_cons];omega
  rw[h2,h3];simp
theorem dC.Ay(h:dC N tch w0 fr0 S a w fr β){n off:Nat}(hn:0<S.gen n)(hk0:(β n).k=false)(vs:List Value)(ps:List PV)(clr:Loc→Bool)(ob:Nat→Bool)
 (hclr: ∀m k,clr (.b m k)=false) (hlen:vs.length=ps.length) (hoff:off≤(S.box n).length) (hle:off+ps.length≤(β n).c) (hc0:0<(β n).c) (hv: ∀(k:Nat) (u:Value) (p:PV),vs[k]? =some u→ps[k]? =some p→da w fr β S.gen u p∧one u)
 (hob: ∀k,ob k=true→(k<off∨off+ps.length≤k)∧S.own (.b n k)=true∨
  ∃j l,k=off+j∧j<ps.length∧(vs[j]? =some (.slice none 0 0)∧ps[j]? =some (.d (.slice []))∨(S.own l=true∧clr l=true∧ps.length=1∧vs[j]? =some (ew a w β l)∧ps[j]? =some (S.at l)))):
 dC N tch w0 fr0 ((⟨none,.undef,fun _=>false,clr,[⟨n,S.gen n,(S.box n).take off++ps++(S.box n).drop (off+ps.length),ob⟩]⟩:dp).apply S) a (w.setCells (β n).b off vs) fr β:=by
 have hbn:=h.boxes n hn;obtain⟨cs,E,hc,dQ,hcp⟩:=hbn.ex hc0 hk0;have hreg:=hbn.reg hc0;have hmine:=hbn.mine hc0;have hbl:=hbn.len (.inl hk0);have hcl:cs=cs.toList.toArray:=(aJ (xs:=cs)).symm;have hcsl:cs.toList.length=(β n).c:=by rw[←dQ];simp
 obtain⟨r1,r2,r3,r4⟩:=j_ (β n).b vs off w;have hat:(w.setCells (β n).b off vs).heap[(β n).b]? =some (.cells (cs.toList.take off++vs++cs.toList.drop (off+vs.length)).toArray E (0,0)):=
  iB (β n).b vs off w cs.toList E (0,0) (by rw[aJ];exact hc) (by rw[hcsl,hlen];exact hle)
 have hne: ∀b,b≠(β n).b→(w.setCells (β n).b off vs).heap[b]? =w.heap[b]? :=fun b hb=>fD (β n).b vs off w b hb
 have hcell: ∀b o,b≠(β n).b→(w.setCells (β n).b off vs).cell? ⟨b,o,none⟩=w.cell? ⟨b,o,none⟩:=fun b o hb=>aE (w:=w) (hne b hb)
 have hx:jM w fr (w.setCells (β n).b off vs) fr:=by
  refine⟨fun b o u hcc hf=>?_,fun b f' _ hf=>⟨f',hf,Nat.le_refl _⟩,by rw[r4];exact Nat.le_refl _⟩
  have hb:b≠(β n).b:=by
   intro e;subst e;exact absurd (hf 0 hreg) (by omega)
  rw[hcell b o hb];exact hcc
 have hnewcell: ∀k,(w.setCells (β n).b off vs).cell? ⟨(β n).b,k,none⟩=(cs.toList.take off++vs++cs.toList.drop (off+vs.length))[k]? :=by
  intro k;simp only[World.cell?,hat];simp
 have holdcell: ∀k,w.cell? ⟨(β n).b,k,none⟩=cs.toList[k]? :=by
  intro k;simp only[World.cell?,hc];simp
 let E':dp:=⟨none,.undef,fun _=>false,clr,[⟨n,S.gen n,(S.box n).take off++ps++(S.box n).drop (off+ps.length),ob⟩]⟩
 have hgen: ∀m,(E'.apply S).gen m=S.gen m:=by
  intro m
  show(match cV [⟨n,S.gen n,(S.box n).take off++ps++(S.box n).drop (off+ps.length),ob⟩] m with|some u=>u.g|none=>S.gen m)=S.gen m
  rw[cO];by_cases e:n=m
  ·subst e;simp
  ·simp[e]
 have hgen':(E'.apply S).gen=S.gen:=funext hgen;have hboxn:(E'.apply S).box n=(S.box n).take off++ps++(S.box n).drop (off+ps.length):=by
  show(match cV [⟨n,S.gen n,(S.box n).take off++ps++(S.box n).drop (off+ps.length),ob⟩] n with|some u=>u.c|none=>S.box n)=_
  simp[cO]
 have hboxm: ∀m,m≠n→(E'.apply S).box m=S.box m:=fun m hm=>by
  show(match cV [⟨n,S.gen n,(S.box n).take off++ps++(S.box n).drop (off+ps.length),ob⟩] m with|some u=>u.c|none=>S.box m)=_
  have e: ¬n=m:=fun x=>hm x.symm
  simp[cO,e]
 have hot: ∀i j,(E'.apply S).own (.t i j)=(S.own (.t i j)&& !clr (.t i j)):=fun i j=>rfl
 have hob': ∀m k,(E'.apply S).own (.b m k)=if m=n then ob k else S.own (.b m k)&& !clr (.b m k):=fun m k=>by
  show(match cV [⟨n,S.gen n,(S.box n).take off++ps++(S.box n).drop (off+ps.length),ob⟩] m with|some u=>u.o k|none=>S.own (.b m k)&& !clr (.b m k))=_
  rw[cO];by_cases e:m=n
  ·subst e;simp
  ·have e': ¬n=m:=fun x=>e x.symm
   simp[e,e']
 --where an own place came from
 have hold: ∀l,(E'.apply S).own l=true→((∃k j,l= .b n k∧k=off+j∧vs[j]? =some (.slice none 0 0)∧ps[j]? =some (.d (.slice []))∧ew a (w.setCells (β n).b off vs) β l= .slice none 0 0∧(E'.apply S).at l= .d (.slice []))∨
  ∃l0,S.own l0=true∧(l0=l∧(clr l=false∨ ∃k,l= .b n k∧(k<off∨off+ps.length≤k))∨(clr l0=true∧ps.length=1∧l= .b n off))∧ew a (w.setCells (β n).b off vs) β l=ew a w β l0∧(E'.apply S).at l=S.at l0):=by
  intro l hl
  cases l with
  |t i j=>
   rw[hot]at hl;simp at hl;exact .inr ⟨.t i j,hl.1,.inl ⟨rfl,.inl hl.2⟩,rfl,rfl⟩
  |b m k=>
   rw[hob']at hl
   split at hl
   ·rename_i e;subst e;rcases hob k hl with⟨hk,ho⟩|⟨j,l0,rfl,hj,hh⟩
    ·refine .inr ⟨.b m k,ho,.inl ⟨rfl,.inr ⟨k,rfl,hk⟩⟩,?_,?_⟩
     ·simp only[ew];rw[hnewcell,holdcell,List.append_assoc];rcases hk with hk|hk
      ·rw[List.getElem?_append_left (by simp;omega),ah,if_pos hk]
      ·rw[List.getElem?_append_right (by simp;omega),List.getElem?_append_right (by simp;omega),ak]
       congr 2
       simp;omega
     ·show((E'.apply S).box m).getD k .any=(S.box m).getD k .any
      rw[hboxn,List.getD_eq_getElem?_getD,List.getD_eq_getElem?_getD,List.append_assoc];rcases hk with hk|hk
      ·rw[List.getElem?_append_left (by simp;omega),ah,if_pos hk]
      ·rw[List.getElem?_append_right (by simp;omega),List.getElem?_append_right (by simp;omega),ak]
       congr 2
       simp;omega
    ·have hv1:ew a (w.setCells (β m).b off vs) β (.b m (off+j))=(vs[j]?).getD undef:=by
      simp only[ew];rw[hnewcell,List.append_assoc,List.getElem?_append_right (by simp;omega),List.getElem?_append_left (by simp;omega)]
      congr 2
      simp;omega
     have hp1:(E'.apply S).at (.b m (off+j))=(ps[j]?).getD .any:=by
      show((E'.apply S).box m).getD (off+j) .any=_
      rw[hboxn,List.getD_eq_getElem?_getD,List.append_assoc,List.getElem?_append_right (by simp;omega),List.getElem?_append_left (by simp;omega)]
      congr 2
      simp;omega
     rcases hh with⟨hh1,hh2⟩|⟨ho,hclr,h1,hh1,hh2⟩
     ·exact .inl ⟨off+j,j,rfl,rfl,hh1,hh2,by rw[hv1,hh1];rfl,by rw[hp1,hh2];rfl⟩
     ·have hj0:j=0:=by omega
      subst hj0;exact .inr ⟨l0,ho,.inr ⟨hclr,h1,rfl⟩,by rw[hv1,hh1];rfl,by rw[hp1,hh2];rfl⟩
   ·rename_i hne;simp at hl;refine .inr ⟨.b m k,hl.1,.inl ⟨rfl,.inl hl.2⟩,?_,?_⟩
    ·simp only[ew];rw[hcell];intro e;have hlv:=h.live m k hl.1;exact hne (h.binj m n hlv.1 hn ((h.boxes m hlv.1).at hlv.2) hc0 e)
    ·show((E'.apply S).box m).getD k .any=(S.box m).getD k .any
     rw[hboxm m hne]
 refine⟨h.defers,h.ntmps,r1.trans h.os,r2.trans h.tape,r3.trans h.output,by rw[r4];exact h.size,fun b f hf=>by rw[r4];exact h.frb b f hf,fun b hb ht=>?_,fun b ht=>?_,fun i=>?_,fun m hm=>?_,fun m m' hm hm' h1 h2 e=>?_,fun l hl=>?_,fun m k hl=>?_,fun l l' hl hl' hnel b hb=>?_,by rw[hgen'];exact h.ext⟩
 ·have hb':b≠(β n).b:=by
   intro e;subst e;rcases hmine with hm|hm
   ·omega
   ·exact ht hm
  exact⟨(hne b hb').trans (h.frame b hb ht).1,(h.frame b hb ht).2⟩
 ·obtain⟨hb,f0,f,e0,e,hle',hk⟩:=h.keep b ht;refine⟨hb,f0,f,e0,e,hle',fun k u hk0 hcc=>?_⟩
  have hb':b≠(β n).b:=by
   intro e';subst e';rw[hreg]at e
   cases e
   omega
  rw[hcell b k hb'];exact hk k u hk0 hcc
 ·rw[hgen']
  exact(h.vals i).mono hx (hZ.refl _ _)
 ·rw[hgen']at hm⊢;by_cases e:m=n
  ·subst e;rw[hboxn];refine⟨fun _=>by simp;omega,fun _ _=>⟨_,E,hat,?_,fun k u p hu hp=>?_⟩,fun _=>hreg,fun _=>hmine,fun _ hk=>by rw[hk0]at hk;cases hk⟩
   ·simp at hcsl⊢;omega
   ·rw[ax,List.append_assoc]at hu;rw[List.append_assoc]at hp;by_cases c1:k<off
    ·rw[List.getElem?_append_left (by simp;omega),ah,if_pos c1]at hu hp
     have:=hcp k u p (by simpa using hu) hp
     exact⟨this.1.mono hx (hZ.refl _ _),this.2⟩
    ·rw[List.getElem?_append_right (by simp;omega)]at hu hp
     have el:(cs.toList.take off).length=off:=by simp;omega
     have el':((S.box m).take off).length=off:=by simp;omega
     rw[el]at hu;rw[el']at hp;by_cases c2:k-off<ps.length
     ·rw[List.getElem?_append_left (by omega)]at hu hp
      have:=hv _ u p hu hp;exact⟨this.1.mono hx (hZ.refl _ _),this.2⟩
     ·rw[List.getElem?_append_right (by omega),ak]at hu hp
      rw[hlen]at hu;have:=hcp _ u p (by simpa using hu) hp
      exact⟨this.1.mono hx (hZ.refl _ _),this.2⟩
  ·rw[hboxm m e];have hbm:=h.boxes m hm;exact hbm.move hx (hZ.refl _ _) (fun h0=>hne _ fun e'=>e (h.binj m n hm hn h0 hc0 e')) (fun _=>rfl)
 ·rw[hgen']at hm hm';exact h.binj m m' hm hm' h1 h2 e
 ·rcases hold l hl with⟨k,j,rfl,rfl,h1,h2,e1,e2⟩|⟨l0,ho,_,e1,e2⟩
  ·rw[e1,e2];exact ly
  ·rw[e1,e2]
   refine(h.own l0 ho).same fun b hb=>⟨hne b fun e=>?_,rfl⟩
   subst e;obtain⟨xs,hxs,hh⟩:=h.own l0 ho;rcases hh with⟨A,q,hq⟩|⟨b',c,cur,E2,sz,hq,h1,h2,h20,h3,h4,h5,h6,h7⟩
   ·rw[hq]at hb
    cases A<;>simp[rowOf]at hb
   ·rw[hq]at hb;have e:b'=(β n).b:=by simpa[rowOf,h1]using hb
    rw[e,hreg]at h6;have hz:xs.length*sz=0:=by simpa using h6.symm
    rcases bA.1 hz with h'|h'<;>omega
 ·rw[hgen'];rw[hob']at hl
  split at hl
  ·rename_i e;subst e;refine⟨hn,?_⟩;rw[hboxn];rcases hob k hl with⟨_,ho⟩|⟨j,l0,rfl,hj,_⟩
   ·have:=(h.live m k ho).2;simp;omega
   ·simp;omega
  ·rename_i hne2;simp at hl;rw[hboxm m hne2];exact h.live m k hl.1
 ·rcases hold l hl with⟨k,j,rfl,rfl,h1,h2,e1,e2⟩|⟨l0,ho,hw,e1,e2⟩
  ·rw[e1]at hb;simp[rowOf]at hb
  ·rcases hold l' hl' with⟨k',j',rfl,rfl,h1',h2',e1',e2'⟩|⟨l0',ho',hw',e1',e2'⟩
   ·rw[e1'];simp[rowOf]
   ·rw[e1'];rw[e1]at hb;refine h.oinj l0 l0' ho ho' (fun e=>?_) b hb
    subst e;rcases hw with⟨rfl,hw⟩|⟨hc1,_,rfl⟩
    ·rcases hw' with⟨rfl,_⟩|⟨hc2,_,rfl⟩
     ·exact hnel rfl
     ·rcases hw with hw|⟨k,rfl,_⟩
      ·rw[hw]at hc2
       cases hc2
      ·rw[hclr]at hc2
       cases hc2
    ·rcases hw' with⟨rfl,hw'⟩|⟨hc2,_,rfl⟩
     ·rcases hw' with hw'|⟨k,rfl,_⟩
      ·rw[hw']at hc1
       cases hc1
      ·rw[hclr]at hc1
       cases hc1
     ·exact hnel rfl
theorem dC.GJ(h:dC N tch w0 fr0 S a w fr β){d n:Nat}(hd:d<N)(B:hU)(content:List PV)(ob:Nat→Bool)(clr:Loc→Bool)(v:Value)(r:PV)(ro:Nat→Bool)
 (hB:(0<S.gen n∧B=β n∧content=S.box n∧ ∀k,ob k=true→S.own (.b n k)=true)∨(B.c=0∧content= []∧ ∀k,ob k=false)∨
  ((∀m,0<S.gen m→0<(β m).c→(β m).b≠B.b)∧mM tch.tch w0 w fr (fA β n B) (fA S.gen n (S.gen n+1)) B content∧ ∀k,ob k=false))
 (hr:da w fr (fA β n B) (fA S.gen n (S.gen n+1)) v r) (hro: ∀j,ro j=true→eC v j= .slice none 0 0∧r.part j= .d (.slice [])):
 dC N tch w0 fr0 ((⟨some d,r,ro,clr,[⟨n,S.gen n+1,content,ob⟩]⟩:dp).apply S) (a.put (some d) v) w fr (fA β n B):=by
 have hd':d<a.tmps.size:=by rw[h.ntmps];exact hd
 have hdx:jM w fr w fr:=jM.refl w fr;have hg:hZ β S.gen (fA β n B) (fA S.gen n (S.gen n+1)):=by
  refine⟨fun m=>?_,fun m e _=>?_⟩
  ·unfold fA;split
   ·subst_vars;omega
   ·omega
  ·unfold fA at e⊢
   split at e
   ·subst_vars;omega
   ·rename_i hne;rw[if_neg hne]
 let S':PS:=(⟨some d,r,ro,clr,[⟨n,S.gen n+1,content,ob⟩]⟩:dp).apply S
 have hgm: ∀m,S'.gen m=if m=n then S.gen n+1 else S.gen m:=by
  intro m
  show(match cV [⟨n,S.gen n+1,content,ob⟩] m with|some u=>u.g|none=>S.gen m)=_
  rw[cO];by_cases e:m=n
  ·subst e;simp
  ·have e': ¬n=m:=fun x=>e x.symm
   simp[e,e']
 have hgen:S'.gen=fA S.gen n (S.gen n+1):=by
  funext m
  rw[hgm];rfl
 have hbm: ∀m,S'.box m=if m=n then content else S.box m:=by
  intro m
  show(match cV [⟨n,S.gen n+1,content,ob⟩] m with|some u=>u.c|none=>S.box m)=_
  rw[cO];by_cases e:m=n
  ·subst e;simp
  ·have e': ¬n=m:=fun x=>e x.symm
   simp[e,e']
 have ho_t: ∀i j,S'.own (.t i j)=true→(d=i∧ro j=true)∨(d≠i∧S.own (.t i j)=true):=by
  intro i j ho;have:(if(some d:Option Nat)=some i then ro j else S.own (.t i j)&& !clr (.t i j))=true:=ho
  simp only[ab]at this
  split at this
  ·rename_i e;exact .inl ⟨e,this⟩
  ·rename_i hne;simp at this;exact .inr ⟨hne,this.1⟩
 have ho_b: ∀m k,S'.own (.b m k)=true→(m=n∧ob k=true)∨(m≠n∧S.own (.b m k)=true):=by
  intro m k ho;have:(match cV [⟨n,S.gen n+1,content,ob⟩] m with|some u=>u.o k|none=>S.own (.b m k)&& !clr (.b m k))=true:=ho
  rw[cO]at this;by_cases e:m=n
  ·subst e;simp at this;exact .inl ⟨rfl,this⟩
  ·have e': ¬n=m:=fun x=>e x.symm
   simp[e']at this;exact .inr ⟨e,this.1⟩
 have hold: ∀l',S'.own l'=true→(ew (a.put (some d) v) w (fA β n B) l'= .slice none 0 0∧S'.at l'= .d (.slice []))∨(S.own l'=true∧ew (a.put (some d) v) w (fA β n B) l'=ew a w β l'∧S'.at l'=S.at l'):=by
  intro l' hl
  cases l' with
  |t i j=>
   rcases ho_t i j hl with⟨rfl,hj⟩|⟨hne,hl⟩
   ·left;obtain⟨q1,q2⟩:=hro j hj
    refine⟨by simp only[ew,kj hd',if_true];exact q1,?_⟩
    show(fA S.t d _ d).part j=_
    rw[cR,q2]
   right;refine⟨hl,by simp only[ew,kj hd',if_neg (fun e=>hne (Eq.symm e))],?_⟩
   show(fA S.t d _ i).part j=(S.t i).part j
   rw[c6 _ _ (fun e=>hne e.symm)]
  |b m k=>
   right;rcases ho_b m k hl with⟨e,hk⟩|⟨hne,hl⟩
   ·subst e;rcases hB with⟨h0,e1,e2,e3⟩|⟨_,_,e3⟩|⟨_,_,e3⟩
    ·subst e1 e2;refine⟨e3 k hk,by simp only[ew,cR],?_⟩
     show(S'.box m).getD k .any=_
     rw[hbm,if_pos rfl];rfl
    ·rw[e3 k]at hk
     cases hk
    ·rw[e3 k]at hk
     cases hk
   ·refine⟨hl,by simp only[ew,c6 _ _ hne],?_⟩
    show(S'.box m).getD k .any=(S.box m).getD k .any
    rw[hbm,if_neg hne]
 refine⟨h.defers,by simp[Act.put,h.ntmps],h.os,h.tape,h.output,h.size,h.frb,h.frame,h.keep,fun i=>?_,fun m hm=>?_,fun m m' hm hm' hc1 hc2 e=>?_,fun l' hl=>?_,fun m k hl=>?_,fun l1 l2 hl hl' hne b hb=>?_,?_⟩
 ·rw[kj hd']
  show da _ _ _ S'.gen _ (fA S.t d _ i)
  rw[hgen];by_cases e:i=d
  ·subst e;rw[if_pos rfl,cR];exact hr
  ·rw[if_neg e,c6 _ _ e]
   exact(h.vals i).mono hdx hg
 ·have hm:0<S'.gen m:=hm
  show mM _ _ _ _ _ S'.gen (fA β n B m) (S'.box m)
  rw[hbm,hgen];rw[hgm]at hm;by_cases e:m=n
  ·subst e;rw[cR,if_pos rfl];rcases hB with⟨h0,e1,e2,_⟩|⟨e1,e2,_⟩|⟨_,hbox,_⟩
   ·subst e1 e2;have hbx:=h.boxes m h0;exact hbx.move hdx hg (fun _=>rfl) (fun _=>rfl)
   ·subst e2;exact⟨by simp,fun h0=>absurd h0 (by omega),fun h0=>absurd h0 (by omega),fun h0=>absurd h0 (by omega),fun h0=>absurd h0 (by omega)⟩
   ·exact hbox
  ·rw[if_neg e]at hm;rw[c6 _ _ e,if_neg e];have hbx:=h.boxes m hm;exact hbx.move hdx hg (fun _=>rfl) (fun _=>rfl)
 ·have hm:0<S'.gen m:=hm;have hm':0<S'.gen m':=hm';rw[hgm]at hm hm';by_cases e1:m=n
  ·by_cases e2:m'=n
   ·rw[e1,e2]
   ·subst e1;rw[cR,c6 _ _ e2]at e;rw[cR]at hc1;rw[c6 _ _ e2]at hc2;rw[if_neg e2]at hm';rcases hB with⟨h0,q1,_,_⟩|⟨q1,_,_⟩|⟨q1,_,_⟩
    ·subst q1;exact h.binj m m' h0 hm' hc1 hc2 e
    ·omega
    ·exact absurd e.symm (q1 m' hm' hc2)
  ·by_cases e2:m'=n
   ·subst e2;rw[cR,c6 _ _ e1]at e;rw[cR]at hc2;rw[c6 _ _ e1]at hc1;rw[if_neg e1]at hm;rcases hB with⟨h0,q1,_,_⟩|⟨q1,_,_⟩|⟨q1,_,_⟩
    ·subst q1;exact h.binj m m' hm h0 hc1 hc2 e
    ·omega
    ·exact absurd e (q1 m hm hc1)
   ·rw[c6 _ _ e1,c6 _ _ e2]at e;rw[if_neg e1]at hm;rw[if_neg e2]at hm';rw[c6 _ _ e1]at hc1;rw[c6 _ _ e2]at hc2;exact h.binj m m' hm hm' hc1 hc2 e
 ·rcases hold l' hl with⟨e1,e2⟩|⟨ho,e1,e2⟩
  ·rw[e1]
   show ja _ _ _ _ _ (S'.at l')
   rw[e2];exact ly
  ·rw[e1]
   show ja _ _ _ _ _ (S'.at l')
   rw[e2];exact h.own l' ho
 ·show 0<S'.gen m∧k<(S'.box m).length
  rw[hgm,hbm];rcases ho_b m k hl with⟨e,hk⟩|⟨hne,hl⟩
  ·subst e;rw[if_pos rfl,if_pos rfl];rcases hB with⟨h0,_,e2,e3⟩|⟨_,_,e3⟩|⟨_,_,e3⟩
   ·subst e2;exact⟨by omega,(h.live m k (e3 k hk)).2⟩
   ·rw[e3 k]at hk
    cases hk
   ·rw[e3 k]at hk
    cases hk
  ·rw[if_neg hne,if_neg hne];exact h.live m k hl
 ·rcases hold l1 hl with⟨e1,_⟩|⟨ho,e1,_⟩
  ·rw[e1]at hb;simp[rowOf]at hb
  ·rcases hold l2 hl' with⟨e1',_⟩|⟨ho',e1',_⟩
   ·rw[e1'];simp[rowOf]
   ·rw[e1]at hb;rw[e1'];exact h.oinj l1 l2 ho ho' hne b hb
 ·show hZ _ _ _ S'.gen
  rw[hgen];exact h.ext.trans hg
theorem dC.bump(h:dC N tch w0 fr0 S a w fr β){d n:Nat}(hd:d<N)(B:hU)(content:List PV)(ob:Nat→Bool)(clr:Loc→Bool)(v:Value)(l sz cap:Nat)(ag:Bool)(A:Option Addr)
 (hB:(0<S.gen n∧B=β n∧content=S.box n∧ ∀k,ob k=true→S.own (.b n k)=true)∨(B.c=0∧content= []∧ ∀k,ob k=false))
 (hs0:0<sz) (hlc:l≤cap) (hcap:cap*sz=B.c) (hA:0<B.c→A=some ⟨B.b,0,none⟩) (hv:v= .slice A l cap) (hk:B.k=false):
 dC N tch w0 fr0 ((⟨some d,.bsl n (S.gen n+1) l sz ag,fun _=>false,clr,[⟨n,S.gen n+1,content,ob⟩]⟩:dp).apply S) (a.put (some d) v) w fr (fA β n B):=by
 subst hv;exact h.GJ hd B content ob clr _ _ _ (hB.imp_right .inl) (.bsl _ _ _ _ _ _ _ (by omega) (by rw[cR];omega) hs0 hlc (fun _=>by rw[cR];exact⟨hA,hlc,hcap⟩) (fun _=>by rw[cR];exact hk)) (by simp)
theorem dC.O3(h:dC N tch w0 fr0 S a w fr β){d n:Nat}(hd:d<N):dC N tch w0 fr0 ((⟨some d,.mp n (S.gen n+1),fun _=>false,fun _=>false,[⟨n,S.gen n+1,[],fun _=>false⟩]⟩:dp).apply S) (a.put (some d) (.map (some w.heap.size)))
 (w.alloc (.map #[] 0)) (fA fr w.heap.size (some 0)) (fA β n ⟨w.heap.size,1,true⟩):=by
 have hfx:gH w fr (w.alloc (.map #[] 0)) (fA fr w.heap.size (some 0)):=by
  refine⟨rfl,rfl,rfl,by simp,fun b hb=>aO _ _ _ hb,fun b hb=>c6 _ _ (by omega),fun b f hf=>?_⟩
  by_cases e1:b=w.heap.size
  ·subst e1;simp
  ·rw[c6 _ _ e1]at hf;have:=h.frb b f hf;simp;omega
 have hat:(w.alloc (.map #[] 0)).heap[w.heap.size]? =some (.map #[] 0):=by
  show(w.heap.push _)[w.heap.size]? =_
  rw[bw]
 refine(h.fresh hfx).GJ hd ⟨w.heap.size,1,true⟩ [] (fun _=>false) (fun _=>false) _ _ _ (.inr (.inr ⟨fun m hm h0=>?_,?_,fun _=>rfl⟩)) (.mp _ _ _ (by omega) (by rw[cR];omega) (fun _=>by rw[cR]) (fun _=>by rw[cR];exact⟨rfl,rfl⟩)) (by simp)
 ·have:=(h.boxes m hm).blt h0;simp only;omega
 ·exact⟨by simp,fun _ hk=>absurd hk (by simp),fun _=>cR _ _ _,fun _=> .inl h.size,fun _ _=>⟨#[],0,hat,.nil⟩⟩
theorem dC.Je(h:dC N tch w0 fr0 S a w fr β){n:Nat}(hn:0<S.gen n)(hk:(β n).k=true)(hc0:0<(β n).c)(es:Array MapEntry)(clk:Nat)(ps:List PV)(hrep:jh w fr β S.gen es.toList ps){w':World}
 (hw:w'= {w with heap:=w.heap.setIfInBounds (β n).b (.map es clk)}):
 dC N tch w0 fr0 ((⟨none,.undef,fun _=>false,fun _=>false,[⟨n,S.gen n,ps,fun _=>false⟩]⟩:dp).apply S) a w' fr β:=by
 have hbn:=h.boxes n hn;obtain⟨es0,clk0,hh,hr0⟩:=hbn.mex hc0 hk;have hreg:=hbn.reg hc0;have hmine:=hbn.mine hc0;have hlt:=hbn.blt hc0;have hsz:w'.heap.size=w.heap.size:=by rw[hw];simp
 have hne: ∀b,b≠(β n).b→w'.heap[b]? =w.heap[b]? :=by
  intro b hb;rw[hw];simp only[bh];rw[if_neg (fun e=>hb e.symm)]
 have hat:w'.heap[(β n).b]? =some (.map es clk):=by
  rw[hw];simp only[bh,if_true,hlt]
 have hcell: ∀b o,w'.cell? ⟨b,o,none⟩=w.cell? ⟨b,o,none⟩:=by
  intro b o;by_cases e:b=(β n).b
  ·subst e;simp only[World.cell?,hat,hh]
  ·exact aE (w:=w) (hne b e)
 have hx:jM w fr w' fr:=⟨fun b o u hc _=>by rw[hcell];exact hc,fun b f' _ hf=>⟨f',hf,Nat.le_refl _⟩,by omega⟩
 have hg:=hZ.refl β S.gen
 let S':PS:=(⟨none,.undef,fun _=>false,fun _=>false,[⟨n,S.gen n,ps,fun _=>false⟩]⟩:dp).apply S
 have hgen:S'.gen=S.gen:=by
  funext m
  show(match cV [⟨n,S.gen n,ps,fun _=>false⟩] m with|some u=>u.g|none=>S.gen m)=_
  rw[cO];by_cases e:m=n
  ·subst e;simp
  ·have e': ¬n=m:=fun x=>e x.symm
   simp[e']
 have hbm: ∀m,S'.box m=if m=n then ps else S.box m:=by
  intro m
  show(match cV [⟨n,S.gen n,ps,fun _=>false⟩] m with|some u=>u.c|none=>S.box m)=_
  rw[cO];by_cases e:m=n
  ·subst e;simp
  ·have e': ¬n=m:=fun x=>e x.symm
   simp[e,e']
 have hown: ∀l,S'.own l=true→S.own l=true∧S'.at l=S.at l∧ ∀m k,l= .b m k→m≠n:=by
  intro l hl
  cases l with
  |t i j=>
   have:(S.own (.t i j)&& !false)=true:=hl;simp at this;exact⟨this,rfl,by simp⟩
  |b m k=>
   have:(match cV [⟨n,S.gen n,ps,fun _=>false⟩] m with|some u=>u.o k|none=>S.own (.b m k)&& !false)=true:=hl
   rw[cO]at this;by_cases e:m=n
   ·subst e;simp at this
   ·have e': ¬n=m:=fun x=>e x.symm
    simp[e']at this;refine⟨this,?_,fun m' k' h=>by cases h;exact e⟩
    show(S'.box m).getD k .any=(S.box m).getD k .any
    rw[hbm,if_neg e]
 have hvat: ∀l,ew a w' β l=ew a w β l:=by
  intro l
  cases l with
  |t i j=>rfl
  |b m k=>simp only[ew,hcell]
 refine⟨h.defers,h.ntmps,by rw[←h.os,hw],by rw[←h.tape,hw],by rw[←h.output,hw],by rw[hsz];exact h.size,fun b f hf=>by rw[hsz];exact h.frb b f hf,fun b hb ht=>?_,fun b ht=>?_,fun i=>?_,fun m hm=>?_,fun m m' hm hm' h1 h2 e=>?_,fun l hl=>?_,fun m k hl=>?_,fun l l' hl hl' hne' b hb=>?_,?_⟩
 ·rw[hne b fun e=>?_]
  ·exact h.frame b hb ht
  ·subst e;rcases hmine with hm|hm
   ·omega
   ·exact ht hm
 ·obtain⟨hb,f0,f,e0,e,hle,hk'⟩:=h.keep b ht;exact⟨hb,f0,f,e0,e,hle,fun k u hk0 hc=>by rw[hcell];exact hk' k u hk0 hc⟩
 ·show da _ _ _ S'.gen _ _
  rw[hgen]
  exact(h.vals i).mono hx hg
 ·have hm:0<S'.gen m:=hm;rw[hgen]at hm
  show mM _ _ _ _ _ S'.gen _ (S'.box m)
  rw[hgen,hbm];by_cases e:m=n
  ·subst e;rw[if_pos rfl];exact⟨fun h1=>h1.elim (fun h1=>by rw[hk]at h1;cases h1) (fun h1=>by omega),fun _ h1=>(by rw[hk]at h1;cases h1),fun _=>hreg,fun _=>hmine,fun _ _=>⟨es,clk,hat,hrep.mono hx hg⟩⟩
  ·rw[if_neg e]
   exact(h.boxes m hm).move hx hg (fun h0=>hne _ fun e'=>e (h.binj m n hm hn h0 hc0 e')) (fun _=>rfl)
 ·have hm:0<S'.gen m:=hm;have hm':0<S'.gen m':=hm';rw[hgen]at hm hm';exact h.binj m m' hm hm' h1 h2 e
 ·obtain⟨q1,q2,q3⟩:=hown l hl;rw[hvat,q2];obtain⟨xs,e,hh2⟩:=h.own l q1;refine⟨xs,e,?_⟩;rcases hh2 with hh2|⟨b,c,cur,E,sz,w1,w2,w3,w4,w5,w6,w7,w8,w9⟩
  ·exact .inl hh2
  ·have hbb:b≠(β n).b:=by
    intro e;rw[e,hh]at w5
    cases w5
   exact .inr ⟨b,c,cur,E,sz,w1,w2,w3,w4,by rw[hne _ hbb];exact w5,w6,w7,w8,w9⟩
 ·obtain⟨q1,q2,q3⟩:=hown _ hl
  show 0<S'.gen m∧k<(S'.box m).length
  rw[hgen,hbm,if_neg (q3 m k rfl)];exact h.live m k q1
 ·rw[hvat]at hb;rw[hvat];exact h.oinj l l' (hown l hl).1 (hown l' hl').1 hne' b hb
 ·show hZ _ _ _ S'.gen
  rw[hgen];exact h.ext
end
inductive IF(P:Program)(sz by_:Nat)(z:Value)(tx:TypeId)(x:Value)(m:Nat)(news:List Value)(w:World):Prop
 |row (d:TypeDesc) (hd:P.underlying tx=some d) (hk: ∀k,d≠ .int k) (hl:(Builtin.lenOf x).run P w= .ok m w) (hl':(Builtin.lenOf x).run P w.drew= .ok m w.drew)
  (hc:(Builtin.firstCells sz m x).run P w= .ok news.toArray w) (hc':(Builtin.firstCells sz m x).run P w.drew= .ok news.toArray w.drew)
 |zeros (kn kq:IntKind) (hd:P.underlying tx=some (.int kn)) (hx:x= .int kq (m:Int)) (hm:(m:Int)≤9223372036854775807) (hb:m*by_≤281474976710656) (hs:0<sz) (hn:news=(Builtin.zeroCells z.cells m).toList)
theorem Dr:IntKind.i64.wrap 0=0:=by rw[bU];omega
theorem qq{P:Program}{w:World}{t tx ty e:TypeId}{i:TypeInfo}{z:Value}(ht:P.underlying t=some (.slice e))(hi:P.info? e=some i)(hz:i.zero=some z)
 {A:Option Addr} {n c m:Nat} {x:Value} {news:List Value} (hs:IF P i.size i.bytes z tx x m news w) (hroom:n+m≤c) {w':World}
 (hst: ∀ad,A=some ad→(storeCells (ad.add (n*i.size)) news).run P w= .ok () w') (hno:A=none→w'=w):
 (Builtin.append_ #[t,tx] ty #[.slice A n c,x]).run P w= .ok (.slice A (n+m) c) w':=by
 cases hs with
 |row d hd hk hl hl' hc hc'=>
  have hzf:(match d with| .int _=>true|_=>false)=false:=by cases d<;>first|rfl|exact absurd rfl (hk _)
  cases A with
  |none=>
   rw[hno rfl];simp[Builtin.append_,aj ht,aj hd,Go.sizeOf,typeInfo,hi,hl,hroom,hc]
  |some ad=>
   simp[Builtin.append_,aj ht,aj hd,Go.sizeOf,typeInfo,hi,hl,hroom,hc,hst ad rfl]
 |zeros kn kq hd hx hm hb hsz hn=>
  subst hx;have hw:IntKind.i64.wrap (m:Int)=m:=by rw[bU];omega
  have hb': ¬(281474976710656<(m:Int)*(i.bytes:Int)):=by
   have:((m*i.bytes:Nat):Int)=(m:Int)*(i.bytes:Int):=by simp
   omega
  have h0: ¬((m:Int)<0):=by omega
  by_cases hm0:m*i.size=0
  ·have hm00:m=0:=by
    rcases bA.1 hm0 with h|h<;>omega
   subst hm00;have hn':news= []:=by rw[hn];simp[Builtin.zeroCells]
   cases A with
   |none=>
    rw[hno rfl];simp[Builtin.append_,aj ht,aj hd,Go.sizeOf,typeInfo,hi,asInt,asIntOf,Dr,show n≤c by omega]
   |some ad=>
    have:=hst ad rfl;rw[hn']at this;simp[Builtin.append_,aj ht,aj hd,Go.sizeOf,typeInfo,hi,asInt,asIntOf,Dr,show n≤c by omega,this]
  ·have hm1: ¬(m=0∨i.size=0):=by
    intro h;exact hm0 (bA.2 h)
   cases A with
   |none=>
    rw[hno rfl];simp[Builtin.append_,aj ht,aj hd,Go.sizeOf,typeInfo,hi,asInt,asIntOf,hw,hb',h0,hroom,hm0,zeroValue,hz]
   |some ad=>
    have:=hst ad rfl;rw[hn]at this;simp[Builtin.append_,aj ht,aj hd,Go.sizeOf,typeInfo,hi,asInt,asIntOf,hw,hb',h0,hroom,hm0,zeroValue,hz,this]
theorem tH{P:Program}{w:World}{t tx ty e:TypeId}{i:TypeInfo}{z:Value}(ht:P.underlying t=some (.slice e))(hi:P.info? e=some i)(hz:i.zero=some z)
 {A:Option Addr} {n c m:Nat} {x:Value} {olds news:List Value} (hs:IF P i.size i.bytes z tx x m news w) (hold:(Builtin.firstCells i.size n (.slice A n c)).run P w.drew= .ok olds.toArray w.drew)
 (hg:c<n+m) (h63:((n+m:Nat):Int)≤9223372036854775807) (hb:(n+m)*i.bytes≤140737488355328):
 (Builtin.append_ #[t,tx] ty #[.slice A n c,x]).run P w= .ok (.slice (some ⟨w.heap.size,0,none⟩) (n+m) (grownCap w (n+m) c e))
  (w.drew.alloc (.cells (olds++news++(Builtin.zeroCells z.cells (grownCap w (n+m) c e-(n+m))).toList).toArray e)):=by
 have hfit:=growslice_fits hg hb;have hn: ¬(n+m≤c):=by omega
 have h63': ¬(9223372036854775807<((n:Int)+(m:Int))):=by omega
 have h48': ¬(281474976710656<Builtin.nextslicecap (n+m) c*i.bytes):=by omega
 have hfin: ∀(P1 P2 P3:List Value),(P1.toArray++P2.toArray++P3.toArray)=(P1++P2++P3).toArray:=by intro P1 P2 P3;simp
 cases hs with
 |row d hd hk hl hl' hc hc'=>
  have hzf:(match d with| .int _=>true|_=>false)=false:=by cases d<;>first|rfl|exact absurd rfl (hk _)
  have hold':(Builtin.firstCells i.size n (.slice A n c)).run P w.drew= .ok olds.toArray w.drew:=hold;simp[Builtin.append_,aj ht,aj hd,Go.sizeOf,typeInfo,hi,hzf,hl,hn,h63',h48',Question.forced,hold',hc',zeroValue,hz,newRow,grownCap]
  congr 2
  apply Array.ext'
  simp[List.append_assoc]
 |zeros kn kq hd hx hm hb2 hsz hn2=>
  subst hx;have hw:IntKind.i64.wrap (m:Int)=m:=by rw[bU];omega
  have hb': ¬(281474976710656<(m:Int)*(i.bytes:Int)):=by
   have:((m*i.bytes:Nat):Int)=(m:Int)*(i.bytes:Int):=by simp
   omega
  have h0: ¬((m:Int)<0):=by omega
  have hmx:max (m:Int) 0=m:=by omega
  by_cases hm0:m*i.size=0
  ·have hm00:m=0:=by
    rcases bA.1 hm0 with h|h<;>omega
   subst hm00;have hn':news= []:=by rw[hn2];simp[Builtin.zeroCells]
   subst hn';have hn0: ¬(n≤c):=by omega
   have h63'': ¬(9223372036854775807<(n:Int)):=by omega
   have h48'': ¬(281474976710656<Builtin.nextslicecap n c*i.bytes):=by simpa using h48'
   simp[Builtin.append_,aj ht,aj hd,Go.sizeOf,typeInfo,hi,asInt,asIntOf,Dr,hn0,h63'',h48'',Question.forced,hold,zeroValue,hz,newRow,grownCap]
   congr 2
   apply Array.ext'
   simp[List.append_assoc]
  ·have hm1: ¬(m=0∨i.size=0):=by
    intro h;exact hm0 (bA.2 h)
   subst hn2;simp[Builtin.append_,aj ht,aj hd,Go.sizeOf,typeInfo,hi,asInt,asIntOf,hw,hb',h0,hmx,hn,h63',h48',hm0,Question.forced,hold,zeroValue,hz,newRow,grownCap]
   congr 2
   apply Array.ext'
   simp[List.append_assoc]
section
variable {N:Nat} {tch:Env} {w0:World} {fr0:Nat→Option Nat} {S:PS} {a:Act} {w:World} {fr:Nat→Option Nat} {β:Nat→hU}
def PS.clear(S:PS)(clr:Loc→Bool):PS:= {S with own:=fun l=>S.own l&& !clr l}
theorem dC.clear(h:dC N tch w0 fr0 S a w fr β)(clr:Loc→Bool):dC N tch w0 fr0 (S.clear clr) a w fr β:=by
 have hc: ∀l,(S.clear clr).own l=true→S.own l=true:=fun l hl=>by simp[PS.clear]at hl;exact hl.1
 have hat: ∀l,(S.clear clr).at l=S.at l:=fun l=>by cases l<;>rfl
 exact⟨h.defers,h.ntmps,h.os,h.tape,h.output,h.size,h.frb,h.frame,h.keep,h.vals,h.boxes,h.binj,fun l hl=>by rw[hat];exact h.own l (hc l hl),fun n k hl=>h.live n k (hc _ hl),
  fun l l' hl hl'=>h.oinj l l' (hc l hl) (hc l' hl'),h.ext⟩
theorem dC.Jm(h:dC N tch w0 fr0 S a w fr β){b f:Nat}{cur:Array Value}{E:TypeId}(hb:w.heap[b]? =some (.cells cur E (0,0)))(hf:fr b=some f)(hf0:0<f)(hm:w0.heap.size≤b∨tch b)
 (news:List Value) (f':Nat) (hff:f≤f') (hno: ∀l,S.own l=true→rowOf (ew a w β l)≠some b):
 dC N tch w0 fr0 S a (w.setCells b f news) (fA fr b (some f')) β:=by
 obtain⟨r1,r2,r3,r4⟩:=j_ b news f w;have hne: ∀b',b'≠b→(w.setCells b f news).heap[b']? =w.heap[b']? :=fun b' hb'=>fD b news f w b' hb'
 have hcell: ∀b' o,b'≠b→(w.setCells b f news).cell? ⟨b',o,none⟩=w.cell? ⟨b',o,none⟩:=fun b' o hb'=>aE (w:=w) (hne b' hb')
 have hlow: ∀o,o<f→(w.setCells b f news).cell? ⟨b,o,none⟩=w.cell? ⟨b,o,none⟩:=fun o ho=>
  World.cell?_setCells_out b news f w ⟨b,o,none⟩ fun _ _=> .inl ho
 have hx:jM w fr (w.setCells b f news) (fA fr b (some f')):=by
  refine⟨fun b' o u hcc hfr=>?_,fun b' f2 _ h2=>?_,by rw[r4];exact Nat.le_refl _⟩
  ·by_cases e:b'=b
   ·subst e;rw[hlow o (hfr f hf)];exact hcc
   ·rw[hcell b' o e];exact hcc
  ·by_cases e:b'=b
   ·subst e;rw[cR]at h2
    cases h2
    exact⟨f,hf,hff⟩
   ·rw[c6 _ _ e]at h2;exact⟨f2,h2,Nat.le_refl _⟩
 have hbox: ∀m,0<S.gen m→0<(β m).c→(β m).b≠b:=by
  intro m hm h0 e;have:=(h.boxes m hm).reg h0;rw[e,hf]at this
  cases this
  omega
 have hbs:b<w.heap.size:=(aH.1 hb).1;have hvat: ∀l,S.own l=true→ew a (w.setCells b f news) β l=ew a w β l:=by
  intro l hl
  cases l with
  |t i j=>rfl
  |b n k=>
   simp only[ew];have hlv:=h.live n k hl;rw[hcell _ _ (hbox n hlv.1 ((h.boxes n hlv.1).at hlv.2))]
 refine⟨h.defers,h.ntmps,r1.trans h.os,r2.trans h.tape,r3.trans h.output,by rw[r4];exact h.size,fun b' f2 h2=>?_,fun b' hb' ht=>?_,fun b' ht=>?_,fun i=>(h.vals i).mono hx (hZ.refl _ _),fun m hm=>?_,h.binj,fun l hl=>?_,h.live,fun l l' hl hl' hnel b' hb'=>?_,h.ext⟩
 ·rw[r4];by_cases e:b'=b
  ·rw[e];exact hbs
  ·rw[c6 _ _ e]at h2;exact h.frb b' f2 h2
 ·have e:b'≠b:=by
   intro e;subst e;rcases hm with hm|hm
   ·omega
   ·exact ht hm
  exact⟨(hne b' e).trans (h.frame b' hb' ht).1,(c6 _ _ e).trans (h.frame b' hb' ht).2⟩
 ·obtain⟨hb',f0,f1,e0,e1,hle,hk⟩:=h.keep b' ht;by_cases e:b'=b
  ·subst e;rw[hf]at e1
   cases e1
   exact⟨hb',f0,f',e0,cR _ _ _,ao hle hff,fun k u hk0 hcc=>by rw[hlow k (by omega)];exact hk k u hk0 hcc⟩
  ·exact⟨hb',f0,f1,e0,by rw[c6 _ _ e];exact e1,hle,fun k u hk0 hcc=>by rw[hcell b' k e];exact hk k u hk0 hcc⟩
 ·have hbm:=h.boxes m hm;exact hbm.move hx (hZ.refl _ _) (fun h0=>hne _ (hbox m hm h0)) (fun h0=>c6 _ _ (hbox m hm h0))
 ·rw[hvat l hl]
  refine(h.own l hl).same fun b' hb'=>?_
  have e:b'≠b:=by
   intro e;subst e;exact hno l hl hb'
  exact⟨hne b' e,c6 _ _ e⟩
 ·rw[hvat l hl]at hb';rw[hvat l' hl'];exact h.oinj l l' hl hl' hnel b' hb'
theorem ju(z:Value)(n:Nat):(Builtin.zeroCells z.cells n).size=n*z.cells.size:=by simp[Builtin.zeroCells]
theorem dC.append{P:Program}(h:dC N tch w0 fr0 S a w fr β){dst:Option Nat}(hdst: ∀d,dst=some d→d<N){s:Nat}{xs ys:List DV}(hs:S.t s= .d (.slice xs))(hown:S.own (.t s 0)=true)
 {t tx ty e:TypeId} {i:TypeInfo} {z x:Value} {m:Nat} {news:List Value} (ht:P.underlying t=some (.slice e)) (hi:P.info? e=some i) (hz:i.zero=some z) (hzs:z.cells.size=i.size) (hpos:0<i.size)
 (hsrc:IF P i.size i.bytes z tx x m news w) (hm:m=ys.length) (hnews:kH w fr news (flat ys)) (hzx: ∀x∈xs,(cells x).length=i.size) (hzy: ∀x∈ys,(cells x).length=i.size)
 (hb0:0<i.bytes) (hb:(xs.length+ys.length)*i.bytes≤140737488355328):
 ∃v w' fr',(Builtin.append_ #[t,tx] ty #[a.tmps.getD s undef,x]).run P w= .ok v w'∧dC N tch w0 fr0 ((⟨dst,.d (.slice (xs++ys)),fun j=>j==0,dg s,[]⟩:dp).apply S) (a.put dst v) w' fr' β:=by
 have hv:=h.vals s;rw[hs]at hv;have ho:=h.own _ hown;obtain⟨A,cap,sz,us,ev,hcap,hsz,ha,h1,hh⟩:=ff (fH hv);have hvs:ew a w β (.t s 0)= .slice A xs.length cap:=by simp only[ew,ev];rfl
 rw[hvs]at ho;rw[ev];have hlen:xs.length+ys.length≤140737488355328:=ao (ba _ hb0) hb;have h63:((xs.length+m:Nat):Int)≤9223372036854775807:=by omega
 have hnl:news.length=ys.length*i.size:=by rw[hnews.1,ed hzy]
 have hesz:0<xs.length→sz=i.size:=by
  intro h0;obtain⟨q,hq⟩:=aC h0;rw[←hsz q hq,hzx q hq]
 have hall: ∀q∈xs++ys,(cells q).length=i.size:=by
  intro q hq;rcases List.mem_append.1 hq with hq|hq
  ·exact hzx q hq
  ·exact hzy q hq
 --the fT cells,as a list
 obtain⟨olds,holds⟩: ∃olds:List Value,olds=(List.range (xs.length*i.size)).map us:=⟨_,rfl⟩;have hol:olds.length=xs.length*i.size:=by simp[holds]
 have hog: ∀k,k<xs.length*i.size→olds[k]? =some (us k):=by
  intro k hk;simp[holds,hk]
 have hoR:kH w fr olds (flat xs):=by
  refine⟨by rw[hol,ed hzx],fun u hu=>?_,fun k u p hu hp=>?_⟩
  ·simp only[holds,List.mem_map,List.mem_range]at hu;obtain⟨k,hk,rfl⟩:=hu;have h0:0<xs.length:=by
    rcases az xs.length with h0|h0
    ·rw[h0,bM]at hk;omega
    ·exact h0
   exact h1 k (by rw[hesz h0];exact hk)
  ·have hk:k<xs.length*i.size:=by
    have:=(List.getElem?_eq_some_iff.1 hu).1;omega
   rw[hog k hk]at hu
   cases hu
   exact hh k p hp
 by_cases hg:cap<xs.length+m
 ·--a new row
  have hold:(Builtin.firstCells i.size xs.length (.slice A xs.length cap)).run P w.drew= .ok olds.toArray w.drew:=by
   rcases az xs.length with h0|h0
   ·have:olds= []:=List.eq_nil_of_length_eq_zero (by rw[hol,h0,bM])
    subst this;rw[h0]
    cases A with
    |none=>simp[Builtin.firstCells]
    |some ad=>simp[Builtin.firstCells,loadCells,loadCellsFrom]
   ·obtain⟨ad,rfl,hsp,hf,hc⟩:=ha h0;refine bf w.drew i.size xs.length ad xs.length cap olds hol fun j u hj=>?_
    have hjl:j<xs.length*i.size:=by
     have:=(List.getElem?_eq_some_iff.1 hj).1;omega
    rw[hog j hjl]at hj
    cases hj
    rw[fz hsp];exact hc j (by rw[hesz h0];exact hjl)
  have hrun:=tH (ty:=ty) ht hi hz hsrc hold hg h63 (by rw[hm];exact hb)
  obtain⟨C,hC⟩: ∃C,C=grownCap w (xs.length+m) cap e:=⟨_,rfl⟩;have hCge:xs.length+m≤C:=by rw[hC];exact grownCap_ge _ _ _ _
  rw[←hC]at hrun;obtain⟨row,hrow⟩: ∃row,row=olds++news++(Builtin.zeroCells z.cells (C-(xs.length+m))).toList:=⟨_,rfl⟩;rw[←hrow]at hrun;have hrl:row.length=C*i.size:=by
   rw[hrow];simp only[List.length_append,Array.length_toList,ju,hol,hnl,hzs];rw[←hm,←aK,←aK]
   congr 1
   omega
  refine⟨_,_,fA fr w.heap.size (some ((xs.length+m)*i.size)),hrun,?_⟩;have hfx:gH w fr (w.drew.alloc (.cells row.toArray e)) (fA fr w.heap.size (some ((xs.length+m)*i.size))):=by
   refine⟨rfl,rfl,rfl,by simp,fun b hb=>aO w.drew _ _ hb,fun b hb=>c6 _ _ (by omega),fun b f hf=>?_⟩
   by_cases e:b=w.heap.size
   ·simp[e]
   ·rw[c6 _ _ e]at hf;have:=h.frb b f hf;simp;omega
  have hS:=h.fresh hfx;have hln:(xs++ys).length=xs.length+m:=by rw[List.length_append,hm]
  have hcellN: ∀k,(w.drew.alloc (.cells row.toArray e)).cell? ⟨w.heap.size,k,none⟩=row[k]? :=by
   intro k;have:=fe w.drew row.toArray e k;rw[show w.drew.heap.size=w.heap.size from rfl]at this
   rw[this];simp
  have hrowR:kH w fr (olds++news) (flat (xs++ys)):=by rw[kE];exact hoR.append hnews
  have hrowk: ∀k,k<(xs.length+m)*i.size→row[k]? =(olds++news)[k]? :=by
   intro k hk;rw[hrow,List.getElem?_append_left];rw[List.length_append,hol,hnl,←aK,←hm];exact hk
  have hlon:(olds++news).length=(xs.length+m)*i.size:=by rw[List.length_append,hol,hnl,←aK,←hm]
  have hd:eB (w.drew.alloc (.cells row.toArray e)) (fA fr w.heap.size (some ((xs.length+m)*i.size))) (.slice (some ⟨w.heap.size,0,none⟩) (xs.length+m) C) (.slice (xs++ys)):=by
   rw[←hln];refine .slice _ C i.size (fun k=>(olds++news).getD k undef) _ (by rw[hln];exact hCge) hall (fun _=>⟨_,rfl,rfl,fun f hf k hk=>?_,fun k hk=>?_⟩) (fun k hk=>?_) (fun k p hp=>?_)
   all_goals rw[hln]at*
   ·rw[cR]at hf
    cases hf
    simpa using hk
   ·rw[Nat.zero_add,hcellN k,hrowk k hk];simp only[List.getD_eq_getElem?_getD];rw[List.getElem?_eq_getElem (by rw[hlon];exact hk)]
    rfl
   ·refine hrowR.2.1 _ ?_;rw[List.getD_eq_getElem?_getD,List.getElem?_eq_getElem (by rw[hlon];exact hk)]
    exact List.getElem_mem _
   ·have hk:k<(olds++news).length:=by
     rw[hrowR.1]
     exact(List.getElem?_eq_some_iff.1 hp).1
    have e2:(olds++news).getD k undef=(olds++news)[k]:=by
     rw[List.getD_eq_getElem?_getD,List.getElem?_eq_getElem hk];rfl
    show eB _ _ ((olds++news).getD k undef) p
    rw[e2]
    exact(hrowR.2.2 k _ p (List.getElem?_eq_getElem hk) hp).mono hfx.Bp
  refine hS.sL ⟨dst,.d (.slice (xs++ys)),fun j=>j==0,dg s,[]⟩ rfl _ hdst (.d _ _ hd) (fun j hj=>⟨xs++ys,rfl,?_⟩) (fun j hj b hbr l hl hcl=>?_) (fun j j' hj hj' hne=>?_)
  ·by_cases hCe:xs.length+m=C
   ·exact .inl ⟨some ⟨w.heap.size,0,none⟩,C,by rw[hCe];rfl⟩
   ·refine .inr ⟨w.heap.size,C,row.toArray,e,i.size,by rw[hln];rfl,by omega,by omega,hpos,dY w.drew _,hall,by simpa using hrl,by rw[cR,hln],.inl h.size⟩
  ·have hbw:b=w.heap.size:=by
    simp only[eC,rowOf]at hbr
    split at hbr
    ·cases hbr;rfl
    ·cases hbr
   subst hbw;intro hcon;have hvl:ew a (w.drew.alloc (.cells row.toArray e)) β l=ew a w β l:=by
    cases l with
    |t i j=>rfl
    |b n k=>
     have hlv:=h.live n k hl;simp only[ew];rw[hfx.cell ((h.boxes n hlv.1).blt ((h.boxes n hlv.1).at hlv.2))]
   rw[hvl]at hcon;have:=(h.own l hl).row hcon;omega
  ·simp at hj hj';omega
 ·--there is room
  have hroom:xs.length+m≤cap:=by omega
  by_cases hm0:ys= []
  ·--nothing is appended
   subst hm0;have hm0:m=0:=hm;subst hm0;have hn0:news= []:=List.eq_nil_of_length_eq_zero (by rw[hnl];simp)
   subst hn0;have hrun:=qq (ty:=ty) ht hi hz hsrc hroom (A:=A) (w':=w) (fun ad _=>rfl) (fun _=>rfl)
   refine⟨_,w,fr,hrun,?_⟩;have hd:eB w fr (.slice A xs.length cap) (.slice xs):=by rw[←ev];exact fH hv
   have hat:S.at (.t s 0)= .d (.slice xs):=by simp only[PS.at,hs,PV.part]
   rw[hat]at ho;refine h.sL ⟨dst,.d (.slice (xs++ [])),fun j=>j==0,dg s,[]⟩ rfl _ hdst (.d _ _ (by simpa using hd)) (fun j hj=>by simpa[eC,PV.part]using ho) (fun j hj b hbr l hl hcl=>?_) (fun j j' hj hj' hne=>?_)
   ·refine h.oinj (.t s 0) l hown hl (fun e=>?_) b (by rw[hvs];simpa[eC]using hbr)
    subst e;simp[dg]at hcl
   ·simp at hj hj';omega
  ·--the row is one's own,and written behind its end
   have hmp:0<m:=by rw[hm];exact List.length_pos_iff.2 hm0
   have hat:S.at (.t s 0)= .d (.slice xs):=by simp only[PS.at,hs,PV.part]
   rw[hat]at ho;obtain⟨xs',hxs',hoo⟩:=ho
   cases hxs'
   rcases hoo with⟨A',n',e'⟩|⟨b,c,cur,E,sz',e',hlt,hx0,hs0,hhb,hsz',dQ,hfb,hmine⟩
   ·cases e'
    omega
   ·cases e'
    have es:sz'=i.size:=by
     obtain⟨q,hq⟩:=aC hx0;rw[←hsz' q hq,hzx q hq]
    subst es;have hcl:cur.toList.length=cap*i.size:=by rw[←dQ];simp
    have hfit:xs.length*i.size+news.length≤cur.toList.length:=by
     rw[hnl,←aK,hcl,←hm];exact aN _ hroom
    have hcellb: ∀k,w.cell? ⟨b,k,none⟩=cur[k]? :=by
     intro k;simp only[World.cell?,hhb];rfl
    have hst:(storeCells ((⟨b,0,none⟩:Addr).add (xs.length*i.size)) news).run P w= .ok () (w.setCells b (xs.length*i.size) news):=by
     rw[fz rfl,Nat.zero_add];refine b8 (P:=P) b (xs.length*i.size) news 0 w (fun j hj=>?_) (fun j hj=>?_) (fun u hu=>hnews.2.1 u hu)
     ·rw[hcellb];have:xs.length*i.size+(0+j)<cur.size:=by
       rw[hcl,←dQ]at hfit;omega
      simp;omega
     ·simp[World.frozen?,hhb]
    have hrun:=qq (ty:=ty) ht hi hz hsrc hroom (A:=some ⟨b,0,none⟩) (w':=w.setCells b (xs.length*i.size) news) (fun ad had=>by cases had;exact hst) (by simp)
    refine⟨_,_,fA fr b (some ((xs.length+m)*i.size)),hrun,?_⟩;have hpos2:0<xs.length*i.size:=aX hx0 hpos;have hff:xs.length*i.size≤(xs.length+m)*i.size:=aN _ (by omega)
    have hrowS:rowOf (ew a w β (.t s 0))=some b:=by rw[hvs];simp[rowOf,hlt]
    have hS:=(h.clear (dg s)).Jm hhb hfb hpos2 hmine news ((xs.length+m)*i.size) hff (fun l hl hcon=>by
     simp[PS.clear]at hl;refine h.oinj (.t s 0) l hown hl.1 (fun e=>?_) b hrowS hcon
     subst e;simp[dg]at hl)
    have hbs:b<w.heap.size:=(aH.1 hhb).1;have hat':(w.setCells b (xs.length*i.size) news).heap[b]? =some (.cells (cur.toList.take (xs.length*i.size)++news++cur.toList.drop (xs.length*i.size+news.length)).toArray E (0,0)):=
     iB b news (xs.length*i.size) w cur.toList E (0,0) (by rw[aJ];exact hhb) hfit
    obtain⟨row,hrow⟩: ∃row,row=cur.toList.take (xs.length*i.size)++news++cur.toList.drop (xs.length*i.size+news.length):=⟨_,rfl⟩;rw[←hrow]at hat';have hcellN: ∀k,(w.setCells b (xs.length*i.size) news).cell? ⟨b,k,none⟩=row[k]? :=by
     intro k;simp only[World.cell?,hat'];simp
    have htake:cur.toList.take (xs.length*i.size)=olds:=by
     apply bk
     intro k;rw[ah];by_cases hk:k<xs.length*i.size
     ·rw[if_pos hk,hog k hk];obtain⟨ad,had,hsp,hf,hc⟩:=ha hx0
      cases had
      have:=hc k (by rw[hesz hx0];exact hk)
      rw[Nat.zero_add,hcellb]at this
      simpa using this
     ·rw[if_neg hk,ar (by omega)]
    have hln:(xs++ys).length=xs.length+m:=by rw[List.length_append,hm]
    have hrowR:kH w fr (olds++news) (flat (xs++ys)):=by rw[kE];exact hoR.append hnews
    have hlon:(olds++news).length=(xs.length+m)*i.size:=by rw[List.length_append,hol,hnl,←aK,←hm]
    have hrowk: ∀k,k<(xs.length+m)*i.size→row[k]? =(olds++news)[k]? :=by
     intro k hk;rw[hrow,htake,List.getElem?_append_left];rw[hlon];exact hk
    --what was there lies there
    have hx:jM w fr (w.setCells b (xs.length*i.size) news) (fA fr b (some ((xs.length+m)*i.size))):=by
     obtain⟨_,_,_,r4⟩:=j_ b news (xs.length*i.size) w;refine⟨fun b' o u hcc hfr=>?_,fun b' f2 _ h2=>?_,by rw[r4];exact Nat.le_refl _⟩
     ·by_cases e:b'=b
      ·subst e;rw[World.cell?_setCells_out b' news (xs.length*i.size) w ⟨b',o,none⟩ fun _ _=> .inl (hfr _ hfb)]
       exact hcc
      ·rw[aE (w:=w) (fD b news _ w b' e)];exact hcc
     ·by_cases e:b'=b
      ·subst e;rw[cR]at h2
       cases h2
       exact⟨_,hfb,hff⟩
      ·rw[c6 _ _ e]at h2;exact⟨f2,h2,Nat.le_refl _⟩
    have hd:eB (w.setCells b (xs.length*i.size) news) (fA fr b (some ((xs.length+m)*i.size))) (.slice (some ⟨b,0,none⟩) (xs.length+m) cap) (.slice (xs++ys)):=by
     rw[←hln];refine .slice _ cap i.size (fun k=>(olds++news).getD k undef) _ (by rw[hln];exact hroom) hall (fun _=>⟨_,rfl,rfl,fun f hf k hk=>?_,fun k hk=>?_⟩) (fun k hk=>?_) (fun k p hp=>?_)
     all_goals rw[hln]at*
     ·rw[cR]at hf
      cases hf
      simpa using hk
     ·rw[Nat.zero_add,hcellN k,hrowk k hk];simp only[List.getD_eq_getElem?_getD];rw[List.getElem?_eq_getElem (by rw[hlon];exact hk)]
      rfl
     ·refine hrowR.2.1 _ ?_;rw[List.getD_eq_getElem?_getD,List.getElem?_eq_getElem (by rw[hlon];exact hk)]
      exact List.getElem_mem _
     ·have hk:k<(olds++news).length:=by
       rw[hrowR.1]
       exact(List.getElem?_eq_some_iff.1 hp).1
      have e2:(olds++news).getD k undef=(olds++news)[k]:=by
       rw[List.getD_eq_getElem?_getD,List.getElem?_eq_getElem hk];rfl
      show eB _ _ ((olds++news).getD k undef) p
      rw[e2]
      exact(hrowR.2.2 k _ p (List.getElem?_eq_getElem hk) hp).mono hx
    have hfin:=hS.sL ⟨dst,.d (.slice (xs++ys)),fun j=>j==0,dg s,[]⟩ rfl (.slice (some ⟨b,0,none⟩) (xs.length+m) cap) hdst (.d _ _ hd) (fun j hj=>⟨xs++ys,rfl,?_⟩) (fun j hj b' hbr l hl hcl'=>?_) (fun j j' hj hj' hne=>?_)
    ·--the flags are the same
     have hEq:((⟨dst,.d (.slice (xs++ys)),fun j=>j==0,dg s,[]⟩:dp).apply (S.clear (dg s)))=((⟨dst,.d (.slice (xs++ys)),fun j=>j==0,dg s,[]⟩:dp).apply S):=by
      simp only[dp.apply,PS.clear]
      congr 1
      funext l
      cases l<;>simp[Bool.and_assoc]
     rw[hEq]at hfin;exact hfin
    ·by_cases hCe:xs.length+m=cap
     ·exact .inl ⟨some ⟨b,0,none⟩,cap,by rw[hCe];rfl⟩
     ·refine .inr ⟨b,cap,row.toArray,E,i.size,by rw[hln];rfl,by omega,by omega,hpos,hat',hall,?_,by rw[cR,hln],hmine⟩
      rw[hrow];simp only[List.size_toArray,List.length_append,List.length_take,List.length_drop];rw[hcl]at hfit⊢;omega
    ·have hbb:b'=b:=by
      simp only[eC,rowOf]at hbr
      split at hbr
      ·cases hbr;rfl
      ·cases hbr
     subst hbb;intro hcon;simp[PS.clear]at hl;have hvl:ew a (w.setCells b' (xs.length*i.size) news) β l=ew a w β l:=by
      cases l with
      |t i j=>rfl
      |b n k=>
       have hlv:=h.live n k hl.1;have hbn:(β n).b≠b':=by
        intro e;have:=(h.boxes n hlv.1).reg ((h.boxes n hlv.1).at hlv.2);rw[e,hfb]at this;have:=au this;omega
       simp only[ew];rw[aE (w:=w) (fD b' news _ w _ hbn)]
     rw[hvl]at hcon;refine h.oinj (.t s 0) l hown hl.1 (fun e=>?_) b' hrowS hcon
     subst e;simp[dg]at hl
    ·simp at hj hj';omega
end
section
variable {P:Program} {N:Nat} {tch:Env} {w0:World} {fr0:Nat→Option Nat} {S:PS} {a:Act} {w:World} {fr:Nat→Option Nat} {β:Nat→hU}
def lr(P:Program)(N:Nat)(tch:Env)(w0:World)(fr0:Nat→Option Nat)(S':PS)(o:Oper)(a:Act)(w:World):Prop:=
 ∃w' fr' β',(∃v,(execOp a.eval o).run P w= .ok (.value v) w'∧dC N tch w0 fr0 S' (a.put o.dst v) w' fr' β')∨
  ((execOp a.eval o).run P w= .ok .skip w'∧dC N tch w0 fr0 S' (a.put o.dst undef) w' fr' β')
theorem GB(h:dC N tch w0 fr0 S a w fr β){o:Oper}{x:Operand}{tr:Bool}(hd: ∀d,o.dst=some d→d<N)(ho:o.op= .move x∨o.op= .assign x):lr P N tch w0 fr0 ((ry o S x tr).apply S) o a w:=by
 refine⟨w,fr,β,.inl ⟨a.eval x,?_,?_⟩⟩
 ·rcases ho with ho|ho<;>simp[execOp,ho]
 ·unfold ry
  cases x with
  |tmp s=>
   cases tr
   ·exact h.vz o.dst _ _ hd (h.vals s)
   ·exact h.Rs o.dst s hd
  |const v=>
   refine h.sL ⟨o.dst,ofConst v,fun _=>fQ v,fun _=>false,[]⟩ rfl v hd (mz v) (fun j hj=>?_) (fun j hj b hb=>?_) (fun j j' hj _ _ b hb=>?_)
   ·rw[jY hj];exact ly
   ·rw[jY hj]at hb;simp[eC,rowOf]at hb
   ·rw[jY hj]at hb;simp[eC,rowOf]at hb
  |global g=>exact h.vz o.dst _ _ hd (h.ev (.global g))
  |func f=>exact h.vz o.dst _ _ hd (h.ev (.func f))
theorem Bl(h:dC N tch w0 fr0 S a w fr β){o:Oper}{s k:Nat}{ps:List PV}{p:PV}(hd: ∀d,o.dst=some d→d<N)(ho:o.op= .extract (.tmp s) k)(hs:S.t s= .tup ps)(hp:ps[k]? =some p)(hpt: ∀q,p≠ .tup q):
 lr P N tch w0 fr0 ((⟨o.dst,p,fun j=>j==0&&S.own (.t s k),fun l=>l== .t s k,[]⟩:dp).apply S) o a w:=by
 have hv:=h.vals s;rw[hs]at hv;generalize hu:a.tmps.getD s undef=u at hv
 cases hv with
 |tup vs ps hl hh=>
  have hk:k<vs.length:=by
   rw[hl]
   exact(List.getElem?_eq_some_iff.1 hp).1
  refine⟨w,fr,β,.inl ⟨vs[k],?_,?_⟩⟩
  ·simp[execOp,ho,Act.eval,hu,Instr.extract,hk]
  ·exact h.L_ o.dst s k vs ps p _ hs hp hu (List.getElem?_eq_getElem hk) hpt hd
def Np(P:Program)(w:World):Prop:= ∀g cs,oL P g=some cs→cs≠ []∧ ∀(k:Nat) (u:Value),cs[k]? =some u→w.cell? ⟨g,k,none⟩=some u
structure qt(P:Program)(T:Env)(w0:World):Prop where
 ok:Np P w0
 out: ∀g cs,oL P g=some cs→ ¬T.tch g
theorem qt.lt{T:Env}(hG:qt P T w0){g:Nat}{cs:List Value}(hg:oL P g=some cs):g<w0.heap.size:=by
 obtain⟨h1,h2⟩:=hG.ok g cs hg
 cases cs with
 |nil=>exact absurd rfl h1
 |cons c r=>exact mJ (h2 0 c rfl)
theorem qt.now(hG:qt P tch w0)(h:dC N tch w0 fr0 S a w fr β):Np P w:=by
 intro g cs hg;obtain⟨h1,h2⟩:=hG.ok g cs hg;refine⟨h1,fun k u hu=>?_⟩
 rw[aE (w:=w0) (h.frame g (hG.lt hg) (hG.out g cs hg)).1];exact h2 k u hu
theorem KP(hG:qt P tch w0)(h:dC N tch w0 fr0 S a w fr β){g:Nat}{t:TypeId}{r:DV}(hl:Sp P g t=some r): ∃v,(Instr.loadAt t (.pointer (some ⟨g,0,none⟩))).run P w= .ok v w∧eB w fr v r:=by
 unfold Sp at hl
 split at hl
 ·rename_i cs hg ha
  split at hl
  ·rename_i hc
   cases hl
   obtain⟨_,h2⟩:=hG.now h g cs hg;have hld:=cq (P:=P) w ⟨g,0,none⟩ cs (fun j v hj=>by
    rw[fz rfl]
    simpa using h2 j v hj)
   rw[hc.1]at hld;refine⟨.agg cs.toArray,by simp[Instr.loadAt,Instr.sureAddr,loadVar,fg ha,eG hc.2.1,hld],.agg _ _ (by simp) (fun v hv=>?_) (fun k v p hv hp=>?_)⟩
   ·exact List.all_eq_true.1 hc.2.2 v hv
   ·rw[List.getElem?_map,hv]at hp
    cases hp
    exact eX (List.all_eq_true.1 hc.2.2 v (List.mem_of_getElem? hv))
  ·cases hl
 ·cases hl
theorem oI(h:dC N tch w0 fr0 S a w fr β){t:TypeId}{x:Operand}{r:PV}(hl:mV P S t x=some r):
 ∃v,(Instr.loadAt t (a.eval x)).run P w= .ok v w∧da w fr β S.gen v r∧(∀n g off,S.ev x= .ptr n g off→dL P t=some false→v=ew a w β (.b n off)∧r=S.at (.b n off)∧0<S.gen n):=by
 have hx:=h.ev x;unfold mV at hl
 split at hl
 ·rename_i n g off hp;rw[hp]at hx
  split at hl
  ·rename_i hg;obtain⟨e,h0⟩:=Gl hx hg.1;have hgn:0<S.gen n:=by rw[←hg.1];exact h0
   have hbn:=h.boxes n hgn;have hk0:=JA hx hg.1;have hbl:=hbn.len (.inl hk0);obtain⟨cs,E,hc,dQ,hcp⟩:=hbn.ex (by omega) hk0
   have hcell: ∀k,w.cell? ⟨(β n).b,k,none⟩=cs[k]? :=fun k=>by simp only[World.cell?,hc];rfl
   split at hl
   ·rename_i ha
    cases hl
    refine⟨.agg ((cs.toList.drop off).take (cX P t)).toArray,?_,A3 ?_ (fun v hv=>?_) (fun k v p hv hp=>?_),fun n' g' o' _ hf=>by rw[ha]at hf;cases hf⟩
    ·rw[e];have hz:0<cX P t:=hg.2.1;have hld:=cq (P:=P) w ⟨(β n).b,off,none⟩ ((cs.toList.drop off).take (cX P t)) (fun j v hj=>by
      rw[fz rfl];simp only;rw[hcell];rw[ah]at hj
      split at hj
      ·rw[ak]at hj
       simpa using hj
      ·cases hj)
     have hlen:((cs.toList.drop off).take (cX P t)).length=cX P t:=by
      simp;omega
     rw[hlen]at hld;simp[Instr.loadAt,Instr.sureAddr,loadVar,fg ha,eG hz,hld]
    ·simp;omega
    ·obtain⟨k,hk⟩:=b_ hv;rw[ah]at hk
     split at hk
     ·rename_i hkl;rw[ak]at hk;have hkb:off+k<(S.box n).length:=by omega
      exact(hcp (off+k) v _ (by simpa using hk) (List.getElem?_eq_getElem hkb)).2
     ·cases hk
    ·rw[ah]at hv hp
     split at hv
     ·rename_i hk;rw[if_pos hk,ak]at hp;rw[ak]at hv
      exact(hcp _ v _ (by simpa using hv) hp).1
     ·cases hv
   ·rename_i ha
    split at hl
    ·rename_i hz;have hlt:off<(S.box n).length:=(List.getElem?_eq_some_iff.1 hl).1;have hlt':off<cs.size:=by omega
     refine⟨cs[off],?_,(hcp off _ _ (by simp[hlt']) hl).1,fun n' g' o' hp' _=>?_⟩
     ·rw[e];have hcc:w.cell? ⟨(β n).b,off,none⟩=some cs[off]:=by rw[hcell];simp[hlt']
      simp[Instr.loadAt,Instr.sureAddr,loadVar,fg ha,hcc]
     ·rw[hp]at hp'
      cases hp'
      refine⟨?_,?_,hgn⟩
      ·simp only[ew];rw[hcell];simp[hlt']
      ·simp only[PS.at];rw[List.getD_eq_getElem?_getD,hl];rfl
    ·cases hl
   ·cases hl
  ·cases hl
 ·rename_i cs hp;rw[hp]at hx;simp only[Option.map_eq_some_iff]at hl;obtain⟨d,hd,rfl⟩:=hl;generalize hu:a.eval x=u at hx
  cases hx with
  |cptr ad us cs hs hf hc h1 hh=>
   have hcr:kH w fr ((List.range cs.length).map us) cs:=by
    refine⟨by simp,fun u hu=>?_,fun k u p hu hp=>?_⟩
    ·simp only[List.mem_map,List.mem_range]at hu;obtain⟨k,hk,rfl⟩:=hu;exact h1 k hk
    ·have hk:k<cs.length:=(List.getElem?_eq_some_iff.1 hp).1;simp[hk]at hu;subst hu;exact hh k p hp
   obtain⟨z,hz,hzr⟩:=u7 (P:=P) (w:=w) hcr.1 hcr.2.1 hcr.2.2 hd;refine⟨z,?_,.d _ _ hzr,fun n g off hp'=>by rw[hp]at hp';cases hp'⟩
   have hld: ∀m,m≤cs.length→(loadCells ad m).run P w= .ok (((List.range cs.length).map us).take m).toArray w:=by
    intro m hm;have:=cq (P:=P) w ad (((List.range cs.length).map us).take m) (fun j v hj=>by
     rw[fz hs];rw[ah]at hj
     split at hj
     ·rename_i hjm;have:j<cs.length:=by omega
      simp[this]at hj;subst hj;exact hc j this
     ·cases hj)
    have hl:(((List.range cs.length).map us).take m).length=m:=by simp;omega
    rw[hl]at this;exact this
   unfold u9 at hd
   split at hd
   ·rename_i ha
    split at hd
    ·rename_i hle;rw[Nat.zero_add]at hle;have hzz:(part t ((List.range cs.length).map us).toArray 0).run P w= .ok (.agg (((List.range cs.length).map us).take (cX P t)).toArray) w:=by
      simp only[part,Sem.run_bind,fg ha,aa,if_true,eG hle.1,aw]
      congr 2
      simp[a9]
     rw[hzz]at hz
     cases hz
     simp only[Instr.loadAt,Instr.sureAddr,Sem.run_bind,aw,aa,loadVar,fg ha,if_true,eG hle.1,hld _ hle.2]
    ·cases hd
   ·rename_i ha;have hlt:0<cs.length:=(List.getElem?_eq_some_iff.1 hd).1;have hzz:(part t ((List.range cs.length).map us).toArray 0).run P w= .ok (us 0) w:=by
     simp[part,fg ha,hlt]
    rw[hzz]at hz
    cases hz
    have hcc:w.cell? ad=some (us 0):=by
     have:=hc 0 hlt;rw[bN]at this;obtain⟨b,o,sp⟩:=ad;simp only at hs;subst hs;exact this
    simp[Instr.loadAt,Instr.sureAddr,loadVar,fg ha,hcc]
   ·cases hd
 ·cases hl
theorem Ek(hG:qt P tch w0)(h:dC N tch w0 fr0 S a w fr β){t:TypeId}{x:Operand}{r:PV}(hl:iQ P S t x=some r):
 ∃v,(Instr.loadAt t (a.eval x)).run P w= .ok v w∧da w fr β S.gen v r∧(∀n g off,S.ev x= .ptr n g off→dL P t=some false→v=ew a w β (.b n off)∧r=S.at (.b n off)∧0<S.gen n):=by
 unfold iQ at hl
 split at hl
 ·rename_i g;simp only[Option.map_eq_some_iff]at hl;obtain⟨d,hd,rfl⟩:=hl;obtain⟨v,h1,h2⟩:=KP hG h hd;exact⟨v,h1,.d _ _ h2,fun n g off hp=>by simp[PS.ev]at hp⟩
 ·exact oI h hl
theorem tf(h:dC N tch w0 fr0 S a w fr β)(o:Obj):gH w fr (w.alloc o) (fA fr w.heap.size (some 0)):=by
 refine⟨rfl,rfl,rfl,by simp,fun b hb=>aO _ _ _ hb,fun b hb=>c6 _ _ (by omega),fun b f hf=>?_⟩
 by_cases e:b=w.heap.size
 ·simp[e]
 ·rw[c6 _ _ e]at hf;have:=h.frb b f hf;simp;omega
theorem oD{P:Program}{w:World}(e:TypeId)(v:Value):(newVar e v).run P w= .ok ⟨w.heap.size,0,none⟩ (w.alloc (.cells v.cells e)):=by
 simp[newVar,newRow]
theorem ES(h:dC N tch w0 fr0 S a w fr β){o:Oper}{e d:Nat}{z:Value}(hd:d<N)(hdst:o.dst=some d)(ho:o.op= .alloc e)(hz:eQ P e=some z)(hall:z.cells.toList.all (·.oneCell')=true):
 lr P N tch w0 fr0 ((⟨o.dst,.ptr (S.fo+d) (S.gen (S.fo+d)+1) 0,fun _=>false,fun _=>false,[⟨S.fo+d,S.gen (S.fo+d)+1,z.cells.toList.map fun c=> .d (dh c),fun k=>fQ (z.cells.getD k undef)⟩]⟩:dp).apply S) o a w:=by
 obtain⟨i,hi,hiz⟩:=fq hz;rw[hdst];refine⟨w.alloc (.cells z.cells e),fA fr w.heap.size (some 0),fA β (S.fo+d) ⟨w.heap.size,z.cells.size,false⟩,.inl ⟨.pointer (some ⟨w.heap.size,0,none⟩),?_,?_⟩⟩
 ·simp[execOp,ho,Instr.alloc,zeroValue,typeInfo,hi,hiz,oD]
 ·rw[hdst];refine h.oE hd (tf h _) (Nat.le_refl _) z.cells e (dY _ _) _ _ _ _ _ (by simp) (fun k u p hu hp=>?_) (fun k hk=> .inl ?_) (.inl ⟨rfl,rfl⟩)
  ·rw[List.getElem?_map]at hp;have hu':z.cells.toList[k]? =some u:=by simpa using hu
   rw[hu']at hp
   cases hp
   have h1:one u:=List.all_eq_true.1 hall u (List.mem_of_getElem? hu');exact⟨.d _ _ (eX h1),h1⟩
  ·have hn:=jY hk;rcases aR k z.cells.size with hlt|hge
   ·have hc:z.cells[k]? =some (.slice none 0 0):=by
     rw[Array.getD_eq_getD_getElem?,Array.getElem?_eq_getElem hlt]at hn;rw[Array.getElem?_eq_getElem hlt];exact congrArg some hn
    refine⟨hc,?_⟩;have hc':z.cells.toList[k]? =some (.slice none 0 0):=by simpa using hc
    rw[List.getElem?_map,hc'];rfl
   ·rw[Array.getD_eq_getD_getElem?,Array.getElem?_eq_none hge]at hn
    cases hn
theorem Le(h:dC N tch w0 fr0 S a w fr β){o:Oper}{e d:Nat}{x:Operand}{cs:List PV}(hd:d<N)(hdst:o.dst=some d)(ho:o.op= .box e x)(hc:cW (S.ev x)=some cs):
 lr P N tch w0 fr0 ((⟨o.dst,.ptr (S.fo+d) (S.gen (S.fo+d)+1) 0,fun _=>false,fun _=>false,[⟨S.fo+d,S.gen (S.fo+d)+1,cs,fun _=>false⟩]⟩:dp).apply S) o a w:=by
 obtain⟨e1,e2⟩:=ik (h.ev x) hc;rw[hdst];refine⟨w.alloc (.cells (a.eval x).cells e),fA fr w.heap.size (some 0),fA β (S.fo+d) ⟨w.heap.size,(a.eval x).cells.size,false⟩,.inl ⟨.pointer (some ⟨w.heap.size,0,none⟩),?_,?_⟩⟩
 ·simp[execOp,ho,Instr.box,oD]
 ·rw[hdst];exact h.oE hd (tf h _) (Nat.le_refl _) (a.eval x).cells e (dY _ _) cs _ _ _ _ (by omega) e2 (by simp) (.inl ⟨rfl,rfl⟩)
theorem Im(h:dC N tch w0 fr0 S a w fr β){o:Oper}{e d:Nat}{x:Operand}{cs:List PV}{ds:List DV}(hd:d<N)(hdst:o.dst=some d)(ho:o.op= .box e x)(hc:cW (S.ev x)=some cs)(hds:pc cs=some ds):
 lr P N tch w0 fr0 ((⟨o.dst,.cptr ds,fun _=>false,fun _=>false,[]⟩:dp).apply S) o a w:=by
 obtain⟨e1,e2⟩:=ik (h.ev x) hc;have e3:=nj _ _ hds;have hfx:gH w fr (w.alloc (.cells (a.eval x).cells e)) fr:=gH.alloc h.frb _;have hS:=h.fresh hfx;refine⟨w.alloc (.cells (a.eval x).cells e),fr,β,.inl ⟨.pointer (some ⟨w.heap.size,0,none⟩),?_,?_⟩⟩
 ·simp[execOp,ho,Instr.box,oD]
 ·have hsz:(a.eval x).cells.size=ds.length:=by rw[e1,e3];simp
  refine hS.vz o.dst _ _ (fun d' e'=>by rw[hdst]at e';cases e';exact hd) (.cptr _ (fun k=>(a.eval x).cells.getD k undef) ds rfl (fun f hf=>?_) (fun k hk=>?_) (fun k hk=>?_) (fun k p hp=>?_))
  ·have:=h.frb _ f hf;simp at this
  ·rw[Nat.zero_add,fe];have:k<(a.eval x).cells.size:=by omega
   simp[this,Array.getD_eq_getD_getElem?]
  ·have hk':k<(a.eval x).cells.size:=by omega
   have:=(e2 k (a.eval x).cells[k] (.d ds[k]) (by simp[hk']) (by rw[e3];simp[hk])).2
   simpa[Array.getD_eq_getD_getElem?,hk']using this
  ·have hk:=(List.getElem?_eq_some_iff.1 hp).1;have hk':k<(a.eval x).cells.size:=by omega
   have:=(e2 k (a.eval x).cells[k] (.d p) (by simp[hk']) (by rw[e3];simp[hp])).1
   have:=(fH this).mono hfx.Bp
   simpa[Array.getD_eq_getD_getElem?,hk']using this
theorem xU(h:dC N tch w0 fr0 S a w fr β){o:Oper}{t e d:Nat}{l c:Operand}{k k':IntKind}{n:Int}{z:Value}{by_:Nat}(hd:d<N)(hdst:o.dst=some d)(ho:o.op= .makeSlice t l c)
 (ht:kP P t=some e) (hl:S.ev l= .d (.int k n)) (hc:S.ev c= .d (.int k' n)) (hz:eQ P e=some z) (hb:yf P e=some by_) (h0:0≤n) (hn:n≤9223372036854775807) (hnb:n*by_≤281474976710656) (hs:cX P e=1) (h1:z.oneCell'=true):
 lr P N tch w0 fr0 ((⟨o.dst,.bsl (S.fo+d) (S.gen (S.fo+d)+1) n.toNat 1 false,fun _=>false,fun _=>false,[⟨S.fo+d,S.gen (S.fo+d)+1,List.replicate n.toNat (.d (dh z)),fun _=>false⟩]⟩:dp).apply S) o a w:=by
 obtain⟨i,hi,hiz⟩:=fq hz;obtain⟨i',hi',hib⟩:=pX hb;rw[hi]at hi'
 cases hi'
 have hsz:i.size=1:=by
  obtain⟨i',hi',his⟩:=lh (P:=P) (t:=e) (by omega)
  rw[hi]at hi'
  cases hi'
  omega
 have e1:=eT (by have:=h.ev l;rwa[hl]at this)
 have e2:=eT (by have:=h.ev c;rwa[hc]at this)
 obtain⟨m,rfl⟩:=Int.eq_ofNat_of_zero_le h0;have hzc:z.cells= #[z]:=by cases z<;>first|rfl|simp[Value.oneCell']at h1
 have hrun:=run_make (P:=P) w t e i z (dy ht) hi hiz k k' (m:Int) (m:Int) h0 (Int.le_refl _) (by rw[hib,Int.mul_comm];exact hnb) hn
 have hrow:madeCells z.cells ((m:Int).toNat*i.size)=Array.replicate m z:=by
  rw[hzc,hsz]
  apply cp
  intro q;simp[madeCells,Nat.mod_one];by_cases hq:q<m<;>simp[hq,aS]
 rw[hrow]at hrun;rw[hdst];refine⟨w.alloc (.cells (Array.replicate m z) e),fA fr w.heap.size (some 0),fA β (S.fo+d) ⟨w.heap.size,(Array.replicate m z).size,false⟩,.inl ⟨.slice (some ⟨w.heap.size,0,none⟩) m m,?_,?_⟩⟩
 ·simp[execOp,ho,e1,e2,hrun]
 ·rw[hdst];refine h.oE hd (tf h _) (Nat.le_refl _) (Array.replicate m z) e (dY _ _) _ _ _ _ _ (by simp) (fun q u p hu hp=>?_) (by simp) (.inr ⟨m,1,m,false,by omega,Nat.le_refl _,by simp,by simp,rfl⟩)
  have hq:q<m:=by
   have:=(aH.1 hu).1
   simpa using this
  rw[aS,if_pos hq]at hu;simp[hq]at hp
  cases hu
  subst hp;exact⟨.d _ _ (eX h1),h1⟩
theorem vH(h:dC N tch w0 fr0 S a w fr β){o:Oper}{t e d:Nat}{l c:Operand}{k k':IntKind}{n:Int}{z:Value}{by_:Nat}(hd:d<N)(hdst:o.dst=some d)(ho:o.op= .makeSlice t l c)
 (ht:kP P t=some e) (hl:S.ev l= .d (.int k n)) (hc:S.ev c= .d (.int k' n)) (hz:eQ P e=some z) (hb:yf P e=some by_) (h0:0≤n) (hn:n≤9223372036854775807) (hnb:n*by_≤281474976710656) (hs:cX P e=1) (h1:z.oneCell'=true):
 lr P N tch w0 fr0 ((⟨o.dst,.d (.slice (List.replicate n.toNat (dh z))),fun _=>true,fun _=>false,[]⟩:dp).apply S) o a w:=by
 obtain⟨i,hi,hiz⟩:=fq hz;obtain⟨i',hi',hib⟩:=pX hb;rw[hi]at hi'
 cases hi'
 have hsz:i.size=1:=by
  obtain⟨i',hi',his⟩:=lh (P:=P) (t:=e) (by omega)
  rw[hi]at hi'
  cases hi'
  omega
 have e1:=eT (by have:=h.ev l;rwa[hl]at this)
 have e2:=eT (by have:=h.ev c;rwa[hc]at this)
 obtain⟨m,rfl⟩:=Int.eq_ofNat_of_zero_le h0;have hzc:z.cells= #[z]:=by cases z<;>first|rfl|simp[Value.oneCell']at h1
 have hrun:=run_make (P:=P) w t e i z (dy ht) hi hiz k k' (m:Int) (m:Int) h0 (Int.le_refl _) (by rw[hib,Int.mul_comm];exact hnb) hn
 have hrow:madeCells z.cells ((m:Int).toNat*i.size)=Array.replicate m z:=by
  rw[hzc,hsz]
  apply cp
  intro q;simp[madeCells,Nat.mod_one];by_cases hq:q<m<;>simp[hq,aS]
 rw[hrow]at hrun;have hfx:gH w fr (w.alloc (.cells (Array.replicate m z) e)) fr:=gH.alloc h.frb _;have hS:=h.fresh hfx;have hx1: ∀x∈List.replicate m (dh z),(cells x).length=1:=by
  intro x hx;rw[List.eq_of_mem_replicate hx];have hr:=eX (w:=w) (fr:=fr) h1
  cases hq:dh z with
  |agg cc=>
   rw[hq]at hr;obtain⟨vs,e,_⟩:=tJ hr;rw[e]at h1;simp[Value.oneCell']at h1
  |_=>rfl
 have hcell: ∀q,q<m→(w.alloc (.cells (Array.replicate m z) e)).cell? ⟨w.heap.size,q,none⟩=some z:=by
  intro q hq;rw[fe,aS,if_pos hq]
 refine⟨w.alloc (.cells (Array.replicate m z) e),fr,β,.inl ⟨.slice (some ⟨w.heap.size,0,none⟩) m m,?_,?_⟩⟩
 ·simp[execOp,ho,e1,e2,hrun]
 ·refine hS.DW o.dst _ m _ (fun d' e'=>by rw[hdst]at e';cases e';exact hd) ?_
  have hlen:(List.replicate m (dh z)).length=m:=by simp
  have:=eB.slice (w:=w.alloc (.cells (Array.replicate m z) e)) (fr:=fr) (some ⟨w.heap.size,0,none⟩) m 1 (fun _=>z) (List.replicate m (dh z)) (by simp) hx1 (fun _=>⟨_,rfl,rfl,fun f hf=>by
   have:=h.frb _ f hf;simp at this,fun q hq=>by
   rw[Nat.zero_add];exact hcell q (by simpa using hq)⟩) (fun _ _=>h1) (fun q p hp=>by
   have hql:=(List.getElem?_eq_some_iff.1 hp).1;rw[ed hx1]at hql;have hql':q<m:=by simpa using hql
   have hf:=tg hx1 q (dh z) (by simp[hql']) 0 (by omega)
   rw[Nat.mul_one,bN]at hf;rw[hf]at hp;have hd0:p=dh z:=by
    cases hq:dh z with
    |agg cc=>
     have hr:=eX (w:=w) (fr:=fr) h1;rw[hq]at hr;obtain⟨vs,e,_⟩:=tJ hr;rw[e]at h1;simp[Value.oneCell']at h1
    |_=>rw[hq]at hp;simp[cells]at hp;exact hp.symm
   rw[hd0];exact eX h1)
  rw[hlen]at this;exact this
end
end BoEng
