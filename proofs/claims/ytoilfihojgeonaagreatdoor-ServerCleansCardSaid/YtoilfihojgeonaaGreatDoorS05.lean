/- Addresses and prefixes: what the program's addr and the document's layer 1 both answer. -/
import Derived.Test.YtoilfihojgeonaaGreatDoorS04
namespace Go.Proofs.YtoilfihojgeonaaGreatDoor
open BoEng Go
set_option maxRecDepth 100000
set_option linter.unusedSimpArgs false
set_option linter.unusedVariables false
def dD(a:Int):Bool:=decide (0≤a∧a≤4294967295)
def eV(bits:Int):Int:=2^(32-bits).toNat
def fN(base bits:Int):Bool:=decide (0≤bits∧bits≤32)&&dD base&&decide (base % eV bits=0)
def nI(base bits a:Int):Bool:=fN base bits&&dD a&&decide (base≤a∧a<base+eV bits)
def rz(base bits:Int):Int:=base+eV bits-1
def sX(b k c l:Int):Bool:=fN b k&&fN c l&&decide (b≤rz c l∧c≤rz b k)
theorem dI{a:Int}:dD a=true↔0≤a∧a≤4294967295:=by simp[dD]
theorem jk(bits:Int):0<eV bits:=cA (by decide)
theorem sy{bits:Int}(h:0≤bits):eV bits≤4294967296:=by
 unfold eV;have h1:(32-bits).toNat≤32:=by omega
 have h2:(2:Nat)^(32-bits).toNat≤2^32:=Nat.pow_le_pow_right (by decide) h1
 have h3:((2:Nat)^(32-bits).toNat:Int)≤((2^32:Nat):Int):=by exact_mod_cast h2
 simpa using h3
theorem iK{base bits:Int}:fN base bits=true↔(0≤bits∧bits≤32)∧(0≤base∧base≤4294967295)∧base % eV bits=0:=by
 simp[fN,dD,and_assoc]
theorem mb{base bits a:Int}:nI base bits a=true↔fN base bits=true∧(0≤a∧a≤4294967295)∧base≤a∧a<base+eV bits:=by
 simp[nI,dD,and_assoc]
theorem ME: ∀n:Fin 33,rj .i64 4294967295 (IntKind.i64.wrap (IntKind.i64.wrap (1*2^(min ((n:Nat)) IntKind.i64.bits))-1))=4294967296-2^(n:Nat):=by decide
theorem O': ∀n:Fin 33,(4294967295&&&(18446744073709551615-(4294967296-2^(n:Nat))))=2^(n:Nat)-1:=by decide
theorem m8{n:Nat}(h:n<9223372036854775808):IntKind.i64.wrap (n:Int)=n:=kZ (by omega)
theorem kF{a:Int}(h:0≤a)(h1:a≤4294967295):(BitVec.ofInt IntKind.i64.bits a).toNat=a.toNat:=by
 have:IntKind.i64.bits=64:=rfl;rw[this];rw[BitVec.toNat_ofInt];omega
theorem Ni{x n:Nat}(hx:x≤4294967295)(hn:n≤32):x&&&(18446744073709551615-(4294967296-2^n))=x % 2^n:=by
 have h1:x=x&&&4294967295:=by
  have:=cd x 32;simp only[Nat.reducePow,Nat.reduceSub]at this;rw[this];omega
 have h2:=O' ⟨n,by omega⟩
 simp only at h2;rw[h1,Nat.and_assoc,h2,←h1,cd]
theorem IC{x m n:Nat}(hx:x≤4294967295)(hn:n≤32):(x&&&(4294967296-2^n))=x-x % 2^n:=by
 have hp:2^n≤4294967296:=by
  have:=Nat.pow_le_pow_right (show 0<2 by decide) hn
  simpa using this
 have h0:0<2^n:=Nat.pow_pos (by decide)
 have e1:x=2^n*(x/2^n)+x % 2^n:=(Nat.div_add_mod x (2^n)).symm;have e2:4294967296-2^n=2^n*(2^(32-n)-1):=by
  rw[Nat.mul_sub,←Nat.pow_add,show n+(32-n)=32 by omega]
  simp
 apply Nat.eq_of_testBit_eq
 intro i;have e3:x-x % 2^n=2^n*(x/2^n):=by omega
 rw[e3,e2,Nat.testBit_and,Nat.testBit_two_pow_mul,Nat.testBit_two_pow_mul,Nat.testBit_two_pow_sub_one,Nat.testBit_div_two_pow];by_cases hi:n≤i
 ·have hi':i-n+n=i:=by omega
  simp only[hi,bG,Bool.true_and,hi',ge_iff_le];by_cases hb:i-n<32-n
  ·simp[hb]
  ·simp only[hb,decide_false,Bool.and_false];symm;exact Nat.testBit_lt_two_pow (Nat.lt_of_lt_of_le (show x<2^32 by simpa using(by omega:x<4294967296)) (Nat.pow_le_pow_right (by decide) (by omega)))
 ·simp[hi]
theorem jQ(bits:Int):eV bits=((2^(32-bits).toNat:Nat):Int):=by simp[eV]
theorem wz{bits:Int}(h:0≤bits):2^(32-bits).toNat≤4294967296:=by
 have:=Nat.pow_le_pow_right (show 0<2 by decide) (show(32-bits).toNat≤32 by omega)
 simpa using this
theorem Ks{bits:Int}(h0:0≤bits)(h1:bits≤32):rj .i64 4294967295 (IntKind.i64.wrap (DF .i64 1 (32-bits)-1))=4294967296-eV bits:=by
 unfold DF;have:=ME ⟨(32-bits).toNat,by omega⟩
 simp only at this;rw[this];rfl
theorem vr{a bits:Int}(ha:0≤a∧a≤4294967295)(h0:0≤bits)(h1:bits≤32):
 rj .i64 a (4294967296-eV bits)=a % eV bits:=by
 unfold rj;have hs:=sy h0;have hp:=jk bits;have hn:=wz h0;have e0:(~~~BitVec.ofInt IntKind.i64.bits (4294967296-eV bits)).toNat=18446744073709551615-(4294967296-2^(32-bits).toNat):=by
  rw[BitVec.toNat_not,kF (by omega) (by omega)]
  have:(4294967296-eV bits).toNat=4294967296-2^(32-bits).toNat:=by rw[jQ];omega
  rw[this];rfl
 rw[cz,e0,kF ha.1 ha.2,Ni (by omega) (by omega),m8,jQ]
 ·have:a=((a.toNat:Nat):Int):=by omega
  rw[this];simp
 ·have:=Nat.mod_lt a.toNat (Nat.pow_pos (n:=(32-bits).toNat) (show 0<2 by decide))
  omega
theorem Lx{a bits:Int}(ha:0≤a∧a≤4294967295)(h0:0≤bits)(h1:bits≤32):
 tI .i64 a (4294967296-eV bits)=a-a % eV bits:=by
 unfold tI;have hs:=sy h0;have hp:=jk bits;have hn:=wz h0;have e0:(BitVec.ofInt IntKind.i64.bits (4294967296-eV bits)).toNat=(4294967296-2^(32-bits).toNat):=by
  rw[kF (by omega) (by omega),jQ];omega
 have hm:(a.toNat % 2^(32-bits).toNat:Nat)≤a.toNat:=Nat.mod_le _ _;rw[cz,e0,kF ha.1 ha.2,IC (m:=0) (by omega) (by omega),m8 (by omega),jQ]
 have:a=((a.toNat:Nat):Int):=by omega
 rw[this];simp only[Int.toNat_natCast];rw[Int.ofNat_sub (by simpa using hm)]
 simp
theorem AQ{b x n:Nat}(hb:b % 2^n=0)(hx:x<2^n):b|||x=b+x:=by
 have h0:0<2^n:=Nat.pow_pos (by decide)
 have e:b=2^n*(b/2^n):=by have:=Nat.div_add_mod b (2^n);omega
 rw[e]
 exact(Nat.two_pow_add_eq_or_of_lt hx _).symm
theorem Me{b bits:Int}(hb:fN b bits=true):
 LI .i64 b (eV bits-1)=rz b bits:=by
 unfold LI;obtain⟨⟨h0,h1⟩,⟨h2,h3⟩,h4⟩:=iK.1 hb;have hs:=sy h0;have hp:=jk bits;have hn:=wz h0;have hp':0<2^(32-bits).toNat:=Nat.pow_pos (by decide)
 have e0:(BitVec.ofInt IntKind.i64.bits (eV bits-1)).toNat=2^(32-bits).toNat-1:=by
  rw[kF (by omega) (by omega),jQ];omega
 have e1:b.toNat % 2^(32-bits).toNat=0:=by
  rw[jQ]at h4;have:b=((b.toNat:Nat):Int):=by omega
  rw[this]at h4
  exact_mod_cast h4
 rw[BitVec.toNat_or,e0,kF h2 h3,AQ e1 (by omega),m8 (by omega)]
 unfold rz;rw[jQ];omega
theorem Ds{bits:Int}(h0:0≤bits)(h1:bits≤32):(4294967295:Int) % eV bits=eV bits-1:=by
 have hf: ∀n:Fin 33,(4294967295:Int) % 2^(n:Nat)=2^(n:Nat)-1:=by decide
 exact hf ⟨(32-bits).toNat,by omega⟩
theorem MB{base bits a:Int}(hb:fN base bits=true)(ha:0≤a∧a≤4294967295):(a-a % eV bits=base)↔(base≤a∧a<base+eV bits):=by
 obtain⟨⟨h0,h1⟩,⟨h2,h3⟩,h4⟩:=iK.1 hb;have hp:=jk bits;have q1:=Int.emod_nonneg a (show eV bits≠0 by omega)
 have q2:=Int.emod_lt_of_pos a hp;constructor
 ·intro h;omega
 ·intro⟨k1,k2⟩
  have e1:=bD base (eV bits);have:a % eV bits=(a-base) % eV bits:=by
   have e2:a=(a-base)+eV bits*(base/eV bits):=by omega
   conv=>lhs;rw[e2]
   rw[Int.add_mul_emod_self_left]
  rw[this,Int.emod_eq_of_lt (by omega) (by omega)]
  omega
theorem fV(a:Int):cD Tryz.prog 162 [.d (.int .i64 a)] (.d (.bool (dD a))) (fun _=>false):=by
 refine cD.bi Tryz.func162 [] ?_
 repeat' (first|(simp-implicitDefEqProofs (disch:=try exact dd) [*,cB,dD])|(refine dt ?_ ?_<;>intro hc<;>have hc2:=hc<;>(try simp only[dQ]at hc2)<;>try omega)|(refine dm ?_ ?_<;>intro hc<;>have hc2:=hc<;>(try simp only[dQ]at hc2)<;>try omega)|(refine dc (by omega) ?_)|(split<;>try omega)|omega)
theorem tK(bits:Int)(h0:0≤bits)(h1:bits≤32):cD Tryz.prog 249 [.d (.int .i64 bits)] (.d (.int .i64 (4294967296-eV bits))) (fun _=>false):=by
 refine cD.bi Tryz.func249 [] ?_;have hw:IntKind.i64.wrap (32-bits)=32-bits:=kZ (by omega)
 have hm:=Ks h0 h1
 simp-implicitDefEqProofs (disch:=try exact dd) [cB,hw,hm]
theorem gB(base bits:Int):cD Tryz.prog 247 [.d (.int .i64 base),.d (.int .i64 bits)] (.d (.bool (fN base bits))) (fun _=>false):=by
 refine cD.bi Tryz.func247 [] ?_;by_cases h0:0≤bits
 ·by_cases h1:bits≤32
  ·by_cases h2:dD base=true
   ·have h3:=vr (dI.1 h2) h0 h1
    repeat' (first|(simp-implicitDefEqProofs (disch:=try exact dd) [*,cB,fN])|(refine oc (fV _) ?_)|(refine oc (tK _ h0 h1) ?_)|(refine dt ?_ ?_<;>intro hc<;>have hc2:=hc<;>(try simp only[dQ]at hc2)<;>try omega)|(refine dm ?_ ?_<;>intro hc<;>have hc2:=hc<;>(try simp only[dQ]at hc2)<;>try omega)|(refine dc (by omega) ?_)|(split<;>try omega)|omega)
   ·repeat' (first|(simp-implicitDefEqProofs (disch:=try exact dd) [*,cB,fN])|(refine oc (fV _) ?_)|(refine dt ?_ ?_<;>intro hc<;>have hc2:=hc<;>(try simp only[dQ]at hc2)<;>try omega)|(refine dm ?_ ?_<;>intro hc<;>have hc2:=hc<;>(try simp only[dQ]at hc2)<;>try omega)|(refine dc (by omega) ?_)|(split<;>try omega)|omega)
  ·repeat' (first|(simp-implicitDefEqProofs (disch:=try exact dd) [*,cB,fN])|(refine dt ?_ ?_<;>intro hc<;>have hc2:=hc<;>(try simp only[dQ]at hc2)<;>try omega)|(refine dm ?_ ?_<;>intro hc<;>have hc2:=hc<;>(try simp only[dQ]at hc2)<;>try omega)|(refine dc (by omega) ?_)|(split<;>try omega)|omega)
 ·repeat' (first|(simp-implicitDefEqProofs (disch:=try exact dd) [*,cB,fN])|(refine dt ?_ ?_<;>intro hc<;>have hc2:=hc<;>(try simp only[dQ]at hc2)<;>try omega)|(refine dm ?_ ?_<;>intro hc<;>have hc2:=hc<;>(try simp only[dQ]at hc2)<;>try omega)|(refine dc (by omega) ?_)|(split<;>try omega)|omega)
theorem By(base bits a:Int):cD Tryz.prog 168 [.d (.int .i64 base),.d (.int .i64 bits),.d (.int .i64 a)] (.d (.bool (nI base bits a))) (fun _=>false):=by
 refine cD.bi Tryz.func168 [] ?_;by_cases h0:fN base bits=true
 ·have hb:=iK.1 h0;by_cases h2:dD a=true
  ·have h3:=Lx (dI.1 h2) hb.1.1 hb.1.2;have h4:=MB h0 (dI.1 h2)
   repeat' (first|(simp-implicitDefEqProofs (disch:=try exact dd) [*,cB,nI])|(refine oc (gB _ _) ?_)|(refine oc (fV _) ?_)|(refine oc (tK _ hb.1.1 hb.1.2) ?_)|(refine dt ?_ ?_<;>intro hc<;>have hc2:=hc<;>(try simp only[dQ]at hc2)<;>try omega)|(refine dm ?_ ?_<;>intro hc<;>have hc2:=hc<;>(try simp only[dQ]at hc2)<;>try omega)|(refine dc (by omega) ?_)|(split<;>try omega)|omega)
  ·repeat' (first|(simp-implicitDefEqProofs (disch:=try exact dd) [*,cB,nI])|(refine oc (gB _ _) ?_)|(refine oc (fV _) ?_)|(refine dt ?_ ?_<;>intro hc<;>have hc2:=hc<;>(try simp only[dQ]at hc2)<;>try omega)|(refine dm ?_ ?_<;>intro hc<;>have hc2:=hc<;>(try simp only[dQ]at hc2)<;>try omega)|(refine dc (by omega) ?_)|(split<;>try omega)|omega)
 ·repeat' (first|(simp-implicitDefEqProofs (disch:=try exact dd) [*,cB,nI])|(refine oc (gB _ _) ?_)|(refine dt ?_ ?_<;>intro hc<;>have hc2:=hc<;>(try simp only[dQ]at hc2)<;>try omega)|(refine dm ?_ ?_<;>intro hc<;>have hc2:=hc<;>(try simp only[dQ]at hc2)<;>try omega)|(refine dc (by omega) ?_)|(split<;>try omega)|omega)
theorem LB(base bits:Int):cD Tryz.prog 248 [.d (.int .i64 base),.d (.int .i64 bits)] (.tup [.d (.int .i64 (if fN base bits=true then rz base bits else 0)),.d (.int .i64 (if fN base bits=true then 0 else 1))]) (fun _=>false):=by
 refine cD.bi Tryz.func248 [] ?_;by_cases h0:fN base bits=true
 ·have hb:=iK.1 h0;have h3:=vr (a:=4294967295) ⟨by omega,by omega⟩ hb.1.1 hb.1.2
  rw[Ds hb.1.1 hb.1.2]at h3;have h4:=Me h0
  repeat' (first|(simp-implicitDefEqProofs (disch:=try exact dd) [*,cB])|(refine oc (gB _ _) ?_)|(refine oc (tK _ hb.1.1 hb.1.2) ?_)|(refine dt ?_ ?_<;>intro hc<;>have hc2:=hc<;>(try simp only[dQ]at hc2)<;>try omega)|(refine dm ?_ ?_<;>intro hc<;>have hc2:=hc<;>(try simp only[dQ]at hc2)<;>try omega)|(refine dc (by omega) ?_)|(split<;>try omega)|omega)
 ·repeat' (first|(simp-implicitDefEqProofs (disch:=try exact dd) [*,cB])|(refine oc (gB _ _) ?_)|(refine dt ?_ ?_<;>intro hc<;>have hc2:=hc<;>(try simp only[dQ]at hc2)<;>try omega)|(refine dm ?_ ?_<;>intro hc<;>have hc2:=hc<;>(try simp only[dQ]at hc2)<;>try omega)|(refine dc (by omega) ?_)|(split<;>try omega)|omega)
theorem Fo(bits:Int):cD Tryz.prog 320 [.d (.int .i64 bits)] (.tup [.d (.int .i64 (if 0≤bits∧bits≤32 then 4294967296-eV bits else 0)),.d (.int .i64 (if 0≤bits∧bits≤32 then 0 else 1))]) (fun _=>false):=by
 refine cD.bi Tryz.func320 [] ?_;by_cases h0:0≤bits
 ·by_cases h1:bits≤32
  ·repeat' (first|(simp-implicitDefEqProofs (disch:=try exact dd) [*,cB])|(refine oc (tK _ h0 h1) ?_)|(refine dt ?_ ?_<;>intro hc<;>have hc2:=hc<;>(try simp only[dQ]at hc2)<;>try omega)|(refine dm ?_ ?_<;>intro hc<;>have hc2:=hc<;>(try simp only[dQ]at hc2)<;>try omega)|(refine dc (by omega) ?_)|(split<;>try omega)|omega)
  ·repeat' (first|(simp-implicitDefEqProofs (disch:=try exact dd) [*,cB])|(refine dt ?_ ?_<;>intro hc<;>have hc2:=hc<;>(try simp only[dQ]at hc2)<;>try omega)|(refine dm ?_ ?_<;>intro hc<;>have hc2:=hc<;>(try simp only[dQ]at hc2)<;>try omega)|(refine dc (by omega) ?_)|(split<;>try omega)|omega)
 ·repeat' (first|(simp-implicitDefEqProofs (disch:=try exact dd) [*,cB])|(refine dt ?_ ?_<;>intro hc<;>have hc2:=hc<;>(try simp only[dQ]at hc2)<;>try omega)|(refine dm ?_ ?_<;>intro hc<;>have hc2:=hc<;>(try simp only[dQ]at hc2)<;>try omega)|(refine dc (by omega) ?_)|(split<;>try omega)|omega)
theorem LA(b k c l:Int):cD Tryz.prog 250 [.d (.int .i64 b),.d (.int .i64 k),.d (.int .i64 c),.d (.int .i64 l)] (.d (.bool (fN b k&&fN c l&&(nI b k c||nI c l b)))) (fun _=>false):=by
 refine cD.bi Tryz.func250 [] ?_
 cases h0:fN b k<;>cases h1:fN c l<;>cases h2:nI b k c<;>repeat' (first|(simp-implicitDefEqProofs (disch:=try exact dd) [*,cB])|(refine oc (gB _ _) ?_)|(refine oc (By _ _ _) ?_)|(refine dt ?_ ?_<;>intro hc<;>have hc2:=hc<;>(try simp only[dQ]at hc2)<;>try omega)|(refine dm ?_ ?_<;>intro hc<;>have hc2:=hc<;>(try simp only[dQ]at hc2)<;>try omega)|(refine dc (by omega) ?_)|(split<;>try omega)|omega)
theorem DS(a:Int):cD Tryz.prog 143 [.d (.int .i64 a)] (.d (.bool (dD a))) (fun _=>false):=by
 refine cD.bi Tryz.func143 [] ?_
 repeat' (first|(simp-implicitDefEqProofs (disch:=try exact dd) [*,cB,dD])|(refine dt ?_ ?_<;>intro hc<;>have hc2:=hc<;>(try simp only[dQ]at hc2)<;>try omega)|(refine dm ?_ ?_<;>intro hc<;>have hc2:=hc<;>(try simp only[dQ]at hc2)<;>try omega)|(refine dc (by omega) ?_)|(split<;>try omega)|omega)
theorem MC(b k c l:Int):(fN b k&&fN c l&&(nI b k c||nI c l b))=sX b k c l:=by
 cases h0:fN b k with
 |false=>simp[sX,h0]
 |true=>
  cases h1:fN c l with
  |false=>simp[sX,h0,h1]
  |true=>
   obtain⟨⟨a0,a1⟩,⟨a2,a3⟩,a4⟩:=iK.1 h0;obtain⟨⟨b0,b1⟩,⟨b2,b3⟩,b4⟩:=iK.1 h1;have:=jk k;have:=jk l;rw[Bool.eq_iff_iff];simp only[sX,h0,h1,Bool.and_true,Bool.true_and,Bool.or_eq_true,mb,decide_eq_true_eq,eq_self,true_and];unfold rz;omega
def fC(l:List UInt8):Int:=l.foldl (fun v b=>v*256+(b.toNat:Int)) 0
theorem tN(l:List UInt8)(b:UInt8):fC (l++ [b])=fC l*256+(b.toNat:Int):=by simp[fC]
theorem tM(l:List UInt8){i:Nat}(h:i<l.length):fC (l.take (i+1))=fC (l.take i)*256+(l[i].toNat:Int):=by
 rw[List.take_succ_eq_append_getElem h,tN]
theorem pj: ∀(n:Nat) (l:List UInt8),l.length=n→0≤fC l∧fC l<256^n
 |0,l,h=>by
  obtain rfl:l= []:=List.eq_nil_of_length_eq_zero h;simp[fC]
 |n+1,l,h=>by
  have hl:n<l.length:=by omega
  have e:=tM l hl;rw[List.take_of_length_le (by omega)]at e
  obtain⟨h1,h2⟩:=pj n (l.take n) (by simp;omega)
  have h3:(l[n].toNat:Int)<256:=by
   have:=l[n].toNat_lt;omega
  rw[e,Int.pow_succ];omega
theorem Ho{n:Nat}(h:n≤7):(256:Int)^n≤72057594037927936:=by
 have: ∀n:Fin 8,(256:Int)^(n:Nat)≤72057594037927936:=by decide
 exact this ⟨n,by omega⟩
theorem vM{l:List UInt8}(h:l.length≤7):0≤fC l∧fC l<72057594037927936:=by
 have:=pj l.length l rfl;have:=Ho h;omega
theorem Mg{v b:Int}(h0:0≤v)(h1:v<281474976710656)(h2:0≤b)(h3:b<256):LI .i64 (DF .i64 v 8) b=v*256+b:=by
 have e1:DF .i64 v 8=v*256:=by
  unfold DF;have:(2:Int)^(min ((8:Int).toNat) IntKind.i64.bits)=256:=by decide
  rw[this,kZ (by omega)]
 rw[e1];unfold LI;have hb: ∀x:Int,0≤x→x<9223372036854775808→(BitVec.ofInt IntKind.i64.bits x).toNat=x.toNat:=by
  intro x k0 k1;have:IntKind.i64.bits=64:=rfl;rw[this,BitVec.toNat_ofInt];omega
 rw[BitVec.toNat_or,hb _ (by omega) (by omega),hb _ h2 (by omega),AQ (n:=8) (by omega) (by omega),m8 (by omega)]
 omega
theorem IY(b:UInt8):((b.toNat:Nat):Int)<256:=by have:=b.toNat_lt;omega
theorem vO(b:UInt8):IntKind.i64.wrap ((b.toNat:Nat):Int)=b.toNat:=by have:=b.toNat_lt;exact kZ (by omega)
def mc(b:List UInt8)(at_ n:Int):Int:=if n<1∨7<n∨at_<0 then 1 else if at_>b.length∨b.length-at_<n then 4 else 0
def lj(b:List UInt8)(at_ n:Int):Int:=if mc b at_ n=0 then fC ((b.drop at_.toNat).take n.toNat)else 0
def cgI(b:List UInt8)(a n:Nat)(i:Nat)(S:PS):Prop:=
 i≤n∧S.t 0= .d (.slice (b.map cM))∧S.t 1= .d (.int .i64 a)∧S.t 32= .d (.int .i64 n)∧S.t 33= .d (.int .i64 i)∧S.t 8= .d (.int .i64 (fC ((b.drop a).take i)))
theorem oS(b:List UInt8)(a n:Int)(hl:b.length≤9223372036854775807):
 cD Tryz.prog 86 [.d (.slice (b.map cM)),.d (.int .i64 a),.d (.int .i64 n)] (.tup [.d (.int .i64 (lj b a n)),.d (.int .i64 (mc b a n))]) (fun _=>false):=by
 refine cD.bi Tryz.func86 [] ?_;by_cases h1:n<1∨7<n∨a<0
 ·have hE:mc b a n=1:=by simp only[mc,if_pos h1]
  have hV:lj b a n=0:=by simp[lj,hE]
  rw[hE,hV]
  repeat' (first|(simp-implicitDefEqProofs (disch:=try exact dd) [*,cB])|(refine dt ?_ ?_<;>intro hc<;>have hc2:=hc<;>(try simp only[dQ]at hc2)<;>try omega)|(refine dm ?_ ?_<;>intro hc<;>have hc2:=hc<;>(try simp only[dQ]at hc2)<;>try omega)|(refine dc (by omega) ?_)|(split<;>try omega)|omega)
 ·by_cases h2:a>b.length∨b.length-a<n
  ·have hE:mc b a n=4:=by simp only[mc,if_neg h1,if_pos h2]
   have hV:lj b a n=0:=by simp[lj,hE]
   rw[hE,hV]
   repeat' (first|(simp-implicitDefEqProofs (disch:=try exact dd) [*,cB])|(refine dt ?_ ?_<;>intro hc<;>have hc2:=hc<;>(try simp only[dQ]at hc2)<;>try omega)|(refine dm ?_ ?_<;>intro hc<;>have hc2:=hc<;>(try simp only[dQ]at hc2)<;>try omega)|(refine dc (by omega) ?_)|(split<;>try omega)|omega)
  ·have hE:mc b a n=0:=by simp only[mc,if_neg h1,if_neg h2]
   have hV:lj b a n=fC ((b.drop a.toNat).take n.toNat):=by simp[lj,hE]
   rw[hE,hV];obtain⟨a,rfl⟩:=Int.eq_ofNat_of_zero_le (show 0≤a by omega)
   obtain⟨n,rfl⟩:=Int.eq_ofNat_of_zero_le (show 0≤n by omega)
   have k1: ¬(n:Int)<1:=by omega
   have k2: ¬(7:Int)<n:=by omega
   have k3: ¬(a:Int)<0:=by omega
   have k4: ¬(b.length:Int)<a:=by omega
   have k5: ¬(b.length:Int)-a<n:=by omega
   simp-implicitDefEqProofs (disch:=try exact dd) [cB,k1,k2,k3,k4,k5]
   refine lp (cgI b a n) (fun i=>n-i) 0 ⟨by omega,by simp[fC]⟩ ?_
   rintro i S ⟨hi,e0,e1,e32,e33,e8⟩;by_cases hlt:i<n
   ·have k6:(i:Int)<n:=by omega
    have hdl:i<(b.drop a).length:=by simp;omega
    have hv:=tM (b.drop a) hdl;have hr:=vM (l:=(b.drop a).take i) (by simp;omega)
    have hr2:=pj i ((b.drop a).take i) (by simp;omega)
    have hp6:(256:Int)^i≤281474976710656:=by
     have: ∀n:Fin 7,(256:Int)^(n:Nat)≤281474976710656:=by decide
     exact this ⟨i,by omega⟩
    have hg:(b.drop a)[i]=b[a+i]'(by omega):=by simp
    have hn:nth b ((a:Int)+i)=b[a+i]'(by omega):=by
     have:=dB (l:=b) (i:=a+i) (by omega)
     rw[←this];simp
    have ho:=Mg (v:=fC ((b.drop a).take i)) (b:=(b[a+i]'(by omega)).toNat) hr.1 (by omega) (by omega) (IY _)
    have hw:=vO (b[a+i]'(by omega))
    rw[hg]at hv
    simp-implicitDefEqProofs (disch:=try exact dd) [cB,e0,e1,e32,e33,e8,k6,hn,hw,ho]
    exact cE (i+1) ⟨by omega,by simp-implicitDefEqProofs (disch:=try exact dd) [*,cB,hv,hw,ho]⟩ (by omega)
   ·have:i=n:=by omega
    subst this
    simp-implicitDefEqProofs (disch:=try exact dd) [cB,e0,e1,e32,e33,e8]
def vlI(b:List UInt8)(i:Nat)(S:PS):Prop:=
 i≤b.length∧S.t 0= .d (.slice (b.map cM))∧S.t 4= .d (.int .i64 i)∧S.t 3= .d (.int .i64 (fC (b.take i)))
theorem ig(b:List UInt8)(hl:b.length≤7):cD Tryz.prog 70 [.d (.slice (b.map cM))] (.d (.int .i64 (fC b))) (fun _=>false):=by
 refine cD.bi Tryz.func70 [] ?_
 simp-implicitDefEqProofs (disch:=try exact dd) [cB]
 refine lp (vlI b) (fun i=>b.length-i) 0 ⟨by omega,by simp[fC]⟩ ?_
 rintro i S ⟨hi,e0,e4,e3⟩;by_cases hlt:i<b.length
 ·have k6:(i:Int)<b.length:=by omega
  have hv:=tM b hlt;have hr:=vM (l:=b.take i) (by simp;omega)
  have hr2:=pj i (b.take i) (by simp;omega)
  have hp6:(256:Int)^i≤281474976710656:=by
   have: ∀n:Fin 7,(256:Int)^(n:Nat)≤281474976710656:=by decide
   exact this ⟨i,by omega⟩
  have hw:=vO b[i];have hu:=IY b[i]
  simp-implicitDefEqProofs (disch:=try exact dd) [cB,e0,e3,e4,k6,hw]
  exact cE (i+1) ⟨by omega,by simp-implicitDefEqProofs (disch:=try exact dd) [*,cB,hv,hw]⟩ (by omega)
 ·have k6: ¬(i:Int)<b.length:=by omega
  have:b.take i=b:=List.take_of_length_le (by omega)
  simp-implicitDefEqProofs (disch:=try exact dd) [cB,e0,e3,e4,k6,this]
def iy:List cN→Int→Int
 | [],_=> -1
 |o::l,c=>if o.code=c then 0 else if iy l c<0 then-1 else iy l c+1
theorem ln: ∀(l:List cN) (c:Int), -1≤iy l c∧iy l c<l.length
 | [],c=>by simp[iy]
 |o::l,c=>by
  have:=ln l c;simp only[iy,List.length_cons];split
  ·omega
  ·split<;>omega
def cY(l:List cN)(c:Int):Option (List UInt8):=(l.find? fun o=>decide (o.code=c)).map cN.data
theorem kG: ∀(l:List cN) (c:Int),iy l c<0↔ ∀o∈l,o.code≠c
 | [],c=>by simp[iy]
 |o::l,c=>by
  have h:=kG l c;have:=ln l c;simp only[iy,List.forall_mem_cons];by_cases e:o.code=c
  ·simp[e]
  ·simp only[if_neg e];split
   ·rename_i h1;exact⟨fun _=>⟨e,h.1 h1⟩,fun _=>by omega⟩
   ·rename_i h1;exact⟨fun h2=>by omega,fun h2=>absurd (h.2 h2.2) h1⟩
theorem n6: ∀(l:List cN) (c:Int) (i:Nat) (h:i<l.length),(∀j (hj:j<i),(l[j]'(by omega)).code≠c)→l[i].code=c→iy l c=i
 | [],c,i,h,_,_=>by simp at h
 |o::l,c,0,h,_,e=>by simp at e;simp[iy,e]
 |o::l,c,i+1,h,hn,e=>by
  have h0:=hn 0 (by omega)
  simp at h0;have ih:=n6 l c i (by simpa using h) (fun j hj=>by have:=hn (j+1) (by omega);simpa using this) (by simpa using e)
  simp only[iy,if_neg h0,ih];rw[if_neg (by omega)]
  omega
theorem xL: ∀(l:List cN) (c:Int),(iy l c<0→cY l c=none)∧(0≤iy l c→ ∃h:(iy l c).toNat<l.length,cY l c=some (l[(iy l c).toNat]).data)
 | [],c=>by simp[iy,cY]
 |o::l,c=>by
  have ih:=xL l c;have hr:=ln l c;by_cases e:o.code=c
  ·have h0:iy (o::l) c=0:=by simp[iy,e]
   rw[h0];refine⟨fun h=>by omega,fun _=>⟨by simp,by simp[cY,e]⟩⟩
  ·have hf:cY (o::l) c=cY l c:=by simp[cY,e]
   by_cases h1:iy l c<0
   ·have h0:iy (o::l) c= -1:=by simp[iy,e,h1]
    rw[h0,hf];exact⟨fun _=>ih.1 h1,fun h=>by omega⟩
   ·have h0:iy (o::l) c=iy l c+1:=by simp[iy,e,h1]
    rw[h0,hf];obtain⟨hl,hh⟩:=ih.2 (by omega)
    have ht:(iy l c+1).toNat=(iy l c).toNat+1:=by omega
    refine⟨fun h=>by omega,fun _=>⟨by rw[ht];simp;omega,?_⟩⟩
    rw[hh];simp only[ht,List.getElem_cons_succ]
def vA(o:cN):Bool:=decide (1≤o.code∧o.code≤254)&&decide (o.data.length≤600)
def cI(l:List cN):Bool:=decide (l.length≤60)&&l.all vA&&decide ((l.map cN.code).Nodup)
def sized(l:List cN):Prop:=l.length≤100000∧ ∀o∈l,o.data.length≤100000
theorem lJ{l:List cN}(h:sized l){i:Nat}(hi:i<l.length):l[i].data.length≤100000:=h.2 _ (List.getElem_mem hi)
def gS(l:List cN)(c:Int):Int:=(l.countP fun o=>decide (o.code=c):Nat)
theorem sS(l:List cN):(l.map cN.code).Nodup↔ ∀i (h:i<l.length),iy l l[i].code=i:=by
 unfold List.Nodup;rw[List.pairwise_iff_getElem];constructor
 ·intro hn i hi;refine n6 l _ i hi (fun j hj e=>?_) rfl
  have:=hn j i (by simp;omega) (by simpa using hi) hj
  simp[e]at this
 ·intro h i j hi hj hij e;simp at hi hj e;have h1:=h i hi;have h2:=h j hj;rw[e,h2]at h1;omega
theorem uc: ∀(l:List cN),(l.map cN.code).Nodup↔ ∀o∈l,gS l o.code≤1
 | []=>by simp
 |o::l=>by
  have ih:=uc l;simp only[List.map_cons,bB,List.mem_map,not_exists,not_and,List.forall_mem_cons,ih];have hc: ∀c,gS (o::l) c=gS l c+(if o.code=c then 1 else 0):=by
   intro c;by_cases e:o.code=c<;>simp[gS,List.countP_cons,e]
  constructor
  ·rintro⟨h1,h2⟩;have h0:gS l o.code=0:=by
    have:(l.countP fun x=>decide (x.code=o.code))=0:=by
     rw[bJ];intro x hx
     simpa using h1 x hx
    simp[gS,this]
   refine⟨by rw[hc,h0];simp,fun x hx=>?_⟩
   rw[hc,if_neg (fun e=>h1 x hx e.symm)]
   have:=h2 x hx;omega
  ·rintro⟨h1,h2⟩;rw[hc]at h1;simp at h1;have h0: ∀x∈l,x.code≠o.code:=by
    intro x hx e;have:0<l.countP fun y=>decide (y.code=o.code):=List.countP_pos_iff.2 ⟨x,hx,by simpa using e⟩
    simp[gS]at h1;omega
   refine⟨h0,fun x hx=>?_⟩
   have:=h2 x hx;rw[hc,if_neg (fun e=>h0 x hx e.symm)]at this
   omega
theorem FC(o:cN)(c:Int):cD Tryz.prog 240 [.d o.d,.cptr [.int .i64 c]] (.d (.bool (decide (o.code=c)))) (fun _=>false):=by
 refine cD.bi Tryz.func240 [] ?_
 repeat' (first|(simp-implicitDefEqProofs (disch:=try exact dd) [*,cB])|(refine dt ?_ ?_<;>intro hc<;>have hc2:=hc<;>(try simp only[dQ]at hc2)<;>try omega)|(refine dm ?_ ?_<;>intro hc<;>have hc2:=hc<;>(try simp only[dQ]at hc2)<;>try omega)|(refine dc (by omega) ?_)|(split<;>try omega)|omega)
def atI(l:List cN)(c:Int)(i:Nat)(S:PS):Prop:=
 i≤l.length∧(∀j (hj:j<i) (hl:j<l.length),l[j].code≠c)∧S.t 5= .fn 240 [.cptr [.int .i64 c]]∧S.t 9= .d (.slice (l.map cN.d))∧S.t 10= .d (.int .i64 l.length)∧S.t 11= .d (.int .i64 i)
theorem FD(l:List cN)(c:Int)(hl:sized l):cD Tryz.prog 151 [.d (.slice (l.map cN.d)),.d (.int .i64 c)] (.d (.int .i64 (iy l c))) (fun _=>false):=by
 refine cD.bi Tryz.func151 [20003] ?_;have hs:=hl.1
 simp-implicitDefEqProofs (disch:=try exact dd) [cB]
 refine lp (atI l c) (fun i=>l.length-i) 0 ⟨by omega,by simp,by simp⟩ ?_
 rintro i S ⟨hi,hn,e5,e9,e10,e11⟩;by_cases hlt:i<l.length
 ·have k6:(i:Int)<l.length:=by omega
  by_cases hc:l[i].code=c
  ·have ha:=n6 l c i hlt (fun j hj=>hn j hj (by omega)) hc
   repeat' (first|(simp-implicitDefEqProofs (disch:=try exact dd) [*,cB])|(refine oc (FC ⟨c,l[i].data⟩ c) ?_)|(refine dt ?_ ?_<;>intro hc<;>have hc2:=hc<;>(try simp only[dQ]at hc2)<;>try omega)|(refine dm ?_ ?_<;>intro hc<;>have hc2:=hc<;>(try simp only[dQ]at hc2)<;>try omega)|(refine dc (by omega) ?_)|(split<;>try omega)|omega)
  ·simp-implicitDefEqProofs (disch:=try exact dd) [cB,e5,e9,e10,e11,k6]
   refine oc (FC (l[i]) c) ?_
   simp-implicitDefEqProofs (disch:=try exact dd) [cB,e5,e9,e10,e11,k6,hc]
   exact cE (i+1) ⟨by omega,fun j hj hl=>by
    rcases aR j i with h|h
    ·exact hn j h hl
    ·have:j=i:=by omega
     subst this;exact hc,by simp-implicitDefEqProofs (disch:=try exact dd) [cB,e5,e9,e10,e11]⟩ (by omega)
 ·have k6: ¬(i:Int)<l.length:=by omega
  have hneg:iy l c= -1:=by
   have h1:=(kG l c).2 fun o ho=>by
    obtain⟨j,hj,rfl⟩:=List.mem_iff_getElem.1 ho;exact hn j (by omega) hj
   have:=ln l c;omega
  simp-implicitDefEqProofs (disch:=try exact dd) [cB,e5,e9,e10,e11,k6,hneg]
theorem j9(l:List cN)(c:Int)(hl:sized l):cD Tryz.prog 89 [.d (.slice (l.map cN.d)),.d (.int .i64 c)] (.tup [.d (.slice (((cY l c).getD []).map cM)),.d (.bool (cY l c).isSome)]) (fun _=>false):=by
 refine cD.bi Tryz.func89 [] ?_;have hr:=ln l c;have hf:=xL l c;by_cases h0:iy l c<0
 ·have h1:=hf.1 h0
  repeat' (first|(simp-implicitDefEqProofs (disch:=try exact dd) [*,cB])|(refine oc (FD l c hl) ?_)|(refine dt ?_ ?_<;>intro hc<;>have hc2:=hc<;>(try simp only[dQ]at hc2)<;>try omega)|(refine dm ?_ ?_<;>intro hc<;>have hc2:=hc<;>(try simp only[dQ]at hc2)<;>try omega)|(refine dc (by omega) ?_)|(split<;>try omega)|omega)
 ·obtain⟨h2,h3⟩:=hf.2 (by omega)
  obtain⟨i,hi⟩:=Int.eq_ofNat_of_zero_le (show 0≤iy l c by omega)
  have hi':(iy l c).toNat=i:=by omega
  simp only[hi']at h2 h3;have hz:=lJ hl h2;rw[h3];have ht:=FD l c hl;rw[hi]at ht
  repeat' (first|(simp-implicitDefEqProofs (disch:=try exact dd) [*,cB])|(refine oc (ht) ?_)|(refine dt ?_ ?_<;>intro hc<;>have hc2:=hc<;>(try simp only[dQ]at hc2)<;>try omega)|(refine dm ?_ ?_<;>intro hc<;>have hc2:=hc<;>(try simp only[dQ]at hc2)<;>try omega)|(refine dc (by omega) ?_)|(split<;>try omega)|omega)
def trO(l:List cN)(i:Nat)(S:PS):Prop:=
 i≤l.length∧(∀j (hj:j<i) (hl:j<l.length),vA l[j]=true∧iy l l[j].code=j)∧S.t 0= .d (.slice (l.map cN.d))∧S.t 5= .d (.slice (l.map cN.d))∧S.t 6= .d (.int .i64 l.length)∧S.t 7= .d (.int .i64 i)
theorem su(l:List cN)(hl:sized l):cD Tryz.prog 225 [.d (.slice (l.map cN.d))] (.d (.bool (cI l))) (fun _=>false):=by
 refine cD.bi Tryz.func225 [] ?_;have hs:=hl.1
 simp-implicitDefEqProofs (disch:=try exact dd) [cB]
 refine lp (trO l) (fun i=>l.length-i) 0 ⟨by omega,by simp,by simp⟩ ?_
 rintro i S ⟨hi,hn,e0,e5,e6,e7⟩;by_cases hlt:i<l.length
 ·have k6:(i:Int)<l.length:=by omega
  have hz:=lJ hl hlt;by_cases hc:vA l[i]=true∧iy l l[i].code=i
  ·obtain⟨hc1,hc2⟩:=hc;have hc3:(1≤l[i].code∧l[i].code≤254)∧l[i].data.length≤600:=by simpa[vA]using hc1
   have k1: ¬l[i].code≤0:=by omega
   have k2: ¬255≤l[i].code:=by omega
   have k3: ¬(600:Int)<l[i].data.length:=by omega
   have ha:=FD l l[i].code hl;rw[hc2]at ha
   simp-implicitDefEqProofs (disch:=try exact dd) [cB,e0,e5,e6,e7,k6,k1,k2,k3]
   refine oc ha ?_
   simp-implicitDefEqProofs (disch:=try exact dd) [cB,e0,e5,e6,e7,k6,k1,k2,k3]
   exact cE (i+1) ⟨by omega,fun j hj hl=>by
    rcases aR j i with h|h
    ·exact hn j h hl
    ·have:j=i:=by omega
     subst this;exact⟨hc1,hc2⟩,by simp-implicitDefEqProofs (disch:=try exact dd) [cB,e0,e5,e6,e7]⟩ (by omega)
  ·have hf:cI l=false:=by
    rw[aM];intro h;simp only[cI,Bool.and_eq_true,decide_eq_true_eq,List.all_eq_true]at h;exact hc ⟨h.1.2 _ (List.getElem_mem hlt),(sS l).1 h.2 i hlt⟩
   rw[hf];have hc': ¬((1≤l[i].code∧l[i].code≤254)∧l[i].data.length≤600)∨iy l l[i].code≠i:=by
    by_cases h1:vA l[i]=true
    ·exact .inr fun e=>hc ⟨h1,e⟩
    ·refine .inl fun e=>h1 ?_
     simpa[vA]using e
   clear hc;by_cases k1:l[i].code≤0
   ·simp-implicitDefEqProofs (disch:=try exact dd) [cB,e0,e5,e6,e7,k6,k1]
   ·by_cases k2:255≤l[i].code
    ·simp-implicitDefEqProofs (disch:=try exact dd) [cB,e0,e5,e6,e7,k6,k1,k2]
    ·by_cases k3:(600:Int)<l[i].data.length
     ·simp-implicitDefEqProofs (disch:=try exact dd) [cB,e0,e5,e6,e7,k6,k1,k2,k3]
     ·have k4: ¬iy l l[i].code=i:=by
       rcases hc' with h|h
       ·omega
       ·exact h
      simp-implicitDefEqProofs (disch:=try exact dd) [cB,e0,e5,e6,e7,k6,k1,k2,k3]
      refine oc (FD l l[i].code hl) ?_
      simp-implicitDefEqProofs (disch:=try exact dd) [cB,e0,e5,e6,e7,k6,k1,k2,k3,k4]
 ·have k6: ¬(i:Int)<l.length:=by omega
  have h1:cI l=decide ((l.length:Int)≤60):=by
   have h2:l.all vA=true:=by
    rw[List.all_eq_true];intro o ho;obtain⟨j,hj,rfl⟩:=List.mem_iff_getElem.1 ho
    exact(hn j (by omega) hj).1
   have h3:(l.map cN.code).Nodup:=(sS l).2 fun j hj=>(hn j (by omega) hj).2
   simp only[cI,h2,h3,bG,Bool.and_true];rw[Bool.eq_iff_iff];simp;omega
  simp-implicitDefEqProofs (disch:=try exact dd) [cB,e0,e5,e6,e7,k6,h1]
def rhI(l:List cN)(c:Int)(i:Nat)(S:PS):Prop:=
 i≤l.length∧S.t 0= .d (.slice (l.map cN.d))∧S.t 1= .d (.int .i64 c)∧S.t 6= .d (.int .i64 i)∧S.t 5= .d (.int .i64 (gS (l.take i) c))
theorem H3(l:List cN)(c:Int){i:Nat}(h:i<l.length):gS (l.take (i+1)) c=gS (l.take i) c+if l[i].code=c then 1 else 0:=by
 unfold gS;rw[List.take_succ_eq_append_getElem h,List.countP_append];by_cases e:l[i].code=c<;>simp[List.countP_cons,e]
theorem Gn(l:List cN)(c:Int):0≤gS l c∧gS l c≤l.length:=by
 have:=List.countP_le_length (p:=fun o:cN=>decide (o.code=c)) (l:=l)
 unfold gS;omega
theorem sH(l:List cN)(c:Int)(hl:sized l):cD Tryz.prog 228 [.d (.slice (l.map cN.d)),.d (.int .i64 c)] (.d (.int .i64 (gS l c))) (fun _=>false):=by
 refine cD.bi Tryz.func228 [] ?_;have hs:=hl.1
 simp-implicitDefEqProofs (disch:=try exact dd) [cB]
 refine lp (rhI l c) (fun i=>l.length-i) 0 ⟨by omega,by simp[gS]⟩ ?_
 rintro i S ⟨hi,e0,e1,e6,e5⟩;by_cases hlt:i<l.length
 ·have k6:(i:Int)<l.length:=by omega
  have hb:=Gn (l.take i) c;have hb2:((l.take i).length:Int)≤l.length:=by simp;omega
  have ht:=H3 l c hlt;by_cases hc:l[i].code=c
  ·rw[if_pos hc]at ht
   simp-implicitDefEqProofs (disch:=try exact dd) [cB,e0,e1,e5,e6,k6,hc]
   exact cE (i+1) ⟨by omega,by simp-implicitDefEqProofs (disch:=try exact dd) [*,cB,ht]⟩ (by omega)
  ·rw[if_neg hc]at ht
   simp-implicitDefEqProofs (disch:=try exact dd) [cB,e0,e1,e5,e6,k6,hc]
   exact cE (i+1) ⟨by omega,by simp-implicitDefEqProofs (disch:=try exact dd) [*,cB,ht]⟩ (by omega)
 ·have k6: ¬(i:Int)<l.length:=by omega
  have:l.take i=l:=List.take_of_length_le (by omega)
  simp-implicitDefEqProofs (disch:=try exact dd) [cB,e0,e1,e5,e6,k6,this]
def rrI(l:List cN)(i:Nat)(S:PS):Prop:=
 i≤l.length∧(∀j (hj:j<i) (hl:j<l.length),vA l[j]=true∧gS l l[j].code≤1)∧S.t 0= .d (.slice (l.map cN.d))∧S.t 3= .d (.int .i64 i)
theorem oy(l:List cN)(hl:sized l):cD Tryz.prog 227 [.d (.slice (l.map cN.d))] (.d (.bool (cI l))) (fun _=>false):=by
 refine cD.bi Tryz.func227 [] ?_;have hs:=hl.1;by_cases hbig:(60:Int)<l.length
 ·have hf:cI l=false:=by
   have: ¬l.length≤60:=by omega
   simp[cI,this]
  simp-implicitDefEqProofs (disch:=try exact dd) [cB,hbig,hf]
 have hsm:l.length≤60:=by omega
 simp-implicitDefEqProofs (disch:=try exact dd) [cB,hbig]
 refine lp (rrI l) (fun i=>l.length-i) 0 ⟨by omega,by simp,by simp⟩ ?_
 rintro i S ⟨hi,hn,e0,e3⟩;by_cases hlt:i<l.length
 ·have k6:(i:Int)<l.length:=by omega
  have hz:=lJ hl hlt;by_cases hc:vA l[i]=true∧gS l l[i].code≤1
  ·obtain⟨hc1,hc2⟩:=hc;have hc3:(1≤l[i].code∧l[i].code≤254)∧l[i].data.length≤600:=by simpa[vA]using hc1
   have k1: ¬l[i].code<1:=by omega
   have k2: ¬254<l[i].code:=by omega
   have k3: ¬(600:Int)<l[i].data.length:=by omega
   have k4: ¬1<gS l l[i].code:=by omega
   simp-implicitDefEqProofs (disch:=try exact dd) [cB,e0,e3,k6,k1,k2,k3]
   refine oc (sH l l[i].code hl) ?_
   simp-implicitDefEqProofs (disch:=try exact dd) [cB,e0,e3,k6,k1,k2,k3,k4]
   exact cE (i+1) ⟨by omega,fun j hj hl=>by
    rcases aR j i with h|h
    ·exact hn j h hl
    ·have:j=i:=by omega
     subst this;exact⟨hc1,hc2⟩,by simp-implicitDefEqProofs (disch:=try exact dd) [cB,e0,e3]⟩ (by omega)
  ·have hf:cI l=false:=by
    rw[aM];intro h;simp only[cI,Bool.and_eq_true,decide_eq_true_eq,List.all_eq_true]at h;exact hc ⟨h.1.2 _ (List.getElem_mem hlt),(uc l).1 h.2 _ (List.getElem_mem hlt)⟩
   rw[hf];have hc': ¬((1≤l[i].code∧l[i].code≤254)∧l[i].data.length≤600)∨ ¬gS l l[i].code≤1:=by
    by_cases h1:vA l[i]=true
    ·exact .inr fun e=>hc ⟨h1,e⟩
    ·refine .inl fun e=>h1 ?_
     simpa[vA]using e
   clear hc;by_cases k1:l[i].code<1
   ·simp-implicitDefEqProofs (disch:=try exact dd) [cB,e0,e3,k6,k1]
   ·by_cases k2:254<l[i].code
    ·simp-implicitDefEqProofs (disch:=try exact dd) [cB,e0,e3,k6,k1,k2]
    ·by_cases k3:(600:Int)<l[i].data.length
     ·simp-implicitDefEqProofs (disch:=try exact dd) [cB,e0,e3,k6,k1,k2,k3]
     ·have k4:1<gS l l[i].code:=by
       rcases hc' with h|h<;>omega
      simp-implicitDefEqProofs (disch:=try exact dd) [cB,e0,e3,k6,k1,k2,k3]
      refine oc (sH l l[i].code hl) ?_
      simp-implicitDefEqProofs (disch:=try exact dd) [cB,e0,e3,k6,k1,k2,k3,k4]
 ·have k6: ¬(i:Int)<l.length:=by omega
  have h1:cI l=true:=by
   have h2:l.all vA=true:=by
    rw[List.all_eq_true];intro o ho;obtain⟨j,hj,rfl⟩:=List.mem_iff_getElem.1 ho
    exact(hn j (by omega) hj).1
   have h3:(l.map cN.code).Nodup:=(uc l).2 fun o ho=>by
    obtain⟨j,hj,rfl⟩:=List.mem_iff_getElem.1 ho
    exact(hn j (by omega) hj).2
   simp[cI,h2,h3,hsm]
  simp-implicitDefEqProofs (disch:=try exact dd) [cB,e0,e3,k6,h1]
def rfI(l:List cN)(c:Int)(i:Nat)(S:PS):Prop:=
 i≤l.length∧(∀j (hj:j<i) (hl:j<l.length),l[j].code≠c)∧S.t 0= .d (.slice (l.map cN.d))∧S.t 1= .d (.int .i64 c)∧S.t 6= .d (.int .i64 i)
theorem tZ(l:List cN)(c:Int)(hl:sized l):cD Tryz.prog 71 [.d (.slice (l.map cN.d)),.d (.int .i64 c)] (.tup [.d (.slice (((cY l c).getD []).map cM)),.d (.bool (cY l c).isSome)]) (fun _=>false):=by
 refine cD.bi Tryz.func71 [] ?_;have hs:=hl.1
 simp-implicitDefEqProofs (disch:=try exact dd) [cB]
 refine lp (rfI l c) (fun i=>l.length-i) 0 ⟨by omega,by simp,by simp⟩ ?_
 rintro i S ⟨hi,hn,e0,e1,e6⟩;have hfa:=xL l c;by_cases hlt:i<l.length
 ·have k6:(i:Int)<l.length:=by omega
  by_cases hc:l[i].code=c
  ·have ha:=n6 l c i hlt (fun j hj=>hn j hj (by omega)) hc
   obtain⟨h2,h3⟩:=hfa.2 (by omega)
   have hi':(iy l c).toNat=i:=by omega
   simp only[hi']at h2 h3;rw[h3]
   simp-implicitDefEqProofs (disch:=try exact dd) [cB,e0,e1,e6,k6,hc]
  ·simp-implicitDefEqProofs (disch:=try exact dd) [cB,e0,e1,e6,k6,hc]
   exact cE (i+1) ⟨by omega,fun j hj hl=>by
    rcases aR j i with h|h
    ·exact hn j h hl
    ·have:j=i:=by omega
     subst this;exact hc,by simp-implicitDefEqProofs (disch:=try exact dd) [cB,e0,e1,e6]⟩ (by omega)
 ·have k6: ¬(i:Int)<l.length:=by omega
  have hneg:cY l c=none:=hfa.1 ((kG l c).2 fun o ho=>by
   obtain⟨j,hj,rfl⟩:=List.mem_iff_getElem.1 ho;exact hn j (by omega) hj)
  simp-implicitDefEqProofs (disch:=try exact dd) [cB,e0,e1,e6,k6,hneg]
def fE(xs:List cN):List PV:=(flat (xs.map cN.d)).map .d
theorem nr:fE []= []:=rfl
theorem iF(x:cN)(xs:List cN):fE (x::xs)= .d (.int .i64 x.code):: .d (.slice (x.data.map cM))::fE xs:=rfl
theorem Ck(xs ys:List cN):fE (xs++ys)=fE xs++fE ys:=by simp[fE,kE]
@[simp] theorem sR(xs:List cN):(fE xs).length=xs.length*2:=by
 induction xs with
 |nil=>rfl
 |cons x xs ih=>rw[iF];simp only[List.length_cons,ih];omega
theorem qE(xs:List cN): ∀i,(fE xs).drop (i*2)=fE (xs.drop i):=by
 induction xs with
 |nil=>intro i;simp[nr]
 |cons x xs ih=>
  intro i
  cases i with
  |zero=>simp
  |succ i=>
   rw[iF,show(i+1)*2=i*2+2 by omega]
   simp only[a8];exact ih i
theorem Hx(xs:List cN): ∀i,(fE xs).take (i*2)=fE (xs.take i):=by
 induction xs with
 |nil=>intro i;simp[nr]
 |cons x xs ih=>
  intro i
  cases i with
  |zero=>simp[nr]
  |succ i=>
   rw[iF,show(i+1)*2=i*2+2 by omega]
   simp only[bd,ih i]
   exact(iF x _).symm
theorem F_{xs:List cN}{i:Nat}(h:i<xs.length):((fE xs).drop (i*2)).take 2= [.d (.int .i64 xs[i].code),.d (.slice (xs[i].data.map cM))]:=by
 rw[qE,ai h,iF];rfl
theorem J1{xs:List cN}{i:Nat}(h:i<xs.length):(fE xs)[i*2+1]? =some (.d (.slice (xs[i].data.map cM))):=by
 have h1:((fE xs).drop (i*2))[1]? =some (.d (.slice (xs[i].data.map cM))):=by
  rw[qE,ai h,iF];rfl
 rwa[ak]at h1
theorem J0(xs:List cN):pc (fE xs)=some (flat (xs.map cN.d)):=by unfold fE;exact FA
theorem D9(xs:List cN):chunk 2 true xs.length (flat (xs.map cN.d))=xs.map cN.d:=by
 induction xs with
 |nil=>rfl
 |cons x xs ih=>
  rw[List.map_cons,dS,show cells x.d= [.int .i64 x.code,.slice (x.data.map cM)]from rfl,List.length_cons]
  simp only[chunk,List.cons_append,List.nil_append,bd,cj,a8,List.drop_zero,if_true,ih,cN.d]
theorem zh{xs:List cN}{n:Nat}(h:xs.length=n):(pc ((fE xs).take (n*2))).map (chunk 2 true n)=some (xs.map cN.d):=by
 subst h;rw[List.take_of_length_le (by rw[sR];omega),J0,Option.map_some,D9]
theorem J2{xs:List cN}{i:Nat}(h:i<xs.length)(d:List UInt8):(fE xs).take (i*2+1)++ .d (.slice (d.map cM))::(fE xs).drop (i*2+1+1)=fE (xs.set i ⟨xs[i].code,d⟩):=by
 have h1:(fE xs).take (i*2+1)=fE (xs.take i)++ [.d (.int .i64 xs[i].code)]:=by
  rw[←Hx];have h2:(fE xs)[i*2]? =some (.d (.int .i64 xs[i].code)):=by
   have h1:((fE xs).drop (i*2))[0]? =some (.d (.int .i64 xs[i].code)):=by
    rw[qE,ai h,iF];rfl
   rwa[ak,bN]at h1
  rw[cw,h2];rfl
 rw[h1,show i*2+1+1=(i+1)*2 by omega,qE,aT,if_pos h,Ck,iF,List.append_assoc]
 rfl
def oU(no g:Nat)(xs:List cN):iL:=⟨no,g,fE xs,fun _=>false⟩
def df(l:List cN)(o:cN):List cN:=if h:(iy l o.code).toNat<l.length∧0≤iy l o.code then l.set (iy l o.code).toNat ⟨l[(iy l o.code).toNat].code,l[(iy l o.code).toNat].data++o.data⟩else l++ [o]
def pV(l:List cN)(c:Int)(g:Nat):Nat:=if iy l c<0 then g+1 else g
def Zp(no g:Nat)(l:List cN)(c:Int)(fo i:Nat)(S:PS):Prop:=
 i≤l.length∧(∀j (hj:j<i) (hl:j<l.length),l[j].code≠c)∧S.t 5= .fn 240 [.cptr [.int .i64 c]]∧S.t 9= .bsl no g l.length 2 true∧S.t 10= .d (.int .i64 l.length)∧S.t 11= .d (.int .i64 i)∧S.fo=fo∧S.gen no=g∧S.box no=fE l
theorem I3(l:List cN)(c:Int)(no g:Nat){fo:Nat}{gl:Nat→Nat}(hl:sized l)(hno:no<fo)(hg:0<g):de Tryz.prog fo gl 151 [.bsl no g l.length 2 true,.d (.int .i64 c)] [oU no g l] (.d (.int .i64 (iy l c))) (fun _=>false) [oU no g l]:=by
 refine de.bi Tryz.func151 [20003,60007,70014,70015] (by simp[cH,cS,hg,oU,fE]) (by simp[cH,cS,hg,oU,fE]) (by simp[hg,oU,fE]) ?_
 have hs:=hl.1;have hk1: ∀k,(no=fo+k)=False:=fun k=>by simp;omega
 have hk2: ∀k,(fo+k=no)=False:=fun k=>by simp;omega
 simp-implicitDefEqProofs (disch:=try exact dd) [cB,oU]
 refine lp (Zp no g l c fo) (fun i=>l.length-i) 0 (by refine⟨by omega,by simp,?_,?_,?_,?_,?_,?_,?_⟩<;>simp-implicitDefEqProofs (disch:=try exact dd) [cB,hk1,hk2]) ?_
 rintro i S ⟨hi,hn,e5,e9,e10,e11,efo,g1,b1⟩;by_cases hlt:i<l.length
 ·have k6:(i:Int)<l.length:=by omega
  have hat:=F_ hlt;have hbl:i*2+2≤(fE l).length:=by rw[sR];omega
  by_cases hc:l[i].code=c
  ·have ha:=n6 l c i hlt (fun j hj=>hn j hj (by omega)) hc
   simp-implicitDefEqProofs (disch:=try exact dd) [cB,e5,e9,e10,e11,efo,g1,b1,k6,hat,hbl,hk1,hk2]
   refine oc (FC ⟨l[i].code,l[i].data⟩ c) ?_
   simp-implicitDefEqProofs (disch:=try exact dd) [cB,oU,e5,e9,e10,e11,efo,g1,b1,k6,hc,ha,hk1,hk2]
  ·simp-implicitDefEqProofs (disch:=try exact dd) [cB,e5,e9,e10,e11,efo,g1,b1,k6,hat,hbl,hk1,hk2]
   refine oc (FC ⟨l[i].code,l[i].data⟩ c) ?_
   simp-implicitDefEqProofs (disch:=try exact dd) [cB,e5,e9,e10,e11,efo,g1,b1,k6,hc,hk1,hk2]
   exact cE (i+1) ⟨by omega,fun j hj hl=>by
    rcases aR j i with h|h
    ·exact hn j h hl
    ·have:j=i:=by omega
     subst this;exact hc,by simp-implicitDefEqProofs (disch:=try exact dd) [cB,e5],by simp-implicitDefEqProofs (disch:=try exact dd) [cB,e9],by simp-implicitDefEqProofs (disch:=try exact dd) [cB,e10],by simp-implicitDefEqProofs (disch:=try exact dd) [cB],by simp-implicitDefEqProofs (disch:=try exact dd) [cB,efo],by simp-implicitDefEqProofs (disch:=try exact dd) [cB,efo,g1,hk1,hk2],by simp-implicitDefEqProofs (disch:=try exact dd) [cB,efo,b1,hk1,hk2]⟩ (by omega)
 ·have k6: ¬(i:Int)<l.length:=by omega
  have hneg:iy l c= -1:=by
   have h1:=(kG l c).2 fun o ho=>by
    obtain⟨j,hj,rfl⟩:=List.mem_iff_getElem.1 ho;exact hn j (by omega) hj
   have:=ln l c;omega
  simp-implicitDefEqProofs (disch:=try exact dd) [cB,oU,e5,e9,e10,e11,efo,g1,b1,k6,hneg,hk1,hk2]
def V'(no g:Nat)(l:List cN)(fo i:Nat)(S:PS):Prop:=
 i≤l.length∧(∀j (hj:j<i) (hl:j<l.length),vA l[j]=true∧iy l l[j].code=j)∧S.t 0= .bsl no g l.length 2 true∧S.t 5= .bsl no g l.length 2 true∧S.t 6= .d (.int .i64 l.length)∧S.t 7= .d (.int .i64 i)∧S.fo=fo∧S.gen no=g∧S.box no=fE l
theorem tP(l:List cN)(no g:Nat){fo:Nat}{gl:Nat→Nat}(hl:sized l)(hno:no<fo)(hg:0<g):de Tryz.prog fo gl 225 [.bsl no g l.length 2 true] [oU no g l] (.d (.bool (cI l))) (fun _=>false) [oU no g l]:=by
 refine de.bi Tryz.func225 [60004,70010,70011,40030] (by simp[cH,cS,hg,oU,fE]) (by simp[cH,cS,hg,oU,fE]) (by simp[hg,oU,fE]) ?_
 have hs:=hl.1;have hk1: ∀k,(no=fo+k)=False:=fun k=>by simp;omega
 have hk2: ∀k,(fo+k=no)=False:=fun k=>by simp;omega
 simp-implicitDefEqProofs (disch:=try exact dd) [cB,oU]
 refine lp (V' no g l fo) (fun i=>l.length-i) 0 (by refine⟨by omega,by simp,?_,?_,?_,?_,?_,?_,?_⟩<;>simp-implicitDefEqProofs (disch:=try exact dd) [cB,hk1,hk2]) ?_
 rintro i S ⟨hi,hn,e0,e5,e6,e7,efo,g1,b1⟩;by_cases hlt:i<l.length
 ·have k6:(i:Int)<l.length:=by omega
  have hat:=F_ hlt;have hbl:i*2+2≤(fE l).length:=by rw[sR];omega
  have hz:=lJ hl hlt;have q:=fun gl=>I3 l l[i].code no g (fo:=fo+1000) (gl:=gl) hl (by omega) hg
  by_cases hc:vA l[i]=true∧iy l l[i].code=i
  ·obtain⟨hc1,hc2⟩:=hc;have hc3:(1≤l[i].code∧l[i].code≤254)∧l[i].data.length≤600:=by simpa[vA]using hc1
   have k1: ¬l[i].code≤0:=by omega
   have k2: ¬255≤l[i].code:=by omega
   have k3: ¬(600:Int)<l[i].data.length:=by omega
   rw[hc2]at q
   simp-implicitDefEqProofs (disch:=try exact dd) [cB,e0,e5,e6,e7,efo,g1,b1,k6,hat,hbl,hk1,hk2,k1,k2,k3]
   refine dx (fo+1000) rfl rfl (q _) rfl (by simp-implicitDefEqProofs (disch:=try exact dd) [cB,oU,e0,e5,e6,e7,efo,g1,b1,k6,hk1,hk2,hg]) ?_
   simp-implicitDefEqProofs (disch:=try exact dd) [cB,oU,e0,e5,e6,e7,efo,g1,b1,k6,hk1,hk2,k1,k2,k3]
   exact cE (i+1) ⟨by omega,fun j hj hl=>by
    rcases aR j i with h|h
    ·exact hn j h hl
    ·have:j=i:=by omega
     subst this;exact⟨hc1,hc2⟩,by simp-implicitDefEqProofs (disch:=try exact dd) [cB,e0],by simp-implicitDefEqProofs (disch:=try exact dd) [cB,e5],by simp-implicitDefEqProofs (disch:=try exact dd) [cB,e6],by simp-implicitDefEqProofs (disch:=try exact dd) [cB],by simp-implicitDefEqProofs (disch:=try exact dd) [cB,efo],by simp-implicitDefEqProofs (disch:=try exact dd) [cB,oU,efo,g1,b1,hk1,hk2],by simp-implicitDefEqProofs (disch:=try exact dd) [cB,oU,efo,g1,b1,hk1,hk2]⟩ (by omega)
  ·have hf:cI l=false:=by
    rw[aM];intro h;simp only[cI,Bool.and_eq_true,decide_eq_true_eq,List.all_eq_true]at h;exact hc ⟨h.1.2 _ (List.getElem_mem hlt),(sS l).1 h.2 i hlt⟩
   rw[hf];have hc': ¬((1≤l[i].code∧l[i].code≤254)∧l[i].data.length≤600)∨iy l l[i].code≠i:=by
    by_cases h1:vA l[i]=true
    ·exact .inr fun e=>hc ⟨h1,e⟩
    ·refine .inl fun e=>h1 ?_
     simpa[vA]using e
   clear hc;by_cases k1:l[i].code≤0
   ·simp-implicitDefEqProofs (disch:=try exact dd) [cB,oU,e0,e5,e6,e7,efo,g1,b1,k6,hat,hbl,hk1,hk2,k1]
   ·by_cases k2:255≤l[i].code
    ·simp-implicitDefEqProofs (disch:=try exact dd) [cB,oU,e0,e5,e6,e7,efo,g1,b1,k6,hat,hbl,hk1,hk2,k1,k2]
    ·by_cases k3:(600:Int)<l[i].data.length
     ·simp-implicitDefEqProofs (disch:=try exact dd) [cB,oU,e0,e5,e6,e7,efo,g1,b1,k6,hat,hbl,hk1,hk2,k1,k2,k3]
     ·have k4: ¬iy l l[i].code=i:=by
       rcases hc' with h|h
       ·omega
       ·exact h
      simp-implicitDefEqProofs (disch:=try exact dd) [cB,e0,e5,e6,e7,efo,g1,b1,k6,hat,hbl,hk1,hk2,k1,k2,k3]
      refine dx (fo+1000) rfl rfl (q _) rfl (by simp-implicitDefEqProofs (disch:=try exact dd) [cB,oU,e0,e5,e6,e7,efo,g1,b1,k6,hk1,hk2,hg]) ?_
      simp-implicitDefEqProofs (disch:=try exact dd) [cB,oU,e0,e5,e6,e7,efo,g1,b1,k6,hk1,hk2,k1,k2,k3,k4]
 ·have k6: ¬(i:Int)<l.length:=by omega
  have h1:cI l=decide ((l.length:Int)≤60):=by
   have h2:l.all vA=true:=by
    rw[List.all_eq_true];intro o ho;obtain⟨j,hj,rfl⟩:=List.mem_iff_getElem.1 ho
    exact(hn j (by omega) hj).1
   have h3:(l.map cN.code).Nodup:=(sS l).2 fun j hj=>(hn j (by omega) hj).2
   simp only[cI,h2,h3,bG,Bool.and_true];rw[Bool.eq_iff_iff];simp;omega
  simp-implicitDefEqProofs (disch:=try exact dd) [cB,oU,e0,e5,e6,e7,efo,g1,b1,k6,hk1,hk2,h1]
theorem Am(l:List cN)(o:cN)(no g:Nat){fo:Nat}{gl:Nat→Nat}(hl:sized l)(ho:o.data.length≤100000)(hno:no<fo)(hg:0<g):
 de Tryz.prog fo gl 232 [.bsl no g l.length 2 true,.d o.d] [oU no g l] (.bsl no (pV l o.code g) (df l o).length 2 true) (fun _=>false) [oU no (pV l o.code g) (df l o)]:=by
 have hk1: ∀k,(no=fo+k)=False:=fun k=>by simp;omega
 have hk2: ∀k,(fo+k=no)=False:=fun k=>by simp;omega
 have q:=fun gl=>I3 l o.code no g (fo:=fo+1000) (gl:=gl) hl (by omega) hg
 have hr:=ln l o.code;have hs:=hl.1;obtain⟨c,d⟩:=o;dsimp only at q hr ho;by_cases h0:iy l c<0
 ·have hj:df l ⟨c,d⟩=l++ [⟨c,d⟩]:=by unfold df;rw[dif_neg (by dsimp only;omega)]
  rw[hj];have hg2:pV l c g=g+1:=by unfold pV;rw[if_pos h0]
  dsimp only;rw[hg2];refine de.bi Tryz.func232 [20003,40009,10021] (by simp[cH,cS,hg,oU,fE]) (by simp[cH,cS,hg,oU,fE]) (by simp[hg,oU,fE]) ?_
  simp-implicitDefEqProofs (disch:=try exact dd) [cB,oU,cN.d]
  refine dx (fo+1000) rfl rfl (q _) rfl (by simp-implicitDefEqProofs (disch:=try exact dd) [cB,oU,hk1,hk2,hg]) ?_
  simp-implicitDefEqProofs (disch:=try exact dd) [cB,oU,hk1,hk2,h0,Ck,iF,nr,dS,nO]
 ·obtain⟨i,hi⟩:=Int.eq_ofNat_of_zero_le (show 0≤iy l c by omega)
  have hil:i<l.length:=by omega
  have hj:df l ⟨c,d⟩=l.set i ⟨l[i].code,l[i].data++d⟩:=by
   unfold df;simp only[hi,Int.toNat_natCast];rw[dif_pos ⟨hil,by omega⟩]
  rw[hj];have hg2:pV l c g=g:=by unfold pV;rw[if_neg h0]
  dsimp only;rw[hg2];rw[hi]at q;have hat:=J1 hil;have hbl:i*2+1+1≤(fE l).length:=by rw[sR];omega
  have hset:=J2 hil (l[i].data++d);have hz:=lJ hl hil;have hae: ∀h,(fE l)[i*2+1]'h= .d (.slice (l[i].data.map cM)):=fun h=>by
   have:=List.getElem?_eq_getElem h;rw[hat]at this
   exact(au this).symm
  refine de.bi Tryz.func232 [20003,40009,10021] (by simp[cH,cS,hg,oU,fE]) (by simp[cH,cS,hg,oU,fE]) (by simp[hg,oU,fE]) ?_
  simp-implicitDefEqProofs (disch:=try exact dd) [cB,oU,cN.d]
  refine dx (fo+1000) rfl rfl (q _) rfl (by simp-implicitDefEqProofs (disch:=try exact dd) [cB,oU,hk1,hk2,hg]) ?_
  simp-implicitDefEqProofs (disch:=try exact dd) [cB,oU,hk1,hk2,hil,hat,hbl,hae]
  rw[←List.map_append];exact hset
theorem uk{l:List cN}{c:Int}{g:Nat}(h:0<g):0<pV l c g:=by unfold pV;split<;>omega
theorem jX{l:List cN}{o:cN}(h:iy l o.code<0):df l o=l++ [o]:=by unfold df;rw[dif_neg (by omega)]
theorem nD{l:List cN}{o:cN}{i:Nat}(hi:i<l.length)(h:iy l o.code=i):df l o=l.set i ⟨l[i].code,l[i].data++o.data⟩:=by
 unfold df;simp only[h,Int.toNat_natCast];rw[dif_pos ⟨hi,by omega⟩]
theorem uj(l:List cN)(o:cN):(df l o).length≤l.length+1:=by
 unfold df;split<;>simp
theorem rT{l:List cN}{o:cN}{m:Nat}(h: ∀x∈l,x.data.length≤m): ∀x∈df l o,x.data.length≤m+o.data.length:=by
 intro x hx;unfold df at hx
 split at hx
 ·rename_i hh;rcases bs hx with h1|h1
  ·have:=h x h1;omega
  ·subst h1;have:=h _ (List.getElem_mem hh.1);simp only[List.length_append];omega
 ·rcases List.mem_append.1 hx with h1|h1
  ·have:=h x h1;omega
  ·simp at h1;subst h1;omega
theorem fX{l:List cN}(h:cI l=true):l.length≤60∧ ∀x∈l,x.data.length≤600:=by
 simp only[cI,Bool.and_eq_true,decide_eq_true_eq,List.all_eq_true,vA]at h;exact⟨h.1.1,fun x hx=>(h.1.2 x hx).2⟩
def mu:Nat→List cN→List UInt8→Int×List cN
 |0,l,_=>(0,l)
 |_+1,l,[]=>(0,l)
 |n+1,l,c::r=>
  if c.toNat=255 then(0,l)else if c.toNat=0 then mu n l r else
  match r with
  | []=>(2,[])
  |k::r=>if r.length<k.toNat then(2,[])else if cI (df l ⟨c.toNat,r.take k.toNat⟩)=true then mu n (df l ⟨c.toNat,r.take k.toNat⟩) (r.drop k.toNat)else(3,[])
def sK(b:List UInt8):Int×List cN:=mu b.length [] b
def rdI(b:List UInt8)(q:Nat×List cN×List UInt8×Nat)(S:PS):Prop:=
 sK b=mu q.1 q.2.1 q.2.2.1∧q.2.2.1.length≤q.1∧q.1≤b.length∧cI q.2.1=true∧0<q.2.2.2∧S.t 0= .d (.slice (q.2.2.1.map cM))∧S.t 4= .bsl (FO+4) q.2.2.2 q.2.1.length 2 true∧S.fo=FO∧S.gen (FO+4)=q.2.2.2∧S.box (FO+4)=fE q.2.1
theorem FB(b:List UInt8)(hb:b.length≤100000):cD Tryz.prog 145 [.d (.slice (b.map cM))] (.tup [.d (.slice ((sK b).2.map cN.d)),.d (.int .i64 (sK b).1)]) (fun _=>false):=by
 refine cD.bi Tryz.func145 [2004005,40048,40053] ?_
 simp-implicitDefEqProofs (disch:=try exact dd) [cB, -List.map_take, -List.map_drop]
 refine lp (rdI b) (fun q=>q.2.2.1.length) (b.length,[],b,1) (by refine⟨rfl,Nat.le_refl _,Nat.le_refl _,by(show cI []=true);decide,by(show 0<1);decide,?_,?_,?_,?_,?_⟩<;>simp-implicitDefEqProofs (disch:=try exact dd) [cB, -List.map_take, -List.map_drop,nr]) ?_
 rintro⟨n,l,rest,g⟩ S ⟨hr,hn,hnb,hok,hg,e0,e4,efo,g4,b4⟩;dsimp only at hr hn hnb hok hg e0 e4 g4 b4;have hth:=zh (xs:=l) rfl;obtain⟨hl60,hl6⟩:=fX hok;have hz:sized l:=⟨by omega,fun o ho=>by have:=hl6 o ho;omega⟩
 have qR:=fun gl=>tP l (FO+4) g (fo:=FO+1000) (gl:=gl) hz (by omega) hg
 rw[hok]at qR;rw[hr]
 match n,rest,hn,e0 with
 |n,[],hn,e0=>
  have h1:mu n l []=(0,l):=by cases n<;>rfl
  simp-implicitDefEqProofs (disch:=try exact dd) [cB, -List.map_take, -List.map_drop,e0,e4,efo,g4,b4,h1,jN,hth]
 |0,c::r,hn,e0=>simp at hn
 |n+1,c::r,hn,e0=>
  simp only[List.length_cons]at hn;by_cases c255:c.toNat=255
  ·have h1:mu (n+1) l (c::r)=(0,l):=by simp only[mu,c255,if_true]
   simp-implicitDefEqProofs (disch:=try exact dd) [cB, -List.map_take, -List.map_drop,e0,e4,efo,g4,b4,h1,jN,hth,c255]
  have k255: ¬(c.toNat:Int)=255:=by omega
  by_cases c0:c.toNat=0
  ·have h1:mu (n+1) l (c::r)=mu n l r:=by simp only[mu,c255,c0,if_true,aL];rfl
   rw[h1]at hr⊢
   simp-implicitDefEqProofs (disch:=try exact dd) [cB, -List.map_take, -List.map_drop,e0,e4,efo,g4,b4,c0]
   refine dx (FO+1000) rfl rfl (qR _) rfl (by simp-implicitDefEqProofs (disch:=try exact dd) [cB, -List.map_take, -List.map_drop,oU,efo,g4,b4,hg]) ?_
   simp-implicitDefEqProofs (disch:=try exact dd) [cB, -List.map_take, -List.map_drop,oU,e0,e4,efo,g4,b4,c0]
   exact cE (n,l,r,g) (by refine⟨hr,by dsimp only;omega,by dsimp only at hnb⊢;omega,hok,hg,?_,?_,?_,?_,?_⟩<;>simp-implicitDefEqProofs (disch:=try exact dd) [cB, -List.map_take, -List.map_drop,e4,efo,g4,b4]) (by simp)
  have k0: ¬(c.toNat:Int)=0:=by omega
  match r,hn,e0 with
  | [],hn,e0=>
    have h1:mu (n+1) l [c]=(2,[]):=by simp only[mu,c255,c0,aL]
    simp-implicitDefEqProofs (disch:=try exact dd) [cB, -List.map_take, -List.map_drop,e0,e4,efo,g4,b4,k255,k0,h1,c255,c0]
  |k::r,hn,e0=>
   have hk2:=k.toNat_lt;simp only[List.length_cons]at hn;have k3: ¬(r.length:Int)+1+1<2:=by omega
   by_cases hk:r.length<k.toNat
   ·have h1:mu (n+1) l (c::k::r)=(2,[]):=by simp only[mu,c255,c0,aL,hk,if_true]
    have k2:(r.length:Int)+1+1<2+k.toNat:=by omega
    simp-implicitDefEqProofs (disch:=try exact dd) [cB, -List.map_take, -List.map_drop,e0,e4,efo,g4,b4,k255,k0,h1,c255,c0,k2,k3]
   ·have k2: ¬(r.length:Int)+1+1<2+k.toNat:=by omega
    have ht:((2:Int)+k.toNat).toNat=k.toNat+1+1:=by omega
    have hdl2:(r.take k.toNat).length≤255:=by simp only[List.length_take];omega
    have hdl:(r.take k.toNat).length≤100000:=by omega
    have q:=fun gl=>Am l ⟨c.toNat,r.take k.toNat⟩ (FO+4) g (fo:=FO+1000) (gl:=gl) hz hdl (by omega) hg
    have hd2:=rT (o:=⟨c.toNat,r.take k.toNat⟩) hl6;have hl2:=uj l ⟨c.toNat,r.take k.toNat⟩;have hg2:=uk (l:=l) (c:=c.toNat) hg;have h1:mu (n+1) l (c::k::r)=if cI (df l ⟨c.toNat,r.take k.toNat⟩)=true then mu n (df l ⟨c.toNat,r.take k.toNat⟩) (r.drop k.toNat)else(3,[]):=by simp only[mu,c255,c0,aL,hk]
    have hd:cN.d ⟨c.toNat,r.take k.toNat⟩= .agg [.int .i64 c.toNat,.slice ((r.take k.toNat).map cM)]:=rfl;dsimp only at q;generalize pV l (c.toNat:Int) g=g2 at*
    rw[h1]at hr⊢;clear h1;rw[hd]at q;generalize df l ⟨c.toNat,r.take k.toNat⟩=l2 at*
    have hz2:sized l2:=⟨by omega,fun o ho=>by have:=hd2 o ho;dsimp only at this;omega⟩
    have qR:=fun gl=>tP l2 (FO+4) g2 (fo:=FO+2000) (gl:=gl) hz2 (by omega) hg2
    simp-implicitDefEqProofs (disch:=try exact dd) [cB, -List.map_take, -List.map_drop,e0,e4,efo,g4,b4,k255,k0,c255,c0,k2,k3,ht]
    refine dx (FO+1000) rfl rfl (q _) rfl (by simp-implicitDefEqProofs (disch:=try exact dd) [cB, -List.map_take, -List.map_drop,oU,efo,g4,b4,hg]) ?_
    cases hr2:cI l2 with
    |true=>
     rw[hr2]at qR;rw[hr2,if_pos rfl]at hr;rw[if_pos rfl]
     simp-implicitDefEqProofs (disch:=try exact dd) [cB, -List.map_take, -List.map_drop,oU,e0,e4,efo,g4,b4,k255,k0,c255,c0,k2,k3,ht]
     refine dx (FO+2000) rfl rfl (qR _) rfl (by simp-implicitDefEqProofs (disch:=try exact dd) [cB, -List.map_take, -List.map_drop,oU,efo,g4,b4,hg2]) ?_
     simp-implicitDefEqProofs (disch:=try exact dd) [cB, -List.map_take, -List.map_drop,oU,e0,e4,efo,g4,b4]
     exact cE (n,l2,r.drop k.toNat,g2) (by refine⟨hr,by simp only[List.length_drop];omega,by dsimp only at hnb⊢;omega,hr2,hg2,?_,?_,?_,?_,?_⟩<;>simp-implicitDefEqProofs (disch:=try exact dd) [cB, -List.map_take, -List.map_drop,efo]) (by simp;omega)
    |false=>
     rw[hr2]at qR;rw[if_neg (by decide)]
     simp-implicitDefEqProofs (disch:=try exact dd) [cB, -List.map_take, -List.map_drop,oU,e0,e4,efo,g4,b4,k255,k0,c255,c0,k2,k3,ht]
     refine dx (FO+2000) rfl rfl (qR _) rfl (by simp-implicitDefEqProofs (disch:=try exact dd) [cB, -List.map_take, -List.map_drop,oU,efo,g4,b4,hg2]) ?_
     simp-implicitDefEqProofs (disch:=try exact dd) [cB, -List.map_take, -List.map_drop,oU,e0,e4,efo,g4,b4]
end Go.Proofs.YtoilfihojgeonaaGreatDoor
