/- Disks: what the program's disk answers, sixth part: what is done to its files. -/
import Derived.Test.YtoilfihojgeonaaGreatDoorS15
import Derived.Test.YtoilfihojgeonaaGreatDoorS13
namespace Go.Proofs.YtoilfihojgeonaaGreatDoor
open BoEng Go
set_option maxRecDepth 100000
set_option linter.unusedSimpArgs false
set_option linter.unusedVariables false
theorem xO{fs:List cK}{n:Nat}(h:n<fs.length)(f:cK):dK (fs.set n f)=(dK fs).take (n*2)++ .d (.slice (f.data.map cM)):: .d (.int .i64 f.safe)::(dK fs).drop (n*2+2):=by
 have e:fs=fs.take n++fs[n]::fs.drop (n+1):=by
  rw[←ai h,ay]
 have hl:(dK (fs.take n)).length=n*2:=by
  rw[gA,List.length_take];omega
 have h1:dK fs=dK (fs.take n)++ .d (.slice (fs[n].data.map cM)):: .d (.int .i64 fs[n].safe)::dK (fs.drop (n+1)):=by
  conv=>lhs;rw[e]
  rw[tq,lE]
 rw[aT,if_pos h,tq,lE,h1,List.take_left' hl]
 congr 3
 rw[show n*2+2=(dK (fs.take n)).length+2 by omega,List.drop_append]
 simp
theorem qX{fs:List cK}{n:Nat}(h:n<fs.length):(dK fs)[n*2]? =some (.d (.slice (fs[n].data.map cM)))∧(dK fs)[n*2+1]? =some (.d (.int .i64 fs[n].safe)):=by
 have h1:=xO h fs[n];rw[List.set_getElem_self]at h1;have hl:((dK fs).take (n*2)).length=n*2:=by
  have:=gA fs;rw[List.length_take];omega
 rw[h1];constructor
 ·rw[List.getElem?_append_right (by omega),hl]
  simp
 ·rw[List.getElem?_append_right (by omega),hl]
  simp
theorem zR{fs:List cK}{n:Nat}(h:n<fs.length)(v:Int):(dK fs).take (n*2+1)++ .d (.int .i64 v)::(dK fs).drop (n*2+1+1)=dK (fs.set n ⟨fs[n].data,v⟩):=by
 obtain⟨hq,hb1⟩:=List.getElem?_eq_some_iff.1 (qX h).1;rw[xO h,List.take_succ_eq_append_getElem hq,hb1,List.append_assoc];rfl
theorem uA{fs:List cK}{n:Nat}(h:n<fs.length)(b:List UInt8):(dK fs).take (n*2)++ .d (.slice (b.map cM))::(dK fs).drop (n*2+1)=dK (fs.set n ⟨b,fs[n].safe⟩):=by
 obtain⟨hq,hb2⟩:=List.getElem?_eq_some_iff.1 (qX h).2;rw[xO h,ai hq,hb2]
theorem qa(fs:List cK)(n:Nat)(f:cK):(dK (fs.set n f)).length=fs.length*2:=by rw[gA,List.length_set];omega
theorem Gz{fs:List cK}{n:Nat}(h:fs.length=n): ∃X,pc ((dK fs).take (n*2))=some X∧chunk 2 true n X=fs.map cK.d:=⟨_,fj h,eM h⟩
theorem tv(k:Dk)(hk:m5 k)(name:List UInt8):cD Tryz.prog 153 [.d k.d,.d (.str name)] (.tup [.d (eU k name).1.d,.d (.int .i64 (eU k name).2)]) (fun _=>false):=by
 refine cD.bi Tryz.func153 [40008,40010] ?_;obtain⟨hk1,hk2⟩:=hk;have q:=fun gl=>tw (fo:=FO+1000) (gl:=gl) k hk1 (by omega)
 have hrg:=dw k;have hok:=mw ⟨hk1,hk2⟩;unfold eU;generalize cP k=d at*
 have hll:=gL hrg;have hfb:(dK d.files).length=d.files.length*2:=by rw[gA];omega
 simp-implicitDefEqProofs (disch:=try exact dd) [cB,Dk.d]
 refine F' (FO+1000) rfl rfl (q _) rfl (by simp-implicitDefEqProofs (disch:=try exact dd) [cB]) ?_
 rintro⟨nf,gf⟩ ⟨h1,h2,h3⟩;simp only at h1 h2 h3;have hk1: ∀k,k<1000→(nf=FO+k)=False:=fun k hk=>by simp;omega
 have hk2: ∀k,k<1000→(FO+k=nf)=False:=fun k hk=>by simp;omega
 have q2:=fun g hg gl=>uD (fo:=FO+5000) (gl:=gl) (FO+2) g nf gf (by omega) (by omega) (by omega) hg h3 d hok.1 hrg name
 cases hx:cQ d.now name with
 |none=>
  rw[hx]at q2
  simp-implicitDefEqProofs (disch:=try exact dd) [cB,hY,fU,hk1,hk2,h3]
  refine dx (FO+5000) rfl rfl (q2 1 (by omega) _) rfl (by simp-implicitDefEqProofs (disch:=try exact dd) [cB,hY,fU,hk1,hk2,h3]) ?_
  simp-implicitDefEqProofs (disch:=try exact dd) [cB,hY,fU,fj,eM,hfb,hk1,hk2]
 |some x=>
  rw[hx]at q2;have hrx:=nQ hrg hx;obtain⟨n,rfl⟩:=Int.eq_ofNat_of_zero_le hrx.1;have hnl:n<d.files.length:=by omega
  have hfa:fileAt d.files (n:Int)=d.files[n]:=by simp[fileAt,List.getD_eq_getElem?_getD,hnl]
  have hdl:=hok.1.1.2 _ (List.getElem_mem hnl);obtain⟨ha1,ha2⟩:=qX hnl;obtain⟨_,hb1⟩:=List.getElem?_eq_some_iff.1 ha1;obtain⟨_,hb2⟩:=List.getElem?_eq_some_iff.1 ha2;simp only[hfa,Int.toNat_natCast]at q2⊢
  simp-implicitDefEqProofs (disch:=try exact dd) [cB,hY,fU,hk1,hk2,h3]
  refine dx (FO+5000) rfl rfl (q2 1 (by omega) _) rfl (by simp-implicitDefEqProofs (disch:=try exact dd) [cB,hY,fU,hk1,hk2,h3]) ?_
  have hlf:(d.files.set n ⟨d.files[n].data,(d.files[n].data.length:Int)⟩).length=d.files.length:=by simp
  simp-implicitDefEqProofs (disch:=try exact dd) [cB,hY,fU,hfb,hk1,hk2,hb1,hb2,zR hnl,qa,fj hlf,eS,Dk.d]
  rw[←cy,eM hlf]
theorem xP{fs:List cK}{n:Nat}(h:n<fs.length)(f:cK)(v:Int):(dK (fs.set n f)).take (n*2+1)++ .d (.int .i64 v)::(dK (fs.set n f)).drop (n*2+1+1)=dK (fs.set n ⟨f.data,v⟩):=by
 have:=zR (fs:=fs.set n f) (n:=n) (by simpa using h) v
 rw[this,List.set_set];simp
theorem Nc(k:Dk)(hk:m5 k)(name:List UInt8)(m:Int):cD Tryz.prog 152 [.d k.d,.d (.str name),.d (.int .i64 m)] (.tup [.d (xY k name m).1.d,.d (.int .i64 (xY k name m).2)]) (fun _=>false):=by
 refine cD.bi Tryz.func152 [40010,40012] ?_;obtain⟨hk1,hk2⟩:=hk;have q:=fun gl=>tw (fo:=FO+1000) (gl:=gl) k hk1 (by omega)
 have hrg:=dw k;have hok:=mw ⟨hk1,hk2⟩;unfold xY;generalize cP k=d at*
 have hll:=gL hrg;have hfb:(dK d.files).length=d.files.length*2:=by rw[gA];omega
 simp-implicitDefEqProofs (disch:=try exact dd) [cB, -List.map_take, -List.map_drop,Dk.d]
 refine F' (FO+1000) rfl rfl (q _) rfl (by simp-implicitDefEqProofs (disch:=try exact dd) [cB, -List.map_take, -List.map_drop]) ?_
 rintro⟨nf,gf⟩ ⟨h1,h2,h3⟩;simp only at h1 h2 h3;have hk1: ∀k,k<1000→(nf=FO+k)=False:=fun k hk=>by simp;omega
 have hk2: ∀k,k<1000→(FO+k=nf)=False:=fun k hk=>by simp;omega
 have q2:=fun g hg gl=>uD (fo:=FO+5000) (gl:=gl) (FO+3) g nf gf (by omega) (by omega) (by omega) hg h3 d hok.1 hrg name
 cases hx:cQ d.now name with
 |none=>
  rw[hx]at q2
  simp-implicitDefEqProofs (disch:=try exact dd) [cB, -List.map_take, -List.map_drop,hY,fU,hk1,hk2,h3]
  refine dx (FO+5000) rfl rfl (q2 1 (by omega) _) rfl (by simp-implicitDefEqProofs (disch:=try exact dd) [cB, -List.map_take, -List.map_drop,hY,fU,hk1,hk2,h3]) ?_
  simp-implicitDefEqProofs (disch:=try exact dd) [cB, -List.map_take, -List.map_drop,hY,fU,fj,eM,hfb,hk1,hk2]
 |some x=>
  rw[hx]at q2;have hrx:=nQ hrg hx;obtain⟨n,rfl⟩:=Int.eq_ofNat_of_zero_le hrx.1;have hnl:n<d.files.length:=by omega
  have hfa:fileAt d.files (n:Int)=d.files[n]:=by simp[fileAt,List.getD_eq_getElem?_getD,hnl]
  have hdl:=hok.1.1.2 _ (List.getElem_mem hnl);obtain⟨ha1,ha2⟩:=qX hnl;obtain⟨_,hb1⟩:=List.getElem?_eq_some_iff.1 ha1;obtain⟨_,hb2⟩:=List.getElem?_eq_some_iff.1 ha2;simp only[hfa,Int.toNat_natCast]at q2⊢;by_cases hm:m<0
  ·simp-implicitDefEqProofs (disch:=try exact dd) [cB, -List.map_take, -List.map_drop,hY,fU,hk1,hk2,h3,hm]
   refine dx (FO+5000) rfl rfl (q2 1 (by omega) _) rfl (by simp-implicitDefEqProofs (disch:=try exact dd) [cB, -List.map_take, -List.map_drop,hY,fU,hk1,hk2,h3]) ?_
   simp-implicitDefEqProofs (disch:=try exact dd) [cB, -List.map_take, -List.map_drop,hY,fU,fj,eM,hfb,hk1,hk2,hm]
  ·by_cases hm2:(d.files[n].data.length:Int)<m
   ·simp-implicitDefEqProofs (disch:=try exact dd) [cB, -List.map_take, -List.map_drop,hY,fU,hk1,hk2,h3,hm,hm2]
    refine dx (FO+5000) rfl rfl (q2 1 (by omega) _) rfl (by simp-implicitDefEqProofs (disch:=try exact dd) [cB, -List.map_take, -List.map_drop,hY,fU,hk1,hk2,h3]) ?_
    simp-implicitDefEqProofs (disch:=try exact dd) [cB, -List.map_take, -List.map_drop,hY,fU,fj,eM,hfb,hk1,hk2,hm,hm2,hb1]
   ·obtain⟨j,rfl⟩:=Int.eq_ofNat_of_zero_le (show 0≤m by omega)
    have hlf:(d.files.set n ⟨d.files[n].data.take j,(j:Int)⟩).length=d.files.length:=by simp
    simp-implicitDefEqProofs (disch:=try exact dd) [cB, -List.map_take, -List.map_drop,hY,fU,hk1,hk2,h3,hm,hm2]
    refine dx (FO+5000) rfl rfl (q2 1 (by omega) _) rfl (by simp-implicitDefEqProofs (disch:=try exact dd) [cB, -List.map_take, -List.map_drop,hY,fU,hk1,hk2,h3]) ?_
    simp-implicitDefEqProofs (disch:=try exact dd) [cB, -List.map_take, -List.map_drop,hY,fU,hfb,hk1,hk2,hm,hm2,hb1,hb2,uA hnl,xP hnl,qa,fj hlf,eS,Dk.d]
    rw[←cy,eM hlf]
theorem Ig(fs:List cK)(f:cK):dK fs++ [.d (.slice (f.data.map cM)),.d (.int .i64 f.safe)]=dK (fs++ [f]):=by rw[tq,lE,iv]
theorem EV(k:Dk)(hk:m5 k)(name b:List UInt8)(hn:name.length≤9223372036854775807)(hb:b.length≤1000000):cD Tryz.prog 338 [.d k.d,.d (.str name),.d (.slice (b.map cM))] (.tup [.d (c7 k name b).1.d,.d (.int .i64 (c7 k name b).2)]) (fun _=>false):=by
 refine cD.bi Tryz.func338 [40010,40012,20054,10043,71] ?_;obtain⟨hk1,hk2⟩:=hk;have q:=fun gl=>tw (fo:=FO+1000) (gl:=gl) k hk1 (by omega)
 have hrg:=dw k;have hok:=mw ⟨hk1,hk2⟩;unfold c7;generalize cP k=d at*
 have hll:=gL hrg;have hfb:(dK d.files).length=d.files.length*2:=by rw[gA];omega
 have qf:=xV name hn
 simp-implicitDefEqProofs (disch:=try exact dd) [cB,Dk.d]
 refine F' (FO+1000) rfl rfl (q _) rfl (by simp-implicitDefEqProofs (disch:=try exact dd) [cB]) ?_
 rintro⟨nf,gf⟩ ⟨h1,h2,h3⟩;simp only at h1 h2 h3;have hk1: ∀k,k<1000→(nf=FO+k)=False:=fun k hk=>by simp;omega
 have hk2: ∀k,k<1000→(FO+k=nf)=False:=fun k hk=>by simp;omega
 have q2:=fun g hg gl=>uD (fo:=FO+5000) (gl:=gl) (FO+3) g nf gf (by omega) (by omega) (by omega) hg h3 d hok.1 hrg name
 cases hf:hF name with
 |false=>
  rw[hf]at qf
  simp-implicitDefEqProofs (disch:=try exact dd) [cB,hY,fU,hk1,hk2,h3]
  refine dx (FO+5000) rfl rfl (q2 1 (by omega) _) rfl (by simp-implicitDefEqProofs (disch:=try exact dd) [cB,hY,fU,hk1,hk2,h3]) ?_
  simp-implicitDefEqProofs (disch:=try exact dd) [cB]
  refine oc qf ?_
  simp-implicitDefEqProofs (disch:=try exact dd) [cB,hY,fU,fj,eM,hfb,hk1,hk2]
 |true=>
 rw[hf]at qf
 cases hx:cQ d.now name with
 |none=>
  rw[hx]at q2;by_cases h20:(d.files.length:Int)=20
  ·have hc:d.files.length≥20∨b.length>20000:=by omega
   simp-implicitDefEqProofs (disch:=try exact dd) [cB,hY,fU,hk1,hk2,h3]
   refine dx (FO+5000) rfl rfl (q2 1 (by omega) _) rfl (by simp-implicitDefEqProofs (disch:=try exact dd) [cB,hY,fU,hk1,hk2,h3]) ?_
   simp-implicitDefEqProofs (disch:=try exact dd) [cB]
   refine oc qf ?_
   simp-implicitDefEqProofs (disch:=try exact dd) [cB,hY,fU,fj,eM,hfb,hk1,hk2,h20,hc]
  ·by_cases hbl:(20000:Int)<b.length
   ·have hc:d.files.length≥20∨b.length>20000:=by omega
    simp-implicitDefEqProofs (disch:=try exact dd) [cB,hY,fU,hk1,hk2,h3]
    refine dx (FO+5000) rfl rfl (q2 1 (by omega) _) rfl (by simp-implicitDefEqProofs (disch:=try exact dd) [cB,hY,fU,hk1,hk2,h3]) ?_
    simp-implicitDefEqProofs (disch:=try exact dd) [cB]
    refine oc qf ?_
    simp-implicitDefEqProofs (disch:=try exact dd) [cB,hY,fU,fj,eM,hfb,hk1,hk2,h20,hbl,hc]
   ·have hc: ¬(d.files.length≥20∨b.length>20000):=by omega
    have qp:=GC d.now name d.files.length (by omega)
    have hin:=lM hrg;have hpl:=AL d.now name d.files.length;have qo:=js ⟨d.files++ [⟨b,0⟩],km d.now name d.files.length,d.kept⟩ ⟨⟨by simp;omega,fun f hf=>by
     rcases List.mem_append.1 hf with h|h
     ·exact hok.1.1.2 f h
     ·simp at h;subst h;simp;omega⟩,yY hok.1.2.1 hn _ (by omega),hok.1.2.2⟩
     ⟨Bb (fun e he=>by have:=hin.1 e he;simp;omega) (by omega) (by simp;omega),fun e he=>by have:=hin.2 e he;simp;omega⟩ (by simp;omega)
    simp-implicitDefEqProofs (disch:=try exact dd) [cB,hY,fU,hk1,hk2,h3]
    refine dx (FO+5000) rfl rfl (q2 1 (by omega) _) rfl (by simp-implicitDefEqProofs (disch:=try exact dd) [cB,hY,fU,hk1,hk2,h3]) ?_
    simp-implicitDefEqProofs (disch:=try exact dd) [cB]
    refine oc qf ?_
    simp-implicitDefEqProofs (disch:=try exact dd) [cB,hY,fU,hfb,hk1,hk2,h20,hbl,hc]
    refine oc qp ?_;have hsn:=Ig d.files (⟨b,0⟩:cK);have hlf:(d.files++ [(⟨b,0⟩:cK)]).length=d.files.length+1:=by simp
    have hfl2:flat [DV.agg [DV.slice (b.map cM),DV.int .i64 0]]= [DV.slice (b.map cM),DV.int .i64 0]:=rfl;have hfl3:(dK (d.files++ [(⟨b,0⟩:cK)])).length=(d.files.length+1)*2:=by rw[gA,hlf];omega
    obtain⟨X,hX1,hX2⟩:=Gz hlf
    simp-implicitDefEqProofs (disch:=try exact dd) [cB,hY,fU,hfb,hk1,hk2,h20,hbl,hc,hfl2,hsn,hfl3,hX1,hX2]
    have hqa:(⟨d.files++ [⟨b,0⟩],km d.now name d.files.length,d.kept⟩:Dk).d= .agg [.slice (d.files.map cK.d++ [cK.d ⟨b,0⟩]),.slice ((km d.now name d.files.length).map cZ.d),.slice (d.kept.map cZ.d)]:=by simp[Dk.d]
    rw[hqa]at qo;refine oc qo ?_
    simp-implicitDefEqProofs (disch:=try exact dd) [cB,Dk.d]
 |some x=>
  rw[hx]at q2;have hrx:=nQ hrg hx;obtain⟨n,rfl⟩:=Int.eq_ofNat_of_zero_le hrx.1;have hnl:n<d.files.length:=by omega
  have hfa:fileAt d.files (n:Int)=d.files[n]:=by simp[fileAt,List.getD_eq_getElem?_getD,hnl]
  have hdl:=hok.1.1.2 _ (List.getElem_mem hnl);obtain⟨ha1,ha2⟩:=qX hnl;obtain⟨_,hb1⟩:=List.getElem?_eq_some_iff.1 ha1;obtain⟨_,hb2⟩:=List.getElem?_eq_some_iff.1 ha2;simp only[hfa,Int.toNat_natCast]at q2⊢
  simp-implicitDefEqProofs (disch:=try exact dd) [cB,hY,fU,hk1,hk2,h3]
  refine dx (FO+5000) rfl rfl (q2 1 (by omega) _) rfl (by simp-implicitDefEqProofs (disch:=try exact dd) [cB,hY,fU,hk1,hk2,h3]) ?_
  simp-implicitDefEqProofs (disch:=try exact dd) [cB]
  refine oc qf ?_;by_cases hbl:(20000:Int)<b.length
  ·have hc:d.files[n].data.length+b.length>20000:=by omega
   simp-implicitDefEqProofs (disch:=try exact dd) [cB,hY,fU,fj,eM,hfb,hk1,hk2,hbl,hc]
  ·by_cases hc2:(20000:Int)<d.files[n].data.length+b.length
   ·have hc:d.files[n].data.length+b.length>20000:=by omega
    simp-implicitDefEqProofs (disch:=try exact dd) [cB,hY,fU,fj,eM,hfb,hk1,hk2,hbl,hc,hb1,hc2]
   ·have hc: ¬d.files[n].data.length+b.length>20000:=by omega
    have hab:d.files[n].data.map cM++b.map cM=(d.files[n].data++b).map cM:=List.map_append.symm;have hlf:(d.files.set n ⟨d.files[n].data++b,d.files[n].safe⟩).length=d.files.length:=by simp
    simp-implicitDefEqProofs (disch:=try exact dd) [cB, -List.map_append,hab,hY,fU,hfb,hk1,hk2,hbl,hc,hb1,hc2,uA hnl,qa,fj hlf,eS,Dk.d]
    rw[←cy,eM hlf]
def uG(fs:List cK)(l:List cZ)(keep:List Int):Nat→List cK
 |0=>fs
 |i+1=>(uG fs l keep i).set (l.getD i default).file.toNat (sg (fileAt fs (l.getD i default).file) (mD (fileAt fs (l.getD i default).file) keep[i]?))
theorem vZ(fs:List cK)(l:List cZ)(keep:List Int): ∀i,(uG fs l keep i).length=fs.length
 |0=>rfl
 |i+1=>by simp only[uG,List.length_set,vZ fs l keep i]
theorem zQ{fs:List cK}{B:Nat}(h: ∀f∈fs,f.data.length≤B)(x:Int):(fileAt fs x).data.length≤B:=by
 unfold fileAt;rw[List.getD_eq_getElem?_getD]
 cases hx:fs[x.toNat]? with
 |none=>exact bt _
 |some f=>exact h f (List.mem_of_getElem? hx)
theorem Lj{fs:List cK}{l:List cZ}{keep:List Int}{B:Nat}(h: ∀f∈fs,f.data.length≤B): ∀i,∀f∈uG fs l keep i,f.data.length≤B
 |0=>h
 |i+1=>by
  intro f hf;rcases bs hf with h1|rfl
  ·exact Lj h i f h1
  ·have:=zQ h (l.getD i default).file;simp only[sg,List.length_take];omega
theorem tt{l:List cZ}(hd:(l.map cZ.file).Nodup){i j:Nat}(hi:i<l.length)(hj:j<l.length)(h:l[i].file=l[j].file):i=j:=by
 unfold List.Nodup at hd;rw[List.pairwise_iff_getElem]at hd;rcases Nat.lt_trichotomy i j with h2|h2|h2
 ·exact absurd (by rw[List.getElem_map,List.getElem_map];exact h) (hd i j (by simpa using hi) (by simpa using hj) h2)
 ·exact h2
 ·exact absurd (by rw[List.getElem_map,List.getElem_map];exact h.symm) (hd j i (by simpa using hj) (by simpa using hi) h2)
theorem GF{fs:List cK}{l:List cZ}{keep:List Int}(hd:(l.map cZ.file).Nodup)(hin:yq l fs.length): ∀(i j:Nat) (hj:j<l.length),i≤j→fileAt (uG fs l keep i) l[j].file=fileAt fs l[j].file
 |0,j,hj,_=>rfl
 |i+1,j,hj,hij=>by
  have ih:=GF (keep:=keep) hd hin i j hj (by omega)
  have hi:i<l.length:=by omega
  rw[←ih];have h1:=hin _ (List.getElem_mem hi);have h2:=hin _ (List.getElem_mem hj);have hne:l[i].file≠l[j].file:=fun e=>by have:=tt hd hi hj e;omega
  simp only[uG,fileAt,List.getD_eq_getElem?_getD,List.getElem?_eq_getElem hi,Option.getD_some];rw[ca (by omega)]
theorem GG{fs:List cK}{l:List cZ}{keep:List Int}(hd:(l.map cZ.file).Nodup)(hin:yq l fs.length): ∀(i j:Nat) (hj:j<l.length),j<i→i≤l.length→fileAt (uG fs l keep i) l[j].file=sg (fileAt fs l[j].file) (mD (fileAt fs l[j].file) keep[j]?)
 |i+1,j,hj,hij,hil=>by
  have hi:i<l.length:=by omega
  have h1:=hin _ (List.getElem_mem hi);have h2:=hin _ (List.getElem_mem hj);have hlen:=vZ fs l keep i;by_cases e:j=i
  ·subst e;have e1:(uG fs l keep (j+1))=(uG fs l keep j).set l[j].file.toNat (sg (fileAt fs l[j].file) (mD (fileAt fs l[j].file) keep[j]?)):=by
    simp only[uG,List.getD_eq_getElem?_getD,List.getElem?_eq_getElem hj,Option.getD_some]
   rw[e1];unfold fileAt;rw[List.getD_eq_getElem?_getD,List.getElem?_set_self (by omega)]
   rfl
  ·have ih:=GG (keep:=keep) hd hin i j hj (by omega) (by omega)
   rw[←ih];have hne:l[i].file≠l[j].file:=fun e2=>by have:=tt hd hi hj e2;omega
   have e1:(uG fs l keep (i+1))=(uG fs l keep i).set l[i].file.toNat (sg (fileAt fs l[i].file) (mD (fileAt fs l[i].file) keep[i]?)):=by
    simp only[uG,List.getD_eq_getElem?_getD,List.getElem?_eq_getElem hi,Option.getD_some]
   rw[e1];simp only[fileAt,List.getD_eq_getElem?_getD];rw[ca (by omega)]
theorem Ab{l:List cZ}(hd:(l.map cZ.file).Nodup):dj l=l.map cZ.file:=by
 induction l using iW with
 |h0=>rfl
 |hs l e ih=>
  rw[List.map_append,List.nodup_append]at hd;rw[ix,ih hd.1,List.map_append];unfold mg;rw[if_neg]
  ·rfl
  ·intro h;have h:e.file∈l.map cZ.file:=by simpa using h
   exact hd.2.2 _ h e.file (by simp) rfl
theorem yd(l:List cZ):dj (l++l)=dj l:=by
 have: ∀k:List cZ,(∀e∈k,e∈l)→dj (l++k)=dj l:=by
  intro k
  induction k using iW with
  |h0=>simp
  |hs k e ih=>
   intro h;rw[←List.append_assoc,ix,ih (fun x hx=>h x (by simp[hx]))]
   unfold mg;rw[if_pos];have:e.file∈dj l:=iX.2 ⟨e,h e (by simp),rfl⟩
   simpa using this
 exact this l fun e h=>h
theorem JE{l:List cZ}(hd:(l.map cZ.file).Nodup){i:Nat}(hi:i<l.length):jf (l.map cZ.file) l[i].file=i:=by
 refine wL (by simpa using hi) (fun j hj hji e=>?_) (by simp)
 simp only[List.getElem_map]at e;have:=tt hd (by simpa using hj) hi e
 omega
theorem yF{k:Dk}{keep:List Int}{dir:Bool}:dz ⟨uG (cP k).files (dJ k dir) keep (dJ k dir).length,dJ k dir,dJ k dir⟩=ep k keep dir:=by
 have hr:=dw k;have hm:fF (dJ k dir) (cP k).files.length=true:=by
  obtain⟨h1,h2,h3,h4,h5⟩:=dP.1 hr;unfold dJ
  cases dir<;>simp[h2,h3]
 have hd:=mC hm;have hin:=gR hm;unfold dz ep;simp only[yd,Ab hd];generalize dJ k dir=l at*
 generalize(cP k).files=fs at*
 have hnm:l.map (gZ (l.map cZ.file))=(List.range l.length).map fun i=>(⟨(l.getD i default).name,(i:Int)⟩:cZ):=by
  apply List.ext_getElem (by simp)
  intro i h1 h2;simp only[List.length_map]at h1;simp only[List.getElem_map,List.getElem_range,gZ,JE hd h1,List.getD_eq_getElem?_getD,List.getElem?_eq_getElem h1,Option.getD_some]
 rw[hnm]
 congr 1
 apply List.ext_getElem (by simp)
 intro i h1 h2;simp only[List.length_map]at h1;simp only[List.getElem_map,List.getElem_range,List.getD_eq_getElem?_getD,List.getElem?_eq_getElem h1,Option.getD_some];exact GG hd hin _ _ h1 h1 (Nat.le_refl _)
def dcI(fs:List cK)(d:Dk)(l:List cZ)(keep:List Int)(nf gf:Nat)(i:Nat)(S:PS):Prop:=
 i≤l.length∧S.t 1= .d (.slice (keep.map gM))∧S.t 3= .ptr (FO+3) 1 0∧S.t 6= .ptr (FO+6) 1 0∧S.t 7= .d (.slice (l.map cZ.d))∧S.t 19= .d (.slice (l.map cZ.d))∧S.t 20= .d (.int .i64 l.length)∧S.t 21= .d (.int .i64 i)∧
  S.fo=FO∧S.gen (FO+3)=1∧S.box (FO+3)=hY nf gf d∧S.gen (FO+6)=1∧S.box (FO+6)= [.d (.slice []),.d (.slice []),.d (.slice [])]∧S.gen nf=gf∧S.box nf=dK (uG fs l keep i)
theorem Ip(k:Dk)(hk:m5 k)(keep:List Int)(hkp:keep.length≤1000000)(dir:Bool):cD Tryz.prog 72 [.d k.d,.d (.slice (keep.map gM)),.d (.bool dir)] (.d (ep k keep dir).d) (fun _=>false):=by
 refine cD.bi Tryz.func72 [40013,20076] ?_;obtain⟨hk1,hk2⟩:=hk;have q:=fun gl=>tw (fo:=FO+1000) (gl:=gl) k hk1 (by omega)
 have hrg:=dw k;have hok:=mw ⟨hk1,hk2⟩;rw[←yF];unfold dJ;generalize cP k=d at*
 have hll:=gL hrg
 simp-implicitDefEqProofs (disch:=try exact dd) [cB, -List.map_take, -List.map_drop,Dk.d]
 refine F' (FO+1000) rfl rfl (q _) rfl (by simp-implicitDefEqProofs (disch:=try exact dd) [cB, -List.map_take, -List.map_drop]) ?_
 rintro⟨nf,gf⟩ ⟨h1,h2,h3⟩;simp only at h1 h2 h3;have hk1: ∀k,k<1000→(nf=FO+k)=False:=fun k hk=>by simp;omega
 have hk2: ∀k,k<1000→(FO+k=nf)=False:=fun k hk=>by simp;omega
 have hm:fF (if dir=true then d.now else d.kept) d.files.length=true:=by
  obtain⟨g1,g2,g3,g4,g5⟩:=dP.1 hrg
  cases dir<;>simp[g2,g3]
 have hle:(if dir=true then d.now else d.kept).length≤20:=by cases dir<;>simp<;>omega
 have hsz:lK (if dir=true then d.now else d.kept):=by cases dir<;>simp[hok.1.2.1,hok.1.2.2]
 obtain⟨l,hl⟩: ∃l,l=if dir=true then d.now else d.kept:=⟨_,rfl⟩
 rw[←hl]at hm hle hsz⊢;have hdd:=mC hm;have hin:=gR hm;have hfo:=(dP.1 hrg).2.2.2.1;have hfok: ∀x:Int,0≤x→x<d.files.length→fv (fileAt d.files x)=true:=by
  intro x g1 g2;refine List.all_eq_true.1 hfo _ ?_;obtain⟨n,rfl⟩:=Int.eq_ofNat_of_zero_le g1;have:n<d.files.length:=by omega
  simp[fileAt,List.getD_eq_getElem?_getD,this]
 simp-implicitDefEqProofs (disch:=try exact dd) [cB, -List.map_take, -List.map_drop,hY,fU,hk1,hk2,h3]
 refine qh (fun S=>S.t 1= .d (.slice (keep.map gM))∧S.t 3= .ptr (FO+3) 1 0∧S.t 6= .ptr (FO+6) 1 0∧S.t 7= .d (.slice (l.map cZ.d))∧S.fo=FO∧S.gen (FO+3)=1∧S.box (FO+3)=hY nf gf d∧S.gen (FO+6)=1∧S.box (FO+6)= [.d (.slice []),.d (.slice []),.d (.slice [])]∧S.gen nf=gf∧S.box nf=dK d.files) ?_ ?_ ?_
 ·intro hdir;rw[if_pos hdir]at hl
  simp-implicitDefEqProofs (disch:=try exact dd) [cB, -List.map_take, -List.map_drop,hY,hk1,hk2,hl]
 ·intro hdir;rw[if_neg (by simp[hdir])]at hl
  simp-implicitDefEqProofs (disch:=try exact dd) [cB, -List.map_take, -List.map_drop,hY,hk1,hk2,hl]
 clear q;rintro S ⟨e1,e3,e6,e7,efo,g3,b3,g6,b6,gn,bn⟩
 simp-implicitDefEqProofs (disch:=try exact dd) [cB, -List.map_take, -List.map_drop,e1,e3,e6,e7]
 refine lp (dcI d.files d l keep nf gf) (fun i=>l.length-i) 0 (by refine⟨by omega,?_,?_,?_,?_,by simp,by simp,by simp,?_,?_,?_,?_,?_,?_,?_⟩<;>simp-implicitDefEqProofs (disch:=try exact dd) [cB, -List.map_take, -List.map_drop,e1,e3,e6,e7,efo,g3,b3,g6,b6,gn,bn,uG]) ?_
 clear e1 e3 e6 e7 efo g3 b3 g6 b6 gn bn S;rintro i S ⟨hi,e1,e3,e6,e7,e19,e20,e21,efo,g3,b3,g6,b6,gn,bn⟩;by_cases hlt:i<l.length
 ·have k6:(i:Int)<l.length:=by omega
  obtain⟨f0,f1⟩:=hin _ (List.getElem_mem hlt);obtain⟨n,hn⟩:=Int.eq_ofNat_of_zero_le f0;have hcl:=vZ d.files l keep i;have hnl:n<(uG d.files l keep i).length:=by omega
  have hold:=GF (keep:=keep) hdd hin i i hlt (Nat.le_refl _);have hfk:=hfok _ f0 f1;have hstep:uG d.files l keep (i+1)=(uG d.files l keep i).set n (sg (fileAt d.files l[i].file) (mD (fileAt d.files l[i].file) keep[i]?)):=by
   simp only[uG,List.getD_eq_getElem?_getD,List.getElem?_eq_getElem hlt,Option.getD_some,hn,Int.toNat_natCast]
  have hcf:(uG d.files l keep i)[n]=fileAt d.files l[i].file:=by
   rw[←hold,hn];simp[fileAt,List.getD_eq_getElem?_getD,hnl]
  have hcb:(dK (uG d.files l keep i)).length=d.files.length*2:=by rw[gA,hcl];omega
  obtain⟨ha1,ha2⟩:=qX hnl;obtain⟨_,hb1⟩:=List.getElem?_eq_some_iff.1 ha1;obtain⟨_,hb2⟩:=List.getElem?_eq_some_iff.1 ha2;have hfd:=uA hnl;have hfs:=xP hnl;rw[hcf]at hb1 hb2;simp only[hcf]at hfd;generalize fileAt d.files l[i].file=f at*
  generalize uG d.files l keep i=cs at*
  simp only[fv,decide_eq_true_eq]at hfk;obtain⟨w1,w2,w3⟩:=hfk;have hnd:n<d.files.length:=by omega
  have hnd2:n*2+1+1≤d.files.length*2:=by omega
  have dQ: ∀g,(dK (cs.set n g)).length=d.files.length*2:=fun g=>by rw[gA,List.length_set,hcl];omega
  by_cases hkl:i<keep.length
  ·have k7:(i:Int)<keep.length:=by omega
   rw[List.getElem?_eq_getElem hkl]at hstep;obtain⟨m,hm⟩:=Int.eq_ofNat_of_zero_le (show 0≤f.safe+max 0 (min keep[i] (f.data.length-f.safe)) by omega)
   have hmd:m≤f.data.length:=by omega
   have hst2:dK (cs.set n ⟨f.data.take m,(m:Int)⟩)=dK (uG d.files l keep (i+1)):=by
    rw[hstep];simp only[mD,sg,hm,Int.toNat_natCast]
   have hmin: ∀a b:Int,(if b<a then b else a)=min a b:=by intro a b;split<;>omega
   have hmax: ∀a b:Int,(if a<b then b else a)=max a b:=by intro a b;split<;>omega
   simp-implicitDefEqProofs (disch:=try exact dd) [cB, -List.map_take, -List.map_drop,e1,e3,e6,e7,e19,e20,e21,k6,k7,efo,g3,b3,g6,b6,gn,bn,hY,hk1,hk2,hn,hnd,hcb,hb1,hb2,hm,hfd,hfs,dQ,hnd2,hmd,hmin,hmax,gM]
   exact cE (i+1) (by refine⟨by omega,?_,?_,?_,?_,?_,?_,by simp,?_,?_,?_,?_,?_,?_,?_⟩<;>simp-implicitDefEqProofs (disch:=try exact dd) [cB, -List.map_take, -List.map_drop,e1,e3,e6,e7,e19,e20,efo,hk1,hk2,g3,b3,hY,g6,b6,gn,bn,hst2]) (by omega)
  ·have k7: ¬(i:Int)<keep.length:=by omega
   rw[ar (by omega)]at hstep
   obtain⟨m,hm⟩:=Int.eq_ofNat_of_zero_le w2;have hst2:dK (cs.set n ⟨f.data.take m,(m:Int)⟩)=dK (uG d.files l keep (i+1)):=by
    rw[hstep];simp only[mD,sg,hm,Int.toNat_natCast]
   have hmd:m≤f.data.length:=by omega
   simp-implicitDefEqProofs (disch:=try exact dd) [cB, -List.map_take, -List.map_drop,e1,e3,e6,e7,e19,e20,e21,k6,k7,efo,g3,b3,g6,b6,gn,bn,hY,hk1,hk2,hn,hnd,hcb,hb1,hb2,hm,hfd,hfs,dQ,hnd2,hmd]
   exact cE (i+1) (by refine⟨by omega,?_,?_,?_,?_,?_,?_,by simp,?_,?_,?_,?_,?_,?_,?_⟩<;>simp-implicitDefEqProofs (disch:=try exact dd) [cB, -List.map_take, -List.map_drop,e1,e3,e6,e7,e19,e20,efo,hk1,hk2,g3,b3,hY,g6,b6,gn,bn,hst2]) (by omega)
 ·have k6: ¬(i:Int)<l.length:=by omega
  have hil:i=l.length:=by omega
  subst hil;have hcl:=vZ d.files l keep l.length;have hcb:(dK (uG d.files l keep l.length)).length=d.files.length*2:=by rw[gA,hcl];omega
  obtain⟨X,hX1,hX2⟩:=Gz hcl;have qo:=js ⟨uG d.files l keep l.length,l,l⟩ ⟨⟨by simp;omega,Lj hok.1.1.2 _⟩,hsz,hsz⟩ ⟨by simpa[hcl]using hin,by simpa[hcl]using hin⟩ (by simp;omega)
  simp-implicitDefEqProofs (disch:=try exact dd) [cB, -List.map_take, -List.map_drop,e1,e3,e6,e7,e19,e20,e21,k6,efo,g3,b3,g6,b6,gn,bn,hY,hk1,hk2,hcb,hX1,hX2]
  refine oc qo ?_
  simp-implicitDefEqProofs (disch:=try exact dd) [cB, -List.map_take, -List.map_drop,Dk.d,e1,e3,e6,e7,e19,e20,e21,efo,g3,b3,g6,b6,gn,bn,hY,hk1,hk2]
theorem Nj{α:Type}{p:α→Bool}{l:List α}{i:Nat}(h:i<l.length)(hp:p l[i]=false):l.all p=false:=by
 rw[List.all_eq_false];exact⟨_,List.getElem_mem h,by simp[hp]⟩
def Zq(k:Dk)(i j q:Nat)(S:PS):Prop:=
 S.t 1= .cptr (cells k.d)∧S.t 2= .ptr (FO+2) 1 0∧S.t 3= .ptr (FO+3) 1 0∧S.fo=FO∧S.gen (FO+2)=1∧S.box (FO+2)= [.d (.slice []),.d (.slice []),.d (.slice [])]∧
  S.gen (FO+3)=1∧S.box (FO+3)= [.d (.slice ((k.files.take i).map cK.d)),.d (.slice ((k.now.take j).map cZ.d)),.d (.slice ((k.kept.take q).map cZ.d))]∧S.own (.b (FO+3) 0)=true∧S.own (.b (FO+3) 1)=true∧S.own (.b (FO+3) 2)=true
def QO(k:Dk)(i:Nat)(S:PS):Prop:=i≤k.files.length∧S.t 4= .d (.int .i64 i)∧Zq k i 0 0 S
def QN(k:Dk)(i:Nat)(S:PS):Prop:=i≤k.now.length∧S.t 5= .d (.int .i64 i)∧Zq k k.files.length i 0 S
def QM(k:Dk)(i:Nat)(S:PS):Prop:=i≤k.kept.length∧S.t 6= .d (.int .i64 i)∧Zq k k.files.length k.now.length i S
theorem R9(k:Dk)(hk:kJ k):cD Tryz.prog 111 [.d k.d] (.d k.d) (fun _=>false):=by
 refine cD.bi Tryz.func111 [20001,15,40,65] ?_;obtain⟨⟨hf,_⟩,⟨hn,_⟩,⟨hp,_⟩⟩:=hk
 simp-implicitDefEqProofs (disch:=try exact dd) [cB, -List.map_take, -List.map_drop]
 refine lp (QO k) (fun i=>k.files.length-i) 0 ⟨by omega,by simp,by simp,by simp,by simp,by simp,by simp,by simp,by simp,by simp,by simp,by simp,by simp⟩ ?_
 rintro i S ⟨hi,e4,e1,e2,e3,efo,g2,b2,g3,b3,o0,o1,o2⟩;by_cases hlt:i<k.files.length
 ·have k6:(i:Int)<k.files.length:=by omega
  have ht:(k.files.take (i+1)).map cK.d=(k.files.take i).map cK.d++ [cK.d k.files[i]]:=by
   rw[List.take_succ_eq_append_getElem hlt,List.map_append];rfl
  simp-implicitDefEqProofs (disch:=try exact dd) [cB, -List.map_take, -List.map_drop,e1,e2,e3,e4,efo,g2,b2,g3,b3,o0,o1,o2,k6]
  exact cE (i+1) (by refine⟨by omega,by simp,?_,?_,?_,?_,?_,?_,?_,by rw[ht];simp-implicitDefEqProofs (disch:=try exact dd) [cB, -List.map_take, -List.map_drop,b3,efo,cK.d],?_,?_,?_⟩<;>simp-implicitDefEqProofs (disch:=try exact dd) [cB, -List.map_take, -List.map_drop,e1,e2,e3,efo,g2,b2,g3,o0,o1,o2]) (by omega)
 have k6: ¬(i:Int)<k.files.length:=by omega
 have hil:i=k.files.length:=by omega
 subst hil
 simp-implicitDefEqProofs (disch:=try exact dd) [cB, -List.map_take, -List.map_drop,e1,e2,e3,e4,efo,g2,b2,g3,b3,o0,o1,o2,k6]
 refine lp (QN k) (fun i=>k.now.length-i) 0 (by refine⟨by omega,by simp,?_,?_,?_,?_,?_,?_,?_,?_,?_,?_,?_⟩<;>simp-implicitDefEqProofs (disch:=try exact dd) [cB, -List.map_take, -List.map_drop,e1,e2,e3,efo,g2,b2,g3,b3,o0,o1,o2]) ?_
 clear e1 e2 e3 e4 efo g2 b2 g3 b3 o0 o1 o2 S hi hlt k6;rintro i S ⟨hi,e4,e1,e2,e3,efo,g2,b2,g3,b3,o0,o1,o2⟩;by_cases hlt:i<k.now.length
 ·have k6:(i:Int)<k.now.length:=by omega
  have ht:(k.now.take (i+1)).map cZ.d=(k.now.take i).map cZ.d++ [cZ.d k.now[i]]:=by
   rw[List.take_succ_eq_append_getElem hlt,List.map_append];rfl
  simp-implicitDefEqProofs (disch:=try exact dd) [cB, -List.map_take, -List.map_drop,e1,e2,e3,e4,efo,g2,b2,g3,b3,o0,o1,o2,k6]
  exact cE (i+1) (by refine⟨by omega,by simp,?_,?_,?_,?_,?_,?_,?_,by rw[ht];simp-implicitDefEqProofs (disch:=try exact dd) [cB, -List.map_take, -List.map_drop,b3,efo,cZ.d],?_,?_,?_⟩<;>simp-implicitDefEqProofs (disch:=try exact dd) [cB, -List.map_take, -List.map_drop,e1,e2,e3,efo,g2,b2,g3,o0,o1,o2]) (by omega)
 have k6: ¬(i:Int)<k.now.length:=by omega
 have hil:i=k.now.length:=by omega
 subst hil
 simp-implicitDefEqProofs (disch:=try exact dd) [cB, -List.map_take, -List.map_drop,e1,e2,e3,e4,efo,g2,b2,g3,b3,o0,o1,o2,k6]
 refine lp (QM k) (fun i=>k.kept.length-i) 0 (by refine⟨by omega,by simp,?_,?_,?_,?_,?_,?_,?_,?_,?_,?_,?_⟩<;>simp-implicitDefEqProofs (disch:=try exact dd) [cB, -List.map_take, -List.map_drop,e1,e2,e3,efo,g2,b2,g3,b3,o0,o1,o2]) ?_
 clear e1 e2 e3 e4 efo g2 b2 g3 b3 o0 o1 o2 S hi hlt k6;rintro i S ⟨hi,e4,e1,e2,e3,efo,g2,b2,g3,b3,o0,o1,o2⟩;by_cases hlt:i<k.kept.length
 ·have k6:(i:Int)<k.kept.length:=by omega
  have ht:(k.kept.take (i+1)).map cZ.d=(k.kept.take i).map cZ.d++ [cZ.d k.kept[i]]:=by
   rw[List.take_succ_eq_append_getElem hlt,List.map_append];rfl
  simp-implicitDefEqProofs (disch:=try exact dd) [cB, -List.map_take, -List.map_drop,e1,e2,e3,e4,efo,g2,b2,g3,b3,o0,o1,o2,k6]
  exact cE (i+1) (by refine⟨by omega,by simp,?_,?_,?_,?_,?_,?_,?_,by rw[ht];simp-implicitDefEqProofs (disch:=try exact dd) [cB, -List.map_take, -List.map_drop,b3,efo,cZ.d],?_,?_,?_⟩<;>simp-implicitDefEqProofs (disch:=try exact dd) [cB, -List.map_take, -List.map_drop,e1,e2,e3,efo,g2,b2,g3,o0,o1,o2]) (by omega)
 have k6: ¬(i:Int)<k.kept.length:=by omega
 have hil:i=k.kept.length:=by omega
 subst hil
 simp-implicitDefEqProofs (disch:=try exact dd) [cB, -List.map_take, -List.map_drop,e1,e2,e3,e4,efo,g2,b2,g3,b3,o0,o1,o2,k6,Dk.d]
def Wy(l:List cZ)(i:Nat)(S:PS):Prop:=i≤l.length∧S.t 0= .d (.slice (l.map cZ.d))∧S.t 1= .d (.slice (l.map cZ.d))∧S.t 5= .d (.int .i64 i)
theorem pH(l:List cZ)(hl:l.length≤1000000):cD Tryz.prog 200 [.d (.slice (l.map cZ.d)),.d (.slice (l.map cZ.d))] (.d (.bool true)) (fun _=>false):=by
 refine cD.bi Tryz.func200 [] ?_
 simp-implicitDefEqProofs (disch:=try exact dd) [cB]
 refine lp (Wy l) (fun i=>l.length-i) 0 ⟨by omega,by simp,by simp,by simp⟩ ?_
 rintro i S ⟨hi,e0,e1,e5⟩;by_cases hlt:i<l.length
 ·have k6:(i:Int)<l.length:=by omega
  simp-implicitDefEqProofs (disch:=try exact dd) [cB,e0,e1,e5,k6]
  exact cE (i+1) (by refine⟨by omega,?_,?_,by simp⟩<;>simp-implicitDefEqProofs (disch:=try exact dd) [cB,e0,e1]) (by omega)
 ·have k6: ¬(i:Int)<l.length:=by omega
  simp-implicitDefEqProofs (disch:=try exact dd) [cB,e0,e1,e5,k6]
def Wz(k:Dk)(i:Nat)(S:PS):Prop:=i≤k.files.length∧S.t 2= .cptr (cells k.d)∧S.t 3= .cptr (cells k.d)∧S.t 5= .d (.int .i64 i)
theorem Hi(k:Dk)(hk:m5 k):cD Tryz.prog 110 [.d k.d,.d k.d] (.d (.bool true)) (fun _=>false):=by
 refine cD.bi Tryz.func110 [20002,20003] ?_;obtain⟨⟨⟨h1,_⟩,⟨h2,_⟩,⟨h3,_⟩⟩,_⟩:=hk;have q1:=pH k.now (by omega)
 have q2:=pH k.kept (by omega)
 simp-implicitDefEqProofs (disch:=try exact dd) [cB]
 refine oc q1 ?_
 simp-implicitDefEqProofs (disch:=try exact dd) [cB]
 refine oc q2 ?_
 simp-implicitDefEqProofs (disch:=try exact dd) [cB]
 refine lp (Wz k) (fun i=>k.files.length-i) 0 ⟨by omega,by simp,by simp,by simp⟩ ?_
 rintro i S ⟨hi,e2,e3,e5⟩;by_cases hlt:i<k.files.length
 ·have k6:(i:Int)<k.files.length:=by omega
  simp-implicitDefEqProofs (disch:=try exact dd) [cB,e2,e3,e5,k6]
  exact cE (i+1) (by refine⟨by omega,?_,?_,by simp⟩<;>simp-implicitDefEqProofs (disch:=try exact dd) [cB,e2,e3]) (by omega)
 ·have k6: ¬(i:Int)<k.files.length:=by omega
  simp-implicitDefEqProofs (disch:=try exact dd) [cB,e2,e3,e5,k6]
structure Nm(l:List cZ)(m:Nat):Prop where
 srt:Fq l
 fair: ∀e∈l,hF e.name=true
 inn:yq l m
 nd:(l.map cZ.file).Nodup
theorem NL{l:List cZ}{m:Nat}(h:fF l m=true):Nm l m:=⟨nv h,rN h,gR h,mC h⟩
theorem F9{l:List cZ}{m:Nat}(h:Nm l m):fF l m=true:=by
 rw[jU];intro i hi;rw[nu hi];have h1:=h.fair _ (List.getElem_mem hi);have h2:=h.inn _ (List.getElem_mem hi);have h3:rn (l.take i) l[i].file=false:=by
  rw[aM];intro hc;obtain⟨e,he,hf⟩:=CL.1 hc;obtain⟨j,hj,rfl⟩:=List.mem_take_iff_getElem.1 he;have:=tt h.nd (by omega) hi hf
  omega
 have h4:(decide (i=0)||strLt (l.getD (i-1) default).name l[i].name)=true:=by
  by_cases e:i=0
  ·simp[e]
  ·have hj:i-1<l.length:=by omega
   rw[List.getD_eq_getElem?_getD,List.getElem?_eq_getElem hj,Option.getD_some,pr h.srt hi (show i-1<i by omega)]
   simp
 rw[h1,h3,h4];simp[h2]
theorem Gb{l:List cZ}{m m':Nat}(h:Nm l m)(hm:m≤m'):Nm l m':=⟨h.srt,h.fair,fun e he=>by have:=h.inn e he;omega,h.nd⟩
theorem O0{l l':List cZ}{m:Nat}(h:Nm l m)(hs:l'.Sublist l):Nm l' m:=⟨h.srt.sublist hs,fun e he=>h.fair e (hs.subset he),fun e he=>h.inn e (hs.subset he),h.nd.sublist (hs.map _)⟩
theorem sT{l:List cZ}{m:Nat}(h:Nm l m)(n:List UInt8):Nm (fc l n) m:=O0 h List.filter_sublist
theorem lX{l:List cZ}{n:List UInt8}{e:cZ}:e∈fc l n↔e∈l∧e.name≠n:=by simp[fc]
theorem oH{l:List cZ}{n:List UInt8}{x:Int}{e:cZ}:e∈km l n x↔e∈l∨e=⟨n,x⟩:=by
 constructor
 ·exact AK
 ·intro h;unfold km;rw[List.mem_append,List.mem_cons];rcases h with h|h
  ·rw[←ay (qn l n) l,List.mem_append]at h;rcases h with h|h
   ·exact .inl h
   ·exact .inr (.inr h)
  ·exact .inr (.inl h)
theorem FL{l:List cZ}(h:Fq l){n:List UInt8}(hn: ∀e∈l,e.name≠n)(x:Int):Fq (km l n x):=by
 have hlo: ∀e∈l.take (qn l n),strLt e.name n=true:=by
  intro e he;obtain⟨j,hj,rfl⟩:=List.mem_take_iff_getElem.1 he;exact Ls (by omega) (by omega)
 have hhi: ∀e∈l.drop (qn l n),strLt n e.name=true:=by
  intro e he;obtain⟨j,hj,rfl⟩:=List.mem_drop_iff_getElem.1 he;have ha:qn l n<l.length:=by omega
  have h0:strLt n l[qn l n].name=true:=Ku _ _ (Lt ha) (hn _ (List.getElem_mem ha));by_cases e0:j=0
  ·subst e0;simpa using h0
  ·exact lt_trans _ _ _ h0 (pr (i:=qn l n) (j:=qn l n+j) h (by omega) (by omega))
 unfold Fq km;rw[List.pairwise_append];refine⟨List.Pairwise.sublist (List.take_sublist _ _) h,List.pairwise_cons.2 ⟨hhi,List.Pairwise.sublist (List.drop_sublist _ _) h⟩,fun a ha b hb=>?_⟩
 rcases List.mem_cons.1 hb with rfl|hb
 ·exact hlo a ha
 ·exact lt_trans _ _ _ (hlo a ha) (hhi b hb)
theorem J7{l:List cZ}{m:Nat}(h:Nm l m){n:List UInt8}{x:Int}(hf:hF n=true)(hn: ∀e∈l,e.name≠n)(hx: ∀e∈l,e.file≠x)(h0:0≤x∧x<m):Nm (km l n x) m:=by
 refine⟨FL h.srt hn x,fun e he=>?_,Bb h.inn h0.1 h0.2,?_⟩
 ·rcases oH.1 he with h1|rfl
  ·exact h.fair e h1
  ·exact hf
 ·have hp:((km l n x).map cZ.file).Perm (x::l.map cZ.file):=by
   have:(km l n x).Perm (⟨n,x⟩::l):=by
    unfold km;have h2:=List.perm_middle (a:=(⟨n,x⟩:cZ)) (l₁:=l.take (qn l n)) (l₂:=l.drop (qn l n))
    rwa[ay]at h2
   exact this.map _
  rw[hp.nodup_iff,bB];refine⟨fun hm=>?_,h.nd⟩
  obtain⟨e,he,e2⟩:=List.mem_map.1 hm;exact hx e he e2
theorem LR{l:List cZ}(h:Fq l){a b:cZ}(ha:a∈l)(hb:b∈l)(e:a.name=b.name):a=b:=by
 obtain⟨i,hi,rfl⟩:=List.mem_iff_getElem.1 ha;obtain⟨j,hj,rfl⟩:=List.mem_iff_getElem.1 hb;rcases Nat.lt_trichotomy i j with h1|h1|h1
 ·have:=pr h hj h1;rw[e,lt_irrefl]at this
  cases this
 ·subst h1;rfl
 ·have:=pr h hi h1;rw[e,lt_irrefl]at this
  cases this
theorem O5{l:List cZ}(h:(l.map cZ.file).Nodup){a b:cZ}(ha:a∈l)(hb:b∈l)(e:a.file=b.file):a=b:=by
 obtain⟨i,hi,rfl⟩:=List.mem_iff_getElem.1 ha;obtain⟨j,hj,rfl⟩:=List.mem_iff_getElem.1 hb;have:=tt h hi hj e;subst this;rfl
theorem jI{l:List cZ}(h:Fq l){n:List UInt8}{x:Int}:cQ l n=some x↔(⟨n,x⟩:cZ)∈l:=by
 unfold cQ;constructor
 ·intro hf;rw[Option.map_eq_some_iff]at hf;obtain⟨e,he,rfl⟩:=hf;have h1:=List.mem_of_find?_eq_some he;have h2:=List.find?_some he;simp only[decide_eq_true_eq]at h2;subst h2;exact h1
 ·intro hm
  cases hf:l.find? fun e=>decide (e.name=n)with
  |none=>
   have:=List.find?_eq_none.1 hf _ hm;simp at this
  |some e=>
   have h1:=List.mem_of_find?_eq_some hf;have h2:=List.find?_some hf;simp only[decide_eq_true_eq]at h2;rw[LR h h1 hm h2];rfl
theorem fB{l:List cZ}{n:List UInt8}:cQ l n=none↔ ∀e∈l,e.name≠n:=by
 unfold cQ;rw[Option.map_eq_none_iff,List.find?_eq_none];simp
theorem Lq{w:List Int}{l:List cZ}:(∀e∈l,e.file∈w)→dj (l.map (gZ w))=(dj l).map (jf w):=by
 induction l using iW with
 |h0=>intro _;rfl
 |hs l e ih=>
  intro h;have hl: ∀x∈l,x.file∈w:=fun x hx=>h x (by simp[hx])
  have he:=h e (by simp)
  rw[List.map_append,List.map_cons,List.map_nil,ix,ix,ih hl]
  show mg _ (jf w e.file)=_
  unfold mg;have:((dj l).map (jf w)).contains (jf w e.file)=(dj l).contains e.file:=by
   rw[Bool.eq_iff_iff,List.contains_iff_mem,List.contains_iff_mem,List.mem_map];constructor
   ·rintro⟨y,hy,e2⟩;obtain⟨e3,he3,rfl⟩:=iX.1 hy
    rwa[←Ca (hl e3 he3) he e2]
   ·exact fun hm=>⟨_,hm,rfl⟩
  rw[this];split
  ·rfl
  ·simp
theorem Kt{w:List Int}(h:w.Nodup):w.map (jf w)=kf w.length:=by
 apply bk
 intro i;rw[List.getElem?_map];by_cases hi:i<w.length
 ·rw[wj hi,List.getElem?_eq_getElem hi,Option.map_some,jf,h.idxOf_getElem]
 ·rw[ar (by omega),ar (by rw[iU];omega)]
  rfl
theorem J6{l:List cZ}{m:Nat}(h:Nm l m){w:List Int}(hw: ∀e∈l,e.file∈w):Nm (l.map (gZ w)) w.length:=by
 refine⟨?_,fun e he=>?_,fun e he=>?_,?_⟩
 ·unfold Fq;rw[List.pairwise_map];exact h.srt
 ·obtain⟨x,hx,rfl⟩:=List.mem_map.1 he;exact h.fair x hx
 ·obtain⟨x,hx,rfl⟩:=List.mem_map.1 he;exact B_ (hw x hx)
 ·have:(l.map (gZ w)).map cZ.file=(l.map cZ.file).map (jf w):=by
   rw[List.map_map,List.map_map];rfl
  rw[this];have hp:=h.nd;unfold List.Nodup at hp⊢;rw[List.pairwise_map];refine hp.imp_of_mem fun{a b} ha hb hne e=>hne ?_
  obtain⟨x,hx,rfl⟩:=List.mem_map.1 ha;obtain⟨y,hy,rfl⟩:=List.mem_map.1 hb;exact Ca (hw x hx) (hw y hy) e
theorem sb{l:List cK}{x:Int}(h0:0≤x)(h1:x<l.length):fileAt l x∈l:=by
 have:x.toNat<l.length:=by omega
 unfold fileAt;rw[List.getD_eq_getElem?_getD,List.getElem?_eq_getElem this];exact List.getElem_mem this
theorem yz{k:Dk}(hn:Nm k.now k.files.length)(hp:Nm k.kept k.files.length)(hf: ∀f∈k.files,fv f=true)(h20:k.files.length≤20):c9 (dz k)=true:=by
 have hin: ∀x∈dj (k.now++k.kept),0≤x∧x<k.files.length:=by
  intro x hx;obtain⟨e,he,rfl⟩:=iX.1 hx;rcases List.mem_append.1 he with h|h
  ·exact hn.inn e h
  ·exact hp.inn e h
 have hnd:=Fb (k.now++k.kept);have hle:=pO _ _ hnd hin;have hm1: ∀e∈k.now,e.file∈dj (k.now++k.kept):=fun e he=>iX.2 ⟨e,by simp[he],rfl⟩
 have hm2: ∀e∈k.kept,e.file∈dj (k.now++k.kept):=fun e he=>iX.2 ⟨e,by simp[he],rfl⟩
 have hm: ∀e∈k.now++k.kept,e.file∈dj (k.now++k.kept):=fun e he=>iX.2 ⟨e,he,rfl⟩
 rw[dP];have hl:(dz k).files.length=(dj (k.now++k.kept)).length:=by simp[dz]
 rw[hl];refine⟨by omega,F9 (J6 hn hm1),F9 (J6 hp hm2),?_,?_⟩
 ·rw[List.all_eq_true];intro f hff;obtain⟨x,hx,rfl⟩:=List.mem_map.1 hff;obtain⟨h0,h1⟩:=hin x hx;exact hf _ (sb h0 h1)
 ·show dj (k.now.map (gZ (dj (k.now++k.kept)))++k.kept.map (gZ (dj (k.now++k.kept))))=_
  rw[←List.map_append,Lq hm,Kt hnd]
theorem Ce{k:Dk}{x:Int}(h:x∈dj (k.now++k.kept)):fileAt (dz k).files (jf (dj (k.now++k.kept)) x)=fileAt k.files x:=by
 have:=vU h
 show((dj (k.now++k.kept)).map (fileAt k.files)).getD (jf (dj (k.now++k.kept)) x).toNat default=_
 rw[List.getD_eq_getElem?_getD,List.getElem?_map,this];rfl
theorem F5{k:Dk}{n:List UInt8}{x:Int}(h:(⟨n,x⟩:cZ)∈k.now):(⟨n,jf (dj (k.now++k.kept)) x⟩:cZ)∈(dz k).now∧x∈dj (k.now++k.kept):=
 ⟨List.mem_map.2 ⟨_,h,rfl⟩,iX.2 ⟨_,aG _ h,rfl⟩⟩
theorem JO{k:Dk}{n:List UInt8}{x:Int}(h:(⟨n,x⟩:cZ)∈k.kept):(⟨n,jf (dj (k.now++k.kept)) x⟩:cZ)∈(dz k).kept∧x∈dj (k.now++k.kept):=
 ⟨List.mem_map.2 ⟨_,h,rfl⟩,iX.2 ⟨_,aP _ h,rfl⟩⟩
structure Rt(k:Dk):Prop where
 n:Nm k.now k.files.length
 p:Nm k.kept k.files.length
 f: ∀f∈k.files,fv f=true
 l:k.files.length≤20
theorem jm{k:Dk}(h:c9 k=true):Rt k:=by
 obtain⟨h1,h2,h3,h4,h5⟩:=dP.1 h;exact⟨NL h2,NL h3,List.all_eq_true.1 h4,h1⟩
theorem ov{k:Dk}(h:Rt k):c9 (dz k)=true:=yz h.n h.p h.f h.l
theorem tW{k:Dk}(h:c9 k=true)(x:Int){f:cK}(hf:fv f=true):c9 (eS k x f)=true:=by
 obtain⟨h1,h2,h3,h4,h5⟩:=dP.1 h;rw[dP];simp only[eS,List.length_set];refine⟨h1,h2,h3,?_,h5⟩;rw[List.all_eq_true]at h4⊢;intro g hg;rcases bs hg with h|rfl
 ·exact h4 g h
 ·exact hf
theorem eL{f:cK}:fv f=true↔f.data.length≤20000∧0≤f.safe∧f.safe≤f.data.length:=by simp[fv]
theorem nU{k:Dk}(h:Rt k){n:List UInt8}{x:Int}(hx:(⟨n,x⟩:cZ)∈k.now∨(⟨n,x⟩:cZ)∈k.kept):fv (fileAt k.files x)=true:=by
 refine h.f _ (sb ?_ ?_)
 ·rcases hx with h1|h1
  ·exact(h.n.inn _ h1).1
  ·exact(h.p.inn _ h1).1
 ·rcases hx with h1|h1
  ·exact(h.n.inn _ h1).2
  ·exact(h.p.inn _ h1).2
theorem G7{k:Dk}(h:Rt k){n b:List UInt8}(hf:hF n=true)(hn:cQ k.now n=none)(h20: ¬(k.files.length≥20∨b.length>20000)):Rt ⟨k.files++ [⟨b,0⟩],km k.now n k.files.length,k.kept⟩:=by
 have hl:(k.files++ [(⟨b,0⟩:cK)]).length=k.files.length+1:=by simp
 refine⟨?_,?_,fun f hff=>?_,by rw[hl];omega⟩
 ·rw[hl];exact J7 (Gb h.n (by omega)) hf (fB.1 hn) (fun e he=>by have:=h.n.inn e he;omega) (by omega)
 ·rw[hl];exact Gb h.p (by omega)
 ·rcases List.mem_append.1 hff with h1|h1
  ·exact h.f f h1
  ·simp at h1;subst h1;rw[eL];simp;omega
theorem G6{k:Dk}(h:Rt k){n to:List UInt8}{x:Int}(hf:hF to=true)(hx:(⟨n,x⟩:cZ)∈k.now):Rt ⟨k.files,km (fc (fc k.now n) to) to x,k.kept⟩:=by
 refine⟨J7 (sT (sT h.n n) to) hf (fun e he=>(lX.1 he).2) (fun e he e2=>?_) (h.n.inn _ hx),h.p,h.f,h.l⟩
 have h1:=(lX.1 (lX.1 he).1);have:=O5 h.n.nd h1.1 hx e2;exact h1.2 (by rw[this])
theorem append_right(k:Dk)(n b:List UInt8):c9 (c7 k n b).1=true:=by
 have hg:=dw k;unfold c7;generalize cP k=d at*
 have hr:=jm hg;split
 ·exact hg
 rename_i hfn;have hfn:hF n=true:=by simpa using hfn
 cases hx:cQ d.now n with
 |none=>
  dsimp only;split
  ·exact hg
  rename_i hc;exact ov (G7 hr hfn hx hc)
 |some x=>
  dsimp only;split
  ·exact hg
  rename_i hc;have hm:=(jI hr.n.srt).1 hx;have hk:=eL.1 (nU hr (.inl hm));refine tW hg x (eL.2 ⟨?_,hk.2.1,?_⟩)
  ·simp;omega
  ·simp;omega
theorem ie(k:Dk)(n:List UInt8):c9 (eU k n).1=true:=by
 have hg:=dw k;unfold eU;generalize cP k=d at*
 have hr:=jm hg
 cases hx:cQ d.now n with
 |none=>exact hg
 |some x=>
  have hk:=eL.1 (nU hr (.inl ((jI hr.n.srt).1 hx)));exact tW hg x (eL.2 ⟨hk.1,by simp,by simp⟩)
theorem zW(k:Dk)(n:List UInt8)(m:Int):c9 (xY k n m).1=true:=by
 have hg:=dw k;unfold xY;generalize cP k=d at*
 have hr:=jm hg
 cases hx:cQ d.now n with
 |none=>exact hg
 |some x=>
  dsimp only;split
  ·exact hg
  rename_i hc;have hk:=eL.1 (nU hr (.inl ((jI hr.n.srt).1 hx)));refine tW hg x (eL.2 ⟨?_,by show 0≤m;omega,?_⟩)
  ·simp;omega
  ·simp;omega
theorem sG(k:Dk)(n to:List UInt8):c9 (fh k n to).1=true:=by
 have hg:=dw k;unfold fh;generalize cP k=d at*
 have hr:=jm hg
 cases hx:cQ d.now n with
 |none=>exact hg
 |some x=>
  dsimp only;split
  ·exact hg
  rename_i hf;exact ov (G6 hr (by simpa using hf) ((jI hr.n.srt).1 hx))
theorem jz(k:Dk)(n:List UInt8):c9 (dU k n).1=true:=by
 have hg:=dw k;unfold dU;generalize cP k=d at*
 have hr:=jm hg
 cases hx:cQ d.now n with
 |none=>exact hg
 |some x=>exact ov ⟨sT hr.n n,hr.p,hr.f,hr.l⟩
theorem gm(k:Dk):c9 (dR k)=true:=by
 have hg:=dw k;unfold dR;generalize cP k=d at*
 have hr:=jm hg;exact ov ⟨hr.n,hr.n,hr.f,hr.l⟩
theorem Ir(k:Dk)(dir:Bool):Nm (dJ k dir) (cP k).files.length:=by
 have hr:=jm (dw k);unfold dJ
 cases dir
 ·exact hr.p
 ·exact hr.n
theorem zt{f:cK}(h:fv f=true)(q:Option Int):f.safe≤mD f q∧mD f q≤f.data.length:=by
 have h:=eL.1 h;unfold mD
 cases q<;>simp<;>omega
theorem vm(k:Dk)(keep:List Int)(dir:Bool):c9 (ep k keep dir)=true:=by
 have hn:=Ir k dir;have hr:=jm (dw k);rw[dP];have hl:(ep k keep dir).files.length=(dJ k dir).length:=by simp[ep]
 rw[hl];have hll:(dJ k dir).length≤20:=ao (pO _ _ hn.nd (fun x hx=>by
  obtain⟨e,he,rfl⟩:=List.mem_map.1 hx;exact hn.inn e he)|>fun h=>by simpa using h) hr.l
 have hg: ∀i (hi:i<(dJ k dir).length),(dJ k dir).getD i default=(dJ k dir)[i]:=by
  intro i hi;rw[List.getD_eq_getElem?_getD,List.getElem?_eq_getElem hi,Option.getD_some]
 have hfl:((List.range (dJ k dir).length).map fun i=>(⟨((dJ k dir).getD i default).name,(i:Int)⟩:cZ)).map cZ.file=kf (dJ k dir).length:=by
  rw[List.map_map];rfl
 have hnd:(kf (dJ k dir).length).Nodup:=by
  unfold kf List.Nodup;rw[List.pairwise_map]
  exact(List.nodup_range (n:=(dJ k dir).length)).imp (by intro a b h e;exact h (by omega))
 have hm:Nm ((List.range (dJ k dir).length).map fun i=>(⟨((dJ k dir).getD i default).name,(i:Int)⟩:cZ)) (dJ k dir).length:=by
  refine⟨?_,fun e he=>?_,fun e he=>?_,by rw[hfl];exact hnd⟩
  ·unfold Fq;rw[List.pairwise_map,List.pairwise_iff_getElem];intro i j hi hj hij;simp only[List.length_range]at hi hj;simp only[List.getElem_range,hg i hi,hg j hj];exact pr hn.srt hj hij
  ·obtain⟨i,hi,rfl⟩:=List.mem_map.1 he;have hi:=List.mem_range.1 hi;simp only[hg i hi];exact hn.fair _ (List.getElem_mem hi)
  ·obtain⟨i,hi,rfl⟩:=List.mem_map.1 he;have hi:=List.mem_range.1 hi;simp;omega
 refine⟨hll,F9 hm,F9 hm,?_,?_⟩
 ·rw[List.all_eq_true];intro f hf;obtain⟨i,hi,rfl⟩:=List.mem_map.1 hf;have hi:=List.mem_range.1 hi;rw[hg i hi];have hok:fv (fileAt (cP k).files (dJ k dir)[i].file)=true:=by
   have:=hn.inn _ (List.getElem_mem hi);exact hr.f _ (sb this.1 this.2)
  have hlf:=zt hok keep[i]?;have hk:=eL.1 hok;refine eL.2 ⟨?_,?_,?_⟩
  ·simp[sg];omega
  ·simp[sg];omega
  ·simp[sg];omega
 ·show dj (_++_)=_
  have e1:(ep k keep dir).now=(List.range (dJ k dir).length).map fun i=>(⟨((dJ k dir).getD i default).name,(i:Int)⟩:cZ):=rfl
  have e2:(ep k keep dir).kept=(ep k keep dir).now:=rfl;rw[e2,yd,e1,Ab hm.nd,hfl]
theorem sa{l:List cK}{x:Int}(h0:0≤x)(h1:x<l.length)(f:cK):fileAt (l.set x.toNat f) x=f:=by
 have:x.toNat<l.length:=by omega
 simp[fileAt,List.getD_eq_getElem?_getD,this]
theorem Ie{l:List cK}{x y:Int}(h0:0≤x)(h1:0≤y)(h:y≠x)(f:cK):fileAt (l.set x.toNat f) y=fileAt l y:=by
 have:x.toNat≠y.toNat:=by omega
 simp[fileAt,List.getD_eq_getElem?_getD,this]
theorem EJ{l m:List cK}{x:Int}(h0:0≤x)(h1:x<l.length):fileAt (l++m) x=fileAt l x:=by
 have:x.toNat<l.length:=by omega
 simp[fileAt,List.getD_eq_getElem?_getD,List.getElem?_append_left this]
theorem CX{l:List cK}{f:cK}:fileAt (l++ [f]) (l.length:Int)=f:=by
 simp[fileAt,List.getD_eq_getElem?_getD]
structure Lst(was name:List UInt8)(x:Dk):Prop where
 r:c9 x=true
 p: ∃p,(⟨name,p⟩:cZ)∈x.now∧(⟨name,p⟩:cZ)∈x.kept∧(was.length:Int)≤(fileAt x.files p).safe∧was<+:(fileAt x.files p).data
theorem Fm(k:Dk)(name b:List UInt8)(h:(c7 k name b).2=0): ∃p,(⟨name,p⟩:cZ)∈(c7 k name b).1.now:=by
 have hg:=dw k;unfold c7 at h⊢;generalize cP k=d at*
 have hr:=jm hg;by_cases hf:hF name=false
 ·rw[if_pos hf]at h;simp at h
 rw[if_neg hf]at h⊢
 cases hx:cQ d.now name with
 |none=>
  rw[hx]at h;dsimp only at h⊢;by_cases hc:d.files.length≥20∨b.length>20000
  ·rw[if_pos hc]at h;simp at h
  rw[if_neg hc];exact⟨_,(F5 (oH.2 (.inr rfl))).1⟩
 |some x=>
  rw[hx]at h;dsimp only at h⊢;by_cases hc:(fileAt d.files x).data.length+b.length>20000
  ·rw[if_pos hc]at h;simp at h
  rw[if_neg hc];exact⟨x,(jI hr.n.srt).1 hx⟩
abbrev nJ:List UInt8:= [106]
abbrev nK:List UInt8:= [107]
def fl(b:List UInt8):cK:=⟨b,b.length⟩
def oY:Nat→List UInt8→Nat→List cC→List cC×Int×Int
 |0,b,at_,out=>(out,at_,0)
 |k+1,b,at_,out=>
  if at_<b.length then
   if(dr (b.drop at_)).2.2=4 then(out,at_,4)
   else if(dr (b.drop at_)).2.2≠0 then([],0,2)
   else if(jA (dr (b.drop at_)).1).2≠0 then([],0,2)
   else oY k b (at_+(dr (b.drop at_)).2.1.toNat) (out++ [(jA (dr (b.drop at_)).1).1])
  else(out,at_,0)
def dA(b:List UInt8):List cC×Int×Int:=oY (b.length+1) b 0 []
theorem qC{b:List UInt8}(h:(dr b).2.2=0):6≤(dr b).2.1∧(dr b).2.1≤b.length∧(dr b).1.length≤b.length:=by
 unfold dr at h⊢;by_cases h1:b.length<6
 ·rw[if_pos h1]at h;simp at h
 rw[if_neg h1]at h⊢;by_cases h2:sl b>2000
 ·rw[if_pos h2]at h;simp at h
 rw[if_neg h2]at h⊢;by_cases h3:b.length<6+sl b
 ·rw[if_pos h3]at h;simp at h
 rw[if_neg h3]at h⊢;by_cases h4:pn (zI b)=KW b
 ·rw[if_pos h4];refine⟨by simp;omega,by simp;omega,by simp[zI];omega⟩
 ·rw[if_neg h4]at h;simp at h
theorem Hv(b:List UInt8):(dr b).1.length≤b.length:=by
 unfold dr;split
 ·simp
 split
 ·simp
 split
 ·simp
 split
 ·simp[zI];omega
 ·simp
def jrI(b:List UInt8)(q:Nat×Nat×List cC)(S:PS):Prop:=
 oY q.1 b q.2.1 q.2.2=dA b∧q.2.1≤b.length∧b.length+1≤q.2.1+q.1∧q.2.2.length≤q.2.1∧S.t 5= .d (.slice (b.map cM))∧S.t 7= .d (.slice (q.2.2.map cC.d))∧S.own (.t 7 0)=true∧S.t 8= .d (.int .i64 q.2.1)∧S.fo=FO
theorem mG(k:Dk)(hk:m5 k)(hb:(eW k [106]).1.length≤1000000):cD Tryz.prog 91 [.d k.d] (.tup [.d (.slice ((dA (eW k [106]).1).1.map cC.d)),.d (.int .i64 (dA (eW k [106]).1).2.1),.d (.int .i64 (dA (eW k [106]).1).2.2)]) (fun _=>false):=by
 refine cD.bi Tryz.func91 [20001,47] ?_;have q:=GD k hk [106];generalize eW k [106]=g at*
 obtain⟨b,e⟩:=g;dsimp only at hb q⊢
 simp-implicitDefEqProofs (disch:=try exact dd) [cB, -List.map_take, -List.map_drop]
 refine oc q ?_
 simp-implicitDefEqProofs (disch:=try exact dd) [cB, -List.map_take, -List.map_drop]
 refine lp (jrI b) (fun q=>b.length-q.2.1) (b.length+1,0,[]) ⟨rfl,by simp,by simp,by simp,by simp,by simp,by simp,by simp,by simp⟩ ?_
 clear q;rintro⟨n,at_,out⟩ S ⟨hj,ha,hn,ho,e5,e7,o7,e8,efo⟩;dsimp only at hj ha hn ho e5 e7 e8
 cases n with
 |zero=>omega
 |succ n=>
 unfold oY at hj;by_cases hlt:at_<b.length
 ·rw[if_pos hlt]at hj;have k6:(at_:Int)<b.length:=by omega
  have q1:=Ll (b.drop at_) (by simp;omega)
  have hps:=qC (b:=b.drop at_);have hxl:=Hv (b.drop at_);generalize dr (b.drop at_)=x at*
  obtain⟨xb,xn,xe⟩:=x;dsimp only at hj q1 hps hxl;by_cases h4:xe=4
  ·rw[if_pos h4]at hj;rw[←hj]
   simp-implicitDefEqProofs (disch:=try exact dd) [cB, -List.map_take, -List.map_drop,e5,e7,o7,e8,efo,k6]
   refine oc q1 ?_
   simp-implicitDefEqProofs (disch:=try exact dd) [cB, -List.map_take, -List.map_drop,e5,e7,o7,e8,efo,k6,h4]
  rw[if_neg h4]at hj;have hdl:(b.drop at_).length≤1000000:=by simp;omega
  have q2:=DT xb (by omega)
  by_cases h0:xe=0
  ·rw[if_neg (fun h=>h h0)]at hj
   obtain⟨p1,p2,_⟩:=hps h0;generalize jA xb=r at*
   obtain⟨l,f⟩:=r;dsimp only at hj q2;by_cases hf:f=0
   ·rw[if_neg (fun h=>h hf)]at hj
    obtain⟨m,rfl⟩:=Int.eq_ofNat_of_zero_le (show 0≤xn by omega)
    rw[Int.toNat_natCast]at hj;have hml:at_+m≤b.length:=by
     simp only[List.length_drop]at p2;omega
    simp-implicitDefEqProofs (disch:=try exact dd) [cB, -List.map_take, -List.map_drop,e5,e7,o7,e8,efo,k6]
    refine oc q1 ?_
    simp-implicitDefEqProofs (disch:=try exact dd) [cB, -List.map_take, -List.map_drop,e5,e7,o7,e8,efo,k6,h4]
    refine oc q2 ?_
    simp-implicitDefEqProofs (disch:=try exact dd) [cB, -List.map_take, -List.map_drop,e5,e7,o7,e8,efo,k6,h4,h0,hf]
    exact cE (n,at_+m,out++ [l]) (by refine⟨hj,hml,by show b.length+1≤at_+m+n;omega,by simp;omega,?_,?_,?_,by simp,?_⟩<;>simp-implicitDefEqProofs (disch:=try exact dd) [cB, -List.map_take, -List.map_drop,e5,cC.d,efo]) (by show b.length-(at_+m)<b.length-at_;omega)
   ·rw[if_pos hf]at hj;rw[←hj]
    simp-implicitDefEqProofs (disch:=try exact dd) [cB, -List.map_take, -List.map_drop,e5,e7,o7,e8,efo,k6]
    refine oc q1 ?_
    simp-implicitDefEqProofs (disch:=try exact dd) [cB, -List.map_take, -List.map_drop,e5,e7,o7,e8,efo,k6,h4]
    refine oc q2 ?_
    simp-implicitDefEqProofs (disch:=try exact dd) [cB, -List.map_take, -List.map_drop,e5,e7,o7,e8,efo,k6,h4,h0,hf]
  ·rw[if_pos h0]at hj;rw[←hj]
   simp-implicitDefEqProofs (disch:=try exact dd) [cB, -List.map_take, -List.map_drop,e5,e7,o7,e8,efo,k6]
   refine oc q1 ?_
   simp-implicitDefEqProofs (disch:=try exact dd) [cB, -List.map_take, -List.map_drop,e5,e7,o7,e8,efo,k6,h4]
   refine oc q2 ?_
   simp-implicitDefEqProofs (disch:=try exact dd) [cB, -List.map_take, -List.map_drop,e5,e7,o7,e8,efo,k6,h4,h0]
 ·rw[if_neg hlt]at hj;have k6: ¬(at_:Int)<b.length:=by omega
  rw[←hj]
  simp-implicitDefEqProofs (disch:=try exact dd) [cB, -List.map_take, -List.map_drop,e5,e7,o7,e8,efo,k6]
end Go.Proofs.YtoilfihojgeonaaGreatDoor
