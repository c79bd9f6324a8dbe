/- The facts on this seat's types that the engine asks for, each by reckoning. PRINTED by types.py. -/
import Derived.Test.YtoilfihojgeonaaGreatDoorS03
import Derived.Test.YtoilfihojgeonaaGreatDoorProg
import Derived.KernelRfl
namespace Go.Proofs.YtoilfihojgeonaaGreatDoor
open BoEng
set_option maxRecDepth 100000
@[simp] theorem sz3:cX Tryz.prog 3=1:=by kernel_rfl
@[simp] theorem aff:dL Tryz.prog 3=some false:=by kernel_rfl
@[simp] theorem zc3:gD Tryz.prog 3=some [.int .i64 0]:=by kernel_rfl
@[simp] theorem o_:Tryz.prog.underlying 3=some (.int .i64):=by kernel_rfl
@[simp] theorem sz4:cX Tryz.prog 4=1:=by kernel_rfl
@[simp] theorem afe:dL Tryz.prog 4=some false:=by kernel_rfl
@[simp] theorem IX:Tryz.prog.underlying 4=some .bool:=by kernel_rfl
@[simp] theorem sz5:cX Tryz.prog 5=1:=by kernel_rfl
@[simp] theorem afd:dL Tryz.prog 5=some false:=by kernel_rfl
@[simp] theorem IW:Tryz.prog.underlying 5=some (.int .u8):=by kernel_rfl
@[simp] theorem sz9:cX Tryz.prog 9=1:=by kernel_rfl
@[simp] theorem afc:dL Tryz.prog 9=some false:=by kernel_rfl
@[simp] theorem V9:Tryz.prog.underlying 9=some .string:=by kernel_rfl
@[simp] theorem ado:cX Tryz.prog 22=1:=by kernel_rfl
@[simp] theorem acs:dL Tryz.prog 22=some false:=by kernel_rfl
@[simp] theorem QV:Tryz.prog.underlying 22=some (.slice 109):=by kernel_rfl
@[simp] theorem aeZ:n5 Tryz.prog 22=true:=by kernel_rfl
@[simp] theorem aeq:mj Tryz.prog 22=1:=by kernel_rfl
@[simp] theorem adn:cX Tryz.prog 24=3:=by kernel_rfl
@[simp] theorem acr:dL Tryz.prog 24=some true:=by kernel_rfl
@[simp] theorem acS:gD Tryz.prog 24=some [.int .i64 0,.int .i64 0,.slice []]:=by kernel_rfl
@[simp] theorem acG:iT Tryz.prog 24=some [.int .i64 0,.int .i64 0,.slice []]:=by kernel_rfl
@[simp] theorem YL:c_ Tryz.prog 24 0=some (0,3):=by kernel_rfl
@[simp] theorem YK:c_ Tryz.prog 24 1=some (1,3):=by kernel_rfl
@[simp] theorem YJ:c_ Tryz.prog 24 2=some (2,22):=by kernel_rfl
@[simp] theorem QU:Tryz.prog.underlying 25=some (.slice 51):=by kernel_rfl
@[simp] theorem aep:mj Tryz.prog 25=6:=by kernel_rfl
@[simp] theorem adm:cX Tryz.prog 28=1:=by kernel_rfl
@[simp] theorem acq:dL Tryz.prog 28=some false:=by kernel_rfl
@[simp] theorem acR:gD Tryz.prog 28=some [.slice []]:=by kernel_rfl
@[simp] theorem aet:kP Tryz.prog 28=some 78:=by kernel_rfl
@[simp] theorem aeY:n5 Tryz.prog 28=true:=by kernel_rfl
@[simp] theorem aeo:mj Tryz.prog 28=4:=by kernel_rfl
@[simp] theorem afo:IE Tryz.prog 28=some true:=by kernel_rfl
@[simp] theorem afa:Bx Tryz.prog 28=some (4,40,.opq (.agg #[.int .i64 0,.int .i64 0,.int .i64 0,.string ByteArray.empty]),false):=by kernel_rfl
@[simp] theorem adl:cX Tryz.prog 29=1:=by kernel_rfl
@[simp] theorem acp:dL Tryz.prog 29=some false:=by kernel_rfl
@[simp] theorem aeX:n5 Tryz.prog 29=true:=by kernel_rfl
@[simp] theorem aen:mj Tryz.prog 29=2:=by kernel_rfl
@[simp] theorem aev:QF Tryz.prog 29=some (2,true):=by kernel_rfl
@[simp] theorem afn:IE Tryz.prog 29=some true:=by kernel_rfl
@[simp] theorem ae_:Bx Tryz.prog 29=some (2,32,.opq (.agg #[.slice none 0 0,.int .i64 0]),false):=by kernel_rfl
@[simp] theorem adk:cX Tryz.prog 30=1:=by kernel_rfl
@[simp] theorem aco:dL Tryz.prog 30=some false:=by kernel_rfl
@[simp] theorem aeW:n5 Tryz.prog 30=true:=by kernel_rfl
@[simp] theorem aem:mj Tryz.prog 30=2:=by kernel_rfl
@[simp] theorem afm:IE Tryz.prog 30=some true:=by kernel_rfl
@[simp] theorem ae':Bx Tryz.prog 30=some (2,24,.opq (.agg #[.string ByteArray.empty,.int .i64 0]),false):=by kernel_rfl
@[simp] theorem adj:cX Tryz.prog 32=3:=by kernel_rfl
@[simp] theorem acn:dL Tryz.prog 32=some true:=by kernel_rfl
@[simp] theorem acQ:gD Tryz.prog 32=some [.slice [],.slice [],.slice []]:=by kernel_rfl
@[simp] theorem Xd:ud Tryz.prog 32 0=true:=by kernel_rfl
@[simp] theorem acF:iT Tryz.prog 32=some [.slice [],.slice [],.slice []]:=by kernel_rfl
@[simp] theorem YI:c_ Tryz.prog 32 0=some (0,29):=by kernel_rfl
@[simp] theorem YH:c_ Tryz.prog 32 1=some (1,30):=by kernel_rfl
@[simp] theorem YG:c_ Tryz.prog 32 2=some (2,30):=by kernel_rfl
@[simp] theorem adi:cX Tryz.prog 34=4:=by kernel_rfl
@[simp] theorem acm:dL Tryz.prog 34=some true:=by kernel_rfl
@[simp] theorem acP:gD Tryz.prog 34=some [.slice [],.slice [],.slice [],.slice []]:=by kernel_rfl
@[simp] theorem acE:iT Tryz.prog 34=some [.slice [],.slice [],.slice [],.slice []]:=by kernel_rfl
@[simp] theorem YF:c_ Tryz.prog 34 0=some (0,28):=by kernel_rfl
@[simp] theorem YE:c_ Tryz.prog 34 1=some (1,32):=by kernel_rfl
@[simp] theorem adh:cX Tryz.prog 36=10:=by kernel_rfl
@[simp] theorem acj:dL Tryz.prog 36=some true:=by kernel_rfl
@[simp] theorem acO:gD Tryz.prog 36=some [.int .i64 0,.int .i64 0,.slice [],.slice [],.slice [],.slice [],.slice [],.int .i64 0,.int .i64 0,.bool false]:=by kernel_rfl
@[simp] theorem acD:iT Tryz.prog 36=some [.int .i64 0,.int .i64 0,.slice [],.slice [],.slice [],.slice [],.slice [],.int .i64 0,.int .i64 0,.bool false]:=by kernel_rfl
@[simp] theorem YD:c_ Tryz.prog 36 0=some (0,24):=by kernel_rfl
@[simp] theorem YC:c_ Tryz.prog 36 1=some (3,34):=by kernel_rfl
@[simp] theorem YB:c_ Tryz.prog 36 2=some (7,3):=by kernel_rfl
@[simp] theorem YA:c_ Tryz.prog 36 3=some (8,3):=by kernel_rfl
@[simp] theorem Yz:c_ Tryz.prog 36 4=some (9,4):=by kernel_rfl
@[simp] theorem adg:cX Tryz.prog 38=1:=by kernel_rfl
@[simp] theorem aci:dL Tryz.prog 38=some false:=by kernel_rfl
@[simp] theorem aeV:n5 Tryz.prog 38=true:=by kernel_rfl
@[simp] theorem ael:mj Tryz.prog 38=2:=by kernel_rfl
@[simp] theorem afl:IE Tryz.prog 38=some true:=by kernel_rfl
@[simp] theorem ae9:Bx Tryz.prog 38=some (2,32,.opq (.agg #[.slice none 0 0,.int .i64 0]),false):=by kernel_rfl
@[simp] theorem adf:cX Tryz.prog 39=1:=by kernel_rfl
@[simp] theorem ach:dL Tryz.prog 39=some false:=by kernel_rfl
@[simp] theorem aeU:n5 Tryz.prog 39=true:=by kernel_rfl
@[simp] theorem aek:mj Tryz.prog 39=2:=by kernel_rfl
@[simp] theorem afk:IE Tryz.prog 39=some true:=by kernel_rfl
@[simp] theorem ae8:Bx Tryz.prog 39=some (2,24,.opq (.agg #[.string ByteArray.empty,.int .i64 0]),false):=by kernel_rfl
@[simp] theorem ade:cX Tryz.prog 41=3:=by kernel_rfl
@[simp] theorem acg:dL Tryz.prog 41=some true:=by kernel_rfl
@[simp] theorem acN:gD Tryz.prog 41=some [.slice [],.slice [],.slice []]:=by kernel_rfl
@[simp] theorem Xc:ud Tryz.prog 41 0=true:=by kernel_rfl
@[simp] theorem Xb:ud Tryz.prog 41 1=true:=by kernel_rfl
@[simp] theorem Xa:ud Tryz.prog 41 2=true:=by kernel_rfl
@[simp] theorem Yy:c_ Tryz.prog 41 0=some (0,38):=by kernel_rfl
@[simp] theorem Yx:c_ Tryz.prog 41 1=some (1,39):=by kernel_rfl
@[simp] theorem Yw:c_ Tryz.prog 41 2=some (2,39):=by kernel_rfl
@[simp] theorem adb:cX Tryz.prog 43=4:=by kernel_rfl
@[simp] theorem acf:dL Tryz.prog 43=some true:=by kernel_rfl
@[simp] theorem acM:gD Tryz.prog 43=some [.slice [],.slice [],.slice [],.slice []]:=by kernel_rfl
@[simp] theorem acC:iT Tryz.prog 43=some [.slice [],.slice [],.slice [],.slice []]:=by kernel_rfl
@[simp] theorem Yv:c_ Tryz.prog 43 0=some (0,28):=by kernel_rfl
@[simp] theorem Yu:c_ Tryz.prog 43 1=some (1,41):=by kernel_rfl
@[simp] theorem ada:cX Tryz.prog 45=10:=by kernel_rfl
@[simp] theorem ace:dL Tryz.prog 45=some true:=by kernel_rfl
@[simp] theorem acL:gD Tryz.prog 45=some [.int .i64 0,.int .i64 0,.slice [],.slice [],.slice [],.slice [],.slice [],.int .i64 0,.int .i64 0,.bool false]:=by kernel_rfl
@[simp] theorem acB:iT Tryz.prog 45=some [.int .i64 0,.int .i64 0,.slice [],.slice [],.slice [],.slice [],.slice [],.int .i64 0,.int .i64 0,.bool false]:=by kernel_rfl
@[simp] theorem Yt:c_ Tryz.prog 45 0=some (0,24):=by kernel_rfl
@[simp] theorem Ys:c_ Tryz.prog 45 1=some (3,43):=by kernel_rfl
@[simp] theorem Yr:c_ Tryz.prog 45 2=some (7,3):=by kernel_rfl
@[simp] theorem Yq:c_ Tryz.prog 45 3=some (8,3):=by kernel_rfl
@[simp] theorem Yp:c_ Tryz.prog 45 4=some (9,4):=by kernel_rfl
@[simp] theorem ac_:cX Tryz.prog 48=1:=by kernel_rfl
@[simp] theorem acd:dL Tryz.prog 48=some false:=by kernel_rfl
@[simp] theorem acK:gD Tryz.prog 48=some [.slice []]:=by kernel_rfl
@[simp] theorem W_:ud Tryz.prog 48 0=true:=by kernel_rfl
@[simp] theorem Fx:Tryz.prog.underlying 48=some (.slice 5):=by kernel_rfl
@[simp] theorem aeT:n5 Tryz.prog 48=true:=by kernel_rfl
@[simp] theorem aej:mj Tryz.prog 48=1:=by kernel_rfl
@[simp] theorem aeu:QF Tryz.prog 48=some (1,false):=by kernel_rfl
@[simp] theorem afj:IE Tryz.prog 48=some false:=by kernel_rfl
@[simp] theorem ae7:Bx Tryz.prog 48=some (1,1,.int .u8 0,true):=by kernel_rfl
@[simp] theorem ac':cX Tryz.prog 49=1:=by kernel_rfl
@[simp] theorem acb:dL Tryz.prog 49=some false:=by kernel_rfl
@[simp] theorem Nq:Tryz.prog.underlying 49=some (.slice 3):=by kernel_rfl
@[simp] theorem aeS:n5 Tryz.prog 49=true:=by kernel_rfl
@[simp] theorem aei:mj Tryz.prog 49=1:=by kernel_rfl
@[simp] theorem afi:IE Tryz.prog 49=some false:=by kernel_rfl
@[simp] theorem ae6:Bx Tryz.prog 49=some (1,8,.int .i64 0,true):=by kernel_rfl
@[simp] theorem ac9:cX Tryz.prog 51=6:=by kernel_rfl
@[simp] theorem aca:dL Tryz.prog 51=some true:=by kernel_rfl
@[simp] theorem Yo:c_ Tryz.prog 51 0=some (0,3):=by kernel_rfl
@[simp] theorem Yn:c_ Tryz.prog 51 1=some (1,3):=by kernel_rfl
@[simp] theorem Ym:c_ Tryz.prog 51 2=some (2,3):=by kernel_rfl
@[simp] theorem Yl:c_ Tryz.prog 51 3=some (3,48):=by kernel_rfl
@[simp] theorem Yk:c_ Tryz.prog 51 4=some (4,49):=by kernel_rfl
@[simp] theorem Yj:c_ Tryz.prog 51 5=some (5,4):=by kernel_rfl
@[simp] theorem aeR:n5 Tryz.prog 52=true:=by kernel_rfl
@[simp] theorem aeh:mj Tryz.prog 52=4:=by kernel_rfl
@[simp] theorem ac8:cX Tryz.prog 64=1:=by kernel_rfl
@[simp] theorem ab_:dL Tryz.prog 64=some false:=by kernel_rfl
@[simp] theorem aeQ:n5 Tryz.prog 64=true:=by kernel_rfl
@[simp] theorem aeg:mj Tryz.prog 64=2:=by kernel_rfl
@[simp] theorem afh:IE Tryz.prog 64=some true:=by kernel_rfl
@[simp] theorem ae5:Bx Tryz.prog 64=some (2,32,.opq (.agg #[.int .i64 0,.slice none 0 0]),false):=by kernel_rfl
@[simp] theorem ac7:cX Tryz.prog 66=13:=by kernel_rfl
@[simp] theorem ab':dL Tryz.prog 66=some true:=by kernel_rfl
@[simp] theorem acJ:gD Tryz.prog 66=some [.int .i64 0,.int .i64 0,.int .i64 0,.int .i64 0,.int .i64 0,.int .i64 0,.int .i64 0,.int .i64 0,.int .i64 0,.int .i64 0,.int .i64 0,.slice [],.slice []]:=by kernel_rfl
@[simp] theorem acA:iT Tryz.prog 66=some [.int .i64 0,.int .i64 0,.int .i64 0,.int .i64 0,.int .i64 0,.int .i64 0,.int .i64 0,.int .i64 0,.int .i64 0,.int .i64 0,.int .i64 0,.slice [],.slice []]:=by kernel_rfl
@[simp] theorem Yi:c_ Tryz.prog 66 0=some (0,3):=by kernel_rfl
@[simp] theorem Yh:c_ Tryz.prog 66 1=some (1,3):=by kernel_rfl
@[simp] theorem Yg:c_ Tryz.prog 66 2=some (2,3):=by kernel_rfl
@[simp] theorem Yf:c_ Tryz.prog 66 3=some (3,3):=by kernel_rfl
@[simp] theorem Ye:c_ Tryz.prog 66 4=some (4,3):=by kernel_rfl
@[simp] theorem Yd:c_ Tryz.prog 66 5=some (5,3):=by kernel_rfl
@[simp] theorem Yc:c_ Tryz.prog 66 6=some (6,3):=by kernel_rfl
@[simp] theorem Yb:c_ Tryz.prog 66 7=some (7,3):=by kernel_rfl
@[simp] theorem Ya:c_ Tryz.prog 66 8=some (8,3):=by kernel_rfl
@[simp] theorem X_:c_ Tryz.prog 66 9=some (9,3):=by kernel_rfl
@[simp] theorem Uu:c_ Tryz.prog 66 10=some (10,3):=by kernel_rfl
@[simp] theorem Ut:c_ Tryz.prog 66 11=some (11,48):=by kernel_rfl
@[simp] theorem Us:c_ Tryz.prog 66 12=some (12,64):=by kernel_rfl
@[simp] theorem ac6:cX Tryz.prog 70=3:=by kernel_rfl
@[simp] theorem ab9:dL Tryz.prog 70=some true:=by kernel_rfl
@[simp] theorem acI:gD Tryz.prog 70=some [.int .i64 0,.int .i64 0,.bool false]:=by kernel_rfl
@[simp] theorem acz:iT Tryz.prog 70=some [.int .i64 0,.int .i64 0,.bool false]:=by kernel_rfl
@[simp] theorem X':c_ Tryz.prog 70 0=some (0,3):=by kernel_rfl
@[simp] theorem X9:c_ Tryz.prog 70 1=some (1,3):=by kernel_rfl
@[simp] theorem X8:c_ Tryz.prog 70 2=some (2,4):=by kernel_rfl
@[simp] theorem acy:iT Tryz.prog 72=some [.slice [],.int .i64 0,.int .i64 0,.bool false]:=by kernel_rfl
@[simp] theorem X7:c_ Tryz.prog 72 0=some (0,48):=by kernel_rfl
@[simp] theorem X6:c_ Tryz.prog 72 1=some (1,70):=by kernel_rfl
@[simp] theorem ac5:cX Tryz.prog 78=4:=by kernel_rfl
@[simp] theorem ab8:dL Tryz.prog 78=some true:=by kernel_rfl
@[simp] theorem acH:gD Tryz.prog 78=some [.int .i64 0,.int .i64 0,.int .i64 0,.str []]:=by kernel_rfl
@[simp] theorem aes:Pq Tryz.prog 78=some [(0,0),(1,0),(2,0),(3,2)]:=by kernel_rfl
@[simp] theorem acx:iT Tryz.prog 78=some [.int .i64 0,.int .i64 0,.int .i64 0,.str []]:=by kernel_rfl
@[simp] theorem X5:c_ Tryz.prog 78 0=some (0,3):=by kernel_rfl
@[simp] theorem X4:c_ Tryz.prog 78 1=some (1,3):=by kernel_rfl
@[simp] theorem X3:c_ Tryz.prog 78 2=some (2,3):=by kernel_rfl
@[simp] theorem X2:c_ Tryz.prog 78 3=some (3,9):=by kernel_rfl
@[simp] theorem aaC:cX Tryz.prog 107=1:=by kernel_rfl
@[simp] theorem ZN:dL Tryz.prog 107=some false:=by kernel_rfl
@[simp] theorem Oi:Tryz.prog.underlying 107=some (.slice 113):=by kernel_rfl
@[simp] theorem abI:n5 Tryz.prog 107=true:=by kernel_rfl
@[simp] theorem abq:mj Tryz.prog 107=7:=by kernel_rfl
@[simp] theorem aaB:cX Tryz.prog 109=1:=by kernel_rfl
@[simp] theorem ZM:dL Tryz.prog 109=some true:=by kernel_rfl
@[simp] theorem aah:gD Tryz.prog 109=some [.slice []]:=by kernel_rfl
@[simp] theorem Z8:iT Tryz.prog 109=some [.slice []]:=by kernel_rfl
@[simp] theorem Vs:c_ Tryz.prog 109 0=some (0,107):=by kernel_rfl
@[simp] theorem aaA:cX Tryz.prog 110=1:=by kernel_rfl
@[simp] theorem ZL:dL Tryz.prog 110=some false:=by kernel_rfl
@[simp] theorem Oh:Tryz.prog.underlying 110=some (.slice 172):=by kernel_rfl
@[simp] theorem abH:n5 Tryz.prog 110=true:=by kernel_rfl
@[simp] theorem abp:mj Tryz.prog 110=2:=by kernel_rfl
@[simp] theorem aaz:cX Tryz.prog 111=1:=by kernel_rfl
@[simp] theorem ZK:dL Tryz.prog 111=some false:=by kernel_rfl
@[simp] theorem Og:Tryz.prog.underlying 111=some (.slice 115):=by kernel_rfl
@[simp] theorem abG:n5 Tryz.prog 111=true:=by kernel_rfl
@[simp] theorem abo:mj Tryz.prog 111=2:=by kernel_rfl
@[simp] theorem aay:cX Tryz.prog 113=7:=by kernel_rfl
@[simp] theorem ZJ:dL Tryz.prog 113=some true:=by kernel_rfl
@[simp] theorem aag:gD Tryz.prog 113=some [.int .i64 0,.int .i64 0,.slice [],.slice [],.int .i64 0,.int .i64 0,.int .i64 0]:=by kernel_rfl
@[simp] theorem Z7:iT Tryz.prog 113=some [.int .i64 0,.int .i64 0,.slice [],.slice [],.int .i64 0,.int .i64 0,.int .i64 0]:=by kernel_rfl
@[simp] theorem Vr:c_ Tryz.prog 113 0=some (0,3):=by kernel_rfl
@[simp] theorem Vq:c_ Tryz.prog 113 1=some (1,3):=by kernel_rfl
@[simp] theorem Vp:c_ Tryz.prog 113 2=some (2,110):=by kernel_rfl
@[simp] theorem Vo:c_ Tryz.prog 113 3=some (3,111):=by kernel_rfl
@[simp] theorem Vn:c_ Tryz.prog 113 4=some (4,3):=by kernel_rfl
@[simp] theorem Vm:c_ Tryz.prog 113 5=some (5,3):=by kernel_rfl
@[simp] theorem Vl:c_ Tryz.prog 113 6=some (6,3):=by kernel_rfl
@[simp] theorem aax:cX Tryz.prog 115=2:=by kernel_rfl
@[simp] theorem ZI:dL Tryz.prog 115=some true:=by kernel_rfl
@[simp] theorem aaf:gD Tryz.prog 115=some [.str [],.int .i64 0]:=by kernel_rfl
@[simp] theorem Z6:iT Tryz.prog 115=some [.str [],.int .i64 0]:=by kernel_rfl
@[simp] theorem Vk:c_ Tryz.prog 115 0=some (0,9):=by kernel_rfl
@[simp] theorem Vj:c_ Tryz.prog 115 1=some (1,3):=by kernel_rfl
@[simp] theorem aaw:cX Tryz.prog 119=2:=by kernel_rfl
@[simp] theorem ZH:dL Tryz.prog 119=some true:=by kernel_rfl
@[simp] theorem aae:gD Tryz.prog 119=some [.int .i64 0,.slice []]:=by kernel_rfl
@[simp] theorem Z5:iT Tryz.prog 119=some [.int .i64 0,.slice []]:=by kernel_rfl
@[simp] theorem Vi:c_ Tryz.prog 119 0=some (0,3):=by kernel_rfl
@[simp] theorem Vh:c_ Tryz.prog 119 1=some (1,48):=by kernel_rfl
@[simp] theorem aav:cX Tryz.prog 120=13:=by kernel_rfl
@[simp] theorem ZG:dL Tryz.prog 120=some true:=by kernel_rfl
@[simp] theorem aad:gD Tryz.prog 120=some [.int .i64 0,.int .i64 0,.int .i64 0,.int .i64 0,.int .i64 0,.int .i64 0,.int .i64 0,.int .i64 0,.int .i64 0,.int .i64 0,.int .i64 0,.slice [],.slice []]:=by kernel_rfl
@[simp] theorem Z4:iT Tryz.prog 120=some [.int .i64 0,.int .i64 0,.int .i64 0,.int .i64 0,.int .i64 0,.int .i64 0,.int .i64 0,.int .i64 0,.int .i64 0,.int .i64 0,.int .i64 0,.slice [],.slice []]:=by kernel_rfl
@[simp] theorem Vg:c_ Tryz.prog 120 0=some (0,3):=by kernel_rfl
@[simp] theorem Vf:c_ Tryz.prog 120 1=some (1,3):=by kernel_rfl
@[simp] theorem Ve:c_ Tryz.prog 120 2=some (2,3):=by kernel_rfl
@[simp] theorem Vd:c_ Tryz.prog 120 3=some (3,3):=by kernel_rfl
@[simp] theorem Vc:c_ Tryz.prog 120 4=some (4,3):=by kernel_rfl
@[simp] theorem Vb:c_ Tryz.prog 120 5=some (5,3):=by kernel_rfl
@[simp] theorem Va:c_ Tryz.prog 120 6=some (6,3):=by kernel_rfl
@[simp] theorem U_:c_ Tryz.prog 120 7=some (7,3):=by kernel_rfl
@[simp] theorem U':c_ Tryz.prog 120 8=some (8,3):=by kernel_rfl
@[simp] theorem U9:c_ Tryz.prog 120 9=some (9,3):=by kernel_rfl
@[simp] theorem Sx:c_ Tryz.prog 120 10=some (10,3):=by kernel_rfl
@[simp] theorem Sw:c_ Tryz.prog 120 11=some (11,48):=by kernel_rfl
@[simp] theorem Sv:c_ Tryz.prog 120 12=some (12,64):=by kernel_rfl
@[simp] theorem aau:cX Tryz.prog 121=1:=by kernel_rfl
@[simp] theorem Z3:iT Tryz.prog 143=some [.int .i64 0,.int .i64 0,.slice [],.slice [],.slice [],.slice [],.slice [],.int .i64 0,.int .i64 0,.bool false]:=by kernel_rfl
@[simp] theorem U8:c_ Tryz.prog 143 0=some (0,36):=by kernel_rfl
@[simp] theorem aat:cX Tryz.prog 145=22:=by kernel_rfl
@[simp] theorem ZF:dL Tryz.prog 145=some true:=by kernel_rfl
@[simp] theorem aac:gD Tryz.prog 145=some [.bool false,.bool false,.int .i64 0,.int .i64 0,.int .i64 0,.int .i64 0,.int .i64 0,.int .i64 0,.int .i64 0,.int .i64 0,.int .i64 0,.int .i64 0,.int .i64 0,.slice [],.slice [],.int .i64 0,.int .i64 0,.bool false,.int .i64 0,.int .i64 0,.int .i64 0,.str []]:=by kernel_rfl
@[simp] theorem Z2:iT Tryz.prog 145=some [.bool false,.bool false,.int .i64 0,.int .i64 0,.int .i64 0,.int .i64 0,.int .i64 0,.int .i64 0,.int .i64 0,.int .i64 0,.int .i64 0,.int .i64 0,.int .i64 0,.slice [],.slice [],.int .i64 0,.int .i64 0,.bool false,.int .i64 0,.int .i64 0,.int .i64 0,.str []]:=by kernel_rfl
@[simp] theorem U7:c_ Tryz.prog 145 0=some (0,4):=by kernel_rfl
@[simp] theorem U6:c_ Tryz.prog 145 1=some (1,4):=by kernel_rfl
@[simp] theorem U5:c_ Tryz.prog 145 2=some (2,120):=by kernel_rfl
@[simp] theorem U4:c_ Tryz.prog 145 3=some (15,70):=by kernel_rfl
@[simp] theorem U3:c_ Tryz.prog 145 4=some (18,78):=by kernel_rfl
@[simp] theorem aas:cX Tryz.prog 172=2:=by kernel_rfl
@[simp] theorem ZE:dL Tryz.prog 172=some true:=by kernel_rfl
@[simp] theorem aab:gD Tryz.prog 172=some [.int .i64 0,.int .i64 0]:=by kernel_rfl
@[simp] theorem Z1:iT Tryz.prog 172=some [.int .i64 0,.int .i64 0]:=by kernel_rfl
@[simp] theorem U2:c_ Tryz.prog 172 0=some (0,3):=by kernel_rfl
@[simp] theorem U1:c_ Tryz.prog 172 1=some (1,3):=by kernel_rfl
@[simp] theorem aar:cX Tryz.prog 176=1:=by kernel_rfl
@[simp] theorem Z0:iT Tryz.prog 206=some [.int .i64 0,.int .i64 0,.slice [],.slice [],.int .i64 0,.int .i64 0,.int .i64 0,.int .i64 0,.int .i64 0,.int .i64 0,.int .i64 0,.int .i64 0,.int .i64 0,.int .i64 0,.int .i64 0,.slice [],.slice [],.str [],.int .i64 0,.int .i64 0,.int .i64 0]:=by kernel_rfl
@[simp] theorem U0:c_ Tryz.prog 206 0=some (0,24):=by kernel_rfl
@[simp] theorem UZ:c_ Tryz.prog 206 1=some (3,28):=by kernel_rfl
@[simp] theorem UY:c_ Tryz.prog 206 2=some (4,120):=by kernel_rfl
@[simp] theorem UX:c_ Tryz.prog 206 3=some (17,9):=by kernel_rfl
@[simp] theorem UW:c_ Tryz.prog 206 4=some (18,3):=by kernel_rfl
@[simp] theorem UU:c_ Tryz.prog 206 5=some (19,3):=by kernel_rfl
@[simp] theorem UT:c_ Tryz.prog 206 6=some (20,3):=by kernel_rfl
@[simp] theorem aa1:NO Tryz.prog 208=some (.int .i64,207):=by kernel_rfl
@[simp] theorem aaZ:(eQ Tryz.prog 207).map ofConst=some (.d (.opq .nilFunc)):=by kernel_rfl
@[simp] theorem aaq:cX Tryz.prog 211=1:=by kernel_rfl
@[simp] theorem ZD:dL Tryz.prog 211=some false:=by kernel_rfl
@[simp] theorem abF:n5 Tryz.prog 211=true:=by kernel_rfl
@[simp] theorem abn:mj Tryz.prog 211=4:=by kernel_rfl
@[simp] theorem acv:IE Tryz.prog 211=some true:=by kernel_rfl
@[simp] theorem ab7:Bx Tryz.prog 211=some (4,64,.opq (.agg #[.int .i64 0,.string ByteArray.empty,.string ByteArray.empty,.slice none 0 0]),false):=by kernel_rfl
@[simp] theorem aap:cX Tryz.prog 215=1:=by kernel_rfl
@[simp] theorem ZC:dL Tryz.prog 215=some false:=by kernel_rfl
@[simp] theorem ZZ:iT Tryz.prog 217=some [.slice [],.opq .nilFunc]:=by kernel_rfl
@[simp] theorem US:c_ Tryz.prog 217 0=some (0,211):=by kernel_rfl
@[simp] theorem UR:c_ Tryz.prog 217 1=some (1,215):=by kernel_rfl
@[simp] theorem aao:cX Tryz.prog 226=2:=by kernel_rfl
@[simp] theorem ZB:dL Tryz.prog 226=some true:=by kernel_rfl
@[simp] theorem aaa:gD Tryz.prog 226=some [.str [],.int .i64 0]:=by kernel_rfl
@[simp] theorem ZY:iT Tryz.prog 226=some [.str [],.int .i64 0]:=by kernel_rfl
@[simp] theorem UQ:c_ Tryz.prog 226 0=some (0,9):=by kernel_rfl
@[simp] theorem UP:c_ Tryz.prog 226 1=some (1,3):=by kernel_rfl
@[simp] theorem aan:cX Tryz.prog 229=2:=by kernel_rfl
@[simp] theorem ZA:dL Tryz.prog 229=some true:=by kernel_rfl
@[simp] theorem Z_:gD Tryz.prog 229=some [.slice [],.int .i64 0]:=by kernel_rfl
@[simp] theorem ZX:iT Tryz.prog 229=some [.slice [],.int .i64 0]:=by kernel_rfl
@[simp] theorem UO:c_ Tryz.prog 229 0=some (0,48):=by kernel_rfl
@[simp] theorem UN:c_ Tryz.prog 229 1=some (1,3):=by kernel_rfl
@[simp] theorem ZW:iT Tryz.prog 246=some [.int .i64 0]:=by kernel_rfl
@[simp] theorem UM:c_ Tryz.prog 246 0=some (0,121):=by kernel_rfl
@[simp] theorem abE:n5 Tryz.prog 260=true:=by kernel_rfl
@[simp] theorem abm:mj Tryz.prog 260=9:=by kernel_rfl
@[simp] theorem acu:IE Tryz.prog 260=some true:=by kernel_rfl
@[simp] theorem ab6:Bx Tryz.prog 260=some (9,104,.opq (.agg #[.int .i64 0,.int .i64 0,.int .i64 0,.int .i64 0,.slice none 0 0,.slice none 0 0,.int .i64 0,.int .i64 0,.int .i64 0]),false):=by kernel_rfl
@[simp] theorem aam:cX Tryz.prog 263=9:=by kernel_rfl
@[simp] theorem Zz:dL Tryz.prog 263=some true:=by kernel_rfl
@[simp] theorem Z':gD Tryz.prog 263=some [.int .i64 0,.int .i64 0,.int .i64 0,.int .i64 0,.slice [],.slice [],.int .i64 0,.int .i64 0,.int .i64 0]:=by kernel_rfl
@[simp] theorem ZV:iT Tryz.prog 263=some [.int .i64 0,.int .i64 0,.int .i64 0,.int .i64 0,.slice [],.slice [],.int .i64 0,.int .i64 0,.int .i64 0]:=by kernel_rfl
@[simp] theorem UL:c_ Tryz.prog 263 0=some (0,3):=by kernel_rfl
@[simp] theorem UK:c_ Tryz.prog 263 1=some (1,3):=by kernel_rfl
@[simp] theorem UJ:c_ Tryz.prog 263 2=some (2,113):=by kernel_rfl
@[simp] theorem ZU:iT Tryz.prog 300=some [.slice [],.int .i64 0]:=by kernel_rfl
@[simp] theorem UI:c_ Tryz.prog 300 0=some (0,48):=by kernel_rfl
@[simp] theorem UH:c_ Tryz.prog 300 1=some (1,3):=by kernel_rfl
@[simp] theorem aal:cX Tryz.prog 301=2:=by kernel_rfl
@[simp] theorem Zy:dL Tryz.prog 301=some true:=by kernel_rfl
@[simp] theorem abr:Pq Tryz.prog 301=some [(0,2),(1,0)]:=by kernel_rfl
@[simp] theorem ZT:iT Tryz.prog 301=some [.str [],.int .i64 0]:=by kernel_rfl
@[simp] theorem UG:c_ Tryz.prog 301 0=some (0,9):=by kernel_rfl
@[simp] theorem UF:c_ Tryz.prog 301 1=some (1,3):=by kernel_rfl
@[simp] theorem aak:cX Tryz.prog 303=1:=by kernel_rfl
@[simp] theorem Zx:dL Tryz.prog 303=some false:=by kernel_rfl
@[simp] theorem aaj:cX Tryz.prog 314=4:=by kernel_rfl
@[simp] theorem Zw:dL Tryz.prog 314=some true:=by kernel_rfl
@[simp] theorem ZS:iT Tryz.prog 314=some [.int .i64 0,.str [],.str [],.slice []]:=by kernel_rfl
@[simp] theorem UE:c_ Tryz.prog 314 0=some (0,3):=by kernel_rfl
@[simp] theorem UD:c_ Tryz.prog 314 1=some (1,9):=by kernel_rfl
@[simp] theorem UC:c_ Tryz.prog 314 2=some (2,9):=by kernel_rfl
@[simp] theorem UB:c_ Tryz.prog 314 3=some (3,48):=by kernel_rfl
@[simp] theorem T0:ud Tryz.prog 324 0=true:=by kernel_rfl
@[simp] theorem TZ:ud Tryz.prog 324 4=true:=by kernel_rfl
@[simp] theorem ZR:iT Tryz.prog 324=some [.slice [],.slice [],.slice [],.slice [],.slice []]:=by kernel_rfl
@[simp] theorem UA:c_ Tryz.prog 324 0=some (0,32):=by kernel_rfl
@[simp] theorem Uz:c_ Tryz.prog 324 1=some (3,29):=by kernel_rfl
@[simp] theorem Uy:c_ Tryz.prog 324 2=some (4,49):=by kernel_rfl
@[simp] theorem ZQ:iT Tryz.prog 328=some [.str [],.opq .nilIface]:=by kernel_rfl
@[simp] theorem Ux:c_ Tryz.prog 328 0=some (0,9):=by kernel_rfl
@[simp] theorem Uw:c_ Tryz.prog 328 1=some (1,176):=by kernel_rfl
@[simp] theorem abD:n5 Tryz.prog 370=true:=by kernel_rfl
@[simp] theorem abl:mj Tryz.prog 370=1:=by kernel_rfl
@[simp] theorem aai:cX Tryz.prog 373=1:=by kernel_rfl
@[simp] theorem Zv:dL Tryz.prog 373=some true:=by kernel_rfl
@[simp] theorem Z9:gD Tryz.prog 373=some [.opq .nilFunc]:=by kernel_rfl
@[simp] theorem ZP:iT Tryz.prog 373=some [.opq .nilFunc]:=by kernel_rfl
@[simp] theorem Uv:c_ Tryz.prog 373 0=some (0,303):=by kernel_rfl
@[simp] theorem abu:kP Tryz.prog 382=some 30:=by kernel_rfl
@[simp] theorem abC:n5 Tryz.prog 382=true:=by kernel_rfl
@[simp] theorem abk:mj Tryz.prog 382=1:=by kernel_rfl
@[simp] theorem abB:n5 Tryz.prog 383=true:=by kernel_rfl
@[simp] theorem abj:mj Tryz.prog 383=1:=by kernel_rfl
@[simp] theorem aa0:NO Tryz.prog 416=some (.int .i64,415):=by kernel_rfl
@[simp] theorem aaY:(eQ Tryz.prog 415).map ofConst=some (.d (.opq .nilFunc)):=by kernel_rfl
@[simp] theorem abi:mj Tryz.prog 417=1:=by kernel_rfl
@[simp] theorem ab5:Bx Tryz.prog 417=some (1,1,.bool false,true):=by kernel_rfl
end Go.Proofs.YtoilfihojgeonaaGreatDoor
