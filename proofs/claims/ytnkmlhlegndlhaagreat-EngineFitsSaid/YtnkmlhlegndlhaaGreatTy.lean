/- The facts on this seat's types that the engine asks for, each by reckoning. PRINTED by types.py. -/
import Derived.Test.YtnkmlhlegndlhaaGreatEngZ
import Derived.Test.YtnkmlhlegndlhaaGreatProg
import Derived.KernelRfl
namespace Go.Proofs.YtnkmlhlegndlhaaGreat
open BoEng
set_option maxRecDepth 100000
@[simp] theorem sz3 : szT Tryz.prog 3 = 1 := by kernel_rfl
@[simp] theorem agg3 : aggT Tryz.prog 3 = some false := by kernel_rfl
@[simp] theorem und3 : Tryz.prog.underlying 3 = some (.int .i64) := by kernel_rfl
@[simp] theorem sz4 : szT Tryz.prog 4 = 1 := by kernel_rfl
@[simp] theorem agg4 : aggT Tryz.prog 4 = some false := by kernel_rfl
@[simp] theorem sz5 : szT Tryz.prog 5 = 1 := by kernel_rfl
@[simp] theorem agg5 : aggT Tryz.prog 5 = some false := by kernel_rfl
@[simp] theorem und5 : Tryz.prog.underlying 5 = some (.int .u8) := by kernel_rfl
@[simp] theorem sz9 : szT Tryz.prog 9 = 1 := by kernel_rfl
@[simp] theorem agg9 : aggT Tryz.prog 9 = some false := by kernel_rfl
@[simp] theorem und9 : Tryz.prog.underlying 9 = some .string := by kernel_rfl
@[simp] theorem sz22 : szT Tryz.prog 22 = 1 := by kernel_rfl
@[simp] theorem agg22 : aggT Tryz.prog 22 = some false := by kernel_rfl
@[simp] theorem und22 : Tryz.prog.underlying 22 = some (.slice 111) := by kernel_rfl
@[simp] theorem bz22 : bslZ Tryz.prog 22 = true := by kernel_rfl
@[simp] theorem es22 : eSz Tryz.prog 22 = 1 := by kernel_rfl
@[simp] theorem sz24 : szT Tryz.prog 24 = 3 := by kernel_rfl
@[simp] theorem agg24 : aggT Tryz.prog 24 = some true := by kernel_rfl
@[simp] theorem zc24 : zeroC Tryz.prog 24 = some [.int .i64 0, .int .i64 0, .slice []] := by kernel_rfl
@[simp] theorem zs24 : zstr Tryz.prog 24 = some [.int .i64 0, .int .i64 0, .slice []] := by kernel_rfl
@[simp] theorem fl24_0 : fldT Tryz.prog 24 0 = some (0, 3) := by kernel_rfl
@[simp] theorem fl24_1 : fldT Tryz.prog 24 1 = some (1, 3) := by kernel_rfl
@[simp] theorem fl24_2 : fldT Tryz.prog 24 2 = some (2, 22) := by kernel_rfl
@[simp] theorem sz25 : szT Tryz.prog 25 = 1 := by kernel_rfl
@[simp] theorem agg25 : aggT Tryz.prog 25 = some false := by kernel_rfl
@[simp] theorem el25 : elT Tryz.prog 25 = some 35 := by kernel_rfl
@[simp] theorem und25 : Tryz.prog.underlying 25 = some (.slice 35) := by kernel_rfl
@[simp] theorem bz25 : bslZ Tryz.prog 25 = true := by kernel_rfl
@[simp] theorem es25 : eSz Tryz.prog 25 = 4 := by kernel_rfl
@[simp] theorem ae25 : agE Tryz.prog 25 = some true := by kernel_rfl
@[simp] theorem ap25 : apT Tryz.prog 25 = some (4, 40, .opq (.agg #[.int .i64 0, .int .i64 0, .int .i64 0, .string ByteArray.empty]), false) := by kernel_rfl
@[simp] theorem sz26 : szT Tryz.prog 26 = 1 := by kernel_rfl
@[simp] theorem agg26 : aggT Tryz.prog 26 = some false := by kernel_rfl
@[simp] theorem zc26 : zeroC Tryz.prog 26 = some [.slice []] := by kernel_rfl
@[simp] theorem nc26_0 : nilC Tryz.prog 26 0 = true := by kernel_rfl
@[simp] theorem und26 : Tryz.prog.underlying 26 = some (.slice 5) := by kernel_rfl
@[simp] theorem bz26 : bslZ Tryz.prog 26 = true := by kernel_rfl
@[simp] theorem es26 : eSz Tryz.prog 26 = 1 := by kernel_rfl
@[simp] theorem e126 : el1 Tryz.prog 26 = some (1, false) := by kernel_rfl
@[simp] theorem ae26 : agE Tryz.prog 26 = some false := by kernel_rfl
@[simp] theorem ap26 : apT Tryz.prog 26 = some (1, 1, .int .u8 0, true) := by kernel_rfl
@[simp] theorem sz27 : szT Tryz.prog 27 = 1 := by kernel_rfl
@[simp] theorem agg27 : aggT Tryz.prog 27 = some false := by kernel_rfl
@[simp] theorem und27 : Tryz.prog.underlying 27 = some (.slice 74) := by kernel_rfl
@[simp] theorem bz27 : bslZ Tryz.prog 27 = true := by kernel_rfl
@[simp] theorem es27 : eSz Tryz.prog 27 = 2 := by kernel_rfl
@[simp] theorem ae27 : agE Tryz.prog 27 = some true := by kernel_rfl
@[simp] theorem ap27 : apT Tryz.prog 27 = some (2, 32, .opq (.agg #[.int .i64 0, .slice none 0 0]), false) := by kernel_rfl
@[simp] theorem sz29 : szT Tryz.prog 29 = 13 := by kernel_rfl
@[simp] theorem agg29 : aggT Tryz.prog 29 = some true := by kernel_rfl
@[simp] theorem zc29 : zeroC Tryz.prog 29 = some [.int .i64 0, .int .i64 0, .int .i64 0, .int .i64 0, .int .i64 0, .int .i64 0, .int .i64 0, .int .i64 0, .int .i64 0, .int .i64 0, .int .i64 0, .slice [], .slice []] := by kernel_rfl
@[simp] theorem zs29 : zstr Tryz.prog 29 = some [.int .i64 0, .int .i64 0, .int .i64 0, .int .i64 0, .int .i64 0, .int .i64 0, .int .i64 0, .int .i64 0, .int .i64 0, .int .i64 0, .int .i64 0, .slice [], .slice []] := by kernel_rfl
@[simp] theorem fl29_0 : fldT Tryz.prog 29 0 = some (0, 3) := by kernel_rfl
@[simp] theorem fl29_1 : fldT Tryz.prog 29 1 = some (1, 3) := by kernel_rfl
@[simp] theorem fl29_2 : fldT Tryz.prog 29 2 = some (2, 3) := by kernel_rfl
@[simp] theorem fl29_3 : fldT Tryz.prog 29 3 = some (3, 3) := by kernel_rfl
@[simp] theorem fl29_4 : fldT Tryz.prog 29 4 = some (4, 3) := by kernel_rfl
@[simp] theorem fl29_5 : fldT Tryz.prog 29 5 = some (5, 3) := by kernel_rfl
@[simp] theorem fl29_6 : fldT Tryz.prog 29 6 = some (6, 3) := by kernel_rfl
@[simp] theorem fl29_7 : fldT Tryz.prog 29 7 = some (7, 3) := by kernel_rfl
@[simp] theorem fl29_8 : fldT Tryz.prog 29 8 = some (8, 3) := by kernel_rfl
@[simp] theorem fl29_9 : fldT Tryz.prog 29 9 = some (9, 3) := by kernel_rfl
@[simp] theorem fl29_10 : fldT Tryz.prog 29 10 = some (10, 3) := by kernel_rfl
@[simp] theorem fl29_11 : fldT Tryz.prog 29 11 = some (11, 26) := by kernel_rfl
@[simp] theorem fl29_12 : fldT Tryz.prog 29 12 = some (12, 27) := by kernel_rfl
@[simp] theorem sz33 : szT Tryz.prog 33 = 3 := by kernel_rfl
@[simp] theorem agg33 : aggT Tryz.prog 33 = some true := by kernel_rfl
@[simp] theorem zc33 : zeroC Tryz.prog 33 = some [.int .i64 0, .int .i64 0, .bool false] := by kernel_rfl
@[simp] theorem zs33 : zstr Tryz.prog 33 = some [.int .i64 0, .int .i64 0, .bool false] := by kernel_rfl
@[simp] theorem fl33_0 : fldT Tryz.prog 33 0 = some (0, 3) := by kernel_rfl
@[simp] theorem fl33_1 : fldT Tryz.prog 33 1 = some (1, 3) := by kernel_rfl
@[simp] theorem fl33_2 : fldT Tryz.prog 33 2 = some (2, 4) := by kernel_rfl
@[simp] theorem sz35 : szT Tryz.prog 35 = 4 := by kernel_rfl
@[simp] theorem agg35 : aggT Tryz.prog 35 = some true := by kernel_rfl
@[simp] theorem zc35 : zeroC Tryz.prog 35 = some [.int .i64 0, .int .i64 0, .int .i64 0, .str []] := by kernel_rfl
@[simp] theorem eq35 : eqS Tryz.prog 35 = some [(0, 0), (1, 0), (2, 0), (3, 2)] := by kernel_rfl
@[simp] theorem zs35 : zstr Tryz.prog 35 = some [.int .i64 0, .int .i64 0, .int .i64 0, .str []] := by kernel_rfl
@[simp] theorem fl35_0 : fldT Tryz.prog 35 0 = some (0, 3) := by kernel_rfl
@[simp] theorem fl35_1 : fldT Tryz.prog 35 1 = some (1, 3) := by kernel_rfl
@[simp] theorem fl35_2 : fldT Tryz.prog 35 2 = some (2, 3) := by kernel_rfl
@[simp] theorem fl35_3 : fldT Tryz.prog 35 3 = some (3, 9) := by kernel_rfl
@[simp] theorem sz37 : szT Tryz.prog 37 = 22 := by kernel_rfl
@[simp] theorem agg37 : aggT Tryz.prog 37 = some true := by kernel_rfl
@[simp] theorem zc37 : zeroC Tryz.prog 37 = some [.bool false, .bool false, .int .i64 0, .int .i64 0, .int .i64 0, .int .i64 0, .int .i64 0, .int .i64 0, .int .i64 0, .int .i64 0, .int .i64 0, .int .i64 0, .int .i64 0, .slice [], .slice [], .int .i64 0, .int .i64 0, .bool false, .int .i64 0, .int .i64 0, .int .i64 0, .str []] := by kernel_rfl
@[simp] theorem zs37 : zstr Tryz.prog 37 = some [.bool false, .bool false, .int .i64 0, .int .i64 0, .int .i64 0, .int .i64 0, .int .i64 0, .int .i64 0, .int .i64 0, .int .i64 0, .int .i64 0, .int .i64 0, .int .i64 0, .slice [], .slice [], .int .i64 0, .int .i64 0, .bool false, .int .i64 0, .int .i64 0, .int .i64 0, .str []] := by kernel_rfl
@[simp] theorem fl37_0 : fldT Tryz.prog 37 0 = some (0, 4) := by kernel_rfl
@[simp] theorem fl37_1 : fldT Tryz.prog 37 1 = some (1, 4) := by kernel_rfl
@[simp] theorem fl37_2 : fldT Tryz.prog 37 2 = some (2, 29) := by kernel_rfl
@[simp] theorem fl37_3 : fldT Tryz.prog 37 3 = some (15, 33) := by kernel_rfl
@[simp] theorem fl37_4 : fldT Tryz.prog 37 4 = some (18, 35) := by kernel_rfl
@[simp] theorem sz40 : szT Tryz.prog 40 = 13 := by kernel_rfl
@[simp] theorem agg40 : aggT Tryz.prog 40 = some true := by kernel_rfl
@[simp] theorem zc40 : zeroC Tryz.prog 40 = some [.int .i64 0, .int .i64 0, .int .i64 0, .int .i64 0, .int .i64 0, .int .i64 0, .int .i64 0, .int .i64 0, .int .i64 0, .int .i64 0, .int .i64 0, .slice [], .slice []] := by kernel_rfl
@[simp] theorem zs40 : zstr Tryz.prog 40 = some [.int .i64 0, .int .i64 0, .int .i64 0, .int .i64 0, .int .i64 0, .int .i64 0, .int .i64 0, .int .i64 0, .int .i64 0, .int .i64 0, .int .i64 0, .slice [], .slice []] := by kernel_rfl
@[simp] theorem fl40_0 : fldT Tryz.prog 40 0 = some (0, 3) := by kernel_rfl
@[simp] theorem fl40_1 : fldT Tryz.prog 40 1 = some (1, 3) := by kernel_rfl
@[simp] theorem fl40_2 : fldT Tryz.prog 40 2 = some (2, 3) := by kernel_rfl
@[simp] theorem fl40_3 : fldT Tryz.prog 40 3 = some (3, 3) := by kernel_rfl
@[simp] theorem fl40_4 : fldT Tryz.prog 40 4 = some (4, 3) := by kernel_rfl
@[simp] theorem fl40_5 : fldT Tryz.prog 40 5 = some (5, 3) := by kernel_rfl
@[simp] theorem fl40_6 : fldT Tryz.prog 40 6 = some (6, 3) := by kernel_rfl
@[simp] theorem fl40_7 : fldT Tryz.prog 40 7 = some (7, 3) := by kernel_rfl
@[simp] theorem fl40_8 : fldT Tryz.prog 40 8 = some (8, 3) := by kernel_rfl
@[simp] theorem fl40_9 : fldT Tryz.prog 40 9 = some (9, 3) := by kernel_rfl
@[simp] theorem fl40_10 : fldT Tryz.prog 40 10 = some (10, 3) := by kernel_rfl
@[simp] theorem fl40_11 : fldT Tryz.prog 40 11 = some (11, 26) := by kernel_rfl
@[simp] theorem fl40_12 : fldT Tryz.prog 40 12 = some (12, 27) := by kernel_rfl
@[simp] theorem sz41 : szT Tryz.prog 41 = 3 := by kernel_rfl
@[simp] theorem agg41 : aggT Tryz.prog 41 = some true := by kernel_rfl
@[simp] theorem zc41 : zeroC Tryz.prog 41 = some [.int .i64 0, .int .i64 0, .bool false] := by kernel_rfl
@[simp] theorem eq41 : eqS Tryz.prog 41 = some [(0, 0), (1, 0), (2, 1)] := by kernel_rfl
@[simp] theorem zs41 : zstr Tryz.prog 41 = some [.int .i64 0, .int .i64 0, .bool false] := by kernel_rfl
@[simp] theorem fl41_0 : fldT Tryz.prog 41 0 = some (0, 3) := by kernel_rfl
@[simp] theorem fl41_1 : fldT Tryz.prog 41 1 = some (1, 3) := by kernel_rfl
@[simp] theorem fl41_2 : fldT Tryz.prog 41 2 = some (2, 4) := by kernel_rfl
@[simp] theorem sz43 : szT Tryz.prog 43 = 22 := by kernel_rfl
@[simp] theorem agg43 : aggT Tryz.prog 43 = some true := by kernel_rfl
@[simp] theorem zc43 : zeroC Tryz.prog 43 = some [.bool false, .bool false, .int .i64 0, .int .i64 0, .int .i64 0, .int .i64 0, .int .i64 0, .int .i64 0, .int .i64 0, .int .i64 0, .int .i64 0, .int .i64 0, .int .i64 0, .slice [], .slice [], .int .i64 0, .int .i64 0, .bool false, .int .i64 0, .int .i64 0, .int .i64 0, .str []] := by kernel_rfl
@[simp] theorem zs43 : zstr Tryz.prog 43 = some [.bool false, .bool false, .int .i64 0, .int .i64 0, .int .i64 0, .int .i64 0, .int .i64 0, .int .i64 0, .int .i64 0, .int .i64 0, .int .i64 0, .int .i64 0, .int .i64 0, .slice [], .slice [], .int .i64 0, .int .i64 0, .bool false, .int .i64 0, .int .i64 0, .int .i64 0, .str []] := by kernel_rfl
@[simp] theorem fl43_0 : fldT Tryz.prog 43 0 = some (0, 4) := by kernel_rfl
@[simp] theorem fl43_1 : fldT Tryz.prog 43 1 = some (1, 4) := by kernel_rfl
@[simp] theorem fl43_2 : fldT Tryz.prog 43 2 = some (2, 40) := by kernel_rfl
@[simp] theorem fl43_3 : fldT Tryz.prog 43 3 = some (15, 41) := by kernel_rfl
@[simp] theorem fl43_4 : fldT Tryz.prog 43 4 = some (18, 35) := by kernel_rfl
@[simp] theorem sz74 : szT Tryz.prog 74 = 2 := by kernel_rfl
@[simp] theorem agg74 : aggT Tryz.prog 74 = some true := by kernel_rfl
@[simp] theorem zc74 : zeroC Tryz.prog 74 = some [.int .i64 0, .slice []] := by kernel_rfl
@[simp] theorem zs74 : zstr Tryz.prog 74 = some [.int .i64 0, .slice []] := by kernel_rfl
@[simp] theorem fl74_0 : fldT Tryz.prog 74 0 = some (0, 3) := by kernel_rfl
@[simp] theorem fl74_1 : fldT Tryz.prog 74 1 = some (1, 26) := by kernel_rfl
@[simp] theorem zs83 : zstr Tryz.prog 83 = some [.int .i64 0, .int .i64 0, .slice [], .slice [], .int .i64 0, .int .i64 0, .int .i64 0, .int .i64 0, .int .i64 0, .int .i64 0, .int .i64 0, .int .i64 0, .int .i64 0, .int .i64 0, .int .i64 0, .slice [], .slice [], .str [], .int .i64 0, .int .i64 0, .int .i64 0] := by kernel_rfl
@[simp] theorem fl83_0 : fldT Tryz.prog 83 0 = some (0, 24) := by kernel_rfl
@[simp] theorem fl83_1 : fldT Tryz.prog 83 1 = some (3, 25) := by kernel_rfl
@[simp] theorem fl83_2 : fldT Tryz.prog 83 2 = some (4, 29) := by kernel_rfl
@[simp] theorem fl83_3 : fldT Tryz.prog 83 3 = some (17, 9) := by kernel_rfl
@[simp] theorem fl83_4 : fldT Tryz.prog 83 4 = some (18, 3) := by kernel_rfl
@[simp] theorem fl83_5 : fldT Tryz.prog 83 5 = some (19, 3) := by kernel_rfl
@[simp] theorem fl83_6 : fldT Tryz.prog 83 6 = some (20, 3) := by kernel_rfl
@[simp] theorem mp85 : mpT Tryz.prog 85 = some (.int .i64, 84) := by kernel_rfl
@[simp] theorem mz85 : (zeroT Tryz.prog 84).map ofConst = some (.d (.opq .nilFunc)) := by kernel_rfl
@[simp] theorem sz109 : szT Tryz.prog 109 = 1 := by kernel_rfl
@[simp] theorem agg109 : aggT Tryz.prog 109 = some false := by kernel_rfl
@[simp] theorem und109 : Tryz.prog.underlying 109 = some (.slice 116) := by kernel_rfl
@[simp] theorem bz109 : bslZ Tryz.prog 109 = true := by kernel_rfl
@[simp] theorem es109 : eSz Tryz.prog 109 = 7 := by kernel_rfl
@[simp] theorem ae109 : agE Tryz.prog 109 = some true := by kernel_rfl
@[simp] theorem ap109 : apT Tryz.prog 109 = some (7, 88, .opq (.agg #[.int .i64 0, .int .i64 0, .slice none 0 0, .slice none 0 0, .int .i64 0, .int .i64 0, .int .i64 0]), false) := by kernel_rfl
@[simp] theorem sz111 : szT Tryz.prog 111 = 1 := by kernel_rfl
@[simp] theorem agg111 : aggT Tryz.prog 111 = some true := by kernel_rfl
@[simp] theorem zc111 : zeroC Tryz.prog 111 = some [.slice []] := by kernel_rfl
@[simp] theorem zs111 : zstr Tryz.prog 111 = some [.slice []] := by kernel_rfl
@[simp] theorem fl111_0 : fldT Tryz.prog 111 0 = some (0, 109) := by kernel_rfl
@[simp] theorem sz113 : szT Tryz.prog 113 = 1 := by kernel_rfl
@[simp] theorem agg113 : aggT Tryz.prog 113 = some false := by kernel_rfl
@[simp] theorem und113 : Tryz.prog.underlying 113 = some (.slice 120) := by kernel_rfl
@[simp] theorem bz113 : bslZ Tryz.prog 113 = true := by kernel_rfl
@[simp] theorem es113 : eSz Tryz.prog 113 = 2 := by kernel_rfl
@[simp] theorem sz114 : szT Tryz.prog 114 = 1 := by kernel_rfl
@[simp] theorem agg114 : aggT Tryz.prog 114 = some false := by kernel_rfl
@[simp] theorem und114 : Tryz.prog.underlying 114 = some (.slice 122) := by kernel_rfl
@[simp] theorem bz114 : bslZ Tryz.prog 114 = true := by kernel_rfl
@[simp] theorem es114 : eSz Tryz.prog 114 = 2 := by kernel_rfl
@[simp] theorem ae114 : agE Tryz.prog 114 = some true := by kernel_rfl
@[simp] theorem ap114 : apT Tryz.prog 114 = some (2, 24, .opq (.agg #[.string ByteArray.empty, .int .i64 0]), false) := by kernel_rfl
@[simp] theorem sz116 : szT Tryz.prog 116 = 7 := by kernel_rfl
@[simp] theorem agg116 : aggT Tryz.prog 116 = some true := by kernel_rfl
@[simp] theorem zc116 : zeroC Tryz.prog 116 = some [.int .i64 0, .int .i64 0, .slice [], .slice [], .int .i64 0, .int .i64 0, .int .i64 0] := by kernel_rfl
@[simp] theorem zs116 : zstr Tryz.prog 116 = some [.int .i64 0, .int .i64 0, .slice [], .slice [], .int .i64 0, .int .i64 0, .int .i64 0] := by kernel_rfl
@[simp] theorem fl116_0 : fldT Tryz.prog 116 0 = some (0, 3) := by kernel_rfl
@[simp] theorem fl116_1 : fldT Tryz.prog 116 1 = some (1, 3) := by kernel_rfl
@[simp] theorem fl116_2 : fldT Tryz.prog 116 2 = some (2, 113) := by kernel_rfl
@[simp] theorem fl116_3 : fldT Tryz.prog 116 3 = some (3, 114) := by kernel_rfl
@[simp] theorem fl116_4 : fldT Tryz.prog 116 4 = some (4, 3) := by kernel_rfl
@[simp] theorem fl116_5 : fldT Tryz.prog 116 5 = some (5, 3) := by kernel_rfl
@[simp] theorem fl116_6 : fldT Tryz.prog 116 6 = some (6, 3) := by kernel_rfl
@[simp] theorem sz120 : szT Tryz.prog 120 = 2 := by kernel_rfl
@[simp] theorem agg120 : aggT Tryz.prog 120 = some true := by kernel_rfl
@[simp] theorem zc120 : zeroC Tryz.prog 120 = some [.int .i64 0, .int .i64 0] := by kernel_rfl
@[simp] theorem zs120 : zstr Tryz.prog 120 = some [.int .i64 0, .int .i64 0] := by kernel_rfl
@[simp] theorem fl120_0 : fldT Tryz.prog 120 0 = some (0, 3) := by kernel_rfl
@[simp] theorem fl120_1 : fldT Tryz.prog 120 1 = some (1, 3) := by kernel_rfl
@[simp] theorem sz122 : szT Tryz.prog 122 = 2 := by kernel_rfl
@[simp] theorem agg122 : aggT Tryz.prog 122 = some true := by kernel_rfl
@[simp] theorem zc122 : zeroC Tryz.prog 122 = some [.str [], .int .i64 0] := by kernel_rfl
@[simp] theorem zs122 : zstr Tryz.prog 122 = some [.str [], .int .i64 0] := by kernel_rfl
@[simp] theorem fl122_0 : fldT Tryz.prog 122 0 = some (0, 9) := by kernel_rfl
@[simp] theorem fl122_1 : fldT Tryz.prog 122 1 = some (1, 3) := by kernel_rfl
@[simp] theorem sz123 : szT Tryz.prog 123 = 1 := by kernel_rfl
@[simp] theorem agg123 : aggT Tryz.prog 123 = some false := by kernel_rfl
@[simp] theorem bz139 : bslZ Tryz.prog 139 = true := by kernel_rfl
@[simp] theorem es139 : eSz Tryz.prog 139 = 1 := by kernel_rfl
@[simp] theorem ae139 : agE Tryz.prog 139 = some false := by kernel_rfl
@[simp] theorem ap139 : apT Tryz.prog 139 = some (1, 8, .int .i64 0, true) := by kernel_rfl
@[simp] theorem bz148 : bslZ Tryz.prog 148 = true := by kernel_rfl
@[simp] theorem es148 : eSz Tryz.prog 148 = 9 := by kernel_rfl
@[simp] theorem ae148 : agE Tryz.prog 148 = some true := by kernel_rfl
@[simp] theorem ap148 : apT Tryz.prog 148 = some (9, 104, .opq (.agg #[.int .i64 0, .int .i64 0, .int .i64 0, .int .i64 0, .slice none 0 0, .slice none 0 0, .int .i64 0, .int .i64 0, .int .i64 0]), false) := by kernel_rfl
@[simp] theorem sz151 : szT Tryz.prog 151 = 9 := by kernel_rfl
@[simp] theorem agg151 : aggT Tryz.prog 151 = some true := by kernel_rfl
@[simp] theorem zc151 : zeroC Tryz.prog 151 = some [.int .i64 0, .int .i64 0, .int .i64 0, .int .i64 0, .slice [], .slice [], .int .i64 0, .int .i64 0, .int .i64 0] := by kernel_rfl
@[simp] theorem zs151 : zstr Tryz.prog 151 = some [.int .i64 0, .int .i64 0, .int .i64 0, .int .i64 0, .slice [], .slice [], .int .i64 0, .int .i64 0, .int .i64 0] := by kernel_rfl
@[simp] theorem fl151_0 : fldT Tryz.prog 151 0 = some (0, 3) := by kernel_rfl
@[simp] theorem fl151_1 : fldT Tryz.prog 151 1 = some (1, 3) := by kernel_rfl
@[simp] theorem fl151_2 : fldT Tryz.prog 151 2 = some (2, 116) := by kernel_rfl
@[simp] theorem bz156 : bslZ Tryz.prog 156 = true := by kernel_rfl
@[simp] theorem es156 : eSz Tryz.prog 156 = 1 := by kernel_rfl
@[simp] theorem sz159 : szT Tryz.prog 159 = 1 := by kernel_rfl
@[simp] theorem agg159 : aggT Tryz.prog 159 = some true := by kernel_rfl
@[simp] theorem zc159 : zeroC Tryz.prog 159 = some [.opq .nilFunc] := by kernel_rfl
@[simp] theorem zs159 : zstr Tryz.prog 159 = some [.opq .nilFunc] := by kernel_rfl
@[simp] theorem fl159_0 : fldT Tryz.prog 159 0 = some (0, 123) := by kernel_rfl
end Go.Proofs.YtnkmlhlegndlhaaGreat
