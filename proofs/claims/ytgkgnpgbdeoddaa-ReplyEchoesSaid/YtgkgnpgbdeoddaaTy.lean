/- The facts on this seat's types that the engine asks for, each by reckoning. PRINTED by types.py. -/
import Derived.Test.YtgkgnpgbdeoddaaEngZ
import Derived.Test.YtgkgnpgbdeoddaaProg
import Derived.KernelRfl
namespace Go.Proofs.Ytgkgnpgbdeoddaa
open BoEng
set_option maxRecDepth 100000
@[simp] theorem sz1 : szT Try.prog 1 = 1 := by kernel_rfl
@[simp] theorem byt1 : bytT Try.prog 1 = some 8 := by kernel_rfl
@[simp] theorem agg1 : aggT Try.prog 1 = some false := by kernel_rfl
@[simp] theorem zc1 : zeroC Try.prog 1 = some [.opq .nilFunc] := by kernel_rfl
@[simp] theorem nc1_0 : nilC Try.prog 1 0 = false := by kernel_rfl
@[simp] theorem sz2 : szT Try.prog 2 = 1 := by kernel_rfl
@[simp] theorem byt2 : bytT Try.prog 2 = some 8 := by kernel_rfl
@[simp] theorem agg2 : aggT Try.prog 2 = some false := by kernel_rfl
@[simp] theorem zc2 : zeroC Try.prog 2 = some [.int .i64 0] := by kernel_rfl
@[simp] theorem nc2_0 : nilC Try.prog 2 0 = false := by kernel_rfl
@[simp] theorem und2 : Try.prog.underlying 2 = some (.int .i64) := by kernel_rfl
@[simp] theorem sz3 : szT Try.prog 3 = 1 := by kernel_rfl
@[simp] theorem byt3 : bytT Try.prog 3 = some 8 := by kernel_rfl
@[simp] theorem agg3 : aggT Try.prog 3 = some false := by kernel_rfl
@[simp] theorem zc3 : zeroC Try.prog 3 = some [.int .i64 0] := by kernel_rfl
@[simp] theorem nc3_0 : nilC Try.prog 3 0 = false := by kernel_rfl
@[simp] theorem und3 : Try.prog.underlying 3 = some (.int .i64) := by kernel_rfl
@[simp] theorem sz4 : szT Try.prog 4 = 1 := by kernel_rfl
@[simp] theorem byt4 : bytT Try.prog 4 = some 1 := by kernel_rfl
@[simp] theorem agg4 : aggT Try.prog 4 = some false := by kernel_rfl
@[simp] theorem zc4 : zeroC Try.prog 4 = some [.bool false] := by kernel_rfl
@[simp] theorem nc4_0 : nilC Try.prog 4 0 = false := by kernel_rfl
@[simp] theorem und4 : Try.prog.underlying 4 = some .bool := by kernel_rfl
@[simp] theorem sz5 : szT Try.prog 5 = 1 := by kernel_rfl
@[simp] theorem byt5 : bytT Try.prog 5 = some 1 := by kernel_rfl
@[simp] theorem agg5 : aggT Try.prog 5 = some false := by kernel_rfl
@[simp] theorem zc5 : zeroC Try.prog 5 = some [.int .u8 0] := by kernel_rfl
@[simp] theorem nc5_0 : nilC Try.prog 5 0 = false := by kernel_rfl
@[simp] theorem und5 : Try.prog.underlying 5 = some (.int .u8) := by kernel_rfl
@[simp] theorem sz9 : szT Try.prog 9 = 1 := by kernel_rfl
@[simp] theorem byt9 : bytT Try.prog 9 = some 16 := by kernel_rfl
@[simp] theorem agg9 : aggT Try.prog 9 = some false := by kernel_rfl
@[simp] theorem zc9 : zeroC Try.prog 9 = some [.str []] := by kernel_rfl
@[simp] theorem nc9_0 : nilC Try.prog 9 0 = false := by kernel_rfl
@[simp] theorem und9 : Try.prog.underlying 9 = some .string := by kernel_rfl
@[simp] theorem sz12 : szT Try.prog 12 = 1 := by kernel_rfl
@[simp] theorem byt12 : bytT Try.prog 12 = some 8 := by kernel_rfl
@[simp] theorem agg12 : aggT Try.prog 12 = some false := by kernel_rfl
@[simp] theorem zc12 : zeroC Try.prog 12 = some [.int .u64 0] := by kernel_rfl
@[simp] theorem nc12_0 : nilC Try.prog 12 0 = false := by kernel_rfl
@[simp] theorem und12 : Try.prog.underlying 12 = some (.int .u64) := by kernel_rfl
@[simp] theorem sz15 : szT Try.prog 15 = 1 := by kernel_rfl
@[simp] theorem byt15 : bytT Try.prog 15 = some 8 := by kernel_rfl
@[simp] theorem agg15 : aggT Try.prog 15 = some false := by kernel_rfl
@[simp] theorem zc15 : zeroC Try.prog 15 = some [.opq (.pointer none)] := by kernel_rfl
@[simp] theorem nc15_0 : nilC Try.prog 15 0 = false := by kernel_rfl
@[simp] theorem und15 : Try.prog.underlying 15 = some (.pointer 110) := by kernel_rfl
@[simp] theorem sz16 : szT Try.prog 16 = 1 := by kernel_rfl
@[simp] theorem byt16 : bytT Try.prog 16 = some 8 := by kernel_rfl
@[simp] theorem agg16 : aggT Try.prog 16 = some false := by kernel_rfl
@[simp] theorem zc16 : zeroC Try.prog 16 = some [.opq (.pointer none)] := by kernel_rfl
@[simp] theorem nc16_0 : nilC Try.prog 16 0 = false := by kernel_rfl
@[simp] theorem und16 : Try.prog.underlying 16 = some (.pointer 113) := by kernel_rfl
@[simp] theorem sz17 : szT Try.prog 17 = 1 := by kernel_rfl
@[simp] theorem byt17 : bytT Try.prog 17 = some 8 := by kernel_rfl
@[simp] theorem agg17 : aggT Try.prog 17 = some false := by kernel_rfl
@[simp] theorem zc17 : zeroC Try.prog 17 = some [.opq (.pointer none)] := by kernel_rfl
@[simp] theorem nc17_0 : nilC Try.prog 17 0 = false := by kernel_rfl
@[simp] theorem und17 : Try.prog.underlying 17 = some (.pointer 123) := by kernel_rfl
@[simp] theorem sz20 : szT Try.prog 20 = 1 := by kernel_rfl
@[simp] theorem byt20 : bytT Try.prog 20 = some 16 := by kernel_rfl
@[simp] theorem agg20 : aggT Try.prog 20 = some false := by kernel_rfl
@[simp] theorem zc20 : zeroC Try.prog 20 = some [.opq .nilIface] := by kernel_rfl
@[simp] theorem nc20_0 : nilC Try.prog 20 0 = false := by kernel_rfl
@[simp] theorem sz21 : szT Try.prog 21 = 1 := by kernel_rfl
@[simp] theorem byt21 : bytT Try.prog 21 = some 4 := by kernel_rfl
@[simp] theorem agg21 : aggT Try.prog 21 = some false := by kernel_rfl
@[simp] theorem zc21 : zeroC Try.prog 21 = some [.int .i32 0] := by kernel_rfl
@[simp] theorem nc21_0 : nilC Try.prog 21 0 = false := by kernel_rfl
@[simp] theorem und21 : Try.prog.underlying 21 = some (.int .i32) := by kernel_rfl
@[simp] theorem sz22 : szT Try.prog 22 = 1 := by kernel_rfl
@[simp] theorem byt22 : bytT Try.prog 22 = some 24 := by kernel_rfl
@[simp] theorem agg22 : aggT Try.prog 22 = some false := by kernel_rfl
@[simp] theorem zc22 : zeroC Try.prog 22 = some [.slice []] := by kernel_rfl
@[simp] theorem nc22_0 : nilC Try.prog 22 0 = true := by kernel_rfl
@[simp] theorem el22 : elT Try.prog 22 = some 46 := by kernel_rfl
@[simp] theorem und22 : Try.prog.underlying 22 = some (.slice 46) := by kernel_rfl
@[simp] theorem bz22 : bslZ Try.prog 22 = true := by kernel_rfl
@[simp] theorem es22 : eSz Try.prog 22 = 1 := by kernel_rfl
@[simp] theorem ae22 : agE Try.prog 22 = some true := by kernel_rfl
@[simp] theorem ap22 : apT Try.prog 22 = some (1, 24, .opq (.agg #[.slice none 0 0]), false) := by kernel_rfl
@[simp] theorem sz23 : szT Try.prog 23 = 3 := by kernel_rfl
@[simp] theorem byt23 : bytT Try.prog 23 = some 40 := by kernel_rfl
@[simp] theorem agg23 : aggT Try.prog 23 = some true := by kernel_rfl
@[simp] theorem zc23 : zeroC Try.prog 23 = some [.int .i64 0, .int .i64 0, .slice []] := by kernel_rfl
@[simp] theorem nc23_0 : nilC Try.prog 23 0 = false := by kernel_rfl
@[simp] theorem nc23_1 : nilC Try.prog 23 1 = false := by kernel_rfl
@[simp] theorem nc23_2 : nilC Try.prog 23 2 = true := by kernel_rfl
@[simp] theorem zs23 : zstr Try.prog 23 = some [.int .i64 0, .int .i64 0, .slice []] := by kernel_rfl
@[simp] theorem fl23_0 : fldT Try.prog 23 0 = some (0, 3) := by kernel_rfl
@[simp] theorem fl23_1 : fldT Try.prog 23 1 = some (1, 3) := by kernel_rfl
@[simp] theorem fl23_2 : fldT Try.prog 23 2 = some (2, 22) := by kernel_rfl
@[simp] theorem sz24 : szT Try.prog 24 = 3 := by kernel_rfl
@[simp] theorem byt24 : bytT Try.prog 24 = some 40 := by kernel_rfl
@[simp] theorem agg24 : aggT Try.prog 24 = some true := by kernel_rfl
@[simp] theorem zc24 : zeroC Try.prog 24 = some [.int .i64 0, .int .i64 0, .slice []] := by kernel_rfl
@[simp] theorem nc24_0 : nilC Try.prog 24 0 = false := by kernel_rfl
@[simp] theorem nc24_1 : nilC Try.prog 24 1 = false := by kernel_rfl
@[simp] theorem nc24_2 : nilC Try.prog 24 2 = true := by kernel_rfl
@[simp] theorem zs24 : zstr Try.prog 24 = some [.int .i64 0, .int .i64 0, .slice []] := by kernel_rfl
@[simp] theorem fl24_0 : fldT Try.prog 24 0 = some (0, 3) := by kernel_rfl
@[simp] theorem fl24_1 : fldT Try.prog 24 1 = some (1, 3) := by kernel_rfl
@[simp] theorem fl24_2 : fldT Try.prog 24 2 = some (2, 22) := by kernel_rfl
@[simp] theorem sz25 : szT Try.prog 25 = 1 := by kernel_rfl
@[simp] theorem byt25 : bytT Try.prog 25 = some 24 := by kernel_rfl
@[simp] theorem agg25 : aggT Try.prog 25 = some false := by kernel_rfl
@[simp] theorem zc25 : zeroC Try.prog 25 = some [.slice []] := by kernel_rfl
@[simp] theorem nc25_0 : nilC Try.prog 25 0 = true := by kernel_rfl
@[simp] theorem el25 : elT Try.prog 25 = some 5 := by kernel_rfl
@[simp] theorem und25 : Try.prog.underlying 25 = some (.slice 5) := by kernel_rfl
@[simp] theorem bz25 : bslZ Try.prog 25 = true := by kernel_rfl
@[simp] theorem es25 : eSz Try.prog 25 = 1 := by kernel_rfl
@[simp] theorem ae25 : agE Try.prog 25 = some false := by kernel_rfl
@[simp] theorem ap25 : apT Try.prog 25 = some (1, 1, .int .u8 0, true) := by kernel_rfl
@[simp] theorem sz26 : szT Try.prog 26 = 1 := by kernel_rfl
@[simp] theorem byt26 : bytT Try.prog 26 = some 24 := by kernel_rfl
@[simp] theorem agg26 : aggT Try.prog 26 = some false := by kernel_rfl
@[simp] theorem zc26 : zeroC Try.prog 26 = some [.slice []] := by kernel_rfl
@[simp] theorem nc26_0 : nilC Try.prog 26 0 = true := by kernel_rfl
@[simp] theorem el26 : elT Try.prog 26 = some 57 := by kernel_rfl
@[simp] theorem und26 : Try.prog.underlying 26 = some (.slice 57) := by kernel_rfl
@[simp] theorem bz26 : bslZ Try.prog 26 = true := by kernel_rfl
@[simp] theorem es26 : eSz Try.prog 26 = 2 := by kernel_rfl
@[simp] theorem ae26 : agE Try.prog 26 = some true := by kernel_rfl
@[simp] theorem ap26 : apT Try.prog 26 = some (2, 32, .opq (.agg #[.int .i64 0, .slice none 0 0]), false) := by kernel_rfl
@[simp] theorem sz27 : szT Try.prog 27 = 13 := by kernel_rfl
@[simp] theorem byt27 : bytT Try.prog 27 = some 136 := by kernel_rfl
@[simp] theorem agg27 : aggT Try.prog 27 = some true := by kernel_rfl
@[simp] theorem zc27 : zeroC Try.prog 27 = some [.int .i64 0, .int .i64 0, .int .i64 0, .int .i64 0, .int .i64 0, .int .i64 0, .int .i64 0, .int .i64 0, .int .i64 0, .int .i64 0, .int .i64 0, .slice [], .slice []] := by kernel_rfl
@[simp] theorem nc27_0 : nilC Try.prog 27 0 = false := by kernel_rfl
@[simp] theorem nc27_1 : nilC Try.prog 27 1 = false := by kernel_rfl
@[simp] theorem nc27_2 : nilC Try.prog 27 2 = false := by kernel_rfl
@[simp] theorem nc27_3 : nilC Try.prog 27 3 = false := by kernel_rfl
@[simp] theorem nc27_4 : nilC Try.prog 27 4 = false := by kernel_rfl
@[simp] theorem nc27_5 : nilC Try.prog 27 5 = false := by kernel_rfl
@[simp] theorem nc27_6 : nilC Try.prog 27 6 = false := by kernel_rfl
@[simp] theorem nc27_7 : nilC Try.prog 27 7 = false := by kernel_rfl
@[simp] theorem nc27_8 : nilC Try.prog 27 8 = false := by kernel_rfl
@[simp] theorem nc27_9 : nilC Try.prog 27 9 = false := by kernel_rfl
@[simp] theorem nc27_10 : nilC Try.prog 27 10 = false := by kernel_rfl
@[simp] theorem nc27_11 : nilC Try.prog 27 11 = true := by kernel_rfl
@[simp] theorem nc27_12 : nilC Try.prog 27 12 = true := by kernel_rfl
@[simp] theorem zs27 : zstr Try.prog 27 = some [.int .i64 0, .int .i64 0, .int .i64 0, .int .i64 0, .int .i64 0, .int .i64 0, .int .i64 0, .int .i64 0, .int .i64 0, .int .i64 0, .int .i64 0, .slice [], .slice []] := by kernel_rfl
@[simp] theorem fl27_0 : fldT Try.prog 27 0 = some (0, 3) := by kernel_rfl
@[simp] theorem fl27_1 : fldT Try.prog 27 1 = some (1, 3) := by kernel_rfl
@[simp] theorem fl27_2 : fldT Try.prog 27 2 = some (2, 3) := by kernel_rfl
@[simp] theorem fl27_3 : fldT Try.prog 27 3 = some (3, 3) := by kernel_rfl
@[simp] theorem fl27_4 : fldT Try.prog 27 4 = some (4, 3) := by kernel_rfl
@[simp] theorem fl27_5 : fldT Try.prog 27 5 = some (5, 3) := by kernel_rfl
@[simp] theorem fl27_6 : fldT Try.prog 27 6 = some (6, 3) := by kernel_rfl
@[simp] theorem fl27_7 : fldT Try.prog 27 7 = some (7, 3) := by kernel_rfl
@[simp] theorem fl27_8 : fldT Try.prog 27 8 = some (8, 3) := by kernel_rfl
@[simp] theorem fl27_9 : fldT Try.prog 27 9 = some (9, 3) := by kernel_rfl
@[simp] theorem fl27_10 : fldT Try.prog 27 10 = some (10, 3) := by kernel_rfl
@[simp] theorem fl27_11 : fldT Try.prog 27 11 = some (11, 25) := by kernel_rfl
@[simp] theorem fl27_12 : fldT Try.prog 27 12 = some (12, 26) := by kernel_rfl
@[simp] theorem sz28 : szT Try.prog 28 = 13 := by kernel_rfl
@[simp] theorem byt28 : bytT Try.prog 28 = some 136 := by kernel_rfl
@[simp] theorem agg28 : aggT Try.prog 28 = some true := by kernel_rfl
@[simp] theorem zc28 : zeroC Try.prog 28 = some [.int .i64 0, .int .i64 0, .int .i64 0, .int .i64 0, .int .i64 0, .int .i64 0, .int .i64 0, .int .i64 0, .int .i64 0, .int .i64 0, .int .i64 0, .slice [], .slice []] := by kernel_rfl
@[simp] theorem nc28_0 : nilC Try.prog 28 0 = false := by kernel_rfl
@[simp] theorem nc28_1 : nilC Try.prog 28 1 = false := by kernel_rfl
@[simp] theorem nc28_2 : nilC Try.prog 28 2 = false := by kernel_rfl
@[simp] theorem nc28_3 : nilC Try.prog 28 3 = false := by kernel_rfl
@[simp] theorem nc28_4 : nilC Try.prog 28 4 = false := by kernel_rfl
@[simp] theorem nc28_5 : nilC Try.prog 28 5 = false := by kernel_rfl
@[simp] theorem nc28_6 : nilC Try.prog 28 6 = false := by kernel_rfl
@[simp] theorem nc28_7 : nilC Try.prog 28 7 = false := by kernel_rfl
@[simp] theorem nc28_8 : nilC Try.prog 28 8 = false := by kernel_rfl
@[simp] theorem nc28_9 : nilC Try.prog 28 9 = false := by kernel_rfl
@[simp] theorem nc28_10 : nilC Try.prog 28 10 = false := by kernel_rfl
@[simp] theorem nc28_11 : nilC Try.prog 28 11 = true := by kernel_rfl
@[simp] theorem nc28_12 : nilC Try.prog 28 12 = true := by kernel_rfl
@[simp] theorem zs28 : zstr Try.prog 28 = some [.int .i64 0, .int .i64 0, .int .i64 0, .int .i64 0, .int .i64 0, .int .i64 0, .int .i64 0, .int .i64 0, .int .i64 0, .int .i64 0, .int .i64 0, .slice [], .slice []] := by kernel_rfl
@[simp] theorem fl28_0 : fldT Try.prog 28 0 = some (0, 3) := by kernel_rfl
@[simp] theorem fl28_1 : fldT Try.prog 28 1 = some (1, 3) := by kernel_rfl
@[simp] theorem fl28_2 : fldT Try.prog 28 2 = some (2, 3) := by kernel_rfl
@[simp] theorem fl28_3 : fldT Try.prog 28 3 = some (3, 3) := by kernel_rfl
@[simp] theorem fl28_4 : fldT Try.prog 28 4 = some (4, 3) := by kernel_rfl
@[simp] theorem fl28_5 : fldT Try.prog 28 5 = some (5, 3) := by kernel_rfl
@[simp] theorem fl28_6 : fldT Try.prog 28 6 = some (6, 3) := by kernel_rfl
@[simp] theorem fl28_7 : fldT Try.prog 28 7 = some (7, 3) := by kernel_rfl
@[simp] theorem fl28_8 : fldT Try.prog 28 8 = some (8, 3) := by kernel_rfl
@[simp] theorem fl28_9 : fldT Try.prog 28 9 = some (9, 3) := by kernel_rfl
@[simp] theorem fl28_10 : fldT Try.prog 28 10 = some (10, 3) := by kernel_rfl
@[simp] theorem fl28_11 : fldT Try.prog 28 11 = some (11, 25) := by kernel_rfl
@[simp] theorem fl28_12 : fldT Try.prog 28 12 = some (12, 26) := by kernel_rfl
@[simp] theorem sz29 : szT Try.prog 29 = 1 := by kernel_rfl
@[simp] theorem byt29 : bytT Try.prog 29 = some 8 := by kernel_rfl
@[simp] theorem agg29 : aggT Try.prog 29 = some false := by kernel_rfl
@[simp] theorem zc29 : zeroC Try.prog 29 = some [.opq .nilFunc] := by kernel_rfl
@[simp] theorem nc29_0 : nilC Try.prog 29 0 = false := by kernel_rfl
@[simp] theorem sz30 : szT Try.prog 30 = 1 := by kernel_rfl
@[simp] theorem byt30 : bytT Try.prog 30 = some 8 := by kernel_rfl
@[simp] theorem agg30 : aggT Try.prog 30 = some false := by kernel_rfl
@[simp] theorem zc30 : zeroC Try.prog 30 = some [.opq .nilFunc] := by kernel_rfl
@[simp] theorem nc30_0 : nilC Try.prog 30 0 = false := by kernel_rfl
@[simp] theorem sz31 : szT Try.prog 31 = 13 := by kernel_rfl
@[simp] theorem byt31 : bytT Try.prog 31 = some 136 := by kernel_rfl
@[simp] theorem agg31 : aggT Try.prog 31 = some true := by kernel_rfl
@[simp] theorem zc31 : zeroC Try.prog 31 = some [.int .i64 0, .int .i64 0, .int .i64 0, .int .i64 0, .int .i64 0, .int .i64 0, .int .i64 0, .int .i64 0, .int .i64 0, .int .i64 0, .int .i64 0, .slice [], .slice []] := by kernel_rfl
@[simp] theorem nc31_0 : nilC Try.prog 31 0 = false := by kernel_rfl
@[simp] theorem nc31_1 : nilC Try.prog 31 1 = false := by kernel_rfl
@[simp] theorem nc31_2 : nilC Try.prog 31 2 = false := by kernel_rfl
@[simp] theorem nc31_3 : nilC Try.prog 31 3 = false := by kernel_rfl
@[simp] theorem nc31_4 : nilC Try.prog 31 4 = false := by kernel_rfl
@[simp] theorem nc31_5 : nilC Try.prog 31 5 = false := by kernel_rfl
@[simp] theorem nc31_6 : nilC Try.prog 31 6 = false := by kernel_rfl
@[simp] theorem nc31_7 : nilC Try.prog 31 7 = false := by kernel_rfl
@[simp] theorem nc31_8 : nilC Try.prog 31 8 = false := by kernel_rfl
@[simp] theorem nc31_9 : nilC Try.prog 31 9 = false := by kernel_rfl
@[simp] theorem nc31_10 : nilC Try.prog 31 10 = false := by kernel_rfl
@[simp] theorem nc31_11 : nilC Try.prog 31 11 = true := by kernel_rfl
@[simp] theorem nc31_12 : nilC Try.prog 31 12 = true := by kernel_rfl
@[simp] theorem zs31 : zstr Try.prog 31 = some [.int .i64 0, .int .i64 0, .int .i64 0, .int .i64 0, .int .i64 0, .int .i64 0, .int .i64 0, .int .i64 0, .int .i64 0, .int .i64 0, .int .i64 0, .slice [], .slice []] := by kernel_rfl
@[simp] theorem fl31_0 : fldT Try.prog 31 0 = some (0, 3) := by kernel_rfl
@[simp] theorem fl31_1 : fldT Try.prog 31 1 = some (1, 3) := by kernel_rfl
@[simp] theorem fl31_2 : fldT Try.prog 31 2 = some (2, 3) := by kernel_rfl
@[simp] theorem fl31_3 : fldT Try.prog 31 3 = some (3, 3) := by kernel_rfl
@[simp] theorem fl31_4 : fldT Try.prog 31 4 = some (4, 3) := by kernel_rfl
@[simp] theorem fl31_5 : fldT Try.prog 31 5 = some (5, 3) := by kernel_rfl
@[simp] theorem fl31_6 : fldT Try.prog 31 6 = some (6, 3) := by kernel_rfl
@[simp] theorem fl31_7 : fldT Try.prog 31 7 = some (7, 3) := by kernel_rfl
@[simp] theorem fl31_8 : fldT Try.prog 31 8 = some (8, 3) := by kernel_rfl
@[simp] theorem fl31_9 : fldT Try.prog 31 9 = some (9, 3) := by kernel_rfl
@[simp] theorem fl31_10 : fldT Try.prog 31 10 = some (10, 3) := by kernel_rfl
@[simp] theorem fl31_11 : fldT Try.prog 31 11 = some (11, 25) := by kernel_rfl
@[simp] theorem fl31_12 : fldT Try.prog 31 12 = some (12, 26) := by kernel_rfl
@[simp] theorem sz32 : szT Try.prog 32 = 1 := by kernel_rfl
@[simp] theorem byt32 : bytT Try.prog 32 = some 8 := by kernel_rfl
@[simp] theorem agg32 : aggT Try.prog 32 = some false := by kernel_rfl
@[simp] theorem zc32 : zeroC Try.prog 32 = some [.opq .nilFunc] := by kernel_rfl
@[simp] theorem nc32_0 : nilC Try.prog 32 0 = false := by kernel_rfl
@[simp] theorem sz33 : szT Try.prog 33 = 1 := by kernel_rfl
@[simp] theorem byt33 : bytT Try.prog 33 = some 8 := by kernel_rfl
@[simp] theorem agg33 : aggT Try.prog 33 = some false := by kernel_rfl
@[simp] theorem zc33 : zeroC Try.prog 33 = some [.int .i64 0] := by kernel_rfl
@[simp] theorem nc33_0 : nilC Try.prog 33 0 = false := by kernel_rfl
@[simp] theorem und33 : Try.prog.underlying 33 = some (.int .i64) := by kernel_rfl
@[simp] theorem sz35 : szT Try.prog 35 = 1 := by kernel_rfl
@[simp] theorem byt35 : bytT Try.prog 35 = some 8 := by kernel_rfl
@[simp] theorem agg35 : aggT Try.prog 35 = some false := by kernel_rfl
@[simp] theorem zc35 : zeroC Try.prog 35 = some [.opq .nilFunc] := by kernel_rfl
@[simp] theorem nc35_0 : nilC Try.prog 35 0 = false := by kernel_rfl
@[simp] theorem sz36 : szT Try.prog 36 = 1 := by kernel_rfl
@[simp] theorem byt36 : bytT Try.prog 36 = some 8 := by kernel_rfl
@[simp] theorem agg36 : aggT Try.prog 36 = some false := by kernel_rfl
@[simp] theorem zc36 : zeroC Try.prog 36 = some [.opq .nilFunc] := by kernel_rfl
@[simp] theorem nc36_0 : nilC Try.prog 36 0 = false := by kernel_rfl
@[simp] theorem sz37 : szT Try.prog 37 = 1 := by kernel_rfl
@[simp] theorem byt37 : bytT Try.prog 37 = some 8 := by kernel_rfl
@[simp] theorem agg37 : aggT Try.prog 37 = some false := by kernel_rfl
@[simp] theorem zc37 : zeroC Try.prog 37 = some [.opq .nilFunc] := by kernel_rfl
@[simp] theorem nc37_0 : nilC Try.prog 37 0 = false := by kernel_rfl
@[simp] theorem sz38 : szT Try.prog 38 = 1 := by kernel_rfl
@[simp] theorem byt38 : bytT Try.prog 38 = some 8 := by kernel_rfl
@[simp] theorem agg38 : aggT Try.prog 38 = some false := by kernel_rfl
@[simp] theorem zc38 : zeroC Try.prog 38 = some [.opq .nilFunc] := by kernel_rfl
@[simp] theorem nc38_0 : nilC Try.prog 38 0 = false := by kernel_rfl
@[simp] theorem sz39 : szT Try.prog 39 = 1 := by kernel_rfl
@[simp] theorem byt39 : bytT Try.prog 39 = some 8 := by kernel_rfl
@[simp] theorem agg39 : aggT Try.prog 39 = some false := by kernel_rfl
@[simp] theorem zc39 : zeroC Try.prog 39 = some [.opq .nilFunc] := by kernel_rfl
@[simp] theorem nc39_0 : nilC Try.prog 39 0 = false := by kernel_rfl
@[simp] theorem sz40 : szT Try.prog 40 = 1 := by kernel_rfl
@[simp] theorem byt40 : bytT Try.prog 40 = some 8 := by kernel_rfl
@[simp] theorem agg40 : aggT Try.prog 40 = some false := by kernel_rfl
@[simp] theorem zc40 : zeroC Try.prog 40 = some [.opq .nilFunc] := by kernel_rfl
@[simp] theorem nc40_0 : nilC Try.prog 40 0 = false := by kernel_rfl
@[simp] theorem sz41 : szT Try.prog 41 = 1 := by kernel_rfl
@[simp] theorem byt41 : bytT Try.prog 41 = some 8 := by kernel_rfl
@[simp] theorem agg41 : aggT Try.prog 41 = some false := by kernel_rfl
@[simp] theorem zc41 : zeroC Try.prog 41 = some [.opq .nilFunc] := by kernel_rfl
@[simp] theorem nc41_0 : nilC Try.prog 41 0 = false := by kernel_rfl
@[simp] theorem sz43 : szT Try.prog 43 = 1 := by kernel_rfl
@[simp] theorem byt43 : bytT Try.prog 43 = some 8 := by kernel_rfl
@[simp] theorem agg43 : aggT Try.prog 43 = some false := by kernel_rfl
@[simp] theorem zc43 : zeroC Try.prog 43 = some [.opq .nilFunc] := by kernel_rfl
@[simp] theorem nc43_0 : nilC Try.prog 43 0 = false := by kernel_rfl
@[simp] theorem sz44 : szT Try.prog 44 = 1 := by kernel_rfl
@[simp] theorem byt44 : bytT Try.prog 44 = some 24 := by kernel_rfl
@[simp] theorem agg44 : aggT Try.prog 44 = some false := by kernel_rfl
@[simp] theorem zc44 : zeroC Try.prog 44 = some [.slice []] := by kernel_rfl
@[simp] theorem nc44_0 : nilC Try.prog 44 0 = true := by kernel_rfl
@[simp] theorem el44 : elT Try.prog 44 = some 53 := by kernel_rfl
@[simp] theorem und44 : Try.prog.underlying 44 = some (.slice 53) := by kernel_rfl
@[simp] theorem bz44 : bslZ Try.prog 44 = true := by kernel_rfl
@[simp] theorem es44 : eSz Try.prog 44 = 7 := by kernel_rfl
@[simp] theorem ae44 : agE Try.prog 44 = some true := by kernel_rfl
@[simp] theorem ap44 : apT Try.prog 44 = some (7, 88, .opq (.agg #[.int .i64 0, .int .i64 0, .slice none 0 0, .slice none 0 0, .int .i64 0, .int .i64 0, .int .i64 0]), false) := by kernel_rfl
@[simp] theorem sz45 : szT Try.prog 45 = 1 := by kernel_rfl
@[simp] theorem byt45 : bytT Try.prog 45 = some 24 := by kernel_rfl
@[simp] theorem agg45 : aggT Try.prog 45 = some true := by kernel_rfl
@[simp] theorem zc45 : zeroC Try.prog 45 = some [.slice []] := by kernel_rfl
@[simp] theorem nc45_0 : nilC Try.prog 45 0 = true := by kernel_rfl
@[simp] theorem zs45 : zstr Try.prog 45 = some [.slice []] := by kernel_rfl
@[simp] theorem fl45_0 : fldT Try.prog 45 0 = some (0, 44) := by kernel_rfl
@[simp] theorem sz46 : szT Try.prog 46 = 1 := by kernel_rfl
@[simp] theorem byt46 : bytT Try.prog 46 = some 24 := by kernel_rfl
@[simp] theorem agg46 : aggT Try.prog 46 = some true := by kernel_rfl
@[simp] theorem zc46 : zeroC Try.prog 46 = some [.slice []] := by kernel_rfl
@[simp] theorem nc46_0 : nilC Try.prog 46 0 = true := by kernel_rfl
@[simp] theorem zs46 : zstr Try.prog 46 = some [.slice []] := by kernel_rfl
@[simp] theorem fl46_0 : fldT Try.prog 46 0 = some (0, 44) := by kernel_rfl
@[simp] theorem sz48 : szT Try.prog 48 = 1 := by kernel_rfl
@[simp] theorem byt48 : bytT Try.prog 48 = some 8 := by kernel_rfl
@[simp] theorem agg48 : aggT Try.prog 48 = some false := by kernel_rfl
@[simp] theorem zc48 : zeroC Try.prog 48 = some [.opq .nilFunc] := by kernel_rfl
@[simp] theorem nc48_0 : nilC Try.prog 48 0 = false := by kernel_rfl
@[simp] theorem sz49 : szT Try.prog 49 = 1 := by kernel_rfl
@[simp] theorem byt49 : bytT Try.prog 49 = some 8 := by kernel_rfl
@[simp] theorem agg49 : aggT Try.prog 49 = some false := by kernel_rfl
@[simp] theorem zc49 : zeroC Try.prog 49 = some [.opq .nilFunc] := by kernel_rfl
@[simp] theorem nc49_0 : nilC Try.prog 49 0 = false := by kernel_rfl
@[simp] theorem sz50 : szT Try.prog 50 = 1 := by kernel_rfl
@[simp] theorem byt50 : bytT Try.prog 50 = some 24 := by kernel_rfl
@[simp] theorem agg50 : aggT Try.prog 50 = some false := by kernel_rfl
@[simp] theorem zc50 : zeroC Try.prog 50 = some [.slice []] := by kernel_rfl
@[simp] theorem nc50_0 : nilC Try.prog 50 0 = true := by kernel_rfl
@[simp] theorem el50 : elT Try.prog 50 = some 79 := by kernel_rfl
@[simp] theorem und50 : Try.prog.underlying 50 = some (.slice 79) := by kernel_rfl
@[simp] theorem bz50 : bslZ Try.prog 50 = true := by kernel_rfl
@[simp] theorem es50 : eSz Try.prog 50 = 2 := by kernel_rfl
@[simp] theorem ae50 : agE Try.prog 50 = some true := by kernel_rfl
@[simp] theorem ap50 : apT Try.prog 50 = some (2, 16, .opq (.agg #[.int .i64 0, .int .i64 0]), false) := by kernel_rfl
@[simp] theorem sz51 : szT Try.prog 51 = 1 := by kernel_rfl
@[simp] theorem byt51 : bytT Try.prog 51 = some 24 := by kernel_rfl
@[simp] theorem agg51 : aggT Try.prog 51 = some false := by kernel_rfl
@[simp] theorem zc51 : zeroC Try.prog 51 = some [.slice []] := by kernel_rfl
@[simp] theorem nc51_0 : nilC Try.prog 51 0 = true := by kernel_rfl
@[simp] theorem el51 : elT Try.prog 51 = some 77 := by kernel_rfl
@[simp] theorem und51 : Try.prog.underlying 51 = some (.slice 77) := by kernel_rfl
@[simp] theorem bz51 : bslZ Try.prog 51 = true := by kernel_rfl
@[simp] theorem es51 : eSz Try.prog 51 = 2 := by kernel_rfl
@[simp] theorem ae51 : agE Try.prog 51 = some true := by kernel_rfl
@[simp] theorem ap51 : apT Try.prog 51 = some (2, 24, .opq (.agg #[.string ByteArray.empty, .int .i64 0]), false) := by kernel_rfl
@[simp] theorem sz52 : szT Try.prog 52 = 7 := by kernel_rfl
@[simp] theorem byt52 : bytT Try.prog 52 = some 88 := by kernel_rfl
@[simp] theorem agg52 : aggT Try.prog 52 = some true := by kernel_rfl
@[simp] theorem zc52 : zeroC Try.prog 52 = some [.int .i64 0, .int .i64 0, .slice [], .slice [], .int .i64 0, .int .i64 0, .int .i64 0] := by kernel_rfl
@[simp] theorem nc52_0 : nilC Try.prog 52 0 = false := by kernel_rfl
@[simp] theorem nc52_1 : nilC Try.prog 52 1 = false := by kernel_rfl
@[simp] theorem nc52_2 : nilC Try.prog 52 2 = true := by kernel_rfl
@[simp] theorem nc52_3 : nilC Try.prog 52 3 = true := by kernel_rfl
@[simp] theorem nc52_4 : nilC Try.prog 52 4 = false := by kernel_rfl
@[simp] theorem nc52_5 : nilC Try.prog 52 5 = false := by kernel_rfl
@[simp] theorem nc52_6 : nilC Try.prog 52 6 = false := by kernel_rfl
@[simp] theorem zs52 : zstr Try.prog 52 = some [.int .i64 0, .int .i64 0, .slice [], .slice [], .int .i64 0, .int .i64 0, .int .i64 0] := by kernel_rfl
@[simp] theorem fl52_0 : fldT Try.prog 52 0 = some (0, 3) := by kernel_rfl
@[simp] theorem fl52_1 : fldT Try.prog 52 1 = some (1, 3) := by kernel_rfl
@[simp] theorem fl52_2 : fldT Try.prog 52 2 = some (2, 50) := by kernel_rfl
@[simp] theorem fl52_3 : fldT Try.prog 52 3 = some (3, 51) := by kernel_rfl
@[simp] theorem fl52_4 : fldT Try.prog 52 4 = some (4, 3) := by kernel_rfl
@[simp] theorem fl52_5 : fldT Try.prog 52 5 = some (5, 3) := by kernel_rfl
@[simp] theorem fl52_6 : fldT Try.prog 52 6 = some (6, 3) := by kernel_rfl
@[simp] theorem sz53 : szT Try.prog 53 = 7 := by kernel_rfl
@[simp] theorem byt53 : bytT Try.prog 53 = some 88 := by kernel_rfl
@[simp] theorem agg53 : aggT Try.prog 53 = some true := by kernel_rfl
@[simp] theorem zc53 : zeroC Try.prog 53 = some [.int .i64 0, .int .i64 0, .slice [], .slice [], .int .i64 0, .int .i64 0, .int .i64 0] := by kernel_rfl
@[simp] theorem nc53_0 : nilC Try.prog 53 0 = false := by kernel_rfl
@[simp] theorem nc53_1 : nilC Try.prog 53 1 = false := by kernel_rfl
@[simp] theorem nc53_2 : nilC Try.prog 53 2 = true := by kernel_rfl
@[simp] theorem nc53_3 : nilC Try.prog 53 3 = true := by kernel_rfl
@[simp] theorem nc53_4 : nilC Try.prog 53 4 = false := by kernel_rfl
@[simp] theorem nc53_5 : nilC Try.prog 53 5 = false := by kernel_rfl
@[simp] theorem nc53_6 : nilC Try.prog 53 6 = false := by kernel_rfl
@[simp] theorem zs53 : zstr Try.prog 53 = some [.int .i64 0, .int .i64 0, .slice [], .slice [], .int .i64 0, .int .i64 0, .int .i64 0] := by kernel_rfl
@[simp] theorem fl53_0 : fldT Try.prog 53 0 = some (0, 3) := by kernel_rfl
@[simp] theorem fl53_1 : fldT Try.prog 53 1 = some (1, 3) := by kernel_rfl
@[simp] theorem fl53_2 : fldT Try.prog 53 2 = some (2, 50) := by kernel_rfl
@[simp] theorem fl53_3 : fldT Try.prog 53 3 = some (3, 51) := by kernel_rfl
@[simp] theorem fl53_4 : fldT Try.prog 53 4 = some (4, 3) := by kernel_rfl
@[simp] theorem fl53_5 : fldT Try.prog 53 5 = some (5, 3) := by kernel_rfl
@[simp] theorem fl53_6 : fldT Try.prog 53 6 = some (6, 3) := by kernel_rfl
@[simp] theorem sz54 : szT Try.prog 54 = 1 := by kernel_rfl
@[simp] theorem byt54 : bytT Try.prog 54 = some 8 := by kernel_rfl
@[simp] theorem agg54 : aggT Try.prog 54 = some false := by kernel_rfl
@[simp] theorem zc54 : zeroC Try.prog 54 = some [.opq .nilFunc] := by kernel_rfl
@[simp] theorem nc54_0 : nilC Try.prog 54 0 = false := by kernel_rfl
@[simp] theorem sz55 : szT Try.prog 55 = 1 := by kernel_rfl
@[simp] theorem byt55 : bytT Try.prog 55 = some 8 := by kernel_rfl
@[simp] theorem agg55 : aggT Try.prog 55 = some false := by kernel_rfl
@[simp] theorem zc55 : zeroC Try.prog 55 = some [.opq .nilFunc] := by kernel_rfl
@[simp] theorem nc55_0 : nilC Try.prog 55 0 = false := by kernel_rfl
@[simp] theorem sz56 : szT Try.prog 56 = 2 := by kernel_rfl
@[simp] theorem byt56 : bytT Try.prog 56 = some 32 := by kernel_rfl
@[simp] theorem agg56 : aggT Try.prog 56 = some true := by kernel_rfl
@[simp] theorem zc56 : zeroC Try.prog 56 = some [.int .i64 0, .slice []] := by kernel_rfl
@[simp] theorem nc56_0 : nilC Try.prog 56 0 = false := by kernel_rfl
@[simp] theorem nc56_1 : nilC Try.prog 56 1 = true := by kernel_rfl
@[simp] theorem zs56 : zstr Try.prog 56 = some [.int .i64 0, .slice []] := by kernel_rfl
@[simp] theorem fl56_0 : fldT Try.prog 56 0 = some (0, 3) := by kernel_rfl
@[simp] theorem fl56_1 : fldT Try.prog 56 1 = some (1, 25) := by kernel_rfl
@[simp] theorem sz57 : szT Try.prog 57 = 2 := by kernel_rfl
@[simp] theorem byt57 : bytT Try.prog 57 = some 32 := by kernel_rfl
@[simp] theorem agg57 : aggT Try.prog 57 = some true := by kernel_rfl
@[simp] theorem zc57 : zeroC Try.prog 57 = some [.int .i64 0, .slice []] := by kernel_rfl
@[simp] theorem nc57_0 : nilC Try.prog 57 0 = false := by kernel_rfl
@[simp] theorem nc57_1 : nilC Try.prog 57 1 = true := by kernel_rfl
@[simp] theorem zs57 : zstr Try.prog 57 = some [.int .i64 0, .slice []] := by kernel_rfl
@[simp] theorem fl57_0 : fldT Try.prog 57 0 = some (0, 3) := by kernel_rfl
@[simp] theorem fl57_1 : fldT Try.prog 57 1 = some (1, 25) := by kernel_rfl
@[simp] theorem sz58 : szT Try.prog 58 = 1 := by kernel_rfl
@[simp] theorem byt58 : bytT Try.prog 58 = some 8 := by kernel_rfl
@[simp] theorem agg58 : aggT Try.prog 58 = some false := by kernel_rfl
@[simp] theorem zc58 : zeroC Try.prog 58 = some [.opq .nilFunc] := by kernel_rfl
@[simp] theorem nc58_0 : nilC Try.prog 58 0 = false := by kernel_rfl
@[simp] theorem sz59 : szT Try.prog 59 = 1 := by kernel_rfl
@[simp] theorem byt59 : bytT Try.prog 59 = some 8 := by kernel_rfl
@[simp] theorem agg59 : aggT Try.prog 59 = some false := by kernel_rfl
@[simp] theorem zc59 : zeroC Try.prog 59 = some [.opq .nilFunc] := by kernel_rfl
@[simp] theorem nc59_0 : nilC Try.prog 59 0 = false := by kernel_rfl
@[simp] theorem sz61 : szT Try.prog 61 = 1 := by kernel_rfl
@[simp] theorem byt61 : bytT Try.prog 61 = some 8 := by kernel_rfl
@[simp] theorem agg61 : aggT Try.prog 61 = some false := by kernel_rfl
@[simp] theorem zc61 : zeroC Try.prog 61 = some [.opq .nilFunc] := by kernel_rfl
@[simp] theorem nc61_0 : nilC Try.prog 61 0 = false := by kernel_rfl
@[simp] theorem sz62 : szT Try.prog 62 = 1 := by kernel_rfl
@[simp] theorem byt62 : bytT Try.prog 62 = some 8 := by kernel_rfl
@[simp] theorem agg62 : aggT Try.prog 62 = some false := by kernel_rfl
@[simp] theorem zc62 : zeroC Try.prog 62 = some [.opq .nilFunc] := by kernel_rfl
@[simp] theorem nc62_0 : nilC Try.prog 62 0 = false := by kernel_rfl
@[simp] theorem sz63 : szT Try.prog 63 = 1 := by kernel_rfl
@[simp] theorem byt63 : bytT Try.prog 63 = some 8 := by kernel_rfl
@[simp] theorem agg63 : aggT Try.prog 63 = some false := by kernel_rfl
@[simp] theorem zc63 : zeroC Try.prog 63 = some [.opq .nilFunc] := by kernel_rfl
@[simp] theorem nc63_0 : nilC Try.prog 63 0 = false := by kernel_rfl
@[simp] theorem sz64 : szT Try.prog 64 = 1 := by kernel_rfl
@[simp] theorem byt64 : bytT Try.prog 64 = some 8 := by kernel_rfl
@[simp] theorem agg64 : aggT Try.prog 64 = some false := by kernel_rfl
@[simp] theorem zc64 : zeroC Try.prog 64 = some [.opq .nilFunc] := by kernel_rfl
@[simp] theorem nc64_0 : nilC Try.prog 64 0 = false := by kernel_rfl
@[simp] theorem sz66 : szT Try.prog 66 = 1 := by kernel_rfl
@[simp] theorem byt66 : bytT Try.prog 66 = some 8 := by kernel_rfl
@[simp] theorem agg66 : aggT Try.prog 66 = some false := by kernel_rfl
@[simp] theorem zc66 : zeroC Try.prog 66 = some [.opq .nilFunc] := by kernel_rfl
@[simp] theorem nc66_0 : nilC Try.prog 66 0 = false := by kernel_rfl
@[simp] theorem sz67 : szT Try.prog 67 = 1 := by kernel_rfl
@[simp] theorem byt67 : bytT Try.prog 67 = some 8 := by kernel_rfl
@[simp] theorem agg67 : aggT Try.prog 67 = some false := by kernel_rfl
@[simp] theorem zc67 : zeroC Try.prog 67 = some [.opq .nilFunc] := by kernel_rfl
@[simp] theorem nc67_0 : nilC Try.prog 67 0 = false := by kernel_rfl
@[simp] theorem sz68 : szT Try.prog 68 = 1 := by kernel_rfl
@[simp] theorem byt68 : bytT Try.prog 68 = some 8 := by kernel_rfl
@[simp] theorem agg68 : aggT Try.prog 68 = some false := by kernel_rfl
@[simp] theorem zc68 : zeroC Try.prog 68 = some [.opq .nilFunc] := by kernel_rfl
@[simp] theorem nc68_0 : nilC Try.prog 68 0 = false := by kernel_rfl
@[simp] theorem sz69 : szT Try.prog 69 = 1 := by kernel_rfl
@[simp] theorem byt69 : bytT Try.prog 69 = some 8 := by kernel_rfl
@[simp] theorem agg69 : aggT Try.prog 69 = some false := by kernel_rfl
@[simp] theorem zc69 : zeroC Try.prog 69 = some [.opq .nilFunc] := by kernel_rfl
@[simp] theorem nc69_0 : nilC Try.prog 69 0 = false := by kernel_rfl
@[simp] theorem sz70 : szT Try.prog 70 = 1 := by kernel_rfl
@[simp] theorem byt70 : bytT Try.prog 70 = some 8 := by kernel_rfl
@[simp] theorem agg70 : aggT Try.prog 70 = some false := by kernel_rfl
@[simp] theorem zc70 : zeroC Try.prog 70 = some [.opq .nilFunc] := by kernel_rfl
@[simp] theorem nc70_0 : nilC Try.prog 70 0 = false := by kernel_rfl
@[simp] theorem sz71 : szT Try.prog 71 = 1 := by kernel_rfl
@[simp] theorem byt71 : bytT Try.prog 71 = some 8 := by kernel_rfl
@[simp] theorem agg71 : aggT Try.prog 71 = some false := by kernel_rfl
@[simp] theorem zc71 : zeroC Try.prog 71 = some [.opq .nilFunc] := by kernel_rfl
@[simp] theorem nc71_0 : nilC Try.prog 71 0 = false := by kernel_rfl
@[simp] theorem sz72 : szT Try.prog 72 = 1 := by kernel_rfl
@[simp] theorem byt72 : bytT Try.prog 72 = some 8 := by kernel_rfl
@[simp] theorem agg72 : aggT Try.prog 72 = some false := by kernel_rfl
@[simp] theorem zc72 : zeroC Try.prog 72 = some [.opq .nilFunc] := by kernel_rfl
@[simp] theorem nc72_0 : nilC Try.prog 72 0 = false := by kernel_rfl
@[simp] theorem sz73 : szT Try.prog 73 = 1 := by kernel_rfl
@[simp] theorem byt73 : bytT Try.prog 73 = some 8 := by kernel_rfl
@[simp] theorem agg73 : aggT Try.prog 73 = some false := by kernel_rfl
@[simp] theorem zc73 : zeroC Try.prog 73 = some [.opq .nilFunc] := by kernel_rfl
@[simp] theorem nc73_0 : nilC Try.prog 73 0 = false := by kernel_rfl
@[simp] theorem sz74 : szT Try.prog 74 = 1 := by kernel_rfl
@[simp] theorem byt74 : bytT Try.prog 74 = some 8 := by kernel_rfl
@[simp] theorem agg74 : aggT Try.prog 74 = some false := by kernel_rfl
@[simp] theorem zc74 : zeroC Try.prog 74 = some [.opq .nilFunc] := by kernel_rfl
@[simp] theorem nc74_0 : nilC Try.prog 74 0 = false := by kernel_rfl
@[simp] theorem sz75 : szT Try.prog 75 = 1 := by kernel_rfl
@[simp] theorem byt75 : bytT Try.prog 75 = some 8 := by kernel_rfl
@[simp] theorem agg75 : aggT Try.prog 75 = some false := by kernel_rfl
@[simp] theorem zc75 : zeroC Try.prog 75 = some [.opq .nilFunc] := by kernel_rfl
@[simp] theorem nc75_0 : nilC Try.prog 75 0 = false := by kernel_rfl
@[simp] theorem sz76 : szT Try.prog 76 = 2 := by kernel_rfl
@[simp] theorem byt76 : bytT Try.prog 76 = some 24 := by kernel_rfl
@[simp] theorem agg76 : aggT Try.prog 76 = some true := by kernel_rfl
@[simp] theorem zc76 : zeroC Try.prog 76 = some [.str [], .int .i64 0] := by kernel_rfl
@[simp] theorem nc76_0 : nilC Try.prog 76 0 = false := by kernel_rfl
@[simp] theorem nc76_1 : nilC Try.prog 76 1 = false := by kernel_rfl
@[simp] theorem eq76 : eqS Try.prog 76 = some [(0, 2), (1, 0)] := by kernel_rfl
@[simp] theorem zs76 : zstr Try.prog 76 = some [.str [], .int .i64 0] := by kernel_rfl
@[simp] theorem fl76_0 : fldT Try.prog 76 0 = some (0, 9) := by kernel_rfl
@[simp] theorem fl76_1 : fldT Try.prog 76 1 = some (1, 3) := by kernel_rfl
@[simp] theorem sz77 : szT Try.prog 77 = 2 := by kernel_rfl
@[simp] theorem byt77 : bytT Try.prog 77 = some 24 := by kernel_rfl
@[simp] theorem agg77 : aggT Try.prog 77 = some true := by kernel_rfl
@[simp] theorem zc77 : zeroC Try.prog 77 = some [.str [], .int .i64 0] := by kernel_rfl
@[simp] theorem nc77_0 : nilC Try.prog 77 0 = false := by kernel_rfl
@[simp] theorem nc77_1 : nilC Try.prog 77 1 = false := by kernel_rfl
@[simp] theorem eq77 : eqS Try.prog 77 = some [(0, 2), (1, 0)] := by kernel_rfl
@[simp] theorem zs77 : zstr Try.prog 77 = some [.str [], .int .i64 0] := by kernel_rfl
@[simp] theorem fl77_0 : fldT Try.prog 77 0 = some (0, 9) := by kernel_rfl
@[simp] theorem fl77_1 : fldT Try.prog 77 1 = some (1, 3) := by kernel_rfl
@[simp] theorem sz78 : szT Try.prog 78 = 2 := by kernel_rfl
@[simp] theorem byt78 : bytT Try.prog 78 = some 16 := by kernel_rfl
@[simp] theorem agg78 : aggT Try.prog 78 = some true := by kernel_rfl
@[simp] theorem zc78 : zeroC Try.prog 78 = some [.int .i64 0, .int .i64 0] := by kernel_rfl
@[simp] theorem nc78_0 : nilC Try.prog 78 0 = false := by kernel_rfl
@[simp] theorem nc78_1 : nilC Try.prog 78 1 = false := by kernel_rfl
@[simp] theorem eq78 : eqS Try.prog 78 = some [(0, 0), (1, 0)] := by kernel_rfl
@[simp] theorem zs78 : zstr Try.prog 78 = some [.int .i64 0, .int .i64 0] := by kernel_rfl
@[simp] theorem fl78_0 : fldT Try.prog 78 0 = some (0, 3) := by kernel_rfl
@[simp] theorem fl78_1 : fldT Try.prog 78 1 = some (1, 3) := by kernel_rfl
@[simp] theorem sz79 : szT Try.prog 79 = 2 := by kernel_rfl
@[simp] theorem byt79 : bytT Try.prog 79 = some 16 := by kernel_rfl
@[simp] theorem agg79 : aggT Try.prog 79 = some true := by kernel_rfl
@[simp] theorem zc79 : zeroC Try.prog 79 = some [.int .i64 0, .int .i64 0] := by kernel_rfl
@[simp] theorem nc79_0 : nilC Try.prog 79 0 = false := by kernel_rfl
@[simp] theorem nc79_1 : nilC Try.prog 79 1 = false := by kernel_rfl
@[simp] theorem eq79 : eqS Try.prog 79 = some [(0, 0), (1, 0)] := by kernel_rfl
@[simp] theorem zs79 : zstr Try.prog 79 = some [.int .i64 0, .int .i64 0] := by kernel_rfl
@[simp] theorem fl79_0 : fldT Try.prog 79 0 = some (0, 3) := by kernel_rfl
@[simp] theorem fl79_1 : fldT Try.prog 79 1 = some (1, 3) := by kernel_rfl
@[simp] theorem sz80 : szT Try.prog 80 = 1 := by kernel_rfl
@[simp] theorem byt80 : bytT Try.prog 80 = some 8 := by kernel_rfl
@[simp] theorem agg80 : aggT Try.prog 80 = some false := by kernel_rfl
@[simp] theorem zc80 : zeroC Try.prog 80 = some [.opq .nilFunc] := by kernel_rfl
@[simp] theorem nc80_0 : nilC Try.prog 80 0 = false := by kernel_rfl
@[simp] theorem sz82 : szT Try.prog 82 = 1 := by kernel_rfl
@[simp] theorem byt82 : bytT Try.prog 82 = some 8 := by kernel_rfl
@[simp] theorem agg82 : aggT Try.prog 82 = some false := by kernel_rfl
@[simp] theorem zc82 : zeroC Try.prog 82 = some [.opq .nilFunc] := by kernel_rfl
@[simp] theorem nc82_0 : nilC Try.prog 82 0 = false := by kernel_rfl
@[simp] theorem sz83 : szT Try.prog 83 = 1 := by kernel_rfl
@[simp] theorem byt83 : bytT Try.prog 83 = some 8 := by kernel_rfl
@[simp] theorem agg83 : aggT Try.prog 83 = some false := by kernel_rfl
@[simp] theorem zc83 : zeroC Try.prog 83 = some [.opq .nilFunc] := by kernel_rfl
@[simp] theorem nc83_0 : nilC Try.prog 83 0 = false := by kernel_rfl
@[simp] theorem sz84 : szT Try.prog 84 = 1 := by kernel_rfl
@[simp] theorem byt84 : bytT Try.prog 84 = some 8 := by kernel_rfl
@[simp] theorem agg84 : aggT Try.prog 84 = some false := by kernel_rfl
@[simp] theorem zc84 : zeroC Try.prog 84 = some [.opq .nilFunc] := by kernel_rfl
@[simp] theorem nc84_0 : nilC Try.prog 84 0 = false := by kernel_rfl
@[simp] theorem sz85 : szT Try.prog 85 = 1 := by kernel_rfl
@[simp] theorem byt85 : bytT Try.prog 85 = some 8 := by kernel_rfl
@[simp] theorem agg85 : aggT Try.prog 85 = some false := by kernel_rfl
@[simp] theorem zc85 : zeroC Try.prog 85 = some [.opq .nilFunc] := by kernel_rfl
@[simp] theorem nc85_0 : nilC Try.prog 85 0 = false := by kernel_rfl
@[simp] theorem sz86 : szT Try.prog 86 = 1 := by kernel_rfl
@[simp] theorem byt86 : bytT Try.prog 86 = some 24 := by kernel_rfl
@[simp] theorem agg86 : aggT Try.prog 86 = some false := by kernel_rfl
@[simp] theorem zc86 : zeroC Try.prog 86 = some [.slice []] := by kernel_rfl
@[simp] theorem nc86_0 : nilC Try.prog 86 0 = true := by kernel_rfl
@[simp] theorem el86 : elT Try.prog 86 = some 3 := by kernel_rfl
@[simp] theorem und86 : Try.prog.underlying 86 = some (.slice 3) := by kernel_rfl
@[simp] theorem bz86 : bslZ Try.prog 86 = true := by kernel_rfl
@[simp] theorem es86 : eSz Try.prog 86 = 1 := by kernel_rfl
@[simp] theorem ae86 : agE Try.prog 86 = some false := by kernel_rfl
@[simp] theorem ap86 : apT Try.prog 86 = some (1, 8, .int .i64 0, true) := by kernel_rfl
@[simp] theorem sz87 : szT Try.prog 87 = 1 := by kernel_rfl
@[simp] theorem byt87 : bytT Try.prog 87 = some 8 := by kernel_rfl
@[simp] theorem agg87 : aggT Try.prog 87 = some false := by kernel_rfl
@[simp] theorem zc87 : zeroC Try.prog 87 = some [.opq .nilFunc] := by kernel_rfl
@[simp] theorem nc87_0 : nilC Try.prog 87 0 = false := by kernel_rfl
@[simp] theorem sz88 : szT Try.prog 88 = 1 := by kernel_rfl
@[simp] theorem byt88 : bytT Try.prog 88 = some 8 := by kernel_rfl
@[simp] theorem agg88 : aggT Try.prog 88 = some false := by kernel_rfl
@[simp] theorem zc88 : zeroC Try.prog 88 = some [.opq .nilFunc] := by kernel_rfl
@[simp] theorem nc88_0 : nilC Try.prog 88 0 = false := by kernel_rfl
@[simp] theorem sz89 : szT Try.prog 89 = 1 := by kernel_rfl
@[simp] theorem byt89 : bytT Try.prog 89 = some 8 := by kernel_rfl
@[simp] theorem agg89 : aggT Try.prog 89 = some false := by kernel_rfl
@[simp] theorem zc89 : zeroC Try.prog 89 = some [.opq .nilFunc] := by kernel_rfl
@[simp] theorem nc89_0 : nilC Try.prog 89 0 = false := by kernel_rfl
@[simp] theorem sz90 : szT Try.prog 90 = 1 := by kernel_rfl
@[simp] theorem byt90 : bytT Try.prog 90 = some 8 := by kernel_rfl
@[simp] theorem agg90 : aggT Try.prog 90 = some false := by kernel_rfl
@[simp] theorem zc90 : zeroC Try.prog 90 = some [.opq .nilFunc] := by kernel_rfl
@[simp] theorem nc90_0 : nilC Try.prog 90 0 = false := by kernel_rfl
@[simp] theorem sz91 : szT Try.prog 91 = 1 := by kernel_rfl
@[simp] theorem byt91 : bytT Try.prog 91 = some 8 := by kernel_rfl
@[simp] theorem agg91 : aggT Try.prog 91 = some false := by kernel_rfl
@[simp] theorem zc91 : zeroC Try.prog 91 = some [.opq .nilFunc] := by kernel_rfl
@[simp] theorem nc91_0 : nilC Try.prog 91 0 = false := by kernel_rfl
@[simp] theorem sz92 : szT Try.prog 92 = 1 := by kernel_rfl
@[simp] theorem byt92 : bytT Try.prog 92 = some 8 := by kernel_rfl
@[simp] theorem agg92 : aggT Try.prog 92 = some false := by kernel_rfl
@[simp] theorem zc92 : zeroC Try.prog 92 = some [.opq .nilFunc] := by kernel_rfl
@[simp] theorem nc92_0 : nilC Try.prog 92 0 = false := by kernel_rfl
@[simp] theorem sz93 : szT Try.prog 93 = 1 := by kernel_rfl
@[simp] theorem byt93 : bytT Try.prog 93 = some 8 := by kernel_rfl
@[simp] theorem agg93 : aggT Try.prog 93 = some false := by kernel_rfl
@[simp] theorem zc93 : zeroC Try.prog 93 = some [.opq .nilFunc] := by kernel_rfl
@[simp] theorem nc93_0 : nilC Try.prog 93 0 = false := by kernel_rfl
@[simp] theorem sz94 : szT Try.prog 94 = 1 := by kernel_rfl
@[simp] theorem byt94 : bytT Try.prog 94 = some 8 := by kernel_rfl
@[simp] theorem agg94 : aggT Try.prog 94 = some false := by kernel_rfl
@[simp] theorem zc94 : zeroC Try.prog 94 = some [.opq .nilFunc] := by kernel_rfl
@[simp] theorem nc94_0 : nilC Try.prog 94 0 = false := by kernel_rfl
@[simp] theorem sz95 : szT Try.prog 95 = 1 := by kernel_rfl
@[simp] theorem byt95 : bytT Try.prog 95 = some 8 := by kernel_rfl
@[simp] theorem agg95 : aggT Try.prog 95 = some false := by kernel_rfl
@[simp] theorem zc95 : zeroC Try.prog 95 = some [.opq .nilFunc] := by kernel_rfl
@[simp] theorem nc95_0 : nilC Try.prog 95 0 = false := by kernel_rfl
@[simp] theorem sz97 : szT Try.prog 97 = 1 := by kernel_rfl
@[simp] theorem byt97 : bytT Try.prog 97 = some 8 := by kernel_rfl
@[simp] theorem agg97 : aggT Try.prog 97 = some false := by kernel_rfl
@[simp] theorem zc97 : zeroC Try.prog 97 = some [.opq .nilFunc] := by kernel_rfl
@[simp] theorem nc97_0 : nilC Try.prog 97 0 = false := by kernel_rfl
@[simp] theorem sz98 : szT Try.prog 98 = 1 := by kernel_rfl
@[simp] theorem byt98 : bytT Try.prog 98 = some 8 := by kernel_rfl
@[simp] theorem agg98 : aggT Try.prog 98 = some false := by kernel_rfl
@[simp] theorem zc98 : zeroC Try.prog 98 = some [.opq .nilFunc] := by kernel_rfl
@[simp] theorem nc98_0 : nilC Try.prog 98 0 = false := by kernel_rfl
@[simp] theorem sz99 : szT Try.prog 99 = 1 := by kernel_rfl
@[simp] theorem byt99 : bytT Try.prog 99 = some 24 := by kernel_rfl
@[simp] theorem agg99 : aggT Try.prog 99 = some false := by kernel_rfl
@[simp] theorem zc99 : zeroC Try.prog 99 = some [.slice []] := by kernel_rfl
@[simp] theorem nc99_0 : nilC Try.prog 99 0 = true := by kernel_rfl
@[simp] theorem el99 : elT Try.prog 99 = some 102 := by kernel_rfl
@[simp] theorem und99 : Try.prog.underlying 99 = some (.slice 102) := by kernel_rfl
@[simp] theorem bz99 : bslZ Try.prog 99 = true := by kernel_rfl
@[simp] theorem es99 : eSz Try.prog 99 = 9 := by kernel_rfl
@[simp] theorem ae99 : agE Try.prog 99 = some true := by kernel_rfl
@[simp] theorem ap99 : apT Try.prog 99 = some (9, 104, .opq (.agg #[.int .i64 0, .int .i64 0, .int .i64 0, .int .i64 0, .slice none 0 0, .slice none 0 0, .int .i64 0, .int .i64 0, .int .i64 0]), false) := by kernel_rfl
@[simp] theorem sz100 : szT Try.prog 100 = 1 := by kernel_rfl
@[simp] theorem byt100 : bytT Try.prog 100 = some 8 := by kernel_rfl
@[simp] theorem agg100 : aggT Try.prog 100 = some false := by kernel_rfl
@[simp] theorem zc100 : zeroC Try.prog 100 = some [.opq .nilFunc] := by kernel_rfl
@[simp] theorem nc100_0 : nilC Try.prog 100 0 = false := by kernel_rfl
@[simp] theorem sz101 : szT Try.prog 101 = 9 := by kernel_rfl
@[simp] theorem byt101 : bytT Try.prog 101 = some 104 := by kernel_rfl
@[simp] theorem agg101 : aggT Try.prog 101 = some true := by kernel_rfl
@[simp] theorem zc101 : zeroC Try.prog 101 = some [.int .i64 0, .int .i64 0, .int .i64 0, .int .i64 0, .slice [], .slice [], .int .i64 0, .int .i64 0, .int .i64 0] := by kernel_rfl
@[simp] theorem nc101_0 : nilC Try.prog 101 0 = false := by kernel_rfl
@[simp] theorem nc101_1 : nilC Try.prog 101 1 = false := by kernel_rfl
@[simp] theorem nc101_2 : nilC Try.prog 101 2 = false := by kernel_rfl
@[simp] theorem nc101_3 : nilC Try.prog 101 3 = false := by kernel_rfl
@[simp] theorem nc101_4 : nilC Try.prog 101 4 = true := by kernel_rfl
@[simp] theorem nc101_5 : nilC Try.prog 101 5 = true := by kernel_rfl
@[simp] theorem nc101_6 : nilC Try.prog 101 6 = false := by kernel_rfl
@[simp] theorem nc101_7 : nilC Try.prog 101 7 = false := by kernel_rfl
@[simp] theorem nc101_8 : nilC Try.prog 101 8 = false := by kernel_rfl
@[simp] theorem zs101 : zstr Try.prog 101 = some [.int .i64 0, .int .i64 0, .int .i64 0, .int .i64 0, .slice [], .slice [], .int .i64 0, .int .i64 0, .int .i64 0] := by kernel_rfl
@[simp] theorem fl101_0 : fldT Try.prog 101 0 = some (0, 3) := by kernel_rfl
@[simp] theorem fl101_1 : fldT Try.prog 101 1 = some (1, 3) := by kernel_rfl
@[simp] theorem fl101_2 : fldT Try.prog 101 2 = some (2, 53) := by kernel_rfl
@[simp] theorem sz102 : szT Try.prog 102 = 9 := by kernel_rfl
@[simp] theorem byt102 : bytT Try.prog 102 = some 104 := by kernel_rfl
@[simp] theorem agg102 : aggT Try.prog 102 = some true := by kernel_rfl
@[simp] theorem zc102 : zeroC Try.prog 102 = some [.int .i64 0, .int .i64 0, .int .i64 0, .int .i64 0, .slice [], .slice [], .int .i64 0, .int .i64 0, .int .i64 0] := by kernel_rfl
@[simp] theorem nc102_0 : nilC Try.prog 102 0 = false := by kernel_rfl
@[simp] theorem nc102_1 : nilC Try.prog 102 1 = false := by kernel_rfl
@[simp] theorem nc102_2 : nilC Try.prog 102 2 = false := by kernel_rfl
@[simp] theorem nc102_3 : nilC Try.prog 102 3 = false := by kernel_rfl
@[simp] theorem nc102_4 : nilC Try.prog 102 4 = true := by kernel_rfl
@[simp] theorem nc102_5 : nilC Try.prog 102 5 = true := by kernel_rfl
@[simp] theorem nc102_6 : nilC Try.prog 102 6 = false := by kernel_rfl
@[simp] theorem nc102_7 : nilC Try.prog 102 7 = false := by kernel_rfl
@[simp] theorem nc102_8 : nilC Try.prog 102 8 = false := by kernel_rfl
@[simp] theorem zs102 : zstr Try.prog 102 = some [.int .i64 0, .int .i64 0, .int .i64 0, .int .i64 0, .slice [], .slice [], .int .i64 0, .int .i64 0, .int .i64 0] := by kernel_rfl
@[simp] theorem fl102_0 : fldT Try.prog 102 0 = some (0, 3) := by kernel_rfl
@[simp] theorem fl102_1 : fldT Try.prog 102 1 = some (1, 3) := by kernel_rfl
@[simp] theorem fl102_2 : fldT Try.prog 102 2 = some (2, 53) := by kernel_rfl
@[simp] theorem sz103 : szT Try.prog 103 = 1 := by kernel_rfl
@[simp] theorem byt103 : bytT Try.prog 103 = some 8 := by kernel_rfl
@[simp] theorem agg103 : aggT Try.prog 103 = some false := by kernel_rfl
@[simp] theorem zc103 : zeroC Try.prog 103 = some [.opq .nilFunc] := by kernel_rfl
@[simp] theorem nc103_0 : nilC Try.prog 103 0 = false := by kernel_rfl
@[simp] theorem sz104 : szT Try.prog 104 = 1 := by kernel_rfl
@[simp] theorem byt104 : bytT Try.prog 104 = some 8 := by kernel_rfl
@[simp] theorem agg104 : aggT Try.prog 104 = some false := by kernel_rfl
@[simp] theorem zc104 : zeroC Try.prog 104 = some [.opq .nilFunc] := by kernel_rfl
@[simp] theorem nc104_0 : nilC Try.prog 104 0 = false := by kernel_rfl
@[simp] theorem sz105 : szT Try.prog 105 = 1 := by kernel_rfl
@[simp] theorem byt105 : bytT Try.prog 105 = some 8 := by kernel_rfl
@[simp] theorem agg105 : aggT Try.prog 105 = some false := by kernel_rfl
@[simp] theorem zc105 : zeroC Try.prog 105 = some [.opq .nilFunc] := by kernel_rfl
@[simp] theorem nc105_0 : nilC Try.prog 105 0 = false := by kernel_rfl
@[simp] theorem sz106 : szT Try.prog 106 = 1 := by kernel_rfl
@[simp] theorem byt106 : bytT Try.prog 106 = some 8 := by kernel_rfl
@[simp] theorem agg106 : aggT Try.prog 106 = some false := by kernel_rfl
@[simp] theorem zc106 : zeroC Try.prog 106 = some [.opq .nilFunc] := by kernel_rfl
@[simp] theorem nc106_0 : nilC Try.prog 106 0 = false := by kernel_rfl
@[simp] theorem sz107 : szT Try.prog 107 = 1 := by kernel_rfl
@[simp] theorem byt107 : bytT Try.prog 107 = some 8 := by kernel_rfl
@[simp] theorem agg107 : aggT Try.prog 107 = some false := by kernel_rfl
@[simp] theorem zc107 : zeroC Try.prog 107 = some [.opq .nilFunc] := by kernel_rfl
@[simp] theorem nc107_0 : nilC Try.prog 107 0 = false := by kernel_rfl
@[simp] theorem sz108 : szT Try.prog 108 = 1 := by kernel_rfl
@[simp] theorem byt108 : bytT Try.prog 108 = some 8 := by kernel_rfl
@[simp] theorem agg108 : aggT Try.prog 108 = some false := by kernel_rfl
@[simp] theorem zc108 : zeroC Try.prog 108 = some [.opq .nilFunc] := by kernel_rfl
@[simp] theorem nc108_0 : nilC Try.prog 108 0 = false := by kernel_rfl
@[simp] theorem sz114 : szT Try.prog 114 = 1 := by kernel_rfl
@[simp] theorem byt114 : bytT Try.prog 114 = some 8 := by kernel_rfl
@[simp] theorem agg114 : aggT Try.prog 114 = some false := by kernel_rfl
@[simp] theorem zc114 : zeroC Try.prog 114 = some [.opq .nilFunc] := by kernel_rfl
@[simp] theorem nc114_0 : nilC Try.prog 114 0 = false := by kernel_rfl
@[simp] theorem sz115 : szT Try.prog 115 = 1 := by kernel_rfl
@[simp] theorem byt115 : bytT Try.prog 115 = some 4 := by kernel_rfl
@[simp] theorem agg115 : aggT Try.prog 115 = some false := by kernel_rfl
@[simp] theorem zc115 : zeroC Try.prog 115 = some [.int .u32 0] := by kernel_rfl
@[simp] theorem nc115_0 : nilC Try.prog 115 0 = false := by kernel_rfl
@[simp] theorem und115 : Try.prog.underlying 115 = some (.int .u32) := by kernel_rfl
@[simp] theorem sz118 : szT Try.prog 118 = 1 := by kernel_rfl
@[simp] theorem byt118 : bytT Try.prog 118 = some 8 := by kernel_rfl
@[simp] theorem agg118 : aggT Try.prog 118 = some false := by kernel_rfl
@[simp] theorem zc118 : zeroC Try.prog 118 = some [.opq .nilFunc] := by kernel_rfl
@[simp] theorem nc118_0 : nilC Try.prog 118 0 = false := by kernel_rfl
@[simp] theorem sz119 : szT Try.prog 119 = 1 := by kernel_rfl
@[simp] theorem byt119 : bytT Try.prog 119 = some 8 := by kernel_rfl
@[simp] theorem agg119 : aggT Try.prog 119 = some false := by kernel_rfl
@[simp] theorem zc119 : zeroC Try.prog 119 = some [.opq (.pointer none)] := by kernel_rfl
@[simp] theorem nc119_0 : nilC Try.prog 119 0 = false := by kernel_rfl
@[simp] theorem und119 : Try.prog.underlying 119 = some (.pointer 5) := by kernel_rfl
@[simp] theorem sz122 : szT Try.prog 122 = 11 := by kernel_rfl
@[simp] theorem byt122 : bytT Try.prog 122 = some 48 := by kernel_rfl
@[simp] theorem agg122 : aggT Try.prog 122 = some true := by kernel_rfl
@[simp] theorem zc122 : zeroC Try.prog 122 = some [.int .u64 0, .int .u64 0, .int .u32 0, .int .u8 0, .int .u8 0, .int .u8 0, .int .u8 0, .opq .nilFunc, .opq (.pointer none), .int .i32 0, .int .i32 0] := by kernel_rfl
@[simp] theorem nc122_0 : nilC Try.prog 122 0 = false := by kernel_rfl
@[simp] theorem nc122_1 : nilC Try.prog 122 1 = false := by kernel_rfl
@[simp] theorem nc122_2 : nilC Try.prog 122 2 = false := by kernel_rfl
@[simp] theorem nc122_3 : nilC Try.prog 122 3 = false := by kernel_rfl
@[simp] theorem nc122_4 : nilC Try.prog 122 4 = false := by kernel_rfl
@[simp] theorem nc122_5 : nilC Try.prog 122 5 = false := by kernel_rfl
@[simp] theorem nc122_6 : nilC Try.prog 122 6 = false := by kernel_rfl
@[simp] theorem nc122_7 : nilC Try.prog 122 7 = false := by kernel_rfl
@[simp] theorem nc122_8 : nilC Try.prog 122 8 = false := by kernel_rfl
@[simp] theorem nc122_9 : nilC Try.prog 122 9 = false := by kernel_rfl
@[simp] theorem nc122_10 : nilC Try.prog 122 10 = false := by kernel_rfl
@[simp] theorem zs122 : zstr Try.prog 122 = some [.int .u64 0, .int .u64 0, .int .u32 0, .int .u8 0, .int .u8 0, .int .u8 0, .int .u8 0, .opq .nilFunc, .opq (.pointer none), .int .i32 0, .int .i32 0] := by kernel_rfl
@[simp] theorem fl122_0 : fldT Try.prog 122 0 = some (0, 12) := by kernel_rfl
@[simp] theorem fl122_1 : fldT Try.prog 122 1 = some (1, 12) := by kernel_rfl
@[simp] theorem fl122_2 : fldT Try.prog 122 2 = some (2, 115) := by kernel_rfl
@[simp] theorem fl122_3 : fldT Try.prog 122 3 = some (3, 116) := by kernel_rfl
@[simp] theorem fl122_4 : fldT Try.prog 122 4 = some (4, 5) := by kernel_rfl
@[simp] theorem fl122_5 : fldT Try.prog 122 5 = some (5, 5) := by kernel_rfl
@[simp] theorem fl122_6 : fldT Try.prog 122 6 = some (6, 117) := by kernel_rfl
@[simp] theorem fl122_7 : fldT Try.prog 122 7 = some (7, 118) := by kernel_rfl
@[simp] theorem fl122_8 : fldT Try.prog 122 8 = some (8, 119) := by kernel_rfl
@[simp] theorem fl122_9 : fldT Try.prog 122 9 = some (9, 120) := by kernel_rfl
@[simp] theorem fl122_10 : fldT Try.prog 122 10 = some (10, 121) := by kernel_rfl
end Go.Proofs.Ytgkgnpgbdeoddaa
