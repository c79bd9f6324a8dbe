/- The facts on this seat's types that the engine asks for, each by reckoning. PRINTED by types.py. -/
import Derived.Test.YtkiccmpebcjhlaaEngZ
import Derived.Test.YtkiccmpebcjhlaaProg
import Derived.KernelRfl
namespace Go.Proofs.Ytkiccmpebcjhlaa
open BoEng
set_option maxRecDepth 100000
@[simp] theorem sz1 : szT Try.prog 1 = 1 := by kernel_rfl
@[simp] theorem byt1 : bytT Try.prog 1 = some 8 := by kernel_rfl
@[simp] theorem agg1 : aggT Try.prog 1 = some false := by kernel_rfl
@[simp] theorem zc1 : zeroC Try.prog 1 = some [.opq .nilFunc] := by kernel_rfl
@[simp] theorem nc1_0 : nilC Try.prog 1 0 = false := by kernel_rfl
@[simp] theorem sz2 : szT Try.prog 2 = 1 := by kernel_rfl
@[simp] theorem byt2 : bytT Try.prog 2 = some 8 := by kernel_rfl
@[simp] theorem agg2 : aggT Try.prog 2 = some false := by kernel_rfl
@[simp] theorem zc2 : zeroC Try.prog 2 = some [.int .i64 0] := by kernel_rfl
@[simp] theorem nc2_0 : nilC Try.prog 2 0 = false := by kernel_rfl
@[simp] theorem und2 : Try.prog.underlying 2 = some (.int .i64) := by kernel_rfl
@[simp] theorem sz3 : szT Try.prog 3 = 1 := by kernel_rfl
@[simp] theorem byt3 : bytT Try.prog 3 = some 8 := by kernel_rfl
@[simp] theorem agg3 : aggT Try.prog 3 = some false := by kernel_rfl
@[simp] theorem zc3 : zeroC Try.prog 3 = some [.int .i64 0] := by kernel_rfl
@[simp] theorem nc3_0 : nilC Try.prog 3 0 = false := by kernel_rfl
@[simp] theorem und3 : Try.prog.underlying 3 = some (.int .i64) := by kernel_rfl
@[simp] theorem sz4 : szT Try.prog 4 = 1 := by kernel_rfl
@[simp] theorem byt4 : bytT Try.prog 4 = some 1 := by kernel_rfl
@[simp] theorem agg4 : aggT Try.prog 4 = some false := by kernel_rfl
@[simp] theorem zc4 : zeroC Try.prog 4 = some [.bool false] := by kernel_rfl
@[simp] theorem nc4_0 : nilC Try.prog 4 0 = false := by kernel_rfl
@[simp] theorem und4 : Try.prog.underlying 4 = some .bool := by kernel_rfl
@[simp] theorem sz5 : szT Try.prog 5 = 1 := by kernel_rfl
@[simp] theorem byt5 : bytT Try.prog 5 = some 1 := by kernel_rfl
@[simp] theorem agg5 : aggT Try.prog 5 = some false := by kernel_rfl
@[simp] theorem zc5 : zeroC Try.prog 5 = some [.int .u8 0] := by kernel_rfl
@[simp] theorem nc5_0 : nilC Try.prog 5 0 = false := by kernel_rfl
@[simp] theorem und5 : Try.prog.underlying 5 = some (.int .u8) := by kernel_rfl
@[simp] theorem sz9 : szT Try.prog 9 = 1 := by kernel_rfl
@[simp] theorem byt9 : bytT Try.prog 9 = some 16 := by kernel_rfl
@[simp] theorem agg9 : aggT Try.prog 9 = some false := by kernel_rfl
@[simp] theorem zc9 : zeroC Try.prog 9 = some [.str []] := by kernel_rfl
@[simp] theorem nc9_0 : nilC Try.prog 9 0 = false := by kernel_rfl
@[simp] theorem und9 : Try.prog.underlying 9 = some .string := by kernel_rfl
@[simp] theorem sz12 : szT Try.prog 12 = 1 := by kernel_rfl
@[simp] theorem byt12 : bytT Try.prog 12 = some 8 := by kernel_rfl
@[simp] theorem agg12 : aggT Try.prog 12 = some false := by kernel_rfl
@[simp] theorem zc12 : zeroC Try.prog 12 = some [.int .u64 0] := by kernel_rfl
@[simp] theorem nc12_0 : nilC Try.prog 12 0 = false := by kernel_rfl
@[simp] theorem und12 : Try.prog.underlying 12 = some (.int .u64) := by kernel_rfl
@[simp] theorem sz15 : szT Try.prog 15 = 1 := by kernel_rfl
@[simp] theorem byt15 : bytT Try.prog 15 = some 8 := by kernel_rfl
@[simp] theorem agg15 : aggT Try.prog 15 = some false := by kernel_rfl
@[simp] theorem zc15 : zeroC Try.prog 15 = some [.opq (.pointer none)] := by kernel_rfl
@[simp] theorem nc15_0 : nilC Try.prog 15 0 = false := by kernel_rfl
@[simp] theorem sz16 : szT Try.prog 16 = 1 := by kernel_rfl
@[simp] theorem byt16 : bytT Try.prog 16 = some 8 := by kernel_rfl
@[simp] theorem agg16 : aggT Try.prog 16 = some false := by kernel_rfl
@[simp] theorem zc16 : zeroC Try.prog 16 = some [.opq (.pointer none)] := by kernel_rfl
@[simp] theorem nc16_0 : nilC Try.prog 16 0 = false := by kernel_rfl
@[simp] theorem sz17 : szT Try.prog 17 = 1 := by kernel_rfl
@[simp] theorem byt17 : bytT Try.prog 17 = some 8 := by kernel_rfl
@[simp] theorem agg17 : aggT Try.prog 17 = some false := by kernel_rfl
@[simp] theorem zc17 : zeroC Try.prog 17 = some [.opq (.pointer none)] := by kernel_rfl
@[simp] theorem nc17_0 : nilC Try.prog 17 0 = false := by kernel_rfl
@[simp] theorem sz20 : szT Try.prog 20 = 1 := by kernel_rfl
@[simp] theorem byt20 : bytT Try.prog 20 = some 16 := by kernel_rfl
@[simp] theorem agg20 : aggT Try.prog 20 = some false := by kernel_rfl
@[simp] theorem zc20 : zeroC Try.prog 20 = some [.opq .nilIface] := by kernel_rfl
@[simp] theorem nc20_0 : nilC Try.prog 20 0 = false := by kernel_rfl
@[simp] theorem sz21 : szT Try.prog 21 = 1 := by kernel_rfl
@[simp] theorem byt21 : bytT Try.prog 21 = some 4 := by kernel_rfl
@[simp] theorem agg21 : aggT Try.prog 21 = some false := by kernel_rfl
@[simp] theorem zc21 : zeroC Try.prog 21 = some [.int .i32 0] := by kernel_rfl
@[simp] theorem nc21_0 : nilC Try.prog 21 0 = false := by kernel_rfl
@[simp] theorem und21 : Try.prog.underlying 21 = some (.int .i32) := by kernel_rfl
@[simp] theorem sz22 : szT Try.prog 22 = 1 := by kernel_rfl
@[simp] theorem byt22 : bytT Try.prog 22 = some 24 := by kernel_rfl
@[simp] theorem agg22 : aggT Try.prog 22 = some false := by kernel_rfl
@[simp] theorem zc22 : zeroC Try.prog 22 = some [.slice []] := by kernel_rfl
@[simp] theorem nc22_0 : nilC Try.prog 22 0 = true := by kernel_rfl
@[simp] theorem el22 : elT Try.prog 22 = some 5 := by kernel_rfl
@[simp] theorem und22 : Try.prog.underlying 22 = some (.slice 5) := by kernel_rfl
@[simp] theorem es22 : eSz Try.prog 22 = 1 := by kernel_rfl
@[simp] theorem ap22 : apT Try.prog 22 = some (1, 1, .int .u8 0, true) := by kernel_rfl
@[simp] theorem sz23 : szT Try.prog 23 = 1 := by kernel_rfl
@[simp] theorem byt23 : bytT Try.prog 23 = some 24 := by kernel_rfl
@[simp] theorem agg23 : aggT Try.prog 23 = some false := by kernel_rfl
@[simp] theorem zc23 : zeroC Try.prog 23 = some [.slice []] := by kernel_rfl
@[simp] theorem nc23_0 : nilC Try.prog 23 0 = true := by kernel_rfl
@[simp] theorem el23 : elT Try.prog 23 = some 39 := by kernel_rfl
@[simp] theorem und23 : Try.prog.underlying 23 = some (.slice 39) := by kernel_rfl
@[simp] theorem es23 : eSz Try.prog 23 = 2 := by kernel_rfl
@[simp] theorem ap23 : apT Try.prog 23 = some (2, 32, .opq (.agg #[.int .i64 0, .slice none 0 0]), false) := by kernel_rfl
@[simp] theorem sz24 : szT Try.prog 24 = 13 := by kernel_rfl
@[simp] theorem byt24 : bytT Try.prog 24 = some 136 := by kernel_rfl
@[simp] theorem agg24 : aggT Try.prog 24 = some true := by kernel_rfl
@[simp] theorem zc24 : zeroC Try.prog 24 = some [.int .i64 0, .int .i64 0, .int .i64 0, .int .i64 0, .int .i64 0, .int .i64 0, .int .i64 0, .int .i64 0, .int .i64 0, .int .i64 0, .int .i64 0, .slice [], .slice []] := by kernel_rfl
@[simp] theorem nc24_0 : nilC Try.prog 24 0 = false := by kernel_rfl
@[simp] theorem nc24_1 : nilC Try.prog 24 1 = false := by kernel_rfl
@[simp] theorem nc24_2 : nilC Try.prog 24 2 = false := by kernel_rfl
@[simp] theorem nc24_3 : nilC Try.prog 24 3 = false := by kernel_rfl
@[simp] theorem nc24_4 : nilC Try.prog 24 4 = false := by kernel_rfl
@[simp] theorem nc24_5 : nilC Try.prog 24 5 = false := by kernel_rfl
@[simp] theorem nc24_6 : nilC Try.prog 24 6 = false := by kernel_rfl
@[simp] theorem nc24_7 : nilC Try.prog 24 7 = false := by kernel_rfl
@[simp] theorem nc24_8 : nilC Try.prog 24 8 = false := by kernel_rfl
@[simp] theorem nc24_9 : nilC Try.prog 24 9 = false := by kernel_rfl
@[simp] theorem nc24_10 : nilC Try.prog 24 10 = false := by kernel_rfl
@[simp] theorem nc24_11 : nilC Try.prog 24 11 = true := by kernel_rfl
@[simp] theorem nc24_12 : nilC Try.prog 24 12 = true := by kernel_rfl
@[simp] theorem zs24 : zstr Try.prog 24 = some [.int .i64 0, .int .i64 0, .int .i64 0, .int .i64 0, .int .i64 0, .int .i64 0, .int .i64 0, .int .i64 0, .int .i64 0, .int .i64 0, .int .i64 0, .slice [], .slice []] := by kernel_rfl
@[simp] theorem fl24_0 : fldT Try.prog 24 0 = some (0, 3) := by kernel_rfl
@[simp] theorem fl24_1 : fldT Try.prog 24 1 = some (1, 3) := by kernel_rfl
@[simp] theorem fl24_2 : fldT Try.prog 24 2 = some (2, 3) := by kernel_rfl
@[simp] theorem fl24_3 : fldT Try.prog 24 3 = some (3, 3) := by kernel_rfl
@[simp] theorem fl24_4 : fldT Try.prog 24 4 = some (4, 3) := by kernel_rfl
@[simp] theorem fl24_5 : fldT Try.prog 24 5 = some (5, 3) := by kernel_rfl
@[simp] theorem fl24_6 : fldT Try.prog 24 6 = some (6, 3) := by kernel_rfl
@[simp] theorem fl24_7 : fldT Try.prog 24 7 = some (7, 3) := by kernel_rfl
@[simp] theorem fl24_8 : fldT Try.prog 24 8 = some (8, 3) := by kernel_rfl
@[simp] theorem fl24_9 : fldT Try.prog 24 9 = some (9, 3) := by kernel_rfl
@[simp] theorem fl24_10 : fldT Try.prog 24 10 = some (10, 3) := by kernel_rfl
@[simp] theorem fl24_11 : fldT Try.prog 24 11 = some (11, 22) := by kernel_rfl
@[simp] theorem fl24_12 : fldT Try.prog 24 12 = some (12, 23) := by kernel_rfl
@[simp] theorem sz25 : szT Try.prog 25 = 13 := by kernel_rfl
@[simp] theorem byt25 : bytT Try.prog 25 = some 136 := by kernel_rfl
@[simp] theorem agg25 : aggT Try.prog 25 = some true := by kernel_rfl
@[simp] theorem zc25 : zeroC Try.prog 25 = some [.int .i64 0, .int .i64 0, .int .i64 0, .int .i64 0, .int .i64 0, .int .i64 0, .int .i64 0, .int .i64 0, .int .i64 0, .int .i64 0, .int .i64 0, .slice [], .slice []] := by kernel_rfl
@[simp] theorem nc25_0 : nilC Try.prog 25 0 = false := by kernel_rfl
@[simp] theorem nc25_1 : nilC Try.prog 25 1 = false := by kernel_rfl
@[simp] theorem nc25_2 : nilC Try.prog 25 2 = false := by kernel_rfl
@[simp] theorem nc25_3 : nilC Try.prog 25 3 = false := by kernel_rfl
@[simp] theorem nc25_4 : nilC Try.prog 25 4 = false := by kernel_rfl
@[simp] theorem nc25_5 : nilC Try.prog 25 5 = false := by kernel_rfl
@[simp] theorem nc25_6 : nilC Try.prog 25 6 = false := by kernel_rfl
@[simp] theorem nc25_7 : nilC Try.prog 25 7 = false := by kernel_rfl
@[simp] theorem nc25_8 : nilC Try.prog 25 8 = false := by kernel_rfl
@[simp] theorem nc25_9 : nilC Try.prog 25 9 = false := by kernel_rfl
@[simp] theorem nc25_10 : nilC Try.prog 25 10 = false := by kernel_rfl
@[simp] theorem nc25_11 : nilC Try.prog 25 11 = true := by kernel_rfl
@[simp] theorem nc25_12 : nilC Try.prog 25 12 = true := by kernel_rfl
@[simp] theorem zs25 : zstr Try.prog 25 = some [.int .i64 0, .int .i64 0, .int .i64 0, .int .i64 0, .int .i64 0, .int .i64 0, .int .i64 0, .int .i64 0, .int .i64 0, .int .i64 0, .int .i64 0, .slice [], .slice []] := by kernel_rfl
@[simp] theorem fl25_0 : fldT Try.prog 25 0 = some (0, 3) := by kernel_rfl
@[simp] theorem fl25_1 : fldT Try.prog 25 1 = some (1, 3) := by kernel_rfl
@[simp] theorem fl25_2 : fldT Try.prog 25 2 = some (2, 3) := by kernel_rfl
@[simp] theorem fl25_3 : fldT Try.prog 25 3 = some (3, 3) := by kernel_rfl
@[simp] theorem fl25_4 : fldT Try.prog 25 4 = some (4, 3) := by kernel_rfl
@[simp] theorem fl25_5 : fldT Try.prog 25 5 = some (5, 3) := by kernel_rfl
@[simp] theorem fl25_6 : fldT Try.prog 25 6 = some (6, 3) := by kernel_rfl
@[simp] theorem fl25_7 : fldT Try.prog 25 7 = some (7, 3) := by kernel_rfl
@[simp] theorem fl25_8 : fldT Try.prog 25 8 = some (8, 3) := by kernel_rfl
@[simp] theorem fl25_9 : fldT Try.prog 25 9 = some (9, 3) := by kernel_rfl
@[simp] theorem fl25_10 : fldT Try.prog 25 10 = some (10, 3) := by kernel_rfl
@[simp] theorem fl25_11 : fldT Try.prog 25 11 = some (11, 22) := by kernel_rfl
@[simp] theorem fl25_12 : fldT Try.prog 25 12 = some (12, 23) := by kernel_rfl
@[simp] theorem sz26 : szT Try.prog 26 = 1 := by kernel_rfl
@[simp] theorem byt26 : bytT Try.prog 26 = some 8 := by kernel_rfl
@[simp] theorem agg26 : aggT Try.prog 26 = some false := by kernel_rfl
@[simp] theorem zc26 : zeroC Try.prog 26 = some [.opq .nilFunc] := by kernel_rfl
@[simp] theorem nc26_0 : nilC Try.prog 26 0 = false := by kernel_rfl
@[simp] theorem sz27 : szT Try.prog 27 = 1 := by kernel_rfl
@[simp] theorem byt27 : bytT Try.prog 27 = some 8 := by kernel_rfl
@[simp] theorem agg27 : aggT Try.prog 27 = some false := by kernel_rfl
@[simp] theorem zc27 : zeroC Try.prog 27 = some [.opq .nilFunc] := by kernel_rfl
@[simp] theorem nc27_0 : nilC Try.prog 27 0 = false := by kernel_rfl
@[simp] theorem sz28 : szT Try.prog 28 = 3 := by kernel_rfl
@[simp] theorem byt28 : bytT Try.prog 28 = some 24 := by kernel_rfl
@[simp] theorem agg28 : aggT Try.prog 28 = some true := by kernel_rfl
@[simp] theorem zc28 : zeroC Try.prog 28 = some [.int .i64 0, .int .i64 0, .bool false] := by kernel_rfl
@[simp] theorem nc28_0 : nilC Try.prog 28 0 = false := by kernel_rfl
@[simp] theorem nc28_1 : nilC Try.prog 28 1 = false := by kernel_rfl
@[simp] theorem nc28_2 : nilC Try.prog 28 2 = false := by kernel_rfl
@[simp] theorem eq28 : eqS Try.prog 28 = some [(0, 0), (1, 0), (2, 1)] := by kernel_rfl
@[simp] theorem zs28 : zstr Try.prog 28 = some [.int .i64 0, .int .i64 0, .bool false] := by kernel_rfl
@[simp] theorem fl28_0 : fldT Try.prog 28 0 = some (0, 3) := by kernel_rfl
@[simp] theorem fl28_1 : fldT Try.prog 28 1 = some (1, 3) := by kernel_rfl
@[simp] theorem fl28_2 : fldT Try.prog 28 2 = some (2, 4) := by kernel_rfl
@[simp] theorem sz29 : szT Try.prog 29 = 3 := by kernel_rfl
@[simp] theorem byt29 : bytT Try.prog 29 = some 24 := by kernel_rfl
@[simp] theorem agg29 : aggT Try.prog 29 = some true := by kernel_rfl
@[simp] theorem zc29 : zeroC Try.prog 29 = some [.int .i64 0, .int .i64 0, .bool false] := by kernel_rfl
@[simp] theorem nc29_0 : nilC Try.prog 29 0 = false := by kernel_rfl
@[simp] theorem nc29_1 : nilC Try.prog 29 1 = false := by kernel_rfl
@[simp] theorem nc29_2 : nilC Try.prog 29 2 = false := by kernel_rfl
@[simp] theorem eq29 : eqS Try.prog 29 = some [(0, 0), (1, 0), (2, 1)] := by kernel_rfl
@[simp] theorem zs29 : zstr Try.prog 29 = some [.int .i64 0, .int .i64 0, .bool false] := by kernel_rfl
@[simp] theorem fl29_0 : fldT Try.prog 29 0 = some (0, 3) := by kernel_rfl
@[simp] theorem fl29_1 : fldT Try.prog 29 1 = some (1, 3) := by kernel_rfl
@[simp] theorem fl29_2 : fldT Try.prog 29 2 = some (2, 4) := by kernel_rfl
@[simp] theorem sz30 : szT Try.prog 30 = 1 := by kernel_rfl
@[simp] theorem byt30 : bytT Try.prog 30 = some 8 := by kernel_rfl
@[simp] theorem agg30 : aggT Try.prog 30 = some false := by kernel_rfl
@[simp] theorem zc30 : zeroC Try.prog 30 = some [.opq .nilFunc] := by kernel_rfl
@[simp] theorem nc30_0 : nilC Try.prog 30 0 = false := by kernel_rfl
@[simp] theorem sz31 : szT Try.prog 31 = 3 := by kernel_rfl
@[simp] theorem byt31 : bytT Try.prog 31 = some 24 := by kernel_rfl
@[simp] theorem agg31 : aggT Try.prog 31 = some true := by kernel_rfl
@[simp] theorem zc31 : zeroC Try.prog 31 = some [.int .i64 0, .int .i64 0, .bool false] := by kernel_rfl
@[simp] theorem nc31_0 : nilC Try.prog 31 0 = false := by kernel_rfl
@[simp] theorem nc31_1 : nilC Try.prog 31 1 = false := by kernel_rfl
@[simp] theorem nc31_2 : nilC Try.prog 31 2 = false := by kernel_rfl
@[simp] theorem eq31 : eqS Try.prog 31 = some [(0, 0), (1, 0), (2, 1)] := by kernel_rfl
@[simp] theorem zs31 : zstr Try.prog 31 = some [.int .i64 0, .int .i64 0, .bool false] := by kernel_rfl
@[simp] theorem fl31_0 : fldT Try.prog 31 0 = some (0, 3) := by kernel_rfl
@[simp] theorem fl31_1 : fldT Try.prog 31 1 = some (1, 3) := by kernel_rfl
@[simp] theorem fl31_2 : fldT Try.prog 31 2 = some (2, 4) := by kernel_rfl
@[simp] theorem sz32 : szT Try.prog 32 = 1 := by kernel_rfl
@[simp] theorem byt32 : bytT Try.prog 32 = some 8 := by kernel_rfl
@[simp] theorem agg32 : aggT Try.prog 32 = some false := by kernel_rfl
@[simp] theorem zc32 : zeroC Try.prog 32 = some [.opq .nilFunc] := by kernel_rfl
@[simp] theorem nc32_0 : nilC Try.prog 32 0 = false := by kernel_rfl
@[simp] theorem sz33 : szT Try.prog 33 = 13 := by kernel_rfl
@[simp] theorem byt33 : bytT Try.prog 33 = some 136 := by kernel_rfl
@[simp] theorem agg33 : aggT Try.prog 33 = some true := by kernel_rfl
@[simp] theorem zc33 : zeroC Try.prog 33 = some [.int .i64 0, .int .i64 0, .int .i64 0, .int .i64 0, .int .i64 0, .int .i64 0, .int .i64 0, .int .i64 0, .int .i64 0, .int .i64 0, .int .i64 0, .slice [], .slice []] := by kernel_rfl
@[simp] theorem nc33_0 : nilC Try.prog 33 0 = false := by kernel_rfl
@[simp] theorem nc33_1 : nilC Try.prog 33 1 = false := by kernel_rfl
@[simp] theorem nc33_2 : nilC Try.prog 33 2 = false := by kernel_rfl
@[simp] theorem nc33_3 : nilC Try.prog 33 3 = false := by kernel_rfl
@[simp] theorem nc33_4 : nilC Try.prog 33 4 = false := by kernel_rfl
@[simp] theorem nc33_5 : nilC Try.prog 33 5 = false := by kernel_rfl
@[simp] theorem nc33_6 : nilC Try.prog 33 6 = false := by kernel_rfl
@[simp] theorem nc33_7 : nilC Try.prog 33 7 = false := by kernel_rfl
@[simp] theorem nc33_8 : nilC Try.prog 33 8 = false := by kernel_rfl
@[simp] theorem nc33_9 : nilC Try.prog 33 9 = false := by kernel_rfl
@[simp] theorem nc33_10 : nilC Try.prog 33 10 = false := by kernel_rfl
@[simp] theorem nc33_11 : nilC Try.prog 33 11 = true := by kernel_rfl
@[simp] theorem nc33_12 : nilC Try.prog 33 12 = true := by kernel_rfl
@[simp] theorem zs33 : zstr Try.prog 33 = some [.int .i64 0, .int .i64 0, .int .i64 0, .int .i64 0, .int .i64 0, .int .i64 0, .int .i64 0, .int .i64 0, .int .i64 0, .int .i64 0, .int .i64 0, .slice [], .slice []] := by kernel_rfl
@[simp] theorem fl33_0 : fldT Try.prog 33 0 = some (0, 3) := by kernel_rfl
@[simp] theorem fl33_1 : fldT Try.prog 33 1 = some (1, 3) := by kernel_rfl
@[simp] theorem fl33_2 : fldT Try.prog 33 2 = some (2, 3) := by kernel_rfl
@[simp] theorem fl33_3 : fldT Try.prog 33 3 = some (3, 3) := by kernel_rfl
@[simp] theorem fl33_4 : fldT Try.prog 33 4 = some (4, 3) := by kernel_rfl
@[simp] theorem fl33_5 : fldT Try.prog 33 5 = some (5, 3) := by kernel_rfl
@[simp] theorem fl33_6 : fldT Try.prog 33 6 = some (6, 3) := by kernel_rfl
@[simp] theorem fl33_7 : fldT Try.prog 33 7 = some (7, 3) := by kernel_rfl
@[simp] theorem fl33_8 : fldT Try.prog 33 8 = some (8, 3) := by kernel_rfl
@[simp] theorem fl33_9 : fldT Try.prog 33 9 = some (9, 3) := by kernel_rfl
@[simp] theorem fl33_10 : fldT Try.prog 33 10 = some (10, 3) := by kernel_rfl
@[simp] theorem fl33_11 : fldT Try.prog 33 11 = some (11, 22) := by kernel_rfl
@[simp] theorem fl33_12 : fldT Try.prog 33 12 = some (12, 23) := by kernel_rfl
@[simp] theorem sz34 : szT Try.prog 34 = 1 := by kernel_rfl
@[simp] theorem byt34 : bytT Try.prog 34 = some 8 := by kernel_rfl
@[simp] theorem agg34 : aggT Try.prog 34 = some false := by kernel_rfl
@[simp] theorem zc34 : zeroC Try.prog 34 = some [.opq .nilFunc] := by kernel_rfl
@[simp] theorem nc34_0 : nilC Try.prog 34 0 = false := by kernel_rfl
@[simp] theorem sz35 : szT Try.prog 35 = 1 := by kernel_rfl
@[simp] theorem byt35 : bytT Try.prog 35 = some 8 := by kernel_rfl
@[simp] theorem agg35 : aggT Try.prog 35 = some false := by kernel_rfl
@[simp] theorem zc35 : zeroC Try.prog 35 = some [.opq .nilFunc] := by kernel_rfl
@[simp] theorem nc35_0 : nilC Try.prog 35 0 = false := by kernel_rfl
@[simp] theorem sz36 : szT Try.prog 36 = 1 := by kernel_rfl
@[simp] theorem byt36 : bytT Try.prog 36 = some 8 := by kernel_rfl
@[simp] theorem agg36 : aggT Try.prog 36 = some false := by kernel_rfl
@[simp] theorem zc36 : zeroC Try.prog 36 = some [.opq .nilFunc] := by kernel_rfl
@[simp] theorem nc36_0 : nilC Try.prog 36 0 = false := by kernel_rfl
@[simp] theorem sz37 : szT Try.prog 37 = 1 := by kernel_rfl
@[simp] theorem byt37 : bytT Try.prog 37 = some 8 := by kernel_rfl
@[simp] theorem agg37 : aggT Try.prog 37 = some false := by kernel_rfl
@[simp] theorem zc37 : zeroC Try.prog 37 = some [.opq .nilFunc] := by kernel_rfl
@[simp] theorem nc37_0 : nilC Try.prog 37 0 = false := by kernel_rfl
@[simp] theorem sz38 : szT Try.prog 38 = 2 := by kernel_rfl
@[simp] theorem byt38 : bytT Try.prog 38 = some 32 := by kernel_rfl
@[simp] theorem agg38 : aggT Try.prog 38 = some true := by kernel_rfl
@[simp] theorem zc38 : zeroC Try.prog 38 = some [.int .i64 0, .slice []] := by kernel_rfl
@[simp] theorem nc38_0 : nilC Try.prog 38 0 = false := by kernel_rfl
@[simp] theorem nc38_1 : nilC Try.prog 38 1 = true := by kernel_rfl
@[simp] theorem zs38 : zstr Try.prog 38 = some [.int .i64 0, .slice []] := by kernel_rfl
@[simp] theorem fl38_0 : fldT Try.prog 38 0 = some (0, 3) := by kernel_rfl
@[simp] theorem fl38_1 : fldT Try.prog 38 1 = some (1, 22) := by kernel_rfl
@[simp] theorem sz39 : szT Try.prog 39 = 2 := by kernel_rfl
@[simp] theorem byt39 : bytT Try.prog 39 = some 32 := by kernel_rfl
@[simp] theorem agg39 : aggT Try.prog 39 = some true := by kernel_rfl
@[simp] theorem zc39 : zeroC Try.prog 39 = some [.int .i64 0, .slice []] := by kernel_rfl
@[simp] theorem nc39_0 : nilC Try.prog 39 0 = false := by kernel_rfl
@[simp] theorem nc39_1 : nilC Try.prog 39 1 = true := by kernel_rfl
@[simp] theorem zs39 : zstr Try.prog 39 = some [.int .i64 0, .slice []] := by kernel_rfl
@[simp] theorem fl39_0 : fldT Try.prog 39 0 = some (0, 3) := by kernel_rfl
@[simp] theorem fl39_1 : fldT Try.prog 39 1 = some (1, 22) := by kernel_rfl
@[simp] theorem sz40 : szT Try.prog 40 = 1 := by kernel_rfl
@[simp] theorem byt40 : bytT Try.prog 40 = some 8 := by kernel_rfl
@[simp] theorem agg40 : aggT Try.prog 40 = some false := by kernel_rfl
@[simp] theorem zc40 : zeroC Try.prog 40 = some [.opq .nilFunc] := by kernel_rfl
@[simp] theorem nc40_0 : nilC Try.prog 40 0 = false := by kernel_rfl
@[simp] theorem sz46 : szT Try.prog 46 = 1 := by kernel_rfl
@[simp] theorem byt46 : bytT Try.prog 46 = some 8 := by kernel_rfl
@[simp] theorem agg46 : aggT Try.prog 46 = some false := by kernel_rfl
@[simp] theorem zc46 : zeroC Try.prog 46 = some [.opq .nilFunc] := by kernel_rfl
@[simp] theorem nc46_0 : nilC Try.prog 46 0 = false := by kernel_rfl
@[simp] theorem sz47 : szT Try.prog 47 = 1 := by kernel_rfl
@[simp] theorem byt47 : bytT Try.prog 47 = some 4 := by kernel_rfl
@[simp] theorem agg47 : aggT Try.prog 47 = some false := by kernel_rfl
@[simp] theorem zc47 : zeroC Try.prog 47 = some [.int .u32 0] := by kernel_rfl
@[simp] theorem nc47_0 : nilC Try.prog 47 0 = false := by kernel_rfl
@[simp] theorem und47 : Try.prog.underlying 47 = some (.int .u32) := by kernel_rfl
@[simp] theorem sz50 : szT Try.prog 50 = 1 := by kernel_rfl
@[simp] theorem byt50 : bytT Try.prog 50 = some 8 := by kernel_rfl
@[simp] theorem agg50 : aggT Try.prog 50 = some false := by kernel_rfl
@[simp] theorem zc50 : zeroC Try.prog 50 = some [.opq .nilFunc] := by kernel_rfl
@[simp] theorem nc50_0 : nilC Try.prog 50 0 = false := by kernel_rfl
@[simp] theorem sz51 : szT Try.prog 51 = 1 := by kernel_rfl
@[simp] theorem byt51 : bytT Try.prog 51 = some 8 := by kernel_rfl
@[simp] theorem agg51 : aggT Try.prog 51 = some false := by kernel_rfl
@[simp] theorem zc51 : zeroC Try.prog 51 = some [.opq (.pointer none)] := by kernel_rfl
@[simp] theorem nc51_0 : nilC Try.prog 51 0 = false := by kernel_rfl
@[simp] theorem sz54 : szT Try.prog 54 = 11 := by kernel_rfl
@[simp] theorem byt54 : bytT Try.prog 54 = some 48 := by kernel_rfl
@[simp] theorem agg54 : aggT Try.prog 54 = some true := by kernel_rfl
@[simp] theorem zc54 : zeroC Try.prog 54 = some [.int .u64 0, .int .u64 0, .int .u32 0, .int .u8 0, .int .u8 0, .int .u8 0, .int .u8 0, .opq .nilFunc, .opq (.pointer none), .int .i32 0, .int .i32 0] := by kernel_rfl
@[simp] theorem nc54_0 : nilC Try.prog 54 0 = false := by kernel_rfl
@[simp] theorem nc54_1 : nilC Try.prog 54 1 = false := by kernel_rfl
@[simp] theorem nc54_2 : nilC Try.prog 54 2 = false := by kernel_rfl
@[simp] theorem nc54_3 : nilC Try.prog 54 3 = false := by kernel_rfl
@[simp] theorem nc54_4 : nilC Try.prog 54 4 = false := by kernel_rfl
@[simp] theorem nc54_5 : nilC Try.prog 54 5 = false := by kernel_rfl
@[simp] theorem nc54_6 : nilC Try.prog 54 6 = false := by kernel_rfl
@[simp] theorem nc54_7 : nilC Try.prog 54 7 = false := by kernel_rfl
@[simp] theorem nc54_8 : nilC Try.prog 54 8 = false := by kernel_rfl
@[simp] theorem nc54_9 : nilC Try.prog 54 9 = false := by kernel_rfl
@[simp] theorem nc54_10 : nilC Try.prog 54 10 = false := by kernel_rfl
@[simp] theorem zs54 : zstr Try.prog 54 = some [.int .u64 0, .int .u64 0, .int .u32 0, .int .u8 0, .int .u8 0, .int .u8 0, .int .u8 0, .opq .nilFunc, .opq (.pointer none), .int .i32 0, .int .i32 0] := by kernel_rfl
@[simp] theorem fl54_0 : fldT Try.prog 54 0 = some (0, 12) := by kernel_rfl
@[simp] theorem fl54_1 : fldT Try.prog 54 1 = some (1, 12) := by kernel_rfl
@[simp] theorem fl54_2 : fldT Try.prog 54 2 = some (2, 47) := by kernel_rfl
@[simp] theorem fl54_3 : fldT Try.prog 54 3 = some (3, 48) := by kernel_rfl
@[simp] theorem fl54_4 : fldT Try.prog 54 4 = some (4, 5) := by kernel_rfl
@[simp] theorem fl54_5 : fldT Try.prog 54 5 = some (5, 5) := by kernel_rfl
@[simp] theorem fl54_6 : fldT Try.prog 54 6 = some (6, 49) := by kernel_rfl
@[simp] theorem fl54_7 : fldT Try.prog 54 7 = some (7, 50) := by kernel_rfl
@[simp] theorem fl54_8 : fldT Try.prog 54 8 = some (8, 51) := by kernel_rfl
@[simp] theorem fl54_9 : fldT Try.prog 54 9 = some (9, 52) := by kernel_rfl
@[simp] theorem fl54_10 : fldT Try.prog 54 10 = some (10, 53) := by kernel_rfl
end Go.Proofs.Ytkiccmpebcjhlaa
