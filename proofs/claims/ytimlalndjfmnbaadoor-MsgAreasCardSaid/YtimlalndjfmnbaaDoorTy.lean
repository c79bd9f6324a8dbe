/- The facts on this seat's types that the engine asks for, each by reckoning. PRINTED by types.py. -/
import Derived.Test.YtimlalndjfmnbaaDoorEngZ
import Derived.Test.YtimlalndjfmnbaaDoorProg
import Derived.KernelRfl
namespace Go.Proofs.YtimlalndjfmnbaaDoor
open BoEng
set_option maxRecDepth 100000
@[simp] theorem sz1 : szT Tryd.prog 1 = 1 := by kernel_rfl
@[simp] theorem byt1 : bytT Tryd.prog 1 = some 8 := by kernel_rfl
@[simp] theorem agg1 : aggT Tryd.prog 1 = some false := by kernel_rfl
@[simp] theorem zc1 : zeroC Tryd.prog 1 = some [.opq .nilFunc] := by kernel_rfl
@[simp] theorem nc1_0 : nilC Tryd.prog 1 0 = false := by kernel_rfl
@[simp] theorem isf1 : isFnT (Tryd.prog.underlying 1) = true := by kernel_rfl
@[simp] theorem sz2 : szT Tryd.prog 2 = 1 := by kernel_rfl
@[simp] theorem byt2 : bytT Tryd.prog 2 = some 8 := by kernel_rfl
@[simp] theorem agg2 : aggT Tryd.prog 2 = some false := by kernel_rfl
@[simp] theorem zc2 : zeroC Tryd.prog 2 = some [.int .i64 0] := by kernel_rfl
@[simp] theorem nc2_0 : nilC Tryd.prog 2 0 = false := by kernel_rfl
@[simp] theorem und2 : Tryd.prog.underlying 2 = some (.int .i64) := by kernel_rfl
@[simp] theorem sz3 : szT Tryd.prog 3 = 1 := by kernel_rfl
@[simp] theorem byt3 : bytT Tryd.prog 3 = some 8 := by kernel_rfl
@[simp] theorem agg3 : aggT Tryd.prog 3 = some false := by kernel_rfl
@[simp] theorem zc3 : zeroC Tryd.prog 3 = some [.int .i64 0] := by kernel_rfl
@[simp] theorem nc3_0 : nilC Tryd.prog 3 0 = false := by kernel_rfl
@[simp] theorem und3 : Tryd.prog.underlying 3 = some (.int .i64) := by kernel_rfl
@[simp] theorem sz4 : szT Tryd.prog 4 = 1 := by kernel_rfl
@[simp] theorem byt4 : bytT Tryd.prog 4 = some 1 := by kernel_rfl
@[simp] theorem agg4 : aggT Tryd.prog 4 = some false := by kernel_rfl
@[simp] theorem zc4 : zeroC Tryd.prog 4 = some [.bool false] := by kernel_rfl
@[simp] theorem nc4_0 : nilC Tryd.prog 4 0 = false := by kernel_rfl
@[simp] theorem und4 : Tryd.prog.underlying 4 = some .bool := by kernel_rfl
@[simp] theorem sz5 : szT Tryd.prog 5 = 1 := by kernel_rfl
@[simp] theorem byt5 : bytT Tryd.prog 5 = some 1 := by kernel_rfl
@[simp] theorem agg5 : aggT Tryd.prog 5 = some false := by kernel_rfl
@[simp] theorem zc5 : zeroC Tryd.prog 5 = some [.int .u8 0] := by kernel_rfl
@[simp] theorem nc5_0 : nilC Tryd.prog 5 0 = false := by kernel_rfl
@[simp] theorem und5 : Tryd.prog.underlying 5 = some (.int .u8) := by kernel_rfl
@[simp] theorem sz9 : szT Tryd.prog 9 = 1 := by kernel_rfl
@[simp] theorem byt9 : bytT Tryd.prog 9 = some 16 := by kernel_rfl
@[simp] theorem agg9 : aggT Tryd.prog 9 = some false := by kernel_rfl
@[simp] theorem zc9 : zeroC Tryd.prog 9 = some [.str []] := by kernel_rfl
@[simp] theorem nc9_0 : nilC Tryd.prog 9 0 = false := by kernel_rfl
@[simp] theorem und9 : Tryd.prog.underlying 9 = some .string := by kernel_rfl
@[simp] theorem sz12 : szT Tryd.prog 12 = 1 := by kernel_rfl
@[simp] theorem byt12 : bytT Tryd.prog 12 = some 8 := by kernel_rfl
@[simp] theorem agg12 : aggT Tryd.prog 12 = some false := by kernel_rfl
@[simp] theorem zc12 : zeroC Tryd.prog 12 = some [.int .u64 0] := by kernel_rfl
@[simp] theorem nc12_0 : nilC Tryd.prog 12 0 = false := by kernel_rfl
@[simp] theorem und12 : Tryd.prog.underlying 12 = some (.int .u64) := by kernel_rfl
@[simp] theorem sz15 : szT Tryd.prog 15 = 1 := by kernel_rfl
@[simp] theorem byt15 : bytT Tryd.prog 15 = some 8 := by kernel_rfl
@[simp] theorem agg15 : aggT Tryd.prog 15 = some false := by kernel_rfl
@[simp] theorem zc15 : zeroC Tryd.prog 15 = some [.opq (.pointer none)] := by kernel_rfl
@[simp] theorem nc15_0 : nilC Tryd.prog 15 0 = false := by kernel_rfl
@[simp] theorem und15 : Tryd.prog.underlying 15 = some (.pointer 167) := by kernel_rfl
@[simp] theorem sz16 : szT Tryd.prog 16 = 1 := by kernel_rfl
@[simp] theorem byt16 : bytT Tryd.prog 16 = some 8 := by kernel_rfl
@[simp] theorem agg16 : aggT Tryd.prog 16 = some false := by kernel_rfl
@[simp] theorem zc16 : zeroC Tryd.prog 16 = some [.opq (.pointer none)] := by kernel_rfl
@[simp] theorem nc16_0 : nilC Tryd.prog 16 0 = false := by kernel_rfl
@[simp] theorem und16 : Tryd.prog.underlying 16 = some (.pointer 170) := by kernel_rfl
@[simp] theorem sz17 : szT Tryd.prog 17 = 1 := by kernel_rfl
@[simp] theorem byt17 : bytT Tryd.prog 17 = some 8 := by kernel_rfl
@[simp] theorem agg17 : aggT Tryd.prog 17 = some false := by kernel_rfl
@[simp] theorem zc17 : zeroC Tryd.prog 17 = some [.opq (.pointer none)] := by kernel_rfl
@[simp] theorem nc17_0 : nilC Tryd.prog 17 0 = false := by kernel_rfl
@[simp] theorem und17 : Tryd.prog.underlying 17 = some (.pointer 180) := by kernel_rfl
@[simp] theorem sz20 : szT Tryd.prog 20 = 1 := by kernel_rfl
@[simp] theorem byt20 : bytT Tryd.prog 20 = some 16 := by kernel_rfl
@[simp] theorem agg20 : aggT Tryd.prog 20 = some false := by kernel_rfl
@[simp] theorem zc20 : zeroC Tryd.prog 20 = some [.opq .nilIface] := by kernel_rfl
@[simp] theorem nc20_0 : nilC Tryd.prog 20 0 = false := by kernel_rfl
@[simp] theorem sz21 : szT Tryd.prog 21 = 1 := by kernel_rfl
@[simp] theorem byt21 : bytT Tryd.prog 21 = some 4 := by kernel_rfl
@[simp] theorem agg21 : aggT Tryd.prog 21 = some false := by kernel_rfl
@[simp] theorem zc21 : zeroC Tryd.prog 21 = some [.int .i32 0] := by kernel_rfl
@[simp] theorem nc21_0 : nilC Tryd.prog 21 0 = false := by kernel_rfl
@[simp] theorem und21 : Tryd.prog.underlying 21 = some (.int .i32) := by kernel_rfl
@[simp] theorem sz22 : szT Tryd.prog 22 = 1 := by kernel_rfl
@[simp] theorem byt22 : bytT Tryd.prog 22 = some 24 := by kernel_rfl
@[simp] theorem agg22 : aggT Tryd.prog 22 = some false := by kernel_rfl
@[simp] theorem zc22 : zeroC Tryd.prog 22 = some [.slice []] := by kernel_rfl
@[simp] theorem nc22_0 : nilC Tryd.prog 22 0 = true := by kernel_rfl
@[simp] theorem el22 : elT Tryd.prog 22 = some 5 := by kernel_rfl
@[simp] theorem und22 : Tryd.prog.underlying 22 = some (.slice 5) := by kernel_rfl
@[simp] theorem bz22 : bslZ Tryd.prog 22 = true := by kernel_rfl
@[simp] theorem es22 : eSz Tryd.prog 22 = 1 := by kernel_rfl
@[simp] theorem e122 : el1 Tryd.prog 22 = some (1, false) := by kernel_rfl
@[simp] theorem ae22 : agE Tryd.prog 22 = some false := by kernel_rfl
@[simp] theorem ap22 : apT Tryd.prog 22 = some (1, 1, .int .u8 0, true) := by kernel_rfl
@[simp] theorem sz23 : szT Tryd.prog 23 = 1 := by kernel_rfl
@[simp] theorem byt23 : bytT Tryd.prog 23 = some 24 := by kernel_rfl
@[simp] theorem agg23 : aggT Tryd.prog 23 = some false := by kernel_rfl
@[simp] theorem zc23 : zeroC Tryd.prog 23 = some [.slice []] := by kernel_rfl
@[simp] theorem nc23_0 : nilC Tryd.prog 23 0 = true := by kernel_rfl
@[simp] theorem el23 : elT Tryd.prog 23 = some 45 := by kernel_rfl
@[simp] theorem und23 : Tryd.prog.underlying 23 = some (.slice 45) := by kernel_rfl
@[simp] theorem bz23 : bslZ Tryd.prog 23 = true := by kernel_rfl
@[simp] theorem es23 : eSz Tryd.prog 23 = 2 := by kernel_rfl
@[simp] theorem e123 : el1 Tryd.prog 23 = some (2, true) := by kernel_rfl
@[simp] theorem ae23 : agE Tryd.prog 23 = some true := by kernel_rfl
@[simp] theorem ap23 : apT Tryd.prog 23 = some (2, 32, .opq (.agg #[.int .i64 0, .slice none 0 0]), false) := by kernel_rfl
@[simp] theorem sz24 : szT Tryd.prog 24 = 13 := by kernel_rfl
@[simp] theorem byt24 : bytT Tryd.prog 24 = some 136 := by kernel_rfl
@[simp] theorem agg24 : aggT Tryd.prog 24 = some true := by kernel_rfl
@[simp] theorem zc24 : zeroC Tryd.prog 24 = some [.int .i64 0, .int .i64 0, .int .i64 0, .int .i64 0, .int .i64 0, .int .i64 0, .int .i64 0, .int .i64 0, .int .i64 0, .int .i64 0, .int .i64 0, .slice [], .slice []] := by kernel_rfl
@[simp] theorem nc24_0 : nilC Tryd.prog 24 0 = false := by kernel_rfl
@[simp] theorem nc24_1 : nilC Tryd.prog 24 1 = false := by kernel_rfl
@[simp] theorem nc24_2 : nilC Tryd.prog 24 2 = false := by kernel_rfl
@[simp] theorem nc24_3 : nilC Tryd.prog 24 3 = false := by kernel_rfl
@[simp] theorem nc24_4 : nilC Tryd.prog 24 4 = false := by kernel_rfl
@[simp] theorem nc24_5 : nilC Tryd.prog 24 5 = false := by kernel_rfl
@[simp] theorem nc24_6 : nilC Tryd.prog 24 6 = false := by kernel_rfl
@[simp] theorem nc24_7 : nilC Tryd.prog 24 7 = false := by kernel_rfl
@[simp] theorem nc24_8 : nilC Tryd.prog 24 8 = false := by kernel_rfl
@[simp] theorem nc24_9 : nilC Tryd.prog 24 9 = false := by kernel_rfl
@[simp] theorem nc24_10 : nilC Tryd.prog 24 10 = false := by kernel_rfl
@[simp] theorem nc24_11 : nilC Tryd.prog 24 11 = true := by kernel_rfl
@[simp] theorem nc24_12 : nilC Tryd.prog 24 12 = true := by kernel_rfl
@[simp] theorem zs24 : zstr Tryd.prog 24 = some [.int .i64 0, .int .i64 0, .int .i64 0, .int .i64 0, .int .i64 0, .int .i64 0, .int .i64 0, .int .i64 0, .int .i64 0, .int .i64 0, .int .i64 0, .slice [], .slice []] := by kernel_rfl
@[simp] theorem fl24_0 : fldT Tryd.prog 24 0 = some (0, 3) := by kernel_rfl
@[simp] theorem fl24_1 : fldT Tryd.prog 24 1 = some (1, 3) := by kernel_rfl
@[simp] theorem fl24_2 : fldT Tryd.prog 24 2 = some (2, 3) := by kernel_rfl
@[simp] theorem fl24_3 : fldT Tryd.prog 24 3 = some (3, 3) := by kernel_rfl
@[simp] theorem fl24_4 : fldT Tryd.prog 24 4 = some (4, 3) := by kernel_rfl
@[simp] theorem fl24_5 : fldT Tryd.prog 24 5 = some (5, 3) := by kernel_rfl
@[simp] theorem fl24_6 : fldT Tryd.prog 24 6 = some (6, 3) := by kernel_rfl
@[simp] theorem fl24_7 : fldT Tryd.prog 24 7 = some (7, 3) := by kernel_rfl
@[simp] theorem fl24_8 : fldT Tryd.prog 24 8 = some (8, 3) := by kernel_rfl
@[simp] theorem fl24_9 : fldT Tryd.prog 24 9 = some (9, 3) := by kernel_rfl
@[simp] theorem fl24_10 : fldT Tryd.prog 24 10 = some (10, 3) := by kernel_rfl
@[simp] theorem fl24_11 : fldT Tryd.prog 24 11 = some (11, 22) := by kernel_rfl
@[simp] theorem fl24_12 : fldT Tryd.prog 24 12 = some (12, 23) := by kernel_rfl
@[simp] theorem sz25 : szT Tryd.prog 25 = 13 := by kernel_rfl
@[simp] theorem byt25 : bytT Tryd.prog 25 = some 136 := by kernel_rfl
@[simp] theorem agg25 : aggT Tryd.prog 25 = some true := by kernel_rfl
@[simp] theorem zc25 : zeroC Tryd.prog 25 = some [.int .i64 0, .int .i64 0, .int .i64 0, .int .i64 0, .int .i64 0, .int .i64 0, .int .i64 0, .int .i64 0, .int .i64 0, .int .i64 0, .int .i64 0, .slice [], .slice []] := by kernel_rfl
@[simp] theorem nc25_0 : nilC Tryd.prog 25 0 = false := by kernel_rfl
@[simp] theorem nc25_1 : nilC Tryd.prog 25 1 = false := by kernel_rfl
@[simp] theorem nc25_2 : nilC Tryd.prog 25 2 = false := by kernel_rfl
@[simp] theorem nc25_3 : nilC Tryd.prog 25 3 = false := by kernel_rfl
@[simp] theorem nc25_4 : nilC Tryd.prog 25 4 = false := by kernel_rfl
@[simp] theorem nc25_5 : nilC Tryd.prog 25 5 = false := by kernel_rfl
@[simp] theorem nc25_6 : nilC Tryd.prog 25 6 = false := by kernel_rfl
@[simp] theorem nc25_7 : nilC Tryd.prog 25 7 = false := by kernel_rfl
@[simp] theorem nc25_8 : nilC Tryd.prog 25 8 = false := by kernel_rfl
@[simp] theorem nc25_9 : nilC Tryd.prog 25 9 = false := by kernel_rfl
@[simp] theorem nc25_10 : nilC Tryd.prog 25 10 = false := by kernel_rfl
@[simp] theorem nc25_11 : nilC Tryd.prog 25 11 = true := by kernel_rfl
@[simp] theorem nc25_12 : nilC Tryd.prog 25 12 = true := by kernel_rfl
@[simp] theorem zs25 : zstr Tryd.prog 25 = some [.int .i64 0, .int .i64 0, .int .i64 0, .int .i64 0, .int .i64 0, .int .i64 0, .int .i64 0, .int .i64 0, .int .i64 0, .int .i64 0, .int .i64 0, .slice [], .slice []] := by kernel_rfl
@[simp] theorem fl25_0 : fldT Tryd.prog 25 0 = some (0, 3) := by kernel_rfl
@[simp] theorem fl25_1 : fldT Tryd.prog 25 1 = some (1, 3) := by kernel_rfl
@[simp] theorem fl25_2 : fldT Tryd.prog 25 2 = some (2, 3) := by kernel_rfl
@[simp] theorem fl25_3 : fldT Tryd.prog 25 3 = some (3, 3) := by kernel_rfl
@[simp] theorem fl25_4 : fldT Tryd.prog 25 4 = some (4, 3) := by kernel_rfl
@[simp] theorem fl25_5 : fldT Tryd.prog 25 5 = some (5, 3) := by kernel_rfl
@[simp] theorem fl25_6 : fldT Tryd.prog 25 6 = some (6, 3) := by kernel_rfl
@[simp] theorem fl25_7 : fldT Tryd.prog 25 7 = some (7, 3) := by kernel_rfl
@[simp] theorem fl25_8 : fldT Tryd.prog 25 8 = some (8, 3) := by kernel_rfl
@[simp] theorem fl25_9 : fldT Tryd.prog 25 9 = some (9, 3) := by kernel_rfl
@[simp] theorem fl25_10 : fldT Tryd.prog 25 10 = some (10, 3) := by kernel_rfl
@[simp] theorem fl25_11 : fldT Tryd.prog 25 11 = some (11, 22) := by kernel_rfl
@[simp] theorem fl25_12 : fldT Tryd.prog 25 12 = some (12, 23) := by kernel_rfl
@[simp] theorem sz26 : szT Tryd.prog 26 = 1 := by kernel_rfl
@[simp] theorem byt26 : bytT Tryd.prog 26 = some 8 := by kernel_rfl
@[simp] theorem agg26 : aggT Tryd.prog 26 = some false := by kernel_rfl
@[simp] theorem zc26 : zeroC Tryd.prog 26 = some [.opq .nilFunc] := by kernel_rfl
@[simp] theorem nc26_0 : nilC Tryd.prog 26 0 = false := by kernel_rfl
@[simp] theorem isf26 : isFnT (Tryd.prog.underlying 26) = true := by kernel_rfl
@[simp] theorem sz27 : szT Tryd.prog 27 = 1 := by kernel_rfl
@[simp] theorem byt27 : bytT Tryd.prog 27 = some 8 := by kernel_rfl
@[simp] theorem agg27 : aggT Tryd.prog 27 = some false := by kernel_rfl
@[simp] theorem zc27 : zeroC Tryd.prog 27 = some [.opq .nilFunc] := by kernel_rfl
@[simp] theorem nc27_0 : nilC Tryd.prog 27 0 = false := by kernel_rfl
@[simp] theorem isf27 : isFnT (Tryd.prog.underlying 27) = true := by kernel_rfl
@[simp] theorem sz28 : szT Tryd.prog 28 = 1 := by kernel_rfl
@[simp] theorem byt28 : bytT Tryd.prog 28 = some 8 := by kernel_rfl
@[simp] theorem agg28 : aggT Tryd.prog 28 = some false := by kernel_rfl
@[simp] theorem zc28 : zeroC Tryd.prog 28 = some [.opq .nilFunc] := by kernel_rfl
@[simp] theorem nc28_0 : nilC Tryd.prog 28 0 = false := by kernel_rfl
@[simp] theorem isf28 : isFnT (Tryd.prog.underlying 28) = true := by kernel_rfl
@[simp] theorem sz29 : szT Tryd.prog 29 = 13 := by kernel_rfl
@[simp] theorem byt29 : bytT Tryd.prog 29 = some 136 := by kernel_rfl
@[simp] theorem agg29 : aggT Tryd.prog 29 = some true := by kernel_rfl
@[simp] theorem zc29 : zeroC Tryd.prog 29 = some [.int .i64 0, .int .i64 0, .int .i64 0, .int .i64 0, .int .i64 0, .int .i64 0, .int .i64 0, .int .i64 0, .int .i64 0, .int .i64 0, .int .i64 0, .slice [], .slice []] := by kernel_rfl
@[simp] theorem nc29_0 : nilC Tryd.prog 29 0 = false := by kernel_rfl
@[simp] theorem nc29_1 : nilC Tryd.prog 29 1 = false := by kernel_rfl
@[simp] theorem nc29_2 : nilC Tryd.prog 29 2 = false := by kernel_rfl
@[simp] theorem nc29_3 : nilC Tryd.prog 29 3 = false := by kernel_rfl
@[simp] theorem nc29_4 : nilC Tryd.prog 29 4 = false := by kernel_rfl
@[simp] theorem nc29_5 : nilC Tryd.prog 29 5 = false := by kernel_rfl
@[simp] theorem nc29_6 : nilC Tryd.prog 29 6 = false := by kernel_rfl
@[simp] theorem nc29_7 : nilC Tryd.prog 29 7 = false := by kernel_rfl
@[simp] theorem nc29_8 : nilC Tryd.prog 29 8 = false := by kernel_rfl
@[simp] theorem nc29_9 : nilC Tryd.prog 29 9 = false := by kernel_rfl
@[simp] theorem nc29_10 : nilC Tryd.prog 29 10 = false := by kernel_rfl
@[simp] theorem nc29_11 : nilC Tryd.prog 29 11 = true := by kernel_rfl
@[simp] theorem nc29_12 : nilC Tryd.prog 29 12 = true := by kernel_rfl
@[simp] theorem zs29 : zstr Tryd.prog 29 = some [.int .i64 0, .int .i64 0, .int .i64 0, .int .i64 0, .int .i64 0, .int .i64 0, .int .i64 0, .int .i64 0, .int .i64 0, .int .i64 0, .int .i64 0, .slice [], .slice []] := by kernel_rfl
@[simp] theorem fl29_0 : fldT Tryd.prog 29 0 = some (0, 3) := by kernel_rfl
@[simp] theorem fl29_1 : fldT Tryd.prog 29 1 = some (1, 3) := by kernel_rfl
@[simp] theorem fl29_2 : fldT Tryd.prog 29 2 = some (2, 3) := by kernel_rfl
@[simp] theorem fl29_3 : fldT Tryd.prog 29 3 = some (3, 3) := by kernel_rfl
@[simp] theorem fl29_4 : fldT Tryd.prog 29 4 = some (4, 3) := by kernel_rfl
@[simp] theorem fl29_5 : fldT Tryd.prog 29 5 = some (5, 3) := by kernel_rfl
@[simp] theorem fl29_6 : fldT Tryd.prog 29 6 = some (6, 3) := by kernel_rfl
@[simp] theorem fl29_7 : fldT Tryd.prog 29 7 = some (7, 3) := by kernel_rfl
@[simp] theorem fl29_8 : fldT Tryd.prog 29 8 = some (8, 3) := by kernel_rfl
@[simp] theorem fl29_9 : fldT Tryd.prog 29 9 = some (9, 3) := by kernel_rfl
@[simp] theorem fl29_10 : fldT Tryd.prog 29 10 = some (10, 3) := by kernel_rfl
@[simp] theorem fl29_11 : fldT Tryd.prog 29 11 = some (11, 22) := by kernel_rfl
@[simp] theorem fl29_12 : fldT Tryd.prog 29 12 = some (12, 23) := by kernel_rfl
@[simp] theorem sz30 : szT Tryd.prog 30 = 1 := by kernel_rfl
@[simp] theorem byt30 : bytT Tryd.prog 30 = some 8 := by kernel_rfl
@[simp] theorem agg30 : aggT Tryd.prog 30 = some false := by kernel_rfl
@[simp] theorem zc30 : zeroC Tryd.prog 30 = some [.opq .nilFunc] := by kernel_rfl
@[simp] theorem nc30_0 : nilC Tryd.prog 30 0 = false := by kernel_rfl
@[simp] theorem isf30 : isFnT (Tryd.prog.underlying 30) = true := by kernel_rfl
@[simp] theorem sz31 : szT Tryd.prog 31 = 1 := by kernel_rfl
@[simp] theorem byt31 : bytT Tryd.prog 31 = some 8 := by kernel_rfl
@[simp] theorem agg31 : aggT Tryd.prog 31 = some false := by kernel_rfl
@[simp] theorem zc31 : zeroC Tryd.prog 31 = some [.int .i64 0] := by kernel_rfl
@[simp] theorem nc31_0 : nilC Tryd.prog 31 0 = false := by kernel_rfl
@[simp] theorem und31 : Tryd.prog.underlying 31 = some (.int .i64) := by kernel_rfl
@[simp] theorem sz33 : szT Tryd.prog 33 = 1 := by kernel_rfl
@[simp] theorem byt33 : bytT Tryd.prog 33 = some 8 := by kernel_rfl
@[simp] theorem agg33 : aggT Tryd.prog 33 = some false := by kernel_rfl
@[simp] theorem zc33 : zeroC Tryd.prog 33 = some [.opq .nilFunc] := by kernel_rfl
@[simp] theorem nc33_0 : nilC Tryd.prog 33 0 = false := by kernel_rfl
@[simp] theorem isf33 : isFnT (Tryd.prog.underlying 33) = true := by kernel_rfl
@[simp] theorem sz34 : szT Tryd.prog 34 = 1 := by kernel_rfl
@[simp] theorem byt34 : bytT Tryd.prog 34 = some 8 := by kernel_rfl
@[simp] theorem agg34 : aggT Tryd.prog 34 = some false := by kernel_rfl
@[simp] theorem zc34 : zeroC Tryd.prog 34 = some [.opq .nilFunc] := by kernel_rfl
@[simp] theorem nc34_0 : nilC Tryd.prog 34 0 = false := by kernel_rfl
@[simp] theorem isf34 : isFnT (Tryd.prog.underlying 34) = true := by kernel_rfl
@[simp] theorem sz36 : szT Tryd.prog 36 = 1 := by kernel_rfl
@[simp] theorem byt36 : bytT Tryd.prog 36 = some 8 := by kernel_rfl
@[simp] theorem agg36 : aggT Tryd.prog 36 = some false := by kernel_rfl
@[simp] theorem zc36 : zeroC Tryd.prog 36 = some [.opq .nilFunc] := by kernel_rfl
@[simp] theorem nc36_0 : nilC Tryd.prog 36 0 = false := by kernel_rfl
@[simp] theorem isf36 : isFnT (Tryd.prog.underlying 36) = true := by kernel_rfl
@[simp] theorem sz38 : szT Tryd.prog 38 = 1 := by kernel_rfl
@[simp] theorem byt38 : bytT Tryd.prog 38 = some 8 := by kernel_rfl
@[simp] theorem agg38 : aggT Tryd.prog 38 = some false := by kernel_rfl
@[simp] theorem zc38 : zeroC Tryd.prog 38 = some [.opq .nilFunc] := by kernel_rfl
@[simp] theorem nc38_0 : nilC Tryd.prog 38 0 = false := by kernel_rfl
@[simp] theorem isf38 : isFnT (Tryd.prog.underlying 38) = true := by kernel_rfl
@[simp] theorem sz39 : szT Tryd.prog 39 = 1 := by kernel_rfl
@[simp] theorem byt39 : bytT Tryd.prog 39 = some 8 := by kernel_rfl
@[simp] theorem agg39 : aggT Tryd.prog 39 = some false := by kernel_rfl
@[simp] theorem zc39 : zeroC Tryd.prog 39 = some [.opq .nilFunc] := by kernel_rfl
@[simp] theorem nc39_0 : nilC Tryd.prog 39 0 = false := by kernel_rfl
@[simp] theorem isf39 : isFnT (Tryd.prog.underlying 39) = true := by kernel_rfl
@[simp] theorem sz40 : szT Tryd.prog 40 = 1 := by kernel_rfl
@[simp] theorem byt40 : bytT Tryd.prog 40 = some 8 := by kernel_rfl
@[simp] theorem agg40 : aggT Tryd.prog 40 = some false := by kernel_rfl
@[simp] theorem zc40 : zeroC Tryd.prog 40 = some [.opq .nilFunc] := by kernel_rfl
@[simp] theorem nc40_0 : nilC Tryd.prog 40 0 = false := by kernel_rfl
@[simp] theorem isf40 : isFnT (Tryd.prog.underlying 40) = true := by kernel_rfl
@[simp] theorem sz41 : szT Tryd.prog 41 = 1 := by kernel_rfl
@[simp] theorem byt41 : bytT Tryd.prog 41 = some 8 := by kernel_rfl
@[simp] theorem agg41 : aggT Tryd.prog 41 = some false := by kernel_rfl
@[simp] theorem zc41 : zeroC Tryd.prog 41 = some [.opq .nilFunc] := by kernel_rfl
@[simp] theorem nc41_0 : nilC Tryd.prog 41 0 = false := by kernel_rfl
@[simp] theorem isf41 : isFnT (Tryd.prog.underlying 41) = true := by kernel_rfl
@[simp] theorem sz42 : szT Tryd.prog 42 = 1 := by kernel_rfl
@[simp] theorem byt42 : bytT Tryd.prog 42 = some 8 := by kernel_rfl
@[simp] theorem agg42 : aggT Tryd.prog 42 = some false := by kernel_rfl
@[simp] theorem zc42 : zeroC Tryd.prog 42 = some [.opq .nilFunc] := by kernel_rfl
@[simp] theorem nc42_0 : nilC Tryd.prog 42 0 = false := by kernel_rfl
@[simp] theorem isf42 : isFnT (Tryd.prog.underlying 42) = true := by kernel_rfl
@[simp] theorem sz43 : szT Tryd.prog 43 = 1 := by kernel_rfl
@[simp] theorem byt43 : bytT Tryd.prog 43 = some 8 := by kernel_rfl
@[simp] theorem agg43 : aggT Tryd.prog 43 = some false := by kernel_rfl
@[simp] theorem zc43 : zeroC Tryd.prog 43 = some [.opq .nilFunc] := by kernel_rfl
@[simp] theorem nc43_0 : nilC Tryd.prog 43 0 = false := by kernel_rfl
@[simp] theorem isf43 : isFnT (Tryd.prog.underlying 43) = true := by kernel_rfl
@[simp] theorem sz44 : szT Tryd.prog 44 = 2 := by kernel_rfl
@[simp] theorem byt44 : bytT Tryd.prog 44 = some 32 := by kernel_rfl
@[simp] theorem agg44 : aggT Tryd.prog 44 = some true := by kernel_rfl
@[simp] theorem zc44 : zeroC Tryd.prog 44 = some [.int .i64 0, .slice []] := by kernel_rfl
@[simp] theorem nc44_0 : nilC Tryd.prog 44 0 = false := by kernel_rfl
@[simp] theorem nc44_1 : nilC Tryd.prog 44 1 = true := by kernel_rfl
@[simp] theorem zs44 : zstr Tryd.prog 44 = some [.int .i64 0, .slice []] := by kernel_rfl
@[simp] theorem fl44_0 : fldT Tryd.prog 44 0 = some (0, 3) := by kernel_rfl
@[simp] theorem fl44_1 : fldT Tryd.prog 44 1 = some (1, 22) := by kernel_rfl
@[simp] theorem sz45 : szT Tryd.prog 45 = 2 := by kernel_rfl
@[simp] theorem byt45 : bytT Tryd.prog 45 = some 32 := by kernel_rfl
@[simp] theorem agg45 : aggT Tryd.prog 45 = some true := by kernel_rfl
@[simp] theorem zc45 : zeroC Tryd.prog 45 = some [.int .i64 0, .slice []] := by kernel_rfl
@[simp] theorem nc45_0 : nilC Tryd.prog 45 0 = false := by kernel_rfl
@[simp] theorem nc45_1 : nilC Tryd.prog 45 1 = true := by kernel_rfl
@[simp] theorem zs45 : zstr Tryd.prog 45 = some [.int .i64 0, .slice []] := by kernel_rfl
@[simp] theorem fl45_0 : fldT Tryd.prog 45 0 = some (0, 3) := by kernel_rfl
@[simp] theorem fl45_1 : fldT Tryd.prog 45 1 = some (1, 22) := by kernel_rfl
@[simp] theorem sz47 : szT Tryd.prog 47 = 1 := by kernel_rfl
@[simp] theorem byt47 : bytT Tryd.prog 47 = some 8 := by kernel_rfl
@[simp] theorem agg47 : aggT Tryd.prog 47 = some false := by kernel_rfl
@[simp] theorem zc47 : zeroC Tryd.prog 47 = some [.opq .nilFunc] := by kernel_rfl
@[simp] theorem nc47_0 : nilC Tryd.prog 47 0 = false := by kernel_rfl
@[simp] theorem isf47 : isFnT (Tryd.prog.underlying 47) = true := by kernel_rfl
@[simp] theorem sz48 : szT Tryd.prog 48 = 1 := by kernel_rfl
@[simp] theorem byt48 : bytT Tryd.prog 48 = some 8 := by kernel_rfl
@[simp] theorem agg48 : aggT Tryd.prog 48 = some false := by kernel_rfl
@[simp] theorem zc48 : zeroC Tryd.prog 48 = some [.opq .nilFunc] := by kernel_rfl
@[simp] theorem nc48_0 : nilC Tryd.prog 48 0 = false := by kernel_rfl
@[simp] theorem isf48 : isFnT (Tryd.prog.underlying 48) = true := by kernel_rfl
@[simp] theorem sz49 : szT Tryd.prog 49 = 1 := by kernel_rfl
@[simp] theorem byt49 : bytT Tryd.prog 49 = some 8 := by kernel_rfl
@[simp] theorem agg49 : aggT Tryd.prog 49 = some false := by kernel_rfl
@[simp] theorem zc49 : zeroC Tryd.prog 49 = some [.opq .nilFunc] := by kernel_rfl
@[simp] theorem nc49_0 : nilC Tryd.prog 49 0 = false := by kernel_rfl
@[simp] theorem isf49 : isFnT (Tryd.prog.underlying 49) = true := by kernel_rfl
@[simp] theorem sz50 : szT Tryd.prog 50 = 1 := by kernel_rfl
@[simp] theorem byt50 : bytT Tryd.prog 50 = some 24 := by kernel_rfl
@[simp] theorem agg50 : aggT Tryd.prog 50 = some false := by kernel_rfl
@[simp] theorem zc50 : zeroC Tryd.prog 50 = some [.slice []] := by kernel_rfl
@[simp] theorem nc50_0 : nilC Tryd.prog 50 0 = true := by kernel_rfl
@[simp] theorem el50 : elT Tryd.prog 50 = some 91 := by kernel_rfl
@[simp] theorem und50 : Tryd.prog.underlying 50 = some (.slice 91) := by kernel_rfl
@[simp] theorem bz50 : bslZ Tryd.prog 50 = true := by kernel_rfl
@[simp] theorem es50 : eSz Tryd.prog 50 = 1 := by kernel_rfl
@[simp] theorem e150 : el1 Tryd.prog 50 = some (1, true) := by kernel_rfl
@[simp] theorem ae50 : agE Tryd.prog 50 = some true := by kernel_rfl
@[simp] theorem ap50 : apT Tryd.prog 50 = some (1, 24, .opq (.agg #[.slice none 0 0]), false) := by kernel_rfl
@[simp] theorem sz51 : szT Tryd.prog 51 = 3 := by kernel_rfl
@[simp] theorem byt51 : bytT Tryd.prog 51 = some 40 := by kernel_rfl
@[simp] theorem agg51 : aggT Tryd.prog 51 = some true := by kernel_rfl
@[simp] theorem zc51 : zeroC Tryd.prog 51 = some [.int .i64 0, .int .i64 0, .slice []] := by kernel_rfl
@[simp] theorem nc51_0 : nilC Tryd.prog 51 0 = false := by kernel_rfl
@[simp] theorem nc51_1 : nilC Tryd.prog 51 1 = false := by kernel_rfl
@[simp] theorem nc51_2 : nilC Tryd.prog 51 2 = true := by kernel_rfl
@[simp] theorem zs51 : zstr Tryd.prog 51 = some [.int .i64 0, .int .i64 0, .slice []] := by kernel_rfl
@[simp] theorem fl51_0 : fldT Tryd.prog 51 0 = some (0, 3) := by kernel_rfl
@[simp] theorem fl51_1 : fldT Tryd.prog 51 1 = some (1, 3) := by kernel_rfl
@[simp] theorem fl51_2 : fldT Tryd.prog 51 2 = some (2, 50) := by kernel_rfl
@[simp] theorem sz52 : szT Tryd.prog 52 = 3 := by kernel_rfl
@[simp] theorem byt52 : bytT Tryd.prog 52 = some 40 := by kernel_rfl
@[simp] theorem agg52 : aggT Tryd.prog 52 = some true := by kernel_rfl
@[simp] theorem zc52 : zeroC Tryd.prog 52 = some [.int .i64 0, .int .i64 0, .slice []] := by kernel_rfl
@[simp] theorem nc52_0 : nilC Tryd.prog 52 0 = false := by kernel_rfl
@[simp] theorem nc52_1 : nilC Tryd.prog 52 1 = false := by kernel_rfl
@[simp] theorem nc52_2 : nilC Tryd.prog 52 2 = true := by kernel_rfl
@[simp] theorem zs52 : zstr Tryd.prog 52 = some [.int .i64 0, .int .i64 0, .slice []] := by kernel_rfl
@[simp] theorem fl52_0 : fldT Tryd.prog 52 0 = some (0, 3) := by kernel_rfl
@[simp] theorem fl52_1 : fldT Tryd.prog 52 1 = some (1, 3) := by kernel_rfl
@[simp] theorem fl52_2 : fldT Tryd.prog 52 2 = some (2, 50) := by kernel_rfl
@[simp] theorem sz53 : szT Tryd.prog 53 = 1 := by kernel_rfl
@[simp] theorem byt53 : bytT Tryd.prog 53 = some 8 := by kernel_rfl
@[simp] theorem agg53 : aggT Tryd.prog 53 = some false := by kernel_rfl
@[simp] theorem zc53 : zeroC Tryd.prog 53 = some [.opq .nilFunc] := by kernel_rfl
@[simp] theorem nc53_0 : nilC Tryd.prog 53 0 = false := by kernel_rfl
@[simp] theorem isf53 : isFnT (Tryd.prog.underlying 53) = true := by kernel_rfl
@[simp] theorem sz54 : szT Tryd.prog 54 = 1 := by kernel_rfl
@[simp] theorem byt54 : bytT Tryd.prog 54 = some 8 := by kernel_rfl
@[simp] theorem agg54 : aggT Tryd.prog 54 = some false := by kernel_rfl
@[simp] theorem zc54 : zeroC Tryd.prog 54 = some [.opq .nilFunc] := by kernel_rfl
@[simp] theorem nc54_0 : nilC Tryd.prog 54 0 = false := by kernel_rfl
@[simp] theorem isf54 : isFnT (Tryd.prog.underlying 54) = true := by kernel_rfl
@[simp] theorem sz55 : szT Tryd.prog 55 = 1 := by kernel_rfl
@[simp] theorem byt55 : bytT Tryd.prog 55 = some 8 := by kernel_rfl
@[simp] theorem agg55 : aggT Tryd.prog 55 = some false := by kernel_rfl
@[simp] theorem zc55 : zeroC Tryd.prog 55 = some [.opq .nilFunc] := by kernel_rfl
@[simp] theorem nc55_0 : nilC Tryd.prog 55 0 = false := by kernel_rfl
@[simp] theorem isf55 : isFnT (Tryd.prog.underlying 55) = true := by kernel_rfl
@[simp] theorem sz56 : szT Tryd.prog 56 = 1 := by kernel_rfl
@[simp] theorem byt56 : bytT Tryd.prog 56 = some 24 := by kernel_rfl
@[simp] theorem agg56 : aggT Tryd.prog 56 = some false := by kernel_rfl
@[simp] theorem zc56 : zeroC Tryd.prog 56 = some [.slice []] := by kernel_rfl
@[simp] theorem nc56_0 : nilC Tryd.prog 56 0 = true := by kernel_rfl
@[simp] theorem el56 : elT Tryd.prog 56 = some 3 := by kernel_rfl
@[simp] theorem und56 : Tryd.prog.underlying 56 = some (.slice 3) := by kernel_rfl
@[simp] theorem bz56 : bslZ Tryd.prog 56 = true := by kernel_rfl
@[simp] theorem es56 : eSz Tryd.prog 56 = 1 := by kernel_rfl
@[simp] theorem e156 : el1 Tryd.prog 56 = some (1, false) := by kernel_rfl
@[simp] theorem ae56 : agE Tryd.prog 56 = some false := by kernel_rfl
@[simp] theorem ap56 : apT Tryd.prog 56 = some (1, 8, .int .i64 0, true) := by kernel_rfl
@[simp] theorem sz57 : szT Tryd.prog 57 = 1 := by kernel_rfl
@[simp] theorem byt57 : bytT Tryd.prog 57 = some 8 := by kernel_rfl
@[simp] theorem agg57 : aggT Tryd.prog 57 = some false := by kernel_rfl
@[simp] theorem zc57 : zeroC Tryd.prog 57 = some [.opq .nilFunc] := by kernel_rfl
@[simp] theorem nc57_0 : nilC Tryd.prog 57 0 = false := by kernel_rfl
@[simp] theorem isf57 : isFnT (Tryd.prog.underlying 57) = true := by kernel_rfl
@[simp] theorem sz58 : szT Tryd.prog 58 = 1 := by kernel_rfl
@[simp] theorem byt58 : bytT Tryd.prog 58 = some 8 := by kernel_rfl
@[simp] theorem agg58 : aggT Tryd.prog 58 = some false := by kernel_rfl
@[simp] theorem zc58 : zeroC Tryd.prog 58 = some [.opq .nilFunc] := by kernel_rfl
@[simp] theorem nc58_0 : nilC Tryd.prog 58 0 = false := by kernel_rfl
@[simp] theorem isf58 : isFnT (Tryd.prog.underlying 58) = true := by kernel_rfl
@[simp] theorem sz60 : szT Tryd.prog 60 = 1 := by kernel_rfl
@[simp] theorem byt60 : bytT Tryd.prog 60 = some 8 := by kernel_rfl
@[simp] theorem agg60 : aggT Tryd.prog 60 = some false := by kernel_rfl
@[simp] theorem zc60 : zeroC Tryd.prog 60 = some [.opq .nilFunc] := by kernel_rfl
@[simp] theorem nc60_0 : nilC Tryd.prog 60 0 = false := by kernel_rfl
@[simp] theorem isf60 : isFnT (Tryd.prog.underlying 60) = true := by kernel_rfl
@[simp] theorem sz61 : szT Tryd.prog 61 = 1 := by kernel_rfl
@[simp] theorem byt61 : bytT Tryd.prog 61 = some 8 := by kernel_rfl
@[simp] theorem agg61 : aggT Tryd.prog 61 = some false := by kernel_rfl
@[simp] theorem zc61 : zeroC Tryd.prog 61 = some [.opq .nilFunc] := by kernel_rfl
@[simp] theorem nc61_0 : nilC Tryd.prog 61 0 = false := by kernel_rfl
@[simp] theorem isf61 : isFnT (Tryd.prog.underlying 61) = true := by kernel_rfl
@[simp] theorem sz62 : szT Tryd.prog 62 = 1 := by kernel_rfl
@[simp] theorem byt62 : bytT Tryd.prog 62 = some 8 := by kernel_rfl
@[simp] theorem agg62 : aggT Tryd.prog 62 = some false := by kernel_rfl
@[simp] theorem zc62 : zeroC Tryd.prog 62 = some [.opq .nilFunc] := by kernel_rfl
@[simp] theorem nc62_0 : nilC Tryd.prog 62 0 = false := by kernel_rfl
@[simp] theorem isf62 : isFnT (Tryd.prog.underlying 62) = true := by kernel_rfl
@[simp] theorem sz63 : szT Tryd.prog 63 = 1 := by kernel_rfl
@[simp] theorem byt63 : bytT Tryd.prog 63 = some 8 := by kernel_rfl
@[simp] theorem agg63 : aggT Tryd.prog 63 = some false := by kernel_rfl
@[simp] theorem zc63 : zeroC Tryd.prog 63 = some [.opq .nilFunc] := by kernel_rfl
@[simp] theorem nc63_0 : nilC Tryd.prog 63 0 = false := by kernel_rfl
@[simp] theorem isf63 : isFnT (Tryd.prog.underlying 63) = true := by kernel_rfl
@[simp] theorem sz64 : szT Tryd.prog 64 = 1 := by kernel_rfl
@[simp] theorem byt64 : bytT Tryd.prog 64 = some 8 := by kernel_rfl
@[simp] theorem agg64 : aggT Tryd.prog 64 = some false := by kernel_rfl
@[simp] theorem zc64 : zeroC Tryd.prog 64 = some [.opq .nilFunc] := by kernel_rfl
@[simp] theorem nc64_0 : nilC Tryd.prog 64 0 = false := by kernel_rfl
@[simp] theorem isf64 : isFnT (Tryd.prog.underlying 64) = true := by kernel_rfl
@[simp] theorem sz66 : szT Tryd.prog 66 = 1 := by kernel_rfl
@[simp] theorem byt66 : bytT Tryd.prog 66 = some 8 := by kernel_rfl
@[simp] theorem agg66 : aggT Tryd.prog 66 = some false := by kernel_rfl
@[simp] theorem zc66 : zeroC Tryd.prog 66 = some [.opq .nilFunc] := by kernel_rfl
@[simp] theorem nc66_0 : nilC Tryd.prog 66 0 = false := by kernel_rfl
@[simp] theorem isf66 : isFnT (Tryd.prog.underlying 66) = true := by kernel_rfl
@[simp] theorem sz67 : szT Tryd.prog 67 = 1 := by kernel_rfl
@[simp] theorem byt67 : bytT Tryd.prog 67 = some 8 := by kernel_rfl
@[simp] theorem agg67 : aggT Tryd.prog 67 = some false := by kernel_rfl
@[simp] theorem zc67 : zeroC Tryd.prog 67 = some [.opq .nilFunc] := by kernel_rfl
@[simp] theorem nc67_0 : nilC Tryd.prog 67 0 = false := by kernel_rfl
@[simp] theorem isf67 : isFnT (Tryd.prog.underlying 67) = true := by kernel_rfl
@[simp] theorem sz68 : szT Tryd.prog 68 = 1 := by kernel_rfl
@[simp] theorem byt68 : bytT Tryd.prog 68 = some 16 := by kernel_rfl
@[simp] theorem agg68 : aggT Tryd.prog 68 = some false := by kernel_rfl
@[simp] theorem zc68 : zeroC Tryd.prog 68 = some [.opq .nilIface] := by kernel_rfl
@[simp] theorem nc68_0 : nilC Tryd.prog 68 0 = false := by kernel_rfl
@[simp] theorem sz69 : szT Tryd.prog 69 = 1 := by kernel_rfl
@[simp] theorem byt69 : bytT Tryd.prog 69 = some 16 := by kernel_rfl
@[simp] theorem agg69 : aggT Tryd.prog 69 = some false := by kernel_rfl
@[simp] theorem zc69 : zeroC Tryd.prog 69 = some [.opq .nilIface] := by kernel_rfl
@[simp] theorem nc69_0 : nilC Tryd.prog 69 0 = false := by kernel_rfl
@[simp] theorem sz71 : szT Tryd.prog 71 = 1 := by kernel_rfl
@[simp] theorem byt71 : bytT Tryd.prog 71 = some 8 := by kernel_rfl
@[simp] theorem agg71 : aggT Tryd.prog 71 = some false := by kernel_rfl
@[simp] theorem zc71 : zeroC Tryd.prog 71 = some [.opq .nilFunc] := by kernel_rfl
@[simp] theorem nc71_0 : nilC Tryd.prog 71 0 = false := by kernel_rfl
@[simp] theorem isf71 : isFnT (Tryd.prog.underlying 71) = true := by kernel_rfl
@[simp] theorem sz72 : szT Tryd.prog 72 = 1 := by kernel_rfl
@[simp] theorem byt72 : bytT Tryd.prog 72 = some 8 := by kernel_rfl
@[simp] theorem agg72 : aggT Tryd.prog 72 = some false := by kernel_rfl
@[simp] theorem zc72 : zeroC Tryd.prog 72 = some [.opq .nilFunc] := by kernel_rfl
@[simp] theorem nc72_0 : nilC Tryd.prog 72 0 = false := by kernel_rfl
@[simp] theorem isf72 : isFnT (Tryd.prog.underlying 72) = true := by kernel_rfl
@[simp] theorem sz73 : szT Tryd.prog 73 = 1 := by kernel_rfl
@[simp] theorem byt73 : bytT Tryd.prog 73 = some 8 := by kernel_rfl
@[simp] theorem agg73 : aggT Tryd.prog 73 = some false := by kernel_rfl
@[simp] theorem zc73 : zeroC Tryd.prog 73 = some [.opq .nilFunc] := by kernel_rfl
@[simp] theorem nc73_0 : nilC Tryd.prog 73 0 = false := by kernel_rfl
@[simp] theorem isf73 : isFnT (Tryd.prog.underlying 73) = true := by kernel_rfl
@[simp] theorem sz74 : szT Tryd.prog 74 = 1 := by kernel_rfl
@[simp] theorem byt74 : bytT Tryd.prog 74 = some 8 := by kernel_rfl
@[simp] theorem agg74 : aggT Tryd.prog 74 = some false := by kernel_rfl
@[simp] theorem zc74 : zeroC Tryd.prog 74 = some [.opq .nilFunc] := by kernel_rfl
@[simp] theorem nc74_0 : nilC Tryd.prog 74 0 = false := by kernel_rfl
@[simp] theorem isf74 : isFnT (Tryd.prog.underlying 74) = true := by kernel_rfl
@[simp] theorem sz75 : szT Tryd.prog 75 = 1 := by kernel_rfl
@[simp] theorem byt75 : bytT Tryd.prog 75 = some 8 := by kernel_rfl
@[simp] theorem agg75 : aggT Tryd.prog 75 = some false := by kernel_rfl
@[simp] theorem zc75 : zeroC Tryd.prog 75 = some [.opq .nilFunc] := by kernel_rfl
@[simp] theorem nc75_0 : nilC Tryd.prog 75 0 = false := by kernel_rfl
@[simp] theorem isf75 : isFnT (Tryd.prog.underlying 75) = true := by kernel_rfl
@[simp] theorem sz76 : szT Tryd.prog 76 = 1 := by kernel_rfl
@[simp] theorem byt76 : bytT Tryd.prog 76 = some 8 := by kernel_rfl
@[simp] theorem agg76 : aggT Tryd.prog 76 = some false := by kernel_rfl
@[simp] theorem zc76 : zeroC Tryd.prog 76 = some [.opq .nilFunc] := by kernel_rfl
@[simp] theorem nc76_0 : nilC Tryd.prog 76 0 = false := by kernel_rfl
@[simp] theorem isf76 : isFnT (Tryd.prog.underlying 76) = true := by kernel_rfl
@[simp] theorem sz77 : szT Tryd.prog 77 = 1 := by kernel_rfl
@[simp] theorem byt77 : bytT Tryd.prog 77 = some 8 := by kernel_rfl
@[simp] theorem agg77 : aggT Tryd.prog 77 = some false := by kernel_rfl
@[simp] theorem zc77 : zeroC Tryd.prog 77 = some [.opq .nilFunc] := by kernel_rfl
@[simp] theorem nc77_0 : nilC Tryd.prog 77 0 = false := by kernel_rfl
@[simp] theorem isf77 : isFnT (Tryd.prog.underlying 77) = true := by kernel_rfl
@[simp] theorem sz78 : szT Tryd.prog 78 = 1 := by kernel_rfl
@[simp] theorem byt78 : bytT Tryd.prog 78 = some 8 := by kernel_rfl
@[simp] theorem agg78 : aggT Tryd.prog 78 = some false := by kernel_rfl
@[simp] theorem zc78 : zeroC Tryd.prog 78 = some [.opq .nilFunc] := by kernel_rfl
@[simp] theorem nc78_0 : nilC Tryd.prog 78 0 = false := by kernel_rfl
@[simp] theorem isf78 : isFnT (Tryd.prog.underlying 78) = true := by kernel_rfl
@[simp] theorem sz79 : szT Tryd.prog 79 = 1 := by kernel_rfl
@[simp] theorem byt79 : bytT Tryd.prog 79 = some 8 := by kernel_rfl
@[simp] theorem agg79 : aggT Tryd.prog 79 = some false := by kernel_rfl
@[simp] theorem zc79 : zeroC Tryd.prog 79 = some [.opq .nilFunc] := by kernel_rfl
@[simp] theorem nc79_0 : nilC Tryd.prog 79 0 = false := by kernel_rfl
@[simp] theorem isf79 : isFnT (Tryd.prog.underlying 79) = true := by kernel_rfl
@[simp] theorem sz81 : szT Tryd.prog 81 = 1 := by kernel_rfl
@[simp] theorem byt81 : bytT Tryd.prog 81 = some 8 := by kernel_rfl
@[simp] theorem agg81 : aggT Tryd.prog 81 = some false := by kernel_rfl
@[simp] theorem zc81 : zeroC Tryd.prog 81 = some [.opq .nilFunc] := by kernel_rfl
@[simp] theorem nc81_0 : nilC Tryd.prog 81 0 = false := by kernel_rfl
@[simp] theorem isf81 : isFnT (Tryd.prog.underlying 81) = true := by kernel_rfl
@[simp] theorem sz82 : szT Tryd.prog 82 = 1 := by kernel_rfl
@[simp] theorem byt82 : bytT Tryd.prog 82 = some 8 := by kernel_rfl
@[simp] theorem agg82 : aggT Tryd.prog 82 = some false := by kernel_rfl
@[simp] theorem zc82 : zeroC Tryd.prog 82 = some [.opq .nilFunc] := by kernel_rfl
@[simp] theorem nc82_0 : nilC Tryd.prog 82 0 = false := by kernel_rfl
@[simp] theorem isf82 : isFnT (Tryd.prog.underlying 82) = true := by kernel_rfl
@[simp] theorem sz83 : szT Tryd.prog 83 = 1 := by kernel_rfl
@[simp] theorem byt83 : bytT Tryd.prog 83 = some 8 := by kernel_rfl
@[simp] theorem agg83 : aggT Tryd.prog 83 = some false := by kernel_rfl
@[simp] theorem zc83 : zeroC Tryd.prog 83 = some [.opq .nilFunc] := by kernel_rfl
@[simp] theorem nc83_0 : nilC Tryd.prog 83 0 = false := by kernel_rfl
@[simp] theorem isf83 : isFnT (Tryd.prog.underlying 83) = true := by kernel_rfl
@[simp] theorem sz84 : szT Tryd.prog 84 = 1 := by kernel_rfl
@[simp] theorem byt84 : bytT Tryd.prog 84 = some 8 := by kernel_rfl
@[simp] theorem agg84 : aggT Tryd.prog 84 = some false := by kernel_rfl
@[simp] theorem zc84 : zeroC Tryd.prog 84 = some [.opq .nilFunc] := by kernel_rfl
@[simp] theorem nc84_0 : nilC Tryd.prog 84 0 = false := by kernel_rfl
@[simp] theorem isf84 : isFnT (Tryd.prog.underlying 84) = true := by kernel_rfl
@[simp] theorem sz85 : szT Tryd.prog 85 = 1 := by kernel_rfl
@[simp] theorem byt85 : bytT Tryd.prog 85 = some 24 := by kernel_rfl
@[simp] theorem agg85 : aggT Tryd.prog 85 = some false := by kernel_rfl
@[simp] theorem zc85 : zeroC Tryd.prog 85 = some [.slice []] := by kernel_rfl
@[simp] theorem nc85_0 : nilC Tryd.prog 85 0 = true := by kernel_rfl
@[simp] theorem el85 : elT Tryd.prog 85 = some 109 := by kernel_rfl
@[simp] theorem und85 : Tryd.prog.underlying 85 = some (.slice 109) := by kernel_rfl
@[simp] theorem bz85 : bslZ Tryd.prog 85 = true := by kernel_rfl
@[simp] theorem es85 : eSz Tryd.prog 85 = 2 := by kernel_rfl
@[simp] theorem e185 : el1 Tryd.prog 85 = some (2, true) := by kernel_rfl
@[simp] theorem ae85 : agE Tryd.prog 85 = some true := by kernel_rfl
@[simp] theorem ap85 : apT Tryd.prog 85 = some (2, 16, .opq (.agg #[.int .i64 0, .int .i64 0]), false) := by kernel_rfl
@[simp] theorem sz86 : szT Tryd.prog 86 = 1 := by kernel_rfl
@[simp] theorem byt86 : bytT Tryd.prog 86 = some 24 := by kernel_rfl
@[simp] theorem agg86 : aggT Tryd.prog 86 = some false := by kernel_rfl
@[simp] theorem zc86 : zeroC Tryd.prog 86 = some [.slice []] := by kernel_rfl
@[simp] theorem nc86_0 : nilC Tryd.prog 86 0 = true := by kernel_rfl
@[simp] theorem el86 : elT Tryd.prog 86 = some 107 := by kernel_rfl
@[simp] theorem und86 : Tryd.prog.underlying 86 = some (.slice 107) := by kernel_rfl
@[simp] theorem bz86 : bslZ Tryd.prog 86 = true := by kernel_rfl
@[simp] theorem es86 : eSz Tryd.prog 86 = 2 := by kernel_rfl
@[simp] theorem e186 : el1 Tryd.prog 86 = some (2, true) := by kernel_rfl
@[simp] theorem ae86 : agE Tryd.prog 86 = some true := by kernel_rfl
@[simp] theorem ap86 : apT Tryd.prog 86 = some (2, 24, .opq (.agg #[.string ByteArray.empty, .int .i64 0]), false) := by kernel_rfl
@[simp] theorem sz87 : szT Tryd.prog 87 = 7 := by kernel_rfl
@[simp] theorem byt87 : bytT Tryd.prog 87 = some 88 := by kernel_rfl
@[simp] theorem agg87 : aggT Tryd.prog 87 = some true := by kernel_rfl
@[simp] theorem zc87 : zeroC Tryd.prog 87 = some [.int .i64 0, .int .i64 0, .slice [], .slice [], .int .i64 0, .int .i64 0, .int .i64 0] := by kernel_rfl
@[simp] theorem nc87_0 : nilC Tryd.prog 87 0 = false := by kernel_rfl
@[simp] theorem nc87_1 : nilC Tryd.prog 87 1 = false := by kernel_rfl
@[simp] theorem nc87_2 : nilC Tryd.prog 87 2 = true := by kernel_rfl
@[simp] theorem nc87_3 : nilC Tryd.prog 87 3 = true := by kernel_rfl
@[simp] theorem nc87_4 : nilC Tryd.prog 87 4 = false := by kernel_rfl
@[simp] theorem nc87_5 : nilC Tryd.prog 87 5 = false := by kernel_rfl
@[simp] theorem nc87_6 : nilC Tryd.prog 87 6 = false := by kernel_rfl
@[simp] theorem zs87 : zstr Tryd.prog 87 = some [.int .i64 0, .int .i64 0, .slice [], .slice [], .int .i64 0, .int .i64 0, .int .i64 0] := by kernel_rfl
@[simp] theorem fl87_0 : fldT Tryd.prog 87 0 = some (0, 3) := by kernel_rfl
@[simp] theorem fl87_1 : fldT Tryd.prog 87 1 = some (1, 3) := by kernel_rfl
@[simp] theorem fl87_2 : fldT Tryd.prog 87 2 = some (2, 85) := by kernel_rfl
@[simp] theorem fl87_3 : fldT Tryd.prog 87 3 = some (3, 86) := by kernel_rfl
@[simp] theorem fl87_4 : fldT Tryd.prog 87 4 = some (4, 3) := by kernel_rfl
@[simp] theorem fl87_5 : fldT Tryd.prog 87 5 = some (5, 3) := by kernel_rfl
@[simp] theorem fl87_6 : fldT Tryd.prog 87 6 = some (6, 3) := by kernel_rfl
@[simp] theorem sz88 : szT Tryd.prog 88 = 7 := by kernel_rfl
@[simp] theorem byt88 : bytT Tryd.prog 88 = some 88 := by kernel_rfl
@[simp] theorem agg88 : aggT Tryd.prog 88 = some true := by kernel_rfl
@[simp] theorem zc88 : zeroC Tryd.prog 88 = some [.int .i64 0, .int .i64 0, .slice [], .slice [], .int .i64 0, .int .i64 0, .int .i64 0] := by kernel_rfl
@[simp] theorem nc88_0 : nilC Tryd.prog 88 0 = false := by kernel_rfl
@[simp] theorem nc88_1 : nilC Tryd.prog 88 1 = false := by kernel_rfl
@[simp] theorem nc88_2 : nilC Tryd.prog 88 2 = true := by kernel_rfl
@[simp] theorem nc88_3 : nilC Tryd.prog 88 3 = true := by kernel_rfl
@[simp] theorem nc88_4 : nilC Tryd.prog 88 4 = false := by kernel_rfl
@[simp] theorem nc88_5 : nilC Tryd.prog 88 5 = false := by kernel_rfl
@[simp] theorem nc88_6 : nilC Tryd.prog 88 6 = false := by kernel_rfl
@[simp] theorem zs88 : zstr Tryd.prog 88 = some [.int .i64 0, .int .i64 0, .slice [], .slice [], .int .i64 0, .int .i64 0, .int .i64 0] := by kernel_rfl
@[simp] theorem fl88_0 : fldT Tryd.prog 88 0 = some (0, 3) := by kernel_rfl
@[simp] theorem fl88_1 : fldT Tryd.prog 88 1 = some (1, 3) := by kernel_rfl
@[simp] theorem fl88_2 : fldT Tryd.prog 88 2 = some (2, 85) := by kernel_rfl
@[simp] theorem fl88_3 : fldT Tryd.prog 88 3 = some (3, 86) := by kernel_rfl
@[simp] theorem fl88_4 : fldT Tryd.prog 88 4 = some (4, 3) := by kernel_rfl
@[simp] theorem fl88_5 : fldT Tryd.prog 88 5 = some (5, 3) := by kernel_rfl
@[simp] theorem fl88_6 : fldT Tryd.prog 88 6 = some (6, 3) := by kernel_rfl
@[simp] theorem sz89 : szT Tryd.prog 89 = 1 := by kernel_rfl
@[simp] theorem byt89 : bytT Tryd.prog 89 = some 24 := by kernel_rfl
@[simp] theorem agg89 : aggT Tryd.prog 89 = some false := by kernel_rfl
@[simp] theorem zc89 : zeroC Tryd.prog 89 = some [.slice []] := by kernel_rfl
@[simp] theorem nc89_0 : nilC Tryd.prog 89 0 = true := by kernel_rfl
@[simp] theorem el89 : elT Tryd.prog 89 = some 88 := by kernel_rfl
@[simp] theorem und89 : Tryd.prog.underlying 89 = some (.slice 88) := by kernel_rfl
@[simp] theorem bz89 : bslZ Tryd.prog 89 = true := by kernel_rfl
@[simp] theorem es89 : eSz Tryd.prog 89 = 7 := by kernel_rfl
@[simp] theorem e189 : el1 Tryd.prog 89 = some (7, true) := by kernel_rfl
@[simp] theorem ae89 : agE Tryd.prog 89 = some true := by kernel_rfl
@[simp] theorem ap89 : apT Tryd.prog 89 = some (7, 88, .opq (.agg #[.int .i64 0, .int .i64 0, .slice none 0 0, .slice none 0 0, .int .i64 0, .int .i64 0, .int .i64 0]), false) := by kernel_rfl
@[simp] theorem sz90 : szT Tryd.prog 90 = 1 := by kernel_rfl
@[simp] theorem byt90 : bytT Tryd.prog 90 = some 24 := by kernel_rfl
@[simp] theorem agg90 : aggT Tryd.prog 90 = some true := by kernel_rfl
@[simp] theorem zc90 : zeroC Tryd.prog 90 = some [.slice []] := by kernel_rfl
@[simp] theorem nc90_0 : nilC Tryd.prog 90 0 = true := by kernel_rfl
@[simp] theorem zs90 : zstr Tryd.prog 90 = some [.slice []] := by kernel_rfl
@[simp] theorem fl90_0 : fldT Tryd.prog 90 0 = some (0, 89) := by kernel_rfl
@[simp] theorem sz91 : szT Tryd.prog 91 = 1 := by kernel_rfl
@[simp] theorem byt91 : bytT Tryd.prog 91 = some 24 := by kernel_rfl
@[simp] theorem agg91 : aggT Tryd.prog 91 = some true := by kernel_rfl
@[simp] theorem zc91 : zeroC Tryd.prog 91 = some [.slice []] := by kernel_rfl
@[simp] theorem nc91_0 : nilC Tryd.prog 91 0 = true := by kernel_rfl
@[simp] theorem zs91 : zstr Tryd.prog 91 = some [.slice []] := by kernel_rfl
@[simp] theorem fl91_0 : fldT Tryd.prog 91 0 = some (0, 89) := by kernel_rfl
@[simp] theorem sz92 : szT Tryd.prog 92 = 1 := by kernel_rfl
@[simp] theorem byt92 : bytT Tryd.prog 92 = some 8 := by kernel_rfl
@[simp] theorem agg92 : aggT Tryd.prog 92 = some false := by kernel_rfl
@[simp] theorem zc92 : zeroC Tryd.prog 92 = some [.opq .nilFunc] := by kernel_rfl
@[simp] theorem nc92_0 : nilC Tryd.prog 92 0 = false := by kernel_rfl
@[simp] theorem isf92 : isFnT (Tryd.prog.underlying 92) = true := by kernel_rfl
@[simp] theorem sz93 : szT Tryd.prog 93 = 1 := by kernel_rfl
@[simp] theorem byt93 : bytT Tryd.prog 93 = some 8 := by kernel_rfl
@[simp] theorem agg93 : aggT Tryd.prog 93 = some false := by kernel_rfl
@[simp] theorem zc93 : zeroC Tryd.prog 93 = some [.int .u64 0] := by kernel_rfl
@[simp] theorem nc93_0 : nilC Tryd.prog 93 0 = false := by kernel_rfl
@[simp] theorem und93 : Tryd.prog.underlying 93 = some (.int .u64) := by kernel_rfl
@[simp] theorem sz94 : szT Tryd.prog 94 = 1 := by kernel_rfl
@[simp] theorem byt94 : bytT Tryd.prog 94 = some 8 := by kernel_rfl
@[simp] theorem agg94 : aggT Tryd.prog 94 = some false := by kernel_rfl
@[simp] theorem zc94 : zeroC Tryd.prog 94 = some [.opq .nilFunc] := by kernel_rfl
@[simp] theorem nc94_0 : nilC Tryd.prog 94 0 = false := by kernel_rfl
@[simp] theorem isf94 : isFnT (Tryd.prog.underlying 94) = true := by kernel_rfl
@[simp] theorem sz95 : szT Tryd.prog 95 = 1 := by kernel_rfl
@[simp] theorem byt95 : bytT Tryd.prog 95 = some 8 := by kernel_rfl
@[simp] theorem agg95 : aggT Tryd.prog 95 = some false := by kernel_rfl
@[simp] theorem zc95 : zeroC Tryd.prog 95 = some [.opq .nilFunc] := by kernel_rfl
@[simp] theorem nc95_0 : nilC Tryd.prog 95 0 = false := by kernel_rfl
@[simp] theorem isf95 : isFnT (Tryd.prog.underlying 95) = true := by kernel_rfl
@[simp] theorem sz97 : szT Tryd.prog 97 = 1 := by kernel_rfl
@[simp] theorem byt97 : bytT Tryd.prog 97 = some 8 := by kernel_rfl
@[simp] theorem agg97 : aggT Tryd.prog 97 = some false := by kernel_rfl
@[simp] theorem zc97 : zeroC Tryd.prog 97 = some [.opq .nilFunc] := by kernel_rfl
@[simp] theorem nc97_0 : nilC Tryd.prog 97 0 = false := by kernel_rfl
@[simp] theorem isf97 : isFnT (Tryd.prog.underlying 97) = true := by kernel_rfl
@[simp] theorem sz98 : szT Tryd.prog 98 = 1 := by kernel_rfl
@[simp] theorem byt98 : bytT Tryd.prog 98 = some 8 := by kernel_rfl
@[simp] theorem agg98 : aggT Tryd.prog 98 = some false := by kernel_rfl
@[simp] theorem zc98 : zeroC Tryd.prog 98 = some [.opq .nilFunc] := by kernel_rfl
@[simp] theorem nc98_0 : nilC Tryd.prog 98 0 = false := by kernel_rfl
@[simp] theorem isf98 : isFnT (Tryd.prog.underlying 98) = true := by kernel_rfl
@[simp] theorem sz99 : szT Tryd.prog 99 = 1 := by kernel_rfl
@[simp] theorem byt99 : bytT Tryd.prog 99 = some 8 := by kernel_rfl
@[simp] theorem agg99 : aggT Tryd.prog 99 = some false := by kernel_rfl
@[simp] theorem zc99 : zeroC Tryd.prog 99 = some [.opq .nilFunc] := by kernel_rfl
@[simp] theorem nc99_0 : nilC Tryd.prog 99 0 = false := by kernel_rfl
@[simp] theorem isf99 : isFnT (Tryd.prog.underlying 99) = true := by kernel_rfl
@[simp] theorem sz100 : szT Tryd.prog 100 = 1 := by kernel_rfl
@[simp] theorem byt100 : bytT Tryd.prog 100 = some 8 := by kernel_rfl
@[simp] theorem agg100 : aggT Tryd.prog 100 = some true := by kernel_rfl
@[simp] theorem zc100 : zeroC Tryd.prog 100 = some [.int .i64 0] := by kernel_rfl
@[simp] theorem nc100_0 : nilC Tryd.prog 100 0 = false := by kernel_rfl
@[simp] theorem zs100 : zstr Tryd.prog 100 = some [.int .i64 0] := by kernel_rfl
@[simp] theorem fl100_0 : fldT Tryd.prog 100 0 = some (0, 31) := by kernel_rfl
@[simp] theorem sz101 : szT Tryd.prog 101 = 1 := by kernel_rfl
@[simp] theorem byt101 : bytT Tryd.prog 101 = some 8 := by kernel_rfl
@[simp] theorem agg101 : aggT Tryd.prog 101 = some true := by kernel_rfl
@[simp] theorem zc101 : zeroC Tryd.prog 101 = some [.int .i64 0] := by kernel_rfl
@[simp] theorem nc101_0 : nilC Tryd.prog 101 0 = false := by kernel_rfl
@[simp] theorem eq101 : eqS Tryd.prog 101 = some [(0, 0)] := by kernel_rfl
@[simp] theorem zs101 : zstr Tryd.prog 101 = some [.int .i64 0] := by kernel_rfl
@[simp] theorem fl101_0 : fldT Tryd.prog 101 0 = some (0, 31) := by kernel_rfl
@[simp] theorem sz102 : szT Tryd.prog 102 = 1 := by kernel_rfl
@[simp] theorem byt102 : bytT Tryd.prog 102 = some 8 := by kernel_rfl
@[simp] theorem agg102 : aggT Tryd.prog 102 = some false := by kernel_rfl
@[simp] theorem zc102 : zeroC Tryd.prog 102 = some [.opq .nilFunc] := by kernel_rfl
@[simp] theorem nc102_0 : nilC Tryd.prog 102 0 = false := by kernel_rfl
@[simp] theorem isf102 : isFnT (Tryd.prog.underlying 102) = true := by kernel_rfl
@[simp] theorem sz103 : szT Tryd.prog 103 = 1 := by kernel_rfl
@[simp] theorem byt103 : bytT Tryd.prog 103 = some 8 := by kernel_rfl
@[simp] theorem agg103 : aggT Tryd.prog 103 = some false := by kernel_rfl
@[simp] theorem zc103 : zeroC Tryd.prog 103 = some [.opq (.pointer none)] := by kernel_rfl
@[simp] theorem nc103_0 : nilC Tryd.prog 103 0 = false := by kernel_rfl
@[simp] theorem und103 : Tryd.prog.underlying 103 = some (.pointer 101) := by kernel_rfl
@[simp] theorem sz104 : szT Tryd.prog 104 = 1 := by kernel_rfl
@[simp] theorem byt104 : bytT Tryd.prog 104 = some 8 := by kernel_rfl
@[simp] theorem agg104 : aggT Tryd.prog 104 = some false := by kernel_rfl
@[simp] theorem zc104 : zeroC Tryd.prog 104 = some [.opq .nilFunc] := by kernel_rfl
@[simp] theorem nc104_0 : nilC Tryd.prog 104 0 = false := by kernel_rfl
@[simp] theorem isf104 : isFnT (Tryd.prog.underlying 104) = true := by kernel_rfl
@[simp] theorem sz105 : szT Tryd.prog 105 = 1 := by kernel_rfl
@[simp] theorem byt105 : bytT Tryd.prog 105 = some 8 := by kernel_rfl
@[simp] theorem agg105 : aggT Tryd.prog 105 = some false := by kernel_rfl
@[simp] theorem zc105 : zeroC Tryd.prog 105 = some [.opq .nilFunc] := by kernel_rfl
@[simp] theorem nc105_0 : nilC Tryd.prog 105 0 = false := by kernel_rfl
@[simp] theorem isf105 : isFnT (Tryd.prog.underlying 105) = true := by kernel_rfl
@[simp] theorem sz106 : szT Tryd.prog 106 = 2 := by kernel_rfl
@[simp] theorem byt106 : bytT Tryd.prog 106 = some 24 := by kernel_rfl
@[simp] theorem agg106 : aggT Tryd.prog 106 = some true := by kernel_rfl
@[simp] theorem zc106 : zeroC Tryd.prog 106 = some [.str [], .int .i64 0] := by kernel_rfl
@[simp] theorem nc106_0 : nilC Tryd.prog 106 0 = false := by kernel_rfl
@[simp] theorem nc106_1 : nilC Tryd.prog 106 1 = false := by kernel_rfl
@[simp] theorem zs106 : zstr Tryd.prog 106 = some [.str [], .int .i64 0] := by kernel_rfl
@[simp] theorem fl106_0 : fldT Tryd.prog 106 0 = some (0, 9) := by kernel_rfl
@[simp] theorem fl106_1 : fldT Tryd.prog 106 1 = some (1, 3) := by kernel_rfl
@[simp] theorem sz107 : szT Tryd.prog 107 = 2 := by kernel_rfl
@[simp] theorem byt107 : bytT Tryd.prog 107 = some 24 := by kernel_rfl
@[simp] theorem agg107 : aggT Tryd.prog 107 = some true := by kernel_rfl
@[simp] theorem zc107 : zeroC Tryd.prog 107 = some [.str [], .int .i64 0] := by kernel_rfl
@[simp] theorem nc107_0 : nilC Tryd.prog 107 0 = false := by kernel_rfl
@[simp] theorem nc107_1 : nilC Tryd.prog 107 1 = false := by kernel_rfl
@[simp] theorem eq107 : eqS Tryd.prog 107 = some [(0, 2), (1, 0)] := by kernel_rfl
@[simp] theorem zs107 : zstr Tryd.prog 107 = some [.str [], .int .i64 0] := by kernel_rfl
@[simp] theorem fl107_0 : fldT Tryd.prog 107 0 = some (0, 9) := by kernel_rfl
@[simp] theorem fl107_1 : fldT Tryd.prog 107 1 = some (1, 3) := by kernel_rfl
@[simp] theorem sz108 : szT Tryd.prog 108 = 2 := by kernel_rfl
@[simp] theorem byt108 : bytT Tryd.prog 108 = some 16 := by kernel_rfl
@[simp] theorem agg108 : aggT Tryd.prog 108 = some true := by kernel_rfl
@[simp] theorem zc108 : zeroC Tryd.prog 108 = some [.int .i64 0, .int .i64 0] := by kernel_rfl
@[simp] theorem nc108_0 : nilC Tryd.prog 108 0 = false := by kernel_rfl
@[simp] theorem nc108_1 : nilC Tryd.prog 108 1 = false := by kernel_rfl
@[simp] theorem zs108 : zstr Tryd.prog 108 = some [.int .i64 0, .int .i64 0] := by kernel_rfl
@[simp] theorem fl108_0 : fldT Tryd.prog 108 0 = some (0, 3) := by kernel_rfl
@[simp] theorem fl108_1 : fldT Tryd.prog 108 1 = some (1, 3) := by kernel_rfl
@[simp] theorem sz109 : szT Tryd.prog 109 = 2 := by kernel_rfl
@[simp] theorem byt109 : bytT Tryd.prog 109 = some 16 := by kernel_rfl
@[simp] theorem agg109 : aggT Tryd.prog 109 = some true := by kernel_rfl
@[simp] theorem zc109 : zeroC Tryd.prog 109 = some [.int .i64 0, .int .i64 0] := by kernel_rfl
@[simp] theorem nc109_0 : nilC Tryd.prog 109 0 = false := by kernel_rfl
@[simp] theorem nc109_1 : nilC Tryd.prog 109 1 = false := by kernel_rfl
@[simp] theorem eq109 : eqS Tryd.prog 109 = some [(0, 0), (1, 0)] := by kernel_rfl
@[simp] theorem zs109 : zstr Tryd.prog 109 = some [.int .i64 0, .int .i64 0] := by kernel_rfl
@[simp] theorem fl109_0 : fldT Tryd.prog 109 0 = some (0, 3) := by kernel_rfl
@[simp] theorem fl109_1 : fldT Tryd.prog 109 1 = some (1, 3) := by kernel_rfl
@[simp] theorem sz110 : szT Tryd.prog 110 = 1 := by kernel_rfl
@[simp] theorem byt110 : bytT Tryd.prog 110 = some 8 := by kernel_rfl
@[simp] theorem agg110 : aggT Tryd.prog 110 = some false := by kernel_rfl
@[simp] theorem zc110 : zeroC Tryd.prog 110 = some [.opq .nilFunc] := by kernel_rfl
@[simp] theorem nc110_0 : nilC Tryd.prog 110 0 = false := by kernel_rfl
@[simp] theorem isf110 : isFnT (Tryd.prog.underlying 110) = true := by kernel_rfl
@[simp] theorem sz111 : szT Tryd.prog 111 = 1 := by kernel_rfl
@[simp] theorem byt111 : bytT Tryd.prog 111 = some 8 := by kernel_rfl
@[simp] theorem agg111 : aggT Tryd.prog 111 = some false := by kernel_rfl
@[simp] theorem zc111 : zeroC Tryd.prog 111 = some [.opq .nilFunc] := by kernel_rfl
@[simp] theorem nc111_0 : nilC Tryd.prog 111 0 = false := by kernel_rfl
@[simp] theorem isf111 : isFnT (Tryd.prog.underlying 111) = true := by kernel_rfl
@[simp] theorem sz112 : szT Tryd.prog 112 = 1 := by kernel_rfl
@[simp] theorem byt112 : bytT Tryd.prog 112 = some 8 := by kernel_rfl
@[simp] theorem agg112 : aggT Tryd.prog 112 = some false := by kernel_rfl
@[simp] theorem zc112 : zeroC Tryd.prog 112 = some [.opq .nilFunc] := by kernel_rfl
@[simp] theorem nc112_0 : nilC Tryd.prog 112 0 = false := by kernel_rfl
@[simp] theorem isf112 : isFnT (Tryd.prog.underlying 112) = true := by kernel_rfl
@[simp] theorem sz113 : szT Tryd.prog 113 = 1 := by kernel_rfl
@[simp] theorem byt113 : bytT Tryd.prog 113 = some 8 := by kernel_rfl
@[simp] theorem agg113 : aggT Tryd.prog 113 = some false := by kernel_rfl
@[simp] theorem zc113 : zeroC Tryd.prog 113 = some [.opq .nilFunc] := by kernel_rfl
@[simp] theorem nc113_0 : nilC Tryd.prog 113 0 = false := by kernel_rfl
@[simp] theorem isf113 : isFnT (Tryd.prog.underlying 113) = true := by kernel_rfl
@[simp] theorem sz114 : szT Tryd.prog 114 = 1 := by kernel_rfl
@[simp] theorem byt114 : bytT Tryd.prog 114 = some 8 := by kernel_rfl
@[simp] theorem agg114 : aggT Tryd.prog 114 = some false := by kernel_rfl
@[simp] theorem zc114 : zeroC Tryd.prog 114 = some [.opq .nilFunc] := by kernel_rfl
@[simp] theorem nc114_0 : nilC Tryd.prog 114 0 = false := by kernel_rfl
@[simp] theorem isf114 : isFnT (Tryd.prog.underlying 114) = true := by kernel_rfl
@[simp] theorem sz115 : szT Tryd.prog 115 = 1 := by kernel_rfl
@[simp] theorem byt115 : bytT Tryd.prog 115 = some 8 := by kernel_rfl
@[simp] theorem agg115 : aggT Tryd.prog 115 = some false := by kernel_rfl
@[simp] theorem zc115 : zeroC Tryd.prog 115 = some [.opq .nilFunc] := by kernel_rfl
@[simp] theorem nc115_0 : nilC Tryd.prog 115 0 = false := by kernel_rfl
@[simp] theorem isf115 : isFnT (Tryd.prog.underlying 115) = true := by kernel_rfl
@[simp] theorem sz116 : szT Tryd.prog 116 = 2 := by kernel_rfl
@[simp] theorem byt116 : bytT Tryd.prog 116 = some 32 := by kernel_rfl
@[simp] theorem agg116 : aggT Tryd.prog 116 = some true := by kernel_rfl
@[simp] theorem zc116 : zeroC Tryd.prog 116 = some [.str [], .opq .nilIface] := by kernel_rfl
@[simp] theorem nc116_0 : nilC Tryd.prog 116 0 = false := by kernel_rfl
@[simp] theorem nc116_1 : nilC Tryd.prog 116 1 = false := by kernel_rfl
@[simp] theorem zs116 : zstr Tryd.prog 116 = some [.str [], .opq .nilIface] := by kernel_rfl
@[simp] theorem fl116_0 : fldT Tryd.prog 116 0 = some (0, 9) := by kernel_rfl
@[simp] theorem fl116_1 : fldT Tryd.prog 116 1 = some (1, 69) := by kernel_rfl
@[simp] theorem sz117 : szT Tryd.prog 117 = 2 := by kernel_rfl
@[simp] theorem byt117 : bytT Tryd.prog 117 = some 32 := by kernel_rfl
@[simp] theorem agg117 : aggT Tryd.prog 117 = some true := by kernel_rfl
@[simp] theorem zc117 : zeroC Tryd.prog 117 = some [.str [], .opq .nilIface] := by kernel_rfl
@[simp] theorem nc117_0 : nilC Tryd.prog 117 0 = false := by kernel_rfl
@[simp] theorem nc117_1 : nilC Tryd.prog 117 1 = false := by kernel_rfl
@[simp] theorem zs117 : zstr Tryd.prog 117 = some [.str [], .opq .nilIface] := by kernel_rfl
@[simp] theorem fl117_0 : fldT Tryd.prog 117 0 = some (0, 9) := by kernel_rfl
@[simp] theorem fl117_1 : fldT Tryd.prog 117 1 = some (1, 69) := by kernel_rfl
@[simp] theorem sz118 : szT Tryd.prog 118 = 1 := by kernel_rfl
@[simp] theorem byt118 : bytT Tryd.prog 118 = some 8 := by kernel_rfl
@[simp] theorem agg118 : aggT Tryd.prog 118 = some false := by kernel_rfl
@[simp] theorem zc118 : zeroC Tryd.prog 118 = some [.opq .nilFunc] := by kernel_rfl
@[simp] theorem nc118_0 : nilC Tryd.prog 118 0 = false := by kernel_rfl
@[simp] theorem isf118 : isFnT (Tryd.prog.underlying 118) = true := by kernel_rfl
@[simp] theorem sz121 : szT Tryd.prog 121 = 1 := by kernel_rfl
@[simp] theorem byt121 : bytT Tryd.prog 121 = some 8 := by kernel_rfl
@[simp] theorem agg121 : aggT Tryd.prog 121 = some false := by kernel_rfl
@[simp] theorem zc121 : zeroC Tryd.prog 121 = some [.opq .nilFunc] := by kernel_rfl
@[simp] theorem nc121_0 : nilC Tryd.prog 121 0 = false := by kernel_rfl
@[simp] theorem isf121 : isFnT (Tryd.prog.underlying 121) = true := by kernel_rfl
@[simp] theorem sz122 : szT Tryd.prog 122 = 1 := by kernel_rfl
@[simp] theorem byt122 : bytT Tryd.prog 122 = some 8 := by kernel_rfl
@[simp] theorem agg122 : aggT Tryd.prog 122 = some false := by kernel_rfl
@[simp] theorem zc122 : zeroC Tryd.prog 122 = some [.opq .nilFunc] := by kernel_rfl
@[simp] theorem nc122_0 : nilC Tryd.prog 122 0 = false := by kernel_rfl
@[simp] theorem isf122 : isFnT (Tryd.prog.underlying 122) = true := by kernel_rfl
@[simp] theorem sz127 : szT Tryd.prog 127 = 1 := by kernel_rfl
@[simp] theorem byt127 : bytT Tryd.prog 127 = some 8 := by kernel_rfl
@[simp] theorem agg127 : aggT Tryd.prog 127 = some false := by kernel_rfl
@[simp] theorem zc127 : zeroC Tryd.prog 127 = some [.opq .nilFunc] := by kernel_rfl
@[simp] theorem nc127_0 : nilC Tryd.prog 127 0 = false := by kernel_rfl
@[simp] theorem isf127 : isFnT (Tryd.prog.underlying 127) = true := by kernel_rfl
@[simp] theorem sz128 : szT Tryd.prog 128 = 1 := by kernel_rfl
@[simp] theorem byt128 : bytT Tryd.prog 128 = some 8 := by kernel_rfl
@[simp] theorem agg128 : aggT Tryd.prog 128 = some false := by kernel_rfl
@[simp] theorem zc128 : zeroC Tryd.prog 128 = some [.opq .nilFunc] := by kernel_rfl
@[simp] theorem nc128_0 : nilC Tryd.prog 128 0 = false := by kernel_rfl
@[simp] theorem isf128 : isFnT (Tryd.prog.underlying 128) = true := by kernel_rfl
@[simp] theorem sz130 : szT Tryd.prog 130 = 1 := by kernel_rfl
@[simp] theorem byt130 : bytT Tryd.prog 130 = some 8 := by kernel_rfl
@[simp] theorem agg130 : aggT Tryd.prog 130 = some false := by kernel_rfl
@[simp] theorem zc130 : zeroC Tryd.prog 130 = some [.opq .nilFunc] := by kernel_rfl
@[simp] theorem nc130_0 : nilC Tryd.prog 130 0 = false := by kernel_rfl
@[simp] theorem isf130 : isFnT (Tryd.prog.underlying 130) = true := by kernel_rfl
@[simp] theorem sz131 : szT Tryd.prog 131 = 1 := by kernel_rfl
@[simp] theorem byt131 : bytT Tryd.prog 131 = some 8 := by kernel_rfl
@[simp] theorem agg131 : aggT Tryd.prog 131 = some false := by kernel_rfl
@[simp] theorem zc131 : zeroC Tryd.prog 131 = some [.opq .nilFunc] := by kernel_rfl
@[simp] theorem nc131_0 : nilC Tryd.prog 131 0 = false := by kernel_rfl
@[simp] theorem isf131 : isFnT (Tryd.prog.underlying 131) = true := by kernel_rfl
@[simp] theorem sz132 : szT Tryd.prog 132 = 1 := by kernel_rfl
@[simp] theorem byt132 : bytT Tryd.prog 132 = some 8 := by kernel_rfl
@[simp] theorem agg132 : aggT Tryd.prog 132 = some false := by kernel_rfl
@[simp] theorem zc132 : zeroC Tryd.prog 132 = some [.opq .nilFunc] := by kernel_rfl
@[simp] theorem nc132_0 : nilC Tryd.prog 132 0 = false := by kernel_rfl
@[simp] theorem isf132 : isFnT (Tryd.prog.underlying 132) = true := by kernel_rfl
@[simp] theorem sz133 : szT Tryd.prog 133 = 1 := by kernel_rfl
@[simp] theorem byt133 : bytT Tryd.prog 133 = some 8 := by kernel_rfl
@[simp] theorem agg133 : aggT Tryd.prog 133 = some false := by kernel_rfl
@[simp] theorem zc133 : zeroC Tryd.prog 133 = some [.opq .nilFunc] := by kernel_rfl
@[simp] theorem nc133_0 : nilC Tryd.prog 133 0 = false := by kernel_rfl
@[simp] theorem isf133 : isFnT (Tryd.prog.underlying 133) = true := by kernel_rfl
@[simp] theorem sz134 : szT Tryd.prog 134 = 1 := by kernel_rfl
@[simp] theorem byt134 : bytT Tryd.prog 134 = some 24 := by kernel_rfl
@[simp] theorem agg134 : aggT Tryd.prog 134 = some false := by kernel_rfl
@[simp] theorem zc134 : zeroC Tryd.prog 134 = some [.slice []] := by kernel_rfl
@[simp] theorem nc134_0 : nilC Tryd.prog 134 0 = true := by kernel_rfl
@[simp] theorem el134 : elT Tryd.prog 134 = some 23 := by kernel_rfl
@[simp] theorem und134 : Tryd.prog.underlying 134 = some (.slice 23) := by kernel_rfl
@[simp] theorem bz134 : bslZ Tryd.prog 134 = true := by kernel_rfl
@[simp] theorem es134 : eSz Tryd.prog 134 = 1 := by kernel_rfl
@[simp] theorem e1134 : el1 Tryd.prog 134 = some (1, false) := by kernel_rfl
@[simp] theorem ae134 : agE Tryd.prog 134 = some false := by kernel_rfl
@[simp] theorem ap134 : apT Tryd.prog 134 = some (1, 24, .slice [], true) := by kernel_rfl
@[simp] theorem sz135 : szT Tryd.prog 135 = 1 := by kernel_rfl
@[simp] theorem byt135 : bytT Tryd.prog 135 = some 8 := by kernel_rfl
@[simp] theorem agg135 : aggT Tryd.prog 135 = some true := by kernel_rfl
@[simp] theorem zc135 : zeroC Tryd.prog 135 = some [.opq (.pointer none)] := by kernel_rfl
@[simp] theorem nc135_0 : nilC Tryd.prog 135 0 = false := by kernel_rfl
@[simp] theorem zs135 : zstr Tryd.prog 135 = some [.opq (.pointer none)] := by kernel_rfl
@[simp] theorem fl135_0 : fldT Tryd.prog 135 0 = some (0, 17) := by kernel_rfl
@[simp] theorem sz137 : szT Tryd.prog 137 = 1 := by kernel_rfl
@[simp] theorem byt137 : bytT Tryd.prog 137 = some 8 := by kernel_rfl
@[simp] theorem agg137 : aggT Tryd.prog 137 = some false := by kernel_rfl
@[simp] theorem zc137 : zeroC Tryd.prog 137 = some [.opq (.pointer none)] := by kernel_rfl
@[simp] theorem nc137_0 : nilC Tryd.prog 137 0 = false := by kernel_rfl
@[simp] theorem und137 : Tryd.prog.underlying 137 = some (.pointer 184) := by kernel_rfl
@[simp] theorem sz138 : szT Tryd.prog 138 = 1 := by kernel_rfl
@[simp] theorem byt138 : bytT Tryd.prog 138 = some 16 := by kernel_rfl
@[simp] theorem agg138 : aggT Tryd.prog 138 = some false := by kernel_rfl
@[simp] theorem zc138 : zeroC Tryd.prog 138 = some [.opq .nilIface] := by kernel_rfl
@[simp] theorem nc138_0 : nilC Tryd.prog 138 0 = false := by kernel_rfl
@[simp] theorem sz140 : szT Tryd.prog 140 = 1 := by kernel_rfl
@[simp] theorem byt140 : bytT Tryd.prog 140 = some 8 := by kernel_rfl
@[simp] theorem agg140 : aggT Tryd.prog 140 = some false := by kernel_rfl
@[simp] theorem zc140 : zeroC Tryd.prog 140 = some [.opq .nilFunc] := by kernel_rfl
@[simp] theorem nc140_0 : nilC Tryd.prog 140 0 = false := by kernel_rfl
@[simp] theorem isf140 : isFnT (Tryd.prog.underlying 140) = true := by kernel_rfl
@[simp] theorem sz141 : szT Tryd.prog 141 = 1 := by kernel_rfl
@[simp] theorem byt141 : bytT Tryd.prog 141 = some 16 := by kernel_rfl
@[simp] theorem agg141 : aggT Tryd.prog 141 = some false := by kernel_rfl
@[simp] theorem zc141 : zeroC Tryd.prog 141 = some [.opq .nilIface] := by kernel_rfl
@[simp] theorem nc141_0 : nilC Tryd.prog 141 0 = false := by kernel_rfl
@[simp] theorem sz142 : szT Tryd.prog 142 = 1 := by kernel_rfl
@[simp] theorem byt142 : bytT Tryd.prog 142 = some 8 := by kernel_rfl
@[simp] theorem agg142 : aggT Tryd.prog 142 = some false := by kernel_rfl
@[simp] theorem zc142 : zeroC Tryd.prog 142 = some [.opq .nilFunc] := by kernel_rfl
@[simp] theorem nc142_0 : nilC Tryd.prog 142 0 = false := by kernel_rfl
@[simp] theorem isf142 : isFnT (Tryd.prog.underlying 142) = true := by kernel_rfl
@[simp] theorem sz143 : szT Tryd.prog 143 = 1 := by kernel_rfl
@[simp] theorem byt143 : bytT Tryd.prog 143 = some 16 := by kernel_rfl
@[simp] theorem agg143 : aggT Tryd.prog 143 = some false := by kernel_rfl
@[simp] theorem zc143 : zeroC Tryd.prog 143 = some [.opq .nilIface] := by kernel_rfl
@[simp] theorem nc143_0 : nilC Tryd.prog 143 0 = false := by kernel_rfl
@[simp] theorem sz144 : szT Tryd.prog 144 = 1 := by kernel_rfl
@[simp] theorem byt144 : bytT Tryd.prog 144 = some 24 := by kernel_rfl
@[simp] theorem agg144 : aggT Tryd.prog 144 = some false := by kernel_rfl
@[simp] theorem zc144 : zeroC Tryd.prog 144 = some [.slice []] := by kernel_rfl
@[simp] theorem nc144_0 : nilC Tryd.prog 144 0 = true := by kernel_rfl
@[simp] theorem el144 : elT Tryd.prog 144 = some 69 := by kernel_rfl
@[simp] theorem und144 : Tryd.prog.underlying 144 = some (.slice 69) := by kernel_rfl
@[simp] theorem bz144 : bslZ Tryd.prog 144 = true := by kernel_rfl
@[simp] theorem es144 : eSz Tryd.prog 144 = 1 := by kernel_rfl
@[simp] theorem e1144 : el1 Tryd.prog 144 = some (1, false) := by kernel_rfl
@[simp] theorem ae144 : agE Tryd.prog 144 = some false := by kernel_rfl
@[simp] theorem ap144 : apT Tryd.prog 144 = some (1, 16, .opq .nilIface, true) := by kernel_rfl
@[simp] theorem sz145 : szT Tryd.prog 145 = 1 := by kernel_rfl
@[simp] theorem byt145 : bytT Tryd.prog 145 = some 8 := by kernel_rfl
@[simp] theorem agg145 : aggT Tryd.prog 145 = some false := by kernel_rfl
@[simp] theorem zc145 : zeroC Tryd.prog 145 = some [.opq .nilFunc] := by kernel_rfl
@[simp] theorem nc145_0 : nilC Tryd.prog 145 0 = false := by kernel_rfl
@[simp] theorem isf145 : isFnT (Tryd.prog.underlying 145) = true := by kernel_rfl
@[simp] theorem sz146 : szT Tryd.prog 146 = 1 := by kernel_rfl
@[simp] theorem byt146 : bytT Tryd.prog 146 = some 8 := by kernel_rfl
@[simp] theorem agg146 : aggT Tryd.prog 146 = some false := by kernel_rfl
@[simp] theorem zc146 : zeroC Tryd.prog 146 = some [.opq .nilFunc] := by kernel_rfl
@[simp] theorem nc146_0 : nilC Tryd.prog 146 0 = false := by kernel_rfl
@[simp] theorem isf146 : isFnT (Tryd.prog.underlying 146) = true := by kernel_rfl
@[simp] theorem sz147 : szT Tryd.prog 147 = 1 := by kernel_rfl
@[simp] theorem byt147 : bytT Tryd.prog 147 = some 8 := by kernel_rfl
@[simp] theorem agg147 : aggT Tryd.prog 147 = some false := by kernel_rfl
@[simp] theorem zc147 : zeroC Tryd.prog 147 = some [.opq .nilFunc] := by kernel_rfl
@[simp] theorem nc147_0 : nilC Tryd.prog 147 0 = false := by kernel_rfl
@[simp] theorem isf147 : isFnT (Tryd.prog.underlying 147) = true := by kernel_rfl
@[simp] theorem sz148 : szT Tryd.prog 148 = 1 := by kernel_rfl
@[simp] theorem byt148 : bytT Tryd.prog 148 = some 16 := by kernel_rfl
@[simp] theorem agg148 : aggT Tryd.prog 148 = some false := by kernel_rfl
@[simp] theorem zc148 : zeroC Tryd.prog 148 = some [.opq .nilIface] := by kernel_rfl
@[simp] theorem nc148_0 : nilC Tryd.prog 148 0 = false := by kernel_rfl
@[simp] theorem sz150 : szT Tryd.prog 150 = 1 := by kernel_rfl
@[simp] theorem byt150 : bytT Tryd.prog 150 = some 8 := by kernel_rfl
@[simp] theorem agg150 : aggT Tryd.prog 150 = some false := by kernel_rfl
@[simp] theorem zc150 : zeroC Tryd.prog 150 = some [.opq .nilFunc] := by kernel_rfl
@[simp] theorem nc150_0 : nilC Tryd.prog 150 0 = false := by kernel_rfl
@[simp] theorem isf150 : isFnT (Tryd.prog.underlying 150) = true := by kernel_rfl
@[simp] theorem sz151 : szT Tryd.prog 151 = 1 := by kernel_rfl
@[simp] theorem byt151 : bytT Tryd.prog 151 = some 8 := by kernel_rfl
@[simp] theorem agg151 : aggT Tryd.prog 151 = some false := by kernel_rfl
@[simp] theorem zc151 : zeroC Tryd.prog 151 = some [.opq .nilFunc] := by kernel_rfl
@[simp] theorem nc151_0 : nilC Tryd.prog 151 0 = false := by kernel_rfl
@[simp] theorem isf151 : isFnT (Tryd.prog.underlying 151) = true := by kernel_rfl
@[simp] theorem sz152 : szT Tryd.prog 152 = 1 := by kernel_rfl
@[simp] theorem byt152 : bytT Tryd.prog 152 = some 8 := by kernel_rfl
@[simp] theorem agg152 : aggT Tryd.prog 152 = some false := by kernel_rfl
@[simp] theorem zc152 : zeroC Tryd.prog 152 = some [.opq .nilFunc] := by kernel_rfl
@[simp] theorem nc152_0 : nilC Tryd.prog 152 0 = false := by kernel_rfl
@[simp] theorem isf152 : isFnT (Tryd.prog.underlying 152) = true := by kernel_rfl
@[simp] theorem sz153 : szT Tryd.prog 153 = 1 := by kernel_rfl
@[simp] theorem byt153 : bytT Tryd.prog 153 = some 8 := by kernel_rfl
@[simp] theorem agg153 : aggT Tryd.prog 153 = some false := by kernel_rfl
@[simp] theorem zc153 : zeroC Tryd.prog 153 = some [.opq .nilFunc] := by kernel_rfl
@[simp] theorem nc153_0 : nilC Tryd.prog 153 0 = false := by kernel_rfl
@[simp] theorem isf153 : isFnT (Tryd.prog.underlying 153) = true := by kernel_rfl
@[simp] theorem sz154 : szT Tryd.prog 154 = 1 := by kernel_rfl
@[simp] theorem byt154 : bytT Tryd.prog 154 = some 24 := by kernel_rfl
@[simp] theorem agg154 : aggT Tryd.prog 154 = some false := by kernel_rfl
@[simp] theorem zc154 : zeroC Tryd.prog 154 = some [.slice []] := by kernel_rfl
@[simp] theorem nc154_0 : nilC Tryd.prog 154 0 = true := by kernel_rfl
@[simp] theorem el154 : elT Tryd.prog 154 = some 157 := by kernel_rfl
@[simp] theorem und154 : Tryd.prog.underlying 154 = some (.slice 157) := by kernel_rfl
@[simp] theorem bz154 : bslZ Tryd.prog 154 = true := by kernel_rfl
@[simp] theorem es154 : eSz Tryd.prog 154 = 9 := by kernel_rfl
@[simp] theorem e1154 : el1 Tryd.prog 154 = some (9, true) := by kernel_rfl
@[simp] theorem ae154 : agE Tryd.prog 154 = some true := by kernel_rfl
@[simp] theorem ap154 : apT Tryd.prog 154 = some (9, 104, .opq (.agg #[.int .i64 0, .int .i64 0, .int .i64 0, .int .i64 0, .slice none 0 0, .slice none 0 0, .int .i64 0, .int .i64 0, .int .i64 0]), false) := by kernel_rfl
@[simp] theorem sz155 : szT Tryd.prog 155 = 1 := by kernel_rfl
@[simp] theorem byt155 : bytT Tryd.prog 155 = some 8 := by kernel_rfl
@[simp] theorem agg155 : aggT Tryd.prog 155 = some false := by kernel_rfl
@[simp] theorem zc155 : zeroC Tryd.prog 155 = some [.opq .nilFunc] := by kernel_rfl
@[simp] theorem nc155_0 : nilC Tryd.prog 155 0 = false := by kernel_rfl
@[simp] theorem isf155 : isFnT (Tryd.prog.underlying 155) = true := by kernel_rfl
@[simp] theorem sz156 : szT Tryd.prog 156 = 9 := by kernel_rfl
@[simp] theorem byt156 : bytT Tryd.prog 156 = some 104 := by kernel_rfl
@[simp] theorem agg156 : aggT Tryd.prog 156 = some true := by kernel_rfl
@[simp] theorem zc156 : zeroC Tryd.prog 156 = some [.int .i64 0, .int .i64 0, .int .i64 0, .int .i64 0, .slice [], .slice [], .int .i64 0, .int .i64 0, .int .i64 0] := by kernel_rfl
@[simp] theorem nc156_0 : nilC Tryd.prog 156 0 = false := by kernel_rfl
@[simp] theorem nc156_1 : nilC Tryd.prog 156 1 = false := by kernel_rfl
@[simp] theorem nc156_2 : nilC Tryd.prog 156 2 = false := by kernel_rfl
@[simp] theorem nc156_3 : nilC Tryd.prog 156 3 = false := by kernel_rfl
@[simp] theorem nc156_4 : nilC Tryd.prog 156 4 = true := by kernel_rfl
@[simp] theorem nc156_5 : nilC Tryd.prog 156 5 = true := by kernel_rfl
@[simp] theorem nc156_6 : nilC Tryd.prog 156 6 = false := by kernel_rfl
@[simp] theorem nc156_7 : nilC Tryd.prog 156 7 = false := by kernel_rfl
@[simp] theorem nc156_8 : nilC Tryd.prog 156 8 = false := by kernel_rfl
@[simp] theorem zs156 : zstr Tryd.prog 156 = some [.int .i64 0, .int .i64 0, .int .i64 0, .int .i64 0, .slice [], .slice [], .int .i64 0, .int .i64 0, .int .i64 0] := by kernel_rfl
@[simp] theorem fl156_0 : fldT Tryd.prog 156 0 = some (0, 3) := by kernel_rfl
@[simp] theorem fl156_1 : fldT Tryd.prog 156 1 = some (1, 3) := by kernel_rfl
@[simp] theorem fl156_2 : fldT Tryd.prog 156 2 = some (2, 88) := by kernel_rfl
@[simp] theorem sz157 : szT Tryd.prog 157 = 9 := by kernel_rfl
@[simp] theorem byt157 : bytT Tryd.prog 157 = some 104 := by kernel_rfl
@[simp] theorem agg157 : aggT Tryd.prog 157 = some true := by kernel_rfl
@[simp] theorem zc157 : zeroC Tryd.prog 157 = some [.int .i64 0, .int .i64 0, .int .i64 0, .int .i64 0, .slice [], .slice [], .int .i64 0, .int .i64 0, .int .i64 0] := by kernel_rfl
@[simp] theorem nc157_0 : nilC Tryd.prog 157 0 = false := by kernel_rfl
@[simp] theorem nc157_1 : nilC Tryd.prog 157 1 = false := by kernel_rfl
@[simp] theorem nc157_2 : nilC Tryd.prog 157 2 = false := by kernel_rfl
@[simp] theorem nc157_3 : nilC Tryd.prog 157 3 = false := by kernel_rfl
@[simp] theorem nc157_4 : nilC Tryd.prog 157 4 = true := by kernel_rfl
@[simp] theorem nc157_5 : nilC Tryd.prog 157 5 = true := by kernel_rfl
@[simp] theorem nc157_6 : nilC Tryd.prog 157 6 = false := by kernel_rfl
@[simp] theorem nc157_7 : nilC Tryd.prog 157 7 = false := by kernel_rfl
@[simp] theorem nc157_8 : nilC Tryd.prog 157 8 = false := by kernel_rfl
@[simp] theorem zs157 : zstr Tryd.prog 157 = some [.int .i64 0, .int .i64 0, .int .i64 0, .int .i64 0, .slice [], .slice [], .int .i64 0, .int .i64 0, .int .i64 0] := by kernel_rfl
@[simp] theorem fl157_0 : fldT Tryd.prog 157 0 = some (0, 3) := by kernel_rfl
@[simp] theorem fl157_1 : fldT Tryd.prog 157 1 = some (1, 3) := by kernel_rfl
@[simp] theorem fl157_2 : fldT Tryd.prog 157 2 = some (2, 88) := by kernel_rfl
@[simp] theorem sz158 : szT Tryd.prog 158 = 1 := by kernel_rfl
@[simp] theorem byt158 : bytT Tryd.prog 158 = some 8 := by kernel_rfl
@[simp] theorem agg158 : aggT Tryd.prog 158 = some false := by kernel_rfl
@[simp] theorem zc158 : zeroC Tryd.prog 158 = some [.opq .nilFunc] := by kernel_rfl
@[simp] theorem nc158_0 : nilC Tryd.prog 158 0 = false := by kernel_rfl
@[simp] theorem isf158 : isFnT (Tryd.prog.underlying 158) = true := by kernel_rfl
@[simp] theorem sz159 : szT Tryd.prog 159 = 1 := by kernel_rfl
@[simp] theorem byt159 : bytT Tryd.prog 159 = some 8 := by kernel_rfl
@[simp] theorem agg159 : aggT Tryd.prog 159 = some false := by kernel_rfl
@[simp] theorem zc159 : zeroC Tryd.prog 159 = some [.opq .nilFunc] := by kernel_rfl
@[simp] theorem nc159_0 : nilC Tryd.prog 159 0 = false := by kernel_rfl
@[simp] theorem isf159 : isFnT (Tryd.prog.underlying 159) = true := by kernel_rfl
@[simp] theorem sz160 : szT Tryd.prog 160 = 1 := by kernel_rfl
@[simp] theorem byt160 : bytT Tryd.prog 160 = some 8 := by kernel_rfl
@[simp] theorem agg160 : aggT Tryd.prog 160 = some false := by kernel_rfl
@[simp] theorem zc160 : zeroC Tryd.prog 160 = some [.opq .nilFunc] := by kernel_rfl
@[simp] theorem nc160_0 : nilC Tryd.prog 160 0 = false := by kernel_rfl
@[simp] theorem isf160 : isFnT (Tryd.prog.underlying 160) = true := by kernel_rfl
@[simp] theorem sz161 : szT Tryd.prog 161 = 1 := by kernel_rfl
@[simp] theorem byt161 : bytT Tryd.prog 161 = some 8 := by kernel_rfl
@[simp] theorem agg161 : aggT Tryd.prog 161 = some false := by kernel_rfl
@[simp] theorem zc161 : zeroC Tryd.prog 161 = some [.opq .nilFunc] := by kernel_rfl
@[simp] theorem nc161_0 : nilC Tryd.prog 161 0 = false := by kernel_rfl
@[simp] theorem isf161 : isFnT (Tryd.prog.underlying 161) = true := by kernel_rfl
@[simp] theorem sz162 : szT Tryd.prog 162 = 1 := by kernel_rfl
@[simp] theorem byt162 : bytT Tryd.prog 162 = some 8 := by kernel_rfl
@[simp] theorem agg162 : aggT Tryd.prog 162 = some false := by kernel_rfl
@[simp] theorem zc162 : zeroC Tryd.prog 162 = some [.opq .nilFunc] := by kernel_rfl
@[simp] theorem nc162_0 : nilC Tryd.prog 162 0 = false := by kernel_rfl
@[simp] theorem isf162 : isFnT (Tryd.prog.underlying 162) = true := by kernel_rfl
@[simp] theorem sz163 : szT Tryd.prog 163 = 1 := by kernel_rfl
@[simp] theorem byt163 : bytT Tryd.prog 163 = some 8 := by kernel_rfl
@[simp] theorem agg163 : aggT Tryd.prog 163 = some false := by kernel_rfl
@[simp] theorem zc163 : zeroC Tryd.prog 163 = some [.opq .nilFunc] := by kernel_rfl
@[simp] theorem nc163_0 : nilC Tryd.prog 163 0 = false := by kernel_rfl
@[simp] theorem isf163 : isFnT (Tryd.prog.underlying 163) = true := by kernel_rfl
@[simp] theorem sz164 : szT Tryd.prog 164 = 1 := by kernel_rfl
@[simp] theorem byt164 : bytT Tryd.prog 164 = some 8 := by kernel_rfl
@[simp] theorem agg164 : aggT Tryd.prog 164 = some false := by kernel_rfl
@[simp] theorem zc164 : zeroC Tryd.prog 164 = some [.opq .nilFunc] := by kernel_rfl
@[simp] theorem nc164_0 : nilC Tryd.prog 164 0 = false := by kernel_rfl
@[simp] theorem isf164 : isFnT (Tryd.prog.underlying 164) = true := by kernel_rfl
@[simp] theorem sz165 : szT Tryd.prog 165 = 1 := by kernel_rfl
@[simp] theorem byt165 : bytT Tryd.prog 165 = some 8 := by kernel_rfl
@[simp] theorem agg165 : aggT Tryd.prog 165 = some false := by kernel_rfl
@[simp] theorem zc165 : zeroC Tryd.prog 165 = some [.opq .nilFunc] := by kernel_rfl
@[simp] theorem nc165_0 : nilC Tryd.prog 165 0 = false := by kernel_rfl
@[simp] theorem isf165 : isFnT (Tryd.prog.underlying 165) = true := by kernel_rfl
@[simp] theorem sz171 : szT Tryd.prog 171 = 1 := by kernel_rfl
@[simp] theorem byt171 : bytT Tryd.prog 171 = some 8 := by kernel_rfl
@[simp] theorem agg171 : aggT Tryd.prog 171 = some false := by kernel_rfl
@[simp] theorem zc171 : zeroC Tryd.prog 171 = some [.opq .nilFunc] := by kernel_rfl
@[simp] theorem nc171_0 : nilC Tryd.prog 171 0 = false := by kernel_rfl
@[simp] theorem isf171 : isFnT (Tryd.prog.underlying 171) = true := by kernel_rfl
@[simp] theorem sz172 : szT Tryd.prog 172 = 1 := by kernel_rfl
@[simp] theorem byt172 : bytT Tryd.prog 172 = some 8 := by kernel_rfl
@[simp] theorem agg172 : aggT Tryd.prog 172 = some false := by kernel_rfl
@[simp] theorem zc172 : zeroC Tryd.prog 172 = some [.opq .nilFunc] := by kernel_rfl
@[simp] theorem nc172_0 : nilC Tryd.prog 172 0 = false := by kernel_rfl
@[simp] theorem isf172 : isFnT (Tryd.prog.underlying 172) = true := by kernel_rfl
@[simp] theorem sz173 : szT Tryd.prog 173 = 1 := by kernel_rfl
@[simp] theorem byt173 : bytT Tryd.prog 173 = some 4 := by kernel_rfl
@[simp] theorem agg173 : aggT Tryd.prog 173 = some false := by kernel_rfl
@[simp] theorem zc173 : zeroC Tryd.prog 173 = some [.int .u32 0] := by kernel_rfl
@[simp] theorem nc173_0 : nilC Tryd.prog 173 0 = false := by kernel_rfl
@[simp] theorem und173 : Tryd.prog.underlying 173 = some (.int .u32) := by kernel_rfl
@[simp] theorem sz175 : szT Tryd.prog 175 = 1 := by kernel_rfl
@[simp] theorem byt175 : bytT Tryd.prog 175 = some 8 := by kernel_rfl
@[simp] theorem agg175 : aggT Tryd.prog 175 = some false := by kernel_rfl
@[simp] theorem zc175 : zeroC Tryd.prog 175 = some [.opq .nilFunc] := by kernel_rfl
@[simp] theorem nc175_0 : nilC Tryd.prog 175 0 = false := by kernel_rfl
@[simp] theorem isf175 : isFnT (Tryd.prog.underlying 175) = true := by kernel_rfl
@[simp] theorem sz176 : szT Tryd.prog 176 = 1 := by kernel_rfl
@[simp] theorem byt176 : bytT Tryd.prog 176 = some 8 := by kernel_rfl
@[simp] theorem agg176 : aggT Tryd.prog 176 = some false := by kernel_rfl
@[simp] theorem zc176 : zeroC Tryd.prog 176 = some [.opq (.pointer none)] := by kernel_rfl
@[simp] theorem nc176_0 : nilC Tryd.prog 176 0 = false := by kernel_rfl
@[simp] theorem und176 : Tryd.prog.underlying 176 = some (.pointer 5) := by kernel_rfl
@[simp] theorem sz179 : szT Tryd.prog 179 = 11 := by kernel_rfl
@[simp] theorem byt179 : bytT Tryd.prog 179 = some 48 := by kernel_rfl
@[simp] theorem agg179 : aggT Tryd.prog 179 = some true := by kernel_rfl
@[simp] theorem zc179 : zeroC Tryd.prog 179 = some [.int .u64 0, .int .u64 0, .int .u32 0, .int .u8 0, .int .u8 0, .int .u8 0, .int .u8 0, .opq .nilFunc, .opq (.pointer none), .int .i32 0, .int .i32 0] := by kernel_rfl
@[simp] theorem nc179_0 : nilC Tryd.prog 179 0 = false := by kernel_rfl
@[simp] theorem nc179_1 : nilC Tryd.prog 179 1 = false := by kernel_rfl
@[simp] theorem nc179_2 : nilC Tryd.prog 179 2 = false := by kernel_rfl
@[simp] theorem nc179_3 : nilC Tryd.prog 179 3 = false := by kernel_rfl
@[simp] theorem nc179_4 : nilC Tryd.prog 179 4 = false := by kernel_rfl
@[simp] theorem nc179_5 : nilC Tryd.prog 179 5 = false := by kernel_rfl
@[simp] theorem nc179_6 : nilC Tryd.prog 179 6 = false := by kernel_rfl
@[simp] theorem nc179_7 : nilC Tryd.prog 179 7 = false := by kernel_rfl
@[simp] theorem nc179_8 : nilC Tryd.prog 179 8 = false := by kernel_rfl
@[simp] theorem nc179_9 : nilC Tryd.prog 179 9 = false := by kernel_rfl
@[simp] theorem nc179_10 : nilC Tryd.prog 179 10 = false := by kernel_rfl
@[simp] theorem zs179 : zstr Tryd.prog 179 = some [.int .u64 0, .int .u64 0, .int .u32 0, .int .u8 0, .int .u8 0, .int .u8 0, .int .u8 0, .opq .nilFunc, .opq (.pointer none), .int .i32 0, .int .i32 0] := by kernel_rfl
@[simp] theorem fl179_0 : fldT Tryd.prog 179 0 = some (0, 12) := by kernel_rfl
@[simp] theorem fl179_1 : fldT Tryd.prog 179 1 = some (1, 12) := by kernel_rfl
@[simp] theorem fl179_2 : fldT Tryd.prog 179 2 = some (2, 173) := by kernel_rfl
@[simp] theorem fl179_3 : fldT Tryd.prog 179 3 = some (3, 174) := by kernel_rfl
@[simp] theorem fl179_4 : fldT Tryd.prog 179 4 = some (4, 5) := by kernel_rfl
@[simp] theorem fl179_5 : fldT Tryd.prog 179 5 = some (5, 5) := by kernel_rfl
@[simp] theorem fl179_6 : fldT Tryd.prog 179 6 = some (6, 129) := by kernel_rfl
@[simp] theorem fl179_7 : fldT Tryd.prog 179 7 = some (7, 175) := by kernel_rfl
@[simp] theorem fl179_8 : fldT Tryd.prog 179 8 = some (8, 176) := by kernel_rfl
@[simp] theorem fl179_9 : fldT Tryd.prog 179 9 = some (9, 177) := by kernel_rfl
@[simp] theorem fl179_10 : fldT Tryd.prog 179 10 = some (10, 178) := by kernel_rfl
@[simp] theorem sz181 : szT Tryd.prog 181 = 1 := by kernel_rfl
@[simp] theorem byt181 : bytT Tryd.prog 181 = some 8 := by kernel_rfl
@[simp] theorem agg181 : aggT Tryd.prog 181 = some false := by kernel_rfl
@[simp] theorem zc181 : zeroC Tryd.prog 181 = some [.opq .nilFunc] := by kernel_rfl
@[simp] theorem nc181_0 : nilC Tryd.prog 181 0 = false := by kernel_rfl
@[simp] theorem isf181 : isFnT (Tryd.prog.underlying 181) = true := by kernel_rfl
@[simp] theorem sz182 : szT Tryd.prog 182 = 1 := by kernel_rfl
@[simp] theorem byt182 : bytT Tryd.prog 182 = some 8 := by kernel_rfl
@[simp] theorem agg182 : aggT Tryd.prog 182 = some false := by kernel_rfl
@[simp] theorem zc182 : zeroC Tryd.prog 182 = some [.opq .nilFunc] := by kernel_rfl
@[simp] theorem nc182_0 : nilC Tryd.prog 182 0 = false := by kernel_rfl
@[simp] theorem isf182 : isFnT (Tryd.prog.underlying 182) = true := by kernel_rfl
@[simp] theorem sz183 : szT Tryd.prog 183 = 2 := by kernel_rfl
@[simp] theorem byt183 : bytT Tryd.prog 183 = some 24 := by kernel_rfl
@[simp] theorem agg183 : aggT Tryd.prog 183 = some true := by kernel_rfl
@[simp] theorem zc183 : zeroC Tryd.prog 183 = some [.str [], .int .u8 0] := by kernel_rfl
@[simp] theorem nc183_0 : nilC Tryd.prog 183 0 = false := by kernel_rfl
@[simp] theorem nc183_1 : nilC Tryd.prog 183 1 = false := by kernel_rfl
@[simp] theorem zs183 : zstr Tryd.prog 183 = some [.str [], .int .u8 0] := by kernel_rfl
@[simp] theorem fl183_0 : fldT Tryd.prog 183 0 = some (0, 9) := by kernel_rfl
@[simp] theorem fl183_1 : fldT Tryd.prog 183 1 = some (1, 129) := by kernel_rfl
@[simp] theorem sz185 : szT Tryd.prog 185 = 1 := by kernel_rfl
@[simp] theorem byt185 : bytT Tryd.prog 185 = some 8 := by kernel_rfl
@[simp] theorem agg185 : aggT Tryd.prog 185 = some false := by kernel_rfl
@[simp] theorem zc185 : zeroC Tryd.prog 185 = some [.opq (.pointer none)] := by kernel_rfl
@[simp] theorem nc185_0 : nilC Tryd.prog 185 0 = false := by kernel_rfl
@[simp] theorem und185 : Tryd.prog.underlying 185 = some (.pointer 189) := by kernel_rfl
@[simp] theorem sz186 : szT Tryd.prog 186 = 1 := by kernel_rfl
@[simp] theorem byt186 : bytT Tryd.prog 186 = some 8 := by kernel_rfl
@[simp] theorem agg186 : aggT Tryd.prog 186 = some false := by kernel_rfl
@[simp] theorem zc186 : zeroC Tryd.prog 186 = some [.opq .nilFunc] := by kernel_rfl
@[simp] theorem nc186_0 : nilC Tryd.prog 186 0 = false := by kernel_rfl
@[simp] theorem isf186 : isFnT (Tryd.prog.underlying 186) = true := by kernel_rfl
@[simp] theorem sz187 : szT Tryd.prog 187 = 1 := by kernel_rfl
@[simp] theorem byt187 : bytT Tryd.prog 187 = some 2 := by kernel_rfl
@[simp] theorem agg187 : aggT Tryd.prog 187 = some false := by kernel_rfl
@[simp] theorem zc187 : zeroC Tryd.prog 187 = some [.int .u16 0] := by kernel_rfl
@[simp] theorem nc187_0 : nilC Tryd.prog 187 0 = false := by kernel_rfl
@[simp] theorem und187 : Tryd.prog.underlying 187 = some (.int .u16) := by kernel_rfl
@[simp] theorem sz190 : szT Tryd.prog 190 = 1 := by kernel_rfl
@[simp] theorem byt190 : bytT Tryd.prog 190 = some 24 := by kernel_rfl
@[simp] theorem agg190 : aggT Tryd.prog 190 = some false := by kernel_rfl
@[simp] theorem zc190 : zeroC Tryd.prog 190 = some [.slice []] := by kernel_rfl
@[simp] theorem nc190_0 : nilC Tryd.prog 190 0 = true := by kernel_rfl
@[simp] theorem el190 : elT Tryd.prog 190 = some 193 := by kernel_rfl
@[simp] theorem und190 : Tryd.prog.underlying 190 = some (.slice 193) := by kernel_rfl
@[simp] theorem bz190 : bslZ Tryd.prog 190 = true := by kernel_rfl
@[simp] theorem es190 : eSz Tryd.prog 190 = 4 := by kernel_rfl
@[simp] theorem e1190 : el1 Tryd.prog 190 = some (4, true) := by kernel_rfl
@[simp] theorem ae190 : agE Tryd.prog 190 = some true := by kernel_rfl
@[simp] theorem ap190 : apT Tryd.prog 190 = some (4, 16, .opq (.agg #[.int .i32 0, .int .i32 0, .int .i32 0, .int .i32 0]), false) := by kernel_rfl
@[simp] theorem sz192 : szT Tryd.prog 192 = 4 := by kernel_rfl
@[simp] theorem byt192 : bytT Tryd.prog 192 = some 16 := by kernel_rfl
@[simp] theorem agg192 : aggT Tryd.prog 192 = some true := by kernel_rfl
@[simp] theorem zc192 : zeroC Tryd.prog 192 = some [.int .i32 0, .int .i32 0, .int .i32 0, .int .i32 0] := by kernel_rfl
@[simp] theorem nc192_0 : nilC Tryd.prog 192 0 = false := by kernel_rfl
@[simp] theorem nc192_1 : nilC Tryd.prog 192 1 = false := by kernel_rfl
@[simp] theorem nc192_2 : nilC Tryd.prog 192 2 = false := by kernel_rfl
@[simp] theorem nc192_3 : nilC Tryd.prog 192 3 = false := by kernel_rfl
@[simp] theorem zs192 : zstr Tryd.prog 192 = some [.int .i32 0, .int .i32 0, .int .i32 0, .int .i32 0] := by kernel_rfl
@[simp] theorem fl192_0 : fldT Tryd.prog 192 0 = some (0, 177) := by kernel_rfl
@[simp] theorem fl192_1 : fldT Tryd.prog 192 1 = some (1, 178) := by kernel_rfl
@[simp] theorem fl192_2 : fldT Tryd.prog 192 2 = some (2, 191) := by kernel_rfl
@[simp] theorem fl192_3 : fldT Tryd.prog 192 3 = some (3, 191) := by kernel_rfl
@[simp] theorem sz194 : szT Tryd.prog 194 = 1 := by kernel_rfl
@[simp] theorem byt194 : bytT Tryd.prog 194 = some 8 := by kernel_rfl
@[simp] theorem agg194 : aggT Tryd.prog 194 = some false := by kernel_rfl
@[simp] theorem zc194 : zeroC Tryd.prog 194 = some [.opq (.pointer none)] := by kernel_rfl
@[simp] theorem nc194_0 : nilC Tryd.prog 194 0 = false := by kernel_rfl
@[simp] theorem und194 : Tryd.prog.underlying 194 = some (.pointer 69) := by kernel_rfl
end Go.Proofs.YtimlalndjfmnbaaDoor
