/- The facts on this seat's types that the engine asks for, each by reckoning. PRINTED by types.py. -/
import Derived.Test.YtkbidfohcanijaaGreatEngZ
import Derived.Test.YtkbidfohcanijaaGreatProg
import Derived.KernelRfl
namespace Go.Proofs.YtkbidfohcanijaaGreat
open BoEng
set_option maxRecDepth 100000
@[simp] theorem sz1 : szT Tryz.prog 1 = 1 := by kernel_rfl
@[simp] theorem byt1 : bytT Tryz.prog 1 = some 8 := by kernel_rfl
@[simp] theorem agg1 : aggT Tryz.prog 1 = some false := by kernel_rfl
@[simp] theorem zc1 : zeroC Tryz.prog 1 = some [.opq .nilFunc] := by kernel_rfl
@[simp] theorem nc1_0 : nilC Tryz.prog 1 0 = false := by kernel_rfl
@[simp] theorem isf1 : isFnT (Tryz.prog.underlying 1) = true := by kernel_rfl
@[simp] theorem sz2 : szT Tryz.prog 2 = 1 := by kernel_rfl
@[simp] theorem byt2 : bytT Tryz.prog 2 = some 8 := by kernel_rfl
@[simp] theorem agg2 : aggT Tryz.prog 2 = some false := by kernel_rfl
@[simp] theorem zc2 : zeroC Tryz.prog 2 = some [.int .i64 0] := by kernel_rfl
@[simp] theorem nc2_0 : nilC Tryz.prog 2 0 = false := by kernel_rfl
@[simp] theorem und2 : Tryz.prog.underlying 2 = some (.int .i64) := by kernel_rfl
@[simp] theorem sz3 : szT Tryz.prog 3 = 1 := by kernel_rfl
@[simp] theorem byt3 : bytT Tryz.prog 3 = some 8 := by kernel_rfl
@[simp] theorem agg3 : aggT Tryz.prog 3 = some false := by kernel_rfl
@[simp] theorem zc3 : zeroC Tryz.prog 3 = some [.int .i64 0] := by kernel_rfl
@[simp] theorem nc3_0 : nilC Tryz.prog 3 0 = false := by kernel_rfl
@[simp] theorem und3 : Tryz.prog.underlying 3 = some (.int .i64) := by kernel_rfl
@[simp] theorem sz4 : szT Tryz.prog 4 = 1 := by kernel_rfl
@[simp] theorem byt4 : bytT Tryz.prog 4 = some 1 := by kernel_rfl
@[simp] theorem agg4 : aggT Tryz.prog 4 = some false := by kernel_rfl
@[simp] theorem zc4 : zeroC Tryz.prog 4 = some [.bool false] := by kernel_rfl
@[simp] theorem nc4_0 : nilC Tryz.prog 4 0 = false := by kernel_rfl
@[simp] theorem und4 : Tryz.prog.underlying 4 = some .bool := by kernel_rfl
@[simp] theorem sz5 : szT Tryz.prog 5 = 1 := by kernel_rfl
@[simp] theorem byt5 : bytT Tryz.prog 5 = some 1 := by kernel_rfl
@[simp] theorem agg5 : aggT Tryz.prog 5 = some false := by kernel_rfl
@[simp] theorem zc5 : zeroC Tryz.prog 5 = some [.int .u8 0] := by kernel_rfl
@[simp] theorem nc5_0 : nilC Tryz.prog 5 0 = false := by kernel_rfl
@[simp] theorem und5 : Tryz.prog.underlying 5 = some (.int .u8) := by kernel_rfl
@[simp] theorem sz9 : szT Tryz.prog 9 = 1 := by kernel_rfl
@[simp] theorem byt9 : bytT Tryz.prog 9 = some 16 := by kernel_rfl
@[simp] theorem agg9 : aggT Tryz.prog 9 = some false := by kernel_rfl
@[simp] theorem zc9 : zeroC Tryz.prog 9 = some [.str []] := by kernel_rfl
@[simp] theorem nc9_0 : nilC Tryz.prog 9 0 = false := by kernel_rfl
@[simp] theorem und9 : Tryz.prog.underlying 9 = some .string := by kernel_rfl
@[simp] theorem sz12 : szT Tryz.prog 12 = 1 := by kernel_rfl
@[simp] theorem byt12 : bytT Tryz.prog 12 = some 8 := by kernel_rfl
@[simp] theorem agg12 : aggT Tryz.prog 12 = some false := by kernel_rfl
@[simp] theorem zc12 : zeroC Tryz.prog 12 = some [.int .u64 0] := by kernel_rfl
@[simp] theorem nc12_0 : nilC Tryz.prog 12 0 = false := by kernel_rfl
@[simp] theorem und12 : Tryz.prog.underlying 12 = some (.int .u64) := by kernel_rfl
@[simp] theorem sz15 : szT Tryz.prog 15 = 1 := by kernel_rfl
@[simp] theorem byt15 : bytT Tryz.prog 15 = some 8 := by kernel_rfl
@[simp] theorem agg15 : aggT Tryz.prog 15 = some false := by kernel_rfl
@[simp] theorem zc15 : zeroC Tryz.prog 15 = some [.opq (.pointer none)] := by kernel_rfl
@[simp] theorem nc15_0 : nilC Tryz.prog 15 0 = false := by kernel_rfl
@[simp] theorem und15 : Tryz.prog.underlying 15 = some (.pointer 167) := by kernel_rfl
@[simp] theorem sz16 : szT Tryz.prog 16 = 1 := by kernel_rfl
@[simp] theorem byt16 : bytT Tryz.prog 16 = some 8 := by kernel_rfl
@[simp] theorem agg16 : aggT Tryz.prog 16 = some false := by kernel_rfl
@[simp] theorem zc16 : zeroC Tryz.prog 16 = some [.opq (.pointer none)] := by kernel_rfl
@[simp] theorem nc16_0 : nilC Tryz.prog 16 0 = false := by kernel_rfl
@[simp] theorem und16 : Tryz.prog.underlying 16 = some (.pointer 170) := by kernel_rfl
@[simp] theorem sz17 : szT Tryz.prog 17 = 1 := by kernel_rfl
@[simp] theorem byt17 : bytT Tryz.prog 17 = some 8 := by kernel_rfl
@[simp] theorem agg17 : aggT Tryz.prog 17 = some false := by kernel_rfl
@[simp] theorem zc17 : zeroC Tryz.prog 17 = some [.opq (.pointer none)] := by kernel_rfl
@[simp] theorem nc17_0 : nilC Tryz.prog 17 0 = false := by kernel_rfl
@[simp] theorem und17 : Tryz.prog.underlying 17 = some (.pointer 179) := by kernel_rfl
@[simp] theorem sz20 : szT Tryz.prog 20 = 1 := by kernel_rfl
@[simp] theorem byt20 : bytT Tryz.prog 20 = some 16 := by kernel_rfl
@[simp] theorem agg20 : aggT Tryz.prog 20 = some false := by kernel_rfl
@[simp] theorem zc20 : zeroC Tryz.prog 20 = some [.opq .nilIface] := by kernel_rfl
@[simp] theorem nc20_0 : nilC Tryz.prog 20 0 = false := by kernel_rfl
@[simp] theorem sz21 : szT Tryz.prog 21 = 1 := by kernel_rfl
@[simp] theorem byt21 : bytT Tryz.prog 21 = some 4 := by kernel_rfl
@[simp] theorem agg21 : aggT Tryz.prog 21 = some false := by kernel_rfl
@[simp] theorem zc21 : zeroC Tryz.prog 21 = some [.int .i32 0] := by kernel_rfl
@[simp] theorem nc21_0 : nilC Tryz.prog 21 0 = false := by kernel_rfl
@[simp] theorem und21 : Tryz.prog.underlying 21 = some (.int .i32) := by kernel_rfl
@[simp] theorem sz22 : szT Tryz.prog 22 = 1 := by kernel_rfl
@[simp] theorem byt22 : bytT Tryz.prog 22 = some 24 := by kernel_rfl
@[simp] theorem agg22 : aggT Tryz.prog 22 = some false := by kernel_rfl
@[simp] theorem zc22 : zeroC Tryz.prog 22 = some [.slice []] := by kernel_rfl
@[simp] theorem nc22_0 : nilC Tryz.prog 22 0 = true := by kernel_rfl
@[simp] theorem el22 : elT Tryz.prog 22 = some 31 := by kernel_rfl
@[simp] theorem und22 : Tryz.prog.underlying 22 = some (.slice 31) := by kernel_rfl
@[simp] theorem bz22 : bslZ Tryz.prog 22 = true := by kernel_rfl
@[simp] theorem es22 : eSz Tryz.prog 22 = 4 := by kernel_rfl
@[simp] theorem e122 : el1 Tryz.prog 22 = some (4, true) := by kernel_rfl
@[simp] theorem ae22 : agE Tryz.prog 22 = some true := by kernel_rfl
@[simp] theorem ap22 : apT Tryz.prog 22 = some (4, 40, .opq (.agg #[.int .i64 0, .int .i64 0, .int .i64 0, .string ByteArray.empty]), false) := by kernel_rfl
@[simp] theorem sz23 : szT Tryz.prog 23 = 1 := by kernel_rfl
@[simp] theorem byt23 : bytT Tryz.prog 23 = some 24 := by kernel_rfl
@[simp] theorem agg23 : aggT Tryz.prog 23 = some false := by kernel_rfl
@[simp] theorem zc23 : zeroC Tryz.prog 23 = some [.slice []] := by kernel_rfl
@[simp] theorem nc23_0 : nilC Tryz.prog 23 0 = true := by kernel_rfl
@[simp] theorem el23 : elT Tryz.prog 23 = some 72 := by kernel_rfl
@[simp] theorem und23 : Tryz.prog.underlying 23 = some (.slice 72) := by kernel_rfl
@[simp] theorem bz23 : bslZ Tryz.prog 23 = true := by kernel_rfl
@[simp] theorem es23 : eSz Tryz.prog 23 = 2 := by kernel_rfl
@[simp] theorem e123 : el1 Tryz.prog 23 = some (2, true) := by kernel_rfl
@[simp] theorem ae23 : agE Tryz.prog 23 = some true := by kernel_rfl
@[simp] theorem ap23 : apT Tryz.prog 23 = some (2, 32, .opq (.agg #[.slice none 0 0, .int .i64 0]), false) := by kernel_rfl
@[simp] theorem sz24 : szT Tryz.prog 24 = 1 := by kernel_rfl
@[simp] theorem byt24 : bytT Tryz.prog 24 = some 24 := by kernel_rfl
@[simp] theorem agg24 : aggT Tryz.prog 24 = some false := by kernel_rfl
@[simp] theorem zc24 : zeroC Tryz.prog 24 = some [.slice []] := by kernel_rfl
@[simp] theorem nc24_0 : nilC Tryz.prog 24 0 = true := by kernel_rfl
@[simp] theorem el24 : elT Tryz.prog 24 = some 84 := by kernel_rfl
@[simp] theorem und24 : Tryz.prog.underlying 24 = some (.slice 84) := by kernel_rfl
@[simp] theorem bz24 : bslZ Tryz.prog 24 = true := by kernel_rfl
@[simp] theorem es24 : eSz Tryz.prog 24 = 2 := by kernel_rfl
@[simp] theorem e124 : el1 Tryz.prog 24 = some (2, true) := by kernel_rfl
@[simp] theorem ae24 : agE Tryz.prog 24 = some true := by kernel_rfl
@[simp] theorem ap24 : apT Tryz.prog 24 = some (2, 24, .opq (.agg #[.string ByteArray.empty, .int .i64 0]), false) := by kernel_rfl
@[simp] theorem sz25 : szT Tryz.prog 25 = 3 := by kernel_rfl
@[simp] theorem byt25 : bytT Tryz.prog 25 = some 72 := by kernel_rfl
@[simp] theorem agg25 : aggT Tryz.prog 25 = some true := by kernel_rfl
@[simp] theorem zc25 : zeroC Tryz.prog 25 = some [.slice [], .slice [], .slice []] := by kernel_rfl
@[simp] theorem nc25_0 : nilC Tryz.prog 25 0 = true := by kernel_rfl
@[simp] theorem nc25_1 : nilC Tryz.prog 25 1 = true := by kernel_rfl
@[simp] theorem nc25_2 : nilC Tryz.prog 25 2 = true := by kernel_rfl
@[simp] theorem zs25 : zstr Tryz.prog 25 = some [.slice [], .slice [], .slice []] := by kernel_rfl
@[simp] theorem fl25_0 : fldT Tryz.prog 25 0 = some (0, 23) := by kernel_rfl
@[simp] theorem fl25_1 : fldT Tryz.prog 25 1 = some (1, 24) := by kernel_rfl
@[simp] theorem fl25_2 : fldT Tryz.prog 25 2 = some (2, 24) := by kernel_rfl
@[simp] theorem sz26 : szT Tryz.prog 26 = 3 := by kernel_rfl
@[simp] theorem byt26 : bytT Tryz.prog 26 = some 72 := by kernel_rfl
@[simp] theorem agg26 : aggT Tryz.prog 26 = some true := by kernel_rfl
@[simp] theorem zc26 : zeroC Tryz.prog 26 = some [.slice [], .slice [], .slice []] := by kernel_rfl
@[simp] theorem nc26_0 : nilC Tryz.prog 26 0 = true := by kernel_rfl
@[simp] theorem nc26_1 : nilC Tryz.prog 26 1 = true := by kernel_rfl
@[simp] theorem nc26_2 : nilC Tryz.prog 26 2 = true := by kernel_rfl
@[simp] theorem zs26 : zstr Tryz.prog 26 = some [.slice [], .slice [], .slice []] := by kernel_rfl
@[simp] theorem fl26_0 : fldT Tryz.prog 26 0 = some (0, 23) := by kernel_rfl
@[simp] theorem fl26_1 : fldT Tryz.prog 26 1 = some (1, 24) := by kernel_rfl
@[simp] theorem fl26_2 : fldT Tryz.prog 26 2 = some (2, 24) := by kernel_rfl
@[simp] theorem sz27 : szT Tryz.prog 27 = 4 := by kernel_rfl
@[simp] theorem byt27 : bytT Tryz.prog 27 = some 96 := by kernel_rfl
@[simp] theorem agg27 : aggT Tryz.prog 27 = some true := by kernel_rfl
@[simp] theorem zc27 : zeroC Tryz.prog 27 = some [.slice [], .slice [], .slice [], .slice []] := by kernel_rfl
@[simp] theorem nc27_0 : nilC Tryz.prog 27 0 = true := by kernel_rfl
@[simp] theorem nc27_1 : nilC Tryz.prog 27 1 = true := by kernel_rfl
@[simp] theorem nc27_2 : nilC Tryz.prog 27 2 = true := by kernel_rfl
@[simp] theorem nc27_3 : nilC Tryz.prog 27 3 = true := by kernel_rfl
@[simp] theorem zs27 : zstr Tryz.prog 27 = some [.slice [], .slice [], .slice [], .slice []] := by kernel_rfl
@[simp] theorem fl27_0 : fldT Tryz.prog 27 0 = some (0, 22) := by kernel_rfl
@[simp] theorem fl27_1 : fldT Tryz.prog 27 1 = some (1, 26) := by kernel_rfl
@[simp] theorem sz28 : szT Tryz.prog 28 = 4 := by kernel_rfl
@[simp] theorem byt28 : bytT Tryz.prog 28 = some 96 := by kernel_rfl
@[simp] theorem agg28 : aggT Tryz.prog 28 = some true := by kernel_rfl
@[simp] theorem zc28 : zeroC Tryz.prog 28 = some [.slice [], .slice [], .slice [], .slice []] := by kernel_rfl
@[simp] theorem nc28_0 : nilC Tryz.prog 28 0 = true := by kernel_rfl
@[simp] theorem nc28_1 : nilC Tryz.prog 28 1 = true := by kernel_rfl
@[simp] theorem nc28_2 : nilC Tryz.prog 28 2 = true := by kernel_rfl
@[simp] theorem nc28_3 : nilC Tryz.prog 28 3 = true := by kernel_rfl
@[simp] theorem zs28 : zstr Tryz.prog 28 = some [.slice [], .slice [], .slice [], .slice []] := by kernel_rfl
@[simp] theorem fl28_0 : fldT Tryz.prog 28 0 = some (0, 22) := by kernel_rfl
@[simp] theorem fl28_1 : fldT Tryz.prog 28 1 = some (1, 26) := by kernel_rfl
@[simp] theorem sz29 : szT Tryz.prog 29 = 1 := by kernel_rfl
@[simp] theorem byt29 : bytT Tryz.prog 29 = some 8 := by kernel_rfl
@[simp] theorem agg29 : aggT Tryz.prog 29 = some false := by kernel_rfl
@[simp] theorem zc29 : zeroC Tryz.prog 29 = some [.opq .nilFunc] := by kernel_rfl
@[simp] theorem nc29_0 : nilC Tryz.prog 29 0 = false := by kernel_rfl
@[simp] theorem isf29 : isFnT (Tryz.prog.underlying 29) = true := by kernel_rfl
@[simp] theorem sz30 : szT Tryz.prog 30 = 4 := by kernel_rfl
@[simp] theorem byt30 : bytT Tryz.prog 30 = some 40 := by kernel_rfl
@[simp] theorem agg30 : aggT Tryz.prog 30 = some true := by kernel_rfl
@[simp] theorem zc30 : zeroC Tryz.prog 30 = some [.int .i64 0, .int .i64 0, .int .i64 0, .str []] := by kernel_rfl
@[simp] theorem nc30_0 : nilC Tryz.prog 30 0 = false := by kernel_rfl
@[simp] theorem nc30_1 : nilC Tryz.prog 30 1 = false := by kernel_rfl
@[simp] theorem nc30_2 : nilC Tryz.prog 30 2 = false := by kernel_rfl
@[simp] theorem nc30_3 : nilC Tryz.prog 30 3 = false := by kernel_rfl
@[simp] theorem eq30 : eqS Tryz.prog 30 = some [(0, 0), (1, 0), (2, 0), (3, 2)] := by kernel_rfl
@[simp] theorem zs30 : zstr Tryz.prog 30 = some [.int .i64 0, .int .i64 0, .int .i64 0, .str []] := by kernel_rfl
@[simp] theorem fl30_0 : fldT Tryz.prog 30 0 = some (0, 3) := by kernel_rfl
@[simp] theorem fl30_1 : fldT Tryz.prog 30 1 = some (1, 3) := by kernel_rfl
@[simp] theorem fl30_2 : fldT Tryz.prog 30 2 = some (2, 3) := by kernel_rfl
@[simp] theorem fl30_3 : fldT Tryz.prog 30 3 = some (3, 9) := by kernel_rfl
@[simp] theorem sz31 : szT Tryz.prog 31 = 4 := by kernel_rfl
@[simp] theorem byt31 : bytT Tryz.prog 31 = some 40 := by kernel_rfl
@[simp] theorem agg31 : aggT Tryz.prog 31 = some true := by kernel_rfl
@[simp] theorem zc31 : zeroC Tryz.prog 31 = some [.int .i64 0, .int .i64 0, .int .i64 0, .str []] := by kernel_rfl
@[simp] theorem nc31_0 : nilC Tryz.prog 31 0 = false := by kernel_rfl
@[simp] theorem nc31_1 : nilC Tryz.prog 31 1 = false := by kernel_rfl
@[simp] theorem nc31_2 : nilC Tryz.prog 31 2 = false := by kernel_rfl
@[simp] theorem nc31_3 : nilC Tryz.prog 31 3 = false := by kernel_rfl
@[simp] theorem eq31 : eqS Tryz.prog 31 = some [(0, 0), (1, 0), (2, 0), (3, 2)] := by kernel_rfl
@[simp] theorem zs31 : zstr Tryz.prog 31 = some [.int .i64 0, .int .i64 0, .int .i64 0, .str []] := by kernel_rfl
@[simp] theorem fl31_0 : fldT Tryz.prog 31 0 = some (0, 3) := by kernel_rfl
@[simp] theorem fl31_1 : fldT Tryz.prog 31 1 = some (1, 3) := by kernel_rfl
@[simp] theorem fl31_2 : fldT Tryz.prog 31 2 = some (2, 3) := by kernel_rfl
@[simp] theorem fl31_3 : fldT Tryz.prog 31 3 = some (3, 9) := by kernel_rfl
@[simp] theorem sz32 : szT Tryz.prog 32 = 1 := by kernel_rfl
@[simp] theorem byt32 : bytT Tryz.prog 32 = some 8 := by kernel_rfl
@[simp] theorem agg32 : aggT Tryz.prog 32 = some false := by kernel_rfl
@[simp] theorem zc32 : zeroC Tryz.prog 32 = some [.opq .nilFunc] := by kernel_rfl
@[simp] theorem nc32_0 : nilC Tryz.prog 32 0 = false := by kernel_rfl
@[simp] theorem isf32 : isFnT (Tryz.prog.underlying 32) = true := by kernel_rfl
@[simp] theorem sz34 : szT Tryz.prog 34 = 1 := by kernel_rfl
@[simp] theorem byt34 : bytT Tryz.prog 34 = some 8 := by kernel_rfl
@[simp] theorem agg34 : aggT Tryz.prog 34 = some false := by kernel_rfl
@[simp] theorem zc34 : zeroC Tryz.prog 34 = some [.opq .nilFunc] := by kernel_rfl
@[simp] theorem nc34_0 : nilC Tryz.prog 34 0 = false := by kernel_rfl
@[simp] theorem isf34 : isFnT (Tryz.prog.underlying 34) = true := by kernel_rfl
@[simp] theorem sz35 : szT Tryz.prog 35 = 1 := by kernel_rfl
@[simp] theorem byt35 : bytT Tryz.prog 35 = some 24 := by kernel_rfl
@[simp] theorem agg35 : aggT Tryz.prog 35 = some false := by kernel_rfl
@[simp] theorem zc35 : zeroC Tryz.prog 35 = some [.slice []] := by kernel_rfl
@[simp] theorem nc35_0 : nilC Tryz.prog 35 0 = true := by kernel_rfl
@[simp] theorem el35 : elT Tryz.prog 35 = some 103 := by kernel_rfl
@[simp] theorem und35 : Tryz.prog.underlying 35 = some (.slice 103) := by kernel_rfl
@[simp] theorem bz35 : bslZ Tryz.prog 35 = true := by kernel_rfl
@[simp] theorem es35 : eSz Tryz.prog 35 = 2 := by kernel_rfl
@[simp] theorem e135 : el1 Tryz.prog 35 = some (2, true) := by kernel_rfl
@[simp] theorem ae35 : agE Tryz.prog 35 = some true := by kernel_rfl
@[simp] theorem ap35 : apT Tryz.prog 35 = some (2, 32, .opq (.agg #[.slice none 0 0, .int .i64 0]), false) := by kernel_rfl
@[simp] theorem sz36 : szT Tryz.prog 36 = 1 := by kernel_rfl
@[simp] theorem byt36 : bytT Tryz.prog 36 = some 24 := by kernel_rfl
@[simp] theorem agg36 : aggT Tryz.prog 36 = some false := by kernel_rfl
@[simp] theorem zc36 : zeroC Tryz.prog 36 = some [.slice []] := by kernel_rfl
@[simp] theorem nc36_0 : nilC Tryz.prog 36 0 = true := by kernel_rfl
@[simp] theorem el36 : elT Tryz.prog 36 = some 104 := by kernel_rfl
@[simp] theorem und36 : Tryz.prog.underlying 36 = some (.slice 104) := by kernel_rfl
@[simp] theorem bz36 : bslZ Tryz.prog 36 = true := by kernel_rfl
@[simp] theorem es36 : eSz Tryz.prog 36 = 2 := by kernel_rfl
@[simp] theorem e136 : el1 Tryz.prog 36 = some (2, true) := by kernel_rfl
@[simp] theorem ae36 : agE Tryz.prog 36 = some true := by kernel_rfl
@[simp] theorem ap36 : apT Tryz.prog 36 = some (2, 24, .opq (.agg #[.string ByteArray.empty, .int .i64 0]), false) := by kernel_rfl
@[simp] theorem sz37 : szT Tryz.prog 37 = 3 := by kernel_rfl
@[simp] theorem byt37 : bytT Tryz.prog 37 = some 72 := by kernel_rfl
@[simp] theorem agg37 : aggT Tryz.prog 37 = some true := by kernel_rfl
@[simp] theorem zc37 : zeroC Tryz.prog 37 = some [.slice [], .slice [], .slice []] := by kernel_rfl
@[simp] theorem nc37_0 : nilC Tryz.prog 37 0 = true := by kernel_rfl
@[simp] theorem nc37_1 : nilC Tryz.prog 37 1 = true := by kernel_rfl
@[simp] theorem nc37_2 : nilC Tryz.prog 37 2 = true := by kernel_rfl
@[simp] theorem zs37 : zstr Tryz.prog 37 = some [.slice [], .slice [], .slice []] := by kernel_rfl
@[simp] theorem fl37_0 : fldT Tryz.prog 37 0 = some (0, 35) := by kernel_rfl
@[simp] theorem fl37_1 : fldT Tryz.prog 37 1 = some (1, 36) := by kernel_rfl
@[simp] theorem fl37_2 : fldT Tryz.prog 37 2 = some (2, 36) := by kernel_rfl
@[simp] theorem sz38 : szT Tryz.prog 38 = 3 := by kernel_rfl
@[simp] theorem byt38 : bytT Tryz.prog 38 = some 72 := by kernel_rfl
@[simp] theorem agg38 : aggT Tryz.prog 38 = some true := by kernel_rfl
@[simp] theorem zc38 : zeroC Tryz.prog 38 = some [.slice [], .slice [], .slice []] := by kernel_rfl
@[simp] theorem nc38_0 : nilC Tryz.prog 38 0 = true := by kernel_rfl
@[simp] theorem nc38_1 : nilC Tryz.prog 38 1 = true := by kernel_rfl
@[simp] theorem nc38_2 : nilC Tryz.prog 38 2 = true := by kernel_rfl
@[simp] theorem zs38 : zstr Tryz.prog 38 = some [.slice [], .slice [], .slice []] := by kernel_rfl
@[simp] theorem fl38_0 : fldT Tryz.prog 38 0 = some (0, 35) := by kernel_rfl
@[simp] theorem fl38_1 : fldT Tryz.prog 38 1 = some (1, 36) := by kernel_rfl
@[simp] theorem fl38_2 : fldT Tryz.prog 38 2 = some (2, 36) := by kernel_rfl
@[simp] theorem sz39 : szT Tryz.prog 39 = 4 := by kernel_rfl
@[simp] theorem byt39 : bytT Tryz.prog 39 = some 96 := by kernel_rfl
@[simp] theorem agg39 : aggT Tryz.prog 39 = some true := by kernel_rfl
@[simp] theorem zc39 : zeroC Tryz.prog 39 = some [.slice [], .slice [], .slice [], .slice []] := by kernel_rfl
@[simp] theorem nc39_0 : nilC Tryz.prog 39 0 = true := by kernel_rfl
@[simp] theorem nc39_1 : nilC Tryz.prog 39 1 = true := by kernel_rfl
@[simp] theorem nc39_2 : nilC Tryz.prog 39 2 = true := by kernel_rfl
@[simp] theorem nc39_3 : nilC Tryz.prog 39 3 = true := by kernel_rfl
@[simp] theorem zs39 : zstr Tryz.prog 39 = some [.slice [], .slice [], .slice [], .slice []] := by kernel_rfl
@[simp] theorem fl39_0 : fldT Tryz.prog 39 0 = some (0, 22) := by kernel_rfl
@[simp] theorem fl39_1 : fldT Tryz.prog 39 1 = some (1, 38) := by kernel_rfl
@[simp] theorem sz40 : szT Tryz.prog 40 = 4 := by kernel_rfl
@[simp] theorem byt40 : bytT Tryz.prog 40 = some 96 := by kernel_rfl
@[simp] theorem agg40 : aggT Tryz.prog 40 = some true := by kernel_rfl
@[simp] theorem zc40 : zeroC Tryz.prog 40 = some [.slice [], .slice [], .slice [], .slice []] := by kernel_rfl
@[simp] theorem nc40_0 : nilC Tryz.prog 40 0 = true := by kernel_rfl
@[simp] theorem nc40_1 : nilC Tryz.prog 40 1 = true := by kernel_rfl
@[simp] theorem nc40_2 : nilC Tryz.prog 40 2 = true := by kernel_rfl
@[simp] theorem nc40_3 : nilC Tryz.prog 40 3 = true := by kernel_rfl
@[simp] theorem zs40 : zstr Tryz.prog 40 = some [.slice [], .slice [], .slice [], .slice []] := by kernel_rfl
@[simp] theorem fl40_0 : fldT Tryz.prog 40 0 = some (0, 22) := by kernel_rfl
@[simp] theorem fl40_1 : fldT Tryz.prog 40 1 = some (1, 38) := by kernel_rfl
@[simp] theorem sz42 : szT Tryz.prog 42 = 1 := by kernel_rfl
@[simp] theorem byt42 : bytT Tryz.prog 42 = some 8 := by kernel_rfl
@[simp] theorem agg42 : aggT Tryz.prog 42 = some false := by kernel_rfl
@[simp] theorem zc42 : zeroC Tryz.prog 42 = some [.opq .nilFunc] := by kernel_rfl
@[simp] theorem nc42_0 : nilC Tryz.prog 42 0 = false := by kernel_rfl
@[simp] theorem isf42 : isFnT (Tryz.prog.underlying 42) = true := by kernel_rfl
@[simp] theorem sz43 : szT Tryz.prog 43 = 1 := by kernel_rfl
@[simp] theorem byt43 : bytT Tryz.prog 43 = some 8 := by kernel_rfl
@[simp] theorem agg43 : aggT Tryz.prog 43 = some false := by kernel_rfl
@[simp] theorem zc43 : zeroC Tryz.prog 43 = some [.opq .nilFunc] := by kernel_rfl
@[simp] theorem nc43_0 : nilC Tryz.prog 43 0 = false := by kernel_rfl
@[simp] theorem isf43 : isFnT (Tryz.prog.underlying 43) = true := by kernel_rfl
@[simp] theorem sz44 : szT Tryz.prog 44 = 1 := by kernel_rfl
@[simp] theorem byt44 : bytT Tryz.prog 44 = some 8 := by kernel_rfl
@[simp] theorem agg44 : aggT Tryz.prog 44 = some false := by kernel_rfl
@[simp] theorem zc44 : zeroC Tryz.prog 44 = some [.opq .nilFunc] := by kernel_rfl
@[simp] theorem nc44_0 : nilC Tryz.prog 44 0 = false := by kernel_rfl
@[simp] theorem isf44 : isFnT (Tryz.prog.underlying 44) = true := by kernel_rfl
@[simp] theorem sz45 : szT Tryz.prog 45 = 1 := by kernel_rfl
@[simp] theorem byt45 : bytT Tryz.prog 45 = some 8 := by kernel_rfl
@[simp] theorem agg45 : aggT Tryz.prog 45 = some false := by kernel_rfl
@[simp] theorem zc45 : zeroC Tryz.prog 45 = some [.opq .nilFunc] := by kernel_rfl
@[simp] theorem nc45_0 : nilC Tryz.prog 45 0 = false := by kernel_rfl
@[simp] theorem isf45 : isFnT (Tryz.prog.underlying 45) = true := by kernel_rfl
@[simp] theorem sz46 : szT Tryz.prog 46 = 1 := by kernel_rfl
@[simp] theorem byt46 : bytT Tryz.prog 46 = some 8 := by kernel_rfl
@[simp] theorem agg46 : aggT Tryz.prog 46 = some false := by kernel_rfl
@[simp] theorem zc46 : zeroC Tryz.prog 46 = some [.opq .nilFunc] := by kernel_rfl
@[simp] theorem nc46_0 : nilC Tryz.prog 46 0 = false := by kernel_rfl
@[simp] theorem isf46 : isFnT (Tryz.prog.underlying 46) = true := by kernel_rfl
@[simp] theorem sz47 : szT Tryz.prog 47 = 1 := by kernel_rfl
@[simp] theorem byt47 : bytT Tryz.prog 47 = some 8 := by kernel_rfl
@[simp] theorem agg47 : aggT Tryz.prog 47 = some false := by kernel_rfl
@[simp] theorem zc47 : zeroC Tryz.prog 47 = some [.opq .nilFunc] := by kernel_rfl
@[simp] theorem nc47_0 : nilC Tryz.prog 47 0 = false := by kernel_rfl
@[simp] theorem isf47 : isFnT (Tryz.prog.underlying 47) = true := by kernel_rfl
@[simp] theorem sz48 : szT Tryz.prog 48 = 1 := by kernel_rfl
@[simp] theorem byt48 : bytT Tryz.prog 48 = some 8 := by kernel_rfl
@[simp] theorem agg48 : aggT Tryz.prog 48 = some false := by kernel_rfl
@[simp] theorem zc48 : zeroC Tryz.prog 48 = some [.opq .nilFunc] := by kernel_rfl
@[simp] theorem nc48_0 : nilC Tryz.prog 48 0 = false := by kernel_rfl
@[simp] theorem isf48 : isFnT (Tryz.prog.underlying 48) = true := by kernel_rfl
@[simp] theorem sz49 : szT Tryz.prog 49 = 1 := by kernel_rfl
@[simp] theorem byt49 : bytT Tryz.prog 49 = some 8 := by kernel_rfl
@[simp] theorem agg49 : aggT Tryz.prog 49 = some false := by kernel_rfl
@[simp] theorem zc49 : zeroC Tryz.prog 49 = some [.int .i64 0] := by kernel_rfl
@[simp] theorem nc49_0 : nilC Tryz.prog 49 0 = false := by kernel_rfl
@[simp] theorem und49 : Tryz.prog.underlying 49 = some (.int .i64) := by kernel_rfl
@[simp] theorem sz51 : szT Tryz.prog 51 = 1 := by kernel_rfl
@[simp] theorem byt51 : bytT Tryz.prog 51 = some 8 := by kernel_rfl
@[simp] theorem agg51 : aggT Tryz.prog 51 = some false := by kernel_rfl
@[simp] theorem zc51 : zeroC Tryz.prog 51 = some [.opq .nilFunc] := by kernel_rfl
@[simp] theorem nc51_0 : nilC Tryz.prog 51 0 = false := by kernel_rfl
@[simp] theorem isf51 : isFnT (Tryz.prog.underlying 51) = true := by kernel_rfl
@[simp] theorem sz52 : szT Tryz.prog 52 = 1 := by kernel_rfl
@[simp] theorem byt52 : bytT Tryz.prog 52 = some 8 := by kernel_rfl
@[simp] theorem agg52 : aggT Tryz.prog 52 = some false := by kernel_rfl
@[simp] theorem zc52 : zeroC Tryz.prog 52 = some [.opq .nilFunc] := by kernel_rfl
@[simp] theorem nc52_0 : nilC Tryz.prog 52 0 = false := by kernel_rfl
@[simp] theorem isf52 : isFnT (Tryz.prog.underlying 52) = true := by kernel_rfl
@[simp] theorem sz53 : szT Tryz.prog 53 = 1 := by kernel_rfl
@[simp] theorem byt53 : bytT Tryz.prog 53 = some 8 := by kernel_rfl
@[simp] theorem agg53 : aggT Tryz.prog 53 = some false := by kernel_rfl
@[simp] theorem zc53 : zeroC Tryz.prog 53 = some [.opq .nilFunc] := by kernel_rfl
@[simp] theorem nc53_0 : nilC Tryz.prog 53 0 = false := by kernel_rfl
@[simp] theorem isf53 : isFnT (Tryz.prog.underlying 53) = true := by kernel_rfl
@[simp] theorem sz54 : szT Tryz.prog 54 = 1 := by kernel_rfl
@[simp] theorem byt54 : bytT Tryz.prog 54 = some 24 := by kernel_rfl
@[simp] theorem agg54 : aggT Tryz.prog 54 = some false := by kernel_rfl
@[simp] theorem zc54 : zeroC Tryz.prog 54 = some [.slice []] := by kernel_rfl
@[simp] theorem nc54_0 : nilC Tryz.prog 54 0 = true := by kernel_rfl
@[simp] theorem el54 : elT Tryz.prog 54 = some 91 := by kernel_rfl
@[simp] theorem und54 : Tryz.prog.underlying 54 = some (.slice 91) := by kernel_rfl
@[simp] theorem bz54 : bslZ Tryz.prog 54 = true := by kernel_rfl
@[simp] theorem es54 : eSz Tryz.prog 54 = 4 := by kernel_rfl
@[simp] theorem e154 : el1 Tryz.prog 54 = some (4, true) := by kernel_rfl
@[simp] theorem ae54 : agE Tryz.prog 54 = some true := by kernel_rfl
@[simp] theorem ap54 : apT Tryz.prog 54 = some (4, 64, .opq (.agg #[.int .i64 0, .string ByteArray.empty, .string ByteArray.empty, .slice none 0 0]), false) := by kernel_rfl
@[simp] theorem sz56 : szT Tryz.prog 56 = 1 := by kernel_rfl
@[simp] theorem byt56 : bytT Tryz.prog 56 = some 8 := by kernel_rfl
@[simp] theorem agg56 : aggT Tryz.prog 56 = some false := by kernel_rfl
@[simp] theorem zc56 : zeroC Tryz.prog 56 = some [.opq .nilFunc] := by kernel_rfl
@[simp] theorem nc56_0 : nilC Tryz.prog 56 0 = false := by kernel_rfl
@[simp] theorem isf56 : isFnT (Tryz.prog.underlying 56) = true := by kernel_rfl
@[simp] theorem sz57 : szT Tryz.prog 57 = 1 := by kernel_rfl
@[simp] theorem byt57 : bytT Tryz.prog 57 = some 8 := by kernel_rfl
@[simp] theorem agg57 : aggT Tryz.prog 57 = some false := by kernel_rfl
@[simp] theorem zc57 : zeroC Tryz.prog 57 = some [.opq .nilFunc] := by kernel_rfl
@[simp] theorem nc57_0 : nilC Tryz.prog 57 0 = false := by kernel_rfl
@[simp] theorem isf57 : isFnT (Tryz.prog.underlying 57) = true := by kernel_rfl
@[simp] theorem sz58 : szT Tryz.prog 58 = 1 := by kernel_rfl
@[simp] theorem byt58 : bytT Tryz.prog 58 = some 8 := by kernel_rfl
@[simp] theorem agg58 : aggT Tryz.prog 58 = some false := by kernel_rfl
@[simp] theorem zc58 : zeroC Tryz.prog 58 = some [.opq .nilFunc] := by kernel_rfl
@[simp] theorem nc58_0 : nilC Tryz.prog 58 0 = false := by kernel_rfl
@[simp] theorem isf58 : isFnT (Tryz.prog.underlying 58) = true := by kernel_rfl
@[simp] theorem sz59 : szT Tryz.prog 59 = 2 := by kernel_rfl
@[simp] theorem byt59 : bytT Tryz.prog 59 = some 32 := by kernel_rfl
@[simp] theorem agg59 : aggT Tryz.prog 59 = some true := by kernel_rfl
@[simp] theorem zc59 : zeroC Tryz.prog 59 = some [.slice [], .opq .nilFunc] := by kernel_rfl
@[simp] theorem nc59_0 : nilC Tryz.prog 59 0 = true := by kernel_rfl
@[simp] theorem nc59_1 : nilC Tryz.prog 59 1 = false := by kernel_rfl
@[simp] theorem zs59 : zstr Tryz.prog 59 = some [.slice [], .opq .nilFunc] := by kernel_rfl
@[simp] theorem fl59_0 : fldT Tryz.prog 59 0 = some (0, 54) := by kernel_rfl
@[simp] theorem fl59_1 : fldT Tryz.prog 59 1 = some (1, 58) := by kernel_rfl
@[simp] theorem sz60 : szT Tryz.prog 60 = 2 := by kernel_rfl
@[simp] theorem byt60 : bytT Tryz.prog 60 = some 32 := by kernel_rfl
@[simp] theorem agg60 : aggT Tryz.prog 60 = some true := by kernel_rfl
@[simp] theorem zc60 : zeroC Tryz.prog 60 = some [.slice [], .opq .nilFunc] := by kernel_rfl
@[simp] theorem nc60_0 : nilC Tryz.prog 60 0 = true := by kernel_rfl
@[simp] theorem nc60_1 : nilC Tryz.prog 60 1 = false := by kernel_rfl
@[simp] theorem zs60 : zstr Tryz.prog 60 = some [.slice [], .opq .nilFunc] := by kernel_rfl
@[simp] theorem fl60_0 : fldT Tryz.prog 60 0 = some (0, 54) := by kernel_rfl
@[simp] theorem fl60_1 : fldT Tryz.prog 60 1 = some (1, 58) := by kernel_rfl
@[simp] theorem sz61 : szT Tryz.prog 61 = 1 := by kernel_rfl
@[simp] theorem byt61 : bytT Tryz.prog 61 = some 8 := by kernel_rfl
@[simp] theorem agg61 : aggT Tryz.prog 61 = some false := by kernel_rfl
@[simp] theorem zc61 : zeroC Tryz.prog 61 = some [.opq .nilFunc] := by kernel_rfl
@[simp] theorem nc61_0 : nilC Tryz.prog 61 0 = false := by kernel_rfl
@[simp] theorem isf61 : isFnT (Tryz.prog.underlying 61) = true := by kernel_rfl
@[simp] theorem sz62 : szT Tryz.prog 62 = 1 := by kernel_rfl
@[simp] theorem byt62 : bytT Tryz.prog 62 = some 24 := by kernel_rfl
@[simp] theorem agg62 : aggT Tryz.prog 62 = some false := by kernel_rfl
@[simp] theorem zc62 : zeroC Tryz.prog 62 = some [.slice []] := by kernel_rfl
@[simp] theorem nc62_0 : nilC Tryz.prog 62 0 = true := by kernel_rfl
@[simp] theorem el62 : elT Tryz.prog 62 = some 100 := by kernel_rfl
@[simp] theorem und62 : Tryz.prog.underlying 62 = some (.slice 100) := by kernel_rfl
@[simp] theorem bz62 : bslZ Tryz.prog 62 = true := by kernel_rfl
@[simp] theorem es62 : eSz Tryz.prog 62 = 4 := by kernel_rfl
@[simp] theorem e162 : el1 Tryz.prog 62 = some (4, true) := by kernel_rfl
@[simp] theorem ae62 : agE Tryz.prog 62 = some true := by kernel_rfl
@[simp] theorem ap62 : apT Tryz.prog 62 = some (4, 64, .opq (.agg #[.int .i64 0, .string ByteArray.empty, .string ByteArray.empty, .slice none 0 0]), false) := by kernel_rfl
@[simp] theorem sz64 : szT Tryz.prog 64 = 1 := by kernel_rfl
@[simp] theorem byt64 : bytT Tryz.prog 64 = some 8 := by kernel_rfl
@[simp] theorem agg64 : aggT Tryz.prog 64 = some false := by kernel_rfl
@[simp] theorem zc64 : zeroC Tryz.prog 64 = some [.opq .nilFunc] := by kernel_rfl
@[simp] theorem nc64_0 : nilC Tryz.prog 64 0 = false := by kernel_rfl
@[simp] theorem isf64 : isFnT (Tryz.prog.underlying 64) = true := by kernel_rfl
@[simp] theorem sz66 : szT Tryz.prog 66 = 1 := by kernel_rfl
@[simp] theorem byt66 : bytT Tryz.prog 66 = some 8 := by kernel_rfl
@[simp] theorem agg66 : aggT Tryz.prog 66 = some false := by kernel_rfl
@[simp] theorem zc66 : zeroC Tryz.prog 66 = some [.opq .nilFunc] := by kernel_rfl
@[simp] theorem nc66_0 : nilC Tryz.prog 66 0 = false := by kernel_rfl
@[simp] theorem isf66 : isFnT (Tryz.prog.underlying 66) = true := by kernel_rfl
@[simp] theorem sz67 : szT Tryz.prog 67 = 1 := by kernel_rfl
@[simp] theorem byt67 : bytT Tryz.prog 67 = some 8 := by kernel_rfl
@[simp] theorem agg67 : aggT Tryz.prog 67 = some false := by kernel_rfl
@[simp] theorem zc67 : zeroC Tryz.prog 67 = some [.opq .nilFunc] := by kernel_rfl
@[simp] theorem nc67_0 : nilC Tryz.prog 67 0 = false := by kernel_rfl
@[simp] theorem isf67 : isFnT (Tryz.prog.underlying 67) = true := by kernel_rfl
@[simp] theorem sz68 : szT Tryz.prog 68 = 1 := by kernel_rfl
@[simp] theorem byt68 : bytT Tryz.prog 68 = some 8 := by kernel_rfl
@[simp] theorem agg68 : aggT Tryz.prog 68 = some false := by kernel_rfl
@[simp] theorem zc68 : zeroC Tryz.prog 68 = some [.opq .nilFunc] := by kernel_rfl
@[simp] theorem nc68_0 : nilC Tryz.prog 68 0 = false := by kernel_rfl
@[simp] theorem isf68 : isFnT (Tryz.prog.underlying 68) = true := by kernel_rfl
@[simp] theorem sz69 : szT Tryz.prog 69 = 1 := by kernel_rfl
@[simp] theorem byt69 : bytT Tryz.prog 69 = some 8 := by kernel_rfl
@[simp] theorem agg69 : aggT Tryz.prog 69 = some false := by kernel_rfl
@[simp] theorem zc69 : zeroC Tryz.prog 69 = some [.opq .nilFunc] := by kernel_rfl
@[simp] theorem nc69_0 : nilC Tryz.prog 69 0 = false := by kernel_rfl
@[simp] theorem isf69 : isFnT (Tryz.prog.underlying 69) = true := by kernel_rfl
@[simp] theorem sz70 : szT Tryz.prog 70 = 1 := by kernel_rfl
@[simp] theorem byt70 : bytT Tryz.prog 70 = some 24 := by kernel_rfl
@[simp] theorem agg70 : aggT Tryz.prog 70 = some false := by kernel_rfl
@[simp] theorem zc70 : zeroC Tryz.prog 70 = some [.slice []] := by kernel_rfl
@[simp] theorem nc70_0 : nilC Tryz.prog 70 0 = true := by kernel_rfl
@[simp] theorem el70 : elT Tryz.prog 70 = some 5 := by kernel_rfl
@[simp] theorem und70 : Tryz.prog.underlying 70 = some (.slice 5) := by kernel_rfl
@[simp] theorem bz70 : bslZ Tryz.prog 70 = true := by kernel_rfl
@[simp] theorem es70 : eSz Tryz.prog 70 = 1 := by kernel_rfl
@[simp] theorem e170 : el1 Tryz.prog 70 = some (1, false) := by kernel_rfl
@[simp] theorem ae70 : agE Tryz.prog 70 = some false := by kernel_rfl
@[simp] theorem ap70 : apT Tryz.prog 70 = some (1, 1, .int .u8 0, true) := by kernel_rfl
@[simp] theorem sz71 : szT Tryz.prog 71 = 2 := by kernel_rfl
@[simp] theorem byt71 : bytT Tryz.prog 71 = some 32 := by kernel_rfl
@[simp] theorem agg71 : aggT Tryz.prog 71 = some true := by kernel_rfl
@[simp] theorem zc71 : zeroC Tryz.prog 71 = some [.slice [], .int .i64 0] := by kernel_rfl
@[simp] theorem nc71_0 : nilC Tryz.prog 71 0 = true := by kernel_rfl
@[simp] theorem nc71_1 : nilC Tryz.prog 71 1 = false := by kernel_rfl
@[simp] theorem zs71 : zstr Tryz.prog 71 = some [.slice [], .int .i64 0] := by kernel_rfl
@[simp] theorem fl71_0 : fldT Tryz.prog 71 0 = some (0, 70) := by kernel_rfl
@[simp] theorem fl71_1 : fldT Tryz.prog 71 1 = some (1, 3) := by kernel_rfl
@[simp] theorem sz72 : szT Tryz.prog 72 = 2 := by kernel_rfl
@[simp] theorem byt72 : bytT Tryz.prog 72 = some 32 := by kernel_rfl
@[simp] theorem agg72 : aggT Tryz.prog 72 = some true := by kernel_rfl
@[simp] theorem zc72 : zeroC Tryz.prog 72 = some [.slice [], .int .i64 0] := by kernel_rfl
@[simp] theorem nc72_0 : nilC Tryz.prog 72 0 = true := by kernel_rfl
@[simp] theorem nc72_1 : nilC Tryz.prog 72 1 = false := by kernel_rfl
@[simp] theorem zs72 : zstr Tryz.prog 72 = some [.slice [], .int .i64 0] := by kernel_rfl
@[simp] theorem fl72_0 : fldT Tryz.prog 72 0 = some (0, 70) := by kernel_rfl
@[simp] theorem fl72_1 : fldT Tryz.prog 72 1 = some (1, 3) := by kernel_rfl
@[simp] theorem sz74 : szT Tryz.prog 74 = 1 := by kernel_rfl
@[simp] theorem byt74 : bytT Tryz.prog 74 = some 8 := by kernel_rfl
@[simp] theorem agg74 : aggT Tryz.prog 74 = some false := by kernel_rfl
@[simp] theorem zc74 : zeroC Tryz.prog 74 = some [.opq .nilFunc] := by kernel_rfl
@[simp] theorem nc74_0 : nilC Tryz.prog 74 0 = false := by kernel_rfl
@[simp] theorem isf74 : isFnT (Tryz.prog.underlying 74) = true := by kernel_rfl
@[simp] theorem sz75 : szT Tryz.prog 75 = 1 := by kernel_rfl
@[simp] theorem byt75 : bytT Tryz.prog 75 = some 8 := by kernel_rfl
@[simp] theorem agg75 : aggT Tryz.prog 75 = some false := by kernel_rfl
@[simp] theorem zc75 : zeroC Tryz.prog 75 = some [.opq .nilFunc] := by kernel_rfl
@[simp] theorem nc75_0 : nilC Tryz.prog 75 0 = false := by kernel_rfl
@[simp] theorem isf75 : isFnT (Tryz.prog.underlying 75) = true := by kernel_rfl
@[simp] theorem sz77 : szT Tryz.prog 77 = 1 := by kernel_rfl
@[simp] theorem byt77 : bytT Tryz.prog 77 = some 8 := by kernel_rfl
@[simp] theorem agg77 : aggT Tryz.prog 77 = some false := by kernel_rfl
@[simp] theorem zc77 : zeroC Tryz.prog 77 = some [.opq .nilFunc] := by kernel_rfl
@[simp] theorem nc77_0 : nilC Tryz.prog 77 0 = false := by kernel_rfl
@[simp] theorem isf77 : isFnT (Tryz.prog.underlying 77) = true := by kernel_rfl
@[simp] theorem sz79 : szT Tryz.prog 79 = 1 := by kernel_rfl
@[simp] theorem byt79 : bytT Tryz.prog 79 = some 8 := by kernel_rfl
@[simp] theorem agg79 : aggT Tryz.prog 79 = some false := by kernel_rfl
@[simp] theorem zc79 : zeroC Tryz.prog 79 = some [.opq .nilFunc] := by kernel_rfl
@[simp] theorem nc79_0 : nilC Tryz.prog 79 0 = false := by kernel_rfl
@[simp] theorem isf79 : isFnT (Tryz.prog.underlying 79) = true := by kernel_rfl
@[simp] theorem sz80 : szT Tryz.prog 80 = 1 := by kernel_rfl
@[simp] theorem byt80 : bytT Tryz.prog 80 = some 8 := by kernel_rfl
@[simp] theorem agg80 : aggT Tryz.prog 80 = some false := by kernel_rfl
@[simp] theorem zc80 : zeroC Tryz.prog 80 = some [.opq .nilFunc] := by kernel_rfl
@[simp] theorem nc80_0 : nilC Tryz.prog 80 0 = false := by kernel_rfl
@[simp] theorem isf80 : isFnT (Tryz.prog.underlying 80) = true := by kernel_rfl
@[simp] theorem sz81 : szT Tryz.prog 81 = 1 := by kernel_rfl
@[simp] theorem byt81 : bytT Tryz.prog 81 = some 24 := by kernel_rfl
@[simp] theorem agg81 : aggT Tryz.prog 81 = some false := by kernel_rfl
@[simp] theorem zc81 : zeroC Tryz.prog 81 = some [.slice []] := by kernel_rfl
@[simp] theorem nc81_0 : nilC Tryz.prog 81 0 = true := by kernel_rfl
@[simp] theorem el81 : elT Tryz.prog 81 = some 3 := by kernel_rfl
@[simp] theorem und81 : Tryz.prog.underlying 81 = some (.slice 3) := by kernel_rfl
@[simp] theorem bz81 : bslZ Tryz.prog 81 = true := by kernel_rfl
@[simp] theorem es81 : eSz Tryz.prog 81 = 1 := by kernel_rfl
@[simp] theorem e181 : el1 Tryz.prog 81 = some (1, false) := by kernel_rfl
@[simp] theorem ae81 : agE Tryz.prog 81 = some false := by kernel_rfl
@[simp] theorem ap81 : apT Tryz.prog 81 = some (1, 8, .int .i64 0, true) := by kernel_rfl
@[simp] theorem sz82 : szT Tryz.prog 82 = 1 := by kernel_rfl
@[simp] theorem byt82 : bytT Tryz.prog 82 = some 8 := by kernel_rfl
@[simp] theorem agg82 : aggT Tryz.prog 82 = some false := by kernel_rfl
@[simp] theorem zc82 : zeroC Tryz.prog 82 = some [.opq .nilFunc] := by kernel_rfl
@[simp] theorem nc82_0 : nilC Tryz.prog 82 0 = false := by kernel_rfl
@[simp] theorem isf82 : isFnT (Tryz.prog.underlying 82) = true := by kernel_rfl
@[simp] theorem sz83 : szT Tryz.prog 83 = 2 := by kernel_rfl
@[simp] theorem byt83 : bytT Tryz.prog 83 = some 24 := by kernel_rfl
@[simp] theorem agg83 : aggT Tryz.prog 83 = some true := by kernel_rfl
@[simp] theorem zc83 : zeroC Tryz.prog 83 = some [.str [], .int .i64 0] := by kernel_rfl
@[simp] theorem nc83_0 : nilC Tryz.prog 83 0 = false := by kernel_rfl
@[simp] theorem nc83_1 : nilC Tryz.prog 83 1 = false := by kernel_rfl
@[simp] theorem eq83 : eqS Tryz.prog 83 = some [(0, 2), (1, 0)] := by kernel_rfl
@[simp] theorem zs83 : zstr Tryz.prog 83 = some [.str [], .int .i64 0] := by kernel_rfl
@[simp] theorem fl83_0 : fldT Tryz.prog 83 0 = some (0, 9) := by kernel_rfl
@[simp] theorem fl83_1 : fldT Tryz.prog 83 1 = some (1, 3) := by kernel_rfl
@[simp] theorem sz84 : szT Tryz.prog 84 = 2 := by kernel_rfl
@[simp] theorem byt84 : bytT Tryz.prog 84 = some 24 := by kernel_rfl
@[simp] theorem agg84 : aggT Tryz.prog 84 = some true := by kernel_rfl
@[simp] theorem zc84 : zeroC Tryz.prog 84 = some [.str [], .int .i64 0] := by kernel_rfl
@[simp] theorem nc84_0 : nilC Tryz.prog 84 0 = false := by kernel_rfl
@[simp] theorem nc84_1 : nilC Tryz.prog 84 1 = false := by kernel_rfl
@[simp] theorem eq84 : eqS Tryz.prog 84 = some [(0, 2), (1, 0)] := by kernel_rfl
@[simp] theorem zs84 : zstr Tryz.prog 84 = some [.str [], .int .i64 0] := by kernel_rfl
@[simp] theorem fl84_0 : fldT Tryz.prog 84 0 = some (0, 9) := by kernel_rfl
@[simp] theorem fl84_1 : fldT Tryz.prog 84 1 = some (1, 3) := by kernel_rfl
@[simp] theorem sz85 : szT Tryz.prog 85 = 1 := by kernel_rfl
@[simp] theorem byt85 : bytT Tryz.prog 85 = some 8 := by kernel_rfl
@[simp] theorem agg85 : aggT Tryz.prog 85 = some false := by kernel_rfl
@[simp] theorem zc85 : zeroC Tryz.prog 85 = some [.opq (.pointer none)] := by kernel_rfl
@[simp] theorem nc85_0 : nilC Tryz.prog 85 0 = false := by kernel_rfl
@[simp] theorem und85 : Tryz.prog.underlying 85 = some (.pointer 72) := by kernel_rfl
@[simp] theorem sz87 : szT Tryz.prog 87 = 1 := by kernel_rfl
@[simp] theorem byt87 : bytT Tryz.prog 87 = some 8 := by kernel_rfl
@[simp] theorem agg87 : aggT Tryz.prog 87 = some false := by kernel_rfl
@[simp] theorem zc87 : zeroC Tryz.prog 87 = some [.opq .nilFunc] := by kernel_rfl
@[simp] theorem nc87_0 : nilC Tryz.prog 87 0 = false := by kernel_rfl
@[simp] theorem isf87 : isFnT (Tryz.prog.underlying 87) = true := by kernel_rfl
@[simp] theorem sz88 : szT Tryz.prog 88 = 1 := by kernel_rfl
@[simp] theorem byt88 : bytT Tryz.prog 88 = some 8 := by kernel_rfl
@[simp] theorem agg88 : aggT Tryz.prog 88 = some false := by kernel_rfl
@[simp] theorem zc88 : zeroC Tryz.prog 88 = some [.opq .nilFunc] := by kernel_rfl
@[simp] theorem nc88_0 : nilC Tryz.prog 88 0 = false := by kernel_rfl
@[simp] theorem isf88 : isFnT (Tryz.prog.underlying 88) = true := by kernel_rfl
@[simp] theorem sz89 : szT Tryz.prog 89 = 1 := by kernel_rfl
@[simp] theorem byt89 : bytT Tryz.prog 89 = some 8 := by kernel_rfl
@[simp] theorem agg89 : aggT Tryz.prog 89 = some false := by kernel_rfl
@[simp] theorem zc89 : zeroC Tryz.prog 89 = some [.opq .nilFunc] := by kernel_rfl
@[simp] theorem nc89_0 : nilC Tryz.prog 89 0 = false := by kernel_rfl
@[simp] theorem isf89 : isFnT (Tryz.prog.underlying 89) = true := by kernel_rfl
@[simp] theorem sz90 : szT Tryz.prog 90 = 4 := by kernel_rfl
@[simp] theorem byt90 : bytT Tryz.prog 90 = some 64 := by kernel_rfl
@[simp] theorem agg90 : aggT Tryz.prog 90 = some true := by kernel_rfl
@[simp] theorem zc90 : zeroC Tryz.prog 90 = some [.int .i64 0, .str [], .str [], .slice []] := by kernel_rfl
@[simp] theorem nc90_0 : nilC Tryz.prog 90 0 = false := by kernel_rfl
@[simp] theorem nc90_1 : nilC Tryz.prog 90 1 = false := by kernel_rfl
@[simp] theorem nc90_2 : nilC Tryz.prog 90 2 = false := by kernel_rfl
@[simp] theorem nc90_3 : nilC Tryz.prog 90 3 = true := by kernel_rfl
@[simp] theorem zs90 : zstr Tryz.prog 90 = some [.int .i64 0, .str [], .str [], .slice []] := by kernel_rfl
@[simp] theorem fl90_0 : fldT Tryz.prog 90 0 = some (0, 3) := by kernel_rfl
@[simp] theorem fl90_1 : fldT Tryz.prog 90 1 = some (1, 9) := by kernel_rfl
@[simp] theorem fl90_2 : fldT Tryz.prog 90 2 = some (2, 9) := by kernel_rfl
@[simp] theorem fl90_3 : fldT Tryz.prog 90 3 = some (3, 70) := by kernel_rfl
@[simp] theorem sz91 : szT Tryz.prog 91 = 4 := by kernel_rfl
@[simp] theorem byt91 : bytT Tryz.prog 91 = some 64 := by kernel_rfl
@[simp] theorem agg91 : aggT Tryz.prog 91 = some true := by kernel_rfl
@[simp] theorem zc91 : zeroC Tryz.prog 91 = some [.int .i64 0, .str [], .str [], .slice []] := by kernel_rfl
@[simp] theorem nc91_0 : nilC Tryz.prog 91 0 = false := by kernel_rfl
@[simp] theorem nc91_1 : nilC Tryz.prog 91 1 = false := by kernel_rfl
@[simp] theorem nc91_2 : nilC Tryz.prog 91 2 = false := by kernel_rfl
@[simp] theorem nc91_3 : nilC Tryz.prog 91 3 = true := by kernel_rfl
@[simp] theorem zs91 : zstr Tryz.prog 91 = some [.int .i64 0, .str [], .str [], .slice []] := by kernel_rfl
@[simp] theorem fl91_0 : fldT Tryz.prog 91 0 = some (0, 3) := by kernel_rfl
@[simp] theorem fl91_1 : fldT Tryz.prog 91 1 = some (1, 9) := by kernel_rfl
@[simp] theorem fl91_2 : fldT Tryz.prog 91 2 = some (2, 9) := by kernel_rfl
@[simp] theorem fl91_3 : fldT Tryz.prog 91 3 = some (3, 70) := by kernel_rfl
@[simp] theorem sz93 : szT Tryz.prog 93 = 1 := by kernel_rfl
@[simp] theorem byt93 : bytT Tryz.prog 93 = some 8 := by kernel_rfl
@[simp] theorem agg93 : aggT Tryz.prog 93 = some false := by kernel_rfl
@[simp] theorem zc93 : zeroC Tryz.prog 93 = some [.opq .nilFunc] := by kernel_rfl
@[simp] theorem nc93_0 : nilC Tryz.prog 93 0 = false := by kernel_rfl
@[simp] theorem isf93 : isFnT (Tryz.prog.underlying 93) = true := by kernel_rfl
@[simp] theorem sz95 : szT Tryz.prog 95 = 1 := by kernel_rfl
@[simp] theorem byt95 : bytT Tryz.prog 95 = some 8 := by kernel_rfl
@[simp] theorem agg95 : aggT Tryz.prog 95 = some false := by kernel_rfl
@[simp] theorem zc95 : zeroC Tryz.prog 95 = some [.opq .nilFunc] := by kernel_rfl
@[simp] theorem nc95_0 : nilC Tryz.prog 95 0 = false := by kernel_rfl
@[simp] theorem isf95 : isFnT (Tryz.prog.underlying 95) = true := by kernel_rfl
@[simp] theorem sz96 : szT Tryz.prog 96 = 1 := by kernel_rfl
@[simp] theorem byt96 : bytT Tryz.prog 96 = some 8 := by kernel_rfl
@[simp] theorem agg96 : aggT Tryz.prog 96 = some false := by kernel_rfl
@[simp] theorem zc96 : zeroC Tryz.prog 96 = some [.opq .nilFunc] := by kernel_rfl
@[simp] theorem nc96_0 : nilC Tryz.prog 96 0 = false := by kernel_rfl
@[simp] theorem isf96 : isFnT (Tryz.prog.underlying 96) = true := by kernel_rfl
@[simp] theorem sz97 : szT Tryz.prog 97 = 1 := by kernel_rfl
@[simp] theorem byt97 : bytT Tryz.prog 97 = some 8 := by kernel_rfl
@[simp] theorem agg97 : aggT Tryz.prog 97 = some false := by kernel_rfl
@[simp] theorem zc97 : zeroC Tryz.prog 97 = some [.opq .nilFunc] := by kernel_rfl
@[simp] theorem nc97_0 : nilC Tryz.prog 97 0 = false := by kernel_rfl
@[simp] theorem isf97 : isFnT (Tryz.prog.underlying 97) = true := by kernel_rfl
@[simp] theorem sz99 : szT Tryz.prog 99 = 1 := by kernel_rfl
@[simp] theorem byt99 : bytT Tryz.prog 99 = some 8 := by kernel_rfl
@[simp] theorem agg99 : aggT Tryz.prog 99 = some false := by kernel_rfl
@[simp] theorem zc99 : zeroC Tryz.prog 99 = some [.opq .nilFunc] := by kernel_rfl
@[simp] theorem nc99_0 : nilC Tryz.prog 99 0 = false := by kernel_rfl
@[simp] theorem isf99 : isFnT (Tryz.prog.underlying 99) = true := by kernel_rfl
@[simp] theorem sz100 : szT Tryz.prog 100 = 4 := by kernel_rfl
@[simp] theorem byt100 : bytT Tryz.prog 100 = some 64 := by kernel_rfl
@[simp] theorem agg100 : aggT Tryz.prog 100 = some true := by kernel_rfl
@[simp] theorem zc100 : zeroC Tryz.prog 100 = some [.int .i64 0, .str [], .str [], .slice []] := by kernel_rfl
@[simp] theorem nc100_0 : nilC Tryz.prog 100 0 = false := by kernel_rfl
@[simp] theorem nc100_1 : nilC Tryz.prog 100 1 = false := by kernel_rfl
@[simp] theorem nc100_2 : nilC Tryz.prog 100 2 = false := by kernel_rfl
@[simp] theorem nc100_3 : nilC Tryz.prog 100 3 = true := by kernel_rfl
@[simp] theorem zs100 : zstr Tryz.prog 100 = some [.int .i64 0, .str [], .str [], .slice []] := by kernel_rfl
@[simp] theorem fl100_0 : fldT Tryz.prog 100 0 = some (0, 3) := by kernel_rfl
@[simp] theorem fl100_1 : fldT Tryz.prog 100 1 = some (1, 9) := by kernel_rfl
@[simp] theorem fl100_2 : fldT Tryz.prog 100 2 = some (2, 9) := by kernel_rfl
@[simp] theorem fl100_3 : fldT Tryz.prog 100 3 = some (3, 70) := by kernel_rfl
@[simp] theorem sz101 : szT Tryz.prog 101 = 1 := by kernel_rfl
@[simp] theorem byt101 : bytT Tryz.prog 101 = some 8 := by kernel_rfl
@[simp] theorem agg101 : aggT Tryz.prog 101 = some false := by kernel_rfl
@[simp] theorem zc101 : zeroC Tryz.prog 101 = some [.opq .nilFunc] := by kernel_rfl
@[simp] theorem nc101_0 : nilC Tryz.prog 101 0 = false := by kernel_rfl
@[simp] theorem isf101 : isFnT (Tryz.prog.underlying 101) = true := by kernel_rfl
@[simp] theorem sz102 : szT Tryz.prog 102 = 1 := by kernel_rfl
@[simp] theorem byt102 : bytT Tryz.prog 102 = some 8 := by kernel_rfl
@[simp] theorem agg102 : aggT Tryz.prog 102 = some false := by kernel_rfl
@[simp] theorem zc102 : zeroC Tryz.prog 102 = some [.opq .nilFunc] := by kernel_rfl
@[simp] theorem nc102_0 : nilC Tryz.prog 102 0 = false := by kernel_rfl
@[simp] theorem isf102 : isFnT (Tryz.prog.underlying 102) = true := by kernel_rfl
@[simp] theorem sz103 : szT Tryz.prog 103 = 2 := by kernel_rfl
@[simp] theorem byt103 : bytT Tryz.prog 103 = some 32 := by kernel_rfl
@[simp] theorem agg103 : aggT Tryz.prog 103 = some true := by kernel_rfl
@[simp] theorem zc103 : zeroC Tryz.prog 103 = some [.slice [], .int .i64 0] := by kernel_rfl
@[simp] theorem nc103_0 : nilC Tryz.prog 103 0 = true := by kernel_rfl
@[simp] theorem nc103_1 : nilC Tryz.prog 103 1 = false := by kernel_rfl
@[simp] theorem zs103 : zstr Tryz.prog 103 = some [.slice [], .int .i64 0] := by kernel_rfl
@[simp] theorem fl103_0 : fldT Tryz.prog 103 0 = some (0, 70) := by kernel_rfl
@[simp] theorem fl103_1 : fldT Tryz.prog 103 1 = some (1, 3) := by kernel_rfl
@[simp] theorem sz104 : szT Tryz.prog 104 = 2 := by kernel_rfl
@[simp] theorem byt104 : bytT Tryz.prog 104 = some 24 := by kernel_rfl
@[simp] theorem agg104 : aggT Tryz.prog 104 = some true := by kernel_rfl
@[simp] theorem zc104 : zeroC Tryz.prog 104 = some [.str [], .int .i64 0] := by kernel_rfl
@[simp] theorem nc104_0 : nilC Tryz.prog 104 0 = false := by kernel_rfl
@[simp] theorem nc104_1 : nilC Tryz.prog 104 1 = false := by kernel_rfl
@[simp] theorem eq104 : eqS Tryz.prog 104 = some [(0, 2), (1, 0)] := by kernel_rfl
@[simp] theorem zs104 : zstr Tryz.prog 104 = some [.str [], .int .i64 0] := by kernel_rfl
@[simp] theorem fl104_0 : fldT Tryz.prog 104 0 = some (0, 9) := by kernel_rfl
@[simp] theorem fl104_1 : fldT Tryz.prog 104 1 = some (1, 3) := by kernel_rfl
@[simp] theorem sz105 : szT Tryz.prog 105 = 1 := by kernel_rfl
@[simp] theorem byt105 : bytT Tryz.prog 105 = some 8 := by kernel_rfl
@[simp] theorem agg105 : aggT Tryz.prog 105 = some false := by kernel_rfl
@[simp] theorem zc105 : zeroC Tryz.prog 105 = some [.opq .nilFunc] := by kernel_rfl
@[simp] theorem nc105_0 : nilC Tryz.prog 105 0 = false := by kernel_rfl
@[simp] theorem isf105 : isFnT (Tryz.prog.underlying 105) = true := by kernel_rfl
@[simp] theorem sz107 : szT Tryz.prog 107 = 1 := by kernel_rfl
@[simp] theorem byt107 : bytT Tryz.prog 107 = some 8 := by kernel_rfl
@[simp] theorem agg107 : aggT Tryz.prog 107 = some false := by kernel_rfl
@[simp] theorem zc107 : zeroC Tryz.prog 107 = some [.opq .nilFunc] := by kernel_rfl
@[simp] theorem nc107_0 : nilC Tryz.prog 107 0 = false := by kernel_rfl
@[simp] theorem isf107 : isFnT (Tryz.prog.underlying 107) = true := by kernel_rfl
@[simp] theorem sz108 : szT Tryz.prog 108 = 1 := by kernel_rfl
@[simp] theorem byt108 : bytT Tryz.prog 108 = some 8 := by kernel_rfl
@[simp] theorem agg108 : aggT Tryz.prog 108 = some false := by kernel_rfl
@[simp] theorem zc108 : zeroC Tryz.prog 108 = some [.opq .nilFunc] := by kernel_rfl
@[simp] theorem nc108_0 : nilC Tryz.prog 108 0 = false := by kernel_rfl
@[simp] theorem isf108 : isFnT (Tryz.prog.underlying 108) = true := by kernel_rfl
@[simp] theorem sz109 : szT Tryz.prog 109 = 1 := by kernel_rfl
@[simp] theorem byt109 : bytT Tryz.prog 109 = some 8 := by kernel_rfl
@[simp] theorem agg109 : aggT Tryz.prog 109 = some false := by kernel_rfl
@[simp] theorem zc109 : zeroC Tryz.prog 109 = some [.opq .nilFunc] := by kernel_rfl
@[simp] theorem nc109_0 : nilC Tryz.prog 109 0 = false := by kernel_rfl
@[simp] theorem isf109 : isFnT (Tryz.prog.underlying 109) = true := by kernel_rfl
@[simp] theorem sz110 : szT Tryz.prog 110 = 1 := by kernel_rfl
@[simp] theorem byt110 : bytT Tryz.prog 110 = some 8 := by kernel_rfl
@[simp] theorem agg110 : aggT Tryz.prog 110 = some false := by kernel_rfl
@[simp] theorem zc110 : zeroC Tryz.prog 110 = some [.opq .nilFunc] := by kernel_rfl
@[simp] theorem nc110_0 : nilC Tryz.prog 110 0 = false := by kernel_rfl
@[simp] theorem isf110 : isFnT (Tryz.prog.underlying 110) = true := by kernel_rfl
@[simp] theorem sz112 : szT Tryz.prog 112 = 1 := by kernel_rfl
@[simp] theorem byt112 : bytT Tryz.prog 112 = some 8 := by kernel_rfl
@[simp] theorem agg112 : aggT Tryz.prog 112 = some false := by kernel_rfl
@[simp] theorem zc112 : zeroC Tryz.prog 112 = some [.opq .nilFunc] := by kernel_rfl
@[simp] theorem nc112_0 : nilC Tryz.prog 112 0 = false := by kernel_rfl
@[simp] theorem isf112 : isFnT (Tryz.prog.underlying 112) = true := by kernel_rfl
@[simp] theorem sz114 : szT Tryz.prog 114 = 1 := by kernel_rfl
@[simp] theorem byt114 : bytT Tryz.prog 114 = some 8 := by kernel_rfl
@[simp] theorem agg114 : aggT Tryz.prog 114 = some false := by kernel_rfl
@[simp] theorem zc114 : zeroC Tryz.prog 114 = some [.opq .nilFunc] := by kernel_rfl
@[simp] theorem nc114_0 : nilC Tryz.prog 114 0 = false := by kernel_rfl
@[simp] theorem isf114 : isFnT (Tryz.prog.underlying 114) = true := by kernel_rfl
@[simp] theorem sz115 : szT Tryz.prog 115 = 1 := by kernel_rfl
@[simp] theorem byt115 : bytT Tryz.prog 115 = some 8 := by kernel_rfl
@[simp] theorem agg115 : aggT Tryz.prog 115 = some false := by kernel_rfl
@[simp] theorem zc115 : zeroC Tryz.prog 115 = some [.opq .nilFunc] := by kernel_rfl
@[simp] theorem nc115_0 : nilC Tryz.prog 115 0 = false := by kernel_rfl
@[simp] theorem isf115 : isFnT (Tryz.prog.underlying 115) = true := by kernel_rfl
@[simp] theorem sz116 : szT Tryz.prog 116 = 1 := by kernel_rfl
@[simp] theorem byt116 : bytT Tryz.prog 116 = some 8 := by kernel_rfl
@[simp] theorem agg116 : aggT Tryz.prog 116 = some false := by kernel_rfl
@[simp] theorem zc116 : zeroC Tryz.prog 116 = some [.opq .nilFunc] := by kernel_rfl
@[simp] theorem nc116_0 : nilC Tryz.prog 116 0 = false := by kernel_rfl
@[simp] theorem isf116 : isFnT (Tryz.prog.underlying 116) = true := by kernel_rfl
@[simp] theorem sz117 : szT Tryz.prog 117 = 1 := by kernel_rfl
@[simp] theorem byt117 : bytT Tryz.prog 117 = some 8 := by kernel_rfl
@[simp] theorem agg117 : aggT Tryz.prog 117 = some false := by kernel_rfl
@[simp] theorem zc117 : zeroC Tryz.prog 117 = some [.opq (.pointer none)] := by kernel_rfl
@[simp] theorem nc117_0 : nilC Tryz.prog 117 0 = false := by kernel_rfl
@[simp] theorem und117 : Tryz.prog.underlying 117 = some (.pointer 119) := by kernel_rfl
@[simp] theorem sz118 : szT Tryz.prog 118 = 5 := by kernel_rfl
@[simp] theorem byt118 : bytT Tryz.prog 118 = some 120 := by kernel_rfl
@[simp] theorem agg118 : aggT Tryz.prog 118 = some true := by kernel_rfl
@[simp] theorem zc118 : zeroC Tryz.prog 118 = some [.slice [], .slice [], .slice [], .slice [], .slice []] := by kernel_rfl
@[simp] theorem nc118_0 : nilC Tryz.prog 118 0 = true := by kernel_rfl
@[simp] theorem nc118_1 : nilC Tryz.prog 118 1 = true := by kernel_rfl
@[simp] theorem nc118_2 : nilC Tryz.prog 118 2 = true := by kernel_rfl
@[simp] theorem nc118_3 : nilC Tryz.prog 118 3 = true := by kernel_rfl
@[simp] theorem nc118_4 : nilC Tryz.prog 118 4 = true := by kernel_rfl
@[simp] theorem zs118 : zstr Tryz.prog 118 = some [.slice [], .slice [], .slice [], .slice [], .slice []] := by kernel_rfl
@[simp] theorem fl118_0 : fldT Tryz.prog 118 0 = some (0, 26) := by kernel_rfl
@[simp] theorem fl118_1 : fldT Tryz.prog 118 1 = some (3, 23) := by kernel_rfl
@[simp] theorem fl118_2 : fldT Tryz.prog 118 2 = some (4, 81) := by kernel_rfl
@[simp] theorem sz119 : szT Tryz.prog 119 = 5 := by kernel_rfl
@[simp] theorem byt119 : bytT Tryz.prog 119 = some 120 := by kernel_rfl
@[simp] theorem agg119 : aggT Tryz.prog 119 = some true := by kernel_rfl
@[simp] theorem zc119 : zeroC Tryz.prog 119 = some [.slice [], .slice [], .slice [], .slice [], .slice []] := by kernel_rfl
@[simp] theorem nc119_0 : nilC Tryz.prog 119 0 = true := by kernel_rfl
@[simp] theorem nc119_1 : nilC Tryz.prog 119 1 = true := by kernel_rfl
@[simp] theorem nc119_2 : nilC Tryz.prog 119 2 = true := by kernel_rfl
@[simp] theorem nc119_3 : nilC Tryz.prog 119 3 = true := by kernel_rfl
@[simp] theorem nc119_4 : nilC Tryz.prog 119 4 = true := by kernel_rfl
@[simp] theorem zs119 : zstr Tryz.prog 119 = some [.slice [], .slice [], .slice [], .slice [], .slice []] := by kernel_rfl
@[simp] theorem fl119_0 : fldT Tryz.prog 119 0 = some (0, 26) := by kernel_rfl
@[simp] theorem fl119_1 : fldT Tryz.prog 119 1 = some (3, 23) := by kernel_rfl
@[simp] theorem fl119_2 : fldT Tryz.prog 119 2 = some (4, 81) := by kernel_rfl
@[simp] theorem sz120 : szT Tryz.prog 120 = 1 := by kernel_rfl
@[simp] theorem byt120 : bytT Tryz.prog 120 = some 8 := by kernel_rfl
@[simp] theorem agg120 : aggT Tryz.prog 120 = some false := by kernel_rfl
@[simp] theorem zc120 : zeroC Tryz.prog 120 = some [.opq .nilFunc] := by kernel_rfl
@[simp] theorem nc120_0 : nilC Tryz.prog 120 0 = false := by kernel_rfl
@[simp] theorem isf120 : isFnT (Tryz.prog.underlying 120) = true := by kernel_rfl
@[simp] theorem sz121 : szT Tryz.prog 121 = 1 := by kernel_rfl
@[simp] theorem byt121 : bytT Tryz.prog 121 = some 8 := by kernel_rfl
@[simp] theorem agg121 : aggT Tryz.prog 121 = some false := by kernel_rfl
@[simp] theorem zc121 : zeroC Tryz.prog 121 = some [.opq .nilFunc] := by kernel_rfl
@[simp] theorem nc121_0 : nilC Tryz.prog 121 0 = false := by kernel_rfl
@[simp] theorem isf121 : isFnT (Tryz.prog.underlying 121) = true := by kernel_rfl
@[simp] theorem sz122 : szT Tryz.prog 122 = 1 := by kernel_rfl
@[simp] theorem byt122 : bytT Tryz.prog 122 = some 8 := by kernel_rfl
@[simp] theorem agg122 : aggT Tryz.prog 122 = some false := by kernel_rfl
@[simp] theorem zc122 : zeroC Tryz.prog 122 = some [.opq .nilFunc] := by kernel_rfl
@[simp] theorem nc122_0 : nilC Tryz.prog 122 0 = false := by kernel_rfl
@[simp] theorem isf122 : isFnT (Tryz.prog.underlying 122) = true := by kernel_rfl
@[simp] theorem sz123 : szT Tryz.prog 123 = 1 := by kernel_rfl
@[simp] theorem byt123 : bytT Tryz.prog 123 = some 4 := by kernel_rfl
@[simp] theorem agg123 : aggT Tryz.prog 123 = some false := by kernel_rfl
@[simp] theorem zc123 : zeroC Tryz.prog 123 = some [.int .u32 0] := by kernel_rfl
@[simp] theorem nc123_0 : nilC Tryz.prog 123 0 = false := by kernel_rfl
@[simp] theorem und123 : Tryz.prog.underlying 123 = some (.int .u32) := by kernel_rfl
@[simp] theorem sz124 : szT Tryz.prog 124 = 1 := by kernel_rfl
@[simp] theorem byt124 : bytT Tryz.prog 124 = some 8 := by kernel_rfl
@[simp] theorem agg124 : aggT Tryz.prog 124 = some false := by kernel_rfl
@[simp] theorem zc124 : zeroC Tryz.prog 124 = some [.opq .nilFunc] := by kernel_rfl
@[simp] theorem nc124_0 : nilC Tryz.prog 124 0 = false := by kernel_rfl
@[simp] theorem isf124 : isFnT (Tryz.prog.underlying 124) = true := by kernel_rfl
@[simp] theorem sz125 : szT Tryz.prog 125 = 1 := by kernel_rfl
@[simp] theorem byt125 : bytT Tryz.prog 125 = some 8 := by kernel_rfl
@[simp] theorem agg125 : aggT Tryz.prog 125 = some false := by kernel_rfl
@[simp] theorem zc125 : zeroC Tryz.prog 125 = some [.opq .nilFunc] := by kernel_rfl
@[simp] theorem nc125_0 : nilC Tryz.prog 125 0 = false := by kernel_rfl
@[simp] theorem isf125 : isFnT (Tryz.prog.underlying 125) = true := by kernel_rfl
@[simp] theorem sz127 : szT Tryz.prog 127 = 1 := by kernel_rfl
@[simp] theorem byt127 : bytT Tryz.prog 127 = some 8 := by kernel_rfl
@[simp] theorem agg127 : aggT Tryz.prog 127 = some false := by kernel_rfl
@[simp] theorem zc127 : zeroC Tryz.prog 127 = some [.opq .nilFunc] := by kernel_rfl
@[simp] theorem nc127_0 : nilC Tryz.prog 127 0 = false := by kernel_rfl
@[simp] theorem isf127 : isFnT (Tryz.prog.underlying 127) = true := by kernel_rfl
@[simp] theorem sz129 : szT Tryz.prog 129 = 1 := by kernel_rfl
@[simp] theorem byt129 : bytT Tryz.prog 129 = some 8 := by kernel_rfl
@[simp] theorem agg129 : aggT Tryz.prog 129 = some false := by kernel_rfl
@[simp] theorem zc129 : zeroC Tryz.prog 129 = some [.opq .nilFunc] := by kernel_rfl
@[simp] theorem nc129_0 : nilC Tryz.prog 129 0 = false := by kernel_rfl
@[simp] theorem isf129 : isFnT (Tryz.prog.underlying 129) = true := by kernel_rfl
@[simp] theorem sz130 : szT Tryz.prog 130 = 1 := by kernel_rfl
@[simp] theorem byt130 : bytT Tryz.prog 130 = some 8 := by kernel_rfl
@[simp] theorem agg130 : aggT Tryz.prog 130 = some false := by kernel_rfl
@[simp] theorem zc130 : zeroC Tryz.prog 130 = some [.opq .nilFunc] := by kernel_rfl
@[simp] theorem nc130_0 : nilC Tryz.prog 130 0 = false := by kernel_rfl
@[simp] theorem isf130 : isFnT (Tryz.prog.underlying 130) = true := by kernel_rfl
@[simp] theorem sz131 : szT Tryz.prog 131 = 1 := by kernel_rfl
@[simp] theorem byt131 : bytT Tryz.prog 131 = some 8 := by kernel_rfl
@[simp] theorem agg131 : aggT Tryz.prog 131 = some false := by kernel_rfl
@[simp] theorem zc131 : zeroC Tryz.prog 131 = some [.opq .nilFunc] := by kernel_rfl
@[simp] theorem nc131_0 : nilC Tryz.prog 131 0 = false := by kernel_rfl
@[simp] theorem isf131 : isFnT (Tryz.prog.underlying 131) = true := by kernel_rfl
@[simp] theorem sz132 : szT Tryz.prog 132 = 1 := by kernel_rfl
@[simp] theorem byt132 : bytT Tryz.prog 132 = some 8 := by kernel_rfl
@[simp] theorem agg132 : aggT Tryz.prog 132 = some false := by kernel_rfl
@[simp] theorem zc132 : zeroC Tryz.prog 132 = some [.opq .nilFunc] := by kernel_rfl
@[simp] theorem nc132_0 : nilC Tryz.prog 132 0 = false := by kernel_rfl
@[simp] theorem isf132 : isFnT (Tryz.prog.underlying 132) = true := by kernel_rfl
@[simp] theorem sz133 : szT Tryz.prog 133 = 1 := by kernel_rfl
@[simp] theorem byt133 : bytT Tryz.prog 133 = some 8 := by kernel_rfl
@[simp] theorem agg133 : aggT Tryz.prog 133 = some false := by kernel_rfl
@[simp] theorem zc133 : zeroC Tryz.prog 133 = some [.opq .nilFunc] := by kernel_rfl
@[simp] theorem nc133_0 : nilC Tryz.prog 133 0 = false := by kernel_rfl
@[simp] theorem isf133 : isFnT (Tryz.prog.underlying 133) = true := by kernel_rfl
@[simp] theorem sz134 : szT Tryz.prog 134 = 1 := by kernel_rfl
@[simp] theorem byt134 : bytT Tryz.prog 134 = some 8 := by kernel_rfl
@[simp] theorem agg134 : aggT Tryz.prog 134 = some false := by kernel_rfl
@[simp] theorem zc134 : zeroC Tryz.prog 134 = some [.opq .nilFunc] := by kernel_rfl
@[simp] theorem nc134_0 : nilC Tryz.prog 134 0 = false := by kernel_rfl
@[simp] theorem isf134 : isFnT (Tryz.prog.underlying 134) = true := by kernel_rfl
@[simp] theorem sz135 : szT Tryz.prog 135 = 1 := by kernel_rfl
@[simp] theorem byt135 : bytT Tryz.prog 135 = some 8 := by kernel_rfl
@[simp] theorem agg135 : aggT Tryz.prog 135 = some false := by kernel_rfl
@[simp] theorem zc135 : zeroC Tryz.prog 135 = some [.opq .nilFunc] := by kernel_rfl
@[simp] theorem nc135_0 : nilC Tryz.prog 135 0 = false := by kernel_rfl
@[simp] theorem isf135 : isFnT (Tryz.prog.underlying 135) = true := by kernel_rfl
@[simp] theorem sz136 : szT Tryz.prog 136 = 1 := by kernel_rfl
@[simp] theorem byt136 : bytT Tryz.prog 136 = some 8 := by kernel_rfl
@[simp] theorem agg136 : aggT Tryz.prog 136 = some false := by kernel_rfl
@[simp] theorem zc136 : zeroC Tryz.prog 136 = some [.opq .nilFunc] := by kernel_rfl
@[simp] theorem nc136_0 : nilC Tryz.prog 136 0 = false := by kernel_rfl
@[simp] theorem isf136 : isFnT (Tryz.prog.underlying 136) = true := by kernel_rfl
@[simp] theorem sz137 : szT Tryz.prog 137 = 1 := by kernel_rfl
@[simp] theorem byt137 : bytT Tryz.prog 137 = some 8 := by kernel_rfl
@[simp] theorem agg137 : aggT Tryz.prog 137 = some false := by kernel_rfl
@[simp] theorem zc137 : zeroC Tryz.prog 137 = some [.opq .nilFunc] := by kernel_rfl
@[simp] theorem nc137_0 : nilC Tryz.prog 137 0 = false := by kernel_rfl
@[simp] theorem isf137 : isFnT (Tryz.prog.underlying 137) = true := by kernel_rfl
@[simp] theorem sz138 : szT Tryz.prog 138 = 1 := by kernel_rfl
@[simp] theorem byt138 : bytT Tryz.prog 138 = some 8 := by kernel_rfl
@[simp] theorem agg138 : aggT Tryz.prog 138 = some false := by kernel_rfl
@[simp] theorem zc138 : zeroC Tryz.prog 138 = some [.opq .nilFunc] := by kernel_rfl
@[simp] theorem nc138_0 : nilC Tryz.prog 138 0 = false := by kernel_rfl
@[simp] theorem isf138 : isFnT (Tryz.prog.underlying 138) = true := by kernel_rfl
@[simp] theorem sz139 : szT Tryz.prog 139 = 1 := by kernel_rfl
@[simp] theorem byt139 : bytT Tryz.prog 139 = some 8 := by kernel_rfl
@[simp] theorem agg139 : aggT Tryz.prog 139 = some false := by kernel_rfl
@[simp] theorem zc139 : zeroC Tryz.prog 139 = some [.opq .nilFunc] := by kernel_rfl
@[simp] theorem nc139_0 : nilC Tryz.prog 139 0 = false := by kernel_rfl
@[simp] theorem isf139 : isFnT (Tryz.prog.underlying 139) = true := by kernel_rfl
@[simp] theorem sz140 : szT Tryz.prog 140 = 1 := by kernel_rfl
@[simp] theorem byt140 : bytT Tryz.prog 140 = some 8 := by kernel_rfl
@[simp] theorem agg140 : aggT Tryz.prog 140 = some false := by kernel_rfl
@[simp] theorem zc140 : zeroC Tryz.prog 140 = some [.opq .nilFunc] := by kernel_rfl
@[simp] theorem nc140_0 : nilC Tryz.prog 140 0 = false := by kernel_rfl
@[simp] theorem isf140 : isFnT (Tryz.prog.underlying 140) = true := by kernel_rfl
@[simp] theorem sz141 : szT Tryz.prog 141 = 1 := by kernel_rfl
@[simp] theorem byt141 : bytT Tryz.prog 141 = some 8 := by kernel_rfl
@[simp] theorem agg141 : aggT Tryz.prog 141 = some false := by kernel_rfl
@[simp] theorem zc141 : zeroC Tryz.prog 141 = some [.opq .nilFunc] := by kernel_rfl
@[simp] theorem nc141_0 : nilC Tryz.prog 141 0 = false := by kernel_rfl
@[simp] theorem isf141 : isFnT (Tryz.prog.underlying 141) = true := by kernel_rfl
@[simp] theorem sz143 : szT Tryz.prog 143 = 1 := by kernel_rfl
@[simp] theorem byt143 : bytT Tryz.prog 143 = some 8 := by kernel_rfl
@[simp] theorem agg143 : aggT Tryz.prog 143 = some false := by kernel_rfl
@[simp] theorem zc143 : zeroC Tryz.prog 143 = some [.opq .nilFunc] := by kernel_rfl
@[simp] theorem nc143_0 : nilC Tryz.prog 143 0 = false := by kernel_rfl
@[simp] theorem isf143 : isFnT (Tryz.prog.underlying 143) = true := by kernel_rfl
@[simp] theorem sz144 : szT Tryz.prog 144 = 1 := by kernel_rfl
@[simp] theorem byt144 : bytT Tryz.prog 144 = some 8 := by kernel_rfl
@[simp] theorem agg144 : aggT Tryz.prog 144 = some false := by kernel_rfl
@[simp] theorem zc144 : zeroC Tryz.prog 144 = some [.opq .nilFunc] := by kernel_rfl
@[simp] theorem nc144_0 : nilC Tryz.prog 144 0 = false := by kernel_rfl
@[simp] theorem isf144 : isFnT (Tryz.prog.underlying 144) = true := by kernel_rfl
@[simp] theorem sz145 : szT Tryz.prog 145 = 1 := by kernel_rfl
@[simp] theorem byt145 : bytT Tryz.prog 145 = some 8 := by kernel_rfl
@[simp] theorem agg145 : aggT Tryz.prog 145 = some false := by kernel_rfl
@[simp] theorem zc145 : zeroC Tryz.prog 145 = some [.opq .nilFunc] := by kernel_rfl
@[simp] theorem nc145_0 : nilC Tryz.prog 145 0 = false := by kernel_rfl
@[simp] theorem isf145 : isFnT (Tryz.prog.underlying 145) = true := by kernel_rfl
@[simp] theorem sz146 : szT Tryz.prog 146 = 1 := by kernel_rfl
@[simp] theorem byt146 : bytT Tryz.prog 146 = some 24 := by kernel_rfl
@[simp] theorem agg146 : aggT Tryz.prog 146 = some false := by kernel_rfl
@[simp] theorem zc146 : zeroC Tryz.prog 146 = some [.slice []] := by kernel_rfl
@[simp] theorem nc146_0 : nilC Tryz.prog 146 0 = true := by kernel_rfl
@[simp] theorem el146 : elT Tryz.prog 146 = some 24 := by kernel_rfl
@[simp] theorem und146 : Tryz.prog.underlying 146 = some (.slice 24) := by kernel_rfl
@[simp] theorem bz146 : bslZ Tryz.prog 146 = true := by kernel_rfl
@[simp] theorem es146 : eSz Tryz.prog 146 = 1 := by kernel_rfl
@[simp] theorem e1146 : el1 Tryz.prog 146 = some (1, false) := by kernel_rfl
@[simp] theorem ae146 : agE Tryz.prog 146 = some false := by kernel_rfl
@[simp] theorem ap146 : apT Tryz.prog 146 = some (1, 24, .slice [], true) := by kernel_rfl
@[simp] theorem sz147 : szT Tryz.prog 147 = 1 := by kernel_rfl
@[simp] theorem byt147 : bytT Tryz.prog 147 = some 8 := by kernel_rfl
@[simp] theorem agg147 : aggT Tryz.prog 147 = some false := by kernel_rfl
@[simp] theorem zc147 : zeroC Tryz.prog 147 = some [.int .u64 0] := by kernel_rfl
@[simp] theorem nc147_0 : nilC Tryz.prog 147 0 = false := by kernel_rfl
@[simp] theorem und147 : Tryz.prog.underlying 147 = some (.int .u64) := by kernel_rfl
@[simp] theorem sz148 : szT Tryz.prog 148 = 1 := by kernel_rfl
@[simp] theorem byt148 : bytT Tryz.prog 148 = some 8 := by kernel_rfl
@[simp] theorem agg148 : aggT Tryz.prog 148 = some false := by kernel_rfl
@[simp] theorem zc148 : zeroC Tryz.prog 148 = some [.opq (.pointer none)] := by kernel_rfl
@[simp] theorem nc148_0 : nilC Tryz.prog 148 0 = false := by kernel_rfl
@[simp] theorem und148 : Tryz.prog.underlying 148 = some (.pointer 26) := by kernel_rfl
@[simp] theorem sz149 : szT Tryz.prog 149 = 1 := by kernel_rfl
@[simp] theorem byt149 : bytT Tryz.prog 149 = some 8 := by kernel_rfl
@[simp] theorem agg149 : aggT Tryz.prog 149 = some false := by kernel_rfl
@[simp] theorem zc149 : zeroC Tryz.prog 149 = some [.opq .nilFunc] := by kernel_rfl
@[simp] theorem nc149_0 : nilC Tryz.prog 149 0 = false := by kernel_rfl
@[simp] theorem isf149 : isFnT (Tryz.prog.underlying 149) = true := by kernel_rfl
@[simp] theorem sz150 : szT Tryz.prog 150 = 1 := by kernel_rfl
@[simp] theorem byt150 : bytT Tryz.prog 150 = some 8 := by kernel_rfl
@[simp] theorem agg150 : aggT Tryz.prog 150 = some false := by kernel_rfl
@[simp] theorem zc150 : zeroC Tryz.prog 150 = some [.opq (.map none)] := by kernel_rfl
@[simp] theorem nc150_0 : nilC Tryz.prog 150 0 = false := by kernel_rfl
@[simp] theorem mp150 : mpT Tryz.prog 150 = some (.int .i64, 149) := by kernel_rfl
@[simp] theorem mz150 : (zeroT Tryz.prog 149).map ofConst = some (.d (.opq .nilFunc)) := by kernel_rfl
@[simp] theorem sz151 : szT Tryz.prog 151 = 1 := by kernel_rfl
@[simp] theorem byt151 : bytT Tryz.prog 151 = some 8 := by kernel_rfl
@[simp] theorem agg151 : aggT Tryz.prog 151 = some false := by kernel_rfl
@[simp] theorem zc151 : zeroC Tryz.prog 151 = some [.opq .nilFunc] := by kernel_rfl
@[simp] theorem nc151_0 : nilC Tryz.prog 151 0 = false := by kernel_rfl
@[simp] theorem isf151 : isFnT (Tryz.prog.underlying 151) = true := by kernel_rfl
@[simp] theorem sz152 : szT Tryz.prog 152 = 1 := by kernel_rfl
@[simp] theorem byt152 : bytT Tryz.prog 152 = some 8 := by kernel_rfl
@[simp] theorem agg152 : aggT Tryz.prog 152 = some false := by kernel_rfl
@[simp] theorem zc152 : zeroC Tryz.prog 152 = some [.opq .nilFunc] := by kernel_rfl
@[simp] theorem nc152_0 : nilC Tryz.prog 152 0 = false := by kernel_rfl
@[simp] theorem isf152 : isFnT (Tryz.prog.underlying 152) = true := by kernel_rfl
@[simp] theorem sz153 : szT Tryz.prog 153 = 1 := by kernel_rfl
@[simp] theorem byt153 : bytT Tryz.prog 153 = some 8 := by kernel_rfl
@[simp] theorem agg153 : aggT Tryz.prog 153 = some false := by kernel_rfl
@[simp] theorem zc153 : zeroC Tryz.prog 153 = some [.opq .nilFunc] := by kernel_rfl
@[simp] theorem nc153_0 : nilC Tryz.prog 153 0 = false := by kernel_rfl
@[simp] theorem isf153 : isFnT (Tryz.prog.underlying 153) = true := by kernel_rfl
@[simp] theorem sz154 : szT Tryz.prog 154 = 1 := by kernel_rfl
@[simp] theorem byt154 : bytT Tryz.prog 154 = some 8 := by kernel_rfl
@[simp] theorem agg154 : aggT Tryz.prog 154 = some false := by kernel_rfl
@[simp] theorem zc154 : zeroC Tryz.prog 154 = some [.opq .nilFunc] := by kernel_rfl
@[simp] theorem nc154_0 : nilC Tryz.prog 154 0 = false := by kernel_rfl
@[simp] theorem isf154 : isFnT (Tryz.prog.underlying 154) = true := by kernel_rfl
@[simp] theorem sz155 : szT Tryz.prog 155 = 1 := by kernel_rfl
@[simp] theorem byt155 : bytT Tryz.prog 155 = some 8 := by kernel_rfl
@[simp] theorem agg155 : aggT Tryz.prog 155 = some false := by kernel_rfl
@[simp] theorem zc155 : zeroC Tryz.prog 155 = some [.opq .nilFunc] := by kernel_rfl
@[simp] theorem nc155_0 : nilC Tryz.prog 155 0 = false := by kernel_rfl
@[simp] theorem isf155 : isFnT (Tryz.prog.underlying 155) = true := by kernel_rfl
@[simp] theorem sz156 : szT Tryz.prog 156 = 1 := by kernel_rfl
@[simp] theorem byt156 : bytT Tryz.prog 156 = some 8 := by kernel_rfl
@[simp] theorem agg156 : aggT Tryz.prog 156 = some false := by kernel_rfl
@[simp] theorem zc156 : zeroC Tryz.prog 156 = some [.opq .nilFunc] := by kernel_rfl
@[simp] theorem nc156_0 : nilC Tryz.prog 156 0 = false := by kernel_rfl
@[simp] theorem isf156 : isFnT (Tryz.prog.underlying 156) = true := by kernel_rfl
@[simp] theorem sz157 : szT Tryz.prog 157 = 1 := by kernel_rfl
@[simp] theorem byt157 : bytT Tryz.prog 157 = some 8 := by kernel_rfl
@[simp] theorem agg157 : aggT Tryz.prog 157 = some false := by kernel_rfl
@[simp] theorem zc157 : zeroC Tryz.prog 157 = some [.opq .nilFunc] := by kernel_rfl
@[simp] theorem nc157_0 : nilC Tryz.prog 157 0 = false := by kernel_rfl
@[simp] theorem isf157 : isFnT (Tryz.prog.underlying 157) = true := by kernel_rfl
@[simp] theorem sz158 : szT Tryz.prog 158 = 1 := by kernel_rfl
@[simp] theorem byt158 : bytT Tryz.prog 158 = some 24 := by kernel_rfl
@[simp] theorem agg158 : aggT Tryz.prog 158 = some false := by kernel_rfl
@[simp] theorem zc158 : zeroC Tryz.prog 158 = some [.slice []] := by kernel_rfl
@[simp] theorem nc158_0 : nilC Tryz.prog 158 0 = true := by kernel_rfl
@[simp] theorem el158 : elT Tryz.prog 158 = some 4 := by kernel_rfl
@[simp] theorem und158 : Tryz.prog.underlying 158 = some (.slice 4) := by kernel_rfl
@[simp] theorem bz158 : bslZ Tryz.prog 158 = true := by kernel_rfl
@[simp] theorem es158 : eSz Tryz.prog 158 = 1 := by kernel_rfl
@[simp] theorem e1158 : el1 Tryz.prog 158 = some (1, false) := by kernel_rfl
@[simp] theorem ae158 : agE Tryz.prog 158 = some false := by kernel_rfl
@[simp] theorem ap158 : apT Tryz.prog 158 = some (1, 1, .bool false, true) := by kernel_rfl
@[simp] theorem sz159 : szT Tryz.prog 159 = 1 := by kernel_rfl
@[simp] theorem byt159 : bytT Tryz.prog 159 = some 8 := by kernel_rfl
@[simp] theorem agg159 : aggT Tryz.prog 159 = some false := by kernel_rfl
@[simp] theorem zc159 : zeroC Tryz.prog 159 = some [.opq .nilFunc] := by kernel_rfl
@[simp] theorem nc159_0 : nilC Tryz.prog 159 0 = false := by kernel_rfl
@[simp] theorem isf159 : isFnT (Tryz.prog.underlying 159) = true := by kernel_rfl
@[simp] theorem sz160 : szT Tryz.prog 160 = 1 := by kernel_rfl
@[simp] theorem byt160 : bytT Tryz.prog 160 = some 8 := by kernel_rfl
@[simp] theorem agg160 : aggT Tryz.prog 160 = some false := by kernel_rfl
@[simp] theorem zc160 : zeroC Tryz.prog 160 = some [.opq .nilFunc] := by kernel_rfl
@[simp] theorem nc160_0 : nilC Tryz.prog 160 0 = false := by kernel_rfl
@[simp] theorem isf160 : isFnT (Tryz.prog.underlying 160) = true := by kernel_rfl
@[simp] theorem sz161 : szT Tryz.prog 161 = 1 := by kernel_rfl
@[simp] theorem byt161 : bytT Tryz.prog 161 = some 8 := by kernel_rfl
@[simp] theorem agg161 : aggT Tryz.prog 161 = some false := by kernel_rfl
@[simp] theorem zc161 : zeroC Tryz.prog 161 = some [.opq .nilFunc] := by kernel_rfl
@[simp] theorem nc161_0 : nilC Tryz.prog 161 0 = false := by kernel_rfl
@[simp] theorem isf161 : isFnT (Tryz.prog.underlying 161) = true := by kernel_rfl
@[simp] theorem sz162 : szT Tryz.prog 162 = 1 := by kernel_rfl
@[simp] theorem byt162 : bytT Tryz.prog 162 = some 8 := by kernel_rfl
@[simp] theorem agg162 : aggT Tryz.prog 162 = some false := by kernel_rfl
@[simp] theorem zc162 : zeroC Tryz.prog 162 = some [.opq .nilFunc] := by kernel_rfl
@[simp] theorem nc162_0 : nilC Tryz.prog 162 0 = false := by kernel_rfl
@[simp] theorem isf162 : isFnT (Tryz.prog.underlying 162) = true := by kernel_rfl
@[simp] theorem sz163 : szT Tryz.prog 163 = 1 := by kernel_rfl
@[simp] theorem byt163 : bytT Tryz.prog 163 = some 8 := by kernel_rfl
@[simp] theorem agg163 : aggT Tryz.prog 163 = some false := by kernel_rfl
@[simp] theorem zc163 : zeroC Tryz.prog 163 = some [.opq .nilFunc] := by kernel_rfl
@[simp] theorem nc163_0 : nilC Tryz.prog 163 0 = false := by kernel_rfl
@[simp] theorem isf163 : isFnT (Tryz.prog.underlying 163) = true := by kernel_rfl
@[simp] theorem sz164 : szT Tryz.prog 164 = 1 := by kernel_rfl
@[simp] theorem byt164 : bytT Tryz.prog 164 = some 8 := by kernel_rfl
@[simp] theorem agg164 : aggT Tryz.prog 164 = some false := by kernel_rfl
@[simp] theorem zc164 : zeroC Tryz.prog 164 = some [.opq .nilFunc] := by kernel_rfl
@[simp] theorem nc164_0 : nilC Tryz.prog 164 0 = false := by kernel_rfl
@[simp] theorem isf164 : isFnT (Tryz.prog.underlying 164) = true := by kernel_rfl
@[simp] theorem sz165 : szT Tryz.prog 165 = 1 := by kernel_rfl
@[simp] theorem byt165 : bytT Tryz.prog 165 = some 8 := by kernel_rfl
@[simp] theorem agg165 : aggT Tryz.prog 165 = some false := by kernel_rfl
@[simp] theorem zc165 : zeroC Tryz.prog 165 = some [.opq .nilFunc] := by kernel_rfl
@[simp] theorem nc165_0 : nilC Tryz.prog 165 0 = false := by kernel_rfl
@[simp] theorem isf165 : isFnT (Tryz.prog.underlying 165) = true := by kernel_rfl
@[simp] theorem sz171 : szT Tryz.prog 171 = 1 := by kernel_rfl
@[simp] theorem byt171 : bytT Tryz.prog 171 = some 8 := by kernel_rfl
@[simp] theorem agg171 : aggT Tryz.prog 171 = some false := by kernel_rfl
@[simp] theorem zc171 : zeroC Tryz.prog 171 = some [.opq .nilFunc] := by kernel_rfl
@[simp] theorem nc171_0 : nilC Tryz.prog 171 0 = false := by kernel_rfl
@[simp] theorem isf171 : isFnT (Tryz.prog.underlying 171) = true := by kernel_rfl
@[simp] theorem sz174 : szT Tryz.prog 174 = 1 := by kernel_rfl
@[simp] theorem byt174 : bytT Tryz.prog 174 = some 8 := by kernel_rfl
@[simp] theorem agg174 : aggT Tryz.prog 174 = some false := by kernel_rfl
@[simp] theorem zc174 : zeroC Tryz.prog 174 = some [.opq .nilFunc] := by kernel_rfl
@[simp] theorem nc174_0 : nilC Tryz.prog 174 0 = false := by kernel_rfl
@[simp] theorem isf174 : isFnT (Tryz.prog.underlying 174) = true := by kernel_rfl
@[simp] theorem sz175 : szT Tryz.prog 175 = 1 := by kernel_rfl
@[simp] theorem byt175 : bytT Tryz.prog 175 = some 8 := by kernel_rfl
@[simp] theorem agg175 : aggT Tryz.prog 175 = some false := by kernel_rfl
@[simp] theorem zc175 : zeroC Tryz.prog 175 = some [.opq (.pointer none)] := by kernel_rfl
@[simp] theorem nc175_0 : nilC Tryz.prog 175 0 = false := by kernel_rfl
@[simp] theorem und175 : Tryz.prog.underlying 175 = some (.pointer 5) := by kernel_rfl
@[simp] theorem sz178 : szT Tryz.prog 178 = 11 := by kernel_rfl
@[simp] theorem byt178 : bytT Tryz.prog 178 = some 48 := by kernel_rfl
@[simp] theorem agg178 : aggT Tryz.prog 178 = some true := by kernel_rfl
@[simp] theorem zc178 : zeroC Tryz.prog 178 = some [.int .u64 0, .int .u64 0, .int .u32 0, .int .u8 0, .int .u8 0, .int .u8 0, .int .u8 0, .opq .nilFunc, .opq (.pointer none), .int .i32 0, .int .i32 0] := by kernel_rfl
@[simp] theorem nc178_0 : nilC Tryz.prog 178 0 = false := by kernel_rfl
@[simp] theorem nc178_1 : nilC Tryz.prog 178 1 = false := by kernel_rfl
@[simp] theorem nc178_2 : nilC Tryz.prog 178 2 = false := by kernel_rfl
@[simp] theorem nc178_3 : nilC Tryz.prog 178 3 = false := by kernel_rfl
@[simp] theorem nc178_4 : nilC Tryz.prog 178 4 = false := by kernel_rfl
@[simp] theorem nc178_5 : nilC Tryz.prog 178 5 = false := by kernel_rfl
@[simp] theorem nc178_6 : nilC Tryz.prog 178 6 = false := by kernel_rfl
@[simp] theorem nc178_7 : nilC Tryz.prog 178 7 = false := by kernel_rfl
@[simp] theorem nc178_8 : nilC Tryz.prog 178 8 = false := by kernel_rfl
@[simp] theorem nc178_9 : nilC Tryz.prog 178 9 = false := by kernel_rfl
@[simp] theorem nc178_10 : nilC Tryz.prog 178 10 = false := by kernel_rfl
@[simp] theorem zs178 : zstr Tryz.prog 178 = some [.int .u64 0, .int .u64 0, .int .u32 0, .int .u8 0, .int .u8 0, .int .u8 0, .int .u8 0, .opq .nilFunc, .opq (.pointer none), .int .i32 0, .int .i32 0] := by kernel_rfl
@[simp] theorem fl178_0 : fldT Tryz.prog 178 0 = some (0, 12) := by kernel_rfl
@[simp] theorem fl178_1 : fldT Tryz.prog 178 1 = some (1, 12) := by kernel_rfl
@[simp] theorem fl178_2 : fldT Tryz.prog 178 2 = some (2, 123) := by kernel_rfl
@[simp] theorem fl178_3 : fldT Tryz.prog 178 3 = some (3, 172) := by kernel_rfl
@[simp] theorem fl178_4 : fldT Tryz.prog 178 4 = some (4, 5) := by kernel_rfl
@[simp] theorem fl178_5 : fldT Tryz.prog 178 5 = some (5, 5) := by kernel_rfl
@[simp] theorem fl178_6 : fldT Tryz.prog 178 6 = some (6, 173) := by kernel_rfl
@[simp] theorem fl178_7 : fldT Tryz.prog 178 7 = some (7, 174) := by kernel_rfl
@[simp] theorem fl178_8 : fldT Tryz.prog 178 8 = some (8, 175) := by kernel_rfl
@[simp] theorem fl178_9 : fldT Tryz.prog 178 9 = some (9, 176) := by kernel_rfl
@[simp] theorem fl178_10 : fldT Tryz.prog 178 10 = some (10, 177) := by kernel_rfl
end Go.Proofs.YtkbidfohcanijaaGreat
