/- The facts on this seat's types that the engine asks for, each by reckoning. PRINTED by types.py. -/
import Derived.Test.YtbgjjplnnjflfaaEngZ
import Derived.Test.YtbgjjplnnjflfaaProg
import Derived.KernelRfl
namespace Go.Proofs.Ytbgjjplnnjflfaa
open BoEng
set_option maxRecDepth 100000
@[simp] theorem sz1 : szT Try.prog 1 = 1 := by kernel_rfl
@[simp] theorem byt1 : bytT Try.prog 1 = some 8 := by kernel_rfl
@[simp] theorem agg1 : aggT Try.prog 1 = some false := by kernel_rfl
@[simp] theorem zc1 : zeroC Try.prog 1 = some [.opq .nilFunc] := by kernel_rfl
@[simp] theorem nc1_0 : nilC Try.prog 1 0 = false := by kernel_rfl
@[simp] theorem isf1 : isFnT (Try.prog.underlying 1) = true := by kernel_rfl
@[simp] theorem sz2 : szT Try.prog 2 = 1 := by kernel_rfl
@[simp] theorem byt2 : bytT Try.prog 2 = some 8 := by kernel_rfl
@[simp] theorem agg2 : aggT Try.prog 2 = some false := by kernel_rfl
@[simp] theorem zc2 : zeroC Try.prog 2 = some [.int .i64 0] := by kernel_rfl
@[simp] theorem nc2_0 : nilC Try.prog 2 0 = false := by kernel_rfl
@[simp] theorem und2 : Try.prog.underlying 2 = some (.int .i64) := by kernel_rfl
@[simp] theorem sz3 : szT Try.prog 3 = 1 := by kernel_rfl
@[simp] theorem byt3 : bytT Try.prog 3 = some 8 := by kernel_rfl
@[simp] theorem agg3 : aggT Try.prog 3 = some false := by kernel_rfl
@[simp] theorem zc3 : zeroC Try.prog 3 = some [.int .i64 0] := by kernel_rfl
@[simp] theorem nc3_0 : nilC Try.prog 3 0 = false := by kernel_rfl
@[simp] theorem und3 : Try.prog.underlying 3 = some (.int .i64) := by kernel_rfl
@[simp] theorem sz4 : szT Try.prog 4 = 1 := by kernel_rfl
@[simp] theorem byt4 : bytT Try.prog 4 = some 1 := by kernel_rfl
@[simp] theorem agg4 : aggT Try.prog 4 = some false := by kernel_rfl
@[simp] theorem zc4 : zeroC Try.prog 4 = some [.bool false] := by kernel_rfl
@[simp] theorem nc4_0 : nilC Try.prog 4 0 = false := by kernel_rfl
@[simp] theorem und4 : Try.prog.underlying 4 = some .bool := by kernel_rfl
@[simp] theorem sz5 : szT Try.prog 5 = 1 := by kernel_rfl
@[simp] theorem byt5 : bytT Try.prog 5 = some 1 := by kernel_rfl
@[simp] theorem agg5 : aggT Try.prog 5 = some false := by kernel_rfl
@[simp] theorem zc5 : zeroC Try.prog 5 = some [.int .u8 0] := by kernel_rfl
@[simp] theorem nc5_0 : nilC Try.prog 5 0 = false := by kernel_rfl
@[simp] theorem und5 : Try.prog.underlying 5 = some (.int .u8) := by kernel_rfl
@[simp] theorem sz9 : szT Try.prog 9 = 1 := by kernel_rfl
@[simp] theorem byt9 : bytT Try.prog 9 = some 16 := by kernel_rfl
@[simp] theorem agg9 : aggT Try.prog 9 = some false := by kernel_rfl
@[simp] theorem zc9 : zeroC Try.prog 9 = some [.str []] := by kernel_rfl
@[simp] theorem nc9_0 : nilC Try.prog 9 0 = false := by kernel_rfl
@[simp] theorem und9 : Try.prog.underlying 9 = some .string := by kernel_rfl
@[simp] theorem sz12 : szT Try.prog 12 = 1 := by kernel_rfl
@[simp] theorem byt12 : bytT Try.prog 12 = some 8 := by kernel_rfl
@[simp] theorem agg12 : aggT Try.prog 12 = some false := by kernel_rfl
@[simp] theorem zc12 : zeroC Try.prog 12 = some [.int .u64 0] := by kernel_rfl
@[simp] theorem nc12_0 : nilC Try.prog 12 0 = false := by kernel_rfl
@[simp] theorem und12 : Try.prog.underlying 12 = some (.int .u64) := by kernel_rfl
@[simp] theorem sz15 : szT Try.prog 15 = 1 := by kernel_rfl
@[simp] theorem byt15 : bytT Try.prog 15 = some 8 := by kernel_rfl
@[simp] theorem agg15 : aggT Try.prog 15 = some false := by kernel_rfl
@[simp] theorem zc15 : zeroC Try.prog 15 = some [.opq (.pointer none)] := by kernel_rfl
@[simp] theorem nc15_0 : nilC Try.prog 15 0 = false := by kernel_rfl
@[simp] theorem und15 : Try.prog.underlying 15 = some (.pointer 132) := by kernel_rfl
@[simp] theorem sz16 : szT Try.prog 16 = 1 := by kernel_rfl
@[simp] theorem byt16 : bytT Try.prog 16 = some 8 := by kernel_rfl
@[simp] theorem agg16 : aggT Try.prog 16 = some false := by kernel_rfl
@[simp] theorem zc16 : zeroC Try.prog 16 = some [.opq (.pointer none)] := by kernel_rfl
@[simp] theorem nc16_0 : nilC Try.prog 16 0 = false := by kernel_rfl
@[simp] theorem und16 : Try.prog.underlying 16 = some (.pointer 135) := by kernel_rfl
@[simp] theorem sz17 : szT Try.prog 17 = 1 := by kernel_rfl
@[simp] theorem byt17 : bytT Try.prog 17 = some 8 := by kernel_rfl
@[simp] theorem agg17 : aggT Try.prog 17 = some false := by kernel_rfl
@[simp] theorem zc17 : zeroC Try.prog 17 = some [.opq (.pointer none)] := by kernel_rfl
@[simp] theorem nc17_0 : nilC Try.prog 17 0 = false := by kernel_rfl
@[simp] theorem und17 : Try.prog.underlying 17 = some (.pointer 144) := by kernel_rfl
@[simp] theorem sz20 : szT Try.prog 20 = 1 := by kernel_rfl
@[simp] theorem byt20 : bytT Try.prog 20 = some 16 := by kernel_rfl
@[simp] theorem agg20 : aggT Try.prog 20 = some false := by kernel_rfl
@[simp] theorem zc20 : zeroC Try.prog 20 = some [.opq .nilIface] := by kernel_rfl
@[simp] theorem nc20_0 : nilC Try.prog 20 0 = false := by kernel_rfl
@[simp] theorem sz21 : szT Try.prog 21 = 1 := by kernel_rfl
@[simp] theorem byt21 : bytT Try.prog 21 = some 4 := by kernel_rfl
@[simp] theorem agg21 : aggT Try.prog 21 = some false := by kernel_rfl
@[simp] theorem zc21 : zeroC Try.prog 21 = some [.int .i32 0] := by kernel_rfl
@[simp] theorem nc21_0 : nilC Try.prog 21 0 = false := by kernel_rfl
@[simp] theorem und21 : Try.prog.underlying 21 = some (.int .i32) := by kernel_rfl
@[simp] theorem sz22 : szT Try.prog 22 = 1 := by kernel_rfl
@[simp] theorem byt22 : bytT Try.prog 22 = some 24 := by kernel_rfl
@[simp] theorem agg22 : aggT Try.prog 22 = some false := by kernel_rfl
@[simp] theorem zc22 : zeroC Try.prog 22 = some [.slice []] := by kernel_rfl
@[simp] theorem nc22_0 : nilC Try.prog 22 0 = true := by kernel_rfl
@[simp] theorem el22 : elT Try.prog 22 = some 61 := by kernel_rfl
@[simp] theorem und22 : Try.prog.underlying 22 = some (.slice 61) := by kernel_rfl
@[simp] theorem bz22 : bslZ Try.prog 22 = true := by kernel_rfl
@[simp] theorem es22 : eSz Try.prog 22 = 2 := by kernel_rfl
@[simp] theorem e122 : el1 Try.prog 22 = some (2, true) := by kernel_rfl
@[simp] theorem ae22 : agE Try.prog 22 = some true := by kernel_rfl
@[simp] theorem ap22 : apT Try.prog 22 = some (2, 32, .opq (.agg #[.slice none 0 0, .int .i64 0]), false) := by kernel_rfl
@[simp] theorem sz23 : szT Try.prog 23 = 1 := by kernel_rfl
@[simp] theorem byt23 : bytT Try.prog 23 = some 24 := by kernel_rfl
@[simp] theorem agg23 : aggT Try.prog 23 = some false := by kernel_rfl
@[simp] theorem zc23 : zeroC Try.prog 23 = some [.slice []] := by kernel_rfl
@[simp] theorem nc23_0 : nilC Try.prog 23 0 = true := by kernel_rfl
@[simp] theorem el23 : elT Try.prog 23 = some 76 := by kernel_rfl
@[simp] theorem und23 : Try.prog.underlying 23 = some (.slice 76) := by kernel_rfl
@[simp] theorem bz23 : bslZ Try.prog 23 = true := by kernel_rfl
@[simp] theorem es23 : eSz Try.prog 23 = 2 := by kernel_rfl
@[simp] theorem e123 : el1 Try.prog 23 = some (2, true) := by kernel_rfl
@[simp] theorem ae23 : agE Try.prog 23 = some true := by kernel_rfl
@[simp] theorem ap23 : apT Try.prog 23 = some (2, 24, .opq (.agg #[.string ByteArray.empty, .int .i64 0]), false) := by kernel_rfl
@[simp] theorem sz24 : szT Try.prog 24 = 3 := by kernel_rfl
@[simp] theorem byt24 : bytT Try.prog 24 = some 72 := by kernel_rfl
@[simp] theorem agg24 : aggT Try.prog 24 = some true := by kernel_rfl
@[simp] theorem zc24 : zeroC Try.prog 24 = some [.slice [], .slice [], .slice []] := by kernel_rfl
@[simp] theorem nc24_0 : nilC Try.prog 24 0 = true := by kernel_rfl
@[simp] theorem nc24_1 : nilC Try.prog 24 1 = true := by kernel_rfl
@[simp] theorem nc24_2 : nilC Try.prog 24 2 = true := by kernel_rfl
@[simp] theorem zs24 : zstr Try.prog 24 = some [.slice [], .slice [], .slice []] := by kernel_rfl
@[simp] theorem fl24_0 : fldT Try.prog 24 0 = some (0, 22) := by kernel_rfl
@[simp] theorem fl24_1 : fldT Try.prog 24 1 = some (1, 23) := by kernel_rfl
@[simp] theorem fl24_2 : fldT Try.prog 24 2 = some (2, 23) := by kernel_rfl
@[simp] theorem sz25 : szT Try.prog 25 = 3 := by kernel_rfl
@[simp] theorem byt25 : bytT Try.prog 25 = some 72 := by kernel_rfl
@[simp] theorem agg25 : aggT Try.prog 25 = some true := by kernel_rfl
@[simp] theorem zc25 : zeroC Try.prog 25 = some [.slice [], .slice [], .slice []] := by kernel_rfl
@[simp] theorem nc25_0 : nilC Try.prog 25 0 = true := by kernel_rfl
@[simp] theorem nc25_1 : nilC Try.prog 25 1 = true := by kernel_rfl
@[simp] theorem nc25_2 : nilC Try.prog 25 2 = true := by kernel_rfl
@[simp] theorem zs25 : zstr Try.prog 25 = some [.slice [], .slice [], .slice []] := by kernel_rfl
@[simp] theorem fl25_0 : fldT Try.prog 25 0 = some (0, 22) := by kernel_rfl
@[simp] theorem fl25_1 : fldT Try.prog 25 1 = some (1, 23) := by kernel_rfl
@[simp] theorem fl25_2 : fldT Try.prog 25 2 = some (2, 23) := by kernel_rfl
@[simp] theorem sz26 : szT Try.prog 26 = 1 := by kernel_rfl
@[simp] theorem byt26 : bytT Try.prog 26 = some 8 := by kernel_rfl
@[simp] theorem agg26 : aggT Try.prog 26 = some false := by kernel_rfl
@[simp] theorem zc26 : zeroC Try.prog 26 = some [.opq .nilFunc] := by kernel_rfl
@[simp] theorem nc26_0 : nilC Try.prog 26 0 = false := by kernel_rfl
@[simp] theorem isf26 : isFnT (Try.prog.underlying 26) = true := by kernel_rfl
@[simp] theorem sz27 : szT Try.prog 27 = 1 := by kernel_rfl
@[simp] theorem byt27 : bytT Try.prog 27 = some 8 := by kernel_rfl
@[simp] theorem agg27 : aggT Try.prog 27 = some false := by kernel_rfl
@[simp] theorem zc27 : zeroC Try.prog 27 = some [.opq .nilFunc] := by kernel_rfl
@[simp] theorem nc27_0 : nilC Try.prog 27 0 = false := by kernel_rfl
@[simp] theorem isf27 : isFnT (Try.prog.underlying 27) = true := by kernel_rfl
@[simp] theorem sz28 : szT Try.prog 28 = 1 := by kernel_rfl
@[simp] theorem byt28 : bytT Try.prog 28 = some 24 := by kernel_rfl
@[simp] theorem agg28 : aggT Try.prog 28 = some false := by kernel_rfl
@[simp] theorem zc28 : zeroC Try.prog 28 = some [.slice []] := by kernel_rfl
@[simp] theorem nc28_0 : nilC Try.prog 28 0 = true := by kernel_rfl
@[simp] theorem el28 : elT Try.prog 28 = some 51 := by kernel_rfl
@[simp] theorem und28 : Try.prog.underlying 28 = some (.slice 51) := by kernel_rfl
@[simp] theorem bz28 : bslZ Try.prog 28 = true := by kernel_rfl
@[simp] theorem es28 : eSz Try.prog 28 = 4 := by kernel_rfl
@[simp] theorem e128 : el1 Try.prog 28 = some (4, true) := by kernel_rfl
@[simp] theorem ae28 : agE Try.prog 28 = some true := by kernel_rfl
@[simp] theorem ap28 : apT Try.prog 28 = some (4, 40, .opq (.agg #[.int .i64 0, .int .i64 0, .int .i64 0, .string ByteArray.empty]), false) := by kernel_rfl
@[simp] theorem sz29 : szT Try.prog 29 = 1 := by kernel_rfl
@[simp] theorem byt29 : bytT Try.prog 29 = some 8 := by kernel_rfl
@[simp] theorem agg29 : aggT Try.prog 29 = some false := by kernel_rfl
@[simp] theorem zc29 : zeroC Try.prog 29 = some [.int .i64 0] := by kernel_rfl
@[simp] theorem nc29_0 : nilC Try.prog 29 0 = false := by kernel_rfl
@[simp] theorem und29 : Try.prog.underlying 29 = some (.int .i64) := by kernel_rfl
@[simp] theorem sz31 : szT Try.prog 31 = 1 := by kernel_rfl
@[simp] theorem byt31 : bytT Try.prog 31 = some 8 := by kernel_rfl
@[simp] theorem agg31 : aggT Try.prog 31 = some false := by kernel_rfl
@[simp] theorem zc31 : zeroC Try.prog 31 = some [.opq .nilFunc] := by kernel_rfl
@[simp] theorem nc31_0 : nilC Try.prog 31 0 = false := by kernel_rfl
@[simp] theorem isf31 : isFnT (Try.prog.underlying 31) = true := by kernel_rfl
@[simp] theorem sz33 : szT Try.prog 33 = 1 := by kernel_rfl
@[simp] theorem byt33 : bytT Try.prog 33 = some 8 := by kernel_rfl
@[simp] theorem agg33 : aggT Try.prog 33 = some false := by kernel_rfl
@[simp] theorem zc33 : zeroC Try.prog 33 = some [.opq .nilFunc] := by kernel_rfl
@[simp] theorem nc33_0 : nilC Try.prog 33 0 = false := by kernel_rfl
@[simp] theorem isf33 : isFnT (Try.prog.underlying 33) = true := by kernel_rfl
@[simp] theorem sz34 : szT Try.prog 34 = 1 := by kernel_rfl
@[simp] theorem byt34 : bytT Try.prog 34 = some 24 := by kernel_rfl
@[simp] theorem agg34 : aggT Try.prog 34 = some false := by kernel_rfl
@[simp] theorem zc34 : zeroC Try.prog 34 = some [.slice []] := by kernel_rfl
@[simp] theorem nc34_0 : nilC Try.prog 34 0 = true := by kernel_rfl
@[simp] theorem el34 : elT Try.prog 34 = some 74 := by kernel_rfl
@[simp] theorem und34 : Try.prog.underlying 34 = some (.slice 74) := by kernel_rfl
@[simp] theorem bz34 : bslZ Try.prog 34 = true := by kernel_rfl
@[simp] theorem es34 : eSz Try.prog 34 = 2 := by kernel_rfl
@[simp] theorem e134 : el1 Try.prog 34 = some (2, true) := by kernel_rfl
@[simp] theorem ae34 : agE Try.prog 34 = some true := by kernel_rfl
@[simp] theorem ap34 : apT Try.prog 34 = some (2, 32, .opq (.agg #[.slice none 0 0, .int .i64 0]), false) := by kernel_rfl
@[simp] theorem sz35 : szT Try.prog 35 = 1 := by kernel_rfl
@[simp] theorem byt35 : bytT Try.prog 35 = some 24 := by kernel_rfl
@[simp] theorem agg35 : aggT Try.prog 35 = some false := by kernel_rfl
@[simp] theorem zc35 : zeroC Try.prog 35 = some [.slice []] := by kernel_rfl
@[simp] theorem nc35_0 : nilC Try.prog 35 0 = true := by kernel_rfl
@[simp] theorem el35 : elT Try.prog 35 = some 77 := by kernel_rfl
@[simp] theorem und35 : Try.prog.underlying 35 = some (.slice 77) := by kernel_rfl
@[simp] theorem bz35 : bslZ Try.prog 35 = true := by kernel_rfl
@[simp] theorem es35 : eSz Try.prog 35 = 2 := by kernel_rfl
@[simp] theorem e135 : el1 Try.prog 35 = some (2, true) := by kernel_rfl
@[simp] theorem ae35 : agE Try.prog 35 = some true := by kernel_rfl
@[simp] theorem ap35 : apT Try.prog 35 = some (2, 24, .opq (.agg #[.string ByteArray.empty, .int .i64 0]), false) := by kernel_rfl
@[simp] theorem sz36 : szT Try.prog 36 = 3 := by kernel_rfl
@[simp] theorem byt36 : bytT Try.prog 36 = some 72 := by kernel_rfl
@[simp] theorem agg36 : aggT Try.prog 36 = some true := by kernel_rfl
@[simp] theorem zc36 : zeroC Try.prog 36 = some [.slice [], .slice [], .slice []] := by kernel_rfl
@[simp] theorem nc36_0 : nilC Try.prog 36 0 = true := by kernel_rfl
@[simp] theorem nc36_1 : nilC Try.prog 36 1 = true := by kernel_rfl
@[simp] theorem nc36_2 : nilC Try.prog 36 2 = true := by kernel_rfl
@[simp] theorem zs36 : zstr Try.prog 36 = some [.slice [], .slice [], .slice []] := by kernel_rfl
@[simp] theorem fl36_0 : fldT Try.prog 36 0 = some (0, 34) := by kernel_rfl
@[simp] theorem fl36_1 : fldT Try.prog 36 1 = some (1, 35) := by kernel_rfl
@[simp] theorem fl36_2 : fldT Try.prog 36 2 = some (2, 35) := by kernel_rfl
@[simp] theorem sz37 : szT Try.prog 37 = 3 := by kernel_rfl
@[simp] theorem byt37 : bytT Try.prog 37 = some 72 := by kernel_rfl
@[simp] theorem agg37 : aggT Try.prog 37 = some true := by kernel_rfl
@[simp] theorem zc37 : zeroC Try.prog 37 = some [.slice [], .slice [], .slice []] := by kernel_rfl
@[simp] theorem nc37_0 : nilC Try.prog 37 0 = true := by kernel_rfl
@[simp] theorem nc37_1 : nilC Try.prog 37 1 = true := by kernel_rfl
@[simp] theorem nc37_2 : nilC Try.prog 37 2 = true := by kernel_rfl
@[simp] theorem zs37 : zstr Try.prog 37 = some [.slice [], .slice [], .slice []] := by kernel_rfl
@[simp] theorem fl37_0 : fldT Try.prog 37 0 = some (0, 34) := by kernel_rfl
@[simp] theorem fl37_1 : fldT Try.prog 37 1 = some (1, 35) := by kernel_rfl
@[simp] theorem fl37_2 : fldT Try.prog 37 2 = some (2, 35) := by kernel_rfl
@[simp] theorem sz38 : szT Try.prog 38 = 1 := by kernel_rfl
@[simp] theorem byt38 : bytT Try.prog 38 = some 8 := by kernel_rfl
@[simp] theorem agg38 : aggT Try.prog 38 = some false := by kernel_rfl
@[simp] theorem zc38 : zeroC Try.prog 38 = some [.opq .nilFunc] := by kernel_rfl
@[simp] theorem nc38_0 : nilC Try.prog 38 0 = false := by kernel_rfl
@[simp] theorem isf38 : isFnT (Try.prog.underlying 38) = true := by kernel_rfl
@[simp] theorem sz39 : szT Try.prog 39 = 1 := by kernel_rfl
@[simp] theorem byt39 : bytT Try.prog 39 = some 8 := by kernel_rfl
@[simp] theorem agg39 : aggT Try.prog 39 = some false := by kernel_rfl
@[simp] theorem zc39 : zeroC Try.prog 39 = some [.opq .nilFunc] := by kernel_rfl
@[simp] theorem nc39_0 : nilC Try.prog 39 0 = false := by kernel_rfl
@[simp] theorem isf39 : isFnT (Try.prog.underlying 39) = true := by kernel_rfl
@[simp] theorem sz40 : szT Try.prog 40 = 1 := by kernel_rfl
@[simp] theorem byt40 : bytT Try.prog 40 = some 24 := by kernel_rfl
@[simp] theorem agg40 : aggT Try.prog 40 = some false := by kernel_rfl
@[simp] theorem zc40 : zeroC Try.prog 40 = some [.slice []] := by kernel_rfl
@[simp] theorem nc40_0 : nilC Try.prog 40 0 = true := by kernel_rfl
@[simp] theorem el40 : elT Try.prog 40 = some 3 := by kernel_rfl
@[simp] theorem und40 : Try.prog.underlying 40 = some (.slice 3) := by kernel_rfl
@[simp] theorem bz40 : bslZ Try.prog 40 = true := by kernel_rfl
@[simp] theorem es40 : eSz Try.prog 40 = 1 := by kernel_rfl
@[simp] theorem e140 : el1 Try.prog 40 = some (1, false) := by kernel_rfl
@[simp] theorem ae40 : agE Try.prog 40 = some false := by kernel_rfl
@[simp] theorem ap40 : apT Try.prog 40 = some (1, 8, .int .i64 0, true) := by kernel_rfl
@[simp] theorem sz42 : szT Try.prog 42 = 1 := by kernel_rfl
@[simp] theorem byt42 : bytT Try.prog 42 = some 8 := by kernel_rfl
@[simp] theorem agg42 : aggT Try.prog 42 = some false := by kernel_rfl
@[simp] theorem zc42 : zeroC Try.prog 42 = some [.opq .nilFunc] := by kernel_rfl
@[simp] theorem nc42_0 : nilC Try.prog 42 0 = false := by kernel_rfl
@[simp] theorem isf42 : isFnT (Try.prog.underlying 42) = true := by kernel_rfl
@[simp] theorem sz43 : szT Try.prog 43 = 1 := by kernel_rfl
@[simp] theorem byt43 : bytT Try.prog 43 = some 8 := by kernel_rfl
@[simp] theorem agg43 : aggT Try.prog 43 = some false := by kernel_rfl
@[simp] theorem zc43 : zeroC Try.prog 43 = some [.opq .nilFunc] := by kernel_rfl
@[simp] theorem nc43_0 : nilC Try.prog 43 0 = false := by kernel_rfl
@[simp] theorem isf43 : isFnT (Try.prog.underlying 43) = true := by kernel_rfl
@[simp] theorem sz44 : szT Try.prog 44 = 1 := by kernel_rfl
@[simp] theorem byt44 : bytT Try.prog 44 = some 8 := by kernel_rfl
@[simp] theorem agg44 : aggT Try.prog 44 = some false := by kernel_rfl
@[simp] theorem zc44 : zeroC Try.prog 44 = some [.opq .nilFunc] := by kernel_rfl
@[simp] theorem nc44_0 : nilC Try.prog 44 0 = false := by kernel_rfl
@[simp] theorem isf44 : isFnT (Try.prog.underlying 44) = true := by kernel_rfl
@[simp] theorem sz46 : szT Try.prog 46 = 1 := by kernel_rfl
@[simp] theorem byt46 : bytT Try.prog 46 = some 8 := by kernel_rfl
@[simp] theorem agg46 : aggT Try.prog 46 = some false := by kernel_rfl
@[simp] theorem zc46 : zeroC Try.prog 46 = some [.opq .nilFunc] := by kernel_rfl
@[simp] theorem nc46_0 : nilC Try.prog 46 0 = false := by kernel_rfl
@[simp] theorem isf46 : isFnT (Try.prog.underlying 46) = true := by kernel_rfl
@[simp] theorem sz48 : szT Try.prog 48 = 1 := by kernel_rfl
@[simp] theorem byt48 : bytT Try.prog 48 = some 8 := by kernel_rfl
@[simp] theorem agg48 : aggT Try.prog 48 = some false := by kernel_rfl
@[simp] theorem zc48 : zeroC Try.prog 48 = some [.opq .nilFunc] := by kernel_rfl
@[simp] theorem nc48_0 : nilC Try.prog 48 0 = false := by kernel_rfl
@[simp] theorem isf48 : isFnT (Try.prog.underlying 48) = true := by kernel_rfl
@[simp] theorem sz49 : szT Try.prog 49 = 1 := by kernel_rfl
@[simp] theorem byt49 : bytT Try.prog 49 = some 8 := by kernel_rfl
@[simp] theorem agg49 : aggT Try.prog 49 = some false := by kernel_rfl
@[simp] theorem zc49 : zeroC Try.prog 49 = some [.opq .nilFunc] := by kernel_rfl
@[simp] theorem nc49_0 : nilC Try.prog 49 0 = false := by kernel_rfl
@[simp] theorem isf49 : isFnT (Try.prog.underlying 49) = true := by kernel_rfl
@[simp] theorem sz50 : szT Try.prog 50 = 4 := by kernel_rfl
@[simp] theorem byt50 : bytT Try.prog 50 = some 40 := by kernel_rfl
@[simp] theorem agg50 : aggT Try.prog 50 = some true := by kernel_rfl
@[simp] theorem zc50 : zeroC Try.prog 50 = some [.int .i64 0, .int .i64 0, .int .i64 0, .str []] := by kernel_rfl
@[simp] theorem nc50_0 : nilC Try.prog 50 0 = false := by kernel_rfl
@[simp] theorem nc50_1 : nilC Try.prog 50 1 = false := by kernel_rfl
@[simp] theorem nc50_2 : nilC Try.prog 50 2 = false := by kernel_rfl
@[simp] theorem nc50_3 : nilC Try.prog 50 3 = false := by kernel_rfl
@[simp] theorem eq50 : eqS Try.prog 50 = some [(0, 0), (1, 0), (2, 0), (3, 2)] := by kernel_rfl
@[simp] theorem zs50 : zstr Try.prog 50 = some [.int .i64 0, .int .i64 0, .int .i64 0, .str []] := by kernel_rfl
@[simp] theorem fl50_0 : fldT Try.prog 50 0 = some (0, 3) := by kernel_rfl
@[simp] theorem fl50_1 : fldT Try.prog 50 1 = some (1, 3) := by kernel_rfl
@[simp] theorem fl50_2 : fldT Try.prog 50 2 = some (2, 3) := by kernel_rfl
@[simp] theorem fl50_3 : fldT Try.prog 50 3 = some (3, 9) := by kernel_rfl
@[simp] theorem sz51 : szT Try.prog 51 = 4 := by kernel_rfl
@[simp] theorem byt51 : bytT Try.prog 51 = some 40 := by kernel_rfl
@[simp] theorem agg51 : aggT Try.prog 51 = some true := by kernel_rfl
@[simp] theorem zc51 : zeroC Try.prog 51 = some [.int .i64 0, .int .i64 0, .int .i64 0, .str []] := by kernel_rfl
@[simp] theorem nc51_0 : nilC Try.prog 51 0 = false := by kernel_rfl
@[simp] theorem nc51_1 : nilC Try.prog 51 1 = false := by kernel_rfl
@[simp] theorem nc51_2 : nilC Try.prog 51 2 = false := by kernel_rfl
@[simp] theorem nc51_3 : nilC Try.prog 51 3 = false := by kernel_rfl
@[simp] theorem eq51 : eqS Try.prog 51 = some [(0, 0), (1, 0), (2, 0), (3, 2)] := by kernel_rfl
@[simp] theorem zs51 : zstr Try.prog 51 = some [.int .i64 0, .int .i64 0, .int .i64 0, .str []] := by kernel_rfl
@[simp] theorem fl51_0 : fldT Try.prog 51 0 = some (0, 3) := by kernel_rfl
@[simp] theorem fl51_1 : fldT Try.prog 51 1 = some (1, 3) := by kernel_rfl
@[simp] theorem fl51_2 : fldT Try.prog 51 2 = some (2, 3) := by kernel_rfl
@[simp] theorem fl51_3 : fldT Try.prog 51 3 = some (3, 9) := by kernel_rfl
@[simp] theorem sz52 : szT Try.prog 52 = 1 := by kernel_rfl
@[simp] theorem byt52 : bytT Try.prog 52 = some 8 := by kernel_rfl
@[simp] theorem agg52 : aggT Try.prog 52 = some false := by kernel_rfl
@[simp] theorem zc52 : zeroC Try.prog 52 = some [.opq .nilFunc] := by kernel_rfl
@[simp] theorem nc52_0 : nilC Try.prog 52 0 = false := by kernel_rfl
@[simp] theorem isf52 : isFnT (Try.prog.underlying 52) = true := by kernel_rfl
@[simp] theorem sz53 : szT Try.prog 53 = 1 := by kernel_rfl
@[simp] theorem byt53 : bytT Try.prog 53 = some 24 := by kernel_rfl
@[simp] theorem agg53 : aggT Try.prog 53 = some false := by kernel_rfl
@[simp] theorem zc53 : zeroC Try.prog 53 = some [.slice []] := by kernel_rfl
@[simp] theorem nc53_0 : nilC Try.prog 53 0 = true := by kernel_rfl
@[simp] theorem el53 : elT Try.prog 53 = some 92 := by kernel_rfl
@[simp] theorem und53 : Try.prog.underlying 53 = some (.slice 92) := by kernel_rfl
@[simp] theorem bz53 : bslZ Try.prog 53 = true := by kernel_rfl
@[simp] theorem es53 : eSz Try.prog 53 = 4 := by kernel_rfl
@[simp] theorem e153 : el1 Try.prog 53 = some (4, true) := by kernel_rfl
@[simp] theorem ae53 : agE Try.prog 53 = some true := by kernel_rfl
@[simp] theorem ap53 : apT Try.prog 53 = some (4, 64, .opq (.agg #[.int .i64 0, .string ByteArray.empty, .string ByteArray.empty, .slice none 0 0]), false) := by kernel_rfl
@[simp] theorem sz55 : szT Try.prog 55 = 1 := by kernel_rfl
@[simp] theorem byt55 : bytT Try.prog 55 = some 8 := by kernel_rfl
@[simp] theorem agg55 : aggT Try.prog 55 = some false := by kernel_rfl
@[simp] theorem zc55 : zeroC Try.prog 55 = some [.opq .nilFunc] := by kernel_rfl
@[simp] theorem nc55_0 : nilC Try.prog 55 0 = false := by kernel_rfl
@[simp] theorem isf55 : isFnT (Try.prog.underlying 55) = true := by kernel_rfl
@[simp] theorem sz57 : szT Try.prog 57 = 1 := by kernel_rfl
@[simp] theorem byt57 : bytT Try.prog 57 = some 8 := by kernel_rfl
@[simp] theorem agg57 : aggT Try.prog 57 = some false := by kernel_rfl
@[simp] theorem zc57 : zeroC Try.prog 57 = some [.opq .nilFunc] := by kernel_rfl
@[simp] theorem nc57_0 : nilC Try.prog 57 0 = false := by kernel_rfl
@[simp] theorem isf57 : isFnT (Try.prog.underlying 57) = true := by kernel_rfl
@[simp] theorem sz58 : szT Try.prog 58 = 1 := by kernel_rfl
@[simp] theorem byt58 : bytT Try.prog 58 = some 8 := by kernel_rfl
@[simp] theorem agg58 : aggT Try.prog 58 = some false := by kernel_rfl
@[simp] theorem zc58 : zeroC Try.prog 58 = some [.opq .nilFunc] := by kernel_rfl
@[simp] theorem nc58_0 : nilC Try.prog 58 0 = false := by kernel_rfl
@[simp] theorem isf58 : isFnT (Try.prog.underlying 58) = true := by kernel_rfl
@[simp] theorem sz59 : szT Try.prog 59 = 1 := by kernel_rfl
@[simp] theorem byt59 : bytT Try.prog 59 = some 24 := by kernel_rfl
@[simp] theorem agg59 : aggT Try.prog 59 = some false := by kernel_rfl
@[simp] theorem zc59 : zeroC Try.prog 59 = some [.slice []] := by kernel_rfl
@[simp] theorem nc59_0 : nilC Try.prog 59 0 = true := by kernel_rfl
@[simp] theorem el59 : elT Try.prog 59 = some 5 := by kernel_rfl
@[simp] theorem und59 : Try.prog.underlying 59 = some (.slice 5) := by kernel_rfl
@[simp] theorem bz59 : bslZ Try.prog 59 = true := by kernel_rfl
@[simp] theorem es59 : eSz Try.prog 59 = 1 := by kernel_rfl
@[simp] theorem e159 : el1 Try.prog 59 = some (1, false) := by kernel_rfl
@[simp] theorem ae59 : agE Try.prog 59 = some false := by kernel_rfl
@[simp] theorem ap59 : apT Try.prog 59 = some (1, 1, .int .u8 0, true) := by kernel_rfl
@[simp] theorem sz60 : szT Try.prog 60 = 2 := by kernel_rfl
@[simp] theorem byt60 : bytT Try.prog 60 = some 32 := by kernel_rfl
@[simp] theorem agg60 : aggT Try.prog 60 = some true := by kernel_rfl
@[simp] theorem zc60 : zeroC Try.prog 60 = some [.slice [], .int .i64 0] := by kernel_rfl
@[simp] theorem nc60_0 : nilC Try.prog 60 0 = true := by kernel_rfl
@[simp] theorem nc60_1 : nilC Try.prog 60 1 = false := by kernel_rfl
@[simp] theorem zs60 : zstr Try.prog 60 = some [.slice [], .int .i64 0] := by kernel_rfl
@[simp] theorem fl60_0 : fldT Try.prog 60 0 = some (0, 59) := by kernel_rfl
@[simp] theorem fl60_1 : fldT Try.prog 60 1 = some (1, 3) := by kernel_rfl
@[simp] theorem sz61 : szT Try.prog 61 = 2 := by kernel_rfl
@[simp] theorem byt61 : bytT Try.prog 61 = some 32 := by kernel_rfl
@[simp] theorem agg61 : aggT Try.prog 61 = some true := by kernel_rfl
@[simp] theorem zc61 : zeroC Try.prog 61 = some [.slice [], .int .i64 0] := by kernel_rfl
@[simp] theorem nc61_0 : nilC Try.prog 61 0 = true := by kernel_rfl
@[simp] theorem nc61_1 : nilC Try.prog 61 1 = false := by kernel_rfl
@[simp] theorem zs61 : zstr Try.prog 61 = some [.slice [], .int .i64 0] := by kernel_rfl
@[simp] theorem fl61_0 : fldT Try.prog 61 0 = some (0, 59) := by kernel_rfl
@[simp] theorem fl61_1 : fldT Try.prog 61 1 = some (1, 3) := by kernel_rfl
@[simp] theorem sz63 : szT Try.prog 63 = 1 := by kernel_rfl
@[simp] theorem byt63 : bytT Try.prog 63 = some 8 := by kernel_rfl
@[simp] theorem agg63 : aggT Try.prog 63 = some false := by kernel_rfl
@[simp] theorem zc63 : zeroC Try.prog 63 = some [.opq .nilFunc] := by kernel_rfl
@[simp] theorem nc63_0 : nilC Try.prog 63 0 = false := by kernel_rfl
@[simp] theorem isf63 : isFnT (Try.prog.underlying 63) = true := by kernel_rfl
@[simp] theorem sz65 : szT Try.prog 65 = 1 := by kernel_rfl
@[simp] theorem byt65 : bytT Try.prog 65 = some 8 := by kernel_rfl
@[simp] theorem agg65 : aggT Try.prog 65 = some false := by kernel_rfl
@[simp] theorem zc65 : zeroC Try.prog 65 = some [.opq .nilFunc] := by kernel_rfl
@[simp] theorem nc65_0 : nilC Try.prog 65 0 = false := by kernel_rfl
@[simp] theorem isf65 : isFnT (Try.prog.underlying 65) = true := by kernel_rfl
@[simp] theorem sz67 : szT Try.prog 67 = 1 := by kernel_rfl
@[simp] theorem byt67 : bytT Try.prog 67 = some 8 := by kernel_rfl
@[simp] theorem agg67 : aggT Try.prog 67 = some false := by kernel_rfl
@[simp] theorem zc67 : zeroC Try.prog 67 = some [.opq .nilFunc] := by kernel_rfl
@[simp] theorem nc67_0 : nilC Try.prog 67 0 = false := by kernel_rfl
@[simp] theorem isf67 : isFnT (Try.prog.underlying 67) = true := by kernel_rfl
@[simp] theorem sz69 : szT Try.prog 69 = 1 := by kernel_rfl
@[simp] theorem byt69 : bytT Try.prog 69 = some 8 := by kernel_rfl
@[simp] theorem agg69 : aggT Try.prog 69 = some false := by kernel_rfl
@[simp] theorem zc69 : zeroC Try.prog 69 = some [.opq .nilFunc] := by kernel_rfl
@[simp] theorem nc69_0 : nilC Try.prog 69 0 = false := by kernel_rfl
@[simp] theorem isf69 : isFnT (Try.prog.underlying 69) = true := by kernel_rfl
@[simp] theorem sz71 : szT Try.prog 71 = 1 := by kernel_rfl
@[simp] theorem byt71 : bytT Try.prog 71 = some 8 := by kernel_rfl
@[simp] theorem agg71 : aggT Try.prog 71 = some false := by kernel_rfl
@[simp] theorem zc71 : zeroC Try.prog 71 = some [.opq .nilFunc] := by kernel_rfl
@[simp] theorem nc71_0 : nilC Try.prog 71 0 = false := by kernel_rfl
@[simp] theorem isf71 : isFnT (Try.prog.underlying 71) = true := by kernel_rfl
@[simp] theorem sz73 : szT Try.prog 73 = 1 := by kernel_rfl
@[simp] theorem byt73 : bytT Try.prog 73 = some 8 := by kernel_rfl
@[simp] theorem agg73 : aggT Try.prog 73 = some false := by kernel_rfl
@[simp] theorem zc73 : zeroC Try.prog 73 = some [.opq .nilFunc] := by kernel_rfl
@[simp] theorem nc73_0 : nilC Try.prog 73 0 = false := by kernel_rfl
@[simp] theorem isf73 : isFnT (Try.prog.underlying 73) = true := by kernel_rfl
@[simp] theorem sz74 : szT Try.prog 74 = 2 := by kernel_rfl
@[simp] theorem byt74 : bytT Try.prog 74 = some 32 := by kernel_rfl
@[simp] theorem agg74 : aggT Try.prog 74 = some true := by kernel_rfl
@[simp] theorem zc74 : zeroC Try.prog 74 = some [.slice [], .int .i64 0] := by kernel_rfl
@[simp] theorem nc74_0 : nilC Try.prog 74 0 = true := by kernel_rfl
@[simp] theorem nc74_1 : nilC Try.prog 74 1 = false := by kernel_rfl
@[simp] theorem zs74 : zstr Try.prog 74 = some [.slice [], .int .i64 0] := by kernel_rfl
@[simp] theorem fl74_0 : fldT Try.prog 74 0 = some (0, 59) := by kernel_rfl
@[simp] theorem fl74_1 : fldT Try.prog 74 1 = some (1, 3) := by kernel_rfl
@[simp] theorem sz75 : szT Try.prog 75 = 2 := by kernel_rfl
@[simp] theorem byt75 : bytT Try.prog 75 = some 24 := by kernel_rfl
@[simp] theorem agg75 : aggT Try.prog 75 = some true := by kernel_rfl
@[simp] theorem zc75 : zeroC Try.prog 75 = some [.str [], .int .i64 0] := by kernel_rfl
@[simp] theorem nc75_0 : nilC Try.prog 75 0 = false := by kernel_rfl
@[simp] theorem nc75_1 : nilC Try.prog 75 1 = false := by kernel_rfl
@[simp] theorem eq75 : eqS Try.prog 75 = some [(0, 2), (1, 0)] := by kernel_rfl
@[simp] theorem zs75 : zstr Try.prog 75 = some [.str [], .int .i64 0] := by kernel_rfl
@[simp] theorem fl75_0 : fldT Try.prog 75 0 = some (0, 9) := by kernel_rfl
@[simp] theorem fl75_1 : fldT Try.prog 75 1 = some (1, 3) := by kernel_rfl
@[simp] theorem sz76 : szT Try.prog 76 = 2 := by kernel_rfl
@[simp] theorem byt76 : bytT Try.prog 76 = some 24 := by kernel_rfl
@[simp] theorem agg76 : aggT Try.prog 76 = some true := by kernel_rfl
@[simp] theorem zc76 : zeroC Try.prog 76 = some [.str [], .int .i64 0] := by kernel_rfl
@[simp] theorem nc76_0 : nilC Try.prog 76 0 = false := by kernel_rfl
@[simp] theorem nc76_1 : nilC Try.prog 76 1 = false := by kernel_rfl
@[simp] theorem eq76 : eqS Try.prog 76 = some [(0, 2), (1, 0)] := by kernel_rfl
@[simp] theorem zs76 : zstr Try.prog 76 = some [.str [], .int .i64 0] := by kernel_rfl
@[simp] theorem fl76_0 : fldT Try.prog 76 0 = some (0, 9) := by kernel_rfl
@[simp] theorem fl76_1 : fldT Try.prog 76 1 = some (1, 3) := by kernel_rfl
@[simp] theorem sz77 : szT Try.prog 77 = 2 := by kernel_rfl
@[simp] theorem byt77 : bytT Try.prog 77 = some 24 := by kernel_rfl
@[simp] theorem agg77 : aggT Try.prog 77 = some true := by kernel_rfl
@[simp] theorem zc77 : zeroC Try.prog 77 = some [.str [], .int .i64 0] := by kernel_rfl
@[simp] theorem nc77_0 : nilC Try.prog 77 0 = false := by kernel_rfl
@[simp] theorem nc77_1 : nilC Try.prog 77 1 = false := by kernel_rfl
@[simp] theorem eq77 : eqS Try.prog 77 = some [(0, 2), (1, 0)] := by kernel_rfl
@[simp] theorem zs77 : zstr Try.prog 77 = some [.str [], .int .i64 0] := by kernel_rfl
@[simp] theorem fl77_0 : fldT Try.prog 77 0 = some (0, 9) := by kernel_rfl
@[simp] theorem fl77_1 : fldT Try.prog 77 1 = some (1, 3) := by kernel_rfl
@[simp] theorem sz78 : szT Try.prog 78 = 1 := by kernel_rfl
@[simp] theorem byt78 : bytT Try.prog 78 = some 8 := by kernel_rfl
@[simp] theorem agg78 : aggT Try.prog 78 = some false := by kernel_rfl
@[simp] theorem zc78 : zeroC Try.prog 78 = some [.opq .nilFunc] := by kernel_rfl
@[simp] theorem nc78_0 : nilC Try.prog 78 0 = false := by kernel_rfl
@[simp] theorem isf78 : isFnT (Try.prog.underlying 78) = true := by kernel_rfl
@[simp] theorem sz79 : szT Try.prog 79 = 1 := by kernel_rfl
@[simp] theorem byt79 : bytT Try.prog 79 = some 8 := by kernel_rfl
@[simp] theorem agg79 : aggT Try.prog 79 = some false := by kernel_rfl
@[simp] theorem zc79 : zeroC Try.prog 79 = some [.opq (.pointer none)] := by kernel_rfl
@[simp] theorem nc79_0 : nilC Try.prog 79 0 = false := by kernel_rfl
@[simp] theorem und79 : Try.prog.underlying 79 = some (.pointer 61) := by kernel_rfl
@[simp] theorem sz80 : szT Try.prog 80 = 1 := by kernel_rfl
@[simp] theorem byt80 : bytT Try.prog 80 = some 8 := by kernel_rfl
@[simp] theorem agg80 : aggT Try.prog 80 = some false := by kernel_rfl
@[simp] theorem zc80 : zeroC Try.prog 80 = some [.opq .nilFunc] := by kernel_rfl
@[simp] theorem nc80_0 : nilC Try.prog 80 0 = false := by kernel_rfl
@[simp] theorem isf80 : isFnT (Try.prog.underlying 80) = true := by kernel_rfl
@[simp] theorem sz81 : szT Try.prog 81 = 1 := by kernel_rfl
@[simp] theorem byt81 : bytT Try.prog 81 = some 8 := by kernel_rfl
@[simp] theorem agg81 : aggT Try.prog 81 = some false := by kernel_rfl
@[simp] theorem zc81 : zeroC Try.prog 81 = some [.opq .nilFunc] := by kernel_rfl
@[simp] theorem nc81_0 : nilC Try.prog 81 0 = false := by kernel_rfl
@[simp] theorem isf81 : isFnT (Try.prog.underlying 81) = true := by kernel_rfl
@[simp] theorem sz82 : szT Try.prog 82 = 1 := by kernel_rfl
@[simp] theorem byt82 : bytT Try.prog 82 = some 8 := by kernel_rfl
@[simp] theorem agg82 : aggT Try.prog 82 = some false := by kernel_rfl
@[simp] theorem zc82 : zeroC Try.prog 82 = some [.opq .nilFunc] := by kernel_rfl
@[simp] theorem nc82_0 : nilC Try.prog 82 0 = false := by kernel_rfl
@[simp] theorem isf82 : isFnT (Try.prog.underlying 82) = true := by kernel_rfl
@[simp] theorem sz83 : szT Try.prog 83 = 1 := by kernel_rfl
@[simp] theorem byt83 : bytT Try.prog 83 = some 8 := by kernel_rfl
@[simp] theorem agg83 : aggT Try.prog 83 = some false := by kernel_rfl
@[simp] theorem zc83 : zeroC Try.prog 83 = some [.opq .nilFunc] := by kernel_rfl
@[simp] theorem nc83_0 : nilC Try.prog 83 0 = false := by kernel_rfl
@[simp] theorem isf83 : isFnT (Try.prog.underlying 83) = true := by kernel_rfl
@[simp] theorem sz84 : szT Try.prog 84 = 1 := by kernel_rfl
@[simp] theorem byt84 : bytT Try.prog 84 = some 8 := by kernel_rfl
@[simp] theorem agg84 : aggT Try.prog 84 = some false := by kernel_rfl
@[simp] theorem zc84 : zeroC Try.prog 84 = some [.opq .nilFunc] := by kernel_rfl
@[simp] theorem nc84_0 : nilC Try.prog 84 0 = false := by kernel_rfl
@[simp] theorem isf84 : isFnT (Try.prog.underlying 84) = true := by kernel_rfl
@[simp] theorem sz85 : szT Try.prog 85 = 1 := by kernel_rfl
@[simp] theorem byt85 : bytT Try.prog 85 = some 8 := by kernel_rfl
@[simp] theorem agg85 : aggT Try.prog 85 = some false := by kernel_rfl
@[simp] theorem zc85 : zeroC Try.prog 85 = some [.opq .nilFunc] := by kernel_rfl
@[simp] theorem nc85_0 : nilC Try.prog 85 0 = false := by kernel_rfl
@[simp] theorem isf85 : isFnT (Try.prog.underlying 85) = true := by kernel_rfl
@[simp] theorem sz86 : szT Try.prog 86 = 1 := by kernel_rfl
@[simp] theorem byt86 : bytT Try.prog 86 = some 8 := by kernel_rfl
@[simp] theorem agg86 : aggT Try.prog 86 = some false := by kernel_rfl
@[simp] theorem zc86 : zeroC Try.prog 86 = some [.opq .nilFunc] := by kernel_rfl
@[simp] theorem nc86_0 : nilC Try.prog 86 0 = false := by kernel_rfl
@[simp] theorem isf86 : isFnT (Try.prog.underlying 86) = true := by kernel_rfl
@[simp] theorem sz87 : szT Try.prog 87 = 1 := by kernel_rfl
@[simp] theorem byt87 : bytT Try.prog 87 = some 8 := by kernel_rfl
@[simp] theorem agg87 : aggT Try.prog 87 = some false := by kernel_rfl
@[simp] theorem zc87 : zeroC Try.prog 87 = some [.opq .nilFunc] := by kernel_rfl
@[simp] theorem nc87_0 : nilC Try.prog 87 0 = false := by kernel_rfl
@[simp] theorem isf87 : isFnT (Try.prog.underlying 87) = true := by kernel_rfl
@[simp] theorem sz88 : szT Try.prog 88 = 1 := by kernel_rfl
@[simp] theorem byt88 : bytT Try.prog 88 = some 8 := by kernel_rfl
@[simp] theorem agg88 : aggT Try.prog 88 = some false := by kernel_rfl
@[simp] theorem zc88 : zeroC Try.prog 88 = some [.opq .nilFunc] := by kernel_rfl
@[simp] theorem nc88_0 : nilC Try.prog 88 0 = false := by kernel_rfl
@[simp] theorem isf88 : isFnT (Try.prog.underlying 88) = true := by kernel_rfl
@[simp] theorem sz89 : szT Try.prog 89 = 1 := by kernel_rfl
@[simp] theorem byt89 : bytT Try.prog 89 = some 8 := by kernel_rfl
@[simp] theorem agg89 : aggT Try.prog 89 = some false := by kernel_rfl
@[simp] theorem zc89 : zeroC Try.prog 89 = some [.opq .nilFunc] := by kernel_rfl
@[simp] theorem nc89_0 : nilC Try.prog 89 0 = false := by kernel_rfl
@[simp] theorem isf89 : isFnT (Try.prog.underlying 89) = true := by kernel_rfl
@[simp] theorem sz90 : szT Try.prog 90 = 1 := by kernel_rfl
@[simp] theorem byt90 : bytT Try.prog 90 = some 8 := by kernel_rfl
@[simp] theorem agg90 : aggT Try.prog 90 = some false := by kernel_rfl
@[simp] theorem zc90 : zeroC Try.prog 90 = some [.opq .nilFunc] := by kernel_rfl
@[simp] theorem nc90_0 : nilC Try.prog 90 0 = false := by kernel_rfl
@[simp] theorem isf90 : isFnT (Try.prog.underlying 90) = true := by kernel_rfl
@[simp] theorem sz91 : szT Try.prog 91 = 4 := by kernel_rfl
@[simp] theorem byt91 : bytT Try.prog 91 = some 64 := by kernel_rfl
@[simp] theorem agg91 : aggT Try.prog 91 = some true := by kernel_rfl
@[simp] theorem zc91 : zeroC Try.prog 91 = some [.int .i64 0, .str [], .str [], .slice []] := by kernel_rfl
@[simp] theorem nc91_0 : nilC Try.prog 91 0 = false := by kernel_rfl
@[simp] theorem nc91_1 : nilC Try.prog 91 1 = false := by kernel_rfl
@[simp] theorem nc91_2 : nilC Try.prog 91 2 = false := by kernel_rfl
@[simp] theorem nc91_3 : nilC Try.prog 91 3 = true := by kernel_rfl
@[simp] theorem zs91 : zstr Try.prog 91 = some [.int .i64 0, .str [], .str [], .slice []] := by kernel_rfl
@[simp] theorem fl91_0 : fldT Try.prog 91 0 = some (0, 3) := by kernel_rfl
@[simp] theorem fl91_1 : fldT Try.prog 91 1 = some (1, 9) := by kernel_rfl
@[simp] theorem fl91_2 : fldT Try.prog 91 2 = some (2, 9) := by kernel_rfl
@[simp] theorem fl91_3 : fldT Try.prog 91 3 = some (3, 59) := by kernel_rfl
@[simp] theorem sz92 : szT Try.prog 92 = 4 := by kernel_rfl
@[simp] theorem byt92 : bytT Try.prog 92 = some 64 := by kernel_rfl
@[simp] theorem agg92 : aggT Try.prog 92 = some true := by kernel_rfl
@[simp] theorem zc92 : zeroC Try.prog 92 = some [.int .i64 0, .str [], .str [], .slice []] := by kernel_rfl
@[simp] theorem nc92_0 : nilC Try.prog 92 0 = false := by kernel_rfl
@[simp] theorem nc92_1 : nilC Try.prog 92 1 = false := by kernel_rfl
@[simp] theorem nc92_2 : nilC Try.prog 92 2 = false := by kernel_rfl
@[simp] theorem nc92_3 : nilC Try.prog 92 3 = true := by kernel_rfl
@[simp] theorem zs92 : zstr Try.prog 92 = some [.int .i64 0, .str [], .str [], .slice []] := by kernel_rfl
@[simp] theorem fl92_0 : fldT Try.prog 92 0 = some (0, 3) := by kernel_rfl
@[simp] theorem fl92_1 : fldT Try.prog 92 1 = some (1, 9) := by kernel_rfl
@[simp] theorem fl92_2 : fldT Try.prog 92 2 = some (2, 9) := by kernel_rfl
@[simp] theorem fl92_3 : fldT Try.prog 92 3 = some (3, 59) := by kernel_rfl
@[simp] theorem sz93 : szT Try.prog 93 = 1 := by kernel_rfl
@[simp] theorem byt93 : bytT Try.prog 93 = some 8 := by kernel_rfl
@[simp] theorem agg93 : aggT Try.prog 93 = some false := by kernel_rfl
@[simp] theorem zc93 : zeroC Try.prog 93 = some [.opq .nilFunc] := by kernel_rfl
@[simp] theorem nc93_0 : nilC Try.prog 93 0 = false := by kernel_rfl
@[simp] theorem isf93 : isFnT (Try.prog.underlying 93) = true := by kernel_rfl
@[simp] theorem sz94 : szT Try.prog 94 = 1 := by kernel_rfl
@[simp] theorem byt94 : bytT Try.prog 94 = some 8 := by kernel_rfl
@[simp] theorem agg94 : aggT Try.prog 94 = some false := by kernel_rfl
@[simp] theorem zc94 : zeroC Try.prog 94 = some [.opq .nilFunc] := by kernel_rfl
@[simp] theorem nc94_0 : nilC Try.prog 94 0 = false := by kernel_rfl
@[simp] theorem isf94 : isFnT (Try.prog.underlying 94) = true := by kernel_rfl
@[simp] theorem sz96 : szT Try.prog 96 = 1 := by kernel_rfl
@[simp] theorem byt96 : bytT Try.prog 96 = some 8 := by kernel_rfl
@[simp] theorem agg96 : aggT Try.prog 96 = some false := by kernel_rfl
@[simp] theorem zc96 : zeroC Try.prog 96 = some [.opq .nilFunc] := by kernel_rfl
@[simp] theorem nc96_0 : nilC Try.prog 96 0 = false := by kernel_rfl
@[simp] theorem isf96 : isFnT (Try.prog.underlying 96) = true := by kernel_rfl
@[simp] theorem sz97 : szT Try.prog 97 = 1 := by kernel_rfl
@[simp] theorem byt97 : bytT Try.prog 97 = some 4 := by kernel_rfl
@[simp] theorem agg97 : aggT Try.prog 97 = some false := by kernel_rfl
@[simp] theorem zc97 : zeroC Try.prog 97 = some [.int .u32 0] := by kernel_rfl
@[simp] theorem nc97_0 : nilC Try.prog 97 0 = false := by kernel_rfl
@[simp] theorem und97 : Try.prog.underlying 97 = some (.int .u32) := by kernel_rfl
@[simp] theorem sz98 : szT Try.prog 98 = 1 := by kernel_rfl
@[simp] theorem byt98 : bytT Try.prog 98 = some 8 := by kernel_rfl
@[simp] theorem agg98 : aggT Try.prog 98 = some false := by kernel_rfl
@[simp] theorem zc98 : zeroC Try.prog 98 = some [.opq .nilFunc] := by kernel_rfl
@[simp] theorem nc98_0 : nilC Try.prog 98 0 = false := by kernel_rfl
@[simp] theorem isf98 : isFnT (Try.prog.underlying 98) = true := by kernel_rfl
@[simp] theorem sz99 : szT Try.prog 99 = 1 := by kernel_rfl
@[simp] theorem byt99 : bytT Try.prog 99 = some 8 := by kernel_rfl
@[simp] theorem agg99 : aggT Try.prog 99 = some false := by kernel_rfl
@[simp] theorem zc99 : zeroC Try.prog 99 = some [.opq .nilFunc] := by kernel_rfl
@[simp] theorem nc99_0 : nilC Try.prog 99 0 = false := by kernel_rfl
@[simp] theorem isf99 : isFnT (Try.prog.underlying 99) = true := by kernel_rfl
@[simp] theorem sz100 : szT Try.prog 100 = 1 := by kernel_rfl
@[simp] theorem byt100 : bytT Try.prog 100 = some 8 := by kernel_rfl
@[simp] theorem agg100 : aggT Try.prog 100 = some false := by kernel_rfl
@[simp] theorem zc100 : zeroC Try.prog 100 = some [.opq .nilFunc] := by kernel_rfl
@[simp] theorem nc100_0 : nilC Try.prog 100 0 = false := by kernel_rfl
@[simp] theorem isf100 : isFnT (Try.prog.underlying 100) = true := by kernel_rfl
@[simp] theorem sz101 : szT Try.prog 101 = 1 := by kernel_rfl
@[simp] theorem byt101 : bytT Try.prog 101 = some 8 := by kernel_rfl
@[simp] theorem agg101 : aggT Try.prog 101 = some false := by kernel_rfl
@[simp] theorem zc101 : zeroC Try.prog 101 = some [.opq .nilFunc] := by kernel_rfl
@[simp] theorem nc101_0 : nilC Try.prog 101 0 = false := by kernel_rfl
@[simp] theorem isf101 : isFnT (Try.prog.underlying 101) = true := by kernel_rfl
@[simp] theorem sz102 : szT Try.prog 102 = 1 := by kernel_rfl
@[simp] theorem byt102 : bytT Try.prog 102 = some 8 := by kernel_rfl
@[simp] theorem agg102 : aggT Try.prog 102 = some false := by kernel_rfl
@[simp] theorem zc102 : zeroC Try.prog 102 = some [.opq (.pointer none)] := by kernel_rfl
@[simp] theorem nc102_0 : nilC Try.prog 102 0 = false := by kernel_rfl
@[simp] theorem und102 : Try.prog.underlying 102 = some (.pointer 104) := by kernel_rfl
@[simp] theorem sz103 : szT Try.prog 103 = 5 := by kernel_rfl
@[simp] theorem byt103 : bytT Try.prog 103 = some 120 := by kernel_rfl
@[simp] theorem agg103 : aggT Try.prog 103 = some true := by kernel_rfl
@[simp] theorem zc103 : zeroC Try.prog 103 = some [.slice [], .slice [], .slice [], .slice [], .slice []] := by kernel_rfl
@[simp] theorem nc103_0 : nilC Try.prog 103 0 = true := by kernel_rfl
@[simp] theorem nc103_1 : nilC Try.prog 103 1 = true := by kernel_rfl
@[simp] theorem nc103_2 : nilC Try.prog 103 2 = true := by kernel_rfl
@[simp] theorem nc103_3 : nilC Try.prog 103 3 = true := by kernel_rfl
@[simp] theorem nc103_4 : nilC Try.prog 103 4 = true := by kernel_rfl
@[simp] theorem zs103 : zstr Try.prog 103 = some [.slice [], .slice [], .slice [], .slice [], .slice []] := by kernel_rfl
@[simp] theorem fl103_0 : fldT Try.prog 103 0 = some (0, 25) := by kernel_rfl
@[simp] theorem fl103_1 : fldT Try.prog 103 1 = some (3, 22) := by kernel_rfl
@[simp] theorem fl103_2 : fldT Try.prog 103 2 = some (4, 40) := by kernel_rfl
@[simp] theorem sz104 : szT Try.prog 104 = 5 := by kernel_rfl
@[simp] theorem byt104 : bytT Try.prog 104 = some 120 := by kernel_rfl
@[simp] theorem agg104 : aggT Try.prog 104 = some true := by kernel_rfl
@[simp] theorem zc104 : zeroC Try.prog 104 = some [.slice [], .slice [], .slice [], .slice [], .slice []] := by kernel_rfl
@[simp] theorem nc104_0 : nilC Try.prog 104 0 = true := by kernel_rfl
@[simp] theorem nc104_1 : nilC Try.prog 104 1 = true := by kernel_rfl
@[simp] theorem nc104_2 : nilC Try.prog 104 2 = true := by kernel_rfl
@[simp] theorem nc104_3 : nilC Try.prog 104 3 = true := by kernel_rfl
@[simp] theorem nc104_4 : nilC Try.prog 104 4 = true := by kernel_rfl
@[simp] theorem zs104 : zstr Try.prog 104 = some [.slice [], .slice [], .slice [], .slice [], .slice []] := by kernel_rfl
@[simp] theorem fl104_0 : fldT Try.prog 104 0 = some (0, 25) := by kernel_rfl
@[simp] theorem fl104_1 : fldT Try.prog 104 1 = some (3, 22) := by kernel_rfl
@[simp] theorem fl104_2 : fldT Try.prog 104 2 = some (4, 40) := by kernel_rfl
@[simp] theorem sz105 : szT Try.prog 105 = 1 := by kernel_rfl
@[simp] theorem byt105 : bytT Try.prog 105 = some 8 := by kernel_rfl
@[simp] theorem agg105 : aggT Try.prog 105 = some false := by kernel_rfl
@[simp] theorem zc105 : zeroC Try.prog 105 = some [.opq .nilFunc] := by kernel_rfl
@[simp] theorem nc105_0 : nilC Try.prog 105 0 = false := by kernel_rfl
@[simp] theorem isf105 : isFnT (Try.prog.underlying 105) = true := by kernel_rfl
@[simp] theorem sz107 : szT Try.prog 107 = 1 := by kernel_rfl
@[simp] theorem byt107 : bytT Try.prog 107 = some 8 := by kernel_rfl
@[simp] theorem agg107 : aggT Try.prog 107 = some false := by kernel_rfl
@[simp] theorem zc107 : zeroC Try.prog 107 = some [.opq .nilFunc] := by kernel_rfl
@[simp] theorem nc107_0 : nilC Try.prog 107 0 = false := by kernel_rfl
@[simp] theorem isf107 : isFnT (Try.prog.underlying 107) = true := by kernel_rfl
@[simp] theorem sz108 : szT Try.prog 108 = 1 := by kernel_rfl
@[simp] theorem byt108 : bytT Try.prog 108 = some 8 := by kernel_rfl
@[simp] theorem agg108 : aggT Try.prog 108 = some false := by kernel_rfl
@[simp] theorem zc108 : zeroC Try.prog 108 = some [.opq .nilFunc] := by kernel_rfl
@[simp] theorem nc108_0 : nilC Try.prog 108 0 = false := by kernel_rfl
@[simp] theorem isf108 : isFnT (Try.prog.underlying 108) = true := by kernel_rfl
@[simp] theorem sz109 : szT Try.prog 109 = 1 := by kernel_rfl
@[simp] theorem byt109 : bytT Try.prog 109 = some 8 := by kernel_rfl
@[simp] theorem agg109 : aggT Try.prog 109 = some false := by kernel_rfl
@[simp] theorem zc109 : zeroC Try.prog 109 = some [.opq .nilFunc] := by kernel_rfl
@[simp] theorem nc109_0 : nilC Try.prog 109 0 = false := by kernel_rfl
@[simp] theorem isf109 : isFnT (Try.prog.underlying 109) = true := by kernel_rfl
@[simp] theorem sz110 : szT Try.prog 110 = 1 := by kernel_rfl
@[simp] theorem byt110 : bytT Try.prog 110 = some 8 := by kernel_rfl
@[simp] theorem agg110 : aggT Try.prog 110 = some false := by kernel_rfl
@[simp] theorem zc110 : zeroC Try.prog 110 = some [.opq .nilFunc] := by kernel_rfl
@[simp] theorem nc110_0 : nilC Try.prog 110 0 = false := by kernel_rfl
@[simp] theorem isf110 : isFnT (Try.prog.underlying 110) = true := by kernel_rfl
@[simp] theorem sz111 : szT Try.prog 111 = 1 := by kernel_rfl
@[simp] theorem byt111 : bytT Try.prog 111 = some 8 := by kernel_rfl
@[simp] theorem agg111 : aggT Try.prog 111 = some false := by kernel_rfl
@[simp] theorem zc111 : zeroC Try.prog 111 = some [.opq .nilFunc] := by kernel_rfl
@[simp] theorem nc111_0 : nilC Try.prog 111 0 = false := by kernel_rfl
@[simp] theorem isf111 : isFnT (Try.prog.underlying 111) = true := by kernel_rfl
@[simp] theorem sz112 : szT Try.prog 112 = 1 := by kernel_rfl
@[simp] theorem byt112 : bytT Try.prog 112 = some 8 := by kernel_rfl
@[simp] theorem agg112 : aggT Try.prog 112 = some false := by kernel_rfl
@[simp] theorem zc112 : zeroC Try.prog 112 = some [.opq .nilFunc] := by kernel_rfl
@[simp] theorem nc112_0 : nilC Try.prog 112 0 = false := by kernel_rfl
@[simp] theorem isf112 : isFnT (Try.prog.underlying 112) = true := by kernel_rfl
@[simp] theorem sz113 : szT Try.prog 113 = 1 := by kernel_rfl
@[simp] theorem byt113 : bytT Try.prog 113 = some 8 := by kernel_rfl
@[simp] theorem agg113 : aggT Try.prog 113 = some false := by kernel_rfl
@[simp] theorem zc113 : zeroC Try.prog 113 = some [.opq .nilFunc] := by kernel_rfl
@[simp] theorem nc113_0 : nilC Try.prog 113 0 = false := by kernel_rfl
@[simp] theorem isf113 : isFnT (Try.prog.underlying 113) = true := by kernel_rfl
@[simp] theorem sz114 : szT Try.prog 114 = 1 := by kernel_rfl
@[simp] theorem byt114 : bytT Try.prog 114 = some 8 := by kernel_rfl
@[simp] theorem agg114 : aggT Try.prog 114 = some false := by kernel_rfl
@[simp] theorem zc114 : zeroC Try.prog 114 = some [.opq .nilFunc] := by kernel_rfl
@[simp] theorem nc114_0 : nilC Try.prog 114 0 = false := by kernel_rfl
@[simp] theorem isf114 : isFnT (Try.prog.underlying 114) = true := by kernel_rfl
@[simp] theorem sz115 : szT Try.prog 115 = 1 := by kernel_rfl
@[simp] theorem byt115 : bytT Try.prog 115 = some 8 := by kernel_rfl
@[simp] theorem agg115 : aggT Try.prog 115 = some false := by kernel_rfl
@[simp] theorem zc115 : zeroC Try.prog 115 = some [.opq (.map none)] := by kernel_rfl
@[simp] theorem nc115_0 : nilC Try.prog 115 0 = false := by kernel_rfl
@[simp] theorem mp115 : mpT Try.prog 115 = some (.int .i64, 114) := by kernel_rfl
@[simp] theorem mz115 : (zeroT Try.prog 114).map ofConst = some (.d (.opq .nilFunc)) := by kernel_rfl
@[simp] theorem sz116 : szT Try.prog 116 = 1 := by kernel_rfl
@[simp] theorem byt116 : bytT Try.prog 116 = some 8 := by kernel_rfl
@[simp] theorem agg116 : aggT Try.prog 116 = some false := by kernel_rfl
@[simp] theorem zc116 : zeroC Try.prog 116 = some [.opq (.pointer none)] := by kernel_rfl
@[simp] theorem nc116_0 : nilC Try.prog 116 0 = false := by kernel_rfl
@[simp] theorem und116 : Try.prog.underlying 116 = some (.pointer 25) := by kernel_rfl
@[simp] theorem sz117 : szT Try.prog 117 = 1 := by kernel_rfl
@[simp] theorem byt117 : bytT Try.prog 117 = some 8 := by kernel_rfl
@[simp] theorem agg117 : aggT Try.prog 117 = some false := by kernel_rfl
@[simp] theorem zc117 : zeroC Try.prog 117 = some [.int .u64 0] := by kernel_rfl
@[simp] theorem nc117_0 : nilC Try.prog 117 0 = false := by kernel_rfl
@[simp] theorem und117 : Try.prog.underlying 117 = some (.int .u64) := by kernel_rfl
@[simp] theorem sz118 : szT Try.prog 118 = 1 := by kernel_rfl
@[simp] theorem byt118 : bytT Try.prog 118 = some 8 := by kernel_rfl
@[simp] theorem agg118 : aggT Try.prog 118 = some false := by kernel_rfl
@[simp] theorem zc118 : zeroC Try.prog 118 = some [.opq .nilFunc] := by kernel_rfl
@[simp] theorem nc118_0 : nilC Try.prog 118 0 = false := by kernel_rfl
@[simp] theorem isf118 : isFnT (Try.prog.underlying 118) = true := by kernel_rfl
@[simp] theorem sz119 : szT Try.prog 119 = 1 := by kernel_rfl
@[simp] theorem byt119 : bytT Try.prog 119 = some 8 := by kernel_rfl
@[simp] theorem agg119 : aggT Try.prog 119 = some false := by kernel_rfl
@[simp] theorem zc119 : zeroC Try.prog 119 = some [.opq .nilFunc] := by kernel_rfl
@[simp] theorem nc119_0 : nilC Try.prog 119 0 = false := by kernel_rfl
@[simp] theorem isf119 : isFnT (Try.prog.underlying 119) = true := by kernel_rfl
@[simp] theorem sz120 : szT Try.prog 120 = 1 := by kernel_rfl
@[simp] theorem byt120 : bytT Try.prog 120 = some 24 := by kernel_rfl
@[simp] theorem agg120 : aggT Try.prog 120 = some false := by kernel_rfl
@[simp] theorem zc120 : zeroC Try.prog 120 = some [.slice []] := by kernel_rfl
@[simp] theorem nc120_0 : nilC Try.prog 120 0 = true := by kernel_rfl
@[simp] theorem el120 : elT Try.prog 120 = some 23 := by kernel_rfl
@[simp] theorem und120 : Try.prog.underlying 120 = some (.slice 23) := by kernel_rfl
@[simp] theorem bz120 : bslZ Try.prog 120 = true := by kernel_rfl
@[simp] theorem es120 : eSz Try.prog 120 = 1 := by kernel_rfl
@[simp] theorem e1120 : el1 Try.prog 120 = some (1, false) := by kernel_rfl
@[simp] theorem ae120 : agE Try.prog 120 = some false := by kernel_rfl
@[simp] theorem ap120 : apT Try.prog 120 = some (1, 24, .slice [], true) := by kernel_rfl
@[simp] theorem sz121 : szT Try.prog 121 = 1 := by kernel_rfl
@[simp] theorem byt121 : bytT Try.prog 121 = some 8 := by kernel_rfl
@[simp] theorem agg121 : aggT Try.prog 121 = some false := by kernel_rfl
@[simp] theorem zc121 : zeroC Try.prog 121 = some [.opq .nilFunc] := by kernel_rfl
@[simp] theorem nc121_0 : nilC Try.prog 121 0 = false := by kernel_rfl
@[simp] theorem isf121 : isFnT (Try.prog.underlying 121) = true := by kernel_rfl
@[simp] theorem sz122 : szT Try.prog 122 = 1 := by kernel_rfl
@[simp] theorem byt122 : bytT Try.prog 122 = some 8 := by kernel_rfl
@[simp] theorem agg122 : aggT Try.prog 122 = some false := by kernel_rfl
@[simp] theorem zc122 : zeroC Try.prog 122 = some [.opq .nilFunc] := by kernel_rfl
@[simp] theorem nc122_0 : nilC Try.prog 122 0 = false := by kernel_rfl
@[simp] theorem isf122 : isFnT (Try.prog.underlying 122) = true := by kernel_rfl
@[simp] theorem sz123 : szT Try.prog 123 = 1 := by kernel_rfl
@[simp] theorem byt123 : bytT Try.prog 123 = some 8 := by kernel_rfl
@[simp] theorem agg123 : aggT Try.prog 123 = some false := by kernel_rfl
@[simp] theorem zc123 : zeroC Try.prog 123 = some [.opq .nilFunc] := by kernel_rfl
@[simp] theorem nc123_0 : nilC Try.prog 123 0 = false := by kernel_rfl
@[simp] theorem isf123 : isFnT (Try.prog.underlying 123) = true := by kernel_rfl
@[simp] theorem sz124 : szT Try.prog 124 = 1 := by kernel_rfl
@[simp] theorem byt124 : bytT Try.prog 124 = some 8 := by kernel_rfl
@[simp] theorem agg124 : aggT Try.prog 124 = some false := by kernel_rfl
@[simp] theorem zc124 : zeroC Try.prog 124 = some [.opq .nilFunc] := by kernel_rfl
@[simp] theorem nc124_0 : nilC Try.prog 124 0 = false := by kernel_rfl
@[simp] theorem isf124 : isFnT (Try.prog.underlying 124) = true := by kernel_rfl
@[simp] theorem sz125 : szT Try.prog 125 = 1 := by kernel_rfl
@[simp] theorem byt125 : bytT Try.prog 125 = some 8 := by kernel_rfl
@[simp] theorem agg125 : aggT Try.prog 125 = some false := by kernel_rfl
@[simp] theorem zc125 : zeroC Try.prog 125 = some [.opq .nilFunc] := by kernel_rfl
@[simp] theorem nc125_0 : nilC Try.prog 125 0 = false := by kernel_rfl
@[simp] theorem isf125 : isFnT (Try.prog.underlying 125) = true := by kernel_rfl
@[simp] theorem sz126 : szT Try.prog 126 = 1 := by kernel_rfl
@[simp] theorem byt126 : bytT Try.prog 126 = some 8 := by kernel_rfl
@[simp] theorem agg126 : aggT Try.prog 126 = some false := by kernel_rfl
@[simp] theorem zc126 : zeroC Try.prog 126 = some [.opq .nilFunc] := by kernel_rfl
@[simp] theorem nc126_0 : nilC Try.prog 126 0 = false := by kernel_rfl
@[simp] theorem isf126 : isFnT (Try.prog.underlying 126) = true := by kernel_rfl
@[simp] theorem sz127 : szT Try.prog 127 = 1 := by kernel_rfl
@[simp] theorem byt127 : bytT Try.prog 127 = some 24 := by kernel_rfl
@[simp] theorem agg127 : aggT Try.prog 127 = some false := by kernel_rfl
@[simp] theorem zc127 : zeroC Try.prog 127 = some [.slice []] := by kernel_rfl
@[simp] theorem nc127_0 : nilC Try.prog 127 0 = true := by kernel_rfl
@[simp] theorem el127 : elT Try.prog 127 = some 4 := by kernel_rfl
@[simp] theorem und127 : Try.prog.underlying 127 = some (.slice 4) := by kernel_rfl
@[simp] theorem bz127 : bslZ Try.prog 127 = true := by kernel_rfl
@[simp] theorem es127 : eSz Try.prog 127 = 1 := by kernel_rfl
@[simp] theorem e1127 : el1 Try.prog 127 = some (1, false) := by kernel_rfl
@[simp] theorem ae127 : agE Try.prog 127 = some false := by kernel_rfl
@[simp] theorem ap127 : apT Try.prog 127 = some (1, 1, .bool false, true) := by kernel_rfl
@[simp] theorem sz128 : szT Try.prog 128 = 1 := by kernel_rfl
@[simp] theorem byt128 : bytT Try.prog 128 = some 8 := by kernel_rfl
@[simp] theorem agg128 : aggT Try.prog 128 = some false := by kernel_rfl
@[simp] theorem zc128 : zeroC Try.prog 128 = some [.opq .nilFunc] := by kernel_rfl
@[simp] theorem nc128_0 : nilC Try.prog 128 0 = false := by kernel_rfl
@[simp] theorem isf128 : isFnT (Try.prog.underlying 128) = true := by kernel_rfl
@[simp] theorem sz129 : szT Try.prog 129 = 1 := by kernel_rfl
@[simp] theorem byt129 : bytT Try.prog 129 = some 8 := by kernel_rfl
@[simp] theorem agg129 : aggT Try.prog 129 = some false := by kernel_rfl
@[simp] theorem zc129 : zeroC Try.prog 129 = some [.opq .nilFunc] := by kernel_rfl
@[simp] theorem nc129_0 : nilC Try.prog 129 0 = false := by kernel_rfl
@[simp] theorem isf129 : isFnT (Try.prog.underlying 129) = true := by kernel_rfl
@[simp] theorem sz130 : szT Try.prog 130 = 1 := by kernel_rfl
@[simp] theorem byt130 : bytT Try.prog 130 = some 8 := by kernel_rfl
@[simp] theorem agg130 : aggT Try.prog 130 = some false := by kernel_rfl
@[simp] theorem zc130 : zeroC Try.prog 130 = some [.opq .nilFunc] := by kernel_rfl
@[simp] theorem nc130_0 : nilC Try.prog 130 0 = false := by kernel_rfl
@[simp] theorem isf130 : isFnT (Try.prog.underlying 130) = true := by kernel_rfl
@[simp] theorem sz136 : szT Try.prog 136 = 1 := by kernel_rfl
@[simp] theorem byt136 : bytT Try.prog 136 = some 8 := by kernel_rfl
@[simp] theorem agg136 : aggT Try.prog 136 = some false := by kernel_rfl
@[simp] theorem zc136 : zeroC Try.prog 136 = some [.opq .nilFunc] := by kernel_rfl
@[simp] theorem nc136_0 : nilC Try.prog 136 0 = false := by kernel_rfl
@[simp] theorem isf136 : isFnT (Try.prog.underlying 136) = true := by kernel_rfl
@[simp] theorem sz139 : szT Try.prog 139 = 1 := by kernel_rfl
@[simp] theorem byt139 : bytT Try.prog 139 = some 8 := by kernel_rfl
@[simp] theorem agg139 : aggT Try.prog 139 = some false := by kernel_rfl
@[simp] theorem zc139 : zeroC Try.prog 139 = some [.opq .nilFunc] := by kernel_rfl
@[simp] theorem nc139_0 : nilC Try.prog 139 0 = false := by kernel_rfl
@[simp] theorem isf139 : isFnT (Try.prog.underlying 139) = true := by kernel_rfl
@[simp] theorem sz140 : szT Try.prog 140 = 1 := by kernel_rfl
@[simp] theorem byt140 : bytT Try.prog 140 = some 8 := by kernel_rfl
@[simp] theorem agg140 : aggT Try.prog 140 = some false := by kernel_rfl
@[simp] theorem zc140 : zeroC Try.prog 140 = some [.opq (.pointer none)] := by kernel_rfl
@[simp] theorem nc140_0 : nilC Try.prog 140 0 = false := by kernel_rfl
@[simp] theorem und140 : Try.prog.underlying 140 = some (.pointer 5) := by kernel_rfl
@[simp] theorem sz143 : szT Try.prog 143 = 11 := by kernel_rfl
@[simp] theorem byt143 : bytT Try.prog 143 = some 48 := by kernel_rfl
@[simp] theorem agg143 : aggT Try.prog 143 = some true := by kernel_rfl
@[simp] theorem zc143 : zeroC Try.prog 143 = some [.int .u64 0, .int .u64 0, .int .u32 0, .int .u8 0, .int .u8 0, .int .u8 0, .int .u8 0, .opq .nilFunc, .opq (.pointer none), .int .i32 0, .int .i32 0] := by kernel_rfl
@[simp] theorem nc143_0 : nilC Try.prog 143 0 = false := by kernel_rfl
@[simp] theorem nc143_1 : nilC Try.prog 143 1 = false := by kernel_rfl
@[simp] theorem nc143_2 : nilC Try.prog 143 2 = false := by kernel_rfl
@[simp] theorem nc143_3 : nilC Try.prog 143 3 = false := by kernel_rfl
@[simp] theorem nc143_4 : nilC Try.prog 143 4 = false := by kernel_rfl
@[simp] theorem nc143_5 : nilC Try.prog 143 5 = false := by kernel_rfl
@[simp] theorem nc143_6 : nilC Try.prog 143 6 = false := by kernel_rfl
@[simp] theorem nc143_7 : nilC Try.prog 143 7 = false := by kernel_rfl
@[simp] theorem nc143_8 : nilC Try.prog 143 8 = false := by kernel_rfl
@[simp] theorem nc143_9 : nilC Try.prog 143 9 = false := by kernel_rfl
@[simp] theorem nc143_10 : nilC Try.prog 143 10 = false := by kernel_rfl
@[simp] theorem zs143 : zstr Try.prog 143 = some [.int .u64 0, .int .u64 0, .int .u32 0, .int .u8 0, .int .u8 0, .int .u8 0, .int .u8 0, .opq .nilFunc, .opq (.pointer none), .int .i32 0, .int .i32 0] := by kernel_rfl
@[simp] theorem fl143_0 : fldT Try.prog 143 0 = some (0, 12) := by kernel_rfl
@[simp] theorem fl143_1 : fldT Try.prog 143 1 = some (1, 12) := by kernel_rfl
@[simp] theorem fl143_2 : fldT Try.prog 143 2 = some (2, 97) := by kernel_rfl
@[simp] theorem fl143_3 : fldT Try.prog 143 3 = some (3, 137) := by kernel_rfl
@[simp] theorem fl143_4 : fldT Try.prog 143 4 = some (4, 5) := by kernel_rfl
@[simp] theorem fl143_5 : fldT Try.prog 143 5 = some (5, 5) := by kernel_rfl
@[simp] theorem fl143_6 : fldT Try.prog 143 6 = some (6, 138) := by kernel_rfl
@[simp] theorem fl143_7 : fldT Try.prog 143 7 = some (7, 139) := by kernel_rfl
@[simp] theorem fl143_8 : fldT Try.prog 143 8 = some (8, 140) := by kernel_rfl
@[simp] theorem fl143_9 : fldT Try.prog 143 9 = some (9, 141) := by kernel_rfl
@[simp] theorem fl143_10 : fldT Try.prog 143 10 = some (10, 142) := by kernel_rfl
end Go.Proofs.Ytbgjjplnnjflfaa
