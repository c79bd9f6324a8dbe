/- The facts on this seat's types that the engine asks for, each by reckoning. PRINTED by types.py. -/
import Derived.Test.YtkbidfohcanijaaEngZ
import Derived.Test.YtkbidfohcanijaaProg
import Derived.KernelRfl
namespace Go.Proofs.Ytkbidfohcanijaa
open BoEng
set_option maxRecDepth 100000
@[simp] theorem sz1 : szT Try.prog 1 = 1 := by kernel_rfl
@[simp] theorem byt1 : bytT Try.prog 1 = some 8 := by kernel_rfl
@[simp] theorem agg1 : aggT Try.prog 1 = some false := by kernel_rfl
@[simp] theorem zc1 : zeroC Try.prog 1 = some [.opq .nilFunc] := by kernel_rfl
@[simp] theorem nc1_0 : nilC Try.prog 1 0 = false := by kernel_rfl
@[simp] theorem isf1 : isFnT (Try.prog.underlying 1) = true := by kernel_rfl
@[simp] theorem sz2 : szT Try.prog 2 = 1 := by kernel_rfl
@[simp] theorem byt2 : bytT Try.prog 2 = some 8 := by kernel_rfl
@[simp] theorem agg2 : aggT Try.prog 2 = some false := by kernel_rfl
@[simp] theorem zc2 : zeroC Try.prog 2 = some [.int .i64 0] := by kernel_rfl
@[simp] theorem nc2_0 : nilC Try.prog 2 0 = false := by kernel_rfl
@[simp] theorem und2 : Try.prog.underlying 2 = some (.int .i64) := by kernel_rfl
@[simp] theorem sz3 : szT Try.prog 3 = 1 := by kernel_rfl
@[simp] theorem byt3 : bytT Try.prog 3 = some 8 := by kernel_rfl
@[simp] theorem agg3 : aggT Try.prog 3 = some false := by kernel_rfl
@[simp] theorem zc3 : zeroC Try.prog 3 = some [.int .i64 0] := by kernel_rfl
@[simp] theorem nc3_0 : nilC Try.prog 3 0 = false := by kernel_rfl
@[simp] theorem und3 : Try.prog.underlying 3 = some (.int .i64) := by kernel_rfl
@[simp] theorem sz4 : szT Try.prog 4 = 1 := by kernel_rfl
@[simp] theorem byt4 : bytT Try.prog 4 = some 1 := by kernel_rfl
@[simp] theorem agg4 : aggT Try.prog 4 = some false := by kernel_rfl
@[simp] theorem zc4 : zeroC Try.prog 4 = some [.bool false] := by kernel_rfl
@[simp] theorem nc4_0 : nilC Try.prog 4 0 = false := by kernel_rfl
@[simp] theorem und4 : Try.prog.underlying 4 = some .bool := by kernel_rfl
@[simp] theorem sz5 : szT Try.prog 5 = 1 := by kernel_rfl
@[simp] theorem byt5 : bytT Try.prog 5 = some 1 := by kernel_rfl
@[simp] theorem agg5 : aggT Try.prog 5 = some false := by kernel_rfl
@[simp] theorem zc5 : zeroC Try.prog 5 = some [.int .u8 0] := by kernel_rfl
@[simp] theorem nc5_0 : nilC Try.prog 5 0 = false := by kernel_rfl
@[simp] theorem und5 : Try.prog.underlying 5 = some (.int .u8) := by kernel_rfl
@[simp] theorem sz9 : szT Try.prog 9 = 1 := by kernel_rfl
@[simp] theorem byt9 : bytT Try.prog 9 = some 16 := by kernel_rfl
@[simp] theorem agg9 : aggT Try.prog 9 = some false := by kernel_rfl
@[simp] theorem zc9 : zeroC Try.prog 9 = some [.str []] := by kernel_rfl
@[simp] theorem nc9_0 : nilC Try.prog 9 0 = false := by kernel_rfl
@[simp] theorem und9 : Try.prog.underlying 9 = some .string := by kernel_rfl
@[simp] theorem sz12 : szT Try.prog 12 = 1 := by kernel_rfl
@[simp] theorem byt12 : bytT Try.prog 12 = some 8 := by kernel_rfl
@[simp] theorem agg12 : aggT Try.prog 12 = some false := by kernel_rfl
@[simp] theorem zc12 : zeroC Try.prog 12 = some [.int .u64 0] := by kernel_rfl
@[simp] theorem nc12_0 : nilC Try.prog 12 0 = false := by kernel_rfl
@[simp] theorem und12 : Try.prog.underlying 12 = some (.int .u64) := by kernel_rfl
@[simp] theorem sz15 : szT Try.prog 15 = 1 := by kernel_rfl
@[simp] theorem byt15 : bytT Try.prog 15 = some 8 := by kernel_rfl
@[simp] theorem agg15 : aggT Try.prog 15 = some false := by kernel_rfl
@[simp] theorem zc15 : zeroC Try.prog 15 = some [.opq (.pointer none)] := by kernel_rfl
@[simp] theorem nc15_0 : nilC Try.prog 15 0 = false := by kernel_rfl
@[simp] theorem und15 : Try.prog.underlying 15 = some (.pointer 168) := by kernel_rfl
@[simp] theorem sz16 : szT Try.prog 16 = 1 := by kernel_rfl
@[simp] theorem byt16 : bytT Try.prog 16 = some 8 := by kernel_rfl
@[simp] theorem agg16 : aggT Try.prog 16 = some false := by kernel_rfl
@[simp] theorem zc16 : zeroC Try.prog 16 = some [.opq (.pointer none)] := by kernel_rfl
@[simp] theorem nc16_0 : nilC Try.prog 16 0 = false := by kernel_rfl
@[simp] theorem und16 : Try.prog.underlying 16 = some (.pointer 171) := by kernel_rfl
@[simp] theorem sz17 : szT Try.prog 17 = 1 := by kernel_rfl
@[simp] theorem byt17 : bytT Try.prog 17 = some 8 := by kernel_rfl
@[simp] theorem agg17 : aggT Try.prog 17 = some false := by kernel_rfl
@[simp] theorem zc17 : zeroC Try.prog 17 = some [.opq (.pointer none)] := by kernel_rfl
@[simp] theorem nc17_0 : nilC Try.prog 17 0 = false := by kernel_rfl
@[simp] theorem und17 : Try.prog.underlying 17 = some (.pointer 180) := by kernel_rfl
@[simp] theorem sz20 : szT Try.prog 20 = 1 := by kernel_rfl
@[simp] theorem byt20 : bytT Try.prog 20 = some 16 := by kernel_rfl
@[simp] theorem agg20 : aggT Try.prog 20 = some false := by kernel_rfl
@[simp] theorem zc20 : zeroC Try.prog 20 = some [.opq .nilIface] := by kernel_rfl
@[simp] theorem nc20_0 : nilC Try.prog 20 0 = false := by kernel_rfl
@[simp] theorem sz21 : szT Try.prog 21 = 1 := by kernel_rfl
@[simp] theorem byt21 : bytT Try.prog 21 = some 4 := by kernel_rfl
@[simp] theorem agg21 : aggT Try.prog 21 = some false := by kernel_rfl
@[simp] theorem zc21 : zeroC Try.prog 21 = some [.int .i32 0] := by kernel_rfl
@[simp] theorem nc21_0 : nilC Try.prog 21 0 = false := by kernel_rfl
@[simp] theorem und21 : Try.prog.underlying 21 = some (.int .i32) := by kernel_rfl
@[simp] theorem sz22 : szT Try.prog 22 = 1 := by kernel_rfl
@[simp] theorem byt22 : bytT Try.prog 22 = some 24 := by kernel_rfl
@[simp] theorem agg22 : aggT Try.prog 22 = some false := by kernel_rfl
@[simp] theorem zc22 : zeroC Try.prog 22 = some [.slice []] := by kernel_rfl
@[simp] theorem nc22_0 : nilC Try.prog 22 0 = true := by kernel_rfl
@[simp] theorem el22 : elT Try.prog 22 = some 51 := by kernel_rfl
@[simp] theorem und22 : Try.prog.underlying 22 = some (.slice 51) := by kernel_rfl
@[simp] theorem bz22 : bslZ Try.prog 22 = true := by kernel_rfl
@[simp] theorem es22 : eSz Try.prog 22 = 4 := by kernel_rfl
@[simp] theorem e122 : el1 Try.prog 22 = some (4, true) := by kernel_rfl
@[simp] theorem ae22 : agE Try.prog 22 = some true := by kernel_rfl
@[simp] theorem ap22 : apT Try.prog 22 = some (4, 40, .opq (.agg #[.int .i64 0, .int .i64 0, .int .i64 0, .string ByteArray.empty]), false) := by kernel_rfl
@[simp] theorem sz23 : szT Try.prog 23 = 1 := by kernel_rfl
@[simp] theorem byt23 : bytT Try.prog 23 = some 8 := by kernel_rfl
@[simp] theorem agg23 : aggT Try.prog 23 = some false := by kernel_rfl
@[simp] theorem zc23 : zeroC Try.prog 23 = some [.opq .nilFunc] := by kernel_rfl
@[simp] theorem nc23_0 : nilC Try.prog 23 0 = false := by kernel_rfl
@[simp] theorem isf23 : isFnT (Try.prog.underlying 23) = true := by kernel_rfl
@[simp] theorem sz24 : szT Try.prog 24 = 1 := by kernel_rfl
@[simp] theorem byt24 : bytT Try.prog 24 = some 8 := by kernel_rfl
@[simp] theorem agg24 : aggT Try.prog 24 = some false := by kernel_rfl
@[simp] theorem zc24 : zeroC Try.prog 24 = some [.opq .nilFunc] := by kernel_rfl
@[simp] theorem nc24_0 : nilC Try.prog 24 0 = false := by kernel_rfl
@[simp] theorem isf24 : isFnT (Try.prog.underlying 24) = true := by kernel_rfl
@[simp] theorem sz25 : szT Try.prog 25 = 1 := by kernel_rfl
@[simp] theorem byt25 : bytT Try.prog 25 = some 8 := by kernel_rfl
@[simp] theorem agg25 : aggT Try.prog 25 = some false := by kernel_rfl
@[simp] theorem zc25 : zeroC Try.prog 25 = some [.opq .nilFunc] := by kernel_rfl
@[simp] theorem nc25_0 : nilC Try.prog 25 0 = false := by kernel_rfl
@[simp] theorem isf25 : isFnT (Try.prog.underlying 25) = true := by kernel_rfl
@[simp] theorem sz26 : szT Try.prog 26 = 1 := by kernel_rfl
@[simp] theorem byt26 : bytT Try.prog 26 = some 8 := by kernel_rfl
@[simp] theorem agg26 : aggT Try.prog 26 = some false := by kernel_rfl
@[simp] theorem zc26 : zeroC Try.prog 26 = some [.opq .nilFunc] := by kernel_rfl
@[simp] theorem nc26_0 : nilC Try.prog 26 0 = false := by kernel_rfl
@[simp] theorem isf26 : isFnT (Try.prog.underlying 26) = true := by kernel_rfl
@[simp] theorem sz27 : szT Try.prog 27 = 1 := by kernel_rfl
@[simp] theorem byt27 : bytT Try.prog 27 = some 24 := by kernel_rfl
@[simp] theorem agg27 : aggT Try.prog 27 = some false := by kernel_rfl
@[simp] theorem zc27 : zeroC Try.prog 27 = some [.slice []] := by kernel_rfl
@[simp] theorem nc27_0 : nilC Try.prog 27 0 = true := by kernel_rfl
@[simp] theorem el27 : elT Try.prog 27 = some 85 := by kernel_rfl
@[simp] theorem und27 : Try.prog.underlying 27 = some (.slice 85) := by kernel_rfl
@[simp] theorem bz27 : bslZ Try.prog 27 = true := by kernel_rfl
@[simp] theorem es27 : eSz Try.prog 27 = 2 := by kernel_rfl
@[simp] theorem e127 : el1 Try.prog 27 = some (2, true) := by kernel_rfl
@[simp] theorem ae27 : agE Try.prog 27 = some true := by kernel_rfl
@[simp] theorem ap27 : apT Try.prog 27 = some (2, 32, .opq (.agg #[.slice none 0 0, .int .i64 0]), false) := by kernel_rfl
@[simp] theorem sz28 : szT Try.prog 28 = 1 := by kernel_rfl
@[simp] theorem byt28 : bytT Try.prog 28 = some 24 := by kernel_rfl
@[simp] theorem agg28 : aggT Try.prog 28 = some false := by kernel_rfl
@[simp] theorem zc28 : zeroC Try.prog 28 = some [.slice []] := by kernel_rfl
@[simp] theorem nc28_0 : nilC Try.prog 28 0 = true := by kernel_rfl
@[simp] theorem el28 : elT Try.prog 28 = some 90 := by kernel_rfl
@[simp] theorem und28 : Try.prog.underlying 28 = some (.slice 90) := by kernel_rfl
@[simp] theorem bz28 : bslZ Try.prog 28 = true := by kernel_rfl
@[simp] theorem es28 : eSz Try.prog 28 = 2 := by kernel_rfl
@[simp] theorem e128 : el1 Try.prog 28 = some (2, true) := by kernel_rfl
@[simp] theorem ae28 : agE Try.prog 28 = some true := by kernel_rfl
@[simp] theorem ap28 : apT Try.prog 28 = some (2, 24, .opq (.agg #[.string ByteArray.empty, .int .i64 0]), false) := by kernel_rfl
@[simp] theorem sz29 : szT Try.prog 29 = 3 := by kernel_rfl
@[simp] theorem byt29 : bytT Try.prog 29 = some 72 := by kernel_rfl
@[simp] theorem agg29 : aggT Try.prog 29 = some true := by kernel_rfl
@[simp] theorem zc29 : zeroC Try.prog 29 = some [.slice [], .slice [], .slice []] := by kernel_rfl
@[simp] theorem nc29_0 : nilC Try.prog 29 0 = true := by kernel_rfl
@[simp] theorem nc29_1 : nilC Try.prog 29 1 = true := by kernel_rfl
@[simp] theorem nc29_2 : nilC Try.prog 29 2 = true := by kernel_rfl
@[simp] theorem zs29 : zstr Try.prog 29 = some [.slice [], .slice [], .slice []] := by kernel_rfl
@[simp] theorem fl29_0 : fldT Try.prog 29 0 = some (0, 27) := by kernel_rfl
@[simp] theorem fl29_1 : fldT Try.prog 29 1 = some (1, 28) := by kernel_rfl
@[simp] theorem fl29_2 : fldT Try.prog 29 2 = some (2, 28) := by kernel_rfl
@[simp] theorem sz30 : szT Try.prog 30 = 3 := by kernel_rfl
@[simp] theorem byt30 : bytT Try.prog 30 = some 72 := by kernel_rfl
@[simp] theorem agg30 : aggT Try.prog 30 = some true := by kernel_rfl
@[simp] theorem zc30 : zeroC Try.prog 30 = some [.slice [], .slice [], .slice []] := by kernel_rfl
@[simp] theorem nc30_0 : nilC Try.prog 30 0 = true := by kernel_rfl
@[simp] theorem nc30_1 : nilC Try.prog 30 1 = true := by kernel_rfl
@[simp] theorem nc30_2 : nilC Try.prog 30 2 = true := by kernel_rfl
@[simp] theorem zs30 : zstr Try.prog 30 = some [.slice [], .slice [], .slice []] := by kernel_rfl
@[simp] theorem fl30_0 : fldT Try.prog 30 0 = some (0, 27) := by kernel_rfl
@[simp] theorem fl30_1 : fldT Try.prog 30 1 = some (1, 28) := by kernel_rfl
@[simp] theorem fl30_2 : fldT Try.prog 30 2 = some (2, 28) := by kernel_rfl
@[simp] theorem sz31 : szT Try.prog 31 = 1 := by kernel_rfl
@[simp] theorem byt31 : bytT Try.prog 31 = some 8 := by kernel_rfl
@[simp] theorem agg31 : aggT Try.prog 31 = some false := by kernel_rfl
@[simp] theorem zc31 : zeroC Try.prog 31 = some [.opq .nilFunc] := by kernel_rfl
@[simp] theorem nc31_0 : nilC Try.prog 31 0 = false := by kernel_rfl
@[simp] theorem isf31 : isFnT (Try.prog.underlying 31) = true := by kernel_rfl
@[simp] theorem sz32 : szT Try.prog 32 = 1 := by kernel_rfl
@[simp] theorem byt32 : bytT Try.prog 32 = some 8 := by kernel_rfl
@[simp] theorem agg32 : aggT Try.prog 32 = some false := by kernel_rfl
@[simp] theorem zc32 : zeroC Try.prog 32 = some [.opq .nilFunc] := by kernel_rfl
@[simp] theorem nc32_0 : nilC Try.prog 32 0 = false := by kernel_rfl
@[simp] theorem isf32 : isFnT (Try.prog.underlying 32) = true := by kernel_rfl
@[simp] theorem sz33 : szT Try.prog 33 = 1 := by kernel_rfl
@[simp] theorem byt33 : bytT Try.prog 33 = some 8 := by kernel_rfl
@[simp] theorem agg33 : aggT Try.prog 33 = some false := by kernel_rfl
@[simp] theorem zc33 : zeroC Try.prog 33 = some [.opq .nilFunc] := by kernel_rfl
@[simp] theorem nc33_0 : nilC Try.prog 33 0 = false := by kernel_rfl
@[simp] theorem isf33 : isFnT (Try.prog.underlying 33) = true := by kernel_rfl
@[simp] theorem sz34 : szT Try.prog 34 = 1 := by kernel_rfl
@[simp] theorem byt34 : bytT Try.prog 34 = some 24 := by kernel_rfl
@[simp] theorem agg34 : aggT Try.prog 34 = some false := by kernel_rfl
@[simp] theorem zc34 : zeroC Try.prog 34 = some [.slice []] := by kernel_rfl
@[simp] theorem nc34_0 : nilC Try.prog 34 0 = true := by kernel_rfl
@[simp] theorem el34 : elT Try.prog 34 = some 88 := by kernel_rfl
@[simp] theorem und34 : Try.prog.underlying 34 = some (.slice 88) := by kernel_rfl
@[simp] theorem bz34 : bslZ Try.prog 34 = true := by kernel_rfl
@[simp] theorem es34 : eSz Try.prog 34 = 2 := by kernel_rfl
@[simp] theorem e134 : el1 Try.prog 34 = some (2, true) := by kernel_rfl
@[simp] theorem ae34 : agE Try.prog 34 = some true := by kernel_rfl
@[simp] theorem ap34 : apT Try.prog 34 = some (2, 32, .opq (.agg #[.slice none 0 0, .int .i64 0]), false) := by kernel_rfl
@[simp] theorem sz35 : szT Try.prog 35 = 1 := by kernel_rfl
@[simp] theorem byt35 : bytT Try.prog 35 = some 24 := by kernel_rfl
@[simp] theorem agg35 : aggT Try.prog 35 = some false := by kernel_rfl
@[simp] theorem zc35 : zeroC Try.prog 35 = some [.slice []] := by kernel_rfl
@[simp] theorem nc35_0 : nilC Try.prog 35 0 = true := by kernel_rfl
@[simp] theorem el35 : elT Try.prog 35 = some 91 := by kernel_rfl
@[simp] theorem und35 : Try.prog.underlying 35 = some (.slice 91) := by kernel_rfl
@[simp] theorem bz35 : bslZ Try.prog 35 = true := by kernel_rfl
@[simp] theorem es35 : eSz Try.prog 35 = 2 := by kernel_rfl
@[simp] theorem e135 : el1 Try.prog 35 = some (2, true) := by kernel_rfl
@[simp] theorem ae35 : agE Try.prog 35 = some true := by kernel_rfl
@[simp] theorem ap35 : apT Try.prog 35 = some (2, 24, .opq (.agg #[.string ByteArray.empty, .int .i64 0]), false) := by kernel_rfl
@[simp] theorem sz36 : szT Try.prog 36 = 3 := by kernel_rfl
@[simp] theorem byt36 : bytT Try.prog 36 = some 72 := by kernel_rfl
@[simp] theorem agg36 : aggT Try.prog 36 = some true := by kernel_rfl
@[simp] theorem zc36 : zeroC Try.prog 36 = some [.slice [], .slice [], .slice []] := by kernel_rfl
@[simp] theorem nc36_0 : nilC Try.prog 36 0 = true := by kernel_rfl
@[simp] theorem nc36_1 : nilC Try.prog 36 1 = true := by kernel_rfl
@[simp] theorem nc36_2 : nilC Try.prog 36 2 = true := by kernel_rfl
@[simp] theorem zs36 : zstr Try.prog 36 = some [.slice [], .slice [], .slice []] := by kernel_rfl
@[simp] theorem fl36_0 : fldT Try.prog 36 0 = some (0, 34) := by kernel_rfl
@[simp] theorem fl36_1 : fldT Try.prog 36 1 = some (1, 35) := by kernel_rfl
@[simp] theorem fl36_2 : fldT Try.prog 36 2 = some (2, 35) := by kernel_rfl
@[simp] theorem sz37 : szT Try.prog 37 = 3 := by kernel_rfl
@[simp] theorem byt37 : bytT Try.prog 37 = some 72 := by kernel_rfl
@[simp] theorem agg37 : aggT Try.prog 37 = some true := by kernel_rfl
@[simp] theorem zc37 : zeroC Try.prog 37 = some [.slice [], .slice [], .slice []] := by kernel_rfl
@[simp] theorem nc37_0 : nilC Try.prog 37 0 = true := by kernel_rfl
@[simp] theorem nc37_1 : nilC Try.prog 37 1 = true := by kernel_rfl
@[simp] theorem nc37_2 : nilC Try.prog 37 2 = true := by kernel_rfl
@[simp] theorem zs37 : zstr Try.prog 37 = some [.slice [], .slice [], .slice []] := by kernel_rfl
@[simp] theorem fl37_0 : fldT Try.prog 37 0 = some (0, 34) := by kernel_rfl
@[simp] theorem fl37_1 : fldT Try.prog 37 1 = some (1, 35) := by kernel_rfl
@[simp] theorem fl37_2 : fldT Try.prog 37 2 = some (2, 35) := by kernel_rfl
@[simp] theorem sz38 : szT Try.prog 38 = 1 := by kernel_rfl
@[simp] theorem byt38 : bytT Try.prog 38 = some 8 := by kernel_rfl
@[simp] theorem agg38 : aggT Try.prog 38 = some false := by kernel_rfl
@[simp] theorem zc38 : zeroC Try.prog 38 = some [.opq .nilFunc] := by kernel_rfl
@[simp] theorem nc38_0 : nilC Try.prog 38 0 = false := by kernel_rfl
@[simp] theorem isf38 : isFnT (Try.prog.underlying 38) = true := by kernel_rfl
@[simp] theorem sz40 : szT Try.prog 40 = 1 := by kernel_rfl
@[simp] theorem byt40 : bytT Try.prog 40 = some 8 := by kernel_rfl
@[simp] theorem agg40 : aggT Try.prog 40 = some false := by kernel_rfl
@[simp] theorem zc40 : zeroC Try.prog 40 = some [.opq .nilFunc] := by kernel_rfl
@[simp] theorem nc40_0 : nilC Try.prog 40 0 = false := by kernel_rfl
@[simp] theorem isf40 : isFnT (Try.prog.underlying 40) = true := by kernel_rfl
@[simp] theorem sz41 : szT Try.prog 41 = 1 := by kernel_rfl
@[simp] theorem byt41 : bytT Try.prog 41 = some 24 := by kernel_rfl
@[simp] theorem agg41 : aggT Try.prog 41 = some false := by kernel_rfl
@[simp] theorem zc41 : zeroC Try.prog 41 = some [.slice []] := by kernel_rfl
@[simp] theorem nc41_0 : nilC Try.prog 41 0 = true := by kernel_rfl
@[simp] theorem el41 : elT Try.prog 41 = some 98 := by kernel_rfl
@[simp] theorem und41 : Try.prog.underlying 41 = some (.slice 98) := by kernel_rfl
@[simp] theorem bz41 : bslZ Try.prog 41 = true := by kernel_rfl
@[simp] theorem es41 : eSz Try.prog 41 = 4 := by kernel_rfl
@[simp] theorem e141 : el1 Try.prog 41 = some (4, true) := by kernel_rfl
@[simp] theorem ae41 : agE Try.prog 41 = some true := by kernel_rfl
@[simp] theorem ap41 : apT Try.prog 41 = some (4, 64, .opq (.agg #[.int .i64 0, .string ByteArray.empty, .string ByteArray.empty, .slice none 0 0]), false) := by kernel_rfl
@[simp] theorem sz42 : szT Try.prog 42 = 1 := by kernel_rfl
@[simp] theorem byt42 : bytT Try.prog 42 = some 8 := by kernel_rfl
@[simp] theorem agg42 : aggT Try.prog 42 = some false := by kernel_rfl
@[simp] theorem zc42 : zeroC Try.prog 42 = some [.int .i64 0] := by kernel_rfl
@[simp] theorem nc42_0 : nilC Try.prog 42 0 = false := by kernel_rfl
@[simp] theorem und42 : Try.prog.underlying 42 = some (.int .i64) := by kernel_rfl
@[simp] theorem sz44 : szT Try.prog 44 = 1 := by kernel_rfl
@[simp] theorem byt44 : bytT Try.prog 44 = some 8 := by kernel_rfl
@[simp] theorem agg44 : aggT Try.prog 44 = some false := by kernel_rfl
@[simp] theorem zc44 : zeroC Try.prog 44 = some [.opq .nilFunc] := by kernel_rfl
@[simp] theorem nc44_0 : nilC Try.prog 44 0 = false := by kernel_rfl
@[simp] theorem isf44 : isFnT (Try.prog.underlying 44) = true := by kernel_rfl
@[simp] theorem sz46 : szT Try.prog 46 = 1 := by kernel_rfl
@[simp] theorem byt46 : bytT Try.prog 46 = some 8 := by kernel_rfl
@[simp] theorem agg46 : aggT Try.prog 46 = some false := by kernel_rfl
@[simp] theorem zc46 : zeroC Try.prog 46 = some [.opq .nilFunc] := by kernel_rfl
@[simp] theorem nc46_0 : nilC Try.prog 46 0 = false := by kernel_rfl
@[simp] theorem isf46 : isFnT (Try.prog.underlying 46) = true := by kernel_rfl
@[simp] theorem sz48 : szT Try.prog 48 = 1 := by kernel_rfl
@[simp] theorem byt48 : bytT Try.prog 48 = some 8 := by kernel_rfl
@[simp] theorem agg48 : aggT Try.prog 48 = some false := by kernel_rfl
@[simp] theorem zc48 : zeroC Try.prog 48 = some [.opq .nilFunc] := by kernel_rfl
@[simp] theorem nc48_0 : nilC Try.prog 48 0 = false := by kernel_rfl
@[simp] theorem isf48 : isFnT (Try.prog.underlying 48) = true := by kernel_rfl
@[simp] theorem sz49 : szT Try.prog 49 = 1 := by kernel_rfl
@[simp] theorem byt49 : bytT Try.prog 49 = some 8 := by kernel_rfl
@[simp] theorem agg49 : aggT Try.prog 49 = some false := by kernel_rfl
@[simp] theorem zc49 : zeroC Try.prog 49 = some [.opq .nilFunc] := by kernel_rfl
@[simp] theorem nc49_0 : nilC Try.prog 49 0 = false := by kernel_rfl
@[simp] theorem isf49 : isFnT (Try.prog.underlying 49) = true := by kernel_rfl
@[simp] theorem sz50 : szT Try.prog 50 = 4 := by kernel_rfl
@[simp] theorem byt50 : bytT Try.prog 50 = some 40 := by kernel_rfl
@[simp] theorem agg50 : aggT Try.prog 50 = some true := by kernel_rfl
@[simp] theorem zc50 : zeroC Try.prog 50 = some [.int .i64 0, .int .i64 0, .int .i64 0, .str []] := by kernel_rfl
@[simp] theorem nc50_0 : nilC Try.prog 50 0 = false := by kernel_rfl
@[simp] theorem nc50_1 : nilC Try.prog 50 1 = false := by kernel_rfl
@[simp] theorem nc50_2 : nilC Try.prog 50 2 = false := by kernel_rfl
@[simp] theorem nc50_3 : nilC Try.prog 50 3 = false := by kernel_rfl
@[simp] theorem eq50 : eqS Try.prog 50 = some [(0, 0), (1, 0), (2, 0), (3, 2)] := by kernel_rfl
@[simp] theorem zs50 : zstr Try.prog 50 = some [.int .i64 0, .int .i64 0, .int .i64 0, .str []] := by kernel_rfl
@[simp] theorem fl50_0 : fldT Try.prog 50 0 = some (0, 3) := by kernel_rfl
@[simp] theorem fl50_1 : fldT Try.prog 50 1 = some (1, 3) := by kernel_rfl
@[simp] theorem fl50_2 : fldT Try.prog 50 2 = some (2, 3) := by kernel_rfl
@[simp] theorem fl50_3 : fldT Try.prog 50 3 = some (3, 9) := by kernel_rfl
@[simp] theorem sz51 : szT Try.prog 51 = 4 := by kernel_rfl
@[simp] theorem byt51 : bytT Try.prog 51 = some 40 := by kernel_rfl
@[simp] theorem agg51 : aggT Try.prog 51 = some true := by kernel_rfl
@[simp] theorem zc51 : zeroC Try.prog 51 = some [.int .i64 0, .int .i64 0, .int .i64 0, .str []] := by kernel_rfl
@[simp] theorem nc51_0 : nilC Try.prog 51 0 = false := by kernel_rfl
@[simp] theorem nc51_1 : nilC Try.prog 51 1 = false := by kernel_rfl
@[simp] theorem nc51_2 : nilC Try.prog 51 2 = false := by kernel_rfl
@[simp] theorem nc51_3 : nilC Try.prog 51 3 = false := by kernel_rfl
@[simp] theorem eq51 : eqS Try.prog 51 = some [(0, 0), (1, 0), (2, 0), (3, 2)] := by kernel_rfl
@[simp] theorem zs51 : zstr Try.prog 51 = some [.int .i64 0, .int .i64 0, .int .i64 0, .str []] := by kernel_rfl
@[simp] theorem fl51_0 : fldT Try.prog 51 0 = some (0, 3) := by kernel_rfl
@[simp] theorem fl51_1 : fldT Try.prog 51 1 = some (1, 3) := by kernel_rfl
@[simp] theorem fl51_2 : fldT Try.prog 51 2 = some (2, 3) := by kernel_rfl
@[simp] theorem fl51_3 : fldT Try.prog 51 3 = some (3, 9) := by kernel_rfl
@[simp] theorem sz52 : szT Try.prog 52 = 1 := by kernel_rfl
@[simp] theorem byt52 : bytT Try.prog 52 = some 24 := by kernel_rfl
@[simp] theorem agg52 : aggT Try.prog 52 = some false := by kernel_rfl
@[simp] theorem zc52 : zeroC Try.prog 52 = some [.slice []] := by kernel_rfl
@[simp] theorem nc52_0 : nilC Try.prog 52 0 = true := by kernel_rfl
@[simp] theorem el52 : elT Try.prog 52 = some 3 := by kernel_rfl
@[simp] theorem und52 : Try.prog.underlying 52 = some (.slice 3) := by kernel_rfl
@[simp] theorem bz52 : bslZ Try.prog 52 = true := by kernel_rfl
@[simp] theorem es52 : eSz Try.prog 52 = 1 := by kernel_rfl
@[simp] theorem e152 : el1 Try.prog 52 = some (1, false) := by kernel_rfl
@[simp] theorem ae52 : agE Try.prog 52 = some false := by kernel_rfl
@[simp] theorem ap52 : apT Try.prog 52 = some (1, 8, .int .i64 0, true) := by kernel_rfl
@[simp] theorem sz54 : szT Try.prog 54 = 1 := by kernel_rfl
@[simp] theorem byt54 : bytT Try.prog 54 = some 8 := by kernel_rfl
@[simp] theorem agg54 : aggT Try.prog 54 = some false := by kernel_rfl
@[simp] theorem zc54 : zeroC Try.prog 54 = some [.opq .nilFunc] := by kernel_rfl
@[simp] theorem nc54_0 : nilC Try.prog 54 0 = false := by kernel_rfl
@[simp] theorem isf54 : isFnT (Try.prog.underlying 54) = true := by kernel_rfl
@[simp] theorem sz55 : szT Try.prog 55 = 1 := by kernel_rfl
@[simp] theorem byt55 : bytT Try.prog 55 = some 8 := by kernel_rfl
@[simp] theorem agg55 : aggT Try.prog 55 = some false := by kernel_rfl
@[simp] theorem zc55 : zeroC Try.prog 55 = some [.opq .nilFunc] := by kernel_rfl
@[simp] theorem nc55_0 : nilC Try.prog 55 0 = false := by kernel_rfl
@[simp] theorem isf55 : isFnT (Try.prog.underlying 55) = true := by kernel_rfl
@[simp] theorem sz56 : szT Try.prog 56 = 1 := by kernel_rfl
@[simp] theorem byt56 : bytT Try.prog 56 = some 8 := by kernel_rfl
@[simp] theorem agg56 : aggT Try.prog 56 = some false := by kernel_rfl
@[simp] theorem zc56 : zeroC Try.prog 56 = some [.opq .nilFunc] := by kernel_rfl
@[simp] theorem nc56_0 : nilC Try.prog 56 0 = false := by kernel_rfl
@[simp] theorem isf56 : isFnT (Try.prog.underlying 56) = true := by kernel_rfl
@[simp] theorem sz57 : szT Try.prog 57 = 4 := by kernel_rfl
@[simp] theorem byt57 : bytT Try.prog 57 = some 96 := by kernel_rfl
@[simp] theorem agg57 : aggT Try.prog 57 = some true := by kernel_rfl
@[simp] theorem zc57 : zeroC Try.prog 57 = some [.slice [], .slice [], .slice [], .slice []] := by kernel_rfl
@[simp] theorem nc57_0 : nilC Try.prog 57 0 = true := by kernel_rfl
@[simp] theorem nc57_1 : nilC Try.prog 57 1 = true := by kernel_rfl
@[simp] theorem nc57_2 : nilC Try.prog 57 2 = true := by kernel_rfl
@[simp] theorem nc57_3 : nilC Try.prog 57 3 = true := by kernel_rfl
@[simp] theorem zs57 : zstr Try.prog 57 = some [.slice [], .slice [], .slice [], .slice []] := by kernel_rfl
@[simp] theorem fl57_0 : fldT Try.prog 57 0 = some (0, 22) := by kernel_rfl
@[simp] theorem fl57_1 : fldT Try.prog 57 1 = some (1, 30) := by kernel_rfl
@[simp] theorem sz58 : szT Try.prog 58 = 4 := by kernel_rfl
@[simp] theorem byt58 : bytT Try.prog 58 = some 96 := by kernel_rfl
@[simp] theorem agg58 : aggT Try.prog 58 = some true := by kernel_rfl
@[simp] theorem zc58 : zeroC Try.prog 58 = some [.slice [], .slice [], .slice [], .slice []] := by kernel_rfl
@[simp] theorem nc58_0 : nilC Try.prog 58 0 = true := by kernel_rfl
@[simp] theorem nc58_1 : nilC Try.prog 58 1 = true := by kernel_rfl
@[simp] theorem nc58_2 : nilC Try.prog 58 2 = true := by kernel_rfl
@[simp] theorem nc58_3 : nilC Try.prog 58 3 = true := by kernel_rfl
@[simp] theorem zs58 : zstr Try.prog 58 = some [.slice [], .slice [], .slice [], .slice []] := by kernel_rfl
@[simp] theorem fl58_0 : fldT Try.prog 58 0 = some (0, 22) := by kernel_rfl
@[simp] theorem fl58_1 : fldT Try.prog 58 1 = some (1, 30) := by kernel_rfl
@[simp] theorem sz60 : szT Try.prog 60 = 1 := by kernel_rfl
@[simp] theorem byt60 : bytT Try.prog 60 = some 8 := by kernel_rfl
@[simp] theorem agg60 : aggT Try.prog 60 = some false := by kernel_rfl
@[simp] theorem zc60 : zeroC Try.prog 60 = some [.opq .nilFunc] := by kernel_rfl
@[simp] theorem nc60_0 : nilC Try.prog 60 0 = false := by kernel_rfl
@[simp] theorem isf60 : isFnT (Try.prog.underlying 60) = true := by kernel_rfl
@[simp] theorem sz61 : szT Try.prog 61 = 4 := by kernel_rfl
@[simp] theorem byt61 : bytT Try.prog 61 = some 96 := by kernel_rfl
@[simp] theorem agg61 : aggT Try.prog 61 = some true := by kernel_rfl
@[simp] theorem zc61 : zeroC Try.prog 61 = some [.slice [], .slice [], .slice [], .slice []] := by kernel_rfl
@[simp] theorem nc61_0 : nilC Try.prog 61 0 = true := by kernel_rfl
@[simp] theorem nc61_1 : nilC Try.prog 61 1 = true := by kernel_rfl
@[simp] theorem nc61_2 : nilC Try.prog 61 2 = true := by kernel_rfl
@[simp] theorem nc61_3 : nilC Try.prog 61 3 = true := by kernel_rfl
@[simp] theorem zs61 : zstr Try.prog 61 = some [.slice [], .slice [], .slice [], .slice []] := by kernel_rfl
@[simp] theorem fl61_0 : fldT Try.prog 61 0 = some (0, 22) := by kernel_rfl
@[simp] theorem fl61_1 : fldT Try.prog 61 1 = some (1, 37) := by kernel_rfl
@[simp] theorem sz62 : szT Try.prog 62 = 4 := by kernel_rfl
@[simp] theorem byt62 : bytT Try.prog 62 = some 96 := by kernel_rfl
@[simp] theorem agg62 : aggT Try.prog 62 = some true := by kernel_rfl
@[simp] theorem zc62 : zeroC Try.prog 62 = some [.slice [], .slice [], .slice [], .slice []] := by kernel_rfl
@[simp] theorem nc62_0 : nilC Try.prog 62 0 = true := by kernel_rfl
@[simp] theorem nc62_1 : nilC Try.prog 62 1 = true := by kernel_rfl
@[simp] theorem nc62_2 : nilC Try.prog 62 2 = true := by kernel_rfl
@[simp] theorem nc62_3 : nilC Try.prog 62 3 = true := by kernel_rfl
@[simp] theorem zs62 : zstr Try.prog 62 = some [.slice [], .slice [], .slice [], .slice []] := by kernel_rfl
@[simp] theorem fl62_0 : fldT Try.prog 62 0 = some (0, 22) := by kernel_rfl
@[simp] theorem fl62_1 : fldT Try.prog 62 1 = some (1, 37) := by kernel_rfl
@[simp] theorem sz64 : szT Try.prog 64 = 1 := by kernel_rfl
@[simp] theorem byt64 : bytT Try.prog 64 = some 8 := by kernel_rfl
@[simp] theorem agg64 : aggT Try.prog 64 = some false := by kernel_rfl
@[simp] theorem zc64 : zeroC Try.prog 64 = some [.opq .nilFunc] := by kernel_rfl
@[simp] theorem nc64_0 : nilC Try.prog 64 0 = false := by kernel_rfl
@[simp] theorem isf64 : isFnT (Try.prog.underlying 64) = true := by kernel_rfl
@[simp] theorem sz65 : szT Try.prog 65 = 1 := by kernel_rfl
@[simp] theorem byt65 : bytT Try.prog 65 = some 8 := by kernel_rfl
@[simp] theorem agg65 : aggT Try.prog 65 = some false := by kernel_rfl
@[simp] theorem zc65 : zeroC Try.prog 65 = some [.opq .nilFunc] := by kernel_rfl
@[simp] theorem nc65_0 : nilC Try.prog 65 0 = false := by kernel_rfl
@[simp] theorem isf65 : isFnT (Try.prog.underlying 65) = true := by kernel_rfl
@[simp] theorem sz66 : szT Try.prog 66 = 1 := by kernel_rfl
@[simp] theorem byt66 : bytT Try.prog 66 = some 8 := by kernel_rfl
@[simp] theorem agg66 : aggT Try.prog 66 = some false := by kernel_rfl
@[simp] theorem zc66 : zeroC Try.prog 66 = some [.opq .nilFunc] := by kernel_rfl
@[simp] theorem nc66_0 : nilC Try.prog 66 0 = false := by kernel_rfl
@[simp] theorem isf66 : isFnT (Try.prog.underlying 66) = true := by kernel_rfl
@[simp] theorem sz68 : szT Try.prog 68 = 1 := by kernel_rfl
@[simp] theorem byt68 : bytT Try.prog 68 = some 8 := by kernel_rfl
@[simp] theorem agg68 : aggT Try.prog 68 = some false := by kernel_rfl
@[simp] theorem zc68 : zeroC Try.prog 68 = some [.opq .nilFunc] := by kernel_rfl
@[simp] theorem nc68_0 : nilC Try.prog 68 0 = false := by kernel_rfl
@[simp] theorem isf68 : isFnT (Try.prog.underlying 68) = true := by kernel_rfl
@[simp] theorem sz70 : szT Try.prog 70 = 1 := by kernel_rfl
@[simp] theorem byt70 : bytT Try.prog 70 = some 8 := by kernel_rfl
@[simp] theorem agg70 : aggT Try.prog 70 = some false := by kernel_rfl
@[simp] theorem zc70 : zeroC Try.prog 70 = some [.opq .nilFunc] := by kernel_rfl
@[simp] theorem nc70_0 : nilC Try.prog 70 0 = false := by kernel_rfl
@[simp] theorem isf70 : isFnT (Try.prog.underlying 70) = true := by kernel_rfl
@[simp] theorem sz72 : szT Try.prog 72 = 1 := by kernel_rfl
@[simp] theorem byt72 : bytT Try.prog 72 = some 8 := by kernel_rfl
@[simp] theorem agg72 : aggT Try.prog 72 = some false := by kernel_rfl
@[simp] theorem zc72 : zeroC Try.prog 72 = some [.opq .nilFunc] := by kernel_rfl
@[simp] theorem nc72_0 : nilC Try.prog 72 0 = false := by kernel_rfl
@[simp] theorem isf72 : isFnT (Try.prog.underlying 72) = true := by kernel_rfl
@[simp] theorem sz73 : szT Try.prog 73 = 1 := by kernel_rfl
@[simp] theorem byt73 : bytT Try.prog 73 = some 8 := by kernel_rfl
@[simp] theorem agg73 : aggT Try.prog 73 = some false := by kernel_rfl
@[simp] theorem zc73 : zeroC Try.prog 73 = some [.opq .nilFunc] := by kernel_rfl
@[simp] theorem nc73_0 : nilC Try.prog 73 0 = false := by kernel_rfl
@[simp] theorem isf73 : isFnT (Try.prog.underlying 73) = true := by kernel_rfl
@[simp] theorem sz74 : szT Try.prog 74 = 1 := by kernel_rfl
@[simp] theorem byt74 : bytT Try.prog 74 = some 8 := by kernel_rfl
@[simp] theorem agg74 : aggT Try.prog 74 = some false := by kernel_rfl
@[simp] theorem zc74 : zeroC Try.prog 74 = some [.opq .nilFunc] := by kernel_rfl
@[simp] theorem nc74_0 : nilC Try.prog 74 0 = false := by kernel_rfl
@[simp] theorem isf74 : isFnT (Try.prog.underlying 74) = true := by kernel_rfl
@[simp] theorem sz75 : szT Try.prog 75 = 1 := by kernel_rfl
@[simp] theorem byt75 : bytT Try.prog 75 = some 8 := by kernel_rfl
@[simp] theorem agg75 : aggT Try.prog 75 = some false := by kernel_rfl
@[simp] theorem zc75 : zeroC Try.prog 75 = some [.opq .nilFunc] := by kernel_rfl
@[simp] theorem nc75_0 : nilC Try.prog 75 0 = false := by kernel_rfl
@[simp] theorem isf75 : isFnT (Try.prog.underlying 75) = true := by kernel_rfl
@[simp] theorem sz77 : szT Try.prog 77 = 1 := by kernel_rfl
@[simp] theorem byt77 : bytT Try.prog 77 = some 8 := by kernel_rfl
@[simp] theorem agg77 : aggT Try.prog 77 = some false := by kernel_rfl
@[simp] theorem zc77 : zeroC Try.prog 77 = some [.opq .nilFunc] := by kernel_rfl
@[simp] theorem nc77_0 : nilC Try.prog 77 0 = false := by kernel_rfl
@[simp] theorem isf77 : isFnT (Try.prog.underlying 77) = true := by kernel_rfl
@[simp] theorem sz78 : szT Try.prog 78 = 1 := by kernel_rfl
@[simp] theorem byt78 : bytT Try.prog 78 = some 8 := by kernel_rfl
@[simp] theorem agg78 : aggT Try.prog 78 = some false := by kernel_rfl
@[simp] theorem zc78 : zeroC Try.prog 78 = some [.opq .nilFunc] := by kernel_rfl
@[simp] theorem nc78_0 : nilC Try.prog 78 0 = false := by kernel_rfl
@[simp] theorem isf78 : isFnT (Try.prog.underlying 78) = true := by kernel_rfl
@[simp] theorem sz80 : szT Try.prog 80 = 1 := by kernel_rfl
@[simp] theorem byt80 : bytT Try.prog 80 = some 8 := by kernel_rfl
@[simp] theorem agg80 : aggT Try.prog 80 = some false := by kernel_rfl
@[simp] theorem zc80 : zeroC Try.prog 80 = some [.opq .nilFunc] := by kernel_rfl
@[simp] theorem nc80_0 : nilC Try.prog 80 0 = false := by kernel_rfl
@[simp] theorem isf80 : isFnT (Try.prog.underlying 80) = true := by kernel_rfl
@[simp] theorem sz81 : szT Try.prog 81 = 1 := by kernel_rfl
@[simp] theorem byt81 : bytT Try.prog 81 = some 8 := by kernel_rfl
@[simp] theorem agg81 : aggT Try.prog 81 = some false := by kernel_rfl
@[simp] theorem zc81 : zeroC Try.prog 81 = some [.opq .nilFunc] := by kernel_rfl
@[simp] theorem nc81_0 : nilC Try.prog 81 0 = false := by kernel_rfl
@[simp] theorem isf81 : isFnT (Try.prog.underlying 81) = true := by kernel_rfl
@[simp] theorem sz82 : szT Try.prog 82 = 1 := by kernel_rfl
@[simp] theorem byt82 : bytT Try.prog 82 = some 8 := by kernel_rfl
@[simp] theorem agg82 : aggT Try.prog 82 = some false := by kernel_rfl
@[simp] theorem zc82 : zeroC Try.prog 82 = some [.opq .nilFunc] := by kernel_rfl
@[simp] theorem nc82_0 : nilC Try.prog 82 0 = false := by kernel_rfl
@[simp] theorem isf82 : isFnT (Try.prog.underlying 82) = true := by kernel_rfl
@[simp] theorem sz83 : szT Try.prog 83 = 1 := by kernel_rfl
@[simp] theorem byt83 : bytT Try.prog 83 = some 24 := by kernel_rfl
@[simp] theorem agg83 : aggT Try.prog 83 = some false := by kernel_rfl
@[simp] theorem zc83 : zeroC Try.prog 83 = some [.slice []] := by kernel_rfl
@[simp] theorem nc83_0 : nilC Try.prog 83 0 = true := by kernel_rfl
@[simp] theorem el83 : elT Try.prog 83 = some 5 := by kernel_rfl
@[simp] theorem und83 : Try.prog.underlying 83 = some (.slice 5) := by kernel_rfl
@[simp] theorem bz83 : bslZ Try.prog 83 = true := by kernel_rfl
@[simp] theorem es83 : eSz Try.prog 83 = 1 := by kernel_rfl
@[simp] theorem e183 : el1 Try.prog 83 = some (1, false) := by kernel_rfl
@[simp] theorem ae83 : agE Try.prog 83 = some false := by kernel_rfl
@[simp] theorem ap83 : apT Try.prog 83 = some (1, 1, .int .u8 0, true) := by kernel_rfl
@[simp] theorem sz84 : szT Try.prog 84 = 2 := by kernel_rfl
@[simp] theorem byt84 : bytT Try.prog 84 = some 32 := by kernel_rfl
@[simp] theorem agg84 : aggT Try.prog 84 = some true := by kernel_rfl
@[simp] theorem zc84 : zeroC Try.prog 84 = some [.slice [], .int .i64 0] := by kernel_rfl
@[simp] theorem nc84_0 : nilC Try.prog 84 0 = true := by kernel_rfl
@[simp] theorem nc84_1 : nilC Try.prog 84 1 = false := by kernel_rfl
@[simp] theorem zs84 : zstr Try.prog 84 = some [.slice [], .int .i64 0] := by kernel_rfl
@[simp] theorem fl84_0 : fldT Try.prog 84 0 = some (0, 83) := by kernel_rfl
@[simp] theorem fl84_1 : fldT Try.prog 84 1 = some (1, 3) := by kernel_rfl
@[simp] theorem sz85 : szT Try.prog 85 = 2 := by kernel_rfl
@[simp] theorem byt85 : bytT Try.prog 85 = some 32 := by kernel_rfl
@[simp] theorem agg85 : aggT Try.prog 85 = some true := by kernel_rfl
@[simp] theorem zc85 : zeroC Try.prog 85 = some [.slice [], .int .i64 0] := by kernel_rfl
@[simp] theorem nc85_0 : nilC Try.prog 85 0 = true := by kernel_rfl
@[simp] theorem nc85_1 : nilC Try.prog 85 1 = false := by kernel_rfl
@[simp] theorem zs85 : zstr Try.prog 85 = some [.slice [], .int .i64 0] := by kernel_rfl
@[simp] theorem fl85_0 : fldT Try.prog 85 0 = some (0, 83) := by kernel_rfl
@[simp] theorem fl85_1 : fldT Try.prog 85 1 = some (1, 3) := by kernel_rfl
@[simp] theorem sz87 : szT Try.prog 87 = 1 := by kernel_rfl
@[simp] theorem byt87 : bytT Try.prog 87 = some 8 := by kernel_rfl
@[simp] theorem agg87 : aggT Try.prog 87 = some false := by kernel_rfl
@[simp] theorem zc87 : zeroC Try.prog 87 = some [.opq .nilFunc] := by kernel_rfl
@[simp] theorem nc87_0 : nilC Try.prog 87 0 = false := by kernel_rfl
@[simp] theorem isf87 : isFnT (Try.prog.underlying 87) = true := by kernel_rfl
@[simp] theorem sz88 : szT Try.prog 88 = 2 := by kernel_rfl
@[simp] theorem byt88 : bytT Try.prog 88 = some 32 := by kernel_rfl
@[simp] theorem agg88 : aggT Try.prog 88 = some true := by kernel_rfl
@[simp] theorem zc88 : zeroC Try.prog 88 = some [.slice [], .int .i64 0] := by kernel_rfl
@[simp] theorem nc88_0 : nilC Try.prog 88 0 = true := by kernel_rfl
@[simp] theorem nc88_1 : nilC Try.prog 88 1 = false := by kernel_rfl
@[simp] theorem zs88 : zstr Try.prog 88 = some [.slice [], .int .i64 0] := by kernel_rfl
@[simp] theorem fl88_0 : fldT Try.prog 88 0 = some (0, 83) := by kernel_rfl
@[simp] theorem fl88_1 : fldT Try.prog 88 1 = some (1, 3) := by kernel_rfl
@[simp] theorem sz89 : szT Try.prog 89 = 2 := by kernel_rfl
@[simp] theorem byt89 : bytT Try.prog 89 = some 24 := by kernel_rfl
@[simp] theorem agg89 : aggT Try.prog 89 = some true := by kernel_rfl
@[simp] theorem zc89 : zeroC Try.prog 89 = some [.str [], .int .i64 0] := by kernel_rfl
@[simp] theorem nc89_0 : nilC Try.prog 89 0 = false := by kernel_rfl
@[simp] theorem nc89_1 : nilC Try.prog 89 1 = false := by kernel_rfl
@[simp] theorem eq89 : eqS Try.prog 89 = some [(0, 2), (1, 0)] := by kernel_rfl
@[simp] theorem zs89 : zstr Try.prog 89 = some [.str [], .int .i64 0] := by kernel_rfl
@[simp] theorem fl89_0 : fldT Try.prog 89 0 = some (0, 9) := by kernel_rfl
@[simp] theorem fl89_1 : fldT Try.prog 89 1 = some (1, 3) := by kernel_rfl
@[simp] theorem sz90 : szT Try.prog 90 = 2 := by kernel_rfl
@[simp] theorem byt90 : bytT Try.prog 90 = some 24 := by kernel_rfl
@[simp] theorem agg90 : aggT Try.prog 90 = some true := by kernel_rfl
@[simp] theorem zc90 : zeroC Try.prog 90 = some [.str [], .int .i64 0] := by kernel_rfl
@[simp] theorem nc90_0 : nilC Try.prog 90 0 = false := by kernel_rfl
@[simp] theorem nc90_1 : nilC Try.prog 90 1 = false := by kernel_rfl
@[simp] theorem eq90 : eqS Try.prog 90 = some [(0, 2), (1, 0)] := by kernel_rfl
@[simp] theorem zs90 : zstr Try.prog 90 = some [.str [], .int .i64 0] := by kernel_rfl
@[simp] theorem fl90_0 : fldT Try.prog 90 0 = some (0, 9) := by kernel_rfl
@[simp] theorem fl90_1 : fldT Try.prog 90 1 = some (1, 3) := by kernel_rfl
@[simp] theorem sz91 : szT Try.prog 91 = 2 := by kernel_rfl
@[simp] theorem byt91 : bytT Try.prog 91 = some 24 := by kernel_rfl
@[simp] theorem agg91 : aggT Try.prog 91 = some true := by kernel_rfl
@[simp] theorem zc91 : zeroC Try.prog 91 = some [.str [], .int .i64 0] := by kernel_rfl
@[simp] theorem nc91_0 : nilC Try.prog 91 0 = false := by kernel_rfl
@[simp] theorem nc91_1 : nilC Try.prog 91 1 = false := by kernel_rfl
@[simp] theorem eq91 : eqS Try.prog 91 = some [(0, 2), (1, 0)] := by kernel_rfl
@[simp] theorem zs91 : zstr Try.prog 91 = some [.str [], .int .i64 0] := by kernel_rfl
@[simp] theorem fl91_0 : fldT Try.prog 91 0 = some (0, 9) := by kernel_rfl
@[simp] theorem fl91_1 : fldT Try.prog 91 1 = some (1, 3) := by kernel_rfl
@[simp] theorem sz92 : szT Try.prog 92 = 1 := by kernel_rfl
@[simp] theorem byt92 : bytT Try.prog 92 = some 8 := by kernel_rfl
@[simp] theorem agg92 : aggT Try.prog 92 = some false := by kernel_rfl
@[simp] theorem zc92 : zeroC Try.prog 92 = some [.opq .nilFunc] := by kernel_rfl
@[simp] theorem nc92_0 : nilC Try.prog 92 0 = false := by kernel_rfl
@[simp] theorem isf92 : isFnT (Try.prog.underlying 92) = true := by kernel_rfl
@[simp] theorem sz94 : szT Try.prog 94 = 1 := by kernel_rfl
@[simp] theorem byt94 : bytT Try.prog 94 = some 8 := by kernel_rfl
@[simp] theorem agg94 : aggT Try.prog 94 = some false := by kernel_rfl
@[simp] theorem zc94 : zeroC Try.prog 94 = some [.opq .nilFunc] := by kernel_rfl
@[simp] theorem nc94_0 : nilC Try.prog 94 0 = false := by kernel_rfl
@[simp] theorem isf94 : isFnT (Try.prog.underlying 94) = true := by kernel_rfl
@[simp] theorem sz95 : szT Try.prog 95 = 1 := by kernel_rfl
@[simp] theorem byt95 : bytT Try.prog 95 = some 8 := by kernel_rfl
@[simp] theorem agg95 : aggT Try.prog 95 = some false := by kernel_rfl
@[simp] theorem zc95 : zeroC Try.prog 95 = some [.opq .nilFunc] := by kernel_rfl
@[simp] theorem nc95_0 : nilC Try.prog 95 0 = false := by kernel_rfl
@[simp] theorem isf95 : isFnT (Try.prog.underlying 95) = true := by kernel_rfl
@[simp] theorem sz96 : szT Try.prog 96 = 1 := by kernel_rfl
@[simp] theorem byt96 : bytT Try.prog 96 = some 8 := by kernel_rfl
@[simp] theorem agg96 : aggT Try.prog 96 = some false := by kernel_rfl
@[simp] theorem zc96 : zeroC Try.prog 96 = some [.opq .nilFunc] := by kernel_rfl
@[simp] theorem nc96_0 : nilC Try.prog 96 0 = false := by kernel_rfl
@[simp] theorem isf96 : isFnT (Try.prog.underlying 96) = true := by kernel_rfl
@[simp] theorem sz97 : szT Try.prog 97 = 4 := by kernel_rfl
@[simp] theorem byt97 : bytT Try.prog 97 = some 64 := by kernel_rfl
@[simp] theorem agg97 : aggT Try.prog 97 = some true := by kernel_rfl
@[simp] theorem zc97 : zeroC Try.prog 97 = some [.int .i64 0, .str [], .str [], .slice []] := by kernel_rfl
@[simp] theorem nc97_0 : nilC Try.prog 97 0 = false := by kernel_rfl
@[simp] theorem nc97_1 : nilC Try.prog 97 1 = false := by kernel_rfl
@[simp] theorem nc97_2 : nilC Try.prog 97 2 = false := by kernel_rfl
@[simp] theorem nc97_3 : nilC Try.prog 97 3 = true := by kernel_rfl
@[simp] theorem zs97 : zstr Try.prog 97 = some [.int .i64 0, .str [], .str [], .slice []] := by kernel_rfl
@[simp] theorem fl97_0 : fldT Try.prog 97 0 = some (0, 3) := by kernel_rfl
@[simp] theorem fl97_1 : fldT Try.prog 97 1 = some (1, 9) := by kernel_rfl
@[simp] theorem fl97_2 : fldT Try.prog 97 2 = some (2, 9) := by kernel_rfl
@[simp] theorem fl97_3 : fldT Try.prog 97 3 = some (3, 83) := by kernel_rfl
@[simp] theorem sz98 : szT Try.prog 98 = 4 := by kernel_rfl
@[simp] theorem byt98 : bytT Try.prog 98 = some 64 := by kernel_rfl
@[simp] theorem agg98 : aggT Try.prog 98 = some true := by kernel_rfl
@[simp] theorem zc98 : zeroC Try.prog 98 = some [.int .i64 0, .str [], .str [], .slice []] := by kernel_rfl
@[simp] theorem nc98_0 : nilC Try.prog 98 0 = false := by kernel_rfl
@[simp] theorem nc98_1 : nilC Try.prog 98 1 = false := by kernel_rfl
@[simp] theorem nc98_2 : nilC Try.prog 98 2 = false := by kernel_rfl
@[simp] theorem nc98_3 : nilC Try.prog 98 3 = true := by kernel_rfl
@[simp] theorem zs98 : zstr Try.prog 98 = some [.int .i64 0, .str [], .str [], .slice []] := by kernel_rfl
@[simp] theorem fl98_0 : fldT Try.prog 98 0 = some (0, 3) := by kernel_rfl
@[simp] theorem fl98_1 : fldT Try.prog 98 1 = some (1, 9) := by kernel_rfl
@[simp] theorem fl98_2 : fldT Try.prog 98 2 = some (2, 9) := by kernel_rfl
@[simp] theorem fl98_3 : fldT Try.prog 98 3 = some (3, 83) := by kernel_rfl
@[simp] theorem sz99 : szT Try.prog 99 = 1 := by kernel_rfl
@[simp] theorem byt99 : bytT Try.prog 99 = some 8 := by kernel_rfl
@[simp] theorem agg99 : aggT Try.prog 99 = some false := by kernel_rfl
@[simp] theorem zc99 : zeroC Try.prog 99 = some [.opq .nilFunc] := by kernel_rfl
@[simp] theorem nc99_0 : nilC Try.prog 99 0 = false := by kernel_rfl
@[simp] theorem isf99 : isFnT (Try.prog.underlying 99) = true := by kernel_rfl
@[simp] theorem sz101 : szT Try.prog 101 = 1 := by kernel_rfl
@[simp] theorem byt101 : bytT Try.prog 101 = some 8 := by kernel_rfl
@[simp] theorem agg101 : aggT Try.prog 101 = some false := by kernel_rfl
@[simp] theorem zc101 : zeroC Try.prog 101 = some [.opq .nilFunc] := by kernel_rfl
@[simp] theorem nc101_0 : nilC Try.prog 101 0 = false := by kernel_rfl
@[simp] theorem isf101 : isFnT (Try.prog.underlying 101) = true := by kernel_rfl
@[simp] theorem sz103 : szT Try.prog 103 = 1 := by kernel_rfl
@[simp] theorem byt103 : bytT Try.prog 103 = some 8 := by kernel_rfl
@[simp] theorem agg103 : aggT Try.prog 103 = some false := by kernel_rfl
@[simp] theorem zc103 : zeroC Try.prog 103 = some [.opq .nilFunc] := by kernel_rfl
@[simp] theorem nc103_0 : nilC Try.prog 103 0 = false := by kernel_rfl
@[simp] theorem isf103 : isFnT (Try.prog.underlying 103) = true := by kernel_rfl
@[simp] theorem sz104 : szT Try.prog 104 = 1 := by kernel_rfl
@[simp] theorem byt104 : bytT Try.prog 104 = some 8 := by kernel_rfl
@[simp] theorem agg104 : aggT Try.prog 104 = some false := by kernel_rfl
@[simp] theorem zc104 : zeroC Try.prog 104 = some [.opq .nilFunc] := by kernel_rfl
@[simp] theorem nc104_0 : nilC Try.prog 104 0 = false := by kernel_rfl
@[simp] theorem isf104 : isFnT (Try.prog.underlying 104) = true := by kernel_rfl
@[simp] theorem sz105 : szT Try.prog 105 = 1 := by kernel_rfl
@[simp] theorem byt105 : bytT Try.prog 105 = some 8 := by kernel_rfl
@[simp] theorem agg105 : aggT Try.prog 105 = some false := by kernel_rfl
@[simp] theorem zc105 : zeroC Try.prog 105 = some [.opq .nilFunc] := by kernel_rfl
@[simp] theorem nc105_0 : nilC Try.prog 105 0 = false := by kernel_rfl
@[simp] theorem isf105 : isFnT (Try.prog.underlying 105) = true := by kernel_rfl
@[simp] theorem sz106 : szT Try.prog 106 = 1 := by kernel_rfl
@[simp] theorem byt106 : bytT Try.prog 106 = some 8 := by kernel_rfl
@[simp] theorem agg106 : aggT Try.prog 106 = some false := by kernel_rfl
@[simp] theorem zc106 : zeroC Try.prog 106 = some [.opq .nilFunc] := by kernel_rfl
@[simp] theorem nc106_0 : nilC Try.prog 106 0 = false := by kernel_rfl
@[simp] theorem isf106 : isFnT (Try.prog.underlying 106) = true := by kernel_rfl
@[simp] theorem sz107 : szT Try.prog 107 = 1 := by kernel_rfl
@[simp] theorem byt107 : bytT Try.prog 107 = some 8 := by kernel_rfl
@[simp] theorem agg107 : aggT Try.prog 107 = some false := by kernel_rfl
@[simp] theorem zc107 : zeroC Try.prog 107 = some [.opq .nilFunc] := by kernel_rfl
@[simp] theorem nc107_0 : nilC Try.prog 107 0 = false := by kernel_rfl
@[simp] theorem isf107 : isFnT (Try.prog.underlying 107) = true := by kernel_rfl
@[simp] theorem sz108 : szT Try.prog 108 = 1 := by kernel_rfl
@[simp] theorem byt108 : bytT Try.prog 108 = some 8 := by kernel_rfl
@[simp] theorem agg108 : aggT Try.prog 108 = some false := by kernel_rfl
@[simp] theorem zc108 : zeroC Try.prog 108 = some [.opq (.pointer none)] := by kernel_rfl
@[simp] theorem nc108_0 : nilC Try.prog 108 0 = false := by kernel_rfl
@[simp] theorem und108 : Try.prog.underlying 108 = some (.pointer 85) := by kernel_rfl
@[simp] theorem sz110 : szT Try.prog 110 = 1 := by kernel_rfl
@[simp] theorem byt110 : bytT Try.prog 110 = some 8 := by kernel_rfl
@[simp] theorem agg110 : aggT Try.prog 110 = some false := by kernel_rfl
@[simp] theorem zc110 : zeroC Try.prog 110 = some [.opq .nilFunc] := by kernel_rfl
@[simp] theorem nc110_0 : nilC Try.prog 110 0 = false := by kernel_rfl
@[simp] theorem isf110 : isFnT (Try.prog.underlying 110) = true := by kernel_rfl
@[simp] theorem sz111 : szT Try.prog 111 = 1 := by kernel_rfl
@[simp] theorem byt111 : bytT Try.prog 111 = some 8 := by kernel_rfl
@[simp] theorem agg111 : aggT Try.prog 111 = some false := by kernel_rfl
@[simp] theorem zc111 : zeroC Try.prog 111 = some [.opq .nilFunc] := by kernel_rfl
@[simp] theorem nc111_0 : nilC Try.prog 111 0 = false := by kernel_rfl
@[simp] theorem isf111 : isFnT (Try.prog.underlying 111) = true := by kernel_rfl
@[simp] theorem sz113 : szT Try.prog 113 = 1 := by kernel_rfl
@[simp] theorem byt113 : bytT Try.prog 113 = some 8 := by kernel_rfl
@[simp] theorem agg113 : aggT Try.prog 113 = some false := by kernel_rfl
@[simp] theorem zc113 : zeroC Try.prog 113 = some [.opq .nilFunc] := by kernel_rfl
@[simp] theorem nc113_0 : nilC Try.prog 113 0 = false := by kernel_rfl
@[simp] theorem isf113 : isFnT (Try.prog.underlying 113) = true := by kernel_rfl
@[simp] theorem sz114 : szT Try.prog 114 = 1 := by kernel_rfl
@[simp] theorem byt114 : bytT Try.prog 114 = some 8 := by kernel_rfl
@[simp] theorem agg114 : aggT Try.prog 114 = some false := by kernel_rfl
@[simp] theorem zc114 : zeroC Try.prog 114 = some [.opq .nilFunc] := by kernel_rfl
@[simp] theorem nc114_0 : nilC Try.prog 114 0 = false := by kernel_rfl
@[simp] theorem isf114 : isFnT (Try.prog.underlying 114) = true := by kernel_rfl
@[simp] theorem sz115 : szT Try.prog 115 = 1 := by kernel_rfl
@[simp] theorem byt115 : bytT Try.prog 115 = some 8 := by kernel_rfl
@[simp] theorem agg115 : aggT Try.prog 115 = some false := by kernel_rfl
@[simp] theorem zc115 : zeroC Try.prog 115 = some [.opq .nilFunc] := by kernel_rfl
@[simp] theorem nc115_0 : nilC Try.prog 115 0 = false := by kernel_rfl
@[simp] theorem isf115 : isFnT (Try.prog.underlying 115) = true := by kernel_rfl
@[simp] theorem sz116 : szT Try.prog 116 = 2 := by kernel_rfl
@[simp] theorem byt116 : bytT Try.prog 116 = some 32 := by kernel_rfl
@[simp] theorem agg116 : aggT Try.prog 116 = some true := by kernel_rfl
@[simp] theorem zc116 : zeroC Try.prog 116 = some [.slice [], .opq .nilFunc] := by kernel_rfl
@[simp] theorem nc116_0 : nilC Try.prog 116 0 = true := by kernel_rfl
@[simp] theorem nc116_1 : nilC Try.prog 116 1 = false := by kernel_rfl
@[simp] theorem zs116 : zstr Try.prog 116 = some [.slice [], .opq .nilFunc] := by kernel_rfl
@[simp] theorem fl116_0 : fldT Try.prog 116 0 = some (0, 41) := by kernel_rfl
@[simp] theorem fl116_1 : fldT Try.prog 116 1 = some (1, 115) := by kernel_rfl
@[simp] theorem sz117 : szT Try.prog 117 = 2 := by kernel_rfl
@[simp] theorem byt117 : bytT Try.prog 117 = some 32 := by kernel_rfl
@[simp] theorem agg117 : aggT Try.prog 117 = some true := by kernel_rfl
@[simp] theorem zc117 : zeroC Try.prog 117 = some [.slice [], .opq .nilFunc] := by kernel_rfl
@[simp] theorem nc117_0 : nilC Try.prog 117 0 = true := by kernel_rfl
@[simp] theorem nc117_1 : nilC Try.prog 117 1 = false := by kernel_rfl
@[simp] theorem zs117 : zstr Try.prog 117 = some [.slice [], .opq .nilFunc] := by kernel_rfl
@[simp] theorem fl117_0 : fldT Try.prog 117 0 = some (0, 41) := by kernel_rfl
@[simp] theorem fl117_1 : fldT Try.prog 117 1 = some (1, 115) := by kernel_rfl
@[simp] theorem sz119 : szT Try.prog 119 = 1 := by kernel_rfl
@[simp] theorem byt119 : bytT Try.prog 119 = some 8 := by kernel_rfl
@[simp] theorem agg119 : aggT Try.prog 119 = some false := by kernel_rfl
@[simp] theorem zc119 : zeroC Try.prog 119 = some [.opq .nilFunc] := by kernel_rfl
@[simp] theorem nc119_0 : nilC Try.prog 119 0 = false := by kernel_rfl
@[simp] theorem isf119 : isFnT (Try.prog.underlying 119) = true := by kernel_rfl
@[simp] theorem sz121 : szT Try.prog 121 = 1 := by kernel_rfl
@[simp] theorem byt121 : bytT Try.prog 121 = some 8 := by kernel_rfl
@[simp] theorem agg121 : aggT Try.prog 121 = some false := by kernel_rfl
@[simp] theorem zc121 : zeroC Try.prog 121 = some [.opq .nilFunc] := by kernel_rfl
@[simp] theorem nc121_0 : nilC Try.prog 121 0 = false := by kernel_rfl
@[simp] theorem isf121 : isFnT (Try.prog.underlying 121) = true := by kernel_rfl
@[simp] theorem sz123 : szT Try.prog 123 = 1 := by kernel_rfl
@[simp] theorem byt123 : bytT Try.prog 123 = some 8 := by kernel_rfl
@[simp] theorem agg123 : aggT Try.prog 123 = some false := by kernel_rfl
@[simp] theorem zc123 : zeroC Try.prog 123 = some [.opq .nilFunc] := by kernel_rfl
@[simp] theorem nc123_0 : nilC Try.prog 123 0 = false := by kernel_rfl
@[simp] theorem isf123 : isFnT (Try.prog.underlying 123) = true := by kernel_rfl
@[simp] theorem sz124 : szT Try.prog 124 = 1 := by kernel_rfl
@[simp] theorem byt124 : bytT Try.prog 124 = some 8 := by kernel_rfl
@[simp] theorem agg124 : aggT Try.prog 124 = some false := by kernel_rfl
@[simp] theorem zc124 : zeroC Try.prog 124 = some [.opq .nilFunc] := by kernel_rfl
@[simp] theorem nc124_0 : nilC Try.prog 124 0 = false := by kernel_rfl
@[simp] theorem isf124 : isFnT (Try.prog.underlying 124) = true := by kernel_rfl
@[simp] theorem sz125 : szT Try.prog 125 = 1 := by kernel_rfl
@[simp] theorem byt125 : bytT Try.prog 125 = some 8 := by kernel_rfl
@[simp] theorem agg125 : aggT Try.prog 125 = some false := by kernel_rfl
@[simp] theorem zc125 : zeroC Try.prog 125 = some [.opq .nilFunc] := by kernel_rfl
@[simp] theorem nc125_0 : nilC Try.prog 125 0 = false := by kernel_rfl
@[simp] theorem isf125 : isFnT (Try.prog.underlying 125) = true := by kernel_rfl
@[simp] theorem sz126 : szT Try.prog 126 = 1 := by kernel_rfl
@[simp] theorem byt126 : bytT Try.prog 126 = some 8 := by kernel_rfl
@[simp] theorem agg126 : aggT Try.prog 126 = some false := by kernel_rfl
@[simp] theorem zc126 : zeroC Try.prog 126 = some [.opq .nilFunc] := by kernel_rfl
@[simp] theorem nc126_0 : nilC Try.prog 126 0 = false := by kernel_rfl
@[simp] theorem isf126 : isFnT (Try.prog.underlying 126) = true := by kernel_rfl
@[simp] theorem sz127 : szT Try.prog 127 = 1 := by kernel_rfl
@[simp] theorem byt127 : bytT Try.prog 127 = some 4 := by kernel_rfl
@[simp] theorem agg127 : aggT Try.prog 127 = some false := by kernel_rfl
@[simp] theorem zc127 : zeroC Try.prog 127 = some [.int .u32 0] := by kernel_rfl
@[simp] theorem nc127_0 : nilC Try.prog 127 0 = false := by kernel_rfl
@[simp] theorem und127 : Try.prog.underlying 127 = some (.int .u32) := by kernel_rfl
@[simp] theorem sz128 : szT Try.prog 128 = 1 := by kernel_rfl
@[simp] theorem byt128 : bytT Try.prog 128 = some 8 := by kernel_rfl
@[simp] theorem agg128 : aggT Try.prog 128 = some false := by kernel_rfl
@[simp] theorem zc128 : zeroC Try.prog 128 = some [.opq .nilFunc] := by kernel_rfl
@[simp] theorem nc128_0 : nilC Try.prog 128 0 = false := by kernel_rfl
@[simp] theorem isf128 : isFnT (Try.prog.underlying 128) = true := by kernel_rfl
@[simp] theorem sz129 : szT Try.prog 129 = 1 := by kernel_rfl
@[simp] theorem byt129 : bytT Try.prog 129 = some 8 := by kernel_rfl
@[simp] theorem agg129 : aggT Try.prog 129 = some false := by kernel_rfl
@[simp] theorem zc129 : zeroC Try.prog 129 = some [.opq .nilFunc] := by kernel_rfl
@[simp] theorem nc129_0 : nilC Try.prog 129 0 = false := by kernel_rfl
@[simp] theorem isf129 : isFnT (Try.prog.underlying 129) = true := by kernel_rfl
@[simp] theorem sz130 : szT Try.prog 130 = 1 := by kernel_rfl
@[simp] theorem byt130 : bytT Try.prog 130 = some 8 := by kernel_rfl
@[simp] theorem agg130 : aggT Try.prog 130 = some false := by kernel_rfl
@[simp] theorem zc130 : zeroC Try.prog 130 = some [.opq .nilFunc] := by kernel_rfl
@[simp] theorem nc130_0 : nilC Try.prog 130 0 = false := by kernel_rfl
@[simp] theorem isf130 : isFnT (Try.prog.underlying 130) = true := by kernel_rfl
@[simp] theorem sz131 : szT Try.prog 131 = 1 := by kernel_rfl
@[simp] theorem byt131 : bytT Try.prog 131 = some 8 := by kernel_rfl
@[simp] theorem agg131 : aggT Try.prog 131 = some false := by kernel_rfl
@[simp] theorem zc131 : zeroC Try.prog 131 = some [.opq (.map none)] := by kernel_rfl
@[simp] theorem nc131_0 : nilC Try.prog 131 0 = false := by kernel_rfl
@[simp] theorem mp131 : mpT Try.prog 131 = some (.int .i64, 130) := by kernel_rfl
@[simp] theorem mz131 : (zeroT Try.prog 130).map ofConst = some (.d (.opq .nilFunc)) := by kernel_rfl
@[simp] theorem sz133 : szT Try.prog 133 = 1 := by kernel_rfl
@[simp] theorem byt133 : bytT Try.prog 133 = some 8 := by kernel_rfl
@[simp] theorem agg133 : aggT Try.prog 133 = some false := by kernel_rfl
@[simp] theorem zc133 : zeroC Try.prog 133 = some [.opq .nilFunc] := by kernel_rfl
@[simp] theorem nc133_0 : nilC Try.prog 133 0 = false := by kernel_rfl
@[simp] theorem isf133 : isFnT (Try.prog.underlying 133) = true := by kernel_rfl
@[simp] theorem sz134 : szT Try.prog 134 = 1 := by kernel_rfl
@[simp] theorem byt134 : bytT Try.prog 134 = some 8 := by kernel_rfl
@[simp] theorem agg134 : aggT Try.prog 134 = some false := by kernel_rfl
@[simp] theorem zc134 : zeroC Try.prog 134 = some [.opq .nilFunc] := by kernel_rfl
@[simp] theorem nc134_0 : nilC Try.prog 134 0 = false := by kernel_rfl
@[simp] theorem isf134 : isFnT (Try.prog.underlying 134) = true := by kernel_rfl
@[simp] theorem sz135 : szT Try.prog 135 = 1 := by kernel_rfl
@[simp] theorem byt135 : bytT Try.prog 135 = some 8 := by kernel_rfl
@[simp] theorem agg135 : aggT Try.prog 135 = some false := by kernel_rfl
@[simp] theorem zc135 : zeroC Try.prog 135 = some [.opq .nilFunc] := by kernel_rfl
@[simp] theorem nc135_0 : nilC Try.prog 135 0 = false := by kernel_rfl
@[simp] theorem isf135 : isFnT (Try.prog.underlying 135) = true := by kernel_rfl
@[simp] theorem sz136 : szT Try.prog 136 = 1 := by kernel_rfl
@[simp] theorem byt136 : bytT Try.prog 136 = some 8 := by kernel_rfl
@[simp] theorem agg136 : aggT Try.prog 136 = some false := by kernel_rfl
@[simp] theorem zc136 : zeroC Try.prog 136 = some [.opq .nilFunc] := by kernel_rfl
@[simp] theorem nc136_0 : nilC Try.prog 136 0 = false := by kernel_rfl
@[simp] theorem isf136 : isFnT (Try.prog.underlying 136) = true := by kernel_rfl
@[simp] theorem sz137 : szT Try.prog 137 = 1 := by kernel_rfl
@[simp] theorem byt137 : bytT Try.prog 137 = some 8 := by kernel_rfl
@[simp] theorem agg137 : aggT Try.prog 137 = some false := by kernel_rfl
@[simp] theorem zc137 : zeroC Try.prog 137 = some [.opq (.pointer none)] := by kernel_rfl
@[simp] theorem nc137_0 : nilC Try.prog 137 0 = false := by kernel_rfl
@[simp] theorem und137 : Try.prog.underlying 137 = some (.pointer 139) := by kernel_rfl
@[simp] theorem sz138 : szT Try.prog 138 = 5 := by kernel_rfl
@[simp] theorem byt138 : bytT Try.prog 138 = some 120 := by kernel_rfl
@[simp] theorem agg138 : aggT Try.prog 138 = some true := by kernel_rfl
@[simp] theorem zc138 : zeroC Try.prog 138 = some [.slice [], .slice [], .slice [], .slice [], .slice []] := by kernel_rfl
@[simp] theorem nc138_0 : nilC Try.prog 138 0 = true := by kernel_rfl
@[simp] theorem nc138_1 : nilC Try.prog 138 1 = true := by kernel_rfl
@[simp] theorem nc138_2 : nilC Try.prog 138 2 = true := by kernel_rfl
@[simp] theorem nc138_3 : nilC Try.prog 138 3 = true := by kernel_rfl
@[simp] theorem nc138_4 : nilC Try.prog 138 4 = true := by kernel_rfl
@[simp] theorem zs138 : zstr Try.prog 138 = some [.slice [], .slice [], .slice [], .slice [], .slice []] := by kernel_rfl
@[simp] theorem fl138_0 : fldT Try.prog 138 0 = some (0, 30) := by kernel_rfl
@[simp] theorem fl138_1 : fldT Try.prog 138 1 = some (3, 27) := by kernel_rfl
@[simp] theorem fl138_2 : fldT Try.prog 138 2 = some (4, 52) := by kernel_rfl
@[simp] theorem sz139 : szT Try.prog 139 = 5 := by kernel_rfl
@[simp] theorem byt139 : bytT Try.prog 139 = some 120 := by kernel_rfl
@[simp] theorem agg139 : aggT Try.prog 139 = some true := by kernel_rfl
@[simp] theorem zc139 : zeroC Try.prog 139 = some [.slice [], .slice [], .slice [], .slice [], .slice []] := by kernel_rfl
@[simp] theorem nc139_0 : nilC Try.prog 139 0 = true := by kernel_rfl
@[simp] theorem nc139_1 : nilC Try.prog 139 1 = true := by kernel_rfl
@[simp] theorem nc139_2 : nilC Try.prog 139 2 = true := by kernel_rfl
@[simp] theorem nc139_3 : nilC Try.prog 139 3 = true := by kernel_rfl
@[simp] theorem nc139_4 : nilC Try.prog 139 4 = true := by kernel_rfl
@[simp] theorem zs139 : zstr Try.prog 139 = some [.slice [], .slice [], .slice [], .slice [], .slice []] := by kernel_rfl
@[simp] theorem fl139_0 : fldT Try.prog 139 0 = some (0, 30) := by kernel_rfl
@[simp] theorem fl139_1 : fldT Try.prog 139 1 = some (3, 27) := by kernel_rfl
@[simp] theorem fl139_2 : fldT Try.prog 139 2 = some (4, 52) := by kernel_rfl
@[simp] theorem sz140 : szT Try.prog 140 = 1 := by kernel_rfl
@[simp] theorem byt140 : bytT Try.prog 140 = some 8 := by kernel_rfl
@[simp] theorem agg140 : aggT Try.prog 140 = some false := by kernel_rfl
@[simp] theorem zc140 : zeroC Try.prog 140 = some [.opq .nilFunc] := by kernel_rfl
@[simp] theorem nc140_0 : nilC Try.prog 140 0 = false := by kernel_rfl
@[simp] theorem isf140 : isFnT (Try.prog.underlying 140) = true := by kernel_rfl
@[simp] theorem sz141 : szT Try.prog 141 = 1 := by kernel_rfl
@[simp] theorem byt141 : bytT Try.prog 141 = some 8 := by kernel_rfl
@[simp] theorem agg141 : aggT Try.prog 141 = some false := by kernel_rfl
@[simp] theorem zc141 : zeroC Try.prog 141 = some [.opq .nilFunc] := by kernel_rfl
@[simp] theorem nc141_0 : nilC Try.prog 141 0 = false := by kernel_rfl
@[simp] theorem isf141 : isFnT (Try.prog.underlying 141) = true := by kernel_rfl
@[simp] theorem sz142 : szT Try.prog 142 = 1 := by kernel_rfl
@[simp] theorem byt142 : bytT Try.prog 142 = some 8 := by kernel_rfl
@[simp] theorem agg142 : aggT Try.prog 142 = some false := by kernel_rfl
@[simp] theorem zc142 : zeroC Try.prog 142 = some [.opq .nilFunc] := by kernel_rfl
@[simp] theorem nc142_0 : nilC Try.prog 142 0 = false := by kernel_rfl
@[simp] theorem isf142 : isFnT (Try.prog.underlying 142) = true := by kernel_rfl
@[simp] theorem sz143 : szT Try.prog 143 = 1 := by kernel_rfl
@[simp] theorem byt143 : bytT Try.prog 143 = some 8 := by kernel_rfl
@[simp] theorem agg143 : aggT Try.prog 143 = some false := by kernel_rfl
@[simp] theorem zc143 : zeroC Try.prog 143 = some [.opq .nilFunc] := by kernel_rfl
@[simp] theorem nc143_0 : nilC Try.prog 143 0 = false := by kernel_rfl
@[simp] theorem isf143 : isFnT (Try.prog.underlying 143) = true := by kernel_rfl
@[simp] theorem sz144 : szT Try.prog 144 = 1 := by kernel_rfl
@[simp] theorem byt144 : bytT Try.prog 144 = some 8 := by kernel_rfl
@[simp] theorem agg144 : aggT Try.prog 144 = some false := by kernel_rfl
@[simp] theorem zc144 : zeroC Try.prog 144 = some [.opq .nilFunc] := by kernel_rfl
@[simp] theorem nc144_0 : nilC Try.prog 144 0 = false := by kernel_rfl
@[simp] theorem isf144 : isFnT (Try.prog.underlying 144) = true := by kernel_rfl
@[simp] theorem sz145 : szT Try.prog 145 = 1 := by kernel_rfl
@[simp] theorem byt145 : bytT Try.prog 145 = some 8 := by kernel_rfl
@[simp] theorem agg145 : aggT Try.prog 145 = some false := by kernel_rfl
@[simp] theorem zc145 : zeroC Try.prog 145 = some [.opq .nilFunc] := by kernel_rfl
@[simp] theorem nc145_0 : nilC Try.prog 145 0 = false := by kernel_rfl
@[simp] theorem isf145 : isFnT (Try.prog.underlying 145) = true := by kernel_rfl
@[simp] theorem sz146 : szT Try.prog 146 = 1 := by kernel_rfl
@[simp] theorem byt146 : bytT Try.prog 146 = some 8 := by kernel_rfl
@[simp] theorem agg146 : aggT Try.prog 146 = some false := by kernel_rfl
@[simp] theorem zc146 : zeroC Try.prog 146 = some [.opq .nilFunc] := by kernel_rfl
@[simp] theorem nc146_0 : nilC Try.prog 146 0 = false := by kernel_rfl
@[simp] theorem isf146 : isFnT (Try.prog.underlying 146) = true := by kernel_rfl
@[simp] theorem sz147 : szT Try.prog 147 = 1 := by kernel_rfl
@[simp] theorem byt147 : bytT Try.prog 147 = some 8 := by kernel_rfl
@[simp] theorem agg147 : aggT Try.prog 147 = some false := by kernel_rfl
@[simp] theorem zc147 : zeroC Try.prog 147 = some [.opq .nilFunc] := by kernel_rfl
@[simp] theorem nc147_0 : nilC Try.prog 147 0 = false := by kernel_rfl
@[simp] theorem isf147 : isFnT (Try.prog.underlying 147) = true := by kernel_rfl
@[simp] theorem sz148 : szT Try.prog 148 = 1 := by kernel_rfl
@[simp] theorem byt148 : bytT Try.prog 148 = some 8 := by kernel_rfl
@[simp] theorem agg148 : aggT Try.prog 148 = some false := by kernel_rfl
@[simp] theorem zc148 : zeroC Try.prog 148 = some [.opq .nilFunc] := by kernel_rfl
@[simp] theorem nc148_0 : nilC Try.prog 148 0 = false := by kernel_rfl
@[simp] theorem isf148 : isFnT (Try.prog.underlying 148) = true := by kernel_rfl
@[simp] theorem sz149 : szT Try.prog 149 = 1 := by kernel_rfl
@[simp] theorem byt149 : bytT Try.prog 149 = some 8 := by kernel_rfl
@[simp] theorem agg149 : aggT Try.prog 149 = some false := by kernel_rfl
@[simp] theorem zc149 : zeroC Try.prog 149 = some [.int .u64 0] := by kernel_rfl
@[simp] theorem nc149_0 : nilC Try.prog 149 0 = false := by kernel_rfl
@[simp] theorem und149 : Try.prog.underlying 149 = some (.int .u64) := by kernel_rfl
@[simp] theorem sz150 : szT Try.prog 150 = 1 := by kernel_rfl
@[simp] theorem byt150 : bytT Try.prog 150 = some 8 := by kernel_rfl
@[simp] theorem agg150 : aggT Try.prog 150 = some false := by kernel_rfl
@[simp] theorem zc150 : zeroC Try.prog 150 = some [.opq (.pointer none)] := by kernel_rfl
@[simp] theorem nc150_0 : nilC Try.prog 150 0 = false := by kernel_rfl
@[simp] theorem und150 : Try.prog.underlying 150 = some (.pointer 30) := by kernel_rfl
@[simp] theorem sz151 : szT Try.prog 151 = 1 := by kernel_rfl
@[simp] theorem byt151 : bytT Try.prog 151 = some 8 := by kernel_rfl
@[simp] theorem agg151 : aggT Try.prog 151 = some false := by kernel_rfl
@[simp] theorem zc151 : zeroC Try.prog 151 = some [.opq .nilFunc] := by kernel_rfl
@[simp] theorem nc151_0 : nilC Try.prog 151 0 = false := by kernel_rfl
@[simp] theorem isf151 : isFnT (Try.prog.underlying 151) = true := by kernel_rfl
@[simp] theorem sz152 : szT Try.prog 152 = 1 := by kernel_rfl
@[simp] theorem byt152 : bytT Try.prog 152 = some 8 := by kernel_rfl
@[simp] theorem agg152 : aggT Try.prog 152 = some false := by kernel_rfl
@[simp] theorem zc152 : zeroC Try.prog 152 = some [.opq .nilFunc] := by kernel_rfl
@[simp] theorem nc152_0 : nilC Try.prog 152 0 = false := by kernel_rfl
@[simp] theorem isf152 : isFnT (Try.prog.underlying 152) = true := by kernel_rfl
@[simp] theorem sz153 : szT Try.prog 153 = 1 := by kernel_rfl
@[simp] theorem byt153 : bytT Try.prog 153 = some 8 := by kernel_rfl
@[simp] theorem agg153 : aggT Try.prog 153 = some false := by kernel_rfl
@[simp] theorem zc153 : zeroC Try.prog 153 = some [.opq .nilFunc] := by kernel_rfl
@[simp] theorem nc153_0 : nilC Try.prog 153 0 = false := by kernel_rfl
@[simp] theorem isf153 : isFnT (Try.prog.underlying 153) = true := by kernel_rfl
@[simp] theorem sz154 : szT Try.prog 154 = 1 := by kernel_rfl
@[simp] theorem byt154 : bytT Try.prog 154 = some 24 := by kernel_rfl
@[simp] theorem agg154 : aggT Try.prog 154 = some false := by kernel_rfl
@[simp] theorem zc154 : zeroC Try.prog 154 = some [.slice []] := by kernel_rfl
@[simp] theorem nc154_0 : nilC Try.prog 154 0 = true := by kernel_rfl
@[simp] theorem el154 : elT Try.prog 154 = some 28 := by kernel_rfl
@[simp] theorem und154 : Try.prog.underlying 154 = some (.slice 28) := by kernel_rfl
@[simp] theorem bz154 : bslZ Try.prog 154 = true := by kernel_rfl
@[simp] theorem es154 : eSz Try.prog 154 = 1 := by kernel_rfl
@[simp] theorem e1154 : el1 Try.prog 154 = some (1, false) := by kernel_rfl
@[simp] theorem ae154 : agE Try.prog 154 = some false := by kernel_rfl
@[simp] theorem ap154 : apT Try.prog 154 = some (1, 24, .slice [], true) := by kernel_rfl
@[simp] theorem sz155 : szT Try.prog 155 = 1 := by kernel_rfl
@[simp] theorem byt155 : bytT Try.prog 155 = some 8 := by kernel_rfl
@[simp] theorem agg155 : aggT Try.prog 155 = some false := by kernel_rfl
@[simp] theorem zc155 : zeroC Try.prog 155 = some [.opq .nilFunc] := by kernel_rfl
@[simp] theorem nc155_0 : nilC Try.prog 155 0 = false := by kernel_rfl
@[simp] theorem isf155 : isFnT (Try.prog.underlying 155) = true := by kernel_rfl
@[simp] theorem sz156 : szT Try.prog 156 = 1 := by kernel_rfl
@[simp] theorem byt156 : bytT Try.prog 156 = some 8 := by kernel_rfl
@[simp] theorem agg156 : aggT Try.prog 156 = some false := by kernel_rfl
@[simp] theorem zc156 : zeroC Try.prog 156 = some [.opq .nilFunc] := by kernel_rfl
@[simp] theorem nc156_0 : nilC Try.prog 156 0 = false := by kernel_rfl
@[simp] theorem isf156 : isFnT (Try.prog.underlying 156) = true := by kernel_rfl
@[simp] theorem sz157 : szT Try.prog 157 = 1 := by kernel_rfl
@[simp] theorem byt157 : bytT Try.prog 157 = some 8 := by kernel_rfl
@[simp] theorem agg157 : aggT Try.prog 157 = some false := by kernel_rfl
@[simp] theorem zc157 : zeroC Try.prog 157 = some [.opq .nilFunc] := by kernel_rfl
@[simp] theorem nc157_0 : nilC Try.prog 157 0 = false := by kernel_rfl
@[simp] theorem isf157 : isFnT (Try.prog.underlying 157) = true := by kernel_rfl
@[simp] theorem sz158 : szT Try.prog 158 = 1 := by kernel_rfl
@[simp] theorem byt158 : bytT Try.prog 158 = some 8 := by kernel_rfl
@[simp] theorem agg158 : aggT Try.prog 158 = some false := by kernel_rfl
@[simp] theorem zc158 : zeroC Try.prog 158 = some [.opq .nilFunc] := by kernel_rfl
@[simp] theorem nc158_0 : nilC Try.prog 158 0 = false := by kernel_rfl
@[simp] theorem isf158 : isFnT (Try.prog.underlying 158) = true := by kernel_rfl
@[simp] theorem sz159 : szT Try.prog 159 = 1 := by kernel_rfl
@[simp] theorem byt159 : bytT Try.prog 159 = some 8 := by kernel_rfl
@[simp] theorem agg159 : aggT Try.prog 159 = some false := by kernel_rfl
@[simp] theorem zc159 : zeroC Try.prog 159 = some [.opq .nilFunc] := by kernel_rfl
@[simp] theorem nc159_0 : nilC Try.prog 159 0 = false := by kernel_rfl
@[simp] theorem isf159 : isFnT (Try.prog.underlying 159) = true := by kernel_rfl
@[simp] theorem sz160 : szT Try.prog 160 = 1 := by kernel_rfl
@[simp] theorem byt160 : bytT Try.prog 160 = some 24 := by kernel_rfl
@[simp] theorem agg160 : aggT Try.prog 160 = some false := by kernel_rfl
@[simp] theorem zc160 : zeroC Try.prog 160 = some [.slice []] := by kernel_rfl
@[simp] theorem nc160_0 : nilC Try.prog 160 0 = true := by kernel_rfl
@[simp] theorem el160 : elT Try.prog 160 = some 4 := by kernel_rfl
@[simp] theorem und160 : Try.prog.underlying 160 = some (.slice 4) := by kernel_rfl
@[simp] theorem bz160 : bslZ Try.prog 160 = true := by kernel_rfl
@[simp] theorem es160 : eSz Try.prog 160 = 1 := by kernel_rfl
@[simp] theorem e1160 : el1 Try.prog 160 = some (1, false) := by kernel_rfl
@[simp] theorem ae160 : agE Try.prog 160 = some false := by kernel_rfl
@[simp] theorem ap160 : apT Try.prog 160 = some (1, 1, .bool false, true) := by kernel_rfl
@[simp] theorem sz161 : szT Try.prog 161 = 1 := by kernel_rfl
@[simp] theorem byt161 : bytT Try.prog 161 = some 8 := by kernel_rfl
@[simp] theorem agg161 : aggT Try.prog 161 = some false := by kernel_rfl
@[simp] theorem zc161 : zeroC Try.prog 161 = some [.opq .nilFunc] := by kernel_rfl
@[simp] theorem nc161_0 : nilC Try.prog 161 0 = false := by kernel_rfl
@[simp] theorem isf161 : isFnT (Try.prog.underlying 161) = true := by kernel_rfl
@[simp] theorem sz162 : szT Try.prog 162 = 1 := by kernel_rfl
@[simp] theorem byt162 : bytT Try.prog 162 = some 8 := by kernel_rfl
@[simp] theorem agg162 : aggT Try.prog 162 = some false := by kernel_rfl
@[simp] theorem zc162 : zeroC Try.prog 162 = some [.opq .nilFunc] := by kernel_rfl
@[simp] theorem nc162_0 : nilC Try.prog 162 0 = false := by kernel_rfl
@[simp] theorem isf162 : isFnT (Try.prog.underlying 162) = true := by kernel_rfl
@[simp] theorem sz163 : szT Try.prog 163 = 1 := by kernel_rfl
@[simp] theorem byt163 : bytT Try.prog 163 = some 8 := by kernel_rfl
@[simp] theorem agg163 : aggT Try.prog 163 = some false := by kernel_rfl
@[simp] theorem zc163 : zeroC Try.prog 163 = some [.opq .nilFunc] := by kernel_rfl
@[simp] theorem nc163_0 : nilC Try.prog 163 0 = false := by kernel_rfl
@[simp] theorem isf163 : isFnT (Try.prog.underlying 163) = true := by kernel_rfl
@[simp] theorem sz164 : szT Try.prog 164 = 1 := by kernel_rfl
@[simp] theorem byt164 : bytT Try.prog 164 = some 8 := by kernel_rfl
@[simp] theorem agg164 : aggT Try.prog 164 = some false := by kernel_rfl
@[simp] theorem zc164 : zeroC Try.prog 164 = some [.opq .nilFunc] := by kernel_rfl
@[simp] theorem nc164_0 : nilC Try.prog 164 0 = false := by kernel_rfl
@[simp] theorem isf164 : isFnT (Try.prog.underlying 164) = true := by kernel_rfl
@[simp] theorem sz165 : szT Try.prog 165 = 1 := by kernel_rfl
@[simp] theorem byt165 : bytT Try.prog 165 = some 8 := by kernel_rfl
@[simp] theorem agg165 : aggT Try.prog 165 = some false := by kernel_rfl
@[simp] theorem zc165 : zeroC Try.prog 165 = some [.opq .nilFunc] := by kernel_rfl
@[simp] theorem nc165_0 : nilC Try.prog 165 0 = false := by kernel_rfl
@[simp] theorem isf165 : isFnT (Try.prog.underlying 165) = true := by kernel_rfl
@[simp] theorem sz166 : szT Try.prog 166 = 1 := by kernel_rfl
@[simp] theorem byt166 : bytT Try.prog 166 = some 8 := by kernel_rfl
@[simp] theorem agg166 : aggT Try.prog 166 = some false := by kernel_rfl
@[simp] theorem zc166 : zeroC Try.prog 166 = some [.opq .nilFunc] := by kernel_rfl
@[simp] theorem nc166_0 : nilC Try.prog 166 0 = false := by kernel_rfl
@[simp] theorem isf166 : isFnT (Try.prog.underlying 166) = true := by kernel_rfl
@[simp] theorem sz172 : szT Try.prog 172 = 1 := by kernel_rfl
@[simp] theorem byt172 : bytT Try.prog 172 = some 8 := by kernel_rfl
@[simp] theorem agg172 : aggT Try.prog 172 = some false := by kernel_rfl
@[simp] theorem zc172 : zeroC Try.prog 172 = some [.opq .nilFunc] := by kernel_rfl
@[simp] theorem nc172_0 : nilC Try.prog 172 0 = false := by kernel_rfl
@[simp] theorem isf172 : isFnT (Try.prog.underlying 172) = true := by kernel_rfl
@[simp] theorem sz175 : szT Try.prog 175 = 1 := by kernel_rfl
@[simp] theorem byt175 : bytT Try.prog 175 = some 8 := by kernel_rfl
@[simp] theorem agg175 : aggT Try.prog 175 = some false := by kernel_rfl
@[simp] theorem zc175 : zeroC Try.prog 175 = some [.opq .nilFunc] := by kernel_rfl
@[simp] theorem nc175_0 : nilC Try.prog 175 0 = false := by kernel_rfl
@[simp] theorem isf175 : isFnT (Try.prog.underlying 175) = true := by kernel_rfl
@[simp] theorem sz176 : szT Try.prog 176 = 1 := by kernel_rfl
@[simp] theorem byt176 : bytT Try.prog 176 = some 8 := by kernel_rfl
@[simp] theorem agg176 : aggT Try.prog 176 = some false := by kernel_rfl
@[simp] theorem zc176 : zeroC Try.prog 176 = some [.opq (.pointer none)] := by kernel_rfl
@[simp] theorem nc176_0 : nilC Try.prog 176 0 = false := by kernel_rfl
@[simp] theorem und176 : Try.prog.underlying 176 = some (.pointer 5) := by kernel_rfl
@[simp] theorem sz179 : szT Try.prog 179 = 11 := by kernel_rfl
@[simp] theorem byt179 : bytT Try.prog 179 = some 48 := by kernel_rfl
@[simp] theorem agg179 : aggT Try.prog 179 = some true := by kernel_rfl
@[simp] theorem zc179 : zeroC Try.prog 179 = some [.int .u64 0, .int .u64 0, .int .u32 0, .int .u8 0, .int .u8 0, .int .u8 0, .int .u8 0, .opq .nilFunc, .opq (.pointer none), .int .i32 0, .int .i32 0] := by kernel_rfl
@[simp] theorem nc179_0 : nilC Try.prog 179 0 = false := by kernel_rfl
@[simp] theorem nc179_1 : nilC Try.prog 179 1 = false := by kernel_rfl
@[simp] theorem nc179_2 : nilC Try.prog 179 2 = false := by kernel_rfl
@[simp] theorem nc179_3 : nilC Try.prog 179 3 = false := by kernel_rfl
@[simp] theorem nc179_4 : nilC Try.prog 179 4 = false := by kernel_rfl
@[simp] theorem nc179_5 : nilC Try.prog 179 5 = false := by kernel_rfl
@[simp] theorem nc179_6 : nilC Try.prog 179 6 = false := by kernel_rfl
@[simp] theorem nc179_7 : nilC Try.prog 179 7 = false := by kernel_rfl
@[simp] theorem nc179_8 : nilC Try.prog 179 8 = false := by kernel_rfl
@[simp] theorem nc179_9 : nilC Try.prog 179 9 = false := by kernel_rfl
@[simp] theorem nc179_10 : nilC Try.prog 179 10 = false := by kernel_rfl
@[simp] theorem zs179 : zstr Try.prog 179 = some [.int .u64 0, .int .u64 0, .int .u32 0, .int .u8 0, .int .u8 0, .int .u8 0, .int .u8 0, .opq .nilFunc, .opq (.pointer none), .int .i32 0, .int .i32 0] := by kernel_rfl
@[simp] theorem fl179_0 : fldT Try.prog 179 0 = some (0, 12) := by kernel_rfl
@[simp] theorem fl179_1 : fldT Try.prog 179 1 = some (1, 12) := by kernel_rfl
@[simp] theorem fl179_2 : fldT Try.prog 179 2 = some (2, 127) := by kernel_rfl
@[simp] theorem fl179_3 : fldT Try.prog 179 3 = some (3, 173) := by kernel_rfl
@[simp] theorem fl179_4 : fldT Try.prog 179 4 = some (4, 5) := by kernel_rfl
@[simp] theorem fl179_5 : fldT Try.prog 179 5 = some (5, 5) := by kernel_rfl
@[simp] theorem fl179_6 : fldT Try.prog 179 6 = some (6, 174) := by kernel_rfl
@[simp] theorem fl179_7 : fldT Try.prog 179 7 = some (7, 175) := by kernel_rfl
@[simp] theorem fl179_8 : fldT Try.prog 179 8 = some (8, 176) := by kernel_rfl
@[simp] theorem fl179_9 : fldT Try.prog 179 9 = some (9, 177) := by kernel_rfl
@[simp] theorem fl179_10 : fldT Try.prog 179 10 = some (10, 178) := by kernel_rfl
end Go.Proofs.Ytkbidfohcanijaa
