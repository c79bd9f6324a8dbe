/- The facts on this seat's types that the engine asks for, each by reckoning. PRINTED by types.py. -/
import Derived.Test.YtoamihggbaaohaaEngZ
import Derived.Test.YtoamihggbaaohaaProg
import Derived.KernelRfl
namespace Go.Proofs.Ytoamihggbaaohaa
open BoEng
set_option maxRecDepth 100000
@[simp] theorem sz1 : szT Try.prog 1 = 1 := by kernel_rfl
@[simp] theorem byt1 : bytT Try.prog 1 = some 8 := by kernel_rfl
@[simp] theorem agg1 : aggT Try.prog 1 = some false := by kernel_rfl
@[simp] theorem zc1 : zeroC Try.prog 1 = some [.opq .nilFunc] := by kernel_rfl
@[simp] theorem nc1_0 : nilC Try.prog 1 0 = false := by kernel_rfl
@[simp] theorem isf1 : isFnT (Try.prog.underlying 1) = true := by kernel_rfl
@[simp] theorem sz2 : szT Try.prog 2 = 1 := by kernel_rfl
@[simp] theorem byt2 : bytT Try.prog 2 = some 8 := by kernel_rfl
@[simp] theorem agg2 : aggT Try.prog 2 = some false := by kernel_rfl
@[simp] theorem zc2 : zeroC Try.prog 2 = some [.int .i64 0] := by kernel_rfl
@[simp] theorem nc2_0 : nilC Try.prog 2 0 = false := by kernel_rfl
@[simp] theorem und2 : Try.prog.underlying 2 = some (.int .i64) := by kernel_rfl
@[simp] theorem sz3 : szT Try.prog 3 = 1 := by kernel_rfl
@[simp] theorem byt3 : bytT Try.prog 3 = some 8 := by kernel_rfl
@[simp] theorem agg3 : aggT Try.prog 3 = some false := by kernel_rfl
@[simp] theorem zc3 : zeroC Try.prog 3 = some [.int .i64 0] := by kernel_rfl
@[simp] theorem nc3_0 : nilC Try.prog 3 0 = false := by kernel_rfl
@[simp] theorem und3 : Try.prog.underlying 3 = some (.int .i64) := by kernel_rfl
@[simp] theorem sz4 : szT Try.prog 4 = 1 := by kernel_rfl
@[simp] theorem byt4 : bytT Try.prog 4 = some 1 := by kernel_rfl
@[simp] theorem agg4 : aggT Try.prog 4 = some false := by kernel_rfl
@[simp] theorem zc4 : zeroC Try.prog 4 = some [.bool false] := by kernel_rfl
@[simp] theorem nc4_0 : nilC Try.prog 4 0 = false := by kernel_rfl
@[simp] theorem und4 : Try.prog.underlying 4 = some .bool := by kernel_rfl
@[simp] theorem sz5 : szT Try.prog 5 = 1 := by kernel_rfl
@[simp] theorem byt5 : bytT Try.prog 5 = some 1 := by kernel_rfl
@[simp] theorem agg5 : aggT Try.prog 5 = some false := by kernel_rfl
@[simp] theorem zc5 : zeroC Try.prog 5 = some [.int .u8 0] := by kernel_rfl
@[simp] theorem nc5_0 : nilC Try.prog 5 0 = false := by kernel_rfl
@[simp] theorem und5 : Try.prog.underlying 5 = some (.int .u8) := by kernel_rfl
@[simp] theorem sz9 : szT Try.prog 9 = 1 := by kernel_rfl
@[simp] theorem byt9 : bytT Try.prog 9 = some 16 := by kernel_rfl
@[simp] theorem agg9 : aggT Try.prog 9 = some false := by kernel_rfl
@[simp] theorem zc9 : zeroC Try.prog 9 = some [.str []] := by kernel_rfl
@[simp] theorem nc9_0 : nilC Try.prog 9 0 = false := by kernel_rfl
@[simp] theorem und9 : Try.prog.underlying 9 = some .string := by kernel_rfl
@[simp] theorem sz12 : szT Try.prog 12 = 1 := by kernel_rfl
@[simp] theorem byt12 : bytT Try.prog 12 = some 8 := by kernel_rfl
@[simp] theorem agg12 : aggT Try.prog 12 = some false := by kernel_rfl
@[simp] theorem zc12 : zeroC Try.prog 12 = some [.int .u64 0] := by kernel_rfl
@[simp] theorem nc12_0 : nilC Try.prog 12 0 = false := by kernel_rfl
@[simp] theorem und12 : Try.prog.underlying 12 = some (.int .u64) := by kernel_rfl
@[simp] theorem sz15 : szT Try.prog 15 = 1 := by kernel_rfl
@[simp] theorem byt15 : bytT Try.prog 15 = some 8 := by kernel_rfl
@[simp] theorem agg15 : aggT Try.prog 15 = some false := by kernel_rfl
@[simp] theorem zc15 : zeroC Try.prog 15 = some [.opq (.pointer none)] := by kernel_rfl
@[simp] theorem nc15_0 : nilC Try.prog 15 0 = false := by kernel_rfl
@[simp] theorem und15 : Try.prog.underlying 15 = some (.pointer 103) := by kernel_rfl
@[simp] theorem sz16 : szT Try.prog 16 = 1 := by kernel_rfl
@[simp] theorem byt16 : bytT Try.prog 16 = some 8 := by kernel_rfl
@[simp] theorem agg16 : aggT Try.prog 16 = some false := by kernel_rfl
@[simp] theorem zc16 : zeroC Try.prog 16 = some [.opq (.pointer none)] := by kernel_rfl
@[simp] theorem nc16_0 : nilC Try.prog 16 0 = false := by kernel_rfl
@[simp] theorem und16 : Try.prog.underlying 16 = some (.pointer 106) := by kernel_rfl
@[simp] theorem sz17 : szT Try.prog 17 = 1 := by kernel_rfl
@[simp] theorem byt17 : bytT Try.prog 17 = some 8 := by kernel_rfl
@[simp] theorem agg17 : aggT Try.prog 17 = some false := by kernel_rfl
@[simp] theorem zc17 : zeroC Try.prog 17 = some [.opq (.pointer none)] := by kernel_rfl
@[simp] theorem nc17_0 : nilC Try.prog 17 0 = false := by kernel_rfl
@[simp] theorem und17 : Try.prog.underlying 17 = some (.pointer 116) := by kernel_rfl
@[simp] theorem sz20 : szT Try.prog 20 = 1 := by kernel_rfl
@[simp] theorem byt20 : bytT Try.prog 20 = some 16 := by kernel_rfl
@[simp] theorem agg20 : aggT Try.prog 20 = some false := by kernel_rfl
@[simp] theorem zc20 : zeroC Try.prog 20 = some [.opq .nilIface] := by kernel_rfl
@[simp] theorem nc20_0 : nilC Try.prog 20 0 = false := by kernel_rfl
@[simp] theorem sz21 : szT Try.prog 21 = 1 := by kernel_rfl
@[simp] theorem byt21 : bytT Try.prog 21 = some 4 := by kernel_rfl
@[simp] theorem agg21 : aggT Try.prog 21 = some false := by kernel_rfl
@[simp] theorem zc21 : zeroC Try.prog 21 = some [.int .i32 0] := by kernel_rfl
@[simp] theorem nc21_0 : nilC Try.prog 21 0 = false := by kernel_rfl
@[simp] theorem und21 : Try.prog.underlying 21 = some (.int .i32) := by kernel_rfl
@[simp] theorem sz22 : szT Try.prog 22 = 1 := by kernel_rfl
@[simp] theorem byt22 : bytT Try.prog 22 = some 24 := by kernel_rfl
@[simp] theorem agg22 : aggT Try.prog 22 = some false := by kernel_rfl
@[simp] theorem zc22 : zeroC Try.prog 22 = some [.slice []] := by kernel_rfl
@[simp] theorem nc22_0 : nilC Try.prog 22 0 = true := by kernel_rfl
@[simp] theorem el22 : elT Try.prog 22 = some 68 := by kernel_rfl
@[simp] theorem und22 : Try.prog.underlying 22 = some (.slice 68) := by kernel_rfl
@[simp] theorem bz22 : bslZ Try.prog 22 = true := by kernel_rfl
@[simp] theorem es22 : eSz Try.prog 22 = 2 := by kernel_rfl
@[simp] theorem e122 : el1 Try.prog 22 = some (2, true) := by kernel_rfl
@[simp] theorem ae22 : agE Try.prog 22 = some true := by kernel_rfl
@[simp] theorem ap22 : apT Try.prog 22 = some (2, 32, .opq (.agg #[.slice none 0 0, .int .i64 0]), false) := by kernel_rfl
@[simp] theorem sz23 : szT Try.prog 23 = 1 := by kernel_rfl
@[simp] theorem byt23 : bytT Try.prog 23 = some 24 := by kernel_rfl
@[simp] theorem agg23 : aggT Try.prog 23 = some false := by kernel_rfl
@[simp] theorem zc23 : zeroC Try.prog 23 = some [.slice []] := by kernel_rfl
@[simp] theorem nc23_0 : nilC Try.prog 23 0 = true := by kernel_rfl
@[simp] theorem el23 : elT Try.prog 23 = some 70 := by kernel_rfl
@[simp] theorem und23 : Try.prog.underlying 23 = some (.slice 70) := by kernel_rfl
@[simp] theorem bz23 : bslZ Try.prog 23 = true := by kernel_rfl
@[simp] theorem es23 : eSz Try.prog 23 = 2 := by kernel_rfl
@[simp] theorem e123 : el1 Try.prog 23 = some (2, true) := by kernel_rfl
@[simp] theorem ae23 : agE Try.prog 23 = some true := by kernel_rfl
@[simp] theorem ap23 : apT Try.prog 23 = some (2, 24, .opq (.agg #[.string ByteArray.empty, .int .i64 0]), false) := by kernel_rfl
@[simp] theorem sz24 : szT Try.prog 24 = 3 := by kernel_rfl
@[simp] theorem byt24 : bytT Try.prog 24 = some 72 := by kernel_rfl
@[simp] theorem agg24 : aggT Try.prog 24 = some true := by kernel_rfl
@[simp] theorem zc24 : zeroC Try.prog 24 = some [.slice [], .slice [], .slice []] := by kernel_rfl
@[simp] theorem nc24_0 : nilC Try.prog 24 0 = true := by kernel_rfl
@[simp] theorem nc24_1 : nilC Try.prog 24 1 = true := by kernel_rfl
@[simp] theorem nc24_2 : nilC Try.prog 24 2 = true := by kernel_rfl
@[simp] theorem zs24 : zstr Try.prog 24 = some [.slice [], .slice [], .slice []] := by kernel_rfl
@[simp] theorem fl24_0 : fldT Try.prog 24 0 = some (0, 22) := by kernel_rfl
@[simp] theorem fl24_1 : fldT Try.prog 24 1 = some (1, 23) := by kernel_rfl
@[simp] theorem fl24_2 : fldT Try.prog 24 2 = some (2, 23) := by kernel_rfl
@[simp] theorem sz25 : szT Try.prog 25 = 3 := by kernel_rfl
@[simp] theorem byt25 : bytT Try.prog 25 = some 72 := by kernel_rfl
@[simp] theorem agg25 : aggT Try.prog 25 = some true := by kernel_rfl
@[simp] theorem zc25 : zeroC Try.prog 25 = some [.slice [], .slice [], .slice []] := by kernel_rfl
@[simp] theorem nc25_0 : nilC Try.prog 25 0 = true := by kernel_rfl
@[simp] theorem nc25_1 : nilC Try.prog 25 1 = true := by kernel_rfl
@[simp] theorem nc25_2 : nilC Try.prog 25 2 = true := by kernel_rfl
@[simp] theorem zs25 : zstr Try.prog 25 = some [.slice [], .slice [], .slice []] := by kernel_rfl
@[simp] theorem fl25_0 : fldT Try.prog 25 0 = some (0, 22) := by kernel_rfl
@[simp] theorem fl25_1 : fldT Try.prog 25 1 = some (1, 23) := by kernel_rfl
@[simp] theorem fl25_2 : fldT Try.prog 25 2 = some (2, 23) := by kernel_rfl
@[simp] theorem sz26 : szT Try.prog 26 = 1 := by kernel_rfl
@[simp] theorem byt26 : bytT Try.prog 26 = some 8 := by kernel_rfl
@[simp] theorem agg26 : aggT Try.prog 26 = some false := by kernel_rfl
@[simp] theorem zc26 : zeroC Try.prog 26 = some [.opq .nilFunc] := by kernel_rfl
@[simp] theorem nc26_0 : nilC Try.prog 26 0 = false := by kernel_rfl
@[simp] theorem isf26 : isFnT (Try.prog.underlying 26) = true := by kernel_rfl
@[simp] theorem sz27 : szT Try.prog 27 = 1 := by kernel_rfl
@[simp] theorem byt27 : bytT Try.prog 27 = some 8 := by kernel_rfl
@[simp] theorem agg27 : aggT Try.prog 27 = some false := by kernel_rfl
@[simp] theorem zc27 : zeroC Try.prog 27 = some [.opq .nilFunc] := by kernel_rfl
@[simp] theorem nc27_0 : nilC Try.prog 27 0 = false := by kernel_rfl
@[simp] theorem isf27 : isFnT (Try.prog.underlying 27) = true := by kernel_rfl
@[simp] theorem sz28 : szT Try.prog 28 = 1 := by kernel_rfl
@[simp] theorem byt28 : bytT Try.prog 28 = some 24 := by kernel_rfl
@[simp] theorem agg28 : aggT Try.prog 28 = some false := by kernel_rfl
@[simp] theorem zc28 : zeroC Try.prog 28 = some [.slice []] := by kernel_rfl
@[simp] theorem nc28_0 : nilC Try.prog 28 0 = true := by kernel_rfl
@[simp] theorem el28 : elT Try.prog 28 = some 69 := by kernel_rfl
@[simp] theorem und28 : Try.prog.underlying 28 = some (.slice 69) := by kernel_rfl
@[simp] theorem bz28 : bslZ Try.prog 28 = true := by kernel_rfl
@[simp] theorem es28 : eSz Try.prog 28 = 2 := by kernel_rfl
@[simp] theorem e128 : el1 Try.prog 28 = some (2, true) := by kernel_rfl
@[simp] theorem ae28 : agE Try.prog 28 = some true := by kernel_rfl
@[simp] theorem ap28 : apT Try.prog 28 = some (2, 32, .opq (.agg #[.slice none 0 0, .int .i64 0]), false) := by kernel_rfl
@[simp] theorem sz29 : szT Try.prog 29 = 1 := by kernel_rfl
@[simp] theorem byt29 : bytT Try.prog 29 = some 24 := by kernel_rfl
@[simp] theorem agg29 : aggT Try.prog 29 = some false := by kernel_rfl
@[simp] theorem zc29 : zeroC Try.prog 29 = some [.slice []] := by kernel_rfl
@[simp] theorem nc29_0 : nilC Try.prog 29 0 = true := by kernel_rfl
@[simp] theorem el29 : elT Try.prog 29 = some 44 := by kernel_rfl
@[simp] theorem und29 : Try.prog.underlying 29 = some (.slice 44) := by kernel_rfl
@[simp] theorem bz29 : bslZ Try.prog 29 = true := by kernel_rfl
@[simp] theorem es29 : eSz Try.prog 29 = 2 := by kernel_rfl
@[simp] theorem e129 : el1 Try.prog 29 = some (2, true) := by kernel_rfl
@[simp] theorem ae29 : agE Try.prog 29 = some true := by kernel_rfl
@[simp] theorem ap29 : apT Try.prog 29 = some (2, 24, .opq (.agg #[.string ByteArray.empty, .int .i64 0]), false) := by kernel_rfl
@[simp] theorem sz30 : szT Try.prog 30 = 3 := by kernel_rfl
@[simp] theorem byt30 : bytT Try.prog 30 = some 72 := by kernel_rfl
@[simp] theorem agg30 : aggT Try.prog 30 = some true := by kernel_rfl
@[simp] theorem zc30 : zeroC Try.prog 30 = some [.slice [], .slice [], .slice []] := by kernel_rfl
@[simp] theorem nc30_0 : nilC Try.prog 30 0 = true := by kernel_rfl
@[simp] theorem nc30_1 : nilC Try.prog 30 1 = true := by kernel_rfl
@[simp] theorem nc30_2 : nilC Try.prog 30 2 = true := by kernel_rfl
@[simp] theorem zs30 : zstr Try.prog 30 = some [.slice [], .slice [], .slice []] := by kernel_rfl
@[simp] theorem fl30_0 : fldT Try.prog 30 0 = some (0, 28) := by kernel_rfl
@[simp] theorem fl30_1 : fldT Try.prog 30 1 = some (1, 29) := by kernel_rfl
@[simp] theorem fl30_2 : fldT Try.prog 30 2 = some (2, 29) := by kernel_rfl
@[simp] theorem sz31 : szT Try.prog 31 = 3 := by kernel_rfl
@[simp] theorem byt31 : bytT Try.prog 31 = some 72 := by kernel_rfl
@[simp] theorem agg31 : aggT Try.prog 31 = some true := by kernel_rfl
@[simp] theorem zc31 : zeroC Try.prog 31 = some [.slice [], .slice [], .slice []] := by kernel_rfl
@[simp] theorem nc31_0 : nilC Try.prog 31 0 = true := by kernel_rfl
@[simp] theorem nc31_1 : nilC Try.prog 31 1 = true := by kernel_rfl
@[simp] theorem nc31_2 : nilC Try.prog 31 2 = true := by kernel_rfl
@[simp] theorem zs31 : zstr Try.prog 31 = some [.slice [], .slice [], .slice []] := by kernel_rfl
@[simp] theorem fl31_0 : fldT Try.prog 31 0 = some (0, 28) := by kernel_rfl
@[simp] theorem fl31_1 : fldT Try.prog 31 1 = some (1, 29) := by kernel_rfl
@[simp] theorem fl31_2 : fldT Try.prog 31 2 = some (2, 29) := by kernel_rfl
@[simp] theorem sz32 : szT Try.prog 32 = 1 := by kernel_rfl
@[simp] theorem byt32 : bytT Try.prog 32 = some 8 := by kernel_rfl
@[simp] theorem agg32 : aggT Try.prog 32 = some false := by kernel_rfl
@[simp] theorem zc32 : zeroC Try.prog 32 = some [.opq .nilFunc] := by kernel_rfl
@[simp] theorem nc32_0 : nilC Try.prog 32 0 = false := by kernel_rfl
@[simp] theorem isf32 : isFnT (Try.prog.underlying 32) = true := by kernel_rfl
@[simp] theorem sz33 : szT Try.prog 33 = 1 := by kernel_rfl
@[simp] theorem byt33 : bytT Try.prog 33 = some 24 := by kernel_rfl
@[simp] theorem agg33 : aggT Try.prog 33 = some false := by kernel_rfl
@[simp] theorem zc33 : zeroC Try.prog 33 = some [.slice []] := by kernel_rfl
@[simp] theorem nc33_0 : nilC Try.prog 33 0 = true := by kernel_rfl
@[simp] theorem el33 : elT Try.prog 33 = some 5 := by kernel_rfl
@[simp] theorem und33 : Try.prog.underlying 33 = some (.slice 5) := by kernel_rfl
@[simp] theorem bz33 : bslZ Try.prog 33 = true := by kernel_rfl
@[simp] theorem es33 : eSz Try.prog 33 = 1 := by kernel_rfl
@[simp] theorem e133 : el1 Try.prog 33 = some (1, false) := by kernel_rfl
@[simp] theorem ae33 : agE Try.prog 33 = some false := by kernel_rfl
@[simp] theorem ap33 : apT Try.prog 33 = some (1, 1, .int .u8 0, true) := by kernel_rfl
@[simp] theorem sz34 : szT Try.prog 34 = 1 := by kernel_rfl
@[simp] theorem byt34 : bytT Try.prog 34 = some 8 := by kernel_rfl
@[simp] theorem agg34 : aggT Try.prog 34 = some false := by kernel_rfl
@[simp] theorem zc34 : zeroC Try.prog 34 = some [.int .i64 0] := by kernel_rfl
@[simp] theorem nc34_0 : nilC Try.prog 34 0 = false := by kernel_rfl
@[simp] theorem und34 : Try.prog.underlying 34 = some (.int .i64) := by kernel_rfl
@[simp] theorem sz36 : szT Try.prog 36 = 1 := by kernel_rfl
@[simp] theorem byt36 : bytT Try.prog 36 = some 8 := by kernel_rfl
@[simp] theorem agg36 : aggT Try.prog 36 = some false := by kernel_rfl
@[simp] theorem zc36 : zeroC Try.prog 36 = some [.opq .nilFunc] := by kernel_rfl
@[simp] theorem nc36_0 : nilC Try.prog 36 0 = false := by kernel_rfl
@[simp] theorem isf36 : isFnT (Try.prog.underlying 36) = true := by kernel_rfl
@[simp] theorem sz38 : szT Try.prog 38 = 1 := by kernel_rfl
@[simp] theorem byt38 : bytT Try.prog 38 = some 8 := by kernel_rfl
@[simp] theorem agg38 : aggT Try.prog 38 = some false := by kernel_rfl
@[simp] theorem zc38 : zeroC Try.prog 38 = some [.opq .nilFunc] := by kernel_rfl
@[simp] theorem nc38_0 : nilC Try.prog 38 0 = false := by kernel_rfl
@[simp] theorem isf38 : isFnT (Try.prog.underlying 38) = true := by kernel_rfl
@[simp] theorem sz39 : szT Try.prog 39 = 1 := by kernel_rfl
@[simp] theorem byt39 : bytT Try.prog 39 = some 24 := by kernel_rfl
@[simp] theorem agg39 : aggT Try.prog 39 = some false := by kernel_rfl
@[simp] theorem zc39 : zeroC Try.prog 39 = some [.slice []] := by kernel_rfl
@[simp] theorem nc39_0 : nilC Try.prog 39 0 = true := by kernel_rfl
@[simp] theorem el39 : elT Try.prog 39 = some 9 := by kernel_rfl
@[simp] theorem und39 : Try.prog.underlying 39 = some (.slice 9) := by kernel_rfl
@[simp] theorem bz39 : bslZ Try.prog 39 = true := by kernel_rfl
@[simp] theorem es39 : eSz Try.prog 39 = 1 := by kernel_rfl
@[simp] theorem e139 : el1 Try.prog 39 = some (1, false) := by kernel_rfl
@[simp] theorem ae39 : agE Try.prog 39 = some false := by kernel_rfl
@[simp] theorem ap39 : apT Try.prog 39 = some (1, 16, .str [], true) := by kernel_rfl
@[simp] theorem sz40 : szT Try.prog 40 = 1 := by kernel_rfl
@[simp] theorem byt40 : bytT Try.prog 40 = some 8 := by kernel_rfl
@[simp] theorem agg40 : aggT Try.prog 40 = some false := by kernel_rfl
@[simp] theorem zc40 : zeroC Try.prog 40 = some [.opq .nilFunc] := by kernel_rfl
@[simp] theorem nc40_0 : nilC Try.prog 40 0 = false := by kernel_rfl
@[simp] theorem isf40 : isFnT (Try.prog.underlying 40) = true := by kernel_rfl
@[simp] theorem sz41 : szT Try.prog 41 = 1 := by kernel_rfl
@[simp] theorem byt41 : bytT Try.prog 41 = some 8 := by kernel_rfl
@[simp] theorem agg41 : aggT Try.prog 41 = some false := by kernel_rfl
@[simp] theorem zc41 : zeroC Try.prog 41 = some [.opq .nilFunc] := by kernel_rfl
@[simp] theorem nc41_0 : nilC Try.prog 41 0 = false := by kernel_rfl
@[simp] theorem isf41 : isFnT (Try.prog.underlying 41) = true := by kernel_rfl
@[simp] theorem sz42 : szT Try.prog 42 = 1 := by kernel_rfl
@[simp] theorem byt42 : bytT Try.prog 42 = some 8 := by kernel_rfl
@[simp] theorem agg42 : aggT Try.prog 42 = some false := by kernel_rfl
@[simp] theorem zc42 : zeroC Try.prog 42 = some [.opq .nilFunc] := by kernel_rfl
@[simp] theorem nc42_0 : nilC Try.prog 42 0 = false := by kernel_rfl
@[simp] theorem isf42 : isFnT (Try.prog.underlying 42) = true := by kernel_rfl
@[simp] theorem sz43 : szT Try.prog 43 = 2 := by kernel_rfl
@[simp] theorem byt43 : bytT Try.prog 43 = some 24 := by kernel_rfl
@[simp] theorem agg43 : aggT Try.prog 43 = some true := by kernel_rfl
@[simp] theorem zc43 : zeroC Try.prog 43 = some [.str [], .int .i64 0] := by kernel_rfl
@[simp] theorem nc43_0 : nilC Try.prog 43 0 = false := by kernel_rfl
@[simp] theorem nc43_1 : nilC Try.prog 43 1 = false := by kernel_rfl
@[simp] theorem eq43 : eqS Try.prog 43 = some [(0, 2), (1, 0)] := by kernel_rfl
@[simp] theorem zs43 : zstr Try.prog 43 = some [.str [], .int .i64 0] := by kernel_rfl
@[simp] theorem fl43_0 : fldT Try.prog 43 0 = some (0, 9) := by kernel_rfl
@[simp] theorem fl43_1 : fldT Try.prog 43 1 = some (1, 3) := by kernel_rfl
@[simp] theorem sz44 : szT Try.prog 44 = 2 := by kernel_rfl
@[simp] theorem byt44 : bytT Try.prog 44 = some 24 := by kernel_rfl
@[simp] theorem agg44 : aggT Try.prog 44 = some true := by kernel_rfl
@[simp] theorem zc44 : zeroC Try.prog 44 = some [.str [], .int .i64 0] := by kernel_rfl
@[simp] theorem nc44_0 : nilC Try.prog 44 0 = false := by kernel_rfl
@[simp] theorem nc44_1 : nilC Try.prog 44 1 = false := by kernel_rfl
@[simp] theorem eq44 : eqS Try.prog 44 = some [(0, 2), (1, 0)] := by kernel_rfl
@[simp] theorem zs44 : zstr Try.prog 44 = some [.str [], .int .i64 0] := by kernel_rfl
@[simp] theorem fl44_0 : fldT Try.prog 44 0 = some (0, 9) := by kernel_rfl
@[simp] theorem fl44_1 : fldT Try.prog 44 1 = some (1, 3) := by kernel_rfl
@[simp] theorem sz45 : szT Try.prog 45 = 1 := by kernel_rfl
@[simp] theorem byt45 : bytT Try.prog 45 = some 8 := by kernel_rfl
@[simp] theorem agg45 : aggT Try.prog 45 = some false := by kernel_rfl
@[simp] theorem zc45 : zeroC Try.prog 45 = some [.opq .nilFunc] := by kernel_rfl
@[simp] theorem nc45_0 : nilC Try.prog 45 0 = false := by kernel_rfl
@[simp] theorem isf45 : isFnT (Try.prog.underlying 45) = true := by kernel_rfl
@[simp] theorem sz46 : szT Try.prog 46 = 1 := by kernel_rfl
@[simp] theorem byt46 : bytT Try.prog 46 = some 24 := by kernel_rfl
@[simp] theorem agg46 : aggT Try.prog 46 = some false := by kernel_rfl
@[simp] theorem zc46 : zeroC Try.prog 46 = some [.slice []] := by kernel_rfl
@[simp] theorem nc46_0 : nilC Try.prog 46 0 = true := by kernel_rfl
@[simp] theorem el46 : elT Try.prog 46 = some 54 := by kernel_rfl
@[simp] theorem und46 : Try.prog.underlying 46 = some (.slice 54) := by kernel_rfl
@[simp] theorem bz46 : bslZ Try.prog 46 = true := by kernel_rfl
@[simp] theorem es46 : eSz Try.prog 46 = 7 := by kernel_rfl
@[simp] theorem e146 : el1 Try.prog 46 = some (7, true) := by kernel_rfl
@[simp] theorem ae46 : agE Try.prog 46 = some true := by kernel_rfl
@[simp] theorem ap46 : apT Try.prog 46 = some (7, 104, .opq (.agg #[.int .i64 0, .int .i64 0, .string ByteArray.empty, .string ByteArray.empty, .slice none 0 0, .slice none 0 0, .bool false]), false) := by kernel_rfl
@[simp] theorem sz47 : szT Try.prog 47 = 1 := by kernel_rfl
@[simp] theorem byt47 : bytT Try.prog 47 = some 24 := by kernel_rfl
@[simp] theorem agg47 : aggT Try.prog 47 = some false := by kernel_rfl
@[simp] theorem zc47 : zeroC Try.prog 47 = some [.slice []] := by kernel_rfl
@[simp] theorem nc47_0 : nilC Try.prog 47 0 = true := by kernel_rfl
@[simp] theorem el47 : elT Try.prog 47 = some 3 := by kernel_rfl
@[simp] theorem und47 : Try.prog.underlying 47 = some (.slice 3) := by kernel_rfl
@[simp] theorem bz47 : bslZ Try.prog 47 = true := by kernel_rfl
@[simp] theorem es47 : eSz Try.prog 47 = 1 := by kernel_rfl
@[simp] theorem e147 : el1 Try.prog 47 = some (1, false) := by kernel_rfl
@[simp] theorem ae47 : agE Try.prog 47 = some false := by kernel_rfl
@[simp] theorem ap47 : apT Try.prog 47 = some (1, 8, .int .i64 0, true) := by kernel_rfl
@[simp] theorem sz49 : szT Try.prog 49 = 1 := by kernel_rfl
@[simp] theorem byt49 : bytT Try.prog 49 = some 8 := by kernel_rfl
@[simp] theorem agg49 : aggT Try.prog 49 = some false := by kernel_rfl
@[simp] theorem zc49 : zeroC Try.prog 49 = some [.opq .nilFunc] := by kernel_rfl
@[simp] theorem nc49_0 : nilC Try.prog 49 0 = false := by kernel_rfl
@[simp] theorem isf49 : isFnT (Try.prog.underlying 49) = true := by kernel_rfl
@[simp] theorem sz50 : szT Try.prog 50 = 1 := by kernel_rfl
@[simp] theorem byt50 : bytT Try.prog 50 = some 8 := by kernel_rfl
@[simp] theorem agg50 : aggT Try.prog 50 = some false := by kernel_rfl
@[simp] theorem zc50 : zeroC Try.prog 50 = some [.opq .nilFunc] := by kernel_rfl
@[simp] theorem nc50_0 : nilC Try.prog 50 0 = false := by kernel_rfl
@[simp] theorem isf50 : isFnT (Try.prog.underlying 50) = true := by kernel_rfl
@[simp] theorem sz51 : szT Try.prog 51 = 1 := by kernel_rfl
@[simp] theorem byt51 : bytT Try.prog 51 = some 8 := by kernel_rfl
@[simp] theorem agg51 : aggT Try.prog 51 = some false := by kernel_rfl
@[simp] theorem zc51 : zeroC Try.prog 51 = some [.opq .nilFunc] := by kernel_rfl
@[simp] theorem nc51_0 : nilC Try.prog 51 0 = false := by kernel_rfl
@[simp] theorem isf51 : isFnT (Try.prog.underlying 51) = true := by kernel_rfl
@[simp] theorem sz52 : szT Try.prog 52 = 1 := by kernel_rfl
@[simp] theorem byt52 : bytT Try.prog 52 = some 8 := by kernel_rfl
@[simp] theorem agg52 : aggT Try.prog 52 = some false := by kernel_rfl
@[simp] theorem zc52 : zeroC Try.prog 52 = some [.opq .nilFunc] := by kernel_rfl
@[simp] theorem nc52_0 : nilC Try.prog 52 0 = false := by kernel_rfl
@[simp] theorem isf52 : isFnT (Try.prog.underlying 52) = true := by kernel_rfl
@[simp] theorem sz53 : szT Try.prog 53 = 7 := by kernel_rfl
@[simp] theorem byt53 : bytT Try.prog 53 = some 104 := by kernel_rfl
@[simp] theorem agg53 : aggT Try.prog 53 = some true := by kernel_rfl
@[simp] theorem zc53 : zeroC Try.prog 53 = some [.int .i64 0, .int .i64 0, .str [], .str [], .slice [], .slice [], .bool false] := by kernel_rfl
@[simp] theorem nc53_0 : nilC Try.prog 53 0 = false := by kernel_rfl
@[simp] theorem nc53_1 : nilC Try.prog 53 1 = false := by kernel_rfl
@[simp] theorem nc53_2 : nilC Try.prog 53 2 = false := by kernel_rfl
@[simp] theorem nc53_3 : nilC Try.prog 53 3 = false := by kernel_rfl
@[simp] theorem nc53_4 : nilC Try.prog 53 4 = true := by kernel_rfl
@[simp] theorem nc53_5 : nilC Try.prog 53 5 = true := by kernel_rfl
@[simp] theorem nc53_6 : nilC Try.prog 53 6 = false := by kernel_rfl
@[simp] theorem zs53 : zstr Try.prog 53 = some [.int .i64 0, .int .i64 0, .str [], .str [], .slice [], .slice [], .bool false] := by kernel_rfl
@[simp] theorem fl53_0 : fldT Try.prog 53 0 = some (0, 3) := by kernel_rfl
@[simp] theorem fl53_1 : fldT Try.prog 53 1 = some (1, 3) := by kernel_rfl
@[simp] theorem fl53_2 : fldT Try.prog 53 2 = some (2, 9) := by kernel_rfl
@[simp] theorem fl53_3 : fldT Try.prog 53 3 = some (3, 9) := by kernel_rfl
@[simp] theorem fl53_4 : fldT Try.prog 53 4 = some (4, 33) := by kernel_rfl
@[simp] theorem fl53_5 : fldT Try.prog 53 5 = some (5, 47) := by kernel_rfl
@[simp] theorem fl53_6 : fldT Try.prog 53 6 = some (6, 4) := by kernel_rfl
@[simp] theorem sz54 : szT Try.prog 54 = 7 := by kernel_rfl
@[simp] theorem byt54 : bytT Try.prog 54 = some 104 := by kernel_rfl
@[simp] theorem agg54 : aggT Try.prog 54 = some true := by kernel_rfl
@[simp] theorem zc54 : zeroC Try.prog 54 = some [.int .i64 0, .int .i64 0, .str [], .str [], .slice [], .slice [], .bool false] := by kernel_rfl
@[simp] theorem nc54_0 : nilC Try.prog 54 0 = false := by kernel_rfl
@[simp] theorem nc54_1 : nilC Try.prog 54 1 = false := by kernel_rfl
@[simp] theorem nc54_2 : nilC Try.prog 54 2 = false := by kernel_rfl
@[simp] theorem nc54_3 : nilC Try.prog 54 3 = false := by kernel_rfl
@[simp] theorem nc54_4 : nilC Try.prog 54 4 = true := by kernel_rfl
@[simp] theorem nc54_5 : nilC Try.prog 54 5 = true := by kernel_rfl
@[simp] theorem nc54_6 : nilC Try.prog 54 6 = false := by kernel_rfl
@[simp] theorem zs54 : zstr Try.prog 54 = some [.int .i64 0, .int .i64 0, .str [], .str [], .slice [], .slice [], .bool false] := by kernel_rfl
@[simp] theorem fl54_0 : fldT Try.prog 54 0 = some (0, 3) := by kernel_rfl
@[simp] theorem fl54_1 : fldT Try.prog 54 1 = some (1, 3) := by kernel_rfl
@[simp] theorem fl54_2 : fldT Try.prog 54 2 = some (2, 9) := by kernel_rfl
@[simp] theorem fl54_3 : fldT Try.prog 54 3 = some (3, 9) := by kernel_rfl
@[simp] theorem fl54_4 : fldT Try.prog 54 4 = some (4, 33) := by kernel_rfl
@[simp] theorem fl54_5 : fldT Try.prog 54 5 = some (5, 47) := by kernel_rfl
@[simp] theorem fl54_6 : fldT Try.prog 54 6 = some (6, 4) := by kernel_rfl
@[simp] theorem sz55 : szT Try.prog 55 = 1 := by kernel_rfl
@[simp] theorem byt55 : bytT Try.prog 55 = some 8 := by kernel_rfl
@[simp] theorem agg55 : aggT Try.prog 55 = some false := by kernel_rfl
@[simp] theorem zc55 : zeroC Try.prog 55 = some [.opq .nilFunc] := by kernel_rfl
@[simp] theorem nc55_0 : nilC Try.prog 55 0 = false := by kernel_rfl
@[simp] theorem isf55 : isFnT (Try.prog.underlying 55) = true := by kernel_rfl
@[simp] theorem sz56 : szT Try.prog 56 = 1 := by kernel_rfl
@[simp] theorem byt56 : bytT Try.prog 56 = some 8 := by kernel_rfl
@[simp] theorem agg56 : aggT Try.prog 56 = some false := by kernel_rfl
@[simp] theorem zc56 : zeroC Try.prog 56 = some [.opq .nilFunc] := by kernel_rfl
@[simp] theorem nc56_0 : nilC Try.prog 56 0 = false := by kernel_rfl
@[simp] theorem isf56 : isFnT (Try.prog.underlying 56) = true := by kernel_rfl
@[simp] theorem sz57 : szT Try.prog 57 = 1 := by kernel_rfl
@[simp] theorem byt57 : bytT Try.prog 57 = some 8 := by kernel_rfl
@[simp] theorem agg57 : aggT Try.prog 57 = some false := by kernel_rfl
@[simp] theorem zc57 : zeroC Try.prog 57 = some [.opq .nilFunc] := by kernel_rfl
@[simp] theorem nc57_0 : nilC Try.prog 57 0 = false := by kernel_rfl
@[simp] theorem isf57 : isFnT (Try.prog.underlying 57) = true := by kernel_rfl
@[simp] theorem sz58 : szT Try.prog 58 = 1 := by kernel_rfl
@[simp] theorem byt58 : bytT Try.prog 58 = some 8 := by kernel_rfl
@[simp] theorem agg58 : aggT Try.prog 58 = some false := by kernel_rfl
@[simp] theorem zc58 : zeroC Try.prog 58 = some [.opq .nilFunc] := by kernel_rfl
@[simp] theorem nc58_0 : nilC Try.prog 58 0 = false := by kernel_rfl
@[simp] theorem isf58 : isFnT (Try.prog.underlying 58) = true := by kernel_rfl
@[simp] theorem sz59 : szT Try.prog 59 = 1 := by kernel_rfl
@[simp] theorem byt59 : bytT Try.prog 59 = some 8 := by kernel_rfl
@[simp] theorem agg59 : aggT Try.prog 59 = some false := by kernel_rfl
@[simp] theorem zc59 : zeroC Try.prog 59 = some [.opq .nilFunc] := by kernel_rfl
@[simp] theorem nc59_0 : nilC Try.prog 59 0 = false := by kernel_rfl
@[simp] theorem isf59 : isFnT (Try.prog.underlying 59) = true := by kernel_rfl
@[simp] theorem sz60 : szT Try.prog 60 = 1 := by kernel_rfl
@[simp] theorem byt60 : bytT Try.prog 60 = some 8 := by kernel_rfl
@[simp] theorem agg60 : aggT Try.prog 60 = some false := by kernel_rfl
@[simp] theorem zc60 : zeroC Try.prog 60 = some [.opq .nilFunc] := by kernel_rfl
@[simp] theorem nc60_0 : nilC Try.prog 60 0 = false := by kernel_rfl
@[simp] theorem isf60 : isFnT (Try.prog.underlying 60) = true := by kernel_rfl
@[simp] theorem sz61 : szT Try.prog 61 = 1 := by kernel_rfl
@[simp] theorem byt61 : bytT Try.prog 61 = some 8 := by kernel_rfl
@[simp] theorem agg61 : aggT Try.prog 61 = some false := by kernel_rfl
@[simp] theorem zc61 : zeroC Try.prog 61 = some [.opq .nilFunc] := by kernel_rfl
@[simp] theorem nc61_0 : nilC Try.prog 61 0 = false := by kernel_rfl
@[simp] theorem isf61 : isFnT (Try.prog.underlying 61) = true := by kernel_rfl
@[simp] theorem sz63 : szT Try.prog 63 = 1 := by kernel_rfl
@[simp] theorem byt63 : bytT Try.prog 63 = some 8 := by kernel_rfl
@[simp] theorem agg63 : aggT Try.prog 63 = some false := by kernel_rfl
@[simp] theorem zc63 : zeroC Try.prog 63 = some [.opq .nilFunc] := by kernel_rfl
@[simp] theorem nc63_0 : nilC Try.prog 63 0 = false := by kernel_rfl
@[simp] theorem isf63 : isFnT (Try.prog.underlying 63) = true := by kernel_rfl
@[simp] theorem sz64 : szT Try.prog 64 = 1 := by kernel_rfl
@[simp] theorem byt64 : bytT Try.prog 64 = some 8 := by kernel_rfl
@[simp] theorem agg64 : aggT Try.prog 64 = some false := by kernel_rfl
@[simp] theorem zc64 : zeroC Try.prog 64 = some [.opq .nilFunc] := by kernel_rfl
@[simp] theorem nc64_0 : nilC Try.prog 64 0 = false := by kernel_rfl
@[simp] theorem isf64 : isFnT (Try.prog.underlying 64) = true := by kernel_rfl
@[simp] theorem sz65 : szT Try.prog 65 = 1 := by kernel_rfl
@[simp] theorem byt65 : bytT Try.prog 65 = some 8 := by kernel_rfl
@[simp] theorem agg65 : aggT Try.prog 65 = some false := by kernel_rfl
@[simp] theorem zc65 : zeroC Try.prog 65 = some [.opq .nilFunc] := by kernel_rfl
@[simp] theorem nc65_0 : nilC Try.prog 65 0 = false := by kernel_rfl
@[simp] theorem isf65 : isFnT (Try.prog.underlying 65) = true := by kernel_rfl
@[simp] theorem sz66 : szT Try.prog 66 = 1 := by kernel_rfl
@[simp] theorem byt66 : bytT Try.prog 66 = some 8 := by kernel_rfl
@[simp] theorem agg66 : aggT Try.prog 66 = some false := by kernel_rfl
@[simp] theorem zc66 : zeroC Try.prog 66 = some [.opq .nilFunc] := by kernel_rfl
@[simp] theorem nc66_0 : nilC Try.prog 66 0 = false := by kernel_rfl
@[simp] theorem isf66 : isFnT (Try.prog.underlying 66) = true := by kernel_rfl
@[simp] theorem sz67 : szT Try.prog 67 = 2 := by kernel_rfl
@[simp] theorem byt67 : bytT Try.prog 67 = some 32 := by kernel_rfl
@[simp] theorem agg67 : aggT Try.prog 67 = some true := by kernel_rfl
@[simp] theorem zc67 : zeroC Try.prog 67 = some [.slice [], .int .i64 0] := by kernel_rfl
@[simp] theorem nc67_0 : nilC Try.prog 67 0 = true := by kernel_rfl
@[simp] theorem nc67_1 : nilC Try.prog 67 1 = false := by kernel_rfl
@[simp] theorem zs67 : zstr Try.prog 67 = some [.slice [], .int .i64 0] := by kernel_rfl
@[simp] theorem fl67_0 : fldT Try.prog 67 0 = some (0, 33) := by kernel_rfl
@[simp] theorem fl67_1 : fldT Try.prog 67 1 = some (1, 3) := by kernel_rfl
@[simp] theorem sz68 : szT Try.prog 68 = 2 := by kernel_rfl
@[simp] theorem byt68 : bytT Try.prog 68 = some 32 := by kernel_rfl
@[simp] theorem agg68 : aggT Try.prog 68 = some true := by kernel_rfl
@[simp] theorem zc68 : zeroC Try.prog 68 = some [.slice [], .int .i64 0] := by kernel_rfl
@[simp] theorem nc68_0 : nilC Try.prog 68 0 = true := by kernel_rfl
@[simp] theorem nc68_1 : nilC Try.prog 68 1 = false := by kernel_rfl
@[simp] theorem zs68 : zstr Try.prog 68 = some [.slice [], .int .i64 0] := by kernel_rfl
@[simp] theorem fl68_0 : fldT Try.prog 68 0 = some (0, 33) := by kernel_rfl
@[simp] theorem fl68_1 : fldT Try.prog 68 1 = some (1, 3) := by kernel_rfl
@[simp] theorem sz69 : szT Try.prog 69 = 2 := by kernel_rfl
@[simp] theorem byt69 : bytT Try.prog 69 = some 32 := by kernel_rfl
@[simp] theorem agg69 : aggT Try.prog 69 = some true := by kernel_rfl
@[simp] theorem zc69 : zeroC Try.prog 69 = some [.slice [], .int .i64 0] := by kernel_rfl
@[simp] theorem nc69_0 : nilC Try.prog 69 0 = true := by kernel_rfl
@[simp] theorem nc69_1 : nilC Try.prog 69 1 = false := by kernel_rfl
@[simp] theorem zs69 : zstr Try.prog 69 = some [.slice [], .int .i64 0] := by kernel_rfl
@[simp] theorem fl69_0 : fldT Try.prog 69 0 = some (0, 33) := by kernel_rfl
@[simp] theorem fl69_1 : fldT Try.prog 69 1 = some (1, 3) := by kernel_rfl
@[simp] theorem sz70 : szT Try.prog 70 = 2 := by kernel_rfl
@[simp] theorem byt70 : bytT Try.prog 70 = some 24 := by kernel_rfl
@[simp] theorem agg70 : aggT Try.prog 70 = some true := by kernel_rfl
@[simp] theorem zc70 : zeroC Try.prog 70 = some [.str [], .int .i64 0] := by kernel_rfl
@[simp] theorem nc70_0 : nilC Try.prog 70 0 = false := by kernel_rfl
@[simp] theorem nc70_1 : nilC Try.prog 70 1 = false := by kernel_rfl
@[simp] theorem eq70 : eqS Try.prog 70 = some [(0, 2), (1, 0)] := by kernel_rfl
@[simp] theorem zs70 : zstr Try.prog 70 = some [.str [], .int .i64 0] := by kernel_rfl
@[simp] theorem fl70_0 : fldT Try.prog 70 0 = some (0, 9) := by kernel_rfl
@[simp] theorem fl70_1 : fldT Try.prog 70 1 = some (1, 3) := by kernel_rfl
@[simp] theorem sz71 : szT Try.prog 71 = 1 := by kernel_rfl
@[simp] theorem byt71 : bytT Try.prog 71 = some 8 := by kernel_rfl
@[simp] theorem agg71 : aggT Try.prog 71 = some false := by kernel_rfl
@[simp] theorem zc71 : zeroC Try.prog 71 = some [.opq (.pointer none)] := by kernel_rfl
@[simp] theorem nc71_0 : nilC Try.prog 71 0 = false := by kernel_rfl
@[simp] theorem und71 : Try.prog.underlying 71 = some (.pointer 68) := by kernel_rfl
@[simp] theorem sz72 : szT Try.prog 72 = 1 := by kernel_rfl
@[simp] theorem byt72 : bytT Try.prog 72 = some 8 := by kernel_rfl
@[simp] theorem agg72 : aggT Try.prog 72 = some false := by kernel_rfl
@[simp] theorem zc72 : zeroC Try.prog 72 = some [.opq .nilFunc] := by kernel_rfl
@[simp] theorem nc72_0 : nilC Try.prog 72 0 = false := by kernel_rfl
@[simp] theorem isf72 : isFnT (Try.prog.underlying 72) = true := by kernel_rfl
@[simp] theorem sz73 : szT Try.prog 73 = 1 := by kernel_rfl
@[simp] theorem byt73 : bytT Try.prog 73 = some 8 := by kernel_rfl
@[simp] theorem agg73 : aggT Try.prog 73 = some false := by kernel_rfl
@[simp] theorem zc73 : zeroC Try.prog 73 = some [.opq .nilFunc] := by kernel_rfl
@[simp] theorem nc73_0 : nilC Try.prog 73 0 = false := by kernel_rfl
@[simp] theorem isf73 : isFnT (Try.prog.underlying 73) = true := by kernel_rfl
@[simp] theorem sz74 : szT Try.prog 74 = 1 := by kernel_rfl
@[simp] theorem byt74 : bytT Try.prog 74 = some 8 := by kernel_rfl
@[simp] theorem agg74 : aggT Try.prog 74 = some false := by kernel_rfl
@[simp] theorem zc74 : zeroC Try.prog 74 = some [.opq .nilFunc] := by kernel_rfl
@[simp] theorem nc74_0 : nilC Try.prog 74 0 = false := by kernel_rfl
@[simp] theorem isf74 : isFnT (Try.prog.underlying 74) = true := by kernel_rfl
@[simp] theorem sz75 : szT Try.prog 75 = 1 := by kernel_rfl
@[simp] theorem byt75 : bytT Try.prog 75 = some 24 := by kernel_rfl
@[simp] theorem agg75 : aggT Try.prog 75 = some false := by kernel_rfl
@[simp] theorem zc75 : zeroC Try.prog 75 = some [.slice []] := by kernel_rfl
@[simp] theorem nc75_0 : nilC Try.prog 75 0 = true := by kernel_rfl
@[simp] theorem el75 : elT Try.prog 75 = some 23 := by kernel_rfl
@[simp] theorem und75 : Try.prog.underlying 75 = some (.slice 23) := by kernel_rfl
@[simp] theorem bz75 : bslZ Try.prog 75 = true := by kernel_rfl
@[simp] theorem es75 : eSz Try.prog 75 = 1 := by kernel_rfl
@[simp] theorem e175 : el1 Try.prog 75 = some (1, false) := by kernel_rfl
@[simp] theorem ae75 : agE Try.prog 75 = some false := by kernel_rfl
@[simp] theorem ap75 : apT Try.prog 75 = some (1, 24, .slice [], true) := by kernel_rfl
@[simp] theorem sz76 : szT Try.prog 76 = 1 := by kernel_rfl
@[simp] theorem byt76 : bytT Try.prog 76 = some 8 := by kernel_rfl
@[simp] theorem agg76 : aggT Try.prog 76 = some false := by kernel_rfl
@[simp] theorem zc76 : zeroC Try.prog 76 = some [.opq .nilFunc] := by kernel_rfl
@[simp] theorem nc76_0 : nilC Try.prog 76 0 = false := by kernel_rfl
@[simp] theorem isf76 : isFnT (Try.prog.underlying 76) = true := by kernel_rfl
@[simp] theorem sz77 : szT Try.prog 77 = 1 := by kernel_rfl
@[simp] theorem byt77 : bytT Try.prog 77 = some 8 := by kernel_rfl
@[simp] theorem agg77 : aggT Try.prog 77 = some false := by kernel_rfl
@[simp] theorem zc77 : zeroC Try.prog 77 = some [.opq .nilFunc] := by kernel_rfl
@[simp] theorem nc77_0 : nilC Try.prog 77 0 = false := by kernel_rfl
@[simp] theorem isf77 : isFnT (Try.prog.underlying 77) = true := by kernel_rfl
@[simp] theorem sz78 : szT Try.prog 78 = 1 := by kernel_rfl
@[simp] theorem byt78 : bytT Try.prog 78 = some 8 := by kernel_rfl
@[simp] theorem agg78 : aggT Try.prog 78 = some false := by kernel_rfl
@[simp] theorem zc78 : zeroC Try.prog 78 = some [.opq .nilFunc] := by kernel_rfl
@[simp] theorem nc78_0 : nilC Try.prog 78 0 = false := by kernel_rfl
@[simp] theorem isf78 : isFnT (Try.prog.underlying 78) = true := by kernel_rfl
@[simp] theorem sz79 : szT Try.prog 79 = 1 := by kernel_rfl
@[simp] theorem byt79 : bytT Try.prog 79 = some 8 := by kernel_rfl
@[simp] theorem agg79 : aggT Try.prog 79 = some false := by kernel_rfl
@[simp] theorem zc79 : zeroC Try.prog 79 = some [.opq .nilFunc] := by kernel_rfl
@[simp] theorem nc79_0 : nilC Try.prog 79 0 = false := by kernel_rfl
@[simp] theorem isf79 : isFnT (Try.prog.underlying 79) = true := by kernel_rfl
@[simp] theorem sz81 : szT Try.prog 81 = 1 := by kernel_rfl
@[simp] theorem byt81 : bytT Try.prog 81 = some 8 := by kernel_rfl
@[simp] theorem agg81 : aggT Try.prog 81 = some false := by kernel_rfl
@[simp] theorem zc81 : zeroC Try.prog 81 = some [.opq .nilFunc] := by kernel_rfl
@[simp] theorem nc81_0 : nilC Try.prog 81 0 = false := by kernel_rfl
@[simp] theorem isf81 : isFnT (Try.prog.underlying 81) = true := by kernel_rfl
@[simp] theorem sz82 : szT Try.prog 82 = 1 := by kernel_rfl
@[simp] theorem byt82 : bytT Try.prog 82 = some 8 := by kernel_rfl
@[simp] theorem agg82 : aggT Try.prog 82 = some false := by kernel_rfl
@[simp] theorem zc82 : zeroC Try.prog 82 = some [.opq .nilFunc] := by kernel_rfl
@[simp] theorem nc82_0 : nilC Try.prog 82 0 = false := by kernel_rfl
@[simp] theorem isf82 : isFnT (Try.prog.underlying 82) = true := by kernel_rfl
@[simp] theorem sz83 : szT Try.prog 83 = 1 := by kernel_rfl
@[simp] theorem byt83 : bytT Try.prog 83 = some 8 := by kernel_rfl
@[simp] theorem agg83 : aggT Try.prog 83 = some false := by kernel_rfl
@[simp] theorem zc83 : zeroC Try.prog 83 = some [.opq .nilFunc] := by kernel_rfl
@[simp] theorem nc83_0 : nilC Try.prog 83 0 = false := by kernel_rfl
@[simp] theorem isf83 : isFnT (Try.prog.underlying 83) = true := by kernel_rfl
@[simp] theorem sz84 : szT Try.prog 84 = 1 := by kernel_rfl
@[simp] theorem byt84 : bytT Try.prog 84 = some 8 := by kernel_rfl
@[simp] theorem agg84 : aggT Try.prog 84 = some false := by kernel_rfl
@[simp] theorem zc84 : zeroC Try.prog 84 = some [.opq .nilFunc] := by kernel_rfl
@[simp] theorem nc84_0 : nilC Try.prog 84 0 = false := by kernel_rfl
@[simp] theorem isf84 : isFnT (Try.prog.underlying 84) = true := by kernel_rfl
@[simp] theorem sz85 : szT Try.prog 85 = 1 := by kernel_rfl
@[simp] theorem byt85 : bytT Try.prog 85 = some 8 := by kernel_rfl
@[simp] theorem agg85 : aggT Try.prog 85 = some false := by kernel_rfl
@[simp] theorem zc85 : zeroC Try.prog 85 = some [.opq .nilFunc] := by kernel_rfl
@[simp] theorem nc85_0 : nilC Try.prog 85 0 = false := by kernel_rfl
@[simp] theorem isf85 : isFnT (Try.prog.underlying 85) = true := by kernel_rfl
@[simp] theorem sz86 : szT Try.prog 86 = 1 := by kernel_rfl
@[simp] theorem byt86 : bytT Try.prog 86 = some 8 := by kernel_rfl
@[simp] theorem agg86 : aggT Try.prog 86 = some false := by kernel_rfl
@[simp] theorem zc86 : zeroC Try.prog 86 = some [.opq .nilFunc] := by kernel_rfl
@[simp] theorem nc86_0 : nilC Try.prog 86 0 = false := by kernel_rfl
@[simp] theorem isf86 : isFnT (Try.prog.underlying 86) = true := by kernel_rfl
@[simp] theorem sz87 : szT Try.prog 87 = 1 := by kernel_rfl
@[simp] theorem byt87 : bytT Try.prog 87 = some 8 := by kernel_rfl
@[simp] theorem agg87 : aggT Try.prog 87 = some false := by kernel_rfl
@[simp] theorem zc87 : zeroC Try.prog 87 = some [.opq .nilFunc] := by kernel_rfl
@[simp] theorem nc87_0 : nilC Try.prog 87 0 = false := by kernel_rfl
@[simp] theorem isf87 : isFnT (Try.prog.underlying 87) = true := by kernel_rfl
@[simp] theorem sz88 : szT Try.prog 88 = 1 := by kernel_rfl
@[simp] theorem byt88 : bytT Try.prog 88 = some 8 := by kernel_rfl
@[simp] theorem agg88 : aggT Try.prog 88 = some false := by kernel_rfl
@[simp] theorem zc88 : zeroC Try.prog 88 = some [.opq .nilFunc] := by kernel_rfl
@[simp] theorem nc88_0 : nilC Try.prog 88 0 = false := by kernel_rfl
@[simp] theorem isf88 : isFnT (Try.prog.underlying 88) = true := by kernel_rfl
@[simp] theorem sz89 : szT Try.prog 89 = 1 := by kernel_rfl
@[simp] theorem byt89 : bytT Try.prog 89 = some 8 := by kernel_rfl
@[simp] theorem agg89 : aggT Try.prog 89 = some false := by kernel_rfl
@[simp] theorem zc89 : zeroC Try.prog 89 = some [.opq (.pointer none)] := by kernel_rfl
@[simp] theorem nc89_0 : nilC Try.prog 89 0 = false := by kernel_rfl
@[simp] theorem und89 : Try.prog.underlying 89 = some (.pointer 25) := by kernel_rfl
@[simp] theorem sz90 : szT Try.prog 90 = 1 := by kernel_rfl
@[simp] theorem byt90 : bytT Try.prog 90 = some 24 := by kernel_rfl
@[simp] theorem agg90 : aggT Try.prog 90 = some false := by kernel_rfl
@[simp] theorem zc90 : zeroC Try.prog 90 = some [.slice []] := by kernel_rfl
@[simp] theorem nc90_0 : nilC Try.prog 90 0 = true := by kernel_rfl
@[simp] theorem el90 : elT Try.prog 90 = some 4 := by kernel_rfl
@[simp] theorem und90 : Try.prog.underlying 90 = some (.slice 4) := by kernel_rfl
@[simp] theorem bz90 : bslZ Try.prog 90 = true := by kernel_rfl
@[simp] theorem es90 : eSz Try.prog 90 = 1 := by kernel_rfl
@[simp] theorem e190 : el1 Try.prog 90 = some (1, false) := by kernel_rfl
@[simp] theorem ae90 : agE Try.prog 90 = some false := by kernel_rfl
@[simp] theorem ap90 : apT Try.prog 90 = some (1, 1, .bool false, true) := by kernel_rfl
@[simp] theorem sz91 : szT Try.prog 91 = 1 := by kernel_rfl
@[simp] theorem byt91 : bytT Try.prog 91 = some 8 := by kernel_rfl
@[simp] theorem agg91 : aggT Try.prog 91 = some false := by kernel_rfl
@[simp] theorem zc91 : zeroC Try.prog 91 = some [.opq .nilFunc] := by kernel_rfl
@[simp] theorem nc91_0 : nilC Try.prog 91 0 = false := by kernel_rfl
@[simp] theorem isf91 : isFnT (Try.prog.underlying 91) = true := by kernel_rfl
@[simp] theorem sz92 : szT Try.prog 92 = 1 := by kernel_rfl
@[simp] theorem byt92 : bytT Try.prog 92 = some 8 := by kernel_rfl
@[simp] theorem agg92 : aggT Try.prog 92 = some false := by kernel_rfl
@[simp] theorem zc92 : zeroC Try.prog 92 = some [.opq (.pointer none)] := by kernel_rfl
@[simp] theorem nc92_0 : nilC Try.prog 92 0 = false := by kernel_rfl
@[simp] theorem und92 : Try.prog.underlying 92 = some (.pointer 94) := by kernel_rfl
@[simp] theorem sz93 : szT Try.prog 93 = 5 := by kernel_rfl
@[simp] theorem byt93 : bytT Try.prog 93 = some 120 := by kernel_rfl
@[simp] theorem agg93 : aggT Try.prog 93 = some true := by kernel_rfl
@[simp] theorem zc93 : zeroC Try.prog 93 = some [.slice [], .slice [], .slice [], .slice [], .slice []] := by kernel_rfl
@[simp] theorem nc93_0 : nilC Try.prog 93 0 = true := by kernel_rfl
@[simp] theorem nc93_1 : nilC Try.prog 93 1 = true := by kernel_rfl
@[simp] theorem nc93_2 : nilC Try.prog 93 2 = true := by kernel_rfl
@[simp] theorem nc93_3 : nilC Try.prog 93 3 = true := by kernel_rfl
@[simp] theorem nc93_4 : nilC Try.prog 93 4 = true := by kernel_rfl
@[simp] theorem zs93 : zstr Try.prog 93 = some [.slice [], .slice [], .slice [], .slice [], .slice []] := by kernel_rfl
@[simp] theorem fl93_0 : fldT Try.prog 93 0 = some (0, 25) := by kernel_rfl
@[simp] theorem fl93_1 : fldT Try.prog 93 1 = some (3, 22) := by kernel_rfl
@[simp] theorem fl93_2 : fldT Try.prog 93 2 = some (4, 47) := by kernel_rfl
@[simp] theorem sz94 : szT Try.prog 94 = 5 := by kernel_rfl
@[simp] theorem byt94 : bytT Try.prog 94 = some 120 := by kernel_rfl
@[simp] theorem agg94 : aggT Try.prog 94 = some true := by kernel_rfl
@[simp] theorem zc94 : zeroC Try.prog 94 = some [.slice [], .slice [], .slice [], .slice [], .slice []] := by kernel_rfl
@[simp] theorem nc94_0 : nilC Try.prog 94 0 = true := by kernel_rfl
@[simp] theorem nc94_1 : nilC Try.prog 94 1 = true := by kernel_rfl
@[simp] theorem nc94_2 : nilC Try.prog 94 2 = true := by kernel_rfl
@[simp] theorem nc94_3 : nilC Try.prog 94 3 = true := by kernel_rfl
@[simp] theorem nc94_4 : nilC Try.prog 94 4 = true := by kernel_rfl
@[simp] theorem zs94 : zstr Try.prog 94 = some [.slice [], .slice [], .slice [], .slice [], .slice []] := by kernel_rfl
@[simp] theorem fl94_0 : fldT Try.prog 94 0 = some (0, 25) := by kernel_rfl
@[simp] theorem fl94_1 : fldT Try.prog 94 1 = some (3, 22) := by kernel_rfl
@[simp] theorem fl94_2 : fldT Try.prog 94 2 = some (4, 47) := by kernel_rfl
@[simp] theorem sz95 : szT Try.prog 95 = 1 := by kernel_rfl
@[simp] theorem byt95 : bytT Try.prog 95 = some 8 := by kernel_rfl
@[simp] theorem agg95 : aggT Try.prog 95 = some false := by kernel_rfl
@[simp] theorem zc95 : zeroC Try.prog 95 = some [.opq .nilFunc] := by kernel_rfl
@[simp] theorem nc95_0 : nilC Try.prog 95 0 = false := by kernel_rfl
@[simp] theorem isf95 : isFnT (Try.prog.underlying 95) = true := by kernel_rfl
@[simp] theorem sz96 : szT Try.prog 96 = 1 := by kernel_rfl
@[simp] theorem byt96 : bytT Try.prog 96 = some 8 := by kernel_rfl
@[simp] theorem agg96 : aggT Try.prog 96 = some false := by kernel_rfl
@[simp] theorem zc96 : zeroC Try.prog 96 = some [.opq .nilFunc] := by kernel_rfl
@[simp] theorem nc96_0 : nilC Try.prog 96 0 = false := by kernel_rfl
@[simp] theorem isf96 : isFnT (Try.prog.underlying 96) = true := by kernel_rfl
@[simp] theorem sz97 : szT Try.prog 97 = 1 := by kernel_rfl
@[simp] theorem byt97 : bytT Try.prog 97 = some 8 := by kernel_rfl
@[simp] theorem agg97 : aggT Try.prog 97 = some false := by kernel_rfl
@[simp] theorem zc97 : zeroC Try.prog 97 = some [.opq .nilFunc] := by kernel_rfl
@[simp] theorem nc97_0 : nilC Try.prog 97 0 = false := by kernel_rfl
@[simp] theorem isf97 : isFnT (Try.prog.underlying 97) = true := by kernel_rfl
@[simp] theorem sz98 : szT Try.prog 98 = 1 := by kernel_rfl
@[simp] theorem byt98 : bytT Try.prog 98 = some 8 := by kernel_rfl
@[simp] theorem agg98 : aggT Try.prog 98 = some false := by kernel_rfl
@[simp] theorem zc98 : zeroC Try.prog 98 = some [.opq .nilFunc] := by kernel_rfl
@[simp] theorem nc98_0 : nilC Try.prog 98 0 = false := by kernel_rfl
@[simp] theorem isf98 : isFnT (Try.prog.underlying 98) = true := by kernel_rfl
@[simp] theorem sz99 : szT Try.prog 99 = 1 := by kernel_rfl
@[simp] theorem byt99 : bytT Try.prog 99 = some 8 := by kernel_rfl
@[simp] theorem agg99 : aggT Try.prog 99 = some false := by kernel_rfl
@[simp] theorem zc99 : zeroC Try.prog 99 = some [.opq .nilFunc] := by kernel_rfl
@[simp] theorem nc99_0 : nilC Try.prog 99 0 = false := by kernel_rfl
@[simp] theorem isf99 : isFnT (Try.prog.underlying 99) = true := by kernel_rfl
@[simp] theorem sz100 : szT Try.prog 100 = 1 := by kernel_rfl
@[simp] theorem byt100 : bytT Try.prog 100 = some 8 := by kernel_rfl
@[simp] theorem agg100 : aggT Try.prog 100 = some false := by kernel_rfl
@[simp] theorem zc100 : zeroC Try.prog 100 = some [.opq .nilFunc] := by kernel_rfl
@[simp] theorem nc100_0 : nilC Try.prog 100 0 = false := by kernel_rfl
@[simp] theorem isf100 : isFnT (Try.prog.underlying 100) = true := by kernel_rfl
@[simp] theorem sz101 : szT Try.prog 101 = 1 := by kernel_rfl
@[simp] theorem byt101 : bytT Try.prog 101 = some 8 := by kernel_rfl
@[simp] theorem agg101 : aggT Try.prog 101 = some false := by kernel_rfl
@[simp] theorem zc101 : zeroC Try.prog 101 = some [.opq .nilFunc] := by kernel_rfl
@[simp] theorem nc101_0 : nilC Try.prog 101 0 = false := by kernel_rfl
@[simp] theorem isf101 : isFnT (Try.prog.underlying 101) = true := by kernel_rfl
@[simp] theorem sz107 : szT Try.prog 107 = 1 := by kernel_rfl
@[simp] theorem byt107 : bytT Try.prog 107 = some 8 := by kernel_rfl
@[simp] theorem agg107 : aggT Try.prog 107 = some false := by kernel_rfl
@[simp] theorem zc107 : zeroC Try.prog 107 = some [.opq .nilFunc] := by kernel_rfl
@[simp] theorem nc107_0 : nilC Try.prog 107 0 = false := by kernel_rfl
@[simp] theorem isf107 : isFnT (Try.prog.underlying 107) = true := by kernel_rfl
@[simp] theorem sz108 : szT Try.prog 108 = 1 := by kernel_rfl
@[simp] theorem byt108 : bytT Try.prog 108 = some 4 := by kernel_rfl
@[simp] theorem agg108 : aggT Try.prog 108 = some false := by kernel_rfl
@[simp] theorem zc108 : zeroC Try.prog 108 = some [.int .u32 0] := by kernel_rfl
@[simp] theorem nc108_0 : nilC Try.prog 108 0 = false := by kernel_rfl
@[simp] theorem und108 : Try.prog.underlying 108 = some (.int .u32) := by kernel_rfl
@[simp] theorem sz111 : szT Try.prog 111 = 1 := by kernel_rfl
@[simp] theorem byt111 : bytT Try.prog 111 = some 8 := by kernel_rfl
@[simp] theorem agg111 : aggT Try.prog 111 = some false := by kernel_rfl
@[simp] theorem zc111 : zeroC Try.prog 111 = some [.opq .nilFunc] := by kernel_rfl
@[simp] theorem nc111_0 : nilC Try.prog 111 0 = false := by kernel_rfl
@[simp] theorem isf111 : isFnT (Try.prog.underlying 111) = true := by kernel_rfl
@[simp] theorem sz112 : szT Try.prog 112 = 1 := by kernel_rfl
@[simp] theorem byt112 : bytT Try.prog 112 = some 8 := by kernel_rfl
@[simp] theorem agg112 : aggT Try.prog 112 = some false := by kernel_rfl
@[simp] theorem zc112 : zeroC Try.prog 112 = some [.opq (.pointer none)] := by kernel_rfl
@[simp] theorem nc112_0 : nilC Try.prog 112 0 = false := by kernel_rfl
@[simp] theorem und112 : Try.prog.underlying 112 = some (.pointer 5) := by kernel_rfl
@[simp] theorem sz115 : szT Try.prog 115 = 11 := by kernel_rfl
@[simp] theorem byt115 : bytT Try.prog 115 = some 48 := by kernel_rfl
@[simp] theorem agg115 : aggT Try.prog 115 = some true := by kernel_rfl
@[simp] theorem zc115 : zeroC Try.prog 115 = some [.int .u64 0, .int .u64 0, .int .u32 0, .int .u8 0, .int .u8 0, .int .u8 0, .int .u8 0, .opq .nilFunc, .opq (.pointer none), .int .i32 0, .int .i32 0] := by kernel_rfl
@[simp] theorem nc115_0 : nilC Try.prog 115 0 = false := by kernel_rfl
@[simp] theorem nc115_1 : nilC Try.prog 115 1 = false := by kernel_rfl
@[simp] theorem nc115_2 : nilC Try.prog 115 2 = false := by kernel_rfl
@[simp] theorem nc115_3 : nilC Try.prog 115 3 = false := by kernel_rfl
@[simp] theorem nc115_4 : nilC Try.prog 115 4 = false := by kernel_rfl
@[simp] theorem nc115_5 : nilC Try.prog 115 5 = false := by kernel_rfl
@[simp] theorem nc115_6 : nilC Try.prog 115 6 = false := by kernel_rfl
@[simp] theorem nc115_7 : nilC Try.prog 115 7 = false := by kernel_rfl
@[simp] theorem nc115_8 : nilC Try.prog 115 8 = false := by kernel_rfl
@[simp] theorem nc115_9 : nilC Try.prog 115 9 = false := by kernel_rfl
@[simp] theorem nc115_10 : nilC Try.prog 115 10 = false := by kernel_rfl
@[simp] theorem zs115 : zstr Try.prog 115 = some [.int .u64 0, .int .u64 0, .int .u32 0, .int .u8 0, .int .u8 0, .int .u8 0, .int .u8 0, .opq .nilFunc, .opq (.pointer none), .int .i32 0, .int .i32 0] := by kernel_rfl
@[simp] theorem fl115_0 : fldT Try.prog 115 0 = some (0, 12) := by kernel_rfl
@[simp] theorem fl115_1 : fldT Try.prog 115 1 = some (1, 12) := by kernel_rfl
@[simp] theorem fl115_2 : fldT Try.prog 115 2 = some (2, 108) := by kernel_rfl
@[simp] theorem fl115_3 : fldT Try.prog 115 3 = some (3, 109) := by kernel_rfl
@[simp] theorem fl115_4 : fldT Try.prog 115 4 = some (4, 5) := by kernel_rfl
@[simp] theorem fl115_5 : fldT Try.prog 115 5 = some (5, 5) := by kernel_rfl
@[simp] theorem fl115_6 : fldT Try.prog 115 6 = some (6, 110) := by kernel_rfl
@[simp] theorem fl115_7 : fldT Try.prog 115 7 = some (7, 111) := by kernel_rfl
@[simp] theorem fl115_8 : fldT Try.prog 115 8 = some (8, 112) := by kernel_rfl
@[simp] theorem fl115_9 : fldT Try.prog 115 9 = some (9, 113) := by kernel_rfl
@[simp] theorem fl115_10 : fldT Try.prog 115 10 = some (10, 114) := by kernel_rfl
end Go.Proofs.Ytoamihggbaaohaa
