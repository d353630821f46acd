/-
  The types and the data of this seat.
-/
import Derived.Test.YtlpilgnjlnepeaaProg
import Derived.Test.YtlpilgnjlnepeaaMFn
import Derived.KernelRfl
import Derived.Test.YtlpilgnjlnepeaaMLoop
set_option linter.all false
namespace Go.Proofs.Ytlpilgnjlnepeaa.T
open Go.VM Go.Proofs
@[simp] theorem sz3 : szOf Try.prog 3 = 1 := by kernel_rfl
@[simp] theorem ag3 : aggOf Try.prog 3 = some false := by kernel_rfl
@[simp] theorem int3 : intOf Try.prog 3 = some .i64 := by kernel_rfl
@[simp] theorem by3 : byOf Try.prog 3 = 8 := by kernel_rfl
@[simp] theorem zr3 : zrOf Try.prog 3 = some [.int .i64 0] := by kernel_rfl
@[simp] theorem sz4 : szOf Try.prog 4 = 1 := by kernel_rfl
@[simp] theorem ag4 : aggOf Try.prog 4 = some false := by kernel_rfl
@[simp] theorem by4 : byOf Try.prog 4 = 1 := by kernel_rfl
@[simp] theorem zr4 : zrOf Try.prog 4 = some [.bool false] := by kernel_rfl
@[simp] theorem sz5 : szOf Try.prog 5 = 1 := by kernel_rfl
@[simp] theorem ag5 : aggOf Try.prog 5 = some false := by kernel_rfl
@[simp] theorem int5 : intOf Try.prog 5 = some .u8 := by kernel_rfl
@[simp] theorem by5 : byOf Try.prog 5 = 1 := by kernel_rfl
@[simp] theorem zr5 : zrOf Try.prog 5 = some [.int .u8 0] := by kernel_rfl
@[simp] theorem sz9 : szOf Try.prog 9 = 1 := by kernel_rfl
@[simp] theorem ag9 : aggOf Try.prog 9 = some false := by kernel_rfl
@[simp] theorem str9 : strOf Try.prog 9 = true := by kernel_rfl
@[simp] theorem by9 : byOf Try.prog 9 = 16 := by kernel_rfl
@[simp] theorem zr9 : zrOf Try.prog 9 = some [.str ByteArray.empty] := by kernel_rfl
@[simp] theorem sz22 : szOf Try.prog 22 = 1 := by kernel_rfl
@[simp] theorem ag22 : aggOf Try.prog 22 = some false := by kernel_rfl
@[simp] theorem sel22 : selOf Try.prog 22 = some 60 := by kernel_rfl
@[simp] theorem by22 : byOf Try.prog 22 = 24 := by kernel_rfl
@[simp] theorem zr22 : zrOf Try.prog 22 = some [.slc false []] := by kernel_rfl
@[simp] theorem sz26 : szOf Try.prog 26 = 1 := by kernel_rfl
@[simp] theorem ag26 : aggOf Try.prog 26 = some false := by kernel_rfl
@[simp] theorem sel26 : selOf Try.prog 26 = some 44 := by kernel_rfl
@[simp] theorem by26 : byOf Try.prog 26 = 24 := by kernel_rfl
@[simp] theorem zr26 : zrOf Try.prog 26 = some [.slc false []] := by kernel_rfl
@[simp] theorem sz30 : szOf Try.prog 30 = 1 := by kernel_rfl
@[simp] theorem ag30 : aggOf Try.prog 30 = some false := by kernel_rfl
@[simp] theorem sel30 : selOf Try.prog 30 = some 71 := by kernel_rfl
@[simp] theorem by30 : byOf Try.prog 30 = 24 := by kernel_rfl
@[simp] theorem zr30 : zrOf Try.prog 30 = some [.slc false []] := by kernel_rfl
@[simp] theorem sz32 : szOf Try.prog 32 = 3 := by kernel_rfl
@[simp] theorem ag32 : aggOf Try.prog 32 = some true := by kernel_rfl
@[simp] theorem fld32_0 : fldOf Try.prog 32 0 = some (0, 3) := by kernel_rfl
@[simp] theorem fld32_1 : fldOf Try.prog 32 1 = some (1, 3) := by kernel_rfl
@[simp] theorem fld32_2 : fldOf Try.prog 32 2 = some (2, 3) := by kernel_rfl
@[simp] theorem st32 : structOf Try.prog 32 = true := by kernel_rfl
@[simp] theorem by32 : byOf Try.prog 32 = 24 := by kernel_rfl
@[simp] theorem zr32 : zrOf Try.prog 32 = some [.int .i64 0, .int .i64 0, .int .i64 0] := by kernel_rfl
@[simp] theorem sz33 : szOf Try.prog 33 = 1 := by kernel_rfl
@[simp] theorem ag33 : aggOf Try.prog 33 = some false := by kernel_rfl
@[simp] theorem sel33 : selOf Try.prog 33 = some 112 := by kernel_rfl
@[simp] theorem by33 : byOf Try.prog 33 = 24 := by kernel_rfl
@[simp] theorem zr33 : zrOf Try.prog 33 = some [.slc false []] := by kernel_rfl
@[simp] theorem sz34 : szOf Try.prog 34 = 1 := by kernel_rfl
@[simp] theorem ag34 : aggOf Try.prog 34 = some false := by kernel_rfl
@[simp] theorem sel34 : selOf Try.prog 34 = some 36 := by kernel_rfl
@[simp] theorem by34 : byOf Try.prog 34 = 24 := by kernel_rfl
@[simp] theorem zr34 : zrOf Try.prog 34 = some [.slc false []] := by kernel_rfl
@[simp] theorem sz36 : szOf Try.prog 36 = 8 := by kernel_rfl
@[simp] theorem ag36 : aggOf Try.prog 36 = some true := by kernel_rfl
@[simp] theorem fld36_0 : fldOf Try.prog 36 0 = some (0, 32) := by kernel_rfl
@[simp] theorem fld36_1 : fldOf Try.prog 36 1 = some (3, 3) := by kernel_rfl
@[simp] theorem fld36_2 : fldOf Try.prog 36 2 = some (4, 9) := by kernel_rfl
@[simp] theorem fld36_3 : fldOf Try.prog 36 3 = some (5, 33) := by kernel_rfl
@[simp] theorem fld36_4 : fldOf Try.prog 36 4 = some (6, 33) := by kernel_rfl
@[simp] theorem fld36_5 : fldOf Try.prog 36 5 = some (7, 34) := by kernel_rfl
@[simp] theorem st36 : structOf Try.prog 36 = true := by kernel_rfl
@[simp] theorem by36 : byOf Try.prog 36 = 120 := by kernel_rfl
@[simp] theorem zr36 : zrOf Try.prog 36 = some [.int .i64 0, .int .i64 0, .int .i64 0, .int .i64 0, .str ByteArray.empty, .slc false [], .slc false [], .slc false []] := by kernel_rfl
@[simp] theorem sz37 : szOf Try.prog 37 = 1 := by kernel_rfl
@[simp] theorem ag37 : aggOf Try.prog 37 = some false := by kernel_rfl
@[simp] theorem sel37 : selOf Try.prog 37 = some 9 := by kernel_rfl
@[simp] theorem by37 : byOf Try.prog 37 = 24 := by kernel_rfl
@[simp] theorem zr37 : zrOf Try.prog 37 = some [.slc false []] := by kernel_rfl
@[simp] theorem sz39 : szOf Try.prog 39 = 3 := by kernel_rfl
@[simp] theorem ag39 : aggOf Try.prog 39 = some true := by kernel_rfl
@[simp] theorem fld39_0 : fldOf Try.prog 39 0 = some (0, 3) := by kernel_rfl
@[simp] theorem fld39_1 : fldOf Try.prog 39 1 = some (1, 3) := by kernel_rfl
@[simp] theorem fld39_2 : fldOf Try.prog 39 2 = some (2, 9) := by kernel_rfl
@[simp] theorem st39 : structOf Try.prog 39 = true := by kernel_rfl
@[simp] theorem by39 : byOf Try.prog 39 = 32 := by kernel_rfl
@[simp] theorem zr39 : zrOf Try.prog 39 = some [.int .i64 0, .int .i64 0, .str ByteArray.empty] := by kernel_rfl
@[simp] theorem sz40 : szOf Try.prog 40 = 1 := by kernel_rfl
@[simp] theorem ag40 : aggOf Try.prog 40 = some false := by kernel_rfl
@[simp] theorem sel40 : selOf Try.prog 40 = some 42 := by kernel_rfl
@[simp] theorem by40 : byOf Try.prog 40 = 24 := by kernel_rfl
@[simp] theorem zr40 : zrOf Try.prog 40 = some [.slc false []] := by kernel_rfl
@[simp] theorem sz42 : szOf Try.prog 42 = 25 := by kernel_rfl
@[simp] theorem ag42 : aggOf Try.prog 42 = some true := by kernel_rfl
@[simp] theorem fld42_0 : fldOf Try.prog 42 0 = some (0, 3) := by kernel_rfl
@[simp] theorem fld42_1 : fldOf Try.prog 42 1 = some (1, 30) := by kernel_rfl
@[simp] theorem fld42_2 : fldOf Try.prog 42 2 = some (2, 30) := by kernel_rfl
@[simp] theorem fld42_3 : fldOf Try.prog 42 3 = some (3, 3) := by kernel_rfl
@[simp] theorem fld42_4 : fldOf Try.prog 42 4 = some (4, 3) := by kernel_rfl
@[simp] theorem fld42_5 : fldOf Try.prog 42 5 = some (5, 36) := by kernel_rfl
@[simp] theorem fld42_6 : fldOf Try.prog 42 6 = some (13, 37) := by kernel_rfl
@[simp] theorem fld42_7 : fldOf Try.prog 42 7 = some (14, 37) := by kernel_rfl
@[simp] theorem fld42_8 : fldOf Try.prog 42 8 = some (15, 9) := by kernel_rfl
@[simp] theorem fld42_9 : fldOf Try.prog 42 9 = some (16, 9) := by kernel_rfl
@[simp] theorem fld42_10 : fldOf Try.prog 42 10 = some (17, 39) := by kernel_rfl
@[simp] theorem fld42_11 : fldOf Try.prog 42 11 = some (20, 3) := by kernel_rfl
@[simp] theorem fld42_12 : fldOf Try.prog 42 12 = some (21, 3) := by kernel_rfl
@[simp] theorem fld42_13 : fldOf Try.prog 42 13 = some (22, 3) := by kernel_rfl
@[simp] theorem fld42_14 : fldOf Try.prog 42 14 = some (23, 9) := by kernel_rfl
@[simp] theorem fld42_15 : fldOf Try.prog 42 15 = some (24, 40) := by kernel_rfl
@[simp] theorem st42 : structOf Try.prog 42 = true := by kernel_rfl
@[simp] theorem by42 : byOf Try.prog 42 = 368 := by kernel_rfl
@[simp] theorem zr42 : zrOf Try.prog 42 = some [.int .i64 0, .slc false [], .slc false [], .int .i64 0, .int .i64 0, .int .i64 0, .int .i64 0, .int .i64 0, .int .i64 0, .str ByteArray.empty, .slc false [], .slc false [], .slc false [], .slc false [], .slc false [], .str ByteArray.empty, .str ByteArray.empty, .int .i64 0, .int .i64 0, .str ByteArray.empty, .int .i64 0, .int .i64 0, .int .i64 0, .str ByteArray.empty, .slc false []] := by kernel_rfl
@[simp] theorem sz44 : szOf Try.prog 44 = 28 := by kernel_rfl
@[simp] theorem ag44 : aggOf Try.prog 44 = some true := by kernel_rfl
@[simp] theorem fld44_0 : fldOf Try.prog 44 0 = some (0, 3) := by kernel_rfl
@[simp] theorem fld44_1 : fldOf Try.prog 44 1 = some (1, 3) := by kernel_rfl
@[simp] theorem fld44_2 : fldOf Try.prog 44 2 = some (2, 3) := by kernel_rfl
@[simp] theorem fld44_3 : fldOf Try.prog 44 3 = some (3, 42) := by kernel_rfl
@[simp] theorem st44 : structOf Try.prog 44 = true := by kernel_rfl
@[simp] theorem by44 : byOf Try.prog 44 = 392 := by kernel_rfl
@[simp] theorem zr44 : zrOf Try.prog 44 = some [.int .i64 0, .int .i64 0, .int .i64 0, .int .i64 0, .slc false [], .slc false [], .int .i64 0, .int .i64 0, .int .i64 0, .int .i64 0, .int .i64 0, .int .i64 0, .str ByteArray.empty, .slc false [], .slc false [], .slc false [], .slc false [], .slc false [], .str ByteArray.empty, .str ByteArray.empty, .int .i64 0, .int .i64 0, .str ByteArray.empty, .int .i64 0, .int .i64 0, .int .i64 0, .str ByteArray.empty, .slc false []] := by kernel_rfl
@[simp] theorem sz54 : szOf Try.prog 54 = 1 := by kernel_rfl
@[simp] theorem ag54 : aggOf Try.prog 54 = some false := by kernel_rfl
@[simp] theorem sel54 : selOf Try.prog 54 = some 57 := by kernel_rfl
@[simp] theorem by54 : byOf Try.prog 54 = 24 := by kernel_rfl
@[simp] theorem zr54 : zrOf Try.prog 54 = some [.slc false []] := by kernel_rfl
@[simp] theorem sz57 : szOf Try.prog 57 = 7 := by kernel_rfl
@[simp] theorem ag57 : aggOf Try.prog 57 = some true := by kernel_rfl
@[simp] theorem fld57_0 : fldOf Try.prog 57 0 = some (0, 3) := by kernel_rfl
@[simp] theorem fld57_1 : fldOf Try.prog 57 1 = some (1, 9) := by kernel_rfl
@[simp] theorem fld57_2 : fldOf Try.prog 57 2 = some (2, 3) := by kernel_rfl
@[simp] theorem fld57_3 : fldOf Try.prog 57 3 = some (3, 39) := by kernel_rfl
@[simp] theorem fld57_4 : fldOf Try.prog 57 4 = some (6, 40) := by kernel_rfl
@[simp] theorem st57 : structOf Try.prog 57 = true := by kernel_rfl
@[simp] theorem by57 : byOf Try.prog 57 = 88 := by kernel_rfl
@[simp] theorem zr57 : zrOf Try.prog 57 = some [.int .i64 0, .str ByteArray.empty, .int .i64 0, .int .i64 0, .int .i64 0, .str ByteArray.empty, .slc false []] := by kernel_rfl
@[simp] theorem sz60 : szOf Try.prog 60 = 4 := by kernel_rfl
@[simp] theorem ag60 : aggOf Try.prog 60 = some true := by kernel_rfl
@[simp] theorem fld60_0 : fldOf Try.prog 60 0 = some (0, 3) := by kernel_rfl
@[simp] theorem fld60_1 : fldOf Try.prog 60 1 = some (1, 3) := by kernel_rfl
@[simp] theorem fld60_2 : fldOf Try.prog 60 2 = some (2, 9) := by kernel_rfl
@[simp] theorem fld60_3 : fldOf Try.prog 60 3 = some (3, 54) := by kernel_rfl
@[simp] theorem st60 : structOf Try.prog 60 = true := by kernel_rfl
@[simp] theorem by60 : byOf Try.prog 60 = 56 := by kernel_rfl
@[simp] theorem zr60 : zrOf Try.prog 60 = some [.int .i64 0, .int .i64 0, .str ByteArray.empty, .slc false []] := by kernel_rfl
@[simp] theorem sz65 : szOf Try.prog 65 = 1 := by kernel_rfl
@[simp] theorem ag65 : aggOf Try.prog 65 = some false := by kernel_rfl
@[simp] theorem by65 : byOf Try.prog 65 = 8 := by kernel_rfl
@[simp] theorem zr65 : zrOf Try.prog 65 = some [.nilf] := by kernel_rfl
@[simp] theorem sz66 : szOf Try.prog 66 = 1 := by kernel_rfl
@[simp] theorem ag66 : aggOf Try.prog 66 = some false := by kernel_rfl
@[simp] theorem sel66 : selOf Try.prog 66 = some 3 := by kernel_rfl
@[simp] theorem by66 : byOf Try.prog 66 = 24 := by kernel_rfl
@[simp] theorem zr66 : zrOf Try.prog 66 = some [.slc false []] := by kernel_rfl
@[simp] theorem sz71 : szOf Try.prog 71 = 2 := by kernel_rfl
@[simp] theorem ag71 : aggOf Try.prog 71 = some true := by kernel_rfl
@[simp] theorem fld71_0 : fldOf Try.prog 71 0 = some (0, 3) := by kernel_rfl
@[simp] theorem fld71_1 : fldOf Try.prog 71 1 = some (1, 9) := by kernel_rfl
@[simp] theorem st71 : structOf Try.prog 71 = true := by kernel_rfl
@[simp] theorem by71 : byOf Try.prog 71 = 24 := by kernel_rfl
@[simp] theorem zr71 : zrOf Try.prog 71 = some [.int .i64 0, .str ByteArray.empty] := by kernel_rfl
@[simp] theorem sz72 : szOf Try.prog 72 = 1 := by kernel_rfl
@[simp] theorem ag72 : aggOf Try.prog 72 = some false := by kernel_rfl
@[simp] theorem map72 : mapOf Try.prog 72 = some (77, 42) := by kernel_rfl
@[simp] theorem by72 : byOf Try.prog 72 = 8 := by kernel_rfl
@[simp] theorem zr72 : zrOf Try.prog 72 = some [.vmap [] []] := by kernel_rfl
@[simp] theorem sz77 : szOf Try.prog 77 = 2 := by kernel_rfl
@[simp] theorem ag77 : aggOf Try.prog 77 = some true := by kernel_rfl
@[simp] theorem fld77_0 : fldOf Try.prog 77 0 = some (0, 3) := by kernel_rfl
@[simp] theorem fld77_1 : fldOf Try.prog 77 1 = some (1, 3) := by kernel_rfl
@[simp] theorem st77 : structOf Try.prog 77 = true := by kernel_rfl
@[simp] theorem by77 : byOf Try.prog 77 = 16 := by kernel_rfl
@[simp] theorem zr77 : zrOf Try.prog 77 = some [.int .i64 0, .int .i64 0] := by kernel_rfl
@[simp] theorem sz81 : szOf Try.prog 81 = 1 := by kernel_rfl
@[simp] theorem ag81 : aggOf Try.prog 81 = some false := by kernel_rfl
@[simp] theorem by81 : byOf Try.prog 81 = 8 := by kernel_rfl
@[simp] theorem zr81 : zrOf Try.prog 81 = some [.nilf] := by kernel_rfl
@[simp] theorem sz83 : szOf Try.prog 83 = 1 := by kernel_rfl
@[simp] theorem ag83 : aggOf Try.prog 83 = some false := by kernel_rfl
@[simp] theorem by83 : byOf Try.prog 83 = 8 := by kernel_rfl
@[simp] theorem zr83 : zrOf Try.prog 83 = some [.nilf] := by kernel_rfl
@[simp] theorem sz85 : szOf Try.prog 85 = 1 := by kernel_rfl
@[simp] theorem ag85 : aggOf Try.prog 85 = some false := by kernel_rfl
@[simp] theorem by85 : byOf Try.prog 85 = 8 := by kernel_rfl
@[simp] theorem zr85 : zrOf Try.prog 85 = some [.nilf] := by kernel_rfl
@[simp] theorem sz89 : szOf Try.prog 89 = 1 := by kernel_rfl
@[simp] theorem ag89 : aggOf Try.prog 89 = some false := by kernel_rfl
@[simp] theorem by89 : byOf Try.prog 89 = 8 := by kernel_rfl
@[simp] theorem zr89 : zrOf Try.prog 89 = some [.nilf] := by kernel_rfl
@[simp] theorem sz94 : szOf Try.prog 94 = 1 := by kernel_rfl
@[simp] theorem ag94 : aggOf Try.prog 94 = some false := by kernel_rfl
@[simp] theorem by94 : byOf Try.prog 94 = 8 := by kernel_rfl
@[simp] theorem zr94 : zrOf Try.prog 94 = some [.nilf] := by kernel_rfl
@[simp] theorem sz95 : szOf Try.prog 95 = 1 := by kernel_rfl
@[simp] theorem ag95 : aggOf Try.prog 95 = some false := by kernel_rfl
@[simp] theorem map95 : mapOf Try.prog 95 = some (3, 4) := by kernel_rfl
@[simp] theorem by95 : byOf Try.prog 95 = 8 := by kernel_rfl
@[simp] theorem zr95 : zrOf Try.prog 95 = some [.vmap [] []] := by kernel_rfl
@[simp] theorem sz98 : szOf Try.prog 98 = 1 := by kernel_rfl
@[simp] theorem ag98 : aggOf Try.prog 98 = some false := by kernel_rfl
@[simp] theorem by98 : byOf Try.prog 98 = 8 := by kernel_rfl
@[simp] theorem zr98 : zrOf Try.prog 98 = some [.nilf] := by kernel_rfl
@[simp] theorem sz110 : szOf Try.prog 110 = 3 := by kernel_rfl
@[simp] theorem ag110 : aggOf Try.prog 110 = some true := by kernel_rfl
@[simp] theorem fld110_0 : fldOf Try.prog 110 0 = some (0, 3) := by kernel_rfl
@[simp] theorem fld110_1 : fldOf Try.prog 110 1 = some (1, 3) := by kernel_rfl
@[simp] theorem fld110_2 : fldOf Try.prog 110 2 = some (2, 3) := by kernel_rfl
@[simp] theorem st110 : structOf Try.prog 110 = true := by kernel_rfl
@[simp] theorem by110 : byOf Try.prog 110 = 24 := by kernel_rfl
@[simp] theorem zr110 : zrOf Try.prog 110 = some [.int .i64 0, .int .i64 0, .int .i64 0] := by kernel_rfl
@[simp] theorem sz112 : szOf Try.prog 112 = 4 := by kernel_rfl
@[simp] theorem ag112 : aggOf Try.prog 112 = some true := by kernel_rfl
@[simp] theorem fld112_0 : fldOf Try.prog 112 0 = some (0, 9) := by kernel_rfl
@[simp] theorem fld112_1 : fldOf Try.prog 112 1 = some (1, 110) := by kernel_rfl
@[simp] theorem st112 : structOf Try.prog 112 = true := by kernel_rfl
@[simp] theorem by112 : byOf Try.prog 112 = 40 := by kernel_rfl
@[simp] theorem zr112 : zrOf Try.prog 112 = some [.str ByteArray.empty, .int .i64 0, .int .i64 0, .int .i64 0] := by kernel_rfl
@[simp] theorem sz116 : szOf Try.prog 116 = 1 := by kernel_rfl
@[simp] theorem ag116 : aggOf Try.prog 116 = some false := by kernel_rfl
@[simp] theorem int116 : intOf Try.prog 116 = some .u64 := by kernel_rfl
@[simp] theorem by116 : byOf Try.prog 116 = 8 := by kernel_rfl
@[simp] theorem zr116 : zrOf Try.prog 116 = some [.int .u64 0] := by kernel_rfl
@[simp] theorem sz120 : szOf Try.prog 120 = 1 := by kernel_rfl
@[simp] theorem ag120 : aggOf Try.prog 120 = some false := by kernel_rfl
@[simp] theorem int120 : intOf Try.prog 120 = some .i64 := by kernel_rfl
@[simp] theorem by120 : byOf Try.prog 120 = 8 := by kernel_rfl
@[simp] theorem zr120 : zrOf Try.prog 120 = some [.int .i64 0] := by kernel_rfl
@[simp] theorem sz129 : szOf Try.prog 129 = 1 := by kernel_rfl
@[simp] theorem ag129 : aggOf Try.prog 129 = some false := by kernel_rfl
@[simp] theorem int129 : intOf Try.prog 129 = some .u32 := by kernel_rfl
@[simp] theorem by129 : byOf Try.prog 129 = 4 := by kernel_rfl
@[simp] theorem zr129 : zrOf Try.prog 129 = some [.int .u32 0] := by kernel_rfl
@[simp] theorem sz131 : szOf Try.prog 131 = 1 := by kernel_rfl
@[simp] theorem ag131 : aggOf Try.prog 131 = some false := by kernel_rfl
@[simp] theorem int131 : intOf Try.prog 131 = some .u64 := by kernel_rfl
@[simp] theorem by131 : byOf Try.prog 131 = 8 := by kernel_rfl
@[simp] theorem zr131 : zrOf Try.prog 131 = some [.int .u64 0] := by kernel_rfl
@[simp] theorem sz132 : szOf Try.prog 132 = 1 := by kernel_rfl
@[simp] theorem ag132 : aggOf Try.prog 132 = some false := by kernel_rfl
@[simp] theorem int132 : intOf Try.prog 132 = some .u64 := by kernel_rfl
@[simp] theorem by132 : byOf Try.prog 132 = 8 := by kernel_rfl
@[simp] theorem zr132 : zrOf Try.prog 132 = some [.int .u64 0] := by kernel_rfl
@[simp] theorem sz136 : szOf Try.prog 136 = 1 := by kernel_rfl
@[simp] theorem ag136 : aggOf Try.prog 136 = some false := by kernel_rfl
@[simp] theorem by136 : byOf Try.prog 136 = 8 := by kernel_rfl
@[simp] theorem zr136 : zrOf Try.prog 136 = some [.nilp] := by kernel_rfl
end Go.Proofs.Ytlpilgnjlnepeaa.T
namespace Go.Proofs.Ytlpilgnjlnepeaa.T
open Go.VM Go.Proofs
def an2 : Ann := { mv := [0], live := [(0, [])], head := [] }
def an3 : Ann := { mv := [4, 6, 8, 10, 11, 13, 14], live := [(0, [0]), (1, [0, 5]), (2, [2]), (3, [2])], head := [] }
def an4 : Ann := { mv := [14, 16, 21, 28, 37, 43, 47, 53, 56, 60, 61], live := [(0, [0, 1, 2, 3]), (1, [0, 1, 2, 3, 15]), (2, [8]), (3, [0, 1, 2, 3, 9, 10]), (4, [0, 1, 2, 3, 9, 10, 11, 12]), (5, [8])], head := [] }
def an5 : Ann := { mv := [11, 13, 15, 17, 18, 26, 30, 46, 61, 72, 77, 81, 82], live := [(0, [0]), (1, [0, 12]), (2, [2]), (3, [0, 3, 4]), (4, [0, 3, 4, 17, 18, 19]), (5, [0, 3, 4, 17, 18, 19, 20]), (6, [0, 3, 4, 6, 17, 18, 19]), (7, [0, 3, 4, 17, 18, 19]), (8, [0, 3, 4, 17, 18, 19]), (9, [0, 3, 4, 30, 31]), (10, [0, 3, 4, 30, 31, 32]), (11, [0, 3, 4, 7, 30, 31]), (12, [0, 3, 4, 7, 30, 31, 48]), (13, [2]), (14, [0, 3, 4, 7, 8, 9, 30, 31]), (15, [0, 3, 4, 30, 31, 74]), (16, [2]), (17, [0, 3, 4, 30, 31]), (18, [2])], head := [(10, [0, 3, 4, 30, 31]), (5, [0, 3, 4, 17, 18, 19])] }
def an6 : Ann := { mv := [15, 17, 19, 20, 22, 24, 26, 27, 38, 43, 50, 92, 97], live := [(0, [0, 3]), (1, [0, 3, 5]), (2, [0, 3, 5, 23]), (3, [4]), (4, [3, 5, 26, 27, 28]), (5, [3, 5, 26, 27, 28, 29]), (6, [3, 5, 7, 26, 27, 28]), (7, [3, 5, 7, 8, 9, 26, 27, 28]), (8, [3, 5, 7, 8, 9, 10, 26, 27, 28]), (9, [3, 5, 7, 8, 9, 10, 26, 27, 28, 42, 43, 44]), (10, [3, 5, 7, 8, 9, 10, 26, 27, 28, 42, 43, 44, 45]), (11, [3, 5, 7, 8, 9, 10, 12, 26, 27, 28, 42, 43, 44]), (12, [3, 5, 7, 8, 9, 10, 26, 27, 28, 42, 43, 44, 49, 50, 51]), (13, [3, 5, 7, 8, 9, 10, 26, 27, 28, 42, 43, 44, 49, 50, 51, 52]), (14, [3, 5, 7, 8, 9, 10, 14, 26, 27, 28, 42, 43, 44, 49, 50, 51]), (15, [3, 5, 7, 8, 9, 10, 26, 27, 28, 42, 43, 44, 49, 50, 51]), (16, [3, 5, 7, 8, 9, 10, 26, 27, 28, 42, 43, 44, 49, 50, 51]), (17, [3, 5, 7, 8, 9, 10, 26, 27, 28, 42, 43, 44]), (18, [3, 5, 26, 27, 28, 95]), (19, [4]), (20, [3, 5, 26, 27, 28]), (21, [4])], head := [(13, [3, 5, 7, 8, 9, 10, 26, 27, 28, 42, 43, 44, 49, 50, 51]), (10, [3, 5, 7, 8, 9, 10, 26, 27, 28, 42, 43, 44]), (5, [3, 5, 26, 27, 28])] }
def an7 : Ann := { mv := [9, 13, 18, 21, 25, 28, 34, 40, 44, 45, 47, 49, 50, 52, 53], live := [(0, [0, 1]), (1, [0, 1, 20]), (2, [4]), (3, [0, 5]), (4, [0, 5, 6]), (5, [0, 5, 6, 7]), (6, [0, 5, 6, 7, 31]), (7, [0, 5, 6, 7]), (8, [0, 5, 6, 7]), (9, [4])], head := [(6, [0, 5, 6, 7])] }
def an8 : Ann := { mv := [14, 16, 21, 27, 33, 34, 40, 54, 61, 68], live := [(0, [0, 1, 2]), (1, [0, 1, 2, 15]), (2, [6]), (3, [0, 1, 2, 7, 8]), (4, [0, 1, 2, 7, 8, 9]), (5, [0, 1, 2, 7, 9, 29]), (6, [6]), (7, [0, 1, 2, 7, 9, 42]), (8, [6]), (9, [0, 1, 2, 7, 9, 44, 45]), (10, [0, 1, 2, 7, 9, 44, 45, 46]), (11, [0, 1, 2, 7, 9, 10, 44, 45]), (12, [0, 1, 2, 7, 9, 10, 11, 12, 44, 45]), (13, [0, 1, 2, 7, 9, 44, 45, 66]), (14, [6]), (15, [0, 1, 2, 7, 9, 44, 45]), (16, [6])], head := [(10, [0, 1, 2, 7, 9, 44, 45])] }
def an9 : Ann := { mv := [11, 13, 15, 17, 19, 21, 24, 84, 90, 98, 118, 123, 125, 127, 129, 132, 146], live := [(0, [0]), (1, [0, 12]), (2, [2]), (3, [0, 3, 4]), (4, [0, 3, 4, 22]), (5, [2]), (6, [0, 3, 4, 24, 25]), (7, [0, 3, 4, 24, 25, 26]), (8, [0, 3, 4, 5, 24, 25]), (9, [0, 3, 4, 5, 24, 25, 92]), (10, [2]), (11, [0, 3, 4, 5, 24, 25, 98, 99]), (12, [0, 3, 4, 5, 24, 25, 98, 99, 100]), (13, [0, 3, 4, 5, 6, 24, 25, 98, 99]), (14, [0, 3, 4, 5, 24, 25, 98, 99, 119]), (15, [2]), (16, [0, 3, 4, 5, 24, 25, 98, 99]), (17, [0, 3, 4, 24, 25]), (18, [7, 8]), (19, [7, 8, 130]), (20, [2]), (21, [7, 8, 132, 133]), (22, [7, 8, 132, 133, 134]), (23, [7, 8, 9, 132, 133]), (24, [7, 8, 132, 133, 144]), (25, [2]), (26, [7, 8, 132, 133]), (27, [2])], head := [(22, [7, 8, 132, 133]), (12, [0, 3, 4, 5, 24, 25, 98, 99]), (7, [0, 3, 4, 24, 25])] }
def an10 : Ann := { mv := [11, 15, 24, 32, 41, 56, 64, 71, 77, 86], live := [(0, [0, 1]), (1, [0, 1, 12]), (2, [4]), (3, [0, 1, 5]), (4, [0, 1, 5, 6]), (5, [0, 1, 5, 6, 16]), (6, [0, 1, 5, 6]), (7, [0, 1, 5, 6, 34]), (8, [4]), (9, [0, 1, 5, 6, 7]), (10, [0, 1, 5, 6, 7, 42]), (11, [0, 1, 5, 6, 7]), (12, [0, 1, 5, 6, 7, 8]), (13, [0, 1, 5, 6, 7, 8]), (14, [0, 1, 5, 6, 7, 8, 73]), (15, [4]), (16, [0, 1, 5, 6, 7, 8, 9]), (17, [0, 1, 5, 6, 7, 8, 9, 78]), (18, [0, 1, 5, 6, 7, 8, 9]), (19, [0, 1, 5, 6, 7, 8, 9, 87]), (20, [4]), (21, [4])], head := [(17, [0, 1, 5, 6, 7, 8, 9]), (10, [0, 1, 5, 6, 7]), (5, [0, 1, 5, 6])] }
def an11 : Ann := { mv := [7, 10, 13, 16, 18, 21, 23, 25, 29, 30, 32, 53, 60, 65, 66, 72, 73, 75], live := [(0, []), (1, [1]), (2, [1, 2]), (3, [1, 2, 3]), (4, [1, 2, 3, 4]), (5, [1, 2, 3, 4, 5]), (6, [1, 2, 3, 4, 5, 47]), (7, [0]), (8, [0])], head := [] }
def an12 : Ann := { mv := [7, 9, 13, 25], live := [(0, [0, 1]), (1, [0, 1, 10]), (2, [4]), (3, [0, 1, 5]), (4, [0, 1, 5, 14]), (5, [0, 1, 5]), (6, [0, 1, 5, 26]), (7, [4]), (8, [4])], head := [(4, [0, 1, 5])] }
def an13 : Ann := { mv := [13, 15, 17, 23, 24, 44, 48, 50, 51, 54], live := [(0, [0]), (1, [0, 3]), (2, [3, 4]), (3, [3, 4, 5]), (4, [3, 5, 16, 17, 18]), (5, [3, 5, 16, 17, 18, 19]), (6, [3, 5, 7, 16, 17, 18]), (7, [3, 5, 16, 17, 18, 23, 24, 25]), (8, [3, 5, 16, 17, 18, 23, 24, 25, 26]), (9, [3, 5, 9, 16, 17, 18, 23, 24, 25]), (10, [3, 5, 9, 10, 11, 16, 17, 18, 23, 24, 25]), (11, [3, 5, 9, 10, 16, 17, 18, 23, 24, 25, 45]), (12, [3, 5, 9, 16, 17, 18, 23, 24, 25]), (13, [3, 5, 16, 17, 18, 23, 24, 25]), (14, [3, 5, 16, 17, 18, 23, 24, 25]), (15, [3, 5, 16, 17, 18]), (16, [2])], head := [(8, [3, 5, 16, 17, 18, 23, 24, 25]), (5, [3, 5, 16, 17, 18])] }
def an14 : Ann := { mv := [8, 9, 12, 22, 26, 53, 55, 56, 57], live := [(0, [0]), (1, [3]), (2, [3, 4]), (3, [3, 4, 5]), (4, [3, 4, 5, 13]), (5, [3, 4, 5]), (6, [3, 4, 5, 6]), (7, [3, 4, 5, 6, 23]), (8, [3, 4, 5, 6]), (9, [3, 4, 5, 6]), (10, [2])], head := [(7, [3, 4, 5, 6]), (4, [3, 4, 5])] }
def an15 : Ann := { mv := [11, 14], live := [(0, [2, 3, 4, 6]), (1, [3, 4, 6, 8]), (2, [6, 8, 9]), (3, [6, 8, 9, 16]), (4, [6, 7]), (5, [6, 7])], head := [] }
def an16 : Ann := { mv := [11, 14], live := [(0, [0, 1, 2, 6]), (1, [0, 1, 6, 8]), (2, [0, 1, 6, 8, 9]), (3, [0, 1, 6, 8, 9, 15]), (4, [0, 1, 6, 8, 9]), (5, [0, 1, 6, 8, 9, 33]), (6, [6, 7]), (7, [6, 7])], head := [(3, [0, 1, 6, 8, 9])] }
def an17 : Ann := { mv := [29, 30], live := [(0, [2, 3]), (1, [4])], head := [] }
def an18 : Ann := { mv := [16, 23, 34, 41, 43], live := [(0, [0, 1, 2]), (1, [0, 1, 2, 7, 8]), (2, [0, 1, 2, 7, 8, 9]), (3, [0, 1, 2, 7, 8, 9, 25]), (4, [0, 1, 2, 7, 8, 9]), (5, [0, 1, 2, 7, 8, 9, 10, 11]), (6, [0, 1, 2, 7, 8, 9, 42]), (7, [6]), (8, [6])], head := [(3, [0, 1, 2, 7, 8, 9])] }
def an19 : Ann := { mv := [16, 23, 33, 40, 42], live := [(0, [0, 1, 2]), (1, [0, 1, 2, 7, 8]), (2, [0, 1, 2, 7, 20]), (3, [6]), (4, [0, 1, 2, 7, 9]), (5, [0, 1, 2, 7, 9, 24]), (6, [0, 1, 2, 7, 9]), (7, [0, 1, 2, 7, 9, 10, 11]), (8, [0, 1, 2, 7, 9, 41]), (9, [6]), (10, [6])], head := [(5, [0, 1, 2, 7, 9])] }
def an20 : Ann := { mv := [8, 12, 13], live := [(0, [1, 2]), (1, [1, 5]), (2, [1, 5, 10]), (3, [4]), (4, [4])], head := [] }
def an21 : Ann := { mv := [8, 21], live := [(0, [0, 1]), (1, [0, 1, 5]), (2, [0, 1, 5, 18]), (3, [0, 1, 5]), (4, [4])], head := [(2, [0, 1, 5])] }
def an22 : Ann := { ar := [3], mv := [6, 8, 9], live := [(0, [0]), (1, [0, 3]), (2, [3]), (3, [3]), (4, [2])], head := [] }
def an23 : Ann := { mv := [9, 14, 19, 20, 21], live := [(0, [2, 3]), (1, [4])], head := [] }
def an24 : Ann := { mv := [4, 5, 6], live := [(0, [0]), (1, [2])], head := [] }
def an25 : Ann := { ar := [10], mv := [9, 10, 13, 23, 28, 39, 43, 47, 50, 55, 56, 58, 59], live := [(0, [0]), (1, [3]), (2, [3, 4]), (3, [3, 4, 5]), (4, [3, 4, 5, 14]), (5, [3, 4, 5]), (6, [3, 4, 5, 25]), (7, [3, 4, 5, 6]), (8, [3, 4, 5, 6, 40]), (9, [3, 4, 5, 6]), (10, [3, 4, 5, 6, 7]), (11, [3, 4, 5]), (12, [2])], head := [(8, [3, 4, 5, 6]), (4, [3, 4, 5])] }
def an26 : Ann := { mv := [78, 85, 93, 101, 109, 115, 118, 124, 138], live := [(0, [2, 3]), (1, [2, 3, 73]), (2, [4]), (3, [2, 3, 120]), (4, [4]), (5, [2, 3, 5]), (6, [2, 3, 5, 125]), (7, [2, 3, 5]), (8, [2, 3, 5, 139]), (9, [4]), (10, [4])], head := [(6, [2, 3, 5])] }
def an27 : Ann := { mv := [7, 9, 10], live := [(0, [0]), (1, [0, 3]), (2, [3]), (3, [2])], head := [] }
def an28 : Ann := { ar := [10], mv := [9, 10, 13, 23, 28, 46, 60, 64, 67, 73, 74, 76, 77], live := [(0, [0]), (1, [3]), (2, [3, 4]), (3, [3, 4, 5]), (4, [3, 4, 5, 14]), (5, [3, 4, 5]), (6, [3, 4, 5, 25]), (7, [3, 4, 5, 6]), (8, [3, 4, 5, 6, 41]), (9, [3, 4, 5, 6]), (10, [3, 4, 5, 6, 59]), (11, [3, 4, 5, 6, 7]), (12, [3, 4, 5]), (13, [2])], head := [(8, [3, 4, 5, 6]), (4, [3, 4, 5])] }
def an29 : Ann := { mv := [11, 16, 22, 28, 34, 40, 47, 53, 59, 65, 71, 80, 85, 94, 99, 109, 114, 124, 129, 140, 154, 161], live := [(0, [1]), (1, [1, 67]), (2, [2]), (3, [1, 3]), (4, [1, 3, 72]), (5, [1, 3]), (6, [1, 3, 81]), (7, [2]), (8, [1, 4]), (9, [1, 4, 86]), (10, [1, 4]), (11, [1, 4, 95]), (12, [2]), (13, [1, 5]), (14, [1, 5, 100]), (15, [1, 5]), (16, [1, 5, 110]), (17, [2]), (18, [1, 6]), (19, [1, 6, 115]), (20, [1, 6]), (21, [1, 6, 125]), (22, [2]), (23, [1, 7]), (24, [1, 7, 130]), (25, [1, 7]), (26, [1, 7, 8]), (27, [1, 7, 8, 141]), (28, [1, 7, 8]), (29, [1, 7, 8, 155]), (30, [2]), (31, [1, 7, 162]), (32, [2]), (33, [2])], head := [(27, [1, 7, 8]), (24, [1, 7]), (19, [1, 6]), (14, [1, 5]), (9, [1, 4]), (4, [1, 3])] }
def an30 : Ann := { mv := [10, 17, 28, 37, 51], live := [(0, [0]), (1, [0, 3]), (2, [3, 9, 10, 11]), (3, [3, 9, 10, 11, 12]), (4, [3, 5, 9, 10, 11]), (5, [3, 9, 10, 11, 16, 17, 18]), (6, [3, 9, 10, 11, 16, 17, 18, 19]), (7, [3, 7, 9, 10, 11, 16, 17, 18]), (8, [3, 7, 9, 10, 11, 16, 17, 18, 38]), (9, [3, 9, 10, 11, 16, 17, 18]), (10, [3, 9, 10, 11, 16, 17, 18]), (11, [3, 9, 10, 11]), (12, [2])], head := [(6, [3, 9, 10, 11, 16, 17, 18]), (3, [3, 9, 10, 11])] }
def an31 : Ann := { mv := [8, 14, 22, 23, 25], live := [(0, [1]), (1, [1, 3]), (2, [1, 3, 7, 8, 9]), (3, [1, 3, 7, 8, 9, 10]), (4, [1, 3, 4, 5, 7, 8, 9]), (5, [1, 3, 7, 8, 9]), (6, [1, 3, 7, 8, 9]), (7, [2])], head := [(3, [1, 3, 7, 8, 9])] }
def an32 : Ann := { mv := [8], live := [(0, [0]), (1, [2])], head := [] }
def an33 : Ann := { mv := [15, 21, 31, 61, 70], live := [(0, [0, 1, 2, 7, 8]), (1, [0, 1, 2, 7, 8, 16]), (2, [8]), (3, [0, 1, 2, 8, 9]), (4, [0, 1, 2, 8, 9, 10]), (5, [0, 1, 2, 8, 9, 10, 22]), (6, [0, 1, 2, 8, 9, 10]), (7, [0, 1, 2, 8, 9, 10, 11]), (8, [0, 1, 2, 8, 9, 10, 11, 32]), (9, [0, 1, 2, 8, 9, 10, 11]), (10, [0, 1, 2, 8, 9, 10, 11, 12]), (11, [0, 1, 2, 8, 9, 10, 11, 12, 71]), (12, [0, 1, 2, 8, 9, 10, 11]), (13, [8])], head := [(8, [0, 1, 2, 8, 9, 10, 11]), (5, [0, 1, 2, 8, 9, 10])] }
def an34 : Ann := { mv := [7, 16, 17], live := [(0, [0, 1]), (1, [0, 1, 7, 8]), (2, [0, 1, 7, 8, 9]), (3, [0, 1, 5, 7, 8]), (4, [0, 1, 5, 7, 8, 16]), (5, [4]), (6, [0, 1, 7, 8]), (7, [4])], head := [(2, [0, 1, 7, 8])] }
def an35 : Ann := { mv := [14], live := [(0, [1, 2, 3]), (1, [4])], head := [] }
def an36 : Ann := { mv := [7, 14, 15], live := [(0, [2, 3]), (1, [4])], head := [] }
def an37 : Ann := { mv := [7, 16, 17], live := [(0, [0, 1]), (1, [0, 1, 7, 8]), (2, [0, 1, 7, 8, 9]), (3, [0, 1, 5, 7, 8]), (4, [0, 1, 5, 7, 8, 16]), (5, [4]), (6, [0, 1, 7, 8]), (7, [4])], head := [(2, [0, 1, 7, 8])] }
def an38 : Ann := { mv := [7], live := [(0, [1, 2]), (1, [3])], head := [] }
def an39 : Ann := { mv := [11, 18, 29], live := [(0, [0, 1, 4]), (1, [1, 4, 10, 11, 12]), (2, [1, 4, 10, 11, 12, 13]), (3, [1, 4, 6, 10, 11, 12]), (4, [1, 4, 10, 11, 12, 17, 18, 19]), (5, [1, 4, 10, 11, 12, 17, 18, 19, 20]), (6, [1, 4, 8, 10, 11, 12, 17, 18, 19]), (7, [1, 4, 8, 10, 11, 12, 17, 18, 19]), (8, [1, 4, 10, 11, 12, 17, 18, 19]), (9, [1, 4, 10, 11, 12, 17, 18, 19]), (10, [1, 4, 10, 11, 12])], head := [(5, [1, 4, 10, 11, 12, 17, 18, 19]), (2, [1, 4, 10, 11, 12])] }
def an40 : Ann := { mv := [7, 9, 10], live := [(0, [1, 2, 3]), (1, [2, 3, 6]), (2, [])], head := [] }
def an41 : Ann := { mv := [6, 8], live := [(0, [])], head := [] }
def an42 : Ann := { mv := [9, 14, 15, 16], live := [(0, [2, 3]), (1, [4])], head := [] }
def an43 : Ann := { mv := [7, 15, 17], live := [(0, [0]), (1, [0, 3]), (2, [3, 6, 7, 8]), (3, [3, 6, 7, 8, 9]), (4, [3, 5, 6, 7, 8]), (5, [3, 5, 6, 7, 8, 14]), (6, [2]), (7, [3, 6, 7, 8]), (8, [2])], head := [(3, [3, 6, 7, 8])] }
def an44 : Ann := { mv := [8, 10], live := [(0, [0, 1]), (1, [0, 1, 5]), (2, [0, 1, 5, 6]), (3, [0, 1, 6, 11]), (4, [12]), (5, [4]), (6, [4]), (7, [0, 1, 13]), (8, [4]), (9, [0, 1, 16]), (10, [4]), (11, [19]), (12, [4]), (13, [4])], head := [] }
def an45 : Ann := { mv := [5, 8, 12, 18, 19], live := [(0, [0]), (1, [0, 3]), (2, [0, 3, 4]), (3, [0, 3, 4, 9]), (4, [0, 3, 4]), (5, [0, 3, 4]), (6, [2])], head := [(3, [0, 3, 4])] }
def an46 : Ann := { mv := [8, 19], live := [(0, [0, 1]), (1, [0, 1, 5]), (2, [0, 1, 5, 9]), (3, [0, 1, 5]), (4, [0, 1, 5, 18]), (5, [4]), (6, [4])], head := [(2, [0, 1, 5])] }
def an47 : Ann := { mv := [14, 19], live := [(0, [2, 3]), (1, [2, 3, 9]), (2, [4]), (3, [4])], head := [] }
def an48 : Ann := { mv := [7, 9, 13], live := [(0, [0, 1]), (1, [0, 1, 10]), (2, [4]), (3, [0, 1, 5]), (4, [0, 1, 5, 14]), (5, [0, 1, 5]), (6, [0, 1, 5, 25]), (7, [4]), (8, [4])], head := [(4, [0, 1, 5])] }
def an49 : Ann := { mv := [7, 9, 13], live := [(0, [0, 1]), (1, [0, 1, 10]), (2, [4]), (3, [0, 1, 5]), (4, [0, 1, 5, 14]), (5, [0, 1, 5]), (6, [0, 1, 5, 25]), (7, [4]), (8, [4])], head := [(4, [0, 1, 5])] }
def an50 : Ann := { mv := [30, 38, 44, 47, 53, 67], live := [(0, [2, 3]), (1, [2, 3, 49]), (2, [4]), (3, [2, 3, 5]), (4, [2, 3, 5, 54]), (5, [2, 3, 5]), (6, [2, 3, 5, 68]), (7, [4]), (8, [4])], head := [(4, [2, 3, 5])] }
def an51 : Ann := { mv := [], live := [(0, [1, 2, 3]), (1, [2, 3, 5]), (2, [])], head := [] }
def an52 : Ann := { mv := [5, 7, 8], live := [(0, [0]), (1, [3]), (2, [3]), (3, [2])], head := [] }
def an53 : Ann := { mv := [3], live := [(0, [1]), (1, [2])], head := [] }
def an54 : Ann := { mv := [7, 12, 13], live := [(0, [1, 2]), (1, [4])], head := [] }
def an55 : Ann := { mv := [8], live := [(0, [0]), (1, [2])], head := [] }
def an56 : Ann := { mv := [78, 84, 91, 98, 112, 119, 120], live := [(0, [2, 3]), (1, [2, 3, 5]), (2, [2, 3, 5, 6]), (3, [2, 3, 5, 6, 7]), (4, [4])], head := [] }
def an57 : Ann := { mv := [18, 27, 43, 60], live := [(0, [0, 1, 2, 6]), (1, [0, 1, 2, 6, 7, 8]), (2, [0, 1, 2, 6, 7, 8, 13]), (3, [0, 1, 2, 6, 8]), (4, [0, 1, 2, 6, 7, 8]), (5, [0, 1, 2, 6, 7, 8]), (6, [0, 1, 2, 6]), (7, [0, 1, 2, 6, 30]), (8, [0, 1, 2, 6, 7, 8]), (9, [0, 1, 2, 6, 7, 8, 35]), (10, [0, 1, 2, 6, 8]), (11, [0, 1, 2, 6, 7, 8]), (12, [0, 1, 2, 6, 7, 8]), (13, [0, 1, 2, 6, 7, 9]), (14, [0, 1, 2, 6, 7, 9, 54]), (15, [0, 1, 2, 6]), (16, [0, 1, 2, 6])], head := [(9, [0, 1, 2, 6, 7, 8]), (7, [0, 1, 2, 6]), (2, [0, 1, 2, 6, 7, 8])] }
def an58 : Ann := { mv := [5], live := [(0, [0]), (1, [2])], head := [] }
def an59 : Ann := { mv := [7, 9, 13], live := [(0, [0, 1]), (1, [0, 1, 10]), (2, [4]), (3, [0, 1, 5]), (4, [0, 1, 5, 14]), (5, [0, 1, 5]), (6, [0, 1, 5, 25]), (7, [4]), (8, [4])], head := [(4, [0, 1, 5])] }
def an60 : Ann := { mv := [4], live := [(0, [0]), (1, [2])], head := [] }
def an61 : Ann := { mv := [4, 9, 10], live := [(0, [0, 2]), (1, [])], head := [] }
def an62 : Ann := { mv := [12], live := [(0, [0, 5]), (1, [0, 5, 7]), (2, [0, 3, 5]), (3, [0, 5, 13])], head := [(1, [0, 5])] }
def an63 : Ann := { mv := [12, 16, 36, 38], live := [(0, [1, 2, 3]), (1, [1, 2, 3, 10]), (2, [6]), (3, [1, 2, 3, 7]), (4, [1, 2, 3, 7, 8]), (5, [1, 2, 3, 7, 8, 22]), (6, [1, 2, 3, 7, 8]), (7, [1, 2, 3, 7, 8]), (8, [6])], head := [(5, [1, 2, 3, 7, 8])] }
def an64 : Ann := { mv := [6, 11, 17, 23, 32], live := [(0, [1]), (1, [1, 19]), (2, [2]), (3, [1, 3]), (4, [1, 3, 24]), (5, [1, 3]), (6, [1, 3, 33]), (7, [2]), (8, [2])], head := [(4, [1, 3])] }
def an65 : Ann := { mv := [7, 9, 12], live := [(0, [0, 1]), (1, [0, 1, 10]), (2, [4]), (3, [0, 1, 12, 13]), (4, [0, 1, 12, 13, 14]), (5, [0, 1, 5, 12, 13]), (6, [0, 1, 12, 13, 24]), (7, [4]), (8, [0, 1, 12, 13]), (9, [4])], head := [(4, [0, 1, 12, 13])] }
def an66 : Ann := { mv := [7, 9, 12], live := [(0, [0, 1]), (1, [0, 1, 10]), (2, [4]), (3, [0, 1, 12, 13]), (4, [0, 1, 12, 13, 14]), (5, [0, 1, 5, 12, 13]), (6, [0, 1, 12, 13, 24]), (7, [4]), (8, [0, 1, 12, 13]), (9, [4])], head := [(4, [0, 1, 12, 13])] }
def an67 : Ann := { mv := [29, 36, 43, 44], live := [(0, [2, 3]), (1, [4])], head := [] }
def an68 : Ann := { mv := [11, 13, 16, 29], live := [(0, [0, 1, 2]), (1, [0, 1, 2, 14]), (2, [6]), (3, [1, 2, 15, 16, 17]), (4, [1, 2, 15, 16, 17, 18]), (5, [1, 2, 7, 8, 15, 16, 17]), (6, [1, 2, 8, 9, 15, 16, 17]), (7, [1, 2, 15, 16, 17, 30]), (8, [6]), (9, [1, 2, 15, 16, 17]), (10, [6])], head := [(4, [1, 2, 15, 16, 17])] }
def an69 : Ann := { mv := [32], live := [(0, [0, 1, 2, 3, 8]), (1, [0, 1, 2, 3, 8, 14]), (2, [0, 1, 2, 3, 8]), (3, [0, 1, 2, 3, 8, 9]), (4, [0, 1, 2, 3, 8, 9, 34]), (5, [0, 1, 2, 3, 8, 9]), (6, [0, 1, 2, 3, 8, 9])], head := [(4, [0, 1, 2, 3, 8, 9]), (1, [0, 1, 2, 3, 8])] }
def an70 : Ann := { mv := [49, 101, 169, 191, 205, 219], live := [(0, [0, 1, 2, 3, 4, 28]), (1, [0, 1, 3, 4, 10]), (2, [0, 1, 4, 10, 11]), (3, [0, 1, 4, 10, 11, 33]), (4, [0, 1, 4, 10, 11, 12]), (5, [0, 1, 4, 10, 11, 12, 50]), (6, [0, 1, 4, 10, 11]), (7, [0, 1, 4, 10, 11]), (8, [0, 10, 13]), (9, [0, 10, 13, 58]), (10, [0, 10, 13]), (11, [0, 10, 13]), (12, [0, 1, 2, 3, 4, 80]), (13, [0, 2, 4, 14]), (14, [0, 2, 4, 14, 15]), (15, [0, 2, 4, 14, 15, 85]), (16, [0, 2, 4, 14, 15, 16]), (17, [0, 2, 4, 14, 15, 16, 103]), (18, [0, 2, 4, 14, 15]), (19, [0, 2, 4, 14, 15]), (20, [0, 14, 17]), (21, [0, 14, 17, 110]), (22, [0, 14, 17]), (23, [0, 14, 17]), (24, [0, 1, 2, 3, 4, 18]), (25, [0, 1, 2, 3, 4, 18, 19]), (26, [0, 1, 2, 3, 4, 18, 19]), (27, [0, 1, 2, 3, 4, 18, 19, 140]), (28, [0, 1, 2, 3, 4, 18, 19, 20]), (29, [0, 1, 2, 3, 4, 18, 19, 20, 21]), (30, [0, 1, 2, 3, 4, 18, 19, 20]), (31, [0, 1, 2, 3, 4, 18, 19, 20, 21]), (32, [0, 1, 2, 3, 4, 18, 19, 20, 21, 22]), (33, [0, 1, 2, 3, 4, 18, 19, 20, 21, 22, 151]), (34, [0, 1, 2, 3, 4, 18, 19, 20, 21, 22, 23]), (35, [0, 1, 2, 3, 4, 18, 19, 20, 21, 22, 23, 171]), (36, [0, 1, 2, 3, 4, 18, 19, 20, 21, 22]), (37, [0, 1, 2, 3, 4, 18, 19, 20, 21, 22]), (38, [0, 1, 2, 3, 4, 18, 20, 24]), (39, [0, 1, 2, 3, 4, 18, 20, 24, 185]), (40, [0, 1, 3, 4, 18, 20, 24]), (41, [0, 1, 3, 4, 18, 20, 24, 199]), (42, [0, 3, 4, 18, 24]), (43, [0, 3, 4, 18, 24, 213]), (44, [])], head := [(33, [0, 1, 2, 3, 4, 18, 19, 20, 21, 22]), (21, [0, 14, 17]), (15, [0, 2, 4, 14, 15]), (9, [0, 10, 13]), (3, [0, 1, 4, 10, 11])] }
def an71 : Ann := { mv := [8, 10, 11, 12], live := [(0, [1, 2]), (1, [2]), (4, [4])], head := [] }
def an72 : Ann := { mv := [27, 33, 39, 46, 54, 72, 85, 92, 99, 121, 132], live := [(0, [0, 1, 2, 3, 8]), (1, [0, 1, 2, 3, 8, 9]), (2, [0, 1, 2, 3, 8, 9, 10]), (3, [0, 1, 2, 3, 8, 9, 10, 23]), (4, []), (5, [0, 1, 2, 3, 8, 9, 10, 29]), (6, []), (7, [0, 1, 2, 3, 8, 9, 10, 35]), (8, [0, 1, 2, 3, 8, 9, 10]), (9, [0, 1, 2, 3, 8, 9, 10]), (10, [0, 1, 2, 3, 8, 9, 10, 11, 12]), (11, [0, 1, 2, 3, 8, 9, 10, 11, 12, 50]), (12, [0, 1, 2, 3, 8, 9, 10, 11]), (13, [0, 1, 2, 3, 8, 9, 10, 11]), (14, [0, 1, 2, 3, 8, 9, 10, 11, 12]), (15, [0, 1, 2, 3, 8, 9, 10, 11, 68]), (16, [0, 1, 2, 3, 8, 9, 10, 11, 72]), (17, [0, 1, 2, 3, 8, 9, 10, 11, 87]), (18, [0, 2, 3, 8, 9, 13]), (19, [0, 1, 2, 3, 8, 9]), (20, [0, 1, 2, 3, 10, 14, 15]), (21, [0, 1, 2, 3, 9, 10, 14]), (22, [0, 1, 2, 3, 9, 10, 14, 16, 17]), (23, [0, 1, 2, 3, 9, 14, 16, 17, 18]), (24, [0, 1, 2, 3, 9, 14, 16, 17, 18, 113]), (25, [0, 1, 2, 3, 8, 9, 14]), (26, [0, 2, 3, 8, 9, 14]), (27, [0, 1, 2, 3, 8, 9]), (28, [0, 1, 2, 3, 8, 9, 14]), (29, [0, 1, 3, 8, 9, 14]), (30, [0, 1, 2, 3, 8, 9])], head := [(2, [0, 1, 2, 3, 8, 9])] }
def an73 : Ann := { mv := [5, 7], live := [(0, [0]), (1, [2]), (2, [2])], head := [] }
def an74 : Ann := { mv := [6, 15, 18, 19], live := [(0, [0]), (1, [0, 3]), (2, [0, 3, 7]), (3, [0, 3]), (4, [0, 3, 16]), (5, [2]), (6, [2])], head := [(2, [0, 3])] }
def an75 : Ann := { mv := [7, 9, 12], live := [(0, [0, 1]), (1, [0, 1, 10]), (2, [4]), (3, [0, 1, 12, 13]), (4, [0, 1, 12, 13, 14]), (5, [0, 1, 5, 12, 13]), (6, [0, 1, 12, 13, 24]), (7, [4]), (8, [0, 1, 12, 13]), (9, [4])], head := [(4, [0, 1, 12, 13])] }
def an76 : Ann := { mv := [11, 13, 16, 29], live := [(0, [0, 1, 2]), (1, [0, 1, 2, 14]), (2, [6]), (3, [1, 2, 15, 16, 17]), (4, [1, 2, 15, 16, 17, 18]), (5, [1, 2, 7, 8, 15, 16, 17]), (6, [1, 2, 8, 9, 15, 16, 17]), (7, [1, 2, 15, 16, 17, 30]), (8, [6]), (9, [1, 2, 15, 16, 17]), (10, [6])], head := [(4, [1, 2, 15, 16, 17])] }
def an77 : Ann := { mv := [31, 46, 57], live := [(0, [0, 2, 3, 4, 10]), (1, [0, 2, 4, 10, 11]), (2, [0, 2, 4, 10, 11, 20]), (3, [0, 2, 4, 10, 11, 23]), (4, [0, 2, 4, 10, 11]), (5, [0, 2, 4, 10, 11]), (6, [0, 2, 4, 10, 11]), (7, [0, 2, 4, 10, 11]), (8, [])], head := [(2, [0, 2, 4, 10, 11])] }
def an78 : Ann := { mv := [29], live := [(0, [0, 1, 2, 6]), (1, [0, 1, 2, 6, 12]), (2, [0, 1, 2, 6]), (3, [0, 1, 2, 6, 7]), (4, [0, 1, 2, 6, 7, 30]), (5, [0, 1, 2, 6, 7]), (6, [0, 1, 2, 6, 7])], head := [(4, [0, 1, 2, 6, 7]), (1, [0, 1, 2, 6])] }
def an79 : Ann := { mv := [26, 55], live := [(0, [0, 1, 2, 6]), (1, [0, 1, 2, 6, 7]), (2, [0, 6, 7, 8]), (3, [0, 6, 7, 8, 9]), (4, [0, 6, 7, 8, 9, 19]), (5, [0, 6, 7, 8, 9]), (6, [0, 6, 7, 8, 9]), (7, [0, 6, 7, 10]), (8, [0, 6, 7, 10, 30]), (9, [0, 6, 7, 10]), (10, [0, 6, 7, 10]), (11, [0, 6, 7, 10])], head := [(8, [0, 6, 7, 10]), (4, [0, 6, 7, 8, 9])] }
def an80 : Ann := { mv := [19, 36], live := [(0, [0, 1, 6]), (1, [0, 1, 6, 15]), (2, [0, 1, 6, 7]), (3, [0, 1, 6, 7, 8]), (4, [0, 1, 6, 7, 8, 9]), (5, [0, 1, 6, 7, 8, 9, 33]), (6, [0, 1, 6, 7, 8, 9]), (7, [0, 1, 6, 7, 8, 9, 10]), (8, [0, 1, 6, 7, 8, 9, 10, 43]), (9, [0, 1, 6, 7, 8, 9, 10]), (10, [0, 1, 6, 7, 8, 9])], head := [(5, [0, 1, 6, 7, 8, 9])] }
def an81 : Ann := { mv := [37, 40, 43, 48, 50, 53, 56], live := [(0, [0, 1, 2]), (1, [0, 1, 8]), (2, [0, 1, 8, 9]), (3, [0, 1, 8, 9, 10]), (4, [0, 1, 8, 9, 10, 11]), (5, [0, 8, 9, 10, 11, 12]), (6, [0, 8, 9, 10, 11, 12, 32]), (7, [0, 9, 10, 11, 12, 34]), (8, [0, 9, 10, 11, 12]), (9, [0, 9, 10, 11, 12]), (10, [0, 9, 10, 11, 12]), (11, [9, 11]), (12, [11, 49]), (13, [6, 7]), (14, [11, 49, 51]), (15, [6, 7]), (16, [11, 54]), (17, [6, 7])], head := [] }
def an82 : Ann := { mv := [], live := [(0, [0, 2, 6]), (1, [0, 6, 7]), (2, [0, 6, 7, 13]), (3, [0, 6, 7]), (4, [0, 6, 7]), (5, [0, 6, 7])], head := [(2, [0, 6, 7])] }
def an83 : Ann := { mv := [30, 77, 115], live := [(0, [0, 1, 2]), (1, [0, 1, 2, 7]), (2, [0, 1, 2, 7, 8]), (3, [0, 1, 2, 7, 8, 14]), (4, [0, 1, 2, 7, 8]), (5, [0, 1, 2, 7, 8, 32]), (6, [0, 1, 2, 7, 8]), (7, [0, 1, 2, 7, 8, 37]), (8, [6]), (9, [0, 1, 2, 7, 8, 41]), (10, [6]), (11, [0, 1, 2, 7, 8]), (12, [0, 1, 2, 7, 8, 61]), (13, [0, 1, 2, 7, 8, 9]), (14, [0, 1, 2, 7, 8, 9, 65]), (15, [0, 1, 2, 7, 8, 9]), (16, [0, 1, 2, 7, 8, 9, 78]), (17, [0, 1, 2, 7, 8, 9]), (18, [0, 1, 2, 7, 8, 98]), (19, [0, 1, 2, 7, 8, 10]), (20, [0, 1, 2, 7, 8, 10, 103]), (21, [0, 1, 2, 7, 8, 10]), (22, [0, 1, 2, 7, 8, 10, 116]), (23, [0, 1, 2, 7, 8, 10]), (24, [6])], head := [(20, [0, 1, 2, 7, 8, 10]), (14, [0, 1, 2, 7, 8, 9]), (5, [0, 1, 2, 7, 8]), (3, [0, 1, 2, 7, 8])] }
def an84 : Ann := { mv := [6, 9, 16], live := [(0, [0, 1]), (1, [4])], head := [] }
def an85 : Ann := { mv := [41, 58, 83], live := [(0, [0, 1, 2, 3]), (1, [0, 1, 2]), (2, [0, 1, 9, 10]), (3, [0, 1, 9, 10, 43]), (4, [0, 1, 9, 10]), (5, [0, 1, 9, 10, 59]), (6, [0, 1, 9, 10]), (7, [0, 1, 9, 10, 64]), (8, [0, 1, 9, 10]), (9, [0, 1, 9, 10]), (10, [0, 1, 9, 10]), (11, [8])], head := [(5, [0, 1, 9, 10]), (3, [0, 1, 9, 10])] }
def an86 : Ann := { mv := [42, 58, 80, 111, 127, 167], live := [(0, [0, 1, 2, 3]), (1, [0, 1, 2]), (2, [0, 1, 10, 11]), (3, [0, 1, 10, 11, 43]), (4, [0, 1, 10, 11]), (5, [0, 1, 10, 11, 60]), (6, [0, 1, 10, 11]), (7, [0, 1, 10, 11, 65]), (8, [11]), (9, [8, 9]), (10, [0, 1, 10, 11]), (11, [0, 1, 10, 11]), (12, [0, 1, 10, 11]), (13, [0, 1, 10, 11, 112]), (14, [0, 1, 10, 11]), (15, [0, 1, 10, 11, 129]), (16, [0, 1, 10, 11]), (17, [0, 1, 10, 11, 134]), (18, [0, 1, 10, 11]), (19, [0, 1, 10, 11]), (20, [0, 1, 10, 11]), (21, [11]), (22, [8, 9])], head := [(15, [0, 1, 10, 11]), (13, [0, 1, 10, 11]), (5, [0, 1, 10, 11]), (3, [0, 1, 10, 11])] }
def an87 : Ann := { mv := [12, 18], live := [(0, [0, 2]), (1, [0, 2, 4]), (2, [0]), (3, [0, 2]), (4, [0, 2, 8]), (5, [0, 2]), (6, [0, 2]), (7, [2])], head := [] }
def an88 : Ann := { mv := [12, 18, 24], live := [(0, [0, 2]), (1, [0, 2, 4]), (2, [0]), (3, [0, 2]), (4, [0, 2, 8]), (5, [0, 2]), (6, [0, 2]), (7, [0, 2, 14]), (8, [0, 2]), (9, [0, 2]), (10, [2])], head := [] }
def an89 : Ann := { mv := [], live := [(0, [0, 1, 2, 3, 10]), (1, [0, 1, 2, 3, 10, 13]), (2, [0, 1, 2, 3, 10]), (3, [0, 1, 2, 3, 10])], head := [(1, [0, 1, 2, 3, 10])] }
def an90 : Ann := { mv := [35, 51], live := [(0, [0, 2, 3, 8]), (1, [0, 2, 3, 8, 9]), (2, [0, 2, 3, 8, 9, 16]), (3, [0, 2, 3, 8, 9, 36]), (4, [0, 2, 3, 8, 9]), (5, [0, 2, 3, 8, 9, 52]), (6, [0, 2, 3, 9]), (7, [0, 2, 3, 8])], head := [(1, [0, 2, 3, 8])] }
def an91 : Ann := { mv := [5, 6], live := [(0, [0]), (1, [2])], head := [] }
def an92 : Ann := { mv := [32], live := [(0, [0]), (1, [0]), (2, [0]), (3, [0]), (4, [2])], head := [] }
def an93 : Ann := { mv := [14], live := [(0, [0, 1, 2]), (1, [6])], head := [] }
def an94 : Ann := { mv := [16, 24, 32, 35], live := [(0, [0, 1, 2, 3, 4]), (1, [0, 1, 2, 3, 4]), (2, [0, 1, 2, 4]), (3, [2]), (4, [10])], head := [] }
def an95 : Ann := { mv := [18, 24, 25, 26, 27], live := [(0, [0, 1, 2, 3]), (1, [1, 2, 3, 18]), (2, [1, 2]), (3, [8, 9]), (4, [8, 9])], head := [] }
def anL : List Ann := [{}, {}, an2, an3, an4, an5, an6, an7, an8, an9, an10, an11, an12, an13, an14, an15, an16, an17, an18, an19, an20, an21, an22, an23, an24, an25, an26, an27, an28, an29, an30, an31, an32, an33, an34, an35, an36, an37, an38, an39, an40, an41, an42, an43, an44, an45, an46, an47, an48, an49, an50, an51, an52, an53, an54, an55, an56, an57, an58, an59, an60, an61, an62, an63, an64, an65, an66, an67, an68, an69, an70, an71, an72, an73, an74, an75, an76, an77, an78, an79, an80, an81, an82, an83, an84, an85, an86, an87, an88, an89, an90, an91, an92, an93, an94, an95, {}, {}, {}, {}, {}, {}, {}, {}, {}, {}, {}, {}, {}, {}, {}, {}]
def okL : List Nat := [3, 4, 5, 6, 7, 8, 9, 10, 11, 12, 13, 14, 15, 16, 17, 18, 19, 20, 21, 22, 23, 24, 25, 26, 27, 28, 29, 30, 31, 32, 33, 34, 35, 36, 37, 38, 39, 40, 41, 42, 43, 44, 45, 46, 47, 48, 49, 50, 51, 54, 55, 56, 57, 58, 59, 63, 64, 65, 66, 67, 68, 69, 70, 73, 74, 75, 76, 77, 87, 88, 89]
noncomputable def X : Ctx := { P := Try.prog, an := fun f => anL.getD f {}, prim := fun _ => none, ok := fun f => okL.contains f }
theorem XP : X.P = Try.prog := rfl
theorem Xprim (f : FuncId) : X.prim f = none := rfl
theorem Xan2 : X.an 2 = an2 := rfl
theorem Xan3 : X.an 3 = an3 := rfl
theorem Xan4 : X.an 4 = an4 := rfl
theorem Xan5 : X.an 5 = an5 := rfl
theorem Xan6 : X.an 6 = an6 := rfl
theorem Xan7 : X.an 7 = an7 := rfl
theorem Xan8 : X.an 8 = an8 := rfl
theorem Xan9 : X.an 9 = an9 := rfl
theorem Xan10 : X.an 10 = an10 := rfl
theorem Xan11 : X.an 11 = an11 := rfl
theorem Xan12 : X.an 12 = an12 := rfl
theorem Xan13 : X.an 13 = an13 := rfl
theorem Xan14 : X.an 14 = an14 := rfl
theorem Xan15 : X.an 15 = an15 := rfl
theorem Xan16 : X.an 16 = an16 := rfl
theorem Xan17 : X.an 17 = an17 := rfl
theorem Xan18 : X.an 18 = an18 := rfl
theorem Xan19 : X.an 19 = an19 := rfl
theorem Xan20 : X.an 20 = an20 := rfl
theorem Xan21 : X.an 21 = an21 := rfl
theorem Xan22 : X.an 22 = an22 := rfl
theorem Xan23 : X.an 23 = an23 := rfl
theorem Xan24 : X.an 24 = an24 := rfl
theorem Xan25 : X.an 25 = an25 := rfl
theorem Xan26 : X.an 26 = an26 := rfl
theorem Xan27 : X.an 27 = an27 := rfl
theorem Xan28 : X.an 28 = an28 := rfl
theorem Xan29 : X.an 29 = an29 := rfl
theorem Xan30 : X.an 30 = an30 := rfl
theorem Xan31 : X.an 31 = an31 := rfl
theorem Xan32 : X.an 32 = an32 := rfl
theorem Xan33 : X.an 33 = an33 := rfl
theorem Xan34 : X.an 34 = an34 := rfl
theorem Xan35 : X.an 35 = an35 := rfl
theorem Xan36 : X.an 36 = an36 := rfl
theorem Xan37 : X.an 37 = an37 := rfl
theorem Xan38 : X.an 38 = an38 := rfl
theorem Xan39 : X.an 39 = an39 := rfl
theorem Xan40 : X.an 40 = an40 := rfl
theorem Xan41 : X.an 41 = an41 := rfl
theorem Xan42 : X.an 42 = an42 := rfl
theorem Xan43 : X.an 43 = an43 := rfl
theorem Xan44 : X.an 44 = an44 := rfl
theorem Xan45 : X.an 45 = an45 := rfl
theorem Xan46 : X.an 46 = an46 := rfl
theorem Xan47 : X.an 47 = an47 := rfl
theorem Xan48 : X.an 48 = an48 := rfl
theorem Xan49 : X.an 49 = an49 := rfl
theorem Xan50 : X.an 50 = an50 := rfl
theorem Xan51 : X.an 51 = an51 := rfl
theorem Xan52 : X.an 52 = an52 := rfl
theorem Xan53 : X.an 53 = an53 := rfl
theorem Xan54 : X.an 54 = an54 := rfl
theorem Xan55 : X.an 55 = an55 := rfl
theorem Xan56 : X.an 56 = an56 := rfl
theorem Xan57 : X.an 57 = an57 := rfl
theorem Xan58 : X.an 58 = an58 := rfl
theorem Xan59 : X.an 59 = an59 := rfl
theorem Xan60 : X.an 60 = an60 := rfl
theorem Xan61 : X.an 61 = an61 := rfl
theorem Xan62 : X.an 62 = an62 := rfl
theorem Xan63 : X.an 63 = an63 := rfl
theorem Xan64 : X.an 64 = an64 := rfl
theorem Xan65 : X.an 65 = an65 := rfl
theorem Xan66 : X.an 66 = an66 := rfl
theorem Xan67 : X.an 67 = an67 := rfl
theorem Xan68 : X.an 68 = an68 := rfl
theorem Xan69 : X.an 69 = an69 := rfl
theorem Xan70 : X.an 70 = an70 := rfl
theorem Xan71 : X.an 71 = an71 := rfl
theorem Xan72 : X.an 72 = an72 := rfl
theorem Xan73 : X.an 73 = an73 := rfl
theorem Xan74 : X.an 74 = an74 := rfl
theorem Xan75 : X.an 75 = an75 := rfl
theorem Xan76 : X.an 76 = an76 := rfl
theorem Xan77 : X.an 77 = an77 := rfl
theorem Xan78 : X.an 78 = an78 := rfl
theorem Xan79 : X.an 79 = an79 := rfl
theorem Xan80 : X.an 80 = an80 := rfl
theorem Xan81 : X.an 81 = an81 := rfl
theorem Xan82 : X.an 82 = an82 := rfl
theorem Xan83 : X.an 83 = an83 := rfl
theorem Xan84 : X.an 84 = an84 := rfl
theorem Xan85 : X.an 85 = an85 := rfl
theorem Xan86 : X.an 86 = an86 := rfl
theorem Xan87 : X.an 87 = an87 := rfl
theorem Xan88 : X.an 88 = an88 := rfl
theorem Xan89 : X.an 89 = an89 := rfl
theorem Xan90 : X.an 90 = an90 := rfl
theorem Xan91 : X.an 91 = an91 := rfl
theorem Xan92 : X.an 92 = an92 := rfl
theorem Xan93 : X.an 93 = an93 := rfl
theorem Xan94 : X.an 94 = an94 := rfl
theorem Xan95 : X.an 95 = an95 := rfl
theorem Xok3 : X.ok 3 = true := by decide
theorem Xok4 : X.ok 4 = true := by decide
theorem Xok5 : X.ok 5 = true := by decide
theorem Xok6 : X.ok 6 = true := by decide
theorem Xok7 : X.ok 7 = true := by decide
theorem Xok8 : X.ok 8 = true := by decide
theorem Xok9 : X.ok 9 = true := by decide
theorem Xok10 : X.ok 10 = true := by decide
theorem Xok11 : X.ok 11 = true := by decide
theorem Xok12 : X.ok 12 = true := by decide
theorem Xok13 : X.ok 13 = true := by decide
theorem Xok14 : X.ok 14 = true := by decide
theorem Xok15 : X.ok 15 = true := by decide
theorem Xok16 : X.ok 16 = true := by decide
theorem Xok17 : X.ok 17 = true := by decide
theorem Xok18 : X.ok 18 = true := by decide
theorem Xok19 : X.ok 19 = true := by decide
theorem Xok20 : X.ok 20 = true := by decide
theorem Xok21 : X.ok 21 = true := by decide
theorem Xok22 : X.ok 22 = true := by decide
theorem Xok23 : X.ok 23 = true := by decide
theorem Xok24 : X.ok 24 = true := by decide
theorem Xok25 : X.ok 25 = true := by decide
theorem Xok26 : X.ok 26 = true := by decide
theorem Xok27 : X.ok 27 = true := by decide
theorem Xok28 : X.ok 28 = true := by decide
theorem Xok29 : X.ok 29 = true := by decide
theorem Xok30 : X.ok 30 = true := by decide
theorem Xok31 : X.ok 31 = true := by decide
theorem Xok32 : X.ok 32 = true := by decide
theorem Xok33 : X.ok 33 = true := by decide
theorem Xok34 : X.ok 34 = true := by decide
theorem Xok35 : X.ok 35 = true := by decide
theorem Xok36 : X.ok 36 = true := by decide
theorem Xok37 : X.ok 37 = true := by decide
theorem Xok38 : X.ok 38 = true := by decide
theorem Xok39 : X.ok 39 = true := by decide
theorem Xok40 : X.ok 40 = true := by decide
theorem Xok41 : X.ok 41 = true := by decide
theorem Xok42 : X.ok 42 = true := by decide
theorem Xok43 : X.ok 43 = true := by decide
theorem Xok44 : X.ok 44 = true := by decide
theorem Xok45 : X.ok 45 = true := by decide
theorem Xok46 : X.ok 46 = true := by decide
theorem Xok47 : X.ok 47 = true := by decide
theorem Xok48 : X.ok 48 = true := by decide
theorem Xok49 : X.ok 49 = true := by decide
theorem Xok50 : X.ok 50 = true := by decide
theorem Xok51 : X.ok 51 = true := by decide
theorem Xok54 : X.ok 54 = true := by decide
theorem Xok55 : X.ok 55 = true := by decide
theorem Xok56 : X.ok 56 = true := by decide
theorem Xok57 : X.ok 57 = true := by decide
theorem Xok58 : X.ok 58 = true := by decide
theorem Xok59 : X.ok 59 = true := by decide
theorem Xok63 : X.ok 63 = true := by decide
theorem Xok64 : X.ok 64 = true := by decide
theorem Xok65 : X.ok 65 = true := by decide
theorem Xok66 : X.ok 66 = true := by decide
theorem Xok67 : X.ok 67 = true := by decide
theorem Xok68 : X.ok 68 = true := by decide
theorem Xok69 : X.ok 69 = true := by decide
theorem Xok70 : X.ok 70 = true := by decide
theorem Xok73 : X.ok 73 = true := by decide
theorem Xok74 : X.ok 74 = true := by decide
theorem Xok75 : X.ok 75 = true := by decide
theorem Xok76 : X.ok 76 = true := by decide
theorem Xok77 : X.ok 77 = true := by decide
theorem Xok87 : X.ok 87 = true := by decide
theorem Xok88 : X.ok 88 = true := by decide
theorem Xok89 : X.ok 89 = true := by decide
@[simp] theorem ar2 : an2.ar = [] := rfl
@[simp] theorem mv2 : an2.mv = [0] := rfl
@[simp] theorem lv2 : an2.live = [(0, [])] := rfl
@[simp] theorem hd2 : an2.head = [] := rfl
@[simp] theorem ar3 : an3.ar = [] := rfl
@[simp] theorem mv3 : an3.mv = [4, 6, 8, 10, 11, 13, 14] := rfl
@[simp] theorem lv3 : an3.live = [(0, [0]), (1, [0, 5]), (2, [2]), (3, [2])] := rfl
@[simp] theorem hd3 : an3.head = [] := rfl
@[simp] theorem ar4 : an4.ar = [] := rfl
@[simp] theorem mv4 : an4.mv = [14, 16, 21, 28, 37, 43, 47, 53, 56, 60, 61] := rfl
@[simp] theorem lv4 : an4.live = [(0, [0, 1, 2, 3]), (1, [0, 1, 2, 3, 15]), (2, [8]), (3, [0, 1, 2, 3, 9, 10]), (4, [0, 1, 2, 3, 9, 10, 11, 12]), (5, [8])] := rfl
@[simp] theorem hd4 : an4.head = [] := rfl
@[simp] theorem ar5 : an5.ar = [] := rfl
@[simp] theorem mv5 : an5.mv = [11, 13, 15, 17, 18, 26, 30, 46, 61, 72, 77, 81, 82] := rfl
@[simp] theorem lv5 : an5.live = [(0, [0]), (1, [0, 12]), (2, [2]), (3, [0, 3, 4]), (4, [0, 3, 4, 17, 18, 19]), (5, [0, 3, 4, 17, 18, 19, 20]), (6, [0, 3, 4, 6, 17, 18, 19]), (7, [0, 3, 4, 17, 18, 19]), (8, [0, 3, 4, 17, 18, 19]), (9, [0, 3, 4, 30, 31]), (10, [0, 3, 4, 30, 31, 32]), (11, [0, 3, 4, 7, 30, 31]), (12, [0, 3, 4, 7, 30, 31, 48]), (13, [2]), (14, [0, 3, 4, 7, 8, 9, 30, 31]), (15, [0, 3, 4, 30, 31, 74]), (16, [2]), (17, [0, 3, 4, 30, 31]), (18, [2])] := rfl
@[simp] theorem hd5 : an5.head = [(10, [0, 3, 4, 30, 31]), (5, [0, 3, 4, 17, 18, 19])] := rfl
@[simp] theorem ar6 : an6.ar = [] := rfl
@[simp] theorem mv6 : an6.mv = [15, 17, 19, 20, 22, 24, 26, 27, 38, 43, 50, 92, 97] := rfl
@[simp] theorem lv6 : an6.live = [(0, [0, 3]), (1, [0, 3, 5]), (2, [0, 3, 5, 23]), (3, [4]), (4, [3, 5, 26, 27, 28]), (5, [3, 5, 26, 27, 28, 29]), (6, [3, 5, 7, 26, 27, 28]), (7, [3, 5, 7, 8, 9, 26, 27, 28]), (8, [3, 5, 7, 8, 9, 10, 26, 27, 28]), (9, [3, 5, 7, 8, 9, 10, 26, 27, 28, 42, 43, 44]), (10, [3, 5, 7, 8, 9, 10, 26, 27, 28, 42, 43, 44, 45]), (11, [3, 5, 7, 8, 9, 10, 12, 26, 27, 28, 42, 43, 44]), (12, [3, 5, 7, 8, 9, 10, 26, 27, 28, 42, 43, 44, 49, 50, 51]), (13, [3, 5, 7, 8, 9, 10, 26, 27, 28, 42, 43, 44, 49, 50, 51, 52]), (14, [3, 5, 7, 8, 9, 10, 14, 26, 27, 28, 42, 43, 44, 49, 50, 51]), (15, [3, 5, 7, 8, 9, 10, 26, 27, 28, 42, 43, 44, 49, 50, 51]), (16, [3, 5, 7, 8, 9, 10, 26, 27, 28, 42, 43, 44, 49, 50, 51]), (17, [3, 5, 7, 8, 9, 10, 26, 27, 28, 42, 43, 44]), (18, [3, 5, 26, 27, 28, 95]), (19, [4]), (20, [3, 5, 26, 27, 28]), (21, [4])] := rfl
@[simp] theorem hd6 : an6.head = [(13, [3, 5, 7, 8, 9, 10, 26, 27, 28, 42, 43, 44, 49, 50, 51]), (10, [3, 5, 7, 8, 9, 10, 26, 27, 28, 42, 43, 44]), (5, [3, 5, 26, 27, 28])] := rfl
@[simp] theorem ar7 : an7.ar = [] := rfl
@[simp] theorem mv7 : an7.mv = [9, 13, 18, 21, 25, 28, 34, 40, 44, 45, 47, 49, 50, 52, 53] := rfl
@[simp] theorem lv7 : an7.live = [(0, [0, 1]), (1, [0, 1, 20]), (2, [4]), (3, [0, 5]), (4, [0, 5, 6]), (5, [0, 5, 6, 7]), (6, [0, 5, 6, 7, 31]), (7, [0, 5, 6, 7]), (8, [0, 5, 6, 7]), (9, [4])] := rfl
@[simp] theorem hd7 : an7.head = [(6, [0, 5, 6, 7])] := rfl
@[simp] theorem ar8 : an8.ar = [] := rfl
@[simp] theorem mv8 : an8.mv = [14, 16, 21, 27, 33, 34, 40, 54, 61, 68] := rfl
@[simp] theorem lv8 : an8.live = [(0, [0, 1, 2]), (1, [0, 1, 2, 15]), (2, [6]), (3, [0, 1, 2, 7, 8]), (4, [0, 1, 2, 7, 8, 9]), (5, [0, 1, 2, 7, 9, 29]), (6, [6]), (7, [0, 1, 2, 7, 9, 42]), (8, [6]), (9, [0, 1, 2, 7, 9, 44, 45]), (10, [0, 1, 2, 7, 9, 44, 45, 46]), (11, [0, 1, 2, 7, 9, 10, 44, 45]), (12, [0, 1, 2, 7, 9, 10, 11, 12, 44, 45]), (13, [0, 1, 2, 7, 9, 44, 45, 66]), (14, [6]), (15, [0, 1, 2, 7, 9, 44, 45]), (16, [6])] := rfl
@[simp] theorem hd8 : an8.head = [(10, [0, 1, 2, 7, 9, 44, 45])] := rfl
@[simp] theorem ar9 : an9.ar = [] := rfl
@[simp] theorem mv9 : an9.mv = [11, 13, 15, 17, 19, 21, 24, 84, 90, 98, 118, 123, 125, 127, 129, 132, 146] := rfl
@[simp] theorem lv9 : an9.live = [(0, [0]), (1, [0, 12]), (2, [2]), (3, [0, 3, 4]), (4, [0, 3, 4, 22]), (5, [2]), (6, [0, 3, 4, 24, 25]), (7, [0, 3, 4, 24, 25, 26]), (8, [0, 3, 4, 5, 24, 25]), (9, [0, 3, 4, 5, 24, 25, 92]), (10, [2]), (11, [0, 3, 4, 5, 24, 25, 98, 99]), (12, [0, 3, 4, 5, 24, 25, 98, 99, 100]), (13, [0, 3, 4, 5, 6, 24, 25, 98, 99]), (14, [0, 3, 4, 5, 24, 25, 98, 99, 119]), (15, [2]), (16, [0, 3, 4, 5, 24, 25, 98, 99]), (17, [0, 3, 4, 24, 25]), (18, [7, 8]), (19, [7, 8, 130]), (20, [2]), (21, [7, 8, 132, 133]), (22, [7, 8, 132, 133, 134]), (23, [7, 8, 9, 132, 133]), (24, [7, 8, 132, 133, 144]), (25, [2]), (26, [7, 8, 132, 133]), (27, [2])] := rfl
@[simp] theorem hd9 : an9.head = [(22, [7, 8, 132, 133]), (12, [0, 3, 4, 5, 24, 25, 98, 99]), (7, [0, 3, 4, 24, 25])] := rfl
@[simp] theorem ar10 : an10.ar = [] := rfl
@[simp] theorem mv10 : an10.mv = [11, 15, 24, 32, 41, 56, 64, 71, 77, 86] := rfl
@[simp] theorem lv10 : an10.live = [(0, [0, 1]), (1, [0, 1, 12]), (2, [4]), (3, [0, 1, 5]), (4, [0, 1, 5, 6]), (5, [0, 1, 5, 6, 16]), (6, [0, 1, 5, 6]), (7, [0, 1, 5, 6, 34]), (8, [4]), (9, [0, 1, 5, 6, 7]), (10, [0, 1, 5, 6, 7, 42]), (11, [0, 1, 5, 6, 7]), (12, [0, 1, 5, 6, 7, 8]), (13, [0, 1, 5, 6, 7, 8]), (14, [0, 1, 5, 6, 7, 8, 73]), (15, [4]), (16, [0, 1, 5, 6, 7, 8, 9]), (17, [0, 1, 5, 6, 7, 8, 9, 78]), (18, [0, 1, 5, 6, 7, 8, 9]), (19, [0, 1, 5, 6, 7, 8, 9, 87]), (20, [4]), (21, [4])] := rfl
@[simp] theorem hd10 : an10.head = [(17, [0, 1, 5, 6, 7, 8, 9]), (10, [0, 1, 5, 6, 7]), (5, [0, 1, 5, 6])] := rfl
@[simp] theorem ar11 : an11.ar = [] := rfl
@[simp] theorem mv11 : an11.mv = [7, 10, 13, 16, 18, 21, 23, 25, 29, 30, 32, 53, 60, 65, 66, 72, 73, 75] := rfl
@[simp] theorem lv11 : an11.live = [(0, []), (1, [1]), (2, [1, 2]), (3, [1, 2, 3]), (4, [1, 2, 3, 4]), (5, [1, 2, 3, 4, 5]), (6, [1, 2, 3, 4, 5, 47]), (7, [0]), (8, [0])] := rfl
@[simp] theorem hd11 : an11.head = [] := rfl
@[simp] theorem ar12 : an12.ar = [] := rfl
@[simp] theorem mv12 : an12.mv = [7, 9, 13, 25] := rfl
@[simp] theorem lv12 : an12.live = [(0, [0, 1]), (1, [0, 1, 10]), (2, [4]), (3, [0, 1, 5]), (4, [0, 1, 5, 14]), (5, [0, 1, 5]), (6, [0, 1, 5, 26]), (7, [4]), (8, [4])] := rfl
@[simp] theorem hd12 : an12.head = [(4, [0, 1, 5])] := rfl
@[simp] theorem ar13 : an13.ar = [] := rfl
@[simp] theorem mv13 : an13.mv = [13, 15, 17, 23, 24, 44, 48, 50, 51, 54] := rfl
@[simp] theorem lv13 : an13.live = [(0, [0]), (1, [0, 3]), (2, [3, 4]), (3, [3, 4, 5]), (4, [3, 5, 16, 17, 18]), (5, [3, 5, 16, 17, 18, 19]), (6, [3, 5, 7, 16, 17, 18]), (7, [3, 5, 16, 17, 18, 23, 24, 25]), (8, [3, 5, 16, 17, 18, 23, 24, 25, 26]), (9, [3, 5, 9, 16, 17, 18, 23, 24, 25]), (10, [3, 5, 9, 10, 11, 16, 17, 18, 23, 24, 25]), (11, [3, 5, 9, 10, 16, 17, 18, 23, 24, 25, 45]), (12, [3, 5, 9, 16, 17, 18, 23, 24, 25]), (13, [3, 5, 16, 17, 18, 23, 24, 25]), (14, [3, 5, 16, 17, 18, 23, 24, 25]), (15, [3, 5, 16, 17, 18]), (16, [2])] := rfl
@[simp] theorem hd13 : an13.head = [(8, [3, 5, 16, 17, 18, 23, 24, 25]), (5, [3, 5, 16, 17, 18])] := rfl
@[simp] theorem ar14 : an14.ar = [] := rfl
@[simp] theorem mv14 : an14.mv = [8, 9, 12, 22, 26, 53, 55, 56, 57] := rfl
@[simp] theorem lv14 : an14.live = [(0, [0]), (1, [3]), (2, [3, 4]), (3, [3, 4, 5]), (4, [3, 4, 5, 13]), (5, [3, 4, 5]), (6, [3, 4, 5, 6]), (7, [3, 4, 5, 6, 23]), (8, [3, 4, 5, 6]), (9, [3, 4, 5, 6]), (10, [2])] := rfl
@[simp] theorem hd14 : an14.head = [(7, [3, 4, 5, 6]), (4, [3, 4, 5])] := rfl
@[simp] theorem ar15 : an15.ar = [] := rfl
@[simp] theorem mv15 : an15.mv = [11, 14] := rfl
@[simp] theorem lv15 : an15.live = [(0, [2, 3, 4, 6]), (1, [3, 4, 6, 8]), (2, [6, 8, 9]), (3, [6, 8, 9, 16]), (4, [6, 7]), (5, [6, 7])] := rfl
@[simp] theorem hd15 : an15.head = [] := rfl
@[simp] theorem ar16 : an16.ar = [] := rfl
@[simp] theorem mv16 : an16.mv = [11, 14] := rfl
@[simp] theorem lv16 : an16.live = [(0, [0, 1, 2, 6]), (1, [0, 1, 6, 8]), (2, [0, 1, 6, 8, 9]), (3, [0, 1, 6, 8, 9, 15]), (4, [0, 1, 6, 8, 9]), (5, [0, 1, 6, 8, 9, 33]), (6, [6, 7]), (7, [6, 7])] := rfl
@[simp] theorem hd16 : an16.head = [(3, [0, 1, 6, 8, 9])] := rfl
@[simp] theorem ar17 : an17.ar = [] := rfl
@[simp] theorem mv17 : an17.mv = [29, 30] := rfl
@[simp] theorem lv17 : an17.live = [(0, [2, 3]), (1, [4])] := rfl
@[simp] theorem hd17 : an17.head = [] := rfl
@[simp] theorem ar18 : an18.ar = [] := rfl
@[simp] theorem mv18 : an18.mv = [16, 23, 34, 41, 43] := rfl
@[simp] theorem lv18 : an18.live = [(0, [0, 1, 2]), (1, [0, 1, 2, 7, 8]), (2, [0, 1, 2, 7, 8, 9]), (3, [0, 1, 2, 7, 8, 9, 25]), (4, [0, 1, 2, 7, 8, 9]), (5, [0, 1, 2, 7, 8, 9, 10, 11]), (6, [0, 1, 2, 7, 8, 9, 42]), (7, [6]), (8, [6])] := rfl
@[simp] theorem hd18 : an18.head = [(3, [0, 1, 2, 7, 8, 9])] := rfl
@[simp] theorem ar19 : an19.ar = [] := rfl
@[simp] theorem mv19 : an19.mv = [16, 23, 33, 40, 42] := rfl
@[simp] theorem lv19 : an19.live = [(0, [0, 1, 2]), (1, [0, 1, 2, 7, 8]), (2, [0, 1, 2, 7, 20]), (3, [6]), (4, [0, 1, 2, 7, 9]), (5, [0, 1, 2, 7, 9, 24]), (6, [0, 1, 2, 7, 9]), (7, [0, 1, 2, 7, 9, 10, 11]), (8, [0, 1, 2, 7, 9, 41]), (9, [6]), (10, [6])] := rfl
@[simp] theorem hd19 : an19.head = [(5, [0, 1, 2, 7, 9])] := rfl
@[simp] theorem ar20 : an20.ar = [] := rfl
@[simp] theorem mv20 : an20.mv = [8, 12, 13] := rfl
@[simp] theorem lv20 : an20.live = [(0, [1, 2]), (1, [1, 5]), (2, [1, 5, 10]), (3, [4]), (4, [4])] := rfl
@[simp] theorem hd20 : an20.head = [] := rfl
@[simp] theorem ar21 : an21.ar = [] := rfl
@[simp] theorem mv21 : an21.mv = [8, 21] := rfl
@[simp] theorem lv21 : an21.live = [(0, [0, 1]), (1, [0, 1, 5]), (2, [0, 1, 5, 18]), (3, [0, 1, 5]), (4, [4])] := rfl
@[simp] theorem hd21 : an21.head = [(2, [0, 1, 5])] := rfl
@[simp] theorem ar22 : an22.ar = [3] := rfl
@[simp] theorem mv22 : an22.mv = [6, 8, 9] := rfl
@[simp] theorem lv22 : an22.live = [(0, [0]), (1, [0, 3]), (2, [3]), (3, [3]), (4, [2])] := rfl
@[simp] theorem hd22 : an22.head = [] := rfl
@[simp] theorem ar23 : an23.ar = [] := rfl
@[simp] theorem mv23 : an23.mv = [9, 14, 19, 20, 21] := rfl
@[simp] theorem lv23 : an23.live = [(0, [2, 3]), (1, [4])] := rfl
@[simp] theorem hd23 : an23.head = [] := rfl
@[simp] theorem ar24 : an24.ar = [] := rfl
@[simp] theorem mv24 : an24.mv = [4, 5, 6] := rfl
@[simp] theorem lv24 : an24.live = [(0, [0]), (1, [2])] := rfl
@[simp] theorem hd24 : an24.head = [] := rfl
@[simp] theorem ar25 : an25.ar = [10] := rfl
@[simp] theorem mv25 : an25.mv = [9, 10, 13, 23, 28, 39, 43, 47, 50, 55, 56, 58, 59] := rfl
@[simp] theorem lv25 : an25.live = [(0, [0]), (1, [3]), (2, [3, 4]), (3, [3, 4, 5]), (4, [3, 4, 5, 14]), (5, [3, 4, 5]), (6, [3, 4, 5, 25]), (7, [3, 4, 5, 6]), (8, [3, 4, 5, 6, 40]), (9, [3, 4, 5, 6]), (10, [3, 4, 5, 6, 7]), (11, [3, 4, 5]), (12, [2])] := rfl
@[simp] theorem hd25 : an25.head = [(8, [3, 4, 5, 6]), (4, [3, 4, 5])] := rfl
@[simp] theorem ar26 : an26.ar = [] := rfl
@[simp] theorem mv26 : an26.mv = [78, 85, 93, 101, 109, 115, 118, 124, 138] := rfl
@[simp] theorem lv26 : an26.live = [(0, [2, 3]), (1, [2, 3, 73]), (2, [4]), (3, [2, 3, 120]), (4, [4]), (5, [2, 3, 5]), (6, [2, 3, 5, 125]), (7, [2, 3, 5]), (8, [2, 3, 5, 139]), (9, [4]), (10, [4])] := rfl
@[simp] theorem hd26 : an26.head = [(6, [2, 3, 5])] := rfl
@[simp] theorem ar27 : an27.ar = [] := rfl
@[simp] theorem mv27 : an27.mv = [7, 9, 10] := rfl
@[simp] theorem lv27 : an27.live = [(0, [0]), (1, [0, 3]), (2, [3]), (3, [2])] := rfl
@[simp] theorem hd27 : an27.head = [] := rfl
@[simp] theorem ar28 : an28.ar = [10] := rfl
@[simp] theorem mv28 : an28.mv = [9, 10, 13, 23, 28, 46, 60, 64, 67, 73, 74, 76, 77] := rfl
@[simp] theorem lv28 : an28.live = [(0, [0]), (1, [3]), (2, [3, 4]), (3, [3, 4, 5]), (4, [3, 4, 5, 14]), (5, [3, 4, 5]), (6, [3, 4, 5, 25]), (7, [3, 4, 5, 6]), (8, [3, 4, 5, 6, 41]), (9, [3, 4, 5, 6]), (10, [3, 4, 5, 6, 59]), (11, [3, 4, 5, 6, 7]), (12, [3, 4, 5]), (13, [2])] := rfl
@[simp] theorem hd28 : an28.head = [(8, [3, 4, 5, 6]), (4, [3, 4, 5])] := rfl
@[simp] theorem ar29 : an29.ar = [] := rfl
@[simp] theorem mv29 : an29.mv = [11, 16, 22, 28, 34, 40, 47, 53, 59, 65, 71, 80, 85, 94, 99, 109, 114, 124, 129, 140, 154, 161] := rfl
@[simp] theorem lv29 : an29.live = [(0, [1]), (1, [1, 67]), (2, [2]), (3, [1, 3]), (4, [1, 3, 72]), (5, [1, 3]), (6, [1, 3, 81]), (7, [2]), (8, [1, 4]), (9, [1, 4, 86]), (10, [1, 4]), (11, [1, 4, 95]), (12, [2]), (13, [1, 5]), (14, [1, 5, 100]), (15, [1, 5]), (16, [1, 5, 110]), (17, [2]), (18, [1, 6]), (19, [1, 6, 115]), (20, [1, 6]), (21, [1, 6, 125]), (22, [2]), (23, [1, 7]), (24, [1, 7, 130]), (25, [1, 7]), (26, [1, 7, 8]), (27, [1, 7, 8, 141]), (28, [1, 7, 8]), (29, [1, 7, 8, 155]), (30, [2]), (31, [1, 7, 162]), (32, [2]), (33, [2])] := rfl
@[simp] theorem hd29 : an29.head = [(27, [1, 7, 8]), (24, [1, 7]), (19, [1, 6]), (14, [1, 5]), (9, [1, 4]), (4, [1, 3])] := rfl
@[simp] theorem ar30 : an30.ar = [] := rfl
@[simp] theorem mv30 : an30.mv = [10, 17, 28, 37, 51] := rfl
@[simp] theorem lv30 : an30.live = [(0, [0]), (1, [0, 3]), (2, [3, 9, 10, 11]), (3, [3, 9, 10, 11, 12]), (4, [3, 5, 9, 10, 11]), (5, [3, 9, 10, 11, 16, 17, 18]), (6, [3, 9, 10, 11, 16, 17, 18, 19]), (7, [3, 7, 9, 10, 11, 16, 17, 18]), (8, [3, 7, 9, 10, 11, 16, 17, 18, 38]), (9, [3, 9, 10, 11, 16, 17, 18]), (10, [3, 9, 10, 11, 16, 17, 18]), (11, [3, 9, 10, 11]), (12, [2])] := rfl
@[simp] theorem hd30 : an30.head = [(6, [3, 9, 10, 11, 16, 17, 18]), (3, [3, 9, 10, 11])] := rfl
@[simp] theorem ar31 : an31.ar = [] := rfl
@[simp] theorem mv31 : an31.mv = [8, 14, 22, 23, 25] := rfl
@[simp] theorem lv31 : an31.live = [(0, [1]), (1, [1, 3]), (2, [1, 3, 7, 8, 9]), (3, [1, 3, 7, 8, 9, 10]), (4, [1, 3, 4, 5, 7, 8, 9]), (5, [1, 3, 7, 8, 9]), (6, [1, 3, 7, 8, 9]), (7, [2])] := rfl
@[simp] theorem hd31 : an31.head = [(3, [1, 3, 7, 8, 9])] := rfl
@[simp] theorem ar32 : an32.ar = [] := rfl
@[simp] theorem mv32 : an32.mv = [8] := rfl
@[simp] theorem lv32 : an32.live = [(0, [0]), (1, [2])] := rfl
@[simp] theorem hd32 : an32.head = [] := rfl
@[simp] theorem ar33 : an33.ar = [] := rfl
@[simp] theorem mv33 : an33.mv = [15, 21, 31, 61, 70] := rfl
@[simp] theorem lv33 : an33.live = [(0, [0, 1, 2, 7, 8]), (1, [0, 1, 2, 7, 8, 16]), (2, [8]), (3, [0, 1, 2, 8, 9]), (4, [0, 1, 2, 8, 9, 10]), (5, [0, 1, 2, 8, 9, 10, 22]), (6, [0, 1, 2, 8, 9, 10]), (7, [0, 1, 2, 8, 9, 10, 11]), (8, [0, 1, 2, 8, 9, 10, 11, 32]), (9, [0, 1, 2, 8, 9, 10, 11]), (10, [0, 1, 2, 8, 9, 10, 11, 12]), (11, [0, 1, 2, 8, 9, 10, 11, 12, 71]), (12, [0, 1, 2, 8, 9, 10, 11]), (13, [8])] := rfl
@[simp] theorem hd33 : an33.head = [(8, [0, 1, 2, 8, 9, 10, 11]), (5, [0, 1, 2, 8, 9, 10])] := rfl
@[simp] theorem ar34 : an34.ar = [] := rfl
@[simp] theorem mv34 : an34.mv = [7, 16, 17] := rfl
@[simp] theorem lv34 : an34.live = [(0, [0, 1]), (1, [0, 1, 7, 8]), (2, [0, 1, 7, 8, 9]), (3, [0, 1, 5, 7, 8]), (4, [0, 1, 5, 7, 8, 16]), (5, [4]), (6, [0, 1, 7, 8]), (7, [4])] := rfl
@[simp] theorem hd34 : an34.head = [(2, [0, 1, 7, 8])] := rfl
@[simp] theorem ar35 : an35.ar = [] := rfl
@[simp] theorem mv35 : an35.mv = [14] := rfl
@[simp] theorem lv35 : an35.live = [(0, [1, 2, 3]), (1, [4])] := rfl
@[simp] theorem hd35 : an35.head = [] := rfl
@[simp] theorem ar36 : an36.ar = [] := rfl
@[simp] theorem mv36 : an36.mv = [7, 14, 15] := rfl
@[simp] theorem lv36 : an36.live = [(0, [2, 3]), (1, [4])] := rfl
@[simp] theorem hd36 : an36.head = [] := rfl
@[simp] theorem ar37 : an37.ar = [] := rfl
@[simp] theorem mv37 : an37.mv = [7, 16, 17] := rfl
@[simp] theorem lv37 : an37.live = [(0, [0, 1]), (1, [0, 1, 7, 8]), (2, [0, 1, 7, 8, 9]), (3, [0, 1, 5, 7, 8]), (4, [0, 1, 5, 7, 8, 16]), (5, [4]), (6, [0, 1, 7, 8]), (7, [4])] := rfl
@[simp] theorem hd37 : an37.head = [(2, [0, 1, 7, 8])] := rfl
@[simp] theorem ar38 : an38.ar = [] := rfl
@[simp] theorem mv38 : an38.mv = [7] := rfl
@[simp] theorem lv38 : an38.live = [(0, [1, 2]), (1, [3])] := rfl
@[simp] theorem hd38 : an38.head = [] := rfl
@[simp] theorem ar39 : an39.ar = [] := rfl
@[simp] theorem mv39 : an39.mv = [11, 18, 29] := rfl
@[simp] theorem lv39 : an39.live = [(0, [0, 1, 4]), (1, [1, 4, 10, 11, 12]), (2, [1, 4, 10, 11, 12, 13]), (3, [1, 4, 6, 10, 11, 12]), (4, [1, 4, 10, 11, 12, 17, 18, 19]), (5, [1, 4, 10, 11, 12, 17, 18, 19, 20]), (6, [1, 4, 8, 10, 11, 12, 17, 18, 19]), (7, [1, 4, 8, 10, 11, 12, 17, 18, 19]), (8, [1, 4, 10, 11, 12, 17, 18, 19]), (9, [1, 4, 10, 11, 12, 17, 18, 19]), (10, [1, 4, 10, 11, 12])] := rfl
@[simp] theorem hd39 : an39.head = [(5, [1, 4, 10, 11, 12, 17, 18, 19]), (2, [1, 4, 10, 11, 12])] := rfl
@[simp] theorem ar40 : an40.ar = [] := rfl
@[simp] theorem mv40 : an40.mv = [7, 9, 10] := rfl
@[simp] theorem lv40 : an40.live = [(0, [1, 2, 3]), (1, [2, 3, 6]), (2, [])] := rfl
@[simp] theorem hd40 : an40.head = [] := rfl
@[simp] theorem ar41 : an41.ar = [] := rfl
@[simp] theorem mv41 : an41.mv = [6, 8] := rfl
@[simp] theorem lv41 : an41.live = [(0, [])] := rfl
@[simp] theorem hd41 : an41.head = [] := rfl
@[simp] theorem ar42 : an42.ar = [] := rfl
@[simp] theorem mv42 : an42.mv = [9, 14, 15, 16] := rfl
@[simp] theorem lv42 : an42.live = [(0, [2, 3]), (1, [4])] := rfl
@[simp] theorem hd42 : an42.head = [] := rfl
@[simp] theorem ar43 : an43.ar = [] := rfl
@[simp] theorem mv43 : an43.mv = [7, 15, 17] := rfl
@[simp] theorem lv43 : an43.live = [(0, [0]), (1, [0, 3]), (2, [3, 6, 7, 8]), (3, [3, 6, 7, 8, 9]), (4, [3, 5, 6, 7, 8]), (5, [3, 5, 6, 7, 8, 14]), (6, [2]), (7, [3, 6, 7, 8]), (8, [2])] := rfl
@[simp] theorem hd43 : an43.head = [(3, [3, 6, 7, 8])] := rfl
@[simp] theorem ar44 : an44.ar = [] := rfl
@[simp] theorem mv44 : an44.mv = [8, 10] := rfl
@[simp] theorem lv44 : an44.live = [(0, [0, 1]), (1, [0, 1, 5]), (2, [0, 1, 5, 6]), (3, [0, 1, 6, 11]), (4, [12]), (5, [4]), (6, [4]), (7, [0, 1, 13]), (8, [4]), (9, [0, 1, 16]), (10, [4]), (11, [19]), (12, [4]), (13, [4])] := rfl
@[simp] theorem hd44 : an44.head = [] := rfl
@[simp] theorem ar45 : an45.ar = [] := rfl
@[simp] theorem mv45 : an45.mv = [5, 8, 12, 18, 19] := rfl
@[simp] theorem lv45 : an45.live = [(0, [0]), (1, [0, 3]), (2, [0, 3, 4]), (3, [0, 3, 4, 9]), (4, [0, 3, 4]), (5, [0, 3, 4]), (6, [2])] := rfl
@[simp] theorem hd45 : an45.head = [(3, [0, 3, 4])] := rfl
@[simp] theorem ar46 : an46.ar = [] := rfl
@[simp] theorem mv46 : an46.mv = [8, 19] := rfl
@[simp] theorem lv46 : an46.live = [(0, [0, 1]), (1, [0, 1, 5]), (2, [0, 1, 5, 9]), (3, [0, 1, 5]), (4, [0, 1, 5, 18]), (5, [4]), (6, [4])] := rfl
@[simp] theorem hd46 : an46.head = [(2, [0, 1, 5])] := rfl
@[simp] theorem ar47 : an47.ar = [] := rfl
@[simp] theorem mv47 : an47.mv = [14, 19] := rfl
@[simp] theorem lv47 : an47.live = [(0, [2, 3]), (1, [2, 3, 9]), (2, [4]), (3, [4])] := rfl
@[simp] theorem hd47 : an47.head = [] := rfl
@[simp] theorem ar48 : an48.ar = [] := rfl
@[simp] theorem mv48 : an48.mv = [7, 9, 13] := rfl
@[simp] theorem lv48 : an48.live = [(0, [0, 1]), (1, [0, 1, 10]), (2, [4]), (3, [0, 1, 5]), (4, [0, 1, 5, 14]), (5, [0, 1, 5]), (6, [0, 1, 5, 25]), (7, [4]), (8, [4])] := rfl
@[simp] theorem hd48 : an48.head = [(4, [0, 1, 5])] := rfl
@[simp] theorem ar49 : an49.ar = [] := rfl
@[simp] theorem mv49 : an49.mv = [7, 9, 13] := rfl
@[simp] theorem lv49 : an49.live = [(0, [0, 1]), (1, [0, 1, 10]), (2, [4]), (3, [0, 1, 5]), (4, [0, 1, 5, 14]), (5, [0, 1, 5]), (6, [0, 1, 5, 25]), (7, [4]), (8, [4])] := rfl
@[simp] theorem hd49 : an49.head = [(4, [0, 1, 5])] := rfl
@[simp] theorem ar50 : an50.ar = [] := rfl
@[simp] theorem mv50 : an50.mv = [30, 38, 44, 47, 53, 67] := rfl
@[simp] theorem lv50 : an50.live = [(0, [2, 3]), (1, [2, 3, 49]), (2, [4]), (3, [2, 3, 5]), (4, [2, 3, 5, 54]), (5, [2, 3, 5]), (6, [2, 3, 5, 68]), (7, [4]), (8, [4])] := rfl
@[simp] theorem hd50 : an50.head = [(4, [2, 3, 5])] := rfl
@[simp] theorem ar51 : an51.ar = [] := rfl
@[simp] theorem mv51 : an51.mv = [] := rfl
@[simp] theorem lv51 : an51.live = [(0, [1, 2, 3]), (1, [2, 3, 5]), (2, [])] := rfl
@[simp] theorem hd51 : an51.head = [] := rfl
@[simp] theorem ar52 : an52.ar = [] := rfl
@[simp] theorem mv52 : an52.mv = [5, 7, 8] := rfl
@[simp] theorem lv52 : an52.live = [(0, [0]), (1, [3]), (2, [3]), (3, [2])] := rfl
@[simp] theorem hd52 : an52.head = [] := rfl
@[simp] theorem ar53 : an53.ar = [] := rfl
@[simp] theorem mv53 : an53.mv = [3] := rfl
@[simp] theorem lv53 : an53.live = [(0, [1]), (1, [2])] := rfl
@[simp] theorem hd53 : an53.head = [] := rfl
@[simp] theorem ar54 : an54.ar = [] := rfl
@[simp] theorem mv54 : an54.mv = [7, 12, 13] := rfl
@[simp] theorem lv54 : an54.live = [(0, [1, 2]), (1, [4])] := rfl
@[simp] theorem hd54 : an54.head = [] := rfl
@[simp] theorem ar55 : an55.ar = [] := rfl
@[simp] theorem mv55 : an55.mv = [8] := rfl
@[simp] theorem lv55 : an55.live = [(0, [0]), (1, [2])] := rfl
@[simp] theorem hd55 : an55.head = [] := rfl
@[simp] theorem ar56 : an56.ar = [] := rfl
@[simp] theorem mv56 : an56.mv = [78, 84, 91, 98, 112, 119, 120] := rfl
@[simp] theorem lv56 : an56.live = [(0, [2, 3]), (1, [2, 3, 5]), (2, [2, 3, 5, 6]), (3, [2, 3, 5, 6, 7]), (4, [4])] := rfl
@[simp] theorem hd56 : an56.head = [] := rfl
@[simp] theorem ar57 : an57.ar = [] := rfl
@[simp] theorem mv57 : an57.mv = [18, 27, 43, 60] := rfl
@[simp] theorem lv57 : an57.live = [(0, [0, 1, 2, 6]), (1, [0, 1, 2, 6, 7, 8]), (2, [0, 1, 2, 6, 7, 8, 13]), (3, [0, 1, 2, 6, 8]), (4, [0, 1, 2, 6, 7, 8]), (5, [0, 1, 2, 6, 7, 8]), (6, [0, 1, 2, 6]), (7, [0, 1, 2, 6, 30]), (8, [0, 1, 2, 6, 7, 8]), (9, [0, 1, 2, 6, 7, 8, 35]), (10, [0, 1, 2, 6, 8]), (11, [0, 1, 2, 6, 7, 8]), (12, [0, 1, 2, 6, 7, 8]), (13, [0, 1, 2, 6, 7, 9]), (14, [0, 1, 2, 6, 7, 9, 54]), (15, [0, 1, 2, 6]), (16, [0, 1, 2, 6])] := rfl
@[simp] theorem hd57 : an57.head = [(9, [0, 1, 2, 6, 7, 8]), (7, [0, 1, 2, 6]), (2, [0, 1, 2, 6, 7, 8])] := rfl
@[simp] theorem ar58 : an58.ar = [] := rfl
@[simp] theorem mv58 : an58.mv = [5] := rfl
@[simp] theorem lv58 : an58.live = [(0, [0]), (1, [2])] := rfl
@[simp] theorem hd58 : an58.head = [] := rfl
@[simp] theorem ar59 : an59.ar = [] := rfl
@[simp] theorem mv59 : an59.mv = [7, 9, 13] := rfl
@[simp] theorem lv59 : an59.live = [(0, [0, 1]), (1, [0, 1, 10]), (2, [4]), (3, [0, 1, 5]), (4, [0, 1, 5, 14]), (5, [0, 1, 5]), (6, [0, 1, 5, 25]), (7, [4]), (8, [4])] := rfl
@[simp] theorem hd59 : an59.head = [(4, [0, 1, 5])] := rfl
@[simp] theorem ar60 : an60.ar = [] := rfl
@[simp] theorem mv60 : an60.mv = [4] := rfl
@[simp] theorem lv60 : an60.live = [(0, [0]), (1, [2])] := rfl
@[simp] theorem hd60 : an60.head = [] := rfl
@[simp] theorem ar61 : an61.ar = [] := rfl
@[simp] theorem mv61 : an61.mv = [4, 9, 10] := rfl
@[simp] theorem lv61 : an61.live = [(0, [0, 2]), (1, [])] := rfl
@[simp] theorem hd61 : an61.head = [] := rfl
@[simp] theorem ar62 : an62.ar = [] := rfl
@[simp] theorem mv62 : an62.mv = [12] := rfl
@[simp] theorem lv62 : an62.live = [(0, [0, 5]), (1, [0, 5, 7]), (2, [0, 3, 5]), (3, [0, 5, 13])] := rfl
@[simp] theorem hd62 : an62.head = [(1, [0, 5])] := rfl
@[simp] theorem ar63 : an63.ar = [] := rfl
@[simp] theorem mv63 : an63.mv = [12, 16, 36, 38] := rfl
@[simp] theorem lv63 : an63.live = [(0, [1, 2, 3]), (1, [1, 2, 3, 10]), (2, [6]), (3, [1, 2, 3, 7]), (4, [1, 2, 3, 7, 8]), (5, [1, 2, 3, 7, 8, 22]), (6, [1, 2, 3, 7, 8]), (7, [1, 2, 3, 7, 8]), (8, [6])] := rfl
@[simp] theorem hd63 : an63.head = [(5, [1, 2, 3, 7, 8])] := rfl
@[simp] theorem ar64 : an64.ar = [] := rfl
@[simp] theorem mv64 : an64.mv = [6, 11, 17, 23, 32] := rfl
@[simp] theorem lv64 : an64.live = [(0, [1]), (1, [1, 19]), (2, [2]), (3, [1, 3]), (4, [1, 3, 24]), (5, [1, 3]), (6, [1, 3, 33]), (7, [2]), (8, [2])] := rfl
@[simp] theorem hd64 : an64.head = [(4, [1, 3])] := rfl
@[simp] theorem ar65 : an65.ar = [] := rfl
@[simp] theorem mv65 : an65.mv = [7, 9, 12] := rfl
@[simp] theorem lv65 : an65.live = [(0, [0, 1]), (1, [0, 1, 10]), (2, [4]), (3, [0, 1, 12, 13]), (4, [0, 1, 12, 13, 14]), (5, [0, 1, 5, 12, 13]), (6, [0, 1, 12, 13, 24]), (7, [4]), (8, [0, 1, 12, 13]), (9, [4])] := rfl
@[simp] theorem hd65 : an65.head = [(4, [0, 1, 12, 13])] := rfl
@[simp] theorem ar66 : an66.ar = [] := rfl
@[simp] theorem mv66 : an66.mv = [7, 9, 12] := rfl
@[simp] theorem lv66 : an66.live = [(0, [0, 1]), (1, [0, 1, 10]), (2, [4]), (3, [0, 1, 12, 13]), (4, [0, 1, 12, 13, 14]), (5, [0, 1, 5, 12, 13]), (6, [0, 1, 12, 13, 24]), (7, [4]), (8, [0, 1, 12, 13]), (9, [4])] := rfl
@[simp] theorem hd66 : an66.head = [(4, [0, 1, 12, 13])] := rfl
@[simp] theorem ar67 : an67.ar = [] := rfl
@[simp] theorem mv67 : an67.mv = [29, 36, 43, 44] := rfl
@[simp] theorem lv67 : an67.live = [(0, [2, 3]), (1, [4])] := rfl
@[simp] theorem hd67 : an67.head = [] := rfl
@[simp] theorem ar68 : an68.ar = [] := rfl
@[simp] theorem mv68 : an68.mv = [11, 13, 16, 29] := rfl
@[simp] theorem lv68 : an68.live = [(0, [0, 1, 2]), (1, [0, 1, 2, 14]), (2, [6]), (3, [1, 2, 15, 16, 17]), (4, [1, 2, 15, 16, 17, 18]), (5, [1, 2, 7, 8, 15, 16, 17]), (6, [1, 2, 8, 9, 15, 16, 17]), (7, [1, 2, 15, 16, 17, 30]), (8, [6]), (9, [1, 2, 15, 16, 17]), (10, [6])] := rfl
@[simp] theorem hd68 : an68.head = [(4, [1, 2, 15, 16, 17])] := rfl
@[simp] theorem ar69 : an69.ar = [] := rfl
@[simp] theorem mv69 : an69.mv = [32] := rfl
@[simp] theorem lv69 : an69.live = [(0, [0, 1, 2, 3, 8]), (1, [0, 1, 2, 3, 8, 14]), (2, [0, 1, 2, 3, 8]), (3, [0, 1, 2, 3, 8, 9]), (4, [0, 1, 2, 3, 8, 9, 34]), (5, [0, 1, 2, 3, 8, 9]), (6, [0, 1, 2, 3, 8, 9])] := rfl
@[simp] theorem hd69 : an69.head = [(4, [0, 1, 2, 3, 8, 9]), (1, [0, 1, 2, 3, 8])] := rfl
@[simp] theorem ar70 : an70.ar = [] := rfl
@[simp] theorem mv70 : an70.mv = [49, 101, 169, 191, 205, 219] := rfl
@[simp] theorem lv70 : an70.live = [(0, [0, 1, 2, 3, 4, 28]), (1, [0, 1, 3, 4, 10]), (2, [0, 1, 4, 10, 11]), (3, [0, 1, 4, 10, 11, 33]), (4, [0, 1, 4, 10, 11, 12]), (5, [0, 1, 4, 10, 11, 12, 50]), (6, [0, 1, 4, 10, 11]), (7, [0, 1, 4, 10, 11]), (8, [0, 10, 13]), (9, [0, 10, 13, 58]), (10, [0, 10, 13]), (11, [0, 10, 13]), (12, [0, 1, 2, 3, 4, 80]), (13, [0, 2, 4, 14]), (14, [0, 2, 4, 14, 15]), (15, [0, 2, 4, 14, 15, 85]), (16, [0, 2, 4, 14, 15, 16]), (17, [0, 2, 4, 14, 15, 16, 103]), (18, [0, 2, 4, 14, 15]), (19, [0, 2, 4, 14, 15]), (20, [0, 14, 17]), (21, [0, 14, 17, 110]), (22, [0, 14, 17]), (23, [0, 14, 17]), (24, [0, 1, 2, 3, 4, 18]), (25, [0, 1, 2, 3, 4, 18, 19]), (26, [0, 1, 2, 3, 4, 18, 19]), (27, [0, 1, 2, 3, 4, 18, 19, 140]), (28, [0, 1, 2, 3, 4, 18, 19, 20]), (29, [0, 1, 2, 3, 4, 18, 19, 20, 21]), (30, [0, 1, 2, 3, 4, 18, 19, 20]), (31, [0, 1, 2, 3, 4, 18, 19, 20, 21]), (32, [0, 1, 2, 3, 4, 18, 19, 20, 21, 22]), (33, [0, 1, 2, 3, 4, 18, 19, 20, 21, 22, 151]), (34, [0, 1, 2, 3, 4, 18, 19, 20, 21, 22, 23]), (35, [0, 1, 2, 3, 4, 18, 19, 20, 21, 22, 23, 171]), (36, [0, 1, 2, 3, 4, 18, 19, 20, 21, 22]), (37, [0, 1, 2, 3, 4, 18, 19, 20, 21, 22]), (38, [0, 1, 2, 3, 4, 18, 20, 24]), (39, [0, 1, 2, 3, 4, 18, 20, 24, 185]), (40, [0, 1, 3, 4, 18, 20, 24]), (41, [0, 1, 3, 4, 18, 20, 24, 199]), (42, [0, 3, 4, 18, 24]), (43, [0, 3, 4, 18, 24, 213]), (44, [])] := rfl
@[simp] theorem hd70 : an70.head = [(33, [0, 1, 2, 3, 4, 18, 19, 20, 21, 22]), (21, [0, 14, 17]), (15, [0, 2, 4, 14, 15]), (9, [0, 10, 13]), (3, [0, 1, 4, 10, 11])] := rfl
@[simp] theorem ar71 : an71.ar = [] := rfl
@[simp] theorem mv71 : an71.mv = [8, 10, 11, 12] := rfl
@[simp] theorem lv71 : an71.live = [(0, [1, 2]), (1, [2]), (4, [4])] := rfl
@[simp] theorem hd71 : an71.head = [] := rfl
@[simp] theorem ar72 : an72.ar = [] := rfl
@[simp] theorem mv72 : an72.mv = [27, 33, 39, 46, 54, 72, 85, 92, 99, 121, 132] := rfl
@[simp] theorem lv72 : an72.live = [(0, [0, 1, 2, 3, 8]), (1, [0, 1, 2, 3, 8, 9]), (2, [0, 1, 2, 3, 8, 9, 10]), (3, [0, 1, 2, 3, 8, 9, 10, 23]), (4, []), (5, [0, 1, 2, 3, 8, 9, 10, 29]), (6, []), (7, [0, 1, 2, 3, 8, 9, 10, 35]), (8, [0, 1, 2, 3, 8, 9, 10]), (9, [0, 1, 2, 3, 8, 9, 10]), (10, [0, 1, 2, 3, 8, 9, 10, 11, 12]), (11, [0, 1, 2, 3, 8, 9, 10, 11, 12, 50]), (12, [0, 1, 2, 3, 8, 9, 10, 11]), (13, [0, 1, 2, 3, 8, 9, 10, 11]), (14, [0, 1, 2, 3, 8, 9, 10, 11, 12]), (15, [0, 1, 2, 3, 8, 9, 10, 11, 68]), (16, [0, 1, 2, 3, 8, 9, 10, 11, 72]), (17, [0, 1, 2, 3, 8, 9, 10, 11, 87]), (18, [0, 2, 3, 8, 9, 13]), (19, [0, 1, 2, 3, 8, 9]), (20, [0, 1, 2, 3, 10, 14, 15]), (21, [0, 1, 2, 3, 9, 10, 14]), (22, [0, 1, 2, 3, 9, 10, 14, 16, 17]), (23, [0, 1, 2, 3, 9, 14, 16, 17, 18]), (24, [0, 1, 2, 3, 9, 14, 16, 17, 18, 113]), (25, [0, 1, 2, 3, 8, 9, 14]), (26, [0, 2, 3, 8, 9, 14]), (27, [0, 1, 2, 3, 8, 9]), (28, [0, 1, 2, 3, 8, 9, 14]), (29, [0, 1, 3, 8, 9, 14]), (30, [0, 1, 2, 3, 8, 9])] := rfl
@[simp] theorem hd72 : an72.head = [(2, [0, 1, 2, 3, 8, 9])] := rfl
@[simp] theorem ar73 : an73.ar = [] := rfl
@[simp] theorem mv73 : an73.mv = [5, 7] := rfl
@[simp] theorem lv73 : an73.live = [(0, [0]), (1, [2]), (2, [2])] := rfl
@[simp] theorem hd73 : an73.head = [] := rfl
@[simp] theorem ar74 : an74.ar = [] := rfl
@[simp] theorem mv74 : an74.mv = [6, 15, 18, 19] := rfl
@[simp] theorem lv74 : an74.live = [(0, [0]), (1, [0, 3]), (2, [0, 3, 7]), (3, [0, 3]), (4, [0, 3, 16]), (5, [2]), (6, [2])] := rfl
@[simp] theorem hd74 : an74.head = [(2, [0, 3])] := rfl
@[simp] theorem ar75 : an75.ar = [] := rfl
@[simp] theorem mv75 : an75.mv = [7, 9, 12] := rfl
@[simp] theorem lv75 : an75.live = [(0, [0, 1]), (1, [0, 1, 10]), (2, [4]), (3, [0, 1, 12, 13]), (4, [0, 1, 12, 13, 14]), (5, [0, 1, 5, 12, 13]), (6, [0, 1, 12, 13, 24]), (7, [4]), (8, [0, 1, 12, 13]), (9, [4])] := rfl
@[simp] theorem hd75 : an75.head = [(4, [0, 1, 12, 13])] := rfl
@[simp] theorem ar76 : an76.ar = [] := rfl
@[simp] theorem mv76 : an76.mv = [11, 13, 16, 29] := rfl
@[simp] theorem lv76 : an76.live = [(0, [0, 1, 2]), (1, [0, 1, 2, 14]), (2, [6]), (3, [1, 2, 15, 16, 17]), (4, [1, 2, 15, 16, 17, 18]), (5, [1, 2, 7, 8, 15, 16, 17]), (6, [1, 2, 8, 9, 15, 16, 17]), (7, [1, 2, 15, 16, 17, 30]), (8, [6]), (9, [1, 2, 15, 16, 17]), (10, [6])] := rfl
@[simp] theorem hd76 : an76.head = [(4, [1, 2, 15, 16, 17])] := rfl
@[simp] theorem ar77 : an77.ar = [] := rfl
@[simp] theorem mv77 : an77.mv = [31, 46, 57] := rfl
@[simp] theorem lv77 : an77.live = [(0, [0, 2, 3, 4, 10]), (1, [0, 2, 4, 10, 11]), (2, [0, 2, 4, 10, 11, 20]), (3, [0, 2, 4, 10, 11, 23]), (4, [0, 2, 4, 10, 11]), (5, [0, 2, 4, 10, 11]), (6, [0, 2, 4, 10, 11]), (7, [0, 2, 4, 10, 11]), (8, [])] := rfl
@[simp] theorem hd77 : an77.head = [(2, [0, 2, 4, 10, 11])] := rfl
@[simp] theorem ar78 : an78.ar = [] := rfl
@[simp] theorem mv78 : an78.mv = [29] := rfl
@[simp] theorem lv78 : an78.live = [(0, [0, 1, 2, 6]), (1, [0, 1, 2, 6, 12]), (2, [0, 1, 2, 6]), (3, [0, 1, 2, 6, 7]), (4, [0, 1, 2, 6, 7, 30]), (5, [0, 1, 2, 6, 7]), (6, [0, 1, 2, 6, 7])] := rfl
@[simp] theorem hd78 : an78.head = [(4, [0, 1, 2, 6, 7]), (1, [0, 1, 2, 6])] := rfl
@[simp] theorem ar79 : an79.ar = [] := rfl
@[simp] theorem mv79 : an79.mv = [26, 55] := rfl
@[simp] theorem lv79 : an79.live = [(0, [0, 1, 2, 6]), (1, [0, 1, 2, 6, 7]), (2, [0, 6, 7, 8]), (3, [0, 6, 7, 8, 9]), (4, [0, 6, 7, 8, 9, 19]), (5, [0, 6, 7, 8, 9]), (6, [0, 6, 7, 8, 9]), (7, [0, 6, 7, 10]), (8, [0, 6, 7, 10, 30]), (9, [0, 6, 7, 10]), (10, [0, 6, 7, 10]), (11, [0, 6, 7, 10])] := rfl
@[simp] theorem hd79 : an79.head = [(8, [0, 6, 7, 10]), (4, [0, 6, 7, 8, 9])] := rfl
@[simp] theorem ar80 : an80.ar = [] := rfl
@[simp] theorem mv80 : an80.mv = [19, 36] := rfl
@[simp] theorem lv80 : an80.live = [(0, [0, 1, 6]), (1, [0, 1, 6, 15]), (2, [0, 1, 6, 7]), (3, [0, 1, 6, 7, 8]), (4, [0, 1, 6, 7, 8, 9]), (5, [0, 1, 6, 7, 8, 9, 33]), (6, [0, 1, 6, 7, 8, 9]), (7, [0, 1, 6, 7, 8, 9, 10]), (8, [0, 1, 6, 7, 8, 9, 10, 43]), (9, [0, 1, 6, 7, 8, 9, 10]), (10, [0, 1, 6, 7, 8, 9])] := rfl
@[simp] theorem hd80 : an80.head = [(5, [0, 1, 6, 7, 8, 9])] := rfl
@[simp] theorem ar81 : an81.ar = [] := rfl
@[simp] theorem mv81 : an81.mv = [37, 40, 43, 48, 50, 53, 56] := rfl
@[simp] theorem lv81 : an81.live = [(0, [0, 1, 2]), (1, [0, 1, 8]), (2, [0, 1, 8, 9]), (3, [0, 1, 8, 9, 10]), (4, [0, 1, 8, 9, 10, 11]), (5, [0, 8, 9, 10, 11, 12]), (6, [0, 8, 9, 10, 11, 12, 32]), (7, [0, 9, 10, 11, 12, 34]), (8, [0, 9, 10, 11, 12]), (9, [0, 9, 10, 11, 12]), (10, [0, 9, 10, 11, 12]), (11, [9, 11]), (12, [11, 49]), (13, [6, 7]), (14, [11, 49, 51]), (15, [6, 7]), (16, [11, 54]), (17, [6, 7])] := rfl
@[simp] theorem hd81 : an81.head = [] := rfl
@[simp] theorem ar82 : an82.ar = [] := rfl
@[simp] theorem mv82 : an82.mv = [] := rfl
@[simp] theorem lv82 : an82.live = [(0, [0, 2, 6]), (1, [0, 6, 7]), (2, [0, 6, 7, 13]), (3, [0, 6, 7]), (4, [0, 6, 7]), (5, [0, 6, 7])] := rfl
@[simp] theorem hd82 : an82.head = [(2, [0, 6, 7])] := rfl
@[simp] theorem ar83 : an83.ar = [] := rfl
@[simp] theorem mv83 : an83.mv = [30, 77, 115] := rfl
@[simp] theorem lv83 : an83.live = [(0, [0, 1, 2]), (1, [0, 1, 2, 7]), (2, [0, 1, 2, 7, 8]), (3, [0, 1, 2, 7, 8, 14]), (4, [0, 1, 2, 7, 8]), (5, [0, 1, 2, 7, 8, 32]), (6, [0, 1, 2, 7, 8]), (7, [0, 1, 2, 7, 8, 37]), (8, [6]), (9, [0, 1, 2, 7, 8, 41]), (10, [6]), (11, [0, 1, 2, 7, 8]), (12, [0, 1, 2, 7, 8, 61]), (13, [0, 1, 2, 7, 8, 9]), (14, [0, 1, 2, 7, 8, 9, 65]), (15, [0, 1, 2, 7, 8, 9]), (16, [0, 1, 2, 7, 8, 9, 78]), (17, [0, 1, 2, 7, 8, 9]), (18, [0, 1, 2, 7, 8, 98]), (19, [0, 1, 2, 7, 8, 10]), (20, [0, 1, 2, 7, 8, 10, 103]), (21, [0, 1, 2, 7, 8, 10]), (22, [0, 1, 2, 7, 8, 10, 116]), (23, [0, 1, 2, 7, 8, 10]), (24, [6])] := rfl
@[simp] theorem hd83 : an83.head = [(20, [0, 1, 2, 7, 8, 10]), (14, [0, 1, 2, 7, 8, 9]), (5, [0, 1, 2, 7, 8]), (3, [0, 1, 2, 7, 8])] := rfl
@[simp] theorem ar84 : an84.ar = [] := rfl
@[simp] theorem mv84 : an84.mv = [6, 9, 16] := rfl
@[simp] theorem lv84 : an84.live = [(0, [0, 1]), (1, [4])] := rfl
@[simp] theorem hd84 : an84.head = [] := rfl
@[simp] theorem ar85 : an85.ar = [] := rfl
@[simp] theorem mv85 : an85.mv = [41, 58, 83] := rfl
@[simp] theorem lv85 : an85.live = [(0, [0, 1, 2, 3]), (1, [0, 1, 2]), (2, [0, 1, 9, 10]), (3, [0, 1, 9, 10, 43]), (4, [0, 1, 9, 10]), (5, [0, 1, 9, 10, 59]), (6, [0, 1, 9, 10]), (7, [0, 1, 9, 10, 64]), (8, [0, 1, 9, 10]), (9, [0, 1, 9, 10]), (10, [0, 1, 9, 10]), (11, [8])] := rfl
@[simp] theorem hd85 : an85.head = [(5, [0, 1, 9, 10]), (3, [0, 1, 9, 10])] := rfl
@[simp] theorem ar86 : an86.ar = [] := rfl
@[simp] theorem mv86 : an86.mv = [42, 58, 80, 111, 127, 167] := rfl
@[simp] theorem lv86 : an86.live = [(0, [0, 1, 2, 3]), (1, [0, 1, 2]), (2, [0, 1, 10, 11]), (3, [0, 1, 10, 11, 43]), (4, [0, 1, 10, 11]), (5, [0, 1, 10, 11, 60]), (6, [0, 1, 10, 11]), (7, [0, 1, 10, 11, 65]), (8, [11]), (9, [8, 9]), (10, [0, 1, 10, 11]), (11, [0, 1, 10, 11]), (12, [0, 1, 10, 11]), (13, [0, 1, 10, 11, 112]), (14, [0, 1, 10, 11]), (15, [0, 1, 10, 11, 129]), (16, [0, 1, 10, 11]), (17, [0, 1, 10, 11, 134]), (18, [0, 1, 10, 11]), (19, [0, 1, 10, 11]), (20, [0, 1, 10, 11]), (21, [11]), (22, [8, 9])] := rfl
@[simp] theorem hd86 : an86.head = [(15, [0, 1, 10, 11]), (13, [0, 1, 10, 11]), (5, [0, 1, 10, 11]), (3, [0, 1, 10, 11])] := rfl
@[simp] theorem ar87 : an87.ar = [] := rfl
@[simp] theorem mv87 : an87.mv = [12, 18] := rfl
@[simp] theorem lv87 : an87.live = [(0, [0, 2]), (1, [0, 2, 4]), (2, [0]), (3, [0, 2]), (4, [0, 2, 8]), (5, [0, 2]), (6, [0, 2]), (7, [2])] := rfl
@[simp] theorem hd87 : an87.head = [] := rfl
@[simp] theorem ar88 : an88.ar = [] := rfl
@[simp] theorem mv88 : an88.mv = [12, 18, 24] := rfl
@[simp] theorem lv88 : an88.live = [(0, [0, 2]), (1, [0, 2, 4]), (2, [0]), (3, [0, 2]), (4, [0, 2, 8]), (5, [0, 2]), (6, [0, 2]), (7, [0, 2, 14]), (8, [0, 2]), (9, [0, 2]), (10, [2])] := rfl
@[simp] theorem hd88 : an88.head = [] := rfl
@[simp] theorem ar89 : an89.ar = [] := rfl
@[simp] theorem mv89 : an89.mv = [] := rfl
@[simp] theorem lv89 : an89.live = [(0, [0, 1, 2, 3, 10]), (1, [0, 1, 2, 3, 10, 13]), (2, [0, 1, 2, 3, 10]), (3, [0, 1, 2, 3, 10])] := rfl
@[simp] theorem hd89 : an89.head = [(1, [0, 1, 2, 3, 10])] := rfl
@[simp] theorem ar90 : an90.ar = [] := rfl
@[simp] theorem mv90 : an90.mv = [35, 51] := rfl
@[simp] theorem lv90 : an90.live = [(0, [0, 2, 3, 8]), (1, [0, 2, 3, 8, 9]), (2, [0, 2, 3, 8, 9, 16]), (3, [0, 2, 3, 8, 9, 36]), (4, [0, 2, 3, 8, 9]), (5, [0, 2, 3, 8, 9, 52]), (6, [0, 2, 3, 9]), (7, [0, 2, 3, 8])] := rfl
@[simp] theorem hd90 : an90.head = [(1, [0, 2, 3, 8])] := rfl
@[simp] theorem ar91 : an91.ar = [] := rfl
@[simp] theorem mv91 : an91.mv = [5, 6] := rfl
@[simp] theorem lv91 : an91.live = [(0, [0]), (1, [2])] := rfl
@[simp] theorem hd91 : an91.head = [] := rfl
@[simp] theorem ar92 : an92.ar = [] := rfl
@[simp] theorem mv92 : an92.mv = [32] := rfl
@[simp] theorem lv92 : an92.live = [(0, [0]), (1, [0]), (2, [0]), (3, [0]), (4, [2])] := rfl
@[simp] theorem hd92 : an92.head = [] := rfl
@[simp] theorem ar93 : an93.ar = [] := rfl
@[simp] theorem mv93 : an93.mv = [14] := rfl
@[simp] theorem lv93 : an93.live = [(0, [0, 1, 2]), (1, [6])] := rfl
@[simp] theorem hd93 : an93.head = [] := rfl
@[simp] theorem ar94 : an94.ar = [] := rfl
@[simp] theorem mv94 : an94.mv = [16, 24, 32, 35] := rfl
@[simp] theorem lv94 : an94.live = [(0, [0, 1, 2, 3, 4]), (1, [0, 1, 2, 3, 4]), (2, [0, 1, 2, 4]), (3, [2]), (4, [10])] := rfl
@[simp] theorem hd94 : an94.head = [] := rfl
@[simp] theorem ar95 : an95.ar = [] := rfl
@[simp] theorem mv95 : an95.mv = [18, 24, 25, 26, 27] := rfl
@[simp] theorem lv95 : an95.live = [(0, [0, 1, 2, 3]), (1, [1, 2, 3, 18]), (2, [1, 2]), (3, [8, 9]), (4, [8, 9])] := rfl
@[simp] theorem hd95 : an95.head = [] := rfl
end Go.Proofs.Ytlpilgnjlnepeaa.T
namespace Go.Proofs.Ytlpilgnjlnepeaa.T
open Go.VM Go.Proofs

/-! ### the data, typed -/
structure Step where (kind : Int) (label : ByteArray)
structure Id where (act item n : Int)
structure Mark where (act item at_ : Int)
structure Word where (text : ByteArray) (by_ : Mark)
structure Start where (kind day : Int) (event : ByteArray)
inductive Unit where | mk (id : Id) (kind : Int) (label : ByteArray) (head words : List Word) (kids : List Unit)
inductive Item where
  | mk (kind : Int) (at_ to_ : List Step) (where_ nth : Int) (unit : Unit) (old new : List ByteArray) (label for_ : ByteArray) (start : Start) (act item day : Int) (event : ByteArray) (by_ : List Item)
structure Act where (number : Int) (title : ByteArray) (day : Int) (start : Start) (items : List Item)
structure Gazette where (number day : Int) (prior : ByteArray) (acts : List Act)
structure EI where (act item day : Int) (it : Item)
namespace Unit
def id : Unit → Id | mk a _ _ _ _ _ => a
def kind : Unit → Int | mk _ a _ _ _ _ => a
def label : Unit → ByteArray | mk _ _ a _ _ _ => a
def head : Unit → List Word | mk _ _ _ a _ _ => a
def words : Unit → List Word | mk _ _ _ _ a _ => a
def kids : Unit → List Unit | mk _ _ _ _ _ a => a
end Unit
namespace Item
def kind : Item → Int | mk a _ _ _ _ _ _ _ _ _ _ _ _ _ _ _ => a
def at_ : Item → List Step | mk _ a _ _ _ _ _ _ _ _ _ _ _ _ _ _ => a
def to_ : Item → List Step | mk _ _ a _ _ _ _ _ _ _ _ _ _ _ _ _ => a
def where_ : Item → Int | mk _ _ _ a _ _ _ _ _ _ _ _ _ _ _ _ => a
def nth : Item → Int | mk _ _ _ _ a _ _ _ _ _ _ _ _ _ _ _ => a
def unit : Item → Unit | mk _ _ _ _ _ a _ _ _ _ _ _ _ _ _ _ => a
def old : Item → List ByteArray | mk _ _ _ _ _ _ a _ _ _ _ _ _ _ _ _ => a
def new : Item → List ByteArray | mk _ _ _ _ _ _ _ a _ _ _ _ _ _ _ _ => a
def label : Item → ByteArray | mk _ _ _ _ _ _ _ _ a _ _ _ _ _ _ _ => a
def for_ : Item → ByteArray | mk _ _ _ _ _ _ _ _ _ a _ _ _ _ _ _ => a
def start : Item → Start | mk _ _ _ _ _ _ _ _ _ _ a _ _ _ _ _ => a
def act : Item → Int | mk _ _ _ _ _ _ _ _ _ _ _ a _ _ _ _ => a
def item : Item → Int | mk _ _ _ _ _ _ _ _ _ _ _ _ a _ _ _ => a
def day : Item → Int | mk _ _ _ _ _ _ _ _ _ _ _ _ _ a _ _ => a
def event : Item → ByteArray | mk _ _ _ _ _ _ _ _ _ _ _ _ _ _ a _ => a
def by_ : Item → List Item | mk _ _ _ _ _ _ _ _ _ _ _ _ _ _ _ a => a
end Item
abbrev I (n : Int) : AV := .int .i64 n
def S {α : Type} (c : α → List AV) (xs : List α) : AV := .slc false (xs.map c)
def cStr (s : ByteArray) : List AV := [.str s]
def cInt (n : Int) : List AV := [I n]
def cStep (x : Step) : List AV := [I x.kind, .str x.label]
def cId (x : Id) : List AV := [I x.act, I x.item, I x.n]
def cMark (x : Mark) : List AV := [I x.act, I x.item, I x.at_]
def cWord (x : Word) : List AV := [.str x.text, I x.by_.act, I x.by_.item, I x.by_.at_]
def cStart (x : Start) : List AV := [I x.kind, I x.day, .str x.event]
mutual
def cUnit : Unit → List AV
  | .mk id kind label head words kids => [I id.act, I id.item, I id.n, I kind, .str label, S cWord head, S cWord words, .slc false (cUnits kids)]
def cUnits : List Unit → List (List AV)
  | [] => []
  | x :: xs => cUnit x :: cUnits xs
end
mutual
def cItem : Item → List AV
  | .mk kind at_ to_ wh nth u old new label for_ start act item day event by_ =>
    [I kind, S cStep at_, S cStep to_, I wh, I nth] ++ cUnit u ++ [S cStr old, S cStr new, .str label, .str for_, I start.kind, I start.day, .str start.event, I act, I item, I day, .str event, .slc false (cItems by_)]
def cItems : List Item → List (List AV)
  | [] => []
  | x :: xs => cItem x :: cItems xs
end
theorem cUnits_map (xs : List Unit) : cUnits xs = xs.map cUnit := by induction xs <;> simp_all [cUnits]
theorem cItems_map (xs : List Item) : cItems xs = xs.map cItem := by induction xs <;> simp_all [cItems]
def cAct (x : Act) : List AV := [I x.number, .str x.title, I x.day, I x.start.kind, I x.start.day, .str x.start.event, S cItem x.items]
def cGazette (x : Gazette) : List AV := [I x.number, I x.day, .str x.prior, S cAct x.acts]
def cEI (x : EI) : List AV := [I x.act, I x.item, I x.day] ++ cItem x.it
theorem cUnit_eq (u : Unit) : cUnit u = [I u.id.act, I u.id.item, I u.id.n, I u.kind, .str u.label, S cWord u.head, S cWord u.words, S cUnit u.kids] := by
  cases u; simp [cUnit, cUnits_map, S, Unit.id, Unit.kind, Unit.label, Unit.head, Unit.words, Unit.kids]
theorem cItem_eq (x : Item) : cItem x = [I x.kind, S cStep x.at_, S cStep x.to_, I x.where_, I x.nth, I x.unit.id.act, I x.unit.id.item, I x.unit.id.n, I x.unit.kind, .str x.unit.label, S cWord x.unit.head, S cWord x.unit.words, S cUnit x.unit.kids,
    S cStr x.old, S cStr x.new, .str x.label, .str x.for_, I x.start.kind, I x.start.day, .str x.start.event, I x.act, I x.item, I x.day, .str x.event, S cItem x.by_] := by
  cases x; simp [cItem, cUnit_eq, cItems_map, S, Item.kind, Item.at_, Item.to_, Item.where_, Item.nth, Item.unit, Item.old, Item.new, Item.label, Item.for_, Item.start, Item.act, Item.item, Item.day, Item.event, Item.by_]
@[simp] theorem len_cUnit (u : Unit) : (cUnit u).length = 8 := by simp [cUnit_eq]
@[simp] theorem len_cItem (x : Item) : (cItem x).length = 25 := by simp [cItem_eq]
@[simp] theorem len_cAct (x : Act) : (cAct x).length = 7 := rfl
@[simp] theorem len_cGazette (x : Gazette) : (cGazette x).length = 4 := rfl
@[simp] theorem len_cEI (x : EI) : (cEI x).length = 28 := by simp [cEI, len_cItem]
theorem cEI_eq (x : EI) : cEI x = I x.act :: I x.item :: I x.day :: cItem x.it := rfl
/-! reading a field -/
theorem rd {t : TypeId} {cs : List AV} {off : Nat} {v : AV} (h : aggOf Try.prog t = some false) (hv : (cs[off]?).map AV.strip = some v) : readCells Try.prog t cs off = some v := by
  unfold readCells; rw [h]; exact hv
theorem rdA {t : TypeId} {cs ds : List AV} {off : Nat} (h : aggOf Try.prog t = some true) (hl : off + szOf Try.prog t ≤ cs.length) (hv : (cs.extract off (off + szOf Try.prog t)).map AV.strip = ds) : readCells Try.prog t cs off = some (.agg ds) := by
  unfold readCells; rw [h]; simp only [hl, if_true, hv]
end Go.Proofs.Ytlpilgnjlnepeaa.T
namespace Go.Proofs.Ytlpilgnjlnepeaa.T
open Go.VM Go.Proofs
@[simp] theorem len_cStep (x : Step) : (cStep x).length = 2 := rfl
@[simp] theorem len_cId (x : Id) : (cId x).length = 3 := rfl
@[simp] theorem len_cMark (x : Mark) : (cMark x).length = 3 := rfl
@[simp] theorem len_cWord (x : Word) : (cWord x).length = 4 := rfl
@[simp] theorem len_cStart (x : Start) : (cStart x).length = 3 := rfl
@[simp] theorem r71_0_71 (x : Step) : readCells Try.prog 71 (cStep x) 0 = some (.agg (cStep x)) := rdA ag71 (by rw [sz71, len_cStep]; decide) (by rw [sz71]; skip; rfl)
@[simp] theorem r71_0_3 (x : Step) : readCells Try.prog 3 (cStep x) 0 = some (I x.kind) := rd ag3 (by skip; rfl)
@[simp] theorem r71_1_9 (x : Step) : readCells Try.prog 9 (cStep x) 1 = some (.str x.label) := rd ag9 (by skip; rfl)
@[simp] theorem r32_0_32 (x : Id) : readCells Try.prog 32 (cId x) 0 = some (.agg (cId x)) := rdA ag32 (by rw [sz32, len_cId]; decide) (by rw [sz32]; skip; rfl)
@[simp] theorem r32_0_3 (x : Id) : readCells Try.prog 3 (cId x) 0 = some (I x.act) := rd ag3 (by skip; rfl)
@[simp] theorem r32_1_3 (x : Id) : readCells Try.prog 3 (cId x) 1 = some (I x.item) := rd ag3 (by skip; rfl)
@[simp] theorem r32_2_3 (x : Id) : readCells Try.prog 3 (cId x) 2 = some (I x.n) := rd ag3 (by skip; rfl)
@[simp] theorem r110_0_110 (x : Mark) : readCells Try.prog 110 (cMark x) 0 = some (.agg (cMark x)) := rdA ag110 (by rw [sz110, len_cMark]; decide) (by rw [sz110]; skip; rfl)
@[simp] theorem r110_0_3 (x : Mark) : readCells Try.prog 3 (cMark x) 0 = some (I x.act) := rd ag3 (by skip; rfl)
@[simp] theorem r110_1_3 (x : Mark) : readCells Try.prog 3 (cMark x) 1 = some (I x.item) := rd ag3 (by skip; rfl)
@[simp] theorem r110_2_3 (x : Mark) : readCells Try.prog 3 (cMark x) 2 = some (I x.at_) := rd ag3 (by skip; rfl)
@[simp] theorem r112_0_112 (x : Word) : readCells Try.prog 112 (cWord x) 0 = some (.agg (cWord x)) := rdA ag112 (by rw [sz112, len_cWord]; decide) (by rw [sz112]; skip; rfl)
@[simp] theorem r112_0_9 (x : Word) : readCells Try.prog 9 (cWord x) 0 = some (.str x.text) := rd ag9 (by skip; rfl)
@[simp] theorem r112_1_110 (x : Word) : readCells Try.prog 110 (cWord x) 1 = some (.agg (cMark x.by_)) := rdA ag110 (by rw [sz110, len_cWord]; decide) (by rw [sz110]; skip; rfl)
@[simp] theorem r112_1_3 (x : Word) : readCells Try.prog 3 (cWord x) 1 = some (I x.by_.act) := rd ag3 (by skip; rfl)
@[simp] theorem r112_2_3 (x : Word) : readCells Try.prog 3 (cWord x) 2 = some (I x.by_.item) := rd ag3 (by skip; rfl)
@[simp] theorem r112_3_3 (x : Word) : readCells Try.prog 3 (cWord x) 3 = some (I x.by_.at_) := rd ag3 (by skip; rfl)
@[simp] theorem r39_0_39 (x : Start) : readCells Try.prog 39 (cStart x) 0 = some (.agg (cStart x)) := rdA ag39 (by rw [sz39, len_cStart]; decide) (by rw [sz39]; skip; rfl)
@[simp] theorem r39_0_3 (x : Start) : readCells Try.prog 3 (cStart x) 0 = some (I x.kind) := rd ag3 (by skip; rfl)
@[simp] theorem r39_1_3 (x : Start) : readCells Try.prog 3 (cStart x) 1 = some (I x.day) := rd ag3 (by skip; rfl)
@[simp] theorem r39_2_9 (x : Start) : readCells Try.prog 9 (cStart x) 2 = some (.str x.event) := rd ag9 (by skip; rfl)
@[simp] theorem r36_0_36 (x : Unit) : readCells Try.prog 36 (cUnit x) 0 = some (.agg (cUnit x)) := rdA ag36 (by rw [sz36, len_cUnit]; decide) (by rw [sz36]; rw [cUnit_eq]; rfl)
@[simp] theorem r36_0_32 (x : Unit) : readCells Try.prog 32 (cUnit x) 0 = some (.agg (cId x.id)) := rdA ag32 (by rw [sz32, len_cUnit]; decide) (by rw [sz32]; rw [cUnit_eq]; rfl)
@[simp] theorem r36_0_3 (x : Unit) : readCells Try.prog 3 (cUnit x) 0 = some (I x.id.act) := rd ag3 (by rw [cUnit_eq]; rfl)
@[simp] theorem r36_1_3 (x : Unit) : readCells Try.prog 3 (cUnit x) 1 = some (I x.id.item) := rd ag3 (by rw [cUnit_eq]; rfl)
@[simp] theorem r36_2_3 (x : Unit) : readCells Try.prog 3 (cUnit x) 2 = some (I x.id.n) := rd ag3 (by rw [cUnit_eq]; rfl)
@[simp] theorem r36_3_3 (x : Unit) : readCells Try.prog 3 (cUnit x) 3 = some (I x.kind) := rd ag3 (by rw [cUnit_eq]; rfl)
@[simp] theorem r36_4_9 (x : Unit) : readCells Try.prog 9 (cUnit x) 4 = some (.str x.label) := rd ag9 (by rw [cUnit_eq]; rfl)
@[simp] theorem r36_5_33 (x : Unit) : readCells Try.prog 33 (cUnit x) 5 = some (S cWord x.head) := rd ag33 (by rw [cUnit_eq]; rfl)
@[simp] theorem r36_6_33 (x : Unit) : readCells Try.prog 33 (cUnit x) 6 = some (S cWord x.words) := rd ag33 (by rw [cUnit_eq]; rfl)
@[simp] theorem r36_7_34 (x : Unit) : readCells Try.prog 34 (cUnit x) 7 = some (S cUnit x.kids) := rd ag34 (by rw [cUnit_eq]; rfl)
@[simp] theorem r42_0_42 (x : Item) : readCells Try.prog 42 (cItem x) 0 = some (.agg (cItem x)) := rdA ag42 (by rw [sz42, len_cItem]; decide) (by rw [sz42]; rw [cItem_eq]; rfl)
@[simp] theorem r42_0_3 (x : Item) : readCells Try.prog 3 (cItem x) 0 = some (I x.kind) := rd ag3 (by rw [cItem_eq]; rfl)
@[simp] theorem r42_1_30 (x : Item) : readCells Try.prog 30 (cItem x) 1 = some (S cStep x.at_) := rd ag30 (by rw [cItem_eq]; rfl)
@[simp] theorem r42_2_30 (x : Item) : readCells Try.prog 30 (cItem x) 2 = some (S cStep x.to_) := rd ag30 (by rw [cItem_eq]; rfl)
@[simp] theorem r42_3_3 (x : Item) : readCells Try.prog 3 (cItem x) 3 = some (I x.where_) := rd ag3 (by rw [cItem_eq]; rfl)
@[simp] theorem r42_4_3 (x : Item) : readCells Try.prog 3 (cItem x) 4 = some (I x.nth) := rd ag3 (by rw [cItem_eq]; rfl)
@[simp] theorem r42_5_36 (x : Item) : readCells Try.prog 36 (cItem x) 5 = some (.agg (cUnit x.unit)) := rdA ag36 (by rw [sz36, len_cItem]; decide) (by rw [sz36]; rw [cItem_eq]; rw [cUnit_eq]; rfl)
@[simp] theorem r42_5_32 (x : Item) : readCells Try.prog 32 (cItem x) 5 = some (.agg (cId x.unit.id)) := rdA ag32 (by rw [sz32, len_cItem]; decide) (by rw [sz32]; rw [cItem_eq]; rfl)
@[simp] theorem r42_5_3 (x : Item) : readCells Try.prog 3 (cItem x) 5 = some (I x.unit.id.act) := rd ag3 (by rw [cItem_eq]; rfl)
@[simp] theorem r42_6_3 (x : Item) : readCells Try.prog 3 (cItem x) 6 = some (I x.unit.id.item) := rd ag3 (by rw [cItem_eq]; rfl)
@[simp] theorem r42_7_3 (x : Item) : readCells Try.prog 3 (cItem x) 7 = some (I x.unit.id.n) := rd ag3 (by rw [cItem_eq]; rfl)
@[simp] theorem r42_8_3 (x : Item) : readCells Try.prog 3 (cItem x) 8 = some (I x.unit.kind) := rd ag3 (by rw [cItem_eq]; rfl)
@[simp] theorem r42_9_9 (x : Item) : readCells Try.prog 9 (cItem x) 9 = some (.str x.unit.label) := rd ag9 (by rw [cItem_eq]; rfl)
@[simp] theorem r42_10_33 (x : Item) : readCells Try.prog 33 (cItem x) 10 = some (S cWord x.unit.head) := rd ag33 (by rw [cItem_eq]; rfl)
@[simp] theorem r42_11_33 (x : Item) : readCells Try.prog 33 (cItem x) 11 = some (S cWord x.unit.words) := rd ag33 (by rw [cItem_eq]; rfl)
@[simp] theorem r42_12_34 (x : Item) : readCells Try.prog 34 (cItem x) 12 = some (S cUnit x.unit.kids) := rd ag34 (by rw [cItem_eq]; rfl)
@[simp] theorem r42_13_37 (x : Item) : readCells Try.prog 37 (cItem x) 13 = some (S cStr x.old) := rd ag37 (by rw [cItem_eq]; rfl)
@[simp] theorem r42_14_37 (x : Item) : readCells Try.prog 37 (cItem x) 14 = some (S cStr x.new) := rd ag37 (by rw [cItem_eq]; rfl)
@[simp] theorem r42_15_9 (x : Item) : readCells Try.prog 9 (cItem x) 15 = some (.str x.label) := rd ag9 (by rw [cItem_eq]; rfl)
@[simp] theorem r42_16_9 (x : Item) : readCells Try.prog 9 (cItem x) 16 = some (.str x.for_) := rd ag9 (by rw [cItem_eq]; rfl)
@[simp] theorem r42_17_39 (x : Item) : readCells Try.prog 39 (cItem x) 17 = some (.agg (cStart x.start)) := rdA ag39 (by rw [sz39, len_cItem]; decide) (by rw [sz39]; rw [cItem_eq]; rfl)
@[simp] theorem r42_17_3 (x : Item) : readCells Try.prog 3 (cItem x) 17 = some (I x.start.kind) := rd ag3 (by rw [cItem_eq]; rfl)
@[simp] theorem r42_18_3 (x : Item) : readCells Try.prog 3 (cItem x) 18 = some (I x.start.day) := rd ag3 (by rw [cItem_eq]; rfl)
@[simp] theorem r42_19_9 (x : Item) : readCells Try.prog 9 (cItem x) 19 = some (.str x.start.event) := rd ag9 (by rw [cItem_eq]; rfl)
@[simp] theorem r42_20_3 (x : Item) : readCells Try.prog 3 (cItem x) 20 = some (I x.act) := rd ag3 (by rw [cItem_eq]; rfl)
@[simp] theorem r42_21_3 (x : Item) : readCells Try.prog 3 (cItem x) 21 = some (I x.item) := rd ag3 (by rw [cItem_eq]; rfl)
@[simp] theorem r42_22_3 (x : Item) : readCells Try.prog 3 (cItem x) 22 = some (I x.day) := rd ag3 (by rw [cItem_eq]; rfl)
@[simp] theorem r42_23_9 (x : Item) : readCells Try.prog 9 (cItem x) 23 = some (.str x.event) := rd ag9 (by rw [cItem_eq]; rfl)
@[simp] theorem r42_24_40 (x : Item) : readCells Try.prog 40 (cItem x) 24 = some (S cItem x.by_) := rd ag40 (by rw [cItem_eq]; rfl)
@[simp] theorem r57_0_57 (x : Act) : readCells Try.prog 57 (cAct x) 0 = some (.agg (cAct x)) := rdA ag57 (by rw [sz57, len_cAct]; decide) (by rw [sz57]; skip; rfl)
@[simp] theorem r57_0_3 (x : Act) : readCells Try.prog 3 (cAct x) 0 = some (I x.number) := rd ag3 (by skip; rfl)
@[simp] theorem r57_1_9 (x : Act) : readCells Try.prog 9 (cAct x) 1 = some (.str x.title) := rd ag9 (by skip; rfl)
@[simp] theorem r57_2_3 (x : Act) : readCells Try.prog 3 (cAct x) 2 = some (I x.day) := rd ag3 (by skip; rfl)
@[simp] theorem r57_3_39 (x : Act) : readCells Try.prog 39 (cAct x) 3 = some (.agg (cStart x.start)) := rdA ag39 (by rw [sz39, len_cAct]; decide) (by rw [sz39]; skip; rfl)
@[simp] theorem r57_3_3 (x : Act) : readCells Try.prog 3 (cAct x) 3 = some (I x.start.kind) := rd ag3 (by skip; rfl)
@[simp] theorem r57_4_3 (x : Act) : readCells Try.prog 3 (cAct x) 4 = some (I x.start.day) := rd ag3 (by skip; rfl)
@[simp] theorem r57_5_9 (x : Act) : readCells Try.prog 9 (cAct x) 5 = some (.str x.start.event) := rd ag9 (by skip; rfl)
@[simp] theorem r57_6_40 (x : Act) : readCells Try.prog 40 (cAct x) 6 = some (S cItem x.items) := rd ag40 (by skip; rfl)
@[simp] theorem r60_0_60 (x : Gazette) : readCells Try.prog 60 (cGazette x) 0 = some (.agg (cGazette x)) := rdA ag60 (by rw [sz60, len_cGazette]; decide) (by rw [sz60]; skip; rfl)
@[simp] theorem r60_0_3 (x : Gazette) : readCells Try.prog 3 (cGazette x) 0 = some (I x.number) := rd ag3 (by skip; rfl)
@[simp] theorem r60_1_3 (x : Gazette) : readCells Try.prog 3 (cGazette x) 1 = some (I x.day) := rd ag3 (by skip; rfl)
@[simp] theorem r60_2_9 (x : Gazette) : readCells Try.prog 9 (cGazette x) 2 = some (.str x.prior) := rd ag9 (by skip; rfl)
@[simp] theorem r60_3_54 (x : Gazette) : readCells Try.prog 54 (cGazette x) 3 = some (S cAct x.acts) := rd ag54 (by skip; rfl)
@[simp] theorem r44_0_44 (x : EI) : readCells Try.prog 44 (cEI x) 0 = some (.agg (cEI x)) := rdA ag44 (by rw [sz44, len_cEI]; decide) (by rw [sz44]; rw [cEI_eq]; rw [cItem_eq]; rfl)
@[simp] theorem r44_0_3 (x : EI) : readCells Try.prog 3 (cEI x) 0 = some (I x.act) := rd ag3 (by rw [cEI_eq]; rw [cItem_eq]; rfl)
@[simp] theorem r44_1_3 (x : EI) : readCells Try.prog 3 (cEI x) 1 = some (I x.item) := rd ag3 (by rw [cEI_eq]; rw [cItem_eq]; rfl)
@[simp] theorem r44_2_3 (x : EI) : readCells Try.prog 3 (cEI x) 2 = some (I x.day) := rd ag3 (by rw [cEI_eq]; rw [cItem_eq]; rfl)
@[simp] theorem r44_3_42 (x : EI) : readCells Try.prog 42 (cEI x) 3 = some (.agg (cItem x.it)) := rdA ag42 (by rw [sz42, len_cEI]; decide) (by rw [sz42]; rw [cEI_eq]; rw [cItem_eq]; rfl)
@[simp] theorem r44_3_3 (x : EI) : readCells Try.prog 3 (cEI x) 3 = some (I x.it.kind) := rd ag3 (by rw [cEI_eq]; rw [cItem_eq]; rfl)
@[simp] theorem r44_4_30 (x : EI) : readCells Try.prog 30 (cEI x) 4 = some (S cStep x.it.at_) := rd ag30 (by rw [cEI_eq]; rw [cItem_eq]; rfl)
@[simp] theorem r44_5_30 (x : EI) : readCells Try.prog 30 (cEI x) 5 = some (S cStep x.it.to_) := rd ag30 (by rw [cEI_eq]; rw [cItem_eq]; rfl)
@[simp] theorem r44_6_3 (x : EI) : readCells Try.prog 3 (cEI x) 6 = some (I x.it.where_) := rd ag3 (by rw [cEI_eq]; rw [cItem_eq]; rfl)
@[simp] theorem r44_7_3 (x : EI) : readCells Try.prog 3 (cEI x) 7 = some (I x.it.nth) := rd ag3 (by rw [cEI_eq]; rw [cItem_eq]; rfl)
@[simp] theorem r44_8_36 (x : EI) : readCells Try.prog 36 (cEI x) 8 = some (.agg (cUnit x.it.unit)) := rdA ag36 (by rw [sz36, len_cEI]; decide) (by rw [sz36]; rw [cEI_eq]; rw [cItem_eq]; rw [cUnit_eq]; rfl)
@[simp] theorem r44_8_32 (x : EI) : readCells Try.prog 32 (cEI x) 8 = some (.agg (cId x.it.unit.id)) := rdA ag32 (by rw [sz32, len_cEI]; decide) (by rw [sz32]; rw [cEI_eq]; rw [cItem_eq]; rfl)
@[simp] theorem r44_8_3 (x : EI) : readCells Try.prog 3 (cEI x) 8 = some (I x.it.unit.id.act) := rd ag3 (by rw [cEI_eq]; rw [cItem_eq]; rfl)
@[simp] theorem r44_9_3 (x : EI) : readCells Try.prog 3 (cEI x) 9 = some (I x.it.unit.id.item) := rd ag3 (by rw [cEI_eq]; rw [cItem_eq]; rfl)
@[simp] theorem r44_10_3 (x : EI) : readCells Try.prog 3 (cEI x) 10 = some (I x.it.unit.id.n) := rd ag3 (by rw [cEI_eq]; rw [cItem_eq]; rfl)
@[simp] theorem r44_11_3 (x : EI) : readCells Try.prog 3 (cEI x) 11 = some (I x.it.unit.kind) := rd ag3 (by rw [cEI_eq]; rw [cItem_eq]; rfl)
@[simp] theorem r44_12_9 (x : EI) : readCells Try.prog 9 (cEI x) 12 = some (.str x.it.unit.label) := rd ag9 (by rw [cEI_eq]; rw [cItem_eq]; rfl)
@[simp] theorem r44_13_33 (x : EI) : readCells Try.prog 33 (cEI x) 13 = some (S cWord x.it.unit.head) := rd ag33 (by rw [cEI_eq]; rw [cItem_eq]; rfl)
@[simp] theorem r44_14_33 (x : EI) : readCells Try.prog 33 (cEI x) 14 = some (S cWord x.it.unit.words) := rd ag33 (by rw [cEI_eq]; rw [cItem_eq]; rfl)
@[simp] theorem r44_15_34 (x : EI) : readCells Try.prog 34 (cEI x) 15 = some (S cUnit x.it.unit.kids) := rd ag34 (by rw [cEI_eq]; rw [cItem_eq]; rfl)
@[simp] theorem r44_16_37 (x : EI) : readCells Try.prog 37 (cEI x) 16 = some (S cStr x.it.old) := rd ag37 (by rw [cEI_eq]; rw [cItem_eq]; rfl)
@[simp] theorem r44_17_37 (x : EI) : readCells Try.prog 37 (cEI x) 17 = some (S cStr x.it.new) := rd ag37 (by rw [cEI_eq]; rw [cItem_eq]; rfl)
@[simp] theorem r44_18_9 (x : EI) : readCells Try.prog 9 (cEI x) 18 = some (.str x.it.label) := rd ag9 (by rw [cEI_eq]; rw [cItem_eq]; rfl)
@[simp] theorem r44_19_9 (x : EI) : readCells Try.prog 9 (cEI x) 19 = some (.str x.it.for_) := rd ag9 (by rw [cEI_eq]; rw [cItem_eq]; rfl)
@[simp] theorem r44_20_39 (x : EI) : readCells Try.prog 39 (cEI x) 20 = some (.agg (cStart x.it.start)) := rdA ag39 (by rw [sz39, len_cEI]; decide) (by rw [sz39]; rw [cEI_eq]; rw [cItem_eq]; rfl)
@[simp] theorem r44_20_3 (x : EI) : readCells Try.prog 3 (cEI x) 20 = some (I x.it.start.kind) := rd ag3 (by rw [cEI_eq]; rw [cItem_eq]; rfl)
@[simp] theorem r44_21_3 (x : EI) : readCells Try.prog 3 (cEI x) 21 = some (I x.it.start.day) := rd ag3 (by rw [cEI_eq]; rw [cItem_eq]; rfl)
@[simp] theorem r44_22_9 (x : EI) : readCells Try.prog 9 (cEI x) 22 = some (.str x.it.start.event) := rd ag9 (by rw [cEI_eq]; rw [cItem_eq]; rfl)
@[simp] theorem r44_23_3 (x : EI) : readCells Try.prog 3 (cEI x) 23 = some (I x.it.act) := rd ag3 (by rw [cEI_eq]; rw [cItem_eq]; rfl)
@[simp] theorem r44_24_3 (x : EI) : readCells Try.prog 3 (cEI x) 24 = some (I x.it.item) := rd ag3 (by rw [cEI_eq]; rw [cItem_eq]; rfl)
@[simp] theorem r44_25_3 (x : EI) : readCells Try.prog 3 (cEI x) 25 = some (I x.it.day) := rd ag3 (by rw [cEI_eq]; rw [cItem_eq]; rfl)
@[simp] theorem r44_26_9 (x : EI) : readCells Try.prog 9 (cEI x) 26 = some (.str x.it.event) := rd ag9 (by rw [cEI_eq]; rw [cItem_eq]; rfl)
@[simp] theorem r44_27_40 (x : EI) : readCells Try.prog 40 (cEI x) 27 = some (S cItem x.it.by_) := rd ag40 (by rw [cEI_eq]; rw [cItem_eq]; rfl)
end Go.Proofs.Ytlpilgnjlnepeaa.T
namespace Go.Proofs.Ytlpilgnjlnepeaa.T
open Go.VM Go.Proofs
variable {p : Nat → Bool}
theorem clo_S {α : Type} {c : α → List AV} (h : ∀ x, cloL p (c x) = true) (xs : List α) : clo p (S c xs) = true := by
  simp only [S, clo]
  induction xs with
  | nil => rfl
  | cons x xs ih => simp [cloLL, h x, ih]
@[simp] theorem g_cStr (x : ByteArray) : cloL p (cStr x) = true := rfl
@[simp] theorem g_cInt (x : Int) : cloL p (cInt x) = true := rfl
@[simp] theorem g_cStep (x : Step) : cloL p (cStep x) = true := rfl
@[simp] theorem g_cId (x : Id) : cloL p (cId x) = true := rfl
@[simp] theorem g_cMark (x : Mark) : cloL p (cMark x) = true := rfl
@[simp] theorem g_cWord (x : Word) : cloL p (cWord x) = true := rfl
@[simp] theorem g_cStart (x : Start) : cloL p (cStart x) = true := rfl
mutual
@[simp] theorem g_cUnit : ∀ (x : Unit), cloL p (cUnit x) = true
  | .mk id kind label head words kids => by
    have h1 := clo_S (p := p) g_cWord head
    have h2 := clo_S (p := p) g_cWord words
    simp [cUnit, cloL, clo, h1, h2, g_cUnits kids]
@[simp] theorem g_cUnits : ∀ (xs : List Unit), cloLL p (cUnits xs) = true
  | [] => rfl
  | x :: xs => by simp [cUnits, cloLL, g_cUnit x, g_cUnits xs]
end
theorem cloL_app (xs ys : List AV) : cloL p (xs ++ ys) = (cloL p xs && cloL p ys) := cloL_append xs ys
mutual
@[simp] theorem g_cItem : ∀ (x : Item), cloL p (cItem x) = true
  | .mk kind at_ to_ wh nth u old new label for_ start act item day event by_ => by
    have h1 := clo_S (p := p) g_cStep at_
    have h2 := clo_S (p := p) g_cStep to_
    have h3 := clo_S (p := p) g_cStr old
    have h4 := clo_S (p := p) g_cStr new
    simp [cItem, cloL_app, cloL, clo, h1, h2, h3, h4, g_cUnit u, g_cItems by_]
@[simp] theorem g_cItems : ∀ (xs : List Item), cloLL p (cItems xs) = true
  | [] => rfl
  | x :: xs => by simp [cItems, cloLL, g_cItem x, g_cItems xs]
end
@[simp] theorem g_cAct (x : Act) : cloL p (cAct x) = true := by simp [cAct, cloL, clo, clo_S g_cItem]
@[simp] theorem g_cGazette (x : Gazette) : cloL p (cGazette x) = true := by simp [cGazette, cloL, clo, clo_S g_cAct]
@[simp] theorem g_cEI (x : EI) : cloL p (cEI x) = true := by simp [cEI, cloL, clo, g_cItem]
@[simp] theorem s_cStr (xs : List ByteArray) : clo p (S cStr xs) = true := clo_S g_cStr xs
@[simp] theorem s_cInt (xs : List Int) : clo p (S cInt xs) = true := clo_S g_cInt xs
@[simp] theorem s_cStep (xs : List Step) : clo p (S cStep xs) = true := clo_S g_cStep xs
@[simp] theorem s_cWord (xs : List Word) : clo p (S cWord xs) = true := clo_S g_cWord xs
@[simp] theorem s_cUnit (xs : List Unit) : clo p (S cUnit xs) = true := clo_S g_cUnit xs
@[simp] theorem s_cItem (xs : List Item) : clo p (S cItem xs) = true := clo_S g_cItem xs
@[simp] theorem s_cAct (xs : List Act) : clo p (S cAct xs) = true := clo_S g_cAct xs
@[simp] theorem s_cGazette (xs : List Gazette) : clo p (S cGazette xs) = true := clo_S g_cGazette xs
@[simp] theorem s_cEI (xs : List EI) : clo p (S cEI xs) = true := clo_S g_cEI xs
theorem cloLL_map {α : Type} {c : α → List AV} (h : ∀ x, cloL p (c x) = true) (xs : List α) : cloLL p (xs.map c) = true := by
  induction xs with
  | nil => rfl
  | cons x xs ih => simp [cloLL, h x, ih]
@[simp] theorem gl_cStr (xs : List ByteArray) : cloLL p (xs.map cStr) = true := cloLL_map g_cStr xs
@[simp] theorem gl_cInt (xs : List Int) : cloLL p (xs.map cInt) = true := cloLL_map g_cInt xs
@[simp] theorem gl_cStep (xs : List Step) : cloLL p (xs.map cStep) = true := cloLL_map g_cStep xs
@[simp] theorem gl_cId (xs : List Id) : cloLL p (xs.map cId) = true := cloLL_map g_cId xs
@[simp] theorem gl_cMark (xs : List Mark) : cloLL p (xs.map cMark) = true := cloLL_map g_cMark xs
@[simp] theorem gl_cWord (xs : List Word) : cloLL p (xs.map cWord) = true := cloLL_map g_cWord xs
@[simp] theorem gl_cStart (xs : List Start) : cloLL p (xs.map cStart) = true := cloLL_map g_cStart xs
@[simp] theorem gl_cUnit (xs : List Unit) : cloLL p (xs.map cUnit) = true := cloLL_map g_cUnit xs
@[simp] theorem gl_cItem (xs : List Item) : cloLL p (xs.map cItem) = true := cloLL_map g_cItem xs
@[simp] theorem gl_cAct (xs : List Act) : cloLL p (xs.map cAct) = true := cloLL_map g_cAct xs
@[simp] theorem gl_cGazette (xs : List Gazette) : cloLL p (xs.map cGazette) = true := cloLL_map g_cGazette xs
@[simp] theorem gl_cEI (xs : List EI) : cloLL p (xs.map cEI) = true := cloLL_map g_cEI xs
end Go.Proofs.Ytlpilgnjlnepeaa.T
namespace Go.Proofs.Ytlpilgnjlnepeaa.T
open Go.VM Go.Proofs
set_option linter.unusedSimpArgs false
theorem int_beq (a b : Int) : (a == b) = decide (a = b) := by by_cases h : a = b <;> simp [h]
theorem int_bne (a b : Int) : (a != b) = !decide (a = b) := by simp [bne, int_beq]
@[simp] theorem fit71 (x : Step) : fitCells Try.prog 71 (.agg (cStep x)) = some (cStep x) := by simp [fitCells, AV.cells, cStep, sz71, AV.strip, AV.one, S]
@[simp] theorem fit112 (x : Word) : fitCells Try.prog 112 (.agg (cWord x)) = some (cWord x) := by simp [fitCells, AV.cells, cWord, sz112, AV.strip, AV.one, S]
@[simp] theorem fit39 (x : Start) : fitCells Try.prog 39 (.agg (cStart x)) = some (cStart x) := by simp [fitCells, AV.cells, cStart, sz39, AV.strip, AV.one, S]
@[simp] theorem fit36 (x : Unit) : fitCells Try.prog 36 (.agg (cUnit x)) = some (cUnit x) := by rw [cUnit_eq]; simp [fitCells, AV.cells, sz36, AV.strip, AV.one, S]
@[simp] theorem fit42 (x : Item) : fitCells Try.prog 42 (.agg (cItem x)) = some (cItem x) := by rw [cItem_eq]; simp [fitCells, AV.cells, sz42, AV.strip, AV.one, S]
@[simp] theorem fit57 (x : Act) : fitCells Try.prog 57 (.agg (cAct x)) = some (cAct x) := by simp [fitCells, AV.cells, cAct, sz57, AV.strip, AV.one, S]
@[simp] theorem fit60 (x : Gazette) : fitCells Try.prog 60 (.agg (cGazette x)) = some (cGazette x) := by simp [fitCells, AV.cells, cGazette, sz60, AV.strip, AV.one, S]
@[simp] theorem fit44 (x : EI) : fitCells Try.prog 44 (.agg (cEI x)) = some (cEI x) := by rw [cEI_eq, cItem_eq]; simp [fitCells, AV.cells, sz44, AV.strip, AV.one, S]
end Go.Proofs.Ytlpilgnjlnepeaa.T
namespace Go.Proofs.Ytlpilgnjlnepeaa.T
open Go.VM Go.Proofs
@[simp] theorem eqt3 : eqTy Try.prog 3 = some [.i .i64] := by kernel_rfl
@[simp] theorem eqt4 : eqTy Try.prog 4 = some [.b] := by kernel_rfl
@[simp] theorem eqt9 : eqTy Try.prog 9 = some [.s] := by kernel_rfl
@[simp] theorem eqt32 : eqTy Try.prog 32 = some [.i .i64, .i .i64, .i .i64] := by kernel_rfl
@[simp] theorem eqt39 : eqTy Try.prog 39 = some [.i .i64, .i .i64, .s] := by kernel_rfl
@[simp] theorem eqt71 : eqTy Try.prog 71 = some [.i .i64, .s] := by kernel_rfl
@[simp] theorem eqt112 : eqTy Try.prog 112 = some [.s, .i .i64, .i .i64, .i .i64] := by kernel_rfl
@[simp] theorem eqt77 : eqTy Try.prog 77 = some [.i .i64, .i .i64] := by kernel_rfl
@[simp] theorem zv3 : zvOf Try.prog 3 = some (.int .i64 0) := by kernel_rfl
@[simp] theorem zv4 : zvOf Try.prog 4 = some (.bool false) := by kernel_rfl
end Go.Proofs.Ytlpilgnjlnepeaa.T
