/- Facts over the types and functions of this seat's program. -/
import Derived.Test.YtngbibpmaofamaaProg
import Derived.Test.YtngbibpmaofamaaMb
import Derived.KernelRfl
set_option linter.all false
set_option linter.unusedSimpArgs false
set_option linter.unusedVariables false
-- AbT
namespace Go.Proofs.Ytngbibpmaofamaa.Ab
open Go

@[simp] theorem c2 : Try.prog.cellsOf 2 = 1 := by kernel_rfl
@[simp] theorem b2 : Try.prog.bytesOf 2 = 8 := by kernel_rfl
@[simp] theorem i2 : (Try.prog.info? 2).isSome = true := by kernel_rfl
@[simp] theorem z2 : azero Try.prog 2 = some (.int .i64 0) := by kernel_rfl
@[simp] theorem c3 : Try.prog.cellsOf 3 = 1 := by kernel_rfl
@[simp] theorem b3 : Try.prog.bytesOf 3 = 8 := by kernel_rfl
@[simp] theorem i3 : (Try.prog.info? 3).isSome = true := by kernel_rfl
@[simp] theorem z3 : azero Try.prog 3 = some (.int .i64 0) := by kernel_rfl
@[simp] theorem c4 : Try.prog.cellsOf 4 = 1 := by kernel_rfl
@[simp] theorem b4 : Try.prog.bytesOf 4 = 1 := by kernel_rfl
@[simp] theorem i4 : (Try.prog.info? 4).isSome = true := by kernel_rfl
@[simp] theorem z4 : azero Try.prog 4 = some (.bool false) := by kernel_rfl
@[simp] theorem c5 : Try.prog.cellsOf 5 = 1 := by kernel_rfl
@[simp] theorem b5 : Try.prog.bytesOf 5 = 1 := by kernel_rfl
@[simp] theorem i5 : (Try.prog.info? 5).isSome = true := by kernel_rfl
@[simp] theorem z5 : azero Try.prog 5 = some (.int .u8 0) := by kernel_rfl
@[simp] theorem c6 : Try.prog.cellsOf 6 = 1 := by kernel_rfl
@[simp] theorem b6 : Try.prog.bytesOf 6 = 1 := by kernel_rfl
@[simp] theorem i6 : (Try.prog.info? 6).isSome = true := by kernel_rfl
@[simp] theorem z6 : azero Try.prog 6 = some (.int .u8 0) := by kernel_rfl
@[simp] theorem c7 : Try.prog.cellsOf 7 = 4 := by kernel_rfl
@[simp] theorem b7 : Try.prog.bytesOf 7 = 24 := by kernel_rfl
@[simp] theorem i7 : (Try.prog.info? 7).isSome = true := by kernel_rfl
@[simp] theorem z7 : azero Try.prog 7 = some (.agg [.int .i64 0, .int .i64 0, .bool false, .int .u8 0]) := by kernel_rfl
@[simp] theorem c8 : Try.prog.cellsOf 8 = 4 := by kernel_rfl
@[simp] theorem b8 : Try.prog.bytesOf 8 = 24 := by kernel_rfl
@[simp] theorem i8 : (Try.prog.info? 8).isSome = true := by kernel_rfl
@[simp] theorem z8 : azero Try.prog 8 = some (.agg [.int .i64 0, .int .i64 0, .bool false, .int .u8 0]) := by kernel_rfl
@[simp] theorem c9 : Try.prog.cellsOf 9 = 1 := by kernel_rfl
@[simp] theorem b9 : Try.prog.bytesOf 9 = 16 := by kernel_rfl
@[simp] theorem i9 : (Try.prog.info? 9).isSome = true := by kernel_rfl
@[simp] theorem z9 : azero Try.prog 9 = some (.str ⟨#[]⟩) := by kernel_rfl
@[simp] theorem c10 : Try.prog.cellsOf 10 = 1 := by kernel_rfl
@[simp] theorem b10 : Try.prog.bytesOf 10 = 16 := by kernel_rfl
@[simp] theorem i10 : (Try.prog.info? 10).isSome = true := by kernel_rfl
@[simp] theorem z10 : azero Try.prog 10 = some (.str ⟨#[]⟩) := by kernel_rfl
@[simp] theorem c11 : Try.prog.cellsOf 11 = 1 := by kernel_rfl
@[simp] theorem b11 : Try.prog.bytesOf 11 = 16 := by kernel_rfl
@[simp] theorem i11 : (Try.prog.info? 11).isSome = true := by kernel_rfl
@[simp] theorem z11 : azero Try.prog 11 = some (.str ⟨#[]⟩) := by kernel_rfl
@[simp] theorem c12 : Try.prog.cellsOf 12 = 1 := by kernel_rfl
@[simp] theorem b12 : Try.prog.bytesOf 12 = 8 := by kernel_rfl
@[simp] theorem i12 : (Try.prog.info? 12).isSome = true := by kernel_rfl
@[simp] theorem z12 : azero Try.prog 12 = some (.int .u64 0) := by kernel_rfl
@[simp] theorem c13 : Try.prog.cellsOf 13 = 2 := by kernel_rfl
@[simp] theorem b13 : Try.prog.bytesOf 13 = 24 := by kernel_rfl
@[simp] theorem i13 : (Try.prog.info? 13).isSome = true := by kernel_rfl
@[simp] theorem z13 : azero Try.prog 13 = some (.agg [.str ⟨#[]⟩, .int .u64 0]) := by kernel_rfl
@[simp] theorem c14 : Try.prog.cellsOf 14 = 2 := by kernel_rfl
@[simp] theorem b14 : Try.prog.bytesOf 14 = 24 := by kernel_rfl
@[simp] theorem i14 : (Try.prog.info? 14).isSome = true := by kernel_rfl
@[simp] theorem z14 : azero Try.prog 14 = some (.agg [.str ⟨#[]⟩, .int .u64 0]) := by kernel_rfl
@[simp] theorem c15 : Try.prog.cellsOf 15 = 1 := by kernel_rfl
@[simp] theorem b15 : Try.prog.bytesOf 15 = 8 := by kernel_rfl
@[simp] theorem i15 : (Try.prog.info? 15).isSome = true := by kernel_rfl
@[simp] theorem z15 : azero Try.prog 15 = some (.nilp) := by kernel_rfl
@[simp] theorem c16 : Try.prog.cellsOf 16 = 1 := by kernel_rfl
@[simp] theorem b16 : Try.prog.bytesOf 16 = 8 := by kernel_rfl
@[simp] theorem i16 : (Try.prog.info? 16).isSome = true := by kernel_rfl
@[simp] theorem z16 : azero Try.prog 16 = some (.nilp) := by kernel_rfl
@[simp] theorem c17 : Try.prog.cellsOf 17 = 1 := by kernel_rfl
@[simp] theorem b17 : Try.prog.bytesOf 17 = 8 := by kernel_rfl
@[simp] theorem i17 : (Try.prog.info? 17).isSome = true := by kernel_rfl
@[simp] theorem z17 : azero Try.prog 17 = some (.nilp) := by kernel_rfl
@[simp] theorem c18 : Try.prog.cellsOf 18 = 1 := by kernel_rfl
@[simp] theorem b18 : Try.prog.bytesOf 18 = 8 := by kernel_rfl
@[simp] theorem i18 : (Try.prog.info? 18).isSome = true := by kernel_rfl
@[simp] theorem z18 : azero Try.prog 18 = some (.agg [.nilp]) := by kernel_rfl
@[simp] theorem c19 : Try.prog.cellsOf 19 = 1 := by kernel_rfl
@[simp] theorem b19 : Try.prog.bytesOf 19 = 8 := by kernel_rfl
@[simp] theorem i19 : (Try.prog.info? 19).isSome = true := by kernel_rfl
@[simp] theorem z19 : azero Try.prog 19 = some (.agg [.nilp]) := by kernel_rfl
@[simp] theorem c21 : Try.prog.cellsOf 21 = 1 := by kernel_rfl
@[simp] theorem b21 : Try.prog.bytesOf 21 = 4 := by kernel_rfl
@[simp] theorem i21 : (Try.prog.info? 21).isSome = true := by kernel_rfl
@[simp] theorem z21 : azero Try.prog 21 = some (.int .i32 0) := by kernel_rfl
@[simp] theorem c22 : Try.prog.cellsOf 22 = 1 := by kernel_rfl
@[simp] theorem b22 : Try.prog.bytesOf 22 = 24 := by kernel_rfl
@[simp] theorem i22 : (Try.prog.info? 22).isSome = true := by kernel_rfl
@[simp] theorem z22 : azero Try.prog 22 = some (.nils) := by kernel_rfl
@[simp] theorem c24 : Try.prog.cellsOf 24 = 2 := by kernel_rfl
@[simp] theorem b24 : Try.prog.bytesOf 24 = 16 := by kernel_rfl
@[simp] theorem i24 : (Try.prog.info? 24).isSome = true := by kernel_rfl
@[simp] theorem z24 : azero Try.prog 24 = some (.agg [.int .i64 0, .int .i64 0]) := by kernel_rfl
@[simp] theorem h24 : Try.prog.stoodInHeld 24 = false := by kernel_rfl
@[simp] theorem g24 : Try.prog.eqGuardType Try.prog.depth 24 = false := by kernel_rfl
@[simp] theorem c25 : Try.prog.cellsOf 25 = 2 := by kernel_rfl
@[simp] theorem b25 : Try.prog.bytesOf 25 = 16 := by kernel_rfl
@[simp] theorem i25 : (Try.prog.info? 25).isSome = true := by kernel_rfl
@[simp] theorem z25 : azero Try.prog 25 = some (.agg [.int .i64 0, .int .i64 0]) := by kernel_rfl
@[simp] theorem h25 : Try.prog.stoodInHeld 25 = false := by kernel_rfl
@[simp] theorem g25 : Try.prog.eqGuardType Try.prog.depth 25 = false := by kernel_rfl
@[simp] theorem c26 : Try.prog.cellsOf 26 = 1 := by kernel_rfl
@[simp] theorem b26 : Try.prog.bytesOf 26 = 24 := by kernel_rfl
@[simp] theorem i26 : (Try.prog.info? 26).isSome = true := by kernel_rfl
@[simp] theorem z26 : azero Try.prog 26 = some (.nils) := by kernel_rfl
@[simp] theorem c27 : Try.prog.cellsOf 27 = 1 := by kernel_rfl
@[simp] theorem b27 : Try.prog.bytesOf 27 = 8 := by kernel_rfl
@[simp] theorem i27 : (Try.prog.info? 27).isSome = true := by kernel_rfl
@[simp] theorem z27 : azero Try.prog 27 = some (.int .i64 0) := by kernel_rfl
@[simp] theorem c33 : Try.prog.cellsOf 33 = 3 := by kernel_rfl
@[simp] theorem b33 : Try.prog.bytesOf 33 = 24 := by kernel_rfl
@[simp] theorem i33 : (Try.prog.info? 33).isSome = true := by kernel_rfl
@[simp] theorem z33 : azero Try.prog 33 = some (.agg [.int .i64 0, .int .i64 0, .int .i64 0]) := by kernel_rfl
@[simp] theorem g33 : Try.prog.eqGuardType Try.prog.depth 33 = false := by kernel_rfl
@[simp] theorem c35 : Try.prog.cellsOf 35 = 1 := by kernel_rfl
@[simp] theorem b35 : Try.prog.bytesOf 35 = 24 := by kernel_rfl
@[simp] theorem i35 : (Try.prog.info? 35).isSome = true := by kernel_rfl
@[simp] theorem z35 : azero Try.prog 35 = some (.nils) := by kernel_rfl
@[simp] theorem c36 : Try.prog.cellsOf 36 = 22 := by kernel_rfl
@[simp] theorem b36 : Try.prog.bytesOf 36 = 216 := by kernel_rfl
@[simp] theorem i36 : (Try.prog.info? 36).isSome = true := by kernel_rfl
@[simp] theorem z36 : azero Try.prog 36 = some (.agg [.str ⟨#[]⟩, .int .i64 0, .int .i64 0, .int .i64 0, .nils, .int .i64 0, .int .i64 0, .int .i64 0, .int .i64 0, .int .i64 0, .int .i64 0, .int .i64 0, .int .i64 0, .int .i64 0, .int .i64 0, .int .i64 0, .int .i64 0, .int .i64 0, .nils, .int .i64 0, .int .i64 0, .int .i64 0]) := by kernel_rfl
@[simp] theorem h36 : Try.prog.stoodInHeld 36 = false := by kernel_rfl
@[simp] theorem g36 : Try.prog.eqGuardType Try.prog.depth 36 = false := by kernel_rfl
@[simp] theorem c37 : Try.prog.cellsOf 37 = 22 := by kernel_rfl
@[simp] theorem b37 : Try.prog.bytesOf 37 = 216 := by kernel_rfl
@[simp] theorem i37 : (Try.prog.info? 37).isSome = true := by kernel_rfl
@[simp] theorem z37 : azero Try.prog 37 = some (.agg [.str ⟨#[]⟩, .int .i64 0, .int .i64 0, .int .i64 0, .nils, .int .i64 0, .int .i64 0, .int .i64 0, .int .i64 0, .int .i64 0, .int .i64 0, .int .i64 0, .int .i64 0, .int .i64 0, .int .i64 0, .int .i64 0, .int .i64 0, .int .i64 0, .nils, .int .i64 0, .int .i64 0, .int .i64 0]) := by kernel_rfl
@[simp] theorem h37 : Try.prog.stoodInHeld 37 = false := by kernel_rfl
@[simp] theorem g37 : Try.prog.eqGuardType Try.prog.depth 37 = false := by kernel_rfl
@[simp] theorem c38 : Try.prog.cellsOf 38 = 1 := by kernel_rfl
@[simp] theorem b38 : Try.prog.bytesOf 38 = 24 := by kernel_rfl
@[simp] theorem i38 : (Try.prog.info? 38).isSome = true := by kernel_rfl
@[simp] theorem z38 : azero Try.prog 38 = some (.nils) := by kernel_rfl
@[simp] theorem c39 : Try.prog.cellsOf 39 = 1 := by kernel_rfl
@[simp] theorem b39 : Try.prog.bytesOf 39 = 24 := by kernel_rfl
@[simp] theorem i39 : (Try.prog.info? 39).isSome = true := by kernel_rfl
@[simp] theorem z39 : azero Try.prog 39 = some (.nils) := by kernel_rfl
@[simp] theorem c45 : Try.prog.cellsOf 45 = 2 := by kernel_rfl
@[simp] theorem b45 : Try.prog.bytesOf 45 = 16 := by kernel_rfl
@[simp] theorem i45 : (Try.prog.info? 45).isSome = true := by kernel_rfl
@[simp] theorem z45 : azero Try.prog 45 = some (.agg [.int .i64 0, .int .i64 0]) := by kernel_rfl
@[simp] theorem h45 : Try.prog.stoodInHeld 45 = false := by kernel_rfl
@[simp] theorem g45 : Try.prog.eqGuardType Try.prog.depth 45 = false := by kernel_rfl
@[simp] theorem c46 : Try.prog.cellsOf 46 = 2 := by kernel_rfl
@[simp] theorem b46 : Try.prog.bytesOf 46 = 16 := by kernel_rfl
@[simp] theorem i46 : (Try.prog.info? 46).isSome = true := by kernel_rfl
@[simp] theorem z46 : azero Try.prog 46 = some (.agg [.int .i64 0, .int .i64 0]) := by kernel_rfl
@[simp] theorem h46 : Try.prog.stoodInHeld 46 = false := by kernel_rfl
@[simp] theorem g46 : Try.prog.eqGuardType Try.prog.depth 46 = false := by kernel_rfl
@[simp] theorem c47 : Try.prog.cellsOf 47 = 6 := by kernel_rfl
@[simp] theorem b47 : Try.prog.bytesOf 47 = 48 := by kernel_rfl
@[simp] theorem i47 : (Try.prog.info? 47).isSome = true := by kernel_rfl
@[simp] theorem z47 : azero Try.prog 47 = some (.agg [.int .i64 0, .int .i64 0, .int .i64 0, .int .i64 0, .int .i64 0, .int .i64 0]) := by kernel_rfl
@[simp] theorem h47 : Try.prog.stoodInHeld 47 = false := by kernel_rfl
@[simp] theorem g47 : Try.prog.eqGuardType Try.prog.depth 47 = false := by kernel_rfl
@[simp] theorem c48 : Try.prog.cellsOf 48 = 6 := by kernel_rfl
@[simp] theorem b48 : Try.prog.bytesOf 48 = 48 := by kernel_rfl
@[simp] theorem i48 : (Try.prog.info? 48).isSome = true := by kernel_rfl
@[simp] theorem z48 : azero Try.prog 48 = some (.agg [.int .i64 0, .int .i64 0, .int .i64 0, .int .i64 0, .int .i64 0, .int .i64 0]) := by kernel_rfl
@[simp] theorem h48 : Try.prog.stoodInHeld 48 = false := by kernel_rfl
@[simp] theorem g48 : Try.prog.eqGuardType Try.prog.depth 48 = false := by kernel_rfl
@[simp] theorem c58 : Try.prog.cellsOf 58 = 1 := by kernel_rfl
@[simp] theorem b58 : Try.prog.bytesOf 58 = 8 := by kernel_rfl
@[simp] theorem i58 : (Try.prog.info? 58).isSome = true := by kernel_rfl
@[simp] theorem z58 : azero Try.prog 58 = some (.int .u64 0) := by kernel_rfl
@[simp] theorem c62 : Try.prog.cellsOf 62 = 1 := by kernel_rfl
@[simp] theorem b62 : Try.prog.bytesOf 62 = 24 := by kernel_rfl
@[simp] theorem i62 : (Try.prog.info? 62).isSome = true := by kernel_rfl
@[simp] theorem z62 : azero Try.prog 62 = some (.nils) := by kernel_rfl
@[simp] theorem c63 : Try.prog.cellsOf 63 = 1 := by kernel_rfl
@[simp] theorem b63 : Try.prog.bytesOf 63 = 24 := by kernel_rfl
@[simp] theorem i63 : (Try.prog.info? 63).isSome = true := by kernel_rfl
@[simp] theorem z63 : azero Try.prog 63 = some (.nils) := by kernel_rfl
@[simp] theorem c64 : Try.prog.cellsOf 64 = 1 := by kernel_rfl
@[simp] theorem b64 : Try.prog.bytesOf 64 = 24 := by kernel_rfl
@[simp] theorem i64 : (Try.prog.info? 64).isSome = true := by kernel_rfl
@[simp] theorem z64 : azero Try.prog 64 = some (.nils) := by kernel_rfl
@[simp] theorem c65 : Try.prog.cellsOf 65 = 2 := by kernel_rfl
@[simp] theorem b65 : Try.prog.bytesOf 65 = 32 := by kernel_rfl
@[simp] theorem i65 : (Try.prog.info? 65).isSome = true := by kernel_rfl
@[simp] theorem z65 : azero Try.prog 65 = some (.agg [.bool false, .nils]) := by kernel_rfl
@[simp] theorem h65 : Try.prog.stoodInHeld 65 = false := by kernel_rfl
@[simp] theorem g65 : Try.prog.eqGuardType Try.prog.depth 65 = false := by kernel_rfl
@[simp] theorem c66 : Try.prog.cellsOf 66 = 2 := by kernel_rfl
@[simp] theorem b66 : Try.prog.bytesOf 66 = 32 := by kernel_rfl
@[simp] theorem i66 : (Try.prog.info? 66).isSome = true := by kernel_rfl
@[simp] theorem z66 : azero Try.prog 66 = some (.agg [.bool false, .nils]) := by kernel_rfl
@[simp] theorem h66 : Try.prog.stoodInHeld 66 = false := by kernel_rfl
@[simp] theorem g66 : Try.prog.eqGuardType Try.prog.depth 66 = false := by kernel_rfl
@[simp] theorem c67 : Try.prog.cellsOf 67 = 3 := by kernel_rfl
@[simp] theorem b67 : Try.prog.bytesOf 67 = 56 := by kernel_rfl
@[simp] theorem i67 : (Try.prog.info? 67).isSome = true := by kernel_rfl
@[simp] theorem z67 : azero Try.prog 67 = some (.agg [.bool false, .nils, .nils]) := by kernel_rfl
@[simp] theorem h67 : Try.prog.stoodInHeld 67 = false := by kernel_rfl
@[simp] theorem g67 : Try.prog.eqGuardType Try.prog.depth 67 = false := by kernel_rfl
@[simp] theorem c68 : Try.prog.cellsOf 68 = 3 := by kernel_rfl
@[simp] theorem b68 : Try.prog.bytesOf 68 = 56 := by kernel_rfl
@[simp] theorem i68 : (Try.prog.info? 68).isSome = true := by kernel_rfl
@[simp] theorem z68 : azero Try.prog 68 = some (.agg [.bool false, .nils, .nils]) := by kernel_rfl
@[simp] theorem h68 : Try.prog.stoodInHeld 68 = false := by kernel_rfl
@[simp] theorem g68 : Try.prog.eqGuardType Try.prog.depth 68 = false := by kernel_rfl
@[simp] theorem c74 : Try.prog.cellsOf 74 = 1 := by kernel_rfl
@[simp] theorem b74 : Try.prog.bytesOf 74 = 24 := by kernel_rfl
@[simp] theorem i74 : (Try.prog.info? 74).isSome = true := by kernel_rfl
@[simp] theorem z74 : azero Try.prog 74 = some (.nils) := by kernel_rfl
@[simp] theorem c77 : Try.prog.cellsOf 77 = 1 := by kernel_rfl
@[simp] theorem b77 : Try.prog.bytesOf 77 = 24 := by kernel_rfl
@[simp] theorem i77 : (Try.prog.info? 77).isSome = true := by kernel_rfl
@[simp] theorem z77 : azero Try.prog 77 = some (.nils) := by kernel_rfl
@[simp] theorem c90 : Try.prog.cellsOf 90 = 1 := by kernel_rfl
@[simp] theorem b90 : Try.prog.bytesOf 90 = 8 := by kernel_rfl
@[simp] theorem i90 : (Try.prog.info? 90).isSome = true := by kernel_rfl
@[simp] theorem z90 : azero Try.prog 90 = some (.nilm) := by kernel_rfl
@[simp] theorem c91 : Try.prog.cellsOf 91 = 1 := by kernel_rfl
@[simp] theorem b91 : Try.prog.bytesOf 91 = 24 := by kernel_rfl
@[simp] theorem i91 : (Try.prog.info? 91).isSome = true := by kernel_rfl
@[simp] theorem z91 : azero Try.prog 91 = some (.nils) := by kernel_rfl
@[simp] theorem c92 : Try.prog.cellsOf 92 = 5 := by kernel_rfl
@[simp] theorem b92 : Try.prog.bytesOf 92 = 40 := by kernel_rfl
@[simp] theorem i92 : (Try.prog.info? 92).isSome = true := by kernel_rfl
@[simp] theorem z92 : azero Try.prog 92 = some (.agg [.int .i64 0, .int .i64 0, .int .i64 0, .int .i64 0, .int .i64 0]) := by kernel_rfl
@[simp] theorem h92 : Try.prog.stoodInHeld 92 = false := by kernel_rfl
@[simp] theorem g92 : Try.prog.eqGuardType Try.prog.depth 92 = false := by kernel_rfl
@[simp] theorem c93 : Try.prog.cellsOf 93 = 5 := by kernel_rfl
@[simp] theorem b93 : Try.prog.bytesOf 93 = 40 := by kernel_rfl
@[simp] theorem i93 : (Try.prog.info? 93).isSome = true := by kernel_rfl
@[simp] theorem z93 : azero Try.prog 93 = some (.agg [.int .i64 0, .int .i64 0, .int .i64 0, .int .i64 0, .int .i64 0]) := by kernel_rfl
@[simp] theorem h93 : Try.prog.stoodInHeld 93 = false := by kernel_rfl
@[simp] theorem g93 : Try.prog.eqGuardType Try.prog.depth 93 = false := by kernel_rfl
@[simp] theorem c100 : Try.prog.cellsOf 100 = 1 := by kernel_rfl
@[simp] theorem b100 : Try.prog.bytesOf 100 = 8 := by kernel_rfl
@[simp] theorem i100 : (Try.prog.info? 100).isSome = true := by kernel_rfl
@[simp] theorem z100 : azero Try.prog 100 = some (.int .u64 0) := by kernel_rfl
@[simp] theorem c102 : Try.prog.cellsOf 102 = 1 := by kernel_rfl
@[simp] theorem b102 : Try.prog.bytesOf 102 = 4 := by kernel_rfl
@[simp] theorem i102 : (Try.prog.info? 102).isSome = true := by kernel_rfl
@[simp] theorem z102 : azero Try.prog 102 = some (.int .u32 0) := by kernel_rfl
@[simp] theorem c126 : Try.prog.cellsOf 126 = 1 := by kernel_rfl
@[simp] theorem b126 : Try.prog.bytesOf 126 = 8 := by kernel_rfl
@[simp] theorem i126 : (Try.prog.info? 126).isSome = true := by kernel_rfl
@[simp] theorem z126 : azero Try.prog 126 = some (.int .i64 0) := by kernel_rfl
@[simp] theorem c158 : Try.prog.cellsOf 158 = 1 := by kernel_rfl
@[simp] theorem b158 : Try.prog.bytesOf 158 = 8 := by kernel_rfl
@[simp] theorem i158 : (Try.prog.info? 158).isSome = true := by kernel_rfl
@[simp] theorem z158 : azero Try.prog 158 = some (.int .u64 0) := by kernel_rfl
@[simp] theorem c162 : Try.prog.cellsOf 162 = 1 := by kernel_rfl
@[simp] theorem b162 : Try.prog.bytesOf 162 = 8 := by kernel_rfl
@[simp] theorem i162 : (Try.prog.info? 162).isSome = true := by kernel_rfl
@[simp] theorem z162 : azero Try.prog 162 = some (.nilp) := by kernel_rfl
@[simp] theorem c175 : Try.prog.cellsOf 175 = 1 := by kernel_rfl
@[simp] theorem b175 : Try.prog.bytesOf 175 = 8 := by kernel_rfl
@[simp] theorem i175 : (Try.prog.info? 175).isSome = true := by kernel_rfl
@[simp] theorem z175 : azero Try.prog 175 = some (.nilp) := by kernel_rfl
@[simp] theorem c185 : Try.prog.cellsOf 185 = 4 := by kernel_rfl
@[simp] theorem b185 : Try.prog.bytesOf 185 = 40 := by kernel_rfl
@[simp] theorem i185 : (Try.prog.info? 185).isSome = true := by kernel_rfl
@[simp] theorem z185 : azero Try.prog 185 = some (.agg [.nilp, .nilp, .nilp, .str ⟨#[]⟩]) := by kernel_rfl
@[simp] theorem c186 : Try.prog.cellsOf 186 = 4 := by kernel_rfl
@[simp] theorem b186 : Try.prog.bytesOf 186 = 40 := by kernel_rfl
@[simp] theorem i186 : (Try.prog.info? 186).isSome = true := by kernel_rfl
@[simp] theorem z186 : azero Try.prog 186 = some (.agg [.nilp, .nilp, .nilp, .str ⟨#[]⟩]) := by kernel_rfl
@[simp] theorem c187 : Try.prog.cellsOf 187 = 0 := by kernel_rfl
@[simp] theorem b187 : Try.prog.bytesOf 187 = 0 := by kernel_rfl
@[simp] theorem i187 : (Try.prog.info? 187).isSome = true := by kernel_rfl
@[simp] theorem z187 : azero Try.prog 187 = some (.agg []) := by kernel_rfl
@[simp] theorem c188 : Try.prog.cellsOf 188 = 0 := by kernel_rfl
@[simp] theorem b188 : Try.prog.bytesOf 188 = 0 := by kernel_rfl
@[simp] theorem i188 : (Try.prog.info? 188).isSome = true := by kernel_rfl
@[simp] theorem z188 : azero Try.prog 188 = some (.agg []) := by kernel_rfl
@[simp] theorem c189 : Try.prog.cellsOf 189 = 0 := by kernel_rfl
@[simp] theorem b189 : Try.prog.bytesOf 189 = 0 := by kernel_rfl
@[simp] theorem i189 : (Try.prog.info? 189).isSome = true := by kernel_rfl
@[simp] theorem z189 : azero Try.prog 189 = some (.agg []) := by kernel_rfl
@[simp] theorem c191 : Try.prog.cellsOf 191 = 1 := by kernel_rfl
@[simp] theorem b191 : Try.prog.bytesOf 191 = 1 := by kernel_rfl
@[simp] theorem i191 : (Try.prog.info? 191).isSome = true := by kernel_rfl
@[simp] theorem z191 : azero Try.prog 191 = some (.int .u8 0) := by kernel_rfl
@[simp] theorem c192 : Try.prog.cellsOf 192 = 1 := by kernel_rfl
@[simp] theorem b192 : Try.prog.bytesOf 192 = 1 := by kernel_rfl
@[simp] theorem i192 : (Try.prog.info? 192).isSome = true := by kernel_rfl
@[simp] theorem z192 : azero Try.prog 192 = some (.int .u8 0) := by kernel_rfl
@[simp] theorem c194 : Try.prog.cellsOf 194 = 1 := by kernel_rfl
@[simp] theorem b194 : Try.prog.bytesOf 194 = 8 := by kernel_rfl
@[simp] theorem i194 : (Try.prog.info? 194).isSome = true := by kernel_rfl
@[simp] theorem z194 : azero Try.prog 194 = some (.nilp) := by kernel_rfl
@[simp] theorem c195 : Try.prog.cellsOf 195 = 1 := by kernel_rfl
@[simp] theorem b195 : Try.prog.bytesOf 195 = 4 := by kernel_rfl
@[simp] theorem i195 : (Try.prog.info? 195).isSome = true := by kernel_rfl
@[simp] theorem z195 : azero Try.prog 195 = some (.int .i32 0) := by kernel_rfl
@[simp] theorem c196 : Try.prog.cellsOf 196 = 1 := by kernel_rfl
@[simp] theorem b196 : Try.prog.bytesOf 196 = 4 := by kernel_rfl
@[simp] theorem i196 : (Try.prog.info? 196).isSome = true := by kernel_rfl
@[simp] theorem z196 : azero Try.prog 196 = some (.int .i32 0) := by kernel_rfl
@[simp] theorem c197 : Try.prog.cellsOf 197 = 11 := by kernel_rfl
@[simp] theorem b197 : Try.prog.bytesOf 197 = 48 := by kernel_rfl
@[simp] theorem i197 : (Try.prog.info? 197).isSome = true := by kernel_rfl
@[simp] theorem z197 : azero Try.prog 197 = some (.agg [.int .u64 0, .int .u64 0, .int .u32 0, .int .u8 0, .int .u8 0, .int .u8 0, .int .u8 0, .nilf, .nilp, .int .i32 0, .int .i32 0]) := by kernel_rfl
@[simp] theorem c198 : Try.prog.cellsOf 198 = 11 := by kernel_rfl
@[simp] theorem b198 : Try.prog.bytesOf 198 = 48 := by kernel_rfl
@[simp] theorem i198 : (Try.prog.info? 198).isSome = true := by kernel_rfl
@[simp] theorem z198 : azero Try.prog 198 = some (.agg [.int .u64 0, .int .u64 0, .int .u32 0, .int .u8 0, .int .u8 0, .int .u8 0, .int .u8 0, .nilf, .nilp, .int .i32 0, .int .i32 0]) := by kernel_rfl
@[simp] theorem c199 : Try.prog.cellsOf 199 = 2 := by kernel_rfl
@[simp] theorem b199 : Try.prog.bytesOf 199 = 16 := by kernel_rfl
@[simp] theorem i199 : (Try.prog.info? 199).isSome = true := by kernel_rfl
@[simp] theorem z199 : azero Try.prog 199 = some (.agg [.int .i64 0, .int .i64 0]) := by kernel_rfl
@[simp] theorem h199 : Try.prog.stoodInHeld 199 = false := by kernel_rfl
@[simp] theorem g199 : Try.prog.eqGuardType Try.prog.depth 199 = false := by kernel_rfl
@[simp] theorem c200 : Try.prog.cellsOf 200 = 2 := by kernel_rfl
@[simp] theorem b200 : Try.prog.bytesOf 200 = 16 := by kernel_rfl
@[simp] theorem i200 : (Try.prog.info? 200).isSome = true := by kernel_rfl
@[simp] theorem z200 : azero Try.prog 200 = some (.agg [.int .i64 0, .int .i64 0]) := by kernel_rfl
@[simp] theorem h200 : Try.prog.stoodInHeld 200 = false := by kernel_rfl
@[simp] theorem g200 : Try.prog.eqGuardType Try.prog.depth 200 = false := by kernel_rfl
@[simp] theorem c201 : Try.prog.cellsOf 201 = 1 := by kernel_rfl
@[simp] theorem b201 : Try.prog.bytesOf 201 = 8 := by kernel_rfl
@[simp] theorem i201 : (Try.prog.info? 201).isSome = true := by kernel_rfl
@[simp] theorem z201 : azero Try.prog 201 = some (.nilp) := by kernel_rfl
@[simp] theorem k2 : callable Try.prog 2 = true := by kernel_rfl
@[simp] theorem k3 : callable Try.prog 3 = true := by kernel_rfl
@[simp] theorem k4 : callable Try.prog 4 = true := by kernel_rfl
@[simp] theorem k5 : callable Try.prog 5 = true := by kernel_rfl
@[simp] theorem k6 : callable Try.prog 6 = true := by kernel_rfl
@[simp] theorem k7 : callable Try.prog 7 = true := by kernel_rfl
@[simp] theorem k8 : callable Try.prog 8 = true := by kernel_rfl
@[simp] theorem k9 : callable Try.prog 9 = true := by kernel_rfl
@[simp] theorem k10 : callable Try.prog 10 = true := by kernel_rfl
@[simp] theorem k11 : callable Try.prog 11 = true := by kernel_rfl
@[simp] theorem k12 : callable Try.prog 12 = true := by kernel_rfl
@[simp] theorem k13 : callable Try.prog 13 = true := by kernel_rfl
@[simp] theorem k14 : callable Try.prog 14 = true := by kernel_rfl
@[simp] theorem k15 : callable Try.prog 15 = true := by kernel_rfl
@[simp] theorem k16 : callable Try.prog 16 = true := by kernel_rfl
@[simp] theorem k17 : callable Try.prog 17 = true := by kernel_rfl
@[simp] theorem k18 : callable Try.prog 18 = true := by kernel_rfl
@[simp] theorem k19 : callable Try.prog 19 = true := by kernel_rfl
@[simp] theorem k20 : callable Try.prog 20 = true := by kernel_rfl
@[simp] theorem k21 : callable Try.prog 21 = true := by kernel_rfl
@[simp] theorem k22 : callable Try.prog 22 = true := by kernel_rfl
@[simp] theorem k23 : callable Try.prog 23 = true := by kernel_rfl
@[simp] theorem k24 : callable Try.prog 24 = true := by kernel_rfl
@[simp] theorem k25 : callable Try.prog 25 = true := by kernel_rfl
@[simp] theorem k26 : callable Try.prog 26 = true := by kernel_rfl
@[simp] theorem k27 : callable Try.prog 27 = true := by kernel_rfl
@[simp] theorem k28 : callable Try.prog 28 = true := by kernel_rfl
@[simp] theorem k29 : callable Try.prog 29 = true := by kernel_rfl
@[simp] theorem k30 : callable Try.prog 30 = true := by kernel_rfl
@[simp] theorem k31 : callable Try.prog 31 = true := by kernel_rfl
@[simp] theorem k32 : callable Try.prog 32 = true := by kernel_rfl
@[simp] theorem k33 : callable Try.prog 33 = true := by kernel_rfl
@[simp] theorem k34 : callable Try.prog 34 = true := by kernel_rfl
@[simp] theorem k35 : callable Try.prog 35 = true := by kernel_rfl
@[simp] theorem k36 : callable Try.prog 36 = true := by kernel_rfl
@[simp] theorem k37 : callable Try.prog 37 = true := by kernel_rfl
@[simp] theorem k38 : callable Try.prog 38 = true := by kernel_rfl
@[simp] theorem k39 : callable Try.prog 39 = true := by kernel_rfl
@[simp] theorem k40 : callable Try.prog 40 = true := by kernel_rfl
@[simp] theorem k41 : callable Try.prog 41 = true := by kernel_rfl
@[simp] theorem k42 : callable Try.prog 42 = true := by kernel_rfl
@[simp] theorem k43 : callable Try.prog 43 = true := by kernel_rfl
@[simp] theorem k44 : callable Try.prog 44 = true := by kernel_rfl
@[simp] theorem k45 : callable Try.prog 45 = true := by kernel_rfl
@[simp] theorem k46 : callable Try.prog 46 = true := by kernel_rfl
@[simp] theorem k47 : callable Try.prog 47 = true := by kernel_rfl
@[simp] theorem k48 : callable Try.prog 48 = true := by kernel_rfl
@[simp] theorem k49 : callable Try.prog 49 = true := by kernel_rfl
@[simp] theorem k50 : callable Try.prog 50 = true := by kernel_rfl
@[simp] theorem k51 : callable Try.prog 51 = true := by kernel_rfl
@[simp] theorem k52 : callable Try.prog 52 = true := by kernel_rfl
@[simp] theorem k53 : callable Try.prog 53 = true := by kernel_rfl
@[simp] theorem k54 : callable Try.prog 54 = true := by kernel_rfl
@[simp] theorem k55 : callable Try.prog 55 = true := by kernel_rfl
@[simp] theorem k56 : callable Try.prog 56 = true := by kernel_rfl
@[simp] theorem k57 : callable Try.prog 57 = true := by kernel_rfl
@[simp] theorem k58 : callable Try.prog 58 = true := by kernel_rfl
@[simp] theorem k59 : callable Try.prog 59 = true := by kernel_rfl
@[simp] theorem k60 : callable Try.prog 60 = true := by kernel_rfl
@[simp] theorem k61 : callable Try.prog 61 = true := by kernel_rfl
@[simp] theorem k62 : callable Try.prog 62 = true := by kernel_rfl
@[simp] theorem k63 : callable Try.prog 63 = true := by kernel_rfl
@[simp] theorem k64 : callable Try.prog 64 = true := by kernel_rfl
@[simp] theorem k65 : callable Try.prog 65 = true := by kernel_rfl
@[simp] theorem k66 : callable Try.prog 66 = true := by kernel_rfl
@[simp] theorem k67 : callable Try.prog 67 = true := by kernel_rfl
@[simp] theorem k68 : callable Try.prog 68 = true := by kernel_rfl
@[simp] theorem k69 : callable Try.prog 69 = true := by kernel_rfl
@[simp] theorem k70 : callable Try.prog 70 = true := by kernel_rfl
@[simp] theorem k71 : callable Try.prog 71 = true := by kernel_rfl
@[simp] theorem k72 : callable Try.prog 72 = true := by kernel_rfl
@[simp] theorem k73 : callable Try.prog 73 = true := by kernel_rfl
@[simp] theorem k74 : callable Try.prog 74 = true := by kernel_rfl
@[simp] theorem k75 : callable Try.prog 75 = true := by kernel_rfl
@[simp] theorem k76 : callable Try.prog 76 = true := by kernel_rfl
@[simp] theorem k77 : callable Try.prog 77 = true := by kernel_rfl
@[simp] theorem k78 : callable Try.prog 78 = true := by kernel_rfl
@[simp] theorem k79 : callable Try.prog 79 = true := by kernel_rfl
@[simp] theorem k80 : callable Try.prog 80 = true := by kernel_rfl
@[simp] theorem k81 : callable Try.prog 81 = true := by kernel_rfl
@[simp] theorem k82 : callable Try.prog 82 = true := by kernel_rfl
@[simp] theorem k83 : callable Try.prog 83 = true := by kernel_rfl
@[simp] theorem k84 : callable Try.prog 84 = true := by kernel_rfl
@[simp] theorem k85 : callable Try.prog 85 = true := by kernel_rfl
@[simp] theorem k86 : callable Try.prog 86 = true := by kernel_rfl
@[simp] theorem k87 : callable Try.prog 87 = true := by kernel_rfl
@[simp] theorem k88 : callable Try.prog 88 = true := by kernel_rfl
@[simp] theorem k89 : callable Try.prog 89 = true := by kernel_rfl
@[simp] theorem k90 : callable Try.prog 90 = true := by kernel_rfl
@[simp] theorem k91 : callable Try.prog 91 = true := by kernel_rfl
@[simp] theorem k92 : callable Try.prog 92 = true := by kernel_rfl
@[simp] theorem k93 : callable Try.prog 93 = true := by kernel_rfl
@[simp] theorem k94 : callable Try.prog 94 = true := by kernel_rfl
@[simp] theorem k95 : callable Try.prog 95 = true := by kernel_rfl
@[simp] theorem k96 : callable Try.prog 96 = true := by kernel_rfl
@[simp] theorem k97 : callable Try.prog 97 = true := by kernel_rfl
@[simp] theorem k98 : callable Try.prog 98 = true := by kernel_rfl
@[simp] theorem k99 : callable Try.prog 99 = true := by kernel_rfl
@[simp] theorem k100 : callable Try.prog 100 = true := by kernel_rfl
@[simp] theorem k101 : callable Try.prog 101 = true := by kernel_rfl
@[simp] theorem k102 : callable Try.prog 102 = true := by kernel_rfl
@[simp] theorem k103 : callable Try.prog 103 = true := by kernel_rfl
@[simp] theorem k104 : callable Try.prog 104 = true := by kernel_rfl
@[simp] theorem k105 : callable Try.prog 105 = true := by kernel_rfl
@[simp] theorem k106 : callable Try.prog 106 = true := by kernel_rfl
@[simp] theorem k107 : callable Try.prog 107 = true := by kernel_rfl
@[simp] theorem k108 : callable Try.prog 108 = true := by kernel_rfl
@[simp] theorem k109 : callable Try.prog 109 = true := by kernel_rfl
@[simp] theorem k110 : callable Try.prog 110 = true := by kernel_rfl
@[simp] theorem k111 : callable Try.prog 111 = true := by kernel_rfl
@[simp] theorem k112 : callable Try.prog 112 = true := by kernel_rfl
@[simp] theorem k113 : callable Try.prog 113 = true := by kernel_rfl
@[simp] theorem k114 : callable Try.prog 114 = true := by kernel_rfl
@[simp] theorem k115 : callable Try.prog 115 = true := by kernel_rfl
@[simp] theorem k116 : callable Try.prog 116 = true := by kernel_rfl
@[simp] theorem k117 : callable Try.prog 117 = true := by kernel_rfl
@[simp] theorem k118 : callable Try.prog 118 = true := by kernel_rfl
@[simp] theorem k119 : callable Try.prog 119 = true := by kernel_rfl
@[simp] theorem k120 : callable Try.prog 120 = true := by kernel_rfl
@[simp] theorem k121 : callable Try.prog 121 = true := by kernel_rfl
@[simp] theorem k122 : callable Try.prog 122 = true := by kernel_rfl
@[simp] theorem k123 : callable Try.prog 123 = true := by kernel_rfl
@[simp] theorem k124 : callable Try.prog 124 = true := by kernel_rfl
@[simp] theorem k125 : callable Try.prog 125 = true := by kernel_rfl
@[simp] theorem k126 : callable Try.prog 126 = true := by kernel_rfl
@[simp] theorem k127 : callable Try.prog 127 = true := by kernel_rfl
@[simp] theorem k128 : callable Try.prog 128 = true := by kernel_rfl
@[simp] theorem k129 : callable Try.prog 129 = true := by kernel_rfl
@[simp] theorem k130 : callable Try.prog 130 = true := by kernel_rfl
@[simp] theorem k131 : callable Try.prog 131 = true := by kernel_rfl
@[simp] theorem k132 : callable Try.prog 132 = true := by kernel_rfl
@[simp] theorem k133 : callable Try.prog 133 = true := by kernel_rfl
@[simp] theorem k134 : callable Try.prog 134 = true := by kernel_rfl
@[simp] theorem k135 : callable Try.prog 135 = true := by kernel_rfl
@[simp] theorem k136 : callable Try.prog 136 = true := by kernel_rfl
@[simp] theorem k137 : callable Try.prog 137 = true := by kernel_rfl
@[simp] theorem k138 : callable Try.prog 138 = true := by kernel_rfl
@[simp] theorem k139 : callable Try.prog 139 = true := by kernel_rfl
@[simp] theorem k140 : callable Try.prog 140 = true := by kernel_rfl
@[simp] theorem k141 : callable Try.prog 141 = true := by kernel_rfl
@[simp] theorem k142 : callable Try.prog 142 = true := by kernel_rfl
@[simp] theorem k143 : callable Try.prog 143 = true := by kernel_rfl
@[simp] theorem k144 : callable Try.prog 144 = true := by kernel_rfl
@[simp] theorem k145 : callable Try.prog 145 = true := by kernel_rfl
@[simp] theorem k146 : callable Try.prog 146 = true := by kernel_rfl
@[simp] theorem k147 : callable Try.prog 147 = true := by kernel_rfl
@[simp] theorem k148 : callable Try.prog 148 = true := by kernel_rfl
@[simp] theorem k149 : callable Try.prog 149 = true := by kernel_rfl
@[simp] theorem k150 : callable Try.prog 150 = true := by kernel_rfl
@[simp] theorem k151 : callable Try.prog 151 = true := by kernel_rfl
@[simp] theorem k152 : callable Try.prog 152 = true := by kernel_rfl
@[simp] theorem k153 : callable Try.prog 153 = true := by kernel_rfl
@[simp] theorem k154 : callable Try.prog 154 = true := by kernel_rfl
@[simp] theorem k155 : callable Try.prog 155 = true := by kernel_rfl
@[simp] theorem k156 : callable Try.prog 156 = true := by kernel_rfl
@[simp] theorem k157 : callable Try.prog 157 = true := by kernel_rfl
@[simp] theorem k158 : callable Try.prog 158 = true := by kernel_rfl
@[simp] theorem k159 : callable Try.prog 159 = true := by kernel_rfl
@[simp] theorem k160 : callable Try.prog 160 = true := by kernel_rfl
@[simp] theorem k161 : callable Try.prog 161 = true := by kernel_rfl
@[simp] theorem k162 : callable Try.prog 162 = true := by kernel_rfl
@[simp] theorem k163 : callable Try.prog 163 = true := by kernel_rfl
theorem mixed : Try.prog.follows .mixedOrders = true := by kernel_rfl

end Go.Proofs.Ytngbibpmaofamaa.Ab

/- Numbers as lists of digits to the base 2^32: plain laws. -/
-- Num
namespace Go.Proofs.Ytngbibpmaofamaa.Num

/-- The base. -/
def B : Nat := 4294967296

def val : List Nat → Nat
  | [] => 0
  | d :: l => d + B * val l

/-- A list of digits, of a length that memory bears. -/
def Dig (l : List Nat) : Prop := (∀ d ∈ l, d < B) ∧ l.length ≤ 268435456

def digits (n : Nat) : List Nat := if h : n = 0 then [] else n % B :: digits (n / B)
termination_by n
decreasing_by exact Nat.div_lt_self (Nat.pos_of_ne_zero h) (by decide)

theorem digits_zero : digits 0 = [] := by rw [digits]; simp
theorem digits_pos {n : Nat} (h : n ≠ 0) : digits n = n % B :: digits (n / B) := by rw [digits]; simp [h]

theorem val_digits : ∀ n, val (digits n) = n := by
  intro n
  induction n using Nat.strongRecOn with
  | _ n ih =>
    by_cases h : n = 0
    · subst h; simp [digits_zero, val]
    · rw [digits_pos h, val, ih _ (Nat.div_lt_self (Nat.pos_of_ne_zero h) (by decide))]
      exact Nat.mod_add_div n B

theorem digits_lt : ∀ n, ∀ d ∈ digits n, d < B := by
  intro n
  induction n using Nat.strongRecOn with
  | _ n ih =>
    by_cases h : n = 0
    · subst h; simp [digits_zero]
    · rw [digits_pos h]
      intro d hd
      rcases List.mem_cons.1 hd with h1 | h1
      · rw [h1]; exact Nat.mod_lt _ (by decide)
      · exact ih _ (Nat.div_lt_self (Nat.pos_of_ne_zero h) (by decide)) d h1

theorem val_lt : ∀ (l : List Nat), (∀ d ∈ l, d < B) → val l < B ^ l.length
  | [], _ => by simp [val]
  | d :: l, h => by
    have h1 := val_lt l fun x hx => h x (List.mem_cons_of_mem _ hx)
    have h2 := h d (List.mem_cons_self ..)
    simp only [val, List.length_cons, Nat.pow_succ]
    have : B * (val l + 1) ≤ B * B ^ l.length := Nat.mul_le_mul_left B h1
    rw [Nat.mul_add, Nat.mul_one] at this
    rw [Nat.mul_comm (B ^ l.length) B]
    omega

theorem length_digits : ∀ (k n : Nat), n < B ^ k → (digits n).length ≤ k
  | 0, n, h => by simp at h; subst h; simp [digits_zero]
  | k + 1, n, h => by
    by_cases hn : n = 0
    · subst hn; simp [digits_zero]
    · rw [digits_pos hn, List.length_cons]
      have : n / B < B ^ k := by
        rw [Nat.div_lt_iff_lt_mul (by decide), ← Nat.pow_succ]; exact h
      have := length_digits k _ this
      omega

theorem dig_digits {l : List Nat} (h : Dig l) : Dig (digits (val l)) :=
  ⟨digits_lt _, Nat.le_trans (length_digits _ _ (val_lt l h.1)) h.2⟩

theorem val_append (l m : List Nat) : val (l ++ m) = val l + B ^ l.length * val m := by
  induction l with
  | nil => simp [val]
  | cons d l ih => simp only [List.cons_append, val, ih, List.length_cons, Nat.pow_succ, Nat.mul_add]; rw [Nat.mul_comm (B ^ l.length) B, Nat.mul_assoc]; omega

/-- Zeros at the end add nothing. -/
theorem val_take : ∀ (l : List Nat) (n : Nat), (∀ i, n ≤ i → i < l.length → l[i]? = some 0) → val (l.take n) = val l
  | [], n, _ => by simp [val]
  | d :: l, 0, h => by
    have hd : d = 0 := by have := h 0 (Nat.le_refl _) (by simp); simpa using this
    have := val_take l 0 fun i h1 h2 => by have := h (i + 1) (by omega) (by simp; omega); simpa using this
    simp only [List.take_zero, val] at this ⊢
    rw [← this, hd]; simp
  | d :: l, n + 1, h => by
    have := val_take l n fun i h1 h2 => by have := h (i + 1) (by omega) (by simp; omega); simpa using this
    simp only [List.take_succ_cons, val, this]

/-- A list without a zero at its end is the list of its value's digits. -/
theorem digits_val : ∀ (l : List Nat), (∀ d ∈ l, d < B) → (l = [] ∨ ∃ d, l[l.length - 1]? = some d ∧ d ≠ 0) → digits (val l) = l
  | [], _, _ => digits_zero
  | [d], h, hl => by
    have hd : d ≠ 0 := by rcases hl with h | ⟨x, h1, h2⟩; simp at h; simp at h1; omega
    have := h d (by simp)
    simp only [val, Nat.mul_zero, Nat.add_zero]
    rw [digits_pos hd, Nat.mod_eq_of_lt this, Nat.div_eq_of_lt this, digits_zero]
  | d :: e :: l, h, hl => by
    have hlast : (e :: l)[(e :: l).length - 1]? = (d :: e :: l)[(d :: e :: l).length - 1]? := by simp
    have ih := digits_val (e :: l) (fun x hx => h x (List.mem_cons_of_mem _ hx)) (.inr (by
      rcases hl with h | ⟨x, h1, h2⟩
      · simp at h
      · exact ⟨x, by rw [hlast]; exact h1, h2⟩))
    have hd := h d (by simp)
    have hpos : val (e :: l) ≠ 0 := by
      intro h0
      rw [h0, digits_zero] at ih
      simp at ih
    have hv : val (d :: e :: l) = d + B * val (e :: l) := rfl
    have hB : 0 < B := by decide
    have hne : val (d :: e :: l) ≠ 0 := by
      rw [hv]
      have := Nat.mul_pos hB (Nat.pos_of_ne_zero hpos)
      omega
    rw [digits_pos hne, hv, Nat.add_mul_mod_self_left, Nat.mod_eq_of_lt hd, Nat.add_mul_div_left _ _ hB, Nat.div_eq_of_lt hd, Nat.zero_add, ih]

theorem digits_inj {m n : Nat} (h : digits m = digits n) : m = n := by rw [← val_digits m, h, val_digits]

end Go.Proofs.Ytngbibpmaofamaa.Num

/- The reference's natural numbers: Trim, Equal, FromUint64, Uint64, Compare. -/
-- NatA
namespace Go.Proofs.Ytngbibpmaofamaa.Ab
open Go Num

/-- A list of digits as a value that only is read. -/
def natV (l : List Nat) : V := .imm (l.map fun (d : Nat) => [.int .u32 (d : Int)]) false

theorem natV_pure (l : List Nat) : (natV l).Pure := .imm fun row h x hx => by
  simp at h; obtain ⟨d, _, rfl⟩ := h; simp at hx; subst hx; exact .int _ _

/-- A row of digits of the call's own is frozen. -/
theorem frz_nat {P : Program} {σ : H} {b n : Nat} {ex : Bool} {e : TypeId} {l : List Nat} (hb : σ.get b = some (.rows e (l.map fun (d : Nat) => [.int .u32 (d : Int)]))) (hn : n = l.length) :
    ∃ σ', Frz P σ (.sl 1 b 0 n ex) (natV l) σ' := by
  have := Frz.sl (P := P) (sz := 1) (off := 0) (len := n) (ex := ex) (ex' := false) hb (by simp [hn]) (by simp)
  rw [List.drop_zero, List.take_of_length_le (by simp [hn])] at this
  exact ⟨σ.kill b, this⟩

theorem Run.frzNat {P : Program} {f : FuncId} {args : List V} {σ : H} {K : V → H → Prop} (i : Nat) (l : List Nat) {b n : Nat} {ex : Bool} {e : TypeId} (hi : args[i]? = some (.sl 1 b 0 n ex))
    (hb : σ.get b = some (.rows e (l.map fun (d : Nat) => [.int .u32 (d : Int)]))) (hn : n = l.length) (h : ∀ σ', Run P f (args.set i (natV l)) σ' K) : Run P f args σ K := by
  obtain ⟨σ', hz⟩ := frz_nat (P := P) (ex := ex) hb hn
  exact Run.frzArg i hi hz (h σ')

/-- A natural number as its canonical value. -/
def N (n : Nat) : V := natV (digits n)
theorem N_pure (n : Nat) : (N n).Pure := natV_pure _

@[simp] theorem bt : Try.prog.bytesOf 102 = 4 := b102

set_option maxRecDepth 100000 in
theorem Trim_run (l : List Nat) (hl : Dig l) : PRun Try.prog 146 [natV l] (fun r => r = N (val l)) := by
  unfold PRun
  refine Run.frz ?_
  refine run_fn Try.func146 rfl (by simp) ?_
  have hlen := hl.2
  simp [natV]
  refine ac_loop (fun n t σ => t 0 = natV l ∧ t 3 = .int .i64 n ∧ n ≤ l.length ∧ (∀ i, n ≤ i → i < l.length → l[i]? = some 0) ∧ σ = H.empty) l.length (by simp [natV]; intro i h1 h2; omega) ?_
  rintro n t σ ⟨h0, h3, hn, hz, rfl⟩
  have fin : (n = 0 ∨ ∃ d, l[n - 1]? = some d ∧ d ≠ 0) → l.take n = digits (val l) := by
    intro h
    rw [← val_take l n hz]
    refine (digits_val (l.take n) (fun d hd => hl.1 d (List.mem_of_mem_take hd)) ?_).symm
    rcases h with h | ⟨d, h1, h2⟩
    · left; simp [h]
    · right
      have : 0 < n := by
        rcases Nat.eq_zero_or_pos n with h | h
        · have := hz 0 (by omega); cases l with
          | nil => simp at h1
          | cons x l => simp [h] at h1 this; omega
        · exact h
      exact ⟨d, by simp only [List.length_take, Nat.min_eq_left hn]; rw [List.getElem?_take, if_pos (by omega)]; exact h1, h2⟩
  cases n with
  | zero =>
    have hf := fin (.inl rfl)
    simp [h0, h3, natV]
    rw [N, ← hf]
    exact ⟨frz_nat (l := []) rfl rfl, natV_pure _⟩
  | succ m =>
    have hd : l[m]? = some (l[m]'(by omega)) := List.getElem?_eq_getElem _
    have hw : IntKind.i64.wrap (m : Int) = m := i64_id (by omega) (by omega)
    by_cases hp : l[m]'(by omega) = 0
    · simp [h0, h3, natV, hw, hd, hp]
      refine ⟨m, by omega, rfl, by omega, ?_⟩
      intro i h1 h2
      by_cases e : i = m
      · subst e; rw [hd, hp]
      · exact hz i (by omega) h2
    · have hf := fin (.inr ⟨_, hd, hp⟩)
      have hb : (0 : Int) ≤ (m : Int) + 1 ∧ (m : Int) + 1 ≤ l.length := by omega
      have hfit : fitsMem Try.prog 102 (m + 1) := ⟨by simp; omega, by simp⟩
      have hmin : min (m + 1) l.length = m + 1 := by omega
      have hne : l ≠ [] := by intro h; subst h; simp at hn
      simp [h0, h3, natV, hw, hd, hp, hb, hfit, hmin, hne]
      rw [N, ← hf]
      exact ⟨frz_nat (e := 102) (l := l.take (m + 1)) (by simp) (by simp; omega), natV_pure _⟩

end Go.Proofs.Ytngbibpmaofamaa.Ab

/- The reference's natural numbers: Equal, FromUint64, Uint64, Compare. -/
-- NatB
namespace Go.Proofs.Ytngbibpmaofamaa.Ab
open Go Num

set_option maxRecDepth 100000 in
theorem Equal_run (a b : List Nat) (ha : Dig a) (hb : Dig b) : PRun Try.prog 104 [natV a, natV b] (fun r => r = .bool (decide (a = b))) := by
  unfold PRun
  refine run_fn Try.func104 rfl (by simp) ?_
  have hla := ha.2
  have hlb := hb.2
  by_cases hl : a.length = b.length
  · simp [natV, hl]
    refine ac_loop (fun n t σ => ∃ i, n = a.length - i ∧ t 0 = natV a ∧ t 1 = natV b ∧ t 5 = .int .i64 i ∧ i ≤ a.length ∧ (∀ j, j < i → a[j]? = b[j]?) ∧ σ = H.empty) a.length ⟨0, by simp [natV]⟩ ?_
    rintro n t σ ⟨i, rfl, h0, h1, h5, hi, he, rfl⟩
    by_cases hlt : i < a.length
    · obtain ⟨x, hx⟩ : ∃ x, a[i]? = some x := ⟨_, List.getElem?_eq_getElem hlt⟩
      obtain ⟨y, hy⟩ : ∃ y, b[i]? = some y := ⟨_, List.getElem?_eq_getElem (by omega)⟩
      have hltb : i < b.length := by omega
      have hw : IntKind.i64.wrap ((i : Int) + 1) = (i + 1 : Nat) := i64_id (by omega) (by omega)
      simp [h0, h1, h5, natV, hlt]
      refine adraw' [] mixed (by kernel_rfl) (by kernel_rfl) ?_
      by_cases heq : x = y
      · subst heq
        simp [h0, h1, h5, natV, hx, hy, hw]
        refine ⟨a.length - (i + 1), by omega, i + 1, rfl, by simp, by omega, fun j hj => ?_⟩
        by_cases e : j = i
        · subst e; rw [hx, hy]
        · exact he j (by omega)
      · have hab : a ≠ b := fun h => by subst h; rw [hx] at hy; injection hy with hy; exact heq hy
        simp [h0, h1, h5, natV, hx, hy, heq, hw, Int.natCast_inj, hab]
        exact .bool _
    · have hab : a = b := by
        apply List.ext_getElem?
        intro j
        by_cases hj : j < i
        · exact he j hj
        · rw [List.getElem?_eq_none (by omega), List.getElem?_eq_none (by omega)]
      subst hab
      simp [h0, h1, h5, natV, hlt]
      exact .bool _
  · have hab : a ≠ b := fun h => hl (by rw [h])
    simp [natV, hl, hab]
    exact .bool _

/-- Two digits made of a word. -/
theorem digits_two (n : Nat) (h : n < 18446744073709551616) : val [n % B, n / B % B] = n ∧ Dig [n % B, n / B % B] := by
  have : n / B < B := by rw [Nat.div_lt_iff_lt_mul (by decide)]; exact h
  refine ⟨?_, ?_, by simp⟩
  · simp only [val, Nat.mul_zero, Nat.add_zero, Nat.mod_eq_of_lt this]; exact Nat.mod_add_div n B
  · intro d hd
    simp at hd
    rcases hd with rfl | rfl
    · exact Nat.mod_lt _ (by decide)
    · exact Nat.mod_lt _ (by decide)

set_option maxRecDepth 100000 in
theorem FromUint64_run (n : Nat) (h : n < 18446744073709551616) : PRun Try.prog 109 [.int .u64 n] (fun r => r = N n) := by
  unfold PRun
  refine run_fn Try.func109 rfl (by simp) ?_
  obtain ⟨hv, hd⟩ := digits_two n h
  have e1 : IntKind.u32.wrap (n : Int) = ((n % B : Nat) : Int) := by rw [u32_mod]; simp [B]
  have e2 : IntKind.u32.wrap ((n : Int).fdiv (2 ^ (min 32 IntKind.u64.bits))) = ((n / B % B : Nat) : Int) := by
    rw [u32_mod]
    have : (n : Int).fdiv (2 ^ (min 32 IntKind.u64.bits)) = ((n / B : Nat) : Int) := by
      simp [IntKind.bits, B, Int.fdiv_eq_ediv_of_nonneg]
    rw [this]; simp [B]
  simp only [AC_seq, AC_region]
  simp [e1, e2]
  refine Run.frzNat (e := 102) 0 [n % B, n / B % B] rfl (by simp) rfl fun σ' => ?_
  refine Run.pcall (hv ▸ Trim_run _ hd) (by simp [natV_pure]) ?_
  simp [N_pure]

/-- The comparison of two numbers as Go's. -/
def cmpI (m n : Nat) : Int := if m < n then -1 else if n < m then 1 else 0

theorem val_lt_of {a b : List Nat} (ha : ∀ d ∈ a, d < B) (hl : a.length = b.length) {i x y : Nat} (hx : a[i]? = some x) (hy : b[i]? = some y) (hxy : x < y) (he : ∀ j, i < j → a[j]? = b[j]?) : val a < val b := by
  induction a generalizing b i with
  | nil => simp at hx
  | cons d a ih =>
    cases b with
    | nil => simp at hl
    | cons e b =>
      cases i with
      | zero =>
        simp at hx hy
        subst hx; subst hy
        have : a = b := by
          apply List.ext_getElem?
          intro j
          have := he (j + 1) (by omega)
          simpa using this
        subst this
        simp only [val]; omega
      | succ i =>
        simp at hx hy
        have h1 := ih (fun z hz => ha z (List.mem_cons_of_mem _ hz)) (by simpa using hl) hx hy (fun j hj => by have := he (j + 1) (by omega); simpa using this)
        have h2 := ha d (List.mem_cons_self ..)
        simp only [val]
        have : B * (val a + 1) ≤ B * val b := Nat.mul_le_mul_left B h1
        rw [Nat.mul_add, Nat.mul_one] at this
        omega

theorem lt_of_length {m n : Nat} (h : (digits m).length < (digits n).length) : m < n := by
  rcases Nat.lt_or_ge m n with h' | h'
  · exact h'
  · have h1 := val_lt (digits m) (digits_lt m)
    rw [val_digits] at h1
    have := length_digits _ n (Nat.lt_of_le_of_lt h' h1)
    omega

set_option maxRecDepth 100000 in
theorem Compare_run (a b : List Nat) (ha : Dig a) (hb : Dig b) : PRun Try.prog 163 [natV a, natV b] (fun r => r = .int .i64 (cmpI (val a) (val b))) := by
  unfold PRun
  refine run_fn Try.func163 rfl (by simp) ?_
  have hda := dig_digits ha
  have hdb := dig_digits hb
  simp
  refine Run.pcall (Trim_run a ha) (by simp [natV_pure]) ?_
  simp
  refine Run.pcall (Trim_run b hb) (by simp [natV_pure]) ?_
  generalize hm : val a = m at *
  generalize hn : val b = n at *
  have hla := hda.2
  have hlb := hdb.2
  by_cases hl : (digits m).length = (digits n).length
  · have hw : IntKind.i64.wrap (((digits n).length : Int) - 1) = ((digits n).length : Int) - 1 := i64_id (by omega) (by omega)
    simp [N, natV, hl, hw]
    refine ac_loop (fun k t σ => t 0 = natV (digits m) ∧ t 1 = natV (digits n) ∧ t 5 = .int .i64 ((k : Int) - 1) ∧ k ≤ (digits m).length ∧ (∀ j, k ≤ j → (digits m)[j]? = (digits n)[j]?) ∧ σ = H.empty) (digits n).length (by
      simp [natV, hl]; intro j hj; rw [List.getElem?_eq_none (by omega), List.getElem?_eq_none (by omega)]) ?_
    rintro k t σ ⟨h0, h1, h5, hk, he, rfl⟩
    cases k with
    | zero =>
      have hmn : digits m = digits n := by apply List.ext_getElem?; intro j; exact he j (by omega)
      have : m = n := digits_inj hmn
      subst this
      simp [h0, h1, h5, natV]
      exact ⟨.int _ _, by simp [cmpI]⟩
    | succ k =>
      obtain ⟨x, hx⟩ : ∃ x, (digits m)[k]? = some x := ⟨_, List.getElem?_eq_getElem (by omega)⟩
      obtain ⟨y, hy⟩ : ∃ y, (digits n)[k]? = some y := ⟨_, List.getElem?_eq_getElem (by omega)⟩
      have hw2 : IntKind.i64.wrap ((k : Int) - 1) = (k : Int) - 1 := i64_id (by omega) (by omega)
      simp [h0, h1, h5, natV]
      refine adraw' [] mixed (by kernel_rfl) (by kernel_rfl) ?_
      by_cases hxy : x < y
      · have := val_lt_of (digits_lt m) hl hx hy hxy (fun j hj => he j (by omega))
        rw [val_digits, val_digits] at this
        simp [h0, h1, h5, natV, hx, hy, hxy]
        exact ⟨.int _ _, by simp [cmpI, this]⟩
      · simp [h0, h1, h5, natV, hx, hy, hxy]
        refine adraw' [] mixed (by kernel_rfl) (by kernel_rfl) ?_
        by_cases hyx : y < x
        · have := val_lt_of (digits_lt n) hl.symm hy hx hyx (fun j hj => (he j (by omega)).symm)
          rw [val_digits, val_digits] at this
          simp [h0, h1, h5, natV, hx, hy, hyx]
          exact ⟨.int _ _, by simp [cmpI, this, Nat.not_lt.2 (Nat.le_of_lt this)]⟩
        · have hxy' : x = y := by omega
          subst hxy'
          simp [h0, h1, h5, natV, hx, hy, hw2]
          refine ⟨k, by omega, rfl, by omega, fun j hj => ?_⟩
          by_cases e : j = k
          · subst e; rw [hx, hy]
          · exact he j (by omega)
  · by_cases hlt : (digits m).length < (digits n).length
    · have := lt_of_length hlt
      simp [N, natV, hl, hlt]
      exact ⟨.int _ _, by simp [cmpI, this]⟩
    · have : n < m := lt_of_length (by omega)
      simp [N, natV, hl, hlt]
      exact ⟨.int _ _, by simp [cmpI, this, Nat.not_lt.2 (Nat.le_of_lt this)]⟩

end Go.Proofs.Ytngbibpmaofamaa.Ab

/- The reference's natural numbers: Add, Sub. -/
-- NatC
namespace Go.Proofs.Ytngbibpmaofamaa.Ab
open Go Num

theorem val_take_succ : ∀ (l : List Nat) (i : Nat), val (l.take (i + 1)) = val (l.take i) + B ^ i * (l[i]?).getD 0
  | [], i => by simp [val]
  | d :: l, 0 => by simp [val]
  | d :: l, i + 1 => by
    have := val_take_succ l i
    simp only [List.take_succ_cons, val, this, List.getElem?_cons_succ, Nat.mul_add, Nat.pow_succ]
    rw [Nat.mul_comm (B ^ i) B, Nat.mul_assoc]; omega

theorem val_take_all (l : List Nat) (n : Nat) (h : l.length ≤ n) : val (l.take n) = val l := by rw [List.take_of_length_le h]

theorem take_set_lt {l : List Nat} {i n x : Nat} (h : n ≤ i) : (l.set i x).take n = l.take n := by
  apply List.ext_getElem?
  intro j
  simp only [List.getElem?_take]
  split
  · rw [List.getElem?_set_ne (by omega)]
  · rfl

theorem shr32 (n : Nat) : (n : Int).fdiv (2 ^ min 32 IntKind.u64.bits) = ((n / B : Nat) : Int) := by
  simp [IntKind.bits, B, Int.fdiv_eq_ediv_of_nonneg]

theorem getD_lt {l : List Nat} (h : ∀ d ∈ l, d < B) (i : Nat) : (l[i]?).getD 0 < B := by
  cases hx : l[i]? with
  | none => show 0 < B; decide
  | some x => exact h x (List.mem_of_getElem? hx)

theorem pow_le_of_le {m n : Nat} (h : m ≤ n) : B ^ m ≤ B ^ n := Nat.pow_le_pow_right (by decide) h

theorem wrap_bytes (n : Nat) (h : n ≤ 1000000000) : (n : Int) * 4 ≤ 2 ^ 40 := by omega

def digV (d : Nat) : List V := [.int .u32 (d : Int)]
theorem digV_def (d : Nat) : digV d = [.int .u32 (d : Int)] := rfl

set_option maxRecDepth 100000 in
theorem Add_run (a b : List Nat) (ha : Dig a) (hb : Dig b) (hla : a.length ≤ 134217728) (hlb : b.length ≤ 134217728) : PRun Try.prog 157 [natV a, natV b] (fun r => r = N (val a + val b)) := by
  unfold PRun
  refine run_fn Try.func157 rfl (by simp) ?_
  obtain ⟨L, hLe⟩ : ∃ L, L = max a.length b.length + 1 := ⟨_, rfl⟩
  have hL : a.length < L ∧ b.length < L ∧ L ≤ 134217729 := by omega
  have hw : IntKind.i64.wrap ((if a.length < b.length then (b.length : Int) else (a.length : Int)) + 1) = (L : Int) := by
    rw [i64_id (by split <;> omega) (by split <;> omega)]; split <;> omega
  have hb1 : (L : Int) * 4 ≤ 1099511627776 ∧ (L : Int) ≤ 1099511627776 := by omega
  simp [natV, afold, amax2, hw, hb1]
  refine ac_loop (fun n t σ => ∃ (i c : Nat) (ol : List Nat), n = L - i ∧ i ≤ L ∧ t 0 = natV a ∧ t 1 = natV b ∧ t 5 = .sl 1 0 0 L true ∧ t 6 = .int .u64 c ∧ t 7 = .int .i64 i ∧ σ.get 0 = some (.rows 102 (ol.map digV)) ∧ ol.length = L ∧
    (∀ d ∈ ol, d < B) ∧ c ≤ 1 ∧ val (ol.take i) + B ^ i * c = val (a.take i) + val (b.take i)) L ⟨0, 0, List.replicate L 0, by simp [natV, digV, val]; intro _; decide⟩ ?_
  rintro n t σ ⟨i, c, ol, rfl, hi, h0, h1, h5, h6, h7, hσ, hol, hod, hc, hv⟩
  have hu : σ.use 0 = true := σ.wf _ _ hσ
  by_cases hlt : i < L
  · obtain ⟨o, ho⟩ : ∃ o, ol[i]? = some o := ⟨_, List.getElem?_eq_getElem (by omega)⟩
    have hxa := getD_lt ha.1 i
    have hxb := getD_lt hb.1 i
    generalize hxae : (a[i]?).getD 0 = xa at hxa
    generalize hxbe : (b[i]?).getD 0 = xb at hxb
    have hsum : c + xa + xb < 18446744073709551616 := by simp only [B] at hxa hxb; omega
    have hw1 : IntKind.u64.wrap ((c : Int) + xa) = (c : Int) + xa := u64_id (by omega) (by omega)
    have hw1b : IntKind.u64.wrap ((c : Int) + xb) = (c : Int) + xb := u64_id (by omega) (by omega)
    have hw2 : IntKind.u64.wrap ((c : Int) + xa + xb) = (c : Int) + xa + xb := u64_id (by omega) (by omega)
    have hwa : IntKind.u64.wrap (xa : Int) = xa := u64_id (by omega) (by omega)
    have hwb : IntKind.u64.wrap (xb : Int) = xb := u64_id (by omega) (by omega)
    have hw3 : IntKind.u32.wrap ((c : Int) + xa + xb) = (((c + xa + xb) % B : Nat) : Int) := by rw [u32_mod]; simp [B]
    have hsh := shr32 (c + xa + xb)
    have hw4 : IntKind.i64.wrap ((i : Int) + 1) = (i : Int) + 1 := i64_id (by omega) (by omega)
    have fin : ∃ (i' c' : Nat) (ol' : List Nat), L - (i + 1) = L - i' ∧ i' ≤ L ∧ i' = i + 1 ∧ c' = (c + xa + xb) / B ∧ ol' = ol.set i ((c + xa + xb) % B) ∧ ol'.length = L ∧ (∀ d ∈ ol', d < B) ∧ c' ≤ 1 ∧
        val (ol'.take i') + B ^ i' * c' = val (a.take i') + val (b.take i') := by
      refine ⟨i + 1, _, _, rfl, by omega, rfl, rfl, rfl, by simp [hol], ?_, ?_, ?_⟩
      · intro d hd
        rcases List.mem_or_eq_of_mem_set hd with h | h
        · exact hod d h
        · rw [h]; exact Nat.mod_lt _ (by decide)
      · have : (c + xa + xb) / B < 2 := by rw [Nat.div_lt_iff_lt_mul (by decide)]; simp only [B] at hxa hxb ⊢; omega
        omega
      · rw [val_take_succ, val_take_succ a, val_take_succ b, hxae, hxbe, take_set_lt (Nat.le_refl _), List.getElem?_set_self (by omega)]
        simp only [Option.getD_some, Nat.pow_succ]
        have h := Nat.mod_add_div (c + xa + xb) B
        have h2 : B ^ i * ((c + xa + xb) % B) + B ^ i * B * ((c + xa + xb) / B) = B ^ i * (c + xa + xb) := by rw [Nat.mul_assoc, ← Nat.mul_add, h]
        rw [Nat.mul_add, Nat.mul_add] at h2
        omega
    obtain ⟨i', c', ol', f1, f2, f3, f4, f5, f6, f7, f8, f9⟩ := fin
    have hsh' : ((c : Int) + xa + xb).fdiv (2 ^ min 32 IntKind.u64.bits) = (c' : Int) := by rw [f4]; rw [← hsh]; simp
    have dl := decide_eq_true hlt
    have hset : (ol.map digV).set i [.int .u32 (((c + xa + xb) % B : Nat) : Int)] = ol'.map digV := by rw [f5, List.map_set]; rfl
    have hset' : (ol.map digV).set i [.int .u32 (((c : Int) + xa + xb) % B)] = ol'.map digV := by rw [← hset]; simp
    by_cases hia : i < a.length
    · have hxa' : a[i]? = some xa := by rw [← hxae, List.getElem?_eq_getElem hia]; rfl
      have da := decide_eq_true hia
      by_cases hib : i < b.length
      · have hxb' : b[i]? = some xb := by rw [← hxbe, List.getElem?_eq_getElem hib]; rfl
        have db := decide_eq_true hib
        simp [h0, h1, h5, h6, h7, natV, hlt, da, db, hxa', hxb', hwa, hwb, hw1, hw2, hw3, hσ, ho, hw4, hsh', hset, hset', digV_def, hu]
        exact ⟨L - i', by omega, i', rfl, f2, by omega, ol', rfl, f6, f7, f8, f9⟩
      · have db := decide_eq_false hib
        obtain rfl : xb = 0 := by rw [← hxbe, List.getElem?_eq_none (by omega)]; rfl
        simp only [Int.natCast_zero, Int.add_zero, Nat.add_zero] at hw2 hw3 hsh' hset hset'
        simp [h0, h1, h5, h6, h7, natV, hlt, da, db, hxa', hwa, hw1, hw3, hσ, ho, hw4, hsh', hset, hset', digV_def, hu]
        exact ⟨L - i', by omega, i', rfl, f2, by omega, ol', rfl, f6, f7, f8, f9⟩
    · have da := decide_eq_false hia
      obtain rfl : xa = 0 := by rw [← hxae, List.getElem?_eq_none (by omega)]; rfl
      by_cases hib : i < b.length
      · have hxb' : b[i]? = some xb := by rw [← hxbe, List.getElem?_eq_getElem hib]; rfl
        have db := decide_eq_true hib
        simp only [Int.natCast_zero, Int.add_zero, Nat.add_zero] at hw2 hw3 hsh' hset hset'
        simp [h0, h1, h5, h6, h7, natV, hlt, da, db, hxb', hwb, hw1b, hw3, hσ, ho, hw4, hsh', hset, hset', digV_def, hu]
        exact ⟨L - i', by omega, i', rfl, f2, by omega, ol', rfl, f6, f7, f8, f9⟩
      · have db := decide_eq_false hib
        obtain rfl : xb = 0 := by rw [← hxbe, List.getElem?_eq_none (by omega)]; rfl
        simp only [Int.natCast_zero, Int.add_zero, Nat.add_zero] at hw2 hw3 hsh' hset hset'
        simp [h0, h1, h5, h6, h7, natV, hlt, da, db, hw3, hσ, ho, hw4, hsh', hset, hset', digV_def, hu]
        exact ⟨L - i', by omega, i', rfl, f2, by omega, ol', rfl, f6, f7, f8, f9⟩
  · obtain rfl : i = L := by omega
    rw [val_take_all ol i (by omega), val_take_all a i (by omega), val_take_all b i (by omega)] at hv
    have h2 := val_lt a ha.1
    have h3 := val_lt b hb.1
    have h4 := pow_le_of_le (show a.length ≤ i - 1 by omega)
    have h5' := pow_le_of_le (show b.length ≤ i - 1 by omega)
    have h6' : B ^ i = B ^ (i - 1) * B := by rw [← Nat.pow_succ]; congr 1; omega
    have h7' : B ^ (i - 1) * 2 ≤ B ^ (i - 1) * B := Nat.mul_le_mul_left _ (by decide)
    have hc0 : c = 0 := by
      rcases Nat.eq_zero_or_pos c with h | h
      · exact h
      · have : c = 1 := by omega
        rw [this] at hv; omega
    rw [hc0, Nat.mul_zero, Nat.add_zero] at hv
    have hod' : Dig ol := ⟨hod, by omega⟩
    simp [h0, h1, h5, h6, h7]
    refine Run.frzNat (e := 102) 0 ol rfl (by rw [hσ]; rfl) hol.symm fun σ' => ?_
    refine Run.pcall (hv ▸ Trim_run _ hod') (by simp [natV_pure]) ?_
    simp [N_pure]

/-- What a difference is, as Go's pair. -/
def subV (m n : Nat) : V := if m < n then .tup [.nils, .bool false] else .tup [N (m - n), .bool true]

theorem subV_pure (m n : Nat) : (subV m n).Pure := by
  unfold subV
  split
  · exact .tup fun x hx => by simp at hx; rcases hx with rfl | rfl; exact .nils; exact .bool _
  · exact .tup fun x hx => by simp at hx; rcases hx with rfl | rfl; exact N_pure _; exact .bool _

set_option maxRecDepth 100000 in
theorem Sub_run (a b : List Nat) (ha : Dig a) (hb : Dig b) : PRun Try.prog 159 [natV a, natV b] (fun r => r = subV (val a) (val b)) := by
  unfold PRun
  refine run_fn Try.func159 rfl (by simp) ?_
  have hda := dig_digits ha
  have hdb := dig_digits hb
  simp
  refine Run.pcall (Compare_run a b ha hb) (by simp [natV_pure]) ?_
  have hTa := Trim_run a ha
  have hTb := Trim_run b hb
  generalize hm : val a = m at *
  generalize hn : val b = n at *
  have hla := hda.2
  have hlb := hdb.2
  by_cases hmn : m < n
  · have hc : cmpI m n = -1 := by simp [cmpI, hmn]
    simp [hc]
    exact ⟨.tup fun x hx => by simp at hx; rcases hx with rfl | rfl; exact .nils; exact .bool _, by simp [subV, hmn]⟩
  have hc : 0 ≤ cmpI m n := by unfold cmpI; rw [if_neg hmn]; split <;> simp
  have hc' : ¬ cmpI m n < 0 := by omega
  simp [hc']
  refine Run.pcall hTa (by simp [natV_pure]) ?_
  simp
  refine Run.pcall hTb (by simp [natV_pure]) ?_
  obtain ⟨L, hL⟩ : ∃ L, L = (digits m).length := ⟨_, rfl⟩
  have hb1 : (L : Int) * 4 ≤ 1099511627776 ∧ (L : Int) ≤ 1099511627776 := by omega
  rw [← hL] at hla
  simp [N, natV, ← hL, hb1]
  refine ac_loop (fun k t σ => ∃ (i c : Nat) (ol : List Nat), k = L - i ∧ i ≤ L ∧ t 0 = natV (digits m) ∧ t 1 = natV (digits n) ∧ t 6 = .sl 1 0 0 L true ∧ t 7 = .int .u64 c ∧ t 8 = .int .i64 i ∧ σ.get 0 = some (.rows 102 (ol.map digV)) ∧ ol.length = L ∧
    (∀ d ∈ ol, d < B) ∧ c ≤ 1 ∧ val ((digits m).take i) + B ^ i * c = val (ol.take i) + val ((digits n).take i)) L ⟨0, 0, List.replicate L 0, by simp [natV, digV, val]; intro _; decide⟩ ?_
  rintro k t σ ⟨i, c, ol, rfl, hi, h0, h1, h6, h7, h8, hσ, hol, hod, hc1, hv⟩
  have hu : σ.use 0 = true := σ.wf _ _ hσ
  by_cases hlt : i < L
  · obtain ⟨o, ho⟩ : ∃ o, ol[i]? = some o := ⟨_, List.getElem?_eq_getElem (by omega)⟩
    obtain ⟨x, hx⟩ : ∃ x, (digits m)[i]? = some x := ⟨_, List.getElem?_eq_getElem (by omega)⟩
    have hxB : x < B := digits_lt m x (List.mem_of_getElem? hx)
    have hyB := getD_lt (digits_lt n) i
    generalize hye : ((digits n)[i]?).getD 0 = y at hyB
    have hB : B = 4294967296 := rfl
    have dl : decide (i < (digits m).length) = true := decide_eq_true (by omega)
    have hw4 : IntKind.i64.wrap ((i : Int) + 1) = (i : Int) + 1 := i64_id (by omega) (by omega)
    have hwx : IntKind.u64.wrap (x : Int) = x := u64_id (by omega) (by omega)
    have hwy : IntKind.u64.wrap (y : Int) = y := u64_id (by omega) (by omega)
    have hwcy : IntKind.u64.wrap ((c : Int) + y) = (c : Int) + y := u64_id (by omega) (by omega)
    have hwxB : IntKind.u64.wrap ((x : Int) + 4294967296) = (x : Int) + 4294967296 := u64_id (by omega) (by omega)
    -- the round's end
    have fin : ∀ (c' d : Nat), c' ≤ 1 → d < B → x + B * c' = d + (c + y) → ∃ m', m' < L - i ∧ ∃ i_1, m' = L - i_1 ∧ i_1 ≤ L ∧ ((i : Int) + 1 = i_1) ∧ ∃ xs : List Nat, (ol.map digV).set i [.int .u32 (d : Int)] = xs.map digV ∧ xs.length = L ∧ (∀ d ∈ xs, d < B) ∧ c' ≤ 1 ∧
        val ((digits m).take i_1) + B ^ i_1 * c' = val (xs.take i_1) + val ((digits n).take i_1) := by
      intro c' d g1 g2 g3
      refine ⟨L - (i + 1), by omega, i + 1, rfl, by omega, by simp, ol.set i d, by rw [List.map_set]; rfl, by simp [hol], ?_, g1, ?_⟩
      · intro z hz
        rcases List.mem_or_eq_of_mem_set hz with h | h
        · exact hod z h
        · rw [h]; exact g2
      · rw [val_take_succ, val_take_succ (ol.set i d), val_take_succ (digits n), hye, take_set_lt (Nat.le_refl _), List.getElem?_set_self (by omega), hx]
        simp only [Option.getD_some, Nat.pow_succ]
        have h2 : B ^ i * x + B ^ i * B * c' = B ^ i * d + (B ^ i * c + B ^ i * y) := by rw [Nat.mul_assoc, ← Nat.mul_add, g3, Nat.mul_add, Nat.mul_add]
        omega
    by_cases hib : i < (digits n).length
    · have hy : (digits n)[i]? = some y := by rw [← hye, List.getElem?_eq_getElem hib]; rfl
      have db := decide_eq_true hib
      by_cases hxy : x < c + y
      · have f := fin 1 (x + B - (c + y)) (Nat.le_refl _) (by omega) (by omega)
        have hd : (((x + B - (c + y) : Nat)) : Int) = (x : Int) + 4294967296 - ((c : Int) + y) := by omega
        have hxy' : (x : Int) < (c : Int) + y := by omega
        have hws : IntKind.u64.wrap ((x : Int) + 4294967296 - ((c : Int) + y)) = (x : Int) + 4294967296 - ((c : Int) + y) := u64_id (by omega) (by omega)
        have hws2 : IntKind.u32.wrap ((x : Int) + 4294967296 - ((c : Int) + y)) = (x : Int) + 4294967296 - ((c : Int) + y) := u32_id (by omega) (by omega)
        rw [hd] at f
        simp [h0, h1, h6, h7, h8, natV, dl, db, hx, hy, hwx, hwy, hwcy, hwxB, hxy', hws, hws2, hσ, hlt, ho, hw4, digV_def, hu]
        obtain ⟨m', q1, i1, q2, q3, q4, xs, q5, q6, q7, q8, q9⟩ := f
        exact ⟨m', q1, i1, q2, q3, 1, rfl, q4, xs, q5, q6, q7, q8, q9⟩
      · have f := fin 0 (x - (c + y)) (by omega) (by omega) (by omega)
        have hd : (((x - (c + y) : Nat)) : Int) = (x : Int) - ((c : Int) + y) := by omega
        have hxy' : ¬ (x : Int) < (c : Int) + y := by omega
        have hws : IntKind.u64.wrap ((x : Int) - ((c : Int) + y)) = (x : Int) - ((c : Int) + y) := u64_id (by omega) (by omega)
        have hws2 : IntKind.u32.wrap ((x : Int) - ((c : Int) + y)) = (x : Int) - ((c : Int) + y) := u32_id (by omega) (by omega)
        rw [hd] at f
        simp [h0, h1, h6, h7, h8, natV, dl, db, hx, hy, hwx, hwy, hwcy, hxy', hws, hws2, hσ, hlt, ho, hw4, digV_def, hu]
        obtain ⟨m', q1, i1, q2, q3, q4, xs, q5, q6, q7, q8, q9⟩ := f
        exact ⟨m', q1, i1, q2, q3, 0, rfl, q4, xs, q5, q6, q7, q8, q9⟩
    · have db := decide_eq_false hib
      obtain rfl : y = 0 := by rw [← hye, List.getElem?_eq_none (by omega)]; rfl
      by_cases hxy : x < c
      · have f := fin 1 (x + B - c) (Nat.le_refl _) (by omega) (by omega)
        have hd : (((x + B - c : Nat)) : Int) = (x : Int) + 4294967296 - (c : Int) := by omega
        have hws : IntKind.u64.wrap ((x : Int) + 4294967296 - (c : Int)) = (x : Int) + 4294967296 - (c : Int) := u64_id (by omega) (by omega)
        have hws2 : IntKind.u32.wrap ((x : Int) + 4294967296 - (c : Int)) = (x : Int) + 4294967296 - (c : Int) := u32_id (by omega) (by omega)
        rw [hd] at f
        simp [h0, h1, h6, h7, h8, natV, dl, db, hx, hwx, hwxB, hxy, hws, hws2, hσ, hlt, ho, hw4, digV_def, hu]
        obtain ⟨m', q1, i1, q2, q3, q4, xs, q5, q6, q7, q8, q9⟩ := f
        exact ⟨m', q1, i1, q2, q3, 1, rfl, q4, xs, q5, q6, q7, q8, q9⟩
      · have f := fin 0 (x - c) (by omega) (by omega) (by omega)
        have hd : (((x - c : Nat)) : Int) = (x : Int) - (c : Int) := by omega
        have hws : IntKind.u64.wrap ((x : Int) - (c : Int)) = (x : Int) - (c : Int) := u64_id (by omega) (by omega)
        have hws2 : IntKind.u32.wrap ((x : Int) - (c : Int)) = (x : Int) - (c : Int) := u32_id (by omega) (by omega)
        rw [hd] at f
        simp [h0, h1, h6, h7, h8, natV, dl, db, hx, hwx, hxy, hws, hws2, hσ, hlt, ho, hw4, digV_def, hu]
        obtain ⟨m', q1, i1, q2, q3, q4, xs, q5, q6, q7, q8, q9⟩ := f
        exact ⟨m', q1, i1, q2, q3, 0, rfl, q4, xs, q5, q6, q7, q8, q9⟩
  · obtain rfl : i = L := by omega
    have hln : (digits n).length ≤ i := by
      rw [hL]
      have h1 := val_lt (digits m) (digits_lt m)
      rw [val_digits] at h1
      exact length_digits _ n (by omega)
    rw [val_take_all (digits m) i (by omega), val_take_all ol i (by omega), val_take_all (digits n) i hln, val_digits, val_digits] at hv
    have h2 := val_lt ol hod
    rw [hol] at h2
    have hc0 : c = 0 := by
      rcases Nat.eq_zero_or_pos c with h | h
      · exact h
      · have : c = 1 := by omega
        rw [this] at hv; omega
    rw [hc0, Nat.mul_zero, Nat.add_zero] at hv
    have hval : val ol = m - n := by omega
    have hod' : Dig ol := ⟨hod, by omega⟩
    have dl : decide (i < (digits m).length) = false := decide_eq_false (by omega)
    simp [h0, h1, h6, h7, h8, natV, dl]
    refine Run.frzNat (e := 102) 0 ol rfl (by rw [hσ]; rfl) hol.symm fun σ' => ?_
    refine Run.pcall (hval ▸ Trim_run _ hod') (by simp [natV_pure]) ?_
    have hs : subV m n = .tup [N (m - n), .bool true] := by simp [subV, hmn]
    have hp := subV_pure m n
    rw [hs] at hp ⊢
    simp [hp]

end Go.Proofs.Ytngbibpmaofamaa.Ab

/- The reference's natural numbers: Uint64, Mul. -/
-- NatD
namespace Go.Proofs.Ytngbibpmaofamaa.Ab
open Go Num

theorem val_set : ∀ (l : List Nat) (p o v : Nat), l[p]? = some o → val (l.set p v) + B ^ p * o = val l + B ^ p * v
  | [], p, o, v, h => by simp at h
  | d :: l, 0, o, v, h => by simp at h; subst h; simp only [List.set_cons_zero, val, Nat.pow_zero, Nat.one_mul]; omega
  | d :: l, p + 1, o, v, h => by
    have := val_set l p o v (by simpa using h)
    simp only [List.set_cons_succ, val, Nat.pow_succ]
    have e1 : B * (val (l.set p v) + B ^ p * o) = B * (val l + B ^ p * v) := by rw [this]
    rw [Nat.mul_add, Nat.mul_add, ← Nat.mul_assoc, ← Nat.mul_assoc, Nat.mul_comm B (B ^ p)] at e1
    omega

/-- What a number is as a word. -/
def wordV (n : Nat) : V := if n < 18446744073709551616 then .tup [.int .u64 n, .bool true] else .tup [.int .u64 0, .bool false]

theorem wordV_pure (n : Nat) : (wordV n).Pure := by
  unfold wordV
  split <;> exact .tup fun x hx => by simp at hx; rcases hx with rfl | rfl; exact .int _ _; exact .bool _

theorem or_add (v d : Nat) (hd : d < 4294967296) (hv : v < 4294967296) :
    IntKind.u64.wrap (((((v : Int) * 4294967296 % 2 ^ IntKind.u64.bits).toNat ||| d % 2 ^ IntKind.u64.bits) : Nat) : Int) = (d : Int) + 4294967296 * v := by
  have e1 : ((v : Int) * 4294967296 % 2 ^ IntKind.u64.bits).toNat = 4294967296 * v := by simp only [IntKind.bits]; omega
  have e2 : d % 2 ^ IntKind.u64.bits = d := by simp only [IntKind.bits]; omega
  have e3 : 4294967296 * v ||| d = 4294967296 * v + d := (Nat.two_pow_add_eq_or_of_lt (i := 32) (b := d) (by simpa using hd) v).symm
  rw [e1, e2, e3, u64_id (by omega) (by omega)]
  omega

set_option maxRecDepth 100000 in
theorem Uint64_run (a : List Nat) (ha : Dig a) : PRun Try.prog 112 [natV a] (fun r => r = wordV (val a)) := by
  unfold PRun
  refine run_fn Try.func112 rfl (by simp) ?_
  have hda := dig_digits ha
  simp
  refine Run.pcall (Trim_run a ha) (by simp [natV_pure]) ?_
  generalize hm : val a = m at *
  have hla := hda.2
  have hB : B = 4294967296 := rfl
  by_cases hl : 2 < (digits m).length
  · have hbig : ¬ m < 18446744073709551616 := by
      intro h
      have := length_digits 2 m (by simpa [B] using h)
      omega
    have hl' : (2 : Int) < ((digits m).length : Int) := by omega
    simp [N, natV, hl']
    have hp := wordV_pure m
    have hw : wordV m = .tup [.int .u64 0, .bool false] := by simp [wordV, hbig]
    rw [hw] at hp ⊢
    exact ⟨hp, rfl⟩
  · have hsmall : m < 18446744073709551616 := by
      have h1 := val_lt (digits m) (digits_lt m)
      rw [val_digits] at h1
      have h2 := pow_le_of_le (show (digits m).length ≤ 2 by omega)
      have h3 : B ^ 2 = 18446744073709551616 := by decide
      omega
    have hw : IntKind.i64.wrap (((digits m).length : Int) - 1) = ((digits m).length : Int) - 1 := i64_id (by omega) (by omega)
    have hl' : ¬ (2 : Int) < ((digits m).length : Int) := by omega
    simp [N, natV, hl', hw]
    refine ac_loop (fun k t σ => t 0 = natV (digits m) ∧ t 4 = .int .u64 (val ((digits m).drop k)) ∧ t 5 = .int .i64 ((k : Int) - 1) ∧ k ≤ (digits m).length ∧ σ = H.empty) (digits m).length (by simp [natV, val]) ?_
    rintro k t σ ⟨h0, h4, h5, hk, rfl⟩
    cases k with
    | zero =>
      rw [List.drop_zero, val_digits] at h4
      simp [h0, h4, h5, natV]
      have hp := wordV_pure m
      have hw : wordV m = .tup [.int .u64 m, .bool true] := by simp [wordV, hsmall]
      rw [hw] at hp ⊢
      exact ⟨hp, rfl⟩
    | succ k =>
      obtain ⟨d, hd⟩ : ∃ d, (digits m)[k]? = some d := ⟨_, List.getElem?_eq_getElem (by omega)⟩
      have hdB : d < B := digits_lt m d (List.mem_of_getElem? hd)
      have hdrop : (digits m).drop k = d :: (digits m).drop (k + 1) := by
        rw [List.drop_eq_getElem_cons (by omega)]
        congr 1
        rw [List.getElem?_eq_getElem (by omega)] at hd
        exact Option.some.inj hd
      have hvB : val ((digits m).drop (k + 1)) < B := by
        have h1 := val_lt ((digits m).drop (k + 1)) fun x hx => digits_lt m x (List.mem_of_mem_drop hx)
        have h2 := pow_le_of_le (show ((digits m).drop (k + 1)).length ≤ 1 by simp; omega)
        simp only [Nat.pow_one] at h2
        omega
      have hv : val ((digits m).drop k) = d + 4294967296 * val ((digits m).drop (k + 1)) := by rw [hdrop]; rfl
      generalize hve : val ((digits m).drop (k + 1)) = v at *
      have hs : IntKind.u64.wrap ((v : Int) * 2 ^ min 32 IntKind.u64.bits) = (v : Int) * 4294967296 := by
        have : (2 : Int) ^ min 32 IntKind.u64.bits = 4294967296 := by simp [IntKind.bits]
        rw [this]; exact u64_id (by omega) (by omega)
      have hdw : IntKind.u64.wrap (d : Int) = d := u64_id (by omega) (by omega)
      have hor := or_add v d (by omega) (by omega)
      have hw2 : IntKind.i64.wrap ((k : Int) - 1) = (k : Int) - 1 := i64_id (by omega) (by omega)
      simp [h0, h4, h5, natV, hd, hs, hdw, hor, hw2]
      exact ⟨k, by omega, by rw [hv]; simp, by omega, by omega⟩

end Go.Proofs.Ytngbibpmaofamaa.Ab

/- The reference's natural numbers: Mul. -/
-- NatE
namespace Go.Proofs.Ytngbibpmaofamaa.Ab
open Go Num

theorem mul_lt_B (x y : Nat) (hx : x < B) (hy : y < B) : x * y ≤ 18446744065119617025 := by
  have : x * y ≤ 4294967295 * 4294967295 := Nat.mul_le_mul (by simp only [B] at hx; omega) (by simp only [B] at hy; omega)
  omega

theorem mem_set_lt {l : List Nat} {p v : Nat} (h : ∀ d ∈ l, d < B) (hv : v < B) : ∀ d ∈ l.set p v, d < B := by
  intro d hd
  rcases List.mem_or_eq_of_mem_set hd with h1 | h1
  · exact h d h1
  · rw [h1]; exact hv

theorem set_zero {l : List Nat} {p v n L : Nat} (h : ∀ j, n ≤ j → j < L → l[j]? = some 0) (hp : p < n) : ∀ j, n ≤ j → j < L → (l.set p v)[j]? = some 0 := by
  intro j h1 h2
  rw [List.getElem?_set_ne (by omega)]; exact h j h1 h2

theorem set_zero' {l : List Nat} {i m v L : Nat} (h : ∀ j, i + m ≤ j → j < L → l[j]? = some 0) : ∀ j, i + 1 + m ≤ j → j < L → (l.set (i + m) v)[j]? = some 0 := by
  intro j h1 h2
  rw [List.getElem?_set_ne (by omega)]; exact h j (by omega) h2

theorem mul_fin (ol : List Nat) (i k o c x y v : Nat) (bs : List Nat) (ho : ol[i + k]? = some o) (hv : val ol + B ^ (i + k) * c = v + B ^ i * (x * val bs)) :
    val (ol.set (i + k) ((c + (o + x * y)) % B)) + B ^ (i + (k + 1)) * ((c + (o + x * y)) / B) = v + B ^ i * (x * (val bs + B ^ k * y)) := by
  have hval := val_set ol (i + k) o ((c + (o + x * y)) % B) ho
  have h := Nat.mod_add_div (c + (o + x * y)) B
  have e1 : B ^ (i + (k + 1)) * ((c + (o + x * y)) / B) = B ^ (i + k) * (B * ((c + (o + x * y)) / B)) := by rw [← Nat.add_assoc, Nat.pow_succ, Nat.mul_assoc]
  have e2 : B ^ (i + k) * ((c + (o + x * y)) % B) + B ^ (i + k) * (B * ((c + (o + x * y)) / B)) = B ^ (i + k) * c + (B ^ (i + k) * o + B ^ (i + k) * (x * y)) := by rw [← Nat.mul_add, h, Nat.mul_add, Nat.mul_add]
  have e3 : B ^ i * (x * (val bs + B ^ k * y)) = B ^ i * (x * val bs) + B ^ (i + k) * (x * y) := by
    rw [Nat.mul_add, Nat.mul_add, Nat.pow_add]
    congr 1
    rw [Nat.mul_assoc]
    congr 1
    rw [← Nat.mul_assoc, ← Nat.mul_assoc, Nat.mul_comm x]
  rw [e3, e1]
  omega

set_option maxRecDepth 100000 in
theorem Mul_run (a b : List Nat) (ha : Dig a) (hb : Dig b) (hla : a.length ≤ 67108864) (hlb : b.length ≤ 67108864) : PRun Try.prog 140 [natV a, natV b] (fun r => r = N (val a * val b)) := by
  unfold PRun
  refine run_fn Try.func140 rfl (by simp) ?_
  have hB : B = 4294967296 := rfl
  have hw : IntKind.i64.wrap ((a.length : Int) + (b.length : Int)) = (a.length : Int) + (b.length : Int) := i64_id (by omega) (by omega)
  have hb1 : 0 ≤ (a.length : Int) + (b.length : Int) ∧ ((a.length : Int) + (b.length : Int)) * 4 ≤ 1099511627776 ∧ (a.length : Int) + (b.length : Int) ≤ 1099511627776 := by omega
  have hnat : ((a.length : Int) + (b.length : Int)).toNat = a.length + b.length := by omega
  obtain ⟨L, hL⟩ : ∃ L, L = a.length + b.length := ⟨_, rfl⟩
  simp [natV, hw, hb1, hnat, ← hL]
  refine ac_loop (fun n t σ => ∃ (i : Nat) (ol : List Nat), n = a.length - i ∧ i ≤ a.length ∧ t 0 = natV a ∧ t 1 = natV b ∧ t 5 = .sl 1 0 0 L true ∧ t 6 = .int .i64 i ∧ σ.get 0 = some (.rows 102 (ol.map digV)) ∧ ol.length = L ∧
    (∀ d ∈ ol, d < B) ∧ (∀ j, i + b.length ≤ j → j < L → ol[j]? = some 0) ∧ val ol = val (a.take i) * val b) a.length ⟨0, List.replicate L 0, by
      have hz : ∀ n, val (List.replicate n 0) = 0 := by
        intro n; induction n with
        | zero => rfl
        | succ n ih => simp only [List.replicate_succ, val, ih, Nat.mul_zero, Nat.add_zero]
      have hr : ∀ j, b.length ≤ j → j < L → (List.replicate L 0)[j]? = some 0 := fun j _ h => List.getElem?_replicate.trans (if_pos h)
      simp [natV, digV, val, hz, hB]
      exact hr⟩ ?_
  rintro n t σ ⟨i, ol, rfl, hi, h0, h1, h5, h6, hσ, hol, hod, hoz, hv⟩
  by_cases hlt : i < a.length
  · obtain ⟨x, hx⟩ : ∃ x, a[i]? = some x := ⟨_, List.getElem?_eq_getElem hlt⟩
    have hxB : x < B := ha.1 x (List.mem_of_getElem? hx)
    have dl := decide_eq_true hlt
    simp [h0, h1, h5, h6, natV, dl]
    -- the inner loop
    refine ac_loop (fun n t σ => ∃ (k c : Nat) (ol' : List Nat), n = b.length - k ∧ k ≤ b.length ∧ t 0 = natV a ∧ t 1 = natV b ∧ t 5 = .sl 1 0 0 L true ∧ t 6 = .int .i64 i ∧ t 7 = .int .u64 c ∧ t 8 = .int .i64 k ∧ σ.get 0 = some (.rows 102 (ol'.map digV)) ∧ ol'.length = L ∧
      (∀ d ∈ ol', d < B) ∧ (∀ j, i + b.length ≤ j → j < L → ol'[j]? = some 0) ∧ c < B ∧ val ol' + B ^ (i + k) * c = val ol + B ^ i * (x * val (b.take k))) b.length
      ⟨0, 0, ol, by simp [h0, h1, h5, h6, natV, hσ, hol, val, hB]; exact ⟨fun d hd => by have := hod d hd; omega, fun j h1 h2 => hoz j h1 h2⟩⟩ ?_
    rintro n t σ ⟨k, c, ol', rfl, hk, h0, h1, h5, h6, h7, h8, hσ, hol', hod', hoz', hc, hv'⟩
    have hu : σ.use 0 = true := σ.wf _ _ hσ
    by_cases hkb : k < b.length
    · obtain ⟨y, hy⟩ : ∃ y, b[k]? = some y := ⟨_, List.getElem?_eq_getElem hkb⟩
      obtain ⟨o, ho⟩ : ∃ o, ol'[i + k]? = some o := ⟨_, List.getElem?_eq_getElem (by omega)⟩
      have hyB : y < B := hb.1 y (List.mem_of_getElem? hy)
      have hoB : o < B := hod' o (List.mem_of_getElem? ho)
      have dk := decide_eq_true hkb
      have hxy := mul_lt_B x y hxB hyB
      have hw1 : IntKind.i64.wrap ((i : Int) + (k : Int)) = (i : Int) + (k : Int) := i64_id (by omega) (by omega)
      have hw1b : 0 ≤ (i : Int) + (k : Int) ∧ (i : Int) + (k : Int) < (L : Int) := by omega
      have hw1n : ((i : Int) + (k : Int)).toNat = i + k := by omega
      have hlt' : i + k < L := by omega
      have hwo : IntKind.u64.wrap (o : Int) = o := u64_id (by omega) (by omega)
      have hwx : IntKind.u64.wrap (x : Int) = x := u64_id (by omega) (by omega)
      have hwy : IntKind.u64.wrap (y : Int) = y := u64_id (by omega) (by omega)
      obtain ⟨xy, hxye⟩ : ∃ xy, xy = x * y := ⟨_, rfl⟩
      have hxyi : (x : Int) * (y : Int) = (xy : Int) := by rw [hxye, Int.natCast_mul]
      rw [← hxye] at hxy
      have hwxy : IntKind.u64.wrap (xy : Int) = xy := u64_id (by omega) (by omega)
      have hw2 : IntKind.u64.wrap ((o : Int) + xy) = (o : Int) + xy := u64_id (by omega) (by omega)
      have hw3 : IntKind.u64.wrap ((c : Int) + ((o : Int) + xy)) = ((c + (o + xy) : Nat) : Int) := by rw [u64_id (by omega) (by omega)]; omega
      have hw4 : IntKind.u32.wrap ((c + (o + xy) : Nat) : Int) = (((c + (o + xy)) % B : Nat) : Int) := by rw [u32_mod]; simp [B]
      have hsh := shr32 (c + (o + xy))
      have hw5 : IntKind.i64.wrap ((k : Int) + 1) = (k : Int) + 1 := i64_id (by omega) (by omega)
      have fin := mul_fin ol' i k o c x y (val ol) (b.take k) ho (by simpa using hv')
      rw [← hxye] at fin
      have hcs : (c + (o + xy)) / B < B := by rw [Nat.div_lt_iff_lt_mul (by decide)]; simp only [B] at *; omega
      have htk : val (b.take (k + 1)) = val (b.take k) + B ^ k * y := by rw [val_take_succ, hy, Option.getD_some]
      rw [← htk] at fin
      generalize hse : c + (o + xy) = s at *
      have hset : (ol'.map digV).set (i + k) [.int .u32 ((s % B : Nat) : Int)] = (ol'.set (i + k) (s % B)).map digV := by rw [List.map_set]; rfl
      simp [h0, h1, h5, h6, h7, h8, natV, dk]
      refine adrawP 21 [] mixed (by kernel_rfl) (by kernel_rfl) ?_
      simp only [natV] at h0 h1
      simp [h0, h1, h5, h6, h7, h8, hw1, hw1b, hw1n, hσ, ho, hx, hy, hwo, hwx, hwy, hxyi, hwxy, hw2, hw3, digV_def, hw3, hw4, hsh, hset, hw5, hwo]
      have hset' : (ol'.map digV).set (i + k) [.int .u32 ((s : Int) % (B : Int))] = (ol'.set (i + k) (s % B)).map digV := by rw [← hset]; simp
      simp [hset', hu]
      exact ⟨b.length - (k + 1), by omega, k + 1, rfl, by omega, s / B, by simp, by simp, _, by rw [List.map_set], by simp [hol'], mem_set_lt hod' (Nat.mod_lt _ (by decide)), set_zero hoz' (by omega), hcs, fin⟩
    · have dk := decide_eq_false hkb
      obtain rfl : k = b.length := by omega
      have dk := decide_eq_false hkb
      have hlt' : i + b.length < L := by omega
      have hw1 : IntKind.i64.wrap ((i : Int) + (b.length : Int)) = (i : Int) + (b.length : Int) := i64_id (by omega) (by omega)
      have hw1b : 0 ≤ (i : Int) + (b.length : Int) ∧ (i : Int) + (b.length : Int) < (L : Int) := by omega
      have hw1n : ((i : Int) + (b.length : Int)).toNat = i + b.length := by omega
      have hwc : IntKind.u32.wrap (c : Int) = c := u32_id (by omega) (by simp only [B] at hc; omega)
      have ho : ol'[i + b.length]? = some 0 := hoz' _ (Nat.le_refl _) hlt'
      have hset : (ol'.map digV).set (i + b.length) [.int .u32 (c : Int)] = (ol'.set (i + b.length) c).map digV := by rw [List.map_set]; rfl
      have hw5 : IntKind.i64.wrap ((i : Int) + 1) = (i : Int) + 1 := i64_id (by omega) (by omega)
      have fin : val (ol'.set (i + b.length) c) = val (a.take (i + 1)) * val b := by
        have hval := val_set ol' (i + b.length) 0 c ho
        rw [List.take_length] at hv'
        rw [val_take_succ, hx, Option.getD_some, Nat.add_mul, Nat.mul_assoc]
        omega
      simp only [natV] at h0 h1
      simp (config := {maxSteps := 1000000}) [h0, h1, h5, h6, h7, h8, natV, dk, hw1, hw1b, hw1n, hwc, hσ, ho, digV_def, hw5, hu]
      exact ⟨a.length - (i + 1), by omega, i + 1, rfl, by omega, by simp, ol'.set (i + b.length) c, by rw [List.map_set]; rfl, by simp [hol'], mem_set_lt hod' hc, set_zero' hoz' , fin⟩
  · obtain rfl : i = a.length := by omega
    rw [List.take_length] at hv
    have hdig : Dig ol := ⟨hod, by omega⟩
    have dl := decide_eq_false hlt
    simp [h0, h1, h5, h6, natV, dl]
    refine Run.frzNat (e := 102) 0 ol rfl (by rw [hσ]; rfl) hol.symm fun σ' => ?_
    refine Run.pcall (Trim_run ol hdig) (by simp [natV_pure]) ?_
    simp [hv, N_pure]

end Go.Proofs.Ytngbibpmaofamaa.Ab

/- The reference's natural numbers: Bits, bit. -/
-- NatF
namespace Go.Proofs.Ytngbibpmaofamaa.Ab
open Go Num

/-- The empty slice is the empty list by value. -/
theorem Frz.nils {P : Program} {σ : H} : Frz P σ .nils (.imm [] false) σ := by
  intro W ρ F G w u h hv
  refine ⟨F, Part.le_refl _, h, ?_⟩
  cases hv
  exact .imm0

def wid (n : Nat) : Nat := if n = 0 then 0 else n.log2 + 1
theorem wid_step {n : Nat} (h : n ≠ 0) : wid n = wid (n / 2) + 1 := by
  unfold wid
  rw [if_neg h, Nat.log2_def]
  by_cases h2 : 2 ≤ n
  · rw [if_pos h2, if_neg (by omega)]
  · rw [if_neg h2, if_pos (by omega)]
theorem lt_wid (n : Nat) : n < 2 ^ wid n := by
  unfold wid
  split
  · rename_i h; subst h; decide
  · exact Nat.lt_log2_self
theorem wid_le {n : Nat} (h : n < B) : wid n ≤ 32 := by
  unfold wid
  split
  · omega
  · rename_i h0
    have := (Nat.log2_lt h0).2 (show n < 2 ^ 32 by simpa [B] using h)
    omega

def bitlen (n : Nat) : Nat := if n = 0 then 0 else 32 * ((digits n).length - 1) + wid ((digits n)[(digits n).length - 1]?.getD 0)

theorem lt_bitlen (n : Nat) : n < 2 ^ bitlen n := by
  unfold bitlen
  split
  · rename_i h; subst h; decide
  · rename_i h0
    have hne : digits n ≠ [] := by rw [digits_pos h0]; simp
    have hlen : 0 < (digits n).length := List.length_pos_iff.2 hne
    obtain ⟨k, hk⟩ : ∃ k, (digits n).length = k + 1 := ⟨(digits n).length - 1, by omega⟩
    have h1 := val_take_succ (digits n) k
    rw [← hk, List.take_length, val_digits] at h1
    have h2 := val_lt ((digits n).take k) fun d hd => digits_lt n d (List.mem_of_mem_take hd)
    have h3 : ((digits n).take k).length = k := by simp; omega
    rw [h3] at h2
    rw [hk, Nat.add_sub_cancel]
    generalize ((digits n)[k]?).getD 0 = v at *
    have h4 := lt_wid v
    have h5 : (2 : Nat) ^ (32 * k + wid v) = B ^ k * 2 ^ wid v := by rw [Nat.pow_add, Nat.pow_mul]; rfl
    rw [h5, h1]
    calc val ((digits n).take k) + B ^ k * v < B ^ k + B ^ k * v := by omega
      _ = B ^ k * (v + 1) := by rw [Nat.mul_add]; omega
      _ ≤ B ^ k * 2 ^ wid v := Nat.mul_le_mul_left _ h4

theorem shr1 (n : Nat) : (n : Int).fdiv (2 ^ min 1 IntKind.u32.bits) = ((n / 2 : Nat) : Int) := by
  simp [IntKind.bits, Int.fdiv_eq_ediv_of_nonneg]

set_option maxRecDepth 100000 in
theorem Bits_run (a : List Nat) (ha : Dig a) : PRun Try.prog 156 [natV a] (fun r => r = .int .i64 (bitlen (val a))) := by
  unfold PRun
  refine run_fn Try.func156 rfl (by simp) ?_
  have hda := dig_digits ha
  simp
  refine Run.pcall (Trim_run a ha) (by simp [natV_pure]) ?_
  generalize hm : val a = m at *
  have hla := hda.2
  by_cases h0 : m = 0
  · subst h0
    simp [N, natV, digits_zero, bitlen]
    exact .int _ _
  · have hne : digits m ≠ [] := by rw [digits_pos h0]; simp
    have hlen : 0 < (digits m).length := List.length_pos_iff.2 hne
    obtain ⟨k, hk⟩ : ∃ k, (digits m).length = k + 1 := ⟨(digits m).length - 1, by omega⟩
    obtain ⟨v, hv⟩ : ∃ v, (digits m)[k]? = some v := ⟨_, List.getElem?_eq_getElem (by omega)⟩
    have hvB : v < B := digits_lt m v (List.mem_of_getElem? hv)
    have hbl : bitlen m = 32 * k + wid v := by unfold bitlen; rw [if_neg h0, hk, Nat.add_sub_cancel, hv]; rfl
    have hwv := wid_le hvB
    have hw1 : IntKind.i64.wrap (k : Int) = k := i64_id (by omega) (by omega)
    have hw2 : IntKind.i64.wrap (32 * (k : Int)) = 32 * (k : Int) := i64_id (by omega) (by omega)
    have hkl : k < (digits m).length := by omega
    have hk1 : ¬ ((k : Int) + 1 = 0) := by omega
    simp [N, natV, hk, hw1, hw2, hv, hk1]
    refine ac_loop (fun n t σ => t 3 = .int .i64 ((32 * k + wid v - wid n : Nat) : Int) ∧ t 4 = .int .u32 n ∧ wid n ≤ wid v ∧ σ = H.empty) v (by simp; rw [List.getElem?_eq_getElem (by omega)] at hv; exact Option.some.inj hv) ?_
    rintro n t σ ⟨h3, h4, hle, rfl⟩
    by_cases hz : n = 0
    · subst hz
      have e : 32 * k + wid v - wid 0 = bitlen m := by rw [hbl]; simp [wid]
      rw [e] at h3
      simp [h3, h4]
      exact .int _ _
    · have hst := wid_step hz
      have hw3 : IntKind.i64.wrap (((32 * k + wid v - wid n : Nat) : Int) + 1) = ((32 * k + wid v - wid (n / 2) : Nat) : Int) := by rw [i64_id (by omega) (by omega)]; omega
      have hsh := shr1 n
      have hpos : 0 < n := by omega
      simp [h3, h4, hpos, hw3, hsh]
      exact ⟨n / 2, by omega, rfl, by simp, by omega⟩

theorem bit_eq : ∀ (l : List Nat) (i : Nat), (∀ d ∈ l, d < B) → val l / 2 ^ i % 2 = (l[i / 32]?).getD 0 / 2 ^ (i % 32) % 2
  | [], i, _ => by simp [val]
  | d :: l, i, h => by
    have hd : d < 2 ^ 32 := h d (List.mem_cons_self ..)
    have hv : val (d :: l) = d + 2 ^ 32 * val l := rfl
    rw [hv]
    by_cases hi : i < 32
    · have e1 : i / 32 = 0 := by omega
      have e2 : i % 32 = i := by omega
      rw [e1, e2]
      simp only [List.getElem?_cons_zero, Option.getD_some]
      obtain ⟨j, hj⟩ : ∃ j, 32 = i + (j + 1) := ⟨31 - i, by omega⟩
      have e3 : (2 : Nat) ^ 32 = 2 ^ i * (2 * 2 ^ j) := by rw [← Nat.pow_succ', ← Nat.pow_add, ← hj]
      rw [e3, Nat.mul_assoc, Nat.add_mul_div_left _ _ (Nat.two_pow_pos i), Nat.mul_assoc, Nat.add_mul_mod_self_left]
    · obtain ⟨j, rfl⟩ : ∃ j, i = 32 + j := ⟨i - 32, by omega⟩
      have e1 : (32 + j) / 32 = j / 32 + 1 := by omega
      have e2 : (32 + j) % 32 = j % 32 := by omega
      rw [e1, e2, List.getElem?_cons_succ, ← bit_eq l j fun x hx => h x (List.mem_cons_of_mem _ hx), Nat.pow_add, ← Nat.div_div_eq_div_mul, Nat.add_mul_div_left _ _ (Nat.two_pow_pos 32), Nat.div_eq_of_lt hd, Nat.zero_add]

set_option maxRecDepth 100000 in
theorem bit_run (a : List Nat) (ha : Dig a) (i : Nat) (hi : i ≤ 1099511627776) : PRun Try.prog 158 [natV a, .int .i64 i] (fun r => r = .int .u32 ((val a / 2 ^ i % 2 : Nat) : Int)) := by
  unfold PRun
  refine run_fn Try.func158 rfl (by simp) ?_
  rw [bit_eq a i ha.1]
  have hq : (i : Int).tdiv 32 = (i : Int) / 32 := Int.tdiv_eq_ediv_of_nonneg (by omega)
  have hr : (i : Int).tmod 32 = (i : Int) % 32 := Int.tmod_eq_emod_of_nonneg (by omega)
  have hw : IntKind.i64.wrap ((i : Int) / 32) = (i : Int) / 32 := i64_id (by omega) (by omega)
  have hw2 : IntKind.i64.wrap ((i : Int) % 32) = (i : Int) % 32 := i64_id (by omega) (by omega)
  have hw3 : IntKind.u64.wrap ((i : Int) % 32) = (i : Int) % 32 := u64_id (by omega) (by omega)
  have hge : 0 ≤ (i : Int) % 32 := by omega
  have hmin : min ((i : Int) % 32).toNat IntKind.u32.bits = i % 32 := by simp only [IntKind.bits]; omega
  have hfd : ∀ d : Nat, (d : Int).fdiv (2 ^ (i % 32)) = ((d / 2 ^ (i % 32) : Nat) : Int) := by
    intro d; rw [Int.fdiv_eq_ediv_of_nonneg _ (Int.pow_nonneg (by decide))]; simp
  have hn : ((i : Int) / 32).toNat = i / 32 := by omega
  by_cases hlt : i / 32 < a.length
  · obtain ⟨d, hd⟩ : ∃ d, a[i / 32]? = some d := ⟨_, List.getElem?_eq_getElem hlt⟩
    have hle : ¬ ((a.length : Int) ≤ (i : Int) / 32) := by omega
    have hb : 0 ≤ (i : Int) / 32 ∧ (i : Int) / 32 < (a.length : Int) := by omega
    simp [natV, hq, hr, hw, hw2, hw3, hd, hle, hb, hn, hge, hmin, hfd]
    refine ⟨.int _ _, ?_⟩
    have e : (d : Int) / 2 ^ (i % 32) = ((d / 2 ^ (i % 32) : Nat) : Int) := by simp
    rw [e]
    generalize d / 2 ^ (i % 32) = y
    have e1 : ((y : Int) % 2 ^ IntKind.u32.bits).toNat = y % 4294967296 := by simp only [IntKind.bits]; omega
    have e2 : 1 % 2 ^ IntKind.u32.bits = 1 := rfl
    rw [e1, e2, Nat.and_one_is_mod, u32_id (by omega) (by omega)]
    omega
  · have hle : (a.length : Int) ≤ (i : Int) / 32 := by omega
    have hd : a[i / 32]? = none := List.getElem?_eq_none (by omega)
    simp [natV, hq, hr, hw, hw2, hw3, hd, hle]
    exact .int _ _

end Go.Proofs.Ytngbibpmaofamaa.Ab

/- The reference's natural numbers: DivMod. -/
-- NatG
namespace Go.Proofs.Ytngbibpmaofamaa.Ab
open Go Num

def divV (m n : Nat) : V := if n = 0 then .tup [N 0, N 0, .bool false] else .tup [N (m / n), N (m % n), .bool true]
theorem divV_pure (m n : Nat) : (divV m n).Pure := by
  unfold divV
  split <;> exact .tup fun x hx => by simp at hx; rcases hx with rfl | rfl | rfl <;> first | exact N_pure _ | exact .bool _

theorem N_zero : N 0 = .imm [] false := by simp [N, natV, digits_zero]

/-- One step of long division. -/
theorem div_step (m n j : Nat) (hn : n ≠ 0) : let r := m / 2 ^ (j + 1) % n; let β := m / 2 ^ j % 2
    (r + r + β < n → m / 2 ^ j % n = r + r + β ∧ m / 2 ^ j / n = 2 * (m / 2 ^ (j + 1) / n)) ∧
    (¬ r + r + β < n → m / 2 ^ j % n = r + r + β - n ∧ m / 2 ^ j / n = 2 * (m / 2 ^ (j + 1) / n) + 1) := by
  intro r β
  have e1 : m / 2 ^ j = 2 * (m / 2 ^ (j + 1)) + β := by
    have : m / 2 ^ (j + 1) = m / 2 ^ j / 2 := by rw [Nat.pow_succ, Nat.div_div_eq_div_mul]
    rw [this]; omega
  have e2 := Nat.div_add_mod (m / 2 ^ (j + 1)) n
  have hr : r < n := Nat.mod_lt _ (by omega)
  have hβ : β < 2 := Nat.mod_lt _ (by decide)
  generalize hM : m / 2 ^ (j + 1) = M at *
  have hrM : r = M % n := by show m / 2 ^ (j + 1) % n = _; rw [hM]
  generalize hQ : M / n = Q at *
  have e3 : m / 2 ^ j = n * (2 * Q) + (r + r + β) := by
    have : n * (2 * Q) = 2 * (n * Q) := by rw [Nat.mul_left_comm]
    rw [e1, this]; show _ = _; omega
  rw [e3]
  have hpos : 0 < n := by omega
  constructor
  · intro h
    exact ⟨by rw [Nat.mul_add_mod, Nat.mod_eq_of_lt h], by rw [Nat.mul_add_div hpos, Nat.div_eq_of_lt h]; omega⟩
  · intro h
    have e4 : r + r + β = n + (r + r + β - n) := by omega
    have hlt : r + r + β - n < n := by omega
    have e5 : n * (2 * Q) + (r + r + β) = n * (2 * Q + 1) + (r + r + β - n) := by rw [Nat.mul_add]; omega
    rw [e5]
    exact ⟨by rw [Nat.mul_add_mod, Nat.mod_eq_of_lt hlt], by rw [Nat.mul_add_div hpos, Nat.div_eq_of_lt hlt, Nat.add_zero]⟩

theorem val_div : ∀ (l : List Nat) (p : Nat) {o : Nat}, (∀ d ∈ l, d < B) → l[p]? = some o → val l / B ^ p % B = o
  | [], p, o, _, h => by simp at h
  | d :: l, 0, o, hl, h => by
    simp at h; subst h
    have := hl d (List.mem_cons_self ..)
    simp only [val, Nat.pow_zero, Nat.div_one]
    rw [Nat.add_mul_mod_self_left, Nat.mod_eq_of_lt this]
  | d :: l, p + 1, o, hl, h => by
    have hd := hl d (List.mem_cons_self ..)
    have ih := val_div l p (fun x hx => hl x (List.mem_cons_of_mem _ hx)) (by simpa using h)
    rw [Nat.pow_succ', ← Nat.div_div_eq_div_mul]
    have : val (d :: l) / B = val l := by
      show (d + B * val l) / B = val l
      rw [Nat.add_mul_div_left _ _ (by decide), Nat.div_eq_of_lt hd, Nat.zero_add]
    rw [this]; exact ih

/-- A quotient bit is set. -/
theorem set_bit (l : List Nat) (Q j : Nat) (hl : ∀ d ∈ l, d < B) (hv : val l = Q * 2 ^ (j + 1)) {o : Nat} (ho : l[j / 32]? = some o) :
    o ||| 2 ^ (j % 32) = o + 2 ^ (j % 32) ∧ o + 2 ^ (j % 32) < B ∧ val (l.set (j / 32) (o + 2 ^ (j % 32))) = (2 * Q + 1) * 2 ^ j := by
  have hr : j % 32 < 32 := Nat.mod_lt _ (by decide)
  have hj : j = 32 * (j / 32) + j % 32 := (Nat.div_add_mod j 32).symm
  generalize hp : j / 32 = p at *
  generalize hrr : j % 32 = r at *
  have hB : B ^ p = 2 ^ (32 * p) := by rw [Nat.pow_mul]; rfl
  have hoB : o < B := hl o (List.mem_of_getElem? ho)
  -- the digit is a multiple of 2 ^ (r + 1)
  have hdvd : ∃ c, o = 2 ^ (r + 1) * c := by
    have h1 : val l / B ^ p % B = o := val_div l p hl ho
    have h2 : val l / B ^ p = Q * 2 ^ (r + 1) := by
      rw [hv, hB]
      have : 2 ^ (j + 1) = 2 ^ (32 * p) * 2 ^ (r + 1) := by rw [← Nat.pow_add]; congr 1; omega
      rw [this, Nat.mul_left_comm, Nat.mul_div_cancel_left _ (Nat.two_pow_pos _)]
    obtain ⟨s, hs⟩ : ∃ s, 32 = r + 1 + s := ⟨31 - r, by omega⟩
    have h3 : B = 2 ^ (r + 1) * 2 ^ s := by rw [← Nat.pow_add, ← hs]; rfl
    rw [h2, h3, Nat.mul_comm Q, Nat.mul_mod_mul_left] at h1
    exact ⟨Q % 2 ^ s, h1.symm⟩
  obtain ⟨c, hc⟩ := hdvd
  have hlt : 2 ^ r < 2 ^ (r + 1) := by rw [Nat.pow_succ]; have := Nat.two_pow_pos r; omega
  have hor : o ||| 2 ^ r = o + 2 ^ r := by rw [hc]; exact (Nat.two_pow_add_eq_or_of_lt hlt c).symm
  refine ⟨hor, ?_, ?_⟩
  · obtain ⟨s, hs⟩ : ∃ s, 32 = r + 1 + s := ⟨31 - r, by omega⟩
    have h3 : B = 2 ^ (r + 1) * 2 ^ s := by rw [← Nat.pow_add, ← hs]; rfl
    rw [h3, hc] at hoB
    have h4 : c < 2 ^ s := Nat.lt_of_mul_lt_mul_left hoB
    have h5 : 2 ^ (r + 1) * (c + 1) ≤ 2 ^ (r + 1) * 2 ^ s := Nat.mul_le_mul_left _ h4
    rw [Nat.mul_add] at h5
    rw [h3, hc]
    omega
  · have h1 := val_set l p o (o + 2 ^ r) ho
    rw [Nat.mul_add] at h1
    have h2 : B ^ p * 2 ^ r = 2 ^ j := by rw [hB, ← Nat.pow_add]; congr 1; omega
    have h3 : Q * 2 ^ (j + 1) = 2 * Q * 2 ^ j := by rw [Nat.pow_succ, Nat.mul_comm 2 Q, Nat.mul_assoc, Nat.mul_comm 2]
    rw [Nat.add_mul, Nat.one_mul]
    omega

theorem pure_one {v : V} (h : v.Pure) : ∀ x ∈ [v], x.Pure := by
  intro x hx; simp only [List.mem_singleton] at hx; subst hx; exact h
theorem pure_two {v w : V} (h : v.Pure) (h' : w.Pure) : ∀ x ∈ [v, w], x.Pure := by
  intro x hx; simp only [List.mem_cons, List.not_mem_nil, or_false] at hx; rcases hx with rfl | rfl; exact h; exact h'

theorem bitlen_le (m k : Nat) (h : m < B ^ k) : bitlen m ≤ 32 * k := by
  unfold bitlen
  split
  · omega
  · rename_i h0
    have h1 := length_digits k m h
    have h2 : (digits m).length ≠ 0 := by rw [Ne, List.length_eq_zero_iff, digits_pos h0]; simp
    have h3 := wid_le (getD_lt (digits_lt m) ((digits m).length - 1))
    omega

theorem val_zeros (n : Nat) : val (List.replicate n 0) = 0 := by
  induction n with
  | zero => rfl
  | succ n ih => simp only [List.replicate_succ, val, ih, Nat.mul_zero, Nat.add_zero]

theorem dig_of_lt {n k : Nat} (h : n < B ^ k) (hk : k ≤ 268435456) : Dig (digits n) := ⟨digits_lt n, Nat.le_trans (length_digits k n h) hk⟩

theorem or_bit (o r : Nat) (hr : r < 32) (ho : o < B) (h1 : o ||| 2 ^ r = o + 2 ^ r) (h2 : o + 2 ^ r < B) :
    IntKind.u32.wrap ((o % 2 ^ IntKind.u32.bits ||| (IntKind.u32.wrap (2 ^ r) % 2 ^ IntKind.u32.bits).toNat : Nat) : Int) = (o : Int) + 2 ^ r := by
  have hB : B = 4294967296 := rfl
  have hb : (2 : Int) ^ IntKind.u32.bits = 4294967296 := by decide
  have hb' : (2 : Nat) ^ IntKind.u32.bits = 4294967296 := by decide
  have e0 : (2 : Int) ^ r = ((2 ^ r : Nat) : Int) := by simp
  rw [e0]
  generalize (2 : Nat) ^ r = w at *
  rw [u32_id (n := (w : Int)) (by omega) (by omega), hb, hb']
  have e1 : ((w : Int) % 4294967296).toNat = w := by omega
  have e2 : o % 4294967296 = o := by omega
  rw [e1, e2, h1, u32_id (by omega) (by omega)]
  omega

/-- Where long division stands. -/
def divInv (a : List Nat) (n : Nat) (k : Nat) (t : Env) (σ : H) : Prop :=
  ∃ ql : List Nat, k ≤ bitlen (val a) ∧ t 0 = natV a ∧ t 1 = N n ∧ t 4 = .sl 1 0 0 a.length true ∧ t 5 = N (val a / 2 ^ k % n) ∧ t 11 = .int .i64 ((k : Int) - 1) ∧ σ.get 0 = some (.rows 102 (ql.map digV)) ∧ ql.length = a.length ∧
    (∀ d ∈ ql, d < B) ∧ val ql = val a / 2 ^ k / n * 2 ^ k

theorem Run.frzNat' {P : Program} {f : FuncId} {args : List V} {σ : H} {K : V → H → Prop} (i : Nat) (l : List Nat) {b n : Nat} {ex : Bool} {e : TypeId} (hi : args[i]? = some (.sl 1 b 0 n ex))
    (hb : σ.get b = some (.rows e (l.map fun (d : Nat) => [.int .u32 (d : Int)]))) (hn : n = l.length) (h : Run P f (args.set i (natV l)) (σ.kill b) K) : Run P f args σ K := by
  have hz := Frz.sl (P := P) (sz := 1) (off := 0) (len := n) (ex := ex) (ex' := false) hb (by simp [hn]) (by simp)
  rw [List.drop_zero, List.take_of_length_le (by simp [hn])] at hz
  exact Run.frzArg i hi hz h

set_option maxRecDepth 100000 in
theorem DivMod_run (a b : List Nat) (ha : Dig a) (hb : Dig b) (hla : a.length ≤ 67108864) (hlb : b.length ≤ 67108864) : PRun Try.prog 142 [natV a, natV b] (fun r => r = divV (val a) (val b)) := by
  unfold PRun
  refine Run.frz ?_
  refine run_fn Try.func142 rfl (by simp) ?_
  have hdb := dig_digits hb
  simp
  refine Run.pcall (Trim_run b hb) (by simp [natV_pure]) ?_
  have hnB : val b < B ^ b.length := val_lt b hb.1
  generalize hn : val b = n at *
  have hdl := hdb.2
  by_cases h0 : n = 0
  · subst h0
    have hd : divV (val a) 0 = .tup [N 0, N 0, .bool false] := rfl
    have hp := divV_pure (val a) 0
    rw [hd] at hp ⊢
    simp [N, natV, digits_zero]
    rw [N_zero] at hp
    exact ⟨⟨_, (Frz.tup (i := 0) rfl Frz.nils).trans (Frz.tup (i := 1) rfl Frz.nils)⟩, hp⟩
  · have hne : digits n ≠ [] := by rw [digits_pos h0]; simp
    have hlen : (digits n).length ≠ 0 := by rw [Ne, List.length_eq_zero_iff]; exact hne
    have hl0 : ¬ (((digits n).length : Int) = 0) := by omega
    have hd : divV (val a) n = .tup [N (val a / n), N (val a % n), .bool true] := by simp [divV, h0]
    have hp := divV_pure (val a) n
    rw [hd] at hp ⊢
    simp [N, natV, hl0, hne]
    refine Run.pcall (Uint64_run a ha) (pure_one (natV_pure a)) ?_
    by_cases hs : val a < 18446744073709551616 ∧ n < 18446744073709551616
    · have hw1 : wordV (val a) = .tup [.int .u64 (val a), .bool true] := by simp [wordV, hs.1]
      have hw2 : wordV n = .tup [.int .u64 n, .bool true] := by simp [wordV, hs.2]
      simp [hw1]
      refine Run.pcall (Uint64_run (digits n) hdb) (pure_one (natV_pure _)) ?_
      rw [val_digits]
      simp [hw2]
      refine adrawP 8 [] mixed (by kernel_rfl) (by kernel_rfl) ?_
      have hm1 : val a / n ≤ val a := Nat.div_le_self _ _
      have hm2 : val a % n ≤ val a := Nat.mod_le _ _
      have hqi : (val a : Int) / n = ((val a / n : Nat) : Int) := (Int.natCast_ediv _ _).symm
      have hri : (val a : Int).tmod n = ((val a % n : Nat) : Int) := by rw [Int.tmod_eq_emod_of_nonneg (by omega)]; exact (Int.natCast_emod _ _).symm
      generalize val a / n = q at *
      generalize val a % n = r at *
      have hq : IntKind.u64.wrap (q : Int) = q := u64_id (by omega) (by omega)
      have hr : IntKind.u64.wrap (r : Int) = r := u64_id (by omega) (by omega)
      have hn0 : ¬ ((n : Int) = 0) := by omega
      simp [h0, hn0, hqi, hri, hq, hr]
      refine ⟨_, FromUint64_run q (by omega), .int _ _, _, FromUint64_run r (by omega), .int _ _, ?_⟩
      exact ⟨⟨_, Frz.refl⟩, hp⟩
    · obtain ⟨x, y, p, q, hw1, hw2, hpq⟩ : ∃ x y p q, wordV (val a) = .tup [.int .u64 x, .bool p] ∧ wordV n = .tup [.int .u64 y, .bool q] ∧ (p = false ∨ p = true ∧ q = false) := by
        by_cases h1 : val a < 18446744073709551616
        · have h2 : ¬ n < 18446744073709551616 := fun h => hs ⟨h1, h⟩
          exact ⟨val a, 0, true, false, by simp [wordV, h1], by simp [wordV, h2], .inr ⟨rfl, rfl⟩⟩
        · by_cases h2 : n < 18446744073709551616
          · exact ⟨0, n, false, true, by simp [wordV, h1], by simp [wordV, h2], .inl rfl⟩
          · exact ⟨0, 0, false, false, by simp [wordV, h1], by simp [wordV, h2], .inl rfl⟩
      simp [hw1]
      refine Run.pcall (Uint64_run (digits n) hdb) (pure_one (natV_pure _)) ?_
      rw [val_digits]
      have hlb0 := bitlen_le (val a) a.length (val_lt a ha.1)
      have hbits := lt_bitlen (val a)
      have hb1 : (a.length : Int) * 4 ≤ 1099511627776 ∧ (a.length : Int) ≤ 1099511627776 := by omega
      have hw3 : IntKind.i64.wrap ((bitlen (val a) : Int) - 1) = (bitlen (val a) : Int) - 1 := i64_id (by omega) (by omega)
      simp [hw2]
      rcases hpq with rfl | ⟨rfl, rfl⟩
      all_goals
        simp [hb1]
        refine Run.pcall (Bits_run a ha) (pure_one (natV_pure a)) ?_
        simp [hw3]
        refine ACode.frz 5 rfl Frz.nils ?_
        refine ac_loop (divInv a n) (bitlen (val a)) ?_ ?_
        · have hz0 : val a / 2 ^ bitlen (val a) = 0 := Nat.div_eq_of_lt hbits
          refine ⟨List.replicate a.length 0, Nat.le_refl _, ?_⟩
          rw [hz0, Nat.zero_mod, Nat.zero_div, N_zero]
          simp [natV, N, digV, val_zeros]
          exact fun _ => by decide
        · rintro k t σ ⟨ql, hk, t0, t1, t4, t5, t11, hσ, hql, hqd, hqv⟩
          have hu : σ.use 0 = true := σ.wf _ _ hσ
          cases k with
          | zero =>
            simp only [Nat.pow_zero, Nat.div_one, Nat.mul_one] at t5 hqv
            simp [t0, t1, t4, t5, t11]
            refine Run.frzNat (e := 102) 0 ql rfl (by rw [hσ]; rfl) hql.symm fun σ' => ?_
            refine Run.pcall (Trim_run ql ⟨hqd, by omega⟩) (pure_one (natV_pure _)) ?_
            rw [hqv]
            simp [t5]
            refine Run.pcall (Trim_run (digits (val a % n)) (dig_of_lt (Nat.lt_trans (Nat.mod_lt _ (by omega)) hnB) (by omega))) (pure_one (natV_pure _)) ?_
            rw [val_digits]
            simp
            exact ⟨⟨_, Frz.refl⟩, hp⟩
          | succ j =>
            have hrn : val a / 2 ^ (j + 1) % n < n := Nat.mod_lt _ (by omega)
            have hst := div_step (val a) n j h0
            simp only at hst
            obtain ⟨r, hr⟩ : ∃ r, val a / 2 ^ (j + 1) % n = r := ⟨_, rfl⟩
            obtain ⟨β, hβ⟩ : ∃ β, val a / 2 ^ j % 2 = β := ⟨_, rfl⟩
            have hβ2 : β < 2 := by rw [← hβ]; exact Nat.mod_lt _ (by decide)
            rw [hr] at hrn hst t5
            rw [hβ] at hst
            have hBk : n * 4 ≤ B ^ (b.length + 1) := by rw [Nat.pow_succ]; exact Nat.mul_le_mul (Nat.le_of_lt hnB) (by decide)
            have hd1 : Dig (digits r) := dig_of_lt (Nat.lt_trans hrn hnB) (by omega)
            have hl1 := length_digits _ _ (Nat.lt_trans hrn hnB)
            have hd2 : Dig (digits (r + r)) := dig_of_lt (k := b.length + 1) (by omega) (by omega)
            have hl2 := length_digits (b.length + 1) (r + r) (by omega)
            have hd3 : Dig (digits (r + r + 1)) := dig_of_lt (k := b.length + 1) (by omega) (by omega)
            have hj1 : (0 : Int) ≤ (j : Int) := by omega
            simp [t0, t1, t4, t5, t11]
            refine Run.pcall (Add_run (digits r) (digits r) hd1 hd1 (by omega) (by omega)) (pure_two (N_pure _) (N_pure _)) ?_
            rw [val_digits]
            simp [t0, t11]
            refine Run.pcall (bit_run a ha j (by omega)) (pure_two (natV_pure _) (.int _ _)) ?_
            rw [hβ]
            obtain ⟨x, hx⟩ : ∃ x, r + r + β = x := ⟨_, rfl⟩
            rw [hx] at hst
            have hd3 : Dig (digits x) := dig_of_lt (k := b.length + 1) (by omega) (by omega)
            rcases (by omega : β = 0 ∨ β = 1) with rfl | rfl
            focus
              obtain rfl : r + r = x := by omega
              have hσ2 := hσ
              simp [t0, t1, t11]
              refine Run.pcall (Sub_run (digits (r + r)) (digits n) hd3 hdb) (pure_two (N_pure _) (N_pure _)) ?_
              rw [val_digits, val_digits]
              generalize r + r = x at *
              generalize σ = σ' at *
            rotate_left
            focus
              simp [t0, t1, t11]
              refine Run.frzNat' (e := 102) 1 [1] rfl (by simp) rfl ?_
              generalize hσe : (σ.alloc (.rows 102 [[.int .u32 1]])).kill σ.nx = σ'
              have hσ2 : σ'.get 0 = some (.rows 102 (ql.map digV)) := by
                rw [← hσe]
                have := H.get_lt hσ
                simp [hσ]
                omega
              refine Run.pcall (Add_run (digits (r + r)) [1] hd2 ⟨by simp [B], by simp⟩ (by omega) (by simp)) (pure_two (N_pure _) (natV_pure _)) ?_
              rw [val_digits, show val [1] = 1 from rfl, hx]
              simp [t0, t1, t11]
              refine Run.pcall (Sub_run (digits x) (digits n) hd3 hdb) (pure_two (N_pure _) (N_pure _)) ?_
              rw [val_digits, val_digits]
            all_goals
              have hu2 := σ'.wf _ _ hσ2
              have hw5 : IntKind.i64.wrap ((j : Int) - 1) = (j : Int) - 1 := i64_id (by omega) (by omega)
              by_cases hxn : x < n
              · have hsv : subV x n = .tup [.nils, .bool false] := by simp [subV, hxn]
                obtain ⟨e1, e2⟩ := hst.1 hxn
                rw [hsv]
                simp [hw5, t0, t1, t4, t11]
                exact ⟨j, by omega, ql, by omega, by simp [t0], by simp [t1], by simp [t4], by simp [e1], by simp [hw5], hσ2, hql, hqd, by rw [e2, hqv, Nat.pow_succ, Nat.mul_comm 2, Nat.mul_assoc, Nat.mul_comm 2]⟩
              · have hsv : subV x n = .tup [N (x - n), .bool true] := by simp [subV, hxn]
                obtain ⟨e1, e2⟩ := hst.2 hxn
                obtain ⟨o, ho⟩ : ∃ o, ql[j / 32]? = some o := ⟨_, List.getElem?_eq_getElem (by omega)⟩
                obtain ⟨f1, f2, f3⟩ := set_bit ql _ j hqd hqv ho
                have hg1 : IntKind.i64.wrap ((j : Int) / 32) = (j : Int) / 32 := i64_id (by omega) (by omega)
                have hg2 : IntKind.i64.wrap ((j : Int) % 32) = (j : Int) % 32 := i64_id (by omega) (by omega)
                have hg3 : IntKind.u64.wrap ((j : Int) % 32) = (j : Int) % 32 := u64_id (by omega) (by omega)
                have hg4 : ((j : Int) / 32).toNat = j / 32 := by omega
                have hg5 : 0 ≤ (j : Int) / 32 ∧ (j : Int) / 32 < (a.length : Int) := by omega
                have hg6 : 0 ≤ (j : Int) % 32 := by omega
                have hg7 : min ((j : Int) % 32).toNat IntKind.u32.bits = j % 32 := by simp only [IntKind.bits]; omega
                have hg8 : (j : Int).tmod 32 = (j : Int) % 32 := Int.tmod_eq_emod_of_nonneg (by omega)
                have hor := or_bit o (j % 32) (Nat.mod_lt _ (by decide)) (hqd o (List.mem_of_getElem? ho)) f1 f2
                rw [hsv]
                simp [hw5, t0, t1, t4, t11, hg1, hg2, hg3, hg4, hg5, hg6, hg7, hg8, hσ2, hu2, ho, digV_def, hor]
                exact ⟨j, by omega, ql.set (j / 32) (o + 2 ^ (j % 32)), by omega, by simp [t0], by simp [t1], by simp [t4], by simp [e1], by simp, by rw [H.get_set', if_pos ⟨rfl, hu2⟩, List.map_set]; simp [digV], by simp [hql],
                  mem_set_lt hqd f2, by rw [f3, e2]⟩

end Go.Proofs.Ytngbibpmaofamaa.Ab

/- The reference's natural numbers: GCD. -/
-- NatH
namespace Go.Proofs.Ytngbibpmaofamaa.Ab
open Go Num

theorem digits_len_zero {n : Nat} : (digits n).length = 0 ↔ n = 0 := by
  constructor
  · intro h
    by_cases h0 : n = 0
    · exact h0
    · rw [digits_pos h0] at h; simp at h
  · intro h; subst h; simp [digits_zero]

set_option maxRecDepth 100000 in
theorem GCD_run (a b : List Nat) (ha : Dig a) (hb : Dig b) (hla : a.length ≤ 67108864) (hlb : b.length ≤ 67108864) : PRun Try.prog 141 [natV a, natV b] (fun r => r = N (Nat.gcd (val a) (val b))) := by
  unfold PRun
  refine run_fn Try.func141 rfl (by simp) ?_
  simp
  refine Run.pcall (Trim_run a ha) (pure_one (natV_pure a)) ?_
  simp
  refine Run.pcall (Trim_run b hb) (pure_one (natV_pure b)) ?_
  simp
  have hva := length_digits _ _ (val_lt a ha.1)
  have hvb := length_digits _ _ (val_lt b hb.1)
  refine ac_loop (fun n t σ => ∃ x, t 0 = N x ∧ t 1 = N n ∧ Nat.gcd x n = Nat.gcd (val a) (val b) ∧ (digits x).length ≤ 67108864 ∧ (digits n).length ≤ 67108864 ∧ σ = H.empty) (val b) (by
    refine ⟨val a, ?_, ?_, rfl, by omega, by omega, rfl⟩ <;> simp) ?_
  rintro n t σ ⟨x, h0, h1, hg, hx, hn, rfl⟩
  by_cases hz : n = 0
  · subst hz
    rw [Nat.gcd_zero_right] at hg
    rw [← hg]
    simp [h0, h1, N, natV, digits_zero]
    exact natV_pure _
  · have hlen : 0 < (digits n).length := Nat.pos_of_ne_zero fun h => hz (digits_len_zero.1 h)
    have hdx : Dig (digits x) := ⟨digits_lt x, by omega⟩
    have hdn : Dig (digits n) := ⟨digits_lt n, by omega⟩
    have hlen' : (0 : Int) < ((digits n).length : Int) := by omega
    have hl1 : digits n ≠ [] := by intro h; rw [h] at hlen; simp at hlen
    simp [h0, h1, N, natV, hlen', hlen, hl1]
    refine Run.pcall (DivMod_run (digits x) (digits n) hdx hdn hx hn) (pure_two (natV_pure _) (natV_pure _)) ?_
    rw [val_digits, val_digits]
    have hd : divV x n = .tup [N (x / n), N (x % n), .bool true] := by simp [divV, hz]
    rw [hd]
    simp [h1]
    have hlt := Nat.mod_lt x (Nat.pos_of_ne_zero hz)
    have hr := length_digits _ _ (Nat.lt_trans hlt (by have := val_lt (digits n) (digits_lt n); rwa [val_digits] at this))
    refine ⟨x % n, hlt, n, rfl, rfl, ?_, hn, by omega⟩
    rw [← hg, Nat.gcd_comm x n, Nat.gcd_comm n (x % n)]; exact (Nat.gcd_rec n x).symm

end Go.Proofs.Ytngbibpmaofamaa.Ab

/- The reference's integers: Make, Norm, Neg, Abs, FromInt. -/
-- IntA
namespace Go.Proofs.Ytngbibpmaofamaa.Ab
open Go Num

@[simp] theorem natV_one (l : List Nat) : (natV l).one = true := (rfl)
@[simp] theorem N_one (n : Nat) : (N n).one = true := (rfl)

/-- An integer as it is handed about: a sign and digits. -/
def intV (s : Bool) (l : List Nat) : V := .agg [.bool s, natV l]
theorem intV_pure (s : Bool) (l : List Nat) : (intV s l).Pure := .agg fun x hx => by simp at hx; rcases hx with rfl | rfl; exact .bool _; exact natV_pure _
def sval (s : Bool) (l : List Nat) : Int := if s then -(val l : Int) else val l
/-- An integer as its canonical value. -/
def Z (z : Int) : V := intV (decide (z < 0)) (digits z.natAbs)
theorem Z_pure (z : Int) : (Z z).Pure := intV_pure _ _
theorem sval_Z (z : Int) : sval (decide (z < 0)) (digits z.natAbs) = z := by
  unfold sval
  rw [val_digits]
  by_cases h : z < 0
  · simp [h]; omega
  · simp [h]; omega

theorem Z_sval (s : Bool) (l : List Nat) : Z (sval s l) = .agg [.bool (s && decide (val l ≠ 0)), N (val l)] := by
  unfold Z intV sval N
  cases s
  · have h : ¬ ((val l : Int) < 0) := by omega
    simp [h]
  · by_cases h : val l = 0
    · simp [h]
    · have h' : -(val l : Int) < 0 := by omega
      simp [h, h']
      omega

set_option maxRecDepth 100000 in
theorem Make_run (s : Bool) (l : List Nat) (hl : Dig l) : PRun Try.prog 108 [.bool s, natV l] (fun r => r = Z (sval s l)) := by
  unfold PRun
  refine run_fn Try.func108 rfl (by simp) ?_
  rw [Z_sval]
  simp
  refine Run.pcall (Trim_run l hl) (pure_one (natV_pure l)) ?_
  cases s
  · simp [N, natV]
    exact intV_pure _ _
  · by_cases h : val l = 0
    · simp [N, natV, h, digits_zero]
      exact intV_pure _ []
    · have hlen : 0 < (digits (val l)).length := Nat.pos_of_ne_zero fun h' => h (digits_len_zero.1 h')
      have hl1 : digits (val l) ≠ [] := by intro h; rw [h] at hlen; simp at hlen
      simp [N, natV, h, hlen, hl1]
      exact intV_pure _ _

theorem pure_bn (s : Bool) (l : List Nat) : ∀ x ∈ [V.bool s, natV l], x.Pure := pure_two (.bool s) (natV_pure l)
theorem Make_N (s : Bool) (n : Nat) (h : Dig (digits n)) : PRun Try.prog 108 [.bool s, N n] (fun r => r = Z (if s then -(n : Int) else n)) := by
  have := Make_run s (digits n) h
  rwa [sval, val_digits] at this

set_option maxRecDepth 100000 in
theorem Norm_run (s : Bool) (l : List Nat) (hl : Dig l) : PRun Try.prog 103 [intV s l] (fun r => r = Z (sval s l)) := by
  unfold PRun
  refine run_fn Try.func103 rfl (by simp) ?_
  simp [intV]
  refine Run.pcall (Make_run s l hl) (pure_bn s l) ?_
  have hp := Z_pure (sval s l)
  generalize hz : sval s l = z at *
  simp [Z, intV]
  exact hp

theorem sval_neg (s : Bool) (l : List Nat) : sval (!s) l = -sval s l := by cases s <;> simp [sval]
theorem sval_abs (s : Bool) (l : List Nat) : sval false l = ((sval s l).natAbs : Int) := by cases s <;> simp [sval]

set_option maxRecDepth 100000 in
theorem Neg_run (s : Bool) (l : List Nat) (hl : Dig l) : PRun Try.prog 107 [intV s l] (fun r => r = Z (-sval s l)) := by
  unfold PRun
  refine run_fn Try.func107 rfl (by simp) ?_
  rw [← sval_neg]
  simp [intV]
  refine Run.pcall (Make_run (!s) l hl) (pure_bn _ l) ?_
  have hp := Z_pure (sval (!s) l)
  generalize hz : sval (!s) l = z at *
  simp [Z, intV]
  exact hp

set_option maxRecDepth 100000 in
theorem Abs_run (s : Bool) (l : List Nat) (hl : Dig l) : PRun Try.prog 144 [intV s l] (fun r => r = Z ((sval s l).natAbs : Int)) := by
  unfold PRun
  refine run_fn Try.func144 rfl (by simp) ?_
  rw [← sval_abs s l]
  simp [intV]
  refine Run.pcall (Make_run false l hl) (pure_bn _ l) ?_
  have hp := Z_pure (sval false l)
  generalize hz : sval false l = z at *
  simp [Z, intV]
  exact hp

theorem dig_u64 {n : Nat} (h : n < 18446744073709551616) : Dig (digits n) := dig_of_lt (k := 2) (by simpa [B] using h) (by omega)

set_option maxRecDepth 100000 in
theorem FromInt_run (v : Int) (h1 : -9223372036854775808 ≤ v) (h2 : v < 9223372036854775808) : PRun Try.prog 64 [.int .i64 v] (fun r => r = Z v) := by
  unfold PRun
  refine run_fn Try.func64 rfl (by simp) ?_
  by_cases hn : v < 0
  · have hw1 : IntKind.i64.wrap (v + 1) = v + 1 := i64_id (by omega) (by omega)
    have hw2 : IntKind.i64.wrap (-(v + 1)) = -(v + 1) := i64_id (by omega) (by omega)
    have hw3 : IntKind.u64.wrap (-(v + 1)) = -(v + 1) := u64_id (by omega) (by omega)
    have hw4 : IntKind.u64.wrap (-(v + 1) + 1) = (v.natAbs : Int) := by rw [u64_id (by omega) (by omega)]; omega
    simp [hn, hw1, hw2, hw3, hw4]
    refine Run.pcall (FromUint64_run _ (by omega)) (pure_one (.int _ _)) ?_
    simp
    refine Run.pcall (Make_N true _ (dig_u64 (by omega))) (pure_two (.bool _) (N_pure _)) ?_
    have e : (if true = true then -(v.natAbs : Int) else v.natAbs) = v := by simp; omega
    rw [e]
    have hp := Z_pure v
    simp [Z, intV]
    exact hp
  · have hw3 : IntKind.u64.wrap v = (v.natAbs : Int) := by rw [u64_id (by omega) (by omega)]; omega
    simp [hn, hw3]
    refine Run.pcall (FromUint64_run _ (by omega)) (pure_one (.int _ _)) ?_
    simp
    refine Run.pcall (Make_N false _ (dig_u64 (by omega))) (pure_two (.bool _) (N_pure _)) ?_
    have e : (if false = true then -(v.natAbs : Int) else v.natAbs) = v := by simp; omega
    rw [e]
    have hp := Z_pure v
    simp [Z, intV]
    exact hp

end Go.Proofs.Ytngbibpmaofamaa.Ab

/- The reference's integers: Sign, Value, Add, Sub, Mul, GCD. -/
-- IntB
namespace Go.Proofs.Ytngbibpmaofamaa.Ab
open Go Num

/-- An integer of at most so many digits. -/
def Sm (k : Nat) (z : Int) : Prop := z.natAbs < B ^ k
theorem Sm.mono {k k' : Nat} {z : Int} (h : Sm k z) (hk : k ≤ k') : Sm k' z := Nat.lt_of_lt_of_le h (pow_le_of_le hk)
theorem Sm.len {k : Nat} {z : Int} (h : Sm k z) : (digits z.natAbs).length ≤ k := length_digits _ _ h
theorem Sm.dig {k : Nat} {z : Int} (h : Sm k z) (hk : k ≤ 268435456) : Dig (digits z.natAbs) := dig_of_lt h hk
theorem Sm.neg {k : Nat} {z : Int} (h : Sm k z) : Sm k (-z) := by unfold Sm at *; rwa [Int.natAbs_neg]
theorem Sm.abs {k : Nat} {z : Int} (h : Sm k z) : Sm k (z.natAbs : Int) := by unfold Sm at *; simpa using h
theorem Sm.add {k : Nat} {x y : Int} (hx : Sm k x) (hy : Sm k y) : Sm (k + 1) (x + y) := by
  unfold Sm at *
  have h1 := Int.natAbs_add_le x y
  have h2 : B ^ k * 4 ≤ B ^ (k + 1) := by rw [Nat.pow_succ]; exact Nat.mul_le_mul_left _ (by decide)
  omega
theorem Sm.mul {k k' : Nat} {x y : Int} (hx : Sm k x) (hy : Sm k' y) : Sm (k + k') (x * y) := by
  unfold Sm at *
  rw [Int.natAbs_mul, Nat.pow_add]
  exact Nat.mul_lt_mul'' hx hy
theorem Sm.le {k : Nat} {x y : Int} (hx : Sm k x) (h : y.natAbs ≤ x.natAbs) : Sm k y := Nat.lt_of_le_of_lt h hx

theorem Norm_Z (z : Int) {k : Nat} (h : Sm k z) (hk : k ≤ 268435456) : PRun Try.prog 103 [Z z] (fun r => r = Z z) := by
  have := Norm_run (decide (z < 0)) (digits z.natAbs) (h.dig hk)
  rwa [sval_Z] at this
theorem Neg_Z (z : Int) {k : Nat} (h : Sm k z) (hk : k ≤ 268435456) : PRun Try.prog 107 [Z z] (fun r => r = Z (-z)) := by
  have := Neg_run (decide (z < 0)) (digits z.natAbs) (h.dig hk)
  rwa [sval_Z] at this
theorem Abs_Z (z : Int) {k : Nat} (h : Sm k z) (hk : k ≤ 268435456) : PRun Try.prog 144 [Z z] (fun r => r = Z (z.natAbs : Int)) := by
  have := Abs_run (decide (z < 0)) (digits z.natAbs) (h.dig hk)
  rwa [sval_Z] at this

theorem Z_eq (z : Int) : Z z = .agg [.bool (decide (z < 0)), N z.natAbs] := rfl
theorem pure_Z (z : Int) : ∀ x ∈ [Z z], x.Pure := pure_one (Z_pure z)
theorem pure_ZZ (z y : Int) : ∀ x ∈ [Z z, Z y], x.Pure := pure_two (Z_pure z) (Z_pure y)
theorem pure_BN (b : Bool) (n : Nat) : ∀ x ∈ [V.bool b, N n], x.Pure := pure_two (.bool b) (N_pure n)
theorem pure_NN (m n : Nat) : ∀ x ∈ [N m, N n], x.Pure := pure_two (N_pure m) (N_pure n)
theorem pure_agg (b : Bool) (n : Nat) : ∀ x ∈ [V.agg [V.bool b, N n]], x.Pure := pure_one (intV_pure b _)
set_option maxRecDepth 100000 in
theorem Sign_Z (z : Int) {k : Nat} (h : Sm k z) (hk : k ≤ 268435456) : PRun Try.prog 102 [Z z] (fun r => r = .int .i64 z.sign) := by
  unfold PRun
  refine run_fn Try.func102 rfl (by simp) ?_
  simp [Z_eq]
  refine Run.pcall (Norm_Z z h hk) (pure_Z z) ?_
  simp [Z_eq]
  by_cases hz : z < 0
  · have e : z.sign = -1 := Int.sign_eq_neg_one_of_neg hz
    simp [hz, e]
    exact .int _ _
  · by_cases h0 : z = 0
    · subst h0
      simp [digits_zero, N, natV]
      exact .int _ _
    · have e : z.sign = 1 := Int.sign_eq_one_of_pos (by omega)
      have hlen : digits z.natAbs ≠ [] := by intro h; have := digits_len_zero.1 (by rw [h]; rfl); omega
      simp [hz, e, h0, hlen, N, natV]
      exact .int _ _

theorem Add_N (m n : Nat) {k : Nat} (hm : m < B ^ k) (hn : n < B ^ k) (hk : k ≤ 134217728) : PRun Try.prog 157 [N m, N n] (fun r => r = N (m + n)) := by
  have h1 := length_digits _ _ hm
  have h2 := length_digits _ _ hn
  have := Add_run (digits m) (digits n) (dig_of_lt hm (by omega)) (dig_of_lt hn (by omega)) (by omega) (by omega)
  rwa [val_digits, val_digits] at this
theorem Sub_N (m n : Nat) {k : Nat} (hm : m < B ^ k) (hn : n < B ^ k) (hk : k ≤ 134217728) : PRun Try.prog 159 [N m, N n] (fun r => r = subV m n) := by
  have := Sub_run (digits m) (digits n) (dig_of_lt hm (by omega)) (dig_of_lt hn (by omega))
  rwa [val_digits, val_digits] at this
theorem Mul_N (m n : Nat) {k : Nat} (hm : m < B ^ k) (hn : n < B ^ k) (hk : k ≤ 67108864) : PRun Try.prog 140 [N m, N n] (fun r => r = N (m * n)) := by
  have h1 := length_digits _ _ hm
  have h2 := length_digits _ _ hn
  have := Mul_run (digits m) (digits n) (dig_of_lt hm (by omega)) (dig_of_lt hn (by omega)) (by omega) (by omega)
  rwa [val_digits, val_digits] at this
theorem DivMod_N (m n : Nat) {k : Nat} (hm : m < B ^ k) (hn : n < B ^ k) (hk : k ≤ 67108864) : PRun Try.prog 142 [N m, N n] (fun r => r = divV m n) := by
  have h1 := length_digits _ _ hm
  have h2 := length_digits _ _ hn
  have := DivMod_run (digits m) (digits n) (dig_of_lt hm (by omega)) (dig_of_lt hn (by omega)) (by omega) (by omega)
  rwa [val_digits, val_digits] at this
theorem GCD_N (m n : Nat) {k : Nat} (hm : m < B ^ k) (hn : n < B ^ k) (hk : k ≤ 67108864) : PRun Try.prog 141 [N m, N n] (fun r => r = N (Nat.gcd m n)) := by
  have h1 := length_digits _ _ hm
  have h2 := length_digits _ _ hn
  have := GCD_run (digits m) (digits n) (dig_of_lt hm (by omega)) (dig_of_lt hn (by omega)) (by omega) (by omega)
  rwa [val_digits, val_digits] at this
theorem Make_to (b : Bool) (n : Nat) (z : Int) {k : Nat} (hz : Sm k z) (hk : k ≤ 268435456) (hn : n = z.natAbs) (hb : if b then z ≤ 0 else 0 ≤ z) : PRun Try.prog 108 [.bool b, N n] (fun r => r = Z z) := by
  have := Make_N b n (by rw [hn]; exact hz.dig hk)
  have e : (if b then -(n : Int) else n) = z := by cases b <;> simp at hb ⊢ <;> omega
  rwa [e] at this

set_option maxRecDepth 100000 in
theorem Add_Z (x y : Int) {k : Nat} (hx : Sm k x) (hy : Sm k y) (hk : k ≤ 67108864) : PRun Try.prog 143 [Z x, Z y] (fun r => r = Z (x + y)) := by
  unfold PRun
  refine run_fn Try.func143 rfl (by simp) ?_
  have hdx := hx.dig (by omega)
  have hdy := hy.dig (by omega)
  have hlx := hx.len
  have hly := hy.len
  have hp := Z_pure (x + y)
  have hsum := hx.add hy
  by_cases hs : decide (x < 0) = decide (y < 0)
  · have hs' : x < 0 ↔ y < 0 := by simpa using hs
    simp [Z_eq, hs]
    refine adrawP 8 [] mixed (by kernel_rfl) (by kernel_rfl) ?_
    simp
    refine ⟨_, Add_N _ _ hx hy (by omega), ⟨N_pure _, N_pure _⟩, Z (x + y), Make_to _ _ _ hsum (by omega) (by omega) (by by_cases h : y < 0 <;> simp [h] <;> omega), ⟨.bool _, N_pure _⟩, ?_⟩
    simp [Z_eq]
    exact hp
  · have hs' : ¬ (x < 0 ↔ y < 0) := by simpa using hs
    have hb : (decide (x < 0) == decide (y < 0)) = false := by simpa using hs
    simp [Z_eq, hb]
    refine Run.pcall (Sub_N _ _ hx hy (by omega)) (pure_NN _ _) ?_
    by_cases hle : x.natAbs < y.natAbs
    · have e : subV x.natAbs y.natAbs = .tup [.nils, .bool false] := by simp [subV, hle]
      rw [e]
      simp
      refine Run.pcall (Sub_N _ _ hy hx (by omega)) (pure_NN _ _) ?_
      have e : subV y.natAbs x.natAbs = .tup [N (y.natAbs - x.natAbs), .bool true] := by simp [subV]; omega
      rw [e]
      simp
      refine Run.pcall (Make_to _ _ (x + y) hsum (by omega) (by omega) (by by_cases h : y < 0 <;> simp [h] <;> omega)) (pure_BN _ _) ?_
      simp [Z_eq]
      exact hp
    · have e : subV x.natAbs y.natAbs = .tup [N (x.natAbs - y.natAbs), .bool true] := by simp [subV, hle]
      rw [e]
      simp
      refine Run.pcall (Make_to _ _ (x + y) hsum (by omega) (by omega) (by by_cases h : x < 0 <;> simp [h] <;> omega)) (pure_BN _ _) ?_
      simp [Z_eq]
      exact hp

set_option maxRecDepth 100000 in
theorem SubZ_Z (x y : Int) {k : Nat} (hx : Sm k x) (hy : Sm k y) (hk : k ≤ 67108864) : PRun Try.prog 145 [Z x, Z y] (fun r => r = Z (x - y)) := by
  unfold PRun
  refine run_fn Try.func145 rfl (by simp) ?_
  have hp := Z_pure (x - y)
  simp [Z_eq]
  refine adrawP 4 [] mixed (by kernel_rfl) (by kernel_rfl) ?_
  simp [← Z_eq]
  refine ⟨_, Neg_Z y hy (by omega), Z_pure _, Z (x - y), (Int.sub_eq_add_neg ▸ Add_Z x (-y) hx hy.neg hk), ⟨Z_pure _, Z_pure _⟩, ?_⟩
  simp [Z_eq]
  exact hp

theorem mul_sign {x y : Int} : (if (decide (x < 0) != decide (y < 0)) = true then x * y ≤ 0 else 0 ≤ x * y) := by
  by_cases h1 : x < 0
  · by_cases h2 : y < 0
    · simp [h1, h2]; exact Int.mul_nonneg_of_nonpos_of_nonpos (by omega) (by omega)
    · simp [h1, h2]; exact Int.mul_nonpos_of_nonpos_of_nonneg (by omega) (by omega)
  · by_cases h2 : y < 0
    · simp [h1, h2]; exact Int.mul_nonpos_of_nonneg_of_nonpos (by omega) (by omega)
    · simp [h1, h2]; exact Int.mul_nonneg (by omega) (by omega)

set_option maxRecDepth 100000 in
theorem Mul_Z (x y : Int) {k : Nat} (hx : Sm k x) (hy : Sm k y) (hk : k ≤ 67108864) : PRun Try.prog 99 [Z x, Z y] (fun r => r = Z (x * y)) := by
  unfold PRun
  refine run_fn Try.func99 rfl (by simp) ?_
  have hp := Z_pure (x * y)
  have hm := hx.mul hy
  simp [Z_eq]
  refine adrawP 11 [] mixed (by kernel_rfl) (by kernel_rfl) ?_
  simp
  refine ⟨_, Mul_N _ _ hx hy hk, ⟨N_pure _, N_pure _⟩, Z (x * y), Make_to _ _ _ hm (by omega) (Int.natAbs_mul _ _).symm mul_sign, ⟨.bool _, N_pure _⟩, ?_⟩
  simp [Z_eq]
  exact hp

theorem gcd_sm {k : Nat} {x y : Int} (hx : Sm k x) (hy : Sm k y) : Sm k (Int.gcd x y : Int) := by
  unfold Sm at *
  show (Int.natAbs (Nat.gcd x.natAbs y.natAbs : Int)) < _
  rw [Int.natAbs_natCast]
  by_cases h : x.natAbs = 0
  · rw [h, Nat.gcd_zero_left]; exact hy
  · exact Nat.lt_of_le_of_lt (Nat.gcd_le_left _ (by omega)) hx

set_option maxRecDepth 100000 in
theorem GCD_Z (x y : Int) {k : Nat} (hx : Sm k x) (hy : Sm k y) (hk : k ≤ 67108864) : PRun Try.prog 105 [Z x, Z y] (fun r => r = Z (Int.gcd x y : Int)) := by
  unfold PRun
  refine run_fn Try.func105 rfl (by simp) ?_
  have hp := Z_pure (Int.gcd x y : Int)
  simp [Z_eq]
  refine Run.pcall (GCD_N _ _ hx hy hk) (pure_NN _ _) ?_
  simp
  refine Run.pcall (Make_to false _ (Int.gcd x y : Int) (gcd_sm hx hy) (by omega) (by simp [Int.gcd]) (by simp)) (pure_BN _ _) ?_
  simp [Z_eq]
  exact hp

end Go.Proofs.Ytngbibpmaofamaa.Ab

/- The reference's integers: Value, DivMod. -/
-- IntC
namespace Go.Proofs.Ytngbibpmaofamaa.Ab
open Go Num

def valueV (z : Int) : V := if -9223372036854775808 ≤ z ∧ z < 9223372036854775808 then .tup [.int .i64 z, .bool true] else .tup [.int .i64 0, .bool false]
theorem Uint64_N (n : Nat) {k : Nat} (hn : n < B ^ k) (hk : k ≤ 268435456) : PRun Try.prog 112 [N n] (fun r => r = wordV n) := by
  have := Uint64_run (digits n) (dig_of_lt hn hk)
  rwa [val_digits] at this
theorem pure_ib (x : Int) (b : Bool) : (V.tup [.int .i64 x, .bool b]).Pure := .tup fun x hx => by simp at hx; rcases hx with rfl | rfl; exact .int _ _; exact .bool _

set_option maxRecDepth 100000 in
theorem Value_Z (z : Int) {k : Nat} (h : Sm k z) (hk : k ≤ 268435456) : PRun Try.prog 68 [Z z] (fun r => r = valueV z) := by
  unfold PRun
  refine run_fn Try.func68 rfl (by simp) ?_
  simp [Z_eq]
  refine Run.pcall (Norm_Z z h hk) (pure_Z z) ?_
  simp [Z_eq]
  refine Run.pcall (Uint64_N _ h hk) (pure_one (N_pure _)) ?_
  by_cases hw : z.natAbs < 18446744073709551616
  · have e : wordV z.natAbs = .tup [.int .u64 z.natAbs, .bool true] := by simp [wordV, hw]
    rw [e]
    by_cases hz : z < 0
    · by_cases hb : -9223372036854775808 ≤ z
      · have ev : valueV z = .tup [.int .i64 z, .bool true] := by simp [valueV]; omega
        have h1 : (z.natAbs : Int) ≤ 9223372036854775808 := by omega
        have h2 : IntKind.u64.wrap ((z.natAbs : Int) - 1) = (z.natAbs : Int) - 1 := u64_id (by omega) (by omega)
        have h3 : IntKind.i64.wrap ((z.natAbs : Int) - 1) = (z.natAbs : Int) - 1 := i64_id (by omega) (by omega)
        have h4 : IntKind.i64.wrap (-((z.natAbs : Int) - 1)) = -((z.natAbs : Int) - 1) := i64_id (by omega) (by omega)
        have h5 : IntKind.i64.wrap (-((z.natAbs : Int) - 1) - 1) = z := by rw [i64_id (by omega) (by omega)]; omega
        rw [ev]
        simp [hz, h1, h2, h3, h4, h5]
        exact pure_ib _ _
      · have ev : valueV z = .tup [.int .i64 0, .bool false] := by simp [valueV]; omega
        have h1 : ¬ (z.natAbs : Int) ≤ 9223372036854775808 := by omega
        rw [ev]
        simp [hz, h1]
        exact pure_ib _ _
    · by_cases hb : z < 9223372036854775808
      · have ev : valueV z = .tup [.int .i64 z, .bool true] := by simp [valueV]; omega
        have h1 : (z.natAbs : Int) < 9223372036854775808 := by omega
        have h3 : IntKind.i64.wrap (z.natAbs : Int) = z := by rw [i64_id (by omega) (by omega)]; omega
        rw [ev]
        simp [hz, h1, h3]
        exact pure_ib _ _
      · have ev : valueV z = .tup [.int .i64 0, .bool false] := by simp [valueV]; omega
        have h1 : ¬ (z.natAbs : Int) < 9223372036854775808 := by omega
        rw [ev]
        simp [hz, h1]
        exact pure_ib _ _
  · have e : wordV z.natAbs = .tup [.int .u64 0, .bool false] := by simp [wordV, hw]
    have ev : valueV z = .tup [.int .i64 0, .bool false] := by simp [valueV]; omega
    rw [e, ev]
    simp
    exact pure_ib _ _

def divZ (x y : Int) : V := if y = 0 then .tup [Z 0, Z 0, .bool false] else .tup [Z (x / y), Z (x % y), .bool true]
theorem divZ_pure (x y : Int) : (divZ x y).Pure := by
  unfold divZ
  split <;> exact .tup fun x hx => by simp at hx; rcases hx with rfl | rfl | rfl <;> first | exact Z_pure _ | exact .bool _

theorem tdiv_sign {x y : Int} : (if (decide (x < 0) != decide (y < 0)) = true then x.tdiv y ≤ 0 else 0 ≤ x.tdiv y) := by
  by_cases h1 : x < 0
  · have e : x = -(-x) := by omega
    by_cases h2 : y < 0
    · have e' : y = -(-y) := by omega
      simp [h1, h2]
      rw [e, e', Int.neg_tdiv, Int.tdiv_neg, Int.neg_neg]
      exact Int.tdiv_nonneg (by omega) (by omega)
    · simp [h1, h2]
      rw [e, Int.neg_tdiv]
      have := Int.tdiv_nonneg (show 0 ≤ -x by omega) (show 0 ≤ y by omega)
      omega
  · by_cases h2 : y < 0
    · have e' : y = -(-y) := by omega
      simp [h1, h2]
      rw [e', Int.tdiv_neg]
      have := Int.tdiv_nonneg (show 0 ≤ x by omega) (show 0 ≤ -y by omega)
      omega
    · simp [h1, h2]; exact Int.tdiv_nonneg (by omega) (by omega)

set_option maxRecDepth 100000 in
theorem DivMod_Z (x y : Int) {k : Nat} (hx : Sm k x) (hy : Sm k y) (hk : k ≤ 67108860) (h0 : y ≠ 0) : PRun Try.prog 106 [Z x, Z y] (fun r => r = .tup [Z (x / y), Z (x % y), .bool true]) := by
  unfold PRun
  refine run_fn Try.func106 rfl (by simp) ?_
  simp [Z_eq]
  refine Run.pcall (DivMod_N _ _ hx hy (by omega)) (pure_NN _ _) ?_
  have e : divV x.natAbs y.natAbs = .tup [N (x.natAbs / y.natAbs), N (x.natAbs % y.natAbs), .bool true] := by simp [divV, h0]
  rw [e]
  simp
  refine adrawP 11 [] mixed (by kernel_rfl) (by kernel_rfl) ?_
  simp
  have hq0 : (x.tdiv y).natAbs = x.natAbs / y.natAbs := Int.natAbs_tdiv _ _
  have hr0 : (x.tmod y).natAbs = x.natAbs % y.natAbs := Int.natAbs_tmod _ _
  have sq : Sm k (x.tdiv y) := by unfold Sm; rw [hq0]; exact Nat.lt_of_le_of_lt (Nat.div_le_self _ _) hx
  have sr : Sm k (x.tmod y) := by unfold Sm; rw [hr0]; exact Nat.lt_of_le_of_lt (Nat.mod_le _ _) hx
  have hsr : if decide (x < 0) = true then x.tmod y ≤ 0 else 0 ≤ x.tmod y := by
    by_cases h : x < 0
    · simp [h]
      have := Int.tmod_nonneg y (show 0 ≤ -x by omega)
      rw [Int.neg_tmod] at this; omega
    · simp [h]; exact Int.tmod_nonneg _ (by omega)
  refine ⟨Z (x.tdiv y), Make_to _ _ _ sq (by omega) hq0.symm tdiv_sign, ⟨.bool _, N_pure _⟩, Z (x.tmod y), Make_to _ _ _ sr (by omega) hr0.symm hsr, ⟨.bool _, N_pure _⟩, ?_⟩
  have d1 := @Int.tdiv_eq_ediv x y
  have d2 := @Int.tmod_eq_emod x y
  have b1 := Int.emod_nonneg x h0
  have b2 : x % y < y.natAbs := Int.emod_lt x h0
  have hp : (V.tup [Z (x / y), Z (x % y), .bool true]).Pure := .tup fun x hx => by simp at hx; rcases hx with rfl | rfl | rfl <;> first | exact Z_pure _ | exact .bool _
  generalize hqe : x.tdiv y = q0 at *
  generalize hre : x.tmod y = r0 at *
  by_cases hneg : r0 < 0
  · simp [Z_eq, hneg]
    refine adrawP 4 [] mixed (by kernel_rfl) (by kernel_rfl) ?_
    have sy := sr.add hy.abs
    have e0 : V.agg [V.bool true, N r0.natAbs] = Z r0 := by simp [Z_eq, hneg]
    have hnn : ¬ (x % y < 0) := by omega
    simp [← Z_eq]
    rw [e0]
    refine ⟨Z (y.natAbs : Int), Abs_Z y hy (by omega), Z_pure _, Z (r0 + y.natAbs), Add_Z r0 y.natAbs sr hy.abs (by omega), ⟨Z_pure _, Z_pure _⟩, ?_⟩
    have er : r0 + y.natAbs = x % y := by split at d2 <;> omega
    rw [er]
    simp [Z_eq]
    have hlt : ¬ (0 ≤ x ∨ y ∣ x) := by
      intro h
      rw [if_pos h] at d2
      omega
    rw [if_neg hlt] at d1
    have sone : Sm (k + 1) 1 := by
      unfold Sm
      have := Nat.pow_pos (n := k + 1) (show 0 < B by decide)
      have h2 := pow_le_of_le (show 1 ≤ k + 1 by omega)
      have h3 : B ^ 1 = 4294967296 := rfl
      have h4 : (1 : Int).natAbs = 1 := rfl
      omega
    by_cases hyn : y < 0
    · have ey : y.sign = -1 := Int.sign_eq_neg_one_of_neg hyn
      simp [hyn]
      refine adrawP 3 [] mixed (by kernel_rfl) (by kernel_rfl) ?_
      simp [← Z_eq]
      have eq : q0 + 1 = x / y := by omega
      refine ⟨Z 1, FromInt_run 1 (by omega) (by omega), .int _ _, Z (q0 + 1), Add_Z q0 1 (sq.mono (Nat.le_succ k)) sone (by omega), ⟨Z_pure _, Z_pure _⟩, ?_⟩
      rw [eq]
      simp [Z_eq]
      refine adraw3 3 [2] [(2, 1)] mixed (by kernel_rfl) (by kernel_rfl) ?_
      simp
      simpa [Z_eq, hnn] using hp
    · have ey : y.sign = 1 := Int.sign_eq_one_of_pos (by omega)
      simp [hyn]
      refine adrawP 3 [] mixed (by kernel_rfl) (by kernel_rfl) ?_
      simp [← Z_eq]
      have eq : q0 - 1 = x / y := by omega
      refine ⟨Z 1, FromInt_run 1 (by omega) (by omega), .int _ _, Z (q0 - 1), SubZ_Z q0 1 (sq.mono (Nat.le_succ k)) sone (by omega), ⟨Z_pure _, Z_pure _⟩, ?_⟩
      rw [eq]
      simp [Z_eq]
      refine adraw3 3 [2] [(2, 1)] mixed (by kernel_rfl) (by kernel_rfl) ?_
      simp
      simpa [Z_eq, hnn] using hp
  · have hq : q0 = x / y := by
      split at d1
      · omega
      · rename_i h; rw [if_neg h] at d2; omega
    have hr : r0 = x % y := by split at d2 <;> omega
    subst hq hr
    simp [Z_eq, hneg]
    refine adraw3 3 [2] [(2, 1)] mixed (by kernel_rfl) (by kernel_rfl) ?_
    simp
    simpa [Z_eq, hneg] using hp

end Go.Proofs.Ytngbibpmaofamaa.Ab

/- The reference's rational numbers: Zero, Make. -/
-- RatA
namespace Go.Proofs.Ytngbibpmaofamaa.Ab
open Go Num

@[simp] theorem natV_cells (l : List Nat) : (natV l).cells = [natV l] := (rfl)
@[simp] theorem N_cells (n : Nat) : (N n).cells = [N n] := (rfl)

/-- A rational number as its canonical value. -/
def Qv (q : Rat) : V := .agg [.bool (decide (q.num < 0)), N q.num.natAbs, N q.den]
theorem Qv_eq (q : Rat) : Qv q = .agg [.bool (decide (q.num < 0)), N q.num.natAbs, N q.den] := rfl
theorem agg3_pure (b : Bool) (m n : Nat) : (V.agg [.bool b, N m, N n]).Pure := .agg fun x hx => by
  simp at hx; rcases hx with rfl | rfl | rfl <;> first | exact N_pure _ | exact .bool _
theorem Qv_pure (q : Rat) : (Qv q).Pure := agg3_pure _ _ _
theorem N_one_eq : N 1 = .imm [[.int .u32 1]] false := by
  have : digits 1 = [1] := by rw [digits_pos (by decide)]; simp [B, digits_zero]
  simp [N, natV, this]

set_option maxRecDepth 100000 in
theorem Zero_run : PRun Try.prog 27 [] (fun r => r = Qv 0) := by
  unfold PRun
  refine Run.frz ?_
  refine run_fn Try.func27 rfl (by simp) ?_
  have e : Qv 0 = .agg [.bool false, .imm [] false, .imm [[.int .u32 1]] false] := by
    rw [Qv_eq, show (0 : Rat).num = 0 from rfl, show (0 : Rat).den = 1 from rfl, N_one_eq]
    rw [show (0 : Int).natAbs = 0 from rfl, N_zero]
    simp
  have hp := Qv_pure 0
  rw [e] at hp ⊢
  simp
  exact ⟨⟨_, (Frz.agg (i := 1) rfl (Frz.sl (ex' := false) (sz := 1) (off := 0) (len := 0) (ex := true) (xs := []) (e := 102) rfl (by simp) (by simp))).trans (Frz.agg (i := 2) rfl (Frz.sl (ex' := false) (sz := 1) (off := 0) (len := 1) (ex := true) (xs := [[.int .u32 1]]) (e := 102) rfl (by simp) (by simp)))⟩, hp⟩

theorem digits_one {n : Nat} : digits n = [1] ↔ n = 1 := by
  constructor
  · intro h; have := congrArg val h; rw [val_digits] at this; exact this
  · intro h; subst h; rw [digits_pos (by decide)]; simp [B, digits_zero]

theorem ediv_sm {k : Nat} {x g : Int} (h : Sm k x) : Sm k (x / g) := by
  refine h.le ?_
  exact Int.natAbs_ediv_le_natAbs x g

theorem divInt_parts (n d : Int) (h0 : d ≠ 0) : (Rat.divInt n d).num = (if d < 0 then -(n / ((Int.gcd n d : Nat) : Int)) else n / ((Int.gcd n d : Nat) : Int)) ∧ (Rat.divInt n d).den = (d / ((Int.gcd n d : Nat) : Int)).natAbs ∧
    (d / ((Int.gcd n d : Nat) : Int) < 0 ↔ d < 0) := by
  have hg0 : 0 < Int.gcd n d := Nat.pos_of_ne_zero fun h => h0 (Int.gcd_eq_zero_iff.1 h).2
  have hnum := Rat.num_divInt n d
  have hden := Rat.den_divInt n d
  rw [if_neg h0, Int.gcd_comm] at hden
  rw [Int.gcd_comm] at hnum
  have dq : (d / ((Int.gcd n d : Nat) : Int)) * ((Int.gcd n d : Nat) : Int) = d := Int.ediv_mul_cancel (Int.gcd_dvd_right ..)
  have ndvd : ((Int.gcd n d : Nat) : Int) ∣ n := Int.gcd_dvd_left ..
  refine ⟨?_, ?_, ?_⟩
  · rw [hnum]
    split
    · rename_i h; rw [Int.sign_eq_neg_one_of_neg h, Int.neg_mul, Int.one_mul, Int.neg_ediv_of_dvd ndvd]
    · rw [Int.sign_eq_one_of_pos (by omega), Int.one_mul]
  · rw [hden]
    have := congrArg Int.natAbs dq
    rw [Int.natAbs_mul, Int.natAbs_natCast] at this
    exact (Nat.div_eq_of_eq_mul_left hg0 this.symm)
  · have hgp : (0 : Int) < ((Int.gcd n d : Nat) : Int) := by omega
    generalize ((Int.gcd n d : Nat) : Int) = g at *
    constructor
    · intro h
      rw [← dq]
      exact Int.mul_neg_of_neg_of_pos h hgp
    · intro h
      exact Int.ediv_neg_of_neg_of_pos h hgp

set_option maxRecDepth 100000 in
theorem RMake_run (n d : Int) {k : Nat} (hn : Sm k n) (hd : Sm k d) (hk : k ≤ 67108860) : PRun Try.prog 63 [Z n, Z d] (fun r => r = Qv (Rat.divInt n d)) := by
  unfold PRun
  refine run_fn Try.func63 rfl (by simp) ?_
  have hp := Qv_pure (Rat.divInt n d)
  simp [Z_eq]
  refine Run.pcall (Sign_Z d hd (by omega)) (pure_Z d) ?_
  by_cases h0 : d = 0
  · subst h0
    rw [Rat.divInt_zero] at hp ⊢
    simp
    refine Run.pcall Zero_run (by simp) ?_
    simp [Qv_eq]
    exact hp
  · have hs : ¬ d.sign = 0 := by rw [Int.sign_eq_zero_iff_zero]; exact h0
    simp [hs]
    rw [← Z_eq]
    refine Run.pcall (Norm_Z d hd (by omega)) (pure_Z d) ?_
    simp [Z_eq]
    -- the branch for the denominator 1
    by_cases h1 : d = 1
    · subst h1
      have e : Rat.divInt n 1 = (n : Rat) := by rw [show (1 : Int) = ((1 : Nat) : Int) from rfl, Rat.divInt_ofNat]; exact Rat.mkRat_one n
      rw [e] at hp ⊢
      have eq : Qv (n : Rat) = .agg [.bool (decide (n < 0)), N n.natAbs, N 1] := by rw [Qv_eq, Rat.num_intCast, Rat.den_intCast]
      rw [eq] at hp ⊢
      simp
      refine Run.frzNat' (e := 102) 1 [1] rfl (by simp) rfl ?_
      refine Run.pcall (Equal_run (digits 1) [1] (dig_of_lt (k := 1) (by decide) (by decide)) ⟨by simp [B], by simp⟩) (pure_two (N_pure _) (natV_pure _)) ?_
      have e1 : digits 1 = [1] := digits_one.2 rfl
      simp [e1]
      refine adrawP 5 [] mixed (by kernel_rfl) (by kernel_rfl) ?_
      simp
      rw [← Z_eq]
      refine ⟨Z n, Norm_Z n hn (by omega), Z_pure n, ?_⟩
      simp [Z_eq]
      exact hp
    · -- the way on from the branch
      have hg0 : 0 < Int.gcd n d := Nat.pos_of_ne_zero fun h => h0 (Int.gcd_eq_zero_iff.1 h).2
      have sg := gcd_sm hn hd
      obtain ⟨hN, hD, hsg⟩ := divInt_parts n d h0
      rw [Qv_eq, hN, hD] at hp ⊢
      generalize hge : ((Int.gcd n d : Nat) : Int) = g at *
      have hgz : g ≠ 0 := by omega
      have sn := ediv_sm (g := g) hn
      have sd := ediv_sm (g := g) hd
      by_cases hneg : d < 0
      · have eZ : V.agg [V.bool true, N d.natAbs] = Z d := by simp [Z_eq, hneg]
        simp [hneg]
        rw [← Z_eq, eZ]
        refine Run.pcall (GCD_Z n d hn hd (by omega)) (pure_ZZ _ _) ?_
        rw [hge]
        simp [Z_eq]
        rw [← Z_eq, ← Z_eq]
        refine Run.pcall (DivMod_Z n g hn sg hk hgz) (pure_ZZ _ _) ?_
        simp [Z_eq]
        rw [eZ, ← Z_eq]
        refine Run.pcall (DivMod_Z d g hd sg hk hgz) (pure_ZZ _ _) ?_
        have hdn : d / g < 0 := hsg.2 hneg
        simp [Z_eq, hdn]
        refine adrawP 4 [] mixed (by kernel_rfl) (by kernel_rfl) ?_
        have eY : V.agg [V.bool true, N (d / g).natAbs] = Z (d / g) := by simp [Z_eq, hdn]
        simp [← Z_eq]
        rw [eY]
        refine ⟨Z (-(n / g)), Neg_Z _ sn (by omega), Z_pure _, Z (-(d / g)), Neg_Z _ sd (by omega), Z_pure _, ?_⟩
        simp [Z_eq]
        exact agg3_pure _ _ _
      · simp [hneg]
        refine Run.frzNat' (e := 102) 1 [1] rfl (by simp) rfl ?_
        refine Run.pcall (Equal_run (digits d.natAbs) [1] (hd.dig (by omega)) ⟨by simp [B], by simp⟩) (pure_two (N_pure _) (natV_pure _)) ?_
        have e1 : ¬ digits d.natAbs = [1] := fun h => h1 (by have := digits_one.1 h; omega)
        simp [e1]
        have eZ : V.agg [V.bool false, N d.natAbs] = Z d := by simp [Z_eq, hneg]
        rw [← Z_eq, eZ]
        refine Run.pcall (GCD_Z n d hn hd (by omega)) (pure_ZZ _ _) ?_
        rw [hge]
        simp [Z_eq]
        rw [← Z_eq, ← Z_eq]
        refine Run.pcall (DivMod_Z n g hn sg hk hgz) (pure_ZZ _ _) ?_
        simp [Z_eq]
        rw [eZ, ← Z_eq]
        refine Run.pcall (DivMod_Z d g hd sg hk hgz) (pure_ZZ _ _) ?_
        have hdn : ¬ d / g < 0 := fun h => hneg (hsg.1 h)
        simp [Z_eq, hdn]
        exact agg3_pure _ _ _

end Go.Proofs.Ytngbibpmaofamaa.Ab

/- The reference's rational numbers. -/
-- RatB
namespace Go.Proofs.Ytngbibpmaofamaa.Ab
open Go Num

/-- A rational number of at most so many digits. -/
def SmQ (k : Nat) (q : Rat) : Prop := Sm k q.num ∧ Sm k (q.den : Int)
theorem SmQ.of_divInt {k : Nat} {n d : Int} (hn : Sm k n) (hd : Sm k d) (hk : 0 < k) : SmQ k (Rat.divInt n d) := by
  have one : Sm k 1 := by
    unfold Sm
    have := pow_le_of_le (show 1 ≤ k from hk)
    have h1 : B ^ 1 = 4294967296 := rfl
    show 1 < B ^ k
    omega
  by_cases h0 : d = 0
  · subst h0
    rw [Rat.divInt_zero]
    exact ⟨by unfold Sm; exact Nat.pow_pos (by decide), one⟩
  · obtain ⟨h1, h2, _⟩ := divInt_parts n d h0
    refine ⟨?_, ?_⟩
    · rw [h1]
      split
      · exact (ediv_sm hn).neg
      · exact ediv_sm hn
    · rw [h2]; exact (ediv_sm hd).abs
theorem SmQ.mono {k k' : Nat} {q : Rat} (h : SmQ k q) (hk : k ≤ k') : SmQ k' q := ⟨h.1.mono hk, h.2.mono hk⟩
theorem SmQ.neg {k : Nat} {q : Rat} (h : SmQ k q) : SmQ k (-q) := ⟨by rw [Rat.neg_num]; exact h.1.neg, by rw [Rat.neg_den]; exact h.2⟩

theorem Z_den (n : Nat) : V.agg [V.bool false, N n] = Z (n : Int) := by
  rw [Z_eq, Int.natAbs_natCast]
  have : ¬ ((n : Int) < 0) := by omega
  simp [this]
theorem pure_Q (q : Rat) : ∀ x ∈ [Qv q], x.Pure := pure_one (Qv_pure q)
theorem pure_QQ (p q : Rat) : ∀ x ∈ [Qv p, Qv q], x.Pure := pure_two (Qv_pure p) (Qv_pure q)

set_option maxRecDepth 100000 in
theorem Norm_Q (q : Rat) {k : Nat} (h : SmQ k q) (hk : k ≤ 67108860) : PRun Try.prog 100 [Qv q] (fun r => r = Qv q) := by
  unfold PRun
  refine run_fn Try.func100 rfl (by simp) ?_
  have hp := Qv_pure q
  have hm := RMake_run q.num q.den h.1 h.2 hk
  rw [Rat.num_divInt_den] at hm
  simp [Qv_eq]
  rw [← Z_eq, Z_den]
  refine Run.pcall hm (pure_ZZ _ _) ?_
  simp [Qv_eq]
  exact hp

/-- A rational number as it is handed about: it need not be canonical. -/
abbrev Raw := Bool × Nat × Nat
def rawV (a : Raw) : V := .agg [.bool a.1, N a.2.1, N a.2.2]
theorem rawV_eq (a : Raw) : rawV a = .agg [.bool a.1, N a.2.1, N a.2.2] := rfl
theorem rawV_pure (a : Raw) : (rawV a).Pure := agg3_pure _ _ _
/-- The number that it stands for. -/
def Is (a : Raw) (q : Rat) : Prop := PRun Try.prog 100 [rawV a] (fun r => r = Qv q)
def rq (q : Rat) : Raw := (decide (q.num < 0), q.num.natAbs, q.den)
theorem rawV_rq (q : Rat) : rawV (rq q) = Qv q := rfl
theorem Is_rq (q : Rat) {k : Nat} (h : SmQ k q) (hk : k ≤ 67108860) : Is (rq q) q := Norm_Q q h hk
theorem pure_R (a : Raw) : ∀ x ∈ [rawV a], x.Pure := pure_one (rawV_pure a)
theorem pure_RR (a b : Raw) : ∀ x ∈ [rawV a, rawV b], x.Pure := pure_two (rawV_pure a) (rawV_pure b)
/-- Nothing at all stands for 0. -/
def r0 : Raw := (false, 0, 0)
set_option maxRecDepth 100000 in
theorem Is_r0 : Is r0 0 := by
  unfold Is PRun
  refine run_fn Try.func100 rfl (by simp) ?_
  have hp := Qv_pure 0
  have hm := RMake_run 0 0 (k := 1) (by unfold Sm; decide) (by unfold Sm; decide) (by omega)
  rw [Rat.divInt_zero] at hm
  simp [rawV_eq, r0]
  refine Run.pcall hm (pure_ZZ 0 0) ?_
  simp [Qv_eq]
  exact hp

set_option maxRecDepth 100000 in
theorem den_R (a : Raw) (q : Rat) (hr : Is a q) : PRun Try.prog 101 [rawV a] (fun r => r = Z (q.den : Int)) := by
  unfold PRun
  refine run_fn Try.func101 rfl (by simp) ?_
  have hp := Z_pure (q.den : Int)
  simp [rawV_eq]
  rw [← rawV_eq]
  refine Run.pcall hr (pure_R a) ?_
  simp [Qv_eq]
  rw [Z_den]
  exact ⟨hp, rfl⟩

set_option maxRecDepth 100000 in
theorem FromInt_Q (v : Int) (h1 : -9223372036854775808 ≤ v) (h2 : v < 9223372036854775808) : PRun Try.prog 29 [.int .i64 v] (fun r => r = Qv (v : Rat)) := by
  unfold PRun
  refine run_fn Try.func29 rfl (by simp) ?_
  have hp := Qv_pure (v : Rat)
  have sv : Sm 2 v := by unfold Sm; have : B ^ 2 = 18446744073709551616 := by decide
                         omega
  have s1 : Sm 2 1 := by unfold Sm; decide
  have e : Rat.divInt v 1 = (v : Rat) := by rw [show (1 : Int) = ((1 : Nat) : Int) from rfl, Rat.divInt_ofNat]; exact Rat.mkRat_one v
  have hm := RMake_run v 1 sv s1 (by omega)
  rw [e] at hm
  simp
  refine Run.pcall (FromInt_run v h1 h2) (pure_one (.int _ _)) ?_
  simp
  refine Run.pcall (FromInt_run 1 (by omega) (by omega)) (pure_one (.int _ _)) ?_
  simp
  refine Run.pcall hm (pure_ZZ _ _) ?_
  simp [Qv_eq]
  exact hp

set_option maxRecDepth 100000 in
theorem Sign_R (a : Raw) (q : Rat) (hr : Is a q) {k : Nat} (h : SmQ k q) (hk : k ≤ 67108860) : PRun Try.prog 71 [rawV a] (fun r => r = .int .i64 q.num.sign) := by
  unfold PRun
  refine run_fn Try.func71 rfl (by simp) ?_
  simp [rawV_eq]
  rw [← rawV_eq]
  refine Run.pcall hr (pure_R a) ?_
  simp [Qv_eq]
  rw [← Z_eq]
  refine Run.pcall (Sign_Z q.num h.1 (by omega)) (pure_Z _) ?_
  simp
  exact .int _ _

set_option maxRecDepth 100000 in
theorem Neg_R (a : Raw) (q : Rat) (hr : Is a q) {k : Nat} (h : SmQ k q) (hk : k ≤ 67108860) : PRun Try.prog 110 [rawV a] (fun r => r = Qv (-q)) := by
  unfold PRun
  refine run_fn Try.func110 rfl (by simp) ?_
  have hp := Qv_pure (-q)
  have hm := RMake_run (-q.num) q.den h.1.neg h.2 hk
  rw [← Rat.neg_divInt, Rat.num_divInt_den] at hm
  simp [rawV_eq]
  refine adrawP 7 [] mixed (by kernel_rfl) (by kernel_rfl) ?_
  simp
  rw [← rawV_eq]
  refine ⟨Qv q, hr, rawV_pure a, ?_⟩
  simp [Qv_eq]
  refine ⟨Z (-q.num), Neg_Z q.num h.1 (by omega), Z_pure q.num, Z (q.den : Int), den_R a q hr, rawV_pure a, Qv (-q), hm, ⟨Z_pure _, Z_pure _⟩, ?_⟩
  simp [Qv_eq]
  exact agg3_pure _ _ _

theorem mkRat_divInt (n : Int) (m : Nat) : Rat.divInt n m = mkRat n m := Rat.divInt_ofNat n m

set_option maxRecDepth 100000 in
theorem Add_R (a b : Raw) (x y : Rat) (ha : Is a x) (hb : Is b y) {k : Nat} (hx : SmQ k x) (hy : SmQ k y) (hk : k ≤ 16000000) : PRun Try.prog 111 [rawV a, rawV b] (fun r => r = Qv (x + y)) := by
  unfold PRun
  refine run_fn Try.func111 rfl (by simp) ?_
  have hp := Qv_pure (x + y)
  have s1 := hx.1.mul hy.2
  have s2 := hy.1.mul hx.2
  have s3 := s1.add s2
  have s4 := hx.2.mul hy.2
  have hm := RMake_run (x.num * y.den + y.num * x.den) ((x.den : Int) * y.den) s3 (s4.mono (Nat.le_succ _)) (by omega)
  simp [rawV_eq]
  refine adraw2 6 4 5 mixed (by kernel_rfl) (by kernel_rfl) ?_
  simp [ablk]
  refine ⟨Qv x, ha, rawV_pure a, Qv y, hb, rawV_pure b, ?_⟩
  simp [Qv_eq]
  refine adrawP 17 [] mixed (by kernel_rfl) (by kernel_rfl) ?_
  simp
  rw [← Int.natCast_mul, Rat.divInt_ofNat, ← Rat.add_def'] at hm
  refine ⟨Z (y.den : Int), den_R b y hb, rawV_pure b, Z (x.num * y.den), ?_, ⟨Z_pure x.num, Z_pure _⟩, Z (x.den : Int), den_R a x ha, rawV_pure a, Z (y.num * x.den), ?_, ⟨Z_pure y.num, Z_pure _⟩, Z (x.num * y.den + y.num * x.den), ?_, ⟨Z_pure _, Z_pure _⟩,
    Z (x.den : Int), den_R a x ha, rawV_pure a, Z (y.den : Int), den_R b y hb, rawV_pure b, Z ((x.den : Int) * y.den), ?_, ⟨Z_pure _, Z_pure _⟩, Qv (x + y), hm, ⟨Z_pure _, Z_pure _⟩, ?_⟩
  · exact Mul_Z _ _ hx.1 hy.2 (by omega)
  · exact Mul_Z _ _ hy.1 hx.2 (by omega)
  · exact Add_Z _ _ s1 s2 (by omega)
  · exact Mul_Z _ _ hx.2 hy.2 (by omega)
  · simp [Qv_eq]
    exact agg3_pure _ _ _

set_option maxRecDepth 100000 in
theorem Sub_R (a b : Raw) (x y : Rat) (ha : Is a x) (hb : Is b y) {k : Nat} (hx : SmQ k x) (hy : SmQ k y) (hk : k ≤ 16000000) : PRun Try.prog 70 [rawV a, rawV b] (fun r => r = Qv (x - y)) := by
  unfold PRun
  refine run_fn Try.func70 rfl (by simp) ?_
  rw [Rat.sub_eq_add_neg]
  simp [rawV_eq]
  refine adrawP 4 [] mixed (by kernel_rfl) (by kernel_rfl) ?_
  simp
  refine ⟨Qv (-y), Neg_R b y hb hy (by omega), rawV_pure b, Qv (x + -y), Add_R a (rq (-y)) x (-y) ha (Is_rq _ hy.neg (by omega)) hx hy.neg hk, ⟨rawV_pure a, Qv_pure _⟩, ?_⟩
  simp [Qv_eq]
  exact agg3_pure _ _ _

set_option maxRecDepth 100000 in
theorem Div_Q (x y : Rat) {k : Nat} (hx : SmQ k x) (hy : SmQ k y) (hk : k ≤ 16000000) (h0 : y ≠ 0) : PRun Try.prog 62 [Qv x, Qv y] (fun r => r = .tup [Qv (x / y), .bool true]) := by
  unfold PRun
  refine run_fn Try.func62 rfl (by simp) ?_
  have hm := RMake_run (x.num * y.den) ((x.den : Int) * y.num) (hx.1.mul hy.2) (hx.2.mul hy.1) (by omega)
  have e : Rat.divInt (x.num * y.den) ((x.den : Int) * y.num) = x / y := by
    rw [Rat.div_def, Rat.inv_def, ← Rat.divInt_mul_divInt, Rat.num_divInt_den]
  rw [e] at hm
  have hs : ¬ y.num.sign = 0 := by rw [Int.sign_eq_zero_iff_zero, Rat.num_eq_zero]; exact h0
  have hp : (V.tup [Qv (x / y), .bool true]).Pure := .tup fun x hx => by simp at hx; rcases hx with rfl | rfl; exact Qv_pure _; exact .bool _
  simp [Qv_eq]
  rw [← Qv_eq]
  refine Run.pcall (Sign_R (rq y) y (Is_rq y hy (by omega)) hy (by omega)) (pure_Q y) ?_
  simp [hs]
  refine adrawP 13 [] mixed (by kernel_rfl) (by kernel_rfl) ?_
  simp
  refine ⟨Qv x, Norm_Q x hx (by omega), Qv_pure x, ?_⟩
  simp [Qv_eq]
  refine ⟨Z (y.den : Int), den_R (rq y) y (Is_rq y hy (by omega)), Qv_pure y, Z (x.num * y.den), Mul_Z _ _ hx.1 hy.2 (by omega), ⟨Z_pure x.num, Z_pure _⟩, Z (x.den : Int), den_R (rq x) x (Is_rq x hx (by omega)), Qv_pure x, Qv y, Norm_Q y hy (by omega), Qv_pure y, ?_⟩
  simp [Qv_eq]
  refine ⟨Z ((x.den : Int) * y.num), Mul_Z _ _ hx.2 hy.1 (by omega), ⟨Z_pure _, Z_pure y.num⟩, Qv (x / y), hm, ⟨Z_pure _, Z_pure _⟩, ?_⟩
  simp [Qv_eq]
  exact hp

set_option maxRecDepth 100000 in
theorem Over_Q (x y : Rat) {k : Nat} (hx : SmQ k x) (hy : SmQ k y) (hk : k ≤ 16000000) (h0 : y ≠ 0) : PRun Try.prog 28 [Qv x, Qv y] (fun r => r = Qv (x / y)) := by
  unfold PRun
  refine run_fn Try.func28 rfl (by simp) ?_
  have hp := Qv_pure (x / y)
  simp [Qv_eq]
  refine Run.pcall (Div_Q x y hx hy hk h0) (pure_QQ x y) ?_
  simp [Qv_eq]
  exact hp

theorem SmQ.add {k : Nat} {x y : Rat} (hx : SmQ k x) (hy : SmQ k y) : SmQ (k + k + 1) (x + y) := by
  have := SmQ.of_divInt ((hx.1.mul hy.2).add (hy.1.mul hx.2)) ((hx.2.mul hy.2).mono (Nat.le_succ _)) (by omega)
  rwa [← Int.natCast_mul, Rat.divInt_ofNat, ← Rat.add_def'] at this
theorem SmQ.sub {k : Nat} {x y : Rat} (hx : SmQ k x) (hy : SmQ k y) : SmQ (k + k + 1) (x - y) := by
  rw [Rat.sub_eq_add_neg]; exact hx.add hy.neg

set_option maxRecDepth 100000 in
theorem Compare_R (a b : Raw) (x y : Rat) (ha : Is a x) (hb : Is b y) {k : Nat} (hx : SmQ k x) (hy : SmQ k y) (hk : k ≤ 16000000) : PRun Try.prog 65 [rawV a, rawV b] (fun r => r = .int .i64 (x - y).num.sign) := by
  unfold PRun
  refine run_fn Try.func65 rfl (by simp) ?_
  simp [rawV_eq]
  refine Run.pcall (Sub_R a b x y ha hb hx hy hk) (pure_RR a b) ?_
  simp
  refine Run.pcall (Sign_R (rq (x - y)) (x - y) (Is_rq _ (hx.sub hy) (by omega)) (hx.sub hy) (by omega)) (pure_Q _) ?_
  simp
  exact .int _ _

set_option maxRecDepth 100000 in
theorem Floor_R (a : Raw) (q : Rat) (hr : Is a q) {k : Nat} (h : SmQ k q) (hk : k ≤ 16000000) : PRun Try.prog 69 [rawV a] (fun r => r = Z q.floor) := by
  unfold PRun
  refine run_fn Try.func69 rfl (by simp) ?_
  have hp := Z_pure q.floor
  rw [Rat.floor_def] at hp ⊢
  have hd : (q.den : Int) ≠ 0 := by have := q.den_nz; omega
  simp [rawV_eq]
  refine adraw4 14 12 10 11 [12, 13] mixed (by kernel_rfl) (by kernel_rfl) (by kernel_rfl) ?_
  simp [ablk]
  refine ⟨Qv q, hr, rawV_pure a, ?_⟩
  simp [Qv_eq]
  refine ⟨Z (q.den : Int), den_R a q hr, rawV_pure a, _, DivMod_Z q.num q.den h.1 h.2 (by omega) hd, ⟨Z_pure q.num, Z_pure _⟩, ?_⟩
  simp [Z_eq, ablk]
  exact hp

def absQ (q : Rat) : Rat := if q.num < 0 then -q else q
theorem SmQ.absQ {k : Nat} {q : Rat} (h : SmQ k q) : SmQ k (absQ q) := by unfold Ab.absQ; split; exact h.neg; exact h

/-- The absolute value as it is handed back. -/
def absR (a : Raw) (q : Rat) : Raw := if q.num < 0 then rq (-q) else a
theorem Is_absR {a : Raw} {q : Rat} (hr : Is a q) {k : Nat} (h : SmQ k q) (hk : k ≤ 67108860) : Is (absR a q) (absQ q) := by
  unfold absR absQ
  split
  · exact Is_rq _ h.neg hk
  · exact hr

set_option maxRecDepth 100000 in
theorem Abs_R (a : Raw) (q : Rat) (hr : Is a q) {k : Nat} (h : SmQ k q) (hk : k ≤ 16000000) : PRun Try.prog 66 [rawV a] (fun r => r = rawV (absR a q)) := by
  unfold PRun
  refine run_fn Try.func66 rfl (by simp) ?_
  simp [rawV_eq]
  refine Run.pcall (Sign_R a q hr h (by omega)) (pure_R a) ?_
  by_cases hn : q.num < 0
  · have e : q.num.sign = -1 := Int.sign_eq_neg_one_of_neg hn
    have ea : absR a q = rq (-q) := if_pos hn
    rw [ea]
    simp [e]
    refine Run.pcall (Neg_R a q hr h (by omega)) (pure_R a) ?_
    simp [Qv_eq, rq]
    exact agg3_pure _ _ _
  · have e : ¬ q.num.sign < 0 := by rw [Int.sign_neg_iff]; exact hn
    have ea : absR a q = a := if_neg hn
    rw [ea]
    simp [e]
    exact agg3_pure _ _ _

def qrow (q : Rat) : List V := [.bool (decide (q.num < 0)), N q.num.natAbs, N q.den]
def rrow (a : Raw) : List V := [.bool a.1, N a.2.1, N a.2.2]
def ratsV (l : List (Raw × Rat)) : V := .imm (l.map fun p => rrow p.1) false
def sumQ (l : List Rat) : Rat := l.foldl (· + ·) 0

set_option maxRecDepth 100000 in
theorem Sum_R (l : List (Raw × Rat)) {k : Nat} (hl : l.length ≤ 1000000) (hi : ∀ p ∈ l, Is p.1 p.2) (hm : ∀ p ∈ l, SmQ k p.2) (hs : ∀ i, SmQ k (sumQ ((l.map (·.2)).take i))) (hk : k ≤ 16000000) : PRun Try.prog 67 [ratsV l] (fun r => r = Qv (sumQ (l.map (·.2)))) := by
  unfold PRun
  refine run_fn Try.func67 rfl (by simp) ?_
  simp
  refine Run.pcall Zero_run (by simp) ?_
  simp [Qv_eq]
  refine ac_loop (fun n t σ => ∃ (i : Nat), n = l.length - i ∧ i ≤ l.length ∧ t 0 = ratsV l ∧ t 2 = .ptr 0 0 0 ∧ t 3 = .ptr 1 0 0 ∧ t 4 = .int .i64 i ∧ σ.get 1 = some (.rows 68 [qrow (sumQ ((l.map (·.2)).take i))]) ∧ ∃ z, σ.get 0 = some (.rows 68 [z]) ∧ z.length = 3) l.length
    ⟨0, by simp [qrow, sumQ]⟩ ?_
  rintro n t σ ⟨i, rfl, hil', h0, h2, h3, h4, hσ1, z, hσ0, hz⟩
  have hu1 := σ.wf _ _ hσ1
  have hu0 := σ.wf _ _ hσ0
  by_cases hlt : i < l.length
  · obtain ⟨⟨a, q⟩, hq⟩ : ∃ q, l[i]? = some q := ⟨_, List.getElem?_eq_getElem hlt⟩
    have dl := decide_eq_true hlt
    have hw : IntKind.i64.wrap ((i : Int) + 1) = (i : Int) + 1 := i64_id (by omega) (by omega)
    have hqm := List.mem_of_getElem? hq
    have hsum : sumQ ((l.map (·.2)).take (i + 1)) = sumQ ((l.map (·.2)).take i) + q := by
      rw [List.take_add_one, List.getElem?_map, hq]
      simp [sumQ]
    generalize hM : l.map (fun p => p.2) = M at *
    simp [h0, h2, h3, h4, ratsV, dl]
    refine adrawP 6 [] mixed (by kernel_rfl) (by kernel_rfl) ?_
    simp only [ratsV] at h0
    simp [h0, h2, h3, h4, hσ1, hq, qrow, rrow]
    refine ⟨Qv (sumQ (M.take (i + 1))), hsum ▸ Add_R (rq (sumQ (M.take i))) a _ q (Is_rq _ (hs i) (by omega)) (hi _ hqm) (hs i) (hm _ hqm) hk, ⟨Qv_pure _, rawV_pure a⟩, ?_⟩
    simp [Qv_eq, h0, h2, h3, h4, hw, hσ1]
    exact ⟨l.length - (i + 1), by omega, i + 1, rfl, by omega, by simp [ratsV, rrow], by simp, by rw [if_pos hu1], z, hσ0, hz⟩
  · have dl := decide_eq_false hlt
    have hil : i = l.length := by omega
    subst hil
    have e : (l.map (fun p => p.2)).take l.length = l.map (fun p => p.2) := List.take_of_length_le (by simp)
    rw [e] at hσ1
    generalize l.map (fun p => p.2) = M at *
    obtain ⟨z1, z2, z3, rfl⟩ : ∃ z1 z2 z3, z = [z1, z2, z3] := by
      match z, hz with
      | [a, b, c], _ => exact ⟨a, b, c, rfl⟩
    simp only [ratsV] at h0
    simp [h0, h2, h3, h4, dl, hσ1, hσ0, hu0, qrow, Qv_eq]
    exact agg3_pure _ _ _

end Go.Proofs.Ytngbibpmaofamaa.Ab

/- The reference's Apportion. -/
-- AppA
namespace Go.Proofs.Ytngbibpmaofamaa.Ab
open Go Num

def intsV (o : List Int) : V := .imm (o.map fun x => [.int .i64 x]) false
def irow (x : Int) : List V := [.int .i64 x]

def beats (p : List Rat) (b : Option Nat) (x : Rat) : Bool := match b with
  | none => true
  | some b => match p[b]? with
    | some y => decide (0 < (x - y).num)
    | none => false

/-- The first of the greatest parts among the first few. -/
def scanB (p : List Rat) : Nat → Option Nat
  | 0 => none
  | i + 1 => match p[i]? with
    | none => scanB p i
    | some x => if 0 ≤ x.num ∧ beats p (scanB p i) x = true then some i else scanB p i

theorem scanB_lt {p : List Rat} : ∀ {i b : Nat}, scanB p i = some b → b < i ∧ ∃ y, p[b]? = some y
  | i + 1, b, h => by
    unfold scanB at h
    cases hx : p[i]? with
    | none => rw [hx] at h; have := scanB_lt h; exact ⟨by omega, this.2⟩
    | some x =>
      rw [hx] at h
      simp only at h
      split at h
      · injection h with h; subst h; exact ⟨by omega, x, hx⟩
      · have := scanB_lt h; exact ⟨by omega, this.2⟩

def optI (b : Option Nat) : Int := match b with | some b => b | none => -1

/-- Some rounds of giving one more. -/
def appLoop : Nat → List Int → List Rat → Option (List Int)
  | 0, o, _ => some o
  | t + 1, o, p => match scanB p p.length with
    | some b => appLoop t (o.set b (o[b]?.getD 0 + 1)) (p.set b (-1))
    | none => none

def floors (l : List Rat) : List Int := l.map Rat.floor
def fracs (l : List Rat) : List Rat := l.map fun q => q - (q.floor : Rat)
def isum (o : List Int) : Int := o.foldl (· + ·) 0

structure AppOk (l : List Rat) (k T : Nat) : Prop where
  len : l.length ≤ 128
  sm : ∀ q ∈ l, SmQ k q
  ss : ∀ i, SmQ k (sumQ (l.take i))
  hk : k ≤ 1000000
  k2 : 2 ≤ k
  lim : ∀ q ∈ l, (absQ q - ((281474976710656 : Int) : Rat)).num ≤ 0
  fl : ∀ q ∈ l, -281474976710656 ≤ q.floor ∧ q.floor ≤ 281474976710656
  hT : T ≤ 128
  whole : sumQ l = ((isum (floors l) + T : Int) : Rat)

theorem ratsV_pure (l : List (Raw × Rat)) : (ratsV l).Pure := .imm fun row h x hx => by
  obtain ⟨q, _, rfl⟩ := List.mem_map.1 h
  simp [rrow] at hx
  rcases hx with rfl | rfl | rfl
  · exact .bool _
  · exact N_pure _
  · exact N_pure _

theorem isum_bound {M : Int} : ∀ (o : List Int) (a : Int), (∀ x ∈ o, -M ≤ x ∧ x ≤ M) → a - o.length * M ≤ o.foldl (· + ·) a ∧ o.foldl (· + ·) a ≤ a + o.length * M
  | [], a, _ => by simp
  | x :: o, a, h => by
    have h1 := h x (List.mem_cons_self ..)
    have ih := isum_bound o (a + x) fun y hy => h y (List.mem_cons_of_mem _ hy)
    simp only [List.foldl_cons, List.length_cons]
    rw [Int.natCast_add, Int.add_mul]
    omega

theorem SmQ.int {z : Int} {k : Nat} (h : Sm k z) (hk : 0 < k) : SmQ k (z : Rat) := by
  refine ⟨by rw [Rat.num_intCast]; exact h, ?_⟩
  rw [Rat.den_intCast]
  unfold Sm
  have := pow_le_of_le (show 1 ≤ k from hk)
  have h1 : B ^ 1 = 4294967296 := rfl
  show 1 < B ^ k
  omega
theorem sm_i64 {z : Int} {k : Nat} (h1 : -9223372036854775808 ≤ z) (h2 : z < 9223372036854775808) (hk : 2 ≤ k) : Sm k z := by
  unfold Sm
  have := pow_le_of_le hk
  have h3 : B ^ 2 = 18446744073709551616 := by decide
  omega

theorem take_set_succ {α : Type} {l : List α} {i : Nat} (h : i < l.length) (x : α) : (l.set i x).take (i + 1) = l.take i ++ [x] := by
  rw [List.take_add_one, List.getElem?_set_self h, List.take_set_of_le (Nat.le_refl _)]; rfl

theorem isum_take {o : List Int} {i : Nat} {x : Int} (h : o[i]? = some x) : isum (o.take (i + 1)) = isum (o.take i) + x := by
  rw [List.take_add_one, h]; simp [isum]

def qs (l : List (Raw × Rat)) : List Rat := l.map (·.2)
theorem qs_len (l : List (Raw × Rat)) : (qs l).length = l.length := List.length_map _
theorem qs_get (l : List (Raw × Rat)) (i : Nat) : (qs l)[i]? = (l[i]?).map (·.2) := List.getElem?_map

structure AppInv (l : List (Raw × Rat)) (S : Int) (i : Nat) (t : Env) (σ : H) : Prop where
  t0 : t 0 = ratsV l
  t6 : t 6 = .int .i64 (S - isum ((floors (qs l)).take i))
  t8 : t 8 = .sl 1 1 0 l.length true
  t9 : t 9 = .sl 3 2 0 l.length true
  t10 : t 10 = .int .i64 i
  s1 : ∃ os : List Int, σ.get 1 = some (.rows 3 (os.map irow)) ∧ os.length = l.length ∧ os.take i = (floors (qs l)).take i
  s2 : ∃ rs : List (List V), σ.get 2 = some (.rows 68 rs) ∧ rs.length = l.length ∧ rs.take i = ((fracs (qs l)).take i).map qrow ∧ ∀ r ∈ rs, r.length = 3

/-- Where the rounds stand. -/
def LoopInv (l : List (Raw × Rat)) (k T : Nat) (of : List Int) (m : Nat) (t : Env) (σ : H) : Prop :=
  ∃ (o : List Int) (p : List Rat), appLoop m o p = some of ∧ m ≤ T ∧ t 0 = ratsV l ∧ t 6 = .int .i64 m ∧ t 8 = .sl 1 1 0 l.length true ∧ t 9 = .sl 3 2 0 l.length true ∧
    σ.get 1 = some (.rows 3 (o.map irow)) ∧ σ.get 2 = some (.rows 68 (p.map qrow)) ∧ o.length = l.length ∧ p.length = l.length ∧
    (∀ x ∈ o, -281474976710656 ≤ x ∧ x ≤ 281474976710656 + ((T - m : Nat) : Int)) ∧ (∀ x ∈ p, SmQ (k + k + 1) x)

theorem intsV_pure (o : List Int) : (intsV o).Pure := .imm fun row h x hx => by
  simp at h; obtain ⟨d, _, rfl⟩ := h; simp at hx; subst hx; exact .int _ _

theorem frz_ints {P : Program} {σ : H} {b n : Nat} {ex : Bool} {e : TypeId} {l : List Int} (hb : σ.get b = some (.rows e (l.map irow))) (hn : n = l.length) : Frz P σ (.sl 1 b 0 n ex) (intsV l) (σ.kill b) := by
  have := Frz.sl (P := P) (sz := 1) (off := 0) (len := n) (ex := ex) (ex' := false) hb (by simp [hn]) (by simp)
  rw [List.drop_zero, List.take_of_length_le (by simp [hn])] at this
  exact this

theorem ints_res_pure (o : List Int) (e : Int) : (V.tup [intsV o, .int .i64 e]).Pure := .tup fun x hx => by simp at hx; rcases hx with rfl | rfl; exact intsV_pure _; exact .int _ _

set_option maxRecDepth 100000 in
theorem Apportion_run (l : List (Raw × Rat)) (k T : Nat) (his : ∀ p ∈ l, Is p.1 p.2) (h : AppOk (qs l) k T) (o : List Int) (ho : appLoop T (floors (qs l)) (fracs (qs l)) = some o) : PRun Try.prog 30 [ratsV l] (fun r => r = .tup [intsV o, .int .i64 0]) := by
  unfold PRun
  refine Run.frz ?_
  refine run_fn Try.func30 rfl (by simp) ?_
  have hlen := h.len
  rw [qs_len] at hlen
  have hlen' : ¬ ((128 : Int) < (l.length : Int)) := by omega
  have hlen'' : ¬ (128 < l.length) := by omega
  simp [ratsV, hlen', hlen'']
  refine ac_loop (fun n t σ => ∃ (i : Nat), n = l.length - i ∧ i ≤ l.length ∧ t 0 = ratsV l ∧ t 4 = .int .i64 i ∧ σ = H.empty) l.length ⟨0, by simp [ratsV]⟩ ?_
  rintro n t σ ⟨i, rfl, hi, h0, h4, rfl⟩
  by_cases hlt : i < l.length
  · obtain ⟨⟨a, q⟩, hq⟩ : ∃ q, l[i]? = some q := ⟨_, List.getElem?_eq_getElem hlt⟩
    have hai := his _ (List.mem_of_getElem? hq)
    have hqm : q ∈ qs l := List.mem_map.2 ⟨_, List.mem_of_getElem? hq, rfl⟩
    have dl := decide_eq_true hlt
    have hw : IntKind.i64.wrap ((i : Int) + 1) = (i : Int) + 1 := i64_id (by omega) (by omega)
    simp only [ratsV] at h0
    simp [h0, h4, dl, hq, rrow]
    refine Run.pcall (Abs_R a q hai (h.sm q hqm) (by have := h.hk; omega)) (pure_R a) ?_
    simp
    refine Run.pcall (FromInt_Q 281474976710656 (by omega) (by omega)) (pure_one (.int _ _)) ?_
    simp
    refine Run.pcall (Compare_R (absR a q) (rq ((281474976710656 : Int) : Rat)) (absQ q) ((281474976710656 : Int) : Rat) (Is_absR hai (h.sm q hqm) (by have := h.hk; omega)) (Is_rq _ (SmQ.int (sm_i64 (by omega) (by omega) h.k2) (by have := h.k2; omega)) (by have := h.hk; omega)) (h.sm q hqm).absQ (SmQ.int (sm_i64 (by omega) (by omega) h.k2) (by have := h.k2; omega)) (by have := h.hk; omega)) (pure_two (rawV_pure _) (Qv_pure _)) ?_
    have hlim := h.lim q hqm
    have hs : ¬ (0 < (absQ q - ((281474976710656 : Int) : Rat)).num.sign) := by rw [Int.sign_pos_iff]; omega
    generalize (absQ q - ((281474976710656 : Int) : Rat)).num.sign = sg at *
    simp [hs, h0, h4, hw]
    exact ⟨l.length - (i + 1), by omega, i + 1, rfl, by omega, by simp [ratsV, rrow], by simp⟩
  · obtain rfl : i = l.length := by omega
    have dl := decide_eq_false hlt
    have hsl : l.length ≤ 1000000 := by omega
    simp only [ratsV] at h0
    simp [h0, h4, dl]
    refine Run.pcall (Sum_R l hsl his (fun p hp => h.sm _ (List.mem_map.2 ⟨p, hp, rfl⟩)) h.ss (by have := h.hk; omega)) (pure_one ?_) ?_
    · exact ratsV_pure l
    rw [show l.map (fun p => p.2) = qs l from rfl]
    have hbS := isum_bound (M := 281474976710656) (floors (qs l)) 0 (by
      intro x hx
      obtain ⟨q, hq, rfl⟩ := List.mem_map.1 hx
      exact h.fl q hq)
    have hfl : (floors (qs l)).length = l.length := by rw [floors, List.length_map, qs_len]
    have hw0 := h.whole
    have hT := h.hT
    have hk := h.hk
    have hk2 := h.k2
    obtain ⟨S, hS⟩ : ∃ S, isum (floors (qs l)) + (T : Int) = S := ⟨_, rfl⟩
    have hSb : -36028797018963968 ≤ S ∧ S ≤ 36028797018964096 := by
      have hm : ((floors (qs l)).length : Int) * 281474976710656 ≤ 128 * 281474976710656 := Int.mul_le_mul_of_nonneg_right (by omega) (by decide)
      unfold isum at hS
      omega
    rw [hS] at hw0
    have smS : SmQ k (sumQ (qs l)) := by have := h.ss (qs l).length; rwa [List.take_length] at this
    have hfloor : (S : Rat).floor = S := Rat.floor_intCast S
    simp [Qv_eq]
    refine Run.pcall (Floor_R (rq (sumQ (qs l))) _ (Is_rq _ smS (by omega)) smS (by omega)) (pure_Q _) ?_
    rw [hw0, hfloor]
    rw [hw0] at smS
    simp
    have hval : valueV S = .tup [.int .i64 S, .bool true] := by unfold valueV; rw [if_pos (by omega)]
    refine Run.pcall (Value_Z S (k := 2) (sm_i64 (by omega) (by omega) (by omega)) (by omega)) (pure_Z _) ?_
    rw [hval]
    simp
    refine adraw' [] mixed (by kernel_rfl) (by kernel_rfl) ?_
    have hcmp : ((S : Rat) - (S : Rat)).num.sign = 0 := by rw [Rat.sub_self]; rfl
    have hC := Compare_R (rq (S : Rat)) (rq (S : Rat)) (S : Rat) (S : Rat) (Is_rq _ smS (by omega)) (Is_rq _ smS (by omega)) smS smS (by omega)
    rw [hcmp] at hC
    simp
    refine ⟨Qv (S : Rat), FromInt_Q S (by omega) (by omega), .int _ _, _, hC, ⟨agg3_pure _ _ _, Qv_pure _⟩, ?_⟩
    have hl8 : (l.length : Int) * 8 ≤ 1099511627776 ∧ (l.length : Int) * 56 ≤ 1099511627776 ∧ (l.length : Int) ≤ 1099511627776 := by omega
    simp
    refine adraw2 8 2 5 mixed (by kernel_rfl) (by kernel_rfl) ?_
    simp [h0, ablk, hl8]
    refine ac_loop (fun n t σ => ∃ i, n = l.length - i ∧ i ≤ l.length ∧ AppInv l S i t σ) l.length ⟨0, by omega, by omega, ?_⟩ ?_
    · refine ⟨by simp [h0, ratsV], by simp [isum], by simp, by simp, by simp, ⟨List.replicate l.length 0, by simp [irow], by simp, by simp⟩, ⟨List.replicate l.length [.bool false, .nils, .nils], by simp, by simp, by simp, ?_⟩⟩
      intro r hr; rw [List.eq_of_mem_replicate hr]; rfl
    rintro n t σ ⟨i, rfl, hi, ⟨g0, g6, g8, g9, g10, ⟨os, gσ1, gos, gtk⟩, ⟨rs, gσ2, grs, grt, gr3⟩⟩⟩
    have hu1 := σ.wf _ _ gσ1
    have hu2 := σ.wf _ _ gσ2
    by_cases hlt : i < l.length
    · obtain ⟨⟨a, q⟩, hq⟩ : ∃ q, l[i]? = some q := ⟨_, List.getElem?_eq_getElem hlt⟩
      have hai := his _ (List.mem_of_getElem? hq)
      have hqm : q ∈ qs l := List.mem_map.2 ⟨_, List.mem_of_getElem? hq, rfl⟩
      have hqq : (qs l)[i]? = some q := by rw [qs_get, hq]; rfl
      obtain ⟨o0, ho0⟩ : ∃ o0, os[i]? = some o0 := ⟨_, List.getElem?_eq_getElem (by omega)⟩
      obtain ⟨r0, hr0⟩ : ∃ r0, rs[i]? = some r0 := ⟨_, List.getElem?_eq_getElem (by omega)⟩
      obtain ⟨z1, z2, z3, rfl⟩ : ∃ z1 z2 z3, r0 = [z1, z2, z3] := by
        match r0, gr3 r0 (List.mem_of_getElem? hr0) with
        | [a, b, c], _ => exact ⟨a, b, c, rfl⟩
      have dl := decide_eq_true hlt
      have hw : IntKind.i64.wrap ((i : Int) + 1) = (i : Int) + 1 := i64_id (by omega) (by omega)
      have hfl := h.fl q hqm
      have hv : valueV q.floor = .tup [.int .i64 q.floor, .bool true] := by unfold valueV; rw [if_pos (by omega)]
      simp only [ratsV] at g0
      simp [g0, g10, dl, hq, rrow, g8]
      refine Run.pcall (Floor_R a q hai (h.sm q hqm) (by omega)) (pure_R a) ?_
      simp
      refine Run.pcall (Value_Z q.floor (k := 2) (sm_i64 (by omega) (by omega) (by omega)) (by omega)) (pure_Z _) ?_
      rw [hv]
      simp [g8, g10, hlt, gσ1, ho0, irow]
      refine adrawP 12 [] mixed (by kernel_rfl) (by kernel_rfl) ?_
      have hset1 : ((os.map irow).set i [V.int .i64 q.floor])[i]? = some [V.int .i64 q.floor] := List.getElem?_set_self (by simp; omega)
      simp [g0, g8, g9, g10, hq, rrow]
      simp [g8, g9, g10, hlt, gσ1, hu1, ho0, hset1]
      have smq := h.sm q hqm
      have smf : SmQ k (q.floor : Rat) := SmQ.int (sm_i64 (by omega) (by omega) hk2) (by omega)
      refine ⟨Qv (q.floor : Rat), FromInt_Q q.floor (by omega) (by omega), .int _ _, Qv (q - (q.floor : Rat)), Sub_R a (rq _) q _ hai (Is_rq _ smf (by omega)) smq smf (by omega), ⟨rawV_pure a, Qv_pure _⟩, ?_⟩
      have hsum := isum_take (o := floors (qs l)) (i := i) (x := q.floor) (by simp [floors, hqq])
      have hsb := isum_bound (M := 281474976710656) ((floors (qs l)).take (i + 1)) 0 (by
        intro x hx
        obtain ⟨q, hq, rfl⟩ := List.mem_map.1 (List.mem_of_mem_take hx)
        exact h.fl q hq)
      have hwS : IntKind.i64.wrap (S - isum ((floors (qs l)).take i) - q.floor) = S - isum ((floors (qs l)).take (i + 1)) := by
        have hm : (((floors (qs l)).take (i + 1)).length : Int) * 281474976710656 ≤ 128 * 281474976710656 := Int.mul_le_mul_of_nonneg_right (by simp; omega) (by decide)
        rw [hsum]
        unfold isum at hsum hsb ⊢
        rw [i64_id (by omega) (by omega)]
        omega
      simp [Qv_eq, g0, g6, g8, g9, g10, hlt, gσ1, gσ2, hu1, hu2, hr0, ho0, hwS, hw, hset1]
      refine ⟨l.length - (i + 1), by omega, i + 1, rfl, by omega, ?_⟩
      refine ⟨by simp [g0, ratsV, rrow], by simp, by simp [g8], by simp [g9], by simp, ⟨os.set i q.floor, by simp [hu1, gσ1, irow, List.map_set], by simp [gos], ?_⟩, ⟨rs.set i (qrow (q - (q.floor : Rat))), by simp [hu2, gσ2, qrow], by simp [grs], ?_, ?_⟩⟩
      · rw [take_set_succ (by omega), gtk, List.take_add_one]
        simp [floors, hqq]
      · rw [take_set_succ (by omega), grt, List.take_add_one (l := fracs (qs l))]
        simp [fracs, hqq]
      · intro r hr
        rcases List.mem_or_eq_of_mem_set hr with h1 | h1
        · exact gr3 r h1
        · rw [h1]; rfl
    · obtain rfl : i = l.length := by omega
      have hfr : (fracs (qs l)).length = l.length := by rw [fracs, List.length_map, qs_len]
      rw [List.take_of_length_le (by omega), List.take_of_length_le (by omega)] at gtk
      rw [List.take_of_length_le (by omega), List.take_of_length_le (by omega)] at grt
      rw [List.take_of_length_le (by omega)] at g6
      subst gtk
      subst grt
      have hST : S - isum (floors (qs l)) = (T : Int) := by omega
      rw [hST] at g6
      have dl := decide_eq_false hlt
      simp only [ratsV] at g0
      simp [g0, g10, dl]
      refine ac_loop (LoopInv l k T o) T ⟨floors (qs l), fracs (qs l), ho, Nat.le_refl _, by simp [ratsV, g0], by simp [g6], by simp [g8], by simp [g9], by simpa using gσ1, by simpa using gσ2, hfl, hfr, ?_, ?_⟩ ?_
      · intro x hx
        obtain ⟨q, hq, rfl⟩ := List.mem_map.1 hx
        have := h.fl q hq; omega
      · intro x hx
        obtain ⟨q, hq, rfl⟩ := List.mem_map.1 hx
        have hf := h.fl q hq
        exact (h.sm q hq).sub (SmQ.int (sm_i64 (by omega) (by omega) hk2) (by omega))
      rintro m t σ ⟨o1, p, hap, hmT, g0, g6, g8, g9, gσ1, gσ2, ho1, hp1, hob, hpb⟩
      have hu1 := σ.wf _ _ gσ1
      have hu2 := σ.wf _ _ gσ2
      cases m with
      | zero =>
        injection hap with hap
        subst hap
        simp [g6, g8]
        exact ⟨⟨_, Frz.tup (i := 0) rfl (frz_ints gσ1 ho1.symm)⟩, ints_res_pure _ _⟩
      | succ m =>
        have hm0 : (0 : Int) < (m : Int) + 1 := by omega
        simp [g6, hm0]
        refine ac_loop (fun n t σ' => ∃ i, n = l.length - i ∧ i ≤ l.length ∧ t 0 = ratsV l ∧ t 6 = .int .i64 ((m : Int) + 1) ∧ t 8 = .sl 1 1 0 l.length true ∧ t 9 = .sl 3 2 0 l.length true ∧ t 11 = .int .i64 (optI (scanB p i)) ∧ t 12 = .int .i64 i ∧ σ' = σ) l.length
          ⟨0, by omega, by omega, by simp [g0], by simp [g6], by simp [g8], by simp [g9], by simp [optI, scanB], by simp, rfl⟩ ?_
        rintro n t σ' ⟨i, rfl, hi, g0, g6, g8, g9, g11, g12, rfl⟩
        by_cases hlt : i < l.length
        · obtain ⟨x, hx⟩ : ∃ x, p[i]? = some x := ⟨_, List.getElem?_eq_getElem (by omega)⟩
          have hxm := List.mem_of_getElem? hx
          have dl := decide_eq_true hlt
          have hw : IntKind.i64.wrap ((i : Int) + 1) = (i : Int) + 1 := i64_id (by omega) (by omega)
          have hpi : (p.map qrow)[i]? = some (qrow x) := by rw [List.getElem?_map, hx]; rfl
          have g0' := g0
          simp only [ratsV] at g0'
          simp [g0', g12, dl]
          refine adraw' [] mixed (by kernel_rfl) (by kernel_rfl) ?_
          simp [g9, g11, g12, hlt, gσ2]
          simp [hx, qrow]
          refine ⟨_, Sign_R (rq x) x (Is_rq x (hpb x hxm) (by omega)) (hpb x hxm) (by omega), Qv_pure x, ?_⟩
          have hsc : scanB p (i + 1) = if 0 ≤ x.num ∧ beats p (scanB p i) x = true then some i else scanB p i := by
            show (match p[i]? with | none => _ | some x => _) = _
            rw [hx]
          by_cases hx0 : 0 ≤ x.num
          · have hs0 : 0 ≤ x.num.sign := by
              rcases Int.lt_trichotomy x.num 0 with h | h | h
              · omega
              · rw [h]; decide
              · rw [Int.sign_eq_one_of_pos h]; decide
            simp [hs0]
            cases hb : scanB p i with
            | none =>
              rw [hb] at g11 hsc
              simp [optI] at g11
              have hsc' : scanB p (i + 1) = some i := by rw [hsc, if_pos ⟨hx0, rfl⟩]
              simp [g11, g12, hw]
              exact ⟨l.length - (i + 1), by omega, i + 1, rfl, by omega, by simp [g0], by simp [g6], by simp [g8], by simp [g9], by simp [hsc', optI], by simp⟩
            | some b =>
              obtain ⟨hbi, y, hy⟩ := scanB_lt hb
              rw [hb] at g11 hsc
              simp [optI] at g11
              have hym := List.mem_of_getElem? hy
              have hpb' : (p.map qrow)[b]? = some (qrow y) := by rw [List.getElem?_map, hy]; rfl
              have hb0 : ¬ ((b : Int) < 0) := by omega
              have hbl : b < l.length := by omega
              simp [g11, hb0, g9, g12, hlt, hbl, gσ2, hx, hy]
              simp [qrow, g9, g11, g12, hbl, gσ2, hy]
              refine ⟨_, Compare_R (rq x) (rq y) x y (Is_rq x (hpb x hxm) (by omega)) (Is_rq y (hpb y hym) (by omega)) (hpb x hxm) (hpb y hym) (by omega), ⟨Qv_pure x, Qv_pure y⟩, ?_⟩
              by_cases hc : 0 < (x - y).num
              · have hcs : 0 < (x - y).num.sign := Int.sign_pos_iff.2 hc
                have hsc' : scanB p (i + 1) = some i := by rw [hsc, if_pos ⟨hx0, by simp [beats, hy, hc]⟩]
                generalize (x - y).num.sign = sg at *
                simp [hcs, g12, hw]
                exact ⟨l.length - (i + 1), by omega, i + 1, rfl, by omega, by simp [g0], by simp [g6], by simp [g8], by simp [g9], by simp [hsc', optI], by simp⟩
              · have hcs : ¬ 0 < (x - y).num.sign := fun h => hc (Int.sign_pos_iff.1 h)
                have hsc' : scanB p (i + 1) = some b := by rw [hsc, if_neg (by simp [beats, hy, hc])]
                generalize (x - y).num.sign = sg at *
                simp [hcs, g12, hw]
                exact ⟨l.length - (i + 1), by omega, i + 1, rfl, by omega, by simp [g0], by simp [g6], by simp [g8], by simp [g9], by simp [hsc', optI, g11], by simp⟩
          · have hs0 : ¬ 0 ≤ x.num.sign := by rw [Int.sign_eq_neg_one_of_neg (by omega)]; decide
            have hsc' : scanB p (i + 1) = scanB p i := by rw [hsc, if_neg fun h => hx0 h.1]
            simp [hs0, g12, hw]
            exact ⟨l.length - (i + 1), by omega, i + 1, rfl, by omega, by simp [g0], by simp [g6], by simp [g8], by simp [g9], by simp [hsc', g11], by simp⟩
        · obtain rfl : i = l.length := by omega
          obtain ⟨b, hb⟩ : ∃ b, scanB p p.length = some b := by
            cases hb : scanB p p.length with
            | none => unfold appLoop at hap; rw [hb] at hap; simp at hap
            | some b => exact ⟨b, rfl⟩
          have hap' : appLoop m (o1.set b (o1[b]?.getD 0 + 1)) (p.set b (-1)) = some o := by unfold appLoop at hap; rw [hb] at hap; exact hap
          obtain ⟨hbi, y, hy⟩ := scanB_lt hb
          rw [hp1] at hb
          have hbl : b < l.length := by omega
          obtain ⟨v, hv⟩ : ∃ v, o1[b]? = some v := ⟨_, List.getElem?_eq_getElem (by omega)⟩
          have hvb := hob v (List.mem_of_getElem? hv)
          rw [hv, Option.getD_some] at hap'
          have dl := decide_eq_false hlt
          rw [hb] at g11
          simp [optI] at g11
          have hw1 : IntKind.i64.wrap (v + 1) = v + 1 := i64_id (by omega) (by omega)
          have hw2 : IntKind.i64.wrap (m : Int) = (m : Int) := i64_id (by omega) (by omega)
          have g0' := g0
          simp only [ratsV] at g0'
          simp [g0', g12, dl, g8, g11, hbl, gσ1, hv, irow, hw1, hu1]
          refine Run.pcall (FromInt_Q (-1) (by omega) (by omega)) (pure_one (.int _ _)) ?_
          have hpr : ∃ z1 z2 z3, (p.map qrow)[b]? = some [z1, z2, z3] := ⟨_, _, _, by rw [List.getElem?_map, hy]; rfl⟩
          simp [Qv_eq, g9, g11, hbl, gσ2, hy, hu2, hw2, g6, qrow]
          refine ⟨m, by omega, o1.set b (v + 1), p.set b (-1), hap', by omega, by simp [g0], by simp, by simp [g8], by simp [g9], ?_, ?_, by simp [ho1], by simp [hp1], ?_, ?_⟩
          · simp [hu1, List.map_set, irow, gσ1]
          · simp [hu2, List.map_set, gσ2]
            rfl
          · intro x hx
            rcases List.mem_or_eq_of_mem_set hx with h1 | h1
            · have := hob x h1; omega
            · omega
          · intro x hx
            rcases List.mem_or_eq_of_mem_set hx with h1 | h1
            · exact hpb x h1
            · rw [h1]; exact SmQ.int (z := -1) (sm_i64 (by omega) (by omega) (by omega)) (by omega)

end Go.Proofs.Ytngbibpmaofamaa.Ab

/- Lists of integers: equality; the remainder of make. -/
-- IntsA
namespace Go.Proofs.Ytngbibpmaofamaa.Ab
open Go Num

set_option maxRecDepth 100000 in
theorem Ints17_run (a b : List Int) (ha : a.length ≤ 1000000) (hb : b.length ≤ 1000000) : PRun Try.prog 31 [intsV a, intsV b] (fun r => r = .bool (decide (a = b))) := by
  unfold PRun
  refine run_fn Try.func31 rfl (by simp) ?_
  by_cases hl : a.length = b.length
  · have hl' : (a.length : Int) = (b.length : Int) := by omega
    simp [intsV, hl']
    refine ac_loop (fun n t σ => ∃ i, n = a.length - i ∧ i ≤ a.length ∧ t 0 = intsV a ∧ t 1 = intsV b ∧ t 5 = .int .i64 i ∧ (∀ j, j < i → a[j]? = b[j]?) ∧ σ = H.empty) a.length ⟨0, by omega, by omega, by simp [intsV], by simp [intsV], by simp, fun j h => by omega, rfl⟩ ?_
    rintro n t σ ⟨i, rfl, hi, h0, h1, h5, heq, rfl⟩
    by_cases hlt : i < a.length
    · obtain ⟨x, hx⟩ : ∃ x, a[i]? = some x := ⟨_, List.getElem?_eq_getElem hlt⟩
      obtain ⟨y, hy⟩ : ∃ y, b[i]? = some y := ⟨_, List.getElem?_eq_getElem (by omega)⟩
      have dl := decide_eq_true hlt
      have hw : IntKind.i64.wrap ((i : Int) + 1) = (i : Int) + 1 := i64_id (by omega) (by omega)
      have h0' := h0
      have h1' := h1
      simp only [intsV] at h0' h1'
      simp [h0', h1', h5, dl]
      refine adraw' [] mixed (by kernel_rfl) (by kernel_rfl) ?_
      simp [h0', h1', h5, hx, hy]
      by_cases he : x = y
      · subst he
        simp [h5, hw]
        refine ⟨a.length - (i + 1), by omega, i + 1, rfl, by omega, by simp [h0], by simp [h1], by simp, ?_⟩
        intro j hj
        by_cases e : j = i
        · subst e; rw [hx, hy]
        · exact heq j (by omega)
      · have hne : a ≠ b := by intro h; subst h; rw [hx] at hy; injection hy with hy; exact he hy
        simp [he, hne]
        exact .bool _
    · have hab : a = b := by
        apply List.ext_getElem?
        intro j
        by_cases hj : j < a.length
        · exact heq j (by omega)
        · rw [List.getElem?_eq_none (by omega), List.getElem?_eq_none (by omega)]
      have dl := decide_eq_false hlt
      have h0' := h0
      simp only [intsV] at h0'
      subst hab
      simp [h0', h5, dl]
      exact .bool _
  · have hl' : ¬ ((a.length : Int) = (b.length : Int)) := by omega
    have hne : a ≠ b := fun h => hl (by rw [h])
    have hl2 : (a.length != b.length) = true := by simpa using hl
    have hl3 : ((a.length : Int) != (b.length : Int)) = true := by simpa using hl'
    simp [intsV, hl, hl', hl2, hl3, hne]
    exact .bool _

set_option maxRecDepth 100000 in
theorem Ints18_run (a b : List Int) (ha : a.length ≤ 1000000) (hb : b.length ≤ 1000000) : PRun Try.prog 11 [intsV a, intsV b] (fun r => r = .bool (decide (a = b))) := by
  unfold PRun
  refine run_fn Try.func11 rfl (by simp) ?_
  simp
  refine Run.pcall (Ints17_run a b ha hb) (pure_two (intsV_pure a) (intsV_pure b)) ?_
  simp
  exact .bool _

/-- A number brought into a range as make does it. -/
def modI (v n : Int) : Int := (IntKind.u64.wrap v) % n

set_option maxRecDepth 100000 in
theorem Mod_run (v n : Int) (h0 : 0 < n) (h1 : n ≤ 9223372036854775807) : PRun Try.prog 7 [.int .i64 v, .int .i64 n] (fun r => r = .int .i64 (modI v n)) := by
  unfold PRun
  refine run_fn Try.func7 rfl (by simp) ?_
  have hu : IntKind.u64.wrap n = n := u64_id (by omega) (by omega)
  have hv0 : 0 ≤ IntKind.u64.wrap v := by
    unfold IntKind.wrap; simp [IntKind.signed, IntKind.bits]; omega
  have hm0 := Int.emod_nonneg (IntKind.u64.wrap v) (show n ≠ 0 by omega)
  have hm1 := Int.emod_lt_of_pos (IntKind.u64.wrap v) h0
  have hn0 : ¬ n = 0 := by omega
  unfold modI
  generalize hu2 : IntKind.u64.wrap v = u at *
  have ht : u.tmod n = u % n := Int.tmod_eq_emod_of_nonneg hv0
  have hw1 : IntKind.u64.wrap (u % n) = u % n := u64_id hm0 (by omega)
  have hw2 : IntKind.i64.wrap (u % n) = u % n := i64_id (by omega) (by omega)
  simp [hu, hu2, hn0, ht, hw1, hw2]
  exact .int _ _

end Go.Proofs.Ytngbibpmaofamaa.Ab

/- The reference's Curtail: the parts of one merit as numbers. -/
-- Cur0
namespace Go.Proofs.Ytngbibpmaofamaa.Ab
open Go Num

theorem divInt_mul (n s : Int) : Rat.divInt n s = (n : Rat) * (s : Rat)⁻¹ := by rw [Rat.divInt_eq_div, Rat.div_def]

theorem divInt_add (x y s : Int) : Rat.divInt x s + Rat.divInt y s = Rat.divInt (x + y) s := by
  rw [divInt_mul, divInt_mul, divInt_mul, Rat.intCast_add, Rat.add_mul]

theorem cast_pos {s : Int} (h : 0 < s) : (0 : Rat) < (s : Rat) := by
  have := Rat.intCast_lt_intCast (a := 0) (b := s)
  exact this.2 h

theorem le_divInt {x n s : Int} (h : 0 < s) : (x : Rat) ≤ Rat.divInt n s ↔ x * s ≤ n := by
  have hs := cast_pos h
  have hne : (s : Rat) ≠ 0 := fun e => by rw [e] at hs; exact absurd hs (by decide)
  have hinv : (s : Rat)⁻¹ * (s : Rat) = 1 := by rw [Rat.mul_comm]; exact Rat.mul_inv_cancel _ hne
  have hi : (0 : Rat) < (s : Rat)⁻¹ := Rat.inv_pos.2 hs
  rw [divInt_mul, ← Rat.intCast_le_intCast, Rat.intCast_mul]
  constructor
  · intro hx
    have := Rat.mul_le_mul_of_nonneg_right hx (Rat.le_of_lt hs)
    rwa [Rat.mul_assoc, hinv, Rat.mul_one] at this
  · intro hx
    have := Rat.mul_le_mul_of_nonneg_right hx (Rat.le_of_lt hi)
    rwa [Rat.mul_assoc, Rat.mul_inv_cancel _ hne, Rat.mul_one] at this

theorem floor_divInt {n s : Int} (h : 0 < s) : (Rat.divInt n s).floor = n / s := by
  apply Int.le_antisymm
  · rw [Int.le_ediv_iff_mul_le h, ← le_divInt h]; exact Rat.floor_le _
  · rw [Rat.le_floor_iff, le_divInt h]; exact Int.ediv_mul_le _ (by omega)

theorem sum_divInt (s : Int) : ∀ (l : List Int) (a : Int), (l.map fun n => Rat.divInt n s).foldl (· + ·) (Rat.divInt a s) = Rat.divInt (l.foldl (· + ·) a) s
  | [], a => rfl
  | x :: l, a => by
    simp only [List.map_cons, List.foldl_cons]
    rw [divInt_add]
    exact sum_divInt s l (a + x)

theorem sumQ_divInt (s : Int) (l : List Int) : sumQ (l.map fun n => Rat.divInt n s) = Rat.divInt (isum l) s := by
  have := sum_divInt s l 0
  rw [Rat.zero_divInt] at this
  exact this

/-- The amounts of one merit, each times a factor. -/
def ns (L : List (Int × Int)) (m c : Int) : List Int := L.map fun p => if p.2 = m then c * p.1 else 0
def gS (L : List (Int × Int)) (m : Int) : Int := isum (ns L m 1)
/-- The reference's parts. -/
def parts (L : List (Int × Int)) (m c : Int) : List (Raw × Rat) := L.map fun p => if p.2 = m then (if gS L m = 0 then (r0, 0) else (rq (Rat.divInt (c * p.1) (gS L m)), Rat.divInt (c * p.1) (gS L m))) else (rq 0, 0)

theorem qs_parts (L : List (Int × Int)) (m c : Int) : qs (parts L m c) = (ns L m c).map fun n => Rat.divInt n (gS L m) := by
  unfold qs parts ns
  rw [List.map_map, List.map_map]
  apply List.map_congr_left
  intro p _
  simp only [Function.comp]
  by_cases h : p.2 = m
  · rw [if_pos h, if_pos h]
    by_cases h0 : gS L m = 0
    · rw [if_pos h0, h0, Rat.divInt_zero]
    · rw [if_neg h0]
  · rw [if_neg h, if_neg h, Rat.zero_divInt]

end Go.Proofs.Ytngbibpmaofamaa.Ab

/- The reference's Curtail: its parts may be apportioned. -/
-- Cur1
namespace Go.Proofs.Ytngbibpmaofamaa.Ab
open Go Num

structure GoodL (L : List (Int × Int)) : Prop where
  len : L.length ≤ 32
  amt : ∀ p ∈ L, 0 ≤ p.1 ∧ p.1 ≤ 1048576

theorem isum_add (x : Int) : ∀ (l : List Int) (a : Int), l.foldl (· + ·) (a + x) = l.foldl (· + ·) a + x
  | [], a => rfl
  | y :: l, a => by
    simp only [List.foldl_cons]
    rw [show a + x + y = (a + y) + x by omega]
    exact isum_add x l (a + y)

theorem isum_cons (x : Int) (l : List Int) : isum (x :: l) = x + isum l := by
  show l.foldl (· + ·) (0 + x) = _
  rw [isum_add]; unfold isum; omega

theorem isum_ns (m c : Int) : ∀ L : List (Int × Int), isum (ns L m c) = c * isum (ns L m 1)
  | [] => by simp [ns, isum]
  | p :: L => by
    have e : ∀ c, ns (p :: L) m c = (if p.2 = m then c * p.1 else 0) :: ns L m c := fun c => rfl
    rw [e, e, isum_cons, isum_cons, isum_ns m c L, Int.mul_add]
    split
    · rw [Int.one_mul]
    · rw [Int.mul_zero]

theorem isum_range {a b : Int} : ∀ (l : List Int), (∀ x ∈ l, a ≤ x ∧ x ≤ b) → (l.length : Int) * a ≤ isum l ∧ isum l ≤ (l.length : Int) * b
  | [], _ => by simp [isum]
  | x :: l, h => by
    have h1 := h x (List.mem_cons_self ..)
    have ih := isum_range l fun y hy => h y (List.mem_cons_of_mem _ hy)
    rw [isum_cons, List.length_cons, Int.natCast_add, Int.add_mul, Int.add_mul]
    omega

theorem ns_mem {L : List (Int × Int)} {m c : Int} (h : GoodL L) (hc : 0 ≤ c) (hc' : c ≤ 33554432) : ∀ x ∈ ns L m c, 0 ≤ x ∧ x ≤ 35184372088832 := by
  intro x hx
  obtain ⟨p, hp, rfl⟩ := List.mem_map.1 hx
  have := h.amt p hp
  split
  · refine ⟨Int.mul_nonneg hc this.1, ?_⟩
    have := Int.mul_le_mul hc' this.2 this.1 (by decide)
    omega
  · omega

theorem gS_range {L : List (Int × Int)} {m : Int} (h : GoodL L) : 0 ≤ gS L m ∧ gS L m ≤ 33554432 := by
  have := isum_range (a := 0) (b := 1048576) (ns L m 1) (by
    intro x hx
    obtain ⟨p, hp, rfl⟩ := List.mem_map.1 hx
    have := h.amt p hp
    split <;> omega)
  have hl : (ns L m 1).length = L.length := List.length_map _
  have := h.len
  unfold gS
  omega

theorem floors_parts {L : List (Int × Int)} {m c : Int} (h : GoodL L) : floors (qs (parts L m c)) = (ns L m c).map fun n => n / gS L m := by
  rw [qs_parts]
  unfold floors
  rw [List.map_map]
  apply List.map_congr_left
  intro n _
  simp only [Function.comp]
  rcases Int.lt_or_eq_of_le (gS_range (m := m) h).1 with h0 | h0
  · exact floor_divInt h0
  · rw [← h0, Rat.divInt_zero, Int.ediv_zero]; rfl

/-- How many get one more. -/
def gT (L : List (Int × Int)) (m c : Int) : Nat := (c - isum ((ns L m c).map fun n => n / gS L m)).toNat

theorem divmod_sum (s : Int) : ∀ l : List Int, isum l = s * isum (l.map fun n => n / s) + isum (l.map fun n => n % s)
  | [] => by simp [isum]
  | x :: l => by
    rw [List.map_cons, List.map_cons, isum_cons, isum_cons, isum_cons, divmod_sum s l, Int.mul_add]
    have := Int.mul_ediv_add_emod x s
    omega

theorem gT_spec {L : List (Int × Int)} {m c : Int} (h : GoodL L) (hc : 0 ≤ c) (hcS : c ≤ gS L m) :
    c = isum ((ns L m c).map fun n => n / gS L m) + gT L m c ∧ (gT L m c = 0 ∨ gT L m c < L.length) ∧ isum ((ns L m c).map fun n => n % gS L m) = gS L m * gT L m c := by
  have hr := gS_range (m := m) h
  have hs := isum_ns m c L
  have hd := divmod_sum (gS L m) (ns L m c)
  have hsS : isum (ns L m c) = c * gS L m := hs
  rw [hsS] at hd
  have hlen : ((ns L m c).map fun n => n % gS L m).length = L.length := by simp [ns]
  unfold gT
  rcases Int.lt_or_eq_of_le hr.1 with h0 | h0
  · have hm := isum_range (a := 0) (b := gS L m - 1) ((ns L m c).map fun n => n % gS L m) (by
      intro x hx
      obtain ⟨n, _, rfl⟩ := List.mem_map.1 hx
      have h1 := Int.emod_nonneg n (show gS L m ≠ 0 by omega)
      have h2 := Int.emod_lt_of_pos n h0
      omega)
    rw [hlen] at hm
    generalize isum ((ns L m c).map fun n => n / gS L m) = D at *
    generalize isum ((ns L m c).map fun n => n % gS L m) = M at *
    generalize gS L m = S at *
    have e : S * (c - D) = M := by rw [Int.mul_sub, Int.mul_comm S c]; omega
    have hnn : 0 ≤ c - D := by
      rcases Int.lt_or_le (c - D) 0 with h | h
      · have := Int.mul_neg_of_pos_of_neg h0 h; omega
      · exact h
    refine ⟨by omega, ?_, by rw [Int.toNat_of_nonneg hnn, e]⟩
    rcases Nat.eq_zero_or_pos L.length with hl | hl
    · left
      rw [hl] at hm
      have hM : M = 0 := by omega
      rw [hM] at e
      rcases Int.mul_eq_zero.1 e with h | h <;> omega
    · right
      have hlt : S * (c - D) < S * (L.length : Int) := by
        rw [e]
        have e2 : (L.length : Int) * (S - 1) = S * L.length - L.length := by rw [Int.mul_sub, Int.mul_one, Int.mul_comm]
        omega
      have := Int.lt_of_mul_lt_mul_left hlt (by omega)
      omega
  · have hc0 : c = 0 := by omega
    subst hc0
    have hz : ∀ x ∈ ns L m 0, x = 0 := by
      intro x hx
      obtain ⟨p, _, rfl⟩ := List.mem_map.1 hx
      simp
    have hz1 : isum ((ns L m 0).map fun n => n / gS L m) = 0 := by
      have := isum_range (a := 0) (b := 0) ((ns L m 0).map fun n => n / gS L m) (by
        intro x hx
        obtain ⟨n, hn, rfl⟩ := List.mem_map.1 hx
        rw [hz n hn]; simp)
      omega
    have hz2 : isum ((ns L m 0).map fun n => n % gS L m) = 0 := by
      have := isum_range (a := 0) (b := 0) ((ns L m 0).map fun n => n % gS L m) (by
        intro x hx
        obtain ⟨n, hn, rfl⟩ := List.mem_map.1 hx
        rw [hz n hn]; simp)
      omega
    rw [hz1, hz2]
    simp

theorem parts_is {L : List (Int × Int)} {m c : Int} (h : GoodL L) (hc : 0 ≤ c) (hc' : c ≤ 33554432) : ∀ p ∈ parts L m c, Is p.1 p.2 := by
  intro p hp
  obtain ⟨q, hq, rfl⟩ := List.mem_map.1 hp
  have hr := gS_range (m := m) h
  have ha := h.amt q hq
  have one : SmQ 2 (0 : Rat) := SmQ.int (z := 0) (sm_i64 (by omega) (by omega) (by omega)) (by omega)
  split
  · split
    · exact Is_r0
    · have hb : 0 ≤ c * q.1 ∧ c * q.1 ≤ 35184372088832 := by
        refine ⟨Int.mul_nonneg hc ha.1, ?_⟩
        have := Int.mul_le_mul hc' ha.2 ha.1 (by decide)
        omega
      exact Is_rq _ (k := 2) (SmQ.of_divInt (sm_i64 (by omega) (by omega) (by omega)) (sm_i64 (by omega) (by omega) (by omega)) (by omega)) (by omega)
  · exact Is_rq 0 one (by omega)

theorem absQ_nonneg {q : Rat} (h : 0 ≤ q) : absQ q = q := by
  unfold absQ
  rw [if_neg]
  have := Rat.num_nonneg.2 h
  omega

theorem parts_ok {L : List (Int × Int)} {m c : Int} (h : GoodL L) (hc : 0 ≤ c) (hcS : c ≤ gS L m) : AppOk (qs (parts L m c)) 2 (gT L m c) := by
  have hr := gS_range (m := m) h
  have hc' : c ≤ 33554432 := by omega
  have hn := ns_mem (m := m) h hc hc'
  obtain ⟨t1, t2, t3⟩ := gT_spec h hc hcS
  have hlen := h.len
  have hl : (qs (parts L m c)).length = L.length := by rw [qs_len]; simp [parts]
  have sS : Sm 2 (gS L m) := sm_i64 (by omega) (by omega) (by omega)
  have hmem : ∀ q ∈ qs (parts L m c), ∃ n, q = Rat.divInt n (gS L m) ∧ 0 ≤ n ∧ n ≤ 35184372088832 := by
    intro q hq
    rw [qs_parts] at hq
    obtain ⟨n, h1, rfl⟩ := List.mem_map.1 hq
    exact ⟨n, rfl, hn n h1⟩
  have hfl : ∀ n : Int, 0 ≤ n → n ≤ 35184372088832 → 0 ≤ (Rat.divInt n (gS L m)).floor ∧ (Rat.divInt n (gS L m)).floor ≤ 35184372088832 := by
    intro n h0 h1
    rcases Int.lt_or_eq_of_le hr.1 with h2 | h2
    · rw [floor_divInt h2]
      exact ⟨Int.ediv_nonneg h0 (by omega), Int.le_trans (Int.ediv_le_self _ h0) h1⟩
    · rw [← h2, Rat.divInt_zero]
      show 0 ≤ (0 : Rat).floor ∧ (0 : Rat).floor ≤ _
      rw [show (0 : Rat).floor = 0 from rfl]; omega
  refine ⟨by omega, ?_, ?_, by omega, by omega, ?_, ?_, by omega, ?_⟩
  · intro q hq
    obtain ⟨n, rfl, h0, h1⟩ := hmem q hq
    exact SmQ.of_divInt (sm_i64 (by omega) (by omega) (by omega)) sS (by omega)
  · intro i
    rw [qs_parts, ← List.map_take, sumQ_divInt]
    have := isum_range (a := 0) (b := 35184372088832) ((ns L m c).take i) fun x hx => hn x (List.mem_of_mem_take hx)
    have hli : ((ns L m c).take i).length ≤ 32 := by simp [ns]; omega
    exact SmQ.of_divInt (sm_i64 (by omega) (by omega) (by omega)) sS (by omega)
  · intro q hq
    obtain ⟨n, rfl, h0, h1⟩ := hmem q hq
    have hq0 : (0 : Rat) ≤ Rat.divInt n (gS L m) := by
      have := (Rat.le_floor_iff (x := 0) (a := Rat.divInt n (gS L m))).1 (hfl n h0 h1).1
      exact this
    rw [absQ_nonneg hq0]
    have hlt : Rat.divInt n (gS L m) < ((281474976710656 : Int) : Rat) := Rat.floor_lt_iff.1 (by have := (hfl n h0 h1).2; omega)
    have hle : (0 : Rat) ≤ ((281474976710656 : Int) : Rat) - Rat.divInt n (gS L m) := (Rat.le_iff_sub_nonneg _ _).1 (Rat.le_of_lt hlt)
    have h3 := Rat.num_nonneg.2 hle
    have e : Rat.divInt n (gS L m) - ((281474976710656 : Int) : Rat) = -(((281474976710656 : Int) : Rat) - Rat.divInt n (gS L m)) := by rw [Rat.neg_sub]
    rw [e, Rat.neg_num]
    omega
  · intro q hq
    obtain ⟨n, rfl, h0, h1⟩ := hmem q hq
    have := hfl n h0 h1
    omega
  · rw [floors_parts h, ← t1, qs_parts, sumQ_divInt, isum_ns]
    show Rat.divInt (c * gS L m) (gS L m) = (c : Rat)
    rcases Int.lt_or_eq_of_le hr.1 with h2 | h2
    · rw [divInt_mul, Rat.intCast_mul, Rat.mul_assoc, Rat.mul_inv_cancel _ (fun e => by have := cast_pos h2; rw [e] at this; exact absurd this (by decide)), Rat.mul_one]
    · have : c = 0 := by omega
      rw [← h2, this, Rat.divInt_zero]; rfl

end Go.Proofs.Ytngbibpmaofamaa.Ab

/- The reference's Curtail: what Apportion gives. -/
-- Cur2
namespace Go.Proofs.Ytngbibpmaofamaa.Ab
open Go Num

theorem scanB_num {p : List Rat} : ∀ {i b : Nat} {y : Rat}, scanB p i = some b → p[b]? = some y → 0 ≤ y.num
  | i + 1, b, y, h, hy => by
    unfold scanB at h
    cases hx : p[i]? with
    | none => rw [hx] at h; exact scanB_num h hy
    | some x =>
      rw [hx] at h
      simp only at h
      split at h
      · rename_i hc
        injection h with h; subst h
        rw [hx] at hy; injection hy with hy; subst hy
        exact hc.1
      · exact scanB_num h hy

theorem scanB_some {p : List Rat} : ∀ {i j : Nat} {x : Rat}, j < i → p[j]? = some x → 0 ≤ x.num → ∃ b, scanB p i = some b
  | i + 1, j, x, hj, hx, h0 => by
    unfold scanB
    by_cases e : j = i
    · subst e
      rw [hx]
      simp only
      cases hs : scanB p j with
      | none => exact ⟨j, by rw [if_pos ⟨h0, rfl⟩]⟩
      | some b =>
        split
        · exact ⟨j, rfl⟩
        · exact ⟨b, rfl⟩
    · obtain ⟨b, hb⟩ := scanB_some (show j < i by omega) hx h0
      rw [hb]
      cases hy : p[i]? with
      | none => exact ⟨b, rfl⟩
      | some y =>
        simp only
        split
        · exact ⟨i, rfl⟩
        · exact ⟨b, rfl⟩

theorem filter_set {α : Type} {pr : α → Bool} : ∀ {l : List α} {b : Nat} {x v : α}, l[b]? = some x → pr x = true → pr v = false → ((l.set b v).filter pr).length + 1 = (l.filter pr).length
  | [], b, x, v, h, _, _ => by simp at h
  | a :: l, 0, x, v, h, hx, hv => by
    simp at h; subst h
    simp [hx, hv]
  | a :: l, b + 1, x, v, h, hx, hv => by
    have ih := filter_set (l := l) (b := b) (by simpa using h) hx hv
    rw [List.set_cons_succ, List.filter_cons, List.filter_cons]
    split
    · simp only [List.length_cons]; omega
    · exact ih

def untaken (p : List Rat) : Nat := (p.filter fun x => decide (0 ≤ x.num)).length

theorem appLoop_some {M : Int} : ∀ (t : Nat) (o : List Int) (p : List Rat), t ≤ untaken p → o.length = p.length → (∀ x ∈ o, 0 ≤ x ∧ x ≤ M) → ∃ o', appLoop t o p = some o' ∧ o'.length = o.length ∧ ∀ x ∈ o', 0 ≤ x ∧ x ≤ M + t
  | 0, o, p, _, _, hb => ⟨o, rfl, rfl, fun x hx => by have := hb x hx; omega⟩
  | t + 1, o, p, ht, hl, hb => by
    have hpos : 0 < untaken p := by omega
    obtain ⟨x, hx⟩ := List.exists_mem_of_length_pos hpos
    have hx' := List.mem_filter.1 hx
    obtain ⟨j, hj⟩ := List.getElem?_of_mem hx'.1
    obtain ⟨b, hs⟩ := scanB_some (p := p) (i := p.length) (by have := List.getElem?_eq_some_iff.1 hj; exact this.1) hj (by simpa using hx'.2)
    obtain ⟨hbl, y, hy⟩ := scanB_lt hs
    have hy0 := scanB_num hs hy
    have hu : untaken (p.set b (-1)) + 1 = untaken p := filter_set hy (by simpa using hy0) (by decide)
    obtain ⟨v, hv⟩ : ∃ v, o[b]? = some v := ⟨_, List.getElem?_eq_getElem (by omega)⟩
    have hvb := hb v (List.mem_of_getElem? hv)
    obtain ⟨o', h1, h2, h3⟩ := appLoop_some (M := M + 1) t (o.set b (v + 1)) (p.set b (-1)) (by omega) (by simp [hl]) (by
      intro x hx
      rcases List.mem_or_eq_of_mem_set hx with h | h
      · have := hb x h; omega
      · omega)
    refine ⟨o', ?_, by rw [h2]; simp, fun x hx => by have := h3 x hx; omega⟩
    unfold appLoop
    rw [hs]
    simp only
    rw [hv, Option.getD_some]
    exact h1

/-- What Apportion gives of the parts of one merit. -/
def apo (L : List (Int × Int)) (m c : Int) : List Int := (appLoop (gT L m c) (floors (qs (parts L m c))) (fracs (qs (parts L m c)))).getD []

theorem frac_nonneg (q : Rat) : 0 ≤ (q - (q.floor : Rat)).num := Rat.num_nonneg.2 ((Rat.le_iff_sub_nonneg _ _).1 (Rat.floor_le q))

theorem untaken_fracs (l : List Rat) : untaken (fracs l) = l.length := by
  unfold untaken fracs
  rw [List.filter_eq_self.2, List.length_map]
  intro x hx
  obtain ⟨q, _, rfl⟩ := List.mem_map.1 hx
  simpa using frac_nonneg q

theorem apo_spec {L : List (Int × Int)} {m c : Int} (h : GoodL L) (hc : 0 ≤ c) (hcS : c ≤ gS L m) :
    appLoop (gT L m c) (floors (qs (parts L m c))) (fracs (qs (parts L m c))) = some (apo L m c) ∧ (apo L m c).length = L.length ∧ ∀ x ∈ apo L m c, 0 ≤ x ∧ x ≤ 35184372088864 := by
  have hl : (qs (parts L m c)).length = L.length := by rw [qs_len]; simp [parts]
  obtain ⟨_, t2, _⟩ := gT_spec h hc hcS
  have hlen := h.len
  have hr := gS_range (m := m) h
  have hn := ns_mem (m := m) h hc (by omega)
  have hfl : ∀ x ∈ floors (qs (parts L m c)), 0 ≤ x ∧ x ≤ 35184372088832 := by
    rw [floors_parts h]
    intro x hx
    obtain ⟨n, h1, rfl⟩ := List.mem_map.1 hx
    have := hn n h1
    exact ⟨Int.ediv_nonneg this.1 hr.1, Int.le_trans (Int.ediv_le_self _ this.1) this.2⟩
  obtain ⟨o, h1, h2, h3⟩ := appLoop_some (M := 35184372088832) (gT L m c) (floors (qs (parts L m c))) (fracs (qs (parts L m c))) (by rw [untaken_fracs, hl]; omega) (by simp [floors, fracs]) hfl
  have e : apo L m c = o := by unfold apo; rw [h1]; rfl
  rw [e]
  refine ⟨h1, by rw [h2, floors, List.length_map, hl], fun x hx => ?_⟩
  have := h3 x hx
  omega

theorem Apportion_parts {L : List (Int × Int)} {m c : Int} (h : GoodL L) (hc : 0 ≤ c) (hcS : c ≤ gS L m) : PRun Try.prog 30 [ratsV (parts L m c)] (fun r => r = .tup [intsV (apo L m c), .int .i64 0]) :=
  Apportion_run _ 2 _ (parts_is h hc (by have := gS_range (m := m) h; omega)) (parts_ok h hc hcS) _ (apo_spec h hc hcS).1

end Go.Proofs.Ytngbibpmaofamaa.Ab

/- Which places get one more: the reference's choice. -/
-- Sel
namespace Go.Proofs.Ytngbibpmaofamaa.Ab
open Go Num

theorem num_sub_pos {x y : Rat} : 0 < (x - y).num ↔ y < x := by
  rw [Rat.lt_iff_sub_pos]
  constructor
  · intro h
    rcases @Rat.le_total 0 (x - y) with h1 | h1
    · exact Rat.lt_of_le_of_ne h1 fun e => by rw [← e] at h; exact absurd h (by decide)
    · exfalso
      have h2 : 0 ≤ -(x - y) := by
        have := (Rat.le_iff_sub_nonneg (x - y) 0).1 h1
        rwa [show (0 : Rat) - (x - y) = -(x - y) by rw [Rat.sub_eq_add_neg, Rat.zero_add]] at this
      have h3 := Rat.num_nonneg.2 h2
      rw [Rat.neg_num] at h3
      omega
  · intro h
    have h1 := Rat.num_nonneg.2 (Rat.le_of_lt h)
    rcases Int.lt_or_eq_of_le h1 with h2 | h2
    · exact h2
    · exfalso
      have : x - y = 0 := Rat.num_eq_zero.1 h2.symm
      rw [this] at h
      exact absurd h (by decide)

/-- The choice is the first of the greatest. -/
theorem scanB_max {p : List Rat} : ∀ {i b : Nat} {y : Rat}, scanB p i = some b → p[b]? = some y → ∀ (j : Nat) (x : Rat), j < i → p[j]? = some x → 0 ≤ x.num → x ≤ y ∧ (j < b → x < y)
  | i + 1, b, y, h, hy, j, x, hj, hx, h0 => by
    unfold scanB at h
    cases hz : p[i]? with
    | none =>
      rw [hz] at h
      have : j ≠ i := fun e => by subst e; rw [hx] at hz; simp at hz
      exact scanB_max h hy j x (by omega) hx h0
    | some z =>
      rw [hz] at h
      simp only at h
      split at h
      · rename_i hc
        injection h with h; subst h
        rw [hz] at hy; injection hy with hy; subst hy
        by_cases e : j = i
        · subst e
          rw [hz] at hx; injection hx with hx; subst hx
          exact ⟨Rat.le_refl, fun h => by omega⟩
        · have hji : j < i := by omega
          cases hs : scanB p i with
          | none =>
            exfalso
            obtain ⟨b', hb'⟩ := scanB_some hji hx h0
            rw [hs] at hb'; simp at hb'
          | some b' =>
            obtain ⟨hb1, y', hy'⟩ := scanB_lt hs
            have ih := (scanB_max hs hy' j x hji hx h0).1
            have hbt := hc.2
            rw [hs] at hbt
            unfold beats at hbt
            simp only [hy', decide_eq_true_eq] at hbt
            have hlt := num_sub_pos.1 hbt
            have hxz : x < z := Rat.not_le.1 fun hh => Rat.not_le.2 hlt (Rat.le_trans hh ih)
            exact ⟨Rat.le_of_lt hxz, fun _ => hxz⟩
      · rename_i hc
        by_cases e : j = i
        · subst e
          rw [hz] at hx; injection hx with hx; subst hx
          obtain ⟨hb1, _⟩ := scanB_lt h
          refine ⟨?_, fun hh => by omega⟩
          rcases @Rat.le_total z y with h1 | h1
          · exact h1
          · apply Rat.not_lt.1
            intro hlt
            apply hc
            refine ⟨h0, ?_⟩
            rw [h]
            unfold beats
            simp only [hy, decide_eq_true_eq]
            exact num_sub_pos.2 hlt
        · exact scanB_max h hy j x (by omega) hx h0

/-- The places that get one more: each of them stands before each of the others. -/
theorem appLoop_picks : ∀ (t : Nat) (o : List Int) (p : List Rat) (o' : List Int), o.length = p.length → appLoop t o p = some o' → ∃ P : List Nat, P.Nodup ∧ P.length = t ∧ (∀ x ∈ P, ∃ v, p[x]? = some v ∧ 0 ≤ v.num) ∧
    (∀ x ∈ P, ∀ (y : Nat), y ∉ P → ∀ v w, p[x]? = some v → p[y]? = some w → 0 ≤ w.num → w ≤ v ∧ (y < x → w < v)) ∧ o'.length = o.length ∧ ∀ (i : Nat) a, o[i]? = some a → o'[i]? = some (a + if i ∈ P then 1 else 0)
  | 0, o, p, o', _, h => by
    injection h with h; subst h
    exact ⟨[], List.nodup_nil, rfl, fun x hx => by simp at hx, fun x hx => by simp at hx, rfl, fun i a ha => by simp [ha]⟩
  | t + 1, o, p, o', hl, h => by
    unfold appLoop at h
    cases hs : scanB p p.length with
    | none => rw [hs] at h; simp at h
    | some b =>
      rw [hs] at h
      simp only at h
      obtain ⟨hbl, y0, hy0⟩ := scanB_lt hs
      have hn0 := scanB_num hs hy0
      obtain ⟨ob, hob⟩ : ∃ ob, o[b]? = some ob := ⟨_, List.getElem?_eq_getElem (by omega)⟩
      rw [hob, Option.getD_some] at h
      obtain ⟨P, h1, h2, h3, h4, h5, h6⟩ := appLoop_picks t _ _ _ (by simp [hl]) h
      have hbP : b ∉ P := by
        intro hb
        obtain ⟨v, hv, hv0⟩ := h3 b hb
        rw [List.getElem?_set_self hbl] at hv
        injection hv with hv
        rw [← hv] at hv0
        exact absurd hv0 (by decide)
      have other : ∀ x, x ≠ b → (p.set b (-1))[x]? = p[x]? := fun x hx => List.getElem?_set_ne (fun e => hx e.symm)
      refine ⟨b :: P, List.nodup_cons.2 ⟨hbP, h1⟩, by simp [h2], ?_, ?_, by rw [h5]; simp, ?_⟩
      · intro x hx
        rcases List.mem_cons.1 hx with e | e
        · subst e; exact ⟨y0, hy0, hn0⟩
        · have hxb : x ≠ b := fun e2 => hbP (e2 ▸ e)
          obtain ⟨v, hv, hv0⟩ := h3 x e
          rw [other x hxb] at hv
          exact ⟨v, hv, hv0⟩
      · intro x hx y hy v w hv hw hw0
        have hyb : y ≠ b := fun e => hy (e ▸ List.mem_cons_self ..)
        have hyP : y ∉ P := fun e => hy (List.mem_cons_of_mem _ e)
        rcases List.mem_cons.1 hx with e | e
        · subst e
          have hyl : y < p.length := (List.getElem?_eq_some_iff.1 hw).1
          exact scanB_max hs hv y w hyl hw hw0
        · have hxb : x ≠ b := fun e2 => hbP (e2 ▸ e)
          exact h4 x e y hyP v w (by rw [other x hxb]; exact hv) (by rw [other y hyb]; exact hw) hw0
      · intro i a ha
        by_cases e : i = b
        · subst e
          rw [hob] at ha; injection ha with ha; subst ha
          have := h6 i (ob + 1) (List.getElem?_set_self (by omega))
          rw [this]
          simp [hbP]
        · have := h6 i a (by rw [List.getElem?_set_ne (fun h => e h.symm)]; exact ha)
          rw [this]
          simp [e]

theorem sub_of_len : ∀ {P' P : List Nat}, P'.Nodup → (∀ x ∈ P', x ∈ P) → P.length ≤ P'.length → ∀ x ∈ P, x ∈ P'
  | [], P, _, _, hl, x, hx => by
    have : P = [] := List.eq_nil_of_length_eq_zero (by simpa using hl)
    rw [this] at hx; exact hx
  | a :: P', P, hn, hs, hl, x, hx => by
    rw [List.nodup_cons] at hn
    have ha := hs a (List.mem_cons_self ..)
    by_cases e : x = a
    · subst e; exact List.mem_cons_self ..
    · have hle := List.length_erase_of_mem ha
      refine List.mem_cons_of_mem _ (sub_of_len (P := P.erase a) hn.2 (fun y hy => ?_) ?_ x ((List.mem_erase_of_ne e).2 hx))
      · have hya : y ≠ a := fun h => hn.1 (h ▸ hy)
        exact (List.mem_erase_of_ne hya).2 (hs y (List.mem_cons_of_mem _ hy))
      · rw [hle]; simp only [List.length_cons] at hl; omega

/-- Who is chosen is one set only. -/
theorem choice_unique {P P' : List Nat} {U : Nat → Prop} {before : Nat → Nat → Prop} (hn : P.Nodup) (hn' : P'.Nodup) (hl : P.length = P'.length) (hu : ∀ x ∈ P, U x) (hu' : ∀ x ∈ P', U x) (asym : ∀ x y, before x y → before y x → False)
    (h : ∀ x ∈ P, ∀ y, U y → y ∉ P → before x y) (h' : ∀ x ∈ P', ∀ y, U y → y ∉ P' → before x y) : ∀ x, x ∈ P ↔ x ∈ P' := by
  have key : ∀ {P P' : List Nat}, P'.Nodup → P.length = P'.length → (∀ x ∈ P, U x) → (∀ x ∈ P', U x) → (∀ x ∈ P, ∀ y, U y → y ∉ P → before x y) → (∀ x ∈ P', ∀ y, U y → y ∉ P' → before x y) → ∀ x ∈ P, x ∈ P' := by
    intro P P' hn' hl hu hu' h h' x hx
    apply Classical.byContradiction
    intro hx'
    have hsub : ∀ y ∈ P', y ∈ P := by
      intro y hy
      apply Classical.byContradiction
      intro hy'
      exact asym x y (h x hx y (hu' y hy) hy') (h' y hy x (hu x hx) hx')
    exact hx' (sub_of_len hn' hsub (by omega) x hx)
  exact fun x => ⟨key hn' hl hu hu' h h' x, key hn hl.symm hu' hu h' h x⟩

end Go.Proofs.Ytngbibpmaofamaa.Ab

/- The reference's Curtail. -/
-- CurR
namespace Go.Proofs.Ytngbibpmaofamaa.Ab
open Go Num

def lrow (p : Int × Int) : List V := [.int .i64 p.1, .int .i64 p.2]
def loadsV (L : List (Int × Int)) : V := .imm (L.map lrow) false
theorem loadsV_pure (L : List (Int × Int)) : (loadsV L).Pure := .imm fun row h x hx => by
  obtain ⟨q, _, rfl⟩ := List.mem_map.1 h
  simp [lrow] at hx
  rcases hx with rfl | rfl
  · exact .int _ _
  · exact .int _ _

/-- The first of the least merits that are not done, among the first few. -/
def bestR (L : List (Int × Int)) (d : List Bool) : Nat → Option Nat
  | 0 => none
  | i + 1 => match L[i]?, d[i]? with
    | some p, some false => (match bestR L d i with
      | none => some i
      | some b => match L[b]? with
        | some q => if p.2 < q.2 then some i else some b
        | none => some b)
    | _, _ => bestR L d i

def addL (a b : List Int) : List Int := List.zipWith (· + ·) a b
def markR (L : List (Int × Int)) (m : Int) (d : List Bool) : List Bool := List.zipWith (fun p b => if p.2 = m then true else b) L d

/-- The reference's rounds. -/
def curLoop (L : List (Int × Int)) : Nat → List Bool → Int → List Int → Option (List Int)
  | f, d, need, out => if need ≤ 0 then some out else match f with
    | 0 => none
    | f + 1 => match bestR L d L.length with
      | none => none
      | some b => match L[b]? with
        | none => none
        | some p => curLoop L f (markR L p.2 d) (need - min need (gS L p.2)) (addL out (apo L p.2 (min need (gS L p.2))))

def totalL (L : List (Int × Int)) : Int := isum (L.map (·.1))
def goodAmt (p : Int × Int) : Prop := 0 ≤ p.1 ∧ p.1 ≤ 1048576

/-- What the reference answers. -/
inductive RefCur (L : List (Int × Int)) (need : Int) : List Int × Int → Prop
  | limit (h : 32 < L.length) : RefCur L need ([], 8)
  | amount (h : L.length ≤ 32) (hb : ¬ ∀ p ∈ L, goodAmt p) : RefCur L need ([], 3)
  | range (h : GoodL L) (hb : ¬ (0 ≤ need ∧ need ≤ totalL L)) : RefCur L need ([], 3)
  | ok (h : GoodL L) (h0 : 0 ≤ need) (h1 : need ≤ totalL L) {f : Nat} {o : List Int} (ho : curLoop L f (List.replicate L.length false) need (List.replicate L.length 0) = some o) : RefCur L need (o, 0)

theorem nilres {σ : H} {e : Int} : ∃ x, Frz Try.prog σ (V.tup [.nils, .int .i64 e]) (V.tup [intsV [], .int .i64 e]) x := ⟨_, Frz.tup (i := 0) rfl Frz.nils⟩

set_option maxRecDepth 100000 in
theorem RCurtail_limit (L : List (Int × Int)) (need : Int) (h : 32 < L.length) : PRun Try.prog 9 [loadsV L, .int .i64 need] (fun r => r = .tup [intsV [], .int .i64 8]) := by
  unfold PRun
  refine Run.frz ?_
  refine run_fn Try.func9 rfl (by simp) ?_
  have hl : (32 : Int) < (L.length : Int) := by omega
  simp [loadsV, h, hl]
  exact ⟨nilres, ints_res_pure _ _⟩

/-- Where the first loop stands. -/
def CheckInv (L : List (Int × Int)) (need : Int) (n : Nat) (t : Env) (σ : H) : Prop := ∃ i, n = L.length - i ∧ i ≤ L.length ∧ t 0 = loadsV L ∧ t 1 = .int .i64 need ∧ t 6 = .int .i64 (isum ((L.map (·.1)).take i)) ∧ t 7 = .int .i64 i ∧ (∀ p ∈ L.take i, goodAmt p) ∧ σ = H.empty

theorem take_good {L : List (Int × Int)} {i : Nat} {p : Int × Int} (hg : ∀ p ∈ L.take i, goodAmt p) (hp : L[i]? = some p) (h : goodAmt p) : ∀ p ∈ L.take (i + 1), goodAmt p := by
  intro q hq
  rw [List.take_add_one, hp] at hq
  rcases List.mem_append.1 hq with h1 | h1
  · exact hg q h1
  · simp at h1; subst h1; exact h

set_option maxRecDepth 100000 in
theorem RCurtail_range (L : List (Int × Int)) (need : Int) (hl : L.length ≤ 32) (hb : ¬ ((∀ p ∈ L, goodAmt p) ∧ 0 ≤ need ∧ need ≤ totalL L)) : PRun Try.prog 9 [loadsV L, .int .i64 need] (fun r => r = .tup [intsV [], .int .i64 3]) := by
  unfold PRun
  refine Run.frz ?_
  refine run_fn Try.func9 rfl (by simp) ?_
  have hl' : ¬ (32 : Int) < (L.length : Int) := by omega
  have hl'' : ¬ 32 < L.length := by omega
  simp [loadsV, hl', hl'']
  refine ac_loop (CheckInv L need) L.length ⟨0, by omega, by omega, by simp [loadsV], by simp, by simp [isum], by simp, by simp, rfl⟩ ?_
  rintro n t σ ⟨i, rfl, hi, h0, h1, h6, h7, hg, rfl⟩
  have h0' := h0
  simp only [loadsV] at h0'
  by_cases hlt : i < L.length
  · obtain ⟨p, hp⟩ : ∃ p, L[i]? = some p := ⟨_, List.getElem?_eq_getElem hlt⟩
    have dl := decide_eq_true hlt
    have hw : IntKind.i64.wrap ((i : Int) + 1) = (i : Int) + 1 := i64_id (by omega) (by omega)
    simp [h0', h7, dl, hp, lrow]
    by_cases hlo : p.1 < 0
    · simp [hlo]
      exact ⟨nilres, ints_res_pure _ _⟩
    · by_cases hhi : 1048576 < p.1
      · simp [hlo, hhi, h0', h7, hp, lrow]
        exact ⟨nilres, ints_res_pure _ _⟩
      · have hsum : isum ((L.map (·.1)).take (i + 1)) = isum ((L.map (·.1)).take i) + p.1 := isum_take (by rw [List.getElem?_map, hp]; rfl)
        have hr := isum_range (a := 0) (b := 1048576) ((L.map (·.1)).take i) (by
          intro x hx
          rw [← List.map_take] at hx
          obtain ⟨q, hq, rfl⟩ := List.mem_map.1 hx
          exact hg q hq)
        have hli : ((L.map (·.1)).take i).length ≤ 32 := by simp; omega
        have hw2 : IntKind.i64.wrap (isum ((L.map (·.1)).take i) + p.1) = isum ((L.map (·.1)).take (i + 1)) := by rw [hsum, i64_id (by omega) (by omega)]
        generalize isum ((L.map (·.1)).take i) = s0 at *
        simp [hlo, hhi, h0', h6, h7, hp, lrow, hw, hw2]
        exact ⟨L.length - (i + 1), by omega, i + 1, rfl, by omega, by simp [h0], by simp [h1], by simp, by simp, take_good hg hp ⟨by omega, by omega⟩, rfl⟩
  · obtain rfl : i = L.length := by omega
    rw [List.take_of_length_le (by simp)] at h6
    rw [List.take_length] at hg
    have dl := decide_eq_false hlt
    have hT : isum (L.map (·.1)) = totalL L := rfl
    rw [hT] at h6
    by_cases hn : need < 0
    · simp [h0', h1, h7, dl, hn]
      exact ⟨nilres, ints_res_pure _ _⟩
    · have hn2 : totalL L < need := by
        rcases Int.lt_or_le (totalL L) need with h | h
        · exact h
        · exact absurd ⟨hg, by omega, h⟩ hb
      simp [h0', h1, h6, h7, dl, hn, hn2]
      exact ⟨nilres, ints_res_pure _ _⟩

end Go.Proofs.Ytngbibpmaofamaa.Ab

/- The reference's division by 0. -/
-- RatC
namespace Go.Proofs.Ytngbibpmaofamaa.Ab
open Go Num

def zeroV : V := .agg [.bool false, .nils, .nils]
theorem zeroV_pure : zeroV.Pure := .agg fun x hx => by simp at hx; rcases hx with rfl | rfl | rfl <;> first | exact .bool _ | exact .nils

set_option maxRecDepth 100000 in
theorem Div_zero (x : Rat) : PRun Try.prog 62 [Qv x, Qv 0] (fun r => r = .tup [zeroV, .bool false]) := by
  unfold PRun
  refine run_fn Try.func62 rfl (by simp) ?_
  have h0 : SmQ 2 (0 : Rat) := SmQ.int (z := 0) (sm_i64 (by omega) (by omega) (by omega)) (by omega)
  simp [Qv_eq]
  refine Run.pcall (Sign_R (rq 0) 0 (Is_rq 0 h0 (by omega)) h0 (by omega)) (pure_Q 0) ?_
  have hp : (V.tup [zeroV, .bool false]).Pure := .tup fun x hx => by simp at hx; rcases hx with rfl | rfl; exact zeroV_pure; exact .bool _
  simp
  exact ⟨hp, rfl⟩

set_option maxRecDepth 100000 in
theorem Over_zero (x : Rat) : PRun Try.prog 28 [Qv x, Qv 0] (fun r => r = rawV r0) := by
  unfold PRun
  refine Run.frz ?_
  refine run_fn Try.func28 rfl (by simp) ?_
  simp [Qv_eq]
  refine Run.pcall (Div_zero x) (pure_QQ x 0) ?_
  simp [zeroV]
  have e : rawV r0 = .agg [.bool false, .imm [] false, .imm [] false] := by simp [rawV, r0, N_zero]
  rw [e]
  refine ⟨⟨_, (Frz.agg (i := 1) rfl Frz.nils).trans (Frz.agg (i := 2) rfl Frz.nils)⟩, ?_⟩
  have := rawV_pure r0
  rwa [e] at this

end Go.Proofs.Ytngbibpmaofamaa.Ab
