/- The table of types of the seat's program, type for type. Printed by wip/gen/types.py. -/
import Derived.Test.YtlihngoejfmheaaTB
import Derived.Test.YtlihngoejfmheaaProg

namespace Go.Ab
open Go
set_option maxRecDepth 100000

theorem ty1 : tabOf Go.Proofs.Try.prog 1 = { kd := AKind.fn, size := 1, bytes := 8, zero := [AV.nilf] } := by kernel_rfl
theorem ty2 : tabOf Go.Proofs.Try.prog 2 = { kd := AKind.int IntKind.i64, size := 1, bytes := 8, zero := [AV.int IntKind.i64 0] } := by kernel_rfl
theorem ty3 : tabOf Go.Proofs.Try.prog 3 = { kd := AKind.int IntKind.i64, size := 1, bytes := 8, zero := [AV.int IntKind.i64 0] } := by kernel_rfl
theorem ty4 : tabOf Go.Proofs.Try.prog 4 = { kd := AKind.bool, size := 1, bytes := 1, zero := [AV.bool false] } := by kernel_rfl
theorem ty5 : tabOf Go.Proofs.Try.prog 5 = { kd := AKind.int IntKind.u8, size := 1, bytes := 1, zero := [AV.int IntKind.u8 0] } := by kernel_rfl
theorem ty6 : tabOf Go.Proofs.Try.prog 6 = { kd := AKind.int IntKind.u8, size := 1, bytes := 1, zero := [AV.int IntKind.u8 0] } := by kernel_rfl
theorem ty7 : tabOf Go.Proofs.Try.prog 7 = { kd := AKind.st [{ off := 0, size := 1, ty := 2 }, { off := 1, size := 1, ty := 3 }, { off := 2, size := 1, ty := 4 }, { off := 3, size := 1, ty := 6 }], size := 4, bytes := 24, zero := [AV.int IntKind.i64 0, AV.int IntKind.i64 0, AV.bool false, AV.int IntKind.u8 0] } := by kernel_rfl
theorem ty8 : tabOf Go.Proofs.Try.prog 8 = { kd := AKind.st [{ off := 0, size := 1, ty := 2 }, { off := 1, size := 1, ty := 3 }, { off := 2, size := 1, ty := 4 }, { off := 3, size := 1, ty := 6 }], size := 4, bytes := 24, zero := [AV.int IntKind.i64 0, AV.int IntKind.i64 0, AV.bool false, AV.int IntKind.u8 0] } := by kernel_rfl
theorem ty9 : tabOf Go.Proofs.Try.prog 9 = { kd := AKind.str, size := 1, bytes := 16, zero := [AV.str []] } := by kernel_rfl
theorem ty10 : tabOf Go.Proofs.Try.prog 10 = { kd := AKind.str, size := 1, bytes := 16, zero := [AV.str []] } := by kernel_rfl
theorem ty11 : tabOf Go.Proofs.Try.prog 11 = { kd := AKind.str, size := 1, bytes := 16, zero := [AV.str []] } := by kernel_rfl
theorem ty12 : tabOf Go.Proofs.Try.prog 12 = { kd := AKind.int IntKind.u64, size := 1, bytes := 8, zero := [AV.int IntKind.u64 0] } := by kernel_rfl
theorem ty15 : tabOf Go.Proofs.Try.prog 15 = { kd := AKind.ptr 124, size := 1, bytes := 8, zero := [AV.nilp] } := by kernel_rfl
theorem ty16 : tabOf Go.Proofs.Try.prog 16 = { kd := AKind.ptr 127, size := 1, bytes := 8, zero := [AV.nilp] } := by kernel_rfl
theorem ty17 : tabOf Go.Proofs.Try.prog 17 = { kd := AKind.ptr 137, size := 1, bytes := 8, zero := [AV.nilp] } := by kernel_rfl
theorem ty20 : tabOf Go.Proofs.Try.prog 20 = { kd := AKind.ifc, size := 1, bytes := 16, zero := [AV.non] } := by kernel_rfl
theorem ty21 : tabOf Go.Proofs.Try.prog 21 = { kd := AKind.int IntKind.i32, size := 1, bytes := 4, zero := [AV.int IntKind.i32 0] } := by kernel_rfl
theorem ty22 : tabOf Go.Proofs.Try.prog 22 = { kd := AKind.slice 37, size := 1, bytes := 24, zero := [AV.emp] } := by kernel_rfl
theorem ty23 : tabOf Go.Proofs.Try.prog 23 = { kd := AKind.slice 95, size := 1, bytes := 24, zero := [AV.emp] } := by kernel_rfl
theorem ty24 : tabOf Go.Proofs.Try.prog 24 = { kd := AKind.st [{ off := 0, size := 1, ty := 3 }, { off := 1, size := 1, ty := 3 }, { off := 2, size := 1, ty := 22 }, { off := 3, size := 1, ty := 23 }], size := 4, bytes := 64, zero := [AV.int IntKind.i64 0, AV.int IntKind.i64 0, AV.emp, AV.emp] } := by kernel_rfl
theorem ty25 : tabOf Go.Proofs.Try.prog 25 = { kd := AKind.st [{ off := 0, size := 1, ty := 3 }, { off := 1, size := 1, ty := 3 }, { off := 2, size := 1, ty := 22 }, { off := 3, size := 1, ty := 23 }], size := 4, bytes := 64, zero := [AV.int IntKind.i64 0, AV.int IntKind.i64 0, AV.emp, AV.emp] } := by kernel_rfl
theorem ty26 : tabOf Go.Proofs.Try.prog 26 = { kd := AKind.arr 2 3, size := 2, bytes := 16, zero := [AV.int IntKind.i64 0, AV.int IntKind.i64 0] } := by kernel_rfl
theorem ty27 : tabOf Go.Proofs.Try.prog 27 = { kd := AKind.fn, size := 1, bytes := 8, zero := [AV.nilf] } := by kernel_rfl
theorem ty28 : tabOf Go.Proofs.Try.prog 28 = { kd := AKind.int IntKind.i64, size := 1, bytes := 8, zero := [AV.int IntKind.i64 0] } := by kernel_rfl
theorem ty30 : tabOf Go.Proofs.Try.prog 30 = { kd := AKind.fn, size := 1, bytes := 8, zero := [AV.nilf] } := by kernel_rfl
theorem ty31 : tabOf Go.Proofs.Try.prog 31 = { kd := AKind.fn, size := 1, bytes := 8, zero := [AV.nilf] } := by kernel_rfl
theorem ty32 : tabOf Go.Proofs.Try.prog 32 = { kd := AKind.st [{ off := 0, size := 1, ty := 3 }, { off := 1, size := 1, ty := 3 }], size := 2, bytes := 16, zero := [AV.int IntKind.i64 0, AV.int IntKind.i64 0] } := by kernel_rfl
theorem ty33 : tabOf Go.Proofs.Try.prog 33 = { kd := AKind.st [{ off := 0, size := 1, ty := 3 }, { off := 1, size := 1, ty := 3 }], size := 2, bytes := 16, zero := [AV.int IntKind.i64 0, AV.int IntKind.i64 0] } := by kernel_rfl
theorem ty35 : tabOf Go.Proofs.Try.prog 35 = { kd := AKind.fn, size := 1, bytes := 8, zero := [AV.nilf] } := by kernel_rfl
theorem ty36 : tabOf Go.Proofs.Try.prog 36 = { kd := AKind.st [{ off := 0, size := 1, ty := 3 }, { off := 1, size := 1, ty := 3 }, { off := 2, size := 1, ty := 3 }, { off := 3, size := 1, ty := 3 }, { off := 4, size := 1, ty := 3 }, { off := 5, size := 1, ty := 4 }], size := 6, bytes := 48, zero := [AV.int IntKind.i64 0, AV.int IntKind.i64 0, AV.int IntKind.i64 0, AV.int IntKind.i64 0, AV.int IntKind.i64 0, AV.bool false] } := by kernel_rfl
theorem ty37 : tabOf Go.Proofs.Try.prog 37 = { kd := AKind.st [{ off := 0, size := 1, ty := 3 }, { off := 1, size := 1, ty := 3 }, { off := 2, size := 1, ty := 3 }, { off := 3, size := 1, ty := 3 }, { off := 4, size := 1, ty := 3 }, { off := 5, size := 1, ty := 4 }], size := 6, bytes := 48, zero := [AV.int IntKind.i64 0, AV.int IntKind.i64 0, AV.int IntKind.i64 0, AV.int IntKind.i64 0, AV.int IntKind.i64 0, AV.bool false] } := by kernel_rfl
theorem ty38 : tabOf Go.Proofs.Try.prog 38 = { kd := AKind.fn, size := 1, bytes := 8, zero := [AV.nilf] } := by kernel_rfl
theorem ty39 : tabOf Go.Proofs.Try.prog 39 = { kd := AKind.arr 4 25, size := 16, bytes := 256, zero := [AV.int IntKind.i64 0, AV.int IntKind.i64 0, AV.emp, AV.emp, AV.int IntKind.i64 0, AV.int IntKind.i64 0, AV.emp, AV.emp, AV.int IntKind.i64 0, AV.int IntKind.i64 0, AV.emp, AV.emp, AV.int IntKind.i64 0, AV.int IntKind.i64 0, AV.emp, AV.emp] } := by kernel_rfl
theorem ty40 : tabOf Go.Proofs.Try.prog 40 = { kd := AKind.fn, size := 1, bytes := 8, zero := [AV.nilf] } := by kernel_rfl
theorem ty41 : tabOf Go.Proofs.Try.prog 41 = { kd := AKind.slice 60, size := 1, bytes := 24, zero := [AV.emp] } := by kernel_rfl
theorem ty42 : tabOf Go.Proofs.Try.prog 42 = { kd := AKind.slice 66, size := 1, bytes := 24, zero := [AV.emp] } := by kernel_rfl
theorem ty43 : tabOf Go.Proofs.Try.prog 43 = { kd := AKind.fn, size := 1, bytes := 8, zero := [AV.nilf] } := by kernel_rfl
theorem ty44 : tabOf Go.Proofs.Try.prog 44 = { kd := AKind.slice 3, size := 1, bytes := 24, zero := [AV.emp] } := by kernel_rfl
theorem ty46 : tabOf Go.Proofs.Try.prog 46 = { kd := AKind.fn, size := 1, bytes := 8, zero := [AV.nilf] } := by kernel_rfl
theorem ty47 : tabOf Go.Proofs.Try.prog 47 = { kd := AKind.fn, size := 1, bytes := 8, zero := [AV.nilf] } := by kernel_rfl
theorem ty48 : tabOf Go.Proofs.Try.prog 48 = { kd := AKind.fn, size := 1, bytes := 8, zero := [AV.nilf] } := by kernel_rfl
theorem ty50 : tabOf Go.Proofs.Try.prog 50 = { kd := AKind.fn, size := 1, bytes := 8, zero := [AV.nilf] } := by kernel_rfl
theorem ty51 : tabOf Go.Proofs.Try.prog 51 = { kd := AKind.fn, size := 1, bytes := 8, zero := [AV.nilf] } := by kernel_rfl
theorem ty52 : tabOf Go.Proofs.Try.prog 52 = { kd := AKind.fn, size := 1, bytes := 8, zero := [AV.nilf] } := by kernel_rfl
theorem ty53 : tabOf Go.Proofs.Try.prog 53 = { kd := AKind.fn, size := 1, bytes := 8, zero := [AV.nilf] } := by kernel_rfl
theorem ty54 : tabOf Go.Proofs.Try.prog 54 = { kd := AKind.fn, size := 1, bytes := 8, zero := [AV.nilf] } := by kernel_rfl
theorem ty56 : tabOf Go.Proofs.Try.prog 56 = { kd := AKind.fn, size := 1, bytes := 8, zero := [AV.nilf] } := by kernel_rfl
theorem ty57 : tabOf Go.Proofs.Try.prog 57 = { kd := AKind.fn, size := 1, bytes := 8, zero := [AV.nilf] } := by kernel_rfl
theorem ty58 : tabOf Go.Proofs.Try.prog 58 = { kd := AKind.fn, size := 1, bytes := 8, zero := [AV.nilf] } := by kernel_rfl
theorem ty59 : tabOf Go.Proofs.Try.prog 59 = { kd := AKind.st [{ off := 0, size := 1, ty := 9 }, { off := 1, size := 1, ty := 3 }, { off := 2, size := 1, ty := 3 }, { off := 3, size := 1, ty := 3 }], size := 4, bytes := 40, zero := [AV.str [], AV.int IntKind.i64 0, AV.int IntKind.i64 0, AV.int IntKind.i64 0] } := by kernel_rfl
theorem ty60 : tabOf Go.Proofs.Try.prog 60 = { kd := AKind.st [{ off := 0, size := 1, ty := 9 }, { off := 1, size := 1, ty := 3 }, { off := 2, size := 1, ty := 3 }, { off := 3, size := 1, ty := 3 }], size := 4, bytes := 40, zero := [AV.str [], AV.int IntKind.i64 0, AV.int IntKind.i64 0, AV.int IntKind.i64 0] } := by kernel_rfl
theorem ty61 : tabOf Go.Proofs.Try.prog 61 = { kd := AKind.fn, size := 1, bytes := 8, zero := [AV.nilf] } := by kernel_rfl
theorem ty62 : tabOf Go.Proofs.Try.prog 62 = { kd := AKind.fn, size := 1, bytes := 8, zero := [AV.nilf] } := by kernel_rfl
theorem ty64 : tabOf Go.Proofs.Try.prog 64 = { kd := AKind.fn, size := 1, bytes := 8, zero := [AV.nilf] } := by kernel_rfl
theorem ty65 : tabOf Go.Proofs.Try.prog 65 = { kd := AKind.st [{ off := 0, size := 1, ty := 9 }, { off := 1, size := 1, ty := 9 }], size := 2, bytes := 32, zero := [AV.str [], AV.str []] } := by kernel_rfl
theorem ty66 : tabOf Go.Proofs.Try.prog 66 = { kd := AKind.st [{ off := 0, size := 1, ty := 9 }, { off := 1, size := 1, ty := 9 }], size := 2, bytes := 32, zero := [AV.str [], AV.str []] } := by kernel_rfl
theorem ty67 : tabOf Go.Proofs.Try.prog 67 = { kd := AKind.fn, size := 1, bytes := 8, zero := [AV.nilf] } := by kernel_rfl
theorem ty68 : tabOf Go.Proofs.Try.prog 68 = { kd := AKind.fn, size := 1, bytes := 8, zero := [AV.nilf] } := by kernel_rfl
theorem ty70 : tabOf Go.Proofs.Try.prog 70 = { kd := AKind.fn, size := 1, bytes := 8, zero := [AV.nilf] } := by kernel_rfl
theorem ty71 : tabOf Go.Proofs.Try.prog 71 = { kd := AKind.slice 106, size := 1, bytes := 24, zero := [AV.emp] } := by kernel_rfl
theorem ty72 : tabOf Go.Proofs.Try.prog 72 = { kd := AKind.slice 77, size := 1, bytes := 24, zero := [AV.emp] } := by kernel_rfl
theorem ty73 : tabOf Go.Proofs.Try.prog 73 = { kd := AKind.st [{ off := 0, size := 1, ty := 3 }, { off := 1, size := 1, ty := 3 }, { off := 2, size := 1, ty := 71 }, { off := 3, size := 1, ty := 72 }], size := 4, bytes := 64, zero := [AV.int IntKind.i64 0, AV.int IntKind.i64 0, AV.emp, AV.emp] } := by kernel_rfl
theorem ty74 : tabOf Go.Proofs.Try.prog 74 = { kd := AKind.st [{ off := 0, size := 1, ty := 3 }, { off := 1, size := 1, ty := 3 }, { off := 2, size := 1, ty := 71 }, { off := 3, size := 1, ty := 72 }], size := 4, bytes := 64, zero := [AV.int IntKind.i64 0, AV.int IntKind.i64 0, AV.emp, AV.emp] } := by kernel_rfl
theorem ty75 : tabOf Go.Proofs.Try.prog 75 = { kd := AKind.fn, size := 1, bytes := 8, zero := [AV.nilf] } := by kernel_rfl
theorem ty76 : tabOf Go.Proofs.Try.prog 76 = { kd := AKind.st [{ off := 0, size := 1, ty := 3 }, { off := 1, size := 1, ty := 3 }, { off := 2, size := 1, ty := 3 }], size := 3, bytes := 24, zero := [AV.int IntKind.i64 0, AV.int IntKind.i64 0, AV.int IntKind.i64 0] } := by kernel_rfl
theorem ty77 : tabOf Go.Proofs.Try.prog 77 = { kd := AKind.st [{ off := 0, size := 1, ty := 3 }, { off := 1, size := 1, ty := 3 }, { off := 2, size := 1, ty := 3 }], size := 3, bytes := 24, zero := [AV.int IntKind.i64 0, AV.int IntKind.i64 0, AV.int IntKind.i64 0] } := by kernel_rfl
theorem ty78 : tabOf Go.Proofs.Try.prog 78 = { kd := AKind.fn, size := 1, bytes := 8, zero := [AV.nilf] } := by kernel_rfl
theorem ty79 : tabOf Go.Proofs.Try.prog 79 = { kd := AKind.st [{ off := 0, size := 1, ty := 3 }, { off := 1, size := 1, ty := 3 }], size := 2, bytes := 16, zero := [AV.int IntKind.i64 0, AV.int IntKind.i64 0] } := by kernel_rfl
theorem ty80 : tabOf Go.Proofs.Try.prog 80 = { kd := AKind.st [{ off := 0, size := 1, ty := 3 }, { off := 1, size := 1, ty := 3 }], size := 2, bytes := 16, zero := [AV.int IntKind.i64 0, AV.int IntKind.i64 0] } := by kernel_rfl
theorem ty81 : tabOf Go.Proofs.Try.prog 81 = { kd := AKind.fn, size := 1, bytes := 8, zero := [AV.nilf] } := by kernel_rfl
theorem ty82 : tabOf Go.Proofs.Try.prog 82 = { kd := AKind.fn, size := 1, bytes := 8, zero := [AV.nilf] } := by kernel_rfl
theorem ty83 : tabOf Go.Proofs.Try.prog 83 = { kd := AKind.map 9 3, size := 1, bytes := 8, zero := [AV.nilm] } := by kernel_rfl
theorem ty85 : tabOf Go.Proofs.Try.prog 85 = { kd := AKind.fn, size := 1, bytes := 8, zero := [AV.nilf] } := by kernel_rfl
theorem ty86 : tabOf Go.Proofs.Try.prog 86 = { kd := AKind.fn, size := 1, bytes := 8, zero := [AV.nilf] } := by kernel_rfl
theorem ty87 : tabOf Go.Proofs.Try.prog 87 = { kd := AKind.fn, size := 1, bytes := 8, zero := [AV.nilf] } := by kernel_rfl
theorem ty88 : tabOf Go.Proofs.Try.prog 88 = { kd := AKind.fn, size := 1, bytes := 8, zero := [AV.nilf] } := by kernel_rfl
theorem ty89 : tabOf Go.Proofs.Try.prog 89 = { kd := AKind.fn, size := 1, bytes := 8, zero := [AV.nilf] } := by kernel_rfl
theorem ty90 : tabOf Go.Proofs.Try.prog 90 = { kd := AKind.fn, size := 1, bytes := 8, zero := [AV.nilf] } := by kernel_rfl
theorem ty91 : tabOf Go.Proofs.Try.prog 91 = { kd := AKind.map 9 4, size := 1, bytes := 8, zero := [AV.nilm] } := by kernel_rfl
theorem ty92 : tabOf Go.Proofs.Try.prog 92 = { kd := AKind.fn, size := 1, bytes := 8, zero := [AV.nilf] } := by kernel_rfl
theorem ty93 : tabOf Go.Proofs.Try.prog 93 = { kd := AKind.fn, size := 1, bytes := 8, zero := [AV.nilf] } := by kernel_rfl
theorem ty94 : tabOf Go.Proofs.Try.prog 94 = { kd := AKind.st [{ off := 0, size := 1, ty := 3 }, { off := 1, size := 1, ty := 3 }, { off := 2, size := 1, ty := 3 }, { off := 3, size := 1, ty := 4 }, { off := 4, size := 1, ty := 4 }], size := 5, bytes := 32, zero := [AV.int IntKind.i64 0, AV.int IntKind.i64 0, AV.int IntKind.i64 0, AV.bool false, AV.bool false] } := by kernel_rfl
theorem ty95 : tabOf Go.Proofs.Try.prog 95 = { kd := AKind.st [{ off := 0, size := 1, ty := 3 }, { off := 1, size := 1, ty := 3 }, { off := 2, size := 1, ty := 3 }, { off := 3, size := 1, ty := 4 }, { off := 4, size := 1, ty := 4 }], size := 5, bytes := 32, zero := [AV.int IntKind.i64 0, AV.int IntKind.i64 0, AV.int IntKind.i64 0, AV.bool false, AV.bool false] } := by kernel_rfl
theorem ty96 : tabOf Go.Proofs.Try.prog 96 = { kd := AKind.fn, size := 1, bytes := 8, zero := [AV.nilf] } := by kernel_rfl
theorem ty97 : tabOf Go.Proofs.Try.prog 97 = { kd := AKind.ptr 101, size := 1, bytes := 8, zero := [AV.nilp] } := by kernel_rfl
theorem ty98 : tabOf Go.Proofs.Try.prog 98 = { kd := AKind.slice 120, size := 1, bytes := 24, zero := [AV.emp] } := by kernel_rfl
theorem ty99 : tabOf Go.Proofs.Try.prog 99 = { kd := AKind.fn, size := 1, bytes := 8, zero := [AV.nilf] } := by kernel_rfl
theorem ty100 : tabOf Go.Proofs.Try.prog 100 = { kd := AKind.st [{ off := 0, size := 1, ty := 98 }, { off := 1, size := 1, ty := 44 }, { off := 2, size := 1, ty := 44 }], size := 3, bytes := 72, zero := [AV.emp, AV.emp, AV.emp] } := by kernel_rfl
theorem ty101 : tabOf Go.Proofs.Try.prog 101 = { kd := AKind.st [{ off := 0, size := 1, ty := 98 }, { off := 1, size := 1, ty := 44 }, { off := 2, size := 1, ty := 44 }], size := 3, bytes := 72, zero := [AV.emp, AV.emp, AV.emp] } := by kernel_rfl
theorem ty103 : tabOf Go.Proofs.Try.prog 103 = { kd := AKind.fn, size := 1, bytes := 8, zero := [AV.nilf] } := by kernel_rfl
theorem ty104 : tabOf Go.Proofs.Try.prog 104 = { kd := AKind.fn, size := 1, bytes := 8, zero := [AV.nilf] } := by kernel_rfl
theorem ty105 : tabOf Go.Proofs.Try.prog 105 = { kd := AKind.st [{ off := 0, size := 1, ty := 3 }, { off := 1, size := 1, ty := 3 }, { off := 2, size := 1, ty := 3 }], size := 3, bytes := 24, zero := [AV.int IntKind.i64 0, AV.int IntKind.i64 0, AV.int IntKind.i64 0] } := by kernel_rfl
theorem ty106 : tabOf Go.Proofs.Try.prog 106 = { kd := AKind.st [{ off := 0, size := 1, ty := 3 }, { off := 1, size := 1, ty := 3 }, { off := 2, size := 1, ty := 3 }], size := 3, bytes := 24, zero := [AV.int IntKind.i64 0, AV.int IntKind.i64 0, AV.int IntKind.i64 0] } := by kernel_rfl
theorem ty107 : tabOf Go.Proofs.Try.prog 107 = { kd := AKind.fn, size := 1, bytes := 8, zero := [AV.nilf] } := by kernel_rfl
theorem ty108 : tabOf Go.Proofs.Try.prog 108 = { kd := AKind.fn, size := 1, bytes := 8, zero := [AV.nilf] } := by kernel_rfl
theorem ty109 : tabOf Go.Proofs.Try.prog 109 = { kd := AKind.fn, size := 1, bytes := 8, zero := [AV.nilf] } := by kernel_rfl
theorem ty110 : tabOf Go.Proofs.Try.prog 110 = { kd := AKind.fn, size := 1, bytes := 8, zero := [AV.nilf] } := by kernel_rfl
theorem ty111 : tabOf Go.Proofs.Try.prog 111 = { kd := AKind.fn, size := 1, bytes := 8, zero := [AV.nilf] } := by kernel_rfl
theorem ty112 : tabOf Go.Proofs.Try.prog 112 = { kd := AKind.fn, size := 1, bytes := 8, zero := [AV.nilf] } := by kernel_rfl
theorem ty113 : tabOf Go.Proofs.Try.prog 113 = { kd := AKind.slice 5, size := 1, bytes := 24, zero := [AV.emp] } := by kernel_rfl
theorem ty114 : tabOf Go.Proofs.Try.prog 114 = { kd := AKind.fn, size := 1, bytes := 8, zero := [AV.nilf] } := by kernel_rfl
theorem ty115 : tabOf Go.Proofs.Try.prog 115 = { kd := AKind.fn, size := 1, bytes := 8, zero := [AV.nilf] } := by kernel_rfl
theorem ty116 : tabOf Go.Proofs.Try.prog 116 = { kd := AKind.fn, size := 1, bytes := 8, zero := [AV.nilf] } := by kernel_rfl
theorem ty117 : tabOf Go.Proofs.Try.prog 117 = { kd := AKind.fn, size := 1, bytes := 8, zero := [AV.nilf] } := by kernel_rfl
theorem ty118 : tabOf Go.Proofs.Try.prog 118 = { kd := AKind.fn, size := 1, bytes := 8, zero := [AV.nilf] } := by kernel_rfl
theorem ty119 : tabOf Go.Proofs.Try.prog 119 = { kd := AKind.st [{ off := 0, size := 1, ty := 3 }, { off := 1, size := 1, ty := 3 }, { off := 2, size := 1, ty := 3 }], size := 3, bytes := 24, zero := [AV.int IntKind.i64 0, AV.int IntKind.i64 0, AV.int IntKind.i64 0] } := by kernel_rfl
theorem ty120 : tabOf Go.Proofs.Try.prog 120 = { kd := AKind.st [{ off := 0, size := 1, ty := 3 }, { off := 1, size := 1, ty := 3 }, { off := 2, size := 1, ty := 3 }], size := 3, bytes := 24, zero := [AV.int IntKind.i64 0, AV.int IntKind.i64 0, AV.int IntKind.i64 0] } := by kernel_rfl
theorem ty121 : tabOf Go.Proofs.Try.prog 121 = { kd := AKind.fn, size := 1, bytes := 8, zero := [AV.nilf] } := by kernel_rfl
theorem ty122 : tabOf Go.Proofs.Try.prog 122 = { kd := AKind.fn, size := 1, bytes := 8, zero := [AV.nilf] } := by kernel_rfl
theorem ty125 : tabOf Go.Proofs.Try.prog 125 = { kd := AKind.arr 0 16, size := 0, bytes := 0, zero := [] } := by kernel_rfl
theorem ty128 : tabOf Go.Proofs.Try.prog 128 = { kd := AKind.fn, size := 1, bytes := 8, zero := [AV.nilf] } := by kernel_rfl
theorem ty129 : tabOf Go.Proofs.Try.prog 129 = { kd := AKind.int IntKind.u32, size := 1, bytes := 4, zero := [AV.int IntKind.u32 0] } := by kernel_rfl
theorem ty130 : tabOf Go.Proofs.Try.prog 130 = { kd := AKind.int IntKind.u8, size := 1, bytes := 1, zero := [AV.int IntKind.u8 0] } := by kernel_rfl
theorem ty131 : tabOf Go.Proofs.Try.prog 131 = { kd := AKind.int IntKind.u8, size := 1, bytes := 1, zero := [AV.int IntKind.u8 0] } := by kernel_rfl
theorem ty132 : tabOf Go.Proofs.Try.prog 132 = { kd := AKind.fn, size := 1, bytes := 8, zero := [AV.nilf] } := by kernel_rfl
theorem ty133 : tabOf Go.Proofs.Try.prog 133 = { kd := AKind.ptr 5, size := 1, bytes := 8, zero := [AV.nilp] } := by kernel_rfl
theorem ty134 : tabOf Go.Proofs.Try.prog 134 = { kd := AKind.int IntKind.i32, size := 1, bytes := 4, zero := [AV.int IntKind.i32 0] } := by kernel_rfl
theorem ty135 : tabOf Go.Proofs.Try.prog 135 = { kd := AKind.int IntKind.i32, size := 1, bytes := 4, zero := [AV.int IntKind.i32 0] } := by kernel_rfl
theorem mixed : Go.Proofs.Try.prog.follows .mixedOrders = true := by kernel_rfl
end Go.Ab
