/- The table of types for the symbolic machine, and that it is the program's. Printed by wip/gen/xt.py. -/
import Derived.Test.YtlihngoejfmheaaDoorTy
import Derived.Test.YtlihngoejfmheaaDoorUA
namespace Go.Ab
open Go
set_option maxRecDepth 100000
/-- Row for row the program's table. -/
def XAll (P : Program) : Nat → List XTy → Prop
  | _, [] => True
  | i, x :: r => (x.kd.isOther = true ∨ tabOf P i = x.av) ∧ XAll P (i + 1) r
theorem XAll.get {P : Program} : ∀ {X : List XTy} {i : Nat}, XAll P i X → ∀ j, (nthX X j).kd.isOther = true ∨ tabOf P (i + j) = (nthX X j).av
  | [], _, _, _ => .inl rfl
  | x :: r, i, h, 0 => h.1
  | x :: r, i, h, j + 1 => by
    have := XAll.get h.2 j
    rw [show i + 1 + j = i + (j + 1) by omega] at this
    exact this
theorem tabOk_of {P : Program} {X : List XTy} (h : XAll P 0 X) : TabOk P (TX X) := fun t => by
  rcases h.get t with h | h
  · exact .inl h
  · rw [Nat.zero_add] at h
    rw [show TX X t = tabOf P t from h.symm]
    exact tabOf_ok P t
def xt : List XTy := [
  xOther,
  xOther,
  ⟨.int .i64, 1, 8, [.ki .i64 0], .int .i64⟩,
  ⟨.int .i64, 1, 8, [.ki .i64 0], .int .i64⟩,
  ⟨.bool , 1, 1, [.ff], .bool⟩,
  ⟨.int .u8, 1, 1, [.ki .u8 0], .int .u8⟩,
  ⟨.int .u8, 1, 1, [.ki .u8 0], .int .u8⟩,
  ⟨.st [⟨0, 1, 2⟩, ⟨1, 1, 3⟩, ⟨2, 1, 4⟩, ⟨3, 1, 6⟩], 4, 24, [.ki .i64 0, .ki .i64 0, .ff, .ki .u8 0], .pair (.int .i64) (.pair (.int .i64) (.pair (.bool) (.int .u8)))⟩,
  ⟨.st [⟨0, 1, 2⟩, ⟨1, 1, 3⟩, ⟨2, 1, 4⟩, ⟨3, 1, 6⟩], 4, 24, [.ki .i64 0, .ki .i64 0, .ff, .ki .u8 0], .pair (.int .i64) (.pair (.int .i64) (.pair (.bool) (.int .u8)))⟩,
  ⟨.str , 1, 16, [.str []], .str⟩,
  ⟨.str , 1, 16, [.str []], .str⟩,
  ⟨.str , 1, 16, [.str []], .str⟩,
  ⟨.int .u64, 1, 8, [.ki .u64 0], .int .u64⟩,
  xOther,
  xOther,
  ⟨.ptr 132, 1, 8, [.nilp], .unit⟩,
  ⟨.ptr 135, 1, 8, [.nilp], .unit⟩,
  ⟨.ptr 144, 1, 8, [.nilp], .unit⟩,
  xOther,
  xOther,
  xOther,
  ⟨.int .i32, 1, 4, [.ki .i32 0], .int .i32⟩,
  ⟨.slice 67, 1, 24, [.emp], .list (.pair (.str) (.pair (.int .i64) (.pair (.int .i64) (.int .i64))))⟩,
  ⟨.slice 25, 1, 24, [.emp], .list (.pair (.str) (.str))⟩,
  ⟨.st [⟨0, 1, 9⟩, ⟨1, 1, 9⟩], 2, 32, [.str [], .str []], .pair (.str) (.str)⟩,
  ⟨.st [⟨0, 1, 9⟩, ⟨1, 1, 9⟩], 2, 32, [.str [], .str []], .pair (.str) (.str)⟩,
  ⟨.st [⟨0, 2, 25⟩, ⟨2, 1, 9⟩], 3, 48, [.str [], .str [], .str []], .pair (.pair (.str) (.str)) (.str)⟩,
  ⟨.st [⟨0, 2, 25⟩, ⟨2, 1, 9⟩], 3, 48, [.str [], .str [], .str []], .pair (.pair (.str) (.str)) (.str)⟩,
  xOther,
  xOther,
  ⟨.int .i64, 1, 8, [.ki .i64 0], .int .i64⟩,
  xOther,
  xOther,
  xOther,
  xOther,
  xOther,
  xOther,
  xOther,
  xOther,
  xOther,
  xOther,
  xOther,
  xOther,
  xOther,
  xOther,
  xOther,
  ⟨.slice 79, 1, 24, [.emp], .list (.pair (.int .i64) (.pair (.int .i64) (.pair (.int .i64) (.pair (.int .i64) (.pair (.int .i64) (.bool))))))⟩,
  ⟨.slice 81, 1, 24, [.emp], .list (.pair (.int .i64) (.pair (.int .i64) (.pair (.int .i64) (.pair (.bool) (.bool)))))⟩,
  ⟨.st [⟨0, 1, 3⟩, ⟨1, 1, 3⟩, ⟨2, 1, 46⟩, ⟨3, 1, 47⟩], 4, 64, [.ki .i64 0, .ki .i64 0, .emp, .emp], .pair (.int .i64) (.pair (.int .i64) (.pair (.list (.pair (.int .i64) (.pair (.int .i64) (.pair (.int .i64) (.pair (.int .i64) (.pair (.int .i64) (.bool))))))) (.list (.pair (.int .i64) (.pair (.int .i64) (.pair (.int .i64) (.pair (.bool) (.bool))))))))⟩,
  ⟨.st [⟨0, 1, 3⟩, ⟨1, 1, 3⟩, ⟨2, 1, 46⟩, ⟨3, 1, 47⟩], 4, 64, [.ki .i64 0, .ki .i64 0, .emp, .emp], .pair (.int .i64) (.pair (.int .i64) (.pair (.list (.pair (.int .i64) (.pair (.int .i64) (.pair (.int .i64) (.pair (.int .i64) (.pair (.int .i64) (.bool))))))) (.list (.pair (.int .i64) (.pair (.int .i64) (.pair (.int .i64) (.pair (.bool) (.bool))))))))⟩,
  xOther,
  ⟨.st [⟨0, 1, 3⟩, ⟨1, 1, 3⟩], 2, 16, [.ki .i64 0, .ki .i64 0], .pair (.int .i64) (.int .i64)⟩,
  ⟨.st [⟨0, 1, 3⟩, ⟨1, 1, 3⟩], 2, 16, [.ki .i64 0, .ki .i64 0], .pair (.int .i64) (.int .i64)⟩,
  xOther,
  xOther,
  ⟨.slice 3, 1, 24, [.emp], .list (.int .i64)⟩,
  xOther,
  xOther,
  ⟨.slice 93, 1, 24, [.emp], .list (.pair (.int .i64) (.pair (.int .i64) (.int .i64)))⟩,
  ⟨.slice 64, 1, 24, [.emp], .list (.pair (.int .i64) (.pair (.int .i64) (.int .i64)))⟩,
  ⟨.st [⟨0, 1, 3⟩, ⟨1, 1, 3⟩, ⟨2, 1, 58⟩, ⟨3, 1, 59⟩], 4, 64, [.ki .i64 0, .ki .i64 0, .emp, .emp], .pair (.int .i64) (.pair (.int .i64) (.pair (.list (.pair (.int .i64) (.pair (.int .i64) (.int .i64)))) (.list (.pair (.int .i64) (.pair (.int .i64) (.int .i64))))))⟩,
  ⟨.st [⟨0, 1, 3⟩, ⟨1, 1, 3⟩, ⟨2, 1, 58⟩, ⟨3, 1, 59⟩], 4, 64, [.ki .i64 0, .ki .i64 0, .emp, .emp], .pair (.int .i64) (.pair (.int .i64) (.pair (.list (.pair (.int .i64) (.pair (.int .i64) (.int .i64)))) (.list (.pair (.int .i64) (.pair (.int .i64) (.int .i64))))))⟩,
  xOther,
  ⟨.st [⟨0, 1, 3⟩, ⟨1, 1, 3⟩, ⟨2, 1, 3⟩], 3, 24, [.ki .i64 0, .ki .i64 0, .ki .i64 0], .pair (.int .i64) (.pair (.int .i64) (.int .i64))⟩,
  ⟨.st [⟨0, 1, 3⟩, ⟨1, 1, 3⟩, ⟨2, 1, 3⟩], 3, 24, [.ki .i64 0, .ki .i64 0, .ki .i64 0], .pair (.int .i64) (.pair (.int .i64) (.int .i64))⟩,
  xOther,
  ⟨.st [⟨0, 1, 9⟩, ⟨1, 1, 3⟩, ⟨2, 1, 3⟩, ⟨3, 1, 3⟩], 4, 40, [.str [], .ki .i64 0, .ki .i64 0, .ki .i64 0], .pair (.str) (.pair (.int .i64) (.pair (.int .i64) (.int .i64)))⟩,
  ⟨.st [⟨0, 1, 9⟩, ⟨1, 1, 3⟩, ⟨2, 1, 3⟩, ⟨3, 1, 3⟩], 4, 40, [.str [], .ki .i64 0, .ki .i64 0, .ki .i64 0], .pair (.str) (.pair (.int .i64) (.pair (.int .i64) (.int .i64)))⟩,
  xOther,
  xOther,
  ⟨.slice 9, 1, 24, [.emp], .list (.str)⟩,
  xOther,
  xOther,
  xOther,
  xOther,
  ⟨.st [⟨0, 1, 3⟩, ⟨1, 1, 3⟩], 2, 16, [.ki .i64 0, .ki .i64 0], .pair (.int .i64) (.int .i64)⟩,
  ⟨.st [⟨0, 1, 3⟩, ⟨1, 1, 3⟩], 2, 16, [.ki .i64 0, .ki .i64 0], .pair (.int .i64) (.int .i64)⟩,
  xOther,
  ⟨.st [⟨0, 1, 3⟩, ⟨1, 1, 3⟩, ⟨2, 1, 3⟩, ⟨3, 1, 3⟩, ⟨4, 1, 3⟩, ⟨5, 1, 4⟩], 6, 48, [.ki .i64 0, .ki .i64 0, .ki .i64 0, .ki .i64 0, .ki .i64 0, .ff], .pair (.int .i64) (.pair (.int .i64) (.pair (.int .i64) (.pair (.int .i64) (.pair (.int .i64) (.bool)))))⟩,
  ⟨.st [⟨0, 1, 3⟩, ⟨1, 1, 3⟩, ⟨2, 1, 3⟩, ⟨3, 1, 3⟩, ⟨4, 1, 3⟩, ⟨5, 1, 4⟩], 6, 48, [.ki .i64 0, .ki .i64 0, .ki .i64 0, .ki .i64 0, .ki .i64 0, .ff], .pair (.int .i64) (.pair (.int .i64) (.pair (.int .i64) (.pair (.int .i64) (.pair (.int .i64) (.bool)))))⟩,
  ⟨.st [⟨0, 1, 3⟩, ⟨1, 1, 3⟩, ⟨2, 1, 3⟩, ⟨3, 1, 4⟩, ⟨4, 1, 4⟩], 5, 32, [.ki .i64 0, .ki .i64 0, .ki .i64 0, .ff, .ff], .pair (.int .i64) (.pair (.int .i64) (.pair (.int .i64) (.pair (.bool) (.bool))))⟩,
  ⟨.st [⟨0, 1, 3⟩, ⟨1, 1, 3⟩, ⟨2, 1, 3⟩, ⟨3, 1, 4⟩, ⟨4, 1, 4⟩], 5, 32, [.ki .i64 0, .ki .i64 0, .ki .i64 0, .ff, .ff], .pair (.int .i64) (.pair (.int .i64) (.pair (.int .i64) (.pair (.bool) (.bool))))⟩,
  xOther,
  xOther,
  ⟨.ptr 88, 1, 8, [.nilp], .unit⟩,
  ⟨.slice 110, 1, 24, [.emp], .list (.pair (.int .i64) (.pair (.int .i64) (.int .i64)))⟩,
  xOther,
  ⟨.st [⟨0, 1, 85⟩, ⟨1, 1, 55⟩, ⟨2, 1, 55⟩], 3, 72, [.emp, .emp, .emp], .pair (.list (.pair (.int .i64) (.pair (.int .i64) (.int .i64)))) (.pair (.list (.int .i64)) (.list (.int .i64)))⟩,
  ⟨.st [⟨0, 1, 85⟩, ⟨1, 1, 55⟩, ⟨2, 1, 55⟩], 3, 72, [.emp, .emp, .emp], .pair (.list (.pair (.int .i64) (.pair (.int .i64) (.int .i64)))) (.pair (.list (.int .i64)) (.list (.int .i64)))⟩,
  xOther,
  xOther,
  xOther,
  ⟨.st [⟨0, 1, 3⟩, ⟨1, 1, 3⟩, ⟨2, 1, 3⟩], 3, 24, [.ki .i64 0, .ki .i64 0, .ki .i64 0], .pair (.int .i64) (.pair (.int .i64) (.int .i64))⟩,
  ⟨.st [⟨0, 1, 3⟩, ⟨1, 1, 3⟩, ⟨2, 1, 3⟩], 3, 24, [.ki .i64 0, .ki .i64 0, .ki .i64 0], .pair (.int .i64) (.pair (.int .i64) (.int .i64))⟩,
  ⟨.map 9 3, 1, 8, [.nilm], .unit⟩,
  xOther,
  xOther,
  xOther,
  xOther,
  xOther,
  xOther,
  xOther,
  xOther,
  xOther,
  xOther,
  xOther,
  xOther,
  xOther,
  xOther,
  ⟨.st [⟨0, 1, 3⟩, ⟨1, 1, 3⟩, ⟨2, 1, 3⟩], 3, 24, [.ki .i64 0, .ki .i64 0, .ki .i64 0], .pair (.int .i64) (.pair (.int .i64) (.int .i64))⟩,
  ⟨.st [⟨0, 1, 3⟩, ⟨1, 1, 3⟩, ⟨2, 1, 3⟩], 3, 24, [.ki .i64 0, .ki .i64 0, .ki .i64 0], .pair (.int .i64) (.pair (.int .i64) (.int .i64))⟩,
  xOther,
  xOther,
  xOther,
  xOther,
  xOther,
  ⟨.map 9 4, 1, 8, [.nilm], .unit⟩,
  xOther,
  xOther,
  xOther,
  xOther,
  ⟨.slice 5, 1, 24, [.emp], .list (.int .u8)⟩,
  ⟨.int .u64, 1, 8, [.ki .u64 0], .int .u64⟩,
  ⟨.arr 256 5, 256, 256, [.ki .u8 0, .ki .u8 0, .ki .u8 0, .ki .u8 0, .ki .u8 0, .ki .u8 0, .ki .u8 0, .ki .u8 0, .ki .u8 0, .ki .u8 0, .ki .u8 0, .ki .u8 0, .ki .u8 0, .ki .u8 0, .ki .u8 0, .ki .u8 0, .ki .u8 0, .ki .u8 0, .ki .u8 0, .ki .u8 0, .ki .u8 0, .ki .u8 0, .ki .u8 0, .ki .u8 0, .ki .u8 0, .ki .u8 0, .ki .u8 0, .ki .u8 0, .ki .u8 0, .ki .u8 0, .ki .u8 0, .ki .u8 0, .ki .u8 0, .ki .u8 0, .ki .u8 0, .ki .u8 0, .ki .u8 0, .ki .u8 0, .ki .u8 0, .ki .u8 0, .ki .u8 0, .ki .u8 0, .ki .u8 0, .ki .u8 0, .ki .u8 0, .ki .u8 0, .ki .u8 0, .ki .u8 0, .ki .u8 0, .ki .u8 0, .ki .u8 0, .ki .u8 0, .ki .u8 0, .ki .u8 0, .ki .u8 0, .ki .u8 0, .ki .u8 0, .ki .u8 0, .ki .u8 0, .ki .u8 0, .ki .u8 0, .ki .u8 0, .ki .u8 0, .ki .u8 0, .ki .u8 0, .ki .u8 0, .ki .u8 0, .ki .u8 0, .ki .u8 0, .ki .u8 0, .ki .u8 0, .ki .u8 0, .ki .u8 0, .ki .u8 0, .ki .u8 0, .ki .u8 0, .ki .u8 0, .ki .u8 0, .ki .u8 0, .ki .u8 0, .ki .u8 0, .ki .u8 0, .ki .u8 0, .ki .u8 0, .ki .u8 0, .ki .u8 0, .ki .u8 0, .ki .u8 0, .ki .u8 0, .ki .u8 0, .ki .u8 0, .ki .u8 0, .ki .u8 0, .ki .u8 0, .ki .u8 0, .ki .u8 0, .ki .u8 0, .ki .u8 0, .ki .u8 0, .ki .u8 0, .ki .u8 0, .ki .u8 0, .ki .u8 0, .ki .u8 0, .ki .u8 0, .ki .u8 0, .ki .u8 0, .ki .u8 0, .ki .u8 0, .ki .u8 0, .ki .u8 0, .ki .u8 0, .ki .u8 0, .ki .u8 0, .ki .u8 0, .ki .u8 0, .ki .u8 0, .ki .u8 0, .ki .u8 0, .ki .u8 0, .ki .u8 0, .ki .u8 0, .ki .u8 0, .ki .u8 0, .ki .u8 0, .ki .u8 0, .ki .u8 0, .ki .u8 0, .ki .u8 0, .ki .u8 0, .ki .u8 0, .ki .u8 0, .ki .u8 0, .ki .u8 0, .ki .u8 0, .ki .u8 0, .ki .u8 0, .ki .u8 0, .ki .u8 0, .ki .u8 0, .ki .u8 0, .ki .u8 0, .ki .u8 0, .ki .u8 0, .ki .u8 0, .ki .u8 0, .ki .u8 0, .ki .u8 0, .ki .u8 0, .ki .u8 0, .ki .u8 0, .ki .u8 0, .ki .u8 0, .ki .u8 0, .ki .u8 0, .ki .u8 0, .ki .u8 0, .ki .u8 0, .ki .u8 0, .ki .u8 0, .ki .u8 0, .ki .u8 0, .ki .u8 0, .ki .u8 0, .ki .u8 0, .ki .u8 0, .ki .u8 0, .ki .u8 0, .ki .u8 0, .ki .u8 0, .ki .u8 0, .ki .u8 0, .ki .u8 0, .ki .u8 0, .ki .u8 0, .ki .u8 0, .ki .u8 0, .ki .u8 0, .ki .u8 0, .ki .u8 0, .ki .u8 0, .ki .u8 0, .ki .u8 0, .ki .u8 0, .ki .u8 0, .ki .u8 0, .ki .u8 0, .ki .u8 0, .ki .u8 0, .ki .u8 0, .ki .u8 0, .ki .u8 0, .ki .u8 0, .ki .u8 0, .ki .u8 0, .ki .u8 0, .ki .u8 0, .ki .u8 0, .ki .u8 0, .ki .u8 0, .ki .u8 0, .ki .u8 0, .ki .u8 0, .ki .u8 0, .ki .u8 0, .ki .u8 0, .ki .u8 0, .ki .u8 0, .ki .u8 0, .ki .u8 0, .ki .u8 0, .ki .u8 0, .ki .u8 0, .ki .u8 0, .ki .u8 0, .ki .u8 0, .ki .u8 0, .ki .u8 0, .ki .u8 0, .ki .u8 0, .ki .u8 0, .ki .u8 0, .ki .u8 0, .ki .u8 0, .ki .u8 0, .ki .u8 0, .ki .u8 0, .ki .u8 0, .ki .u8 0, .ki .u8 0, .ki .u8 0, .ki .u8 0, .ki .u8 0, .ki .u8 0, .ki .u8 0, .ki .u8 0, .ki .u8 0, .ki .u8 0, .ki .u8 0, .ki .u8 0, .ki .u8 0, .ki .u8 0, .ki .u8 0, .ki .u8 0, .ki .u8 0, .ki .u8 0, .ki .u8 0, .ki .u8 0, .ki .u8 0, .ki .u8 0, .ki .u8 0, .ki .u8 0, .ki .u8 0, .ki .u8 0, .ki .u8 0, .ki .u8 0], .pair (.int .u8) (.pair (.int .u8) (.pair (.int .u8) (.pair (.int .u8) (.pair (.int .u8) (.pair (.int .u8) (.pair (.int .u8) (.pair (.int .u8) (.pair (.int .u8) (.pair (.int .u8) (.pair (.int .u8) (.pair (.int .u8) (.pair (.int .u8) (.pair (.int .u8) (.pair (.int .u8) (.pair (.int .u8) (.pair (.int .u8) (.pair (.int .u8) (.pair (.int .u8) (.pair (.int .u8) (.pair (.int .u8) (.pair (.int .u8) (.pair (.int .u8) (.pair (.int .u8) (.pair (.int .u8) (.pair (.int .u8) (.pair (.int .u8) (.pair (.int .u8) (.pair (.int .u8) (.pair (.int .u8) (.pair (.int .u8) (.pair (.int .u8) (.pair (.int .u8) (.pair (.int .u8) (.pair (.int .u8) (.pair (.int .u8) (.pair (.int .u8) (.pair (.int .u8) (.pair (.int .u8) (.pair (.int .u8) (.pair (.int .u8) (.pair (.int .u8) (.pair (.int .u8) (.pair (.int .u8) (.pair (.int .u8) (.pair (.int .u8) (.pair (.int .u8) (.pair (.int .u8) (.pair (.int .u8) (.pair (.int .u8) (.pair (.int .u8) (.pair (.int .u8) (.pair (.int .u8) (.pair (.int .u8) (.pair (.int .u8) (.pair (.int .u8) (.pair (.int .u8) (.pair (.int .u8) (.pair (.int .u8) (.pair (.int .u8) (.pair (.int .u8) (.pair (.int .u8) (.pair (.int .u8) (.pair (.int .u8) (.pair (.int .u8) (.pair (.int .u8) (.pair (.int .u8) (.pair (.int .u8) (.pair (.int .u8) (.pair (.int .u8) (.pair (.int .u8) (.pair (.int .u8) (.pair (.int .u8) (.pair (.int .u8) (.pair (.int .u8) (.pair (.int .u8) (.pair (.int .u8) (.pair (.int .u8) (.pair (.int .u8) (.pair (.int .u8) (.pair (.int .u8) (.pair (.int .u8) (.pair (.int .u8) (.pair (.int .u8) (.pair (.int .u8) (.pair (.int .u8) (.pair (.int .u8) (.pair (.int .u8) (.pair (.int .u8) (.pair (.int .u8) (.pair (.int .u8) (.pair (.int .u8) (.pair (.int .u8) (.pair (.int .u8) (.pair (.int .u8) (.pair (.int .u8) (.pair (.int .u8) (.pair (.int .u8) (.pair (.int .u8) (.pair (.int .u8) (.pair (.int .u8) (.pair (.int .u8) (.pair (.int .u8) (.pair (.int .u8) (.pair (.int .u8) (.pair (.int .u8) (.pair (.int .u8) (.pair (.int .u8) (.pair (.int .u8) (.pair (.int .u8) (.pair (.int .u8) (.pair (.int .u8) (.pair (.int .u8) (.pair (.int .u8) (.pair (.int .u8) (.pair (.int .u8) (.pair (.int .u8) (.pair (.int .u8) (.pair (.int .u8) (.pair (.int .u8) (.pair (.int .u8) (.pair (.int .u8) (.pair (.int .u8) (.pair (.int .u8) (.pair (.int .u8) (.pair (.int .u8) (.pair (.int .u8) (.pair (.int .u8) (.pair (.int .u8) (.pair (.int .u8) (.pair (.int .u8) (.pair (.int .u8) (.pair (.int .u8) (.pair (.int .u8) (.pair (.int .u8) (.pair (.int .u8) (.pair (.int .u8) (.pair (.int .u8) (.pair (.int .u8) (.pair (.int .u8) (.pair (.int .u8) (.pair (.int .u8) (.pair (.int .u8) (.pair (.int .u8) (.pair (.int .u8) (.pair (.int .u8) (.pair (.int .u8) (.pair (.int .u8) (.pair (.int .u8) (.pair (.int .u8) (.pair (.int .u8) (.pair (.int .u8) (.pair (.int .u8) (.pair (.int .u8) (.pair (.int .u8) (.pair (.int .u8) (.pair (.int .u8) (.pair (.int .u8) (.pair (.int .u8) (.pair (.int .u8) (.pair (.int .u8) (.pair (.int .u8) (.pair (.int .u8) (.pair (.int .u8) (.pair (.int .u8) (.pair (.int .u8) (.pair (.int .u8) (.pair (.int .u8) (.pair (.int .u8) (.pair (.int .u8) (.pair (.int .u8) (.pair (.int .u8) (.pair (.int .u8) (.pair (.int .u8) (.pair (.int .u8) (.pair (.int .u8) (.pair (.int .u8) (.pair (.int .u8) (.pair (.int .u8) (.pair (.int .u8) (.pair (.int .u8) (.pair (.int .u8) (.pair (.int .u8) (.pair (.int .u8) (.pair (.int .u8) (.pair (.int .u8) (.pair (.int .u8) (.pair (.int .u8) (.pair (.int .u8) (.pair (.int .u8) (.pair (.int .u8) (.pair (.int .u8) (.pair (.int .u8) (.pair (.int .u8) (.pair (.int .u8) (.pair (.int .u8) (.pair (.int .u8) (.pair (.int .u8) (.pair (.int .u8) (.pair (.int .u8) (.pair (.int .u8) (.pair (.int .u8) (.pair (.int .u8) (.pair (.int .u8) (.pair (.int .u8) (.pair (.int .u8) (.pair (.int .u8) (.pair (.int .u8) (.pair (.int .u8) (.pair (.int .u8) (.pair (.int .u8) (.pair (.int .u8) (.pair (.int .u8) (.pair (.int .u8) (.pair (.int .u8) (.pair (.int .u8) (.pair (.int .u8) (.pair (.int .u8) (.pair (.int .u8) (.pair (.int .u8) (.pair (.int .u8) (.pair (.int .u8) (.pair (.int .u8) (.pair (.int .u8) (.pair (.int .u8) (.pair (.int .u8) (.pair (.int .u8) (.pair (.int .u8) (.pair (.int .u8) (.pair (.int .u8) (.pair (.int .u8) (.pair (.int .u8) (.pair (.int .u8) (.pair (.int .u8) (.pair (.int .u8) (.pair (.int .u8) (.pair (.int .u8) (.pair (.int .u8) (.pair (.int .u8) (.pair (.int .u8) (.pair (.int .u8) (.pair (.int .u8) (.pair (.int .u8) (.pair (.int .u8) (.pair (.int .u8) (.pair (.int .u8) (.pair (.int .u8) (.pair (.int .u8) (.pair (.int .u8) (.pair (.int .u8) (.pair (.int .u8) (.pair (.int .u8) (.pair (.int .u8) (.pair (.int .u8) (.pair (.int .u8) (.int .u8)))))))))))))))))))))))))))))))))))))))))))))))))))))))))))))))))))))))))))))))))))))))))))))))))))))))))))))))))))))))))))))))))))))))))))))))))))))))))))))))))))))))))))))))))))))))))))))))))))))))))))))))))))))))))))))))))))))))))))))))))))))))))))))))⟩,
  ⟨.st [⟨0, 1, 5⟩, ⟨1, 1, 5⟩], 2, 2, [.ki .u8 0, .ki .u8 0], .pair (.int .u8) (.int .u8)⟩,
  ⟨.st [⟨0, 1, 5⟩, ⟨1, 1, 5⟩], 2, 2, [.ki .u8 0, .ki .u8 0], .pair (.int .u8) (.int .u8)⟩,
  ⟨.arr 16 125, 32, 32, [.ki .u8 0, .ki .u8 0, .ki .u8 0, .ki .u8 0, .ki .u8 0, .ki .u8 0, .ki .u8 0, .ki .u8 0, .ki .u8 0, .ki .u8 0, .ki .u8 0, .ki .u8 0, .ki .u8 0, .ki .u8 0, .ki .u8 0, .ki .u8 0, .ki .u8 0, .ki .u8 0, .ki .u8 0, .ki .u8 0, .ki .u8 0, .ki .u8 0, .ki .u8 0, .ki .u8 0, .ki .u8 0, .ki .u8 0, .ki .u8 0, .ki .u8 0, .ki .u8 0, .ki .u8 0, .ki .u8 0, .ki .u8 0], .pair (.pair (.int .u8) (.int .u8)) (.pair (.pair (.int .u8) (.int .u8)) (.pair (.pair (.int .u8) (.int .u8)) (.pair (.pair (.int .u8) (.int .u8)) (.pair (.pair (.int .u8) (.int .u8)) (.pair (.pair (.int .u8) (.int .u8)) (.pair (.pair (.int .u8) (.int .u8)) (.pair (.pair (.int .u8) (.int .u8)) (.pair (.pair (.int .u8) (.int .u8)) (.pair (.pair (.int .u8) (.int .u8)) (.pair (.pair (.int .u8) (.int .u8)) (.pair (.pair (.int .u8) (.int .u8)) (.pair (.pair (.int .u8) (.int .u8)) (.pair (.pair (.int .u8) (.int .u8)) (.pair (.pair (.int .u8) (.int .u8)) (.pair (.int .u8) (.int .u8))))))))))))))))⟩,
  ⟨.int .u32, 1, 4, [.ki .u32 0], .int .u32⟩,
  xOther,
  xOther,
  xOther,
  xOther,
  xOther,
  ⟨.arr 0 16, 0, 0, [], .unit⟩,
  xOther,
  xOther,
  xOther,
  ⟨.int .u8, 1, 1, [.ki .u8 0], .int .u8⟩,
  ⟨.int .u8, 1, 1, [.ki .u8 0], .int .u8⟩,
  xOther,
  ⟨.ptr 5, 1, 8, [.nilp], .unit⟩,
  ⟨.int .i32, 1, 4, [.ki .i32 0], .int .i32⟩,
  ⟨.int .i32, 1, 4, [.ki .i32 0], .int .i32⟩]
theorem xt_ok : TabOk Go.Proofs.Tryd.prog (TX xt) := tabOk_of ⟨.inl rfl, .inl rfl, .inr ty2, .inr ty3, .inr ty4, .inr ty5, .inr ty6, .inr ty7, .inr ty8, .inr ty9, .inr ty10, .inr ty11, .inr ty12, .inl rfl, .inl rfl, .inr ty15, .inr ty16, .inr ty17, .inl rfl, .inl rfl, .inl rfl, .inr ty21, .inr ty22, .inr ty23, .inr ty24, .inr ty25, .inr ty26, .inr ty27, .inl rfl, .inl rfl, .inr ty30, .inl rfl, .inl rfl, .inl rfl, .inl rfl, .inl rfl, .inl rfl, .inl rfl, .inl rfl, .inl rfl, .inl rfl, .inl rfl, .inl rfl, .inl rfl, .inl rfl, .inl rfl, .inr ty46, .inr ty47, .inr ty48, .inr ty49, .inl rfl, .inr ty51, .inr ty52, .inl rfl, .inl rfl, .inr ty55, .inl rfl, .inl rfl, .inr ty58, .inr ty59, .inr ty60, .inr ty61, .inl rfl, .inr ty63, .inr ty64, .inl rfl, .inr ty66, .inr ty67, .inl rfl, .inl rfl, .inr ty70, .inl rfl, .inl rfl, .inl rfl, .inl rfl, .inr ty75, .inr ty76, .inl rfl, .inr ty78, .inr ty79, .inr ty80, .inr ty81, .inl rfl, .inl rfl, .inr ty84, .inr ty85, .inl rfl, .inr ty87, .inr ty88, .inl rfl, .inl rfl, .inl rfl, .inr ty92, .inr ty93, .inr ty94, .inl rfl, .inl rfl, .inl rfl, .inl rfl, .inl rfl, .inl rfl, .inl rfl, .inl rfl, .inl rfl, .inl rfl, .inl rfl, .inl rfl, .inl rfl, .inl rfl, .inr ty109, .inr ty110, .inl rfl, .inl rfl, .inl rfl, .inl rfl, .inl rfl, .inr ty116, .inl rfl, .inl rfl, .inl rfl, .inl rfl, .inr ty121, .inr ty122, .inr ty123, .inr ty124, .inr ty125, .inr ty126, .inr ty127, .inl rfl, .inl rfl, .inl rfl, .inl rfl, .inl rfl, .inr ty133, .inl rfl, .inl rfl, .inl rfl, .inr ty137, .inr ty138, .inl rfl, .inr ty140, .inr ty141, .inr ty142, trivial⟩
/-- All these callees keep their contracts. -/
def allOk (P : Program) : List Callee → Prop
  | [] => True
  | c :: r => c.ok P ∧ allOk P r
theorem allOk_mem {P : Program} : ∀ {C : List Callee}, allOk P C → ∀ c ∈ C, c.ok P
  | [], _, _, h => by cases h
  | d :: r, h, c, hc => by
    rcases List.mem_cons.1 hc with rfl | hc
    · exact h.1
    · exact allOk_mem h.2 c hc
end Go.Ab
