/- The table of types for the symbolic machine, and that it is the program's. Printed by wip/gen/xt.py. -/
import Derived.Test.YtpnpehoebfdcoaaTy
import Derived.Test.YtpnpehoebfdcoaaUA
namespace Go.Ab
open Go
set_option maxRecDepth 100000
/-- Row for row the program's table. -/
def XAll (P : Program) : Nat → List XTy → Prop
  | _, [] => True
  | i, x :: r => (x.kd.isOther = true ∨ tabOf P i = x.av) ∧ XAll P (i + 1) r
theorem XAll.get {P : Program} : ∀ {X : List XTy} {i : Nat}, XAll P i X → ∀ j, (nthX X j).kd.isOther = true ∨ tabOf P (i + j) = (nthX X j).av
  | [], _, _, _ => .inl rfl
  | x :: r, i, h, 0 => h.1
  | x :: r, i, h, j + 1 => by
    have := XAll.get h.2 j
    rw [show i + 1 + j = i + (j + 1) by omega] at this
    exact this
theorem tabOk_of {P : Program} {X : List XTy} (h : XAll P 0 X) : TabOk P (TX X) := fun t => by
  rcases h.get t with h | h
  · exact .inl h
  · rw [Nat.zero_add] at h
    rw [show TX X t = tabOf P t from h.symm]
    exact tabOf_ok P t
def xt : List XTy := [
  xOther,
  xOther,
  ⟨.int .i64, 1, 8, [.ki .i64 0], .int .i64⟩,
  ⟨.int .i64, 1, 8, [.ki .i64 0], .int .i64⟩,
  ⟨.bool , 1, 1, [.ff], .bool⟩,
  ⟨.int .u8, 1, 1, [.ki .u8 0], .int .u8⟩,
  ⟨.int .u8, 1, 1, [.ki .u8 0], .int .u8⟩,
  ⟨.st [⟨0, 1, 2⟩, ⟨1, 1, 3⟩, ⟨2, 1, 4⟩, ⟨3, 1, 6⟩], 4, 24, [.ki .i64 0, .ki .i64 0, .ff, .ki .u8 0], .pair (.int .i64) (.pair (.int .i64) (.pair (.bool) (.int .u8)))⟩,
  ⟨.st [⟨0, 1, 2⟩, ⟨1, 1, 3⟩, ⟨2, 1, 4⟩, ⟨3, 1, 6⟩], 4, 24, [.ki .i64 0, .ki .i64 0, .ff, .ki .u8 0], .pair (.int .i64) (.pair (.int .i64) (.pair (.bool) (.int .u8)))⟩,
  ⟨.str , 1, 16, [.str []], .str⟩,
  ⟨.str , 1, 16, [.str []], .str⟩,
  ⟨.str , 1, 16, [.str []], .str⟩,
  ⟨.int .u64, 1, 8, [.ki .u64 0], .int .u64⟩,
  xOther,
  xOther,
  ⟨.ptr 123, 1, 8, [.nilp], .unit⟩,
  ⟨.ptr 126, 1, 8, [.nilp], .unit⟩,
  ⟨.ptr 136, 1, 8, [.nilp], .unit⟩,
  xOther,
  xOther,
  xOther,
  ⟨.int .i32, 1, 4, [.ki .i32 0], .int .i32⟩,
  ⟨.st [⟨0, 1, 3⟩, ⟨1, 1, 3⟩], 2, 16, [.ki .i64 0, .ki .i64 0], .pair (.int .i64) (.int .i64)⟩,
  ⟨.st [⟨0, 1, 3⟩, ⟨1, 1, 3⟩], 2, 16, [.ki .i64 0, .ki .i64 0], .pair (.int .i64) (.int .i64)⟩,
  ⟨.st [⟨0, 2, 23⟩, ⟨2, 2, 23⟩, ⟨4, 2, 23⟩, ⟨6, 1, 3⟩], 7, 56, [.ki .i64 0, .ki .i64 0, .ki .i64 0, .ki .i64 0, .ki .i64 0, .ki .i64 0, .ki .i64 0], .pair (.pair (.int .i64) (.int .i64)) (.pair (.pair (.int .i64) (.int .i64)) (.pair (.pair (.int .i64) (.int .i64)) (.int .i64)))⟩,
  ⟨.st [⟨0, 2, 23⟩, ⟨2, 2, 23⟩, ⟨4, 2, 23⟩, ⟨6, 1, 3⟩], 7, 56, [.ki .i64 0, .ki .i64 0, .ki .i64 0, .ki .i64 0, .ki .i64 0, .ki .i64 0, .ki .i64 0], .pair (.pair (.int .i64) (.int .i64)) (.pair (.pair (.int .i64) (.int .i64)) (.pair (.pair (.int .i64) (.int .i64)) (.int .i64)))⟩,
  ⟨.slice 28, 1, 24, [.emp], .list (.pair (.str) (.pair (.int .i64) (.int .i64)))⟩,
  ⟨.st [⟨0, 1, 9⟩, ⟨1, 1, 3⟩, ⟨2, 1, 3⟩], 3, 32, [.str [], .ki .i64 0, .ki .i64 0], .pair (.str) (.pair (.int .i64) (.int .i64))⟩,
  ⟨.st [⟨0, 1, 9⟩, ⟨1, 1, 3⟩, ⟨2, 1, 3⟩], 3, 32, [.str [], .ki .i64 0, .ki .i64 0], .pair (.str) (.pair (.int .i64) (.int .i64))⟩,
  xOther,
  xOther,
  ⟨.int .i64, 1, 8, [.ki .i64 0], .int .i64⟩,
  xOther,
  xOther,
  xOther,
  xOther,
  xOther,
  xOther,
  xOther,
  xOther,
  ⟨.slice 85, 1, 24, [.emp], .list (.pair (.int .i64) (.pair (.int .i64) (.int .i64)))⟩,
  xOther,
  xOther,
  xOther,
  xOther,
  xOther,
  xOther,
  xOther,
  xOther,
  xOther,
  ⟨.slice 3, 1, 24, [.emp], .list (.int .i64)⟩,
  xOther,
  xOther,
  xOther,
  xOther,
  xOther,
  xOther,
  xOther,
  xOther,
  xOther,
  xOther,
  ⟨.slice 40, 1, 24, [.emp], .list (.list (.pair (.int .i64) (.pair (.int .i64) (.int .i64))))⟩,
  xOther,
  xOther,
  xOther,
  ⟨.arr 2 3, 2, 16, [.ki .i64 0, .ki .i64 0], .pair (.int .i64) (.int .i64)⟩,
  xOther,
  xOther,
  xOther,
  xOther,
  ⟨.slice 96, 1, 24, [.emp], .list (.pair (.str) (.pair (.int .i64) (.int .i64)))⟩,
  xOther,
  ⟨.st [⟨0, 1, 9⟩, ⟨1, 1, 3⟩], 2, 24, [.str [], .ki .i64 0], .pair (.str) (.int .i64)⟩,
  ⟨.st [⟨0, 1, 9⟩, ⟨1, 1, 3⟩], 2, 24, [.str [], .ki .i64 0], .pair (.str) (.int .i64)⟩,
  xOther,
  xOther,
  xOther,
  xOther,
  xOther,
  xOther,
  xOther,
  xOther,
  xOther,
  xOther,
  ⟨.st [⟨0, 1, 3⟩, ⟨1, 2, 23⟩], 3, 24, [.ki .i64 0, .ki .i64 0, .ki .i64 0], .pair (.int .i64) (.pair (.int .i64) (.int .i64))⟩,
  ⟨.st [⟨0, 1, 3⟩, ⟨1, 2, 23⟩], 3, 24, [.ki .i64 0, .ki .i64 0, .ki .i64 0], .pair (.int .i64) (.pair (.int .i64) (.int .i64))⟩,
  xOther,
  ⟨.ptr 91, 1, 8, [.nilp], .unit⟩,
  xOther,
  xOther,
  ⟨.st [⟨0, 7, 25⟩, ⟨7, 1, 4⟩, ⟨8, 1, 3⟩, ⟨9, 1, 3⟩, ⟨10, 2, 23⟩], 12, 96, [.ki .i64 0, .ki .i64 0, .ki .i64 0, .ki .i64 0, .ki .i64 0, .ki .i64 0, .ki .i64 0, .ff, .ki .i64 0, .ki .i64 0, .ki .i64 0, .ki .i64 0], .pair (.pair (.pair (.int .i64) (.int .i64)) (.pair (.pair (.int .i64) (.int .i64)) (.pair (.pair (.int .i64) (.int .i64)) (.int .i64)))) (.pair (.bool) (.pair (.int .i64) (.pair (.int .i64) (.pair (.int .i64) (.int .i64)))))⟩,
  ⟨.st [⟨0, 7, 25⟩, ⟨7, 1, 4⟩, ⟨8, 1, 3⟩, ⟨9, 1, 3⟩, ⟨10, 2, 23⟩], 12, 96, [.ki .i64 0, .ki .i64 0, .ki .i64 0, .ki .i64 0, .ki .i64 0, .ki .i64 0, .ki .i64 0, .ff, .ki .i64 0, .ki .i64 0, .ki .i64 0, .ki .i64 0], .pair (.pair (.pair (.int .i64) (.int .i64)) (.pair (.pair (.int .i64) (.int .i64)) (.pair (.pair (.int .i64) (.int .i64)) (.int .i64)))) (.pair (.bool) (.pair (.int .i64) (.pair (.int .i64) (.pair (.int .i64) (.int .i64)))))⟩,
  xOther,
  xOther,
  ⟨.slice 73, 1, 24, [.emp], .list (.pair (.str) (.int .i64))⟩,
  ⟨.st [⟨0, 1, 9⟩, ⟨1, 2, 23⟩], 3, 32, [.str [], .ki .i64 0, .ki .i64 0], .pair (.str) (.pair (.int .i64) (.int .i64))⟩,
  ⟨.st [⟨0, 1, 9⟩, ⟨1, 2, 23⟩], 3, 32, [.str [], .ki .i64 0, .ki .i64 0], .pair (.str) (.pair (.int .i64) (.int .i64))⟩,
  xOther,
  xOther,
  xOther,
  xOther,
  xOther,
  ⟨.arr 3 23, 6, 48, [.ki .i64 0, .ki .i64 0, .ki .i64 0, .ki .i64 0, .ki .i64 0, .ki .i64 0], .pair (.pair (.int .i64) (.int .i64)) (.pair (.pair (.int .i64) (.int .i64)) (.pair (.int .i64) (.int .i64)))⟩,
  xOther,
  xOther,
  xOther,
  xOther,
  xOther,
  xOther,
  xOther,
  xOther,
  xOther,
  xOther,
  xOther,
  xOther,
  ⟨.map 9 4, 1, 8, [.nilm], .unit⟩,
  xOther,
  xOther,
  xOther,
  xOther,
  xOther,
  xOther,
  xOther,
  xOther,
  ⟨.arr 0 16, 0, 0, [], .unit⟩,
  xOther,
  xOther,
  xOther,
  ⟨.int .u32, 1, 4, [.ki .u32 0], .int .u32⟩,
  ⟨.int .u8, 1, 1, [.ki .u8 0], .int .u8⟩,
  ⟨.int .u8, 1, 1, [.ki .u8 0], .int .u8⟩,
  xOther,
  ⟨.ptr 5, 1, 8, [.nilp], .unit⟩,
  ⟨.int .i32, 1, 4, [.ki .i32 0], .int .i32⟩,
  ⟨.int .i32, 1, 4, [.ki .i32 0], .int .i32⟩]
theorem xt_ok : TabOk Go.Proofs.Try.prog (TX xt) := tabOk_of ⟨.inl rfl, .inl rfl, .inr ty2, .inr ty3, .inr ty4, .inr ty5, .inr ty6, .inr ty7, .inr ty8, .inr ty9, .inr ty10, .inr ty11, .inr ty12, .inl rfl, .inl rfl, .inr ty15, .inr ty16, .inr ty17, .inl rfl, .inl rfl, .inl rfl, .inr ty21, .inr ty22, .inr ty23, .inr ty24, .inr ty25, .inr ty26, .inr ty27, .inr ty28, .inl rfl, .inl rfl, .inr ty31, .inl rfl, .inl rfl, .inl rfl, .inl rfl, .inl rfl, .inl rfl, .inl rfl, .inl rfl, .inr ty40, .inl rfl, .inl rfl, .inl rfl, .inl rfl, .inl rfl, .inl rfl, .inl rfl, .inl rfl, .inl rfl, .inr ty50, .inl rfl, .inl rfl, .inl rfl, .inl rfl, .inl rfl, .inl rfl, .inl rfl, .inl rfl, .inl rfl, .inl rfl, .inr ty61, .inl rfl, .inl rfl, .inl rfl, .inr ty65, .inl rfl, .inl rfl, .inl rfl, .inl rfl, .inr ty70, .inl rfl, .inr ty72, .inr ty73, .inl rfl, .inl rfl, .inl rfl, .inl rfl, .inl rfl, .inl rfl, .inl rfl, .inl rfl, .inl rfl, .inl rfl, .inr ty84, .inr ty85, .inl rfl, .inr ty87, .inl rfl, .inl rfl, .inr ty90, .inr ty91, .inl rfl, .inl rfl, .inr ty94, .inr ty95, .inr ty96, .inl rfl, .inl rfl, .inl rfl, .inl rfl, .inl rfl, .inr ty102, .inl rfl, .inl rfl, .inl rfl, .inl rfl, .inl rfl, .inl rfl, .inl rfl, .inl rfl, .inl rfl, .inl rfl, .inl rfl, .inl rfl, .inr ty115, .inl rfl, .inl rfl, .inl rfl, .inl rfl, .inl rfl, .inl rfl, .inl rfl, .inl rfl, .inr ty124, .inl rfl, .inl rfl, .inl rfl, .inr ty128, .inr ty129, .inr ty130, .inl rfl, .inr ty132, .inr ty133, .inr ty134, trivial⟩
/-- All these callees keep their contracts. -/
def allOk (P : Program) : List Callee → Prop
  | [] => True
  | c :: r => c.ok P ∧ allOk P r
theorem allOk_mem {P : Program} : ∀ {C : List Callee}, allOk P C → ∀ c ∈ C, c.ok P
  | [], _, _, h => by cases h
  | d :: r, h, c, hc => by
    rcases List.mem_cons.1 hc with rfl | hc
    · exact h.1
    · exact allOk_mem h.2 c hc
end Go.Ab
