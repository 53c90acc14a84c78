/- The table of types for the symbolic machine, and that it is the program's. Printed by wip/gen/xt.py. -/
import Derived.Test.YtgncmamcgplcgaaTy
import Derived.Test.YtgncmamcgplcgaaUA
namespace Go.Ab
open Go
set_option maxRecDepth 100000
/-- Row for row the program's table. -/
def XAll (P : Program) : Nat → List XTy → Prop
  | _, [] => True
  | i, x :: r => (x.kd.isOther = true ∨ tabOf P i = x.av) ∧ XAll P (i + 1) r
theorem XAll.get {P : Program} : ∀ {X : List XTy} {i : Nat}, XAll P i X → ∀ j, (nthX X j).kd.isOther = true ∨ tabOf P (i + j) = (nthX X j).av
  | [], _, _, _ => .inl rfl
  | x :: r, i, h, 0 => h.1
  | x :: r, i, h, j + 1 => by
    have := XAll.get h.2 j
    rw [show i + 1 + j = i + (j + 1) by omega] at this
    exact this
theorem tabOk_of {P : Program} {X : List XTy} (h : XAll P 0 X) : TabOk P (TX X) := fun t => by
  rcases h.get t with h | h
  · exact .inl h
  · rw [Nat.zero_add] at h
    rw [show TX X t = tabOf P t from h.symm]
    exact tabOf_ok P t
def xt : List XTy := [
  xOther,
  xOther,
  ⟨.int .i64, 1, 8, [.ki .i64 0], .int .i64⟩,
  ⟨.int .i64, 1, 8, [.ki .i64 0], .int .i64⟩,
  ⟨.bool , 1, 1, [.ff], .bool⟩,
  ⟨.int .u8, 1, 1, [.ki .u8 0], .int .u8⟩,
  ⟨.int .u8, 1, 1, [.ki .u8 0], .int .u8⟩,
  ⟨.st [⟨0, 1, 2⟩, ⟨1, 1, 3⟩, ⟨2, 1, 4⟩, ⟨3, 1, 6⟩], 4, 24, [.ki .i64 0, .ki .i64 0, .ff, .ki .u8 0], .pair (.int .i64) (.pair (.int .i64) (.pair (.bool) (.int .u8)))⟩,
  ⟨.st [⟨0, 1, 2⟩, ⟨1, 1, 3⟩, ⟨2, 1, 4⟩, ⟨3, 1, 6⟩], 4, 24, [.ki .i64 0, .ki .i64 0, .ff, .ki .u8 0], .pair (.int .i64) (.pair (.int .i64) (.pair (.bool) (.int .u8)))⟩,
  ⟨.str , 1, 16, [.str []], .str⟩,
  ⟨.str , 1, 16, [.str []], .str⟩,
  ⟨.str , 1, 16, [.str []], .str⟩,
  ⟨.int .u64, 1, 8, [.ki .u64 0], .int .u64⟩,
  xOther,
  xOther,
  ⟨.ptr 120, 1, 8, [.nilp], .unit⟩,
  ⟨.ptr 123, 1, 8, [.nilp], .unit⟩,
  ⟨.ptr 132, 1, 8, [.nilp], .unit⟩,
  xOther,
  xOther,
  xOther,
  ⟨.int .i32, 1, 4, [.ki .i32 0], .int .i32⟩,
  xOther,
  ⟨.st [⟨0, 1, 3⟩, ⟨1, 1, 3⟩], 2, 16, [.ki .i64 0, .ki .i64 0], .pair (.int .i64) (.int .i64)⟩,
  ⟨.st [⟨0, 1, 3⟩, ⟨1, 1, 3⟩], 2, 16, [.ki .i64 0, .ki .i64 0], .pair (.int .i64) (.int .i64)⟩,
  ⟨.int .i64, 1, 8, [.ki .i64 0], .int .i64⟩,
  xOther,
  xOther,
  xOther,
  xOther,
  xOther,
  xOther,
  ⟨.arr 2 24, 4, 32, [.ki .i64 0, .ki .i64 0, .ki .i64 0, .ki .i64 0], .pair (.pair (.int .i64) (.int .i64)) (.pair (.int .i64) (.int .i64))⟩,
  ⟨.slice 3, 1, 24, [.emp], .list (.int .i64)⟩,
  ⟨.st [⟨0, 1, 3⟩, ⟨1, 1, 3⟩], 2, 16, [.ki .i64 0, .ki .i64 0], .pair (.int .i64) (.int .i64)⟩,
  ⟨.st [⟨0, 1, 3⟩, ⟨1, 1, 3⟩], 2, 16, [.ki .i64 0, .ki .i64 0], .pair (.int .i64) (.int .i64)⟩,
  xOther,
  xOther,
  xOther,
  xOther,
  xOther,
  xOther,
  xOther,
  xOther,
  xOther,
  xOther,
  xOther,
  xOther,
  xOther,
  xOther,
  xOther,
  xOther,
  xOther,
  ⟨.st [⟨0, 2, 35⟩, ⟨2, 2, 35⟩, ⟨4, 1, 3⟩], 5, 40, [.ki .i64 0, .ki .i64 0, .ki .i64 0, .ki .i64 0, .ki .i64 0], .pair (.pair (.int .i64) (.int .i64)) (.pair (.pair (.int .i64) (.int .i64)) (.int .i64))⟩,
  ⟨.st [⟨0, 2, 35⟩, ⟨2, 2, 35⟩, ⟨4, 1, 3⟩], 5, 40, [.ki .i64 0, .ki .i64 0, .ki .i64 0, .ki .i64 0, .ki .i64 0], .pair (.pair (.int .i64) (.int .i64)) (.pair (.pair (.int .i64) (.int .i64)) (.int .i64))⟩,
  xOther,
  xOther,
  xOther,
  xOther,
  xOther,
  xOther,
  ⟨.arr 2 35, 4, 32, [.ki .i64 0, .ki .i64 0, .ki .i64 0, .ki .i64 0], .pair (.pair (.int .i64) (.int .i64)) (.pair (.int .i64) (.int .i64))⟩,
  xOther,
  xOther,
  xOther,
  xOther,
  xOther,
  xOther,
  xOther,
  xOther,
  xOther,
  xOther,
  ⟨.slice 74, 1, 24, [.emp], .list (.list (.pair (.int .i64) (.list (.int .u32))))⟩,
  ⟨.slice 80, 1, 24, [.emp], .list (.pair (.int .i64) (.list (.int .u32)))⟩,
  ⟨.slice 80, 1, 24, [.emp], .list (.pair (.int .i64) (.list (.int .u32)))⟩,
  xOther,
  xOther,
  xOther,
  ⟨.slice 110, 1, 24, [.emp], .list (.int .u32)⟩,
  ⟨.st [⟨0, 1, 3⟩, ⟨1, 1, 78⟩], 2, 32, [.ki .i64 0, .emp], .pair (.int .i64) (.list (.int .u32))⟩,
  ⟨.st [⟨0, 1, 3⟩, ⟨1, 1, 78⟩], 2, 32, [.ki .i64 0, .emp], .pair (.int .i64) (.list (.int .u32))⟩,
  ⟨.st [⟨0, 2, 80⟩, ⟨2, 2, 80⟩], 4, 64, [.ki .i64 0, .emp, .ki .i64 0, .emp], .pair (.pair (.int .i64) (.list (.int .u32))) (.pair (.int .i64) (.list (.int .u32)))⟩,
  ⟨.st [⟨0, 2, 80⟩, ⟨2, 2, 80⟩], 4, 64, [.ki .i64 0, .emp, .ki .i64 0, .emp], .pair (.pair (.int .i64) (.list (.int .u32))) (.pair (.int .i64) (.list (.int .u32)))⟩,
  xOther,
  xOther,
  ⟨.arr 2 33, 2, 48, [.emp, .emp], .pair (.list (.int .i64)) (.list (.int .i64))⟩,
  ⟨.slice 35, 1, 24, [.emp], .list (.pair (.int .i64) (.int .i64))⟩,
  xOther,
  xOther,
  ⟨.slice 93, 1, 24, [.emp], .list (.list (.pair (.int .i64) (.list (.int .i64))))⟩,
  xOther,
  xOther,
  xOther,
  ⟨.slice 102, 1, 24, [.emp], .list (.pair (.int .i64) (.list (.int .i64)))⟩,
  xOther,
  xOther,
  xOther,
  xOther,
  xOther,
  xOther,
  xOther,
  ⟨.st [⟨0, 1, 3⟩, ⟨1, 1, 33⟩], 2, 32, [.ki .i64 0, .emp], .pair (.int .i64) (.list (.int .i64))⟩,
  ⟨.st [⟨0, 1, 3⟩, ⟨1, 1, 33⟩], 2, 32, [.ki .i64 0, .emp], .pair (.int .i64) (.list (.int .i64))⟩,
  xOther,
  xOther,
  xOther,
  xOther,
  xOther,
  ⟨.int .u64, 1, 8, [.ki .u64 0], .int .u64⟩,
  ⟨.int .u64, 1, 8, [.ki .u64 0], .int .u64⟩,
  ⟨.int .u32, 1, 4, [.ki .u32 0], .int .u32⟩,
  xOther,
  xOther,
  xOther,
  xOther,
  xOther,
  xOther,
  xOther,
  xOther,
  xOther,
  xOther,
  ⟨.arr 0 16, 0, 0, [], .unit⟩,
  xOther,
  xOther,
  xOther,
  ⟨.int .u8, 1, 1, [.ki .u8 0], .int .u8⟩,
  ⟨.int .u8, 1, 1, [.ki .u8 0], .int .u8⟩,
  xOther,
  ⟨.ptr 5, 1, 8, [.nilp], .unit⟩,
  ⟨.int .i32, 1, 4, [.ki .i32 0], .int .i32⟩,
  ⟨.int .i32, 1, 4, [.ki .i32 0], .int .i32⟩]
theorem xt_ok : TabOk Go.Proofs.Try.prog (TX xt) := tabOk_of ⟨.inl rfl, .inl rfl, .inr ty2, .inr ty3, .inr ty4, .inr ty5, .inr ty6, .inr ty7, .inr ty8, .inr ty9, .inr ty10, .inr ty11, .inr ty12, .inl rfl, .inl rfl, .inr ty15, .inr ty16, .inr ty17, .inl rfl, .inl rfl, .inl rfl, .inr ty21, .inl rfl, .inr ty23, .inr ty24, .inr ty25, .inl rfl, .inl rfl, .inl rfl, .inl rfl, .inl rfl, .inl rfl, .inr ty32, .inr ty33, .inr ty34, .inr ty35, .inl rfl, .inl rfl, .inl rfl, .inl rfl, .inl rfl, .inl rfl, .inl rfl, .inl rfl, .inl rfl, .inl rfl, .inl rfl, .inl rfl, .inl rfl, .inl rfl, .inl rfl, .inl rfl, .inl rfl, .inr ty53, .inr ty54, .inl rfl, .inl rfl, .inl rfl, .inl rfl, .inl rfl, .inl rfl, .inr ty61, .inl rfl, .inl rfl, .inl rfl, .inl rfl, .inl rfl, .inl rfl, .inl rfl, .inl rfl, .inl rfl, .inl rfl, .inr ty72, .inr ty73, .inr ty74, .inl rfl, .inl rfl, .inl rfl, .inr ty78, .inr ty79, .inr ty80, .inr ty81, .inr ty82, .inl rfl, .inl rfl, .inr ty85, .inr ty86, .inl rfl, .inl rfl, .inr ty89, .inl rfl, .inl rfl, .inl rfl, .inr ty93, .inl rfl, .inl rfl, .inl rfl, .inl rfl, .inl rfl, .inl rfl, .inl rfl, .inr ty101, .inr ty102, .inl rfl, .inl rfl, .inl rfl, .inl rfl, .inl rfl, .inr ty108, .inr ty109, .inr ty110, .inl rfl, .inl rfl, .inl rfl, .inl rfl, .inl rfl, .inl rfl, .inl rfl, .inl rfl, .inl rfl, .inl rfl, .inr ty121, .inl rfl, .inl rfl, .inl rfl, .inr ty125, .inr ty126, .inl rfl, .inr ty128, .inr ty129, .inr ty130, trivial⟩
/-- All these callees keep their contracts. -/
def allOk (P : Program) : List Callee → Prop
  | [] => True
  | c :: r => c.ok P ∧ allOk P r
theorem allOk_mem {P : Program} : ∀ {C : List Callee}, allOk P C → ∀ c ∈ C, c.ok P
  | [], _, _, h => by cases h
  | d :: r, h, c, hc => by
    rcases List.mem_cons.1 hc with rfl | hc
    · exact h.1
    · exact allOk_mem h.2 c hc
end Go.Ab
