/- The table of types for the symbolic machine, and that it is the program's. Printed by wip/gen/xt.py. -/
import Derived.Test.YtlihngoejfmheaaTy
import Derived.Test.YtlihngoejfmheaaUA
namespace Go.Ab
open Go
set_option maxRecDepth 100000
/-- Row for row the program's table. -/
def XAll (P : Program) : Nat → List XTy → Prop
  | _, [] => True
  | i, x :: r => (x.kd.isOther = true ∨ tabOf P i = x.av) ∧ XAll P (i + 1) r
theorem XAll.get {P : Program} : ∀ {X : List XTy} {i : Nat}, XAll P i X → ∀ j, (nthX X j).kd.isOther = true ∨ tabOf P (i + j) = (nthX X j).av
  | [], _, _, _ => .inl rfl
  | x :: r, i, h, 0 => h.1
  | x :: r, i, h, j + 1 => by
    have := XAll.get h.2 j
    rw [show i + 1 + j = i + (j + 1) by omega] at this
    exact this
theorem tabOk_of {P : Program} {X : List XTy} (h : XAll P 0 X) : TabOk P (TX X) := fun t => by
  rcases h.get t with h | h
  · exact .inl h
  · rw [Nat.zero_add] at h
    rw [show TX X t = tabOf P t from h.symm]
    exact tabOf_ok P t
def xt : List XTy := [
  xOther,
  xOther,
  ⟨.int .i64, 1, 8, [.ki .i64 0], .int .i64, []⟩,
  ⟨.int .i64, 1, 8, [.ki .i64 0], .int .i64, []⟩,
  ⟨.bool , 1, 1, [.ff], .bool, []⟩,
  ⟨.int .u8, 1, 1, [.ki .u8 0], .int .u8, []⟩,
  ⟨.int .u8, 1, 1, [.ki .u8 0], .int .u8, []⟩,
  ⟨.st [⟨0, 1, 2⟩, ⟨1, 1, 3⟩, ⟨2, 1, 4⟩, ⟨3, 1, 6⟩], 4, 24, [.ki .i64 0, .ki .i64 0, .ff, .ki .u8 0], .pair (.int .i64) (.pair (.int .i64) (.pair (.bool) (.int .u8))), []⟩,
  ⟨.st [⟨0, 1, 2⟩, ⟨1, 1, 3⟩, ⟨2, 1, 4⟩, ⟨3, 1, 6⟩], 4, 24, [.ki .i64 0, .ki .i64 0, .ff, .ki .u8 0], .pair (.int .i64) (.pair (.int .i64) (.pair (.bool) (.int .u8))), []⟩,
  ⟨.str , 1, 16, [.str []], .str, []⟩,
  ⟨.str , 1, 16, [.str []], .str, []⟩,
  ⟨.str , 1, 16, [.str []], .str, []⟩,
  ⟨.int .u64, 1, 8, [.ki .u64 0], .int .u64, []⟩,
  xOther,
  xOther,
  ⟨.ptr 124, 1, 8, [.nilp], .unit, []⟩,
  ⟨.ptr 127, 1, 8, [.nilp], .unit, []⟩,
  ⟨.ptr 137, 1, 8, [.nilp], .unit, []⟩,
  xOther,
  xOther,
  ⟨.ifc , 1, 16, [.non], .unit, []⟩,
  ⟨.int .i32, 1, 4, [.ki .i32 0], .int .i32, []⟩,
  ⟨.slice 37, 1, 24, [.emp], .list (.pair (.int .i64) (.pair (.int .i64) (.pair (.int .i64) (.pair (.int .i64) (.pair (.int .i64) (.bool)))))), [(1000000, 0, .unit)]⟩,
  ⟨.slice 95, 1, 24, [.emp], .list (.pair (.int .i64) (.pair (.int .i64) (.pair (.int .i64) (.pair (.bool) (.bool))))), []⟩,
  ⟨.st [⟨0, 1, 3⟩, ⟨1, 1, 3⟩, ⟨2, 1, 22⟩, ⟨3, 1, 23⟩], 4, 64, [.ki .i64 0, .ki .i64 0, .emp, .emp], .pair (.int .i64) (.pair (.int .i64) (.pair (.list (.pair (.int .i64) (.pair (.int .i64) (.pair (.int .i64) (.pair (.int .i64) (.pair (.int .i64) (.bool))))))) (.list (.pair (.int .i64) (.pair (.int .i64) (.pair (.int .i64) (.pair (.bool) (.bool)))))))), [(2, 37, (.pair (.int .i64) (.pair (.int .i64) (.pair (.int .i64) (.pair (.int .i64) (.pair (.int .i64) .bool)))))), (3, 95, (.pair (.int .i64) (.pair (.int .i64) (.pair (.int .i64) (.pair .bool .bool)))))]⟩,
  ⟨.st [⟨0, 1, 3⟩, ⟨1, 1, 3⟩, ⟨2, 1, 22⟩, ⟨3, 1, 23⟩], 4, 64, [.ki .i64 0, .ki .i64 0, .emp, .emp], .pair (.int .i64) (.pair (.int .i64) (.pair (.list (.pair (.int .i64) (.pair (.int .i64) (.pair (.int .i64) (.pair (.int .i64) (.pair (.int .i64) (.bool))))))) (.list (.pair (.int .i64) (.pair (.int .i64) (.pair (.int .i64) (.pair (.bool) (.bool)))))))), [(2, 37, (.pair (.int .i64) (.pair (.int .i64) (.pair (.int .i64) (.pair (.int .i64) (.pair (.int .i64) .bool)))))), (3, 95, (.pair (.int .i64) (.pair (.int .i64) (.pair (.int .i64) (.pair .bool .bool)))))]⟩,
  ⟨.arr 2 3, 2, 16, [.ki .i64 0, .ki .i64 0], .pair (.int .i64) (.int .i64), []⟩,
  xOther,
  ⟨.int .i64, 1, 8, [.ki .i64 0], .int .i64, []⟩,
  xOther,
  xOther,
  xOther,
  ⟨.st [⟨0, 1, 3⟩, ⟨1, 1, 3⟩], 2, 16, [.ki .i64 0, .ki .i64 0], .pair (.int .i64) (.int .i64), []⟩,
  ⟨.st [⟨0, 1, 3⟩, ⟨1, 1, 3⟩], 2, 16, [.ki .i64 0, .ki .i64 0], .pair (.int .i64) (.int .i64), []⟩,
  xOther,
  xOther,
  ⟨.st [⟨0, 1, 3⟩, ⟨1, 1, 3⟩, ⟨2, 1, 3⟩, ⟨3, 1, 3⟩, ⟨4, 1, 3⟩, ⟨5, 1, 4⟩], 6, 48, [.ki .i64 0, .ki .i64 0, .ki .i64 0, .ki .i64 0, .ki .i64 0, .ff], .pair (.int .i64) (.pair (.int .i64) (.pair (.int .i64) (.pair (.int .i64) (.pair (.int .i64) (.bool))))), []⟩,
  ⟨.st [⟨0, 1, 3⟩, ⟨1, 1, 3⟩, ⟨2, 1, 3⟩, ⟨3, 1, 3⟩, ⟨4, 1, 3⟩, ⟨5, 1, 4⟩], 6, 48, [.ki .i64 0, .ki .i64 0, .ki .i64 0, .ki .i64 0, .ki .i64 0, .ff], .pair (.int .i64) (.pair (.int .i64) (.pair (.int .i64) (.pair (.int .i64) (.pair (.int .i64) (.bool))))), []⟩,
  xOther,
  ⟨.arr 4 25, 16, 256, [.ki .i64 0, .ki .i64 0, .emp, .emp, .ki .i64 0, .ki .i64 0, .emp, .emp, .ki .i64 0, .ki .i64 0, .emp, .emp, .ki .i64 0, .ki .i64 0, .emp, .emp], .pair (.pair (.int .i64) (.pair (.int .i64) (.pair (.list (.pair (.int .i64) (.pair (.int .i64) (.pair (.int .i64) (.pair (.int .i64) (.pair (.int .i64) (.bool))))))) (.list (.pair (.int .i64) (.pair (.int .i64) (.pair (.int .i64) (.pair (.bool) (.bool))))))))) (.pair (.pair (.int .i64) (.pair (.int .i64) (.pair (.list (.pair (.int .i64) (.pair (.int .i64) (.pair (.int .i64) (.pair (.int .i64) (.pair (.int .i64) (.bool))))))) (.list (.pair (.int .i64) (.pair (.int .i64) (.pair (.int .i64) (.pair (.bool) (.bool))))))))) (.pair (.pair (.int .i64) (.pair (.int .i64) (.pair (.list (.pair (.int .i64) (.pair (.int .i64) (.pair (.int .i64) (.pair (.int .i64) (.pair (.int .i64) (.bool))))))) (.list (.pair (.int .i64) (.pair (.int .i64) (.pair (.int .i64) (.pair (.bool) (.bool))))))))) (.pair (.int .i64) (.pair (.int .i64) (.pair (.list (.pair (.int .i64) (.pair (.int .i64) (.pair (.int .i64) (.pair (.int .i64) (.pair (.int .i64) (.bool))))))) (.list (.pair (.int .i64) (.pair (.int .i64) (.pair (.int .i64) (.pair (.bool) (.bool))))))))))), []⟩,
  xOther,
  ⟨.slice 60, 1, 24, [.emp], .list (.pair (.str) (.pair (.int .i64) (.pair (.int .i64) (.int .i64)))), []⟩,
  ⟨.slice 66, 1, 24, [.emp], .list (.pair (.str) (.str)), []⟩,
  xOther,
  ⟨.slice 3, 1, 24, [.emp], .list (.int .i64), []⟩,
  xOther,
  xOther,
  xOther,
  xOther,
  xOther,
  xOther,
  xOther,
  xOther,
  xOther,
  xOther,
  xOther,
  xOther,
  xOther,
  xOther,
  ⟨.st [⟨0, 1, 9⟩, ⟨1, 1, 3⟩, ⟨2, 1, 3⟩, ⟨3, 1, 3⟩], 4, 40, [.str [], .ki .i64 0, .ki .i64 0, .ki .i64 0], .pair (.str) (.pair (.int .i64) (.pair (.int .i64) (.int .i64))), []⟩,
  ⟨.st [⟨0, 1, 9⟩, ⟨1, 1, 3⟩, ⟨2, 1, 3⟩, ⟨3, 1, 3⟩], 4, 40, [.str [], .ki .i64 0, .ki .i64 0, .ki .i64 0], .pair (.str) (.pair (.int .i64) (.pair (.int .i64) (.int .i64))), []⟩,
  xOther,
  xOther,
  xOther,
  xOther,
  ⟨.st [⟨0, 1, 9⟩, ⟨1, 1, 9⟩], 2, 32, [.str [], .str []], .pair (.str) (.str), []⟩,
  ⟨.st [⟨0, 1, 9⟩, ⟨1, 1, 9⟩], 2, 32, [.str [], .str []], .pair (.str) (.str), []⟩,
  xOther,
  xOther,
  xOther,
  xOther,
  ⟨.slice 106, 1, 24, [.emp], .list (.pair (.int .i64) (.pair (.int .i64) (.int .i64))), []⟩,
  ⟨.slice 77, 1, 24, [.emp], .list (.pair (.int .i64) (.pair (.int .i64) (.int .i64))), []⟩,
  ⟨.st [⟨0, 1, 3⟩, ⟨1, 1, 3⟩, ⟨2, 1, 71⟩, ⟨3, 1, 72⟩], 4, 64, [.ki .i64 0, .ki .i64 0, .emp, .emp], .pair (.int .i64) (.pair (.int .i64) (.pair (.list (.pair (.int .i64) (.pair (.int .i64) (.int .i64)))) (.list (.pair (.int .i64) (.pair (.int .i64) (.int .i64)))))), []⟩,
  ⟨.st [⟨0, 1, 3⟩, ⟨1, 1, 3⟩, ⟨2, 1, 71⟩, ⟨3, 1, 72⟩], 4, 64, [.ki .i64 0, .ki .i64 0, .emp, .emp], .pair (.int .i64) (.pair (.int .i64) (.pair (.list (.pair (.int .i64) (.pair (.int .i64) (.int .i64)))) (.list (.pair (.int .i64) (.pair (.int .i64) (.int .i64)))))), []⟩,
  xOther,
  ⟨.st [⟨0, 1, 3⟩, ⟨1, 1, 3⟩, ⟨2, 1, 3⟩], 3, 24, [.ki .i64 0, .ki .i64 0, .ki .i64 0], .pair (.int .i64) (.pair (.int .i64) (.int .i64)), []⟩,
  ⟨.st [⟨0, 1, 3⟩, ⟨1, 1, 3⟩, ⟨2, 1, 3⟩], 3, 24, [.ki .i64 0, .ki .i64 0, .ki .i64 0], .pair (.int .i64) (.pair (.int .i64) (.int .i64)), []⟩,
  xOther,
  ⟨.st [⟨0, 1, 3⟩, ⟨1, 1, 3⟩], 2, 16, [.ki .i64 0, .ki .i64 0], .pair (.int .i64) (.int .i64), []⟩,
  ⟨.st [⟨0, 1, 3⟩, ⟨1, 1, 3⟩], 2, 16, [.ki .i64 0, .ki .i64 0], .pair (.int .i64) (.int .i64), []⟩,
  xOther,
  xOther,
  ⟨.map 9 3, 1, 8, [.nilm], .unit, []⟩,
  xOther,
  xOther,
  xOther,
  xOther,
  xOther,
  xOther,
  xOther,
  ⟨.map 9 4, 1, 8, [.nilm], .unit, []⟩,
  xOther,
  xOther,
  ⟨.st [⟨0, 1, 3⟩, ⟨1, 1, 3⟩, ⟨2, 1, 3⟩, ⟨3, 1, 4⟩, ⟨4, 1, 4⟩], 5, 32, [.ki .i64 0, .ki .i64 0, .ki .i64 0, .ff, .ff], .pair (.int .i64) (.pair (.int .i64) (.pair (.int .i64) (.pair (.bool) (.bool)))), []⟩,
  ⟨.st [⟨0, 1, 3⟩, ⟨1, 1, 3⟩, ⟨2, 1, 3⟩, ⟨3, 1, 4⟩, ⟨4, 1, 4⟩], 5, 32, [.ki .i64 0, .ki .i64 0, .ki .i64 0, .ff, .ff], .pair (.int .i64) (.pair (.int .i64) (.pair (.int .i64) (.pair (.bool) (.bool)))), []⟩,
  xOther,
  ⟨.ptr 101, 1, 8, [.nilp], .unit, []⟩,
  ⟨.slice 120, 1, 24, [.emp], .list (.pair (.int .i64) (.pair (.int .i64) (.int .i64))), []⟩,
  xOther,
  ⟨.st [⟨0, 1, 98⟩, ⟨1, 1, 44⟩, ⟨2, 1, 44⟩], 3, 72, [.emp, .emp, .emp], .pair (.list (.pair (.int .i64) (.pair (.int .i64) (.int .i64)))) (.pair (.list (.int .i64)) (.list (.int .i64))), []⟩,
  ⟨.st [⟨0, 1, 98⟩, ⟨1, 1, 44⟩, ⟨2, 1, 44⟩], 3, 72, [.emp, .emp, .emp], .pair (.list (.pair (.int .i64) (.pair (.int .i64) (.int .i64)))) (.pair (.list (.int .i64)) (.list (.int .i64))), []⟩,
  xOther,
  xOther,
  xOther,
  ⟨.st [⟨0, 1, 3⟩, ⟨1, 1, 3⟩, ⟨2, 1, 3⟩], 3, 24, [.ki .i64 0, .ki .i64 0, .ki .i64 0], .pair (.int .i64) (.pair (.int .i64) (.int .i64)), []⟩,
  ⟨.st [⟨0, 1, 3⟩, ⟨1, 1, 3⟩, ⟨2, 1, 3⟩], 3, 24, [.ki .i64 0, .ki .i64 0, .ki .i64 0], .pair (.int .i64) (.pair (.int .i64) (.int .i64)), []⟩,
  xOther,
  xOther,
  xOther,
  xOther,
  xOther,
  xOther,
  ⟨.slice 5, 1, 24, [.emp], .list (.int .u8), []⟩,
  xOther,
  xOther,
  xOther,
  xOther,
  xOther,
  ⟨.st [⟨0, 1, 3⟩, ⟨1, 1, 3⟩, ⟨2, 1, 3⟩], 3, 24, [.ki .i64 0, .ki .i64 0, .ki .i64 0], .pair (.int .i64) (.pair (.int .i64) (.int .i64)), []⟩,
  ⟨.st [⟨0, 1, 3⟩, ⟨1, 1, 3⟩, ⟨2, 1, 3⟩], 3, 24, [.ki .i64 0, .ki .i64 0, .ki .i64 0], .pair (.int .i64) (.pair (.int .i64) (.int .i64)), []⟩,
  xOther,
  xOther,
  xOther,
  xOther,
  ⟨.arr 0 16, 0, 0, [], .unit, []⟩,
  xOther,
  xOther,
  xOther,
  ⟨.int .u32, 1, 4, [.ki .u32 0], .int .u32, []⟩,
  ⟨.int .u8, 1, 1, [.ki .u8 0], .int .u8, []⟩,
  ⟨.int .u8, 1, 1, [.ki .u8 0], .int .u8, []⟩,
  xOther,
  ⟨.ptr 5, 1, 8, [.nilp], .unit, []⟩,
  ⟨.int .i32, 1, 4, [.ki .i32 0], .int .i32, []⟩,
  ⟨.int .i32, 1, 4, [.ki .i32 0], .int .i32, []⟩]
theorem xt_ok : TabOk Go.Proofs.Try.prog (TX xt) := tabOk_of ⟨.inl rfl, .inl rfl, .inr ty2, .inr ty3, .inr ty4, .inr ty5, .inr ty6, .inr ty7, .inr ty8, .inr ty9, .inr ty10, .inr ty11, .inr ty12, .inl rfl, .inl rfl, .inr ty15, .inr ty16, .inr ty17, .inl rfl, .inl rfl, .inr ty20, .inr ty21, .inr ty22, .inr ty23, .inr ty24, .inr ty25, .inr ty26, .inl rfl, .inr ty28, .inl rfl, .inl rfl, .inl rfl, .inr ty32, .inr ty33, .inl rfl, .inl rfl, .inr ty36, .inr ty37, .inl rfl, .inr ty39, .inl rfl, .inr ty41, .inr ty42, .inl rfl, .inr ty44, .inl rfl, .inl rfl, .inl rfl, .inl rfl, .inl rfl, .inl rfl, .inl rfl, .inl rfl, .inl rfl, .inl rfl, .inl rfl, .inl rfl, .inl rfl, .inl rfl, .inr ty59, .inr ty60, .inl rfl, .inl rfl, .inl rfl, .inl rfl, .inr ty65, .inr ty66, .inl rfl, .inl rfl, .inl rfl, .inl rfl, .inr ty71, .inr ty72, .inr ty73, .inr ty74, .inl rfl, .inr ty76, .inr ty77, .inl rfl, .inr ty79, .inr ty80, .inl rfl, .inl rfl, .inr ty83, .inl rfl, .inl rfl, .inl rfl, .inl rfl, .inl rfl, .inl rfl, .inl rfl, .inr ty91, .inl rfl, .inl rfl, .inr ty94, .inr ty95, .inl rfl, .inr ty97, .inr ty98, .inl rfl, .inr ty100, .inr ty101, .inl rfl, .inl rfl, .inl rfl, .inr ty105, .inr ty106, .inl rfl, .inl rfl, .inl rfl, .inl rfl, .inl rfl, .inl rfl, .inr ty113, .inl rfl, .inl rfl, .inl rfl, .inl rfl, .inl rfl, .inr ty119, .inr ty120, .inl rfl, .inl rfl, .inl rfl, .inl rfl, .inr ty125, .inl rfl, .inl rfl, .inl rfl, .inr ty129, .inr ty130, .inr ty131, .inl rfl, .inr ty133, .inr ty134, .inr ty135, trivial⟩
/-- All these callees keep their contracts. -/
def allOk (P : Program) : List Callee → Prop
  | [] => True
  | c :: r => c.ok P ∧ allOk P r
theorem allOk_mem {P : Program} : ∀ {C : List Callee}, allOk P C → ∀ c ∈ C, c.ok P
  | [], _, _, h => by cases h
  | d :: r, h, c, hc => by
    rcases List.mem_cons.1 hc with rfl | hc
    · exact h.1
    · exact allOk_mem h.2 c hc
end Go.Ab
