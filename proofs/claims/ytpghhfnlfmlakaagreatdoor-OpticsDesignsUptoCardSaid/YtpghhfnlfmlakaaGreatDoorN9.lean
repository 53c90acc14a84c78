/- A line of a design. -/
import Derived.Test.YtpghhfnlfmlakaaGreatDoorN8
namespace Go.Ab
open Go
set_option maxRecDepth 1000000
set_option maxHeartbeats 4000000
set_option linter.unusedVariables false
set_option linter.unusedSimpArgs false

abbrev Dsg := List UInt8 × List Srf
abbrev had0 : Had := (false, false, false, false)
/-- A mirror of a name, as nothing is said of it. -/
abbrev srf0 (n : List UInt8) : Srf := (n, ((0, (0, 1)), (0, 0)))
/-- The first line of a design: the column and the error, or the design's name. -/
def hdL (ws : List Wd) : (Int × Int) ⊕ List UInt8 := match ws with
  | [] => .inl (0, 7)
  | [w0] => if w0.1 = [100, 101, 115, 105, 103, 110] then .inl (endS ws, 6) else .inl (w0.2, 7)
  | [w0, w1] => if w0.1 = [100, 101, 115, 105, 103, 110] then (if nameB w1.1 = true then .inr w1.1 else .inl (w1.2, 4)) else .inl (w0.2, 7)
  | w0 :: w1 :: w2 :: _ => if w0.1 = [100, 101, 115, 105, 103, 110] then (if nameB w1.1 = true then .inl (w2.2, 7) else .inl (w1.2, 4)) else .inl (w0.2, 7)
/-- A further line: the column and the error, or the surface. -/
def mrL (l : List Srf) (ws : List Wd) : (Int × Int) ⊕ Srf := match ws with
  | [] => .inl (0, 7)
  | [w0] => if w0.1 = [109, 105, 114, 114, 111, 114] then (if l.length = 12 then .inl (w0.2, 8) else .inl (endS ws, 6)) else .inl (w0.2, 7)
  | w0 :: w1 :: r => if w0.1 = [109, 105, 114, 114, 111, 114] then (if l.length = 12 then .inl (w0.2, 8) else if nameB w1.1 = true then (if namedB l w1.1 = true then .inl (w1.2, 5) else
      match pairsS (endS ws) had0 (srf0 w1.1) r with
      | .inl x => .inl x
      | .inr s => if srfE s = 0 then .inr s else .inl (w0.2, srfE s)) else .inl (w1.2, 4)) else .inl (w0.2, 7)
/-! ### The reference's line -/

end Go.Ab
