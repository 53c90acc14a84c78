/- The pairs of a mirror: what the reference's and the program's functions compute. -/
import Derived.Test.YtpghhfnlfmlakaaGreatDoorN6
namespace Go.Ab
open Go
set_option maxRecDepth 1000000
set_option maxHeartbeats 4000000
set_option linter.unusedVariables false
set_option linter.unusedSimpArgs false

/-- The column behind a line's last word. -/
def endS (ws : List Wd) : Int := match ws.getLast? with
  | some w => w.2 + w.1.length
  | none => 0
/-- What is known of the words of a line. -/
def WB (ws : List Wd) : Prop := ws.length ≤ 1048577 ∧ ∀ w ∈ ws, (1 ≤ w.2 ∧ w.2 ≤ 1048577) ∧ w.1.length ≤ 1048576
theorem endS_at {ws : List Wd} (h : 0 < ws.length) : endS ws = ws[ws.length - 1].2 + (ws[ws.length - 1].1.length : Int) := by
  unfold endS
  rw [List.getLast?_eq_getElem?, List.getElem?_eq_getElem (by omega)]
theorem drop_two {ws : List Wd} {j : Nat} (h : j + 1 < ws.length) : ws.drop j = ws[j] :: ws[j + 1] :: ws.drop (j + 2) := by
  rw [List.drop_eq_getElem_cons (by omega), List.drop_eq_getElem_cons h]
theorem drop_one {ws : List Wd} {j : Nat} (h : j + 1 = ws.length) : ws.drop j = [ws[j]'(by omega)] := by
  rw [List.drop_eq_getElem_cons (by omega), List.drop_of_length_le (by omega)]
theorem wrap2 (j : Nat) (h : j ≤ 9223372036854775800) : IntKind.i64.wrap ((j : Int) + 2) = ((j + 2 : Nat) : Int) := by rw [w64' (by omega) (by omega)]; omega

end Go.Ab
