/- Lemmas for the quick walk. -/
import Derived.Test.YtjmmjfcapgaomaaK9
namespace Go.Ab
open Go
theorem inB_t' {n : Int} {len : Nat} (h : 0 ≤ n) (h2 : n < len) : inB n len = true := decide_eq_true ⟨h, h2⟩
theorem app_t' {n b : Nat} (h : n ≤ 1099511627776) (h2 : n * b ≤ 140737488355328) : okApp n b = true := decide_eq_true ⟨h, h2⟩
theorem bnd_t' {a b : Int} {len : Nat} (h1 : 0 ≤ a) (h2 : a ≤ b) (h3 : b ≤ len) : bndOk a b len = true := decide_eq_true ⟨h1, h2, h3⟩
theorem str_t' {n : Nat} (h : n ≤ 9223372036854775807) : okStr n = true := decide_eq_true h
end Go.Ab
