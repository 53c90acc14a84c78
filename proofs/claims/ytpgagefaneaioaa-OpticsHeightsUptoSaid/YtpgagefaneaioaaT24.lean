/- Maps that are sets of strings. -/
import Derived.Test.YtpgagefaneaioaaT22
namespace Go.Ab
open Go Go.RowKit
set_option linter.unusedVariables false
set_option linter.unusedSimpArgs false
set_option linter.unusedSectionVars false

variable {P : Program} {T : TT}

/-- The map that holds true at these keys. -/
def setF (names : List (List UInt8)) : List UInt8 → Option AV := fun x => if x ∈ names then some (.bool true) else none

theorem setF_nil : (fun _ => none : List UInt8 → Option AV) = setF [] := by funext x; simp [setF]
theorem setF_cons (l : List UInt8) (names : List (List UInt8)) : (fun x => if x = l then some (AV.bool true) else setF names x) = setF (l :: names) := by
  funext x
  by_cases h : x = l <;> simp [setF, h]

section
variable {dst : Option Nat} {t kt et b : Nat} {H : List (List AV)} {l : List UInt8} {k : Eff → List (Nat × Nat) → Prop}
def lkS (v : AV) (l : List UInt8) (k : AV → Prop) : Prop := match v with
  | .mps f => (∀ c, f l = some c → k c) ∧ (f l = none → k (.bool false))
  | _ => False
theorem lkS_set {names : List (List UInt8)} {k : AV → Prop} : lkS (.mps (setF names)) l k = k (.bool (decide (l ∈ names))) := by
  simp only [lkS, setF, eq_iff_iff]
  by_cases h : l ∈ names
  · simp [h]
  · simp [h]
theorem lkS_congr {v v' : AV} {k : AV → Prop} (h : v = v') : lkS v l k = lkS v' l k := by rw [h]
theorem c_lk (h : (T t).kd = .map kt et) (h2 : (T kt).kd = .str) (h3 : (T et).kd = .bool) (h4 : (T et).zero = [.bool false]) :
    lLookup T dst t H (.mp b) (.str l) k = lkS (nth (nthB H b) 0) l fun c => k ⟨dst, c, [], H.length, []⟩ [(b, 0)] := by
  simp only [lLookup, aLookup, h, h2, h3, ASt.view, h4, AKind.isOther, AKind.isAgg, true_and, lkS]
  generalize nth (nthB H b) 0 = v
  cases v <;> simp
def updS (v : AV) (l : List UInt8) (k : AV → Prop) : Prop := match v with
  | .mps f => k (.mps fun x => if x = l then some (.bool true) else f x)
  | _ => False
theorem updS_set {names : List (List UInt8)} {k : AV → Prop} : updS (.mps (setF names)) l k = k (.mps (setF (l :: names))) := by
  simp only [updS, setF_cons]
theorem updS_congr {v v' : AV} {k : AV → Prop} (h : v = v') : updS v l k = updS v' l k := by rw [h]
theorem c_up (h : (T t).kd = .map kt et) (h2 : (T kt).kd = .str) :
    lUpdate T dst t H (.mp b) (.str l) (.bool true) k = updS (nth (nthB H b) 0) l fun v => k ⟨dst, .und, [(b, 0, v)], H.length, []⟩ [(b, 0)] := by
  simp only [lUpdate, aMapUpdate, h, h2, ASt.view, AV.flat, true_and, AV.low, updS]
  generalize nth (nthB H b) 0 = v
  cases v <;> rfl
end
attribute [congr] lkS_congr updS_congr
end Go.Ab
