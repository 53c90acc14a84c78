/- Loops and ends, for proofs: states with few registers known; weakening. -/
import Derived.Test.YtpgagefaneaioaaT21
namespace Go.Ab
open Go Go.RowKit
set_option linter.unusedVariables false
set_option linter.unusedSimpArgs false
set_option linter.unusedSectionVars false

variable {P : Program} {T : TT}

/-- Registers of which only those are known. -/
def regsOf (n : Nat) (l : List (Nat × AV)) : List AV := l.foldl (fun R p => R.set p.1 p.2) (List.replicate n .non)

theorem wk_int {g : Nat → Nat} {n : Nat} {k : IntKind} {a b : Int} (h : a = b) : Wk g n (.int k a) (.int k b) := by subst h; exact .flat _ rfl
theorem wk_bool {g : Nat → Nat} {n : Nat} {a b : Bool} (h : a = b) : Wk g n (.bool a) (.bool b) := by subst h; exact .flat _ rfl
theorem wk_str {g : Nat → Nat} {n : Nat} {a b : List UInt8} (h : a = b) : Wk g n (.str a) (.str b) := by subst h; exact .flat _ rfl
theorem wk_sl {g : Nat → Nat} {n s s' : Nat} {a b : List (List AV)} (h : a = b) (h2 : s = s') : Wk g n (.sl s a) (.sl s' b) := by subst h; subst h2; exact .flat (.sl s a) rfl
theorem wk_emp {g : Nat → Nat} {n s : Nat} {b : List (List AV)} (h : b = []) : Wk g n .emp (.sl s b) := by subst h; exact .emp s
theorem wk_ow_sl {g : Nat → Nat} {n t e s s' : Nat} {a b : List (List AV)} (h : a = b) (h2 : s = s') : Wk g n (.ow t e s a) (.sl s' b) := by subst h; subst h2; exact .flat (.ow t e s a) rfl
theorem wk_ow {g : Nat → Nat} {n t t' e e' s s' : Nat} {a b : List (List AV)} (h : a = b) (h1 : e = e') (h2 : s = s') (h3 : t' < n) (h4 : t = g t') : Wk g n (.ow t e s a) (.ow t' e' s' b) := by subst h; subst h1; subst h2; exact .ow _ _ _ _ _ h3 h4
theorem wk_cp {g : Nat → Nat} {n : Nat} {a b : List AV} (h : a = b) : Wk g n (.cp a) (.cp b) := by subst h; exact .flat (.cp a) rfl
theorem wk_nilp {g : Nat → Nat} {n : Nat} : Wk g n .nilp .nilp := .flat _ rfl
theorem wk_nilf {g : Nat → Nat} {n : Nat} : Wk g n .nilf .nilf := .flat _ rfl
theorem wk_ee {g : Nat → Nat} {n : Nat} : Wk g n .emp .emp := .flat _ rfl
theorem wk_tok {g : Nat → Nat} {n a b : Nat} (h : a = b) : Wk g n (.tok a) (.tok b) := by subst h; exact .tok a

theorem wk_mp {g : Nat → Nat} {n b b' : Nat} (h : b' < n) (hb : b = g b') : Wk g n (.mp b) (.mp b') := .mp b b' h hb
theorem wk_ptr {g : Nat → Nat} {n b b' o o' : Nat} (ho : o = o') (h : b' < n) (hb : b = g b') : Wk g n (.ptr b o) (.ptr b' o') := by subst ho; exact .ptr b b' o h hb
theorem wk_mps {g : Nat → Nat} {n : Nat} {a b : List UInt8 → Option AV} (h : a = b) : Wk g n (.mps a) (.mps b) := by subst h; exact .mps a

theorem wkL_nil {g : Nat → Nat} {n : Nat} : WkL g n [] [] := trivial
theorem wkL_cons {g : Nat → Nat} {n : Nat} {c d : AV} {cs ds : List AV} (h : Wk g n c d) (t : WkL g n cs ds) : WkL g n (c :: cs) (d :: ds) := ⟨h, t⟩
theorem wkHs_nil {g : Nat → Nat} {n : Nat} {H : List (List AV)} : WkHs g n H [] [] := trivial
theorem wkHs_cons {g : Nat → Nat} {n b : Nat} {H : List (List AV)} {bs : List Nat} {l : List AV} {ls : List (List AV)} (h : WkL g n (nthB H b) l) (t : WkHs g n H bs ls) : WkHs g n H (b :: bs) (l :: ls) := ⟨h, t⟩

def loopU (nx : Nat) (st : Nat → ASt → Prop) (N i : Nat) (K : AEx → ASt → Prop) : AEx → ASt → Prop
  | .nrm, s => ∃ s' j, Ent nx s s' ∧ i < j ∧ j ≤ N ∧ st j s'
  | x, s => K x s

/-- A loop, by an invariant over numbers that grow up to a bound. -/
theorem loop_up {nx : Nat} {c : Code} {s : ASt} {K : AEx → ASt → Prop} (st : Nat → ASt → Prop) (N : Nat) (h0 : ∃ s', Ent nx s s' ∧ st 0 s')
    (h : ∀ i s, i ≤ N → st i s → awp P T nx c s (loopU nx st N i K)) : awp P T nx (.loop c) s K := by
  refine ⟨fun n s => ∃ i, i ≤ N ∧ n = N - i ∧ st i s, ?_, fun n s hs => ?_⟩
  · obtain ⟨s', h1, h2⟩ := h0
    exact ⟨s', N, h1, 0, Nat.zero_le _, rfl, h2⟩
  · obtain ⟨i, h1, h2, h3⟩ := hs
    have e : loopK nx (fun n s => ∃ i, i ≤ N ∧ n = N - i ∧ st i s) n K = loopU nx st N i K := by
      funext x s
      cases x with
      | nrm =>
        simp only [loopK, loopU, eq_iff_iff]
        constructor
        · rintro ⟨s', m, q1, q2, j, q3, q4, q5⟩
          exact ⟨s', j, q1, by omega, q3, q5⟩
        · rintro ⟨s', j, q1, q2, q3, q5⟩
          exact ⟨s', N - j, q1, by omega, j, q3, rfl, q5⟩
      | ext id => rfl
      | ret => rfl
    rw [e]
    exact h i s h1 h3
theorem loopU_n {nx : Nat} {st : Nat → ASt → Prop} {N i : Nat} {K : AEx → ASt → Prop} {R : List AV} {H : List (List AV)} : loopU nx st N i K .nrm ⟨R, H⟩ = ∃ s' j, Ent nx ⟨R, H⟩ s' ∧ i < j ∧ j ≤ N ∧ st j s' := Eq.trans rfl rfl
theorem loopU_r {nx : Nat} {st : Nat → ASt → Prop} {N i : Nat} {K : AEx → ASt → Prop} {s : ASt} : loopU nx st N i K .ret s = K .ret s := Eq.trans rfl rfl
theorem loopU_e {nx : Nat} {st : Nat → ASt → Prop} {N i id : Nat} {K : AEx → ASt → Prop} {s : ASt} : loopU nx st N i K (.ext id) s = K (.ext id) s := Eq.trans rfl rfl

/-- The next round. -/
theorem round {nx : Nat} {st : Nat → ASt → Prop} {N i : Nat} {R : List AV} {H : List (List AV)} (j : Nat) (s' : ASt) (h1 : i < j) (h2 : j ≤ N) (h3 : st j s') (h4 : Ent nx ⟨R, H⟩ s') : ∃ s' j, Ent nx ⟨R, H⟩ s' ∧ i < j ∧ j ≤ N ∧ st j s' := ⟨s', j, h4, h1, h2, h3⟩

theorem sing_1 (c : AV) : sing [c] = c := Eq.trans rfl rfl
theorem sing_2 (c d : AV) (r : List AV) : sing (c :: d :: r) = .tup (c :: d :: r) := Eq.trans rfl rfl
theorem ord_of {all : Array Oper} {fs : List Ft} (h : orderB all (masks all) fs = true) : Ord all fs := h
theorem len_int {a b : Nat} (h : (a : Int) = b) : a = b := by omega

theorem arg_ow {m : Nat → Nat} {n b e s : Nat} {rows : List (List AV)} : Arg m n (.ow b e s rows) (.sl s rows) := .flat (.ow b e s rows) rfl
theorem arg_sl {m : Nat → Nat} {n s : Nat} {rows : List (List AV)} : Arg m n (.sl s rows) (.sl s rows) := .flat (.sl s rows) rfl
theorem arg_emp {α : Type} [Enc α] {m : Nat → Nat} {n s : Nat} : Arg m n .emp (.sl s (rowsOf ([] : List α))) := .emp s
theorem arg_int {m : Nat → Nat} {n : Nat} {k : IntKind} {x : Int} : Arg m n (.int k x) (.int k x) := .flat (.int k x) rfl
theorem arg_bool {m : Nat → Nat} {n : Nat} {x : Bool} : Arg m n (.bool x) (.bool x) := .flat (.bool x) rfl
theorem arg_str {m : Nat → Nat} {n : Nat} {x : List UInt8} : Arg m n (.str x) (.str x) := .flat (.str x) rfl
theorem arg_any {m : Nat → Nat} {n : Nat} {x : AV} (h : x.flat = true) (h2 : x.low = x) : Arg m n x x := by have := Arg.flat (m := m) (n := n) x h; rwa [h2] at this

theorem id0 : isId 0 0 [] = true := Eq.trans rfl rfl

end Go.Ab
