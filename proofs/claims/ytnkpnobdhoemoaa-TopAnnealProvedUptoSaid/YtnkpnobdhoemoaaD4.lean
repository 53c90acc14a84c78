/- Earliest of the program: the least times that keep all bounds, or a circle. -/
import Derived.Test.YtnkpnobdhoemoaaD3
namespace Go.Ab
open Go
set_option maxRecDepth 1000000
set_option maxHeartbeats 1000000
set_option linter.unusedVariables false
set_option linter.unusedSimpArgs false

theorem wlk_add {f : Nat → Nat} {x n : Nat} : ∀ k, wlk f x (n + k) = wlk f (wlk f x n) k
  | 0 => rfl
  | k + 1 => by
    show f (wlk f x (n + k)) = f (wlk f (wlk f x n) k)
    rw [wlk_add k]
/-- The bounds around. -/
def cirL (a : Ann) (B : List Int) (M x : Nat) : Nat → List Int
  | 0 => [gi B (x : Int)]
  | q + 1 => cirL a B M x q ++ [gi B ((wlk (preE (edA a) M) x (q + 1) : Nat) : Int)]
theorem cirL_len (a : Ann) (B : List Int) (M x : Nat) : ∀ q, (cirL a B M x q).length = q + 1
  | 0 => rfl
  | q + 1 => by simp [cirL, cirL_len a B M x q]
theorem cirL_gi (a : Ann) (B : List Int) (M x : Nat) : ∀ q i : Nat, i ≤ q → gi (cirL a B M x q) (i : Int) = gi B ((wlk (preE (edA a) M) x i : Nat) : Int)
  | 0, i, h => by
    have : i = 0 := by omega
    subst this; rfl
  | q + 1, i, h => by
    have hl := cirL_len a B M x q
    by_cases e : i = q + 1
    · subst e
      simp only [cirL]
      simp [gi, List.getD, List.getElem?_append, hl]
    · rw [← cirL_gi a B M x q i (by omega)]
      simp only [cirL]
      have h2 : i < q + 1 := by omega
      simp [gi, List.getD, List.getElem?_append, hl, h2]

theorem eqK_wait {l : List Tri} {n m : Int} {T B T' B' : List Int} : eqK c_blank_clock_wait.ro c_blank_clock_wait.bl ((l, (n, (m, ()))), (T', (B', ()))) ((l, (n, (m, ()))), (T, (B, ()))) = true := by
  simp only [c_blank_clock_wait, eqK, eqb_self, Bool.not_false, Bool.true_or, Bool.and_self]

section
variable {a : Ann} (h : An a) {B T : List Int} {x : Nat}
include h
/-- A circle of the program is accepted. -/
theorem cirL_ok {M : Nat} (R : RelA a M T B) (ok : ∀ k, 0 < (rA a M).2 (wlk (preE (edA a) M) x k) ∧ wlk (preE (edA a) M) x k < nn a) {q : Nat} (hq : q < nn a) (hc : wlk (preE (edA a) M) x (q + 1) = x) : ccE (sysL a) (cirL a B M x q) = 0 := by
  have hnn : nn a = a.2.2.1.length + 2 := rfl
  have hl := h.len
  have ln := cirL_len a B M x q
  -- the bound at a place
  have bnd : ∀ i, i ≤ q → gi (cirL a B M x q) (i : Int) = ((((rA a M).2 (wlk (preE (edA a) M) x i) - 1) % (sysL a).length : Nat) : Int) := fun i hi => by
    rw [cirL_gi a B M x q i hi]
    exact R.b _ (ok i).2 (ok i).1
  have edg : ∀ i, i ≤ q → edO (nn a) (gi (sysL a) (gi (cirL a B M x q) (i : Int))) = lastE (edA a) M (wlk (preE (edA a) M) x i) := fun i hi => by rw [bnd i hi]; rfl
  have mem : ∀ i, i ≤ q → gi (sysL a) (gi (cirL a B M x q) (i : Int)) ∈ sysL a := fun i hi => by rw [bnd i hi]; exact edA_mem a _
  have fro : ∀ i, i ≤ q → ndx (nn a) (gi (sysL a) (gi (cirL a B M x q) (i : Int))).1 = wlk (preE (edA a) M) x i := fun i hi => by
    have e := congrArg (fun d : Edg => d.1) (edg i hi)
    obtain ⟨s, hs⟩ : ∃ s, (rA a M).2 (wlk (preE (edA a) M) x i) = s + 1 := ⟨(rA a M).2 (wlk (preE (edA a) M) x i) - 1, by have := (ok i).1; omega⟩
    have g := (st_eq hs).2.1
    have l : lastE (edA a) M (wlk (preE (edA a) M) x i) = edA a s := by unfold lastE; rw [hs]; rfl
    rw [l] at e
    exact e.trans g
  have tow : ∀ i, i ≤ q → ndx (nn a) (gi (sysL a) (gi (cirL a B M x q) (i : Int))).2.1 = wlk (preE (edA a) M) x (i + 1) := fun i hi => congrArg (fun d : Edg => d.2.1) (edg i hi)
  have sum : ∀ k, k ≤ q + 1 → ccSum (sysL a) (cirL a B M x q) k = sumE (edA a) M x k := fun k => by
    induction k with
    | zero => exact fun _ => rfl
    | succ k ih =>
      intro hk
      simp only [ccSum, sumE]
      rw [ih (by omega), ← edg k (by omega)]
      rfl
  refine ccE_of (by omega) (fun i hi => ?_) (fun i hi => ?_) ?_
  · unfold ccIn
    rw [if_pos ?_]
    rw [bnd i (by omega)]
    have := Nat.mod_lt ((rA a M).2 (wlk (preE (edA a) M) x i) - 1) (sys_pos a)
    omega
  · unfold ccOp
    rw [if_pos ?_]
    have b1 := sysL_bd h (mem i (by omega))
    cases i with
    | zero =>
      have b2 := sysL_bd h (mem q (Nat.le_refl _))
      show _ = (gi (sysL a) (gi (cirL a B M x q) (((cirL a B M x q).length : Int) - 1))).2.1
      rw [show ((cirL a B M x q).length : Int) - 1 = ((q : Nat) : Int) by omega]
      refine ndx_inj (n := nn a) (by omega) (by omega) (by omega) (by omega) (by omega) ?_
      rw [fro 0 (by omega), tow q (Nat.le_refl _), hc]
      rfl
    | succ i =>
      have b2 := sysL_bd h (mem i (by omega))
      show _ = (gi (sysL a) (gi (cirL a B M x q) (i : Int))).2.1
      refine ndx_inj (n := nn a) (by omega) (by omega) (by omega) (by omega) (by omega) ?_
      rw [fro (i + 1) (by omega), tow i (by omega)]
  · rw [ln, sum (q + 1) (Nat.le_refl _)]
    exact sum_neg (fun k => (ok k).1) (by omega) hc

theorem k_l7 {M : Nat} (R : RelA a M T B) (ok : ∀ k, 0 < (rA a M).2 (wlk (preE (edA a) M) x k) ∧ wlk (preE (edA a) M) x k < nn a) {p : Nat} (hp1 : 1 ≤ p) (hp : p ≤ nn a) (hc : wlk (preE (edA a) M) x p = x) :
    ∃ r, iterF (fun q_ : List Int × (Int × Unit) => (T_blank_Earliest_l7 a ((sysL a, ()), ()) T B (x : Int) q_.1 q_.2.1).run) FUEL ([gi B (x : Int)], ((wlk (preE (edA a) M) x 1 : Nat) : Int), ()) = some r ∧ ∃ c, r = .inr (.inr (([], (c, (21, ()))), ())) ∧ ccE (sysL a) c = 0 := by
  have hnn : nn a = a.2.2.1.length + 2 := rfl
  have hl := h.len
  refine iter_post (fun q y => y = (cirL a B M x q, ((wlk (preE (edA a) M) x (q + 1) : Nat) : Int), ()) ∧ ∀ j, 1 ≤ j → j ≤ q → wlk (preE (edA a) M) x j ≠ x) _ (nn a) (by omega) (fun q y hq hI => ?_) ⟨rfl, fun j h1 h2 => by omega⟩
  obtain ⟨rfl, hne⟩ := hI
  have hqp : q < p := by
    refine Classical.byContradiction fun c => hne p hp1 (by omega) hc
  have ln := cirL_len a B M x q
  dsimp only
  unfold T_blank_Earliest_l7
  dsimp only
  rw [w64' (x := (a.2.2.1.length : Int) + 2) (by omega) (by omega), show ((a.2.2.1.length : Int) + 2).toNat = nn a by omega]
  by_cases e : wlk (preE (edA a) M) x (q + 1) = x
  · right
    refine ⟨_, (br_f (nd (by rw [e]))).trans (r_ret _), cirL a B M x q, rfl, cirL_ok h R ok (by omega) e⟩
  · left
    refine ⟨(cirL a B M x (q + 1), ((wlk (preE (edA a) M) x (q + 2) : Nat) : Int), ()), ?_, by omega, rfl, fun j h1 h2 => ?_⟩
    · refine (br_t (nd' (by omega))).trans ?_
      refine (q_of (inB_t' (by omega) (by have := (ok (q + 1)).2; omega))).trans ?_
      refine (q_of (decide_eq_true rfl)).trans ?_
      refine (q_of (app_t' (by simp only [List.length_cons, List.length_nil]; omega) (by simp only [List.length_cons, List.length_nil]; omega))).trans ?_
      refine (r_bs (k_next h R (ok (q + 1)).2 (ok (q + 1)).1)).trans ?_
      refine (q_of (eqK_self _ _ _)).trans ?_
      refine (q_of (decide_eq_true (by simp))).trans ?_
      exact r_ret _
    · by_cases ej : j = q + 1
      · subst ej; exact e
      · exact hne j h1 (by omega)
end

/-- What Earliest returns. -/
def EOut (a : Ann) (t c : List Int) (er : Int) : Prop :=
  (er = 0 ∧ c = [] ∧ t.length = a.2.2.1.length + 1 ∧ Fs a (fun x => gi t (x : Int)) ∧ ∀ T, Fs a T → ∀ x : Nat, x ≤ a.2.2.1.length → gi t (x : Int) ≤ T x) ∨ (er = 21 ∧ t = [] ∧ ccE (sysL a) c = 0)
theorem gi_takeI {l : List Int} {n k : Nat} (h : k < n) : gi (l.take n) (k : Int) = gi l (k : Int) := by
  simp [gi, List.getD, List.getElem?_take, h]
theorem Fs.congr {a : Ann} (h : An a) {T T' : Nat → Int} (F : Fs a T) (e : ∀ x, x ≤ a.2.2.1.length → T x = T' x) : Fs a T' := fun b hb => by
  have f := F b hb
  have bd := sysL_bd h hb
  unfold tmL at f ⊢
  rw [e b.2.1.toNat (by omega), e b.1.toNat (by omega)] at f
  exact f

theorem k_Earliest {a : Ann} (h0 : annE a = 0) : ∃ t c er, blank_Earliest a = some ((t, (c, (er, ()))), ()) ∧ EOut a t c er := by
  have h := an_of h0
  have hnn : nn a = a.2.2.1.length + 2 := rfl
  have hl := h.len
  have hw := h.wl
  have hL := sysL_len a
  have hpos := sys_pos a
  have z64 : IntKind.i64.wrap ((a.2.2.1.length : Int) + 2) = ((nn a : Nat) : Int) := by rw [w64' (by omega) (by omega)]; omega
  -- the rounds
  have key : ∃ r, iterF (fun q_ : Int × (Int × (List Int × (List Int × Unit))) => (T_blank_Earliest_l2 a ((sysL a, ()), ()) q_.1 q_.2.1 q_.2.2.1 q_.2.2.2.1).run) FUEL (0, 0, List.replicate (nn a) 0, List.replicate (nn a) 0, ()) = some r ∧ ∃ t c er, r = ((t, (c, (er, ()))), ()) ∧ EOut a t c er := by
    refine iter_post (fun r y => ∃ (lev : Int) (T B : List Int), y = (lev, (r : Int), T, B, ()) ∧ RelA a (r * (sysL a).length) T B ∧ (r = 0 ∨ ∃ x : Nat, lev = (x : Int) ∧ x < nn a ∧ (r - 1) * (sysL a).length < (rA a (r * (sysL a).length)).2 x)) _ (nn a) (by omega) (fun r y hr hI => ?_)
      ⟨0, List.replicate (nn a) 0, List.replicate (nn a) 0, rfl, ?_, .inl rfl⟩
    · obtain ⟨lev, T, B, rfl, R, hlev⟩ := hI
      dsimp only
      unfold T_blank_Earliest_l2
      dsimp only
      rw [z64, Int.toNat_natCast]
      by_cases e : r < nn a
      · obtain ⟨later, any, T', B', k1, R', f1, f2⟩ := k_wait h (show r ≤ 40 by omega) R
        cases any with
        | false =>
          right
          have hf := f2 rfl
          have fx := fs_fix h hf
          have g : rA a ((r + 1) * (sysL a).length) = rA a (r * (sysL a).length) := by
            rw [Nat.add_mul, Nat.one_mul]
            exact run_fix _ hf
          have tl : (T'.take (a.2.2.1.length + 1)).length = a.2.2.1.length + 1 := by rw [List.length_take, R'.lt]; omega
          have te : ∀ x : Nat, x ≤ a.2.2.1.length → gi (T'.take (a.2.2.1.length + 1)) (x : Int) = (rA a (r * (sysL a).length)).1 x := fun x hx => by
            rw [gi_takeI (by omega), R'.t x (by omega), g]
          refine ⟨_, ?_, T'.take (a.2.2.1.length + 1), [], 0, rfl, .inl ⟨rfl, rfl, tl, fx.congr h (fun x hx => (te x hx).symm), fun T F x hx => ?_⟩⟩
          · refine (br_t (decide_eq_true (by omega))).trans ?_
            refine (r_bs k1).trans ?_
            refine (q_of eqK_wait).trans ?_
            refine (br_t rfl).trans ?_
            refine (q_of (decide_eq_true rfl)).trans ?_
            rw [w64' (x := ((nn a : Nat) : Int) - 1) (by omega) (by omega)]
            refine (q_of (bnd_t' (by omega) (by omega) (by omega))).trans ?_
            refine (r_ret _).trans ?_
            dsimp only
            rw [show (((nn a : Nat) : Int) - 1).toNat = a.2.2.1.length + 1 by omega]
          · rw [te x hx]
            have := F.run h (r * (sysL a).length) x
            unfold ext0 at this
            rw [if_pos (by omega)] at this
            exact this
        | true =>
          left
          refine ⟨(later, ((r + 1 : Nat) : Int), T', B', ()), ?_, e, later, T', B', rfl, R', .inr ?_⟩
          · refine (br_t (decide_eq_true (by omega))).trans ?_
            refine (r_bs k1).trans ?_
            refine (q_of eqK_wait).trans ?_
            refine (br_f rfl).trans ?_
            rw [w64' (x := (r : Int) + 1) (by omega) (by omega)]
            exact r_ret _
          · rw [show r + 1 - 1 = r by omega]
            exact f1 rfl
      · right
        have e : r = nn a := by omega
        subst e
        obtain ⟨x0, hx, hx2, hx3⟩ : ∃ x : Nat, lev = (x : Int) ∧ x < nn a ∧ (nn a - 1) * (sysL a).length < (rA a (nn a * (sysL a).length)).2 x := by
          rcases hlev with q | q
          · omega
          · exact q
        subst hx
        have ok := walk_ok (edA_per a) (edA_ns h) (edA_n h) hpos hx2 hx3
        obtain ⟨p, p1, p2, p3⟩ := walk_round (L := (sysL a).length) (edA_n h) hx2
        rw [wlk_add] at p3
        have ok2 : ∀ k, 0 < (rA a (nn a * (sysL a).length)).2 (wlk (preE (edA a) (nn a * (sysL a).length)) (wlk (preE (edA a) (nn a * (sysL a).length)) x0 (nn a)) k) ∧ wlk (preE (edA a) (nn a * (sysL a).length)) (wlk (preE (edA a) (nn a * (sysL a).length)) x0 (nn a)) k < nn a := fun k => by
          rw [← wlk_add]; exact ok _
        obtain ⟨r7, k7, c, e7, o7⟩ := k_l7 h R ok2 p1 p2 p3
        subst e7
        refine ⟨(([], (c, (21, ()))), ()), ?_, [], c, 21, rfl, .inr ⟨rfl, rfl, o7⟩⟩
        refine (br_f (decide_eq_false (by omega))).trans ?_
        rw [r_iter]
        refine iter_eq (fun k y => y = (((wlk (preE (edA a) (nn a * (sysL a).length)) x0 k : Nat) : Int), (k : Int), ())) _ (nn a) (by omega) ?_ rfl
        rintro k y hk rfl
        dsimp only
        unfold T_blank_Earliest_l4
        dsimp only
        rw [z64, Int.toNat_natCast]
        by_cases e : k < nn a
        · left
          refine ⟨(((wlk (preE (edA a) (nn a * (sysL a).length)) x0 (k + 1) : Nat) : Int), ((k + 1 : Nat) : Int), ()), ?_, e, rfl⟩
          refine (br_t (decide_eq_true (by omega))).trans ?_
          refine (r_bs (k_next h R (ok k).2 (ok k).1)).trans ?_
          refine (q_of (eqK_self _ _ _)).trans ?_
          rw [w64' (x := (k : Int) + 1) (by omega) (by omega)]
          exact r_ret _
        · right
          have e : k = nn a := by omega
          subst e
          refine (br_f (decide_eq_false (by omega))).trans ?_
          refine (q_of (inB_t' (by omega) (by have := (ok (nn a)).2; omega))).trans ?_
          refine (r_bs (k_next h R (ok (nn a)).2 (ok (nn a)).1)).trans ?_
          refine (q_of (eqK_self _ _ _)).trans ?_
          refine (q_of rfl).trans ?_
          rw [r_iter]
          exact k7
    · refine ⟨List.length_replicate, List.length_replicate, fun x hx => ?_, fun x hx hp => ?_⟩
      · show _ = (runE (edA a) (0 * _)).1 x
        rw [Nat.zero_mul]
        show _ = (0 : Int)
        rw [gi_nat (by rw [List.length_replicate]; exact hx), List.getElem_replicate]
      · exfalso
        replace hp : 0 < (runE (edA a) (0 * (sysL a).length)).2 x := hp
        rw [Nat.zero_mul] at hp
        exact absurd hp (Nat.lt_irrefl 0)
  obtain ⟨r, k1, t, c, er, rfl, o⟩ := key
  refine ⟨t, c, er, ?_, o⟩
  simp only [blank_Earliest, T_blank_Earliest]
  refine (r_bs (k_CheckAnnealing a)).trans ?_
  refine (br_f (nd h0)).trans ?_
  refine (r_bs (k_bounds h)).trans ?_
  rw [z64, Int.toNat_natCast]
  have om : okMk ((nn a : Nat) : Int) ((nn a : Nat) : Int) 8 = true := decide_eq_true ⟨rfl, by omega, by omega, by omega⟩
  refine (q_of om).trans ?_
  refine (q_of om).trans ?_
  rw [r_iter]
  exact k1
theorem k_Earliest_E {a : Ann} (h : annE a ≠ 0) : blank_Earliest a = some (([], ([], (annE a, ()))), ()) := by
  simp only [blank_Earliest, T_blank_Earliest]
  refine (r_bs (k_CheckAnnealing a)).trans ?_
  refine (br_t (nd' h)).trans ?_
  exact r_ret _
end Go.Ab
