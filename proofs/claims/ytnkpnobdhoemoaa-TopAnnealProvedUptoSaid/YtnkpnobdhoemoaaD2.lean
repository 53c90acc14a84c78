/- What Earliest of the program computes: the least times that keep all bounds, or a circle. -/
import Derived.Test.YtnkpnobdhoemoaaC3
import Derived.Test.YtnkpnobdhoemoaaD1
namespace Go.Ab
open Go
set_option maxRecDepth 1000000
set_option maxHeartbeats 1000000
set_option linter.unusedVariables false
set_option linter.unusedSimpArgs false

/-- How many times the program keeps. -/
abbrev nn (a : Ann) : Nat := a.2.2.1.length + 2
def ndx (n : Nat) (x : Int) : Nat := if x = -1 then n - 1 else x.toNat
def edO (n : Nat) (b : Tri) : Edg := (ndx n b.1, ndx n b.2.1, b.2.2)
def edA (a : Ann) (m : Nat) : Edg := edO (nn a) (gi (sysL a) ((m % (sysL a).length : Nat) : Int))
theorem sys_pos (a : Ann) : 0 < (sysL a).length := by rw [sysL_len]; omega
theorem edA_per (a : Ann) (m : Nat) : edA a (m + (sysL a).length) = edA a m := by unfold edA; rw [Nat.add_mod_right]
theorem edA_mem (a : Ann) (m : Nat) : gi (sysL a) ((m % (sysL a).length : Nat) : Int) ∈ sysL a := gi_mem (by omega) (by have := Nat.mod_lt m (sys_pos a); omega)
theorem edA_at (a : Ann) (r : Nat) {k : Nat} (h : k < (sysL a).length) : edA a (r * (sysL a).length + k) = edO (nn a) (gi (sysL a) (k : Int)) := by
  unfold edA
  rw [Nat.add_comm, Nat.add_mul_mod_self_right, Nat.mod_eq_of_lt h]
theorem ndx_lt {n : Nat} {x : Int} (hn : 2 ≤ n) (h1 : -1 ≤ x) (h2 : x ≤ (n : Int) - 2) : ndx n x < n := by unfold ndx; split <;> omega
theorem ndx_inj {n : Nat} {x y : Int} (hn : 2 ≤ n) (h1 : -1 ≤ x) (h2 : x ≤ (n : Int) - 2) (h3 : -1 ≤ y) (h4 : y ≤ (n : Int) - 2) (h : ndx n x = ndx n y) : x = y := by
  unfold ndx at h
  split at h <;> split at h <;> omega
theorem edA_n {a : Ann} (h : An a) (m : Nat) : (edA a m).1 < nn a ∧ (edA a m).2.1 < nn a := by
  have hnn : nn a = a.2.2.1.length + 2 := rfl
  have b := sysL_bd h (edA_mem a m)
  exact ⟨ndx_lt (by omega) b.1.1 (by omega), ndx_lt (by omega) b.2.1.1 (by omega)⟩
theorem edA_ns {a : Ann} (h : An a) (m : Nat) : (edA a m).1 ≠ (edA a m).2.1 := fun q => by
  have hnn : nn a = a.2.2.1.length + 2 := rfl
  have b := sysL_bd h (edA_mem a m)
  have e := ndx_inj (by omega) b.1.1 (by omega) b.2.1.1 (by omega) q
  rcases sysL_mem.1 (edA_mem a m) with ⟨i, hi, g⟩ | ⟨i, hi, g | g⟩ | ⟨i, hi, g | g⟩
  · rw [g] at e; dsimp only at e; omega
  · rw [g] at e; dsimp only at e; omega
  · rw [g] at e; dsimp only at e; omega
  · rw [g] at e; dsimp only at e; have := h.wi i hi; omega
  · rw [g] at e; dsimp only at e; have := h.wi i hi; omega
theorem edA_w {a : Ann} (h : An a) (m : Nat) : -250000000000 ≤ (edA a m).2.2 := (sysL_bd h (edA_mem a m)).2.2.1
abbrev rA (a : Ann) (m : Nat) : (Nat → Int) × (Nat → Nat) := runE (edA a) m
theorem rA_bd {a : Ann} (h : An a) (m x : Nat) : 0 ≤ (rA a m).1 x ∧ (rA a m).1 x ≤ (m : Int) * 250000000000 := run_bd (by decide) (edA_w h) m x

theorem gi_set {l : List Int} {i j : Nat} {v : Int} (h : i < l.length) : gi (l.set i v) (j : Int) = if j = i then v else gi l (j : Int) := by
  by_cases q : j = i
  · subst q
    rw [if_pos rfl]
    simp [gi, List.getD, List.getElem?_set, h]
  · rw [if_neg q]
    simp [gi, List.getD, List.getElem?_set, Ne.symm q]
/-- The lists of the program hold these numbers. -/
structure RelA (a : Ann) (m : Nat) (T B : List Int) : Prop where
  lt : T.length = nn a
  lb : B.length = nn a
  t : ∀ x : Nat, x < nn a → gi T (x : Int) = (rA a m).1 x
  b : ∀ x : Nat, x < nn a → 0 < (rA a m).2 x → gi B (x : Int) = ((((rA a m).2 x - 1) % (sysL a).length : Nat) : Int)
theorem RelA.tr {a : Ann} (h : An a) {m : Nat} {T B : List Int} (R : RelA a m T B) (t : trg (rA a m).1 (edA a m)) :
    RelA a (m + 1) (T.set (edA a m).1 ((rA a m).1 (edA a m).2.1 - (edA a m).2.2)) (B.set (edA a m).1 ((m % (sysL a).length : Nat) : Int)) := by
  have hn := edA_n h m
  refine ⟨by rw [List.length_set, R.lt], by rw [List.length_set, R.lb], fun x hx => ?_, fun x hx hp => ?_⟩
  · rw [gi_set (by rw [R.lt]; exact hn.1)]
    unfold rA
    rw [run_t t]
    show _ = updE _ _ _ _
    by_cases q : x = (edA a m).1
    · subst q; rw [if_pos rfl, updE_at]
    · rw [if_neg q, updE_ne q]; exact R.t x hx
  · rw [gi_set (by rw [R.lb]; exact hn.1)]
    unfold rA at hp ⊢
    rw [run_t t] at hp ⊢
    replace hp : 0 < updE _ _ _ _ := hp
    show _ = (((updE _ _ _ _ - 1) % _ : Nat) : Int)
    by_cases q : x = (edA a m).1
    · subst q
      rw [if_pos rfl, updE_at]; rfl
    · rw [if_neg q]
      rw [updE_ne q] at hp ⊢
      exact R.b x hx hp
theorem RelA.fl {a : Ann} {m : Nat} {T B : List Int} (R : RelA a m T B) (t : ¬ trg (rA a m).1 (edA a m)) : RelA a (m + 1) T B := by
  have e : rA a (m + 1) = rA a m := run_f t
  exact ⟨R.lt, R.lb, by rw [e]; exact R.t, by rw [e]; exact R.b⟩

/-! ### The walk -/
theorem k_clock_at {l : List Tri} {n : Nat} {x : Int} {T B : List Int} (h1 : -1 ≤ x) (hn : 2 ≤ n) (hn' : n ≤ 1000) :
    blank_clock_at x (l, (n : Int), (n : Int), ()) T B = some (((((ndx n x : Nat) : Int)), ()), ((l, ((n : Int), ((n : Int), ()))), (T, (B, ())))) := by
  simp only [blank_clock_at, T_blank_clock_at, Int.toNat_natCast]
  unfold ndx
  by_cases h : x = -1
  · refine (br_t (decide_eq_true h)).trans ?_
    rw [if_pos h, w64' (x := (n : Int) - 1) (by omega) (by omega), show (n : Int) - 1 = ((n - 1 : Nat) : Int) by omega]
    exact r_ret _
  · refine (br_f (decide_eq_false h)).trans ?_
    rw [if_neg h, show ((x.toNat : Nat) : Int) = x by omega]
    exact r_ret _

theorem k_wait {a : Ann} (h : An a) {r : Nat} (hr : r ≤ 40) {T B : List Int} (R : RelA a (r * (sysL a).length) T B) :
    ∃ (later : Int) (any : Bool) (T' B' : List Int), blank_clock_wait (sysL a, ((nn a : Nat) : Int), ((nn a : Nat) : Int), ()) T B = some (((later, (any, ())), ((sysL a, (((nn a : Nat) : Int), (((nn a : Nat) : Int), ()))), (T', (B', ()))))) ∧
      RelA a ((r + 1) * (sysL a).length) T' B' ∧ (any = true → ∃ x : Nat, later = (x : Int) ∧ x < nn a ∧ r * (sysL a).length < (rA a ((r + 1) * (sysL a).length)).2 x) ∧
      (any = false → ∀ j, j < (sysL a).length → ¬ trg (rA a (r * (sysL a).length + j)).1 (edA a (r * (sysL a).length + j))) := by
  have hnn : nn a = a.2.2.1.length + 2 := rfl
  have hl := h.len
  have hw := h.wl
  have hL := sysL_len a
  have hpos := sys_pos a
  have hm : r * (sysL a).length ≤ 40 * 211 := Nat.mul_le_mul hr (by omega)
  have key : ∃ out, iterF (fun q_ : Int × (Bool × (Int × (List Int × (List Int × Unit)))) => (T_blank_clock_wait_l0 (sysL a, ((nn a : Nat) : Int), ((nn a : Nat) : Int), ()) q_.1 q_.2.1 q_.2.2.1 q_.2.2.2.1 q_.2.2.2.2.1).run) FUEL (0, false, 0, T, B, ()) = some out ∧ (∃ (later : Int) (any : Bool) (T' B' : List Int), out = (((later, (any, ())), ((sysL a, (((nn a : Nat) : Int), (((nn a : Nat) : Int), ()))), (T', (B', ()))))) ∧
      RelA a ((r + 1) * (sysL a).length) T' B' ∧ (any = true → ∃ x : Nat, later = (x : Int) ∧ x < nn a ∧ r * (sysL a).length < (rA a ((r + 1) * (sysL a).length)).2 x) ∧
      (any = false → ∀ j, j < (sysL a).length → ¬ trg (rA a (r * (sysL a).length + j)).1 (edA a (r * (sysL a).length + j)))) := by
    refine iter_post
      (fun k y => ∃ (later : Int) (any : Bool) (T B : List Int), y = (later, any, (k : Int), T, B, ()) ∧ RelA a (r * (sysL a).length + k) T B ∧ (any = true → ∃ x : Nat, later = (x : Int) ∧ x < nn a ∧ r * (sysL a).length < (rA a (r * (sysL a).length + k)).2 x) ∧
      (any = false → ∀ j, j < k → ¬ trg (rA a (r * (sysL a).length + j)).1 (edA a (r * (sysL a).length + j))))
      (fun out => ∃ (later : Int) (any : Bool) (T' B' : List Int), out = (((later, (any, ())), ((sysL a, (((nn a : Nat) : Int), (((nn a : Nat) : Int), ()))), (T', (B', ()))))) ∧
      RelA a ((r + 1) * (sysL a).length) T' B' ∧ (any = true → ∃ x : Nat, later = (x : Int) ∧ x < nn a ∧ r * (sysL a).length < (rA a ((r + 1) * (sysL a).length)).2 x) ∧
      (any = false → ∀ j, j < (sysL a).length → ¬ trg (rA a (r * (sysL a).length + j)).1 (edA a (r * (sysL a).length + j))))
      (sysL a).length (by omega) (fun k y hk hI => ?_) ⟨0, false, T, B, rfl, R, (fun q => by cases q), fun _ j hj => by omega⟩
    obtain ⟨later, any, T, B, rfl, R, f1, f2⟩ := hI
    dsimp only
    unfold T_blank_clock_wait_l0
    dsimp only
    rw [show Int.toNat ((nn a : Nat) : Int) = nn a from rfl]
    by_cases e : k < (sysL a).length
    · left
      have hmem : gi (sysL a) (k : Int) ∈ sysL a := gi_mem (by omega) (by omega)
      have hb := sysL_bd h hmem
      have hed := edA_at a r e
      have hmod : (r * (sysL a).length + k) % (sysL a).length = k := by rw [Nat.add_comm, Nat.add_mul_mod_self_right, Nat.mod_eq_of_lt e]
      have n1 : ndx (nn a) (gi (sysL a) (k : Int)).1 < nn a := ndx_lt (by omega) hb.1.1 (by omega)
      have n2 : ndx (nn a) (gi (sysL a) (k : Int)).2.1 < nn a := ndx_lt (by omega) hb.2.1.1 (by omega)
      have b1 := rA_bd h (r * (sysL a).length + k) (ndx (nn a) (gi (sysL a) (k : Int)).1)
      have b2 := rA_bd h (r * (sysL a).length + k) (ndx (nn a) (gi (sysL a) (k : Int)).2.1)
      have hM : ((r * (sysL a).length + k : Nat) : Int) * 250000000000 ≤ 10000 * 250000000000 := by omega
      by_cases t : trg (rA a (r * (sysL a).length + k)).1 (edA a (r * (sysL a).length + k))
      · refine ⟨(((ndx (nn a) (gi (sysL a) (k : Int)).1 : Nat) : Int), true, ((k + 1 : Nat) : Int), T.set (ndx (nn a) (gi (sysL a) (k : Int)).1) ((rA a (r * (sysL a).length + k)).1 (ndx (nn a) (gi (sysL a) (k : Int)).2.1) - (gi (sysL a) (k : Int)).2.2), B.set (ndx (nn a) (gi (sysL a) (k : Int)).1) (k : Int), ()), ?_, e, _, _, _, _, rfl, ?_, ?_, fun q => by cases q⟩
        · refine (br_t (decide_eq_true (by omega))).trans ?_
          refine (q_of (inB_t' (by omega) (by omega))).trans ?_
          refine (r_bs (k_clock_at hb.1.1 (by omega) (by omega))).trans ?_
          refine (q_of (eqK_self _ _ _)).trans ?_
          refine (r_bs (k_clock_at hb.2.1.1 (by omega) (by omega))).trans ?_
          refine (q_of (eqK_self _ _ _)).trans ?_
          dsimp only
          refine (q_of (inB_t' (by omega) (by omega))).trans ?_
          refine (q_of (inB_t' (by omega) (by omega))).trans ?_
          rw [R.t _ n1, R.t _ n2, w64' (x := (rA a (r * (sysL a).length + k)).1 (ndx (nn a) (gi (sysL a) (k : Int)).2.1) - (gi (sysL a) (k : Int)).2.2) (by omega) (by omega), w64' (x := (k : Int) + 1) (by omega) (by omega)]
          rw [hed] at t
          refine (br_t (decide_eq_true t)).trans ?_
          refine (q_of (inB_t' (by omega) (by omega))).trans ?_
          refine (q_of (inB_t' (by omega) (by omega))).trans ?_
          exact r_ret _
        · have := R.tr h t
          rw [hed, hmod] at this
          exact this
        · refine fun _ => ⟨_, rfl, n1, ?_⟩
          show _ < (runE (edA a) (r * (sysL a).length + k + 1)).2 _
          rw [run_t t]
          show _ < updE _ _ _ _
          rw [hed]
          show _ < updE _ (ndx (nn a) (gi (sysL a) (k : Int)).1) _ (ndx (nn a) (gi (sysL a) (k : Int)).1)
          rw [updE_at]; omega
      · refine ⟨(later, any, ((k + 1 : Nat) : Int), T, B, ()), ?_, e, _, _, _, _, rfl, R.fl t, ?_, ?_⟩
        · refine (br_t (decide_eq_true (by omega))).trans ?_
          refine (q_of (inB_t' (by omega) (by omega))).trans ?_
          refine (r_bs (k_clock_at hb.1.1 (by omega) (by omega))).trans ?_
          refine (q_of (eqK_self _ _ _)).trans ?_
          refine (r_bs (k_clock_at hb.2.1.1 (by omega) (by omega))).trans ?_
          refine (q_of (eqK_self _ _ _)).trans ?_
          dsimp only
          refine (q_of (inB_t' (by omega) (by omega))).trans ?_
          refine (q_of (inB_t' (by omega) (by omega))).trans ?_
          rw [R.t _ n1, R.t _ n2, w64' (x := (rA a (r * (sysL a).length + k)).1 (ndx (nn a) (gi (sysL a) (k : Int)).2.1) - (gi (sysL a) (k : Int)).2.2) (by omega) (by omega), w64' (x := (k : Int) + 1) (by omega) (by omega)]
          rw [hed] at t
          refine (br_f (decide_eq_false t)).trans ?_
          exact r_ret _
        · intro q
          obtain ⟨x, g1, g2, g3⟩ := f1 q
          refine ⟨x, g1, g2, ?_⟩
          rw [show rA a (r * (sysL a).length + (k + 1)) = rA a (r * (sysL a).length + k) from run_f t]
          exact g3
        · intro q j hj
          by_cases ej : j = k
          · subst ej; exact t
          · exact f2 q j (by omega)
    · right
      have e : k = (sysL a).length := by omega
      subst e
      have em : r * (sysL a).length + (sysL a).length = (r + 1) * (sysL a).length := by rw [Nat.add_mul, Nat.one_mul]
      rw [em] at R f1
      refine ⟨_, (br_f (decide_eq_false (by omega))).trans (r_ret _), later, any, T, B, rfl, R, f1, f2⟩
  obtain ⟨out, e1, later, any, T', B', e2, R', f1, f2⟩ := key
  refine ⟨later, any, T', B', ?_, R', f1, f2⟩
  simp only [blank_clock_wait, T_blank_clock_wait, r_iter]
  exact e1.trans (congrArg some e2)

theorem k_next {a : Ann} (h : An a) {M : Nat} {T B : List Int} (R : RelA a M T B) {x : Nat} (hx : x < nn a) (hp : 0 < (rA a M).2 x) :
    blank_clock_next (x : Int) (sysL a, ((nn a : Nat) : Int), ((nn a : Nat) : Int), ()) T B = some (((((preE (edA a) M x : Nat) : Int)), ()), ((sysL a, (((nn a : Nat) : Int), (((nn a : Nat) : Int), ()))), (T, (B, ())))) := by
  have hnn : nn a = a.2.2.1.length + 2 := rfl
  have hl := h.len
  have hb := sysL_bd h (edA_mem a ((rA a M).2 x - 1))
  have hlt := Nat.mod_lt ((rA a M).2 x - 1) (sys_pos a)
  simp only [blank_clock_next, T_blank_clock_next]
  rw [show Int.toNat ((nn a : Nat) : Int) = nn a from rfl, R.b x hx hp]
  refine (q_of (inB_t' (by omega) (by omega))).trans ?_
  refine (q_of (inB_t' (by omega) (by omega))).trans ?_
  refine (r_bs (k_clock_at hb.2.1.1 (by omega) (by omega))).trans ?_
  refine (q_of (eqK_self _ _ _)).trans ?_
  exact r_ret _
end Go.Ab
