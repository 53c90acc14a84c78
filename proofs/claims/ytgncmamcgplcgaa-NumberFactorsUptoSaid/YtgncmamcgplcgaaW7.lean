/- Polynomials of any size: the program's chain, its changes, SignAt and RootsIn. -/
import Derived.Test.YtgncmamcgplcgaaW6
namespace Go.Ab
open Go
set_option maxRecDepth 1000000
set_option maxHeartbeats 1000000
set_option linter.unusedVariables false
set_option linter.unusedSimpArgs false

abbrev NuL := List Nu
theorem k_negRow {n m : Nat} {o : NuL} {R : List Int} (h : RL B32 n m o R) (hm : m ≤ 1000) (a1 : List NuL) (b1 : NuL) :
    ∃ o', iterF (fun q_ => (T_number_series_chain_l3 a1 b1 ((((m : Int), o), ()), ()) q_.1 q_.2.1).run) FUEL (0, o, ()) = some (.inl (a1 ++ [b1], o', ())) ∧ WL B32 n o' (ngZ R) := by
  have key : ∃ r, iterF (fun q_ => (T_number_series_chain_l3 a1 b1 ((((m : Int), o), ()), ()) q_.1 q_.2.1).run) FUEL (0, o, ()) = some r ∧ ∃ o', r = .inl (a1 ++ [b1], o', ()) ∧ WL B32 n o' (ngZ R) := by
    refine iter_post (fun i st => i ≤ m ∧ ∃ p, st = ((i : Int), p, ()) ∧ p.length = o.length ∧ (∀ j : Nat, j < i → WI B32 n (gi p (j : Int)) (-gN R j)) ∧ ∀ j : Nat, i ≤ j → j < m → WI B32 n (gi p (j : Int)) (gN R j)) _ m (by omega) ?_
      ⟨Nat.zero_le _, o, rfl, rfl, fun j h => by omega, fun j _ hj => h.wi j hj⟩
    rintro i st hi ⟨_, p, rfl, hpl, hdone, htodo⟩
    have hol := h.le
    simp only [T_number_series_chain_l3, Int.toNat_natCast]
    by_cases h0 : i < m
    · left
      obtain ⟨r, k1, k2⟩ := k_minus (htodo i (Nat.le_refl _) h0)
      have hlt : i < p.length := by omega
      have e1 : IntKind.i64.wrap ((i : Int) + 1) = ((i + 1 : Nat) : Int) := by rw [w64' (by omega) (by omega)]; omega
      refine ⟨_, ?_, h0, h0, p.set i r, rfl, by simp [hpl], fun j hj => ?_, fun j h1 h2 => ?_⟩
      · rw [e1]
        refine (br_t (decide_eq_true (by omega))).trans ?_
        refine (q_of (inB_t' (by omega) (by omega))).trans ?_
        refine (r_bs k1).trans ?_
        refine (q_of (inB_t' (by omega) (by omega))).trans ?_
        exact r_ret _
      · rw [ga_set hlt]
        by_cases e : j = i
        · rw [if_pos e, e]; exact k2
        · rw [if_neg e]; exact hdone j (by omega)
      · rw [ga_set hlt, if_neg (by omega)]
        exact htodo j (by omega) h2
    · right
      have : i = m := by omega
      subst this
      have hR := h.len
      refine ⟨_, ?_, p.take i, rfl, by rw [ngZ_len]; simp; omega, fun j => ?_⟩
      · refine (br_f (decide_eq_false (by omega))).trans ?_
        refine req_len'.trans ?_
        exact r_ret _
      · rw [ga_take]
        unfold ngZ
        rw [mkL_get, ← hR]
        split
        · rename_i hj; exact hdone j hj
        · exact WI.zero hB32
  obtain ⟨r, h1, o', rfl, h2⟩ := key
  exact ⟨o', h1, h2⟩
/-- A chain stands for the sequence. -/
structure CH (B : Int) (p : List Int) (e : Nat) (c : List NuL) : Prop where
  len : c.length = e + 1
  le : e ≤ 6
  wl : ∀ j : Nat, j ≤ e → WL B (dd j) (gi c (j : Int)) (seqZ p j).1
  fin : (seqZ p e).2.length = 0
  on : ∀ j, j < e → (seqZ p j).2.length ≠ 0
theorem CH.uniq {B B' : Int} {p : List Int} {e e' : Nat} {c c' : List NuL} (h : CH B p e c) (h' : CH B' p e' c') : e = e' := by
  rcases Nat.lt_trichotomy e e' with q | q | q
  · exact absurd h.fin (h'.on e q)
  · exact q
  · exact absurd h'.fin (h.on e' q)
theorem dd_up : ∀ j : Fin 7, dd j.val + 8 * (dd (j.val + 1) + 2) ≤ 134217728 ∧ dd (j.val + 1) ≤ 134217728 ∧ dd j.val ≤ 134217728 := by decide
theorem k_chain {n : Nat} {l : NuL} {p : List Int} (h : WL B32 2 l p) (ht : Top p) (h0 : 0 < p.length) (h7 : p.length ≤ 7) : ∃ c e, number_series_chain l = some ((c, ()), ()) ∧ CH B32 p e c := by
  obtain ⟨d, kd, hd⟩ := k_slope h (by omega) (by omega)
  have key : ∃ r, iterF (fun q_ => (T_number_series_chain_l1 q_.1 q_.2.1).run) FUEL ([l], d, ()) = some r ∧ ∃ c e, r = ((c, ()), ()) ∧ CH B32 p e c := by
    refine iter_post (fun i st => ∃ (c : List NuL) (q : NuL), st = (c, q, ()) ∧ i ≤ 6 ∧ c.length = i + 1 ∧ (∀ j : Nat, j ≤ i → WL B32 (dd j) (gi c (j : Int)) (seqZ p j).1) ∧ WL B32 (dd (i + 1)) q (seqZ p i).2 ∧ (∀ j, j < i → (seqZ p j).2.length ≠ 0)) _ 6 (by omega) ?_
      ⟨[l], d, rfl, by omega, rfl, fun j hj => by
        have : j = 0 := by omega
        subst this
        exact h.up (by decide), hd.up (by decide), fun j hj => by omega⟩
    rintro i st hi ⟨c, q, rfl, _, hc, hwl, hq, hon⟩
    have hql := hq.len
    obtain ⟨t1, t2, l1, l2, l3⟩ := seqZ_ok ht h7 i
    simp only [T_number_series_chain_l1]
    by_cases hz0 : (seqZ p i).2.length = 0
    · right
      refine ⟨_, (br_f (decide_eq_false (by omega))).trans (r_ret _), c, i, rfl, hc, hi, hwl, hz0, hon⟩
    · left
      have hi6 : i < 6 := by omega
      have hdd := dd_up ⟨i, by omega⟩
      simp only at hdd
      have hlen2 : (c ++ [q]).length = i + 2 := by simp [hc]
      have e1 : IntKind.i64.wrap (((c ++ [q]).length : Int) - 2) = (i : Int) := by rw [hlen2, w64' (by omega) (by omega)]; omega
      have eg : gi (c ++ [q]) (i : Int) = gi c (i : Int) := by rw [ga_snoc, if_neg (by omega)]
      have hP : 0 < (seqZ p i).1.length := by omega
      obtain ⟨o, k1, k2⟩ := k_remainder (hwl i (Nat.le_refl _)) hq hP (by omega) (by omega) (by omega) (t2 (by omega)) (by omega)
      obtain ⟨o', k3, k4⟩ := k_negRow k2 (by
        have : (remZ (seqZ p i).1 (seqZ p i).2).length < (seqZ p i).2.length := remF_len 8 _ _ (by omega) (by omega)
        omega) c q
      refine ⟨_, ?_, hi6, c ++ [q], o', rfl, by omega, by omega, fun j hj => ?_, ?_, fun j hj => ?_⟩
      · refine (br_t (decide_eq_true (by omega))).trans ?_
        refine (q_of (by simp)).trans ?_
        refine (req_nu (a := c) (b := 24) (by omega) (by omega)).trans ?_
        rw [e1, eg]
        refine (q_of (inB_t' (by omega) (by omega))).trans ?_
        refine (r_bs k1).trans ?_
        rw [r_iter]
        exact k3
      · rw [ga_snoc]
        by_cases e : j = c.length
        · rw [if_pos e]
          have : j = i + 1 := by omega
          subst this
          exact hq
        · rw [if_neg e]; exact hwl j (by omega)
      · exact k4.up (Nat.le_refl _)
      · by_cases e : j = i
        · rw [e]; exact hz0
        · exact hon j (by omega)
  obtain ⟨r, h1, c, e, rfl, h2⟩ := key
  refine ⟨c, e, ?_, h2⟩
  simp only [number_series_chain, T_number_series_chain]
  refine (r_bs kd).trans ?_
  refine (q_of rfl).trans ?_
  dsimp only
  rw [r_iter]
  exact h1
theorem k_changes {p : List Int} {e : Nat} {c : List NuL} (h : CH B32 p e c) (h7 : ∀ j, (seqZ p j).1.length ≤ 7) {x : Nu × Nu} {a b : Int} (hx : WI B32 2 x.1 a) (hy : WI B32 2 x.2 b) :
    number_changes c x = some (((cgS (fun j => bhF a b 8 (seqZ p j).1) (e + 1)).1, ()), ()) := by
  have hl := h.len
  have he := h.le
  simp only [number_changes, T_number_changes, r_iter]
  refine iter_eq (fun i st => i ≤ e + 1 ∧ st = ((cgS (fun j => bhF a b 8 (seqZ p j).1) i).1, (cgS (fun j => bhF a b 8 (seqZ p j).1) i).2, (i : Int), ())) _ (e + 1) (by omega) ?_ ⟨Nat.zero_le _, rfl⟩
  rintro i st hi ⟨_, rfl⟩
  simp only [T_number_changes_l0]
  by_cases h0 : i < e + 1
  · left
    refine ⟨_, ?_, h0, h0, rfl⟩
    have hd := dd_le ⟨i, by omega⟩
    simp only at hd
    have hk := k_signBehind (h.wl i (by omega)) (h7 i) (by omega) hx hy
    obtain ⟨⟨c1, c2⟩, c3⟩ := cgS_bd (s := fun j => bhF a b 8 (seqZ p j).1) (fun j => bhF_vals a b 8 _) i
    have hv := bhF_vals a b 8 (seqZ p i).1
    rw [cgS]
    dsimp only
    generalize (cgS (fun j => bhF a b 8 (seqZ p j).1) i).1 = u at *
    generalize (cgS (fun j => bhF a b 8 (seqZ p j).1) i).2 = w at *
    have e1 : IntKind.i64.wrap ((i : Int) + 1) = ((i + 1 : Nat) : Int) := by rw [w64' (by omega) (by omega)]; omega
    have e2 : IntKind.i64.wrap (u + 1) = u + 1 := w64' (by omega) (by omega)
    have e3 : IntKind.i64.wrap (bhF a b 8 (seqZ p i).1 * w) = bhF a b 8 (seqZ p i).1 * w := by
      rcases hv with h | h | h <;> rcases c3 with h' | h' | h' <;> rw [h, h'] <;> rfl
    refine (br_t (decide_eq_true (by omega))).trans ?_
    refine (q_of (inB_t' (by omega) (by omega))).trans ?_
    refine (r_bs hk).trans ?_
    dsimp only
    rw [e1, e2, e3]
    by_cases q1 : bhF a b 8 (seqZ p i).1 * w < 0
    · rw [if_pos q1]
      refine (br_t (decide_eq_true q1)).trans ?_
      by_cases q2 : bhF a b 8 (seqZ p i).1 = 0
      · rw [if_pos q2]; exact (br_f (nd q2)).trans (r_ret _)
      · rw [if_neg q2]; exact (br_t (nd' q2)).trans (r_ret _)
    · rw [if_neg q1]
      refine (br_f (decide_eq_false q1)).trans ?_
      by_cases q2 : bhF a b 8 (seqZ p i).1 = 0
      · rw [if_pos q2]; exact (br_f (nd q2)).trans (r_ret _)
      · rw [if_neg q2]; exact (br_t (nd' q2)).trans (r_ret _)
  · right
    have : i = e + 1 := by omega
    subst this
    refine (br_f (decide_eq_false (by omega))).trans (r_ret _)
theorem pc_top {p : List Int} (h : pcE p = 0) : Top p := fun _ => by
  obtain ⟨h1, _, _, h2⟩ := pcE_zero h
  show gi p ((p.length - 1 : Nat) : Int) ≠ 0
  rw [show ((p.length - 1 : Nat) : Int) = (p.length : Int) - 1 by omega]
  exact h2
theorem pc_series {p : List Int} (h : pcE p = 0) : ∃ r, number_seriesOf p = some ((r, ()), ()) ∧ WL B32 2 r p := by
  obtain ⟨h1, h2, h3, _⟩ := pcE_zero h
  exact k_seriesOf h2 (fun i hi => by have := h3 i hi; show -9223372036854775807 ≤ gi p (i : Int) ∧ gi p (i : Int) ≤ 9223372036854775807; omega)
theorem k_SignAt {p : List Int} (h : pcE p = 0) {x : Int × Int} (hx : Small x) : number_SignAt p x = some ((sgn (hz p x.1 x.2), 0, ()), ()) := by
  obtain ⟨h1, h2, _⟩ := pcE_zero h
  obtain ⟨r, k1, k2⟩ := pc_series h
  have i1 := hx.i1
  have i2 := hx.i2
  have b1 := hx.2.1
  have b2 := hx.2.2.1
  have b3 := hx.2.2.2
  have b4 := hx.1.1
  obtain ⟨y, k3, k4, k5⟩ := k_pointOf (a := x.1) (b := x.2) (by omega) (by omega) (by omega) (by omega)
  simp only [number_SignAt, T_number_SignAt]
  refine (r_bs (k_CheckPoly p)).trans ?_
  refine (br_f (nd h)).trans ?_
  refine (r_bs (k_CheckFrac i1 i2)).trans ?_
  refine (br_f (nd (cfE_of hx))).trans ?_
  refine (r_bs k1).trans ?_
  refine (r_bs k3).trans ?_
  refine (r_bs (k_sign k2 (by omega) (by omega) k4 k5)).trans ?_
  exact r_ret _
/-- How many roots there are between two fractions, told by the sequence. -/
def rootsZ (p : List Int) (e : Nat) (lo hi : Int × Int) : Int :=
  (cgS (fun j => bhF lo.1 lo.2 8 (seqZ p j).1) (e + 1)).1 - (cgS (fun j => bhF hi.1 hi.2 8 (seqZ p j).1) (e + 1)).1
end Go.Ab
