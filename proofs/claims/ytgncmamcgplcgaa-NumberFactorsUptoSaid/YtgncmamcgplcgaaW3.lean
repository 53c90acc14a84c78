/- Numbers of any size: what the program's plus, minus and integerOf compute. -/
import Derived.Test.YtgncmamcgplcgaaW2
namespace Go.Ab
open Go
set_option maxRecDepth 1000000
set_option maxHeartbeats 1000000
set_option linter.unusedVariables false
set_option linter.unusedSimpArgs false

theorem k_digit {l : List Int} {i : Nat} (hd : 0 ≤ gN l i ∧ gN l i < 4294967296) : number_digit l (i : Int) = some ((gN l i, ()), ()) := by
  simp only [number_digit, T_number_digit]
  by_cases h : (l.length : Int) ≤ (i : Int)
  · refine (br_t (decide_eq_true h)).trans ((r_ret _).trans ?_)
    rw [gN_out (l := l) (i := i) (by omega)]
  · refine (br_f (decide_eq_false h)).trans ((q_of (inB_t' (by omega) (by omega))).trans ((r_ret _).trans ?_))
    rw [u64w hd.1 (by omega)]

/-- Sizes: canonical digits, compared. -/
theorem cmp_len {B : Int} (hB : 0 < B) {f g : Nat → Int} {m n : Nat} (hf : ∀ i, f i < B) (hg : ∀ i, 0 ≤ g i) (hmn : m < n) (hl : g (n - 1) ≠ 0) : sm B f m < sm B g n := by
  have h1 := sm_lt hB (n := m) (fun i _ => hf i)
  have h2 := sm_pos hB (f := g) (n := n) (fun i _ => hg i) (by omega) hl
  have h3 := pow_le hB (show m ≤ n - 1 by omega)
  omega
structure Dg (B : Int) (l : List Int) : Prop where
  dgs : ∀ i, 0 ≤ gN l i ∧ gN l i < B
  top : 0 < l.length → gN l (l.length - 1) ≠ 0
theorem WI.dg {B : Int} {n : Nat} {x : Int × List Int} {v : Int} (h : WI B n x v) : Dg B x.2 := ⟨h.dgs, fun h0 => by
  rcases h.can with ⟨_, h1⟩ | ⟨_, _, h1⟩
  · omega
  · exact h1⟩
theorem k_compareDigits {a b : List Int} (ha : Dg B32 a) (hb : Dg B32 b) (la : a.length ≤ 1099511627776) (lb : b.length ≤ 1099511627776) :
    ∃ c, number_compareDigits a b = some ((c, ()), ()) ∧ (c < 0 ↔ sm B32 (gN a) a.length < sm B32 (gN b) b.length) := by
  have hB : 0 < B32 := by decide
  simp only [number_compareDigits, T_number_compareDigits]
  by_cases h : (a.length : Int) = (b.length : Int)
  · have hl : a.length = b.length := by omega
    have key : ∃ r, iterF (fun q_ => (T_number_compareDigits_l0 a b q_.1).run) FUEL (IntKind.i64.wrap ((a.length : Int) - 1), ()) = some r ∧ ∃ c, r = ((c, ()), ()) ∧ (c < 0 ↔ sm B32 (gN a) a.length < sm B32 (gN b) b.length) := by
      rw [w64' (by omega) (by omega)]
      refine iter_post (fun i st => i ≤ a.length ∧ st = ((a.length : Int) - 1 - i, ()) ∧ ∀ j, a.length - i ≤ j → gN a j = gN b j) _ a.length (by omega) ?_ ⟨Nat.zero_le _, by simp, fun j hj => by rw [gN_out (by omega), gN_out (by omega)]⟩
      rintro i st hi ⟨_, rfl, he⟩
      simp only [T_number_compareDigits_l0]
      by_cases h0 : i < a.length
      · have e1 : (a.length : Int) - 1 - (i : Int) = ((a.length - 1 - i : Nat) : Int) := by omega
        rw [e1]
        have e2 : IntKind.i64.wrap (((a.length - 1 - i : Nat) : Int) - 1) = (a.length : Int) - 1 - ((i + 1 : Nat) : Int) := by rw [w64' (by omega) (by omega)]; omega
        rw [e2]
        by_cases hc : gi a ((a.length - 1 - i : Nat) : Int) = gi b ((a.length - 1 - i : Nat) : Int)
        · left
          refine ⟨_, (br_t (decide_eq_true (by omega))).trans ((q_of (inB_t' (by omega) (by omega))).trans ((q_of (inB_t' (by omega) (by omega))).trans ((br_f (nd hc)).trans (r_ret _)))), h0, by omega, rfl, fun j hj => ?_⟩
          by_cases e : j = a.length - 1 - i
          · rw [e]; exact hc
          · exact he j (by omega)
        · right
          by_cases hlt : gi a ((a.length - 1 - i : Nat) : Int) < gi b ((a.length - 1 - i : Nat) : Int)
          · refine ⟨_, (br_t (decide_eq_true (by omega))).trans ((q_of (inB_t' (by omega) (by omega))).trans ((q_of (inB_t' (by omega) (by omega))).trans ((br_t (nd' hc)).trans ((q_of (inB_t' (by omega) (by omega))).trans ((q_of (inB_t' (by omega) (by omega))).trans ((br_t (decide_eq_true hlt)).trans (r_ret _))))))), _, rfl, ?_⟩
            have := sm_cmp hB (f := gN a) (g := gN b) (i := a.length - 1 - i) (fun j _ => (ha.dgs j).2) (fun j _ => (hb.dgs j).1) hlt (n := a.length) (by omega) (fun j h1 h2 => he j (by omega))
            rw [← hl]
            exact ⟨fun _ => this, fun _ => by decide⟩
          · refine ⟨_, (br_t (decide_eq_true (by omega))).trans ((q_of (inB_t' (by omega) (by omega))).trans ((q_of (inB_t' (by omega) (by omega))).trans ((br_t (nd' hc)).trans ((q_of (inB_t' (by omega) (by omega))).trans ((q_of (inB_t' (by omega) (by omega))).trans ((br_f (decide_eq_false hlt)).trans (r_ret _))))))), _, rfl, ?_⟩
            have := sm_cmp hB (f := gN b) (g := gN a) (i := a.length - 1 - i) (fun j _ => (hb.dgs j).2) (fun j _ => (ha.dgs j).1) (show gi b ((a.length - 1 - i : Nat) : Int) < gi a ((a.length - 1 - i : Nat) : Int) by omega) (n := a.length) (by omega) (fun j h1 h2 => (he j (by omega)).symm)
            rw [← hl]
            exact ⟨fun h => absurd h (by decide), fun h => by omega⟩
      · right
        have : i = a.length := by omega
        subst this
        refine ⟨_, (br_f (decide_eq_false (by omega))).trans (r_ret _), _, rfl, ?_⟩
        rw [← hl, sm_ext (f := gN a) (g := gN b) (fun j _ => he j (by omega))]
        exact ⟨fun h => absurd h (by decide), fun h => by omega⟩
    obtain ⟨r, h1, c, rfl, h2⟩ := key
    exact ⟨c, (br_f (nd h)).trans ((r_iter _ _ _).trans h1), h2⟩
  · refine ⟨_, (br_t (nd' h)).trans (r_ret _), ?_⟩
    rw [w64' (by omega) (by omega)]
    rcases Nat.lt_or_gt_of_ne (show a.length ≠ b.length by omega) with hl | hl
    · exact ⟨fun _ => cmp_len hB (fun i => (ha.dgs i).2) (fun i => (hb.dgs i).1) hl (hb.top (by omega)), fun _ => by omega⟩
    · have := cmp_len hB (fun i => (hb.dgs i).2) (fun i => (ha.dgs i).1) hl (ha.top (by omega))
      exact ⟨fun h => by omega, fun h => by omega⟩

theorem sm_snoc {B : Int} {l : List Int} {d : Int} : sm B (gN (l ++ [d])) (l.length + 1) = sm B (gN l) l.length + d * B ^ l.length := by
  rw [sm, gN_snoc, if_pos rfl, sm_ext (f := gN (l ++ [d])) (g := gN l) (fun i hi => by rw [gN_snoc, if_neg (by omega)])]
theorem dgs_snoc {B : Int} {l : List Int} {d : Int} (h : ∀ i, 0 ≤ gN l i ∧ gN l i < B) (hd : 0 ≤ d ∧ d < B) (i : Nat) : 0 ≤ gN (l ++ [d]) i ∧ gN (l ++ [d]) i < B := by
  rw [gN_snoc]
  split
  · exact hd
  · exact h i
/-- The greater of two lengths, as it stands in trees. -/
theorem mx_eq (a b : Int) : (if false = true then min a b else max a b) = max a b := if_neg (by decide)
theorem req_app {ρ : Type} {t : Tr ρ} {a : List Int} {d : Int} {b : Nat} (h : a.length + 1 ≤ 1099511627776) (hb : (a.length + 1) * b ≤ 140737488355328) : (Tr.req (okApp (a.length + [d].length) b) t).run = t.run := q_of (app_t' h hb)
theorem req_len {ρ : Type} {t : Tr ρ} {a : List Int} {d : Int} : (Tr.req (decide (a.length + [d].length = (a ++ [d]).length)) t).run = t.run := q_of (decide_eq_true (by simp))

/-- Digits added, a carry kept. -/
theorem k_plus_same {x y : Int × List Int} (dx : ∀ i, 0 ≤ gN x.2 i ∧ gN x.2 i < B32) (dy : ∀ i, 0 ≤ gN y.2 i ∧ gN y.2 i < B32) (lx : x.2.length ≤ 4294967296) (ly : y.2.length ≤ 4294967296) (hs : x.1 = 1 ∨ x.1 = -1) :
    ∃ r, iterF (fun q_ => (T_number_integer_plus_l0 x y q_.1 q_.2.1 q_.2.2.1).run) FUEL ([], 0, 0, ()) = some ((r, ()), ()) ∧ WI B32 (max x.2.length y.2.length + 1) r (x.1 * (sm B32 (gN x.2) x.2.length + sm B32 (gN y.2) y.2.length)) := by
  have hB : 0 < B32 := by decide
  have hb1 : B32 = 4294967296 := rfl
  have key : ∃ r, iterF (fun q_ => (T_number_integer_plus_l0 x y q_.1 q_.2.1 q_.2.2.1).run) FUEL ([], 0, 0, ()) = some r ∧ ∃ q, r = ((q, ()), ()) ∧ WI B32 (max x.2.length y.2.length + 1) q (x.1 * (sm B32 (gN x.2) x.2.length + sm B32 (gN y.2) y.2.length)) := by
    refine iter_post (fun i st => ∃ (o : List Int) (c : Int), st = (o, c, (i : Int), ()) ∧ o.length = i ∧ (∀ j, 0 ≤ gN o j ∧ gN o j < B32) ∧ (0 ≤ c ∧ c ≤ 1) ∧ sm B32 (gN o) i + c * B32 ^ i = sm B32 (gN x.2) i + sm B32 (gN y.2) i ∧ (max x.2.length y.2.length < i → c = 0)) _ (max x.2.length y.2.length + 1) (by omega) ?_
      ⟨[], 0, rfl, rfl, fun j => by rw [gN_out (by simp)]; omega, by omega, by simp [sm], fun _ => rfl⟩
    rintro i st hi ⟨o, c, rfl, rfl, hd, hc, hv, hz⟩
    simp only [T_number_integer_plus_l0, mx_eq]
    have d1 := dx o.length
    have d2 := dy o.length
    have k1 := k_digit (l := x.2) (i := o.length) d1
    have k2 := k_digit (l := y.2) (i := o.length) d2
    have e1 : IntKind.i64.wrap ((o.length : Int) + 1) = ((o.length + 1 : Nat) : Int) := by rw [w64' (by omega) (by omega)]; omega
    have e2 : IntKind.u64.wrap (c + IntKind.u64.wrap (gN x.2 o.length + gN y.2 o.length)) = c + (gN x.2 o.length + gN y.2 o.length) := by
      rw [u64w (x := gN x.2 o.length + gN y.2 o.length) (by omega) (by omega), u64w (by omega) (by omega)]
    have e3 : IntKind.u32.wrap (c + (gN x.2 o.length + gN y.2 o.length)) = (c + (gN x.2 o.length + gN y.2 o.length)) % 4294967296 := u32w _
    have go : ∀ n : Int, n = c + (gN x.2 o.length + gN y.2 o.length) → ∃ (p : List Int) (c' : Int), (o ++ [n % 4294967296], n / 4294967296, ((o.length + 1 : Nat) : Int), ()) = (p, c', ((o.length + 1 : Nat) : Int), ()) ∧ p.length = o.length + 1 ∧ (∀ j, 0 ≤ gN p j ∧ gN p j < B32) ∧ (0 ≤ c' ∧ c' ≤ 1) ∧ sm B32 (gN p) (o.length + 1) + c' * B32 ^ (o.length + 1) = sm B32 (gN x.2) (o.length + 1) + sm B32 (gN y.2) (o.length + 1) ∧ (max x.2.length y.2.length < o.length + 1 → c' = 0) := by
      intro n hn
      refine ⟨_, _, rfl, by simp, dgs_snoc hd (by omega), by omega, ?_, fun h => ?_⟩
      · rw [sm_snoc, sm, sm, Int.pow_succ]
        have q3 : 4294967296 * (n / 4294967296) + n % 4294967296 = n := Int.mul_ediv_add_emod n _
        rw [hb1]
        rw [hb1] at hv
        generalize n / 4294967296 = q at *
        generalize n % 4294967296 = r at *
        grind
      · have z1 : gN x.2 o.length = 0 := gN_out (by omega)
        have z2 : gN y.2 o.length = 0 := gN_out (by omega)
        omega
    by_cases hlt : (o.length : Int) < max (x.2.length : Int) (y.2.length : Int)
    · left
      refine ⟨_, ?_, by omega, go _ rfl⟩
      refine (br_t (decide_eq_true hlt)).trans ?_
      refine (r_bs k1).trans ?_
      refine (r_bs k2).trans ?_
      dsimp only
      rw [e2, e3, fd32, e1]
      refine (q_of (by simp)).trans ?_
      refine (req_app (a := o) (b := 4) (by omega) (by omega)).trans ?_
      refine (q_of rfl).trans ?_
      refine req_len.trans ?_
      exact r_ret _
    · refine (fun h => h) ?_
      by_cases h0 : c = 0
      · right
        subst h0
        rw [Int.zero_mul, Int.add_zero] at hv
        have v1 := sm_up (B := B32) (f := gN x.2) (n := x.2.length) (m := o.length) (by omega) (fun i h _ => gN_out h)
        have v2 := sm_up (B := B32) (f := gN y.2) (n := y.2.length) (m := o.length) (by omega) (fun i h _ => gN_out h)
        obtain ⟨r, q1, q2⟩ := k_trimmed hB hd (.inl hs) (show o.length ≤ 1099511627776 by omega)
        refine ⟨_, ?_, r, rfl, ?_⟩
        · refine (br_f (decide_eq_false hlt)).trans ?_
          refine (br_f (nd rfl)).trans ?_
          refine (r_bs q1).trans ?_
          exact r_ret _
        · rw [hv, v1, v2] at q2
          exact q2.up (by omega)
      · left
        have hi2 : ¬ max x.2.length y.2.length < o.length := fun h => h0 (hz h)
        refine ⟨_, ?_, by omega, go _ rfl⟩
        refine (br_f (decide_eq_false hlt)).trans ?_
        refine (br_t (nd' h0)).trans ?_
        refine (r_bs k1).trans ?_
        refine (r_bs k2).trans ?_
        dsimp only
        rw [e2, e3, fd32, e1]
        refine (q_of (by simp)).trans ?_
        refine (req_app (a := o) (b := 4) (by omega) (by omega)).trans ?_
        refine (q_of rfl).trans ?_
        refine req_len.trans ?_
        exact r_ret _
  obtain ⟨r, h1, q, rfl, h2⟩ := key
  exact ⟨q, h1, h2⟩
theorem fd63 {x : Int} : x.fdiv ((2 : Int) ^ 63) = x / 9223372036854775808 := by
  rw [show (2 : Int) ^ 63 = 9223372036854775808 from by decide, Int.fdiv_eq_ediv_of_nonneg _ (by decide)]
/-- Digits taken away, a borrow kept. -/
theorem k_plus_less {x y : Int × List Int} (dx : ∀ i, 0 ≤ gN x.2 i ∧ gN x.2 i < B32) (dy : ∀ i, 0 ≤ gN y.2 i ∧ gN y.2 i < B32) (lx : x.2.length ≤ 4294967296) (ly : y.2.length ≤ 4294967296) (hs : x.1 = 1 ∨ x.1 = -1)
    (hle : sm B32 (gN y.2) y.2.length ≤ sm B32 (gN x.2) x.2.length) (hll : y.2.length ≤ x.2.length) :
    ∃ r, iterF (fun q_ => (T_number_integer_plus_l11 x y q_.1 q_.2.1 q_.2.2.1).run) FUEL ([], 0, 0, ()) = some ((r, ()), ()) ∧ WI B32 x.2.length r (x.1 * (sm B32 (gN x.2) x.2.length - sm B32 (gN y.2) y.2.length)) := by
  have hB : 0 < B32 := by decide
  have hb1 : B32 = 4294967296 := rfl
  have key : ∃ r, iterF (fun q_ => (T_number_integer_plus_l11 x y q_.1 q_.2.1 q_.2.2.1).run) FUEL ([], 0, 0, ()) = some r ∧ ∃ q, r = ((q, ()), ()) ∧ WI B32 x.2.length q (x.1 * (sm B32 (gN x.2) x.2.length - sm B32 (gN y.2) y.2.length)) := by
    refine iter_post (fun i st => ∃ (o : List Int) (c : Int), st = (o, c, (i : Int), ()) ∧ o.length = i ∧ (∀ j, 0 ≤ gN o j ∧ gN o j < B32) ∧ (0 ≤ c ∧ c ≤ 1) ∧ sm B32 (gN o) i - c * B32 ^ i = sm B32 (gN x.2) i - sm B32 (gN y.2) i) _ x.2.length (by omega) ?_
      ⟨[], 0, rfl, rfl, fun j => by rw [gN_out (by simp)]; omega, by omega, by simp [sm]⟩
    rintro i st hi ⟨o, c, rfl, rfl, hd, hc, hv⟩
    simp only [T_number_integer_plus_l11]
    have d1 := dx o.length
    have d2 := dy o.length
    have k1 := k_digit (l := x.2) (i := o.length) d1
    have k2 := k_digit (l := y.2) (i := o.length) d2
    by_cases hlt : (o.length : Int) < (x.2.length : Int)
    · left
      have e1 : IntKind.i64.wrap ((o.length : Int) + 1) = ((o.length + 1 : Nat) : Int) := by rw [w64' (by omega) (by omega)]; omega
      have e2 : IntKind.u32.wrap (IntKind.u64.wrap (IntKind.u64.wrap (gN x.2 o.length - gN y.2 o.length) - c)) = (gN x.2 o.length - gN y.2 o.length - c) % 4294967296 := by
        show ((gN x.2 o.length - gN y.2 o.length) % 18446744073709551616 - c) % 18446744073709551616 % 4294967296 = _
        omega
      have e3 : IntKind.u64.wrap (IntKind.u64.wrap (gN x.2 o.length - gN y.2 o.length) - c) / 9223372036854775808 = -((gN x.2 o.length - gN y.2 o.length - c) / 4294967296) := by
        show ((gN x.2 o.length - gN y.2 o.length) % 18446744073709551616 - c) % 18446744073709551616 / 9223372036854775808 = _
        omega
      have q3 : 4294967296 * ((gN x.2 o.length - gN y.2 o.length - c) / 4294967296) + (gN x.2 o.length - gN y.2 o.length - c) % 4294967296 = gN x.2 o.length - gN y.2 o.length - c := Int.mul_ediv_add_emod _ _
      refine ⟨_, ?_, by omega, o ++ [(gN x.2 o.length - gN y.2 o.length - c) % 4294967296], -((gN x.2 o.length - gN y.2 o.length - c) / 4294967296), rfl, by simp, dgs_snoc hd (by omega), by omega, ?_⟩
      · refine (br_t (decide_eq_true hlt)).trans ?_
        refine (r_bs k1).trans ?_
        refine (r_bs k2).trans ?_
        dsimp only
        rw [fd63, e3, e2, e1]
        refine (q_of (by simp)).trans ?_
        refine (req_app (a := o) (b := 4) (by omega) (by omega)).trans ?_
        refine (q_of rfl).trans ?_
        refine req_len.trans ?_
        exact r_ret _
      · rw [sm_snoc, sm, sm, Int.pow_succ]
        rw [hb1]
        rw [hb1] at hv
        generalize (gN x.2 o.length - gN y.2 o.length - c) / 4294967296 = q at *
        generalize (gN x.2 o.length - gN y.2 o.length - c) % 4294967296 = r at *
        grind
    · right
      have hl : o.length = x.2.length := by omega
      have v2 := sm_up (B := B32) (f := gN y.2) (n := y.2.length) (m := o.length) (by omega) (fun i h _ => gN_out h)
      have t1 := sm_lt hB (f := gN o) (n := o.length) (fun i _ => (hd i).2)
      have t2 := pw hB o.length
      rw [v2] at hv
      rw [hl] at hv t1 t2
      have hc0 : c = 0 := by
        rcases Int.lt_or_le c 1 with h | h
        · omega
        · have : c = 1 := by omega
          subst this
          omega
      subst hc0
      obtain ⟨r, q1, q2⟩ := k_trimmed hB hd (.inl hs) (show o.length ≤ 1099511627776 by omega)
      refine ⟨_, ?_, r, rfl, ?_⟩
      · refine (br_f (decide_eq_false hlt)).trans ?_
        refine (r_bs q1).trans ?_
        exact r_ret _
      · rw [hl] at q2
        rw [show sm B32 (gN o) x.2.length = sm B32 (gN x.2) x.2.length - sm B32 (gN y.2) y.2.length by omega] at q2
        exact q2
  obtain ⟨r, h1, q, rfl, h2⟩ := key
  exact ⟨q, h1, h2⟩
theorem sm_len {B : Int} (hB : 0 < B) {a b : List Int} (ha : Dg B a) (hb : Dg B b) (h : ¬ sm B (gN a) a.length < sm B (gN b) b.length) : b.length ≤ a.length := by
  rcases Nat.lt_or_ge a.length b.length with c | c
  · exact absurd (cmp_len hB (fun i => (ha.dgs i).2) (fun i => (hb.dgs i).1) c (hb.top (by omega))) h
  · exact c
theorem plus_l7_eq (x y : Int × List Int) (a : List Int) (b c : Int) : T_number_integer_plus_l7 x y a b c = T_number_integer_plus_l11 y x a b c := by kernel_rfl
theorem k_plus {m n : Nat} {x y : Int × List Int} {u v : Int} (hx : WI B32 m x u) (hy : WI B32 n y v) (hm : m ≤ 4294967296) (hn : n ≤ 4294967296) :
    ∃ r, number_integer_plus x y = some ((r, ()), ()) ∧ WI B32 (max m n + 1) r (u + v) := by
  have hB : 0 < B32 := by decide
  have lx := hx.len
  have ly := hy.len
  simp only [number_integer_plus, T_number_integer_plus]
  by_cases h1 : x.1 = 0
  · refine ⟨y, (br_t (decide_eq_true h1)).trans (r_ret _), ?_⟩
    rw [(hx.eq0 hB).1 h1, Int.zero_add]; exact hy.up (by omega)
  by_cases h2 : y.1 = 0
  · refine ⟨x, (br_f (decide_eq_false h1)).trans ((br_t (decide_eq_true h2)).trans (r_ret _)), ?_⟩
    rw [(hy.eq0 hB).1 h2, Int.add_zero]; exact hx.up (by omega)
  have s1 : x.1 = 1 ∨ x.1 = -1 := by
    rcases hx.can with ⟨h, _⟩ | ⟨h, _⟩
    · exact absurd h h1
    · exact h
  have s2 : y.1 = 1 ∨ y.1 = -1 := by
    rcases hy.can with ⟨h, _⟩ | ⟨h, _⟩
    · exact absurd h h2
    · exact h
  by_cases h3 : x.1 = y.1
  · obtain ⟨r, q1, q2⟩ := k_plus_same hx.dgs hy.dgs (by omega) (by omega) s1
    refine ⟨r, (br_f (decide_eq_false h1)).trans ((br_f (decide_eq_false h2)).trans ((br_t (decide_eq_true h3)).trans ((q_of rfl).trans ((r_iter _ _ _).trans ?_)))), ?_⟩
    · exact q1
    have e : x.1 * (sm B32 (gN x.2) x.2.length + sm B32 (gN y.2) y.2.length) = u + v := by
      rw [hx.val, hy.val, ← h3]; grind
    rw [e] at q2
    exact q2.up (by omega)
  · obtain ⟨c, k, kc⟩ := k_compareDigits hx.dg hy.dg (by omega) (by omega)
    have h4 : y.1 = -x.1 := by omega
    by_cases hc : c < 0
    · have hlt := kc.1 hc
      have hle := sm_len hB hy.dg hx.dg (by omega)
      obtain ⟨r, q1, q2⟩ := k_plus_less hy.dgs hx.dgs (by omega) (by omega) s2 (by omega) hle
      refine ⟨r, (br_f (decide_eq_false h1)).trans ((br_f (decide_eq_false h2)).trans ((br_f (decide_eq_false h3)).trans ((r_bs k).trans ((br_t (decide_eq_true hc)).trans ((q_of rfl).trans ((r_iter _ _ _).trans ?_)))))), ?_⟩
      · simp only [plus_l7_eq]
        exact q1
      · have e : y.1 * (sm B32 (gN y.2) y.2.length - sm B32 (gN x.2) x.2.length) = u + v := by
          rw [hx.val, hy.val, h4]; grind
        rw [e] at q2
        exact q2.up (by omega)
    · have hge : ¬ sm B32 (gN x.2) x.2.length < sm B32 (gN y.2) y.2.length := fun h => hc (kc.2 h)
      have hle := sm_len hB hx.dg hy.dg hge
      obtain ⟨r, q1, q2⟩ := k_plus_less hx.dgs hy.dgs (by omega) (by omega) s1 (by omega) hle
      refine ⟨r, (br_f (decide_eq_false h1)).trans ((br_f (decide_eq_false h2)).trans ((br_f (decide_eq_false h3)).trans ((r_bs k).trans ((br_f (decide_eq_false hc)).trans ((q_of rfl).trans ((r_iter _ _ _).trans ?_)))))), ?_⟩
      · exact q1
      have e : x.1 * (sm B32 (gN x.2) x.2.length - sm B32 (gN y.2) y.2.length) = u + v := by
        rw [hx.val, hy.val, h4]; grind
      rw [e] at q2
      exact q2.up (by omega)
theorem k_minus {n : Nat} {x : Int × List Int} {u : Int} (hx : WI B32 n x u) : ∃ r, number_integer_minus x = some ((r, ()), ()) ∧ WI B32 n r (-u) := by
  simp only [number_integer_minus, T_number_integer_minus]
  refine ⟨_, r_ret _, ?_⟩
  have : IntKind.i64.wrap (0 - x.1) = -x.1 := by
    have hs : x.1 = 0 ∨ x.1 = 1 ∨ x.1 = -1 := by rcases hx.can with ⟨h, _⟩ | ⟨h, _⟩ <;> omega
    rw [w64' (by omega) (by omega)]; omega
  rw [this]
  exact hx.neg
theorem one_digit {B d : Int} (hd : 0 < d ∧ d < B) {s : Int} (hs : s = 1 ∨ s = -1) : WI B 1 (s, [d]) (s * d) := by
  have g0 : gN [d] 0 = d := rfl
  refine ⟨fun i => ?_, by simp, by show _ = s * sm B (gN [d]) 1; simp only [sm, g0]; simp, .inr ⟨hs, by simp, by show gN [d] 0 ≠ 0; rw [g0]; omega⟩⟩
  show 0 ≤ gN [d] i ∧ gN [d] i < B
  rcases Nat.eq_zero_or_pos i with h | h
  · subst h; rw [g0]; omega
  · rw [gN_out (by simp; omega)]; omega
theorem two_digits {B d e : Int} (hd : 0 ≤ d ∧ d < B) (he : 0 < e ∧ e < B) {s : Int} (hs : s = 1 ∨ s = -1) : WI B 2 (s, [d, e]) (s * (d + e * B)) := by
  have g0 : gN [d, e] 0 = d := rfl
  have g1 : gN [d, e] 1 = e := rfl
  have p1 : B ^ 1 = B := by have := Int.pow_succ B 0; simpa using this
  refine ⟨fun i => ?_, by simp, by show _ = s * sm B (gN [d, e]) 2; simp only [sm, g0, g1]; simp [p1], .inr ⟨hs, by simp, by show gN [d, e] 1 ≠ 0; rw [g1]; omega⟩⟩
  show 0 ≤ gN [d, e] i ∧ gN [d, e] i < B
  match i with
  | 0 => rw [g0]; omega
  | 1 => rw [g1]; omega
  | k + 2 => rw [gN_out (by simp)]; omega
theorem k_integerOf {n : Int} (h1 : -9223372036854775807 ≤ n) (h2 : n ≤ 9223372036854775807) : ∃ r, number_integerOf n = some ((r, ()), ()) ∧ WI B32 2 r n := by
  have hB : 0 < B32 := by decide
  have hb1 : B32 = 4294967296 := rfl
  simp only [number_integerOf, T_number_integerOf]
  by_cases h0 : n = 0
  · subst h0
    exact ⟨(0, []), (br_t rfl).trans (r_ret _), WI.zero hB⟩
  have em : IntKind.u64.wrap (if false = true then min n (IntKind.i64.wrap (0 - n)) else max n (IntKind.i64.wrap (0 - n))) = max n (-n) := by
    rw [max_wrap h1 h2, u64w (by omega) (by omega)]
  have hm : 0 < max n (-n) ∧ max n (-n) ≤ 9223372036854775807 := by omega
  by_cases hn : n < 0
  · have en : max n (-n) = -n := by omega
    simp only [em, fd32, u32w]
    by_cases hq : max n (-n) / 4294967296 = 0
    · refine ⟨(-1, [max n (-n) % 4294967296]), (br_f (decide_eq_false h0)).trans ((br_t (decide_eq_true hn)).trans ((br_t (nd' (by omega))).trans ((q_of rfl).trans ((q_of rfl).trans ((br_f (nd hq)).trans (r_ret _)))))), ?_⟩
      have e : n = -1 * (max n (-n) % 4294967296) := by omega
      have := one_digit (B := B32) (d := max n (-n) % 4294967296) (by omega) (s := -1) (.inr rfl)
      rw [← e] at this
      exact this.up (by omega)
    · refine ⟨(-1, [max n (-n) % 4294967296, max n (-n) / 4294967296 % 4294967296]), (br_f (decide_eq_false h0)).trans ((br_t (decide_eq_true hn)).trans ((br_t (nd' (by omega))).trans ((q_of rfl).trans ((q_of rfl).trans ((br_t (nd' hq)).trans ((q_of rfl).trans ((q_of rfl).trans ((q_of rfl).trans ((br_f (nd (by omega))).trans (r_ret _)))))))))), ?_⟩
      have e : n = -1 * (max n (-n) % 4294967296 + max n (-n) / 4294967296 % 4294967296 * B32) := by rw [hb1]; omega
      have := two_digits (B := B32) (d := max n (-n) % 4294967296) (e := max n (-n) / 4294967296 % 4294967296) (by omega) (by omega) (s := -1) (.inr rfl)
      rw [← e] at this
      exact this
  · have en : max n (-n) = n := by omega
    simp only [em, fd32, u32w]
    by_cases hq : max n (-n) / 4294967296 = 0
    · refine ⟨(1, [max n (-n) % 4294967296]), (br_f (decide_eq_false h0)).trans ((br_f (decide_eq_false hn)).trans ((br_t (nd' (by omega))).trans ((q_of rfl).trans ((q_of rfl).trans ((br_f (nd hq)).trans (r_ret _)))))), ?_⟩
      have e : n = 1 * (max n (-n) % 4294967296) := by omega
      have := one_digit (B := B32) (d := max n (-n) % 4294967296) (by omega) (s := 1) (.inl rfl)
      rw [← e] at this
      exact this.up (by omega)
    · refine ⟨(1, [max n (-n) % 4294967296, max n (-n) / 4294967296 % 4294967296]), (br_f (decide_eq_false h0)).trans ((br_f (decide_eq_false hn)).trans ((br_t (nd' (by omega))).trans ((q_of rfl).trans ((q_of rfl).trans ((br_t (nd' hq)).trans ((q_of rfl).trans ((q_of rfl).trans ((q_of rfl).trans ((br_f (nd (by omega))).trans (r_ret _)))))))))), ?_⟩
      have e : n = 1 * (max n (-n) % 4294967296 + max n (-n) / 4294967296 % 4294967296 * B32) := by rw [hb1]; omega
      have := two_digits (B := B32) (d := max n (-n) % 4294967296) (e := max n (-n) / 4294967296 % 4294967296) (by omega) (by omega) (s := 1) (.inl rfl)
      rw [← e] at this
      exact this
end Go.Ab
