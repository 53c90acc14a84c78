/- Numbers of any size: what the program's times and trimmed compute. -/
import Derived.Test.YtgncmamcgplcgaaF4
import Derived.Test.YtgncmamcgplcgaaW1
namespace Go.Ab
open Go
set_option maxRecDepth 1000000
set_option maxHeartbeats 1000000
set_option linter.unusedVariables false
set_option linter.unusedSimpArgs false

theorem u64w {x : Int} (h : 0 ≤ x) (h2 : x < 18446744073709551616) : IntKind.u64.wrap x = x := by
  show x % 18446744073709551616 = x
  omega
theorem u32w (x : Int) : IntKind.u32.wrap x = x % 4294967296 := rfl
theorem fd32 {x : Int} : x.fdiv ((2 : Int) ^ 32) = x / 4294967296 := by
  rw [show (2 : Int) ^ 32 = 4294967296 from by decide, Int.fdiv_eq_ediv_of_nonneg _ (by decide)]
theorem part_take (l : List Int) (n : Nat) : part l 0 (n : Int) = l.take n := by simp [part]
theorem take_take' (l : List Int) {m n : Nat} (h : m ≤ n) : (l.take n).take m = l.take m := by rw [List.take_take, Nat.min_eq_left h]

theorem k_trimmed {B s : Int} {l : List Int} (hB : 0 < B) (hd : ∀ i, 0 ≤ gN l i ∧ gN l i < B) (hs : (s = 1 ∨ s = -1) ∨ sm B (gN l) l.length = 0) (hl : l.length ≤ 1099511627776) :
    ∃ r, number_trimmed s l = some ((r, ()), ()) ∧ WI B l.length r (s * sm B (gN l) l.length) := by
  have key : ∃ r, iterF (fun y => (T_number_trimmed_l0 s y.1).run) FUEL (l, ()) = some r ∧ ∃ q, r = ((q, ()), ()) ∧ WI B l.length q (s * sm B (gN l) l.length) := by
    refine iter_post (fun i x => i ≤ l.length ∧ x = (l.take (l.length - i), ()) ∧ ∀ j, l.length - i ≤ j → gN l j = 0) _ l.length (by omega) ?_ ⟨Nat.zero_le _, by rw [Nat.sub_zero, List.take_length], fun j hj => gN_out (by omega)⟩
    rintro i x hi ⟨_, rfl, hz⟩
    have hlen : (l.take (l.length - i)).length = l.length - i := by simp
    simp only [T_number_trimmed_l0, hlen]
    by_cases h0 : i < l.length
    · have e1 : IntKind.i64.wrap (((l.length - i : Nat) : Int) - 1) = ((l.length - (i + 1) : Nat) : Int) := by rw [w64' (by omega) (by omega)]; omega
      have e2 : gi (l.take (l.length - i)) ((l.length - (i + 1) : Nat) : Int) = gN l (l.length - i - 1) := by
        show gN (l.take (l.length - i)) (l.length - (i + 1)) = _
        rw [gN_take, if_pos (by omega)]; rfl
      rw [e1, e2, part_take, take_take' l (show l.length - (i + 1) ≤ l.length - i by omega)]
      by_cases hc : gN l (l.length - i - 1) = 0
      · left
        refine ⟨_, (br_t (decide_eq_true (by omega))).trans ((q_of (inB_t' (by omega) (by omega))).trans ((br_t (decide_eq_true hc)).trans ((q_of (bnd_t' (by omega) (by omega) (by omega))).trans (r_ret _)))), h0, by omega, rfl, fun j hj => ?_⟩
        by_cases e : j = l.length - i - 1
        · rw [e]; exact hc
        · exact hz j (by omega)
      · right
        refine ⟨_, (br_t (decide_eq_true (by omega))).trans ((q_of (inB_t' (by omega) (by omega))).trans ((br_f (decide_eq_false hc)).trans ((br_f (decide_eq_false (by omega))).trans (r_ret _)))), _, rfl, ?_⟩
        exact WI.cut hB hd hs (by omega) hz (by omega) hc
    · right
      have : i = l.length := by omega
      subst this
      refine ⟨_, (br_f (decide_eq_false (by omega))).trans ((br_t (decide_eq_true (by omega))).trans (r_ret _)), _, rfl, ?_⟩
      exact WI.cut0 hB (fun j hj => hz j (by omega))
  obtain ⟨r, h1, q, rfl, h2⟩ := key
  refine ⟨q, ?_, h2⟩
  simp only [number_trimmed, T_number_trimmed, r_iter]
  exact h1

/-- Products of signs and of digits. -/
theorem mul_hs {B : Int} {m n : Nat} {x y : Int × List Int} {u v : Int} {o : List Int} {L : Nat} (hx : WI B m x u) (hy : WI B n y v) (ho : OI B (gN x.2) (gN y.2) y.2.length L x.2.length o) :
    ((x.1 * y.1 = 1 ∨ x.1 * y.1 = -1) ∨ sm B (gN o) o.length = 0) ∧ x.1 * y.1 * sm B (gN o) o.length = u * v := by
  have hv := ho.val
  rw [ho.len, hx.val, hy.val]
  refine ⟨?_, by rw [hv]; grind⟩
  rcases hx.can with ⟨h1, h2⟩ | ⟨h1, h2⟩
  · right; rw [hv, h2]; show 0 * _ = (0 : Int); omega
  · rcases hy.can with ⟨h3, h4⟩ | ⟨h3, h4⟩
    · right; rw [hv, h4]; show _ * 0 = (0 : Int); omega
    · left
      rcases h1 with h1 | h1 <;> rcases h3 with h3 | h3 <;> rw [h1, h3] <;> simp
abbrev B32 : Int := 4294967296
theorem k_times {m n : Nat} {x y : Int × List Int} {u v : Int} (hx : WI B32 m x u) (hy : WI B32 n y v) (hm : m ≤ 1073741824) (hn : n ≤ 1073741824) :
    ∃ r, number_integer_times x y = some ((r, ()), ()) ∧ WI B32 (m + n) r (u * v) := by
  have hB : 0 < B32 := by decide
  have hb1 : B32 = 4294967296 := rfl
  have hb2 : B32 * B32 = 18446744073709551616 := by decide
  have lx := hx.len
  have ly := hy.len
  have eL : (IntKind.i64.wrap ((x.2.length : Int) + (y.2.length : Int))) = ((x.2.length + y.2.length : Nat) : Int) := by rw [w64' (by omega) (by omega)]; omega
  have key : ∃ r, iterF (fun q_ => (T_number_integer_times_l0 x y q_.1 q_.2.1).run) FUEL (0, List.replicate (x.2.length + y.2.length) 0, ()) = some r ∧ ∃ q, r = ((q, ()), ()) ∧ WI B32 (m + n) q (u * v) := by
    refine iter_post (fun i st => i ≤ x.2.length ∧ ∃ o, st = ((i : Int), o, ()) ∧ OI B32 (gN x.2) (gN y.2) y.2.length (x.2.length + y.2.length) i o) _ x.2.length (by omega) ?_ ⟨Nat.zero_le _, _, rfl, OI.first hB⟩
    rintro i st hi ⟨_, o, rfl, ho⟩
    simp only [T_number_integer_times_l0]
    by_cases h0 : i < x.2.length
    · left
      have inner : ∃ r, iterF (fun q_ => (T_number_integer_times_l1 x y (i : Int) q_.1 q_.2.1 q_.2.2.1).run) FUEL (0, 0, o, ()) = some r ∧ ∃ o', r = .inl ((i : Int) + 1, o', ()) ∧ OI B32 (gN x.2) (gN y.2) y.2.length (x.2.length + y.2.length) (i + 1) o' := by
        refine iter_post (fun k st => k ≤ y.2.length ∧ ∃ c o, st = (c, (k : Int), o, ()) ∧ MI B32 (gN x.2) (gN y.2) y.2.length (x.2.length + y.2.length) i k c o) _ y.2.length (by omega) ?_ ⟨Nat.zero_le _, 0, o, rfl, ho.row hB⟩
        rintro k st hk ⟨_, c, p, rfl, hp⟩
        simp only [T_number_integer_times_l1, eL, Int.toNat_natCast]
        by_cases h1 : k < y.2.length
        · left
          have e1 : IntKind.i64.wrap ((i : Int) + (k : Int)) = ((i + k : Nat) : Int) := by rw [w64' (by omega) (by omega)]; omega
          have e2 : IntKind.i64.wrap ((k : Int) + 1) = ((k + 1 : Nat) : Int) := by rw [w64' (by omega) (by omega)]; omega
          have dx := hx.dgs i
          have dy := hy.dgs k
          have dp := hp.dgs (i + k)
          have dc := hp.car
          have pm := mul_bd (a := gN x.2 i) (b := gN y.2 k) (m := 4294967295) (n := 4294967295) (by omega) (by omega) (by omega) (by omega)
          have pn : 0 ≤ gN x.2 i * gN y.2 k := Int.mul_nonneg dx.1 dy.1
          obtain ⟨⟨n0, n1⟩, hst⟩ := hp.step hB h1 (by omega) dx dy rfl
          simp only [gN] at dx dy dp pm pn n0 n1
          rw [e1, e2, u64w (x := gi x.2 (i : Int)) dx.1 (by omega), u64w (x := gi y.2 (k : Int)) dy.1 (by omega), u64w (x := gi x.2 (i : Int) * gi y.2 (k : Int)) pn (by omega), u64w (x := gi p ((i + k : Nat) : Int)) dp.1 (by omega),
            u64w (x := gi x.2 (i : Int) * gi y.2 (k : Int) + gi p ((i + k : Nat) : Int)) (by omega) (by omega),
            show c + (gi x.2 (i : Int) * gi y.2 (k : Int) + gi p ((i + k : Nat) : Int)) = c + gi x.2 (i : Int) * gi y.2 (k : Int) + gi p ((i + k : Nat) : Int) by omega,
            u64w (x := c + gi x.2 (i : Int) * gi y.2 (k : Int) + gi p ((i + k : Nat) : Int)) n0 (by rw [hb2] at n1; exact n1), fd32, u32w]
          refine ⟨_, (br_t (decide_eq_true (by omega))).trans ((q_of (inB_t' (by omega) (by omega))).trans ((q_of (inB_t' (by omega) (by omega))).trans ((q_of (inB_t' (by omega) (by omega))).trans ((q_of rfl).trans (r_ret _))))), h1, h1, _, _, rfl, hst⟩
        · right
          have : k = y.2.length := by omega
          subst this
          have e1 : IntKind.i64.wrap ((i : Int) + (y.2.length : Int)) = ((i + y.2.length : Nat) : Int) := by rw [w64' (by omega) (by omega)]; omega
          have e2 : IntKind.i64.wrap ((i : Int) + 1) = (i : Int) + 1 := w64' (by omega) (by omega)
          have dc := hp.car
          have e3 : IntKind.u32.wrap c = c := by rw [u32w]; exact Int.emod_eq_of_lt dc.1 dc.2
          rw [e1, e2, e3]
          refine ⟨_, (br_f (decide_eq_false (by omega))).trans ((q_of (inB_t' (by omega) (by omega))).trans (r_ret _)), _, rfl, ?_⟩
          exact hp.last (by omega)
      obtain ⟨r, q1, o', rfl, q2⟩ := inner
      refine ⟨_, (br_t (decide_eq_true (by omega))).trans ((q_of (inB_t' (by omega) (by omega))).trans ((r_iter _ _ _).trans q1)), h0, by omega, o', rfl, q2⟩
    · right
      have : i = x.2.length := by omega
      subst this
      obtain ⟨hs, hv⟩ := mul_hs hx hy ho
      have hlen := ho.len
      have et : List.take (IntKind.i64.wrap ((x.2.length : Int) + (y.2.length : Int))).toNat o = o := by rw [eL, Int.toNat_natCast, ← hlen, List.take_length]
      have es : IntKind.i64.wrap (x.1 * y.1) = x.1 * y.1 := by
        rcases hx.can with ⟨h1, _⟩ | ⟨h1, _⟩ <;> rcases hy.can with ⟨h2, _⟩ | ⟨h2, _⟩
        · rw [h1, h2]; rfl
        · rw [h1, Int.zero_mul]; rfl
        · rw [h2, Int.mul_zero]; rfl
        · rcases h1 with h1 | h1 <;> rcases h2 with h2 | h2 <;> rw [h1, h2] <;> rfl
      rw [et, es]
      obtain ⟨r, q1, q2⟩ := k_trimmed hB ho.dgs hs (by omega)
      rw [hv] at q2
      refine ⟨_, (br_f (decide_eq_false (by omega))).trans ((r_bs q1).trans (r_ret _)), r, rfl, q2.up (by omega)⟩
  obtain ⟨r, h1, q, rfl, h2⟩ := key
  refine ⟨q, ?_, h2⟩
  simp only [number_integer_times, T_number_integer_times, eL, Int.toNat_natCast]
  refine (q_of (decide_eq_true ⟨rfl, by omega, by omega, by omega⟩)).trans ?_
  rw [r_iter]
  exact h1
end Go.Ab
