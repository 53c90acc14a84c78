/- Numbers of any size: what the reference's cut, mul, plus and wideOf compute. -/
import Derived.Test.YtgncmamcgplcgaaW3
namespace Go.Ab
open Go
set_option maxRecDepth 1000000
set_option maxHeartbeats 1000000
set_option linter.unusedVariables false
set_option linter.unusedSimpArgs false

abbrev B4 : Int := 10000
theorem tm4 {n : Int} (h : 0 ≤ n) : n.tmod 10000 = n % 10000 := Int.tmod_eq_emod_of_nonneg h
theorem td4 {n : Int} (h : 0 ≤ n) : n.tdiv 10000 = n / 10000 := Int.tdiv_eq_ediv_of_nonneg h
theorem k_Mod4 (n : Int) (h1 : -1000000 ≤ n) (h2 : n ≤ 1000000) : base_Mod n 10000 = some ((n % 10000, ()), ()) := by
  simp only [base_Mod, T_base_Mod]
  refine (q_of rfl).trans ?_
  by_cases h : 0 ≤ n
  · rw [tm4 h]
    exact (br_f (decide_eq_false (by omega))).trans (r_ret _)
  · have e : n.tmod 10000 = -((-n) % 10000) := by
      rw [← tm4 (n := -n) (by omega), Int.neg_tmod, Int.neg_neg]
    rw [e]
    by_cases hz : -((-n) % 10000) < 0
    · refine (br_t (decide_eq_true hz)).trans ((r_ret _).trans ?_)
      rw [w64' (by omega) (by omega), show -((-n) % 10000) + 10000 = n % 10000 by omega]
    · refine (br_f (decide_eq_false hz)).trans ((r_ret _).trans ?_)
      rw [show -((-n) % 10000) = n % 10000 by omega]

theorem k_cut {B s : Int} {l : List Int} (hB : 0 < B) (hd : ∀ i, 0 ≤ gN l i ∧ gN l i < B) (hs : (s = 1 ∨ s = -1) ∨ sm B (gN l) l.length = 0) (hl : l.length ≤ 1099511627776) :
    ∃ r, ref01xcut s l = some ((r, ()), ()) ∧ WI B l.length r (s * sm B (gN l) l.length) := by
  have key : ∃ r, iterF (fun y => (T_ref01xcut_l0 s y.1).run) FUEL (l, ()) = some r ∧ ∃ q, r = ((q, ()), ()) ∧ WI B l.length q (s * sm B (gN l) l.length) := by
    refine iter_post (fun i x => i ≤ l.length ∧ x = (l.take (l.length - i), ()) ∧ ∀ j, l.length - i ≤ j → gN l j = 0) _ l.length (by omega) ?_ ⟨Nat.zero_le _, by rw [Nat.sub_zero, List.take_length], fun j hj => gN_out (by omega)⟩
    rintro i x hi ⟨_, rfl, hz⟩
    have hlen : (l.take (l.length - i)).length = l.length - i := by simp
    simp only [T_ref01xcut_l0, hlen]
    by_cases h0 : i < l.length
    · have e1 : IntKind.i64.wrap (((l.length - i : Nat) : Int) - 1) = ((l.length - (i + 1) : Nat) : Int) := by rw [w64' (by omega) (by omega)]; omega
      have e2 : gi (l.take (l.length - i)) ((l.length - (i + 1) : Nat) : Int) = gN l (l.length - i - 1) := by
        show gN (l.take (l.length - i)) (l.length - (i + 1)) = _
        rw [gN_take, if_pos (by omega)]; rfl
      rw [e1, e2, part_take, take_take' l (show l.length - (i + 1) ≤ l.length - i by omega)]
      by_cases hc : gN l (l.length - i - 1) = 0
      · left
        refine ⟨_, (br_t (decide_eq_true (by omega))).trans ((q_of (inB_t' (by omega) (by omega))).trans ((br_t (decide_eq_true hc)).trans ((q_of (bnd_t' (by omega) (by omega) (by omega))).trans (r_ret _)))), h0, by omega, rfl, fun j hj => ?_⟩
        by_cases e : j = l.length - i - 1
        · rw [e]; exact hc
        · exact hz j (by omega)
      · right
        refine ⟨_, (br_t (decide_eq_true (by omega))).trans ((q_of (inB_t' (by omega) (by omega))).trans ((br_f (decide_eq_false hc)).trans ((br_f (decide_eq_false (by omega))).trans (r_ret _)))), _, rfl, ?_⟩
        exact WI.cut hB hd hs (by omega) hz (by omega) hc
    · right
      have : i = l.length := by omega
      subst this
      rw [show l.take (l.length - l.length) = [] by simp]
      refine ⟨_, (br_f (decide_eq_false (by omega))).trans ((br_t (decide_eq_true (by omega))).trans (r_ret _)), _, rfl, ?_⟩
      exact WI.cut0 hB (fun j hj => hz j (by omega))
  obtain ⟨r, h1, q, rfl, h2⟩ := key
  refine ⟨q, ?_, h2⟩
  simp only [ref01xcut, T_ref01xcut, r_iter]
  exact h1

theorem k_mul {m n : Nat} {x y : Int × List Int} {u v : Int} (hx : WI B4 m x u) (hy : WI B4 n y v) (hm : m ≤ 1073741824) (hn : n ≤ 1073741824) :
    ∃ r, ref01xmul x y = some ((r, ()), ()) ∧ WI B4 (m + n + 1) r (u * v) := by
  have hB : 0 < B4 := by decide
  have hb1 : B4 = 10000 := rfl
  have hb2 : B4 * B4 = 100000000 := by decide
  have lx := hx.len
  have ly := hy.len
  have eL : IntKind.i64.wrap (IntKind.i64.wrap ((x.2.length : Int) + (y.2.length : Int)) + 1) = ((x.2.length + y.2.length + 1 : Nat) : Int) := by rw [w64' (x := (x.2.length : Int) + (y.2.length : Int)) (by omega) (by omega), w64' (by omega) (by omega)]; omega
  have key : ∃ r, iterF (fun q_ => (T_ref01xmul_l0 x y q_.1 q_.2.1).run) FUEL (0, List.replicate (x.2.length + y.2.length + 1) 0, ()) = some r ∧ ∃ q, r = ((q, ()), ()) ∧ WI B4 (m + n + 1) q (u * v) := by
    refine iter_post (fun i st => i ≤ x.2.length ∧ ∃ o, st = ((i : Int), o, ()) ∧ OI B4 (gN x.2) (gN y.2) y.2.length (x.2.length + y.2.length + 1) i o) _ x.2.length (by omega) ?_ ⟨Nat.zero_le _, _, rfl, OI.first hB⟩
    rintro i st hi ⟨_, o, rfl, ho⟩
    simp only [T_ref01xmul_l0]
    by_cases h0 : i < x.2.length
    · left
      have e9 : IntKind.i64.wrap ((i : Int) + 1) = (i : Int) + 1 := w64' (by omega) (by omega)
      have inner : ∃ r, iterF (fun q_ => (T_ref01xmul_l1 x y (i : Int) q_.1 q_.2.1 q_.2.2.1).run) FUEL (0, 0, o, ()) = some r ∧ ∃ o', r = .inl ((i : Int) + 1, o', ()) ∧ OI B4 (gN x.2) (gN y.2) y.2.length (x.2.length + y.2.length + 1) (i + 1) o' := by
        refine iter_post (fun k st => (k ≤ y.2.length ∧ ∃ c o, st = (c, (k : Int), o, ()) ∧ MI B4 (gN x.2) (gN y.2) y.2.length (x.2.length + y.2.length + 1) i k c o) ∨ (k = y.2.length + 1 ∧ ∃ o, st = (0, (k : Int), o, ()) ∧ OI B4 (gN x.2) (gN y.2) y.2.length (x.2.length + y.2.length + 1) (i + 1) o)) _ (y.2.length + 1) (by omega) ?_ (.inl ⟨Nat.zero_le _, 0, o, rfl, ho.row hB⟩)
        rintro k st hk (⟨hk2, c, p, rfl, hp⟩ | ⟨rfl, p, rfl, hp⟩)
        · simp only [T_ref01xmul_l1, eL, Int.toNat_natCast]
          have e1 : IntKind.i64.wrap ((i : Int) + (k : Int)) = ((i + k : Nat) : Int) := by rw [w64' (by omega) (by omega)]; omega
          have e2 : IntKind.i64.wrap ((k : Int) + 1) = ((k + 1 : Nat) : Int) := by rw [w64' (by omega) (by omega)]; omega
          have dp := hp.dgs (i + k)
          have dc := hp.car
          by_cases h1 : k < y.2.length
          · left
            have dx := hx.dgs i
            have dy := hy.dgs k
            have pm := mul_bd (a := gN x.2 i) (b := gN y.2 k) (m := 9999) (n := 9999) (by omega) (by omega) (by omega) (by omega)
            have pn : 0 ≤ gN x.2 i * gN y.2 k := Int.mul_nonneg dx.1 dy.1
            obtain ⟨⟨n0, n1⟩, hst⟩ := hp.step hB h1 (by omega) dx dy rfl
            simp only [gN] at dx dy dp pm pn n0 n1
            rw [e1, e2, w64' (x := gi p ((i + k : Nat) : Int) + c) (by omega) (by omega), w64' (x := gi x.2 (i : Int) * gi y.2 (k : Int)) (by omega) (by omega),
              show gi p ((i + k : Nat) : Int) + c + gi x.2 (i : Int) * gi y.2 (k : Int) = c + gi x.2 (i : Int) * gi y.2 (k : Int) + gi p ((i + k : Nat) : Int) by omega,
              w64' (x := c + gi x.2 (i : Int) * gi y.2 (k : Int) + gi p ((i + k : Nat) : Int)) (by omega) (by omega), tm4 n0, td4 n0, w64' (x := (c + gi x.2 (i : Int) * gi y.2 (k : Int) + gi p ((i + k : Nat) : Int)) / 10000) (by omega) (by omega)]
            refine ⟨_, ?_, by omega, .inl ⟨h1, _, _, rfl, hst⟩⟩
            refine (br_t (decide_eq_true (by omega))).trans ?_
            refine (q_of (inB_t' (by omega) (by omega))).trans ?_
            refine (br_t (decide_eq_true (by omega))).trans ?_
            refine (q_of (inB_t' (by omega) (by omega))).trans ?_
            refine (q_of (inB_t' (by omega) (by omega))).trans ?_
            refine (q_of rfl).trans ?_
            refine (q_of rfl).trans ?_
            refine (q_of (inB_t' (by omega) (by omega))).trans ?_
            exact r_ret _
          · have : k = y.2.length := by omega
            subst this
            by_cases hc : 0 < c
            · left
              have z := hp.zer (i + y.2.length) (by omega)
              have el := hp.last (by omega)
              simp only [gN] at z
              rw [e1, e2, z, Int.zero_add, w64' (x := c) (by omega) (by omega), tm4 dc.1, td4 dc.1, show c / 10000 = 0 by omega, show c % 10000 = c by omega]
              refine ⟨_, ?_, by omega, .inr ⟨rfl, _, rfl, el⟩⟩
              refine (br_f (decide_eq_false (by omega))).trans ?_
              refine (br_t (decide_eq_true hc)).trans ?_
              refine (q_of (inB_t' (by omega) (by omega))).trans ?_
              refine (br_f (decide_eq_false (by omega))).trans ?_
              refine (q_of rfl).trans ?_
              refine (q_of rfl).trans ?_
              refine (q_of (inB_t' (by omega) (by omega))).trans ?_
              exact r_ret _
            · right
              have : c = 0 := by omega
              subst this
              rw [e9]
              refine ⟨_, ?_, _, rfl, hp.last0⟩
              refine (br_f (decide_eq_false (by omega))).trans ?_
              refine (br_f (decide_eq_false hc)).trans ?_
              exact r_ret _
        · right
          simp only [T_ref01xmul_l1, eL, Int.toNat_natCast]
          rw [e9]
          refine ⟨_, ?_, _, rfl, hp⟩
          refine (br_f (decide_eq_false (by omega))).trans ?_
          refine (br_f (decide_eq_false (by omega))).trans ?_
          exact r_ret _
      obtain ⟨r, q1, o', rfl, q2⟩ := inner
      refine ⟨_, (br_t (decide_eq_true (by omega))).trans ((r_iter _ _ _).trans q1), h0, by omega, o', rfl, q2⟩
    · right
      have : i = x.2.length := by omega
      subst this
      obtain ⟨hs, hv⟩ := mul_hs hx hy ho
      have hlen := ho.len
      have et : List.take (IntKind.i64.wrap (IntKind.i64.wrap ((x.2.length : Int) + (y.2.length : Int)) + 1)).toNat o = o := by rw [eL, Int.toNat_natCast, ← hlen, List.take_length]
      have es : IntKind.i64.wrap (x.1 * y.1) = x.1 * y.1 := by
        rcases hx.can with ⟨h1, _⟩ | ⟨h1, _⟩ <;> rcases hy.can with ⟨h2, _⟩ | ⟨h2, _⟩
        · rw [h1, h2]; rfl
        · rw [h1, Int.zero_mul]; rfl
        · rw [h2, Int.mul_zero]; rfl
        · rcases h1 with h1 | h1 <;> rcases h2 with h2 | h2 <;> rw [h1, h2] <;> rfl
      rw [et, es]
      obtain ⟨r, q1, q2⟩ := k_cut hB ho.dgs hs (by omega)
      rw [hv] at q2
      refine ⟨_, (br_f (decide_eq_false (by omega))).trans ((r_bs q1).trans (r_ret _)), r, rfl, q2.up (by omega)⟩
  obtain ⟨r, h1, q, rfl, h2⟩ := key
  refine ⟨q, ?_, h2⟩
  simp only [ref01xmul, T_ref01xmul, eL, Int.toNat_natCast]
  refine (q_of (decide_eq_true ⟨rfl, by omega, by omega, by omega⟩)).trans ?_
  rw [r_iter]
  exact h1
theorem k_size {a b : List Int} (ha : Dg B4 a) (hb : Dg B4 b) (la : a.length ≤ 1099511627776) (lb : b.length ≤ 1099511627776) :
    ∃ c, ref01xsize a b = some ((c, ()), ()) ∧ (c < 0 ↔ sm B4 (gN a) a.length < sm B4 (gN b) b.length) := by
  have hB : 0 < B4 := by decide
  have hb1 : B4 = 10000 := rfl
  simp only [ref01xsize, T_ref01xsize]
  by_cases h : (a.length : Int) = (b.length : Int)
  · have hl : a.length = b.length := by omega
    have key : ∃ r, iterF (fun q_ => (T_ref01xsize_l0 a b q_.1).run) FUEL (IntKind.i64.wrap ((a.length : Int) - 1), ()) = some r ∧ ∃ c, r = ((c, ()), ()) ∧ (c < 0 ↔ sm B4 (gN a) a.length < sm B4 (gN b) b.length) := by
      rw [w64' (by omega) (by omega)]
      refine iter_post (fun i st => i ≤ a.length ∧ st = ((a.length : Int) - 1 - i, ()) ∧ ∀ j, a.length - i ≤ j → gN a j = gN b j) _ a.length (by omega) ?_ ⟨Nat.zero_le _, by simp, fun j hj => by rw [gN_out (by omega), gN_out (by omega)]⟩
      rintro i st hi ⟨_, rfl, he⟩
      simp only [T_ref01xsize_l0]
      by_cases h0 : i < a.length
      · have e1 : (a.length : Int) - 1 - (i : Int) = ((a.length - 1 - i : Nat) : Int) := by omega
        rw [e1]
        have e2 : IntKind.i64.wrap (((a.length - 1 - i : Nat) : Int) - 1) = (a.length : Int) - 1 - ((i + 1 : Nat) : Int) := by rw [w64' (by omega) (by omega)]; omega
        rw [e2]
        by_cases hc : gi a ((a.length - 1 - i : Nat) : Int) = gi b ((a.length - 1 - i : Nat) : Int)
        · left
          refine ⟨_, (br_t (decide_eq_true (by omega))).trans ((q_of (inB_t' (by omega) (by omega))).trans ((q_of (inB_t' (by omega) (by omega))).trans ((br_f (nd hc)).trans (r_ret _)))), h0, by omega, rfl, fun j hj => ?_⟩
          by_cases e : j = a.length - 1 - i
          · rw [e]; exact hc
          · exact he j (by omega)
        · right
          have da := ha.dgs (a.length - 1 - i)
          have db := hb.dgs (a.length - 1 - i)
          simp only [gN] at da db
          rw [w64' (x := gi a ((a.length - 1 - i : Nat) : Int) - gi b ((a.length - 1 - i : Nat) : Int)) (by omega) (by omega)]
          refine ⟨_, (br_t (decide_eq_true (by omega))).trans ((q_of (inB_t' (by omega) (by omega))).trans ((q_of (inB_t' (by omega) (by omega))).trans ((br_t (nd' hc)).trans ((q_of (inB_t' (by omega) (by omega))).trans ((q_of (inB_t' (by omega) (by omega))).trans (r_ret _)))))), _, rfl, ?_⟩
          rw [← hl]
          by_cases hlt : gi a ((a.length - 1 - i : Nat) : Int) < gi b ((a.length - 1 - i : Nat) : Int)
          · have := sm_cmp hB (f := gN a) (g := gN b) (i := a.length - 1 - i) (fun j _ => (ha.dgs j).2) (fun j _ => (hb.dgs j).1) hlt (n := a.length) (by omega) (fun j h1 h2 => he j (by omega))
            exact ⟨fun _ => this, fun _ => by omega⟩
          · have := sm_cmp hB (f := gN b) (g := gN a) (i := a.length - 1 - i) (fun j _ => (hb.dgs j).2) (fun j _ => (ha.dgs j).1) (show gi b ((a.length - 1 - i : Nat) : Int) < gi a ((a.length - 1 - i : Nat) : Int) by omega) (n := a.length) (by omega) (fun j h1 h2 => (he j (by omega)).symm)
            exact ⟨fun h => by omega, fun h => by omega⟩
      · right
        have : i = a.length := by omega
        subst this
        refine ⟨_, (br_f (decide_eq_false (by omega))).trans (r_ret _), _, rfl, ?_⟩
        rw [← hl, sm_ext (f := gN a) (g := gN b) (fun j _ => he j (by omega))]
        exact ⟨fun h => absurd h (by decide), fun h => by omega⟩
    obtain ⟨r, h1, c, rfl, h2⟩ := key
    exact ⟨c, (br_f (nd h)).trans ((r_iter _ _ _).trans h1), h2⟩
  · refine ⟨_, (br_t (nd' h)).trans (r_ret _), ?_⟩
    rw [w64' (by omega) (by omega)]
    rcases Nat.lt_or_gt_of_ne (show a.length ≠ b.length by omega) with hl | hl
    · exact ⟨fun _ => cmp_len hB (fun i => (ha.dgs i).2) (fun i => (hb.dgs i).1) hl (hb.top (by omega)), fun _ => by omega⟩
    · have := cmp_len hB (fun i => (hb.dgs i).2) (fun i => (ha.dgs i).1) hl (ha.top (by omega))
      exact ⟨fun h => by omega, fun h => by omega⟩


theorem k_rplus_of {a b : Int × List Int} (da : ∀ i, 0 ≤ gN a.2 i ∧ gN a.2 i < B4) (db : ∀ i, 0 ≤ gN b.2 i ∧ gN b.2 i < B4) (la : a.2.length ≤ 4294967296) (lb : b.2.length ≤ 4294967296) (hs : a.1 = 1 ∨ a.1 = -1) (hs2 : b.1 = 1 ∨ b.1 = -1)
    (hle : sm B4 (gN b.2) b.2.length ≤ sm B4 (gN a.2) a.2.length) (hll : b.2.length ≤ a.2.length) :
    ∃ r, iterF (fun q_ => (T_ref01xplus_l11 a b q_.1 q_.2.1 q_.2.2.1).run) FUEL (0, 0, List.replicate (a.2.length + 1) 0, ()) = some ((r, ()), ()) ∧ WI B4 (a.2.length + 1) r (a.1 * (sm B4 (gN a.2) a.2.length + a.1 * b.1 * sm B4 (gN b.2) b.2.length)) := by
  have hB : 0 < B4 := by decide
  have hb1 : B4 = 10000 := rfl
  have hw : a.1 * b.1 = 1 ∨ a.1 * b.1 = -1 := by rcases hs with h | h <;> rcases hs2 with h2 | h2 <;> rw [h, h2] <;> simp
  have ew : IntKind.i64.wrap (a.1 * b.1) = a.1 * b.1 := w64' (by omega) (by omega)
  have eL : IntKind.i64.wrap ((a.2.length : Int) + 1) = ((a.2.length + 1 : Nat) : Int) := by rw [w64' (by omega) (by omega)]; omega
  obtain ⟨w, hwd⟩ : ∃ w, w = a.1 * b.1 := ⟨_, rfl⟩
  rw [← hwd] at hw
  rw [← hwd]
  replace ew : IntKind.i64.wrap (a.1 * b.1) = w := by rw [ew, hwd]
  have key : ∃ r, iterF (fun q_ => (T_ref01xplus_l11 a b q_.1 q_.2.1 q_.2.2.1).run) FUEL (0, 0, List.replicate (a.2.length + 1) 0, ()) = some r ∧ ∃ q, r = ((q, ()), ()) ∧ WI B4 (a.2.length + 1) q (a.1 * (sm B4 (gN a.2) a.2.length + w * sm B4 (gN b.2) b.2.length)) := by
    refine iter_post (fun i st => i ≤ a.2.length + 1 ∧ ∃ (c : Int) (o : List Int), st = (c, (i : Int), o, ()) ∧ o.length = a.2.length + 1 ∧ (∀ j, 0 ≤ gN o j ∧ gN o j < B4) ∧ (-1 ≤ c ∧ c ≤ 1) ∧ sm B4 (gN o) i + c * B4 ^ i = sm B4 (gN a.2) i + w * sm B4 (gN b.2) i) _ (a.2.length + 1) (by omega) ?_
      ⟨Nat.zero_le _, 0, _, rfl, by simp, fun j => by rw [gN_rep]; omega, by omega, by simp [sm]⟩
    rintro i st hi ⟨hi2, c, o, rfl, hl, hd, hc, hv⟩
    simp only [T_ref01xplus_l11, ew, eL, Int.toNat_natCast]
    have d1 := da i
    have d2 := db i
    by_cases h0 : i < a.2.length + 1
    · left
      have e1 : IntKind.i64.wrap ((i : Int) + 1) = ((i + 1 : Nat) : Int) := by rw [w64' (by omega) (by omega)]; omega
      rw [e1]
      have hlt : i < o.length := by omega
      have wb : w * gN b.2 i = gN b.2 i ∨ w * gN b.2 i = -gN b.2 i := by rcases hw with h | h <;> rw [h] <;> omega
      have go : ∀ n : Int, n = c + gN a.2 i + w * gN b.2 i → ∃ (c' : Int) (p : List Int), ((n / 10000, ((i + 1 : Nat) : Int), o.set i (n % 10000), ()) : Int × Int × List Int × Unit) = (c', ((i + 1 : Nat) : Int), p, ()) ∧ p.length = a.2.length + 1 ∧ (∀ j, 0 ≤ gN p j ∧ gN p j < B4) ∧ (-1 ≤ c' ∧ c' ≤ 1) ∧ sm B4 (gN p) (i + 1) + c' * B4 ^ (i + 1) = sm B4 (gN a.2) (i + 1) + w * sm B4 (gN b.2) (i + 1) := by
        intro n hn
        refine ⟨_, _, rfl, by rw [List.length_set]; exact hl, fun j => ?_, by omega, ?_⟩
        · rw [gN_set hlt]
          split
          · omega
          · exact hd j
        · rw [sm, gN_set hlt, if_pos rfl, sm_ext (f := gN (o.set i (n % 10000))) (g := gN o) (fun j hj => by rw [gN_set hlt, if_neg (by omega)]), sm, sm, Int.pow_succ]
          have q3 : 10000 * (n / 10000) + n % 10000 = n := Int.mul_ediv_add_emod n _
          rw [hb1]
          rw [hb1] at hv
          generalize n / 10000 = q at *
          generalize n % 10000 = r at *
          grind
      have fin : ∀ n : Int, n = c + gN a.2 i + w * gN b.2 i → -1000000 ≤ n ∧ n ≤ 1000000 := fun n hn => by omega
      simp only [gN] at d1 d2 wb go fin
      by_cases c1 : (i : Int) < (a.2.length : Int)
      · by_cases c2 : (i : Int) < (b.2.length : Int)
        · refine ⟨_, ?_, h0, by omega, go _ rfl⟩
          have f1 := fin _ rfl
          refine (br_t (decide_eq_true (by omega))).trans ?_
          refine (br_t (decide_eq_true c1)).trans ?_
          refine (q_of (inB_t' (by omega) (by omega))).trans ?_
          refine (br_t (decide_eq_true c2)).trans ?_
          refine (q_of (inB_t' (by omega) (by omega))).trans ?_
          rw [w64' (x := c + gi a.2 (i : Int)) (by omega) (by omega), w64' (x := w * gi b.2 (i : Int)) (by omega) (by omega), w64' (x := c + gi a.2 (i : Int) + w * gi b.2 (i : Int)) (by omega) (by omega)]
          refine (r_bs (k_Mod4 _ f1.1 f1.2)).trans ?_
          refine (r_bs (k_Floor (by decide) (by decide) (by omega) (by omega))).trans ?_
          refine (q_of (inB_t' (by omega) (by omega))).trans ?_
          exact r_ret _
        · have z : gi b.2 (i : Int) = 0 := gN_out (l := b.2) (i := i) (by omega)
          refine ⟨_, ?_, h0, by omega, go (c + gi a.2 (i : Int)) (by rw [z]; omega)⟩
          refine (br_t (decide_eq_true (by omega))).trans ?_
          refine (br_t (decide_eq_true c1)).trans ?_
          refine (q_of (inB_t' (by omega) (by omega))).trans ?_
          refine (br_f (decide_eq_false c2)).trans ?_
          rw [w64' (x := c + gi a.2 (i : Int)) (by omega) (by omega)]
          refine (r_bs (k_Mod4 _ (by omega) (by omega))).trans ?_
          refine (r_bs (k_Floor (by decide) (by decide) (by omega) (by omega))).trans ?_
          refine (q_of (inB_t' (by omega) (by omega))).trans ?_
          exact r_ret _
      · have z1 : gi a.2 (i : Int) = 0 := gN_out (l := a.2) (i := i) (by omega)
        have z : gi b.2 (i : Int) = 0 := gN_out (l := b.2) (i := i) (by omega)
        refine ⟨_, ?_, h0, by omega, go c (by rw [z, z1]; omega)⟩
        refine (br_t (decide_eq_true (by omega))).trans ?_
        refine (br_f (decide_eq_false c1)).trans ?_
        refine (br_f (decide_eq_false (by omega))).trans ?_
        refine (r_bs (k_Mod4 _ (by omega) (by omega))).trans ?_
        refine (r_bs (k_Floor (by decide) (by decide) (by omega) (by omega))).trans ?_
        refine (q_of (inB_t' (by omega) (by omega))).trans ?_
        exact r_ret _
    · right
      have : i = a.2.length + 1 := by omega
      subst this
      have v1 := sm_up (B := B4) (f := gN a.2) (n := a.2.length) (m := a.2.length + 1) (by omega) (fun i h _ => gN_out h)
      have v2 := sm_up (B := B4) (f := gN b.2) (n := b.2.length) (m := a.2.length + 1) (by omega) (fun i h _ => gN_out h)
      rw [v1, v2] at hv
      have t0 := sm_nonneg hB (f := gN o) (n := a.2.length + 1) (fun i _ => (hd i).1)
      have t1 := sm_lt hB (f := gN o) (n := a.2.length + 1) (fun i _ => (hd i).2)
      have t2 := pw hB a.2.length
      have t3 := sm_lt hB (f := gN a.2) (n := a.2.length) (fun i _ => (da i).2)
      have t4 := sm_nonneg hB (f := gN b.2) (n := b.2.length) (fun i _ => (db i).1)
      have t5 : B4 ^ (a.2.length + 1) = B4 ^ a.2.length * 10000 := Int.pow_succ _ _
      have hT : 0 ≤ sm B4 (gN a.2) a.2.length + w * sm B4 (gN b.2) b.2.length ∧ sm B4 (gN a.2) a.2.length + w * sm B4 (gN b.2) b.2.length < B4 ^ (a.2.length + 1) := by
        rcases hw with h | h <;> rw [h] <;> omega
      have hc0 : c = 0 := by
        have : c = -1 ∨ c = 0 ∨ c = 1 := by omega
        rcases this with h | h | h
        · subst h; omega
        · exact h
        · subst h; omega
      subst hc0
      obtain ⟨r, q1, q2⟩ := k_cut hB hd (.inl hs) (show o.length ≤ 1099511627776 by omega)
      rw [← hl, List.take_length]
      refine ⟨_, ?_, r, rfl, ?_⟩
      · refine (br_f (decide_eq_false (by omega))).trans ?_
        refine (r_bs q1).trans ?_
        exact r_ret _
      · rw [hl] at q2
        rw [show sm B4 (gN o) (a.2.length + 1) = sm B4 (gN a.2) a.2.length + w * sm B4 (gN b.2) b.2.length by omega] at q2
        rw [hl]
        exact q2
  obtain ⟨r, h1, q, rfl, h2⟩ := key
  exact ⟨q, h1, h2⟩
theorem plus_l1_eq (x y : Int × List Int) (a : Int) (b : Int) (c : List Int) : T_ref01xplus_l1 x y a b c = T_ref01xplus_l11 y x a b c := by kernel_rfl
theorem k_rplus {m n : Nat} {x y : Int × List Int} {u v : Int} (hx : WI B4 m x u) (hy : WI B4 n y v) (hm : m ≤ 4294967296) (hn : n ≤ 4294967296) :
    ∃ r, ref01xplus x y = some ((r, ()), ()) ∧ WI B4 (max m n + 1) r (u + v) := by
  have hB : 0 < B4 := by decide
  have lx := hx.len
  have ly := hy.len
  simp only [ref01xplus, T_ref01xplus]
  by_cases h1 : x.1 = 0
  · refine ⟨y, (br_t (decide_eq_true h1)).trans (r_ret _), ?_⟩
    rw [(hx.eq0 hB).1 h1, Int.zero_add]; exact hy.up (by omega)
  by_cases h2 : y.1 = 0
  · refine ⟨x, (br_f (decide_eq_false h1)).trans ((br_t (decide_eq_true h2)).trans (r_ret _)), ?_⟩
    rw [(hy.eq0 hB).1 h2, Int.add_zero]; exact hx.up (by omega)
  have s1 : x.1 = 1 ∨ x.1 = -1 := by
    rcases hx.can with ⟨h, _⟩ | ⟨h, _⟩
    · exact absurd h h1
    · exact h
  have s2 : y.1 = 1 ∨ y.1 = -1 := by
    rcases hy.can with ⟨h, _⟩ | ⟨h, _⟩
    · exact absurd h h2
    · exact h
  have q1 : x.1 * x.1 = 1 := by rcases s1 with h | h <;> rw [h] <;> rfl
  have q2 : y.1 * y.1 = 1 := by rcases s2 with h | h <;> rw [h] <;> rfl
  have eX : IntKind.i64.wrap ((x.2.length : Int) + 1) = ((x.2.length + 1 : Nat) : Int) := by rw [w64' (by omega) (by omega)]; omega
  have eY : IntKind.i64.wrap ((y.2.length : Int) + 1) = ((y.2.length + 1 : Nat) : Int) := by rw [w64' (by omega) (by omega)]; omega
  obtain ⟨c, k, kc⟩ := k_size hx.dg hy.dg (by omega) (by omega)
  simp only [eX, eY, Int.toNat_natCast]
  by_cases hc : c < 0
  · have hlt := kc.1 hc
    have hle := sm_len hB hy.dg hx.dg (by omega)
    obtain ⟨r, k1, k2⟩ := k_rplus_of hy.dgs hx.dgs (by omega) (by omega) s2 s1 (by omega) hle
    refine ⟨r, (br_f (decide_eq_false h1)).trans ((br_f (decide_eq_false h2)).trans ((r_bs k).trans ((br_t (decide_eq_true hc)).trans ((q_of (decide_eq_true ⟨rfl, by omega, by omega, by omega⟩)).trans ((r_iter _ _ _).trans ?_))))), ?_⟩
    · simp only [plus_l1_eq]
      exact k1
    · have e : y.1 * (sm B4 (gN y.2) y.2.length + y.1 * x.1 * sm B4 (gN x.2) x.2.length) = u + v := by
        rw [hx.val, hy.val]; grind
      rw [e] at k2
      exact k2.up (by omega)
  · have hge : ¬ sm B4 (gN x.2) x.2.length < sm B4 (gN y.2) y.2.length := fun h => hc (kc.2 h)
    have hle := sm_len hB hx.dg hy.dg hge
    obtain ⟨r, k1, k2⟩ := k_rplus_of hx.dgs hy.dgs (by omega) (by omega) s1 s2 (by omega) hle
    refine ⟨r, (br_f (decide_eq_false h1)).trans ((br_f (decide_eq_false h2)).trans ((r_bs k).trans ((br_f (decide_eq_false hc)).trans ((q_of (decide_eq_true ⟨rfl, by omega, by omega, by omega⟩)).trans ((r_iter _ _ _).trans ?_))))), ?_⟩
    · exact k1
    · have e : x.1 * (sm B4 (gN x.2) x.2.length + x.1 * y.1 * sm B4 (gN y.2) y.2.length) = u + v := by
        rw [hx.val, hy.val]; grind
      rw [e] at k2
      exact k2.up (by omega)
theorem k_wide_l0 {n : Int} (h0 : 0 ≤ n) (h1 : n < 100000000000000000000) : ∃ r, iterF (fun q_ => (T_ref01xwideOf_l0 q_.1 q_.2.1).run) FUEL (n, [], ()) = some ((r, ()), ()) ∧ WI B4 5 r ((-1) * n) := by
  have hB : 0 < B4 := by decide
  have hb1 : B4 = 10000 := rfl
  have key : ∃ r, iterF (fun q_ => (T_ref01xwideOf_l0 q_.1 q_.2.1).run) FUEL (n, [], ()) = some r ∧ ∃ q, r = ((q, ()), ()) ∧ WI B4 5 q ((-1) * n) := by
    refine iter_post (fun i st => ∃ (m : Int) (o : List Int), st = (m, o, ()) ∧ o.length = i ∧ (∀ j, 0 ≤ gN o j ∧ gN o j < B4) ∧ 0 ≤ m ∧ m ≤ n ∧ sm B4 (gN o) i + m * B4 ^ i = n) _ 5 (by omega) ?_ ⟨n, [], rfl, rfl, fun j => by rw [gN_out (by simp)]; omega, h0, Int.le_refl _, by simp [sm]⟩
    rintro i st hi ⟨m, o, rfl, rfl, hd, hm, hmn, hv⟩
    simp only [T_ref01xwideOf_l0]
    have t0 := sm_nonneg hB (f := gN o) (n := o.length) (fun i _ => (hd i).1)
    by_cases hp : 0 < m
    · left
      have hlt : o.length < 5 := by
        rcases Nat.lt_or_ge o.length 5 with h | h
        · exact h
        · have q1 := pow_le hB h
          have q2 := Int.mul_le_mul_of_nonneg_right (show 1 ≤ m by omega) (Int.le_of_lt (pw hB o.length))
          have q4 : B4 ^ 5 = 100000000000000000000 := by decide
          omega
      rw [tm4 hm, td4 hm, w64' (x := m / 10000) (by omega) (by omega)]
      refine ⟨_, ?_, hlt, m / 10000, o ++ [m % 10000], rfl, by simp, dgs_snoc hd (by omega), by omega, by omega, ?_⟩
      · refine (br_t (decide_eq_true hp)).trans ?_
        refine (q_of rfl).trans ?_
        refine (q_of (by simp)).trans ?_
        refine (q_of (app_t' (by simp only [List.length_cons, List.length_nil]; omega) (by simp only [List.length_cons, List.length_nil]; omega))).trans ?_
        refine (q_of rfl).trans ?_
        refine req_len.trans ?_
        exact r_ret _
      · rw [sm_snoc, Int.pow_succ, hb1]
        rw [hb1] at hv
        have q3 : 10000 * (m / 10000) + m % 10000 = m := Int.mul_ediv_add_emod m _
        generalize m / 10000 = q at *
        generalize m % 10000 = r at *
        grind
    · right
      have : m = 0 := by omega
      subst this
      rw [Int.zero_mul, Int.add_zero] at hv
      obtain ⟨r, q1, q2⟩ := k_cut hB hd (s := (-1)) (.inl (by simp)) (show o.length ≤ 1099511627776 by omega)
      refine ⟨_, ?_, r, rfl, ?_⟩
      · refine (br_f (decide_eq_false hp)).trans ?_
        refine (r_bs q1).trans ?_
        exact r_ret _
      · rw [hv] at q2
        exact q2.up hi
  obtain ⟨r, h1, q, rfl, h2⟩ := key
  exact ⟨q, h1, h2⟩
theorem k_wide_l2 {n : Int} (h0 : 0 ≤ n) (h1 : n < 100000000000000000000) : ∃ r, iterF (fun q_ => (T_ref01xwideOf_l2 q_.1 q_.2.1).run) FUEL (n, [], ()) = some ((r, ()), ()) ∧ WI B4 5 r (1 * n) := by
  have hB : 0 < B4 := by decide
  have hb1 : B4 = 10000 := rfl
  have key : ∃ r, iterF (fun q_ => (T_ref01xwideOf_l2 q_.1 q_.2.1).run) FUEL (n, [], ()) = some r ∧ ∃ q, r = ((q, ()), ()) ∧ WI B4 5 q (1 * n) := by
    refine iter_post (fun i st => ∃ (m : Int) (o : List Int), st = (m, o, ()) ∧ o.length = i ∧ (∀ j, 0 ≤ gN o j ∧ gN o j < B4) ∧ 0 ≤ m ∧ m ≤ n ∧ sm B4 (gN o) i + m * B4 ^ i = n) _ 5 (by omega) ?_ ⟨n, [], rfl, rfl, fun j => by rw [gN_out (by simp)]; omega, h0, Int.le_refl _, by simp [sm]⟩
    rintro i st hi ⟨m, o, rfl, rfl, hd, hm, hmn, hv⟩
    simp only [T_ref01xwideOf_l2]
    have t0 := sm_nonneg hB (f := gN o) (n := o.length) (fun i _ => (hd i).1)
    by_cases hp : 0 < m
    · left
      have hlt : o.length < 5 := by
        rcases Nat.lt_or_ge o.length 5 with h | h
        · exact h
        · have q1 := pow_le hB h
          have q2 := Int.mul_le_mul_of_nonneg_right (show 1 ≤ m by omega) (Int.le_of_lt (pw hB o.length))
          have q4 : B4 ^ 5 = 100000000000000000000 := by decide
          omega
      rw [tm4 hm, td4 hm, w64' (x := m / 10000) (by omega) (by omega)]
      refine ⟨_, ?_, hlt, m / 10000, o ++ [m % 10000], rfl, by simp, dgs_snoc hd (by omega), by omega, by omega, ?_⟩
      · refine (br_t (decide_eq_true hp)).trans ?_
        refine (q_of rfl).trans ?_
        refine (q_of (by simp)).trans ?_
        refine (q_of (app_t' (by simp only [List.length_cons, List.length_nil]; omega) (by simp only [List.length_cons, List.length_nil]; omega))).trans ?_
        refine (q_of rfl).trans ?_
        refine req_len.trans ?_
        exact r_ret _
      · rw [sm_snoc, Int.pow_succ, hb1]
        rw [hb1] at hv
        have q3 : 10000 * (m / 10000) + m % 10000 = m := Int.mul_ediv_add_emod m _
        generalize m / 10000 = q at *
        generalize m % 10000 = r at *
        grind
    · right
      have : m = 0 := by omega
      subst this
      rw [Int.zero_mul, Int.add_zero] at hv
      obtain ⟨r, q1, q2⟩ := k_cut hB hd (s := 1) (.inl (by simp)) (show o.length ≤ 1099511627776 by omega)
      refine ⟨_, ?_, r, rfl, ?_⟩
      · refine (br_f (decide_eq_false hp)).trans ?_
        refine (r_bs q1).trans ?_
        exact r_ret _
      · rw [hv] at q2
        exact q2.up hi
  obtain ⟨r, h1, q, rfl, h2⟩ := key
  exact ⟨q, h1, h2⟩
theorem k_wideOf {n : Int} (h1 : -9223372036854775807 ≤ n) (h2 : n ≤ 9223372036854775807) : ∃ r, ref01xwideOf n = some ((r, ()), ()) ∧ WI B4 5 r n := by
  simp only [ref01xwideOf, T_ref01xwideOf]
  by_cases h : n < 0
  · obtain ⟨r, k1, k2⟩ := k_wide_l0 (n := -n) (by omega) (by omega)
    rw [w64' (by omega) (by omega), Int.zero_sub]
    refine ⟨r, (br_t (decide_eq_true h)).trans ((q_of rfl).trans ((r_iter _ _ _).trans ?_)), ?_⟩
    · exact k1
    · rw [show -1 * -n = n by omega] at k2; exact k2
  · obtain ⟨r, k1, k2⟩ := k_wide_l2 (n := n) (by omega) (by omega)
    refine ⟨r, (br_f (decide_eq_false h)).trans ((q_of rfl).trans ((r_iter _ _ _).trans ?_)), ?_⟩
    · exact k1
    · rw [Int.one_mul] at k2; exact k2
end Go.Ab
