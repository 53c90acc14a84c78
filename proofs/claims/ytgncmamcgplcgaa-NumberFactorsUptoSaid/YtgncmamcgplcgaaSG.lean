/- RootIn, of the program and of the reference. -/
import Derived.Test.YtgncmamcgplcgaaRV
import Derived.Test.YtgncmamcgplcgaaSF
import Derived.Test.YtgncmamcgplcgaaF4
namespace Go.Ab
open Go
set_option maxRecDepth 1000000
set_option maxHeartbeats 1000000
set_option linter.unusedVariables false
set_option linter.unusedSimpArgs false

theorem CH.chn {B : Int} {p : List Int} {e : Nat} {c : List NuL} (h : CH B p e c) (hp : pcE p = 0) : Chn p e := by
  obtain ⟨l1, l2, _, _⟩ := pcE_zero hp
  exact ⟨pc_top hp, by omega, l2, h.fin, h.on⟩
theorem Chn.uniq {p : List Int} {e e' : Nat} (h : Chn p e) (h' : Chn p e') : e = e' := by
  rcases Nat.lt_trichotomy e e' with q | q | q
  · exact absurd h.fin (h'.on e q)
  · exact q
  · exact absurd h'.fin (h.on e' q)
/-- Fractions with whole numbers above and below. -/
theorem frac_le {a b c d : Int} (hb : 0 < b) (hd : 0 < d) (h : a * d ≤ c * b) : (a : Rat) / b ≤ (c : Rat) / d := by
  have hb' := cast_pos hb
  have hd' := cast_pos hd
  have h' := Rat.intCast_le_intCast.2 h
  rw [Rat.intCast_mul, Rat.intCast_mul] at h'
  generalize (a : Rat) = A at *
  generalize (b : Rat) = B at *
  generalize (c : Rat) = C at *
  generalize (d : Rat) = D at *
  by_cases q : A / B ≤ C / D
  · exact q
  · have w := Rat.mul_pos (show 0 < A / B - C / D by grind) (Rat.mul_pos hb' hd')
    have e : (A / B - C / D) * (B * D) = A * D - C * B := by grind
    grind
theorem frac_lt {a b c d : Int} (hb : 0 < b) (hd : 0 < d) (h : a * d < c * b) : (a : Rat) / b < (c : Rat) / d := by
  have hb' := cast_pos hb
  have hd' := cast_pos hd
  have h' := Rat.intCast_lt_intCast.2 h
  rw [Rat.intCast_mul, Rat.intCast_mul] at h'
  generalize (a : Rat) = A at *
  generalize (b : Rat) = B at *
  generalize (c : Rat) = C at *
  generalize (d : Rat) = D at *
  by_cases q : A / B < C / D
  · exact q
  · have w := Rat.mul_nonneg (show 0 ≤ A / B - C / D by grind) (show 0 ≤ B * D from Rat.le_of_lt (Rat.mul_pos hb' hd'))
    have e : (A / B - C / D) * (B * D) = A * D - C * B := by grind
    grind
theorem Chn.vmono {p : List Int} {e : Nat} (h : Chn p e) {a b c d : Int} (hb : 0 < b) (hd : 0 < d) (hle : a * d ≤ c * b) : vv p e c d ≤ vv p e a b := by
  rw [h.vv_eq hb, h.vv_eq hd]
  exact h.mono (frac_le hb hd hle)
def upQ (n d : Int) : Int := -(-n / d)
theorem ediv_two {n d : Int} (hd : 0 < d) : n / d * d ≤ n ∧ n < (n / d + 1) * d := ⟨Int.ediv_mul_le n (by omega), Int.lt_ediv_add_one_mul_self n hd⟩
theorem upQ_two {n d : Int} (hd : 0 < d) : n ≤ upQ n d * d ∧ (upQ n d - 1) * d < n := by
  have h := ediv_two (n := -n) hd
  unfold upQ
  generalize -n / d = q at *
  constructor <;> grind
/-- The least whole number up to which the root lies. -/
structure IsH (p : List Int) (e : Nat) (lo hi : Int × Int) (t H : Int) : Prop where
  gt : t * lo.1 / lo.2 < H
  le : H ≤ upQ (t * hi.1) hi.2
  non : ∀ w, t * lo.1 / lo.2 < w → w < H → vv p e w t ≠ vv p e hi.1 hi.2
  at_ : H = upQ (t * hi.1) hi.2 ∨ vv p e H t = vv p e hi.1 hi.2
theorem IsH.uniq {p : List Int} {e : Nat} {lo hi : Int × Int} {t H H' : Int} (h : IsH p e lo hi t H) (h' : IsH p e lo hi t H') : H = H' := by
  have key : ∀ {H H'}, IsH p e lo hi t H → IsH p e lo hi t H' → ¬ H < H' := by
    intro H H' h h' hlt
    rcases h.at_ with q | q
    · have := h'.le; omega
    · exact h'.non H h.gt hlt q
  have := key h h'
  have := key h' h
  omega
def rEnd (p : List Int) (hi : Int × Int) (t H : Int) : Int × Int := if H ≤ t * hi.1 / hi.2 then (if hz p H t = 0 then (H, H) else (H - 1, H)) else (H - 1, H)
def RI (p : List Int) (e : Nat) (lo hi : Int × Int) (t : Int) (r : (Int × Int) × Int × Unit) : Prop :=
  (vv p e lo.1 lo.2 - vv p e hi.1 hi.2 = 0 ∧ r = ((0, 0), 12, ())) ∨ (1 < vv p e lo.1 lo.2 - vv p e hi.1 hi.2 ∧ r = ((0, 0), 13, ())) ∨ (vv p e lo.1 lo.2 - vv p e hi.1 hi.2 = 1 ∧ ∃ H, IsH p e lo hi t H ∧ r = (rEnd p hi t H, 0, ()))
theorem RI.uniq {p : List Int} {e : Nat} {lo hi : Int × Int} {t : Int} {r r' : (Int × Int) × Int × Unit} (h : RI p e lo hi t r) (h' : RI p e lo hi t r') : r = r' := by
  rcases h with ⟨a, rfl⟩ | ⟨a, rfl⟩ | ⟨a, H, b, rfl⟩ <;> rcases h' with ⟨a', rfl⟩ | ⟨a', rfl⟩ | ⟨a', H', b', rfl⟩ <;> first | rfl | omega | (rw [b.uniq b'])
theorem sgn_0 {v : Int} : sgn v = 0 ↔ v = 0 := by
  unfold sgn; split
  · simp_all
  · split <;> simp_all
section
variable {p : List Int} {lo hi : Int × Int} {t : Int}
theorem k_RootIn_e (h1 : I64 lo.1) (h2 : I64 lo.2) (h3 : I64 hi.1) (h4 : I64 hi.2) (h : bdE p lo hi ≠ 0) : number_RootIn p lo hi t = some (((0, 0), bdE p lo hi, ()), ()) := by
  simp only [number_RootIn, T_number_RootIn]
  refine (r_bs (k_RootsIn_e h1 h2 h3 h4 h)).trans ?_
  exact (br_t (nd' h)).trans (r_ret _)
theorem k_RootIn_t (h1 : I64 lo.1) (h2 : I64 lo.2) (h3 : I64 hi.1) (h4 : I64 hi.2) (h : bdE p lo hi = 0) (ht : ¬ (1 ≤ t ∧ t ≤ 1000000)) : number_RootIn p lo hi t = some (((0, 0), 2, ()), ()) := by
  obtain ⟨e, k1, c, kc⟩ := k_RootsIn h h1 h2 h3 h4
  simp only [number_RootIn, T_number_RootIn]
  refine (r_bs k1).trans ?_
  refine (br_f rfl).trans ?_
  refine (r_bs (k_between t 1 1000000)).trans ?_
  exact (br_t (nd' ht)).trans (r_ret _)
theorem span_bds (hlo : Small lo) (hhi : Small hi) (hlt : lo.1 * hi.2 < hi.1 * lo.2) (t1 : 1 ≤ t) (t2 : t ≤ 1000000) :
    (-1000000000000000 ≤ t * lo.1 ∧ t * lo.1 ≤ 1000000000000000) ∧ (-1000000000000000 ≤ t * hi.1 ∧ t * hi.1 ≤ 1000000000000000) ∧ (-1000000000000000 ≤ t * lo.1 / lo.2 ∧ t * lo.1 / lo.2 ≤ 1000000000000000) ∧ (-1000000000000000 ≤ upQ (t * hi.1) hi.2 ∧ upQ (t * hi.1) hi.2 ≤ 1000000000000000) ∧ t * lo.1 / lo.2 < upQ (t * hi.1) hi.2 ∧ (-1000000000000000 ≤ t * hi.1 / hi.2 ∧ t * hi.1 / hi.2 ≤ 1000000000000000) := by
  have b1 := hlo.2.1
  have b2 := hlo.2.2.1
  have b4 := hlo.1.1
  have d1 := hhi.2.1
  have d2 := hhi.2.2.1
  have d4 := hhi.1.1
  have m1 := mul_bd (a := t) (m := 1000000) (b := lo.1) (n := 1000000000) (by omega) (by omega) (by omega) (by omega)
  have m2 := mul_bd (a := t) (m := 1000000) (b := hi.1) (n := 1000000000) (by omega) (by omega) (by omega) (by omega)
  have e1 := ediv_bd (n := t * lo.1) (b := lo.2) (m := 1000000000000000) (by omega) (by omega) (by omega)
  have e2 := ediv_bd (n := -(t * hi.1)) (b := hi.2) (m := 1000000000000000) (by omega) (by omega) (by omega)
  have e3 := ediv_bd (n := t * hi.1) (b := hi.2) (m := 1000000000000000) (by omega) (by omega) (by omega)
  have q1 := ediv_two (n := t * lo.1) (d := lo.2) (by omega)
  have q2 := upQ_two (n := t * hi.1) (d := hi.2) (by omega)
  refine ⟨by omega, by omega, by omega, by unfold upQ; omega, ?_, by omega⟩
  generalize t * lo.1 / lo.2 = L at *
  generalize upQ (t * hi.1) hi.2 = U at *
  -- L lo2 hi2 ≤ t lo1 hi2 < t hi1 lo2 ≤ U hi2 lo2
  have w1 := Int.mul_le_mul_of_nonneg_right q1.1 (show 0 ≤ hi.2 by omega)
  have w2 := Int.mul_le_mul_of_nonneg_right q2.1 (show 0 ≤ lo.2 by omega)
  have w3 := Int.mul_lt_mul_of_pos_left hlt (show 0 < t by omega)
  by_cases c : L < U
  · exact c
  · have w4 := Int.mul_le_mul_of_nonneg_right (show U ≤ L by omega) (show 0 ≤ hi.2 * lo.2 by exact Int.mul_nonneg (by omega) (by omega))
    exfalso
    have x1 : L * lo.2 * hi.2 = L * (hi.2 * lo.2) := by grind
    have x2 : U * hi.2 * lo.2 = U * (hi.2 * lo.2) := by grind
    have x3 : t * lo.1 * hi.2 = t * (lo.1 * hi.2) := by grind
    have x4 : t * hi.1 * lo.2 = t * (hi.1 * lo.2) := by grind
    omega
/-- Between both ends the changes are those of one end or of the other. -/
theorem Chn.mid {e : Nat} (hc : Chn p e) (hlo : Small lo) (hhi : Small hi) (t1 : 1 ≤ t) {w : Int} (h2 : w < upQ (t * hi.1) hi.2) : vv p e hi.1 hi.2 ≤ vv p e w t := by
  have d4 := hhi.1.1
  have q2 := upQ_two (n := t * hi.1) (d := hi.2) (by omega)
  refine hc.vmono (by omega) (by omega) ?_
  have := Int.mul_le_mul_of_nonneg_right (show w ≤ upQ (t * hi.1) hi.2 - 1 by omega) (show 0 ≤ hi.2 by omega)
  rw [Int.mul_comm hi.1 t]; omega
theorem Chn.mid' {e : Nat} (hc : Chn p e) (hlo : Small lo) (t1 : 1 ≤ t) {w : Int} (h2 : t * lo.1 / lo.2 < w) : vv p e w t ≤ vv p e lo.1 lo.2 := by
  have d4 := hlo.1.1
  have q2 := ediv_two (n := t * lo.1) (d := lo.2) (by omega)
  refine hc.vmono (by omega) (by omega) ?_
  have := Int.mul_le_mul_of_nonneg_right (show t * lo.1 / lo.2 + 1 ≤ w by omega) (show 0 ≤ lo.2 by omega)
  rw [Int.mul_comm lo.1 t]; omega
theorem k_RootIn (h1 : I64 lo.1) (h2 : I64 lo.2) (h3 : I64 hi.1) (h4 : I64 hi.2) (h : bdE p lo hi = 0) (t1 : 1 ≤ t) (t2 : t ≤ 1000000) :
    ∃ e, Chn p e ∧ ∃ r, number_RootIn p lo hi t = some (r, ()) ∧ RI p e lo hi t r := by
  obtain ⟨hp, hlo, hhi, hlt⟩ := bdE_zero h1 h2 h3 h4 h
  obtain ⟨e, k0, c0, kc0⟩ := k_RootsIn h h1 h2 h3 h4
  have hcn := kc0.chn hp
  refine ⟨e, hcn, ?_⟩
  have hb := rootsZ_bd p kc0.le lo hi
  obtain ⟨l1, l2, l3, _⟩ := pcE_zero hp
  have b1 := hlo.2.1
  have b2 := hlo.2.2.1
  have b3 := hlo.2.2.2
  have b4 := hlo.1.1
  have d1 := hhi.2.1
  have d2 := hhi.2.2.1
  have d3 := hhi.2.2.2
  have d4 := hhi.1.1
  obtain ⟨⟨s1, s2⟩, ⟨s3, s4⟩, ⟨s5, s6⟩, ⟨s7, s8⟩, s9, s10, s11⟩ := span_bds hlo hhi hlt t1 t2
  have hn0 : 0 ≤ vv p e lo.1 lo.2 - vv p e hi.1 hi.2 := by
    have := hcn.vmono (a := lo.1) (b := lo.2) (c := hi.1) (d := hi.2) (by omega) (by omega) (by omega)
    omega
  have hrz : rootsZ p e lo hi = vv p e lo.1 lo.2 - vv p e hi.1 hi.2 := rfl
  rw [hrz] at k0
  have start : ∀ r, (Tr.br (decide (vv p e lo.1 lo.2 - vv p e hi.1 hi.2 = (0 : Int))) (.ret (((((0 : Int)), ((0 : Int))), (((12 : Int)), ())), ())) (.br (decide ((1 : Int) < vv p e lo.1 lo.2 - vv p e hi.1 hi.2)) (.ret (((((0 : Int)), ((0 : Int))), (((13 : Int)), ())), ())) (.bind (.pair (.pair (.list (.pair (.int .i64) (.list (.int .u32)))) .unit) .unit) (number_seriesOf p) fun z2 => .bind (.pair (.pair (.list (.list (.pair (.int .i64) (.list (.int .u32))))) .unit) .unit) (number_series_chain z2.fst.fst) fun z3 => .bind (.pair (.pair (.pair (.pair (.int .i64) (.list (.int .u32))) (.pair (.int .i64) (.list (.int .u32)))) .unit) .unit) (number_pointOf hi.fst hi.snd) fun z4 => .bind (.pair (.pair (.int .i64) .unit) .unit) (number_changes z3.fst.fst ((z4.fst.fst.fst.fst, z4.fst.fst.fst.snd), z4.fst.fst.snd.fst, z4.fst.fst.snd.snd)) fun z5 => .bind (.pair (.pair (.int .i64) .unit) .unit) (number_down (IntKind.i64.wrap (t * lo.fst)) lo.snd) fun z6 => .bind (.pair (.pair (.int .i64) .unit) .unit) (number_up (IntKind.i64.wrap (t * hi.fst)) hi.snd) fun z7 => .iter (.pair (.int .i64) (.pair (.int .i64) .unit)) (fun q_ => T_number_RootIn_l8 hi t z2 z3 z5 q_.1 q_.2.1) ((IntKind.i64.wrap (z6.fst.fst + (1 : Int)), z7.fst.fst, ()))))).run = some (r, ()) → number_RootIn p lo hi t = some (r, ()) := by
    intro r hr
    simp only [number_RootIn, T_number_RootIn]
    refine (r_bs k0).trans ?_
    refine (br_f rfl).trans ?_
    refine (r_bs (k_between t 1 1000000)).trans ?_
    refine (br_f (nd ⟨t1, t2⟩)).trans ?_
    exact hr
  by_cases n0 : vv p e lo.1 lo.2 - vv p e hi.1 hi.2 = 0
  · exact ⟨_, start _ ((br_t (decide_eq_true n0)).trans (r_ret _)), .inl ⟨n0, rfl⟩⟩
  by_cases n1 : 1 < vv p e lo.1 lo.2 - vv p e hi.1 hi.2
  · exact ⟨_, start _ ((br_f (decide_eq_false n0)).trans ((br_t (decide_eq_true n1)).trans (r_ret _))), .inr (.inl ⟨n1, rfl⟩)⟩
  have hn1 : vv p e lo.1 lo.2 - vv p e hi.1 hi.2 = 1 := by omega
  obtain ⟨r, k1, k2⟩ := pc_series hp
  obtain ⟨c, e', k3, k4⟩ := k_chain (n := 2) k2 (pc_top hp) (by omega) l2
  have he := k4.uniq kc0
  subst he
  have s7' : ∀ j, (seqZ p j).1.length ≤ 7 := fun j => by have := (seqZ_ok (pc_top hp) l2 j).2.2.1; omega
  obtain ⟨y, ky, y1, y2⟩ := k_pointOf (a := hi.1) (b := hi.2) (by omega) (by omega) (by omega) (by omega)
  have kd := k_down (n := t * lo.1) (b := lo.2) (by omega) (by omega) (by omega) (by omega)
  have ku := k_up (n := t * hi.1) (b := hi.2) (by omega) (by omega) (by omega) (by omega)
  have kd2 := k_down (n := t * hi.1) (b := hi.2) (by omega) (by omega) (by omega) (by omega)
  have w1 : IntKind.i64.wrap (t * lo.1) = t * lo.1 := w64' (by omega) (by omega)
  have w2 : IntKind.i64.wrap (t * hi.1) = t * hi.1 := w64' (by omega) (by omega)
  have w3 : IntKind.i64.wrap (t * lo.1 / lo.2 + 1) = t * lo.1 / lo.2 + 1 := w64' (by omega) (by omega)
  have key : ∃ o, iterF (fun q_ => (T_number_RootIn_l8 hi t ((r, ()), ()) ((c, ()), ()) ((vv p e' hi.1 hi.2, ()), ()) q_.1 q_.2.1).run) FUEL (t * lo.1 / lo.2 + 1, upQ (t * hi.1) hi.2, ()) = some o ∧ ∃ H, IsH p e' lo hi t H ∧ o = ((rEnd p hi t H, 0, ()), ()) := by
    refine iter_post (fun i st => ∃ a b : Int, st = (a, b, ()) ∧ t * lo.1 / lo.2 < a ∧ a ≤ b ∧ b ≤ upQ (t * hi.1) hi.2 ∧ b - a + i ≤ upQ (t * hi.1) hi.2 - (t * lo.1 / lo.2) ∧ (∀ w, t * lo.1 / lo.2 < w → w < a → vv p e' w t ≠ vv p e' hi.1 hi.2) ∧ (b = upQ (t * hi.1) hi.2 ∨ vv p e' b t = vv p e' hi.1 hi.2)) _ (upQ (t * hi.1) hi.2 - (t * lo.1 / lo.2)).toNat (by omega) ?_ ⟨_, _, rfl, by omega, by omega, by omega, by omega, fun w h1 h2 => by omega, .inl rfl⟩
    rintro i st hi' ⟨a, b, rfl, i1, i2, i3, i4, i5, i6⟩
    simp only [T_number_RootIn_l8]
    by_cases hab : a < b
    · left
      have e1 : IntKind.i64.wrap (a + b) = a + b := w64' (by omega) (by omega)
      have km := k_down (n := a + b) (b := 2) (by omega) (by omega) (by omega) (by omega)
      obtain ⟨x, kx, x1, x2⟩ := k_pointOf (a := (a + b) / 2) (b := t) (by omega) (by omega) (by omega) (by omega)
      have kch := k_changes k4 s7' x1 x2
      change number_changes c x = some ((vv p e' ((a + b) / 2) t, ()), ()) at kch
      have m1 : a ≤ (a + b) / 2 := by omega
      have m2 : (a + b) / 2 < b := by omega
      have hmid := hcn.mid hlo hhi t1 (w := (a + b) / 2) (by omega)
      by_cases q : vv p e' ((a + b) / 2) t = vv p e' hi.1 hi.2
      · refine ⟨_, ?_, by omega, a, (a + b) / 2, rfl, i1, m1, by omega, by omega, i5, .inr q⟩
        refine (br_t (decide_eq_true hab)).trans ?_
        rw [e1]
        refine (r_bs km).trans ?_
        refine (r_bs kx).trans ?_
        refine (r_bs kch).trans ?_
        refine (br_t (decide_eq_true q)).trans ?_
        exact r_ret _
      · refine ⟨_, ?_, by omega, (a + b) / 2 + 1, b, rfl, by omega, by omega, i3, by omega, fun w h1 h2 => ?_, i6⟩
        · refine (br_t (decide_eq_true hab)).trans ?_
          rw [e1]
          refine (r_bs km).trans ?_
          refine (r_bs kx).trans ?_
          refine (r_bs kch).trans ?_
          refine (br_f (decide_eq_false q)).trans ?_
          refine (r_ret _).trans ?_
          dsimp only
          rw [w64' (x := (a + b) / 2 + 1) (by omega) (by omega)]
        · have := hcn.vmono (a := w) (b := t) (c := (a + b) / 2) (d := t) (by omega) (by omega) (Int.mul_le_mul_of_nonneg_right (by omega) (by omega))
          omega
    · right
      have hab' : a = b := by omega
      subst hab'
      obtain ⟨x, kx, x1, x2⟩ := k_pointOf (a := a) (b := t) (by omega) (by omega) (by omega) (by omega)
      have ks := k_sign k2 (by omega) (by omega) x1 x2
      have e2 : IntKind.i64.wrap (a - 1) = a - 1 := w64' (by omega) (by omega)
      refine ⟨_, ?_, a, ⟨i1, i3, i5, i6⟩, rfl⟩
      unfold rEnd
      refine (br_f (decide_eq_false hab)).trans ?_
      rw [w2]
      refine (r_bs kd2).trans ?_
      by_cases q1 : a ≤ t * hi.1 / hi.2
      · refine (br_t (decide_eq_true q1)).trans ?_
        refine (r_bs kx).trans ?_
        refine (r_bs ks).trans ?_
        rw [if_pos q1]
        by_cases q2 : hz p a t = 0
        · rw [if_pos q2]
          refine (br_t (decide_eq_true (sgn_0.2 q2))).trans ?_
          exact r_ret _
        · rw [if_neg q2]
          refine (br_f (decide_eq_false (fun h => q2 (sgn_0.1 h)))).trans ?_
          refine (r_ret _).trans ?_
          rw [e2]
      · rw [if_neg q1]
        refine (br_f (decide_eq_false q1)).trans ?_
        refine (r_ret _).trans ?_
        rw [e2]
  obtain ⟨o, k5, H, kH, rfl⟩ := key
  refine ⟨_, start _ ?_, .inr (.inr ⟨hn1, H, kH, rfl⟩)⟩
  refine (br_f (decide_eq_false n0)).trans ?_
  refine (br_f (decide_eq_false n1)).trans ?_
  refine (r_bs k1).trans ?_
  refine (r_bs k3).trans ?_
  refine (r_bs ky).trans ?_
  refine (r_bs (k_changes k4 s7' y1 y2)).trans ?_
  rw [w1, w2]
  refine (r_bs kd).trans ?_
  refine (r_bs ku).trans ?_
  rw [r_iter]
  dsimp only
  rw [w3]
  exact k5
theorem k_rRootIn (hp : pcE p = 0) (hlo : Small lo) (hhi : Small hi) (hlt : lo.1 * hi.2 < hi.1 * lo.2) (t1 : 1 ≤ t) (t2 : t ≤ 1000000) :
    ∃ e, Chn p e ∧ ∃ r, ref01xRootIn p lo hi t = some (r, ()) ∧ RI p e lo hi t r := by
  obtain ⟨l1, l2, l3, _⟩ := pcE_zero hp
  obtain ⟨c, e, k3, k4⟩ := k_rchain hp
  have hcn := k4.chn hp
  refine ⟨e, hcn, ?_⟩
  have hb := rootsZ_bd p k4.le lo hi
  have b1 := hlo.2.1
  have b2 := hlo.2.2.1
  have b3 := hlo.2.2.2
  have b4 := hlo.1.1
  have d1 := hhi.2.1
  have d2 := hhi.2.2.1
  have d3 := hhi.2.2.2
  have d4 := hhi.1.1
  obtain ⟨⟨s1, s2⟩, ⟨s3, s4⟩, ⟨s5, s6⟩, ⟨s7, s8⟩, s9, s10, s11⟩ := span_bds hlo hhi hlt t1 t2
  have hn0 : 0 ≤ vv p e lo.1 lo.2 - vv p e hi.1 hi.2 := by
    have := hcn.vmono (a := lo.1) (b := lo.2) (c := hi.1) (d := hi.2) (by omega) (by omega) (by omega)
    omega
  have hrz : rootsZ p e lo hi = vv p e lo.1 lo.2 - vv p e hi.1 hi.2 := rfl
  rw [hrz] at hb
  have s7' : ∀ j, (seqZ p j).1.length ≤ 7 := fun j => by have := (seqZ_ok (pc_top hp) l2 j).2.2.1; omega
  have kl : ref01xchanges c lo.1 lo.2 = some ((vv p e lo.1 lo.2, ()), ()) := k_rchanges k4 s7' (by omega) (by omega) (by omega) (by omega)
  have kh : ref01xchanges c hi.1 hi.2 = some ((vv p e hi.1 hi.2, ()), ()) := k_rchanges k4 s7' (by omega) (by omega) (by omega) (by omega)
  have w0 : IntKind.i64.wrap (vv p e lo.1 lo.2 - vv p e hi.1 hi.2) = vv p e lo.1 lo.2 - vv p e hi.1 hi.2 := w64' (by omega) (by omega)
  have bv : ∀ w, 0 ≤ vv p e w t ∧ vv p e w t ≤ 7 := fun w => by
    have := (cgS_bd (s := fun j => bhF w t 8 (seqZ p j).1) (fun j => bhF_vals _ _ 8 _) (e + 1)).1
    have := k4.le
    unfold vv; omega
  have bl : 0 ≤ vv p e lo.1 lo.2 ∧ vv p e lo.1 lo.2 ≤ 7 := by
    have := (cgS_bd (s := fun j => bhF lo.1 lo.2 8 (seqZ p j).1) (fun j => bhF_vals _ _ 8 _) (e + 1)).1
    have := k4.le
    unfold vv; omega
  have kd := k_Floor (n := t * lo.1) (b := lo.2) (by omega) (by omega) (by omega) (by omega)
  have ku := k_Ceil (n := t * hi.1) (b := hi.2) (by omega) (by omega) (by omega) (by omega)
  have kd2 := k_Floor (n := t * hi.1) (b := hi.2) (by omega) (by omega) (by omega) (by omega)
  have w1 : IntKind.i64.wrap (lo.1 * t) = t * lo.1 := by rw [Int.mul_comm]; exact w64' (by omega) (by omega)
  have w2 : IntKind.i64.wrap (hi.1 * t) = t * hi.1 := by rw [Int.mul_comm]; exact w64' (by omega) (by omega)
  simp only [ref01xRootIn, T_ref01xRootIn]
  by_cases n0 : vv p e lo.1 lo.2 - vv p e hi.1 hi.2 < 1
  · refine ⟨_, ?_, .inl ⟨by omega, rfl⟩⟩
    refine (r_bs k3).trans ?_
    refine (r_bs kl).trans ?_
    refine (r_bs kh).trans ?_
    dsimp only
    rw [w0]
    exact (br_t (decide_eq_true n0)).trans (r_ret _)
  by_cases n1 : 1 < vv p e lo.1 lo.2 - vv p e hi.1 hi.2
  · refine ⟨_, ?_, .inr (.inl ⟨n1, rfl⟩)⟩
    refine (r_bs k3).trans ?_
    refine (r_bs kl).trans ?_
    refine (r_bs kh).trans ?_
    dsimp only
    rw [w0]
    exact (br_f (decide_eq_false n0)).trans ((br_t (decide_eq_true n1)).trans (r_ret _))
  have hn1 : vv p e lo.1 lo.2 - vv p e hi.1 hi.2 = 1 := by omega
  have key : ∃ o, iterF (fun q_ => (T_ref01xRootIn_l5 hi t ((c, ()), ()) ((vv p e lo.1 lo.2, ()), ()) q_.1 q_.2.1).run) FUEL (t * lo.1 / lo.2, upQ (t * hi.1) hi.2, ()) = some o ∧ ∃ H, IsH p e lo hi t H ∧ o = ((rEnd p hi t H, 0, ()), ()) := by
    refine iter_post (fun i st => ∃ a b : Int, st = (a, b, ()) ∧ t * lo.1 / lo.2 ≤ a ∧ a < b ∧ b ≤ upQ (t * hi.1) hi.2 ∧ b - a + i ≤ upQ (t * hi.1) hi.2 - (t * lo.1 / lo.2) ∧ (∀ w, t * lo.1 / lo.2 < w → w ≤ a → vv p e w t ≠ vv p e hi.1 hi.2) ∧ (b = upQ (t * hi.1) hi.2 ∨ vv p e b t = vv p e hi.1 hi.2)) _ (upQ (t * hi.1) hi.2 - (t * lo.1 / lo.2)).toNat (by omega) ?_ ⟨_, _, rfl, by omega, by omega, by omega, by omega, fun w h1 h2 => by omega, .inl rfl⟩
    rintro i st hi' ⟨a, b, rfl, i1, i2, i3, i4, i5, i6⟩
    simp only [T_ref01xRootIn_l5]
    have e0 : IntKind.i64.wrap (a + 1) = a + 1 := w64' (by omega) (by omega)
    rw [e0]
    by_cases hab : a + 1 < b
    · left
      have e1 : IntKind.i64.wrap (b - a) = b - a := w64' (by omega) (by omega)
      have e2 : (b - a).tdiv 2 = (b - a) / 2 := Int.tdiv_eq_ediv_of_nonneg (by omega)
      have e3 : IntKind.i64.wrap ((b - a) / 2) = (b - a) / 2 := w64' (by omega) (by omega)
      have e4 : IntKind.i64.wrap (a + (b - a) / 2) = a + (b - a) / 2 := w64' (by omega) (by omega)
      rw [e1, e2, e3, e4]
      have km : ref01xchanges c (a + (b - a) / 2) t = some ((vv p e (a + (b - a) / 2) t, ()), ()) := k_rchanges k4 s7' (by omega) (by omega) (by omega) (by omega)
      have m1 : a < a + (b - a) / 2 := by omega
      have m2 : a + (b - a) / 2 < b := by omega
      generalize a + (b - a) / 2 = m at *
      have hmid := hcn.mid hlo hhi t1 (w := m) (by omega)
      have hb2 := bv m
      have e5 : IntKind.i64.wrap (vv p e lo.1 lo.2 - vv p e m t) = vv p e lo.1 lo.2 - vv p e m t := w64' (by omega) (by omega)
      by_cases q : 0 < vv p e lo.1 lo.2 - vv p e m t
      · refine ⟨_, ?_, by omega, a, m, rfl, i1, m1, by omega, by omega, i5, .inr (by omega)⟩
        refine (br_t (decide_eq_true hab)).trans ?_
        refine (q_of rfl).trans ?_
        refine (r_bs km).trans ?_
        dsimp only
        rw [e5]
        refine (br_t (decide_eq_true q)).trans ?_
        exact r_ret _
      · refine ⟨_, ?_, by omega, m, b, rfl, by omega, by omega, i3, by omega, fun w h1 h2 => ?_, i6⟩
        · refine (br_t (decide_eq_true hab)).trans ?_
          refine (q_of rfl).trans ?_
          refine (r_bs km).trans ?_
          dsimp only
          rw [e5]
          refine (br_f (decide_eq_false q)).trans ?_
          exact r_ret _
        · have := hcn.vmono (a := w) (b := t) (c := m) (d := t) (by omega) (by omega) (Int.mul_le_mul_of_nonneg_right (by omega) (by omega))
          omega
    · right
      have hab' : b = a + 1 := by omega
      subst hab'
      have hl := k4.len
      have w0' := k4.wl 0 (by omega)
      have ks : ref01xsign (gi c 0) (a + 1) t = some ((sgn (hz p (a + 1) t), ()), ()) := k_rsign w0' (by have := s7' 0; omega) (by decide) (by omega) (by omega) (by omega) (by omega)
      have e2 : IntKind.i64.wrap (a + 1 - 1) = a + 1 - 1 := w64' (by omega) (by omega)
      refine ⟨_, ?_, a + 1, ⟨by omega, i3, fun w h1 h2 => i5 w h1 (by omega), i6⟩, rfl⟩
      unfold rEnd
      refine (br_f (decide_eq_false hab)).trans ?_
      refine (q_of (inB_t' (by omega) (by omega))).trans ?_
      refine (r_bs ks).trans ?_
      by_cases q2 : hz p (a + 1) t = 0
      · refine (br_t (decide_eq_true (sgn_0.2 q2))).trans ?_
        rw [w2]
        refine (r_bs kd2).trans ?_
        by_cases q1 : a + 1 ≤ t * hi.1 / hi.2
        · rw [if_pos q1, if_pos q2]
          exact (br_t (decide_eq_true q1)).trans (r_ret _)
        · rw [if_neg q1]
          refine (br_f (decide_eq_false q1)).trans ?_
          refine (r_ret _).trans ?_
          rw [e2]
      · have e6 : (if a + 1 ≤ t * hi.1 / hi.2 then (if hz p (a + 1) t = 0 then (a + 1, a + 1) else (a + 1 - 1, a + 1)) else (a + 1 - 1, a + 1)) = (a + 1 - 1, a + 1) := by
          rw [if_neg q2]; split <;> rfl
        rw [e6]
        refine (br_f (decide_eq_false (fun h => q2 (sgn_0.1 h)))).trans ?_
        refine (r_ret _).trans ?_
        rw [e2]
  obtain ⟨o, k5, H, kH, rfl⟩ := key
  refine ⟨_, ?_, .inr (.inr ⟨hn1, H, kH, rfl⟩)⟩
  refine (r_bs k3).trans ?_
  refine (r_bs kl).trans ?_
  refine (r_bs kh).trans ?_
  dsimp only
  rw [w0, w1, w2]
  refine (br_f (decide_eq_false n0)).trans ?_
  refine (br_f (decide_eq_false n1)).trans ?_
  refine (r_bs kd).trans ?_
  refine (r_bs ku).trans ?_
  rw [r_iter]
  exact k5
end
end Go.Ab
