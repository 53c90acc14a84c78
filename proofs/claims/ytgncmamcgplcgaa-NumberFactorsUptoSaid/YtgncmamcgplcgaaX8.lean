/- NumberFactors. -/
import Derived.Test.YtgncmamcgplcgaaR1
import Derived.Test.YtgncmamcgplcgaaSH
import Derived.Test.YtgncmamcgplcgaaQLNumberFactors
namespace Go.Ab
open Go
set_option maxRecDepth 1000000
set_option maxHeartbeats 1000000
set_option linter.unusedVariables false
set_option linter.unusedSimpArgs false

/-! ### Products of factors -/
def pzn (f : Nat → Int) (z : Rat) : Nat → Rat
  | 0 => 1
  | n + 1 => pzn f z n * (z - ((f n : Int) : Rat))
theorem eI_prd {p q : List Int} (hp : 0 < p.length) (hq : 0 < q.length) (z : Rat) : eI (prd p q) z = eI p z * eI q z := by
  have hb := den_pos z
  have hb' := cast_pos hb
  have hne : ((z.den : Int) : Rat) ≠ 0 := by grind
  have h0 := hz_prd hp hq z.num (z.den : Int)
  have h1 := hs_es (gN (prd p q)) (prd p q).length (a := z.num) hne (prd p q).length (Nat.le_refl _)
  have h2 := hs_es (gN p) p.length (a := z.num) hne p.length (Nat.le_refl _)
  have h3 := hs_es (gN q) q.length (a := z.num) hne q.length (Nat.le_refl _)
  rw [← hz_eq, ← eI_es, rat_eq] at h1 h2 h3
  have hl : (prd p q).length = p.length + q.length - 1 := by unfold prd; rw [mulT_len]
  rw [hl] at h1
  rw [h0, Rat.intCast_mul] at h1
  have hk : kp ((z.den : Int) : Rat) (p.length + q.length - 1) * ((z.den : Int) : Rat) = kp ((z.den : Int) : Rat) p.length * kp ((z.den : Int) : Rat) q.length := by
    rw [← kp_succ, show p.length + q.length - 1 + 1 = p.length + q.length by omega]
    have : ∀ i j, kp ((z.den : Int) : Rat) (i + j) = kp ((z.den : Int) : Rat) i * kp ((z.den : Int) : Rat) j := by
      intro i j
      induction j with
      | zero => rw [Nat.add_zero, kp_0]; grind
      | succ j ih => rw [← Nat.add_assoc, kp_succ, ih, kp_succ]; grind
    exact this _ _
  have p1 := kp_pos hb' p.length
  have p2 := kp_pos hb' q.length
  generalize ((z.den : Int) : Rat) = b at *
  generalize kp b (p.length + q.length - 1) = A at *
  generalize kp b p.length = B at *
  generalize kp b q.length = C at *
  generalize ((hz p z.num z.den : Int) : Rat) = u at *
  generalize ((hz q z.num z.den : Int) : Rat) = v at *
  generalize eI (prd p q) z = X at *
  generalize eI p z = Y at *
  generalize eI q z = Z at *
  have hBC : B * C ≠ 0 := by
    intro h; rcases Rat.mul_eq_zero.1 h with h | h <;> grind
  have e1 : B * C * X = B * C * (Y * Z) := by
    have : B * C * X = b * (A * X) := by rw [← hk]; grind
    rw [this, ← h1]
    have : b * (u * v * b) = (u * b) * (v * b) := by grind
    rw [this, h2, h3]; grind
  have e2 : B * C * (X - Y * Z) = 0 := by grind
  rcases Rat.mul_eq_zero.1 e2 with h | h
  · exact absurd h hBC
  · grind
/-- The coefficients of a product by x + a. -/
theorem rowT_two (p : List Int) (a c : Int) (i : Nat) (o : List Int) (h : i + 1 < o.length) (k : Nat) : gN (rowT [a, 1] c i 2 o) k = gN o k + (if k = i then c * a else 0) + (if k = i + 1 then c else 0) := by
  have e0 : gN [a, 1] 0 = a := rfl
  have e1 : gN [a, 1] 1 = 1 := rfl
  rw [rowT, rowT, rowT, e0, e1, Nat.add_zero]
  rw [gN_set (by rw [List.length_set]; omega), gN_set (by omega), gN_set (by omega)]
  by_cases q : k = i + 1
  · subst q
    rw [if_pos rfl, if_neg (by omega), if_neg (by omega), if_pos rfl]; omega
  · rw [if_neg q, if_neg q]
    by_cases q2 : k = i
    · subst q2; rw [if_pos rfl, if_pos rfl]; omega
    · rw [if_neg q2, if_neg q2]; omega
theorem mulT_two (p : List Int) (a : Int) : ∀ i k, i ≤ p.length → gN (mulT p [a, 1] i) k = (if k < i then a * gN p k else 0) + (if 1 ≤ k ∧ k ≤ i then gN p (k - 1) else 0)
  | 0, k, _ => by
    rw [mulT, gN_rep, if_neg (by omega), if_neg (by omega)]; rfl
  | i + 1, k, h => by
    have ih := mulT_two p a i k (by omega)
    have hl : ([a, 1] : List Int).length = 2 := rfl
    rw [mulT, hl, rowT_two p a (gN p i) i _ (by rw [mulT_len]; simp; omega), ih]
    have hcm := Int.mul_comm a (gN p i)
    by_cases q : k = i
    · subst q
      repeat' split
      all_goals omega
    · by_cases q2 : k = i + 1
      · subst q2
        rw [Nat.add_sub_cancel]
        repeat' split
        all_goals omega
      · repeat' split
        all_goals omega
theorem pcE_of {p : List Int} (h1 : 1 ≤ p.length) (h2 : p.length ≤ 7) (h3 : ∀ i, -1000000 ≤ gN p i ∧ gN p i ≤ 1000000) (h4 : gN p (p.length - 1) ≠ 0) : pcE p = 0 := by
  unfold pcE
  rw [if_pos (by omega), firstErr_0 (fun j _ => by unfold coE; exact if_pos (h3 j))]
  unfold pcF
  rw [if_pos rfl, if_neg]
  rw [show ((p.length : Int) - 1) = ((p.length - 1 : Nat) : Int) by omega]
  exact h4
/-- What is known of the product of the first factors. -/
structure Fc (f : Nat → Int) (n : Nat) (p : List Int) : Prop where
  len : p.length = n + 1
  top : gN p n = 1
  bd : ∀ k, -(31 ^ n : Nat) ≤ gN p k ∧ gN p k ≤ (31 ^ n : Nat)
  val : ∀ z, eI p z = pzn f z n
theorem Fc.zero (f : Nat → Int) : Fc f 0 [1] := by
  refine ⟨rfl, rfl, fun k => ?_, fun z => ?_⟩
  · match k with
    | 0 => decide
    | k + 1 => rw [gN_out (by simp)]; decide
  · simp only [eI, toR, List.map, ev, pzn]
    have : ((1 : Int) : Rat) = 1 := rfl
    rw [this]; grind
theorem Fc.ok {f : Nat → Int} {n : Nat} {p : List Int} (h : Fc f n p) (hn : n ≤ 4) : pcE p = 0 := by
  have hp : (31 ^ n : Nat) ≤ 31 ^ 4 := Nat.pow_le_pow_right (by decide) hn
  have e4 : (31 ^ 4 : Nat) = 923521 := by decide
  have hl := h.len
  refine pcE_of (by omega) (by omega) (fun i => by have := h.bd i; omega) ?_
  rw [hl, Nat.add_sub_cancel, h.top]; decide
theorem pcE_lin {r : Int} (h1 : -30 ≤ r) (h2 : r ≤ 30) : pcE [-r, 1] = 0 := by
  refine pcE_of (by simp) (by simp) (fun i => ?_) (by show (1 : Int) ≠ 0; decide)
  match i with
  | 0 => show -1000000 ≤ -r ∧ -r ≤ 1000000; omega
  | 1 => show -1000000 ≤ (1 : Int) ∧ (1 : Int) ≤ 1000000; decide
  | i + 2 => rw [gN_out (by simp)]; decide
theorem Fc.next {f : Nat → Int} {n : Nat} {p : List Int} (h : Fc f n p) (h1 : -30 ≤ f n) (h2 : f n ≤ 30) : Fc f (n + 1) (prd p [-(f n), 1]) := by
  have hl := h.len
  have e2 : ∀ k, gN (prd p [-(f n), 1]) k = (if k < p.length then -(f n) * gN p k else 0) + (if 1 ≤ k ∧ k ≤ p.length then gN p (k - 1) else 0) := fun k => mulT_two p _ p.length k (Nat.le_refl _)
  refine ⟨?_, ?_, fun k => ?_, fun z => ?_⟩
  · unfold prd; rw [mulT_len]; simp; omega
  · rw [e2, if_neg (by omega), if_pos (by omega), Nat.add_sub_cancel, h.top]; rfl
  · rw [e2]
    have b1 := h.bd k
    have b2 := h.bd (k - 1)
    have e3 : (31 ^ (n + 1) : Nat) = 31 ^ n * 31 := Nat.pow_succ 31 n
    rw [e3]
    have m := mul_bd (a := -(f n)) (m := 30) (b := gN p k) (n := (31 ^ n : Nat)) (by omega) (by omega) b1.1 b1.2
    generalize (31 ^ n : Nat) = M at *
    generalize -(f n) * gN p k = w at *
    split <;> split <;> omega
  · rw [eI_prd (by omega) (by simp), h.val, pzn]
    congr 1
    simp only [eI, toR, List.map, ev]
    have : ((1 : Int) : Rat) = 1 := rfl
    rw [this, Rat.intCast_neg]; grind
/-- Away from all roots the product is away from 0. -/
theorem pzn_away {f : Nat → Int} {z t : Rat} (ht : 0 < t) : ∀ n, (∀ j, j < n → t ≤ z - ((f j : Int) : Rat) ∨ z - ((f j : Int) : Rat) ≤ -t) → kp t n ≤ pzn f z n ∨ pzn f z n ≤ -kp t n
  | 0, _ => .inl (by simp only [kp, pzn]; exact Rat.le_refl)
  | n + 1, h => by
    have ih := pzn_away ht n (fun j hj => h j (by omega))
    have hk := kp_pos ht n
    rw [kp_succ, pzn]
    have hh := h n (by omega)
    generalize z - ((f n : Int) : Rat) = a at *
    generalize pzn f z n = b at *
    generalize kp t n = c at *
    rcases ih with i | i <;> rcases hh with q | q
    · left
      have := Rat.mul_nonneg (show 0 ≤ b - c by grind) (show 0 ≤ a by grind)
      have := Rat.mul_nonneg (show 0 ≤ c by grind) (show 0 ≤ a - t by grind)
      grind
    · right
      have := Rat.mul_nonneg (show 0 ≤ b - c by grind) (show 0 ≤ -a by grind)
      have := Rat.mul_nonneg (show 0 ≤ c by grind) (show 0 ≤ -a - t by grind)
      grind
    · right
      have := Rat.mul_nonneg (show 0 ≤ -b - c by grind) (show 0 ≤ a by grind)
      have := Rat.mul_nonneg (show 0 ≤ c by grind) (show 0 ≤ a - t by grind)
      grind
    · left
      have := Rat.mul_nonneg (show 0 ≤ -b - c by grind) (show 0 ≤ -a by grind)
      have := Rat.mul_nonneg (show 0 ≤ c by grind) (show 0 ≤ -a - t by grind)
      grind
theorem pzn_zero {f : Nat → Int} {r : Int} : ∀ n, (∃ j, j < n ∧ f j = r) → pzn f (r : Rat) n = 0
  | 0, ⟨j, hj, _⟩ => by omega
  | n + 1, ⟨j, hj, hr⟩ => by
    rw [pzn]
    by_cases q : j = n
    · subst q; rw [hr]; grind
    · rw [pzn_zero n ⟨j, by omega, hr⟩]; grind
theorem icast_le {a b : Int} (h : a ≤ b) : (a : Rat) ≤ (b : Rat) := Rat.intCast_le_intCast.2 h
theorem icast_succ (k : Int) : ((k + 1 : Int) : Rat) = (k : Rat) + 1 := by rw [Rat.intCast_add]; rfl
/-- From a whole number to the next one the changes fall where that is a root. -/
theorem Fc.step {f : Nat → Int} {n : Nat} {p : List Int} (h : Fc f n p) {e : Nat} (hc : Chn p e) (k : Int) [Decidable (∃ j, j < n ∧ f j = k + 1)] : vq p e (k : Rat) = vq p e ((k + 1 : Int) : Rat) + (if ∃ j, j < n ∧ f j = k + 1 then 1 else 0) := by
  by_cases q : ∃ j, j < n ∧ f j = k + 1
  · rw [if_pos q]
    refine hc.root_one (by rw [icast_succ]; grind) (by rw [h.val]; exact pzn_zero n q) ⟨1, by decide, fun t t1 t2 => ⟨kp t n, kp_pos t1 n, fun z z1 z2 => ?_⟩⟩
    rw [h.val]
    refine pzn_away t1 n fun j hj => ?_
    rcases Int.lt_or_le k (f j) with c | c
    · right
      have := icast_le (show k + 1 ≤ f j by omega)
      grind
    · left
      have := icast_le c
      grind
  · rw [if_neg q, Int.add_zero]
    refine hc.flat (by rw [icast_succ]; grind) ⟨1 / 2, by grind, fun t t1 t2 => ⟨kp t n, kp_pos t1 n, fun z z1 z2 => ?_⟩⟩
    rw [h.val]
    refine pzn_away t1 n fun j hj => ?_
    have hne : f j ≠ k + 1 := fun hh => q ⟨j, hj, hh⟩
    rw [icast_succ] at z2
    rcases Int.lt_or_le k (f j) with c | c
    · right
      have := icast_le (show k + 1 + 1 ≤ f j by omega)
      rw [icast_succ, icast_succ] at this
      grind
    · left
      have := icast_le c
      grind
/-- How many members are at most k. -/
def cn : List Int → Int → Int
  | [], _ => 0
  | a :: l, k => (if a ≤ k then 1 else 0) + cn l k
theorem cn_snoc (l : List Int) (x k : Int) : cn (l ++ [x]) k = cn l k + if x ≤ k then 1 else 0 := by
  induction l with
  | nil => simp [cn]
  | cons a l ih => simp only [List.cons_append, cn, ih]; omega
theorem cn_none {l : List Int} {k : Int} (h : ∀ x, x ∈ l → k < x) : cn l k = 0 := by
  induction l with
  | nil => rfl
  | cons a l ih =>
    rw [cn, ih (fun x hx => h x (by simp [hx])), if_neg (by have := h a (by simp); omega)]; rfl
theorem cn_all {l : List Int} {k : Int} (h : ∀ x, x ∈ l → x ≤ k) : cn l k = l.length := by
  induction l with
  | nil => rfl
  | cons a l ih =>
    rw [cn, ih (fun x hx => h x (by simp [hx])), if_pos (h a (by simp)), List.length_cons]; omega
structure Ins (f : Nat → Int) (lo hi : Int) (n : Nat) (l : List Int) : Prop where
  mem : ∀ x, x ∈ l ↔ (∃ j, j < n ∧ f j = x) ∧ lo < x ∧ x ≤ hi
  cnt : ∀ k, cn l (k + 1) = cn l k + if k + 1 ∈ l then 1 else 0
  le : l.length ≤ n
theorem Ins.zero (f : Nat → Int) (lo hi : Int) : Ins f lo hi 0 [] := ⟨fun x => ⟨fun h => by simp at h, fun ⟨⟨j, hj, _⟩, _⟩ => by omega⟩, fun k => rfl, Nat.le_refl _⟩
theorem Ins.skip {f : Nat → Int} {lo hi : Int} {n : Nat} {l : List Int} (h : Ins f lo hi n l) (hs : ¬ (lo < f n ∧ f n ≤ hi) ∨ f n ∈ l) : Ins f lo hi (n + 1) l := by
  refine ⟨fun x => ⟨fun hx => ?_, fun ⟨⟨j, hj, hr⟩, hb⟩ => ?_⟩, h.cnt, by have := h.le; omega⟩
  · obtain ⟨⟨j, hj, hr⟩, hb⟩ := (h.mem x).1 hx
    exact ⟨⟨j, by omega, hr⟩, hb⟩
  · by_cases q : j = n
    · subst q
      rcases hs with s | s
      · rw [hr] at s; exact absurd hb s
      · rw [← hr]; exact s
    · exact (h.mem x).2 ⟨⟨j, by omega, hr⟩, hb⟩
theorem Ins.add {f : Nat → Int} {lo hi : Int} {n : Nat} {l : List Int} (h : Ins f lo hi n l) (h1 : lo < f n) (h2 : f n ≤ hi) (h3 : f n ∉ l) : Ins f lo hi (n + 1) (l ++ [f n]) := by
  refine ⟨fun x => ⟨fun hx => ?_, fun ⟨⟨j, hj, hr⟩, hb⟩ => ?_⟩, fun k => ?_, by have := h.le; simp; omega⟩
  · rw [List.mem_append, List.mem_singleton] at hx
    rcases hx with hx | hx
    · obtain ⟨⟨j, hj, hr⟩, hb⟩ := (h.mem x).1 hx
      exact ⟨⟨j, by omega, hr⟩, hb⟩
    · subst hx; exact ⟨⟨n, by omega, rfl⟩, h1, h2⟩
  · rw [List.mem_append, List.mem_singleton]
    by_cases q : j = n
    · subst q; right; exact hr.symm
    · left; exact (h.mem x).2 ⟨⟨j, by omega, hr⟩, hb⟩
  · rw [cn_snoc, cn_snoc, h.cnt]
    by_cases q : k + 1 ∈ l
    · have hne : f n ≠ k + 1 := fun hh => h3 (by rw [hh]; exact q)
      rw [if_pos q, if_pos (show k + 1 ∈ l ++ [f n] by simp [q])]
      split <;> split <;> omega
    · rw [if_neg q]
      by_cases q2 : f n = k + 1
      · rw [if_pos (show k + 1 ∈ l ++ [f n] by simp [q2]), if_pos (by omega), if_neg (by omega)]; try omega
      · rw [if_neg (show ¬ k + 1 ∈ l ++ [f n] by simp [q]; omega)]
        split <;> split <;> omega
open Classical in
theorem Fc.count {f : Nat → Int} {n : Nat} {p : List Int} (h : Fc f n p) {e : Nat} (hc : Chn p e) {lo hi : Int} {l : List Int} (hi' : Ins f lo hi n l) : ∀ m : Nat, lo + m ≤ hi → vq p e (lo : Rat) - vq p e ((lo + m : Int) : Rat) = cn l (lo + m)
  | 0, _ => by
    have e0 : lo + ((0 : Nat) : Int) = lo := by omega
    rw [e0, cn_none (fun x hx => ((hi'.mem x).1 hx).2.1)]; try omega
  | m + 1, hm => by
    have ih := Fc.count h hc hi' m (by omega)
    have e1 : lo + ((m + 1 : Nat) : Int) = lo + m + 1 := by omega
    have s := h.step hc (lo + m)
    rw [e1, hi'.cnt]
    have hiff : (∃ j, j < n ∧ f j = lo + m + 1) ↔ lo + m + 1 ∈ l := by
      rw [hi'.mem]
      exact ⟨fun h => ⟨h, by omega, by omega⟩, fun h => h.1⟩
    by_cases q : lo + m + 1 ∈ l
    · rw [if_pos q]; rw [if_pos (hiff.2 q)] at s; omega
    · rw [if_neg q]; rw [if_neg (fun hh => q (hiff.1 hh))] at s; omega
theorem vv_one {p : List Int} {e : Nat} (hc : Chn p e) (x : Int) : vv p e x 1 = vq p e (x : Rat) := by
  rw [hc.vv_eq (by decide)]
  congr 1
  have : ((1 : Int) : Rat) = 1 := rfl
  rw [this]; grind
/-- The program's enclosure of a root. -/
theorem Fc.enc {f : Nat → Int} {n : Nat} {p : List Int} (h : Fc f n p) (hn : n ≤ 4) {x : Int} (hx : ∃ j, j < n ∧ f j = x) (h1 : -50 ≤ x) (h2 : x ≤ 50) : number_RootIn p (x - 1, 1) (x, 1) 7 = some (((7 * x, 7 * x), 0, ()), ()) := by
  have pc := h.ok hn
  have sl : Small (x - 1, 1) := small_one (by omega) (by omega)
  have sh : Small (x, 1) := small_one (by omega) (by omega)
  have hb := bdE_of pc sl sh (by show (x - 1) * 1 < x * 1; omega)
  obtain ⟨e, hc, r, k, ri⟩ := k_RootIn (t := 7) sl.i1 sl.i2 sh.i1 sh.i2 hb (by decide) (by decide)
  rw [k]
  have hz0 : eI p (x : Rat) = 0 := by rw [h.val]; exact pzn_zero n hx
  have hone : vv p e (x - 1) 1 - vv p e x 1 = 1 := by
    rw [vv_one hc, vv_one hc]
    have s := @Fc.step f n p h e hc (x - 1) (Classical.propDecidable _)
    rw [show x - 1 + 1 = x by omega, if_pos hx] at s
    omega
  rcases ri with ⟨q, _⟩ | ⟨q, _⟩ | ⟨_, H, hH, rfl⟩
  · change vv p e (x - 1) 1 - vv p e x 1 = 0 at q; omega
  · change 1 < vv p e (x - 1) 1 - vv p e x 1 at q; omega
  · have hu : upQ (7 * x) 1 = 7 * x := by unfold upQ; omega
    have hd : 7 * x / 1 = 7 * x := by omega
    have hle : H ≤ upQ (7 * x) 1 := hH.le
    have hat : H = upQ (7 * x) 1 ∨ vv p e H 7 = vv p e x 1 := hH.at_
    rw [hu] at hle hat
    have hHx : H = 7 * x := by
      rcases hat with a | a
      · exact a
      · by_cases q : H = 7 * x
        · exact q
        exfalso
        have hlt : (H : Rat) / ((7 : Int) : Rat) < (x : Rat) := by
          have := frac_lt (a := H) (b := 7) (c := x) (d := 1) (by decide) (by decide) (by omega)
          have e1 : ((1 : Int) : Rat) = 1 := rfl
          rw [e1] at this
          grind
        have r := hc.root hlt hz0
        rw [← hc.vv_eq (by decide), ← vv_one hc] at r
        omega
    subst hHx
    have e1 : rEnd p (x, 1) 7 (7 * x) = (7 * x, 7 * x) := by
      unfold rEnd
      rw [if_pos (by dsimp only; omega), if_pos]
      have k0 : eI p (((7 * x : Int) : Rat) / ((7 : Int) : Rat)) = 0 := by
        have : ((7 * x : Int) : Rat) / ((7 : Int) : Rat) = (x : Rat) := by
          rw [Rat.intCast_mul]
          have e7 : ((7 : Int) : Rat) = 7 := rfl
          rw [e7]; grind
        rw [this]; exact hz0
      have := sgn_hz p (a := 7 * x) (b := 7) (by decide)
      rw [k0, sgR_zero] at this
      exact sgn_0.1 this
    rw [e1]
theorem k_Has {l : List Int} (hl : l.length ≤ 1048576) (n : Int) : ∃ b : Bool, base_Has l n = some ((b, ()), ()) ∧ (b = true ↔ n ∈ l) := by
  have key : ∃ r, iterF (fun q_ => (T_base_Has_l0 l n q_.1).run) FUEL (0, ()) = some r ∧ ∃ b : Bool, r = ((b, ()), ()) ∧ (b = true ↔ n ∈ l) := by
    refine iter_post (fun i st => st = ((i : Int), ()) ∧ ∀ j : Nat, j < i → gN l j ≠ n) _ l.length (by omega) ?_ ⟨rfl, fun j hj => by omega⟩
    rintro i st hi ⟨rfl, hj⟩
    simp only [T_base_Has_l0]
    by_cases h0 : i < l.length
    · by_cases q : gi l (i : Int) = n
      · right
        refine ⟨_, (br_t (decide_eq_true (by omega))).trans ((q_of (inB_t' (by omega) (by omega))).trans ((br_t (decide_eq_true q)).trans (r_ret _))), true, rfl, ⟨fun _ => ?_, fun _ => rfl⟩⟩
        rw [← q]; exact gi_mem (by omega) (by omega)
      · left
        have e1 : IntKind.i64.wrap ((i : Int) + 1) = ((i + 1 : Nat) : Int) := by rw [w64' (by omega) (by omega)]; omega
        refine ⟨_, (br_t (decide_eq_true (by omega))).trans ((q_of (inB_t' (by omega) (by omega))).trans ((br_f (decide_eq_false q)).trans (r_ret _))), h0, by rw [e1], fun j hj' => ?_⟩
        by_cases e : j = i
        · rw [e]; exact q
        · exact hj j (by omega)
    · right
      have : i = l.length := by omega
      subst this
      refine ⟨_, (br_f (decide_eq_false (by omega))).trans (r_ret _), false, rfl, ⟨fun h => (by cases h), fun h => ?_⟩⟩
      obtain ⟨j, hj1, hj2⟩ := List.getElem_of_mem h
      have := hj j hj1
      rw [gN, gi_nat hj1] at this
      exact absurd hj2 this
  obtain ⟨r, k, b, rfl, hb⟩ := key
  exact ⟨b, by simp only [base_Has, T_base_Has, r_iter]; exact k, hb⟩
theorem k_NumberFactors {roots : List (Int)} {lo : Int} {hi : Int} (b0 : bulkT (.list (.int .i64)) roots ≤ 1048576) (w0 : wfT (.list (.int .i64)) roots) (b1 : bulkT (.int .i64) lo ≤ 1048576) (w1 : wfT (.int .i64) lo) (b2 : bulkT (.int .i64) hi ≤ 1048576) (w2 : wfT (.int .i64) hi) : law01xNumberFactors roots lo hi = some ((true, ()), ()) := by
  show (T_law01xNumberFactors roots lo hi).run = _
  unfold T_law01xNumberFactors
  rw [r_bind, awake_ok, Option.bind_some]
  refine (br_f rfl).trans ?_
  by_cases hl : 4 < (roots.length : Int)
  · exact (br_t (decide_eq_true hl)).trans (r_ret _)
  refine (br_f (decide_eq_false hl)).trans ?_
  refine (r_bs (k_Within lo (-50) 50)).trans ?_
  by_cases c1 : -50 ≤ lo ∧ lo ≤ 50
  case neg => exact (br_t (nd' c1)).trans (r_ret _)
  refine (br_f (nd c1)).trans ?_
  rw [w64' (x := lo + 1) (by omega) (by omega)]
  refine (r_bs (k_Within hi (lo + 1) 50)).trans ?_
  by_cases c2 : lo + 1 ≤ hi ∧ hi ≤ 50
  case neg => exact (br_t (nd' c2)).trans (r_ret _)
  refine (br_f (nd c2)).trans ?_
  refine (q_of rfl).trans ?_
  rw [r_iter]
  refine iter_eq (fun i st => i ≤ roots.length ∧ ∃ p l, st = (p, l, (i : Int), ()) ∧ Fc (gN roots) i p ∧ Ins (gN roots) lo hi i l) _ roots.length (by omega) ?_ ⟨Nat.zero_le _, [1], [], rfl, Fc.zero _, Ins.zero _ _ _⟩
  rintro i st hi' ⟨_, p, l, rfl, hf, hn⟩
  have hpl := hf.len
  have hll := hn.le
  simp only [T_law01xNumberFactors_l3]
  by_cases h0 : i < roots.length
  · -- one factor more
    have e1 : IntKind.i64.wrap ((i : Int) + 1) = ((i + 1 : Nat) : Int) := by rw [w64' (by omega) (by omega)]; omega
    have hin : inB (i : Int) roots.length = true := inB_t' (by omega) (by omega)
    rw [e1]
    by_cases c3 : -30 ≤ gi roots (i : Int) ∧ gi roots (i : Int) ≤ 30
    case neg =>
      right
      refine (br_t (decide_eq_true (by omega))).trans ?_
      refine (q_of hin).trans ?_
      refine (r_bs (k_Within (gi roots (i : Int)) (-30) 30)).trans ?_
      exact (br_t (nd' c3)).trans (r_ret _)
    left
    have hnext := hf.next c3.1 c3.2
    have pk := hnext.ok (by omega)
    have kt : number_Times p [-gi roots (i : Int), 1] = some ((prd p [-gi roots (i : Int), 1], 0, ()), ()) := by
      rw [k_Times]
      have : pc2 p [-gi roots (i : Int), 1] = 0 := by unfold pc2; rw [if_pos (hf.ok (by omega))]; exact pcE_lin c3.1 c3.2
      rw [if_pos this]
      unfold toldV
      rw [if_pos pk, if_pos pk]
    have e2 : IntKind.i64.wrap (0 - gi roots (i : Int)) = -gi roots (i : Int) := by rw [w64' (by omega) (by omega)]; omega
    by_cases c4 : lo < gi roots (i : Int)
    · by_cases c5 : gi roots (i : Int) ≤ hi
      · obtain ⟨b, kb, hb⟩ := k_Has (l := l) (by omega) (gi roots (i : Int))
        cases b with
        | true =>
          refine ⟨(prd p [-gi roots (i : Int), 1], l, ((i + 1 : Nat) : Int), ()), ?_, h0, h0, _, _, rfl, hnext, hn.skip (.inr (hb.1 rfl))⟩
          refine (br_t (decide_eq_true (by omega))).trans ?_
          refine (q_of hin).trans ?_
          refine (r_bs (k_Within (gi roots (i : Int)) (-30) 30)).trans ?_
          refine (br_f (nd c3)).trans ?_
          refine (r_bs (k_CopyInts (by omega))).trans ?_
          rw [e2]
          refine (r_bs kt).trans ?_
          refine (br_f rfl).trans ?_
          refine (br_t (decide_eq_true c4)).trans ?_
          refine (br_t (decide_eq_true c5)).trans ?_
          refine (r_bs kb).trans ?_
          refine (br_f rfl).trans ?_
          refine (q_of (b := decide True) rfl).trans ?_
          exact r_ret _
        | false =>
          have hnm : gN roots i ∉ l := fun h => by have := hb.2 h; cases this
          refine ⟨(prd p [-gi roots (i : Int), 1], l ++ [gi roots (i : Int)], ((i + 1 : Nat) : Int), ()), ?_, h0, h0, _, _, rfl, hnext, hn.add c4 c5 hnm⟩
          refine (br_t (decide_eq_true (by omega))).trans ?_
          refine (q_of hin).trans ?_
          refine (r_bs (k_Within (gi roots (i : Int)) (-30) 30)).trans ?_
          refine (br_f (nd c3)).trans ?_
          refine (r_bs (k_CopyInts (by omega))).trans ?_
          rw [e2]
          refine (r_bs kt).trans ?_
          refine (br_f rfl).trans ?_
          refine (br_t (decide_eq_true c4)).trans ?_
          refine (br_t (decide_eq_true c5)).trans ?_
          refine (r_bs kb).trans ?_
          refine (br_t rfl).trans ?_
          refine (q_of (b := decide True) rfl).trans ?_
          refine (q_of (app_t' (by simp; omega) (by simp; omega))).trans ?_
          refine req_len'.trans ?_
          exact r_ret _
      · refine ⟨(prd p [-gi roots (i : Int), 1], l, ((i + 1 : Nat) : Int), ()), ?_, h0, h0, _, _, rfl, hnext, hn.skip (.inl (fun h => c5 h.2))⟩
        refine (br_t (decide_eq_true (by omega))).trans ?_
        refine (q_of hin).trans ?_
        refine (r_bs (k_Within (gi roots (i : Int)) (-30) 30)).trans ?_
        refine (br_f (nd c3)).trans ?_
        refine (r_bs (k_CopyInts (by omega))).trans ?_
        rw [e2]
        refine (r_bs kt).trans ?_
        refine (br_f rfl).trans ?_
        refine (br_t (decide_eq_true c4)).trans ?_
        refine (br_f (decide_eq_false c5)).trans ?_
        refine (q_of (b := decide True) rfl).trans ?_
        exact r_ret _
    · refine ⟨(prd p [-gi roots (i : Int), 1], l, ((i + 1 : Nat) : Int), ()), ?_, h0, h0, _, _, rfl, hnext, hn.skip (.inl (fun h => c4 h.1))⟩
      refine (br_t (decide_eq_true (by omega))).trans ?_
      refine (q_of hin).trans ?_
      refine (r_bs (k_Within (gi roots (i : Int)) (-30) 30)).trans ?_
      refine (br_f (nd c3)).trans ?_
      refine (r_bs (k_CopyInts (by omega))).trans ?_
      rw [e2]
      refine (r_bs kt).trans ?_
      refine (br_f rfl).trans ?_
      refine (br_f (decide_eq_false c4)).trans ?_
      refine (q_of (b := decide True) rfl).trans ?_
      exact r_ret _
  · right
    have hie : i = roots.length := by omega
    subst hie
    have pk := hf.ok (by omega)
    have sl : Small (lo, 1) := small_one (by omega) (by omega)
    have sh : Small (hi, 1) := small_one (by omega) (by omega)
    have hlt : (lo, (1 : Int)).1 * (hi, (1 : Int)).2 < (hi, (1 : Int)).1 * (lo, (1 : Int)).2 := by show lo * 1 < hi * 1; omega
    obtain ⟨e, _, c, kc⟩ := k_RootsIn (bdE_of pk sl sh hlt) sl.i1 sl.i2 sh.i1 sh.i2
    have hc := kc.chn pk
    have k1 := k_RI pk sl sh hlt hc
    have hcount : vv p e lo 1 - vv p e hi 1 = (l.length : Int) := by
      rw [vv_one hc, vv_one hc]
      have := hf.count hc hn (hi - lo).toNat (by omega)
      rw [show lo + (((hi - lo).toNat : Nat) : Int) = hi by omega] at this
      rw [this]
      exact cn_all (fun x hx => ((hn.mem x).1 hx).2.2)
    change number_RootsIn p (lo, 1) (hi, 1) = some ((vv p e lo 1 - vv p e hi 1, 0, ()), ()) at k1
    rw [hcount] at k1
    refine (br_f (decide_eq_false (by omega))).trans ?_
    refine (r_bs (k_CopyInts (by omega))).trans ?_
    refine (r_bs k1).trans ?_
    refine (br_f rfl).trans ?_
    refine (br_f (nd rfl)).trans ?_
    rw [r_iter]
    refine iter_eq (fun i st => i ≤ l.length ∧ st = ((i : Int), ())) _ l.length (by omega) ?_ ⟨Nat.zero_le _, rfl⟩
    rintro i st hi2 ⟨_, rfl⟩
    simp only [T_law01xNumberFactors_l10]
    by_cases h3 : i < l.length
    · left
      have hm := gi_mem (l := l) (i := (i : Int)) (by omega) (by omega)
      obtain ⟨hx, hx1, hx2⟩ := (hn.mem _).1 hm
      have e1 : IntKind.i64.wrap ((i : Int) + 1) = ((i + 1 : Nat) : Int) := by rw [w64' (by omega) (by omega)]; omega
      have hin : inB (i : Int) l.length = true := inB_t' (by omega) (by omega)
      rw [w64' (x := gi l (i : Int) - 1) (by omega) (by omega), w64' (x := 7 * gi l (i : Int)) (by omega) (by omega), e1]
      have ke := hf.enc (by omega) hx (by omega) (by omega)
      refine ⟨_, ?_, h3, h3, rfl⟩
      refine (br_t (decide_eq_true (by omega))).trans ?_
      refine (r_bs (k_CopyInts (by omega))).trans ?_
      refine (q_of hin).trans ?_
      refine (q_of hin).trans ?_
      refine (r_bs ke).trans ?_
      refine (br_f rfl).trans ?_
      refine (q_of hin).trans ?_
      refine (q_of hin).trans ?_
      refine (br_f (same2 _ _)).trans ?_
      exact r_ret _
    · right
      exact (br_f (decide_eq_false (by omega))).trans (r_ret _)
end Go.Ab
