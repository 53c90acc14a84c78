/- Sines and cosines: polynomials with rational coefficients; the rounded series of the program and of the reference; how far they lie from each other. -/
import Derived.Test.YtgncmamcgplcgaaB1
namespace Go.Ab
set_option linter.unusedVariables false
set_option maxRecDepth 100000

def ev : List Rat → Rat → Rat
  | [], _ => 0
  | c :: l, z => c + z * ev l z
def pad : List Rat → List Rat → List Rat
  | [], m => m
  | a :: l, [] => a :: l
  | a :: l, b :: m => (a + b) :: pad l m
def psc (k : Rat) : List Rat → List Rat
  | [] => []
  | a :: l => k * a :: psc k l
def pmul : List Rat → List Rat → List Rat
  | [], _ => []
  | a :: l, m => pad (psc a m) (0 :: pmul l m)
/-- The polynomial at a + b y. -/
def pcomp (a b : Rat) : List Rat → List Rat
  | [] => []
  | c :: l => pad [c] (pad (psc a (pcomp a b l)) (0 :: psc b (pcomp a b l)))
def rabs (a : Rat) : Rat := if a < 0 then -a else a
/-- A bound of a polynomial's size from 0 to Z. -/
def bnd (Z : Rat) : List Rat → Rat
  | [] => 0
  | c :: l => rabs c + Z * bnd Z l
/-- A bound of its slope there. -/
def lip (Z : Rat) : List Rat → Rat
  | [] => 0
  | c :: l => Z * lip Z l + bnd Z l

theorem rabs_le (a : Rat) : a ≤ rabs a ∧ -rabs a ≤ a ∧ 0 ≤ rabs a := by
  unfold rabs; split <;> grind
theorem ev_pad (l m : List Rat) (z : Rat) : ev (pad l m) z = ev l z + ev m z := by
  induction l generalizing m with
  | nil => simp [pad, ev, Rat.zero_add]
  | cons a l ih => cases m with
    | nil => simp [pad, ev, Rat.add_zero]
    | cons b m => simp only [pad, ev, ih]; grind
theorem ev_psc (k : Rat) (l : List Rat) (z : Rat) : ev (psc k l) z = k * ev l z := by
  induction l with
  | nil => simp [psc, ev, Rat.mul_zero]
  | cons a l ih => simp only [psc, ev, ih]; grind
theorem ev_pmul (l m : List Rat) (z : Rat) : ev (pmul l m) z = ev l z * ev m z := by
  induction l with
  | nil => simp [pmul, ev, Rat.zero_mul]
  | cons a l ih => simp only [pmul, ev_pad, ev_psc, ev, ih]; grind
theorem ev_pcomp (a b : Rat) (l : List Rat) (y : Rat) : ev (pcomp a b l) y = ev l (a + b * y) := by
  induction l with
  | nil => rfl
  | cons c l ih => simp only [pcomp, ev_pad, ev_psc, ev, ih]; grind
theorem bnd_nn {Z : Rat} (hZ : 0 ≤ Z) (l : List Rat) : 0 ≤ bnd Z l := by
  induction l with
  | nil => simp [bnd]
  | cons c l ih => 
    have h1 := (rabs_le c).2.2
    have h2 := Rat.mul_nonneg hZ ih
    simp only [bnd]; grind
theorem ev_bnd {Z z : Rat} (h0 : 0 ≤ z) (h : z ≤ Z) (l : List Rat) : -bnd Z l ≤ ev l z ∧ ev l z ≤ bnd Z l := by
  induction l with
  | nil => simp [bnd, ev]
  | cons c l ih =>
    have hB := bnd_nn (Z := Z) (by grind) l
    obtain ⟨a1, a2, a3⟩ := rabs_le c
    have h1 := Rat.mul_nonneg (a := Z - z) (b := bnd Z l) (by grind) hB
    have h2 := Rat.mul_nonneg (a := z) (b := bnd Z l - ev l z) h0 (by grind)
    have h3 := Rat.mul_nonneg (a := z) (b := bnd Z l + ev l z) h0 (by grind)
    simp only [bnd, ev]
    constructor <;> grind
theorem lip_nn {Z : Rat} (hZ : 0 ≤ Z) (l : List Rat) : 0 ≤ lip Z l := by
  induction l with
  | nil => simp [lip]
  | cons c l ih => 
    have h1 := bnd_nn hZ l
    have h2 := Rat.mul_nonneg hZ ih
    simp only [lip]; grind
theorem ev_lip {Z a b : Rat} (h0 : 0 ≤ a) (hab : a ≤ b) (h : b ≤ Z) (l : List Rat) : -((b - a) * lip Z l) ≤ ev l b - ev l a ∧ ev l b - ev l a ≤ (b - a) * lip Z l := by
  induction l with
  | nil => simp only [lip, ev]; constructor <;> grind
  | cons c l ih =>
    obtain ⟨b1, b2⟩ := ev_bnd (Z := Z) (z := b) (by grind) h l
    have hL := lip_nn (Z := Z) (by grind) l
    have k0 : 0 ≤ b - a := by grind
    have h1 := Rat.mul_nonneg k0 (show 0 ≤ bnd Z l - ev l b by grind)
    have h2 := Rat.mul_nonneg k0 (show 0 ≤ bnd Z l + ev l b by grind)
    have h3 := Rat.mul_nonneg h0 (show 0 ≤ (b - a) * lip Z l - (ev l b - ev l a) by grind)
    have h4 := Rat.mul_nonneg h0 (show 0 ≤ (b - a) * lip Z l + (ev l b - ev l a) by grind)
    have h5 := Rat.mul_nonneg (show 0 ≤ Z - a by grind) (Rat.mul_nonneg k0 hL)
    simp only [lip, ev]
    constructor <;> grind

def fac : Nat → Nat
  | 0 => 1
  | n + 1 => (n + 1) * fac n
def sinL : List Rat := [0, 1, 0, -(1/6), 0, 1/120, 0, -(1/5040), 0, 1/362880, 0, -(1/39916800), 0, 1/6227020800, 0, -(1/1307674368000), 0, 1/355687428096000, 0, -(1/121645100408832000), 0, 1/51090942171709440000]
def cosL : List Rat := [1, 0, -(1/2), 0, 1/24, 0, -(1/720), 0, 1/40320, 0, -(1/3628800), 0, 1/479001600, 0, -(1/87178291200), 0, 1/20922789888000, 0, -(1/6402373705728000), 0, 1/2432902008176640000]
def sin13 : List Rat := [0, 1, 0, -(1/6), 0, 1/120, 0, -(1/5040), 0, 1/362880, 0, -(1/39916800), 0, 1/6227020800]
def sinT : List Rat := [0, 0, 0, 0, 0, 0, 0, 0, 0, 0, 0, 0, 0, 0, 0, -(1/1307674368000), 0, 1/355687428096000, 0, -(1/121645100408832000), 0, 1/51090942171709440000]
def cos12 : List Rat := [1, 0, -(1/2), 0, 1/24, 0, -(1/720), 0, 1/40320, 0, -(1/3628800), 0, 1/479001600]
def cosT : List Rat := [0, 0, 0, 0, 0, 0, 0, 0, 0, 0, 0, 0, 0, 0, -(1/87178291200), 0, 1/20922789888000, 0, -(1/6402373705728000), 0, 1/2432902008176640000]
abbrev hP : Rat := 1570796327 / 1000000000
theorem sin_split (z : Rat) : ev sinL z = ev sin13 z + ev sinT z := by
  rw [← ev_pad]; congr 1; decide +kernel
theorem cos_split (z : Rat) : ev cosL z = ev cos12 z + ev cosT z := by
  rw [← ev_pad]; congr 1; decide +kernel
theorem sin_tail {z : Rat} (h0 : 0 ≤ z) (h : z ≤ 1571/1000) : -(1/1000000000) ≤ ev sinT z ∧ ev sinT z ≤ 1/1000000000 := by
  have := ev_bnd h0 h sinT
  have k : bnd (1571/1000) sinT ≤ 1/1000000000 := by decide +kernel
  constructor <;> grind
theorem cos_tail {z : Rat} (h0 : 0 ≤ z) (h : z ≤ 1) : -(1/10000000000) ≤ ev cosT z ∧ ev cosT z ≤ 1/10000000000 := by
  have := ev_bnd h0 h cosT
  have k : bnd 1 cosT ≤ 1/10000000000 := by decide +kernel
  constructor <;> grind
/-- The sine of what is left to a right angle is the cosine. -/
theorem shift {y : Rat} (h0 : 0 ≤ y) (h : y ≤ 4/5) : -(1/1000000000) ≤ ev sinL (hP - y) - ev cosL y ∧ ev sinL (hP - y) - ev cosL y ≤ 1/1000000000 := by
  have e : ev sinL (hP - y) - ev cosL y = ev (pad (pcomp hP (-1) sinL) (psc (-1) cosL)) y := by
    rw [ev_pad, ev_pcomp, ev_psc, show hP + -1 * y = hP - y by grind]; grind
  rw [e]
  have := ev_bnd h0 h (pad (pcomp hP (-1) sinL) (psc (-1) cosL))
  have k : bnd (4/5) (pad (pcomp hP (-1) sinL) (psc (-1) cosL)) ≤ 1/1000000000 := by decide +kernel
  constructor <;> grind
/-- Pythagoras. -/
theorem circ {y : Rat} (h0 : 0 ≤ y) (h : y ≤ 4/5) : -(1/100000000000) ≤ ev sinL y * ev sinL y + ev cosL y * ev cosL y - 1 ∧ ev sinL y * ev sinL y + ev cosL y * ev cosL y - 1 ≤ 1/100000000000 := by
  have e : ev sinL y * ev sinL y + ev cosL y * ev cosL y - 1 = ev (pad (pad (pmul sinL sinL) (pmul cosL cosL)) [-1]) y := by
    rw [ev_pad, ev_pad, ev_pmul, ev_pmul]; simp only [ev]; grind
  rw [e]
  have := ev_bnd h0 h (pad (pad (pmul sinL sinL) (pmul cosL cosL)) [-1])
  have k : bnd (4/5) (pad (pad (pmul sinL sinL) (pmul cosL cosL)) [-1]) ≤ 1/100000000000 := by decide +kernel
  constructor <;> grind
def sin3 : List Rat := 0 :: 0 :: sinL.drop 2
/-- The cosine less its first two terms, of the square. -/
def cosW : List Rat := [0, 0, 1/24, -(1/720), 1/40320, -(1/3628800), 1/479001600, -(1/87178291200), 1/20922789888000, -(1/6402373705728000), 1/2432902008176640000]
theorem sin_mono {a b : Rat} (h0 : 0 ≤ a) (hab : a ≤ b) (h : b ≤ 4/5) : ev sinL a ≤ ev sinL b ∧ ev sinL b - ev sinL a ≤ 2 * (b - a) := by
  have e : ∀ z, ev sinL z = z + ev sin3 z := by
    intro z
    have : ev (pad [0, 1] sin3) z = z + ev sin3 z := by rw [ev_pad]; simp only [ev]; grind
    rw [← this]; congr 1; decide +kernel
  have := ev_lip h0 hab h sin3
  have k : lip (4/5) sin3 ≤ 1/2 := by decide +kernel
  have k2 := Rat.mul_nonneg (show 0 ≤ b - a by grind) (show 0 ≤ 1/2 - lip (4/5) sin3 by grind)
  rw [e a, e b]
  constructor <;> grind
theorem cos_mono {a b : Rat} (h0 : 0 ≤ a) (hab : a ≤ b) (h : b ≤ 4/5) : ev cosL b ≤ ev cosL a ∧ ev cosL a - ev cosL b ≤ 2 * (b - a) := by
  have e : ∀ z, ev cosL z = 1 - z * z / 2 + ev cosW (z * z) := by
    intro z; simp only [cosL, cosW, ev]; grind
  have q1 := Rat.mul_nonneg h0 (show 0 ≤ b - a by grind)
  have q2 := Rat.mul_nonneg (show 0 ≤ b by grind) (show 0 ≤ b - a by grind)
  have q3 := Rat.mul_nonneg (show 0 ≤ b by grind) (show 0 ≤ 4/5 - b by grind)
  have q4 := Rat.mul_nonneg h0 h0
  have q5 := Rat.mul_nonneg (show 0 ≤ 4/5 - b by grind) (show 0 ≤ b - a by grind)
  have q6 := Rat.mul_nonneg (show 0 ≤ 4/5 - a by grind) (show 0 ≤ b - a by grind)
  have := ev_lip (a := a * a) (b := b * b) (Z := 1) q4 (by grind) (by grind) cosW
  have k : lip 1 cosW ≤ 1/4 := by decide +kernel
  have k2 := Rat.mul_nonneg (show 0 ≤ b * b - a * a by grind) (show 0 ≤ 1/4 - lip 1 cosW by grind)
  rw [e a, e b]
  constructor <;> grind

/-- One term behind another one. -/
def gt (sq : Int) (m t : Int) : Int := t * sq / 1000000000 / m
def sqx (x : Int) : Int := x * x / 1000000000
/-- The terms' sizes: s (sine), c (cosine). -/
def sT (x : Int) : Nat → Int
  | 0 => x
  | j + 1 => gt (sqx x) ((2 * j + 2 : Int) * (2 * j + 3)) (sT x j)
def cT (x : Int) : Nat → Int
  | 0 => 1000000000
  | j + 1 => gt (sqx x) ((2 * j + 1 : Int) * (2 * j + 2)) (cT x j)
/-- Sums with alternate signs. -/
def alt (f : Nat → Int) : Nat → Int
  | 0 => 0
  | j + 1 => alt f j + (if j % 2 = 0 then f j else -f j)

theorem cast_le {a b : Int} (h : a ≤ b) : (a : Rat) ≤ (b : Rat) := Rat.intCast_le_intCast.2 h
theorem cast_lt {a b : Int} (h : a < b) : (a : Rat) < (b : Rat) := Rat.intCast_lt_intCast.2 h
theorem ediv_b {a m : Int} (h : 0 < m) : a / m * m ≤ a ∧ a < (a / m + 1) * m := by
  have h1 := Int.emod_add_mul_ediv a m
  have h2 := Int.emod_nonneg a (show m ≠ 0 by omega)
  have h3 := Int.emod_lt_of_pos a h
  have h4 : a / m * m = m * (a / m) := Int.mul_comm _ _
  have h5 : (a / m + 1) * m = m * (a / m) + m := by rw [Int.add_mul, Int.mul_comm]; omega
  omega
theorem gt_nn {sq m t : Int} (hs : 0 ≤ sq) (hm : 0 < m) (ht : 0 ≤ t) : 0 ≤ gt sq m t :=
  Int.ediv_nonneg (Int.ediv_nonneg (Int.mul_nonneg ht hs) (by decide)) (by omega)
theorem gt_le {sq m t : Int} (hs : 0 ≤ sq) (hm : 0 < m) (ht : 0 ≤ t) (h : sq ≤ m * 1000000000) : gt sq m t ≤ t := by
  unfold gt
  rw [Int.ediv_ediv_of_nonneg (by decide)]
  have h1 : t * sq ≤ t * (m * 1000000000) := Int.mul_le_mul_of_nonneg_left h ht
  have h2 : t * (m * 1000000000) = t * (1000000000 * m) := by rw [Int.mul_comm m]
  refine Int.le_of_lt_add_one (Int.ediv_lt_of_lt_mul (Int.mul_pos (by decide) hm) ?_)
  have h3 : 0 < 1000000000 * m := Int.mul_pos (by decide) hm
  have h4 : (t + 1) * (1000000000 * m) = t * (1000000000 * m) + 1000000000 * m := by rw [Int.add_mul, Int.one_mul]
  omega
/-- One term's error: e of the one ahead, 3 behind. -/
theorem step_err {τ z e : Rat} {t x m : Int} (hz : z * 1000000000 = (x : Rat)) (hx : 0 ≤ x) (hz2 : z * z ≤ 5/2) (ht : 0 ≤ t) (ht2 : t ≤ 2 * 1000000000) (h1 : (t : Rat) ≤ τ) (h2 : τ ≤ t + e) (he : 0 ≤ e) (hm : 0 < m) (hm2 : e * (5/2) + 2 ≤ 2 * m) :
    (gt (sqx x) m t : Rat) ≤ τ * (z * z) / m ∧ τ * (z * z) / m ≤ gt (sqx x) m t + 3 := by
  obtain ⟨a1, a2⟩ := ediv_b (a := t * sqx x) (m := 1000000000 * m) (Int.mul_pos (by decide) hm)
  obtain ⟨b1, b2⟩ := ediv_b (a := x * x) (m := 1000000000) (by decide)
  have eg : gt (sqx x) m t = t * sqx x / (1000000000 * m) := by unfold gt; rw [Int.ediv_ediv_of_nonneg (by decide)]
  rw [← eg] at a1 a2
  change sqx x * 1000000000 ≤ x * x at b1
  change x * x < (sqx x + 1) * 1000000000 at b2
  have a1' := cast_le a1
  have a2' := cast_lt a2
  have b1' := cast_le b1
  have b2' := cast_lt b2
  generalize gt (sqx x) m t = g at *
  have hs0 : 0 ≤ sqx x := Int.ediv_nonneg (Int.mul_nonneg hx hx) (by decide)
  generalize sqx x = sq at *
  simp only [Rat.intCast_mul, Rat.intCast_add, ← hz] at a1' a2' b1' b2'
  have cU : ((1000000000 : Int) : Rat) = 1000000000 := rfl
  have c1 : ((1 : Int) : Rat) = 1 := rfl
  rw [cU] at a1' a2' b1' b2'
  rw [c1] at a2' b2'
  have ht' : (0 : Rat) ≤ t := cast_le ht
  have ht2' : (t : Rat) ≤ 2000000000 := cast_le ht2
  have hm' : (1 : Rat) ≤ m := cast_le (show (1 : Int) ≤ m by omega)
  have hs0' : (0 : Rat) ≤ sq := cast_le hs0
  generalize (g : Rat) = G at *
  generalize (sq : Rat) = Q at *
  generalize (t : Rat) = T at *
  generalize (m : Rat) = M at *
  -- Q ≤ U z², z² U < Q + 1
  have d1 : Q ≤ 1000000000 * (z * z) := by grind
  have d2 : 1000000000 * (z * z) ≤ Q + 1 := by grind
  have p1 := Rat.mul_nonneg (show 0 ≤ 1000000000 * (z * z) - Q by grind) ht'
  have p2 := Rat.mul_nonneg (show 0 ≤ τ - T by grind) (show 0 ≤ z * z by grind)
  have p3 := Rat.mul_nonneg (show 0 ≤ Q + 1 - 1000000000 * (z * z) by grind) ht'
  have p4 := Rat.mul_nonneg (show 0 ≤ T + e - τ by grind) (show 0 ≤ z * z by grind)
  have p5 := Rat.mul_nonneg he (show 0 ≤ 5/2 - z * z by grind)
  have r : τ * (z * z) / M * M = τ * (z * z) := by grind
  generalize τ * (z * z) / M = R at *
  have l1 : G * M ≤ R * M := by grind
  have l2 : R * M ≤ (G + 3) * M := by grind
  constructor
  · exact Rat.le_of_mul_le_mul_right l1 (by grind)
  · exact Rat.le_of_mul_le_mul_right l2 (by grind)
/-- A term and what it stands for. -/
structure Near (τ : Rat) (t : Int) : Prop where
  nn : 0 ≤ t
  le : t ≤ 2 * 1000000000
  lo : (t : Rat) ≤ τ
  hi : τ ≤ t + 3
theorem Near.step {τ z : Rat} {t x m : Int} (h : Near τ t) (hz : z * 1000000000 = (x : Rat)) (hx : 0 ≤ x) (hz2 : z * z ≤ 5/2) (hs : sqx x ≤ m * 1000000000) (hm : 5 ≤ m) : Near (τ * (z * z) / m) (gt (sqx x) m t) := by
  have hs0 : 0 ≤ sqx x := Int.ediv_nonneg (Int.mul_nonneg hx hx) (by decide)
  have hm' : (5 : Rat) ≤ m := cast_le hm
  obtain ⟨a, b⟩ := step_err (e := 3) hz hx hz2 h.nn h.le h.lo h.hi (by decide) (show 0 < m by omega) (by grind)
  exact ⟨gt_nn hs0 (by omega) h.nn, Int.le_trans (gt_le hs0 (by omega) h.nn hs) h.le, a, b⟩
theorem sqx_le {x X : Int} (hx : 0 ≤ x) (h : x ≤ X) : sqx x ≤ X * X / 1000000000 :=
  Int.ediv_le_ediv (by decide) (Int.mul_le_mul h h hx (by omega))
theorem rsq {z Z : Rat} (h0 : 0 ≤ z) (h : z ≤ Z) : z * z ≤ Z * Z := by
  have h1 := Rat.mul_nonneg (show 0 ≤ Z - z by grind) h0
  have h2 := Rat.mul_nonneg (show 0 ≤ Z - z by grind) (show 0 ≤ Z by grind)
  grind
theorem z_bd {x X : Int} {z : Rat} (hz : z * 1000000000 = (x : Rat)) (hx : 0 ≤ x) (hX : x ≤ X) : 0 ≤ z ∧ z ≤ (X : Rat) / 1000000000 := by
  have h1 : (0 : Rat) ≤ x := cast_le hx
  have h2 := cast_le hX
  constructor <;> grind
theorem sin_err {x : Int} {z : Rat} (hz : z * 1000000000 = (x : Rat)) (hx : 0 ≤ x) (hX : x ≤ 1570796327) :
    (-9 ≤ (alt (sT x) 7 : Rat) - 1000000000 * ev sin13 z ∧ (alt (sT x) 7 : Rat) - 1000000000 * ev sin13 z ≤ 9) ∧ sT x 7 = 0 := by
  obtain ⟨z0, z1⟩ := z_bd hz hx hX
  have zz : z * z ≤ 5/2 := by
    have := rsq z0 z1
    have k : ((1570796327 : Int) : Rat) / 1000000000 * (((1570796327 : Int) : Rat) / 1000000000) ≤ 5/2 := by decide +kernel
    grind
  have sq : sqx x ≤ 2467401101 := Int.le_trans (sqx_le hx hX) (by decide)
  have n0 : Near (z * 1000000000) (sT x 0) := ⟨hx, by show x ≤ _; omega, by rw [hz]; exact Rat.le_refl, by rw [hz]; show (x : Rat) ≤ x + 3; grind⟩
  have n1 := n0.step (m := 6) hz hx zz (by omega) (by omega)
  have n2 := n1.step (m := 20) hz hx zz (by omega) (by omega)
  have n3 := n2.step (m := 42) hz hx zz (by omega) (by omega)
  have n4 := n3.step (m := 72) hz hx zz (by omega) (by omega)
  have n5 := n4.step (m := 110) hz hx zz (by omega) (by omega)
  have n6 := n5.step (m := 156) hz hx zz (by omega) (by omega)
  have n7 := n6.step (m := 210) hz hx zz (by omega) (by omega)
  change Near _ (sT x 1) at n1
  change Near _ (sT x 2) at n2
  change Near _ (sT x 3) at n3
  change Near _ (sT x 4) at n4
  change Near _ (sT x 5) at n5
  change Near _ (sT x 6) at n6
  change Near _ (sT x 7) at n7
  have ea : (alt (sT x) 7 : Int) = sT x 0 - sT x 1 + sT x 2 - sT x 3 + sT x 4 - sT x 5 + sT x 6 := by simp [alt]; omega
  have t0 : sT x 0 = x := rfl
  have eb : (alt (sT x) 7 : Rat) = z * 1000000000 - sT x 1 + sT x 2 - sT x 3 + sT x 4 - sT x 5 + sT x 6 := by
    rw [ea, t0, hz]; simp only [Rat.intCast_add, Rat.intCast_sub]
  have es : 1000000000 * ev sin13 z = z * 1000000000 - z * 1000000000 * (z * z) / 6 + z * 1000000000 * (z * z) / 6 * (z * z) / 20 - z * 1000000000 * (z * z) / 6 * (z * z) / 20 * (z * z) / 42 + z * 1000000000 * (z * z) / 6 * (z * z) / 20 * (z * z) / 42 * (z * z) / 72 - z * 1000000000 * (z * z) / 6 * (z * z) / 20 * (z * z) / 42 * (z * z) / 72 * (z * z) / 110 + z * 1000000000 * (z * z) / 6 * (z * z) / 20 * (z * z) / 42 * (z * z) / 72 * (z * z) / 110 * (z * z) / 156 := by
    simp only [sin13, ev]; grind
  rw [eb, es]
  have l7 : z * 1000000000 * (z * z) / 6 * (z * z) / 20 * (z * z) / 42 * (z * z) / 72 * (z * z) / 110 * (z * z) / 156 * (z * z) / 210 = 1000000000 * ev [0,0,0,0,0,0,0,0,0,0,0,0,0,0,0,1/1307674368000] z := by
    simp only [ev]; grind
  have b7 := (ev_bnd z0 z1 [0,0,0,0,0,0,0,0,0,0,0,0,0,0,0,1/1307674368000]).2
  have k7 : bnd (((1570796327 : Int) : Rat) / 1000000000) [0,0,0,0,0,0,0,0,0,0,0,0,0,0,0,1/1307674368000] ≤ 7/10000000000 := by decide +kernel
  have c6 : ((6 : Int) : Rat) = 6 := rfl
  have c20 : ((20 : Int) : Rat) = 20 := rfl
  have c42 : ((42 : Int) : Rat) = 42 := rfl
  have c72 : ((72 : Int) : Rat) = 72 := rfl
  have c110 : ((110 : Int) : Rat) = 110 := rfl
  have c156 : ((156 : Int) : Rat) = 156 := rfl
  have c210 : ((210 : Int) : Rat) = 210 := rfl
  simp only [c6, c20, c42, c72, c110, c156, c210] at n1 n2 n3 n4 n5 n6 n7
  rw [l7] at n7
  constructor
  · have u1 := n1.lo; have u2 := n2.lo; have u3 := n3.lo; have u4 := n4.lo; have u5 := n5.lo; have u6 := n6.lo
    have v1 := n1.hi; have v2 := n2.hi; have v3 := n3.hi; have v4 := n4.hi; have v5 := n5.hi; have v6 := n6.hi
    clear n0 n1 n2 n3 n4 n5 n6 n7 eb es l7 b7 k7 zz z1 hz hX
    generalize z * 1000000000 * (z * z) / 6 * (z * z) / 20 * (z * z) / 42 * (z * z) / 72 * (z * z) / 110 * (z * z) / 156 = T6 at *
    generalize z * 1000000000 * (z * z) / 6 * (z * z) / 20 * (z * z) / 42 * (z * z) / 72 * (z * z) / 110 = T5 at *
    generalize z * 1000000000 * (z * z) / 6 * (z * z) / 20 * (z * z) / 42 * (z * z) / 72 = T4 at *
    generalize z * 1000000000 * (z * z) / 6 * (z * z) / 20 * (z * z) / 42 = T3 at *
    generalize z * 1000000000 * (z * z) / 6 * (z * z) / 20 = T2 at *
    generalize z * 1000000000 * (z * z) / 6 = T1 at *
    constructor <;> grind
  · have h := n7.lo
    have h' := n7.nn
    have : ((sT x 7 : Int) : Rat) < ((1 : Int) : Rat) := by
      have : ((1 : Int) : Rat) = 1 := rfl
      grind
    have := Rat.intCast_lt_intCast.1 this
    omega
theorem cos_err {x : Int} {z : Rat} (hz : z * 1000000000 = (x : Rat)) (hx : 0 ≤ x) (hX : x ≤ 800000000) :
    (-9 ≤ (alt (cT x) 7 : Rat) - 1000000000 * ev cos12 z ∧ (alt (cT x) 7 : Rat) - 1000000000 * ev cos12 z ≤ 9) ∧ cT x 7 = 0 := by
  obtain ⟨z0, z1⟩ := z_bd hz hx hX
  have zz : z * z ≤ 5/2 := by
    have := rsq z0 z1
    have k : ((800000000 : Int) : Rat) / 1000000000 * (((800000000 : Int) : Rat) / 1000000000) ≤ 5/2 := by decide +kernel
    grind
  have sq : sqx x ≤ 640000000 := Int.le_trans (sqx_le hx hX) (by decide)
  have n1 : Near (1000000000 * (z * z) / ((2 : Int) : Rat)) (cT x 1) := by
    show Near _ (gt (sqx x) 2 1000000000)
    have hs0 : 0 ≤ sqx x := Int.ediv_nonneg (Int.mul_nonneg hx hx) (by decide)
    obtain ⟨a, b⟩ := step_err (τ := 1000000000) (e := 0) (t := 1000000000) (m := 2) hz hx zz (by decide) (by decide) (by decide +kernel) (by decide +kernel) (by decide) (by decide) (by decide +kernel)
    exact ⟨gt_nn hs0 (by omega) (by decide), Int.le_trans (gt_le hs0 (by omega) (by decide) (show sqx x ≤ 2 * 1000000000 by omega)) (by decide), a, b⟩
  have n2 := n1.step (m := 12) hz hx zz (by omega) (by omega)
  have n3 := n2.step (m := 30) hz hx zz (by omega) (by omega)
  have n4 := n3.step (m := 56) hz hx zz (by omega) (by omega)
  have n5 := n4.step (m := 90) hz hx zz (by omega) (by omega)
  have n6 := n5.step (m := 132) hz hx zz (by omega) (by omega)
  have n7 := n6.step (m := 182) hz hx zz (by omega) (by omega)
  change Near _ (cT x 2) at n2
  change Near _ (cT x 3) at n3
  change Near _ (cT x 4) at n4
  change Near _ (cT x 5) at n5
  change Near _ (cT x 6) at n6
  change Near _ (cT x 7) at n7
  have ea : (alt (cT x) 7 : Int) = cT x 0 - cT x 1 + cT x 2 - cT x 3 + cT x 4 - cT x 5 + cT x 6 := by simp [alt]; omega
  have t0 : cT x 0 = 1000000000 := rfl
  have tU : ((1000000000 : Int) : Rat) = 1000000000 := rfl
  have eb : (alt (cT x) 7 : Rat) = 1000000000 - cT x 1 + cT x 2 - cT x 3 + cT x 4 - cT x 5 + cT x 6 := by
    rw [ea, t0]; simp only [Rat.intCast_add, Rat.intCast_sub, tU]
  have es : 1000000000 * ev cos12 z = 1000000000 - 1000000000 * (z * z) / 2 + 1000000000 * (z * z) / 2 * (z * z) / 12 - 1000000000 * (z * z) / 2 * (z * z) / 12 * (z * z) / 30 + 1000000000 * (z * z) / 2 * (z * z) / 12 * (z * z) / 30 * (z * z) / 56 - 1000000000 * (z * z) / 2 * (z * z) / 12 * (z * z) / 30 * (z * z) / 56 * (z * z) / 90 + 1000000000 * (z * z) / 2 * (z * z) / 12 * (z * z) / 30 * (z * z) / 56 * (z * z) / 90 * (z * z) / 132 := by
    simp only [cos12, ev]; grind
  rw [eb, es]
  have l7 : 1000000000 * (z * z) / 2 * (z * z) / 12 * (z * z) / 30 * (z * z) / 56 * (z * z) / 90 * (z * z) / 132 * (z * z) / 182 = 1000000000 * ev [0,0,0,0,0,0,0,0,0,0,0,0,0,0,1/87178291200] z := by
    simp only [ev]; grind
  have b7 := (ev_bnd z0 z1 [0,0,0,0,0,0,0,0,0,0,0,0,0,0,1/87178291200]).2
  have k7 : bnd (((800000000 : Int) : Rat) / 1000000000) [0,0,0,0,0,0,0,0,0,0,0,0,0,0,1/87178291200] ≤ 7/10000000000 := by decide +kernel
  have c2 : ((2 : Int) : Rat) = 2 := rfl
  have c12 : ((12 : Int) : Rat) = 12 := rfl
  have c30 : ((30 : Int) : Rat) = 30 := rfl
  have c56 : ((56 : Int) : Rat) = 56 := rfl
  have c90 : ((90 : Int) : Rat) = 90 := rfl
  have c132 : ((132 : Int) : Rat) = 132 := rfl
  have c182 : ((182 : Int) : Rat) = 182 := rfl
  simp only [c2, c12, c30, c56, c90, c132, c182] at n1 n2 n3 n4 n5 n6 n7
  rw [l7] at n7
  constructor
  · have u1 := n1.lo; have u2 := n2.lo; have u3 := n3.lo; have u4 := n4.lo; have u5 := n5.lo; have u6 := n6.lo
    have v1 := n1.hi; have v2 := n2.hi; have v3 := n3.hi; have v4 := n4.hi; have v5 := n5.hi; have v6 := n6.hi
    clear n1 n2 n3 n4 n5 n6 n7 eb es l7 b7 k7 zz z1 hz hX
    generalize 1000000000 * (z * z) / 2 * (z * z) / 12 * (z * z) / 30 * (z * z) / 56 * (z * z) / 90 * (z * z) / 132 = T6 at *
    generalize 1000000000 * (z * z) / 2 * (z * z) / 12 * (z * z) / 30 * (z * z) / 56 * (z * z) / 90 = T5 at *
    generalize 1000000000 * (z * z) / 2 * (z * z) / 12 * (z * z) / 30 * (z * z) / 56 = T4 at *
    generalize 1000000000 * (z * z) / 2 * (z * z) / 12 * (z * z) / 30 = T3 at *
    generalize 1000000000 * (z * z) / 2 * (z * z) / 12 = T2 at *
    generalize 1000000000 * (z * z) / 2 = T1 at *
    constructor <;> grind
  · have h := n7.lo
    have h' := n7.nn
    have : ((cT x 7 : Int) : Rat) < ((1 : Int) : Rat) := by
      have : ((1 : Int) : Rat) = 1 := rfl
      grind
    have := Rat.intCast_lt_intCast.1 this
    omega
/-- The program's sine of hundredths; the reference's series. -/
def xP (n : Int) : Int := n * 1570796327 / 32400000
def xR (a : Int) : Int := a * 3141592653590 / 648000 / 1000
def P (n : Int) : Int := alt (sT (xP n)) 7
def RS (a : Int) : Int := alt (sT (xR a)) 7
def RC (a : Int) : Int := alt (cT (xR a)) 7
/-- The angle of hundredths. -/
def th (n : Int) : Rat := (n : Rat) * hP / 32400000
theorem div_self9 (x : Int) : (x : Rat) / 1000000000 * 1000000000 = (x : Rat) := by grind
theorem xP_b {n : Int} (h0 : 0 ≤ n) (h1 : n ≤ 32400000) : 0 ≤ xP n ∧ xP n ≤ 1570796327 ∧ (xP n : Rat) / 1000000000 ≤ th n ∧ th n ≤ (xP n : Rat) / 1000000000 + 1/1000000000 := by
  have a := ediv_b (a := n * 1570796327) (m := 32400000) (by decide)
  change xP n * 32400000 ≤ n * 1570796327 ∧ n * 1570796327 < (xP n + 1) * 32400000 at a
  refine ⟨by omega, by omega, ?_, ?_⟩
  · have := cast_le a.1
    simp only [Rat.intCast_mul] at this
    have c1 : ((32400000 : Int) : Rat) = 32400000 := rfl
    have c2 : ((1570796327 : Int) : Rat) = 1570796327 := rfl
    rw [c1, c2] at this
    unfold th; grind
  · have := cast_lt a.2
    simp only [Rat.intCast_mul, Rat.intCast_add] at this
    have c1 : ((32400000 : Int) : Rat) = 32400000 := rfl
    have c2 : ((1570796327 : Int) : Rat) = 1570796327 := rfl
    have c3 : ((1 : Int) : Rat) = 1 := rfl
    rw [c1, c2, c3] at this
    unfold th; grind
theorem xR_b {a : Int} (h0 : 0 ≤ a) (h1 : a ≤ 165000) : 0 ≤ xR a ∧ xR a ≤ 800000000 ∧ (xR a : Rat) / 1000000000 ≤ th (100 * a) ∧ th (100 * a) ≤ (xR a : Rat) / 1000000000 + 2/1000000000 := by
  have e : xR a = a * 3141592653590 / 648000000 := by unfold xR; rw [Int.ediv_ediv_of_nonneg (by decide), show (648000 : Int) * 1000 = 648000000 from rfl]
  have b := ediv_b (a := a * 3141592653590) (m := 648000000) (by decide)
  rw [← e] at b
  have c1 : ((648000000 : Int) : Rat) = 648000000 := rfl
  have c2 : ((3141592653590 : Int) : Rat) = 3141592653590 := rfl
  have c3 : ((1 : Int) : Rat) = 1 := rfl
  have c4 : ((100 : Int) : Rat) = 100 := rfl
  have d0 : (0 : Rat) ≤ a := cast_le h0
  have d1 : (a : Rat) ≤ ((165000 : Int) : Rat) := cast_le h1
  have c5 : ((165000 : Int) : Rat) = 165000 := rfl
  refine ⟨by omega, by omega, ?_, ?_⟩
  · have := cast_le b.1
    simp only [Rat.intCast_mul] at this
    rw [c1, c2] at this
    unfold th; rw [Rat.intCast_mul, c4]; grind
  · have := cast_lt b.2
    simp only [Rat.intCast_mul, Rat.intCast_add] at this
    rw [c1, c2, c3] at this
    unfold th; rw [Rat.intCast_mul, c4]; grind
theorem th_nn {n : Int} (h : 0 ≤ n) : 0 ≤ th n := by
  have : (0 : Rat) ≤ n := cast_le h
  unfold th; grind
theorem th_mono {a b : Int} (h : a ≤ b) : th a ≤ th b := by
  have : (a : Rat) ≤ b := cast_le h
  unfold th; grind
theorem th_le {n : Int} (h : n ≤ 16500000) : th n ≤ 4/5 := by
  have h1 := th_mono h
  have k : th 16500000 ≤ 4/5 := by decide +kernel
  grind
theorem x9 {x : Int} (h : x ≤ 1570796327) : (x : Rat) / 1000000000 ≤ 1571/1000 := by
  have := cast_le h
  have k : ((1570796327 : Int) : Rat) = 1570796327 := rfl
  rw [k] at this; grind
theorem x8 {x : Int} (h : x ≤ 800000000) : (x : Rat) / 1000000000 ≤ 4/5 := by
  have := cast_le h
  have k : ((800000000 : Int) : Rat) = 800000000 := rfl
  rw [k] at this; grind
theorem x0 {x : Int} (h : 0 ≤ x) : 0 ≤ (x : Rat) / 1000000000 := by
  have : (0 : Rat) ≤ x := cast_le h
  grind
theorem LP1 {n : Int} (h0 : 0 ≤ n) (h1 : n ≤ 16500000) : -12 ≤ (P n : Rat) - 1000000000 * ev sinL (th n) ∧ (P n : Rat) - 1000000000 * ev sinL (th n) ≤ 12 := by
  obtain ⟨a0, a1, a2, a3⟩ := xP_b h0 (by omega)
  obtain ⟨⟨s1, s2⟩, _⟩ := sin_err (div_self9 (xP n)) a0 a1
  obtain ⟨t1, t2⟩ := sin_tail (x0 a0) (x9 a1)
  have sp := sin_split ((xP n : Rat) / 1000000000)
  obtain ⟨m1, m2⟩ := sin_mono (x0 a0) a2 (th_le h1)
  unfold P
  constructor <;> grind
theorem LP2 {n : Int} (h0 : 15900000 ≤ n) (h1 : n ≤ 32400000) : -13 ≤ (P n : Rat) - 1000000000 * ev cosL (th (32400000 - n)) ∧ (P n : Rat) - 1000000000 * ev cosL (th (32400000 - n)) ≤ 13 := by
  obtain ⟨a0, a1, a2, a3⟩ := xP_b (n := n) (by omega) h1
  obtain ⟨⟨s1, s2⟩, _⟩ := sin_err (div_self9 (xP n)) a0 a1
  obtain ⟨t1, t2⟩ := sin_tail (x0 a0) (x9 a1)
  have sp := sin_split ((xP n : Rat) / 1000000000)
  have e : th (32400000 - n) = hP - th n := by
    have c1 : ((32400000 : Int) : Rat) = 32400000 := rfl
    unfold th; rw [Rat.intCast_sub, c1]; grind
  have g0 := th_nn (n := 32400000 - n) (by omega)
  have g1 := th_mono (a := 32400000 - n) (b := 16500000) (by omega)
  have g2 : th 16500000 + 1/1000000000 ≤ 4/5 := by decide +kernel
  obtain ⟨m1, m2⟩ := cos_mono (a := th (32400000 - n)) (b := hP - (xP n : Rat) / 1000000000) g0 (by grind) (by grind)
  obtain ⟨q1, q2⟩ := shift (y := hP - (xP n : Rat) / 1000000000) (by grind) (by grind)
  rw [show hP - (hP - (xP n : Rat) / 1000000000) = (xP n : Rat) / 1000000000 by grind] at q1 q2
  unfold P
  constructor <;> grind
theorem LR1 {a : Int} (h0 : 0 ≤ a) (h1 : a ≤ 165000) : -14 ≤ (RS a : Rat) - 1000000000 * ev sinL (th (100 * a)) ∧ (RS a : Rat) - 1000000000 * ev sinL (th (100 * a)) ≤ 14 := by
  obtain ⟨a0, a1, a2, a3⟩ := xR_b h0 h1
  obtain ⟨⟨s1, s2⟩, _⟩ := sin_err (div_self9 (xR a)) a0 (by omega)
  obtain ⟨t1, t2⟩ := sin_tail (x0 a0) (x9 (show xR a ≤ 1570796327 by omega))
  have sp := sin_split ((xR a : Rat) / 1000000000)
  obtain ⟨m1, m2⟩ := sin_mono (x0 a0) a2 (th_le (show 100 * a ≤ 16500000 by omega))
  unfold RS
  constructor <;> grind
theorem LR2 {a : Int} (h0 : 0 ≤ a) (h1 : a ≤ 165000) : -14 ≤ (RC a : Rat) - 1000000000 * ev cosL (th (100 * a)) ∧ (RC a : Rat) - 1000000000 * ev cosL (th (100 * a)) ≤ 14 := by
  obtain ⟨a0, a1, a2, a3⟩ := xR_b h0 h1
  obtain ⟨⟨s1, s2⟩, _⟩ := cos_err (div_self9 (xR a)) a0 a1
  obtain ⟨t1, t2⟩ := cos_tail (x0 a0) (by have := x8 a1; grind)
  have sp := cos_split ((xR a : Rat) / 1000000000)
  obtain ⟨m1, m2⟩ := cos_mono (x0 a0) a2 (th_le (show 100 * a ≤ 16500000 by omega))
  unfold RC
  constructor <;> grind
/-- The sines of a quarter: the program's, the reference's. -/
def PQ (c : Int) : Int := P (100 * c)
def RQ (c : Int) : Int := if c ≤ 162000 then RS c else RC (324000 - c)
theorem rat_int {a b : Int} {B : Int} (h1 : -(B : Rat) ≤ (a : Rat) - b) (h2 : (a : Rat) - b ≤ B) : -B ≤ a - b ∧ a - b ≤ B := by
  rw [← Rat.intCast_sub] at h1 h2
  rw [← Rat.intCast_neg] at h1
  exact ⟨Rat.intCast_le_intCast.1 h1, Rat.intCast_le_intCast.1 h2⟩
theorem PQ_RQ {c : Int} (h0 : 0 ≤ c) (h1 : c ≤ 324000) : -30 ≤ PQ c - RQ c ∧ PQ c - RQ c ≤ 30 := by
  have c30 : ((30 : Int) : Rat) = 30 := rfl
  unfold RQ PQ
  split
  · obtain ⟨a1, a2⟩ := LP1 (n := 100 * c) (by omega) (by omega)
    obtain ⟨b1, b2⟩ := LR1 (a := c) (by omega) (by omega)
    refine rat_int ?_ ?_ <;> rw [c30] <;> grind
  · obtain ⟨a1, a2⟩ := LP2 (n := 100 * c) (by omega) (by omega)
    obtain ⟨b1, b2⟩ := LR2 (a := 324000 - c) (by omega) (by omega)
    rw [show 100 * (324000 - c) = 32400000 - 100 * c by omega] at b1 b2
    refine rat_int ?_ ?_ <;> rw [c30] <;> grind
/-- Sizes: the polynomials lie between 0 and 1. -/
theorem sin_01 {y : Rat} (h0 : 0 ≤ y) (h : y ≤ 4/5) : 0 ≤ ev sinL y ∧ ev sinL y ≤ 18/25 := by
  have h1 := sin_mono (a := 0) (by decide) h0 h
  have h2 := sin_mono h0 h Rat.le_refl
  have k1 : ev sinL 0 = 0 := by decide +kernel
  have k2 : ev sinL (4/5) ≤ 18/25 := by decide +kernel
  grind
theorem cos_01 {y : Rat} (h0 : 0 ≤ y) (h : y ≤ 4/5) : 69/100 ≤ ev cosL y ∧ ev cosL y ≤ 1 := by
  have h1 := cos_mono (a := 0) (by decide) h0 h
  have h2 := cos_mono h0 h Rat.le_refl
  have k1 : ev cosL 0 = 1 := by decide +kernel
  have k2 : 69/100 ≤ ev cosL (4/5) := by decide +kernel
  grind
theorem int_of_rat {a b : Int} (h : (a : Rat) ≤ (b : Rat)) : a ≤ b := Rat.intCast_le_intCast.1 h
theorem PQ_b {c : Int} (h0 : 0 ≤ c) (h1 : c ≤ 324000) : -13 ≤ PQ c ∧ PQ c ≤ 1000000013 := by
  have c1 : ((-13 : Int) : Rat) = -13 := rfl
  have c2 : ((1000000013 : Int) : Rat) = 1000000013 := rfl
  unfold PQ
  by_cases h : c ≤ 162000
  · obtain ⟨a1, a2⟩ := LP1 (n := 100 * c) (by omega) (by omega)
    obtain ⟨s1, s2⟩ := sin_01 (th_nn (show 0 ≤ 100 * c by omega)) (th_le (show 100 * c ≤ 16500000 by omega))
    refine ⟨int_of_rat ?_, int_of_rat ?_⟩ <;> first | rw [c1] | rw [c2]
    all_goals grind
  · obtain ⟨a1, a2⟩ := LP2 (n := 100 * c) (by omega) (by omega)
    obtain ⟨s1, s2⟩ := cos_01 (th_nn (show 0 ≤ 32400000 - 100 * c by omega)) (th_le (show 32400000 - 100 * c ≤ 16500000 by omega))
    refine ⟨int_of_rat ?_, int_of_rat ?_⟩ <;> first | rw [c1] | rw [c2]
    all_goals grind
/-- The circle. -/
theorem circle1 {c : Int} (h0 : 0 ≤ c) (h1 : c ≤ 162000) :
    1000000000 * 1000000000 ≤ (PQ c + 50) * (PQ c + 50) + (PQ (324000 - c) + 50) * (PQ (324000 - c) + 50) ∧
    (PQ c ≤ 50 ∨ (PQ c - 50) * (PQ c - 50) + (PQ (324000 - c) - 50) * (PQ (324000 - c) - 50) ≤ 1000000000 * 1000000000) ∧ PQ (324000 - c) - 50 ≤ 1000000000 ∧ 500000000 ≤ PQ (324000 - c) := by
  have t0 := th_nn (show 0 ≤ 100 * c by omega)
  have t1 := th_le (show 100 * c ≤ 16500000 by omega)
  obtain ⟨a1, a2⟩ := LP1 (n := 100 * c) (by omega) (by omega)
  obtain ⟨b1, b2⟩ := LP2 (n := 100 * (324000 - c)) (by omega) (by omega)
  rw [show 32400000 - 100 * (324000 - c) = 100 * c by omega] at b1 b2
  obtain ⟨s1, s2⟩ := sin_01 t0 t1
  obtain ⟨r1, r2⟩ := cos_01 t0 t1
  obtain ⟨q1, q2⟩ := circ t0 t1
  change -12 ≤ (PQ c : Rat) - _ at a1
  change (PQ c : Rat) - _ ≤ 12 at a2
  change -13 ≤ (PQ (324000 - c) : Rat) - _ at b1
  change (PQ (324000 - c) : Rat) - _ ≤ 13 at b2
  generalize PQ c = p at *
  generalize PQ (324000 - c) = q at *
  generalize ev sinL (th (100 * c)) = s at *
  generalize ev cosL (th (100 * c)) = k at *
  have c50 : ((50 : Int) : Rat) = 50 := rfl
  have cU : ((1000000000 : Int) : Rat) = 1000000000 := rfl
  have c5 : ((500000000 : Int) : Rat) = 500000000 := rfl
  refine ⟨int_of_rat ?_, ?_, int_of_rat ?_, int_of_rat ?_⟩
  · simp only [Rat.intCast_add, Rat.intCast_mul, c50, cU]
    have m1 := rsq (z := 1000000000 * s + 30) (Z := p + 50) (by grind) (by grind)
    have m2 := rsq (z := 1000000000 * k + 30) (Z := q + 50) (by grind) (by grind)
    grind
  · by_cases hp : p ≤ 50
    · exact .inl hp
    refine .inr (int_of_rat ?_)
    simp only [Rat.intCast_add, Rat.intCast_sub, Rat.intCast_mul, c50, cU]
    have hp' : (50 : Rat) ≤ p := by rw [← c50]; exact cast_le (by omega)
    have m1 := rsq (z := p - 50) (Z := 1000000000 * s) (by grind) (by grind)
    have m2 := rsq (z := q - 50) (Z := 1000000000 * k - 30) (by grind) (by grind)
    grind
  · simp only [Rat.intCast_sub, c50, cU]; grind
  · rw [c5]; grind
end Go.Ab
