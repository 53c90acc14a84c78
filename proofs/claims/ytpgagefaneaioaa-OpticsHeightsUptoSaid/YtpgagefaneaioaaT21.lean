/- Operations by the table, with their side conditions as conjuncts: the shapes that the printed text of a seat instantiates for each type. -/
import Derived.Test.YtpgagefaneaioaaT20
namespace Go.Ab
open Go Go.RowKit
set_option linter.unusedVariables false
set_option linter.unusedSimpArgs false
set_option linter.unusedSectionVars false

variable {P : Program} {T : TT}

/-- The rows of every element have as many cells. -/
class Sized (α : Type) [Enc α] (n : outParam Nat) : Prop where
  full : FullE α n
instance : Sized Int 1 := ⟨fun _ => rfl⟩

section
variable {α : Type} [Inhabited α] [Enc α] {t e s : Nat} {k : AV → Prop} {kk : IntKind} {i : Int} {xs : List α}

theorem rows_gi_iff {Q : List AV → Prop} : (∃ row, 0 ≤ i ∧ (rowsOf xs)[i.toNat]? = some row ∧ Q row) = ((0 ≤ i ∧ i < xs.length) ∧ Q (Enc.enc (gi xs i))) := by
  simp only [eq_iff_iff]
  constructor
  · rintro ⟨row, h1, h2, h3⟩
    have h4 : i.toNat < xs.length := by
      have := (List.getElem?_eq_some_iff.1 h2).1
      rwa [rowsOf_length] at this
    have h5 : i < xs.length := by omega
    rw [rows_gi h1 h5] at h2
    injection h2 with h2; subst h2
    exact ⟨⟨h1, h5⟩, h3⟩
  · rintro ⟨⟨h1, h2⟩, h3⟩
    exact ⟨_, h1, rows_gi h1 h2, h3⟩

theorem c_ia_sl (h : (T t).kd = .slice e) (h2 : (T e).kd.isOther = false) (h3 : (T e).size = s) : aIndexAddr T t (.sl s (rowsOf xs)) (.int kk i) k = ((0 ≤ i ∧ i < xs.length) ∧ k (.cp (Enc.enc (gi xs i)))) := by
  subst h3
  simp only [aIndexAddr, h, h2, true_and, rows_gi_iff (Q := fun row => k (.cp row))]
theorem c_ia_ow {b e' : Nat} (h : (T t).kd = .slice e) (h2 : (T e).kd.isOther = false) (h3 : (T e).size = s) : aIndexAddr T t (.ow b e' s (rowsOf xs)) (.int kk i) k = ((0 ≤ i ∧ i < xs.length) ∧ k (.cp (Enc.enc (gi xs i)))) := by
  subst h3
  simp only [aIndexAddr, h, h2, true_and, rows_gi_iff (Q := fun row => k (.cp row))]
theorem c_ia_ap {n b o : Nat} (h : (T t).kd = .arr n e) (h2 : (T e).kd.isOther = false) (h3 : (T e).size = s) : aIndexAddr T t (.ptr b o) (.int kk i) k = ((0 ≤ i ∧ i < n) ∧ k (.ptr b (o + i.toNat * s))) := by
  subst h3
  simp only [aIndexAddr, h, h2, true_and, and_assoc]
theorem c_ia_ac {n : Nat} {cells : List AV} (h : (T t).kd = .arr n e) (h2 : (T e).kd.isOther = false) (h3 : (T e).size = s) : aIndexAddr T t (.cp cells) (.int kk i) k = ((0 ≤ i ∧ i < n) ∧ k (.cp (cells.drop (i.toNat * s)))) := by
  subst h3
  simp only [aIndexAddr, h, h2, true_and, and_assoc]
theorem c_ix_str {l : List UInt8} (h : (T t).kd = .str) : aIndex T t (.str l) (.int kk i) k = ((0 ≤ i ∧ i < l.length) ∧ k (.int .u8 ((gi l i).toNat : Int))) := by
  simp only [aIndex, h, eq_iff_iff]
  constructor
  · rintro ⟨c, h1, h2, h3⟩
    have h4 : i.toNat < l.length := (List.getElem?_eq_some_iff.1 h2).1
    refine ⟨⟨h1, by omega⟩, ?_⟩
    simp only [gi, List.getD, h2, Option.getD_some]; exact h3
  · rintro ⟨⟨h1, h2⟩, h3⟩
    have h4 : i.toNat < l.length := by omega
    refine ⟨l[i.toNat], h1, List.getElem?_eq_getElem h4, ?_⟩
    simp only [gi, List.getD, List.getElem?_eq_getElem h4, Option.getD_some] at h3; exact h3
theorem c_ix_a1 {n : Nat} {cs : List AV} (h : (T t).kd = .arr n e) (h2 : (T e).kd.isOther = false) (h4 : (T e).kd.isAgg = false) (h3 : (T e).size = s) : aIndex T t (.agg cs) (.int kk i) k = ((0 ≤ i ∧ i < n) ∧ ∃ c, cs[i.toNat * s]? = some c ∧ k c) := by
  subst h3
  simp [aIndex, h, aPart, h2, h4, and_assoc]
theorem c_ix_aa {n : Nat} {cs : List AV} (h : (T t).kd = .arr n e) (h2 : (T e).kd.isOther = false) (h4 : (T e).kd.isAgg = true) (h3 : (T e).size = s) : aIndex T t (.agg cs) (.int kk i) k = ((0 ≤ i ∧ i < n) ∧ k (.agg (cut (i.toNat * s) s cs))) := by
  subst h3
  simp [aIndex, h, aPart, h2, h4, and_assoc]

theorem c_len_sl (h : (T t).kd = .slice e) : aLen T t (.sl s (rowsOf xs)) k = k (.int .i64 xs.length) := by simp [aLen, h, rowsOf_length]
theorem c_len_ow {b e' : Nat} (h : (T t).kd = .slice e) : aLen T t (.ow b e' s (rowsOf xs)) k = k (.int .i64 xs.length) := by simp [aLen, h, rowsOf_length]
theorem c_len_emp (h : (T t).kd = .slice e) : aLen T t .emp k = k (.int .i64 0) := by simp [aLen, h]
theorem c_len_str {l : List UInt8} (h : (T t).kd = .str) : aLen T t (.str l) k = k (.int .i64 l.length) := by simp [aLen, h]
theorem c_len_arr {n : Nat} {x : AV} (h : (T t).kd = .arr n e) : aLen T t x k = k (.int .i64 n) := by
  cases x <;> simp [aLen, h]

/-- Parts of lists. -/
def part (xs : List α) (a b : Int) : List α := (xs.take b.toNat).drop a.toNat
def bndI (x : Option AV) (d : Nat) : Int := (aBnd x d).getD 0
theorem bnd_n (d : Nat) : aBnd none d = some (d : Int) := Eq.trans rfl rfl
theorem bnd_s (d : Nat) (n : Int) : aBnd (some (.int kk n)) d = some n := by cases d <;> rfl
def lohi (lo hi : Option AV) (n : Nat) (k : Int → Int → Prop) : Prop := ∃ a b : Int, aBnd lo 0 = some a ∧ aBnd hi n = some b ∧ 0 ≤ a ∧ a ≤ b ∧ b ≤ n ∧ k a b
theorem lohi_ss {ka kb : IntKind} {a b : Int} {n : Nat} {k : Int → Int → Prop} : lohi (some (.int ka a)) (some (.int kb b)) n k = ((0 ≤ a ∧ a ≤ b ∧ b ≤ n) ∧ k a b) := by
  simp [lohi, bnd_s, and_assoc]
theorem lohi_ns {kb : IntKind} {b : Int} {n : Nat} {k : Int → Int → Prop} : lohi none (some (.int kb b)) n k = ((0 ≤ b ∧ b ≤ n) ∧ k 0 b) := by
  simp [lohi, bnd_s, bnd_n, and_assoc]
theorem lohi_sn {ka : IntKind} {a : Int} {n : Nat} {k : Int → Int → Prop} : lohi (some (.int ka a)) none n k = ((0 ≤ a ∧ a ≤ n) ∧ k a n) := by
  simp [lohi, bnd_s, bnd_n, and_assoc]
theorem lohi_nn {n : Nat} {k : Int → Int → Prop} : lohi none none n k = k 0 n := by
  simp [lohi, bnd_n]
theorem rows_part (a b : Int) : ((rowsOf xs).take b.toNat).drop a.toNat = rowsOf (part xs a b) := by simp [rowsOf, part, List.map_take, List.map_drop]
theorem c_sc_str {lo hi : Option AV} {l : List UInt8} (h : (T t).kd = .str) : aSlice T t (.str l) lo hi none k = lohi lo hi l.length fun a b => k (.str (part l a b)) := by
  simp [aSlice, h, lohi, part]
theorem c_sc_sl {lo hi : Option AV} (h : (T t).kd = .slice e) (h2 : (T e).kd.isOther = false) (h3 : (T e).size = s) : aSlice T t (.sl s (rowsOf xs)) lo hi none k = lohi lo hi xs.length fun a b => k (.sl s (rowsOf (part xs a b))) := by
  subst h3
  simp [aSlice, h, h2, lohi, rows_part, rowsOf_length]
theorem c_sc_ow {lo hi : Option AV} {b e' : Nat} (h : (T t).kd = .slice e) (h2 : (T e).kd.isOther = false) (h3 : (T e).size = s) : aSlice T t (.ow b e' s (rowsOf xs)) lo hi none k = lohi lo hi xs.length fun a b => k (.sl s (rowsOf (part xs a b))) := by
  subst h3
  simp [aSlice, h, h2, lohi, rows_part, rowsOf_length]
/-- The empty slice without capacity, by a full slice expression. -/
theorem c_s0xsl {rows : List (List AV)} {s' : Nat} {kb kc : IntKind} (h : (T t).kd = .slice e) (h2 : (T e).kd.isOther = false) : aSlice T t (.sl s' rows) none (some (.int kb 0)) (some (.int kc 0)) k = k .emp := by
  simp [aSlice, h, h2, bnd_s]
theorem c_s0xow {rows : List (List AV)} {s' b e' : Nat} {kb kc : IntKind} (h : (T t).kd = .slice e) (h2 : (T e).kd.isOther = false) : aSlice T t (.ow b e' s' rows) none (some (.int kb 0)) (some (.int kc 0)) k = k .emp := by
  simp [aSlice, h, h2, bnd_s]
theorem c_s0xemp {kb kc : IntKind} (h : (T t).kd = .slice e) (h2 : (T e).kd.isOther = false) : aSlice T t .emp none (some (.int kb 0)) (some (.int kc 0)) k = k .emp := by
  simp [aSlice, h, h2, bnd_s]
theorem lohi_congr {lo lo' hi hi' : Option AV} {n : Nat} {k : Int → Int → Prop} (h : lo = lo') (h2 : hi = hi') : lohi lo hi n k = lohi lo' hi' n k := by rw [h, h2]
end

section
variable {t : Nat} {k : AV → Prop}
def bld (o : Option (List AV)) (k : AV → Prop) : Prop := ∃ cs, o = some cs ∧ k (.agg cs)
theorem bld_some {cs : List AV} : bld (some cs) k = k (.agg cs) := by simp [bld]
theorem bld_congr {o o' : Option (List AV)} (h : o = o') : bld o k = bld o' k := by rw [h]
theorem c_bd_st {fs : List AFd} {z : List AV} {ps : List (Nat × AV)} (h : (T t).kd = .st fs) (h2 : (T t).zero = z) : aBuild T t ps k = bld (aFill (stPlace fs) z ps) k := by
  subst h2
  simp only [aBuild, h, bld]
theorem c_bd_arr {n e s : Nat} {z : List AV} {ps : List (Nat × AV)} (h : (T t).kd = .arr n e) (h2 : (T t).zero = z) (h3 : (T e).kd.isOther = false) (h4 : (T e).size = s) : aBuild T t ps k = bld (aFill (fun i => some (i * s, s)) z ps) k := by
  subst h2; subst h4
  simp only [aBuild, h, h3, true_and, bld]
theorem fill_nil {pl : Nat → Option (Nat × Nat)} {cs : List AV} : aFill pl cs [] = some cs := Eq.trans rfl rfl
theorem fill_cons {pl : Nat → Option (Nat × Nat)} {cs : List AV} {i : Nat} {v : AV} {r : List (Nat × AV)} : aFill pl cs ((i, v) :: r) = match pl i with
    | none => none
    | some (off, size) => if v.cells.length = size ∧ off + size ≤ cs.length ∧ v.known = true then aFill pl (lay off v.cells cs) r else none := rfl

theorem c_fd_1 {fs : List AFd} {cs : List AV} {f off sz ty : Nat} (h : (T t).kd = .st fs) (h2 : fs[f]? = some ⟨off, sz, ty⟩) (h3 : (T ty).kd.isOther = false) (h4 : (T ty).kd.isAgg = false) : aField T t (.agg cs) f k = (off < cs.length ∧ k (nth cs off)) := by
  simp only [aField, h, h2, aPart, h3, h4, Bool.false_eq_true, if_false, Option.some.injEq, exists_eq_left', true_and, eq_iff_iff]
  constructor
  · rintro ⟨c, h5, h6⟩
    refine ⟨(List.getElem?_eq_some_iff.1 h5).1, ?_⟩
    rw [nth_eq, h5]; exact h6
  · rintro ⟨h5, h6⟩
    exact ⟨_, nth_lt h5, h6⟩
theorem c_fd_a {fs : List AFd} {cs : List AV} {f off sz ty s : Nat} (h : (T t).kd = .st fs) (h2 : fs[f]? = some ⟨off, sz, ty⟩) (h3 : (T ty).kd.isOther = false) (h4 : (T ty).kd.isAgg = true) (h5 : (T ty).size = s) : aField T t (.agg cs) f k = k (.agg (cut off s cs)) := by
  subst h5
  simp only [aField, h, h2, aPart, h3, h4, if_true, Option.some.injEq, exists_eq_left', true_and]
theorem c_fa_cp {fs : List AFd} {cs : List AV} {f off sz ty : Nat} (h : (T t).kd = .st fs) (h2 : fs[f]? = some ⟨off, sz, ty⟩) : aFieldAddr T t (.cp cs) f k = k (.cp (cs.drop off)) := by
  simp only [aFieldAddr, h, h2, Option.some.injEq, exists_eq_left']
theorem c_fa_p {fs : List AFd} {b o f off sz ty : Nat} (h : (T t).kd = .st fs) (h2 : fs[f]? = some ⟨off, sz, ty⟩) : aFieldAddr T t (.ptr b o) f k = k (.ptr b (o + off)) := by
  simp only [aFieldAddr, h, h2, Option.some.injEq, exists_eq_left']
theorem nil_cp {cs : List AV} : aNil (.cp cs) k = k (.cp cs) := Eq.trans rfl rfl
theorem nil_p {b o : Nat} : aNil (.ptr b o) k = k (.ptr b o) := Eq.trans rfl rfl
theorem nil_fn {f : Nat} {cs : List AV} : aNil (.fn f cs) k = k (.fn f cs) := Eq.trans rfl rfl
theorem ext_tup {cs : List AV} {i : Nat} : aExt (.tup cs) i k = (i < cs.length ∧ k (nth cs i)) := by
  simp only [aExt, eq_iff_iff]
  constructor
  · rintro ⟨c, h5, h6⟩
    refine ⟨(List.getElem?_eq_some_iff.1 h5).1, ?_⟩
    rw [nth_eq, h5]; exact h6
  · rintro ⟨h5, h6⟩
    exact ⟨_, nth_lt h5, h6⟩
theorem mm_min {ka kb : IntKind} {a b : Int} : aMM true (.int ka a) (.int kb b) k = k (.int ka (min a b)) := by
  have : (if b < a then b else a) = min a b := by omega
  simp [aMM, this]
theorem mm_max {ka kb : IntKind} {a b : Int} : aMM false (.int ka a) (.int kb b) k = k (.int ka (max a b)) := by
  have : (if b > a then b else a) = max a b := by omega
  simp [aMM, this]
theorem c_cv_int {s d : Nat} {ka kb : IntKind} {n : Int} (h : (T d).kd = .int kb) (h2 : (T s).kd.isOther = false) : aConv T s d (.int ka n) k = k (.int kb (kb.wrap n)) := by
  simp [aConv, h, h2]
theorem c_cv_str {s d : Nat} {l : List UInt8} (h : (T d).kd = .str) (h2 : (T s).kd.isOther = false) : aConv T s d (.str l) k = k (.str l) := by
  simp [aConv, h, h2]
def eqG (o : Option Bool) (k : Bool → Prop) : Prop := ∃ b, o = some b ∧ k b
theorem eqG_some {b : Bool} {k : Bool → Prop} : eqG (some b) k = k b := by simp [eqG]
theorem eqG_congr {o o' : Option Bool} {k : Bool → Prop} (h : o = o') : eqG o k = eqG o' k := by rw [h]
theorem c_eq_agg {xs ys : List AV} (h : (T t).kd.isAgg = true) : aBin T .eql t (.agg xs) (.agg ys) k = eqG (eqT T 10 t xs ys) fun b => k (.bool b) := by simp [aBin, h, eqG]
theorem c_ne_agg {xs ys : List AV} (h : (T t).kd.isAgg = true) : aBin T .neq t (.agg xs) (.agg ys) k = eqG (eqT T 10 t xs ys) fun b => k (.bool (!b)) := by simp [aBin, h, eqG]
end

section
variable {α : Type} [Enc α] {s : Nat} [Sized α s] {dst : Option Nat} {t e b : Nat} {H : List (List AV)} {y : AV} {xs ys : List α} {k : Eff → List (Nat × Nat) → Prop}

theorem c_ap_emp {bt : Nat} (h : (T t).kd = .slice e) (h2 : (T e).kd.isOther = false) (hs : (T e).size = s) (hb : (T e).bytes = bt) (h3 : 0 < s) (hy : srcOf s y = some (rowsOf ys)) :
    lAppend T dst t t H .emp y k = ((ys.length ≤ 1099511627776 ∧ ys.length * bt ≤ 140737488355328) ∧ k ⟨dst, .ow H.length e s (rowsOf ys), [], H.length, [[.tok ys.length]]⟩ []) := by
  subst hs; subst hb
  simp only [lAppend, aAppend, h, true_and, eq_iff_iff]
  constructor
  · rintro ⟨_, _, rows, q1, q2, q3, q4, q5⟩
    rw [hy] at q1; injection q1 with q1; subst q1
    simp only [rowsOf_length] at q3 q4 q5
    exact ⟨⟨q3, q4⟩, q5⟩
  · rintro ⟨⟨q3, q4⟩, q5⟩
    exact ⟨h2, h3, _, hy, full_rowsOf Sized.full ys, by rw [rowsOf_length]; exact q3, by rw [rowsOf_length]; exact q4, by simpa [rowsOf_length] using q5⟩

theorem c_ap_ow {bt : Nat} (h : (T t).kd = .slice e) (h2 : (T e).kd.isOther = false) (hs : (T e).size = s) (hb : (T e).bytes = bt) (h3 : 0 < s) (hy : srcOf s y = some (rowsOf ys)) :
    lAppend T dst t t H (.ow b e s (rowsOf xs)) y k = (nth (nthB H b) 0 = .tok xs.length ∧ (xs.length + ys.length ≤ 1099511627776 ∧ (xs.length + ys.length) * bt ≤ 140737488355328) ∧ k ⟨dst, .ow b e s (rowsOf (xs ++ ys)), [(b, 0, .tok (xs.length + ys.length))], H.length, []⟩ [(b, 0)]) := by
  subst hs; subst hb
  simp only [lAppend, aAppend, h, true_and, eq_iff_iff]
  constructor
  · rintro ⟨_, _, q0, rows, q1, q2, q3, q4, q5, q6⟩
    rw [hy] at q1; injection q1 with q1; subst q1
    simp only [rowsOf_length, rowsOf_append] at q0 q4 q5 q6
    exact ⟨q0, ⟨q4, q5⟩, q6⟩
  · rintro ⟨q0, ⟨q4, q5⟩, q6⟩
    exact ⟨h2, h3, by simpa [ASt.view, rowsOf_length] using q0, _, hy, full_rowsOf Sized.full xs, full_rowsOf Sized.full ys, by simpa [rowsOf_length] using q4, by simpa [rowsOf_length] using q5, by simpa [rowsOf_length, rowsOf_append] using q6⟩
end

section
variable {dst : Option Nat} {t e : Nat} {x : AV} {H : List (List AV)} {k : Eff → List (Nat × Nat) → Prop}
/-- The only row of a literal, by its cells. -/
theorem c_bs1 {s : Nat} (h : (T t).kd = .slice e) (h2 : (T e).kd.isOther = false) (hs : (T e).size = s) (h3 : 0 < s) (h4 : s ≤ 1024) {n : Nat} :
    aBuildSlice T dst t 1 [(0, x)] n k = ((x.cells.length = s ∧ x.known = true ∧ allB AV.flat x.cells = true) ∧ k ⟨dst, .ow n e s [x.cells.map AV.low], [], n, [[.tok 1]]⟩ []) := by
  subst hs
  simp [aBuildSlice, h, h2, h3, h4, allP, and_assoc]
theorem c_bs0 {s n : Nat} (h : (T t).kd = .slice e) (h2 : (T e).kd.isOther = false) (hs : (T e).size = s) (h3 : 0 < s) : aBuildSlice T dst t 0 [] n k = k ⟨dst, .emp, [], n, []⟩ [] := by
  subst hs
  simp [aBuildSlice, h, h2, h3]
theorem c_bsn {s n len : Nat} {ps : List (Nat × AV)} (h : (T t).kd = .slice e) (h2 : (T e).kd.isOther = false) (hs : (T e).size = s) (h3 : 0 < s) (h4 : len ≠ 0) : aBuildSlice T dst t len ps n k = ((len * s ≤ 1024 ∧ ps.length = len ∧ allP s 0 ps = true) ∧ k ⟨dst, .ow n e s (ps.map fun p => p.2.cells.map AV.low), [], n, [[.tok len]]⟩ []) := by
  subst hs
  simp [aBuildSlice, h, h2, h3, h4, and_assoc]
end

attribute [congr] lohi_congr bld_congr eqG_congr

end Go.Ab
