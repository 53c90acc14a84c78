/- Values, for simp: lists as rows, wrapping, calls. -/
import Derived.Test.YtpgagefaneaioaaT19
namespace Go.Ab
open Go Go.RowKit
set_option linter.unusedVariables false
set_option linter.unusedSimpArgs false

attribute [congr] grd_congr aPick_congr awp_congr aops_congr aop_congr Ord_congr go_congr aBin_congr aUn_congr aConv_congr aNil_congr aExt_congr aLen_congr aField_congr aFieldAddr_congr aIndex_congr aIndexAddr_congr aMM_congr aSlice_congr aBuild_congr aPart_congr aBuildSlice_congr lLoad_congr lStore_congr lLookup_congr lUpdate_congr lAppend_congr aBox_congr aCallV_congr CallC_congr cnd_congr

variable {P : Program} {T : TT}

theorem wrap64 {x : Int} (h1 : -9223372036854775808 ≤ x) (h2 : x ≤ 9223372036854775807) : IntKind.i64.wrap x = x := by simp only [IntKind.wrap, IntKind.bits, IntKind.signed]; simp; omega

section
variable {k : AV → Prop} {ka : IntKind} {a b : Int} {t : Nat}
theorem b_add : aBin T .add t (.int ka a) (.int ka b) k = k (.int ka (ka.wrap (a + b))) := by simp [aBin, aInt]
theorem b_sub : aBin T .sub t (.int ka a) (.int ka b) k = k (.int ka (ka.wrap (a - b))) := by simp [aBin, aInt]
theorem b_mul : aBin T .mul t (.int ka a) (.int ka b) k = k (.int ka (ka.wrap (a * b))) := by simp [aBin, aInt]
theorem b_quo : aBin T .quo t (.int ka a) (.int ka b) k = (b ≠ 0 ∧ k (.int ka (ka.wrap (a.tdiv b)))) := by simp [aBin, aInt]
theorem b_rem : aBin T .rem t (.int ka a) (.int ka b) k = (b ≠ 0 ∧ k (.int ka (a.tmod b))) := by simp [aBin, aInt]
theorem b_eql : aBin T .eql t (.int ka a) (.int ka b) k = k (.bool (decide (a = b))) := by simp [aBin, aInt]; rfl
theorem b_neq : aBin T .neq t (.int ka a) (.int ka b) k = k (.bool (!decide (a = b))) := by simp [aBin, aInt]; rfl
theorem b_lss : aBin T .lss t (.int ka a) (.int ka b) k = k (.bool (decide (a < b))) := by simp [aBin, aInt]
theorem b_leq : aBin T .leq t (.int ka a) (.int ka b) k = k (.bool (decide (a ≤ b))) := by simp [aBin, aInt]
theorem b_gtr : aBin T .gtr t (.int ka a) (.int ka b) k = k (.bool (decide (b < a))) := by simp [aBin, aInt]
theorem b_geq : aBin T .geq t (.int ka a) (.int ka b) k = k (.bool (decide (b ≤ a))) := by simp [aBin, aInt]
theorem beq_dec (x y : List UInt8) : (x == y) = decide (x = y) := by rw [Bool.eq_iff_iff]; simp
theorem bs_eql {x y : List UInt8} : aBin T .eql t (.str x) (.str y) k = k (.bool (decide (x = y))) := by simp only [aBin, beq_dec]
theorem bs_neq {x y : List UInt8} : aBin T .neq t (.str x) (.str y) k = k (.bool (!decide (x = y))) := by simp only [aBin, bne, beq_dec]
theorem bb_eql {x y : Bool} (h : (T t).kd = .bool) : aBin T .eql t (.bool x) (.bool y) k = k (.bool (decide (x = y))) := by simp [aBin, h]; rfl
theorem bb_neq {x y : Bool} (h : (T t).kd = .bool) : aBin T .neq t (.bool x) (.bool y) k = k (.bool (!decide (x = y))) := by simp [aBin, h]; rfl
theorem u_neg : aUn .neg (.int ka a) k = k (.int ka (ka.wrap (0 - a))) := Eq.trans rfl rfl
theorem u_not {x : Bool} : aUn .not (.bool x) k = k (.bool (!x)) := Eq.trans rfl rfl
end

/-! ### Lists -/

class Enc (α : Type) where
  enc : α → List AV

def rowsOf {α : Type} [Enc α] (xs : List α) : List (List AV) := xs.map Enc.enc
theorem rowsOf_length {α : Type} [Enc α] (xs : List α) : (rowsOf xs).length = xs.length := by simp [rowsOf]
theorem rowsOf_get {α : Type} [Enc α] (xs : List α) (n : Nat) : (rowsOf xs)[n]? = (xs[n]?).map Enc.enc := by simp [rowsOf]
theorem rowsOf_append {α : Type} [Enc α] (xs ys : List α) : rowsOf xs ++ rowsOf ys = rowsOf (xs ++ ys) := by simp [rowsOf]

/-- The element at a place. -/
def gi {α : Type} [Inhabited α] (xs : List α) (i : Int) : α := xs.getD i.toNat default

theorem rows_gi {α : Type} [Inhabited α] [Enc α] {xs : List α} {i : Int} (h : 0 ≤ i) (h2 : i < xs.length) : (rowsOf xs)[i.toNat]? = some (Enc.enc (gi xs i)) := by
  have : i.toNat < xs.length := by omega
  simp [rowsOf, gi, List.getD, List.getElem?_eq_getElem this]

instance : Enc Int := ⟨fun x => [.int .i64 x]⟩
theorem enc_int (x : Int) : Enc.enc x = [AV.int .i64 x] := Eq.trans rfl rfl

theorem iaddr_sl {α : Type} [Inhabited α] [Enc α] {t e : Nat} {kk : IntKind} {xs : List α} {i : Int} {s : Nat} {k : AV → Prop} (h : (T t).kd = .slice e) (h2 : (T e).kd.isOther = false) (h3 : s = (T e).size) (h4 : 0 ≤ i) (h5 : i < xs.length) :
    aIndexAddr T t (.sl s (rowsOf xs)) (.int kk i) k = k (.cp (Enc.enc (gi xs i))) := by
  simp [aIndexAddr, h, h2, h3, h4, rows_gi h4 h5]
theorem iaddr_ow {α : Type} [Inhabited α] [Enc α] {t e b e' : Nat} {kk : IntKind} {xs : List α} {i : Int} {s : Nat} {k : AV → Prop} (h : (T t).kd = .slice e) (h2 : (T e).kd.isOther = false) (h3 : s = (T e).size) (h4 : 0 ≤ i) (h5 : i < xs.length) :
    aIndexAddr T t (.ow b e' s (rowsOf xs)) (.int kk i) k = k (.cp (Enc.enc (gi xs i))) := by
  simp [aIndexAddr, h, h2, h3, h4, rows_gi h4 h5]
theorem len_sl {α : Type} [Enc α] {t e s : Nat} {xs : List α} {k : AV → Prop} (h : (T t).kd = .slice e) : aLen T t (.sl s (rowsOf xs)) k = k (.int .i64 xs.length) := by simp [aLen, h, rowsOf_length]
theorem len_ow {α : Type} [Enc α] {t e s b e' : Nat} {xs : List α} {k : AV → Prop} (h : (T t).kd = .slice e) : aLen T t (.ow b e' s (rowsOf xs)) k = k (.int .i64 xs.length) := by simp [aLen, h, rowsOf_length]
theorem len_emp {t e : Nat} {k : AV → Prop} (h : (T t).kd = .slice e) : aLen T t .emp k = k (.int .i64 0) := by simp [aLen, h]
theorem len_str {t : Nat} {l : List UInt8} {k : AV → Prop} (h : (T t).kd = .str) : aLen T t (.str l) k = k (.int .i64 l.length) := by simp [aLen, h]

/-! ### Loads -/

theorem load_cp1 {dst : Option Nat} {t : Nat} {H : List (List AV)} {c : AV} {cs : List AV} {k : Eff → List (Nat × Nat) → Prop} (h : (T t).kd.isOther = false) (h2 : (T t).kd.isAgg = false) : lLoad T dst t H (.cp (c :: cs)) k = k ⟨dst, c, [], H.length, []⟩ [] := by
  simp [lLoad, aLoad, h, h2]
theorem load_cpa {dst : Option Nat} {t : Nat} {H : List (List AV)} {cs : List AV} {k : Eff → List (Nat × Nat) → Prop} (h : (T t).kd.isOther = false) (h2 : (T t).kd.isAgg = true) (h3 : (T t).size ≤ cs.length) : lLoad T dst t H (.cp cs) k = k ⟨dst, .agg (cs.take (T t).size), [], H.length, []⟩ [] := by
  simp [lLoad, aLoad, h, h2, h3]
def rdH (l : List AV) : Nat → Nat → List AV
  | _, 0 => []
  | o, n + 1 => nth l o :: rdH l (o + 1) n
theorem rdc_rdH (l : List AV) : ∀ (n o : Nat), rdc (nth l) o n = rdH l o n
  | 0, _ => rfl
  | n + 1, o => by rw [rdc, rdH, rdc_rdH l n]
theorem load_p1 {dst : Option Nat} {t b o : Nat} {H : List (List AV)} {k : Eff → List (Nat × Nat) → Prop} (h : (T t).kd.isOther = false) (h2 : (T t).kd.isAgg = false) :
    lLoad T dst t H (.ptr b o) k = ((nth (nthB H b) o).plain = true ∧ k ⟨dst, nth (nthB H b) o, [], H.length, []⟩ [(b, o)]) := by
  simp [lLoad, aLoad, h, h2, ASt.view]
theorem load_pa {dst : Option Nat} {t b o : Nat} {H : List (List AV)} {k : Eff → List (Nat × Nat) → Prop} (h : (T t).kd.isOther = false) (h2 : (T t).kd.isAgg = true) :
    lLoad T dst t H (.ptr b o) k = (allB AV.plain (rdH (nthB H b) o (T t).size) = true ∧ k ⟨dst, .agg (rdH (nthB H b) o (T t).size), [], H.length, []⟩ (ks b o (T t).size)) := by
  simp [lLoad, aLoad, h, h2, ASt.view, rdc_rdH]
theorem store_p {dst : Option Nat} {t b o : Nat} {v : AV} {H : List (List AV)} {k : Eff → List (Nat × Nat) → Prop} (h : (T t).kd.isOther = false) :
    lStore T dst t H (.ptr b o) v k = (v.known = true ∧ v.cells.length = (T t).size ∧ allB AV.one v.cells = true ∧ allB AV.plain (rdH (nthB H b) o v.cells.length) = true ∧ k ⟨dst, .und, writes b o v.cells, H.length, []⟩ (ks b o v.cells.length)) := by
  simp [lStore, aStore, h, ASt.view, rdc_rdH]

/-! ### Own slices -/

def FullE (α : Type) [Enc α] (n : Nat) : Prop := ∀ x : α, (Enc.enc x).length = n
theorem full_rowsOf {α : Type} [Enc α] {n : Nat} (h : FullE α n) (xs : List α) : Full n (rowsOf xs) := by
  intro row hr
  simp only [rowsOf, List.mem_map] at hr
  obtain ⟨x, _, rfl⟩ := hr
  exact h x
theorem fullE_int : FullE Int 1 := fun _ => rfl

theorem src_sl {s : Nat} {rows : List (List AV)} : srcOf s (.sl s rows) = some rows := by simp [srcOf]
theorem src_ow {s b e : Nat} {rows : List (List AV)} : srcOf s (.ow b e s rows) = some rows := by simp [srcOf]

theorem append_emp {α : Type} [Enc α] {dst : Option Nat} {t e s : Nat} {H : List (List AV)} {y : AV} {ys : List α} {k : Eff → List (Nat × Nat) → Prop} (h : (T t).kd = .slice e) (h2 : (T e).kd.isOther = false) (hs : (T e).size = s) (h3 : 0 < s) (hy : srcOf s y = some (rowsOf ys))
    (hf : FullE α s) (hl : ys.length ≤ 1099511627776) (hl2 : ys.length * (T e).bytes ≤ 140737488355328) : lAppend T dst t t H .emp y k = k ⟨dst, .ow H.length e s (rowsOf ys), [], H.length, [[.tok ys.length]]⟩ [] := by
  subst hs
  simp only [lAppend, aAppend, h, true_and, eq_iff_iff]
  constructor
  · rintro ⟨_, _, rows, q1, q2, q3, q4, q5⟩
    rw [hy] at q1; injection q1 with q1; subst q1
    simpa [rowsOf_length] using q5
  · intro hk
    exact ⟨h2, h3, _, hy, full_rowsOf hf ys, by rw [rowsOf_length]; exact hl, by rw [rowsOf_length]; exact hl2, by simpa [rowsOf_length] using hk⟩

theorem append_ow {α : Type} [Enc α] {dst : Option Nat} {t e s b : Nat} {H : List (List AV)} {y : AV} {xs ys : List α} {k : Eff → List (Nat × Nat) → Prop} (h : (T t).kd = .slice e) (h2 : (T e).kd.isOther = false) (hs : (T e).size = s) (h3 : 0 < s) (hc : nth (nthB H b) 0 = .tok xs.length) (hy : srcOf s y = some (rowsOf ys))
    (hf : FullE α s) (hl : xs.length + ys.length ≤ 1099511627776) (hl2 : (xs.length + ys.length) * (T e).bytes ≤ 140737488355328) :
    lAppend T dst t t H (.ow b e s (rowsOf xs)) y k = k ⟨dst, .ow b e s (rowsOf (xs ++ ys)), [(b, 0, .tok (xs.length + ys.length))], H.length, []⟩ [(b, 0)] := by
  subst hs
  simp only [lAppend, aAppend, h, true_and, eq_iff_iff]
  constructor
  · rintro ⟨_, _, _, rows, q1, q2, q3, q4, q5, q6⟩
    rw [hy] at q1; injection q1 with q1; subst q1
    simpa [rowsOf_length, rowsOf_append] using q6
  · intro hk
    exact ⟨h2, h3, by simpa [ASt.view, rowsOf_length] using hc, _, hy, full_rowsOf hf xs, full_rowsOf hf ys, by simpa [rowsOf_length] using hl, by simpa [rowsOf_length] using hl2, by simpa [rowsOf_length, rowsOf_append] using hk⟩

/-- A slice literal of one element. -/
theorem bslice1 {dst : Option Nat} {t e : Nat} {x : AV} {H : List (List AV)} {k : Eff → List (Nat × Nat) → Prop} (h : (T t).kd = .slice e) (h2 : (T e).kd.isOther = false) (h3 : 0 < (T e).size) (h4 : (T e).size ≤ 1024) (h5 : x.cells.length = (T e).size) (h6 : x.known = true) (h7 : allB AV.flat x.cells = true) :
    aBuildSlice T dst t 1 [(0, x)] H.length k = k ⟨dst, .ow H.length e (T e).size [x.cells.map AV.low], [], H.length, [[.tok 1]]⟩ [] := by
  simp [aBuildSlice, h, h2, h3, h4, allP, h5, h6, h7]
theorem bslice0 {dst : Option Nat} {t e n : Nat} {k : Eff → List (Nat × Nat) → Prop} (h : (T t).kd = .slice e) (h2 : (T e).kd.isOther = false) (h3 : 0 < (T e).size) : aBuildSlice T dst t 0 [] n k = k ⟨dst, .emp, [], n, []⟩ [] := by
  simp [aBuildSlice, h, h2, h3]
theorem rows1 (x : Int) : [[AV.int .i64 x]] = rowsOf [x] := Eq.trans rfl rfl

/-! ### Calls without blocks -/

theorem ren_flat {m : Nat → Nat} : ∀ c : AV, c.flat = true → (∀ t e s rows, c ≠ .ow t e s rows) → ren m c = c := by
  intro c h h2
  cases c <;> first | rfl | (simp [AV.flat] at h; done) | exact absurd rfl (h2 _ _ _ _)

theorem callC {s : ASt} {dst : Option Nat} {f : Nat} {acts args : List AV} {r : AV} {k : Eff → List (Nat × Nat) → Prop} (hc : Callable P f) (hm : Meets P f [] args r []) (ha : Args id 0 acts args)
    (hk : k ⟨dst, ren (newIds id 0 s.heap.length) r, [], s.heap.length, []⟩ []) : CallC P s dst f acts k := by
  refine ⟨id, 0, [], [], args, r, hc, hm, ha, ⟨rfl, Nat.zero_le _, fun x y h => by omega, fun x h => by omega, fun b hb => by simpa [ASt.view] using hb, fun b j h => by omega, fun b h => by omega, fun b j h => by omega, fun b j h => by omega⟩, fun b j h => by omega, _, .inl rfl, ?_⟩
  simpa [callEff, backs, keysOf] using hk

theorem Args.flat {m : Nat → Nat} {n : Nat} : ∀ {cs ds : List AV}, allB AV.flat cs = true → cs.map AV.low = ds → Args m n cs ds
  | [], _, _, h => by subst h; exact .nil
  | c :: cs, _, h, h2 => by
    subst h2
    simp only [allB, Bool.and_eq_true] at h
    exact .cons (.flat c h.1) (Args.flat h.2 rfl)

theorem wk_flat {g : Nat → Nat} {n : Nat} {c d : AV} (h : c.flat = true) (h2 : c.low = d) : Wk g n c d := by subst h2; exact .flat c h
theorem wk_flats {g : Nat → Nat} {n : Nat} : ∀ {cs ds : List AV}, allB AV.flat cs = true → cs.map AV.low = ds → WkL g n cs ds
  | [], _, _, h => by subst h; trivial
  | c :: cs, _, h, h2 => by
    subst h2
    simp only [allB, Bool.and_eq_true] at h
    exact ⟨.flat c h.1, wk_flats h.2 rfl⟩
theorem wk_agg {g : Nat → Nat} {n : Nat} {cs ds : List AV} (h : WkL g n cs ds) : Wk g n (.agg cs) (.agg ds) := .agg cs ds h.get.1 fun j c d x y => by
  have := h.get.2 j
  rw [nth_eq, nth_eq, x, y] at this; exact this
theorem wk_tup {g : Nat → Nat} {n : Nat} {cs ds : List AV} (h : WkL g n cs ds) : Wk g n (.tup cs) (.tup ds) := .tup cs ds h.get.1 fun j c d x y => by
  have := h.get.2 j
  rw [nth_eq, nth_eq, x, y] at this; exact this

/-- The end of a function that was handed no block and leaves none. -/
def res (T : TT) (R : List AV) (H : List (List AV)) (rs : List ResultVar) (k : List AV → Prop) : Prop := resK T ⟨R, H⟩ rs k
theorem res_nil {R : List AV} {H : List (List AV)} {k : List AV → Prop} : res T R H [] k = k [] := Eq.trans rfl rfl
theorem res_t {R : List AV} {H : List (List AV)} {t : Nat} {rs : List ResultVar} {k : List AV → Prop} : res T R H (.tmp t :: rs) k = res T R H rs fun vs => k (nth R t :: vs) := Eq.trans rfl rfl
theorem res_c1 {R : List AV} {H : List (List AV)} {a t b o : Nat} {rs : List ResultVar} {k : List AV → Prop} (h : (T t).kd.isOther = false) (h2 : (T t).kd.isAgg = false) (hp : nth R a = .ptr b o) :
    res T R H (.cell a t :: rs) k = ((nth (nthB H b) o).plain = true ∧ res T R H rs fun vs => k (nth (nthB H b) o :: vs)) := by
  simp [res, resK, h, h2, hp, ASt.view]
/-- A result that lies in a block. -/
def resP (T : TT) (R : List AV) (H : List (List AV)) (t : Nat) (v : AV) (rs : List ResultVar) (k : List AV → Prop) : Prop := (T t).kd.isOther = false ∧ match v with
  | .ptr b o => if (T t).kd.isAgg then allB AV.plain (rdH (nthB H b) o (T t).size) = true ∧ res T R H rs fun vs => k (.agg (rdH (nthB H b) o (T t).size) :: vs)
      else (nth (nthB H b) o).plain = true ∧ res T R H rs fun vs => k (nth (nthB H b) o :: vs)
  | _ => False
theorem res_c {R : List AV} {H : List (List AV)} {a t : Nat} {rs : List ResultVar} {k : List AV → Prop} : res T R H (.cell a t :: rs) k = resP T R H t (nth R a) rs k := by
  simp only [res, resK, resP, ASt.view]
  cases nth R a <;> simp only [rdc_rdH]
theorem resP_congr {R : List AV} {H : List (List AV)} {t : Nat} {v v' : AV} {rs : List ResultVar} {k : List AV → Prop} (h : v = v') : resP T R H t v rs k = resP T R H t v' rs k := by rw [h]
theorem c_rp_a {R : List AV} {H : List (List AV)} {t b o s : Nat} {rs : List ResultVar} {k : List AV → Prop} (h : (T t).kd.isOther = false) (h2 : (T t).kd.isAgg = true) (h3 : (T t).size = s) :
    resP T R H t (.ptr b o) rs k = (allB AV.plain (rdH (nthB H b) o s) = true ∧ res T R H rs fun vs => k (.agg (rdH (nthB H b) o s) :: vs)) := by
  subst h3; simp [resP, h, h2]
theorem c_rp_1 {R : List AV} {H : List (List AV)} {t b o : Nat} {rs : List ResultVar} {k : List AV → Prop} (h : (T t).kd.isOther = false) (h2 : (T t).kd.isAgg = false) :
    resP T R H t (.ptr b o) rs k = ((nth (nthB H b) o).plain = true ∧ res T R H rs fun vs => k (nth (nthB H b) o :: vs)) := by
  simp [resP, h, h2]

theorem ends_r0 {rs : List ResultVar} {r : AV} {R : List AV} {H : List (List AV)} (h : res T R H rs fun vs => Wk (nthN []) 0 (sing vs) r) : ends T rs 0 r [] .ret ⟨R, H⟩ := by
  have : (fun vs => Wk (nthN []) 0 (sing vs) r) = fun vs => ∃ bs, Keeps 0 bs ∧ Wk (nthN bs) bs.length (sing vs) r ∧ WkHs (nthN bs) bs.length H bs [] := by
    funext vs
    refine propext ⟨fun h => ⟨[], ⟨rfl, rfl⟩, h, trivial⟩, fun ⟨bs, h1, h2, h3⟩ => ?_⟩
    cases bs with
    | nil => exact h2
    | cons b bs => exact h3.elim
  show res T R H rs _
  rw [← this]; exact h
theorem ends_n0 {rs : List ResultVar} {r : AV} {R : List AV} {H : List (List AV)} (h : res T R H rs fun vs => Wk (nthN []) 0 (sing vs) r) : ends T rs 0 r [] .nrm ⟨R, H⟩ := ends_r0 h

attribute [congr] resP_congr

end Go.Ab
