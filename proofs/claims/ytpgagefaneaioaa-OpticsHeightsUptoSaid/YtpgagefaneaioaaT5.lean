/- The table of types; equality; the operations that look at values alone, abstractly, and that they are right. -/
import Derived.Test.YtpgagefaneaioaaT4
import Derived.Laws.StructEq
namespace Go.Ab
open Go Go.RowKit
set_option linter.unusedVariables false
set_option linter.unusedSimpArgs false

structure AFd where
  off : Nat
  size : Nat
  ty : Nat

inductive AKind where
  | int (k : IntKind) | bool | str | st (fs : List AFd) | arr (n e : Nat) | slice (e : Nat) | ptr (e : Nat) | map (k e : Nat) | fn | other
  deriving Inhabited

structure ATy where
  kd : AKind
  size : Nat
  bytes : Nat
  zero : List AV
  deriving Inhabited

abbrev TT := Nat → ATy

/-- A concrete value without addresses, abstractly. -/
def cvOne : Value → AV
  | .bool b => .bool b
  | .int k n => .int k n
  | .string s => .str s.data.toList
  | .pointer none => .nilp
  | .slice none 0 0 => .emp
  | .map none => .nilm
  | .nilFunc => .nilf
  | _ => .non

def cv : Value → AV
  | .agg cs => .agg (cs.toList.map cvOne)
  | v => cvOne v

theorem cvOne_VR (E : Env) (v : Value) : VR E (cvOne v) v := by
  unfold cvOne
  split
  · exact .bool _
  · exact .int _ _
  · exact VR.str _
  · exact .nilp
  · exact .emp none
  · exact .nilm
  · exact .nilf
  · exact .non _

theorem cv_VR (E : Env) (v : Value) : VR E (cv v) v := by
  unfold cv
  split
  · rename_i cs
    refine .agg _ _ (by simp) (fun j c v hc hv => ?_)
    rw [List.getElem?_map] at hc
    rw [← Array.getElem?_toList] at hv
    rw [hv] at hc
    injection hc with hc
    subst hc
    exact cvOne_VR E v
  · exact cvOne_VR E v

/-- What the table says of type t, of the program's. -/
def kdOk (P : Program) (t : Nat) : AKind → Prop
  | .int k => P.underlying t = some (.int k)
  | .bool => P.underlying t = some .bool
  | .str => P.underlying t = some .string
  | .st fs => ∃ gs, P.underlying t = some (.struct gs) ∧ gs.size = fs.length ∧ P.stoodInHeld t = false ∧ P.eqGuardType P.depth t = false ∧
      ∀ (i : Nat) f g, fs[i]? = some f → gs[i]? = some g → g.name ≠ "_" ∧ g.offset = f.off ∧ g.type = f.ty ∧ f.size ≠ 0 ∧ ∃ j, P.info? f.ty = some j ∧ j.size = f.size
  | .arr n e => P.underlying t = some (.array n e) ∧ P.eqGuardType P.depth t = false
  | .slice e => P.underlying t = some (.slice e)
  | .ptr e => P.underlying t = some (.pointer e)
  | .map k e => P.underlying t = some (.map k e)
  | .fn => ∃ a b c, P.underlying t = some (.func a b c)
  | .other => True

def AKind.isOther : AKind → Bool
  | .other => true
  | _ => false

def tyOk (P : Program) (t : Nat) (A : ATy) : Prop :=
  A.kd.isOther = true ∨ (kdOk P t A.kd ∧ ∃ i z, P.info? t = some i ∧ i.size = A.size ∧ i.bytes = A.bytes ∧ i.zero = some z ∧ z.cells.size = A.size ∧ A.zero = z.cells.toList.map cvOne ∧ (∀ v ∈ z.cells, v.oneCell' = true) ∧ (match A.kd with | .st _ | .arr .. => ∃ cs, z = .agg cs | _ => z.oneCell' = true))

def TabOk (P : Program) (T : TT) : Prop := ∀ t, tyOk P t (T t)

def AKind.isAgg : AKind → Bool
  | .st _ | .arr .. => true
  | _ => false

section
variable {P : Program} {T : TT}

theorem TabOk.kd (h : TabOk P T) {t : Nat} (hn : (T t).kd.isOther = false) : kdOk P t (T t).kd := by
  rcases h t with h | h
  · rw [hn] at h; cases h
  · exact h.1

theorem TabOk.info (h : TabOk P T) {t : Nat} (hn : (T t).kd.isOther = false) :
    ∃ i z, P.info? t = some i ∧ i.size = (T t).size ∧ i.bytes = (T t).bytes ∧ i.zero = some z ∧ z.cells.size = (T t).size ∧ (T t).zero = z.cells.toList.map cvOne ∧ (∀ v ∈ z.cells, v.oneCell' = true) ∧ ((T t).kd.isAgg = true → ∃ cs, z = .agg cs) ∧ ((T t).kd.isAgg = false → z.oneCell' = true) := by
  rcases h t with h | h
  · rw [hn] at h; cases h
  · obtain ⟨_, i, z, h1, h2, h3, h4, h5, h6, h7, h8⟩ := h
    refine ⟨i, z, h1, h2, h3, h4, h5, h6, h7, fun x => ?_, fun x => ?_⟩ <;> cases hk : (T t).kd <;> rw [hk] at x h8 <;> simp only [AKind.isAgg] at x <;> first | exact h8 | cases x

theorem TabOk.size (h : TabOk P T) {t : Nat} (hn : (T t).kd.isOther = false) (w : World) : (sizeOf t).run P w = .ok (T t).size w := by
  obtain ⟨i, z, h1, h2, _⟩ := h.info hn
  simp [sizeOf, typeInfo, h1, h2]

theorem TabOk.isAgg (h : TabOk P T) {t : Nat} (hn : (T t).kd.isOther = false) (w : World) : (isAgg t).run P w = .ok (T t).kd.isAgg w := by
  have := h.kd hn
  cases hk : (T t).kd <;> rw [hk] at this hn <;> simp only [kdOk, AKind.isOther] at this hn
  case int => simp [Go.isAgg, run_underlying this, AKind.isAgg]
  case bool => simp [Go.isAgg, run_underlying this, AKind.isAgg]
  case str => simp [Go.isAgg, run_underlying this, AKind.isAgg]
  case st => obtain ⟨gs, h1, _⟩ := this; simp [Go.isAgg, run_underlying h1, AKind.isAgg]
  case arr => simp [Go.isAgg, run_underlying this.1, AKind.isAgg]
  case slice => simp [Go.isAgg, run_underlying this, AKind.isAgg]
  case ptr => simp [Go.isAgg, run_underlying this, AKind.isAgg]
  case map => simp [Go.isAgg, run_underlying this, AKind.isAgg]
  case fn => obtain ⟨a, b, c, h1⟩ := this; simp [Go.isAgg, run_underlying h1, AKind.isAgg]
  case other => cases hn

/-- A part of cells. -/
def cut (off n : Nat) (cs : List AV) : List AV := (cs.drop off).take n

theorem cut_get {off n : Nat} {cs : List AV} {j : Nat} {c : AV} (h : (cut off n cs)[j]? = some c) : j < n ∧ cs[off + j]? = some c := by
  unfold cut at h
  rw [List.getElem?_take] at h
  split at h
  · rename_i hj
    rw [List.getElem?_drop] at h
    exact ⟨hj, h⟩
  · cases h

/-! ### Equality -/

def eqFs (eq : Nat → List AV → List AV → Option Bool) (xs ys : List AV) : List AFd → Option Bool
  | [] => some true
  | f :: r => match eq f.ty (cut f.off f.size xs) (cut f.off f.size ys), eqFs eq xs ys r with
    | some a, some b => some (a && b)
    | _, _ => none

def eqEs (eq : Nat → List AV → List AV → Option Bool) (e size : Nat) (xs ys : List AV) : Nat → Nat → Option Bool
  | _, 0 => some true
  | i, n + 1 => match eq e (cut (i * size) size xs) (cut (i * size) size ys), eqEs eq e size xs ys (i + 1) n with
    | some a, some b => some (a && b)
    | _, _ => none

def eqT (T : TT) : Nat → Nat → List AV → List AV → Option Bool
  | 0, _, _, _ => none
  | d + 1, t, xs, ys =>
    match (T t).kd with
    | .int _ => match xs, ys with
      | [.int k a], [.int k' b] => if k = k' then some (a == b) else none
      | _, _ => none
    | .bool => match xs, ys with
      | [.bool a], [.bool b] => some (a == b)
      | _, _ => none
    | .str => match xs, ys with
      | [.str a], [.str b] => some (a == b)
      | _, _ => none
    | .st fs => if xs.length = (T t).size ∧ ys.length = (T t).size then eqFs (eqT T d) xs ys fs else none
    | .arr n e => if xs.length = (T t).size ∧ ys.length = (T t).size ∧ (T e).kd.isOther = false then eqEs (eqT T d) e (T e).size xs ys 0 n else none
    | _ => none

theorem VRs.size {E : Env} {cs : List AV} {vs : Array Value} (h : VRs E cs vs.toList) : vs.size = cs.length := by simpa using h.1

theorem VRs.agg {E : Env} {cs : List AV} {vs : Array Value} (h : VRs E cs vs.toList) : VR E (.agg cs) (.agg vs) :=
  .agg cs vs h.size (fun j c v hc hv => h.2 j c v hc (by simpa using hv))
theorem VRs.tup {E : Env} {cs : List AV} {vs : Array Value} (h : VRs E cs vs.toList) : VR E (.tup cs) (.tuple vs) :=
  .tup cs vs h.size (fun j c v hc hv => h.2 j c v hc (by simpa using hv))
theorem VR.of_agg {E : Env} {cs : List AV} {v : Value} (h : VR E (.agg cs) v) : ∃ vs : Array Value, v = .agg vs ∧ VRs E cs vs.toList := by
  cases h with
  | agg cs vs hl hh => exact ⟨vs, rfl, by simpa using hl, fun j c v hc hv => hh j c v hc (by simpa using hv)⟩
theorem VR.of_tup {E : Env} {cs : List AV} {v : Value} (h : VR E (.tup cs) v) : ∃ vs : Array Value, v = .tuple vs ∧ VRs E cs vs.toList := by
  cases h with
  | tup cs vs hl hh => exact ⟨vs, rfl, by simpa using hl, fun j c v hc hv => hh j c v hc (by simpa using hv)⟩

theorem VRs.cut {E : Env} {cs : List AV} {vs : Array Value} (h : VRs E cs vs.toList) (off n : Nat) : VRs E (cut off n cs) (vs.extract off (off + n)).toList := by
  have h1 := h.size
  refine ⟨?_, fun j c v hc hv => ?_⟩
  · simp only [Array.length_toList, Array.size_extract, Ab.cut, List.length_take, List.length_drop]
    omega
  · obtain ⟨h2, h3⟩ := cut_get hc
    refine h.2 (off + j) c v h3 ?_
    rw [Array.getElem?_toList, Array.getElem?_extract] at hv
    split at hv
    · simpa using hv
    · cases hv

/-- A part's run. -/
theorem run_part_agg (h : TabOk P T) {t : Nat} (hn : (T t).kd.isOther = false) (ha : (T t).kd.isAgg = true) (vs : Array Value) (off : Nat) (w : World) :
    (part t vs off).run P w = .ok (.agg (vs.extract off (off + (T t).size))) w := by simp [part, h.isAgg hn, h.size hn, ha]
theorem run_part_one (h : TabOk P T) {t : Nat} (hn : (T t).kd.isOther = false) (ha : (T t).kd.isAgg = false) {vs : Array Value} {off : Nat} {v : Value} (hv : vs[off]? = some v) (w : World) :
    (part t vs off).run P w = .ok v w := by simp [part, h.isAgg hn, ha, hv]

theorem cut_one {cs : List AV} {off : Nat} {c : AV} (h : cut off 1 cs = [c]) : cs[off]? = some c := by
  have : (cut off 1 cs)[0]? = some c := by rw [h]; rfl
  simpa using (cut_get this).2

/-- The parts that two values' fields are, as values: what 'part' hands back. -/
def partV (T : TT) (t : Nat) (vs : List Value) : Value := if (T t).kd.isAgg then .agg vs.toArray else vs.headD undef

/-- The elements of an array, compared one by one. -/
def eqElems (d e size : Nat) (xs ys : Array Value) : Nat → Nat → Sem Bool
  | _, 0 => pure true
  | i, m + 1 => do
    let a ← part e xs (i * size)
    let b ← part e ys (i * size)
    let r ← Op.equalIn d e a b
    if (!r) = true then pure false else eqElems d e size xs ys (i + 1) m

theorem run_equalIn_array (w : World) (d t : Nat) (xs ys : Array Value) (n e size : Nat) (ht : P.underlying t = some (.array n e)) (hs : ∀ w, (sizeOf e).run P w = .ok size w) :
    (Op.equalIn (d + 1) t (.agg xs) (.agg ys)).run P w = (eqElems d e size xs ys 0 n).run P w := by
  simp only [Op.equalIn, Sem.run_bind, run_underlying ht, Result.andThen_ok, hs]
  rw [Std.Legacy.Range.forIn_eq_forIn_range']
  have hr : List.range' ([:n] : Std.Legacy.Range).start ([:n] : Std.Legacy.Range).size ([:n] : Std.Legacy.Range).step = List.range' 0 n := by
    simp [Std.Legacy.Range.size]
  rw [hr]
  generalize 0 = i
  clear ht hr
  induction n generalizing i w with
  | zero => simp [eqElems]
  | succ n ih =>
    simp only [List.range'_succ, List.forIn_cons, eqElems, Sem.run_bind]
    generalize (part e xs (i * size)).run P w = r1
    cases r1 with
    | ok a w1 =>
      simp only [Result.andThen_ok]
      generalize (part e ys (i * size)).run P w1 = r2
      cases r2 with
      | ok b w2 =>
        simp only [Result.andThen_ok]
        generalize (Op.equalIn d e a b).run P w2 = r3
        cases r3 with
        | ok r w3 =>
          cases r
          · simp
          · simp only [Result.andThen_ok, Bool.not_true, Bool.false_eq_true, if_false, Sem.run_pure]
            exact ih w3 (i + 1)
        | halt x w3 => simp [Result.andThen]
      | halt x w2 => simp [Result.andThen]
    | halt x w1 => simp [Result.andThen]

theorem eqT_single (d t : Nat) (xs ys : List AV) (b : Bool) (he : eqT T d t xs ys = some b) : (T t).kd.isOther = false ∧ ((T t).kd.isAgg = false → (∃ c, xs = [c]) ∧ ∃ c, ys = [c]) := by
  cases d with
  | zero => simp [eqT] at he
  | succ d =>
    cases hk : (T t).kd <;> simp only [eqT, hk] at he
    case int => split at he; exact ⟨rfl, fun _ => ⟨⟨_, rfl⟩, ⟨_, rfl⟩⟩⟩; cases he
    case bool => split at he; exact ⟨rfl, fun _ => ⟨⟨_, rfl⟩, ⟨_, rfl⟩⟩⟩; cases he
    case str => split at he; exact ⟨rfl, fun _ => ⟨⟨_, rfl⟩, ⟨_, rfl⟩⟩⟩; cases he
    case st => exact ⟨rfl, fun x => by cases x⟩
    case arr => exact ⟨rfl, fun x => by cases x⟩
    all_goals (simp at he)

/-- Two parts, compared. -/
theorem eqT_part (h : TabOk P T) {E : Env} {d D ty off : Nat} {xs ys : List AV} {us zs : Array Value} {b : Bool} (a3 : VRs E xs us.toList) (a4 : VRs E ys zs.toList)
    (ih : ∀ (t : Nat) (xs ys : List AV) (r : Bool), eqT T d t xs ys = some r → ∀ (vx vy : Value),
      ((T t).kd.isAgg = true → VR E (.agg xs) vx ∧ VR E (.agg ys) vy) → ((T t).kd.isAgg = false → ∀ c, xs = [c] → VR E c vx) → ((T t).kd.isAgg = false → ∀ c, ys = [c] → VR E c vy) →
      ∀ w, (Op.equalIn D t vx vy).run P w = .ok r w)
    (he : eqT T d ty (cut off (T ty).size xs) (cut off (T ty).size ys) = some b) (w : World) :
    ∃ px py, (part ty us off).run P w = .ok px w ∧ (part ty zs off).run P w = .ok py w ∧ (Op.equalIn D ty px py).run P w = .ok b w := by
  obtain ⟨hno, hs⟩ := eqT_single d ty _ _ b he
  cases hag : (T ty).kd.isAgg with
  | true =>
    exact ⟨_, _, run_part_agg h hno hag us off w, run_part_agg h hno hag zs off w,
      ih ty _ _ b he _ _ (fun _ => ⟨(a3.cut off _).agg, (a4.cut off _).agg⟩) (fun x => by rw [hag] at x; cases x) (fun x => by rw [hag] at x; cases x) w⟩
  | false =>
    obtain ⟨⟨c, hc⟩, ⟨c', hc'⟩⟩ := hs hag
    have one : ∀ (l : List AV) (vs : Array Value) (c : AV), VRs E l vs.toList → cut off (T ty).size l = [c] → ∃ v, vs[off]? = some v ∧ VR E c v := fun l vs c hl hc => by
      have hc1 : l[off]? = some c := by
        have : (cut off (T ty).size l)[0]? = some c := by rw [hc]; rfl
        simpa using (cut_get this).2
      obtain ⟨v, hv1, hv2⟩ := hl.get hc1
      exact ⟨v, by simpa using hv1, hv2⟩
    obtain ⟨px, p1, p2⟩ := one xs us c a3 hc
    obtain ⟨py, q1, q2⟩ := one ys zs c' a4 hc'
    refine ⟨px, py, run_part_one h hno hag p1 w, run_part_one h hno hag q1 w, ih ty _ _ b he _ _ (fun x => by rw [hag] at x; cases x) (fun _ c1 h1 => ?_) (fun _ c1 h1 => ?_) w⟩
    · rw [hc] at h1; injection h1 with h1; subst h1; exact p2
    · rw [hc'] at h1; injection h1 with h1; subst h1; exact q2

theorem eqT_sound (h : TabOk P T) {E : Env} : ∀ (d t : Nat) (xs ys : List AV) (r : Bool), eqT T d t xs ys = some r → ∀ (D : Nat) (vx vy : Value), d ≤ D →
    ((T t).kd.isAgg = true → VR E (.agg xs) vx ∧ VR E (.agg ys) vy) → ((T t).kd.isAgg = false → ∀ c, xs = [c] → VR E c vx) → ((T t).kd.isAgg = false → ∀ c, ys = [c] → VR E c vy) →
    ∀ w, (Op.equalIn D t vx vy).run P w = .ok r w
  | 0, t, xs, ys, r, he, _, _, _, _, _, _, _, _ => by simp [eqT] at he
  | d + 1, t, xs, ys, r, he, D, vx, vy, hD, ha, hx, hy, w => by
    obtain ⟨D, rfl⟩ : ∃ D', D = D' + 1 := ⟨D - 1, by omega⟩
    have hno : (T t).kd.isOther = false := by
      cases hk : (T t).kd <;> simp only [eqT, hk] at he <;> first | rfl | (simp at he)
    have hkd := h.kd hno
    cases hk : (T t).kd <;> simp only [eqT, hk] at he
    case int k0 =>
      rw [hk] at hkd
      split at he
      · rename_i k a k' b
        split at he
        · rename_i hkk
          subst hkk
          injection he with he
          subst he
          have h1 := hx (by rw [hk]; rfl) _ rfl
          have h2 := hy (by rw [hk]; rfl) _ rfl
          cases h1; cases h2
          exact run_equalIn_int w D t k k0 a b hkd
        · cases he
      · cases he
    case bool =>
      rw [hk] at hkd
      split at he
      · injection he with he
        subst he
        have h1 := hx (by rw [hk]; rfl) _ rfl
        have h2 := hy (by rw [hk]; rfl) _ rfl
        cases h1; cases h2
        exact run_equalIn_bool w D t _ _ hkd
      · cases he
    case str =>
      rw [hk] at hkd
      split at he
      · injection he with he
        subst he
        have h1 := hx (by rw [hk]; rfl) _ rfl
        have h2 := hy (by rw [hk]; rfl) _ rfl
        cases h1; cases h2
        rw [run_equalIn_string w D t _ _ hkd, ByteArray.toList_eq, ByteArray.toList_eq]
      · cases he
    case st fs =>
      rw [hk] at hkd
      split at he
      · rename_i hl
        obtain ⟨gs, h1, h2, h3, h4, h5⟩ := hkd
        obtain ⟨a1, a2⟩ := ha (by rw [hk]; rfl)
        obtain ⟨us, rfl, a3⟩ := a1.of_agg
        obtain ⟨zs, rfl, a4⟩ := a2.of_agg
        have hfs : P.fieldsOf t = gs := by simp [Program.fieldsOf, h1]
        rw [run_equalIn_struct w D t us zs (by rw [hfs]; exact h1) h3, hfs]
        -- along the fields
        have key : ∀ (fs : List AFd) (gl : List Field), gl.length = fs.length → (∀ (i : Nat) f g, fs[i]? = some f → gl[i]? = some g → g.name ≠ "_" ∧ g.offset = f.off ∧ g.type = f.ty ∧ f.size ≠ 0 ∧ ∃ j, P.info? f.ty = some j ∧ j.size = f.size) →
            ∀ r, eqFs (eqT T d) xs ys fs = some r → (Op.eqFields D us zs gl).run P w = .ok r w := by
          intro fs
          induction fs with
          | nil =>
            intro gl hgl _ r hr
            have : gl = [] := List.eq_nil_of_length_eq_zero hgl
            subst this
            simp only [eqFs, Option.some.injEq] at hr
            subst hr
            simp [Op.eqFields]
          | cons f fs ih =>
            intro gl hgl hh r hr
            match gl, hgl with
            | g :: gl, hgl =>
            obtain ⟨g1, g2, g3, g4, j, g5, g6⟩ := hh 0 f g rfl rfl
            simp only [eqFs] at hr
            split at hr
            · rename_i b1 b2 e1 e2
              injection hr with hr
              subst hr
              have hnf := (eqT_single d f.ty _ _ b1 e1).1
              obtain ⟨i', z', i1, i2, _⟩ := h.info hnf
              have hfsz : f.size = (T f.ty).size := by rw [← g6, ← i2]; rw [g5] at i1; injection i1 with i1; rw [i1]
              rw [hfsz] at e1
              have hsub := eqT_part h (D := D) a3 a4 (fun t xs ys r he vx vy q1 q2 q3 w => eqT_sound h d t xs ys r he D vx vy (by omega) q1 q2 q3 w) e1 w
              rw [← g2, ← g3] at hsub
              obtain ⟨px, py, p1, p2, p3⟩ := hsub
              have hrest := ih gl (by simpa using hgl) (fun i f' g' x y => hh (i + 1) f' g' (by simpa using x) (by simpa using y)) b2 e2
              simp only [Op.eqFields, g1, ne_eq, not_false_eq_true, if_true, Sem.run_bind, p1, p2, p3, Result.andThen_ok]
              cases b1
              · simp
              · simpa using hrest
            · cases hr
        exact key fs gs.toList (by simpa using h2) (fun i f g x y => h5 i f g x (by simpa using y)) r he
      · cases he
    case arr n e =>
      rw [hk] at hkd
      split at he
      · rename_i hl
        obtain ⟨hl1, hl2, hne⟩ := hl
        obtain ⟨h1, h4⟩ := hkd
        obtain ⟨a1, a2⟩ := ha (by rw [hk]; rfl)
        obtain ⟨us, rfl, a3⟩ := a1.of_agg
        obtain ⟨zs, rfl, a4⟩ := a2.of_agg
        have hloop : ∀ (m i : Nat) (r : Bool), eqEs (eqT T d) e (T e).size xs ys i m = some r → (eqElems D e (T e).size us zs i m).run P w = .ok r w := by
          intro m
          induction m with
          | zero => intro i r hr; simp only [eqEs, Option.some.injEq] at hr; subst hr; simp [eqElems]
          | succ m ih =>
            intro i r hr
            simp only [eqEs] at hr
            split at hr
            · rename_i b1 b2 e1 e2
              injection hr with hr
              subst hr
              obtain ⟨px, py, p1, p2, p3⟩ := eqT_part h (D := D) a3 a4 (fun t xs ys r he vx vy q1 q2 q3 w => eqT_sound h d t xs ys r he D vx vy (by omega) q1 q2 q3 w) e1 w
              have hrest := ih (i + 1) b2 e2
              simp only [eqElems, Sem.run_bind, p1, p2, p3, Result.andThen_ok]
              cases b1
              · simp
              · simpa using hrest
            · cases hr
        rw [run_equalIn_array w D t us zs n e (T e).size h1 (h.size hne)]
        exact hloop n 0 r he
      · cases he
    all_goals (simp at he)
end
end Go.Ab
