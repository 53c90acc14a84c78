/- The operations that look at values alone, symbolically, and that they are right. -/
import Derived.Test.YtpgagefaneaioaaU1
namespace Go.Ab
open Go Go.RowKit
set_option linter.unusedVariables false
set_option linter.unusedSimpArgs false

/-- A row of the table of types. -/
structure XTy where
  kd : AKind
  size : Nat
  bytes : Nat
  zero : List SV
  code : Ty

def xOther : XTy := ⟨.other, 0, 0, [], .unit⟩
def nthX : List XTy → Nat → XTy
  | [], _ => xOther
  | c :: _, 0 => c
  | _ :: r, n + 1 => nthX r n
def XTy.av (x : XTy) : ATy := ⟨x.kd, x.size, x.bytes, avL x.zero⟩
def TX (X : List XTy) : TT := fun t => (nthX X t).av

section
variable {X : List XTy} {t : Nat}
theorem TX_kd : (TX X t).kd = (nthX X t).kd := rfl
theorem TX_size : (TX X t).size = (nthX X t).size := rfl
theorem TX_bytes : (TX X t).bytes = (nthX X t).bytes := rfl
theorem TX_zero : (TX X t).zero = avL (nthX X t).zero := rfl
end

def asI : SV → Option (IntKind × Int)
  | .int k n => some (k, n)
  | .ki k n => some (k, n)
  | _ => none
theorem asI_av {x : SV} {k : IntKind} {n : Int} (h : asI x = some (k, n)) : x.av = .int k n := by
  cases x <;> simp [asI] at h <;> (obtain ⟨rfl, rfl⟩ := h; rfl)
def asB : SV → Option Bool
  | .tt => some true
  | .ff => some false
  | .bool b => some b
  | _ => none
theorem asB_av {x : SV} {b : Bool} (h : asB x = some b) : x.av = .bool b := by
  cases x <;> simp [asB] at h <;> (subst h; rfl)

def isBoolK : AKind → Bool
  | .bool => true
  | _ => false
theorem isBoolK_eq {k : AKind} (h : isBoolK k = true) : k = .bool := by cases k <;> simp [isBoolK] at h; rfl
def isStrK : AKind → Bool
  | .str => true
  | _ => false
theorem isStrK_eq {k : AKind} (h : isStrK k = true) : k = .str := by cases k <;> simp [isStrK] at h; rfl

/-- Bounds, as they stand in trees. -/
def inB (n : Int) (len : Nat) : Bool := decide (0 ≤ n ∧ n < (len : Int))
def bndOk (a b : Int) (len : Nat) : Bool := decide (0 ≤ a ∧ a ≤ b ∧ b ≤ (len : Int))
def okApp (n bytes : Nat) : Bool := decide (n ≤ 1099511627776 ∧ n * bytes ≤ 140737488355328)
def okStr (n : Nat) : Bool := decide (n ≤ 9223372036854775807)
def nz (n : Int) : Bool := decide (n ≠ 0)
def nneg (n : Int) : Bool := decide (0 ≤ n)

/-! ### Equality -/

def cutS (off n : Nat) (cs : List SV) : List SV := (cs.drop off).take n
theorem cutS_av (off n : Nat) (cs : List SV) : avL (cutS off n cs) = cut off n (avL cs) := by
  simp only [cutS, cut, avL_eq, List.map_take, List.map_drop]

def eqFsS (eq : Nat → List SV → List SV → Option Bool) (xs ys : List SV) : List AFd → Option Bool
  | [] => some true
  | [f] => eq f.ty (cutS f.off f.size xs) (cutS f.off f.size ys)
  | f :: r => match eq f.ty (cutS f.off f.size xs) (cutS f.off f.size ys), eqFsS eq xs ys r with
    | some a, some b => some (a && b)
    | _, _ => none
def eqEsS (eq : Nat → List SV → List SV → Option Bool) (e size : Nat) (xs ys : List SV) : Nat → Nat → Option Bool
  | _, 0 => some true
  | i, 1 => eq e (cutS (i * size) size xs) (cutS (i * size) size ys)
  | i, n + 1 => match eq e (cutS (i * size) size xs) (cutS (i * size) size ys), eqEsS eq e size xs ys (i + 1) n with
    | some a, some b => some (a && b)
    | _, _ => none

def eqS (X : List XTy) : Nat → Nat → List SV → List SV → Option Bool
  | 0, _, _, _ => none
  | d + 1, t, xs, ys =>
    match (nthX X t).kd with
    | .int _ => match xs, ys with
      | [x], [y] => match asI x, asI y with
        | some (k, a), some (k', b) => if k = k' then some (decide (a = b)) else none
        | _, _ => none
      | _, _ => none
    | .bool => match xs, ys with
      | [x], [y] => match asB x, asB y with
        | some a, some b => some (a == b)
        | _, _ => none
      | _, _ => none
    | .str => match xs, ys with
      | [.str a], [.str b] => some (decide (a = b))
      | _, _ => none
    | .st fs => if xs.length = (nthX X t).size ∧ ys.length = (nthX X t).size then eqFsS (eqS X d) xs ys fs else none
    | .arr n e => if xs.length = (nthX X t).size ∧ ys.length = (nthX X t).size ∧ (nthX X e).kd.isOther = false then eqEsS (eqS X d) e (nthX X e).size xs ys 0 n else none
    | _ => none

theorem eqFsS_av {eq : Nat → List SV → List SV → Option Bool} {eqA : Nat → List AV → List AV → Option Bool} (h : ∀ t xs ys b, eq t xs ys = some b → eqA t (avL xs) (avL ys) = some b) (xs ys : List SV) :
    ∀ (fs : List AFd) (b : Bool), eqFsS eq xs ys fs = some b → eqFs eqA (avL xs) (avL ys) fs = some b
  | [], b, hb => hb
  | [f], b, hb => by
    have := h _ _ _ _ hb
    simp only [cutS_av] at this
    simp [eqFs, this]
  | f :: g :: r, b, hb => by
    simp only [eqFsS] at hb
    split at hb
    · rename_i a c h1 h2
      injection hb with hb; subst hb
      have q1 := h _ _ _ _ h1
      have q2 := eqFsS_av h xs ys (g :: r) c h2
      simp only [cutS_av] at q1
      rw [eqFs, q1, q2]
    · cases hb
theorem eqEsS_av {eq : Nat → List SV → List SV → Option Bool} {eqA : Nat → List AV → List AV → Option Bool} (h : ∀ t xs ys b, eq t xs ys = some b → eqA t (avL xs) (avL ys) = some b) (e size : Nat) (xs ys : List SV) :
    ∀ (n i : Nat) (b : Bool), eqEsS eq e size xs ys i n = some b → eqEs eqA e size (avL xs) (avL ys) i n = some b
  | 0, i, b, hb => hb
  | 1, i, b, hb => by
    have := h _ _ _ _ hb
    simp only [cutS_av] at this
    simp [eqEs, this]
  | n + 2, i, b, hb => by
    simp only [eqEsS] at hb
    split at hb
    · rename_i a c h1 h2
      injection hb with hb; subst hb
      have q1 := h _ _ _ _ h1
      have q2 := eqEsS_av h e size xs ys (n + 1) (i + 1) c h2
      simp only [cutS_av] at q1
      rw [eqEs, q1, q2]
    · cases hb
theorem eqS_av (X : List XTy) : ∀ (d t : Nat) (xs ys : List SV) (b : Bool), eqS X d t xs ys = some b → eqT (TX X) d t (avL xs) (avL ys) = some b
  | 0, _, _, _, _, h => by cases h
  | d + 1, t, xs, ys, b, h => by
    simp only [eqS] at h
    simp only [eqT, TX_kd]
    cases hk : (nthX X t).kd <;> rw [hk] at h <;> simp only at h ⊢ <;> first | (cases h; done) | skip
    case int kk =>
      split at h <;> first | (cases h; done) | skip
      split at h <;> first | (cases h; done) | skip
      rename_i x y _ _ _ _ q1 q2
      split at h
      · rename_i e
        injection h with h
        subst h; subst e
        simp only [avL_eq, List.map_cons, List.map_nil, asI_av q1, asI_av q2, if_true]
        rw [Option.some.injEq, Bool.eq_iff_iff]; simp
      · cases h
    case bool =>
      split at h <;> first | (cases h; done) | skip
      split at h <;> first | (cases h; done) | skip
      rename_i x y _ _ q1 q2
      injection h with h
      subst h
      simp only [avL_eq, List.map_cons, List.map_nil, asB_av q1, asB_av q2]
    case str =>
      split at h <;> first | (cases h; done) | skip
      injection h with h
      subst h
      simp only [avL_eq, List.map_cons, List.map_nil, SV.av]
      rw [Option.some.injEq, Bool.eq_iff_iff]; simp
    case st fs =>
      split at h
      · rename_i hc
        simp only [avL_length, TX_size, hc, and_self, if_true]
        exact eqFsS_av (fun t xs ys b => eqS_av X d t xs ys b) xs ys fs b h
      · cases h
    case arr n e =>
      split at h
      · rename_i hc
        simp only [avL_length, TX_size, TX_kd, hc, and_self, if_true]
        exact eqEsS_av (fun t xs ys b => eqS_av X d t xs ys b) e _ xs ys n 0 b h
      · cases h

/-! ### Two operands, one operand -/

section
variable {ρ : Type}

def xInt (op : BinOp) (ka kb : IntKind) (a b : Int) (k : SV → Tr ρ) : Tr ρ :=
  match op with
  | .add => if ka = kb then k (.int ka (ka.wrap (a + b))) else .fail
  | .sub => if ka = kb then k (.int ka (ka.wrap (a - b))) else .fail
  | .mul => if ka = kb then k (.int ka (ka.wrap (a * b))) else .fail
  | .quo => if ka = kb then .req (nz b) (k (.int ka (ka.wrap (a.tdiv b)))) else .fail
  | .rem => if ka = kb then .req (nz b) (k (.int ka (a.tmod b))) else .fail
  | .eql => if ka = kb then k (.bool (decide (a = b))) else .fail
  | .neq => if ka = kb then k (.bool (!decide (a = b))) else .fail
  | .lss => if ka = kb then k (.bool (decide (a < b))) else .fail
  | .leq => if ka = kb then k (.bool (decide (a ≤ b))) else .fail
  | .gtr => if ka = kb then k (.bool (decide (b < a))) else .fail
  | .geq => if ka = kb then k (.bool (decide (b ≤ a))) else .fail
  | .shl => .req (nneg b) (k (.int ka (ka.wrap (a * 2 ^ (min b.toNat ka.bits)))))
  | .shr => .req (nneg b) (k (.int ka (a.fdiv (2 ^ (min b.toNat ka.bits)))))
  | .and => if ka = kb then k (.int ka (bits .and ka a b)) else .fail
  | .or => if ka = kb then k (.int ka (bits .or ka a b)) else .fail
  | .xor => if ka = kb then k (.int ka (bits .xor ka a b)) else .fail
  | .andNot => if ka = kb then k (.int ka (bits .andNot ka a b)) else .fail

theorem ite_run {c : Prop} [Decidable c] {t : Tr ρ} {r : ρ} (h : (if c then t else .fail).run = some r) : c ∧ t.run = some r := by
  split at h
  · exact ⟨by assumption, h⟩
  · cases h

theorem xInt_ok {op : BinOp} {ka kb : IntKind} {a b : Int} {k : SV → Tr ρ} {r : ρ} {kA : AV → Prop} (h : (xInt op ka kb a b k).run = some r) (hk : ∀ c, (k c).run = some r → kA c.av) : aInt op ka kb a b kA := by
  cases op <;> simp only [xInt] at h <;> simp only [aInt]
  case shl => obtain ⟨h1, h2⟩ := run_req h; exact ⟨of_decide_eq_true h1, hk _ h2⟩
  case shr => obtain ⟨h1, h2⟩ := run_req h; exact ⟨of_decide_eq_true h1, hk _ h2⟩
  case quo => obtain ⟨h0, h⟩ := ite_run h; obtain ⟨h1, h2⟩ := run_req h; exact ⟨h0, of_decide_eq_true h1, hk _ h2⟩
  case rem => obtain ⟨h0, h⟩ := ite_run h; obtain ⟨h1, h2⟩ := run_req h; exact ⟨h0, of_decide_eq_true h1, hk _ h2⟩
  case eql =>
    obtain ⟨h0, h⟩ := ite_run h
    refine ⟨h0, ?_⟩
    have := hk _ h
    simp only [SV.av] at this
    rwa [show (a == b) = decide (a = b) from by rw [Bool.eq_iff_iff]; simp]
  case neq =>
    obtain ⟨h0, h⟩ := ite_run h
    refine ⟨h0, ?_⟩
    have := hk _ h
    simp only [SV.av] at this
    rwa [show (a != b) = !decide (a = b) from by rw [Bool.eq_iff_iff]; simp]
  all_goals (obtain ⟨h0, h⟩ := ite_run h; exact ⟨h0, hk _ h⟩)

def xStr2 (op : BinOp) (a b : List UInt8) (k : SV → Tr ρ) : Tr ρ :=
  match op with
  | .eql => k (.bool (decide (a = b)))
  | .neq => k (.bool (!decide (a = b)))
  | .add => .req (okStr (a.length + b.length)) (k (.str (a ++ b)))
  | .lss => k (.bool (Op.bytesLess a b))
  | .leq => k (.bool (Op.bytesLess a b || a == b))
  | .gtr => k (.bool (!(Op.bytesLess a b || a == b)))
  | .geq => k (.bool (!Op.bytesLess a b))
  | _ => .fail

def xBin (X : List XTy) (op : BinOp) (t : Nat) (x y : SV) (k : SV → Tr ρ) : Tr ρ :=
  match asI x, asI y with
  | some (ka, a), some (kb, b) => xInt op ka kb a b k
  | _, _ => match x, y with
    | .str a, .str b => xStr2 op a b k
    | .agg xs, .agg ys => if (nthX X t).kd.isAgg = true then (match op, eqS X 10 t xs ys with
      | .eql, some b => k (.bool b)
      | .neq, some b => k (.bool (!b))
      | _, _ => .fail) else .fail
    | _, _ => match asB x, asB y with
      | some a, some b => if isBoolK (nthX X t).kd = true then (match op with
        | .eql => k (.bool (a == b))
        | .neq => k (.bool (a != b))
        | _ => .fail) else .fail
      | _, _ => .fail

theorem xBin_ok {X : List XTy} {op : BinOp} {t : Nat} {x y : SV} {k : SV → Tr ρ} {r : ρ} {kA : AV → Prop} (h : (xBin X op t x y k).run = some r) (hk : ∀ c, (k c).run = some r → kA c.av) : aBin (TX X) op t x.av y.av kA := by
  unfold xBin at h
  split at h
  · rename_i q1 q2
    rw [asI_av q1, asI_av q2]
    exact xInt_ok h hk
  · split at h
    · rename_i a b _
      simp only [SV.av, aBin]
      cases op <;> simp only [xStr2] at h ⊢ <;> first | (cases h; done) | skip
      case add => obtain ⟨h1, h2⟩ := run_req h; exact ⟨of_decide_eq_true h1, hk _ h2⟩
      case eql =>
        have := hk _ h
        simp only [SV.av] at this
        rwa [show (a == b) = decide (a = b) from by rw [Bool.eq_iff_iff]; simp]
      case neq =>
        have := hk _ h
        simp only [SV.av] at this
        rwa [show (a != b) = !decide (a = b) from by rw [Bool.eq_iff_iff]; simp]
      all_goals exact hk _ h
    · obtain ⟨h0, h⟩ := ite_run h
      simp only [SV.av, aBin]
      refine ⟨h0, ?_⟩
      split at h
      · rename_i b q _; exact ⟨b, eqS_av _ _ _ _ _ _ q, hk _ h⟩
      · rename_i b q _; exact ⟨b, eqS_av _ _ _ _ _ _ q, hk _ h⟩
      · cases h
    · split at h
      · rename_i q1 q2
        obtain ⟨h0, h⟩ := ite_run h
        rw [asB_av q1, asB_av q2]
        simp only [aBin]
        cases op <;> simp only at h ⊢ <;> first | (cases h; done) | exact ⟨isBoolK_eq h0, hk _ h⟩
      · cases h

def xUn (op : UnOp) (x : SV) (k : SV → Tr ρ) : Tr ρ :=
  match op with
  | .neg => match asI x with
    | some (ka, n) => k (.int ka (ka.wrap (0 - n)))
    | none => .fail
  | .not => match x with
    | .tt => k .ff
    | .ff => k .tt
    | .bool b => k (.bool (!b))
    | _ => .fail
  | _ => .fail
theorem xUn_ok {op : UnOp} {x : SV} {k : SV → Tr ρ} {r : ρ} {kA : AV → Prop} (h : (xUn op x k).run = some r) (hk : ∀ c, (k c).run = some r → kA c.av) : aUn op x.av kA := by
  unfold xUn at h
  split at h
  · split at h
    · rename_i q
      rw [asI_av q]
      exact hk _ h
    · cases h
  · split at h <;> first | (cases h; done) | exact hk _ h
  · cases h

def xConv (X : List XTy) (src dst : Nat) (x : SV) (k : SV → Tr ρ) : Tr ρ :=
  if (nthX X src).kd.isOther = false then (match (nthX X dst).kd with
    | .int kd => match asI x with
      | some (_, n) => k (.int kd (kd.wrap n))
      | none => .fail
    | .str => match x with
      | .str l => k (.str l)
      | _ => .fail
    | _ => .fail) else .fail
theorem xConv_ok {X : List XTy} {src dst : Nat} {x : SV} {k : SV → Tr ρ} {r : ρ} {kA : AV → Prop} (h : (xConv X src dst x k).run = some r) (hk : ∀ c, (k c).run = some r → kA c.av) : aConv (TX X) src dst x.av kA := by
  obtain ⟨h0, h⟩ := ite_run h
  unfold aConv
  rw [TX_kd]
  split at h
  · rename_i kd hkd
    split at h
    · rename_i q
      rw [hkd, asI_av q]
      exact ⟨h0, hk _ h⟩
    · cases h
  · rename_i hkd
    split at h
    · rw [hkd]; exact ⟨h0, hk _ h⟩
    · cases h
  · cases h

/-! ### Structs and arrays -/

def SV.cells : SV → List SV
  | .agg cs => cs
  | c => [c]
theorem SV.cells_av (c : SV) : c.av.cells = avL c.cells := by cases c <;> rfl

def layS : Nat → List SV → List SV → List SV
  | _, [], cs => cs
  | off, c :: r, cs => layS (off + 1) r (setS cs off c)
theorem layS_av : ∀ (r : List SV) (off : Nat) (cs : List SV), avL (layS off r cs) = lay off (avL r) (avL cs)
  | [], _, _ => rfl
  | c :: r, off, cs => by
    show avL (layS (off + 1) r (setS cs off c)) = lay (off + 1) (avL r) ((avL cs).set off c.av)
    rw [layS_av r, setS_av]

def fillS (place : Nat → Option (Nat × Nat)) (cells : List SV) : List (Nat × SV) → Option (List SV)
  | [] => some cells
  | (i, v) :: r =>
    match place i with
    | none => none
    | some (off, size) => if v.cells.length = size ∧ off + size ≤ cells.length ∧ v.av.known = true then fillS place (layS off v.cells cells) r else none
theorem fillS_av (place : Nat → Option (Nat × Nat)) : ∀ (ps : List (Nat × SV)) (cells cs : List SV), fillS place cells ps = some cs → aFill place (avL cells) (ps.map fun p => (p.1, p.2.av)) = some (avL cs)
  | [], cells, cs, h => by injection h with h; subst h; rfl
  | (i, v) :: r, cells, cs, h => by
    simp only [fillS] at h
    simp only [List.map_cons, aFill]
    split at h
    · cases h
    · rename_i off size hp
      simp only [hp]
      split at h
      · rename_i hc
        rw [if_pos (by rw [SV.cells_av, avL_length, avL_length]; exact hc), SV.cells_av, ← layS_av]
        exact fillS_av place r _ cs h
      · cases h

def xBuild (X : List XTy) (t : Nat) (ps : List (Nat × SV)) (k : SV → Tr ρ) : Tr ρ :=
  match (nthX X t).kd with
  | .st fs => match fillS (stPlace fs) (nthX X t).zero ps with
    | some cs => k (.agg cs)
    | none => .fail
  | .arr _ e => if (nthX X e).kd.isOther = false then (match fillS (fun i => some (i * (nthX X e).size, (nthX X e).size)) (nthX X t).zero ps with
    | some cs => k (.agg cs)
    | none => .fail) else .fail
  | _ => .fail
theorem xBuild_ok {X : List XTy} {t : Nat} {ps : List (Nat × SV)} {k : SV → Tr ρ} {r : ρ} {kA : AV → Prop} (h : (xBuild X t ps k).run = some r) (hk : ∀ c, (k c).run = some r → kA c.av) :
    aBuild (TX X) t (ps.map fun p => (p.1, p.2.av)) kA := by
  unfold xBuild at h
  unfold aBuild
  rw [TX_kd]
  split at h
  · rename_i fs hkd
    rw [hkd]
    split at h
    · rename_i cs q; exact ⟨_, fillS_av _ _ _ _ q, hk _ h⟩
    · cases h
  · rename_i n e hkd
    rw [hkd]
    obtain ⟨h0, h⟩ := ite_run h
    split at h
    · rename_i cs q; exact ⟨h0, _, fillS_av _ _ _ _ q, hk _ h⟩
    · cases h
  · cases h

def xPart (X : List XTy) (ty off : Nat) (cs : List SV) (k : SV → Tr ρ) : Tr ρ :=
  if (nthX X ty).kd.isOther = false then (if (nthX X ty).kd.isAgg = true then k (.agg (cutS off (nthX X ty).size cs)) else if off < cs.length then k (nthS cs off) else .fail) else .fail
theorem nthS_some {l : List SV} {n : Nat} (h : n < l.length) : (avL l)[n]? = some (nthS l n).av := by
  rw [← nthS_av]; exact nth_lt (by rw [avL_length]; exact h)
theorem xPart_ok {X : List XTy} {ty off : Nat} {cs : List SV} {k : SV → Tr ρ} {r : ρ} {kA : AV → Prop} (h : (xPart X ty off cs k).run = some r) (hk : ∀ c, (k c).run = some r → kA c.av) : aPart (TX X) ty off (avL cs) kA := by
  unfold xPart at h
  obtain ⟨h0, h⟩ := ite_run h
  refine ⟨h0, ?_⟩
  rw [TX_kd]
  split at h
  · rename_i hag
    rw [if_pos hag]
    have := hk _ h
    simp only [SV.av] at this
    rw [show SV.av.avL (cutS off (nthX X ty).size cs) = cut off (nthX X ty).size (avL cs) from cutS_av _ _ _] at this
    exact this
  · rename_i hag
    rw [if_neg hag]
    obtain ⟨h1, h⟩ := ite_run h
    exact ⟨_, nthS_some h1, hk _ h⟩

def xField (X : List XTy) (t : Nat) (x : SV) (f : Nat) (k : SV → Tr ρ) : Tr ρ :=
  match (nthX X t).kd, x with
  | .st fs, .agg cs => match fs[f]? with
    | some fd => xPart X fd.ty fd.off cs k
    | none => .fail
  | _, _ => .fail
theorem xField_ok {X : List XTy} {t : Nat} {x : SV} {f : Nat} {k : SV → Tr ρ} {r : ρ} {kA : AV → Prop} (h : (xField X t x f k).run = some r) (hk : ∀ c, (k c).run = some r → kA c.av) : aField (TX X) t x.av f kA := by
  unfold xField at h
  unfold aField
  rw [TX_kd]
  split at h
  · rename_i fs cs hkd
    rw [hkd]
    split at h
    · rename_i fd q; exact ⟨fd, q, xPart_ok h hk⟩
    · cases h
  · cases h

def xFieldAddr (X : List XTy) (t : Nat) (x : SV) (f : Nat) (k : SV → Tr ρ) : Tr ρ :=
  match (nthX X t).kd with
  | .st fs => match fs[f]? with
    | some fd => match x with
      | .cp cells => k (.cp (cells.drop fd.off))
      | .ptr b o => k (.ptr b (o + fd.off))
      | _ => .fail
    | none => .fail
  | _ => .fail
theorem avL_drop (n : Nat) (cs : List SV) : avL (cs.drop n) = (avL cs).drop n := by simp only [avL_eq, List.map_drop]
theorem avL_take (n : Nat) (cs : List SV) : avL (cs.take n) = (avL cs).take n := by simp only [avL_eq, List.map_take]
theorem xFieldAddr_ok {X : List XTy} {t : Nat} {x : SV} {f : Nat} {k : SV → Tr ρ} {r : ρ} {kA : AV → Prop} (h : (xFieldAddr X t x f k).run = some r) (hk : ∀ c, (k c).run = some r → kA c.av) : aFieldAddr (TX X) t x.av f kA := by
  unfold xFieldAddr at h
  unfold aFieldAddr
  rw [TX_kd]
  split at h
  · rename_i fs hkd
    rw [hkd]
    split at h
    · rename_i fd q
      split at h
      · have := hk _ h
        simp only [SV.av] at this
        rw [show SV.av.avL (List.drop fd.off _) = _ from avL_drop _ _] at this
        exact ⟨fd, q, this⟩
      · exact ⟨fd, q, hk _ h⟩
      · cases h
    · cases h
  · cases h

/-! ### Elements -/

def pickIx (n : Int) (f : Nat → Tr ρ) : Nat → Nat → Tr ρ
  | _, 0 => .fail
  | i, m + 1 => .br (decide (n = (i : Int))) (f i) (pickIx n f (i + 1) m)
theorem pickIx_ok {n : Int} {f : Nat → Tr ρ} {r : ρ} : ∀ {m i : Nat}, (pickIx n f i m).run = some r → ∃ j : Nat, n = j ∧ i ≤ j ∧ j < i + m ∧ (f j).run = some r
  | 0, i, h => by cases h
  | m + 1, i, h => by
    obtain ⟨h1, h2⟩ := run_br h
    by_cases e : n = (i : Int)
    · exact ⟨i, e, Nat.le_refl _, by omega, h1 (by simp [e])⟩
    · obtain ⟨j, q1, q2, q3, q4⟩ := pickIx_ok (h2 (by simp [e]))
      exact ⟨j, q1, by omega, by omega, q4⟩
/-- An index into m places that are known. -/
def idxS (x : SV) (m : Nat) (f : Nat → Tr ρ) : Tr ρ :=
  match x with
  | .ki _ n => if 0 ≤ n ∧ n < (m : Int) then f n.toNat else .fail
  | .int _ n => pickIx n f 0 m
  | _ => .fail
theorem idxS_ok {x : SV} {m : Nat} {f : Nat → Tr ρ} {r : ρ} (h : (idxS x m f).run = some r) : ∃ (k : IntKind) (n : Int), x.av = .int k n ∧ 0 ≤ n ∧ n < m ∧ (f n.toNat).run = some r := by
  unfold idxS at h
  split at h
  · obtain ⟨h0, h⟩ := ite_run h; exact ⟨_, _, rfl, h0.1, h0.2, h⟩
  · obtain ⟨j, rfl, q2, q3, q4⟩ := pickIx_ok h
    exact ⟨_, _, rfl, by omega, by omega, by simpa using q4⟩
  · cases h

def xIndexAddr (X : List XTy) (t : Nat) (x i : SV) (k : SV → Tr ρ) : Tr ρ :=
  match (nthX X t).kd with
  | .slice e => if (nthX X e).kd.isOther = false then (match asI i with
    | some (_, n) => match x with
      | .sl τ xs => if τ.size = (nthX X e).size then .req (inB n xs.length) (k (.cp (τ.svs (gi xs n)))) else .fail
      | .ow _ _ τ xs => if τ.size = (nthX X e).size then .req (inB n xs.length) (k (.cp (τ.svs (gi xs n)))) else .fail
      | _ => .fail
    | none => .fail) else .fail
  | .arr m e => if (nthX X e).kd.isOther = false then (match x with
    | .ptr b o => idxS i m fun j => k (.ptr b (o + j * (nthX X e).size))
    | .cp cells => idxS i m fun j => k (.cp (cells.drop (j * (nthX X e).size)))
    | _ => .fail) else .fail
  | _ => .fail
theorem rows_get {τ : Ty} {xs : List τ.T} {n : Int} (h : inB n xs.length = true) : 0 ≤ n ∧ (xs.map τ.enc)[n.toNat]? = some (τ.enc (gi xs n)) := by
  obtain ⟨h1, h2⟩ := of_decide_eq_true h
  have : n.toNat < xs.length := by omega
  refine ⟨h1, ?_⟩
  simp [gi, List.getD, List.getElem?_eq_getElem this]
theorem xIndexAddr_ok {X : List XTy} {t : Nat} {x i : SV} {k : SV → Tr ρ} {r : ρ} {kA : AV → Prop} (h : (xIndexAddr X t x i k).run = some r) (hk : ∀ c, (k c).run = some r → kA c.av) : aIndexAddr (TX X) t x.av i.av kA := by
  unfold xIndexAddr at h
  split at h
  · rename_i e hkd
    obtain ⟨h0, h⟩ := ite_run h
    split at h
    · rename_i _ n q
      rw [asI_av q]
      split at h
      · rename_i τ xs _
        obtain ⟨h1, h⟩ := ite_run h
        obtain ⟨h2, h⟩ := run_req h
        have h3 := hk _ h
        simp only [SV.av] at h3
        rw [show SV.av.avL _ = _ from τ.svs_av _] at h3
        simp only [SV.av, aIndexAddr, TX_kd, hkd]
        exact ⟨h0, h1, _, (rows_get h2).1, (rows_get h2).2, h3⟩
      · rename_i tk e' τ xs _
        obtain ⟨h1, h⟩ := ite_run h
        obtain ⟨h2, h⟩ := run_req h
        have h3 := hk _ h
        simp only [SV.av] at h3
        rw [show SV.av.avL _ = _ from τ.svs_av _] at h3
        simp only [SV.av, aIndexAddr, TX_kd, hkd]
        exact ⟨h0, h1, _, (rows_get h2).1, (rows_get h2).2, h3⟩
      · cases h
    · cases h
  · rename_i m e hkd
    obtain ⟨h0, h⟩ := ite_run h
    split at h
    · obtain ⟨kk, n, q1, q2, q3, q4⟩ := idxS_ok h
      rw [q1]
      simp only [SV.av, aIndexAddr, TX_kd, hkd]
      exact ⟨h0, q2, q3, hk _ q4⟩
    · obtain ⟨kk, n, q1, q2, q3, q4⟩ := idxS_ok h
      rw [q1]
      have h3 := hk _ q4
      simp only [SV.av] at h3
      rw [show SV.av.avL (List.drop _ _) = _ from avL_drop _ _] at h3
      simp only [SV.av, aIndexAddr, TX_kd, hkd]
      exact ⟨h0, q2, q3, h3⟩
    · cases h
  · cases h

def xIndex (X : List XTy) (t : Nat) (x i : SV) (k : SV → Tr ρ) : Tr ρ :=
  match (nthX X t).kd, x with
  | .str, .str l => match asI i with
    | some (_, n) => .req (inB n l.length) (k (.int .u8 ((gi l n).toNat : Int)))
    | none => .fail
  | .arr m e, .agg cs => idxS i m fun j => xPart X e (j * (nthX X e).size) cs k
  | _, _ => .fail
theorem xIndex_ok {X : List XTy} {t : Nat} {x i : SV} {k : SV → Tr ρ} {r : ρ} {kA : AV → Prop} (h : (xIndex X t x i k).run = some r) (hk : ∀ c, (k c).run = some r → kA c.av) : aIndex (TX X) t x.av i.av kA := by
  unfold xIndex at h
  split at h
  · rename_i l hkd
    split at h
    · rename_i _ n q
      rw [asI_av q]
      obtain ⟨h2, h⟩ := run_req h
      obtain ⟨h3, h4⟩ := of_decide_eq_true h2
      simp only [SV.av, aIndex, TX_kd, hkd]
      have : n.toNat < l.length := by omega
      exact ⟨gi l n, h3, by simp [gi, List.getD, List.getElem?_eq_getElem this], hk _ h⟩
    · cases h
  · rename_i m e cs hkd
    obtain ⟨kk, n, q1, q2, q3, q4⟩ := idxS_ok h
    rw [q1]
    simp only [SV.av, aIndex, TX_kd, hkd]
    exact ⟨q2, q3, xPart_ok q4 hk⟩
  · cases h

def bndS : Option SV → Int → Option Int
  | none, d => some d
  | some v, _ => (asI v).map (·.2)
theorem bndS_av {v : Option SV} {d : Nat} {a : Int} (h : bndS v d = some a) : aBnd (v.map SV.av) d = some a := by
  cases v with
  | none => exact h
  | some v =>
    simp only [bndS] at h
    cases hq : asI v with
    | none => rw [hq] at h; cases h
    | some p =>
      rw [hq] at h
      injection h with h
      subst h
      simp only [Option.map_some, asI_av (k := p.1) (n := p.2) hq]; cases d <;> rfl
def isK0 : Option SV → Bool
  | some (.ki _ n) => decide (n = 0)
  | _ => false

def xSlice (X : List XTy) (t : Nat) (x : SV) (lo hi mx : Option SV) (k : SV → Tr ρ) : Tr ρ :=
  match (nthX X t).kd, mx with
  | .str, none => match x with
    | .str l => match bndS lo 0, bndS hi l.length with
      | some a, some b => .req (bndOk a b l.length) (k (.str (part l a b)))
      | _, _ => .fail
    | _ => .fail
  | .slice e, none => if (nthX X e).kd.isOther = false then (match x with
    | .sl τ xs => if τ.size = (nthX X e).size then (match bndS lo 0, bndS hi xs.length with
      | some a, some b => .req (bndOk a b xs.length) (k (.sl τ (part xs a b)))
      | _, _ => .fail) else .fail
    | .ow _ _ τ xs => if τ.size = (nthX X e).size then (match bndS lo 0, bndS hi xs.length with
      | some a, some b => .req (bndOk a b xs.length) (k (.sl τ (part xs a b)))
      | _, _ => .fail) else .fail
    | _ => .fail) else .fail
  | .slice e, some m => if (nthX X e).kd.isOther = false ∧ isK0 (some m) = true ∧ isK0 hi = true ∧ lo.isNone = true then (match x with
    | .sl _ _ => k .emp
    | .ow _ _ _ _ => k .emp
    | .emp => k .emp
    | _ => .fail) else .fail
  | _, _ => .fail
theorem isK0xav {v : SV} (h : isK0 (some v) = true) : ∃ k, v.av = .int k 0 := by
  cases v <;> simp [isK0] at h
  subst h; exact ⟨_, rfl⟩
theorem isK0xbnd {v : Option SV} (h : isK0 v = true) (d : Nat) : aBnd (v.map SV.av) d = some 0 := by
  cases v with
  | none => cases h
  | some v => obtain ⟨k, q⟩ := isK0xav h; simp only [Option.map_some, q]; cases d <;> rfl
theorem rows_part' (τ : Ty) (xs : List τ.T) (a b : Int) : ((xs.map τ.enc).take b.toNat).drop a.toNat = (part xs a b).map τ.enc := by simp [part, List.map_take, List.map_drop]
theorem xSlice_ok {X : List XTy} {t : Nat} {x : SV} {lo hi mx : Option SV} {k : SV → Tr ρ} {r : ρ} {kA : AV → Prop} (h : (xSlice X t x lo hi mx k).run = some r) (hk : ∀ c, (k c).run = some r → kA c.av) :
    aSlice (TX X) t x.av (lo.map SV.av) (hi.map SV.av) (mx.map SV.av) kA := by
  unfold xSlice at h
  split at h
  · rename_i hkd
    split at h
    · rename_i l
      split at h
      · rename_i a b q1 q2
        obtain ⟨h1, h⟩ := run_req h
        obtain ⟨w1, w2, w3⟩ := of_decide_eq_true h1
        simp only [SV.av, aSlice, TX_kd, hkd, Option.map_none]
        exact ⟨a, b, bndS_av (d := 0) q1, bndS_av q2, w1, w2, w3, hk _ h⟩
      · cases h
    · cases h
  · rename_i e hkd
    obtain ⟨h0, h⟩ := ite_run h
    split at h
    · rename_i τ xs
      obtain ⟨h1, h⟩ := ite_run h
      split at h
      · rename_i a b q1 q2
        obtain ⟨h2, h⟩ := run_req h
        obtain ⟨w1, w2, w3⟩ := of_decide_eq_true h2
        simp only [SV.av, aSlice, TX_kd, TX_size, hkd, Option.map_none, List.length_map, rows_part']
        exact ⟨h0, h1, a, b, bndS_av (d := 0) q1, bndS_av q2, w1, w2, w3, hk _ h⟩
      · cases h
    · rename_i tk e' τ xs
      obtain ⟨h1, h⟩ := ite_run h
      split at h
      · rename_i a b q1 q2
        obtain ⟨h2, h⟩ := run_req h
        obtain ⟨w1, w2, w3⟩ := of_decide_eq_true h2
        simp only [SV.av, aSlice, TX_kd, TX_size, hkd, Option.map_none, List.length_map, rows_part']
        exact ⟨h0, h1, a, b, bndS_av (d := 0) q1, bndS_av q2, w1, w2, w3, hk _ h⟩
      · cases h
    · cases h
  · rename_i e m hkd
    have hh := ite_run h
    clear h
    obtain ⟨⟨h0, h1, h2, h3⟩, h⟩ := hh
    obtain ⟨km, qm⟩ := isK0xav h1
    have qh := isK0xbnd h2 1
    have ql : lo = none := by cases lo <;> simp at h3; rfl
    subst ql
    cases x <;> simp only at h <;> first | (cases h; done) | skip
    all_goals
      simp only [SV.av, aSlice, TX_kd, hkd, Option.map_some, qm, Option.map_none]
      exact ⟨h0, by simp, by simp, qh, hk _ h⟩
  · cases h

def xLen (X : List XTy) (t : Nat) (x : SV) (k : SV → Tr ρ) : Tr ρ :=
  match (nthX X t).kd, x with
  | .str, .str l => k (.int .i64 l.length)
  | .slice _, .sl _ xs => k (.int .i64 xs.length)
  | .slice _, .ow _ _ _ xs => k (.int .i64 xs.length)
  | .slice _, .emp => k (.ki .i64 0)
  | .arr n _, _ => k (.ki .i64 n)
  | _, _ => .fail
theorem xLen_ok {X : List XTy} {t : Nat} {x : SV} {k : SV → Tr ρ} {r : ρ} {kA : AV → Prop} (h : (xLen X t x k).run = some r) (hk : ∀ c, (k c).run = some r → kA c.av) : aLen (TX X) t x.av kA := by
  unfold xLen at h
  split at h
  · rename_i l hkd; have := hk _ h; simp only [SV.av, aLen, TX_kd, hkd, List.length_map] at this ⊢; exact this
  · rename_i e τ xs hkd; have := hk _ h; simp only [SV.av, aLen, TX_kd, hkd, List.length_map] at this ⊢; exact this
  · rename_i e b e' τ xs hkd; have := hk _ h; simp only [SV.av, aLen, TX_kd, hkd, List.length_map] at this ⊢; exact this
  · rename_i e hkd; have := hk _ h; simp only [SV.av, aLen, TX_kd, hkd] at this ⊢; exact this
  · rename_i n e hkd
    have := hk _ h
    unfold aLen
    rw [TX_kd, hkd]
    exact this
  · cases h

def xMins (m : Bool) : SV → List SV → (SV → Tr ρ) → Tr ρ
  | x, [], k => k x
  | x, y :: r, k => match asI x, asI y with
    | some (ka, a), some (_, b) => xMins m (.int ka (if m then min a b else max a b)) r k
    | _, _ => .fail
theorem xMins_ok {m : Bool} {k : SV → Tr ρ} {r : ρ} {kA : AV → Prop} : ∀ (l : List SV) (x : SV), (xMins m x l k).run = some r → (∀ c, (k c).run = some r → kA c.av) → ∃ c, aMins m x.av (l.map SV.av) = some c ∧ kA c
  | [], x, h, hk => ⟨_, rfl, hk _ h⟩
  | y :: l, x, h, hk => by
    simp only [xMins] at h
    split at h
    · rename_i ka a kb b q1 q2
      obtain ⟨c, h1, h2⟩ := xMins_ok l _ h hk
      refine ⟨c, ?_, h2⟩
      simp only [List.map_cons, aMins, asI_av q1, asI_av q2, aMin2]
      simp only [SV.av] at h1
      cases m
      · simp only [Bool.false_eq_true, if_false] at h1 ⊢
        rw [show (if b > a then b else a) = max a b by omega]; exact h1
      · simp only [if_true] at h1 ⊢
        rw [show (if b < a then b else a) = min a b by omega]; exact h1
    · cases h

def xBuiltin (X : List XTy) (b : Builtin) (ts : List Nat) (xs : List SV) (k : SV → Tr ρ) : Tr ρ :=
  match b, ts, xs with
  | .len, [t], [x] => xLen X t x k
  | .min, _, x :: r => xMins true x r k
  | .max, _, x :: r => xMins false x r k
  | _, _, _ => .fail
theorem xBuiltin_ok {X : List XTy} {b : Builtin} {ts : List Nat} {xs : List SV} {k : SV → Tr ρ} {r : ρ} {kA : AV → Prop} (h : (xBuiltin X b ts xs k).run = some r) (hk : ∀ c, (k c).run = some r → kA c.av) : aBuiltin (TX X) b ts (xs.map SV.av) kA := by
  unfold xBuiltin at h
  split at h
  · exact xLen_ok h hk
  · obtain ⟨c, h1, h2⟩ := xMins_ok _ _ h hk; exact ⟨c, h1, h2⟩
  · obtain ⟨c, h1, h2⟩ := xMins_ok _ _ h hk; exact ⟨c, h1, h2⟩
  · cases h

def cvOneS : Value → SV
  | .bool b => if b then .tt else .ff
  | .int k n => .ki k n
  | .string s => .str s.data.toList
  | .pointer none => .nilp
  | .slice none 0 0 => .emp
  | .map none => .nilm
  | .nilFunc => .nilf
  | _ => .non
def cvS : Value → SV
  | .agg cs => .agg (cs.toList.map cvOneS)
  | v => cvOneS v
theorem cvOneS_av (v : Value) : (cvOneS v).av = cvOne v := by
  unfold cvOneS
  split
  · rename_i b; cases b <;> rfl
  all_goals first | rfl | skip
  rename_i h1 h2 h3 h4 h5 h6 h7
  unfold cvOne
  split <;> first | rfl | skip
  all_goals exfalso
  · exact h1 _ rfl
  · exact h2 _ _ rfl
  · exact h3 _ rfl
  · exact h4 rfl
  · exact h5 rfl
  · exact h6 rfl
  · exact h7 rfl
theorem cvS_av (v : Value) : (cvS v).av = cv v := by
  unfold cvS
  split
  · show AV.agg (avL _) = AV.agg _
    rw [avL_eq, List.map_map]
    congr 1
    exact List.map_congr_left fun v _ => cvOneS_av v
  · rename_i hn
    rw [cvOneS_av]
    unfold cv
    split
    · exact absurd rfl (hn _)
    · rfl

def evS (R : List SV) : Operand → SV
  | .tmp r => nthS R r
  | .const v => cvS v
  | .global _ => .non
  | .func f => .fn f []
theorem evS_av (s : SSt) (x : Operand) : s.av.view.ev x = (evS s.regs x).av := by
  cases x with
  | tmp r => exact nthS_av _ _
  | const v => exact (cvS_av v).symm
  | global g => rfl
  | func f => rfl

def isFn : Fn → Option Nat
  | .func f => some f
  | _ => none

def xval (X : List XTy) (R : List SV) (op : Op) (k : SV → Tr ρ) : Tr ρ :=
  match op with
  | .move x => k (evS R x)
  | .assign x => k (evS R x)
  | .pick c a b => match evS R c with
    | .tt => k (evS R a)
    | .ff => k (evS R b)
    | .bool t => .br t (k (evS R a)) (k (evS R b))
    | _ => .fail
  | .build t parts => xBuild X t (parts.toList.map fun p => (p.1, evS R p.2)) k
  | .nilCheck x => match evS R x with
    | .cp cs => k (.cp cs)
    | .ptr b o => k (.ptr b o)
    | .fn f cs => k (.fn f cs)
    | _ => .fail
  | .binOp op t x y _ => xBin X op t (evS R x) (evS R y) k
  | .unOp op _ x => xUn op (evS R x) k
  | .convert src dst x => xConv X src dst (evS R x) k
  | .makeFunc (.func f) first captured => if first.toList.isEmpty = true then k (.fn f (captured.toList.map (evS R))) else .fail
  | .fieldAddr t x f => xFieldAddr X t (evS R x) f k
  | .field t x f => xField X t (evS R x) f k
  | .indexAddr t x i => xIndexAddr X t (evS R x) (evS R i) k
  | .index t x i => xIndex X t (evS R x) (evS R i) k
  | .slice t x lo hi mx => xSlice X t (evS R x) (lo.map (evS R)) (hi.map (evS R)) (mx.map (evS R)) k
  | .extract x i => match evS R x with
    | .tup vs => if i < vs.length then k (nthS vs i) else .fail
    | _ => .fail
  | .call { callee := .builtin b, args := args, argTypes := ts } => xBuiltin X b ts.toList (args.toList.map (evS R)) k
  | _ => .fail

theorem xval_ok {X : List XTy} {s : SSt} {op : Op} {k : SV → Tr ρ} {r : ρ} {kA : AV → Prop} (h : (xval X s.regs op k).run = some r) (hk : ∀ c, (k c).run = some r → kA c.av) : aval (TX X) s.av.view.ev op kA := by
  have ev := evS_av s
  have evf : s.av.view.ev = SV.av ∘ evS s.regs := by funext x; exact ev x
  unfold xval at h
  split at h
  · simp only [aval, ev]; exact hk _ h
  · simp only [aval, ev]; exact hk _ h
  · rename_i c a b
    simp only [aval, ev]
    split at h
    · rename_i q; simp only [q, SV.av]; exact ⟨fun _ => hk _ h, fun e => by cases e⟩
    · rename_i q; simp only [q, SV.av]; exact ⟨fun e => (by cases e), fun _ => hk _ h⟩
    · rename_i t q
      obtain ⟨h1, h2⟩ := run_br h
      simp only [q, SV.av]; exact ⟨fun e => hk _ (h1 e), fun e => hk _ (h2 e)⟩
    · cases h
  · rename_i t parts
    have := xBuild_ok h hk
    simp only [aval]
    rw [List.map_map] at this
    simp only [ev]
    exact this
  · rename_i x
    simp only [aval, ev]
    split at h
    · rename_i cs q; simp only [q, SV.av]; exact hk _ h
    · rename_i b o q; simp only [q, SV.av]; exact hk _ h
    · rename_i f cs q; simp only [q, SV.av]; exact hk _ h
    · cases h
  · simp only [aval, ev]; exact xBin_ok h hk
  · simp only [aval, ev]; exact xUn_ok h hk
  · simp only [aval, ev]; exact xConv_ok h hk
  · rename_i f first captured
    obtain ⟨h0, h⟩ := ite_run h
    simp only [aval]
    refine ⟨?_, ?_⟩
    · cases first with
      | mk l => cases l <;> simp at h0 ⊢
    · have := hk _ h
      simp only [SV.av] at this
      rw [show SV.av.avL _ = _ from avL_eq _, List.map_map, ← evf] at this
      exact this
  · simp only [aval, ev]; exact xFieldAddr_ok h hk
  · simp only [aval, ev]; exact xField_ok h hk
  · simp only [aval, ev]; exact xIndexAddr_ok h hk
  · simp only [aval, ev]; exact xIndex_ok h hk
  · rename_i t x lo hi mx
    have := xSlice_ok h hk
    simp only [Option.map_map, ← evf] at this
    simp only [aval, ev]; exact this
  · rename_i x i
    simp only [aval, ev]
    split at h
    · rename_i vs q
      obtain ⟨h0, h⟩ := ite_run h
      simp only [q, SV.av]; exact ⟨_, nthS_some h0, hk _ h⟩
    · cases h
  · rename_i b args ts
    have := xBuiltin_ok h hk
    rw [List.map_map, ← evf] at this
    simp only [aval]; exact this
  · cases h
end
end Go.Ab
