/- The operations that look at values alone, symbolically, and that they are right. Operations on memory and calls, symbolically, and that they are right. Calls, symbolically; one operation. Regions, symbolically; what stays as it is. Code and functions, symbolically: from a tree to a contract. -/
import Derived.Test.YthhidmnlhocigaaGreatDoorGS
section
namespace Go.Ab
open Go Go.RowKit
set_option linter.unusedVariables false
set_option linter.unusedSimpArgs false

/-- A row of the table of types. -/
structure XTy where
  kd : AKind
  size : Nat
  bytes : Nat
  zero : List SV
  code : Ty
  /-- which cells of a new box become own lists: the cell's place, its elements' type's number and type -/
  own : List (Nat × Nat × Ty)

def xOther : XTy := ⟨.other, 0, 0, [], .unit, []⟩
def nthX : List XTy → Nat → XTy
  | [], _ => xOther
  | c :: _, 0 => c
  | _ :: r, n + 1 => nthX r n
def XTy.av (x : XTy) : ATy := ⟨x.kd, x.size, x.bytes, avL x.zero⟩
def TX (X : List XTy) : TT := fun t => (nthX X t).av

section
variable {X : List XTy} {t : Nat}
theorem TX_kd : (TX X t).kd = (nthX X t).kd := rfl
theorem TX_size : (TX X t).size = (nthX X t).size := rfl
theorem TX_bytes : (TX X t).bytes = (nthX X t).bytes := rfl
theorem TX_zero : (TX X t).zero = avL (nthX X t).zero := rfl
end

def asI : SV → Option (IntKind × Int)
  | .int k n => some (k, n)
  | .ki k n => some (k, n)
  | _ => none
theorem asI_av {x : SV} {k : IntKind} {n : Int} (h : asI x = some (k, n)) : x.av = .int k n := by
  cases x <;> simp [asI] at h <;> (obtain ⟨rfl, rfl⟩ := h; rfl)
def asB : SV → Option Bool
  | .tt => some true
  | .ff => some false
  | .bool b => some b
  | _ => none
theorem asB_av {x : SV} {b : Bool} (h : asB x = some b) : x.av = .bool b := by
  cases x <;> simp [asB] at h <;> (subst h; rfl)

def isBoolK : AKind → Bool
  | .bool => true
  | _ => false
theorem isBoolK_eq {k : AKind} (h : isBoolK k = true) : k = .bool := by cases k <;> simp [isBoolK] at h; rfl
def isStrK : AKind → Bool
  | .str => true
  | _ => false
theorem isStrK_eq {k : AKind} (h : isStrK k = true) : k = .str := by cases k <;> simp [isStrK] at h; rfl

/-- Bounds, as they stand in trees. -/
def inB (n : Int) (len : Nat) : Bool := decide (0 ≤ n ∧ n < (len : Int))
def bndOk (a b : Int) (len : Nat) : Bool := decide (0 ≤ a ∧ a ≤ b ∧ b ≤ (len : Int))
def okApp (n bytes : Nat) : Bool := decide (n ≤ 1099511627776 ∧ n * bytes ≤ 140737488355328)
def okMk (n n' : Int) (bytes : Nat) : Bool := decide (n' = n ∧ 0 ≤ n ∧ n.toNat ≤ 1099511627776 ∧ n.toNat * bytes ≤ 140737488355328)
def okStr (n : Nat) : Bool := decide (n ≤ 9223372036854775807)
def nz (n : Int) : Bool := decide (n ≠ 0)
def nneg (n : Int) : Bool := decide (0 ≤ n)

/-! ### Equality -/

def cutS (off n : Nat) (cs : List SV) : List SV := (cs.drop off).take n
theorem cutS_av (off n : Nat) (cs : List SV) : avL (cutS off n cs) = cut off n (avL cs) := by
  simp only [cutS, cut, avL_eq, List.map_take, List.map_drop]

def eqFsS (eq : Nat → List SV → List SV → Option Bool) (xs ys : List SV) : List AFd → Option Bool
  | [] => some true
  | [f] => eq f.ty (cutS f.off f.size xs) (cutS f.off f.size ys)
  | f :: r => match eq f.ty (cutS f.off f.size xs) (cutS f.off f.size ys), eqFsS eq xs ys r with
    | some a, some b => some (a && b)
    | _, _ => none
def eqEsS (eq : Nat → List SV → List SV → Option Bool) (e size : Nat) (xs ys : List SV) : Nat → Nat → Option Bool
  | _, 0 => some true
  | i, 1 => eq e (cutS (i * size) size xs) (cutS (i * size) size ys)
  | i, n + 1 => match eq e (cutS (i * size) size xs) (cutS (i * size) size ys), eqEsS eq e size xs ys (i + 1) n with
    | some a, some b => some (a && b)
    | _, _ => none

def eqS (X : List XTy) : Nat → Nat → List SV → List SV → Option Bool
  | 0, _, _, _ => none
  | d + 1, t, xs, ys =>
    match (nthX X t).kd with
    | .int _ => match xs, ys with
      | [x], [y] => match asI x, asI y with
        | some (k, a), some (k', b) => if k = k' then some (decide (a = b)) else none
        | _, _ => none
      | _, _ => none
    | .bool => match xs, ys with
      | [x], [y] => match asB x, asB y with
        | some a, some b => some (a == b)
        | _, _ => none
      | _, _ => none
    | .str => match xs, ys with
      | [.str a], [.str b] => some (decide (a = b))
      | _, _ => none
    | .st fs => if xs.length = (nthX X t).size ∧ ys.length = (nthX X t).size then eqFsS (eqS X d) xs ys fs else none
    | .arr n e => if xs.length = (nthX X t).size ∧ ys.length = (nthX X t).size ∧ (nthX X e).kd.isOther = false then eqEsS (eqS X d) e (nthX X e).size xs ys 0 n else none
    | _ => none

theorem eqFsS_av {eq : Nat → List SV → List SV → Option Bool} {eqA : Nat → List AV → List AV → Option Bool} (h : ∀ t xs ys b, eq t xs ys = some b → eqA t (avL xs) (avL ys) = some b) (xs ys : List SV) :
    ∀ (fs : List AFd) (b : Bool), eqFsS eq xs ys fs = some b → eqFs eqA (avL xs) (avL ys) fs = some b
  | [], b, hb => hb
  | [f], b, hb => by
    have := h _ _ _ _ hb
    simp only [cutS_av] at this
    simp [eqFs, this]
  | f :: g :: r, b, hb => by
    simp only [eqFsS] at hb
    split at hb
    · rename_i a c h1 h2
      injection hb with hb; subst hb
      have q1 := h _ _ _ _ h1
      have q2 := eqFsS_av h xs ys (g :: r) c h2
      simp only [cutS_av] at q1
      rw [eqFs, q1, q2]
    · cases hb
theorem eqEsS_av {eq : Nat → List SV → List SV → Option Bool} {eqA : Nat → List AV → List AV → Option Bool} (h : ∀ t xs ys b, eq t xs ys = some b → eqA t (avL xs) (avL ys) = some b) (e size : Nat) (xs ys : List SV) :
    ∀ (n i : Nat) (b : Bool), eqEsS eq e size xs ys i n = some b → eqEs eqA e size (avL xs) (avL ys) i n = some b
  | 0, i, b, hb => hb
  | 1, i, b, hb => by
    have := h _ _ _ _ hb
    simp only [cutS_av] at this
    simp [eqEs, this]
  | n + 2, i, b, hb => by
    simp only [eqEsS] at hb
    split at hb
    · rename_i a c h1 h2
      injection hb with hb; subst hb
      have q1 := h _ _ _ _ h1
      have q2 := eqEsS_av h e size xs ys (n + 1) (i + 1) c h2
      simp only [cutS_av] at q1
      rw [eqEs, q1, q2]
    · cases hb
theorem eqS_av (X : List XTy) : ∀ (d t : Nat) (xs ys : List SV) (b : Bool), eqS X d t xs ys = some b → eqT (TX X) d t (avL xs) (avL ys) = some b
  | 0, _, _, _, _, h => by cases h
  | d + 1, t, xs, ys, b, h => by
    simp only [eqS] at h
    simp only [eqT, TX_kd]
    cases hk : (nthX X t).kd <;> rw [hk] at h <;> simp only at h ⊢ <;> first | (cases h; done) | skip
    case int kk =>
      split at h <;> first | (cases h; done) | skip
      split at h <;> first | (cases h; done) | skip
      rename_i x y _ _ _ _ q1 q2
      split at h
      · rename_i e
        injection h with h
        subst h; subst e
        simp only [avL_eq, List.map_cons, List.map_nil, asI_av q1, asI_av q2, if_true]
        rw [Option.some.injEq, Bool.eq_iff_iff]; simp
      · cases h
    case bool =>
      split at h <;> first | (cases h; done) | skip
      split at h <;> first | (cases h; done) | skip
      rename_i x y _ _ q1 q2
      injection h with h
      subst h
      simp only [avL_eq, List.map_cons, List.map_nil, asB_av q1, asB_av q2]
    case str =>
      split at h <;> first | (cases h; done) | skip
      injection h with h
      subst h
      simp only [avL_eq, List.map_cons, List.map_nil, SV.av]
      rw [Option.some.injEq, Bool.eq_iff_iff]; simp
    case st fs =>
      split at h
      · rename_i hc
        simp only [avL_length, TX_size, hc, and_self, if_true]
        exact eqFsS_av (fun t xs ys b => eqS_av X d t xs ys b) xs ys fs b h
      · cases h
    case arr n e =>
      split at h
      · rename_i hc
        simp only [avL_length, TX_size, TX_kd, hc, and_self, if_true]
        exact eqEsS_av (fun t xs ys b => eqS_av X d t xs ys b) e _ xs ys n 0 b h
      · cases h

/-! ### Two operands, one operand -/

section
variable {ρ : Type}

def xInt (op : BinOp) (ka kb : IntKind) (a b : Int) (k : SV → Tr ρ) : Tr ρ :=
  match op with
  | .add => if ka = kb then k (.int ka (ka.wrap (a + b))) else .fail
  | .sub => if ka = kb then k (.int ka (ka.wrap (a - b))) else .fail
  | .mul => if ka = kb then k (.int ka (ka.wrap (a * b))) else .fail
  | .quo => if ka = kb then .req (nz b) (k (.int ka (ka.wrap (a.tdiv b)))) else .fail
  | .rem => if ka = kb then .req (nz b) (k (.int ka (a.tmod b))) else .fail
  | .eql => if ka = kb then k (.bool (decide (a = b))) else .fail
  | .neq => if ka = kb then k (.bool (!decide (a = b))) else .fail
  | .lss => if ka = kb then k (.bool (decide (a < b))) else .fail
  | .leq => if ka = kb then k (.bool (decide (a ≤ b))) else .fail
  | .gtr => if ka = kb then k (.bool (decide (b < a))) else .fail
  | .geq => if ka = kb then k (.bool (decide (b ≤ a))) else .fail
  | .shl => .req (nneg b) (k (.int ka (ka.wrap (a * 2 ^ (min b.toNat ka.bits)))))
  | .shr => .req (nneg b) (k (.int ka (a.fdiv (2 ^ (min b.toNat ka.bits)))))
  | .and => if ka = kb then k (.int ka (bits .and ka a b)) else .fail
  | .or => if ka = kb then k (.int ka (bits .or ka a b)) else .fail
  | .xor => if ka = kb then k (.int ka (bits .xor ka a b)) else .fail
  | .andNot => if ka = kb then k (.int ka (bits .andNot ka a b)) else .fail

theorem ite_run {c : Prop} [Decidable c] {t : Tr ρ} {r : ρ} (h : (if c then t else .fail).run = some r) : c ∧ t.run = some r := by
  split at h
  · exact ⟨by assumption, h⟩
  · cases h

theorem xInt_ok {op : BinOp} {ka kb : IntKind} {a b : Int} {k : SV → Tr ρ} {r : ρ} {kA : AV → Prop} (h : (xInt op ka kb a b k).run = some r) (hk : ∀ c, (k c).run = some r → kA c.av) : aInt op ka kb a b kA := by
  cases op <;> simp only [xInt] at h <;> simp only [aInt]
  case shl => obtain ⟨h1, h2⟩ := run_req h; exact ⟨of_decide_eq_true h1, hk _ h2⟩
  case shr => obtain ⟨h1, h2⟩ := run_req h; exact ⟨of_decide_eq_true h1, hk _ h2⟩
  case quo => obtain ⟨h0, h⟩ := ite_run h; obtain ⟨h1, h2⟩ := run_req h; exact ⟨h0, of_decide_eq_true h1, hk _ h2⟩
  case rem => obtain ⟨h0, h⟩ := ite_run h; obtain ⟨h1, h2⟩ := run_req h; exact ⟨h0, of_decide_eq_true h1, hk _ h2⟩
  case eql =>
    obtain ⟨h0, h⟩ := ite_run h
    refine ⟨h0, ?_⟩
    have := hk _ h
    simp only [SV.av] at this
    rwa [show (a == b) = decide (a = b) from by rw [Bool.eq_iff_iff]; simp]
  case neq =>
    obtain ⟨h0, h⟩ := ite_run h
    refine ⟨h0, ?_⟩
    have := hk _ h
    simp only [SV.av] at this
    rwa [show (a != b) = !decide (a = b) from by rw [Bool.eq_iff_iff]; simp]
  all_goals (obtain ⟨h0, h⟩ := ite_run h; exact ⟨h0, hk _ h⟩)

def xStr2 (op : BinOp) (a b : List UInt8) (k : SV → Tr ρ) : Tr ρ :=
  match op with
  | .eql => k (.bool (decide (a = b)))
  | .neq => k (.bool (!decide (a = b)))
  | .add => .req (okStr (a.length + b.length)) (k (.str (a ++ b)))
  | .lss => k (.bool (Op.bytesLess a b))
  | .leq => k (.bool (Op.bytesLess a b || a == b))
  | .gtr => k (.bool (!(Op.bytesLess a b || a == b)))
  | .geq => k (.bool (!Op.bytesLess a b))
  | _ => .fail

/-- Of two numbers that are known, a number or a truth value that is known. -/
def litV : SV → SV
  | .int k n => .ki k n
  | .bool b => match b with
    | true => .tt
    | false => .ff
  | c => c
theorem litV_av (c : SV) : (litV c).av = c.av := by
  cases c <;> first | rfl | (rename_i b; cases b <;> rfl)
def isKi : SV → Bool
  | .ki _ _ => true
  | _ => false
def litK (x y : SV) (k : SV → Tr ρ) (c : SV) : Tr ρ := match isKi x, isKi y with
  | true, true => k (litV c)
  | _, _ => k c
theorem litK_ok {x y c : SV} {k : SV → Tr ρ} {r : ρ} {kA : AV → Prop} (h : (litK x y k c).run = some r) (hk : ∀ c, (k c).run = some r → kA c.av) : kA c.av := by
  unfold litK at h
  split at h
  · have := hk _ h; rwa [litV_av] at this
  · exact hk _ h

def xBin (X : List XTy) (op : BinOp) (t : Nat) (x y : SV) (k : SV → Tr ρ) : Tr ρ :=
  match asI x, asI y with
  | some (ka, a), some (kb, b) => xInt op ka kb a b (litK x y k)
  | _, _ => match x, y with
    | .str a, .str b => xStr2 op a b k
    | .agg xs, .agg ys => if (nthX X t).kd.isAgg = true then (match op, eqS X 10 t xs ys with
      | .eql, some b => k (.bool b)
      | .neq, some b => k (.bool (!b))
      | _, _ => .fail) else .fail
    | _, _ => match asB x, asB y with
      | some a, some b => if isBoolK (nthX X t).kd = true then (match op with
        | .eql => k (.bool (a == b))
        | .neq => k (.bool (a != b))
        | _ => .fail) else .fail
      | _, _ => .fail

theorem xBin_ok {X : List XTy} {op : BinOp} {t : Nat} {x y : SV} {k : SV → Tr ρ} {r : ρ} {kA : AV → Prop} (h : (xBin X op t x y k).run = some r) (hk : ∀ c, (k c).run = some r → kA c.av) : aBin (TX X) op t x.av y.av kA := by
  unfold xBin at h
  split at h
  · rename_i q1 q2
    rw [asI_av q1, asI_av q2]
    exact xInt_ok h (fun c hc => litK_ok hc hk)
  · split at h
    · rename_i a b _
      simp only [SV.av, aBin]
      cases op <;> simp only [xStr2] at h ⊢ <;> first | (cases h; done) | skip
      case add => obtain ⟨h1, h2⟩ := run_req h; exact ⟨of_decide_eq_true h1, hk _ h2⟩
      case eql =>
        have := hk _ h
        simp only [SV.av] at this
        rwa [show (a == b) = decide (a = b) from by rw [Bool.eq_iff_iff]; simp]
      case neq =>
        have := hk _ h
        simp only [SV.av] at this
        rwa [show (a != b) = !decide (a = b) from by rw [Bool.eq_iff_iff]; simp]
      all_goals exact hk _ h
    · obtain ⟨h0, h⟩ := ite_run h
      simp only [SV.av, aBin]
      refine ⟨h0, ?_⟩
      split at h
      · rename_i b q _; exact ⟨b, eqS_av _ _ _ _ _ _ q, hk _ h⟩
      · rename_i b q _; exact ⟨b, eqS_av _ _ _ _ _ _ q, hk _ h⟩
      · cases h
    · split at h
      · rename_i q1 q2
        obtain ⟨h0, h⟩ := ite_run h
        rw [asB_av q1, asB_av q2]
        simp only [aBin]
        cases op <;> simp only at h ⊢ <;> first | (cases h; done) | exact ⟨isBoolK_eq h0, hk _ h⟩
      · cases h

def xUn (op : UnOp) (x : SV) (k : SV → Tr ρ) : Tr ρ :=
  match op with
  | .neg => match asI x with
    | some (ka, n) => k (.int ka (ka.wrap (0 - n)))
    | none => .fail
  | .not => match x with
    | .tt => k .ff
    | .ff => k .tt
    | .bool b => k (.bool (!b))
    | _ => .fail
  | _ => .fail
theorem xUn_ok {op : UnOp} {x : SV} {k : SV → Tr ρ} {r : ρ} {kA : AV → Prop} (h : (xUn op x k).run = some r) (hk : ∀ c, (k c).run = some r → kA c.av) : aUn op x.av kA := by
  unfold xUn at h
  split at h
  · split at h
    · rename_i q
      rw [asI_av q]
      exact hk _ h
    · cases h
  · split at h <;> first | (cases h; done) | exact hk _ h
  · cases h

def xConv (X : List XTy) (src dst : Nat) (x : SV) (k : SV → Tr ρ) : Tr ρ :=
  if (nthX X src).kd.isOther = false then (match (nthX X dst).kd with
    | .int kd => match asI x with
      | some (_, n) => k (.int kd (kd.wrap n))
      | none => .fail
    | .str => match x with
      | .str l => k (.str l)
      | _ => .fail
    | _ => .fail) else .fail
theorem xConv_ok {X : List XTy} {src dst : Nat} {x : SV} {k : SV → Tr ρ} {r : ρ} {kA : AV → Prop} (h : (xConv X src dst x k).run = some r) (hk : ∀ c, (k c).run = some r → kA c.av) : aConv (TX X) src dst x.av kA := by
  obtain ⟨h0, h⟩ := ite_run h
  unfold aConv
  rw [TX_kd]
  split at h
  · rename_i kd hkd
    split at h
    · rename_i q
      rw [hkd, asI_av q]
      exact ⟨h0, hk _ h⟩
    · cases h
  · rename_i hkd
    split at h
    · rw [hkd]; exact ⟨h0, hk _ h⟩
    · cases h
  · cases h

/-! ### Structs and arrays -/

def SV.cells : SV → List SV
  | .agg cs => cs
  | c => [c]
theorem SV.cells_av (c : SV) : c.av.cells = avL c.cells := by cases c <;> rfl

def layS : Nat → List SV → List SV → List SV
  | _, [], cs => cs
  | off, c :: r, cs => layS (off + 1) r (setS cs off c)
theorem layS_av : ∀ (r : List SV) (off : Nat) (cs : List SV), avL (layS off r cs) = lay off (avL r) (avL cs)
  | [], _, _ => rfl
  | c :: r, off, cs => by
    show avL (layS (off + 1) r (setS cs off c)) = lay (off + 1) (avL r) ((avL cs).set off c.av)
    rw [layS_av r, setS_av]

def fillS (place : Nat → Option (Nat × Nat)) (cells : List SV) : List (Nat × SV) → Option (List SV)
  | [] => some cells
  | (i, v) :: r =>
    match place i with
    | none => none
    | some (off, size) => if v.cells.length = size ∧ off + size ≤ cells.length ∧ v.av.known = true then fillS place (layS off v.cells cells) r else none
theorem fillS_av (place : Nat → Option (Nat × Nat)) : ∀ (ps : List (Nat × SV)) (cells cs : List SV), fillS place cells ps = some cs → aFill place (avL cells) (ps.map fun p => (p.1, p.2.av)) = some (avL cs)
  | [], cells, cs, h => by injection h with h; subst h; rfl
  | (i, v) :: r, cells, cs, h => by
    simp only [fillS] at h
    simp only [List.map_cons, aFill]
    split at h
    · cases h
    · rename_i off size hp
      simp only [hp]
      split at h
      · rename_i hc
        rw [if_pos (by rw [SV.cells_av, avL_length, avL_length]; exact hc), SV.cells_av, ← layS_av]
        exact fillS_av place r _ cs h
      · cases h

def xBuild (X : List XTy) (t : Nat) (ps : List (Nat × SV)) (k : SV → Tr ρ) : Tr ρ :=
  match (nthX X t).kd with
  | .st fs => match fillS (stPlace fs) (nthX X t).zero ps with
    | some cs => k (.agg cs)
    | none => .fail
  | .arr _ e => if (nthX X e).kd.isOther = false then (match fillS (fun i => some (i * (nthX X e).size, (nthX X e).size)) (nthX X t).zero ps with
    | some cs => k (.agg cs)
    | none => .fail) else .fail
  | _ => .fail
theorem xBuild_ok {X : List XTy} {t : Nat} {ps : List (Nat × SV)} {k : SV → Tr ρ} {r : ρ} {kA : AV → Prop} (h : (xBuild X t ps k).run = some r) (hk : ∀ c, (k c).run = some r → kA c.av) :
    aBuild (TX X) t (ps.map fun p => (p.1, p.2.av)) kA := by
  unfold xBuild at h
  unfold aBuild
  rw [TX_kd]
  split at h
  · rename_i fs hkd
    rw [hkd]
    split at h
    · rename_i cs q; exact ⟨_, fillS_av _ _ _ _ q, hk _ h⟩
    · cases h
  · rename_i n e hkd
    rw [hkd]
    obtain ⟨h0, h⟩ := ite_run h
    split at h
    · rename_i cs q; exact ⟨h0, _, fillS_av _ _ _ _ q, hk _ h⟩
    · cases h
  · cases h

def xPart (X : List XTy) (ty off : Nat) (cs : List SV) (k : SV → Tr ρ) : Tr ρ :=
  if (nthX X ty).kd.isOther = false then (if (nthX X ty).kd.isAgg = true then k (.agg (cutS off (nthX X ty).size cs)) else if off < cs.length then k (nthS cs off) else .fail) else .fail
theorem nthS_some {l : List SV} {n : Nat} (h : n < l.length) : (avL l)[n]? = some (nthS l n).av := by
  rw [← nthS_av]; exact nth_lt (by rw [avL_length]; exact h)
theorem xPart_ok {X : List XTy} {ty off : Nat} {cs : List SV} {k : SV → Tr ρ} {r : ρ} {kA : AV → Prop} (h : (xPart X ty off cs k).run = some r) (hk : ∀ c, (k c).run = some r → kA c.av) : aPart (TX X) ty off (avL cs) kA := by
  unfold xPart at h
  obtain ⟨h0, h⟩ := ite_run h
  refine ⟨h0, ?_⟩
  rw [TX_kd]
  split at h
  · rename_i hag
    rw [if_pos hag]
    have := hk _ h
    simp only [SV.av] at this
    rw [show SV.av.avL (cutS off (nthX X ty).size cs) = cut off (nthX X ty).size (avL cs) from cutS_av _ _ _] at this
    exact this
  · rename_i hag
    rw [if_neg hag]
    obtain ⟨h1, h⟩ := ite_run h
    exact ⟨_, nthS_some h1, hk _ h⟩

def xField (X : List XTy) (t : Nat) (x : SV) (f : Nat) (k : SV → Tr ρ) : Tr ρ :=
  match (nthX X t).kd, x with
  | .st fs, .agg cs => match fs[f]? with
    | some fd => xPart X fd.ty fd.off cs k
    | none => .fail
  | _, _ => .fail
theorem xField_ok {X : List XTy} {t : Nat} {x : SV} {f : Nat} {k : SV → Tr ρ} {r : ρ} {kA : AV → Prop} (h : (xField X t x f k).run = some r) (hk : ∀ c, (k c).run = some r → kA c.av) : aField (TX X) t x.av f kA := by
  unfold xField at h
  unfold aField
  rw [TX_kd]
  split at h
  · rename_i fs cs hkd
    rw [hkd]
    split at h
    · rename_i fd q; exact ⟨fd, q, xPart_ok h hk⟩
    · cases h
  · cases h

def xFieldAddr (X : List XTy) (t : Nat) (x : SV) (f : Nat) (k : SV → Tr ρ) : Tr ρ :=
  match (nthX X t).kd with
  | .st fs => match fs[f]? with
    | some fd => match x with
      | .cp cells => k (.cp (cells.drop fd.off))
      | .ptr b o => k (.ptr b (o + fd.off))
      | .ep b s i => if fd.off = 0 then k (.ep b s i) else k (.ef b s i fd.off)
      | _ => .fail
    | none => .fail
  | _ => .fail
theorem avL_drop (n : Nat) (cs : List SV) : avL (cs.drop n) = (avL cs).drop n := by simp only [avL_eq, List.map_drop]
theorem avL_take (n : Nat) (cs : List SV) : avL (cs.take n) = (avL cs).take n := by simp only [avL_eq, List.map_take]
theorem xFieldAddr_ok {X : List XTy} {t : Nat} {x : SV} {f : Nat} {k : SV → Tr ρ} {r : ρ} {kA : AV → Prop} (h : (xFieldAddr X t x f k).run = some r) (hk : ∀ c, (k c).run = some r → kA c.av) : aFieldAddr (TX X) t x.av f kA := by
  unfold xFieldAddr at h
  unfold aFieldAddr
  rw [TX_kd]
  split at h
  · rename_i fs hkd
    rw [hkd]
    split at h
    · rename_i fd q
      split at h
      · have := hk _ h
        simp only [SV.av] at this
        rw [show SV.av.avL (List.drop fd.off _) = _ from avL_drop _ _] at this
        exact ⟨fd, q, this⟩
      · exact ⟨fd, q, hk _ h⟩
      · split at h
        · rename_i h0; exact ⟨fd, q, .inl ⟨h0, hk _ h⟩⟩
        · exact ⟨fd, q, .inr (hk _ h)⟩
      · cases h
    · cases h
  · cases h

/-! ### Elements -/

def pickIx (n : Int) (f : Nat → Tr ρ) : Nat → Nat → Tr ρ
  | _, 0 => .fail
  | i, m + 1 => .br (decide (n = (i : Int))) (f i) (pickIx n f (i + 1) m)
theorem pickIx_ok {n : Int} {f : Nat → Tr ρ} {r : ρ} : ∀ {m i : Nat}, (pickIx n f i m).run = some r → ∃ j : Nat, n = j ∧ i ≤ j ∧ j < i + m ∧ (f j).run = some r
  | 0, i, h => by cases h
  | m + 1, i, h => by
    obtain ⟨h1, h2⟩ := run_br h
    by_cases e : n = (i : Int)
    · exact ⟨i, e, Nat.le_refl _, by omega, h1 (by simp [e])⟩
    · obtain ⟨j, q1, q2, q3, q4⟩ := pickIx_ok (h2 (by simp [e]))
      exact ⟨j, q1, by omega, by omega, q4⟩
/-- An index into m places that are known. -/
def idxS (x : SV) (m : Nat) (f : Nat → Tr ρ) : Tr ρ :=
  match x with
  | .ki _ n => if 0 ≤ n ∧ n < (m : Int) then f n.toNat else .fail
  | .int _ n => pickIx n f 0 m
  | _ => .fail
theorem idxS_ok {x : SV} {m : Nat} {f : Nat → Tr ρ} {r : ρ} (h : (idxS x m f).run = some r) : ∃ (k : IntKind) (n : Int), x.av = .int k n ∧ 0 ≤ n ∧ n < m ∧ (f n.toNat).run = some r := by
  unfold idxS at h
  split at h
  · obtain ⟨h0, h⟩ := ite_run h; exact ⟨_, _, rfl, h0.1, h0.2, h⟩
  · obtain ⟨j, rfl, q2, q3, q4⟩ := pickIx_ok h
    exact ⟨_, _, rfl, by omega, by omega, by simpa using q4⟩
  · cases h

def xIndexAddr (X : List XTy) (t : Nat) (x i : SV) (k : SV → Tr ρ) : Tr ρ :=
  match (nthX X t).kd with
  | .slice e => if (nthX X e).kd.isOther = false then (match asI i with
    | some (_, n) => match x with
      | .sl τ xs => if τ.size = (nthX X e).size then .req (inB n xs.length) (k (.cp (τ.svs (gi xs n)))) else .fail
      | .ow _ _ τ xs => if τ.size = (nthX X e).size then .req (inB n xs.length) (k (.cp (τ.svs (gi xs n)))) else .fail
      | .sb b m => .req (inB n m) (k (.ep b (nthX X e).size n))
      | _ => .fail
    | none => .fail) else .fail
  | .arr m e => if (nthX X e).kd.isOther = false then (match x with
    | .ptr b o => idxS i m fun j => k (.ptr b (o + j * (nthX X e).size))
    | .cp cells => idxS i m fun j => k (.cp (cells.drop (j * (nthX X e).size)))
    | _ => .fail) else .fail
  | _ => .fail
theorem rows_get {τ : Ty} {xs : List τ.T} {n : Int} (h : inB n xs.length = true) : 0 ≤ n ∧ (xs.map τ.enc)[n.toNat]? = some (τ.enc (gi xs n)) := by
  obtain ⟨h1, h2⟩ := of_decide_eq_true h
  have : n.toNat < xs.length := by omega
  refine ⟨h1, ?_⟩
  simp [gi, List.getD, List.getElem?_eq_getElem this]
theorem xIndexAddr_ok {X : List XTy} {t : Nat} {x i : SV} {k : SV → Tr ρ} {r : ρ} {kA : AV → Prop} (h : (xIndexAddr X t x i k).run = some r) (hk : ∀ c, (k c).run = some r → kA c.av) : aIndexAddr (TX X) t x.av i.av kA := by
  unfold xIndexAddr at h
  split at h
  · rename_i e hkd
    obtain ⟨h0, h⟩ := ite_run h
    split at h
    · rename_i _ n q
      rw [asI_av q]
      split at h
      · rename_i τ xs _
        obtain ⟨h1, h⟩ := ite_run h
        obtain ⟨h2, h⟩ := run_req h
        have h3 := hk _ h
        simp only [SV.av] at h3
        rw [show SV.av.avL _ = _ from τ.svs_av _] at h3
        simp only [SV.av, aIndexAddr, TX_kd, hkd]
        exact ⟨h0, h1, _, (rows_get h2).1, (rows_get h2).2, h3⟩
      · rename_i tk e' τ xs _
        obtain ⟨h1, h⟩ := ite_run h
        obtain ⟨h2, h⟩ := run_req h
        have h3 := hk _ h
        simp only [SV.av] at h3
        rw [show SV.av.avL _ = _ from τ.svs_av _] at h3
        simp only [SV.av, aIndexAddr, TX_kd, hkd]
        exact ⟨h0, h1, _, (rows_get h2).1, (rows_get h2).2, h3⟩
      · rename_i b m _
        obtain ⟨h2, h⟩ := run_req h
        obtain ⟨h3, h4⟩ := of_decide_eq_true h2
        simp only [SV.av, aIndexAddr, TX_kd, TX_size, hkd]
        exact ⟨h0, h3, h4, hk _ h⟩
      · cases h
    · cases h
  · rename_i m e hkd
    obtain ⟨h0, h⟩ := ite_run h
    split at h
    · obtain ⟨kk, n, q1, q2, q3, q4⟩ := idxS_ok h
      rw [q1]
      simp only [SV.av, aIndexAddr, TX_kd, hkd]
      exact ⟨h0, q2, q3, hk _ q4⟩
    · obtain ⟨kk, n, q1, q2, q3, q4⟩ := idxS_ok h
      rw [q1]
      have h3 := hk _ q4
      simp only [SV.av] at h3
      rw [show SV.av.avL (List.drop _ _) = _ from avL_drop _ _] at h3
      simp only [SV.av, aIndexAddr, TX_kd, hkd]
      exact ⟨h0, q2, q3, h3⟩
    · cases h
  · cases h

def xIndex (X : List XTy) (t : Nat) (x i : SV) (k : SV → Tr ρ) : Tr ρ :=
  match (nthX X t).kd, x with
  | .str, .str l => match asI i with
    | some (_, n) => .req (inB n l.length) (k (.int .u8 ((gi l n).toNat : Int)))
    | none => .fail
  | .arr m e, .agg cs => idxS i m fun j => xPart X e (j * (nthX X e).size) cs k
  | _, _ => .fail
theorem xIndex_ok {X : List XTy} {t : Nat} {x i : SV} {k : SV → Tr ρ} {r : ρ} {kA : AV → Prop} (h : (xIndex X t x i k).run = some r) (hk : ∀ c, (k c).run = some r → kA c.av) : aIndex (TX X) t x.av i.av kA := by
  unfold xIndex at h
  split at h
  · rename_i l hkd
    split at h
    · rename_i _ n q
      rw [asI_av q]
      obtain ⟨h2, h⟩ := run_req h
      obtain ⟨h3, h4⟩ := of_decide_eq_true h2
      simp only [SV.av, aIndex, TX_kd, hkd]
      have : n.toNat < l.length := by omega
      exact ⟨gi l n, h3, by simp [gi, List.getD, List.getElem?_eq_getElem this], hk _ h⟩
    · cases h
  · rename_i m e cs hkd
    obtain ⟨kk, n, q1, q2, q3, q4⟩ := idxS_ok h
    rw [q1]
    simp only [SV.av, aIndex, TX_kd, hkd]
    exact ⟨q2, q3, xPart_ok q4 hk⟩
  · cases h

def bndS : Option SV → Int → Option Int
  | none, d => some d
  | some v, _ => (asI v).map (·.2)
theorem bndS_av {v : Option SV} {d : Nat} {a : Int} (h : bndS v d = some a) : aBnd (v.map SV.av) d = some a := by
  cases v with
  | none => exact h
  | some v =>
    simp only [bndS] at h
    cases hq : asI v with
    | none => rw [hq] at h; cases h
    | some p =>
      rw [hq] at h
      injection h with h
      subst h
      simp only [Option.map_some, asI_av (k := p.1) (n := p.2) hq]; cases d <;> rfl
def isK0 : Option SV → Bool
  | some (.ki _ n) => decide (n = 0)
  | _ => false

def xSlice (X : List XTy) (t : Nat) (x : SV) (lo hi mx : Option SV) (k : SV → Tr ρ) : Tr ρ :=
  match (nthX X t).kd, mx with
  | .str, none => match x with
    | .str l => match bndS lo 0, bndS hi l.length with
      | some a, some b => .req (bndOk a b l.length) (k (.str (part l a b)))
      | _, _ => .fail
    | _ => .fail
  | .slice e, none => if (nthX X e).kd.isOther = false then (match x with
    | .sl τ xs => if τ.size = (nthX X e).size then (match bndS lo 0, bndS hi xs.length with
      | some a, some b => .req (bndOk a b xs.length) (k (.sl τ (part xs a b)))
      | _, _ => .fail) else .fail
    | .ow _ _ τ xs => if τ.size = (nthX X e).size then (match bndS lo 0, bndS hi xs.length with
      | some a, some b => .req (bndOk a b xs.length) (k (.sl τ (part xs a b)))
      | _, _ => .fail) else .fail
    | .sb b n => if lo.isNone = true then (match bndS hi n with
      | some q => .req (bndOk 0 q n) (k (.sb b q.toNat))
      | none => .fail) else .fail
    | _ => .fail) else .fail
  | .slice e, some m => if (nthX X e).kd.isOther = false ∧ lo.isNone = true then (match x with
    | .sb b n => if hi.isSome = true then (match asI m, bndS hi n with
      | some (_, q'), some q => .req (decide (q = q')) (.req (inB q n) (k (.sb b q'.toNat)))
      | _, _ => .fail) else .fail
    | .sl _ _ => if isK0 (some m) = true ∧ isK0 hi = true then k .emp else .fail
    | .ow _ _ _ _ => if isK0 (some m) = true ∧ isK0 hi = true then k .emp else .fail
    | .emp => if isK0 (some m) = true ∧ isK0 hi = true then k .emp else .fail
    | _ => .fail) else .fail
  | _, _ => .fail
theorem isK0xav {v : SV} (h : isK0 (some v) = true) : ∃ k, v.av = .int k 0 := by
  cases v <;> simp [isK0] at h
  subst h; exact ⟨_, rfl⟩
theorem isK0xbnd {v : Option SV} (h : isK0 v = true) (d : Nat) : aBnd (v.map SV.av) d = some 0 := by
  cases v with
  | none => cases h
  | some v => obtain ⟨k, q⟩ := isK0xav h; simp only [Option.map_some, q]; cases d <;> rfl
theorem rows_part' (τ : Ty) (xs : List τ.T) (a b : Int) : ((xs.map τ.enc).take b.toNat).drop a.toNat = (part xs a b).map τ.enc := by simp [part, List.map_take, List.map_drop]
theorem xSlice_ok {X : List XTy} {t : Nat} {x : SV} {lo hi mx : Option SV} {k : SV → Tr ρ} {r : ρ} {kA : AV → Prop} (h : (xSlice X t x lo hi mx k).run = some r) (hk : ∀ c, (k c).run = some r → kA c.av) :
    aSlice (TX X) t x.av (lo.map SV.av) (hi.map SV.av) (mx.map SV.av) kA := by
  unfold xSlice at h
  split at h
  · rename_i hkd
    split at h
    · rename_i l
      split at h
      · rename_i a b q1 q2
        replace h := run_req h; obtain ⟨h1, h⟩ := h
        obtain ⟨w1, w2, w3⟩ := of_decide_eq_true h1
        simp only [SV.av, aSlice, TX_kd, hkd, Option.map_none]
        exact ⟨a, b, bndS_av (d := 0) q1, bndS_av q2, w1, w2, w3, hk _ h⟩
      · cases h
    · cases h
  · rename_i e hkd
    replace h := ite_run h; obtain ⟨h0, h⟩ := h
    split at h
    · rename_i τ xs
      replace h := ite_run h; obtain ⟨h1, h⟩ := h
      split at h
      · rename_i a b q1 q2
        replace h := run_req h; obtain ⟨h2, h⟩ := h
        obtain ⟨w1, w2, w3⟩ := of_decide_eq_true h2
        simp only [SV.av, aSlice, TX_kd, TX_size, hkd, Option.map_none, List.length_map, rows_part']
        exact ⟨h0, h1, a, b, bndS_av (d := 0) q1, bndS_av q2, w1, w2, w3, hk _ h⟩
      · cases h
    · rename_i tk e' τ xs
      replace h := ite_run h; obtain ⟨h1, h⟩ := h
      split at h
      · rename_i a b q1 q2
        replace h := run_req h; obtain ⟨h2, h⟩ := h
        obtain ⟨w1, w2, w3⟩ := of_decide_eq_true h2
        simp only [SV.av, aSlice, TX_kd, TX_size, hkd, Option.map_none, List.length_map, rows_part']
        exact ⟨h0, h1, a, b, bndS_av (d := 0) q1, bndS_av q2, w1, w2, w3, hk _ h⟩
      · cases h
    · rename_i b n
      replace h := ite_run h; obtain ⟨h1, h⟩ := h
      split at h
      · rename_i q q2
        replace h := run_req h; obtain ⟨h2, h⟩ := h
        obtain ⟨w1, w2, w3⟩ := of_decide_eq_true h2
        have ql : lo = none := by cases lo <;> simp at h1; rfl
        subst ql
        simp only [SV.av, aSlice, TX_kd, hkd, Option.map_none]
        exact ⟨h0, trivial, q, bndS_av q2, w2, w3, hk _ h⟩
      · cases h
    · cases h
  · rename_i e m hkd
    replace h := ite_run h; obtain ⟨⟨h0, h3⟩, h⟩ := h
    have ql : lo = none := by cases lo <;> simp at h3; rfl
    subst ql
    split at h
    · rename_i b n
      replace h := ite_run h; obtain ⟨h2, h⟩ := h
      split at h
      · rename_i kq q' q q1 q2
        replace h := run_req h; obtain ⟨h3, h⟩ := h
        replace h := run_req h; obtain ⟨h4, h⟩ := h
        have h3 := of_decide_eq_true h3
        subst h3
        obtain ⟨w2, w3⟩ := of_decide_eq_true h4
        simp only [SV.av, aSlice, TX_kd, hkd, Option.map_some, asI_av q1, Option.map_none]
        refine ⟨h0, trivial, ?_, bndS_av q2, w2, w3, hk _ h⟩
        cases hi with
        | none => cases h2
        | some _ => simp
      · cases h
    all_goals first | (cases h; done) | skip
    all_goals
      replace h := ite_run h; obtain ⟨⟨h1, h2⟩, h⟩ := h
      obtain ⟨km, qm⟩ := isK0xav h1
      have qh := isK0xbnd h2 1
      simp only [SV.av, aSlice, TX_kd, hkd, Option.map_some, qm, Option.map_none]
      exact ⟨h0, by simp, by simp, qh, hk _ h⟩
  · cases h

def xLen (X : List XTy) (t : Nat) (x : SV) (k : SV → Tr ρ) : Tr ρ :=
  match (nthX X t).kd, x with
  | .str, .str l => k (.int .i64 l.length)
  | .slice _, .sl _ xs => k (.int .i64 xs.length)
  | .slice _, .ow _ _ _ xs => k (.int .i64 xs.length)
  | .slice _, .emp => k (.ki .i64 0)
  | .slice _, .sb _ n => k (.int .i64 n)
  | .arr n _, _ => k (.ki .i64 n)
  | _, _ => .fail
theorem xLen_ok {X : List XTy} {t : Nat} {x : SV} {k : SV → Tr ρ} {r : ρ} {kA : AV → Prop} (h : (xLen X t x k).run = some r) (hk : ∀ c, (k c).run = some r → kA c.av) : aLen (TX X) t x.av kA := by
  unfold xLen at h
  split at h
  · rename_i l hkd; have := hk _ h; simp only [SV.av, aLen, TX_kd, hkd, List.length_map] at this ⊢; exact this
  · rename_i e τ xs hkd; have := hk _ h; simp only [SV.av, aLen, TX_kd, hkd, List.length_map] at this ⊢; exact this
  · rename_i e b e' τ xs hkd; have := hk _ h; simp only [SV.av, aLen, TX_kd, hkd, List.length_map] at this ⊢; exact this
  · rename_i e hkd; have := hk _ h; simp only [SV.av, aLen, TX_kd, hkd] at this ⊢; exact this
  · rename_i e b n hkd; have := hk _ h; simp only [SV.av, aLen, TX_kd, hkd] at this ⊢; exact this
  · rename_i n e hkd
    have := hk _ h
    unfold aLen
    rw [TX_kd, hkd]
    exact this
  · cases h

def xMins (m : Bool) : SV → List SV → (SV → Tr ρ) → Tr ρ
  | x, [], k => k x
  | x, y :: r, k => match asI x, asI y with
    | some (ka, a), some (_, b) => xMins m (.int ka (if m then min a b else max a b)) r k
    | _, _ => .fail
theorem xMins_ok {m : Bool} {k : SV → Tr ρ} {r : ρ} {kA : AV → Prop} : ∀ (l : List SV) (x : SV), (xMins m x l k).run = some r → (∀ c, (k c).run = some r → kA c.av) → ∃ c, aMins m x.av (l.map SV.av) = some c ∧ kA c
  | [], x, h, hk => ⟨_, rfl, hk _ h⟩
  | y :: l, x, h, hk => by
    simp only [xMins] at h
    split at h
    · rename_i ka a kb b q1 q2
      obtain ⟨c, h1, h2⟩ := xMins_ok l _ h hk
      refine ⟨c, ?_, h2⟩
      simp only [List.map_cons, aMins, asI_av q1, asI_av q2, aMin2]
      simp only [SV.av] at h1
      cases m
      · simp only [Bool.false_eq_true, if_false] at h1 ⊢
        rw [show (if b > a then b else a) = max a b by omega]; exact h1
      · simp only [if_true] at h1 ⊢
        rw [show (if b < a then b else a) = min a b by omega]; exact h1
    · cases h

def xBuiltin (X : List XTy) (b : Builtin) (ts : List Nat) (xs : List SV) (k : SV → Tr ρ) : Tr ρ :=
  match b, ts, xs with
  | .len, [t], [x] => xLen X t x k
  | .min, _, x :: r => xMins true x r k
  | .max, _, x :: r => xMins false x r k
  | _, _, _ => .fail
theorem xBuiltin_ok {X : List XTy} {b : Builtin} {ts : List Nat} {xs : List SV} {k : SV → Tr ρ} {r : ρ} {kA : AV → Prop} (h : (xBuiltin X b ts xs k).run = some r) (hk : ∀ c, (k c).run = some r → kA c.av) : aBuiltin (TX X) b ts (xs.map SV.av) kA := by
  unfold xBuiltin at h
  split at h
  · exact xLen_ok h hk
  · obtain ⟨c, h1, h2⟩ := xMins_ok _ _ h hk; exact ⟨c, h1, h2⟩
  · obtain ⟨c, h1, h2⟩ := xMins_ok _ _ h hk; exact ⟨c, h1, h2⟩
  · cases h

def cvOneS : Value → SV
  | .bool b => if b then .tt else .ff
  | .int k n => .ki k n
  | .string s => .str s.data.toList
  | .pointer none => .nilp
  | .slice none 0 0 => .emp
  | .map none => .nilm
  | .nilFunc => .nilf
  | _ => .non
def cvS : Value → SV
  | .agg cs => .agg (cs.toList.map cvOneS)
  | v => cvOneS v
theorem cvOneS_av (v : Value) : (cvOneS v).av = cvOne v := by
  unfold cvOneS
  split
  · rename_i b; cases b <;> rfl
  all_goals first | rfl | skip
  rename_i h1 h2 h3 h4 h5 h6 h7
  unfold cvOne
  split <;> first | rfl | skip
  all_goals exfalso
  · exact h1 _ rfl
  · exact h2 _ _ rfl
  · exact h3 _ rfl
  · exact h4 rfl
  · exact h5 rfl
  · exact h6 rfl
  · exact h7 rfl
theorem cvS_av (v : Value) : (cvS v).av = cv v := by
  unfold cvS
  split
  · show AV.agg (avL _) = AV.agg _
    rw [avL_eq, List.map_map]
    congr 1
    exact List.map_congr_left fun v _ => cvOneS_av v
  · rename_i hn
    rw [cvOneS_av]
    unfold cv
    split
    · exact absurd rfl (hn _)
    · rfl

def evS (R : List SV) : Operand → SV
  | .tmp r => nthS R r
  | .const v => cvS v
  | .global g => Glob.sv g
  | .func f => .fn f []
theorem evS_av (s : SSt) (x : Operand) : s.av.view.ev x = (evS s.regs x).av := by
  cases x with
  | tmp r => exact nthS_av _ _
  | const v => exact (cvS_av v).symm
  | global g => exact (Glob.sv_av g).symm
  | func f => rfl

def isFn : Fn → Option Nat
  | .func f => some f
  | _ => none

def isSliceK : AKind → Bool
  | .slice _ => true
  | _ => false
theorem isSliceK_eq {k : AKind} (h : isSliceK k = true) : ∃ e, k = .slice e := by
  cases k <;> simp [isSliceK] at h
  exact ⟨_, rfl⟩
def isEql : BinOp → Bool
  | .eql => true
  | _ => false
theorem isEql_eq {o : BinOp} (h : isEql o = true) : o = .eql := by cases o <;> simp [isEql] at h; rfl
/-- A slice, compared with nil. -/
def xNil (X : List XTy) (op : BinOp) (t : Nat) (x : SV) (k : SV → Tr ρ) : Tr ρ :=
  if isSliceK (nthX X t).kd = true ∧ isEql op = true then (match x with
    | .sl _ xs => k (.ub xs.length)
    | .ow _ _ _ xs => k (.ub xs.length)
    | .emp => k (.ub 0)
    | .sb _ _ => k .ff
    | _ => .fail) else .fail
theorem xNil_ok {X : List XTy} {op : BinOp} {t : Nat} {x : SV} {k : SV → Tr ρ} {r : ρ} {kA : AV → Prop} (h : (xNil X op t x k).run = some r) (hk : ∀ c, (k c).run = some r → kA c.av) : aNil (TX X) op t x.av kA := by
  unfold xNil at h
  replace h := ite_run h
  obtain ⟨⟨h1, h2⟩, h⟩ := h
  obtain ⟨e, h1⟩ := isSliceK_eq h1
  have h2 := isEql_eq h2
  subst h2
  have hk1 : (TX X t).kd = .slice e := h1
  unfold aNil
  split at h
  · have := hk _ h
    simp only [SV.av, hk1, List.length_map] at this ⊢
    exact this
  · have := hk _ h
    simp only [SV.av, hk1, List.length_map] at this ⊢
    exact this
  · have := hk _ h
    simp only [SV.av, hk1] at this ⊢
    exact this
  · have := hk _ h
    simp only [SV.av, hk1] at this ⊢
    exact this
  · cases h

def isIfc : AKind → Bool
  | .ifc => true
  | _ => false
theorem isIfc_eq {k : AKind} (h : isIfc k = true) : k = .ifc := by cases k <;> simp [isIfc] at h; rfl
def isNeq : BinOp → Bool
  | .neq => true
  | _ => false
theorem isNeq_eq {o : BinOp} (h : isNeq o = true) : o = .neq := by cases o <;> simp [isNeq] at h; rfl
def isPtrK : AKind → Bool
  | .ptr _ => true
  | _ => false
theorem isPtrK_eq {k : AKind} (h : isPtrK k = true) : ∃ e, k = .ptr e := by cases k <;> simp [isPtrK] at h; exact ⟨_, rfl⟩
/-- A pointer, compared with nil. -/
def xPtr (X : List XTy) (op : BinOp) (t : Nat) (x : SV) (k : SV → Tr ρ) : Tr ρ :=
  if isPtrK (nthX X t).kd = true then (match x with
    | .nilp => if isEql op = true then k .tt else if isNeq op = true then k .ff else .fail
    | .ptr _ _ => if isEql op = true then k .ff else if isNeq op = true then k .tt else .fail
    | .cp _ => if isEql op = true then k .ff else if isNeq op = true then k .tt else .fail
    | _ => .fail) else .fail
theorem xPtr_ok {X : List XTy} {op : BinOp} {t : Nat} {x : SV} {k : SV → Tr ρ} {r : ρ} {kA : AV → Prop} (h : (xPtr X op t x k).run = some r) (hk : ∀ c, (k c).run = some r → kA c.av) : aPtr (TX X) op t x.av kA := by
  unfold xPtr at h
  replace h := ite_run h
  obtain ⟨h1, h⟩ := h
  obtain ⟨e, h1⟩ := isPtrK_eq h1
  have hk1 : (TX X t).kd = .ptr e := h1
  unfold aPtr
  split at h <;> first | (cases h; done) | skip
  all_goals
    split at h
    · rename_i h2
      have h2 := isEql_eq h2
      subst h2
      have := hk _ h
      simp only [SV.av, hk1, pNil] at this ⊢
      exact this
    · replace h := ite_run h
      obtain ⟨h2, h⟩ := h
      have h2 := isNeq_eq h2
      subst h2
      have := hk _ h
      simp only [SV.av, hk1, pNil] at this ⊢
      exact this
/-- An error, compared with nil. -/
def xErr (X : List XTy) (op : BinOp) (t : Nat) (x : SV) (k : SV → Tr ρ) : Tr ρ :=
  if isIfc (nthX X t).kd = true then (match x with
    | .er b => if isEql op = true then k (.bool b) else if isNeq op = true then k (.bool (!b)) else .fail
    | _ => .fail) else .fail
theorem xErr_ok {X : List XTy} {op : BinOp} {t : Nat} {x : SV} {k : SV → Tr ρ} {r : ρ} {kA : AV → Prop} (h : (xErr X op t x k).run = some r) (hk : ∀ c, (k c).run = some r → kA c.av) : aErr (TX X) op t x.av kA := by
  unfold xErr at h
  replace h := ite_run h
  obtain ⟨h1, h⟩ := h
  have hk1 : (TX X t).kd = .ifc := isIfc_eq h1
  unfold aErr
  split at h
  · rename_i b
    split at h
    · rename_i h2
      have h2 := isEql_eq h2
      subst h2
      have := hk _ h
      simp only [SV.av, hk1] at this ⊢
      exact this
    · replace h := ite_run h
      obtain ⟨h2, h⟩ := h
      have h2 := isNeq_eq h2
      subst h2
      have := hk _ h
      simp only [SV.av, hk1] at this ⊢
      exact this
  · cases h

def xval (X : List XTy) (R : List SV) (op : Op) (k : SV → Tr ρ) : Tr ρ :=
  match op with
  | .move x => k (evS R x)
  | .assign x => k (evS R x)
  | .pick c a b => match evS R c with
    | .tt => k (evS R a)
    | .ff => k (evS R b)
    | .bool t => .br t (k (evS R a)) (k (evS R b))
    | _ => .fail
  | .build t parts => xBuild X t (parts.toList.map fun p => (p.1, evS R p.2)) k
  | .nilCheck x => match evS R x with
    | .cp cs => k (.cp cs)
    | .ptr b o => k (.ptr b o)
    | .fn f cs => k (.fn f cs)
    | _ => .fail
  | .binOp op t x y _ => if nilO y = true then xNil X op t (evS R x) k else if nilI y = true then xErr X op t (evS R x) k else if nilP y = true then xPtr X op t (evS R x) k else xBin X op t (evS R x) (evS R y) k
  | .unOp op _ x => xUn op (evS R x) k
  | .convert src dst x => xConv X src dst (evS R x) k
  | .makeFunc (.func f) first captured => if first.toList.isEmpty = true then k (.fn f (captured.toList.map (evS R))) else .fail
  | .fieldAddr t x f => xFieldAddr X t (evS R x) f k
  | .field t x f => xField X t (evS R x) f k
  | .indexAddr t x i => xIndexAddr X t (evS R x) (evS R i) k
  | .index t x i => xIndex X t (evS R x) (evS R i) k
  | .slice t x lo hi mx => xSlice X t (evS R x) (lo.map (evS R)) (hi.map (evS R)) (mx.map (evS R)) k
  | .extract x i => match evS R x with
    | .tup vs => if i < vs.length then k (nthS vs i) else .fail
    | _ => .fail
  | .call { callee := .builtin b, args := args, argTypes := ts } => xBuiltin X b ts.toList (args.toList.map (evS R)) k
  | _ => .fail

theorem xval_ok {X : List XTy} {s : SSt} {op : Op} {k : SV → Tr ρ} {r : ρ} {kA : AV → Prop} (h : (xval X s.regs op k).run = some r) (hk : ∀ c, (k c).run = some r → kA c.av) : aval (TX X) s.av.view.ev op kA := by
  have ev := evS_av s
  have evf : s.av.view.ev = SV.av ∘ evS s.regs := by funext x; exact ev x
  unfold xval at h
  split at h
  · simp only [aval, ev]; exact hk _ h
  · simp only [aval, ev]; exact hk _ h
  · rename_i c a b
    simp only [aval, ev]
    split at h
    · rename_i q; simp only [q, SV.av]; exact ⟨fun _ => hk _ h, fun e => by cases e⟩
    · rename_i q; simp only [q, SV.av]; exact ⟨fun e => (by cases e), fun _ => hk _ h⟩
    · rename_i t q
      obtain ⟨h1, h2⟩ := run_br h
      simp only [q, SV.av]; exact ⟨fun e => hk _ (h1 e), fun e => hk _ (h2 e)⟩
    · cases h
  · rename_i t parts
    have := xBuild_ok h hk
    simp only [aval]
    rw [List.map_map] at this
    simp only [ev]
    exact this
  · rename_i x
    simp only [aval, ev]
    split at h
    · rename_i cs q; simp only [q, SV.av]; exact hk _ h
    · rename_i b o q; simp only [q, SV.av]; exact hk _ h
    · rename_i f cs q; simp only [q, SV.av]; exact hk _ h
    · cases h
  · simp only [aval, ev]
    split at h
    · rename_i hy; rw [if_pos hy]; exact xNil_ok h hk
    · rename_i hy
      rw [if_neg hy]
      split at h
      · rename_i hy; rw [if_pos hy]; exact xErr_ok h hk
      · rename_i hy
        rw [if_neg hy]
        split at h
        · rename_i hy; rw [if_pos hy]; exact xPtr_ok h hk
        · rename_i hy; rw [if_neg hy]; exact xBin_ok h hk
  · simp only [aval, ev]; exact xUn_ok h hk
  · simp only [aval, ev]; exact xConv_ok h hk
  · rename_i f first captured
    obtain ⟨h0, h⟩ := ite_run h
    simp only [aval]
    refine ⟨?_, ?_⟩
    · cases first with
      | mk l => cases l <;> simp at h0 ⊢
    · have := hk _ h
      simp only [SV.av] at this
      rw [show SV.av.avL _ = _ from avL_eq _, List.map_map, ← evf] at this
      exact this
  · simp only [aval, ev]; exact xFieldAddr_ok h hk
  · simp only [aval, ev]; exact xField_ok h hk
  · simp only [aval, ev]; exact xIndexAddr_ok h hk
  · simp only [aval, ev]; exact xIndex_ok h hk
  · rename_i t x lo hi mx
    have := xSlice_ok h hk
    simp only [Option.map_map, ← evf] at this
    simp only [aval, ev]; exact this
  · rename_i x i
    simp only [aval, ev]
    split at h
    · rename_i vs q
      obtain ⟨h0, h⟩ := ite_run h
      simp only [q, SV.av]; exact ⟨_, nthS_some h0, hk _ h⟩
    · cases h
  · rename_i b args ts
    have := xBuiltin_ok h hk
    rw [List.map_map, ← evf] at this
    simp only [aval]; exact this
  · cases h
end
end Go.Ab
end

section
namespace Go.Ab
open Go Go.RowKit
set_option linter.unusedVariables false
set_option linter.unusedSimpArgs false

/-! ### Effects -/

structure SEff where
  dst : Option Nat
  val : SV
  ws : List (Nat × Nat × SV)
  base : Nat
  news : List (List SV)

def wav (x : Nat × Nat × SV) : Nat × Nat × AV := (x.1, x.2.1, x.2.2.av)
def SEff.av (e : SEff) : Eff := ⟨e.dst, e.val.av, e.ws.map wav, e.base, e.news.map avL⟩

def setSB : List (List SV) → Nat → Nat → SV → List (List SV)
  | [], _, _, _ => []
  | l :: r, 0, j, c => setS l j c :: r
  | l :: r, b + 1, j, c => l :: setSB r b j c
theorem setSB_av : ∀ (H : List (List SV)) (b j : Nat) (c : SV), (setSB H b j c).map avL = setB (H.map avL) b j c.av
  | [], _, _, _ => rfl
  | l :: r, 0, j, c => by simp only [setSB, List.map_cons, setB, setS_av]
  | l :: r, b + 1, j, c => by simp only [setSB, List.map_cons, setB, setSB_av r]
theorem setSB_length : ∀ (H : List (List SV)) (b j : Nat) (c : SV), (setSB H b j c).length = H.length
  | [], _, _, _ => rfl
  | l :: r, 0, j, c => rfl
  | l :: r, b + 1, j, c => by simp [setSB, setSB_length r]
theorem nthSB_set : ∀ (H : List (List SV)) (b j : Nat) (c : SV) (b' : Nat), b ≠ b' → nthSB (setSB H b j c) b' = nthSB H b'
  | [], _, _, _, _, _ => rfl
  | l :: r, 0, j, c, 0, h => absurd rfl h
  | l :: r, 0, j, c, b' + 1, h => rfl
  | l :: r, b + 1, j, c, 0, h => rfl
  | l :: r, b + 1, j, c, b' + 1, h => nthSB_set r b j c b' (fun e => h (by rw [e]))
def wrS : List (Nat × Nat × SV) → List (List SV) → List (List SV)
  | [], H => H
  | x :: r, H => wrS r (setSB H x.1 x.2.1 x.2.2)
theorem wrS_av : ∀ (ws : List (Nat × Nat × SV)) (H : List (List SV)), (wrS ws H).map avL = wrH (ws.map wav) (H.map avL)
  | [], _ => rfl
  | x :: r, H => by simp only [wrS, List.map_cons, wrH, wrS_av r, setSB_av, wav]
theorem wrS_length : ∀ (ws : List (Nat × Nat × SV)) (H : List (List SV)), (wrS ws H).length = H.length
  | [], _ => rfl
  | x :: r, H => by rw [wrS, wrS_length r, setSB_length]
theorem nthSB_wr : ∀ (ws : List (Nat × Nat × SV)) (H : List (List SV)) (b : Nat), (∀ x ∈ ws, x.1 ≠ b) → nthSB (wrS ws H) b = nthSB H b
  | [], _, _, _ => rfl
  | x :: r, H, b, h => by rw [wrS, nthSB_wr r _ b (fun y hy => h y (List.mem_cons_of_mem _ hy)), nthSB_set _ _ _ _ _ (h x (by simp))]
theorem nthSB_app : ∀ (H N : List (List SV)) (b : Nat), b < H.length → nthSB (H ++ N) b = nthSB H b
  | [], _, _, h => by simp at h
  | l :: r, N, 0, _ => rfl
  | l :: r, N, b + 1, h => nthSB_app r N b (by simpa using h)

def setRS : Option Nat → SV → List SV → List SV
  | none, _, l => l
  | some d, v, l => setS l d v
def SSt.app (s : SSt) (e : SEff) : SSt := ⟨setRS e.dst e.val s.regs, wrS e.ws s.heap ++ e.news⟩
theorem app_av (s : SSt) (e : SEff) : (s.app e).av = s.av.apply e.av := by
  simp only [SSt.app, SSt.av, ASt.apply, SEff.av, List.map_append, wrS_av]
  cases e.dst with
  | none => rfl
  | some d => simp only [setRS, setR, setS_av]

section
variable {β : Type 1}
def setBK : List (List SV) → Nat → Nat → SV → (List (List SV) → β) → β
  | [], _, _, _, k => k []
  | l :: r, 0, j, c, k => setK l j c fun l' => k (l' :: r)
  | l :: r, b + 1, j, c, k => setBK r b j c fun r' => k (l :: r')
theorem setBK_eq : ∀ (H : List (List SV)) (b j : Nat) (c : SV) (k : List (List SV) → β), setBK H b j c k = k (setSB H b j c)
  | [], _, _, _, _ => rfl
  | l :: r, 0, j, c, k => by simp only [setBK, setSB, setK_eq]
  | l :: r, b + 1, j, c, k => by simp only [setBK, setSB, setBK_eq r]
def wrK : List (Nat × Nat × SV) → List (List SV) → (List (List SV) → β) → β
  | [], H, k => k H
  | x :: r, H, k => setBK H x.1 x.2.1 x.2.2 fun H' => wrK r H' k
theorem wrK_eq : ∀ (ws : List (Nat × Nat × SV)) (H : List (List SV)) (k : List (List SV) → β), wrK ws H k = k (wrS ws H)
  | [], _, _ => rfl
  | x :: r, H, k => by simp only [wrK, wrS, setBK_eq, wrK_eq r]
def catK : List (List SV) → List (List SV) → (List (List SV) → β) → β
  | [], N, k => k N
  | l :: r, N, k => catK r N fun r' => k (l :: r')
theorem catK_eq : ∀ (H N : List (List SV)) (k : List (List SV) → β), catK H N k = k (H ++ N)
  | [], _, _ => rfl
  | l :: r, N, k => by simp only [catK, catK_eq r, List.cons_append]
def setRK : Option Nat → SV → List SV → (List SV → β) → β
  | none, _, l, k => k l
  | some d, v, l, k => setK l d v k
def SSt.appK (s : SSt) (e : SEff) (k : SSt → β) : β := setRK e.dst e.val s.regs fun R => match e.ws, e.news with
  | [], [] => k ⟨R, s.heap⟩
  | ws, N => wrK ws s.heap fun H => catK H N fun H' => k ⟨R, H'⟩
theorem appK_eq (s : SSt) (e : SEff) (k : SSt → β) : s.appK e k = k (s.app e) := by
  cases s with
  | mk R H =>
  cases e with
  | mk dst val ws base news =>
  have h1 : ∀ k' : List SV → β, setRK dst val R k' = k' (setRS dst val R) := fun k' => by
    cases dst with
    | none => rfl
    | some d => exact setK_eq _ _ _ _
  simp only [SSt.appK, h1, SSt.app]
  cases ws with
  | nil =>
    cases news with
    | nil => simp [wrS]
    | cons => simp only [wrK, catK_eq, wrS]
  | cons => simp only [wrK_eq, catK_eq]
end

/-! ### Memory -/

def allS (p : AV → Bool) : List SV → Bool
  | [] => true
  | c :: r => p c.av && allS p r
theorem allS_av (p : AV → Bool) : ∀ l : List SV, allB p (avL l) = allS p l
  | [] => rfl
  | c :: r => by
    show (p c.av && allB p (avL r)) = (p c.av && allS p r)
    rw [allS_av p r]
def rdS (l : List SV) : Nat → Nat → List SV
  | _, 0 => []
  | o, n + 1 => nthS l o :: rdS l (o + 1) n
theorem rdS_av (l : List SV) (f : Nat → AV) (h : ∀ j, f j = (nthS l j).av) : ∀ (n o : Nat), rdc f o n = avL (rdS l o n)
  | 0, _ => rfl
  | n + 1, o => by
    show f o :: rdc f (o + 1) n = (nthS l o).av :: avL (rdS l (o + 1) n)
    rw [rdS_av l f h n, h]
def writesS (b : Nat) : Nat → List SV → List (Nat × Nat × SV)
  | _, [] => []
  | o, c :: r => (b, o, c) :: writesS b (o + 1) r
theorem writesS_av (b : Nat) : ∀ (l : List SV) (o : Nat), (writesS b o l).map wav = writes b o (avL l)
  | [], _ => rfl
  | c :: r, o => by
    show (b, o, c.av) :: (writesS b (o + 1) r).map wav = (b, o, c.av) :: writes b (o + 1) (avL r)
    rw [writesS_av b r]
theorem cell_av (s : SSt) (b j : Nat) : s.av.view.cell b j = (nthS (nthSB s.heap b) j).av := by
  show nth (nthB (s.heap.map avL) b) j = _
  rw [nthSB_av, nthS_av]
theorem heap_len (s : SSt) : s.av.heap.length = s.heap.length := by simp [SSt.av]

def oneS : (τ : Ty) → τ.T → SV
  | .int k, n => .int k n
  | .bool, b => .bool b
  | .str, l => .str l
  | .list a, xs => .sl a xs
  | _, _ => .non
theorem oneS_av : ∀ (τ : Ty) (x : τ.T), (oneS τ x).av = oneA τ x
  | .int _, _ => rfl
  | .bool, _ => rfl
  | .str, _ => rfl
  | .list _, _ => rfl
  | .unit, _ => rfl
  | .pair _ _, _ => rfl

def isOneK : Ty → Bool
  | .int _ | .bool | .str | .list _ => true
  | _ => false
theorem enc_one {τ : Ty} (h : isOneK τ = true) (x : τ.T) : τ.enc x = [oneA τ x] := by cases τ <;> first | rfl | cases h
theorem row_gi {τ : Ty} {xs : List τ.T} {i : Int} : ∀ row', (xs.map τ.enc)[i.toNat]? = some row' → row' = τ.enc (gi xs i) := by
  intro row' h
  rw [List.getElem?_map] at h
  cases q : xs[i.toNat]? with
  | none => rw [q] at h; cases h
  | some x =>
    rw [q] at h
    injection h with h
    subst h
    simp [gi, List.getD, q]

section
variable {ρ : Type}

def xLoad (X : List XTy) (dst : Option Nat) (t : Nat) (H : List (List SV)) (x : SV) (k : SEff → List (Nat × Nat) → Tr ρ) : Tr ρ :=
  if (nthX X t).kd.isOther = false then (match x with
    | .cp cells => if (nthX X t).kd.isAgg = true then (if (nthX X t).size ≤ cells.length then k ⟨dst, .agg (cells.take (nthX X t).size), [], H.length, []⟩ [] else .fail) else (match cells with
      | c :: _ => k ⟨dst, c, [], H.length, []⟩ []
      | [] => .fail)
    | .ptr b off => if (nthX X t).kd.isAgg = true then (if allS AV.plain (rdS (nthSB H b) off (nthX X t).size) = true then k ⟨dst, .agg (rdS (nthSB H b) off (nthX X t).size), [], H.length, []⟩ (ks b off (nthX X t).size) else .fail)
        else if (nthS (nthSB H b) off).av.plain = true then k ⟨dst, nthS (nthSB H b) off, [], H.length, []⟩ [(b, off)] else .fail
    | .ep b s i => match nthS (nthSB H b) 0 with
      | .arr τ xs => if τ.size = s then (if (nthX X t).kd.isAgg = true then (if (nthX X t).size = s then k ⟨dst, .agg (τ.svs (gi xs i)), [], H.length, []⟩ [(b, 0)] else .fail)
          else if isOneK τ = true then k ⟨dst, oneS τ (gi xs i), [], H.length, []⟩ [(b, 0)] else match τ.svs (gi xs i) with
            | c :: _ => k ⟨dst, c, [], H.length, []⟩ [(b, 0)]
            | [] => .fail) else .fail
      | _ => .fail
    | _ => .fail) else .fail

theorem xLoad_ok {X : List XTy} {dst : Option Nat} {t : Nat} {s : SSt} {x : SV} {k : SEff → List (Nat × Nat) → Tr ρ} {r : ρ} {kA : Eff → List (Nat × Nat) → Prop} (h : (xLoad X dst t s.heap x k).run = some r)
    (hk : ∀ e rd, (k e rd).run = some r → kA e.av rd) : aLoad (TX X) dst t s.av.view x.av s.heap.length kA := by
  replace h := ite_run h; obtain ⟨h0, h⟩ := h
  unfold aLoad
  refine ⟨h0, ?_⟩
  split at h
  · rename_i cells
    simp only [SV.av]
    split at h
    · rename_i hag
      replace h := ite_run h; obtain ⟨h1, h⟩ := h
      have := hk _ _ h
      rw [if_pos (show (TX X t).kd.isAgg = true from hag)]
      refine ⟨by rw [show SV.av.avL cells = avL cells from rfl, avL_length]; exact h1, ?_⟩
      simp only [SEff.av, SV.av, List.map_nil] at this
      rw [show SV.av.avL (List.take _ cells) = _ from avL_take _ _] at this
      exact this
    · rename_i hag
      rw [if_neg (show ¬ (TX X t).kd.isAgg = true from hag)]
      split at h
      · exact ⟨_, rfl, hk _ _ h⟩
      · cases h
  · rename_i b off
    simp only [SV.av]
    have hrd : rdc (s.av.view.cell b) off (TX X t).size = avL (rdS (nthSB s.heap b) off (nthX X t).size) := rdS_av _ _ (fun j => cell_av s b j) _ _
    rw [hrd, cell_av]
    split at h
    · rename_i hag
      replace h := ite_run h; obtain ⟨h1, h⟩ := h
      rw [if_pos (show (TX X t).kd.isAgg = true from hag)]
      refine ⟨by rw [allS_av]; exact h1, hk _ _ h⟩
    · rename_i hag
      replace h := ite_run h; obtain ⟨h1, h⟩ := h
      rw [if_neg (show ¬ (TX X t).kd.isAgg = true from hag)]
      exact ⟨h1, hk _ _ h⟩
  · rename_i b sz i
    simp only [SV.av]
    rw [cell_av]
    split at h
    · rename_i τ xs q
      rw [q]
      replace h := ite_run h; obtain ⟨h1, h⟩ := h
      refine ⟨h1, τ.enc (gi xs i), row_gi, ?_⟩
      split at h
      · rename_i hag
        rw [if_pos (show (TX X t).kd.isAgg = true from hag)]
        replace h := ite_run h; obtain ⟨h2, h⟩ := h
        have := hk _ _ h
        simp only [SEff.av, SV.av, List.map_nil] at this
        rw [show SV.av.avL _ = _ from τ.svs_av _] at this
        exact ⟨h2, this⟩
      · rename_i hag
        rw [if_neg (show ¬ (TX X t).kd.isAgg = true from hag)]
        split at h
        · rename_i h3
          have := hk _ _ h
          simp only [SEff.av, oneS_av, List.map_nil] at this
          exact ⟨_, by rw [enc_one h3]; rfl, this⟩
        · split at h
          · rename_i c l q
            have hq := τ.svs_av (gi xs i)
            rw [q] at hq
            exact ⟨c.av, by rw [← hq]; rfl, hk _ _ h⟩
          · cases h
    · cases h
  · cases h

end

/-! ### Rows -/

/-- A cell of a row, without loss. -/
def exOne : (τ : Ty) → SV → Option τ.T
  | .int k, v => match asI v with
    | some (k', n) => if k' = k then some n else none
    | none => none
  | .bool, v => asB v
  | .str, .str l => some l
  | .list a, .sl τ xs => if h : τ = a then some (h ▸ xs) else none
  | .list a, .ow _ _ τ xs => if h : τ = a then some (h ▸ xs) else none
  | _, _ => none
theorem exOne_av : ∀ {τ : Ty} {v : SV} {x : τ.T}, exOne τ v = some x → v.av.flat = true ∧ v.av.low = oneA τ x ∧ τ.enc x = [oneA τ x]
  | .int k, v, x, h => by
    simp only [exOne] at h
    split at h
    · rename_i k' n q
      split at h
      · rename_i e; injection h with h; subst h; subst e; rw [asI_av q]; exact ⟨rfl, rfl, rfl⟩
      · cases h
    · cases h
  | .bool, v, x, h => by
    have := asB_av h
    rw [this]; exact ⟨rfl, rfl, rfl⟩
  | .str, v, x, h => by
    cases v <;> simp [exOne] at h
    subst h; exact ⟨rfl, rfl, rfl⟩
  | .list a, v, x, h => by
    cases v <;> simp only [exOne] at h <;> first | (cases h; done) | skip
    all_goals
      split at h
      · rename_i e; subst e; injection h with h; subst h; exact ⟨rfl, rfl, rfl⟩
      · cases h
  | .unit, v, x, h => by cases v <;> cases h
  | .pair _ _, v, x, h => by cases v <;> cases h

def wl {α : Type} {β : Type} (o : Option α) (l : β) : Option (α × β) := match o with
  | some x => some (x, l)
  | none => none
def exCells : (τ : Ty) → List SV → Option (τ.T × List SV)
  | .unit, l => some ((), l)
  | .pair a b, l => match exCells a l with
    | some (x, l') => match exCells b l' with
      | some (y, l'') => some ((x, y), l'')
      | none => none
    | none => none
  | .int k, v :: l => wl (exOne (.int k) v) l
  | .bool, v :: l => wl (exOne .bool v) l
  | .str, v :: l => wl (exOne .str v) l
  | .list a, v :: l => wl (exOne (.list a) v) l
  | _, _ => none

theorem exCells_one {τ : Ty} {v : SV} {l l' : List SV} {x : τ.T} (h : wl (exOne τ v) l = some (x, l')) : ∃ p, (v :: l) = p ++ l' ∧ allB AV.flat (avL p) = true ∧ (avL p).map AV.low = τ.enc x := by
  cases q : exOne τ v with
  | none => rw [q] at h; cases h
  | some y =>
    rw [q] at h
    injection h with h
    injection h with h1 h2
    subst h1; subst h2
    obtain ⟨w1, w2, w3⟩ := exOne_av q
    exact ⟨[v], rfl, by simp [avL_eq, allB, w1], by simp [avL_eq, w2, w3]⟩

theorem allB_append (p : AV → Bool) : ∀ a b : List AV, allB p (a ++ b) = (allB p a && allB p b)
  | [], b => by simp [allB]
  | c :: r, b => by simp only [List.cons_append, allB, allB_append p r b, Bool.and_assoc]
theorem avL_app (a b : List SV) : avL (a ++ b) = avL a ++ avL b := by simp only [avL_eq, List.map_append]

theorem exCells_av : ∀ {τ : Ty} {l l' : List SV} {x : τ.T}, exCells τ l = some (x, l') → ∃ p, l = p ++ l' ∧ allB AV.flat (avL p) = true ∧ (avL p).map AV.low = τ.enc x
  | .unit, l, l', x, h => by
    simp only [exCells, Option.some.injEq, Prod.mk.injEq] at h
    exact ⟨[], by simp [h.2], rfl, rfl⟩
  | .pair a b, l, l', x, h => by
    simp only [exCells] at h
    split at h
    · rename_i y l1 q1
      split at h
      · rename_i z l2 q2
        injection h with h
        injection h with h1 h2
        subst h1; subst h2
        obtain ⟨p1, w1, w2, w3⟩ := exCells_av q1
        obtain ⟨p2, v1, v2, v3⟩ := exCells_av q2
        refine ⟨p1 ++ p2, by rw [w1, v1, List.append_assoc], ?_, ?_⟩
        · rw [avL_app, allB_append, w2, v2]; rfl
        · rw [avL_app, List.map_append, w3, v3]; rfl
      · cases h
    · cases h
  | .int k, [], l', x, h => by cases h
  | .int k, v :: l, l', x, h => by simp only [exCells] at h; exact exCells_one h
  | .bool, [], l', x, h => by cases h
  | .bool, v :: l, l', x, h => by simp only [exCells] at h; exact exCells_one h
  | .str, [], l', x, h => by cases h
  | .str, v :: l, l', x, h => by simp only [exCells] at h; exact exCells_one h
  | .list a, [], l', x, h => by cases h
  | .list a, v :: l, l', x, h => by simp only [exCells] at h; exact exCells_one h

def exRow (τ : Ty) (l : List SV) : Option τ.T := match exCells τ l with
  | some (x, []) => some x
  | _ => none
theorem exRow_av {τ : Ty} {l : List SV} {x : τ.T} (h : exRow τ l = some x) : allB AV.flat (avL l) = true ∧ (avL l).map AV.low = τ.enc x ∧ l.length = τ.size := by
  unfold exRow at h
  split at h
  · rename_i y q
    injection h with h
    subst h
    obtain ⟨p, w1, w2, w3⟩ := exCells_av q
    rw [List.append_nil] at w1
    subst w1
    refine ⟨w2, w3, ?_⟩
    have := congrArg List.length w3
    rw [List.length_map, avL_length, Ty.enc_length] at this
    exact this
  · cases h

/-- A cell of a value, turned. -/
def setC : (τ : Ty) → Nat → τ.T → SV → Option τ.T
  | .pair a b, o, x, c => if o < a.size then (match setC a o x.1 c with
    | some y => some (y, x.2)
    | none => none) else (match setC b (o - a.size) x.2 c with
    | some y => some (x.1, y)
    | none => none)
  | .int k, o, _, c => if o = 0 then exRow (.int k) [c] else none
  | .bool, o, _, c => if o = 0 then exRow .bool [c] else none
  | _, _, _, _ => none
theorem setC_leaf {τ : Ty} (h1 : τ.size = 1) {o : Nat} {x y : τ.T} {c : SV} (h : (if o = 0 then exRow τ [c] else none) = some y) : c.av.flat = true ∧ o < τ.size ∧ τ.enc y = (τ.enc x).set o c.av.low := by
  replace h := Option.ite_none_right_eq_some.1 h
  obtain ⟨rfl, h⟩ := h
  obtain ⟨w1, w2, w3⟩ := exRow_av h
  refine ⟨allB_mem w1 _ (by simp [avL_eq]), by omega, ?_⟩
  rw [← w2]
  have hl : (τ.enc x).length = 1 := by rw [Ty.enc_length, h1]
  match hq : τ.enc x with
  | [] => rw [hq] at hl; cases hl
  | [d] => simp [avL_eq]
  | _ :: _ :: _ => rw [hq] at hl; simp at hl
theorem setC_av : ∀ {τ : Ty} {o : Nat} {x y : τ.T} {c : SV}, setC τ o x c = some y → c.av.flat = true ∧ o < τ.size ∧ τ.enc y = (τ.enc x).set o c.av.low
  | .pair a b, o, x, y, c, h => by
    simp only [setC] at h
    split at h
    · rename_i ho
      split at h
      · rename_i y' q
        injection h with h
        subst h
        obtain ⟨h1, h2, h3⟩ := setC_av q
        refine ⟨h1, by simp only [Ty.size]; omega, ?_⟩
        simp only [Ty.enc]
        rw [h3, List.set_append, if_pos (by rw [Ty.enc_length]; exact ho)]
      · cases h
    · rename_i ho
      split at h
      · rename_i y' q
        injection h with h
        subst h
        obtain ⟨h1, h2, h3⟩ := setC_av q
        refine ⟨h1, by simp only [Ty.size]; omega, ?_⟩
        simp only [Ty.enc]
        rw [h3, List.set_append, if_neg (by rw [Ty.enc_length]; exact ho), Ty.enc_length]
      · cases h
  | .int k, o, x, y, c, h => setC_leaf (τ := .int k) (x := x) rfl h
  | .bool, o, x, y, c, h => setC_leaf (τ := .bool) (x := x) rfl h
  | .str, _, _, _, _, h => by cases h
  | .unit, _, _, _, _, h => by cases h
  | .list _, _, _, _, _, h => by cases h

section
variable {ρ : Type}
def xStore (X : List XTy) (dst : Option Nat) (t : Nat) (H : List (List SV)) (x v : SV) (k : SEff → List (Nat × Nat) → Tr ρ) : Tr ρ :=
  match x with
  | .ptr b off => if (nthX X t).kd.isOther = false ∧ v.av.known = true ∧ v.cells.length = (nthX X t).size ∧ allS AV.one v.cells = true ∧ allS AV.plain (rdS (nthSB H b) off v.cells.length) = true then
      k ⟨dst, .und, writesS b off v.cells, H.length, []⟩ (ks b off v.cells.length) else .fail
  | .ep b s i => if (nthX X t).kd.isOther = false ∧ v.av.known = true ∧ (nthX X t).size = s then (match nthS (nthSB H b) 0 with
    | .arr τ xs => if τ.size = s then (match exRow τ v.cells with
      | some x => k ⟨dst, .und, [(b, 0, .arr τ (xs.set i.toNat x))], H.length, []⟩ [(b, 0)]
      | none => .fail) else .fail
    | _ => .fail) else .fail
  | .ef b s i o => if (nthX X t).kd.isOther = false ∧ v.av.known = true ∧ (nthX X t).size = 1 then (match nthS (nthSB H b) 0 with
    | .aw e τ xs => if τ.size = s then (match v.cells with
      | [c] => (match setC τ o (gi xs i) c with
        | some x => k ⟨dst, .und, [(b, 0, .aw e τ (xs.set i.toNat x))], H.length, []⟩ [(b, 0)]
        | none => .fail)
      | _ => .fail) else .fail
    | _ => .fail) else .fail
  | _ => .fail
theorem xStore_ok {X : List XTy} {dst : Option Nat} {t : Nat} {s : SSt} {x v : SV} {k : SEff → List (Nat × Nat) → Tr ρ} {r : ρ} {kA : Eff → List (Nat × Nat) → Prop} (h : (xStore X dst t s.heap x v k).run = some r)
    (hk : ∀ e rd, (k e rd).run = some r → kA e.av rd) : aStore (TX X) dst t s.av.view x.av v.av s.heap.length kA := by
  unfold xStore at h
  split at h
  · rename_i b off
    replace h := ite_run h; obtain ⟨⟨h0, h1, h2, h3, h4⟩, h⟩ := h
    have hrd : ∀ n, rdc (s.av.view.cell b) off n = avL (rdS (nthSB s.heap b) off n) := fun n => rdS_av _ _ (fun j => cell_av s b j) _ _
    have := hk _ _ h
    simp only [SEff.av, writesS_av, List.map_nil] at this
    refine ⟨h0, ?_⟩
    simp only [SV.av]
    refine ⟨h1, ?_, ?_, ?_, ?_⟩
    · rw [SV.cells_av, avL_length]; exact h2
    · rw [SV.cells_av, allS_av]; exact h3
    · rw [SV.cells_av, avL_length, hrd, allS_av]; exact h4
    · rw [SV.cells_av, avL_length]; exact this
  · rename_i b sz i
    replace h := ite_run h; obtain ⟨⟨h0, h1, h2⟩, h⟩ := h
    refine ⟨h0, ?_⟩
    simp only [SV.av]
    rw [cell_av]
    split at h
    · rename_i τ xs q
      rw [q]
      replace h := ite_run h; obtain ⟨h3, h⟩ := h
      split at h
      · rename_i x qx
        obtain ⟨w1, w2, w3⟩ := exRow_av qx
        have := hk _ _ h
        simp only [SEff.av, SV.av, List.map_nil, List.map_cons, wav, List.map_set] at this
        refine ⟨h1, ?_, h2, ?_, h3, ?_⟩
        · rw [SV.cells_av, avL_length, w3, h3, ← h2]; rfl
        · rw [SV.cells_av]; exact w1
        · rw [SV.cells_av, w2]
          rw [h3] at this
          exact this
      · cases h
    · cases h
  · rename_i b sz i o
    replace h := ite_run h; obtain ⟨⟨h0, h1, h2⟩, h⟩ := h
    refine ⟨h0, ?_⟩
    simp only [SV.av]
    rw [cell_av]
    split at h
    · rename_i e τ xs q
      rw [q]
      replace h := ite_run h; obtain ⟨h3, h⟩ := h
      split at h
      · rename_i c qc
        split at h
        · rename_i x qx
          obtain ⟨w1, w2, w3⟩ := setC_av qx
          have := hk _ _ h
          simp only [SEff.av, SV.av, List.map_nil, List.map_cons, wav, List.map_set, w3, h3] at this
          exact ⟨h1, h2, by omega, c.av, by rw [SV.cells_av, qc]; rfl, w1, h3, _, row_gi, this⟩
        · cases h
      · cases h
    · cases h
  · cases h

end

section
variable {ρ : Type}
def rowsS (τ : Ty) : Nat → List (Nat × SV) → Option (List τ.T)
  | _, [] => some []
  | i, p :: r => if p.1 = i ∧ p.2.av.known = true then (match exRow τ p.2.cells, rowsS τ (i + 1) r with
    | some x, some xs => some (x :: xs)
    | _, _ => none) else none
theorem rowsS_av {τ : Ty} {size : Nat} (hs : τ.size = size) : ∀ (ps : List (Nat × SV)) (i : Nat) (xs : List τ.T), rowsS τ i ps = some xs →
    allP size i (ps.map fun p => (p.1, p.2.av)) = true ∧ (ps.map fun p => (p.1, p.2.av)).map (fun p => p.2.cells.map AV.low) = xs.map τ.enc ∧ xs.length = ps.length
  | [], i, xs, h => by injection h with h; subst h; exact ⟨rfl, rfl, rfl⟩
  | p :: r, i, xs, h => by
    simp only [rowsS] at h
    split at h
    · rename_i hc
      split at h
      · rename_i x ys q1 q2
        injection h with h
        subst h
        obtain ⟨w1, w2, w3⟩ := rowsS_av hs r (i + 1) ys q2
        obtain ⟨v1, v2, v3⟩ := exRow_av q1
        refine ⟨?_, ?_, by simp [w3]⟩
        · simp only [List.map_cons, allP, w1, SV.cells_av, v1, hc.2, avL_length, v3, hs, hc.1]; simp
        · simp only [List.map_cons, SV.cells_av, v2]; rw [w2]
      · cases h
    · cases h

def xBuildSlice (X : List XTy) (dst : Option Nat) (t len : Nat) (ps : List (Nat × SV)) (base : Nat) (k : SEff → List (Nat × Nat) → Tr ρ) : Tr ρ :=
  match (nthX X t).kd with
  | .slice e => if (nthX X e).kd.isOther = false ∧ 0 < (nthX X e).size ∧ (nthX X e).code.size = (nthX X e).size then
      (if len = 0 then (if ps.length = 0 then k ⟨dst, .emp, [], base, []⟩ [] else .fail)
      else if len * (nthX X e).size ≤ 1024 ∧ ps.length = len then (match rowsS (nthX X e).code 0 ps with
        | some xs => k ⟨dst, .ow base e (nthX X e).code xs, [], base, [[.tok len]]⟩ []
        | none => .fail) else .fail) else .fail
  | _ => .fail
theorem xBuildSlice_ok {X : List XTy} {dst : Option Nat} {t len base : Nat} {ps : List (Nat × SV)} {k : SEff → List (Nat × Nat) → Tr ρ} {r : ρ} {kA : Eff → List (Nat × Nat) → Prop} (h : (xBuildSlice X dst t len ps base k).run = some r)
    (hk : ∀ e rd, (k e rd).run = some r → kA e.av rd) : aBuildSlice (TX X) dst t len (ps.map fun p => (p.1, p.2.av)) base kA := by
  unfold xBuildSlice at h
  split at h
  · rename_i e hkd
    replace h := ite_run h; obtain ⟨⟨h0, h1, h2⟩, h⟩ := h
    unfold aBuildSlice
    rw [TX_kd, hkd]
    refine ⟨h0, h1, ?_⟩
    split at h
    · rename_i hl
      replace h := ite_run h; obtain ⟨h3, h⟩ := h
      rw [if_pos hl]
      exact ⟨by rw [List.length_map]; exact h3, hk _ _ h⟩
    · rename_i hl
      replace h := ite_run h; obtain ⟨h3, h⟩ := h
      rw [if_neg hl]
      split at h
      · rename_i xs q
        obtain ⟨w1, w2, w3⟩ := rowsS_av h2 _ _ _ q
        refine ⟨h3.1, by rw [List.length_map]; exact h3.2, w1, ?_⟩
        have := hk _ _ h
        simp only [SEff.av, SV.av, List.map_nil, List.map_cons] at this
        rw [h2] at this
        rw [w2]
        exact this
      · cases h
  · cases h

def srcS (τ : Ty) : SV → Option (List τ.T)
  | .sl τ' xs => if h : τ' = τ then some (h ▸ xs) else none
  | .ow _ _ τ' xs => if h : τ' = τ then some (h ▸ xs) else none
  | .emp => some []
  | _ => none
theorem srcS_av {τ : Ty} {v : SV} {xs : List τ.T} (h : srcS τ v = some xs) : srcOf τ.size v.av = some (xs.map τ.enc) := by
  cases v <;> simp only [srcS] at h <;> first | (cases h; done) | skip
  case emp => injection h with h; subst h; rfl
  all_goals
    split at h
    · rename_i e; subst e; injection h with h; subst h; simp [SV.av, srcOf]
    · cases h
theorem full_enc (τ : Ty) (xs : List τ.T) : Full τ.size (xs.map τ.enc) := by
  intro row hr
  obtain ⟨x, _, rfl⟩ := List.mem_map.1 hr
  exact τ.enc_length x

/-- A slice's type that is so marked: an append onto nothing makes a row that is all its block. -/
def awB : List (Nat × Nat × Ty) → Bool
  | o :: _ => decide (o.1 = 1000000)
  | [] => false
def xAppend (X : List XTy) (rw : Bool) (dst : Option Nat) (t t' : Nat) (H : List (List SV)) (x y : SV) (k : SEff → List (Nat × Nat) → Tr ρ) : Tr ρ :=
  match (nthX X t).kd with
  | .slice e => if t' = t ∧ (nthX X e).kd.isOther = false ∧ 0 < (nthX X e).size ∧ (nthX X e).code.size = (nthX X e).size then
      (match srcS (nthX X e).code y with
      | some ys => match x with
        | .emp => .req (okApp ys.length (nthX X e).bytes) (if awB (nthX X t).own = true then .req (decide (0 < ys.length)) (k ⟨dst, .sb H.length ys.length, [], H.length, [[.aw e (nthX X e).code ys]]⟩ []) else match rw with
          | true => .req (decide (0 < ys.length)) (k ⟨dst, .sb H.length ys.length, [], H.length, [[.arr (nthX X e).code ys]]⟩ [])
          | false => k ⟨dst, .ow H.length e (nthX X e).code ys, [], H.length, [[.tok ys.length]]⟩ [])
        | .ow b e' τ xs => if h : τ = (nthX X e).code then (if e' = e then (match nthS (nthSB H b) 0 with
          | .tok n => .req (decide (n = xs.length)) (.req (okApp (xs.length + ys.length) (nthX X e).bytes) (k ⟨dst, .ow b e (nthX X e).code ((h ▸ xs) ++ ys), [(b, 0, .tok (xs.length + ys.length))], H.length, []⟩ [(b, 0)]))
          | _ => .fail) else .fail) else .fail
        | _ => .fail
      | none => .fail) else .fail
  | _ => .fail
theorem xAppend_ok {X : List XTy} {rw : Bool} {dst : Option Nat} {t t' : Nat} {s : SSt} {x y : SV} {k : SEff → List (Nat × Nat) → Tr ρ} {r : ρ} {kA : Eff → List (Nat × Nat) → Prop} (h : (xAppend X rw dst t t' s.heap x y k).run = some r)
    (hk : ∀ e rd, (k e rd).run = some r → kA e.av rd) : aAppend (TX X) dst t t' s.av.view x.av y.av s.heap.length kA := by
  unfold xAppend at h
  split at h
  · rename_i e hkd
    replace h := ite_run h; obtain ⟨⟨h0, h1, h2, h3⟩, h⟩ := h
    split at h
    · rename_i ys q
      have q' := srcS_av q
      have hf := full_enc _ ys
      rw [h3] at q' hf
      unfold aAppend
      refine ⟨h0, ?_⟩
      rw [TX_kd, hkd]
      split at h
      · replace h := run_req h; obtain ⟨h4, h⟩ := h
        obtain ⟨h5, h6⟩ := of_decide_eq_true h4
        refine ⟨h1, h2, _, q', hf, by rw [List.length_map]; exact h5, by rw [List.length_map]; exact h6, ?_⟩
        rw [List.length_map]
        split at h
        · replace h := run_req h; obtain ⟨h7, h⟩ := h
          have := hk _ _ h
          simp only [SEff.av, SV.av, List.map_nil, List.map_cons, h3] at this
          refine .inr ⟨of_decide_eq_true h7, .inr ?_⟩
          rw [show avL [SV.aw e (nthX X e).code ys] = [AV.aw e (nthX X e).size (ys.map (nthX X e).code.enc)] by rw [avL_eq]; simp [SV.av, h3]] at this
          exact this
        split at h
        · replace h := run_req h; obtain ⟨h7, h⟩ := h
          have := hk _ _ h
          simp only [SEff.av, SV.av, List.map_nil, List.map_cons, h3] at this
          refine .inr ⟨of_decide_eq_true h7, .inl ?_⟩
          rw [show avL [SV.arr (nthX X e).code ys] = [AV.arr (nthX X e).size (ys.map (nthX X e).code.enc)] by rw [avL_eq]; simp [SV.av, h3]] at this
          exact this
        · have := hk _ _ h
          simp only [SEff.av, SV.av, List.map_nil, List.map_cons, h3] at this
          exact .inl this
      · rename_i b e' τ xs
        split at h
        · rename_i hτ
          replace h := ite_run h; obtain ⟨h7, h⟩ := h
          split at h
          · rename_i n qn
            replace h := run_req h; obtain ⟨h8, h⟩ := h
            replace h := run_req h; obtain ⟨h4, h⟩ := h
            obtain ⟨h5, h6⟩ := of_decide_eq_true h4
            have h8 := of_decide_eq_true h8
            have := hk _ _ h
            subst hτ
            have hfx := full_enc _ xs
            rw [h3] at hfx
            simp only [SEff.av, SV.av, List.map_nil, List.map_cons, wav, h3] at this
            simp only [SV.av]
            refine ⟨h1, h2, h7, h3, ?_, _, q', ?_, hf, by simp only [List.length_map]; exact h5, by simp only [List.length_map]; exact h6, ?_⟩
            · rw [cell_av, qn, List.length_map, h8]; rfl
            · exact hfx
            · rw [List.length_map, List.length_map, ← List.map_append]
              exact this
          · cases h
        · cases h
      · cases h
    · cases h
  · cases h

/-! ### Maps -/

def mget (τ : Ty) (m : List (List UInt8 × τ.T)) (l : List UInt8) (z : τ.T) : τ.T := (m.lookup l).getD z

def z0 (τ : Ty) : List SV → Option τ.T
  | [z] => match exOne τ z with
    | some x => if z.av.flat = true then some x else none
    | none => none
  | _ => none

def isPlainK : Ty → Bool
  | .int _ | .bool | .str => true
  | _ => false
theorem exOne_plain {τ : Ty} {v : SV} {x : τ.T} (hp : isPlainK τ = true) (h : exOne τ v = some x) : v.av = oneA τ x := by
  cases τ <;> simp [isPlainK] at hp
  · simp only [exOne] at h
    split at h
    · rename_i k' n q
      split at h
      · rename_i e; injection h with h; subst h; subst e; exact asI_av q
      · cases h
    · cases h
  · exact asB_av h
  · cases v <;> simp [exOne] at h
    subst h; rfl

/-! ### make -/

theorem z0_av {τ : Ty} {l : List SV} {x : τ.T} (hp : isPlainK τ = true) (h : z0 τ l = some x) : avL l = τ.enc x := by
  unfold z0 at h
  split at h
  · rename_i zz
    split at h
    · rename_i y qx
      split at h
      · injection h with h
        subst h
        have e := exOne_plain hp qx
        obtain ⟨_, _, w3⟩ := exOne_av qx
        rw [w3, ← e]; rfl
      · cases h
    · cases h
  · cases h

def xMake (X : List XTy) (dst : Option Nat) (t : Nat) (l c : SV) (base : Nat) (k : SEff → List (Nat × Nat) → Tr ρ) : Tr ρ :=
  match (nthX X t).kd with
  | .slice e => if (nthX X e).kd.isOther = false ∧ isPlainK (nthX X e).code = true ∧ (nthX X e).code.size = (nthX X e).size then (match asI l, asI c, z0 (nthX X e).code (nthX X e).zero with
    | some (_, n), some (_, n'), some z => .req (okMk n n' (nthX X e).bytes) (k ⟨dst, .sb base n.toNat, [], base, [[.arr (nthX X e).code (List.replicate n.toNat z)]]⟩ [])
    | _, _, _ => .fail) else .fail
  | _ => .fail
theorem xMake_ok {X : List XTy} {dst : Option Nat} {t base : Nat} {l c : SV} {k : SEff → List (Nat × Nat) → Tr ρ} {r : ρ} {kA : Eff → List (Nat × Nat) → Prop} (h : (xMake X dst t l c base k).run = some r)
    (hk : ∀ e rd, (k e rd).run = some r → kA e.av rd) : aMake (TX X) dst t l.av c.av base kA := by
  unfold xMake at h
  split at h
  · rename_i e hkd
    replace h := ite_run h; obtain ⟨⟨h0, h1, h2⟩, h⟩ := h
    split at h
    · rename_i kn n kn' n' z q1 q2 q3
      replace h := run_req h; obtain ⟨h3, h⟩ := h
      obtain ⟨rfl, w1, w2, w3⟩ := of_decide_eq_true h3
      unfold aMake
      rw [TX_kd, hkd, asI_av q1, asI_av q2]
      refine ⟨h0, rfl, w1, w2, w3, ?_⟩
      have := hk _ _ h
      simp only [SEff.av, SV.av, List.map_nil, List.map_cons, List.map_replicate] at this
      have e0 : avL [SV.arr (nthX X e).code (List.replicate n'.toNat z)] = [AV.arr (nthX X e).code.size (List.replicate n'.toNat ((nthX X e).code.enc z))] := by rw [avL_eq]; simp [SV.av]
      rw [e0] at this
      rw [TX_size, TX_zero, z0_av h1 q3, ← h2]
      exact this
    · cases h
  · cases h

def xLookup (X : List XTy) (dst : Option Nat) (t : Nat) (H : List (List SV)) (m key : SV) (k : SEff → List (Nat × Nat) → Tr ρ) : Tr ρ :=
  match (nthX X t).kd with
  | .map kt et => if isStrK (nthX X kt).kd = true ∧ (nthX X et).kd.isOther = false ∧ (nthX X et).kd.isAgg = false ∧ isPlainK (nthX X et).code = true then (match m with
    | .mp b => match key with
      | .str l => match nthS (nthSB H b) 0 with
        | .mpl τ es => if h : τ = (nthX X et).code then (match z0 (nthX X et).code (nthX X et).zero with
          | some z => k ⟨dst, oneS (nthX X et).code (mget (nthX X et).code (h ▸ es) l z), [], H.length, []⟩ [(b, 0)]
          | none => .fail) else .fail
        | _ => .fail
      | _ => .fail
    | .gm i => match key with
      | .str l => match Glob.svm i with
        | some p => if h : p.1 = (nthX X et).code then (match z0 (nthX X et).code (nthX X et).zero with
          | some z => k ⟨dst, oneS (nthX X et).code (mget (nthX X et).code (h ▸ p.2) l z), [], H.length, []⟩ []
          | none => .fail) else .fail
        | none => .fail
      | _ => .fail
    | _ => .fail) else .fail
  | _ => .fail
theorem xLookup_ok {X : List XTy} {dst : Option Nat} {t : Nat} {s : SSt} {m key : SV} {k : SEff → List (Nat × Nat) → Tr ρ} {r : ρ} {kA : Eff → List (Nat × Nat) → Prop} (h : (xLookup X dst t s.heap m key k).run = some r)
    (hk : ∀ e rd, (k e rd).run = some r → kA e.av rd) : aLookup (TX X) dst t s.av.view m.av key.av s.heap.length kA := by
  unfold xLookup at h
  split at h
  · rename_i kt et hkd
    replace h := ite_run h; obtain ⟨⟨h0, h1, h2, h2'⟩, h⟩ := h
    -- what both kinds come to
    have fin : ∀ (es : List (List UInt8 × (nthX X et).code.T)) (l : List UInt8) (z : (nthX X et).code.T) (rd : List (Nat × Nat)), z0 (nthX X et).code (nthX X et).zero = some z →
        (k ⟨dst, oneS (nthX X et).code (mget (nthX X et).code es l z), [], s.heap.length, []⟩ rd).run = some r →
        (∀ c, mplF (nthX X et).code es l = some c → kA ⟨dst, c, [], s.heap.length, []⟩ rd) ∧ (mplF (nthX X et).code es l = none → (TX X et).kd.isAgg = false ∧ ∃ z, (TX X et).zero = [z] ∧ kA ⟨dst, z, [], s.heap.length, []⟩ rd) := by
      intro es l z rd qz h
      have := hk _ _ h
      simp only [SEff.av, List.map_nil, oneS_av, mget] at this
      refine ⟨fun c hc => ?_, fun hc => ⟨h2, ?_⟩⟩
      · simp only [mplF] at hc
        cases hq : es.lookup l with
        | none => rw [hq] at hc; cases hc
        | some y =>
          rw [hq] at hc this
          injection hc with hc
          subst hc
          exact this
      · simp only [mplF] at hc
        have hq : es.lookup l = none := by
          cases hq : es.lookup l with
          | none => rfl
          | some y => rw [hq] at hc; cases hc
        rw [hq] at this
        unfold z0 at qz
        split at qz
        · rename_i zz hz
          split at qz
          · rename_i x qx
            split at qz
            · injection qz with qz
              subst qz
              refine ⟨zz.av, by rw [TX_zero, hz]; rfl, ?_⟩
              have e := exOne_plain h2' qx
              rw [e]
              exact this
            · cases qz
          · cases qz
        · cases qz
    split at h
    · rename_i b
      split at h <;> first | (cases h; done) | skip
      rename_i l
      split at h <;> first | (cases h; done) | skip
      rename_i τ es qc
      split at h <;> first | (cases h; done) | skip
      rename_i hτ
      split at h <;> first | (cases h; done) | skip
      rename_i z qz
      subst hτ
      unfold aLookup
      rw [TX_kd, hkd]
      simp only [SV.av]
      refine ⟨isStrK_eq h0, h1, ?_⟩
      rw [cell_av, qc]
      simp only [SV.av]
      exact fin es l z _ qz h
    · rename_i i
      generalize qp : Glob.svm i = q at h
      split at h <;> first | (cases h; done) | skip
      rename_i l
      cases q with
      | none => cases h
      | some p =>
      obtain ⟨τ, es⟩ := p
      dsimp only at h
      split at h <;> first | (cases h; done) | skip
      rename_i hτ
      split at h <;> first | (cases h; done) | skip
      rename_i z qz
      subst hτ
      unfold aLookup
      rw [TX_kd, hkd]
      simp only [SV.av]
      refine ⟨isStrK_eq h0, h1, ?_⟩
      rw [Glob.svm_ok qp]
      exact fin es l z _ qz h
    · cases h
  · cases h

def xLookup2 (X : List XTy) (dst : Option Nat) (t : Nat) (H : List (List SV)) (m key : SV) (k : SEff → List (Nat × Nat) → Tr ρ) : Tr ρ :=
  match (nthX X t).kd with
  | .map kt et => if isStrK (nthX X kt).kd = true ∧ (nthX X et).kd.isOther = false ∧ (nthX X et).kd.isAgg = false ∧ isPlainK (nthX X et).code = true then (match m with
    | .mp b => match key with
      | .str l => match nthS (nthSB H b) 0 with
        | .mpl τ es => if h : τ = (nthX X et).code then (match z0 (nthX X et).code (nthX X et).zero with
          | some z => k ⟨dst, .tup [oneS (nthX X et).code (mget (nthX X et).code (h ▸ es) l z), .bool (List.lookup l (h ▸ es : List (List UInt8 × (nthX X et).code.T))).isSome], [], H.length, []⟩ [(b, 0)]
          | none => .fail) else .fail
        | _ => .fail
      | _ => .fail
    | _ => .fail) else .fail
  | _ => .fail
theorem xLookup2_ok {X : List XTy} {dst : Option Nat} {t : Nat} {s : SSt} {m key : SV} {k : SEff → List (Nat × Nat) → Tr ρ} {r : ρ} {kA : Eff → List (Nat × Nat) → Prop} (h : (xLookup2 X dst t s.heap m key k).run = some r)
    (hk : ∀ e rd, (k e rd).run = some r → kA e.av rd) : aLookup2 (TX X) dst t s.av.view m.av key.av s.heap.length kA := by
  unfold xLookup2 at h
  split at h
  · rename_i kt et hkd
    replace h := ite_run h; obtain ⟨⟨h0, h1, h2, h2'⟩, h⟩ := h
    split at h <;> first | (cases h; done) | skip
    rename_i b
    split at h <;> first | (cases h; done) | skip
    rename_i l
    split at h <;> first | (cases h; done) | skip
    rename_i τ es qc
    split at h <;> first | (cases h; done) | skip
    rename_i hτ
    split at h <;> first | (cases h; done) | skip
    rename_i z qz
    subst hτ
    have := hk _ _ h
    simp only [SEff.av, List.map_nil, SV.av, SV.av.avL, oneS_av, mget] at this
    unfold aLookup2
    rw [TX_kd, hkd]
    simp only [SV.av]
    refine ⟨isStrK_eq h0, h1, ?_⟩
    rw [cell_av, qc]
    simp only [SV.av, mplF]
    refine ⟨fun c hc => ?_, fun hc => ⟨h2, ?_⟩⟩
    · cases hq : es.lookup l with
      | none => rw [hq] at hc; cases hc
      | some y =>
        rw [hq] at hc this
        injection hc with hc
        subst hc
        exact this
    · have hq : es.lookup l = none := by
        cases hq : es.lookup l with
        | none => rfl
        | some y => rw [hq] at hc; cases hc
      rw [hq] at this
      unfold z0 at qz
      split at qz
      · rename_i zz hz
        split at qz
        · rename_i x qx
          split at qz
          · injection qz with qz
            subst qz
            refine ⟨zz.av, by rw [TX_zero, hz]; rfl, ?_⟩
            have e := exOne_plain h2' qx
            rw [e]
            exact this
          · cases qz
        · cases qz
      · cases qz
  · cases h

/-! ### The bytes of a text -/

def isU8 : AKind → Bool
  | .int .u8 => true
  | _ => false
theorem isU8_eq {k : AKind} (h : isU8 k = true) : k = .int .u8 := by
  unfold isU8 at h; split at h
  · rfl
  · cases h
def xBytes (X : List XTy) (dst : Option Nat) (src d : Nat) (x : SV) (base : Nat) (k : SEff → List (Nat × Nat) → Tr ρ) : Tr ρ :=
  match (nthX X d).kd with
  | .slice e => if isStrK (nthX X src).kd = true ∧ isU8 (nthX X e).kd = true then (match x with
    | .str l => .req (okStr l.length) (k ⟨dst, .sl (.int .u8) (l.map fun b => (b.toNat : Int)), [], base, []⟩ [])
    | _ => .fail) else .fail
  | _ => .fail
theorem xBytes_ok {X : List XTy} {dst : Option Nat} {src d base : Nat} {x : SV} {k : SEff → List (Nat × Nat) → Tr ρ} {r : ρ} {kA : Eff → List (Nat × Nat) → Prop} (h : (xBytes X dst src d x base k).run = some r)
    (hk : ∀ e rd, (k e rd).run = some r → kA e.av rd) : aBytes (TX X) dst src d x.av base kA := by
  unfold xBytes at h
  split at h
  · rename_i e hkd
    replace h := ite_run h; obtain ⟨⟨h0, h1⟩, h⟩ := h
    split at h
    · rename_i l
      replace h := run_req h; obtain ⟨h2, h⟩ := h
      have h2 := of_decide_eq_true h2
      unfold aBytes
      rw [TX_kd, hkd]
      simp only [SV.av]
      refine ⟨isStrK_eq h0, isU8_eq h1, h2, ?_⟩
      have := hk _ _ h
      simp only [SEff.av, SV.av, List.map_nil, List.map_map] at this
      exact this
    · cases h
  · cases h

/-- The elements of a row of bytes. -/
def bytesS : SV → Option (List Int)
  | .sl (.int .u8) xs => some xs
  | .ow _ _ (.int .u8) xs => some xs
  | .emp => some []
  | _ => none
theorem bytesS_av {x : SV} {ns : List Int} (h : bytesS x = some ns) : srcOf 1 x.av = some (ns.map fun n => [AV.int .u8 n]) := by
  unfold bytesS at h
  split at h <;> first | (injection h with h; subst h; rfl) | (cases h; done)
def isSlK : AKind → Bool
  | .slice _ => true
  | _ => false
def xText (X : List XTy) (dst : Option Nat) (src d : Nat) (x : SV) (base : Nat) (k : SEff → List (Nat × Nat) → Tr ρ) : Tr ρ :=
  match (nthX X src).kd with
  | .slice e => if isStrK (nthX X d).kd = true ∧ isU8 (nthX X e).kd = true then (match bytesS x with
    | some ns => k ⟨dst, .str (ns.map fun n => UInt8.ofNat n.toNat), [], base, []⟩ []
    | none => .fail) else .fail
  | _ => .fail
theorem xText_ok {X : List XTy} {dst : Option Nat} {src d base : Nat} {x : SV} {k : SEff → List (Nat × Nat) → Tr ρ} {r : ρ} {kA : Eff → List (Nat × Nat) → Prop} (h : (xText X dst src d x base k).run = some r)
    (hk : ∀ e rd, (k e rd).run = some r → kA e.av rd) : aText (TX X) dst src d x.av base kA := by
  unfold xText at h
  split at h
  · rename_i e hkd
    replace h := ite_run h; obtain ⟨⟨h0, h1⟩, h⟩ := h
    split at h
    · rename_i ns q
      unfold aText
      rw [TX_kd, hkd, bytesS_av q]
      refine ⟨isStrK_eq h0, isU8_eq h1, ns, rfl, ?_⟩
      have := hk _ _ h
      simp only [SEff.av, SV.av, List.map_nil] at this
      exact this
    · cases h
  · cases h

def xUpdate (X : List XTy) (dst : Option Nat) (t : Nat) (H : List (List SV)) (m key v : SV) (k : SEff → List (Nat × Nat) → Tr ρ) : Tr ρ :=
  match (nthX X t).kd with
  | .map kt et => if isStrK (nthX X kt).kd = true then (match m with
    | .mp b => match key with
      | .str l => match nthS (nthSB H b) 0 with
        | .mpl τ es => match exOne τ v with
          | some x => k ⟨dst, .und, [(b, 0, .mpl τ ((l, x) :: es))], H.length, []⟩ [(b, 0)]
          | none => .fail
        | _ => .fail
      | _ => .fail
    | _ => .fail) else .fail
  | _ => .fail
theorem xUpdate_ok {X : List XTy} {dst : Option Nat} {t : Nat} {s : SSt} {m key v : SV} {k : SEff → List (Nat × Nat) → Tr ρ} {r : ρ} {kA : Eff → List (Nat × Nat) → Prop} (h : (xUpdate X dst t s.heap m key v k).run = some r)
    (hk : ∀ e rd, (k e rd).run = some r → kA e.av rd) : aMapUpdate (TX X) dst t s.av.view m.av key.av v.av s.heap.length kA := by
  unfold xUpdate at h
  split at h
  · rename_i kt et hkd
    replace h := ite_run h; obtain ⟨h0, h⟩ := h
    split at h <;> first | (cases h; done) | skip
    rename_i b
    split at h <;> first | (cases h; done) | skip
    rename_i l
    split at h <;> first | (cases h; done) | skip
    rename_i τ es qc
    split at h <;> first | (cases h; done) | skip
    rename_i x qx
    have := hk _ _ h
    simp only [SEff.av, List.map_nil, List.map_cons, wav, SV.av] at this
    obtain ⟨w1, w2, _⟩ := exOne_av qx
    unfold aMapUpdate
    rw [TX_kd, hkd]
    simp only [SV.av]
    refine ⟨isStrK_eq h0, w1, ?_⟩
    rw [cell_av, qc]
    simp only [SV.av]
    rw [w2]
    rw [show mplF τ ((l, x) :: es) = (fun y => if y = l then some (oneA τ x) else mplF τ es y) from by
      funext y
      simp only [mplF, List.lookup_cons]
      by_cases e : y = l
      · subst e; simp
      · have : (y == l) = false := by simpa using e
        simp [this, e]] at this
    exact this
  · cases h
end
end Go.Ab
end

section
namespace Go.Ab
open Go Go.RowKit
set_option linter.unusedVariables false
set_option linter.unusedSimpArgs false

/-! ### Values of a type, with loss of what owns them -/

/-- The second says what the first says, or less. -/
def Lo (c d : AV) : Prop := (c.flat = true ∧ c.low = d) ∨ (c = .emp ∧ ∃ s, d = .sl s [])
def LoL : List AV → List AV → Prop
  | [], [] => True
  | c :: cs, d :: ds => Lo c d ∧ LoL cs ds
  | _, _ => False
theorem Lo.arg {m : Nat → Nat} {n : Nat} {c d : AV} (h : Lo c d) : Arg m n c d := by
  rcases h with ⟨h, rfl⟩ | ⟨rfl, s, rfl⟩
  · exact .flat c h
  · exact .emp s
theorem Lo.wk {g : Nat → Nat} {n : Nat} {c d : AV} (h : Lo c d) : Wk g n c d := by
  rcases h with ⟨h, rfl⟩ | ⟨rfl, s, rfl⟩
  · exact .flat c h
  · exact .emp s
theorem LoL.args {m : Nat → Nat} {n : Nat} : ∀ {cs ds : List AV}, LoL cs ds → ArgsL m n cs ds
  | [], [], _ => trivial
  | c :: cs, d :: ds, h => ⟨h.1.arg, LoL.args h.2⟩
  | [], _ :: _, h => h.elim
  | _ :: _, [], h => h.elim
theorem LoL.wks {g : Nat → Nat} {n : Nat} : ∀ {cs ds : List AV}, LoL cs ds → WkL g n cs ds
  | [], [], _ => trivial
  | c :: cs, d :: ds, h => ⟨h.1.wk, LoL.wks h.2⟩
  | [], _ :: _, h => h.elim
  | _ :: _, [], h => h.elim
theorem LoL.app : ∀ {cs ds cs' ds' : List AV}, LoL cs ds → LoL cs' ds' → LoL (cs ++ cs') (ds ++ ds')
  | [], [], _, _, _, h => h
  | c :: cs, d :: ds, _, _, h, h' => ⟨h.1, LoL.app h.2 h'⟩
  | [], _ :: _, _, _, h, _ => h.elim
  | _ :: _, [], _, _, h, _ => h.elim
theorem LoL.len : ∀ {cs ds : List AV}, LoL cs ds → cs.length = ds.length
  | [], [], _ => rfl
  | c :: cs, d :: ds, h => by simp [LoL.len h.2]
  | [], _ :: _, h => h.elim
  | _ :: _, [], h => h.elim

def gtOne : (τ : Ty) → SV → Option τ.T
  | .list _, .emp => some []
  | τ, v => exOne τ v
theorem gtOne_lo {τ : Ty} {v : SV} {x : τ.T} (h : gtOne τ v = some x) : Lo v.av (oneA τ x) ∧ τ.enc x = [oneA τ x] := by
  unfold gtOne at h
  split at h
  · injection h with h; subst h; exact ⟨.inr ⟨rfl, _, rfl⟩, rfl⟩
  · obtain ⟨w1, w2, w3⟩ := exOne_av h; exact ⟨.inl ⟨w1, w2⟩, w3⟩

def gtCells : (τ : Ty) → List SV → Option (τ.T × List SV)
  | .unit, l => some ((), l)
  | .pair a b, l => match gtCells a l with
    | some (x, l') => match gtCells b l' with
      | some (y, l'') => some ((x, y), l'')
      | none => none
    | none => none
  | .int k, v :: l => wl (gtOne (.int k) v) l
  | .bool, v :: l => wl (gtOne .bool v) l
  | .str, v :: l => wl (gtOne .str v) l
  | .list a, v :: l => wl (gtOne (.list a) v) l
  | _, _ => none
theorem gtCells_one {τ : Ty} {v : SV} {l l' : List SV} {x : τ.T} (h : wl (gtOne τ v) l = some (x, l')) : ∃ p, (v :: l) = p ++ l' ∧ LoL (avL p) (τ.enc x) := by
  cases q : gtOne τ v with
  | none => rw [q] at h; cases h
  | some y =>
    rw [q] at h
    injection h with h
    injection h with h1 h2
    subst h1; subst h2
    obtain ⟨w1, w2⟩ := gtOne_lo q
    exact ⟨[v], rfl, by rw [w2]; exact ⟨w1, trivial⟩⟩
theorem gtCells_lo : ∀ {τ : Ty} {l l' : List SV} {x : τ.T}, gtCells τ l = some (x, l') → ∃ p, l = p ++ l' ∧ LoL (avL p) (τ.enc x)
  | .unit, l, l', x, h => by
    simp only [gtCells, Option.some.injEq, Prod.mk.injEq] at h
    exact ⟨[], by simp [h.2], trivial⟩
  | .pair a b, l, l', x, h => by
    simp only [gtCells] at h
    split at h
    · rename_i y l1 q1
      split at h
      · rename_i z l2 q2
        injection h with h
        injection h with h1 h2
        subst h1; subst h2
        obtain ⟨p1, w1, w2⟩ := gtCells_lo q1
        obtain ⟨p2, v1, v2⟩ := gtCells_lo q2
        refine ⟨p1 ++ p2, by rw [w1, v1, List.append_assoc], ?_⟩
        rw [avL_app]; exact w2.app v2
      · cases h
    · cases h
  | .int k, [], l', x, h => by cases h
  | .int k, v :: l, l', x, h => by simp only [gtCells] at h; exact gtCells_one h
  | .bool, [], l', x, h => by cases h
  | .bool, v :: l, l', x, h => by simp only [gtCells] at h; exact gtCells_one h
  | .str, [], l', x, h => by cases h
  | .str, v :: l, l', x, h => by simp only [gtCells] at h; exact gtCells_one h
  | .list a, [], l', x, h => by cases h
  | .list a, v :: l, l', x, h => by simp only [gtCells] at h; exact gtCells_one h

def gtRow (τ : Ty) (l : List SV) : Option τ.T := match gtCells τ l with
  | some (x, []) => some x
  | _ => none
theorem gtRow_lo {τ : Ty} {l : List SV} {x : τ.T} (h : gtRow τ l = some x) : LoL (avL l) (τ.enc x) := by
  unfold gtRow at h
  split at h
  · rename_i y q
    injection h with h
    subst h
    obtain ⟨p, w1, w2⟩ := gtCells_lo q
    rw [List.append_nil] at w1
    subst w1
    exact w2
  · cases h
theorem gtRow_len {τ : Ty} {l : List SV} {x : τ.T} (h : gtRow τ l = some x) : l.length = τ.size := by
  have := (gtRow_lo h).len
  rwa [avL_length, Ty.enc_length] at this

inductive VT where
  | one (τ : Ty)
  | agg (τ : Ty)
  /-- an error: whether it is nil -/
  | err
@[reducible] def VT.ty : VT → Ty
  | .one τ => τ
  | .agg τ => τ
  | .err => .bool
def VT.sv : (v : VT) → v.ty.T → SV
  | .one τ, x => oneS τ x
  | .agg τ, x => .agg (τ.svs x)
  | .err, x => .er x
def VT.get : (v : VT) → SV → Option v.ty.T
  | .one τ, s => gtOne τ s
  | .agg τ, s => match s with
    | .agg cs => gtRow τ cs
    | _ => none
  | .err, s => match s with
    | .er b => some b
    | _ => none
theorem VT.get_arg {m : Nat → Nat} {n : Nat} : ∀ {v : VT} {s : SV} {x : v.ty.T}, v.get s = some x → Arg m n s.av (v.sv x).av
  | .one τ, s, x, h => by
    show Arg m n s.av (oneS τ x).av
    rw [oneS_av]; exact (gtOne_lo h).1.arg
  | .agg τ, s, x, h => by
    cases s <;> simp only [VT.get] at h <;> first | (cases h; done) | skip
    show Arg m n (.agg (avL _)) (.agg (avL (τ.svs x)))
    rw [τ.svs_av]; exact .aggs (gtRow_lo h).args.args
  | .err, s, x, h => by
    cases s <;> simp only [VT.get] at h <;> first | (cases h; done) | skip
    injection h with h
    subst h
    exact .flat (.er _) rfl
theorem VT.get_wk {g : Nat → Nat} {n : Nat} : ∀ {v : VT} {s : SV} {x : v.ty.T}, v.get s = some x → Wk g n s.av (v.sv x).av
  | .one τ, s, x, h => by
    show Wk g n s.av (oneS τ x).av
    rw [oneS_av]; exact (gtOne_lo h).1.wk
  | .agg τ, s, x, h => by
    cases s <;> simp only [VT.get] at h <;> first | (cases h; done) | skip
    show Wk g n (.agg (avL _)) (.agg (avL (τ.svs x)))
    rw [τ.svs_av]; exact wk_agg (gtRow_lo h).wks
  | .err, s, x, h => by
    cases s <;> simp only [VT.get] at h <;> first | (cases h; done) | skip
    injection h with h
    subst h
    exact .flat (.er _) rfl

/-! ### Contracts of callees -/

def tupT : List Ty → Ty
  | [] => .unit
  | a :: r => .pair a (tupT r)

inductive PK where
  | val (v : VT)
  | ptr (i : Nat)
  | fn (f : Nat) (caps : List Nat)
  | any
  /-- the slice that is the made row of a number; its length is told -/
  | sb (i : Nat)
@[reducible] def PK.tys : List PK → List Ty
  | [] => []
  | .val v :: r => v.ty :: PK.tys r
  | .ptr _ :: r => PK.tys r
  | .fn _ _ :: r => PK.tys r
  | .any :: r => PK.tys r
  | .sb _ :: r => .int .i64 :: PK.tys r
/-- Blocks that are handed over: data, or a pointer to the block of a number. -/
inductive BK where
  | dat (τ : Ty)
  | ref (i : Nat)
  /-- a made row -/
  | arr (τ : Ty)
  /-- data, then slices that are made rows -/
  | cel (τ : Ty) (is : List Nat)
  /-- data, then own lists: for each the number of its token's block, its elements' type's number and type -/
  | cow (τ : Ty) (es : List (Nat × Nat × Ty))
  /-- an own list's token: how many elements it has -/
  | tok
/-- The own lists of a block. -/
@[reducible] def ownsT : List (Nat × Nat × Ty) → Ty
  | [] => .unit
  | o :: r => .pair (.list o.2.2) (ownsT r)
/-- The lengths of slices. -/
@[reducible] def intsT : List Nat → Ty
  | [] => .unit
  | _ :: r => .pair (.int .i64) (intsT r)
@[reducible] def BK.tys : List BK → List Ty
  | [] => []
  | .dat τ :: r => τ :: BK.tys r
  | .ref _ :: r => BK.tys r
  | .arr τ :: r => .list τ :: BK.tys r
  | .cel τ is :: r => .pair τ (intsT is) :: BK.tys r
  | .cow τ es :: r => .pair τ (ownsT es) :: BK.tys r
  | .tok :: r => .int .i64 :: BK.tys r
inductive RK where
  | val (v : VT)
  | own (e : Nat) (τ : Ty)
  | ptr (τ : Ty)
  | row (τ : Ty)
  /-- a map of the call's own, or none -/
  | map (τ : Ty)
  /-- a struct with a slice that is a made row of the call's own -/
  | mad (a : Ty) (e : Nat) (τ : Ty) (b : Ty)
  /-- a function that has taken up a new box -/
  | fnb (f : Nat) (τ : Ty)
@[reducible] def RK.ty : RK → Ty
  | .val v => v.ty
  | .own _ τ => .list τ
  | .ptr τ => .pair .bool τ
  | .row τ => .pair (.int .i64) (.list τ)
  | .map τ => .pair .bool (.list (.pair .str τ))
  | .mad a _ τ b => .pair a (.pair (.list τ) b)
  | .fnb _ τ => τ
@[reducible] def RK.tys : List RK → List Ty
  | [] => []
  | k :: r => k.ty :: RK.tys r

def ptrsS (caps : List Nat) : List SV := caps.map fun i => .ptr i 0
def argsS : (ps : List PK) → (tupT (PK.tys ps)).T → List SV
  | [], _ => []
  | .val v :: r, x => v.sv x.1 :: argsS r x.2
  | .ptr i :: r, x => .ptr i 0 :: argsS r x
  | .fn f caps :: r, x => .fn f (ptrsS caps) :: argsS r x
  | .any :: r, x => .non :: argsS r x
  | .sb i :: r, x => .sb i (Int.toNat x.1) :: argsS r x.2
def sbsS (g : Nat → Nat) : (is : List Nat) → (intsT is).T → List SV
  | [], _ => []
  | i :: r, x => .sb (g i) (Int.toNat x.1) :: sbsS g r x.2
def owsS (g : Nat → Nat) : (es : List (Nat × Nat × Ty)) → (ownsT es).T → List SV
  | [], _ => []
  | o :: r, x => .ow (g o.1) o.2.1 o.2.2 x.1 :: owsS g r x.2
def blocksS (g : Nat → Nat) : (bl : List BK) → (tupT (BK.tys bl)).T → List (List SV)
  | [], _ => []
  | .dat τ :: r, x => τ.svs x.1 :: blocksS g r x.2
  | .ref i :: r, x => [.ptr (g i) 0] :: blocksS g r x
  | .arr τ :: r, x => [.arr τ x.1] :: blocksS g r x.2
  | .cel τ is :: r, x => (τ.svs x.1.1 ++ sbsS g is x.1.2) :: blocksS g r x.2
  | .cow τ es :: r, x => (τ.svs x.1.1 ++ owsS g es x.1.2) :: blocksS g r x.2
  | .tok :: r, x => [.tok (Int.toNat x.1)] :: blocksS g r x.2
def resS : Nat → (rs : List RK) → (tupT (RK.tys rs)).T → List SV
  | _, [], _ => []
  | n, .val v :: r, x => v.sv x.1 :: resS n r x.2
  | n, .own e τ :: r, x => .ow n e τ x.1 :: resS (n + 1) r x.2
  | n, .row τ :: r, x => .sb n (Int.toNat x.1.1) :: resS (n + 1) r x.2
  | n, .ptr τ :: r, x => bif x.1.1 then .ptr n 0 :: resS (n + 1) r x.2 else .nilp :: resS n r x.2
  | n, .map τ :: r, x => bif x.1.1 then .mp n :: resS (n + 1) r x.2 else .nilm :: resS n r x.2
  | n, .fnb f τ :: r, x => .fn f [.ptr n 0] :: resS (n + 1) r x.2
  | n, .mad a _ τ b :: r, x => .agg (a.svs x.1.1 ++ .sb n (List.length (α := τ.T) x.1.2.1) :: b.svs x.1.2.2) :: resS (n + 1) r x.2
def newsS : (rs : List RK) → (tupT (RK.tys rs)).T → List (List SV)
  | [], _ => []
  | .val _ :: r, x => newsS r x.2
  | .own _ τ :: r, x => [.tok (List.length (α := τ.T) x.1)] :: newsS r x.2
  | .row τ :: r, x => [.arr τ x.1.2] :: newsS r x.2
  | .ptr τ :: r, x => bif x.1.1 then τ.svs x.1.2 :: newsS r x.2 else newsS r x.2
  | .map τ :: r, x => bif x.1.1 then [.mpl τ x.1.2] :: newsS r x.2 else newsS r x.2
  | .mad _ e τ _ :: r, x => [.aw e τ x.1.2.1] :: newsS r x.2
  | .fnb _ τ :: r, x => τ.svs x.1 :: newsS r x.2
def singS : List SV → SV
  | [c] => c
  | cs => .tup cs
theorem singS_av : ∀ l : List SV, (singS l).av = sing (avL l)
  | [] => rfl
  | [c] => rfl
  | c :: d :: r => rfl
theorem blocksS_length (g : Nat → Nat) : ∀ (bl : List BK) (x : (tupT (BK.tys bl)).T), (blocksS g bl x).length = bl.length
  | [], _ => rfl
  | .dat τ :: r, x => by simp [blocksS, blocksS_length g r]
  | .ref i :: r, x => by simp [blocksS, blocksS_length g r]
  | .arr _ :: r, x => by simp [blocksS, blocksS_length g r]
  | .cel _ _ :: r, x => by simp [blocksS, blocksS_length g r]
  | .cow _ _ :: r, x => by simp [blocksS, blocksS_length g r]
  | .tok :: r, x => by simp [blocksS, blocksS_length g r]

structure Callee where
  f : Nat
  ps : List PK
  bl : List BK
  rs : List RK
  /-- whether it is to be tried as one that hands its blocks back as they were -/
  ro : Bool
  fn : (tupT (PK.tys ps)).T → (tupT (BK.tys bl)).T → Option ((tupT (RK.tys rs)).T × (tupT (BK.tys bl)).T)

def Callee.ok (P : Program) (c : Callee) : Prop := Callable P c.f ∧ ∀ x y r y', c.fn x y = some (r, y') →
  Meets P c.f ((blocksS id c.bl y).map avL) (avL (argsS c.ps x)) (sing (avL (resS c.bl.length c.rs r))) ((blocksS id c.bl y' ++ newsS c.rs r).map avL)

/-! ### What is handed over -/

def capsOk : List Nat → List SV → List Nat → Bool
  | [], [], _ => true
  | i :: r, .ptr b o :: asv, ms => decide (i < ms.length) && decide (b = nthN ms i) && decide (o = 0) && capsOk r asv ms
  | _, _, _ => false
def argsOk : List PK → List SV → List Nat → Bool
  | [], [], _ => true
  | .val _ :: r, _ :: asv, ms => argsOk r asv ms
  | .ptr i :: r, .ptr b o :: asv, ms => decide (i < ms.length) && decide (b = nthN ms i) && decide (o = 0) && argsOk r asv ms
  | .fn f caps :: r, .fn f' cs :: asv, ms => decide (f' = f) && capsOk caps cs ms && argsOk r asv ms
  | .any :: r, _ :: asv, ms => argsOk r asv ms
  | .sb i :: r, .sb b _ :: asv, ms => decide (i < ms.length) && decide (b = nthN ms i) && argsOk r asv ms
  | _, _, _ => false
def getVals : (ps : List PK) → List SV → Option (tupT (PK.tys ps)).T
  | [], _ => some ()
  | .val v :: r, a :: asv => match v.get a with
    | some x => match getVals r asv with
      | some y => some (x, y)
      | none => none
    | none => none
  | .val _ :: _, [] => none
  | .ptr _ :: r, asv => getVals r asv.tail
  | .fn _ _ :: r, asv => getVals r asv.tail
  | .any :: r, asv => getVals r asv.tail
  | .sb _ :: r, asv => match asv with
    | .sb _ n :: as' => match getVals r as' with
      | some y => some ((n : Int), y)
      | none => none
    | _ => none

theorem capsOk_args : ∀ (caps : List Nat) (asv : List SV) (ms : List Nat), capsOk caps asv ms = true → ArgsL (nthN ms) ms.length (avL asv) (avL (ptrsS caps))
  | [], [], _, _ => trivial
  | i :: r, .ptr b o :: asv, ms, h => by
    simp only [capsOk, Bool.and_eq_true, decide_eq_true_eq] at h
    obtain ⟨⟨⟨h1, h2⟩, h3⟩, h4⟩ := h
    exact ⟨arg_ptr h3 h1 h2, capsOk_args r asv ms h4⟩
  | [], _ :: _, _, h => by cases h
  | _ :: _, [], _, h => by cases h
  | i :: r, v :: asv, ms, h => by
    cases v <;> first | (simp [capsOk] at h; done) | skip
    simp only [capsOk, Bool.and_eq_true, decide_eq_true_eq] at h
    obtain ⟨⟨⟨h1, h2⟩, h3⟩, h4⟩ := h
    exact ⟨arg_ptr h3 h1 h2, capsOk_args r asv ms h4⟩
theorem argsOk_args : ∀ (ps : List PK) (asv : List SV) (ms : List Nat) (x : (tupT (PK.tys ps)).T), argsOk ps asv ms = true → getVals ps asv = some x → ArgsL (nthN ms) ms.length (avL asv) (avL (argsS ps x))
  | [], [], _, _, _, _ => trivial
  | [], _ :: _, _, _, h, _ => by cases h
  | .val v :: r, [], _, _, h, _ => by cases h
  | .val v :: r, a :: asv, ms, x, h, h2 => by
    simp only [argsOk] at h
    simp only [getVals] at h2
    split at h2
    · rename_i y q
      split at h2
      · rename_i z q2
        injection h2 with h2
        subst h2
        exact ⟨VT.get_arg q, argsOk_args r asv ms z h q2⟩
      · cases h2
    · cases h2
  | .ptr i :: r, asv, ms, x, h, h2 => by
    cases asv with
    | nil => cases h
    | cons a asv =>
    cases a <;> first | (simp [argsOk] at h; done) | skip
    simp only [argsOk, Bool.and_eq_true, decide_eq_true_eq] at h
    obtain ⟨⟨⟨h1, h2'⟩, h3⟩, h4⟩ := h
    exact ⟨arg_ptr h3 h1 h2', argsOk_args r asv ms x h4 h2⟩
  | .fn f caps :: r, asv, ms, x, h, h2 => by
    cases asv with
    | nil => cases h
    | cons a asv =>
    cases a <;> first | (simp [argsOk] at h; done) | skip
    simp only [argsOk, Bool.and_eq_true, decide_eq_true_eq] at h
    obtain ⟨⟨h1, h3⟩, h4⟩ := h
    subst h1
    exact ⟨arg_fn (capsOk_args _ _ _ h3), argsOk_args r asv ms x h4 h2⟩
  | .any :: r, asv, ms, x, h, h2 => by
    cases asv with
    | nil => cases h
    | cons a asv =>
    exact ⟨.non _, argsOk_args r asv ms x h h2⟩
  | .sb i :: r, asv, ms, x, h, h2 => by
    cases asv with
    | nil => cases h
    | cons a asv =>
    cases a <;> first | (simp [argsOk] at h; done) | skip
    rename_i b n
    simp only [argsOk, Bool.and_eq_true, decide_eq_true_eq] at h
    obtain ⟨⟨h1, h3⟩, h4⟩ := h
    simp only [getVals] at h2
    split at h2
    · rename_i y q
      injection h2 with h2
      subst h2
      exact ⟨.sb b i n h1 h3, argsOk_args r asv ms y h4 q⟩
    · cases h2

/-- The caller's numbers of the blocks that are handed over. -/
def findC (i : Nat) : List Nat → List SV → Option Nat
  | j :: r, .ptr b _ :: asv => if j = i then some b else findC i r asv
  | _ :: r, _ :: asv => findC i r asv
  | _, _ => none
def findB (i : Nat) : List PK → List SV → Option Nat
  | .ptr j :: r, .ptr b _ :: asv => if j = i then some b else findB i r asv
  | .sb j :: r, .sb b _ :: asv => if j = i then some b else findB i r asv
  | .fn _ caps :: r, .fn _ cs :: asv => match findC i caps cs with
    | some b => some b
    | none => findB i r asv
  | _ :: r, _ :: asv => findB i r asv
  | _, _ => none
def findCel (i : Nat) : List Nat → List SV → Option Nat
  | j :: r, .sb b _ :: cs => if j = i then some b else findCel i r cs
  | _, _ => none
def findOw (i : Nat) : List (Nat × Nat × Ty) → List SV → Option Nat
  | o :: r, .ow b _ _ _ :: cs => if o.1 = i then some b else findOw i r cs
  | _, _ => none
def findRef (i : Nat) : List BK → List (Option Nat) → List (List SV) → Option Nat
  | .ref j :: r, some b :: os, H => if j = i then (match nthS (nthSB H b) 0 with
    | .ptr b' _ => some b'
    | _ => none) else findRef i r os H
  | .cel τ is :: r, some b :: os, H => match findCel i is ((nthSB H b).drop τ.size) with
    | some b' => some b'
    | none => findRef i r os H
  | .cow τ es :: r, some b :: os, H => match findOw i es ((nthSB H b).drop τ.size) with
    | some b' => some b'
    | none => findRef i r os H
  | _ :: r, _ :: os, H => findRef i r os H
  | _, _, _ => none
def ms1 (ps : List PK) (asv : List SV) : Nat → Nat → List (Option Nat)
  | _, 0 => []
  | i, n + 1 => findB i ps asv :: ms1 ps asv (i + 1) n
def ms2 (bl : List BK) (l1 : List (Option Nat)) (H : List (List SV)) : Nat → List (Option Nat) → List Nat
  | _, [] => []
  | i, some b :: r => b :: ms2 bl l1 H (i + 1) r
  | i, none :: r => (findRef i bl l1 H).getD 0 :: ms2 bl l1 H (i + 1) r
def msOf (ps : List PK) (asv : List SV) (bl : List BK) (H : List (List SV)) : List Nat := ms2 bl (ms1 ps asv 0 bl.length) H 0 (ms1 ps asv 0 bl.length)

def isRef : List SV → Nat → Bool
  | [.ptr b o], t => decide (b = t) && decide (o = 0)
  | _, _ => false
theorem isRef_eq {l : List SV} {t : Nat} (h : isRef l t = true) : l = [.ptr t 0] := by
  unfold isRef at h
  split at h
  · simp only [Bool.and_eq_true, decide_eq_true_eq] at h
    obtain ⟨rfl, rfl⟩ := h
    rfl
  · cases h
/-- The slices behind a block's data: their lengths. -/
def getSbs (msF : List Nat) : (is : List Nat) → List SV → Option (intsT is).T
  | [], [] => some ()
  | i :: r, .sb b n :: cs => if i < msF.length ∧ b = nthN msF i then (match getSbs msF r cs with
    | some y => some ((n : Int), y)
    | none => none) else none
  | _, _ => none
theorem getSbs_args {msF : List Nat} : ∀ {is : List Nat} {cs : List SV} {x : (intsT is).T}, getSbs msF is cs = some x → ArgsL (nthN msF) msF.length (avL cs) (avL (sbsS id is x)) ∧ (avL cs).map AV.plain = (avL cs).map fun _ => true
  | [], [], _, _ => ⟨trivial, rfl⟩
  | [], _ :: _, _, h => by cases h
  | i :: r, [], _, h => by cases h
  | i :: r, v :: cs, x, h => by
    cases v <;> first | (simp [getSbs] at h; done) | skip
    rename_i b n
    simp only [getSbs] at h
    replace h := Option.ite_none_right_eq_some.1 h
    obtain ⟨⟨h1, h2⟩, h⟩ := h
    split at h
    · rename_i y q
      injection h with h
      subst h
      obtain ⟨w1, w2⟩ := getSbs_args q
      refine ⟨⟨.sb b i n h1 h2, w1⟩, ?_⟩
      show _ :: _ = _ :: _
      exact congrArg _ w2
    · cases h
theorem ArgsL.app {m : Nat → Nat} {n : Nat} : ∀ {cs ds cs' ds' : List AV}, ArgsL m n cs ds → ArgsL m n cs' ds' → ArgsL m n (cs ++ cs') (ds ++ ds')
  | [], [], _, _, _, h => h
  | c :: cs, d :: ds, _, _, h, h' => ⟨h.1, ArgsL.app h.2 h'⟩
  | [], _ :: _, _, _, h, _ => h.elim
  | _ :: _, [], _, _, h, _ => h.elim
theorem allB_hard : ∀ {l : List AV}, allB AV.plain l = true → allB AV.hard l = true
  | [], _ => rfl
  | c :: r, h => by
    simp only [allB, Bool.and_eq_true] at h ⊢
    exact ⟨AV.plain_hard h.1, allB_hard h.2⟩
theorem sbsS_len (g : Nat → Nat) : ∀ (is : List Nat) (x : (intsT is).T), (sbsS g is x).length = is.length
  | [], _ => rfl
  | i :: r, x => by simp [sbsS, sbsS_len g r]
theorem sbsS_non (g : Nat → Nat) : ∀ (is : List Nat) (x : (intsT is).T), allB notNon (avL (sbsS g is x)) = true
  | [], _ => rfl
  | i :: r, x => by
    show (notNon (.sb _ _) && allB notNon (avL (sbsS g r x.2))) = true
    rw [sbsS_non g r]; rfl
/-- The own lists behind a block's data. -/
def getOws (msF : List Nat) : (es : List (Nat × Nat × Ty)) → List SV → Option (ownsT es).T
  | [], [] => some ()
  | o :: r, .ow b e τ xs :: cs => if o.1 < msF.length ∧ b = nthN msF o.1 ∧ e = o.2.1 then (if h : τ = o.2.2 then (match getOws msF r cs with
    | some y => some (h ▸ xs, y)
    | none => none) else none) else none
  | _, _ => none
theorem getOws_args {msF : List Nat} : ∀ {es : List (Nat × Nat × Ty)} {cs : List SV} {x : (ownsT es).T}, getOws msF es cs = some x → ArgsL (nthN msF) msF.length (avL cs) (avL (owsS id es x))
  | [], [], _, _ => trivial
  | [], _ :: _, _, h => by cases h
  | o :: r, [], _, h => by cases h
  | (i, e0, σ) :: r, v :: cs, x, h => by
    cases v <;> first | (simp [getOws] at h; done) | skip
    rename_i b e τ xs
    simp only [getOws] at h
    replace h := Option.ite_none_right_eq_some.1 h
    obtain ⟨⟨h1, h2, h3⟩, h⟩ := h
    split at h
    · rename_i hτ
      split at h
      · rename_i y q
        injection h with h
        subst h
        subst hτ
        subst h3
        exact ⟨.ow b i e _ _ h1 h2, getOws_args q⟩
      · cases h
    · cases h
theorem owsS_len (g : Nat → Nat) : ∀ (es : List (Nat × Nat × Ty)) (x : (ownsT es).T), (owsS g es x).length = es.length
  | [], _ => rfl
  | i :: r, x => by simp [owsS, owsS_len g r]
theorem owsS_non (g : Nat → Nat) : ∀ (es : List (Nat × Nat × Ty)) (x : (ownsT es).T), allB notNon (avL (owsS g es x)) = true
  | [], _ => rfl
  | i :: r, x => by
    show (notNon (.ow _ _ _ _) && allB notNon (avL (owsS g r x.2))) = true
    rw [owsS_non g r]; rfl
def getBlks (msF : List Nat) : (bl : List BK) → List Nat → List (List SV) → Option (tupT (BK.tys bl)).T
  | [], [], _ => some ()
  | .dat τ :: r, b :: ms, H => if b < H.length ∧ 0 < τ.size ∧ allS AV.plain (nthSB H b) = true then (match gtRow τ (nthSB H b) with
    | some x => match getBlks msF r ms H with
      | some y => some (x, y)
      | none => none
    | none => none) else none
  | .ref i :: r, b :: ms, H => if b < H.length ∧ i < msF.length ∧ isRef (nthSB H b) (nthN msF i) = true then getBlks msF r ms H else none
  | .arr τ :: r, b :: ms, H => if b < H.length then (match nthSB H b with
    | [.arr τ' xs] => if h : τ' = τ then (match getBlks msF r ms H with
      | some y => some (h ▸ xs, y)
      | none => none) else none
    | _ => none) else none
  | .cel τ is :: r, b :: ms, H => if b < H.length ∧ 0 < τ.size ∧ allS AV.plain (nthSB H b) = true then (match gtCells τ (nthSB H b) with
    | some (x, cs) => match getSbs msF is cs with
      | some z => match getBlks msF r ms H with
        | some y => some ((x, z), y)
        | none => none
      | none => none
    | none => none) else none
  | .cow τ es :: r, b :: ms, H => if b < H.length ∧ 0 < τ.size + es.length ∧ allS AV.plain (nthSB H b) = true then (match gtCells τ (nthSB H b) with
    | some (x, cs) => match getOws msF es cs with
      | some z => match getBlks msF r ms H with
        | some y => some ((x, z), y)
        | none => none
      | none => none
    | none => none) else none
  | .tok :: r, b :: ms, H => if b < H.length then (match nthSB H b with
    | [.tok n] => match getBlks msF r ms H with
      | some y => some ((n : Int), y)
      | none => none
    | _ => none) else none
  | [], _ :: _, _ => none
  | _ :: _, [], _ => none

theorem enc_notNon : ∀ (τ : Ty) (x : τ.T), allB notNon (τ.enc x) = true
  | .int _, _ => rfl
  | .bool, _ => rfl
  | .str, _ => rfl
  | .unit, _ => rfl
  | .pair a b, x => by
    show allB notNon (a.enc x.1 ++ b.enc x.2) = true
    rw [allB_append, enc_notNon a, enc_notNon b]; rfl
  | .list _, _ => rfl

theorem getBlks_hand {msF : List Nat} (ex : List (List AV)) : ∀ (bl : List BK) (ms : List Nat) (H : List (List SV)) (y y' : (tupT (BK.tys bl)).T), getBlks msF bl ms H = some y →
    handL (nthN msF) msF.length (H.map avL) ms ((blocksS id bl y).map avL) ((blocksS id bl y').map avL ++ ex) ∧ ms.length = bl.length
  | [], [], _, _, _, _ => ⟨trivial, rfl⟩
  | [], _ :: _, _, _, _, h => by cases h
  | .dat _ :: _, [], _, _, _, h => by cases h
  | .ref _ :: _, [], _, _, _, h => by cases h
  | .arr _ :: _, [], _, _, _, h => by cases h
  | .cel _ _ :: _, [], _, _, _, h => by cases h
  | .cow _ _ :: _, [], _, _, _, h => by cases h
  | .tok :: _, [], _, _, _, h => by cases h
  | .tok :: r, b :: ms, H, y, y', h => by
    simp only [getBlks] at h
    replace h := Option.ite_none_right_eq_some.1 h
    obtain ⟨h1, h⟩ := h
    split at h
    · rename_i n q
      split at h
      · rename_i z q2
        injection h with h
        subst h
        obtain ⟨w1, w2⟩ := getBlks_hand ex r ms H z y'.2 q2
        refine ⟨⟨⟨by rw [List.length_map]; exact h1, ?_, ?_, ?_, rfl⟩, ?_, w1⟩, by simp [w2]⟩
        · rw [nthSB_av, q]; exact Nat.zero_lt_one
        · rw [nthSB_av, q]; rfl
        · rw [nthSB_av, q]; rfl
        · rw [nthSB_av, q]; exact ⟨.tok _, trivial⟩
      · cases h
    · cases h
  | .cow τ es :: r, b :: ms, H, y, y', h => by
    simp only [getBlks] at h
    replace h := Option.ite_none_right_eq_some.1 h
    obtain ⟨⟨h1, h2, h3⟩, h⟩ := h
    split at h
    · rename_i x cs q
      split at h
      · rename_i z qz
        split at h
        · rename_i y1 q2
          injection h with h
          subst h
          obtain ⟨w1, w2⟩ := getBlks_hand ex r ms H y1 y'.2 q2
          obtain ⟨p, e1, e2⟩ := gtCells_lo q
          have s1 := getOws_args qz
          have hargs : ArgsL (nthN msF) msF.length (avL (nthSB H b)) (avL (τ.svs x ++ owsS id es z)) := by
            rw [e1, avL_app, avL_app, τ.svs_av]
            exact e2.args.app s1
          have hl := hargs.len
          rw [avL_length, avL_length, List.length_append, owsS_len] at hl
          have hl2 : (τ.svs x).length = τ.size := by rw [← avL_length, τ.svs_av, Ty.enc_length]
          have hl3 : (τ.svs y'.1.1).length = τ.size := by rw [← avL_length, τ.svs_av, Ty.enc_length]
          refine ⟨⟨⟨by rw [List.length_map]; exact h1, ?_, ?_, ?_, ?_⟩, ?_, w1⟩, by simp [w2]⟩
          · rw [nthSB_av, avL_length]; omega
          · rw [nthSB_av]; exact allB_hard (by rw [allS_av]; exact h3)
          · show (avL (τ.svs y'.1.1 ++ owsS id es y'.1.2)).length = _
            rw [nthSB_av, avL_length, avL_length, List.length_append, owsS_len]; omega
          · show allB notNon (avL (τ.svs y'.1.1 ++ owsS id es y'.1.2)) = true
            rw [avL_app, allB_append, τ.svs_av, enc_notNon, owsS_non]; rfl
          · show ArgsL _ _ (nthB (H.map avL) b) (avL (τ.svs x ++ owsS id es z))
            rw [nthSB_av]; exact hargs
        · cases h
      · cases h
    · cases h
  | .arr τ :: r, b :: ms, H, y, y', h => by
    simp only [getBlks] at h
    replace h := Option.ite_none_right_eq_some.1 h
    obtain ⟨h1, h⟩ := h
    split at h
    · rename_i τ' xs q
      split at h
      · rename_i e
        split at h
        · rename_i z q2
          injection h with h
          subst e
          subst h
          obtain ⟨w1, w2⟩ := getBlks_hand ex r ms H z y'.2 q2
          refine ⟨⟨⟨by rw [List.length_map]; exact h1, ?_, ?_, ?_, rfl⟩, ?_, w1⟩, by simp [w2]⟩
          · rw [nthSB_av, q]; exact Nat.zero_lt_one
          · rw [nthSB_av, q]; rfl
          · rw [nthSB_av, q]; rfl
          · rw [nthSB_av, q]; exact ⟨.arr _ _, trivial⟩
        · cases h
      · cases h
    · cases h
  | .cel τ is :: r, b :: ms, H, y, y', h => by
    simp only [getBlks] at h
    replace h := Option.ite_none_right_eq_some.1 h
    obtain ⟨⟨h1, h2, h3⟩, h⟩ := h
    split at h
    · rename_i x cs q
      split at h
      · rename_i z qz
        split at h
        · rename_i y1 q2
          injection h with h
          subst h
          obtain ⟨w1, w2⟩ := getBlks_hand ex r ms H y1 y'.2 q2
          obtain ⟨p, e1, e2⟩ := gtCells_lo q
          obtain ⟨s1, s2⟩ := getSbs_args qz
          have hargs : ArgsL (nthN msF) msF.length (avL (nthSB H b)) (avL (τ.svs x ++ sbsS id is z)) := by
            rw [e1, avL_app, avL_app, τ.svs_av]
            exact e2.args.app s1
          have hl := hargs.len
          rw [avL_length, avL_length, List.length_append, sbsS_len] at hl
          have hl2 : (τ.svs x).length = τ.size := by rw [← avL_length, τ.svs_av, Ty.enc_length]
          have hl3 : (τ.svs y'.1.1).length = τ.size := by rw [← avL_length, τ.svs_av, Ty.enc_length]
          refine ⟨⟨⟨by rw [List.length_map]; exact h1, ?_, ?_, ?_, ?_⟩, ?_, w1⟩, by simp [w2]⟩
          · rw [nthSB_av, avL_length]; omega
          · rw [nthSB_av]; exact allB_hard (by rw [allS_av]; exact h3)
          · show (avL (τ.svs y'.1.1 ++ sbsS id is y'.1.2)).length = _
            rw [nthSB_av, avL_length, avL_length, List.length_append, sbsS_len]; omega
          · show allB notNon (avL (τ.svs y'.1.1 ++ sbsS id is y'.1.2)) = true
            rw [avL_app, allB_append, τ.svs_av, enc_notNon, sbsS_non]; rfl
          · show ArgsL _ _ (nthB (H.map avL) b) (avL (τ.svs x ++ sbsS id is z))
            rw [nthSB_av]; exact hargs
        · cases h
      · cases h
    · cases h
  | .dat τ :: r, b :: ms, H, y, y', h => by
    simp only [getBlks] at h
    replace h := Option.ite_none_right_eq_some.1 h
    obtain ⟨⟨h1, h2, h3⟩, h⟩ := h
    split at h
    · rename_i x q
      split at h
      · rename_i z q2
        injection h with h
        subst h
        obtain ⟨w1, w2⟩ := getBlks_hand ex r ms H z y'.2 q2
        refine ⟨⟨⟨by rw [List.length_map]; exact h1, ?_, ?_, ?_, ?_⟩, ?_, w1⟩, by simp [w2]⟩
        · rw [nthSB_av, avL_length, gtRow_len q]; exact h2
        · rw [nthSB_av]; exact allB_hard (by rw [allS_av]; exact h3)
        · show (avL (τ.svs y'.1)).length = _
          rw [nthSB_av, avL_length (nthSB H b), gtRow_len q, τ.svs_av, Ty.enc_length]
        · show allB notNon (avL (τ.svs y'.1)) = true
          rw [τ.svs_av]; exact enc_notNon _ _
        · show ArgsL _ _ (nthB (H.map avL) b) (avL (τ.svs x))
          rw [nthSB_av, τ.svs_av]; exact (gtRow_lo q).args
      · cases h
    · cases h
  | .ref i :: r, b :: ms, H, y, y', h => by
    simp only [getBlks] at h
    replace h := Option.ite_none_right_eq_some.1 h
    obtain ⟨⟨h1, h2, h3⟩, h⟩ := h
    obtain ⟨w1, w2⟩ := getBlks_hand ex r ms H y y' h
    have e := isRef_eq h3
    refine ⟨⟨⟨by rw [List.length_map]; exact h1, ?_, ?_, ?_, rfl⟩, ?_, w1⟩, by simp [w2]⟩
    · rw [nthSB_av, e]; exact Nat.zero_lt_one
    · rw [nthSB_av, e]; rfl
    · rw [nthSB_av, e]; rfl
    · rw [nthSB_av, e]; exact ⟨arg_ptr rfl h2 rfl, trivial⟩

/-! ### What comes back -/

theorem renL_eq (m : Nat → Nat) (l : List AV) : ren.renL m l = l.map (ren m) := by
  induction l with
  | nil => rfl
  | cons c r ih => simp only [ren.renL, List.map_cons, ih]
theorem enc_ren (m : Nat → Nat) : ∀ (τ : Ty) (x : τ.T), (τ.enc x).map (ren m) = τ.enc x
  | .int _, _ => rfl
  | .bool, _ => rfl
  | .str, _ => rfl
  | .unit, _ => rfl
  | .pair a b, x => by
    show (a.enc x.1 ++ b.enc x.2).map (ren m) = _
    rw [List.map_append, enc_ren m a, enc_ren m b]; rfl
  | .list _, _ => rfl
theorem oneA_ren (m : Nat → Nat) : ∀ (τ : Ty) (x : τ.T), ren m (oneA τ x) = oneA τ x
  | .int _, _ => rfl
  | .bool, _ => rfl
  | .str, _ => rfl
  | .unit, _ => rfl
  | .pair _ _, _ => rfl
  | .list _, _ => rfl
theorem VT.sv_ren (m : Nat → Nat) : ∀ (v : VT) (x : v.ty.T), ren m (v.sv x).av = (v.sv x).av
  | .one τ, x => by
    show ren m (oneS τ x).av = (oneS τ x).av
    rw [oneS_av, oneA_ren]
  | .agg τ, x => by
    show ren m (.agg (avL (τ.svs x))) = .agg (avL (τ.svs x))
    simp only [ren, renL_eq, τ.svs_av, enc_ren]
  | .err, x => rfl
theorem resS_ren (mm : Nat → Nat) (n0 base : Nat) : ∀ (rs : List RK) (x : (tupT (RK.tys rs)).T) (j : Nat), (avL (resS (n0 + j) rs x)).map (ren (newIds mm n0 base)) = avL (resS (base + j) rs x)
  | [], _, _ => rfl
  | .val v :: r, x, j => by
    show ren _ (v.sv x.1).av :: (avL (resS (n0 + j) r x.2)).map _ = (v.sv x.1).av :: avL (resS (base + j) r x.2)
    rw [VT.sv_ren, resS_ren mm n0 base r]
  | .own e τ :: r, x, j => by
    show ren _ (SV.ow (n0 + j) e τ x.1).av :: (avL (resS (n0 + j + 1) r x.2)).map _ = (SV.ow (base + j) e τ x.1).av :: avL (resS (base + j + 1) r x.2)
    rw [Nat.add_assoc, Nat.add_assoc, resS_ren mm n0 base r]
    simp only [SV.av, ren, newIds]
    rw [if_neg (by omega)]
    rw [show base + (n0 + j - n0) = base + j by omega]
  | .row τ :: r, x, j => by
    show ren _ (SV.sb (n0 + j) (Int.toNat x.1.1)).av :: (avL (resS (n0 + j + 1) r x.2)).map _ = (SV.sb (base + j) (Int.toNat x.1.1)).av :: avL (resS (base + j + 1) r x.2)
    rw [Nat.add_assoc, Nat.add_assoc, resS_ren mm n0 base r]
    simp only [SV.av, ren, newIds]
    rw [if_neg (by omega)]
    rw [show base + (n0 + j - n0) = base + j by omega]
  | .ptr τ :: r, x, j => by
    simp only [resS]
    cases x.1.1
    · show ren _ AV.nilp :: (avL (resS (n0 + j) r x.2)).map _ = AV.nilp :: avL (resS (base + j) r x.2)
      rw [resS_ren mm n0 base r]; rfl
    · show ren _ (AV.ptr (n0 + j) 0) :: (avL (resS (n0 + j + 1) r x.2)).map _ = AV.ptr (base + j) 0 :: avL (resS (base + j + 1) r x.2)
      rw [Nat.add_assoc, Nat.add_assoc, resS_ren mm n0 base r]
      simp only [ren, newIds]
      rw [if_neg (by omega)]
      rw [show base + (n0 + j - n0) = base + j by omega]
  | .map τ :: r, x, j => by
    simp only [resS]
    cases x.1.1
    · show ren _ AV.nilm :: (avL (resS (n0 + j) r x.2)).map _ = AV.nilm :: avL (resS (base + j) r x.2)
      rw [resS_ren mm n0 base r]; rfl
    · show ren _ (AV.mp (n0 + j)) :: (avL (resS (n0 + j + 1) r x.2)).map _ = AV.mp (base + j) :: avL (resS (base + j + 1) r x.2)
      rw [Nat.add_assoc, Nat.add_assoc, resS_ren mm n0 base r]
      simp only [ren, newIds]
      rw [if_neg (by omega)]
      rw [show base + (n0 + j - n0) = base + j by omega]
  | .fnb f τ :: r, x, j => by
    show ren _ (AV.fn f [.ptr (n0 + j) 0]) :: (avL (resS (n0 + j + 1) r x.2)).map _ = AV.fn f [.ptr (base + j) 0] :: avL (resS (base + j + 1) r x.2)
    rw [Nat.add_assoc, Nat.add_assoc, resS_ren mm n0 base r]
    simp only [ren, ren.renL, newIds]
    rw [if_neg (by omega)]
    rw [show base + (n0 + j - n0) = base + j by omega]
  | .mad a e τ b :: r, x, j => by
    have h1 : ∀ q, avL (a.svs x.1.1 ++ SV.sb q (List.length (α := τ.T) x.1.2.1) :: b.svs x.1.2.2) = a.enc x.1.1 ++ AV.sb q (List.length (α := τ.T) x.1.2.1) :: b.enc x.1.2.2 := fun q => by
      rw [avL_app, a.svs_av]
      show _ ++ AV.sb q _ :: avL (b.svs _) = _
      rw [b.svs_av]
    show ren _ (.agg (avL (a.svs x.1.1 ++ SV.sb (n0 + j) _ :: b.svs x.1.2.2))) :: (avL (resS (n0 + j + 1) r x.2)).map _ = .agg (avL (a.svs x.1.1 ++ SV.sb (base + j) _ :: b.svs x.1.2.2)) :: avL (resS (base + j + 1) r x.2)
    rw [Nat.add_assoc, Nat.add_assoc, resS_ren mm n0 base r, h1, h1]
    simp only [ren, renL_eq, List.map_append, List.map_cons, enc_ren, newIds]
    rw [if_neg (by omega)]
    rw [show base + (n0 + j - n0) = base + j by omega]
theorem sing_ren (m : Nat → Nat) : ∀ l : List AV, ren m (sing l) = sing (l.map (ren m))
  | [] => rfl
  | [c] => rfl
  | c :: d :: r => by simp only [sing, ren, renL_eq, List.map_cons]
theorem newsS_ren (m : Nat → Nat) : ∀ (rs : List RK) (x : (tupT (RK.tys rs)).T), ((newsS rs x).map avL).map (fun l => l.map (ren m)) = (newsS rs x).map avL
  | [], _ => rfl
  | .val v :: r, x => newsS_ren m r x.2
  | .own e τ :: r, x => by
    show _ :: _ = _ :: _
    rw [newsS_ren m r x.2]; rfl
  | .row τ :: r, x => by
    show _ :: _ = _ :: _
    rw [newsS_ren m r x.2]; rfl
  | .ptr τ :: r, x => by
    simp only [newsS]
    cases x.1.1
    · exact newsS_ren m r x.2
    · show (avL (τ.svs x.1.2)).map (ren m) :: _ = avL (τ.svs x.1.2) :: _
      rw [newsS_ren m r x.2, τ.svs_av, enc_ren]
  | .map τ :: r, x => by
    simp only [newsS]
    cases x.1.1
    · exact newsS_ren m r x.2
    · show _ :: _ = _ :: _
      rw [newsS_ren m r x.2]; rfl
  | .mad _ _ _ _ :: r, x => by
    show _ :: _ = _ :: _
    rw [newsS_ren m r x.2]; rfl
  | .fnb _ τ :: r, x => by
    show (avL (τ.svs x.1)).map (ren m) :: _ = avL (τ.svs x.1) :: _
    rw [newsS_ren m r x.2, τ.svs_av, enc_ren]

def backsI (ms : List Nat) (Bs : List (List SV)) : Nat → Nat → List (Nat × Nat × SV)
  | _, 0 => []
  | b, n + 1 => writesS (nthN ms b) 0 (nthSB Bs b) ++ backsI ms Bs (b + 1) n
def keysI (ms : List Nat) (Bs : List (List SV)) : Nat → Nat → List (Nat × Nat)
  | _, 0 => []
  | b, n + 1 => ks (nthN ms b) 0 (nthSB Bs b).length ++ keysI ms Bs (b + 1) n
theorem backsI_av (ms : List Nat) (m' : Nat → Nat) (Bs Bs' : List (List SV)) (h : ∀ b, (avL (nthSB Bs b)).map (ren m') = avL (nthSB Bs' b)) : ∀ (n b : Nat), (backsI ms Bs' b n).map wav = backs (nthN ms) m' b n (Bs.map avL)
  | 0, _ => rfl
  | n + 1, b => by
    simp only [backsI, backs, List.map_append, writesS_av, backsI_av ms m' Bs Bs' h n, nthSB_av, h]
theorem keysI_av (ms : List Nat) (Bs : List (List SV)) : ∀ (n b : Nat), keysI ms Bs b n = keysOf (nthN ms) b n (Bs.map avL)
  | 0, _ => rfl
  | n + 1, b => by simp only [keysI, keysOf, keysI_av ms Bs n, nthSB_av, avL_length]
def allLt (n : Nat) : List Nat → Bool
  | [] => true
  | i :: r => decide (i < n) && allLt n r
theorem sbs_ren (mm : Nat → Nat) (n base : Nat) : ∀ (is : List Nat) (x : (intsT is).T), allLt n is = true → (avL (sbsS id is x)).map (ren (newIds mm n base)) = avL (sbsS mm is x)
  | [], _, _ => rfl
  | i :: r, x, h => by
    simp only [allLt, Bool.and_eq_true, decide_eq_true_eq] at h
    show ren (newIds mm n base) (.sb i _) :: (avL (sbsS id r x.2)).map _ = AV.sb (mm i) _ :: avL (sbsS mm r x.2)
    rw [sbs_ren mm n base r x.2 h.2]
    simp only [ren, newIds, if_pos h.1]
def allLtO (n : Nat) : List (Nat × Nat × Ty) → Bool
  | [] => true
  | o :: r => decide (o.1 < n) && allLtO n r
theorem ows_ren (mm : Nat → Nat) (n base : Nat) : ∀ (es : List (Nat × Nat × Ty)) (x : (ownsT es).T), allLtO n es = true → (avL (owsS id es x)).map (ren (newIds mm n base)) = avL (owsS mm es x)
  | [], _, _ => rfl
  | o :: r, x, h => by
    simp only [allLtO, Bool.and_eq_true, decide_eq_true_eq] at h
    show ren (newIds mm n base) (.ow o.1 _ _ _) :: (avL (owsS id r x.2)).map _ = AV.ow (mm o.1) _ _ _ :: avL (owsS mm r x.2)
    rw [ows_ren mm n base r x.2 h.2]
    simp only [ren, newIds, if_pos h.1]
def refsIn (n : Nat) : List BK → Bool
  | [] => true
  | .dat _ :: r => refsIn n r
  | .ref i :: r => decide (i < n) && refsIn n r
  | .arr _ :: r => refsIn n r
  | .cel _ is :: r => allLt n is && refsIn n r
  | .cow _ es :: r => allLtO n es && refsIn n r
  | .tok :: r => refsIn n r
theorem blocks_ren (mm : Nat → Nat) (n base : Nat) : ∀ (bl : List BK) (y : (tupT (BK.tys bl)).T) (b : Nat), refsIn n bl = true → (avL (nthSB (blocksS id bl y) b)).map (ren (newIds mm n base)) = avL (nthSB (blocksS mm bl y) b)
  | [], _, _, _ => rfl
  | .dat τ :: r, y, 0, _ => by
    show (avL (τ.svs y.1)).map _ = avL (τ.svs y.1)
    rw [τ.svs_av, enc_ren]
  | .dat τ :: r, y, b + 1, h => blocks_ren mm n base r y.2 b h
  | .ref i :: r, y, 0, h => by
    simp only [refsIn, Bool.and_eq_true, decide_eq_true_eq] at h
    show [ren (newIds mm n base) (.ptr i 0)] = [AV.ptr (mm i) 0]
    simp only [ren, newIds, if_pos h.1]
  | .ref i :: r, y, b + 1, h => by
    simp only [refsIn, Bool.and_eq_true] at h
    exact blocks_ren mm n base r y b h.2
  | .arr τ :: r, y, 0, _ => rfl
  | .arr τ :: r, y, b + 1, h => blocks_ren mm n base r y.2 b h
  | .cel τ is :: r, y, 0, h => by
    simp only [refsIn, Bool.and_eq_true] at h
    show (avL (τ.svs y.1.1 ++ sbsS id is y.1.2)).map _ = avL (τ.svs y.1.1 ++ sbsS mm is y.1.2)
    rw [avL_app, avL_app, List.map_append, τ.svs_av, enc_ren, sbs_ren _ _ _ _ _ h.1]
  | .cel τ is :: r, y, b + 1, h => by
    simp only [refsIn, Bool.and_eq_true] at h
    exact blocks_ren mm n base r y.2 b h.2
  | .cow τ es :: r, y, 0, h => by
    simp only [refsIn, Bool.and_eq_true] at h
    show (avL (τ.svs y.1.1 ++ owsS id es y.1.2)).map _ = avL (τ.svs y.1.1 ++ owsS mm es y.1.2)
    rw [avL_app, avL_app, List.map_append, τ.svs_av, enc_ren, ows_ren _ _ _ _ _ h.1]
  | .cow τ es :: r, y, b + 1, h => by
    simp only [refsIn, Bool.and_eq_true] at h
    exact blocks_ren mm n base r y.2 b h.2
  | .tok :: r, y, 0, _ => rfl
  | .tok :: r, y, b + 1, h => blocks_ren mm n base r y.2 b h
theorem news_ren (m : Nat → Nat) : ∀ (rs : List RK) (x : (tupT (RK.tys rs)).T) (b : Nat), (avL (nthSB (newsS rs x) b)).map (ren m) = avL (nthSB (newsS rs x) b) := fun rs x b => by
  have h := newsS_ren m rs x
  have e : ∀ (L : List (List SV)), (L.map avL).map (fun l => l.map (ren m)) = L.map avL → ∀ b, (avL (nthSB L b)).map (ren m) = avL (nthSB L b) := by
    intro L
    induction L with
    | nil => intro _ b; rfl
    | cons l L ih =>
      intro h b
      simp only [List.map_cons, List.cons.injEq] at h
      cases b with
      | zero => exact h.1
      | succ b => exact ih h.2 b
  exact e _ h b
theorem nthSB_cat : ∀ (A B : List (List SV)) (b : Nat), nthSB (A ++ B) b = if b < A.length then nthSB A b else nthSB B (b - A.length)
  | [], B, b => by simp
  | l :: r, B, 0 => by simp [nthSB]
  | l :: r, B, b + 1 => by simp [nthSB, nthSB_cat r B b]

section
variable {ρ : Type}

/-- Pointers among the results are looked at once. -/
def brP : (rs : List RK) → (tupT (RK.tys rs)).T → ((tupT (RK.tys rs)).T → Tr ρ) → Tr ρ
  | [], _, k => k ()
  | .val _ :: r, x, k => brP r x.2 fun y => k (x.1, y)
  | .own _ _ :: r, x, k => brP r x.2 fun y => k (x.1, y)
  | .row _ :: r, x, k => brP r x.2 fun y => k (x.1, y)
  | .mad _ _ _ _ :: r, x, k => brP r x.2 fun y => k (x.1, y)
  | .fnb _ _ :: r, x, k => brP r x.2 fun y => k (x.1, y)
  | .ptr _ :: r, x, k => .br x.1.1 (brP r x.2 fun y => k ((true, x.1.2), y)) (brP r x.2 fun y => k ((false, x.1.2), y))
  | .map _ :: r, x, k => .br x.1.1 (brP r x.2 fun y => k ((true, x.1.2), y)) (brP r x.2 fun y => k ((false, x.1.2), y))
theorem brP_ok {r : ρ} : ∀ (rs : List RK) (x : (tupT (RK.tys rs)).T) (k : (tupT (RK.tys rs)).T → Tr ρ), (brP rs x k).run = some r → (k x).run = some r
  | [], _, _, h => h
  | .val _ :: l, x, k, h => brP_ok l x.2 _ h
  | .own _ _ :: l, x, k, h => brP_ok l x.2 _ h
  | .row _ :: l, x, k, h => brP_ok l x.2 _ h
  | .mad _ _ _ _ :: l, x, k, h => brP_ok l x.2 _ h
  | .fnb _ _ :: l, x, k, h => brP_ok l x.2 _ h
  | .ptr _ :: l, x, k, h => by
    obtain ⟨h1, h2⟩ := run_br h
    obtain ⟨⟨a, b⟩, y⟩ := x
    cases a with
    | true => exact brP_ok l _ _ (h1 rfl)
    | false => exact brP_ok l _ _ (h2 rfl)
  | .map _ :: l, x, k, h => by
    obtain ⟨h1, h2⟩ := run_br h
    obtain ⟨⟨a, b⟩, y⟩ := x
    cases a with
    | true => exact brP_ok l _ _ (h1 rfl)
    | false => exact brP_ok l _ _ (h2 rfl)

/-- Whether two values of a type are the same. -/
def Ty.eqb : (τ : Ty) → τ.T → τ.T → Bool
  | .int _, x, y => decide ((show Int from x) = y)
  | .bool, x, y => decide ((show Bool from x) = y)
  | .str, x, y => decide ((show List UInt8 from x) = y)
  | .unit, _, _ => true
  | .pair a b, x, y => a.eqb x.1 y.1 && b.eqb x.2 y.2
  | .list a, x, y => eqbL a.eqb x y
where eqbL {α : Type} (f : α → α → Bool) : List α → List α → Bool
  | [], [] => true
  | x :: l, y :: m => f x y && eqbL f l m
  | _, _ => false
theorem eqbL_eq {α : Type} {f : α → α → Bool} (hf : ∀ x y, f x y = true → x = y) : ∀ (l m : List α), Ty.eqb.eqbL f l m = true → l = m
  | [], [], _ => rfl
  | x :: l, y :: m, h => by
    simp only [Ty.eqb.eqbL, Bool.and_eq_true] at h
    rw [hf x y h.1, eqbL_eq hf l m h.2]
  | [], _ :: _, h => by cases h
  | _ :: _, [], h => by cases h
theorem eqb_eq : ∀ {τ : Ty} {x y : τ.T}, τ.eqb x y = true → x = y
  | .int _, x, y, h => of_decide_eq_true h
  | .bool, x, y, h => of_decide_eq_true h
  | .str, x, y, h => of_decide_eq_true h
  | .unit, _, _, _ => rfl
  | .pair a b, x, y, h => by
    simp only [Ty.eqb, Bool.and_eq_true] at h
    exact Prod.ext (eqb_eq h.1) (eqb_eq h.2)
  | .list a, x, y, h => eqbL_eq (fun _ _ h => eqb_eq h) x y h
theorem eqbL_self {α : Type} {f : α → α → Bool} (hf : ∀ x, f x x = true) : ∀ (l : List α), Ty.eqb.eqbL f l l = true
  | [] => rfl
  | x :: l => by simp only [Ty.eqb.eqbL, hf x, eqbL_self hf l, Bool.and_self]
theorem eqb_self : ∀ (τ : Ty) (x : τ.T), τ.eqb x x = true
  | .int _, x => decide_eq_true rfl
  | .bool, x => decide_eq_true rfl
  | .str, x => decide_eq_true rfl
  | .unit, _ => rfl
  | .pair a b, x => by simp only [Ty.eqb, eqb_self a, eqb_self b, Bool.and_self]
  | .list a, x => eqbL_self (eqb_self a) x

/-- Cells that lose nothing when they are handed over. -/
def stab : AV → Bool
  | .ow .. => false
  | .emp => false
  | _ => true
theorem Lo.eq {c d : AV} (h : Lo c d) (hs : stab c = true) : c = d := by
  rcases h with ⟨h1, rfl⟩ | ⟨rfl, _⟩
  · cases c <;> first | rfl | cases hs
  · cases hs
theorem LoL.eq : ∀ {cs ds : List AV}, LoL cs ds → allB stab cs = true → cs = ds
  | [], [], _, _ => rfl
  | c :: cs, d :: ds, h, h2 => by
    simp only [allB, Bool.and_eq_true] at h2
    rw [h.1.eq h2.1, LoL.eq h.2 h2.2]
  | [], _ :: _, h, _ => h.elim
  | _ :: _, [], h, _ => h.elim
/-- Which blocks are tried as ones that are handed back as they were. -/
def roK (ro : Bool) : List BK → Nat → Bool
  | [], _ => false
  | .cel _ _ :: _, 0 => true
  | _ :: _, 0 => ro
  | _ :: r, i + 1 => roK ro r i
def anyK (ro : Bool) : List BK → Bool
  | [] => false
  | .cel _ _ :: _ => true
  | _ :: r => ro || anyK ro r
def roB (ro : Bool) : List BK → List Nat → List (List SV) → Bool
  | [], _, _ => true
  | .dat _ :: r, b :: ms, H => (!ro || allS stab (nthSB H b)) && roB ro r ms H
  | .arr _ :: r, _ :: ms, H => roB ro r ms H
  | .cel _ _ :: r, b :: ms, H => allS stab (nthSB H b) && roB ro r ms H
  | .ref _ :: r, _ :: ms, H => !ro && roB ro r ms H
  | .cow _ _ :: r, _ :: ms, H => !ro && roB ro r ms H
  | .tok :: r, _ :: ms, H => !ro && roB ro r ms H
  | _, _, _ => false
/-- The data of these blocks are as they were. -/
def eqK (ro : Bool) : (bl : List BK) → (tupT (BK.tys bl)).T → (tupT (BK.tys bl)).T → Bool
  | [], _, _ => true
  | .dat τ :: r, x, y => (!ro || τ.eqb x.1 y.1) && eqK ro r x.2 y.2
  | .arr τ :: r, x, y => (!ro || (Ty.list τ).eqb x.1 y.1) && eqK ro r x.2 y.2
  | .cel τ is :: r, x, y => (Ty.pair τ (intsT is)).eqb x.1 y.1 && eqK ro r x.2 y.2
  | .ref _ :: r, x, y => eqK ro r x y
  | .cow _ _ :: r, x, y => eqK ro r x.2 y.2
  | .tok :: r, x, y => eqK ro r x.2 y.2
theorem eqK_self (ro : Bool) : ∀ (bl : List BK) (x : (tupT (BK.tys bl)).T), eqK ro bl x x = true
  | [], _ => rfl
  | .dat τ :: r, x => by simp only [eqK, eqb_self, eqK_self ro r, Bool.or_true, Bool.and_self]
  | .arr τ :: r, x => by simp only [eqK, eqb_self, eqK_self ro r, Bool.or_true, Bool.and_self]
  | .cel τ is :: r, x => by simp only [eqK, eqb_self, eqK_self ro r, Bool.and_self]
  | .ref _ :: r, x => eqK_self ro r x
  | .cow _ _ :: r, x => eqK_self ro r x.2
  | .tok :: r, x => eqK_self ro r x.2
theorem allB_app {p : AV → Bool} {a b : List AV} (h : allB p (a ++ b) = true) : allB p a = true ∧ allB p b = true := by
  rw [allB_append, Bool.and_eq_true] at h; exact h
theorem getSbs_eq {msF : List Nat} : ∀ {is : List Nat} {cs : List SV} {x : (intsT is).T}, getSbs msF is cs = some x → avL cs = avL (sbsS (nthN msF) is x)
  | [], [], _, _ => rfl
  | [], _ :: _, _, h => by cases h
  | i :: r, [], _, h => by cases h
  | i :: r, v :: cs, x, h => by
    cases v <;> first | (simp [getSbs] at h; done) | skip
    rename_i b n
    simp only [getSbs] at h
    replace h := Option.ite_none_right_eq_some.1 h
    obtain ⟨⟨h1, h2⟩, h⟩ := h
    split at h
    · rename_i y q
      injection h with h
      subst h
      show AV.sb b n :: avL cs = AV.sb (nthN msF i) _ :: avL (sbsS (nthN msF) r y)
      rw [getSbs_eq q, h2]; rfl
    · cases h
theorem roB_ok {ro : Bool} {msF : List Nat} : ∀ {bl : List BK} {ms : List Nat} {H : List (List SV)} {y z : (tupT (BK.tys bl)).T}, getBlks msF bl ms H = some y → roB ro bl ms H = true → eqK ro bl z y = true →
    ∀ b, b < bl.length → roK ro bl b = true → avL (nthSB H (nthN ms b)) = avL (nthSB (blocksS (nthN msF) bl z) b)
  | [], _, _, _, _, _, _, _, b, hb, _ => absurd hb (Nat.not_lt_zero b)
  | .dat τ :: r, m :: ms, H, y, z, h, h2, h3, b, hb, hk => by
    simp only [getBlks] at h
    replace h := Option.ite_none_right_eq_some.1 h
    obtain ⟨_, h⟩ := h
    split at h <;> first | (cases h; done) | skip
    rename_i x qx
    split at h <;> first | (cases h; done) | skip
    rename_i y' qy
    injection h with h
    subst h
    simp only [roB, Bool.and_eq_true, Bool.or_eq_true, Bool.not_eq_true'] at h2
    simp only [eqK, Bool.and_eq_true, Bool.or_eq_true, Bool.not_eq_true'] at h3
    cases b with
    | zero =>
      have hro : ro = true := hk
      subst hro
      show avL (nthSB H m) = avL (τ.svs z.1)
      have e := eqb_eq (h3.1.resolve_left (by decide))
      rw [e, τ.svs_av]
      exact (gtRow_lo qx).eq (by rw [allS_av]; exact h2.1.resolve_left (by decide))
    | succ b => exact roB_ok (b := b) qy h2.2 h3.2 (by simpa using hb) hk
  | .arr τ :: r, m :: ms, H, y, z, h, h2, h3, b, hb, hk => by
    simp only [getBlks] at h
    replace h := Option.ite_none_right_eq_some.1 h
    obtain ⟨_, h⟩ := h
    split at h <;> first | (cases h; done) | skip
    rename_i τ' xs q
    split at h <;> first | (cases h; done) | skip
    rename_i e
    split at h <;> first | (cases h; done) | skip
    rename_i y' qy
    injection h with h
    subst e
    subst h
    simp only [eqK, Bool.and_eq_true, Bool.or_eq_true, Bool.not_eq_true'] at h3
    cases b with
    | zero =>
      have hro : ro = true := hk
      subst hro
      show avL (nthSB H m) = avL [.arr _ z.1]
      have e := eqb_eq (h3.1.resolve_left (by decide))
      rw [e, q]
    | succ b => exact roB_ok (b := b) qy h2 h3.2 (by simpa using hb) hk
  | .cel τ is :: r, m :: ms, H, y, z, h, h2, h3, b, hb, hk => by
    simp only [getBlks] at h
    replace h := Option.ite_none_right_eq_some.1 h
    obtain ⟨_, h⟩ := h
    split at h <;> first | (cases h; done) | skip
    rename_i x cs q
    split at h <;> first | (cases h; done) | skip
    rename_i zz qz
    split at h <;> first | (cases h; done) | skip
    rename_i y' qy
    injection h with h
    subst h
    simp only [roB, Bool.and_eq_true] at h2
    simp only [eqK, Bool.and_eq_true] at h3
    cases b with
    | zero =>
      show avL (nthSB H m) = avL (τ.svs z.1.1 ++ sbsS (nthN msF) is z.1.2)
      have e := eqb_eq h3.1
      obtain ⟨p, e1, e2⟩ := gtCells_lo q
      have hs := h2.1
      rw [← allS_av, e1, avL_app] at hs
      rw [e, e1, avL_app, avL_app, τ.svs_av, getSbs_eq qz]
      rw [e2.eq (allB_app hs).1]
    | succ b => exact roB_ok (b := b) qy h2.2 h3.2 (by simpa using hb) hk
  | .ref i :: r, m :: ms, H, y, z, h, h2, h3, b, hb, hk => by
    simp only [getBlks] at h
    replace h := Option.ite_none_right_eq_some.1 h
    obtain ⟨_, h⟩ := h
    simp only [roB, Bool.and_eq_true, Bool.not_eq_true'] at h2
    cases b with
    | zero =>
      have hro : ro = true := hk
      rw [hro] at h2; cases h2.1
    | succ b => exact roB_ok (b := b) h h2.2 h3 (by simpa using hb) hk
  | .cow τ es :: r, m :: ms, H, y, z, h, h2, h3, b, hb, hk => by
    simp only [getBlks] at h
    replace h := Option.ite_none_right_eq_some.1 h
    obtain ⟨_, h⟩ := h
    split at h <;> first | (cases h; done) | skip
    split at h <;> first | (cases h; done) | skip
    split at h <;> first | (cases h; done) | skip
    rename_i y' qy
    injection h with h
    subst h
    have h3 : eqK ro r z.2 y' = true := h3
    simp only [roB, Bool.and_eq_true, Bool.not_eq_true'] at h2
    cases b with
    | zero =>
      have hro : ro = true := hk
      rw [hro] at h2; cases h2.1
    | succ b => exact roB_ok (b := b) qy h2.2 h3 (by simpa using hb) hk
  | .tok :: r, m :: ms, H, y, z, h, h2, h3, b, hb, hk => by
    simp only [getBlks] at h
    replace h := Option.ite_none_right_eq_some.1 h
    obtain ⟨_, h⟩ := h
    split at h <;> first | (cases h; done) | skip
    split at h <;> first | (cases h; done) | skip
    rename_i y' qy
    injection h with h
    subst h
    have h3 : eqK ro r z.2 y' = true := h3
    simp only [roB, Bool.and_eq_true, Bool.not_eq_true'] at h2
    cases b with
    | zero =>
      have hro : ro = true := hk
      rw [hro] at h2; cases h2.1
    | succ b => exact roB_ok (b := b) qy h2.2 h3 (by simpa using hb) hk
  | .cow _ _ :: _, [], _, _, _, h, _, _, _, _, _ => by cases h
  | .tok :: _, [], _, _, _, h, _, _, _, _, _ => by cases h
  | .dat _ :: _, [], _, _, _, h, _, _, _, _, _ => by cases h
  | .ref _ :: _, [], _, _, _, h, _, _, _, _, _ => by cases h
  | .arr _ :: _, [], _, _, _, h, _, _, _, _, _ => by cases h
  | .cel _ _ :: _, [], _, _, _, h, _, _, _, _, _ => by cases h

def maskS (K : Nat → Bool) : Nat → List (List SV) → List (List SV)
  | _, [] => []
  | i, l :: r => (if K i = true then [] else l) :: maskS K (i + 1) r
theorem maskS_av (K : Nat → Bool) : ∀ (H : List (List SV)) (i : Nat), (maskS K i H).map avL = maskH K i (H.map avL)
  | [], _ => rfl
  | l :: r, i => by
    simp only [maskS, List.map_cons, maskH, maskS_av K r]
    congr 1
    split <;> rfl
theorem maskS_get (K : Nat → Bool) : ∀ (H : List (List SV)) (i b : Nat), nthSB (maskS K i H) b = if K (i + b) = true then [] else nthSB H b
  | [], i, b => by simp [maskS, nthSB]
  | l :: r, i, 0 => rfl
  | l :: r, i, b + 1 => by
    show nthSB (maskS K (i + 1) r) b = _
    rw [maskS_get K r (i + 1) b, show i + 1 + b = i + (b + 1) by omega]; rfl
theorem maskS_app (K : Nat → Bool) : ∀ (A B : List (List SV)) (i : Nat), maskS K i (A ++ B) = maskS K i A ++ maskS K (i + A.length) B
  | [], B, i => rfl
  | l :: r, B, i => by
    simp only [List.cons_append, maskS, maskS_app K r B (i + 1), List.length_cons]
    rw [show i + 1 + r.length = i + (r.length + 1) by omega]
theorem maskS_len (K : Nat → Bool) : ∀ (A : List (List SV)) (i : Nat), (maskS K i A).length = A.length
  | [], _ => rfl
  | l :: r, i => by simp [maskS, maskS_len K r]

/-- A list of callees that begins so says: appends onto empty slices make rows. -/
def rowB : List Callee → Bool
  | c :: _ => c.ro && c.ps.isEmpty && c.bl.isEmpty && c.rs.isEmpty
  | [] => false
def xcall : List Callee → SSt → Option Nat → Nat → List SV → (SEff → List (Nat × Nat) → Tr ρ) → Tr ρ
  | [], _, _, _, _, _ => .fail
  | c :: C, s, dst, f, acts, k =>
    if c.f = f ∧ argsOk c.ps acts (msOf c.ps acts c.bl s.heap) = true then (match getVals c.ps acts with
      | some x => match getBlks (msOf c.ps acts c.bl s.heap) c.bl (msOf c.ps acts c.bl s.heap) s.heap with
        | some y => if distinct (msOf c.ps acts c.bl s.heap) = true ∧ refsIn c.bl.length c.bl = true then (if anyK c.ro c.bl = true ∧ roB c.ro c.bl (msOf c.ps acts c.bl s.heap) s.heap = true then
            .bind (.pair (tupT (RK.tys c.rs)) (tupT (BK.tys c.bl))) (c.fn x y) fun z => .req (eqK c.ro c.bl z.2 y) (brP c.rs z.1 fun z1 =>
            k ⟨dst, singS (resS s.heap.length c.rs z1), backsI (msOf c.ps acts c.bl s.heap) (maskS (roK c.ro c.bl) 0 (blocksS (nthN (msOf c.ps acts c.bl s.heap)) c.bl z.2)) 0 c.bl.length, s.heap.length, newsS c.rs z1⟩ (keysI (msOf c.ps acts c.bl s.heap) (blocksS id c.bl y) 0 c.bl.length))
          else .bind (.pair (tupT (RK.tys c.rs)) (tupT (BK.tys c.bl))) (c.fn x y) fun z => brP c.rs z.1 fun z1 =>
            k ⟨dst, singS (resS s.heap.length c.rs z1), backsI (msOf c.ps acts c.bl s.heap) (blocksS (nthN (msOf c.ps acts c.bl s.heap)) c.bl z.2) 0 c.bl.length, s.heap.length, newsS c.rs z1⟩ (keysI (msOf c.ps acts c.bl s.heap) (blocksS id c.bl y) 0 c.bl.length)) else .fail
        | none => .fail
      | none => .fail)
    else xcall C s dst f acts k

theorem backsI_cat (ms : List Nat) (A B : List (List SV)) : ∀ (n b : Nat), b + n ≤ A.length → backsI ms (A ++ B) b n = backsI ms A b n
  | 0, _, _ => rfl
  | n + 1, b, h => by
    simp only [backsI]
    rw [backsI_cat ms A B n (b + 1) (by omega), nthSB_cat, if_pos (by omega)]

theorem xcall_ok {P : Program} {s : SSt} {dst : Option Nat} {f : Nat} {acts : List SV} {k : SEff → List (Nat × Nat) → Tr ρ} {r : ρ} {kA : Eff → List (Nat × Nat) → Prop} :
    ∀ (C : List Callee), (∀ c ∈ C, c.ok P) → (xcall C s dst f acts k).run = some r → (∀ e rd, (k e rd).run = some r → kA e.av rd) → CallC P s.av dst f (avL acts) kA
  | [], _, h, _ => by cases h
  | c :: C, hC, h, hk => by
    simp only [xcall] at h
    split at h
    · rename_i hc
      obtain ⟨hf, ha⟩ := hc
      subst hf
      split at h <;> first | (cases h; done) | skip
      rename_i x qx
      split at h <;> first | (cases h; done) | skip
      rename_i y qy
      replace h := ite_run h; obtain ⟨⟨hd, hri⟩, h⟩ := h
      obtain ⟨hcl, hmeet⟩ := hC c (by simp)
      split at h
      · rename_i hro
        obtain ⟨_, hrb⟩ := hro
        replace h := run_bind h; obtain ⟨z, hz, h⟩ := h
        replace h := run_req h; obtain ⟨hzy, h⟩ := h
        replace h := brP_ok _ _ _ h
        have hm := hmeet x y z.1 z.2 hz
        generalize hms : msOf c.ps acts c.bl s.heap = ms at *
        have hargs := argsOk_args _ _ _ _ ha qx
        obtain ⟨hh, hlen⟩ := getBlks_hand ((newsS c.rs z.1).map avL) c.bl ms s.heap y z.2 qy
        have hkk := hk _ _ h
        rw [List.map_append] at hm
        have hb := roB_ok qy hrb hzy
        have hmid : ∀ b, (avL (nthSB (blocksS id c.bl z.2 ++ newsS c.rs z.1) b)).map (ren (newIds (nthN ms) c.bl.length s.heap.length)) = avL (nthSB (blocksS (nthN ms) c.bl z.2 ++ newsS c.rs z.1) b) := fun b => by
          rw [nthSB_cat, nthSB_cat, blocksS_length, blocksS_length]
          split
          · exact blocks_ren _ _ _ _ _ _ hri
          · exact news_ren _ _ _ _
        refine callMe (R := avL s.regs) (Hs := s.heap.map avL) ms hd hcl hm hargs hh ⟨_, .inr ⟨roK c.ro c.bl, fun b j hbn hKb hj => ?_, rfl⟩, ?_⟩
        · rw [hlen] at hbn
          have e0 : nthB ((blocksS id c.bl z.2).map avL ++ (newsS c.rs z.1).map avL) b = avL (nthSB (blocksS id c.bl z.2) b) := by
            rw [← List.map_append, nthSB_av, nthSB_cat, if_pos (by rw [blocksS_length]; exact hbn)]
          have e1 : nthB (s.heap.map avL) (nthN ms b) = avL (nthSB (blocksS (nthN ms) c.bl z.2) b) := by rw [nthSB_av]; exact hb b hbn hKb
          have e2 : ∀ (L : List AV) (f : AV → AV) (i : Nat), f .non = .non → nth (L.map f) i = f (nth L i) := fun L f i hf => by
            rw [nth_eq, nth_eq, List.getElem?_map]
            cases L[i]? with
            | none => exact hf.symm
            | some x => rfl
          show nth (nthB (s.heap.map avL) (nthN ms b)) j = _
          rw [e0, e1, hlen, ← e2 (avL (nthSB (blocksS id c.bl z.2) b)) (ren (newIds (nthN ms) c.bl.length (s.heap.map avL).length)) j rfl]
          have e3 : (avL (nthSB (blocksS id c.bl z.2) b)).map (ren (newIds (nthN ms) c.bl.length (s.heap.map avL).length)) = avL (nthSB (blocksS (nthN ms) c.bl z.2) b) := blocks_ren _ _ _ _ _ _ hri
          rw [e3]
        · have e1 : roEff (roK c.ro c.bl) dst (nthN ms) ms.length (s.heap.map avL).length (sing (avL (resS c.bl.length c.rs z.1))) ((blocksS id c.bl z.2).map avL ++ (newsS c.rs z.1).map avL) =
              SEff.av ⟨dst, singS (resS s.heap.length c.rs z.1), backsI ms (maskS (roK c.ro c.bl) 0 (blocksS (nthN ms) c.bl z.2)) 0 c.bl.length, s.heap.length, newsS c.rs z.1⟩ := by
            simp only [roEff, SEff.av, List.length_map, hlen, singS_av, sing_ren]
            have q1 := resS_ren (nthN ms) c.bl.length s.heap.length c.rs z.1 0
            simp only [Nat.add_zero] at q1
            rw [q1]
            have q2 : ((blocksS id c.bl z.2).map avL ++ (newsS c.rs z.1).map avL).drop c.bl.length = (newsS c.rs z.1).map avL := by
              rw [List.drop_append_of_le_length (by rw [List.length_map, blocksS_length]; exact Nat.le_refl _)]
              rw [List.drop_of_length_le (by rw [List.length_map, blocksS_length]; exact Nat.le_refl _), List.nil_append]
            rw [q2, newsS_ren]
            rw [← List.map_append, ← maskS_av]
            rw [← backsI_av ms (newIds (nthN ms) c.bl.length s.heap.length) (maskS (roK c.ro c.bl) 0 (blocksS id c.bl z.2 ++ newsS c.rs z.1)) (maskS (roK c.ro c.bl) 0 (blocksS (nthN ms) c.bl z.2 ++ newsS c.rs z.1)) (fun b => by
              rw [maskS_get, maskS_get]
              split
              · rfl
              · exact hmid b)]
            rw [maskS_app, backsI_cat _ _ _ _ _ (by rw [maskS_len, blocksS_length]; omega)]
          have e2 : keysOf (nthN ms) 0 ms.length ((blocksS id c.bl y).map avL) = keysI ms (blocksS id c.bl y) 0 c.bl.length := by
            rw [keysI_av, hlen]
          rw [e1, e2]
          exact hkk
      replace h := run_bind h; obtain ⟨z, hz, h⟩ := h
      replace h := brP_ok _ _ _ h
      have hm := hmeet x y z.1 z.2 hz
      generalize hms : msOf c.ps acts c.bl s.heap = ms at *
      have hargs := argsOk_args _ _ _ _ ha qx
      obtain ⟨hh, hlen⟩ := getBlks_hand ((newsS c.rs z.1).map avL) c.bl ms s.heap y z.2 qy
      have hkk := hk _ _ h
      rw [List.map_append] at hm
      refine callM (R := avL s.regs) (Hs := s.heap.map avL) ms hd hcl hm hargs hh ?_
      have e1 : callEff dst (nthN ms) ms.length (s.heap.map avL).length (sing (avL (resS c.bl.length c.rs z.1))) ((blocksS id c.bl z.2).map avL ++ (newsS c.rs z.1).map avL) =
          SEff.av ⟨dst, singS (resS s.heap.length c.rs z.1), backsI ms (blocksS (nthN ms) c.bl z.2) 0 c.bl.length, s.heap.length, newsS c.rs z.1⟩ := by
        simp only [callEff, SEff.av, List.length_map, hlen, singS_av, sing_ren]
        have q1 := resS_ren (nthN ms) c.bl.length s.heap.length c.rs z.1 0
        simp only [Nat.add_zero] at q1
        rw [q1]
        have q2 : ((blocksS id c.bl z.2).map avL ++ (newsS c.rs z.1).map avL).drop c.bl.length = (newsS c.rs z.1).map avL := by
          rw [List.drop_append_of_le_length (by rw [List.length_map, blocksS_length]; exact Nat.le_refl _)]
          rw [List.drop_of_length_le (by rw [List.length_map, blocksS_length]; exact Nat.le_refl _), List.nil_append]
        rw [q2, newsS_ren]
        rw [← List.map_append]
        rw [← backsI_av ms (newIds (nthN ms) c.bl.length s.heap.length) (blocksS id c.bl z.2 ++ newsS c.rs z.1) (blocksS (nthN ms) c.bl z.2 ++ newsS c.rs z.1) (fun b => by
          rw [nthSB_cat, nthSB_cat, blocksS_length, blocksS_length]
          split
          · exact blocks_ren _ _ _ _ _ _ hri
          · exact news_ren _ _ _ _)]
        rw [backsI_cat _ _ _ _ _ (by rw [blocksS_length]; omega)]
      have e2 : keysOf (nthN ms) 0 ms.length ((blocksS id c.bl y).map avL) = keysI ms (blocksS id c.bl y) 0 c.bl.length := by
        rw [keysI_av, hlen]
      rw [e1, e2]
      exact hkk
    · exact xcall_ok C (fun c hc => hC c (List.mem_cons_of_mem _ hc)) h hk

/-! ### One operation -/

def ownCsS (base : Nat) : Nat → List (Nat × Nat × Ty) → List SV → List SV
  | _, [], cs => cs
  | k, o :: r, cs => ownCsS base (k + 1) r (setS cs o.1 (.ow (base + 1 + k) o.2.1 o.2.2 []))
def isEmpS : SV → Bool
  | .emp => true
  | _ => false
def ownOkS (base : Nat) : Nat → List (Nat × Nat × Ty) → List SV → Bool
  | _, [], _ => true
  | k, o :: r, cs => decide (o.1 < cs.length) && isEmpS (nthS cs o.1) && ownOkS base (k + 1) r (setS cs o.1 (.ow (base + 1 + k) o.2.1 o.2.2 []))
theorem ownCsS_av (base : Nat) : ∀ (os : List (Nat × Nat × Ty)) (k : Nat) (cs : List SV), avL (ownCsS base k os cs) = ownCs base k (os.map fun o => (o.1, o.2.1, o.2.2.size)) (avL cs)
  | [], _, _ => rfl
  | o :: r, k, cs => by
    simp only [ownCsS, ownCs, List.map_cons]
    rw [ownCsS_av base r, setS_av]; rfl
theorem ownOkS_av (base : Nat) : ∀ (os : List (Nat × Nat × Ty)) (k : Nat) (cs : List SV), ownOkS base k os cs = true → ownOk base k (os.map fun o => (o.1, o.2.1, o.2.2.size)) (avL cs) = true
  | [], _, _, _ => rfl
  | o :: r, k, cs, h => by
    simp only [ownOkS, Bool.and_eq_true, decide_eq_true_eq] at h
    simp only [ownOk, List.map_cons, Bool.and_eq_true]
    refine ⟨?_, ?_⟩
    · have h1 : nthS cs o.1 = .emp := by
        have := h.1.2
        unfold isEmpS at this
        split at this
        · assumption
        · cases this
      have h2 : (avL cs)[o.1]? = some .emp := by
        rw [nth_lt (by rw [avL_length]; exact h.1.1), nthS_av, h1]; rfl
      rw [h2]; rfl
    · have := ownOkS_av base r (k + 1) _ h.2
      rw [setS_av] at this
      exact this

def xop (X : List XTy) (C : List Callee) (o : Oper) (s : SSt) (k : SEff → List (Nat × Nat) → Tr ρ) : Tr ρ :=
  match o.op with
  | .load t a => xLoad X o.dst t s.heap (evS s.regs a) k
  | .store t a v => xStore X o.dst t s.heap (evS s.regs a) (evS s.regs v) k
  | .alloc t => if (nthX X t).kd.isOther = false ∧ ownOkS s.heap.length 0 (nthX X t).own (nthX X t).zero = true then k ⟨o.dst, .ptr s.heap.length 0, [], s.heap.length, ownCsS s.heap.length 0 (nthX X t).own (nthX X t).zero :: (nthX X t).own.map fun _ => [.tok 0]⟩ [] else .fail
  | .box t x => if (evS s.regs x).av.known = true ∧ allS AV.cellable (evS s.regs x).cells = true then k ⟨o.dst, .ptr s.heap.length 0, [], s.heap.length, [(evS s.regs x).cells]⟩ [] else .fail
  | .buildSlice t len parts => xBuildSlice X o.dst t len (parts.toList.map fun p => (p.1, evS s.regs p.2)) s.heap.length k
  | .makeSlice t l c => xMake X o.dst t (evS s.regs l) (evS s.regs c) s.heap.length k
  | .makeMap t none => match (nthX X t).kd with
    | .map _ et => k ⟨o.dst, .mp s.heap.length, [], s.heap.length, [[.mpl (nthX X et).code []]]⟩ []
    | _ => .fail
  | .lookup t m key false => xLookup X o.dst t s.heap (evS s.regs m) (evS s.regs key) k
  | .lookup t m key true => xLookup2 X o.dst t s.heap (evS s.regs m) (evS s.regs key) k
  | .convert src d x => match (nthX X d).kd with
    | .slice _ => xBytes X o.dst src d (evS s.regs x) s.heap.length k
    | .str => if isSlK (nthX X src).kd = true then xText X o.dst src d (evS s.regs x) s.heap.length k else xval X s.regs o.op fun c => k ⟨o.dst, c, [], s.heap.length, []⟩ []
    | _ => xval X s.regs o.op fun c => k ⟨o.dst, c, [], s.heap.length, []⟩ []
  | .mapUpdate t m key v => xUpdate X o.dst t s.heap (evS s.regs m) (evS s.regs key) (evS s.regs v) k
  | .call c => match c.callee with
    | .builtin .append => match c.args.toList, c.argTypes.toList with
      | [x, y], [t, t'] => xAppend X (rowB C) o.dst t t' s.heap (evS s.regs x) (evS s.regs y) k
      | _, _ => .fail
    | .value fo => match evS s.regs fo with
      | .fn f caps => xcall C s o.dst f (c.args.toList.map (evS s.regs) ++ caps) k
      | _ => .fail
    | _ => xval X s.regs o.op fun c => k ⟨o.dst, c, [], s.heap.length, []⟩ []
  | op => xval X s.regs op fun c => k ⟨o.dst, c, [], s.heap.length, []⟩ []

theorem xop_ok {P : Program} {X : List XTy} {C : List Callee} (hC : ∀ c ∈ C, c.ok P) {o : Oper} {s : SSt} {k : SEff → List (Nat × Nat) → Tr ρ} {r : ρ} {kA : Eff → List (Nat × Nat) → Prop} (h : (xop X C o s k).run = some r)
    (hk : ∀ e rd, (k e rd).run = some r → kA e.av rd) : aop P (TX X) o s.av kA := by
  have ev := evS_av s
  have evf : s.av.view.ev = SV.av ∘ evS s.regs := by funext x; exact ev x
  have pv : ∀ op, (xval X s.regs op fun c => k ⟨o.dst, c, [], s.heap.length, []⟩ []).run = some r → aval (TX X) s.av.view.ev op fun c => kA ⟨o.dst, c, [], s.heap.length, []⟩ [] := fun op h =>
    xval_ok h (fun c hc => hk _ _ hc)
  unfold xop at h
  unfold aop
  simp only [heap_len]
  split at h
  · rename_i t a ho
    simp only [ho, ev]; exact xLoad_ok h hk
  · rename_i t a v ho
    simp only [ho, ev]; exact xStore_ok h hk
  · rename_i t ho
    replace h := ite_run h; obtain ⟨⟨h0, h1⟩, h⟩ := h
    simp only [ho]
    refine ⟨h0, (nthX X t).own.map fun o => (o.1, o.2.1, o.2.2.size), ?_, ?_⟩
    · exact ownOkS_av _ _ _ _ h1
    · have := hk _ _ h
      simp only [SEff.av, List.map_cons, ownCsS_av, List.map_map] at this
      have e1 : List.replicate ((nthX X t).own.map fun o => (o.1, o.2.1, o.2.2.size)).length [AV.tok 0] = (nthX X t).own.map (avL ∘ fun _ => [SV.tok 0]) := by
        rw [List.length_map]
        exact (List.map_const' ..).symm
      rw [e1]
      exact this
  · rename_i t x ho
    replace h := ite_run h; obtain ⟨⟨h0, h1⟩, h⟩ := h
    simp only [ho, ev, SV.cells_av, allS_av]
    exact ⟨h0, h1, hk _ _ h⟩
  · rename_i t len parts ho
    have := xBuildSlice_ok h hk
    rw [List.map_map] at this
    simp only [ho, ev]
    exact this
  · rename_i t l c ho
    simp only [ho, ev]; exact xMake_ok h hk
  · rename_i t ho
    simp only [ho]
    split at h
    · have := hk _ _ h
      simp only [SEff.av, SV.av, List.map_cons, List.map_nil] at this
      exact this
    · cases h
  · rename_i t m key ho
    simp only [ho, ev]; exact xLookup_ok h hk
  · rename_i t m key ho
    simp only [ho, ev]; exact xLookup2_ok h hk
  · rename_i src d x ho
    rw [ho] at h
    simp only [ho]
    split at h
    · rename_i e q
      rw [show (TX X d).kd = _ from q]
      simp only [ev]
      exact xBytes_ok h hk
    · rename_i q
      rw [show (TX X d).kd = _ from q]
      simp only [ev]
      split at h
      · exact .inl (xText_ok h hk)
      · rw [← ho] at h
        have := pv _ h
        rw [ho] at this
        exact .inr this
    · rename_i q q'
      split
      · rename_i e q2; exact absurd q2 (q e)
      · rename_i q2; exact absurd q2 q'
      · exact pv _ h
  · rename_i t m key v ho
    simp only [ho, ev]; exact xUpdate_ok h hk
  · rename_i c ho
    simp only [ho]
    split at h
    · rename_i hcal
      simp only [hcal]
      split at h
      · rename_i x y t t' q1 q2
        simp only [q1, q2, ev]; exact xAppend_ok h hk
      · cases h
    · rename_i fo hcal
      simp only [hcal, ev]
      split at h
      · rename_i f caps q
        simp only [q, SV.av]
        have := xcall_ok C hC h hk
        rw [avL_app, avL_eq (List.map _ _), List.map_map, ← evf] at this
        exact this
      · cases h
    · rename_i hc1 hc2
      rw [ho] at h
      have := pv _ h
      split
      · rename_i q; exact absurd q hc1
      · rename_i fo q; exact absurd q (hc2 fo)
      · exact this
  · rename_i op h1 h2 h3 h4 h5 hm h6 h7 h7b h7c h8 h9
    have := pv _ h
    split
    · rename_i q; exact absurd q (h1 _ _)
    · rename_i q; exact absurd q (h2 _ _ _)
    · rename_i q; exact absurd q (h3 _)
    · rename_i q; exact absurd q (h4 _ _)
    · rename_i q; exact absurd q (h5 _ _ _)
    · rename_i q; exact absurd q (hm _ _ _)
    · rename_i q; exact absurd q (h6 _)
    · rename_i q; exact absurd q (h7 _ _ _)
    · rename_i q; exact absurd q (h7b _ _ _)
    · rename_i q; exact absurd q (h7c _ _ _)
    · rename_i q; exact absurd q (h8 _ _ _ _)
    · rename_i q; exact absurd q (h9 _)
    · exact this
end
end Go.Ab
end

section
namespace Go.Ab
open Go Go.RowKit
set_option linter.unusedVariables false
set_option linter.unusedSimpArgs false

/-- Between two states: registers outside W, and blocks inside Z, are as they were. -/
structure Fz (W Z : Nat → Bool) (s s' : SSt) : Prop where
  len : s'.regs.length = s.regs.length
  regs : ∀ r, W r = false → nthS s'.regs r = nthS s.regs r
  hl : s.heap.length ≤ s'.heap.length
  heap : ∀ b, b < s.heap.length → Z b = true → nthSB s'.heap b = nthSB s.heap b

theorem Fz.refl (W Z : Nat → Bool) (s : SSt) : Fz W Z s s := ⟨rfl, fun _ _ => rfl, Nat.le_refl _, fun _ _ _ => rfl⟩
theorem Fz.trans {W Z : Nat → Bool} {s s' s'' : SSt} (h : Fz W Z s s') (k : Fz W Z s' s'') : Fz W Z s s'' :=
  ⟨k.len.trans h.len, fun r hr => (k.regs r hr).trans (h.regs r hr), Nat.le_trans h.hl k.hl, fun b hb hz => (k.heap b (Nat.lt_of_lt_of_le hb h.hl) hz).trans (h.heap b hb hz)⟩

def wOk (W : Nat → Bool) : Option Nat → Bool
  | none => true
  | some d => W d
def zOkW (Z : Nat → Bool) : List (Nat × Nat × SV) → Bool
  | [] => true
  | x :: r => !Z x.1 && zOkW Z r
theorem zOkW_mem {Z : Nat → Bool} : ∀ {ws : List (Nat × Nat × SV)}, zOkW Z ws = true → ∀ x ∈ ws, Z x.1 = false
  | [], _, _, h => by cases h
  | x :: r, h, y, hy => by
    simp only [zOkW, Bool.and_eq_true, Bool.not_eq_true'] at h
    rcases List.mem_cons.1 hy with rfl | hy
    · exact h.1
    · exact zOkW_mem h.2 y hy
def okE (W Z : Nat → Bool) (e : SEff) : Bool := wOk W e.dst && zOkW Z e.ws

theorem Fz.set {W Z : Nat → Bool} {s : SSt} {d : Nat} (v : SV) (h : W d = true) : Fz W Z s ⟨setS s.regs d v, s.heap⟩ :=
  ⟨setS_length _ _ _, fun r hr => nthS_set _ _ _ _ (fun e => by subst e; rw [h] at hr; cases hr), Nat.le_refl _, fun _ _ _ => rfl⟩
theorem Fz.app {W Z : Nat → Bool} {s : SSt} {e : SEff} (h : okE W Z e = true) : Fz W Z s (s.app e) := by
  simp only [okE, Bool.and_eq_true] at h
  obtain ⟨h1, h2⟩ := h
  refine ⟨?_, fun r hr => ?_, ?_, fun b hb hz => ?_⟩
  · simp only [SSt.app]
    cases e.dst with
    | none => rfl
    | some d => exact setS_length _ _ _
  · simp only [SSt.app]
    cases hd : e.dst with
    | none => rfl
    | some d =>
      rw [hd] at h1
      exact nthS_set _ _ _ _ (fun e => by subst e; simp only [wOk] at h1; rw [h1] at hr; cases hr)
  · simp only [SSt.app, List.length_append, wrS_length]; omega
  · simp only [SSt.app]
    rw [nthSB_app _ _ _ (by rw [wrS_length]; exact hb), nthSB_wr]
    intro x hx e
    have := zOkW_mem h2 x hx
    rw [e, hz] at this; cases this

def moreS (dr : Bool) (fs : List Ft) (e : SEff) (rd : List (Nat × Nat)) : List Ft := if dr = true then fs ++ [⟨rd, e.ws.map fun x => (x.1, x.2.1), e.base, e.news.length⟩] else fs
theorem moreS_av (dr : Bool) (fs : List Ft) (e : SEff) (rd : List (Nat × Nat)) : more dr fs e.av rd = moreS dr fs e rd := by
  unfold more moreS
  cases dr
  · rfl
  · simp only [if_true, ftOf, SEff.av, List.map_map, List.length_map]
    rfl

section
variable {ρ : Type}

def skipS (s : SSt) (o : Oper) : SEff := ⟨o.dst, .und, [], s.heap.length, []⟩
def sS (b : Bool) : SV := if b = true then .tt else .ff
theorem sS_av (b : Bool) : (sS b).av = .bool b := by cases b <;> rfl

section
variable (X : List XTy) (C : List Callee) (W Z : Nat → Bool)
def stepK (dr : Bool) (o : Oper) (s : SSt) (fs : List Ft) (K : SSt → List Ft → Tr ρ) : Tr ρ :=
  xop X C o s fun e rd => if okE W Z e = true then s.appK e fun s' => K s' (moreS dr fs e rd) else .fail
def skipK (dr : Bool) (o : Oper) (s : SSt) (fs : List Ft) (K : SSt → List Ft → Tr ρ) : Tr ρ :=
  if okE W Z (skipS s o) = true then s.appK (skipS s o) fun s' => K s' (moreS dr fs (skipS s o) []) else .fail
def armK (dr : Bool) (o : Oper) (d : Nat) (g t : Bool) (s : SSt) (fs : List Ft) (K : SSt → List Ft → Tr ρ) : Tr ρ :=
  if W d = true then setK s.regs d (sS t) fun R => if t = g then stepK X C W Z dr o ⟨R, s.heap⟩ fs K else skipK W Z dr o ⟨R, s.heap⟩ fs K else .fail

def xops (all : List Oper) (dr : Bool) : List Oper → SSt → List Ft → (SSt → List Ft → Tr ρ) → Tr ρ
  | [], s, fs, K => K s fs
  | o :: rest, s, fs, K => match o.guard with
    | none => stepK X C W Z dr o s fs fun s' fs' => xops all dr rest s' fs' K
    | some g => match gD all g.1 with
      | none => .fail
      | some d => match nthS s.regs d with
        | .tt => armK X C W Z dr o d g.2 true s fs fun s' fs' => xops all dr rest s' fs' K
        | .ff => armK X C W Z dr o d g.2 false s fs fun s' fs' => xops all dr rest s' fs' K
        | .bool b => .br b (armK X C W Z dr o d g.2 true s fs fun s' fs' => xops all dr rest s' fs' K) (armK X C W Z dr o d g.2 false s fs fun s' fs' => xops all dr rest s' fs' K)
        | .und => skipK W Z dr o s fs fun s' fs' => xops all dr rest s' fs' K
        | _ => .fail
end

variable {P : Program} {X : List XTy} {C : List Callee} {W Z : Nat → Bool}

theorem stepK_ok (hC : ∀ c ∈ C, c.ok P) {dr : Bool} {o : Oper} {s : SSt} {fs : List Ft} {K : SSt → List Ft → Tr ρ} {r : ρ} {kA : ASt → List Ft → Prop} (h : (stepK X C W Z dr o s fs K).run = some r)
    (hk : ∀ s' fs', Fz W Z s s' → (K s' fs').run = some r → kA s'.av fs') : aop P (TX X) o s.av fun e rd => kA (s.av.apply e) (more dr fs e rd) := by
  refine xop_ok hC h fun e rd he => ?_
  replace he := ite_run he; obtain ⟨h1, he⟩ := he
  rw [appK_eq] at he
  have := hk _ _ (Fz.app h1) he
  rw [app_av, ← moreS_av] at this
  exact this
theorem skipK_ok {dr : Bool} {o : Oper} {s : SSt} {fs : List Ft} {K : SSt → List Ft → Tr ρ} {r : ρ} {kA : ASt → List Ft → Prop} (h : (skipK W Z dr o s fs K).run = some r)
    (hk : ∀ s' fs', Fz W Z s s' → (K s' fs').run = some r → kA s'.av fs') : kA (s.av.apply (skipEff s.av o)) (more dr fs (skipEff s.av o) []) := by
  replace h := ite_run h; obtain ⟨h1, h⟩ := h
  rw [appK_eq] at h
  have := hk _ _ (Fz.app h1) h
  rw [app_av, ← moreS_av] at this
  have e : (skipS s o).av = skipEff s.av o := by simp [skipS, SEff.av, skipEff, SV.av, heap_len]
  rw [e] at this
  exact this
theorem armK_ok (hC : ∀ c ∈ C, c.ok P) {dr : Bool} {o : Oper} {d : Nat} {g t : Bool} {s : SSt} {fs : List Ft} {K : SSt → List Ft → Tr ρ} {r : ρ} {kA : ASt → List Ft → Prop} (h : (armK X C W Z dr o d g t s fs K).run = some r)
    (hk : ∀ s' fs', Fz W Z s s' → (K s' fs').run = some r → kA s'.av fs') :
    (t = g → aop P (TX X) o ⟨s.av.regs.set d (.bool g), s.av.heap⟩ fun e rd => kA (ASt.apply ⟨s.av.regs.set d (.bool g), s.av.heap⟩ e) (more dr fs e rd)) ∧
    (t = (!g) → kA (ASt.apply ⟨s.av.regs.set d (.bool (!g)), s.av.heap⟩ (skipEff ⟨s.av.regs.set d (.bool (!g)), s.av.heap⟩ o)) (more dr fs (skipEff ⟨s.av.regs.set d (.bool (!g)), s.av.heap⟩ o) [])) := by
  replace h := ite_run h; obtain ⟨hW, h⟩ := h
  rw [setK_eq] at h
  have e : ∀ b : Bool, (⟨s.av.regs.set d (.bool b), s.av.heap⟩ : ASt) = (SSt.mk (setS s.regs d (sS b)) s.heap).av := fun b => by
    simp only [SSt.av, setS_av, sS_av]
  refine ⟨fun ht => ?_, fun ht => ?_⟩
  · subst ht
    rw [if_pos rfl] at h
    rw [e]
    exact stepK_ok hC h fun s' fs' hf hr => hk s' fs' ((Fz.set _ hW).trans hf) hr
  · have hn : ¬ t = g := by subst ht; cases g <;> simp
    rw [if_neg hn] at h
    rw [← ht, e]
    exact skipK_ok h fun s' fs' hf hr => hk s' fs' ((Fz.set _ hW).trans hf) hr

theorem xops_ok (hC : ∀ c ∈ C, c.ok P) {all : Array Oper} {dr : Bool} : ∀ (rest : List Oper) (s : SSt) (fs : List Ft) (K : SSt → List Ft → Tr ρ) (r : ρ) (kA : ASt → List Ft → Prop), (xops X C W Z all.toList dr rest s fs K).run = some r →
    (∀ s' fs', Fz W Z s s' → (K s' fs').run = some r → kA s'.av fs') → aops P (TX X) all dr rest s.av fs kA
  | [], s, fs, K, r, kA, h, hk => hk s fs (Fz.refl _ _ _) h
  | o :: rest, s, fs, K, r, kA, h, hk => by
    have go : ∀ s', Fz W Z s s' → ∀ fs', (xops X C W Z all.toList dr rest s' fs' K).run = some r → aops P (TX X) all dr rest s'.av fs' kA := fun s' hf fs' h' =>
      xops_ok hC rest s' fs' K r kA h' fun s'' fs'' hf' => hk s'' fs'' (hf.trans hf')
    simp only [xops] at h
    simp only [aops]
    cases hg : o.guard with
    | none =>
      rw [hg] at h
      exact stepK_ok (kA := fun s' fs' => aops P (TX X) all dr rest s' fs' kA) hC h fun s' fs' hf hr => go s' hf fs' hr
    | some g =>
      rw [hg] at h
      simp only [gD_eq]
      simp only at h ⊢
      cases hd : gD all.toList g.1 with
      | none => rw [hd] at h; cases h
      | some d =>
        rw [hd] at h
        simp only at h ⊢
        have hn : nth s.av.regs d = (nthS s.regs d).av := nthS_av _ _
        split at h
        · rename_i q
          rw [hn, q]
          have := armK_ok (kA := fun s' fs' => aops P (TX X) all dr rest s' fs' kA) hC h fun s' fs' hf hr => go s' hf fs' hr
          exact this
        · rename_i q
          rw [hn, q]
          have := armK_ok (kA := fun s' fs' => aops P (TX X) all dr rest s' fs' kA) hC h fun s' fs' hf hr => go s' hf fs' hr
          exact this
        · rename_i b q
          rw [hn, q]
          obtain ⟨h1, h2⟩ := run_br h
          cases b with
          | true => exact armK_ok (kA := fun s' fs' => aops P (TX X) all dr rest s' fs' kA) hC (h1 rfl) fun s' fs' hf hr => go s' hf fs' hr
          | false => exact armK_ok (kA := fun s' fs' => aops P (TX X) all dr rest s' fs' kA) hC (h2 rfl) fun s' fs' hf hr => go s' hf fs' hr
        · rename_i q
          rw [hn, q]
          exact skipK_ok (kA := fun s' fs' => aops P (TX X) all dr rest s' fs' kA) h fun s' fs' hf hr => go s' hf fs' hr
        · cases h
end

/-! ### Loops: what a round hands to the next one -/

inductive Slot where
  | reg (r : Nat) (v : VT)
  | own (r e : Nat) (τ : Ty)
  | blk (r : Nat) (τ : Ty) (p : List Nat)
  | map (r : Nat) (τ : Ty)
  | arr (r : Nat) (τ : Ty) (p : List Nat)
  | sbl (r : Nat)
  /-- a box whose last cells are own lists -/
  | cow (r : Nat) (τ : Ty) (p : List Nat) (es : List (Nat × Ty))
/-- The same, its block found. -/
inductive RSlot where
  | reg (r : Nat) (v : VT)
  | own (r e : Nat) (τ : Ty) (b : Nat)
  | blk (τ : Ty) (b : Nat)
  | map (τ : Ty) (b : Nat)
  | arr (τ : Ty) (b : Nat)
  | sbl (r b : Nat)
  | cow (τ : Ty) (b : Nat) (es : List (Nat × Nat × Ty))
@[reducible] def RSlot.ty : RSlot → Ty
  | .reg _ v => v.ty
  | .own _ _ τ _ => .list τ
  | .blk τ _ => τ
  | .map τ _ => .list (.pair .str τ)
  | .arr τ _ => .list τ
  | .sbl _ _ => .int .i64
  | .cow τ _ es => .pair τ (ownsT es)
@[reducible] def rtys : List RSlot → List Ty
  | [] => []
  | s :: r => s.ty :: rtys r

section
variable {β : Type 1}
end

def ownify : List Slot → SSt → Option SSt
  | [], s => some s
  | .own r e τ :: l, s => match nthS s.regs r with
    | .emp => ownify l ⟨setS s.regs r (.ow s.heap.length e τ []), s.heap ++ [[.tok 0]]⟩
    | .ow _ _ _ _ => ownify l s
    | _ => none
  | _ :: l, s => ownify l s
section
variable {ρ : Type}
def ownK : List Slot → SSt → (SSt → Tr ρ) → Tr ρ
  | [], s, k => k s
  | .own r e τ :: l, s, k => match nthS s.regs r with
    | .emp => setK s.regs r (.ow s.heap.length e τ []) fun R => catK s.heap [[.tok 0]] fun H => ownK l ⟨R, H⟩ k
    | .ow _ _ _ _ => ownK l s k
    | _ => .fail
  | _ :: l, s, k => ownK l s k
theorem ownK_run {r : ρ} : ∀ (l : List Slot) (s : SSt) (k : SSt → Tr ρ), (ownK l s k).run = some r → ∃ s', ownify l s = some s' ∧ (k s').run = some r
  | [], s, k, h => ⟨s, rfl, h⟩
  | .own a e τ :: l, s, k, h => by
    simp only [ownK] at h
    simp only [ownify]
    split at h
    · rename_i q
      rw [setK_eq, catK_eq] at h
      exact ownK_run l _ k h
    · exact ownK_run l _ k h
    · cases h
  | .reg _ _ :: l, s, k, h => ownK_run l s k h
  | .sbl _ :: l, s, k, h => ownK_run l s k h
  | .blk _ _ _ :: l, s, k, h => ownK_run l s k h
  | .map _ _ :: l, s, k, h => ownK_run l s k h
  | .arr _ _ _ :: l, s, k, h => ownK_run l s k h
  | .cow _ _ _ _ :: l, s, k, h => ownK_run l s k h
end

def slotW (W : Nat → Bool) : List Slot → Bool
  | [] => true
  | .reg r _ :: l => W r && slotW W l
  | .sbl r :: l => W r && slotW W l
  | .own r _ _ :: l => W r && slotW W l
  | _ :: l => slotW W l

theorem ownify_fz {W Z : Nat → Bool} : ∀ (l : List Slot) (s s' : SSt), slotW W l = true → ownify l s = some s' → Fz W Z s s' ∧ ∀ b, b < s.heap.length → nthSB s'.heap b = nthSB s.heap b
  | [], s, s', _, h => by injection h with h; subst h; exact ⟨Fz.refl _ _ _, fun _ _ => rfl⟩
  | .own r e τ :: l, s, s', hW, h => by
    simp only [slotW, Bool.and_eq_true] at hW
    simp only [ownify] at h
    split at h
    · obtain ⟨h1, h2⟩ := ownify_fz (W := W) (Z := Z) l _ s' hW.2 h
      have hf : Fz W Z s ⟨setS s.regs r (.ow s.heap.length e τ []), s.heap ++ [[.tok 0]]⟩ :=
        ⟨setS_length _ _ _, fun x hx => nthS_set _ _ _ _ (fun e => by subst e; rw [hW.1] at hx; cases hx), by simp, fun b hb _ => nthSB_app _ _ _ hb⟩
      exact ⟨hf.trans h1, fun b hb => (h2 b (by simp; omega)).trans (nthSB_app _ _ _ hb)⟩
    · exact ownify_fz l _ s' hW.2 h
    · cases h
  | .reg r _ :: l, s, s', hW, h => by
    simp only [slotW, Bool.and_eq_true] at hW
    exact ownify_fz l s s' hW.2 h
  | .sbl r :: l, s, s', hW, h => by
    simp only [slotW, Bool.and_eq_true] at hW
    exact ownify_fz l s s' hW.2 h
  | .blk _ _ _ :: l, s, s', hW, h => ownify_fz l s s' hW h
  | .map _ _ :: l, s, s', hW, h => ownify_fz l s s' hW h
  | .arr _ _ _ :: l, s, s', hW, h => ownify_fz l s s' hW h
  | .cow _ _ _ _ :: l, s, s', hW, h => ownify_fz l s s' hW h
theorem ownify_ent {nx : Nat} : ∀ (l : List Slot) (s s' : SSt), ownify l s = some s' → Ent nx s.av s'.av
  | [], s, s', h => by injection h with h; subst h; exact Ent.refl _ _
  | .own r e τ :: l, s, s', h => by
    simp only [ownify] at h
    split at h
    · rename_i q
      have h1 := ent_tok (nx := nx) (s := s.av) r e τ.size (by show nth (avL s.regs) r = _; rw [nthS_av, q]; rfl)
      have h2 := ownify_ent (nx := nx) l _ s' h
      refine h1.trans ?_
      have e1 : (SSt.mk (setS s.regs r (.ow s.heap.length e τ [])) (s.heap ++ [[.tok 0]])).av = ⟨s.av.regs.set r (.ow s.av.heap.length e τ.size []), s.av.heap ++ [[.tok 0]]⟩ := by
        simp only [SSt.av, setS_av, List.map_append, SV.av, List.map_nil, List.length_map]
        rfl
      rw [e1] at h2
      exact h2
    · exact ownify_ent l _ s' h
    · cases h
  | .reg _ _ :: l, s, s', h => ownify_ent l s s' h
  | .sbl _ :: l, s, s', h => ownify_ent l s s' h
  | .blk _ _ _ :: l, s, s', h => ownify_ent l s s' h
  | .map _ _ :: l, s, s', h => ownify_ent l s s' h
  | .arr _ _ _ :: l, s, s', h => ownify_ent l s s' h
  | .cow _ _ _ _ :: l, s, s', h => ownify_ent l s s' h

/-- The block at the end of a path: 0 follows a pointer, i + 1 takes what a function value has captured. -/
def blkAt (H : List (List SV)) : SV → List Nat → Option Nat
  | .ptr b _, [] => some b
  | .sb b _, [] => some b
  | .ptr b o, 0 :: p => blkAt H (nthS (nthSB H b) o) p
  | .ptr b o, (i + 1) :: p => blkAt H (nthS (nthSB H b) (o + (i + 1))) p
  | .fn _ cs, (i + 1) :: p => blkAt H (nthS cs i) p
  | _, _ => none
/-- The tokens of the own lists in these cells. -/
def toksOf : List (Nat × Ty) → List SV → Option (List (Nat × Nat × Ty))
  | [], [] => some []
  | p :: r, .ow t _ _ _ :: cs => (toksOf r cs).map ((t, p.1, p.2) :: ·)
  | _, _ => none
def resolve : List Slot → SSt → Option (List RSlot)
  | [], _ => some []
  | .reg r v :: l, s => (resolve l s).map (.reg r v :: ·)
  | .sbl r :: l, s => match nthS s.regs r with
    | .sb b _ => (resolve l s).map (.sbl r b :: ·)
    | _ => none
  | .own r e τ :: l, s => match nthS s.regs r with
    | .ow b _ _ _ => (resolve l s).map (.own r e τ b :: ·)
    | _ => none
  | .blk r τ p :: l, s => match blkAt s.heap (nthS s.regs r) p with
    | some b => (resolve l s).map (.blk τ b :: ·)
    | none => none
  | .map r τ :: l, s => match nthS s.regs r with
    | .mp b => (resolve l s).map (.map τ b :: ·)
    | _ => none
  | .arr r τ p :: l, s => match blkAt s.heap (nthS s.regs r) p with
    | some b => (resolve l s).map (.arr τ b :: ·)
    | none => none
  | .cow r τ p es :: l, s => match blkAt s.heap (nthS s.regs r) p with
    | some b => (match toksOf es ((nthSB s.heap b).drop τ.size) with
      | some os => (resolve l s).map (.cow τ b os :: ·)
      | none => none)
    | none => none

/-- Where a block of the head comes from. -/
def srcB : List RSlot → SSt → Nat → Nat
  | [], _, i => i
  | .own r _ _ b :: l, s, i => if b = i then (match nthS s.regs r with
    | .ow b' _ _ _ => b'
    | _ => i) else srcB l s i
  | _ :: l, s, i => srcB l s i
def bsFrom (f : Nat → Nat) : Nat → Nat → List Nat
  | _, 0 => []
  | i, n + 1 => f i :: bsFrom f (i + 1) n
theorem bsFrom_length (f : Nat → Nat) : ∀ n i, (bsFrom f i n).length = n
  | 0, _ => rfl
  | n + 1, i => by simp [bsFrom, bsFrom_length f n]
theorem bsFrom_get (f : Nat → Nat) : ∀ n i j, j < n → nthN (bsFrom f i n) j = f (i + j)
  | 0, _, _, h => by omega
  | n + 1, i, 0, _ => rfl
  | n + 1, i, j + 1, h => by
    show nthN (bsFrom f (i + 1) n) j = _
    rw [bsFrom_get f n (i + 1) j (by omega)]
    congr 1; omega

def isOw : List (Nat × Nat × Ty) → Nat → Bool
  | [], _ => false
  | o :: r, i => decide (o.1 = i) || isOw r i
theorem isOw_mem : ∀ {es : List (Nat × Nat × Ty)} {i : Nat}, isOw es i = true → i ∈ es.map (·.1)
  | [], _, h => by cases h
  | o :: r, i, h => by
    simp only [isOw, Bool.or_eq_true, decide_eq_true_eq] at h
    rcases h with rfl | h
    · simp
    · exact List.mem_cons_of_mem _ (isOw_mem h)
def isSlotB : List RSlot → Nat → Bool
  | [], _ => false
  | .reg _ _ :: l, i => isSlotB l i
  | .sbl _ _ :: l, i => isSlotB l i
  | .own _ _ _ b :: l, i => decide (b = i) || isSlotB l i
  | .blk _ b :: l, i => decide (b = i) || isSlotB l i
  | .map _ b :: l, i => decide (b = i) || isSlotB l i
  | .arr _ b :: l, i => decide (b = i) || isSlotB l i
  | .cow _ b es :: l, i => (decide (b = i) || isOw es i) || isSlotB l i
theorem srcB_not {s : SSt} : ∀ {ls : List RSlot} {i : Nat}, isSlotB ls i = false → srcB ls s i = i
  | [], _, _ => rfl
  | .reg _ _ :: l, i, h => srcB_not (ls := l) h
  | .sbl _ _ :: l, i, h => srcB_not (ls := l) h
  | .own r e τ b :: l, i, h => by
    simp only [isSlotB, Bool.or_eq_false_iff, decide_eq_false_iff_not] at h
    simp only [srcB, h.1, if_false]
    exact srcB_not h.2
  | .blk τ b :: l, i, h => by
    simp only [isSlotB, Bool.or_eq_false_iff] at h
    exact srcB_not (ls := l) h.2
  | .map τ b :: l, i, h => by
    simp only [isSlotB, Bool.or_eq_false_iff] at h
    exact srcB_not (ls := l) h.2
  | .arr τ b :: l, i, h => by
    simp only [isSlotB, Bool.or_eq_false_iff] at h
    exact srcB_not (ls := l) h.2
  | .cow τ b es :: l, i, h => by
    simp only [isSlotB, Bool.or_eq_false_iff] at h
    exact srcB_not (ls := l) h.2

section
variable {ρ : Type}
theorem wkL_app {g : Nat → Nat} {n : Nat} : ∀ {a b c d : List AV}, WkL g n a b → WkL g n c d → WkL g n (a ++ c) (b ++ d)
  | [], [], _, _, _, h => h
  | x :: a, y :: b, _, _, h, h' => ⟨h.1, wkL_app h.2 h'⟩
  | [], _ :: _, _, _, h, _ => h.elim
  | _ :: _, [], _, _, h, _ => h.elim
def conformO (src : Nat → Nat) (n : Nat) (H : List (List SV)) : (es : List (Nat × Nat × Ty)) → List SV → ((ownsT es).T → Tr ρ) → Tr ρ
  | [], [], k => k ()
  | o :: r, .ow b e τ xs :: cs, k => if h : τ = o.2.2 then (if e = o.2.1 ∧ b = o.1 ∧ src o.1 = o.1 ∧ o.1 < n then (match nthSB H b with
    | [.tok m] => .req (decide (m = xs.length)) (conformO src n H r cs fun y => k (h ▸ xs, y))
    | _ => .fail) else .fail) else .fail
  | _, _, _ => .fail
/-- What is known of a box's own lists. -/
def goodO (bs : List Nat) (H : List (List SV)) : (es : List (Nat × Nat × Ty)) → (ownsT es).T → Prop
  | [], _ => True
  | o :: r, x => (o.1 < bs.length ∧ nthN bs o.1 = o.1 ∧ nthSB H o.1 = [.tok (List.length (α := o.2.2.T) x.1)]) ∧ goodO bs H r x.2
theorem conformO_ok {src : Nat → Nat} {n : Nat} {bs : List Nat} (hl : bs.length = n) (hb : ∀ b, b < n → nthN bs b = src b) {r : ρ} {H : List (List SV)} : ∀ (es : List (Nat × Nat × Ty)) (cs : List SV) (k : (ownsT es).T → Tr ρ), (conformO src n H es cs k).run = some r →
    ∃ x, (k x).run = some r ∧ goodO bs H es x ∧ WkL (nthN bs) bs.length (avL cs) (avL (owsS id es x))
  | [], [], k, h => ⟨(), h, trivial, trivial⟩
  | [], _ :: _, k, h => by cases h
  | o :: l, [], k, h => by cases h
  | (i, e0, σ) :: l, v :: cs, k, h => by
    cases v <;> first | (simp [conformO, Tr.run] at h; done) | skip
    rename_i b e τ xs
    simp only [conformO] at h
    split at h
    · rename_i hτ
      replace h := ite_run h; obtain ⟨⟨h1, h2, h3, h3'⟩, h⟩ := h
      split at h
      · rename_i m qm
        replace h := run_req h; obtain ⟨h4, h⟩ := h
        have h4 := of_decide_eq_true h4
        obtain ⟨y, h5, h6, h7⟩ := conformO_ok hl hb l cs _ h
        subst hτ; subst h1; subst h2
        have hbb : nthN bs b = b := by rw [hb b h3', h3]
        have hlt : b < bs.length := by rw [hl]; exact h3'
        refine ⟨(xs, y), h5, ⟨⟨hlt, hbb, by rw [qm, h4]⟩, h6⟩, ⟨wk_ow rfl rfl rfl hlt hbb.symm, h7⟩⟩
      · cases h
    · cases h
def conformK (src : Nat → Nat) (n : Nat) : (ls : List RSlot) → SSt → ((tupT (rtys ls)).T → Tr ρ) → Tr ρ
  | [], _, k => k ()
  | .reg r v :: l, s, k => match v.get (nthS s.regs r) with
    | some x => conformK src n l s fun y => k (x, y)
    | none => .fail
  | .sbl r b :: l, s, k => match nthS s.regs r with
    | .sb b' m => if b' = b ∧ src b = b ∧ b < n then conformK src n l s fun y => k ((m : Int), y) else .fail
    | _ => .fail
  | .own r e τ b :: l, s, k => match nthS s.regs r with
    | .ow b' e' τ' xs => if h : τ' = τ then (if e' = e ∧ b' = src b ∧ b < n then (match nthSB s.heap b' with
      | [.tok m] => .req (decide (m = xs.length)) (conformK src n l s fun y => k (h ▸ xs, y))
      | _ => .fail) else .fail) else .fail
    | _ => .fail
  | .blk τ b :: l, s, k => if src b = b ∧ b < n then (match gtRow τ (nthSB s.heap b) with
    | some x => conformK src n l s fun y => k (x, y)
    | none => .fail) else .fail
  | .map τ b :: l, s, k => if src b = b ∧ b < n then (match nthSB s.heap b with
    | [.mpl τ' es] => if h : τ' = τ then conformK src n l s fun y => k (h ▸ es, y) else .fail
    | _ => .fail) else .fail
  | .arr τ b :: l, s, k => if src b = b ∧ b < n then (match nthSB s.heap b with
    | [.arr τ' es] => if h : τ' = τ then conformK src n l s fun y => k (h ▸ es, y) else .fail
    | _ => .fail) else .fail
  | .cow τ b es :: l, s, k => if src b = b ∧ b < n then (match gtCells τ (nthSB s.heap b) with
    | some (x, cs) => conformO src n s.heap es cs fun z => conformK src n l s fun y => k ((x, z), y)
    | none => .fail) else .fail

/-- What is known of the slots. -/
def good (bs : List Nat) : (ls : List RSlot) → SSt → (tupT (rtys ls)).T → Prop
  | [], _, _ => True
  | .reg r v :: l, s, x => Wk (nthN bs) bs.length (nthS s.regs r).av (v.sv x.1).av ∧ good bs l s x.2
  | .sbl r b :: l, s, x => Wk (nthN bs) bs.length (nthS s.regs r).av (SV.sb b (Int.toNat x.1)).av ∧ good bs l s x.2
  | .own r e τ b :: l, s, x => (b < bs.length ∧ nthS s.regs r = .ow (nthN bs b) e τ x.1 ∧ nthSB s.heap (nthN bs b) = [.tok (List.length (α := τ.T) x.1)]) ∧ good bs l s x.2
  | .blk τ b :: l, s, x => (b < bs.length ∧ nthN bs b = b ∧ WkL (nthN bs) bs.length (avL (nthSB s.heap b)) (avL (τ.svs x.1))) ∧ good bs l s x.2
  | .map τ b :: l, s, x => (b < bs.length ∧ nthN bs b = b ∧ nthSB s.heap b = [.mpl τ x.1]) ∧ good bs l s x.2
  | .arr τ b :: l, s, x => (b < bs.length ∧ nthN bs b = b ∧ nthSB s.heap b = [.arr τ x.1]) ∧ good bs l s x.2
  | .cow τ b es :: l, s, x => ((b < bs.length ∧ nthN bs b = b ∧ WkL (nthN bs) bs.length (avL (nthSB s.heap b)) (avL (τ.svs x.1.1 ++ owsS id es x.1.2))) ∧ goodO bs s.heap es x.1.2) ∧ good bs l s x.2

theorem conformK_ok {src : Nat → Nat} {n : Nat} {bs : List Nat} (hl : bs.length = n) (hb : ∀ b, b < n → nthN bs b = src b) {r : ρ} : ∀ (ls : List RSlot) (s : SSt) (k : (tupT (rtys ls)).T → Tr ρ), (conformK src n ls s k).run = some r →
    ∃ x, (k x).run = some r ∧ good bs ls s x
  | [], s, k, h => ⟨(), h, trivial⟩
  | .reg a v :: l, s, k, h => by
    simp only [conformK] at h
    split at h
    · rename_i x q
      obtain ⟨y, h1, h2⟩ := conformK_ok hl hb l s _ h
      exact ⟨(x, y), h1, VT.get_wk q, h2⟩
    · cases h
  | .sbl a b :: l, s, k, h => by
    simp only [conformK] at h
    split at h
    · rename_i b' m q
      replace h := ite_run h; obtain ⟨⟨h1, h2, h3⟩, h⟩ := h
      obtain ⟨y, h5, h6⟩ := conformK_ok hl hb l s _ h
      refine ⟨((m : Int), y), h5, ?_, h6⟩
      rw [q]
      subst h1
      exact wk_sb (by omega) (by rw [hb b' h3, h2])
    · cases h
  | .own a e τ b :: l, s, k, h => by
    simp only [conformK] at h
    split at h
    · rename_i b' e' τ' xs q
      split at h
      · rename_i hτ
        replace h := ite_run h; obtain ⟨⟨h1, h2, h3⟩, h⟩ := h
        split at h
        · rename_i m qm
          replace h := run_req h; obtain ⟨h4, h⟩ := h
          have h4 := of_decide_eq_true h4
          obtain ⟨y, h5, h6⟩ := conformK_ok hl hb l s _ h
          subst hτ; subst h1
          refine ⟨(xs, y), h5, ⟨by omega, ?_, ?_⟩, h6⟩
          · rw [hb b h3, ← h2, q]
          · rw [hb b h3, ← h2, qm, h4]
        · cases h
      · cases h
    · cases h
  | .blk τ b :: l, s, k, h => by
    simp only [conformK] at h
    replace h := ite_run h; obtain ⟨⟨h1, h2⟩, h⟩ := h
    split at h
    · rename_i x q
      obtain ⟨y, h5, h6⟩ := conformK_ok hl hb l s _ h
      refine ⟨(x, y), h5, ⟨by omega, by rw [hb b h2, h1], ?_⟩, h6⟩
      rw [τ.svs_av]; exact (gtRow_lo q).wks
    · cases h
  | .map τ b :: l, s, k, h => by
    simp only [conformK] at h
    replace h := ite_run h; obtain ⟨⟨h1, h2⟩, h⟩ := h
    split at h
    · rename_i τ' es q
      split at h
      · rename_i hτ
        obtain ⟨y, h5, h6⟩ := conformK_ok hl hb l s _ h
        subst hτ
        exact ⟨(es, y), h5, ⟨by omega, by rw [hb b h2, h1], q⟩, h6⟩
      · cases h
    · cases h
  | .arr τ b :: l, s, k, h => by
    simp only [conformK] at h
    replace h := ite_run h; obtain ⟨⟨h1, h2⟩, h⟩ := h
    split at h
    · rename_i τ' es q
      split at h
      · rename_i hτ
        obtain ⟨y, h5, h6⟩ := conformK_ok hl hb l s _ h
        subst hτ
        exact ⟨(es, y), h5, ⟨by omega, by rw [hb b h2, h1], q⟩, h6⟩
      · cases h
    · cases h
  | .cow τ b es :: l, s, k, h => by
    simp only [conformK] at h
    replace h := ite_run h; obtain ⟨⟨h1, h2⟩, h⟩ := h
    split at h
    · rename_i x cs q
      obtain ⟨z, h3, h4, h4'⟩ := conformO_ok hl hb es cs _ h
      obtain ⟨y, h5, h6⟩ := conformK_ok hl hb l s _ h3
      obtain ⟨p, e1, e2⟩ := gtCells_lo q
      refine ⟨((x, z), y), h5, ⟨⟨by omega, by rw [hb b h2, h1], ?_⟩, h4⟩, h6⟩
      rw [e1, avL_app, avL_app, τ.svs_av]
      exact wkL_app e2.wks h4'
    · cases h
end

/-! ### The head of a loop -/

def dropW (W : Nat → Bool) : Nat → List SV → List SV
  | _, [] => []
  | i, c :: r => (if W i = true then .non else c) :: dropW W (i + 1) r
theorem dropW_length (W : Nat → Bool) : ∀ (l : List SV) (i : Nat), (dropW W i l).length = l.length
  | [], _ => rfl
  | c :: r, i => by simp [dropW, dropW_length W r]
theorem dropW_get (W : Nat → Bool) : ∀ (l : List SV) (i j : Nat), nthS (dropW W i l) j = if W (i + j) = true then .non else nthS l j
  | [], i, j => by simp [dropW, nthS]
  | c :: r, i, 0 => rfl
  | c :: r, i, j + 1 => by
    show nthS (dropW W (i + 1) r) j = if _ then _ else nthS r j
    rw [dropW_get W r (i + 1) j, show i + 1 + j = i + (j + 1) by omega]

def slotRegs : (ls : List RSlot) → (tupT (rtys ls)).T → List SV → List SV
  | [], _, R => R
  | .reg r v :: l, x, R => slotRegs l x.2 (setS R r (v.sv x.1))
  | .sbl r b :: l, x, R => slotRegs l x.2 (setS R r (.sb b (Int.toNat x.1)))
  | .own r e τ b :: l, x, R => slotRegs l x.2 (setS R r (.ow b e τ x.1))
  | .blk _ _ :: l, x, R => slotRegs l x.2 R
  | .map _ _ :: l, x, R => slotRegs l x.2 R
  | .arr _ _ :: l, x, R => slotRegs l x.2 R
  | .cow _ _ _ :: l, x, R => slotRegs l x.2 R
def owBlk : (es : List (Nat × Nat × Ty)) → (ownsT es).T → Nat → Option (List SV)
  | [], _, _ => none
  | o :: r, x, i => if o.1 = i then some [.tok (List.length (α := o.2.2.T) x.1)] else owBlk r x.2 i
theorem owBlk_none : ∀ {es : List (Nat × Nat × Ty)} {x : (ownsT es).T} {i : Nat}, isOw es i = false → owBlk es x i = none
  | [], _, _, _ => rfl
  | o :: r, x, i, h => by
    simp only [isOw, Bool.or_eq_false_iff, decide_eq_false_iff_not] at h
    simp only [owBlk, h.1, if_false]; exact owBlk_none h.2
theorem owBlk_some : ∀ {es : List (Nat × Nat × Ty)} {x : (ownsT es).T} {i : Nat}, isOw es i = true → owBlk es x i ≠ none
  | [], _, _, h => by cases h
  | o :: r, x, i, h => by
    simp only [isOw, Bool.or_eq_true, decide_eq_true_eq] at h
    simp only [owBlk]
    split
    · simp
    · rcases h with h | h
      · contradiction
      · exact owBlk_some h
theorem owBlk_wk {bs : List Nat} {H : List (List SV)} : ∀ {es : List (Nat × Nat × Ty)} {x : (ownsT es).T} {i : Nat} {l : List SV}, goodO bs H es x → owBlk es x i = some l → WkL (nthN bs) bs.length (avL (nthSB H (nthN bs i))) (avL l)
  | [], _, _, _, _, h => by cases h
  | o :: r, x, i, c, hg, h => by
    simp only [owBlk] at h
    split at h
    · rename_i e1
      subst e1
      injection h with h
      subst h
      rw [hg.1.2.1, hg.1.2.2]
      exact ⟨wk_tok rfl, trivial⟩
    · exact owBlk_wk hg.2 h
def headBlk : (ls : List RSlot) → (tupT (rtys ls)).T → Nat → Option (List SV)
  | [], _, _ => none
  | .reg _ _ :: l, x, i => headBlk l x.2 i
  | .sbl _ _ :: l, x, i => headBlk l x.2 i
  | .own _ _ τ b :: l, x, i => if b = i then some [.tok (List.length (α := τ.T) x.1)] else headBlk l x.2 i
  | .blk τ b :: l, x, i => if b = i then some (τ.svs x.1) else headBlk l x.2 i
  | .map τ b :: l, x, i => if b = i then some [.mpl τ x.1] else headBlk l x.2 i
  | .arr τ b :: l, x, i => if b = i then some [.arr τ x.1] else headBlk l x.2 i
  | .cow τ b es :: l, x, i => if b = i then some (τ.svs x.1.1 ++ owsS id es x.1.2) else (match owBlk es x.1.2 i with
    | some c => some c
    | none => headBlk l x.2 i)
def headH (ls : List RSlot) (x : (tupT (rtys ls)).T) : Nat → List (List SV) → List (List SV)
  | _, [] => []
  | i, l :: r => (headBlk ls x i).getD l :: headH ls x (i + 1) r
def headS (W : Nat → Bool) (ls : List RSlot) (s : SSt) (x : (tupT (rtys ls)).T) : SSt := ⟨slotRegs ls x (dropW W 0 s.regs), headH ls x 0 s.heap⟩

section
variable {β : Type 1}
def dropK (W : Nat → Bool) : Nat → List SV → (List SV → β) → β
  | _, [], k => k []
  | i, c :: r, k => dropK W (i + 1) r fun r' => if W i = true then k (.non :: r') else k (c :: r')
theorem dropK_eq (W : Nat → Bool) : ∀ (l : List SV) (i : Nat) (k : List SV → β), dropK W i l k = k (dropW W i l)
  | [], _, _ => rfl
  | c :: r, i, k => by
    simp only [dropK, dropW, dropK_eq W r]
    split <;> rfl
def slotRegsK : (ls : List RSlot) → (tupT (rtys ls)).T → List SV → (List SV → β) → β
  | [], _, R, k => k R
  | .reg r v :: l, x, R, k => setK R r (v.sv x.1) fun R' => slotRegsK l x.2 R' k
  | .sbl r b :: l, x, R, k => setK R r (.sb b (Int.toNat x.1)) fun R' => slotRegsK l x.2 R' k
  | .own r e τ b :: l, x, R, k => setK R r (.ow b e τ x.1) fun R' => slotRegsK l x.2 R' k
  | .blk _ _ :: l, x, R, k => slotRegsK l x.2 R k
  | .map _ _ :: l, x, R, k => slotRegsK l x.2 R k
  | .arr _ _ :: l, x, R, k => slotRegsK l x.2 R k
  | .cow _ _ _ :: l, x, R, k => slotRegsK l x.2 R k
theorem slotRegsK_eq : ∀ (ls : List RSlot) (x : (tupT (rtys ls)).T) (R : List SV) (k : List SV → β), slotRegsK ls x R k = k (slotRegs ls x R)
  | [], _, _, _ => rfl
  | .reg r v :: l, x, R, k => by simp only [slotRegsK, slotRegs, setK_eq, slotRegsK_eq l]
  | .sbl r b :: l, x, R, k => by simp only [slotRegsK, slotRegs, setK_eq, slotRegsK_eq l]
  | .own r e τ b :: l, x, R, k => by simp only [slotRegsK, slotRegs, setK_eq, slotRegsK_eq l]
  | .blk _ _ :: l, x, R, k => slotRegsK_eq l x.2 R k
  | .map _ _ :: l, x, R, k => slotRegsK_eq l x.2 R k
  | .arr _ _ :: l, x, R, k => slotRegsK_eq l x.2 R k
  | .cow _ _ _ :: l, x, R, k => slotRegsK_eq l x.2 R k
def headHK (ls : List RSlot) (x : (tupT (rtys ls)).T) : Nat → List (List SV) → (List (List SV) → β) → β
  | _, [], k => k []
  | i, l :: r, k => headHK ls x (i + 1) r fun r' => match headBlk ls x i with
    | some l' => k (l' :: r')
    | none => k (l :: r')
theorem headHK_eq (ls : List RSlot) (x : (tupT (rtys ls)).T) : ∀ (H : List (List SV)) (i : Nat) (k : List (List SV) → β), headHK ls x i H k = k (headH ls x i H)
  | [], _, _ => rfl
  | l :: r, i, k => by
    simp only [headHK, headH, headHK_eq ls x r]
    cases headBlk ls x i <;> rfl
def headK (W : Nat → Bool) (ls : List RSlot) (s : SSt) (x : (tupT (rtys ls)).T) (k : SSt → β) : β :=
  dropK W 0 s.regs fun R => slotRegsK ls x R fun R' => headHK ls x 0 s.heap fun H => k ⟨R', H⟩
theorem headK_eq (W : Nat → Bool) (ls : List RSlot) (s : SSt) (x : (tupT (rtys ls)).T) (k : SSt → β) : headK W ls s x k = k (headS W ls s x) := by
  simp only [headK, dropK_eq, slotRegsK_eq, headHK_eq, headS]
end

def rslotW (W : Nat → Bool) : List RSlot → Bool
  | [] => true
  | .reg r _ :: l => W r && rslotW W l
  | .sbl r _ :: l => W r && rslotW W l
  | .own r _ _ _ :: l => W r && rslotW W l
  | _ :: l => rslotW W l
theorem slotRegs_length : ∀ (ls : List RSlot) (x : (tupT (rtys ls)).T) (R : List SV), (slotRegs ls x R).length = R.length
  | [], _, _ => rfl
  | .reg r v :: l, x, R => by simp only [slotRegs, slotRegs_length l, setS_length]
  | .sbl r b :: l, x, R => by simp only [slotRegs, slotRegs_length l, setS_length]
  | .own r e τ b :: l, x, R => by simp only [slotRegs, slotRegs_length l, setS_length]
  | .blk _ _ :: l, x, R => slotRegs_length l x.2 R
  | .map _ _ :: l, x, R => slotRegs_length l x.2 R
  | .arr _ _ :: l, x, R => slotRegs_length l x.2 R
  | .cow _ _ _ :: l, x, R => slotRegs_length l x.2 R
theorem slotRegs_not {W : Nat → Bool} : ∀ (ls : List RSlot) (x : (tupT (rtys ls)).T) (R : List SV), rslotW W ls = true → ∀ j, W j = false → nthS (slotRegs ls x R) j = nthS R j
  | [], _, _, _, _, _ => rfl
  | .reg r v :: l, x, R, h, j, hj => by
    simp only [rslotW, Bool.and_eq_true] at h
    simp only [slotRegs]
    rw [slotRegs_not l x.2 _ h.2 j hj, nthS_set _ _ _ _ (fun e => by subst e; rw [h.1] at hj; cases hj)]
  | .sbl r b :: l, x, R, h, j, hj => by
    simp only [rslotW, Bool.and_eq_true] at h
    simp only [slotRegs]
    rw [slotRegs_not l x.2 _ h.2 j hj, nthS_set _ _ _ _ (fun e => by subst e; rw [h.1] at hj; cases hj)]
  | .own r e τ b :: l, x, R, h, j, hj => by
    simp only [rslotW, Bool.and_eq_true] at h
    simp only [slotRegs]
    rw [slotRegs_not l x.2 _ h.2 j hj, nthS_set _ _ _ _ (fun e => by subst e; rw [h.1] at hj; cases hj)]
  | .blk _ _ :: l, x, R, h, j, hj => slotRegs_not l x.2 R h j hj
  | .map _ _ :: l, x, R, h, j, hj => slotRegs_not l x.2 R h j hj
  | .arr _ _ :: l, x, R, h, j, hj => slotRegs_not l x.2 R h j hj
  | .cow _ _ _ :: l, x, R, h, j, hj => slotRegs_not l x.2 R h j hj
theorem headH_length (ls : List RSlot) (x : (tupT (rtys ls)).T) : ∀ (H : List (List SV)) (i : Nat), (headH ls x i H).length = H.length
  | [], _ => rfl
  | l :: r, i => by simp [headH, headH_length ls x r]
theorem headH_get (ls : List RSlot) (x : (tupT (rtys ls)).T) : ∀ (H : List (List SV)) (i j : Nat), j < H.length → nthSB (headH ls x i H) j = (headBlk ls x (i + j)).getD (nthSB H j)
  | [], _, _, h => by simp at h
  | l :: r, i, 0, _ => rfl
  | l :: r, i, j + 1, h => by
    show nthSB (headH ls x (i + 1) r) j = (headBlk ls x _).getD (nthSB r j)
    rw [headH_get ls x r (i + 1) j (by simpa using h), show i + 1 + j = i + (j + 1) by omega]
theorem headBlk_not : ∀ (ls : List RSlot) (x : (tupT (rtys ls)).T) (i : Nat), isSlotB ls i = false → headBlk ls x i = none
  | [], _, _, _ => rfl
  | .reg _ _ :: l, x, i, h => headBlk_not l x.2 i h
  | .sbl _ _ :: l, x, i, h => headBlk_not l x.2 i h
  | .own r e τ b :: l, x, i, h => by
    simp only [isSlotB, Bool.or_eq_false_iff, decide_eq_false_iff_not] at h
    simp only [headBlk, h.1, if_false]; exact headBlk_not l x.2 i h.2
  | .blk τ b :: l, x, i, h => by
    simp only [isSlotB, Bool.or_eq_false_iff, decide_eq_false_iff_not] at h
    simp only [headBlk, h.1, if_false]; exact headBlk_not l x.2 i h.2
  | .map τ b :: l, x, i, h => by
    simp only [isSlotB, Bool.or_eq_false_iff, decide_eq_false_iff_not] at h
    simp only [headBlk, h.1, if_false]; exact headBlk_not l x.2 i h.2
  | .arr τ b :: l, x, i, h => by
    simp only [isSlotB, Bool.or_eq_false_iff, decide_eq_false_iff_not] at h
    simp only [headBlk, h.1, if_false]; exact headBlk_not l x.2 i h.2
  | .cow τ b es :: l, x, i, h => by
    simp only [isSlotB, Bool.or_eq_false_iff, decide_eq_false_iff_not] at h
    simp only [headBlk, h.1.1, if_false, owBlk_none h.1.2]; exact headBlk_not l x.2 i h.2

/-! ### The state of a round says less than the state that came to it -/

def refsOk (bs : List Nat) : SV → Bool
  | .ptr b _ => decide (b < bs.length) && decide (nthN bs b = b)
  | .ow b _ _ _ => decide (b < bs.length) && decide (nthN bs b = b)
  | .mp b => decide (b < bs.length) && decide (nthN bs b = b)
  | .sb b _ => decide (b < bs.length) && decide (nthN bs b = b)
  | .ep b _ _ => decide (b < bs.length) && decide (nthN bs b = b)
  | .ef b _ _ _ => decide (b < bs.length) && decide (nthN bs b = b)
  | .agg cs => refsL bs cs
  | .tup cs => refsL bs cs
  | .fn _ cs => refsL bs cs
  | .ub _ => false
  | _ => true
where
  refsL (bs : List Nat) : List SV → Bool
    | [] => true
    | c :: r => refsOk bs c && refsL bs r
theorem refsL_wk {bs : List Nat} : ∀ (l : List SV), (∀ c ∈ l, refsOk bs c = true → Wk (nthN bs) bs.length c.av c.av) → refsOk.refsL bs l = true → WkL (nthN bs) bs.length (avL l) (avL l)
  | [], _, _ => trivial
  | c :: r, h, hr => by
    simp only [refsOk.refsL, Bool.and_eq_true] at hr
    exact ⟨h c (by simp) hr.1, refsL_wk r (fun d hd => h d (List.mem_cons_of_mem _ hd)) hr.2⟩
theorem wk_fn {g : Nat → Nat} {n f : Nat} {cs ds : List AV} (h : WkL g n cs ds) : Wk g n (.fn f cs) (.fn f ds) := .fn f cs ds h.get.1 fun j c d x y => by
  have := h.get.2 j
  rw [nth_eq, nth_eq, x, y] at this; exact this
theorem refsOk_wk {bs : List Nat} : ∀ (v : SV), refsOk bs v = true → Wk (nthN bs) bs.length v.av v.av
  | .non, _ => .non _
  | .und, _ => .und
  | .int _ _, _ => wk_int rfl
  | .ki _ _, _ => wk_int rfl
  | .tt, _ => wk_bool rfl
  | .ff, _ => wk_bool rfl
  | .bool _, _ => wk_bool rfl
  | .str _, _ => wk_str rfl
  | .nilp, _ => wk_nilp
  | .nilf, _ => wk_nilf
  | .nilm, _ => .flat .nilm rfl
  | .gm i, _ => .flat (.gm i) rfl
  | .er b, _ => .flat (.er b) rfl
  | .cp _, _ => wk_cp rfl
  | .ptr b o, h => by
    simp only [refsOk, Bool.and_eq_true, decide_eq_true_eq] at h
    exact wk_ptr rfl h.1 h.2.symm
  | .emp, _ => wk_ee
  | .sl _ _, _ => wk_sl rfl rfl
  | .ow b e τ xs, h => by
    simp only [refsOk, Bool.and_eq_true, decide_eq_true_eq] at h
    exact wk_ow rfl rfl rfl h.1 h.2.symm
  | .tok _, _ => wk_tok rfl
  | .agg cs, h => wk_agg (refsL_wk cs (fun c hc => refsOk_wk c) h)
  | .tup cs, h => wk_tup (refsL_wk cs (fun c hc => refsOk_wk c) h)
  | .fn f cs, h => wk_fn (refsL_wk cs (fun c hc => refsOk_wk c) h)
  | .mp b, h => by
    simp only [refsOk, Bool.and_eq_true, decide_eq_true_eq] at h
    exact wk_mp h.1 h.2.symm
  | .ub _, h => by cases h
  | .mpl _ _, _ => wk_mps rfl
  | .sb b n, h => by
    simp only [refsOk, Bool.and_eq_true, decide_eq_true_eq] at h
    exact wk_sb h.1 h.2.symm
  | .ep b sz i, h => by
    simp only [refsOk, Bool.and_eq_true, decide_eq_true_eq] at h
    exact wk_ep h.1 h.2.symm
  | .arr _ _, _ => wk_arr rfl rfl
  | .aw _ _ _, _ => wk_aw rfl rfl
  | .ef b sz i o, h => by
    simp only [refsOk, Bool.and_eq_true, decide_eq_true_eq] at h
    exact wk_ef h.1 h.2.symm

def fixR (W : Nat → Bool) (bs : List Nat) : Nat → List SV → Bool
  | _, [] => true
  | i, c :: r => (W i || refsOk bs c) && fixR W bs (i + 1) r
theorem fixR_get {W : Nat → Bool} {bs : List Nat} : ∀ (l : List SV) (i j : Nat), fixR W bs i l = true → W (i + j) = false → refsOk bs (nthS l j) = true
  | [], _, _, _, _ => rfl
  | c :: r, i, 0, h, hw => by
    simp only [fixR, Bool.and_eq_true, Bool.or_eq_true] at h
    rcases h.1 with h1 | h1
    · simp only [Nat.add_zero] at hw; rw [hw] at h1; cases h1
    · exact h1
  | c :: r, i, j + 1, h, hw => by
    simp only [fixR, Bool.and_eq_true] at h
    exact fixR_get r (i + 1) j h.2 (by rw [show i + 1 + j = i + (j + 1) by omega]; exact hw)
def fixH (ls : List RSlot) (bs : List Nat) : Nat → List (List SV) → Bool
  | _, [] => true
  | i, l :: r => (isSlotB ls i || refsOk.refsL bs l) && fixH ls bs (i + 1) r
theorem fixH_get {ls : List RSlot} {bs : List Nat} : ∀ (H : List (List SV)) (i j : Nat), fixH ls bs i H = true → isSlotB ls (i + j) = false → refsOk.refsL bs (nthSB H j) = true
  | [], _, _, _, _ => rfl
  | l :: r, i, 0, h, hw => by
    simp only [fixH, Bool.and_eq_true, Bool.or_eq_true] at h
    rcases h.1 with h1 | h1
    · simp only [Nat.add_zero] at hw; rw [hw] at h1; cases h1
    · exact h1
  | l :: r, i, j + 1, h, hw => by
    simp only [fixH, Bool.and_eq_true] at h
    exact fixH_get r (i + 1) j h.2 (by rw [show i + 1 + j = i + (j + 1) by omega]; exact hw)

theorem wkL_of {g : Nat → Nat} {n : Nat} : ∀ (A B : List SV), A.length = B.length → (∀ j, j < B.length → Wk g n (nthS A j).av (nthS B j).av) → WkL g n (avL A) (avL B)
  | [], [], _, _ => trivial
  | a :: A, b :: B, hl, h => ⟨h 0 (by simp), wkL_of A B (by simpa using hl) (fun j hj => h (j + 1) (by simpa using hj))⟩
  | [], _ :: _, hl, _ => by simp at hl
  | _ :: _, [], hl, _ => by simp at hl
theorem wkHs_of {g : Nat → Nat} {n : Nat} {H : List (List AV)} : ∀ (bs : List Nat) (L : List (List AV)), bs.length = L.length → (∀ i, i < bs.length → WkL g n (nthB H (nthN bs i)) (nthB L i)) → WkHs g n H bs L
  | [], [], _, _ => trivial
  | b :: bs, l :: L, hl, h => ⟨h 0 (by simp), wkHs_of bs L (by simpa using hl) (fun i hi => h (i + 1) (by simpa using hi))⟩
  | [], _ :: _, hl, _ => by simp at hl
  | _ :: _, [], hl, _ => by simp at hl

theorem nthS_self : ∀ (R : List SV) (r : Nat) (v : SV), r < R.length → nthS (setS R r v) r = v
  | [], _, _, h => by simp at h
  | _ :: _, 0, _, _ => rfl
  | _ :: R, r + 1, v, h => nthS_self R r v (by simpa using h)
theorem nthS_out : ∀ (R : List SV) (r : Nat) (v : SV), ¬ r < R.length → nthS (setS R r v) r = .non
  | [], _, _, _ => rfl
  | _ :: _, 0, _, h => by simp at h
  | _ :: R, r + 1, v, h => nthS_out R r v (by simpa using h)

theorem slotRegs_wk {bs : List Nat} {s : SSt} : ∀ (ls : List RSlot) (x : (tupT (rtys ls)).T) (R : List SV), good bs ls s x → (∀ j, Wk (nthN bs) bs.length (nthS s.regs j).av (nthS R j).av) →
    ∀ j, Wk (nthN bs) bs.length (nthS s.regs j).av (nthS (slotRegs ls x R) j).av
  | [], _, _, _, h => h
  | .reg r v :: l, x, R, hg, h => by
    refine slotRegs_wk l x.2 _ hg.2 fun j => ?_
    by_cases e : r = j
    · subst e
      by_cases hr : r < R.length
      · have : nthS (setS R r (v.sv x.1)) r = v.sv x.1 := nthS_self _ _ _ hr
        rw [this]; exact hg.1
      · have : nthS (setS R r (v.sv x.1)) r = .non := nthS_out _ _ _ hr
        rw [this]; exact .non _
    · rw [nthS_set _ _ _ _ e]; exact h j
  | .sbl r b :: l, x, R, hg, h => by
    refine slotRegs_wk l x.2 _ hg.2 fun j => ?_
    by_cases e : r = j
    · subst e
      by_cases hr : r < R.length
      · have : nthS (setS R r (.sb b (Int.toNat x.1))) r = .sb b (Int.toNat x.1) := nthS_self _ _ _ hr
        rw [this]; exact hg.1
      · have : nthS (setS R r (.sb b (Int.toNat x.1))) r = .non := nthS_out _ _ _ hr
        rw [this]; exact .non _
    · rw [nthS_set _ _ _ _ e]; exact h j
  | .own r e τ b :: l, x, R, hg, h => by
    refine slotRegs_wk l x.2 _ hg.2 fun j => ?_
    by_cases e' : r = j
    · subst e'
      by_cases hr : r < R.length
      · have : nthS (setS R r (.ow b e τ x.1)) r = .ow b e τ x.1 := nthS_self _ _ _ hr
        rw [this]
        obtain ⟨⟨h1, h2, _⟩, _⟩ := hg
        rw [h2]
        exact wk_ow rfl rfl rfl h1 rfl
      · have : nthS (setS R r (.ow b e τ x.1)) r = .non := nthS_out _ _ _ hr
        rw [this]; exact .non _
    · rw [nthS_set _ _ _ _ e']; exact h j
  | .blk _ _ :: l, x, R, hg, h => slotRegs_wk l x.2 R hg.2 h
  | .map _ _ :: l, x, R, hg, h => slotRegs_wk l x.2 R hg.2 h
  | .arr _ _ :: l, x, R, hg, h => slotRegs_wk l x.2 R hg.2 h
  | .cow _ _ _ :: l, x, R, hg, h => slotRegs_wk l x.2 R hg.2 h

theorem headBlk_wk {bs : List Nat} {s : SSt} : ∀ (ls : List RSlot) (x : (tupT (rtys ls)).T) (i : Nat) (l : List SV), good bs ls s x → headBlk ls x i = some l → WkL (nthN bs) bs.length (avL (nthSB s.heap (nthN bs i))) (avL l)
  | [], _, _, _, _, h => by cases h
  | .reg _ _ :: l, x, i, c, hg, h => headBlk_wk l x.2 i c hg.2 h
  | .sbl _ _ :: l, x, i, c, hg, h => headBlk_wk l x.2 i c hg.2 h
  | .own r e τ b :: l, x, i, c, hg, h => by
    simp only [headBlk] at h
    split at h
    · rename_i e1
      subst e1
      injection h with h
      subst h
      rw [hg.1.2.2]
      exact ⟨wk_tok rfl, trivial⟩
    · exact headBlk_wk l x.2 i c hg.2 h
  | .blk τ b :: l, x, i, c, hg, h => by
    simp only [headBlk] at h
    split at h
    · rename_i e1
      subst e1
      injection h with h
      subst h
      rw [hg.1.2.1]
      exact hg.1.2.2
    · exact headBlk_wk l x.2 i c hg.2 h
  | .map τ b :: l, x, i, c, hg, h => by
    simp only [headBlk] at h
    split at h
    · rename_i e1
      subst e1
      injection h with h
      subst h
      rw [hg.1.2.1, hg.1.2.2]
      exact ⟨wk_mps rfl, trivial⟩
    · exact headBlk_wk l x.2 i c hg.2 h
  | .arr τ b :: l, x, i, c, hg, h => by
    simp only [headBlk] at h
    split at h
    · rename_i e1
      subst e1
      injection h with h
      subst h
      rw [hg.1.2.1, hg.1.2.2]
      exact ⟨wk_arr rfl rfl, trivial⟩
    · exact headBlk_wk l x.2 i c hg.2 h
  | .cow τ b es :: l, x, i, c, hg, h => by
    simp only [headBlk] at h
    split at h
    · rename_i e1
      subst e1
      injection h with h
      subst h
      rw [hg.1.1.2.1]
      exact hg.1.1.2.2
    · split at h
      · rename_i c' q
        injection h with h
        subst h
        exact owBlk_wk hg.1.2 q
      · exact headBlk_wk l x.2 i c hg.2 h

def chkB (nx : Nat) (W : Nat → Bool) (ls : List RSlot) (s1 s : SSt) (bs : List Nat) : Bool :=
  distinct bs && isId 0 nx bs && fixR W bs 0 s1.regs && fixH ls bs 0 s1.heap

/-- From a state that differs from s1 where it may, to the head. -/
theorem head_ent {nx : Nat} {W : Nat → Bool} {ls : List RSlot} {s1 s : SSt} {x : (tupT (rtys ls)).T} (hc : chkB nx W ls s1 s (bsFrom (srcB ls s) 0 s1.heap.length) = true) (hg : good (bsFrom (srcB ls s) 0 s1.heap.length) ls s x)
    (hf : Fz W (fun b => decide (b < s1.heap.length) && !isSlotB ls b) s1 s) : Ent nx s.av (headS W ls s1 x).av := by
  simp only [chkB, Bool.and_eq_true] at hc
  obtain ⟨⟨⟨h1, h2⟩, h3⟩, h4⟩ := hc
  generalize hbs : bsFrom (srcB ls s) 0 s1.heap.length = bs at *
  have hlen : bs.length = s1.heap.length := by rw [← hbs, bsFrom_length]
  have hget : ∀ i, i < s1.heap.length → nthN bs i = srcB ls s i := fun i hi => by rw [← hbs, bsFrom_get _ _ _ _ hi, Nat.zero_add]
  refine ent_of bs ⟨h2, h1⟩ ?_ ?_
  · refine wkL_of _ _ (by simp only [headS, slotRegs_length, dropW_length]; exact hf.len) fun j _ => ?_
    refine slotRegs_wk ls x _ hg (fun j => ?_) j
    rw [dropW_get, Nat.zero_add]
    split
    · exact .non _
    · rename_i hw
      have hw : W j = false := by simpa using hw
      rw [hf.regs j hw]
      exact refsOk_wk _ (fixR_get _ 0 j h3 (by rw [Nat.zero_add]; exact hw))
  · refine wkHs_of bs _ (by simp only [headS, SSt.av, List.length_map, headH_length]; exact hlen) fun i hi => ?_
    have hi' : i < s1.heap.length := by omega
    show WkL _ _ (nthB (s.heap.map avL) _) (nthB ((headH ls x 0 s1.heap).map avL) i)
    rw [nthSB_av, nthSB_av, headH_get _ _ _ _ _ hi', Nat.zero_add]
    cases hb : headBlk ls x i with
    | some l => exact headBlk_wk ls x i l hg hb
    | none =>
      have hns : isSlotB ls i = false := by
        cases hq : isSlotB ls i with
        | false => rfl
        | true =>
          exfalso
          have key : ∀ (ls : List RSlot) (x : (tupT (rtys ls)).T), isSlotB ls i = true → headBlk ls x i ≠ none := by
            intro ls
            induction ls with
            | nil => intro x h; cases h
            | cons c l ih =>
              intro x h
              cases c with
              | reg r v => exact ih x.2 h
              | sbl r b => exact ih x.2 h
              | own r e τ b =>
                simp only [isSlotB, Bool.or_eq_true, decide_eq_true_eq] at h
                simp only [headBlk]
                split
                · simp
                · rcases h with h | h
                  · contradiction
                  · exact ih x.2 h
              | blk τ b =>
                simp only [isSlotB, Bool.or_eq_true, decide_eq_true_eq] at h
                simp only [headBlk]
                split
                · simp
                · rcases h with h | h
                  · contradiction
                  · exact ih x.2 h
              | map τ b =>
                simp only [isSlotB, Bool.or_eq_true, decide_eq_true_eq] at h
                simp only [headBlk]
                split
                · simp
                · rcases h with h | h
                  · contradiction
                  · exact ih x.2 h
              | arr τ b =>
                simp only [isSlotB, Bool.or_eq_true, decide_eq_true_eq] at h
                simp only [headBlk]
                split
                · simp
                · rcases h with h | h
                  · contradiction
                  · exact ih x.2 h
              | cow τ b es =>
                simp only [isSlotB, Bool.or_eq_true, decide_eq_true_eq] at h
                simp only [headBlk]
                split
                · simp
                · split
                  · simp
                  · rename_i q
                    rcases h with (h | h) | h
                    · contradiction
                    · exact absurd q (owBlk_some h)
                    · exact ih x.2 h
          exact key ls x hq hb
      rw [hget i hi', srcB_not hns, hf.heap i hi' (by simp [hi', hns])]
      exact refsL_wk _ (fun c _ => refsOk_wk c) (fixH_get _ 0 i h4 (by rw [Nat.zero_add]; exact hns))

end Go.Ab
end

section
namespace Go.Ab
open Go Go.RowKit
set_option linter.unusedVariables false
set_option linter.unusedSimpArgs false

/-! ### Made rows that turn no more -/

def frzV (b : Nat) (τ : Ty) (xs : List τ.T) : SV → SV
  | .sb b' n => if b' = b then .sl τ (xs.take n) else .sb b' n
  | .ptr b' o => if b' = b then .non else .ptr b' o
  | .mp b' => if b' = b then .non else .mp b'
  | .ow t e τ' r => if t = b then .non else .ow t e τ' r
  | .ep b' s i => if b' = b then .non else .ep b' s i
  | .ef b' s i o => if b' = b then .non else .ef b' s i o
  | .agg cs => .agg (frzVL b τ xs cs)
  | .tup cs => .tup (frzVL b τ xs cs)
  | .fn f cs => .fn f (frzVL b τ xs cs)
  | c => c
where
  frzVL (b : Nat) (τ : Ty) (xs : List τ.T) : List SV → List SV
    | [] => []
    | c :: r => frzV b τ xs c :: frzVL b τ xs r
abbrev frzVL := @frzV.frzVL
theorem frzVL_av (b : Nat) (τ : Ty) (xs : List τ.T) : ∀ (l : List SV), (∀ c ∈ l, (frzV b τ xs c).av = frz b τ.size (xs.map τ.enc) c.av) → avL (frzVL b τ xs l) = frz.frzL b τ.size (xs.map τ.enc) (avL l)
  | [], _ => rfl
  | c :: r, h => by
    show (frzV b τ xs c).av :: avL (frzVL b τ xs r) = frz b τ.size (xs.map τ.enc) c.av :: frz.frzL b τ.size (xs.map τ.enc) (avL r)
    rw [h c (by simp), frzVL_av b τ xs r (fun d hd => h d (List.mem_cons_of_mem _ hd))]
theorem frzV_av (b : Nat) (τ : Ty) (xs : List τ.T) : ∀ v : SV, (frzV b τ xs v).av = frz b τ.size (xs.map τ.enc) v.av
  | .sb b' n => by
    simp only [frzV, SV.av, frz]
    split
    · simp only [SV.av, List.map_take]
    · rfl
  | .ptr b' o => by simp only [frzV, SV.av, frz]; split <;> rfl
  | .mp b' => by simp only [frzV, SV.av, frz]; split <;> rfl
  | .ow t e τ' r => by simp only [frzV, SV.av, frz]; split <;> rfl
  | .ep b' s i => by simp only [frzV, SV.av, frz]; split <;> rfl
  | .ef b' s i o => by simp only [frzV, SV.av, frz]; split <;> rfl
  | .agg cs => congrArg AV.agg (frzVL_av b τ xs cs fun c _ => frzV_av b τ xs c)
  | .tup cs => congrArg AV.tup (frzVL_av b τ xs cs fun c _ => frzV_av b τ xs c)
  | .fn f cs => congrArg (AV.fn f) (frzVL_av b τ xs cs fun c _ => frzV_av b τ xs c)
  | .non => rfl
  | .und => rfl
  | .int _ _ => rfl
  | .ki _ _ => rfl
  | .tt => rfl
  | .ff => rfl
  | .bool _ => rfl
  | .str _ => rfl
  | .nilp => rfl
  | .nilf => rfl
  | .nilm => rfl
  | .gm _ => rfl
  | .er _ => rfl
  | .cp _ => rfl
  | .emp => rfl
  | .sl _ _ => rfl
  | .tok _ => rfl
  | .mpl _ _ => rfl
  | .arr _ _ => rfl
  | .aw _ _ _ => rfl
  | .ub _ => rfl
theorem frzVL_av' (b : Nat) (τ : Ty) (xs : List τ.T) (l : List SV) : avL (frzVL b τ xs l) = frz.frzL b τ.size (xs.map τ.enc) (avL l) := frzVL_av b τ xs l fun c _ => frzV_av b τ xs c
theorem frzVL_get (b : Nat) (τ : Ty) (xs : List τ.T) : ∀ (l : List SV) (j : Nat), nthS (frzVL b τ xs l) j = frzV b τ xs (nthS l j)
  | [], _ => rfl
  | c :: _, 0 => rfl
  | c :: r, j + 1 => frzVL_get b τ xs r j
theorem frzVL_len (b : Nat) (τ : Ty) (xs : List τ.T) : ∀ (l : List SV), (frzVL b τ xs l).length = l.length
  | [] => rfl
  | c :: r => by
    show (frzVL b τ xs r).length + 1 = _
    rw [frzVL_len b τ xs r]; rfl

/-- The block is not named. -/
def noB (b : Nat) : SV → Bool
  | .sb b' _ => decide (b' ≠ b)
  | .ptr b' _ => decide (b' ≠ b)
  | .mp b' => decide (b' ≠ b)
  | .ow t _ _ _ => decide (t ≠ b)
  | .ep b' _ _ => decide (b' ≠ b)
  | .ef b' _ _ _ => decide (b' ≠ b)
  | .agg cs => noBL b cs
  | .tup cs => noBL b cs
  | .fn _ cs => noBL b cs
  | _ => true
where
  noBL (b : Nat) : List SV → Bool
    | [] => true
    | c :: r => noB b c && noBL b r
theorem noBL_eq {b : Nat} {τ : Ty} {xs : List τ.T} : ∀ (l : List SV), (∀ c ∈ l, noB b c = true → frzV b τ xs c = c) → noB.noBL b l = true → frzVL b τ xs l = l
  | [], _, _ => rfl
  | c :: r, h, hn => by
    simp only [noB.noBL, Bool.and_eq_true] at hn
    show frzV b τ xs c :: frzVL b τ xs r = c :: r
    rw [h c (by simp) hn.1, noBL_eq r (fun d hd => h d (List.mem_cons_of_mem _ hd)) hn.2]
theorem noB_eq {b : Nat} {τ : Ty} {xs : List τ.T} : ∀ (v : SV), noB b v = true → frzV b τ xs v = v
  | .sb b' n, h => by simp only [frzV]; rw [if_neg (of_decide_eq_true h)]
  | .ptr b' o, h => by simp only [frzV]; rw [if_neg (of_decide_eq_true h)]
  | .mp b', h => by simp only [frzV]; rw [if_neg (of_decide_eq_true h)]
  | .ow t e τ' r, h => by simp only [frzV]; rw [if_neg (of_decide_eq_true h)]
  | .ep b' s i, h => by simp only [frzV]; rw [if_neg (of_decide_eq_true h)]
  | .ef b' s i o, h => by simp only [frzV]; rw [if_neg (of_decide_eq_true h)]
  | .agg cs, h => congrArg SV.agg (noBL_eq cs (fun c _ => noB_eq c) h)
  | .tup cs, h => congrArg SV.tup (noBL_eq cs (fun c _ => noB_eq c) h)
  | .fn f cs, h => congrArg (SV.fn f) (noBL_eq cs (fun c _ => noB_eq c) h)
  | .non, _ => rfl
  | .und, _ => rfl
  | .int _ _, _ => rfl
  | .ki _ _, _ => rfl
  | .tt, _ => rfl
  | .ff, _ => rfl
  | .bool _, _ => rfl
  | .str _, _ => rfl
  | .nilp, _ => rfl
  | .nilf, _ => rfl
  | .nilm, _ => rfl
  | .gm _, _ => rfl
  | .er _, _ => rfl
  | .cp _, _ => rfl
  | .emp, _ => rfl
  | .sl _ _, _ => rfl
  | .tok _, _ => rfl
  | .mpl _ _, _ => rfl
  | .arr _ _, _ => rfl
  | .aw _ _ _, _ => rfl
  | .ub _, _ => rfl
theorem noBL_eq' {b : Nat} {τ : Ty} {xs : List τ.T} {l : List SV} (h : noB.noBL b l = true) : frzVL b τ xs l = l := noBL_eq l (fun c _ => noB_eq c) h

def frzVH (b : Nat) (τ : Ty) (xs : List τ.T) : Nat → List (List SV) → List (List SV)
  | _, [] => []
  | i, l :: r => (if i = b then [.non] else frzVL b τ xs l) :: frzVH b τ xs (i + 1) r
theorem frzVH_av (b : Nat) (τ : Ty) (xs : List τ.T) : ∀ (H : List (List SV)) (i : Nat), (frzVH b τ xs i H).map avL = frzH b τ.size (xs.map τ.enc) i (H.map avL)
  | [], _ => rfl
  | l :: r, i => by
    simp only [frzVH, List.map_cons, frzH, frzVH_av b τ xs r]
    congr 1
    split
    · rfl
    · exact frzVL_av' b τ xs l
theorem frzVH_len (b : Nat) (τ : Ty) (xs : List τ.T) : ∀ (H : List (List SV)) (i : Nat), (frzVH b τ xs i H).length = H.length
  | [], _ => rfl
  | l :: r, i => by simp [frzVH, frzVH_len b τ xs r]
theorem frzVH_get (b : Nat) (τ : Ty) (xs : List τ.T) : ∀ (H : List (List SV)) (i x : Nat), i + x ≠ b → nthSB (frzVH b τ xs i H) x = frzVL b τ xs (nthSB H x)
  | [], _, _, _ => rfl
  | l :: r, i, 0, h => by
    show (if i = b then _ else _) = _
    rw [if_neg (by simpa using h)]; rfl
  | l :: r, i, x + 1, h => frzVH_get b τ xs r (i + 1) x (by omega)
def SSt.frz (s : SSt) (b : Nat) (τ : Ty) (xs : List τ.T) : SSt := ⟨frzVL b τ xs s.regs, frzVH b τ xs 0 s.heap⟩
theorem frzS_av (s : SSt) (b : Nat) (τ : Ty) (xs : List τ.T) : (s.frz b τ xs).av = s.av.frz b τ.size (xs.map τ.enc) := by
  simp only [SSt.frz, SSt.av, ASt.frz, frzVH_av]
  rw [frzVL_av' b τ xs s.regs]

section
variable {β : Type 1}
def frzLK (b : Nat) (τ : Ty) (xs : List τ.T) : List SV → (List SV → β) → β
  | [], k => k []
  | c :: r, k => frzLK b τ xs r fun r' => k (frzV b τ xs c :: r')
theorem frzLK_eq (b : Nat) (τ : Ty) (xs : List τ.T) : ∀ (l : List SV) (k : List SV → β), frzLK b τ xs l k = k (frzVL b τ xs l)
  | [], _ => rfl
  | c :: r, k => by
    show frzLK b τ xs r _ = _
    rw [frzLK_eq b τ xs r]; rfl
def frzHK (b : Nat) (τ : Ty) (xs : List τ.T) : Nat → List (List SV) → (List (List SV) → β) → β
  | _, [], k => k []
  | i, l :: r, k => frzHK b τ xs (i + 1) r fun r' => if i = b then k ([.non] :: r') else frzLK b τ xs l fun l' => k (l' :: r')
theorem frzHK_eq (b : Nat) (τ : Ty) (xs : List τ.T) : ∀ (H : List (List SV)) (i : Nat) (k : List (List SV) → β), frzHK b τ xs i H k = k (frzVH b τ xs i H)
  | [], _, _ => rfl
  | l :: r, i, k => by
    simp only [frzHK, frzVH, frzHK_eq b τ xs r, frzLK_eq]
    split <;> rfl
end
def keepR (b : Nat) (W : Nat → Bool) : Nat → List SV → Bool
  | _, [] => true
  | i, c :: r => (W i || noB b c) && keepR b W (i + 1) r
theorem keepR_get {b : Nat} {W : Nat → Bool} : ∀ (l : List SV) (i j : Nat), keepR b W i l = true → W (i + j) = false → noB b (nthS l j) = true
  | [], _, _, _, _ => rfl
  | c :: r, i, 0, h, hw => by
    simp only [keepR, Bool.and_eq_true, Bool.or_eq_true] at h
    rcases h.1 with h1 | h1
    · simp only [Nat.add_zero] at hw; rw [hw] at h1; cases h1
    · exact h1
  | c :: r, i, j + 1, h, hw => by
    simp only [keepR, Bool.and_eq_true] at h
    exact keepR_get r (i + 1) j h.2 (by rw [show i + 1 + j = i + (j + 1) by omega]; exact hw)
def keepH (b : Nat) (Z : Nat → Bool) : Nat → List (List SV) → Bool
  | _, [] => true
  | i, l :: r => (!Z i || (decide (i ≠ b) && noB.noBL b l)) && keepH b Z (i + 1) r
theorem keepH_get {b : Nat} {Z : Nat → Bool} : ∀ (H : List (List SV)) (i j : Nat), j < H.length → keepH b Z i H = true → Z (i + j) = true → i + j ≠ b ∧ noB.noBL b (nthSB H j) = true
  | [], _, _, hj, _, _ => by simp at hj
  | l :: r, i, 0, _, h, hz => by
    simp only [keepH, Bool.and_eq_true, Bool.or_eq_true, Bool.not_eq_true', decide_eq_true_eq] at h
    simp only [Nat.add_zero] at hz ⊢
    rcases h.1 with h1 | h1
    · rw [hz] at h1; cases h1
    · exact h1
  | l :: r, i, j + 1, hj, h, hz => by
    simp only [keepH, Bool.and_eq_true] at h
    have := keepH_get r (i + 1) j (by simpa using hj) h.2 (by rw [show i + 1 + j = i + (j + 1) by omega]; exact hz)
    rw [show i + 1 + j = i + (j + 1) by omega] at this
    exact this

/-! ### Made rows that become own lists -/

def ownV (b e : Nat) (τ : Ty) (xs : List τ.T) : SV → SV
  | .sb b' n => if b' = b then .ow b e τ xs else .sb b' n
  | .ptr b' o => if b' = b then .non else .ptr b' o
  | .mp b' => if b' = b then .non else .mp b'
  | .ow t e' τ' r => if t = b then .non else .ow t e' τ' r
  | .ep b' s i => if b' = b then .non else .ep b' s i
  | .ef b' s i o => if b' = b then .non else .ef b' s i o
  | .agg cs => .agg (ownVL b e τ xs cs)
  | .tup cs => .tup (ownVL b e τ xs cs)
  | .fn f cs => .fn f (ownVL b e τ xs cs)
  | c => c
where
  ownVL (b e : Nat) (τ : Ty) (xs : List τ.T) : List SV → List SV
    | [] => []
    | c :: r => ownV b e τ xs c :: ownVL b e τ xs r
abbrev ownVL := @ownV.ownVL
/-- The lengths that a row's slices tell. -/
def nsOf (b : Nat) : SV → List Nat
  | .sb b' n => if b' = b then [n] else []
  | .agg cs => nsL b cs
  | .tup cs => nsL b cs
  | .fn _ cs => nsL b cs
  | _ => []
where
  nsL (b : Nat) : List SV → List Nat
    | [] => []
    | c :: r => nsOf b c ++ nsL b r
def nsH (b : Nat) : List (List SV) → List Nat
  | [] => []
  | l :: r => nsOf.nsL b l ++ nsH b r
theorem ownVL_av (b e : Nat) (τ : Ty) (xs : List τ.T) : ∀ (l : List SV), (∀ c ∈ l, (∀ n ∈ nsOf b c, n = xs.length) → (ownV b e τ xs c).av = own b e τ.size (xs.map τ.enc) c.av) → (∀ n ∈ nsOf.nsL b l, n = xs.length) →
    avL (ownVL b e τ xs l) = own.ownL b e τ.size (xs.map τ.enc) (avL l)
  | [], _, _ => rfl
  | c :: r, h, hn => by
    show (ownV b e τ xs c).av :: avL (ownVL b e τ xs r) = own b e τ.size (xs.map τ.enc) c.av :: own.ownL b e τ.size (xs.map τ.enc) (avL r)
    rw [h c (by simp) (fun n hx => hn n (List.mem_append_left _ hx)), ownVL_av b e τ xs r (fun d hd => h d (List.mem_cons_of_mem _ hd)) (fun n hx => hn n (List.mem_append_right _ hx))]
theorem ownV_av (b e : Nat) (τ : Ty) (xs : List τ.T) : ∀ v : SV, (∀ n ∈ nsOf b v, n = xs.length) → (ownV b e τ xs v).av = own b e τ.size (xs.map τ.enc) v.av
  | .sb b' n, h => by
    simp only [ownV, SV.av, own]
    split
    · rename_i e'
      rw [if_pos (by rw [List.length_map]; exact h n (by simp [nsOf, e']))]
      rfl
    · rfl
  | .ptr b' o, _ => by simp only [ownV, SV.av, own]; split <;> rfl
  | .mp b', _ => by simp only [ownV, SV.av, own]; split <;> rfl
  | .ow t e τ' r, _ => by simp only [ownV, SV.av, own]; split <;> rfl
  | .ep b' s i, _ => by simp only [ownV, SV.av, own]; split <;> rfl
  | .ef b' s i o, _ => by simp only [ownV, SV.av, own]; split <;> rfl
  | .agg cs, h => congrArg AV.agg (ownVL_av b e τ xs cs (fun c _ => ownV_av b e τ xs c) h)
  | .tup cs, h => congrArg AV.tup (ownVL_av b e τ xs cs (fun c _ => ownV_av b e τ xs c) h)
  | .fn f cs, h => congrArg (AV.fn f) (ownVL_av b e τ xs cs (fun c _ => ownV_av b e τ xs c) h)
  | .non, _ => rfl
  | .und, _ => rfl
  | .int _ _, _ => rfl
  | .ki _ _, _ => rfl
  | .tt, _ => rfl
  | .ff, _ => rfl
  | .bool _, _ => rfl
  | .str _, _ => rfl
  | .nilp, _ => rfl
  | .nilf, _ => rfl
  | .nilm, _ => rfl
  | .gm _, _ => rfl
  | .er _, _ => rfl
  | .cp _, _ => rfl
  | .emp, _ => rfl
  | .sl _ _, _ => rfl
  | .tok _, _ => rfl
  | .mpl _ _, _ => rfl
  | .arr _ _, _ => rfl
  | .aw _ _ _, _ => rfl
  | .ub _, _ => rfl
theorem ownVL_get (b e : Nat) (τ : Ty) (xs : List τ.T) : ∀ (l : List SV) (j : Nat), nthS (ownVL b e τ xs l) j = ownV b e τ xs (nthS l j)
  | [], _ => rfl
  | c :: _, 0 => rfl
  | c :: r, j + 1 => ownVL_get b e τ xs r j
theorem ownVL_len (b e : Nat) (τ : Ty) (xs : List τ.T) : ∀ (l : List SV), (ownVL b e τ xs l).length = l.length
  | [] => rfl
  | c :: r => by
    show (ownVL b e τ xs r).length + 1 = _
    rw [ownVL_len b e τ xs r]; rfl
theorem noBLo_eq {b e : Nat} {τ : Ty} {xs : List τ.T} : ∀ (l : List SV), (∀ c ∈ l, noB b c = true → ownV b e τ xs c = c) → noB.noBL b l = true → ownVL b e τ xs l = l
  | [], _, _ => rfl
  | c :: r, h, hn => by
    simp only [noB.noBL, Bool.and_eq_true] at hn
    show ownV b e τ xs c :: ownVL b e τ xs r = c :: r
    rw [h c (by simp) hn.1, noBLo_eq r (fun d hd => h d (List.mem_cons_of_mem _ hd)) hn.2]
theorem noBo_eq {b e : Nat} {τ : Ty} {xs : List τ.T} : ∀ (v : SV), noB b v = true → ownV b e τ xs v = v
  | .sb b' n, h => by simp only [ownV]; rw [if_neg (of_decide_eq_true h)]
  | .ptr b' o, h => by simp only [ownV]; rw [if_neg (of_decide_eq_true h)]
  | .mp b', h => by simp only [ownV]; rw [if_neg (of_decide_eq_true h)]
  | .ow t e τ' r, h => by simp only [ownV]; rw [if_neg (of_decide_eq_true h)]
  | .ep b' s i, h => by simp only [ownV]; rw [if_neg (of_decide_eq_true h)]
  | .ef b' s i o, h => by simp only [ownV]; rw [if_neg (of_decide_eq_true h)]
  | .agg cs, h => congrArg SV.agg (noBLo_eq cs (fun c _ => noBo_eq c) h)
  | .tup cs, h => congrArg SV.tup (noBLo_eq cs (fun c _ => noBo_eq c) h)
  | .fn f cs, h => congrArg (SV.fn f) (noBLo_eq cs (fun c _ => noBo_eq c) h)
  | .non, _ => rfl
  | .und, _ => rfl
  | .int _ _, _ => rfl
  | .ki _ _, _ => rfl
  | .tt, _ => rfl
  | .ff, _ => rfl
  | .bool _, _ => rfl
  | .str _, _ => rfl
  | .nilp, _ => rfl
  | .nilf, _ => rfl
  | .nilm, _ => rfl
  | .gm _, _ => rfl
  | .er _, _ => rfl
  | .cp _, _ => rfl
  | .emp, _ => rfl
  | .sl _ _, _ => rfl
  | .tok _, _ => rfl
  | .mpl _ _, _ => rfl
  | .arr _ _, _ => rfl
  | .aw _ _ _, _ => rfl
  | .ub _, _ => rfl
theorem noBLo_eq' {b e : Nat} {τ : Ty} {xs : List τ.T} {l : List SV} (h : noB.noBL b l = true) : ownVL b e τ xs l = l := noBLo_eq l (fun c _ => noBo_eq c) h
def ownVH (b e : Nat) (τ : Ty) (xs : List τ.T) : Nat → List (List SV) → List (List SV)
  | _, [] => []
  | i, l :: r => (if i = b then [.tok xs.length] else ownVL b e τ xs l) :: ownVH b e τ xs (i + 1) r
theorem ownVH_av (b e : Nat) (τ : Ty) (xs : List τ.T) : ∀ (H : List (List SV)) (i : Nat), (∀ n ∈ nsH b H, n = xs.length) → (ownVH b e τ xs i H).map avL = ownH b e τ.size (xs.map τ.enc) i (H.map avL)
  | [], _, _ => rfl
  | l :: r, i, hn => by
    simp only [ownVH, List.map_cons, ownH, ownVH_av b e τ xs r (i + 1) (fun n hx => hn n (List.mem_append_right _ hx))]
    congr 1
    split
    · show [AV.tok xs.length] = _
      rw [List.length_map]
    · exact ownVL_av b e τ xs l (fun c _ => ownV_av b e τ xs c) (fun n hx => hn n (List.mem_append_left _ hx))
theorem ownVH_len (b e : Nat) (τ : Ty) (xs : List τ.T) : ∀ (H : List (List SV)) (i : Nat), (ownVH b e τ xs i H).length = H.length
  | [], _ => rfl
  | l :: r, i => by simp [ownVH, ownVH_len b e τ xs r]
theorem ownVH_get (b e : Nat) (τ : Ty) (xs : List τ.T) : ∀ (H : List (List SV)) (i x : Nat), i + x ≠ b → nthSB (ownVH b e τ xs i H) x = ownVL b e τ xs (nthSB H x)
  | [], _, _, _ => rfl
  | l :: r, i, 0, h => by
    show (if i = b then _ else _) = _
    rw [if_neg (by simpa using h)]; rfl
  | l :: r, i, x + 1, h => ownVH_get b e τ xs r (i + 1) x (by omega)
def SSt.own (s : SSt) (b e : Nat) (τ : Ty) (xs : List τ.T) : SSt := ⟨ownVL b e τ xs s.regs, ownVH b e τ xs 0 s.heap⟩
theorem ownS_av (s : SSt) (b e : Nat) (τ : Ty) (xs : List τ.T) (h1 : ∀ n ∈ nsOf.nsL b s.regs, n = xs.length) (h2 : ∀ n ∈ nsH b s.heap, n = xs.length) : (s.own b e τ xs).av = s.av.own b e τ.size (xs.map τ.enc) := by
  simp only [SSt.own, SSt.av, ASt.own, ownVH_av b e τ xs s.heap 0 h2]
  rw [ownVL_av b e τ xs s.regs (fun c _ => ownV_av b e τ xs c) h1]
section
variable {β : Type 1}
def ownLK (b e : Nat) (τ : Ty) (xs : List τ.T) : List SV → (List SV → β) → β
  | [], k => k []
  | c :: r, k => ownLK b e τ xs r fun r' => k (ownV b e τ xs c :: r')
theorem ownLK_eq (b e : Nat) (τ : Ty) (xs : List τ.T) : ∀ (l : List SV) (k : List SV → β), ownLK b e τ xs l k = k (ownVL b e τ xs l)
  | [], _ => rfl
  | c :: r, k => by
    show ownLK b e τ xs r _ = _
    rw [ownLK_eq b e τ xs r]; rfl
def ownHK (b e : Nat) (τ : Ty) (xs : List τ.T) : Nat → List (List SV) → (List (List SV) → β) → β
  | _, [], k => k []
  | i, l :: r, k => ownHK b e τ xs (i + 1) r fun r' => if i = b then k ([.tok xs.length] :: r') else ownLK b e τ xs l fun l' => k (l' :: r')
theorem ownHK_eq (b e : Nat) (τ : Ty) (xs : List τ.T) : ∀ (H : List (List SV)) (i : Nat) (k : List (List SV) → β), ownHK b e τ xs i H k = k (ownVH b e τ xs i H)
  | [], _, _ => rfl
  | l :: r, i, k => by
    simp only [ownHK, ownVH, ownHK_eq b e τ xs r, ownLK_eq]
    split <;> rfl
end
section
variable {ρ : Type}
def reqAll : List Nat → Nat → Tr ρ → Tr ρ
  | [], _, t => t
  | n :: r, L, t => .req (decide (n = L)) (reqAll r L t)
theorem reqAll_ok {L : Nat} {t : Tr ρ} {r : ρ} : ∀ (l : List Nat), (reqAll l L t).run = some r → (∀ n ∈ l, n = L) ∧ t.run = some r
  | [], h => ⟨fun _ h' => (by cases h'), h⟩
  | n :: l, h => by
    obtain ⟨h1, h2⟩ := run_req h
    obtain ⟨h3, h4⟩ := reqAll_ok l h2
    refine ⟨fun m hm => ?_, h4⟩
    rcases List.mem_cons.1 hm with e | e
    · rw [e]; exact of_decide_eq_true h1
    · exact h3 m e
end

section
variable {ρ : Type}
def frzAllK (nx : Nat) (W Z : Nat → Bool) : List Nat → SSt → (SSt → Tr ρ) → Tr ρ
  | [], s, k => k s
  | b :: r, s, k => match nthS (nthSB s.heap b) 0 with
    | .arr τ xs => if nx ≤ b ∧ keepR b W 0 s.regs = true ∧ keepH b Z 0 s.heap = true then frzLK b τ xs s.regs fun R => frzHK b τ xs 0 s.heap fun H => frzAllK nx W Z r ⟨R, H⟩ k else .fail
    | .aw e τ xs => if nx ≤ b ∧ keepR b W 0 s.regs = true ∧ keepH b Z 0 s.heap = true then reqAll (nsOf.nsL b s.regs ++ nsH b s.heap) xs.length (ownLK b e τ xs s.regs fun R => ownHK b e τ xs 0 s.heap fun H => frzAllK nx W Z r ⟨R, H⟩ k) else .fail
    | _ => frzAllK nx W Z r s k
theorem frzAllK_ok {nx : Nat} {W Z : Nat → Bool} {r : ρ} : ∀ (l : List Nat) (s : SSt) (k : SSt → Tr ρ), (frzAllK nx W Z l s k).run = some r → ∃ s', Ent nx s.av s'.av ∧ Fz W Z s s' ∧ (k s').run = some r
  | [], s, k, h => ⟨s, Ent.refl _ _, Fz.refl _ _ _, h⟩
  | b :: l, s, k, h => by
    simp only [frzAllK] at h
    split at h
    · rename_i τ xs q
      replace h := ite_run h; obtain ⟨⟨h1, h2, h3⟩, h⟩ := h
      rw [frzLK_eq, frzHK_eq] at h
      obtain ⟨s', e1, e2, e3⟩ := frzAllK_ok l _ k h
      have e0 : Ent nx s.av (s.frz b τ xs).av := by
        rw [frzS_av]
        exact ent_frz h1 (by
          show nth (nthB (s.heap.map avL) b) 0 = _
          rw [nthSB_av, nthS_av, q]; rfl)
      have f0 : Fz W Z s (s.frz b τ xs) := ⟨frzVL_len _ _ _ _, fun x hx => by
          show nthS (frzVL b τ xs s.regs) x = _
          rw [frzVL_get, noB_eq _ (keepR_get _ 0 x h2 (by rw [Nat.zero_add]; exact hx))],
        Nat.le_of_eq (frzVH_len _ _ _ _ _).symm, fun x hx hz => by
          obtain ⟨w1, w2⟩ := keepH_get s.heap 0 x hx h3 (by rw [Nat.zero_add]; exact hz)
          show nthSB (frzVH b τ xs 0 s.heap) x = _
          rw [frzVH_get _ _ _ _ _ _ w1, noBL_eq' w2]⟩
      exact ⟨s', e0.trans e1, f0.trans e2, e3⟩
    · rename_i e τ xs q
      replace h := ite_run h; obtain ⟨⟨h1, h2, h3⟩, h⟩ := h
      obtain ⟨hn, h⟩ := reqAll_ok _ h
      rw [ownLK_eq, ownHK_eq] at h
      obtain ⟨s', e1, e2, e3⟩ := frzAllK_ok l _ k h
      have e0 : Ent nx s.av (s.own b e τ xs).av := by
        rw [ownS_av s b e τ xs (fun n hx => hn n (List.mem_append_left _ hx)) (fun n hx => hn n (List.mem_append_right _ hx))]
        exact ent_own h1 (by
          show nth (nthB (s.heap.map avL) b) 0 = _
          rw [nthSB_av, nthS_av, q]; rfl)
      have f0 : Fz W Z s (s.own b e τ xs) := ⟨ownVL_len _ _ _ _ _, fun x hx => by
          show nthS (ownVL b e τ xs s.regs) x = _
          rw [ownVL_get, noBo_eq _ (keepR_get _ 0 x h2 (by rw [Nat.zero_add]; exact hx))],
        Nat.le_of_eq (ownVH_len _ _ _ _ _ _).symm, fun x hx hz => by
          obtain ⟨w1, w2⟩ := keepH_get s.heap 0 x hx h3 (by rw [Nat.zero_add]; exact hz)
          show nthSB (ownVH b e τ xs 0 s.heap) x = _
          rw [ownVH_get _ _ _ _ _ _ _ w1, noBLo_eq' w2]⟩
      exact ⟨s', e0.trans e1, f0.trans e2, e3⟩
    · exact frzAllK_ok l s k h
end

/-- The made rows that a value is, or holds. -/
def sbsOf : SV → List Nat
  | .sb b _ => [b]
  | .agg cs => sbsL cs
  | .tup cs => sbsL cs
  | _ => []
where
  sbsL : List SV → List Nat
    | [] => []
    | c :: r => sbsOf c ++ sbsL r
def psOf (f : Nat) : List Callee → List PK
  | [] => []
  | c :: r => if c.f = f then c.ps else psOf f r
def valSbs : List PK → List SV → List Nat
  | .val _ :: r, a :: asv => sbsOf a ++ valSbs r asv
  | _ :: r, _ :: asv => valSbs r asv
  | _, _ => []
/-- What a temporary of this region was moved from. -/
def mvOf : List Oper → Nat → Option Operand
  | [], _ => none
  | o :: r, t => match o.dst with
    | some d => if d = t then (match o.op with
      | .move x => some x
      | .assign x => some x
      | _ => none) else mvOf r t
    | none => mvOf r t
def srcO (ops : List Oper) : Nat → Operand → Operand
  | 0, x => x
  | n + 1, .tmp t => match mvOf ops t with
    | some y => srcO ops n y
    | none => .tmp t
  | _, x => x
/-- What defines a temporary in this region. -/
def defO : List Oper → Nat → Option Op
  | [], _ => none
  | o :: r, t => match o.dst with
    | some d => if d = t then some o.op else defO r t
    | none => defO r t
def adrS (X : List XTy) (ops : List Oper) (R : List SV) : Nat → Operand → Option (Nat × Nat)
  | 0, _ => none
  | n + 1, x => match x with
    | .tmp t => match defO ops t with
      | some (.fieldAddr ty y f) => (match (nthX X ty).kd with
        | .st fs => (match fs[f]?, adrS X ops R n y with
          | some fd, some p => some (p.1, p.2 + fd.off)
          | _, _ => none)
        | _ => none)
      | some (.move y) => adrS X ops R n y
      | some (.assign y) => adrS X ops R n y
      | _ => (match nthS R t with
        | .ptr b o => some (b, o)
        | _ => none)
    | _ => none
/-- What an operand will hold, where it is loaded in this region. -/
def valO (X : List XTy) (H : List (List SV)) (ops : List Oper) (R : List SV) (x : Operand) : SV :=
  match srcO ops 4 x with
  | .tmp t => (match defO ops t with
    | some (.load ty a) => (match adrS X ops R 6 a with
      | some p => .agg (rdS (nthSB H p.1) p.2 (nthX X ty).size)
      | none => nthS R t)
    | _ => nthS R t)
  | y => evS R y
def opSbs (X : List XTy) (H : List (List SV)) (ops : List Oper) (C : List Callee) (R : List SV) (o : Oper) : List Nat :=
  match o.op with
  | .buildSlice _ _ parts => (parts.toList.map fun p => sbsOf (valO X H ops R p.2)).flatten
  | .call c => match c.callee with
    | .builtin .append => (match c.args.toList with
      | [x, _] => sbsOf (valO X H ops R x)
      | _ => [])
    | .value fo => match evS R fo with
      | .fn f _ => valSbs (psOf f C) (c.args.toList.map fun x => valO X H ops R x)
      | _ => []
    | _ => []
  | _ => []
def opsSbs (X : List XTy) (H : List (List SV)) (ops : List Oper) (C : List Callee) (R : List SV) : List Oper → List Nat
  | [] => []
  | o :: r => opSbs X H ops C R o ++ opsSbs X H ops C R r
/-- Rows that a loop's next round takes as values. -/
def slotSbs (R : List SV) : List Slot → List Nat
  | [] => []
  | .reg r _ :: l => sbsOf (nthS R r) ++ slotSbs R l
  | _ :: l => slotSbs R l
def resSbs : List RK → List SV → List Nat
  | .val _ :: r, a :: asv => sbsOf a ++ resSbs r asv
  | _ :: r, _ :: asv => resSbs r asv
  | _, _ => []

/-- A contract that hands over a struct with a made row. -/
def madB (c : Callee) : Bool := match c.rs with
  | .mad _ _ _ _ :: _ => true
  | _ => false
def fnOf (R : List SV) (o : Oper) : Option Nat := match o.op with
  | .call c => (match c.callee with
    | .value fo => (match evS R fo with
      | .fn f _ => some f
      | _ => none)
    | _ => none)
  | _ => none
section
variable {ρ : Type}
def filtK : List Callee → (List Callee → Tr ρ) → Tr ρ
  | [], k => k []
  | c :: r, k => filtK r fun r' => match madB c with
    | true => k r'
    | false => k (c :: r')
theorem filtK_ok {r : ρ} : ∀ (C : List Callee) (k : List Callee → Tr ρ), (filtK C k).run = some r → ∃ C', (∀ c ∈ C', c ∈ C) ∧ (k C').run = some r
  | [], k, h => ⟨[], fun _ h => h, h⟩
  | c :: C, k, h => by
    obtain ⟨C', h1, h2⟩ := filtK_ok C _ h
    split at h2
    · exact ⟨C', fun c hc => List.mem_cons_of_mem _ (h1 c hc), h2⟩
    · refine ⟨c :: C', fun d hd => ?_, h2⟩
      rcases List.mem_cons.1 hd with e | e
      · rw [e]; exact List.mem_cons_self
      · exact List.mem_cons_of_mem _ (h1 d e)
def isMadF : List Callee → Nat → Bool
  | [], _ => false
  | c :: r, f => bif decide (c.f = f) then (bif madB c then true else isMadF r f) else isMadF r f
def allMad (C : List Callee) (R : List SV) : List Oper → Bool
  | [] => true
  | o :: r => match fnOf R o with
    | some f => bif isMadF C f then allMad C R r else false
    | none => allMad C R r
def anyMad : List Callee → Bool
  | [] => false
  | c :: r => bif madB c then true else anyMad r
/-- The contracts for a region: those that hand over made rows only where nothing else is called. -/
def pickK (C : List Callee) (R : List SV) (ops : List Oper) (k : List Callee → Tr ρ) : Tr ρ := match anyMad C with
  | false => k C
  | true => match allMad C R ops with
    | true => k C
    | false => filtK C k
theorem pickK_ok {C : List Callee} {R : List SV} {ops : List Oper} {k : List Callee → Tr ρ} {r : ρ} (h : (pickK C R ops k).run = some r) : ∃ C', (∀ c ∈ C', c ∈ C) ∧ (k C').run = some r := by
  unfold pickK at h
  split at h
  · exact ⟨C, fun _ h => h, h⟩
  · split at h
    · exact ⟨C, fun _ h => h, h⟩
    · exact filtK_ok C k h
end

/-- What is told of the loops. -/
inductive HT where
  | nil
  | node (l r : HT)
  | loop (slots : List Slot) (b : HT)
  | unr (k : Nat) (b : HT)
def HT.l : HT → HT
  | .node l _ => l
  | _ => .nil
def HT.r : HT → HT
  | .node _ r => r
  | _ => .nil

def annot : Code → List (List Slot) → HT × List (List Slot)
  | .seq a b, hs => let p := annot a hs; let q := annot b p.2; (.node p.1 q.1, q.2)
  | .cond _ a b, hs => let p := annot a hs; let q := annot b p.2; (.node p.1 q.1, q.2)
  | .block _ c, hs => annot c hs
  | .loop c, hs => match hs with
    | h :: t => let p := annot c t; (match h with
      | [.sbl r] => if 1000000 ≤ r then .unr (r - 1000000) p.1 else .loop h p.1
      | _ => .loop h p.1, p.2)
    | [] => (.nil, [])
  | _, hs => (.nil, hs)

def opDsts : List Oper → List Nat
  | [] => []
  | o :: r => match o.dst with
    | some d => d :: opDsts r
    | none => opDsts r
/-- The registers that a piece of code writes. -/
def dstsOf : Code → List Nat
  | .region _ ops _ => opDsts ops.toList
  | .seq a b => dstsOf a ++ dstsOf b
  | .cond _ a b => dstsOf a ++ dstsOf b
  | .block _ c => dstsOf c
  | .loop c => dstsOf c
  | _ => []

def allN (p : Nat → Bool) : List Nat → Bool
  | [] => true
  | x :: r => p x && allN p r
theorem allN_mem {p : Nat → Bool} : ∀ {l : List Nat}, allN p l = true → ∀ x ∈ l, p x = true
  | [], _, _, h => by cases h
  | y :: r, h, x, hx => by
    simp only [allN, Bool.and_eq_true] at h
    rcases List.mem_cons.1 hx with rfl | hx
    · exact h.1
    · exact allN_mem h.2 x hx
def slotBs : List RSlot → List Nat
  | [] => []
  | .reg _ _ :: l => slotBs l
  | .sbl _ _ :: l => slotBs l
  | .own _ _ _ b :: l => b :: slotBs l
  | .blk _ b :: l => b :: slotBs l
  | .map _ b :: l => b :: slotBs l
  | .arr _ b :: l => b :: slotBs l
  | .cow _ b es :: l => (b :: es.map (·.1)) ++ slotBs l
theorem slotBs_mem : ∀ {ls : List RSlot} {i : Nat}, isSlotB ls i = true → i ∈ slotBs ls
  | [], _, h => by cases h
  | .reg _ _ :: l, i, h => slotBs_mem (ls := l) h
  | .sbl _ _ :: l, i, h => slotBs_mem (ls := l) h
  | .own _ _ _ b :: l, i, h => by
    simp only [isSlotB, Bool.or_eq_true, decide_eq_true_eq] at h
    rcases h with rfl | h
    · simp [slotBs]
    · exact List.mem_cons_of_mem _ (slotBs_mem h)
  | .blk _ b :: l, i, h => by
    simp only [isSlotB, Bool.or_eq_true, decide_eq_true_eq] at h
    rcases h with rfl | h
    · simp [slotBs]
    · exact List.mem_cons_of_mem _ (slotBs_mem h)
  | .map _ b :: l, i, h => by
    simp only [isSlotB, Bool.or_eq_true, decide_eq_true_eq] at h
    rcases h with rfl | h
    · simp [slotBs]
    · exact List.mem_cons_of_mem _ (slotBs_mem h)
  | .arr _ b :: l, i, h => by
    simp only [isSlotB, Bool.or_eq_true, decide_eq_true_eq] at h
    rcases h with rfl | h
    · simp [slotBs]
    · exact List.mem_cons_of_mem _ (slotBs_mem h)
  | .cow _ b es :: l, i, h => by
    simp only [isSlotB, Bool.or_eq_true, decide_eq_true_eq] at h
    rcases h with (rfl | h) | h
    · simp [slotBs]
    · exact List.mem_append_left _ (List.mem_cons_of_mem _ (isOw_mem h))
    · exact List.mem_append_right _ (slotBs_mem h)

section
variable {ρ : Type}

def chkK (nx : Nat) (W : Nat → Bool) (ls : List RSlot) (s1 s : SSt) (k : (tupT (rtys ls)).T → Tr ρ) : Tr ρ :=
  if chkB nx W ls s1 s (bsFrom (srcB ls s) 0 s1.heap.length) = true then conformK (srcB ls s) s1.heap.length ls s k else .fail

theorem chkK_ok {nx : Nat} {W : Nat → Bool} {ls : List RSlot} {s1 s : SSt} {k : (tupT (rtys ls)).T → Tr ρ} {r : ρ} (h : (chkK nx W ls s1 s k).run = some r)
    (hf : Fz W (fun b => decide (b < s1.heap.length) && !isSlotB ls b) s1 s) : ∃ x, (k x).run = some r ∧ Ent nx s.av (headS W ls s1 x).av := by
  replace h := ite_run h; obtain ⟨h1, h⟩ := h
  obtain ⟨x, h2, h3⟩ := conformK_ok (bs := bsFrom (srcB ls s) 0 s1.heap.length) (bsFrom_length _ _ _) (fun b hb => by rw [bsFrom_get _ _ _ _ hb, Nat.zero_add]) ls s k h
  exact ⟨x, h2, head_ent h1 h3 hf⟩

/-- A loop whose rounds are told one by one. -/
def unrK (f : SSt → (AEx → SSt → Tr ρ) → Tr ρ) (K : AEx → SSt → Tr ρ) : Nat → SSt → Tr ρ
  | 0, _ => .fail
  | n + 1, s => f s fun ex s' => match ex with
    | .nrm => unrK f K n s'
    | .ext id => K (.ext id) s'
    | .ret => K .ret s'

def xc (X : List XTy) (C : List Callee) (nx : Nat) : {ρ : Type} → Option (EqP ρ) → Code → HT → (Nat → Bool) → (Nat → Bool) → SSt → (AEx → SSt → Tr ρ) → Tr ρ
  | _, _, .skip, _, _, _, s, K => K .nrm s
  | _, _, .region _ ops dr, _, W, Z, s, K => frzAllK nx W Z (opsSbs X s.heap ops.toList C s.regs ops.toList) s fun s1 => pickK C s1.regs ops.toList fun C => xops X C W Z ops.toList dr ops.toList s1 [] fun s' fs => if dr = true then (if orderB ops (masks ops) fs = true then K .nrm s' else .fail) else K .nrm s'
  | _, q, .seq a b, h, W, Z, s, K => xc X C nx q a h.l W Z s fun x s' => match x with
    | .nrm => xc X C nx q b h.r W Z s' K
    | .ext id => K (.ext id) s'
    | .ret => K .ret s'
  | _, q, .cond c a b, h, W, Z, s, K => match evS s.regs c with
    | .tt => xc X C nx q a h.l W Z s K
    | .ff => xc X C nx q b h.r W Z s K
    | .bool t => .br t (xc X C nx q a h.l W Z s K) (xc X C nx q b h.r W Z s K)
    | .ub n => match q with
      | some q' => .br (decide (n = 0)) (.amb q' id (xc X C nx q a h.l W Z s K) (xc X C nx q b h.r W Z s K)) (xc X C nx q b h.r W Z s K)
      | none => .fail
    | _ => .fail
  | _, q, .block id c, h, W, Z, s, K => xc X C nx q c h W Z s fun x s' => match x with
    | .ext id' => if id' = id then K .nrm s' else K (.ext id') s'
    | .nrm => K .nrm s'
    | .ret => K .ret s'
  | _, _, .loop c, h, W, Z, s, K => match h with
    | .loop slots sub => ownK slots s fun s1 => match resolve slots s1 with
      | none => .fail
      | some ls => if slotW (fun r => memN r (dstsOf c)) slots = true ∧ rslotW (fun r => memN r (dstsOf c)) ls = true ∧ allN W (dstsOf c) = true ∧ allN (fun b => !Z b) (slotBs ls) = true then
          chkK nx (fun r => memN r (dstsOf c)) ls s1 s1 fun x0 => .iter (tupT (rtys ls)) (fun x => headK (fun r => memN r (dstsOf c)) ls s1 x fun sh =>
            xc X C nx none c sub (fun r => memN r (dstsOf c)) (fun b => decide (b < s1.heap.length) && !isSlotB ls b) sh fun ex s' => match ex with
              | .nrm => frzAllK nx (fun r => memN r (dstsOf c)) (fun b => decide (b < s1.heap.length) && !isSlotB ls b) (slotSbs s'.regs slots) s' fun s' => ownK slots s' fun s2 => chkK nx (fun r => memN r (dstsOf c)) ls s1 s2 fun x' => .ret (.inl x')
              | .ext id => (K (.ext id) s').map .inr
              | .ret => (K .ret s').map .inr) x0
        else .fail
    | .unr n sub => unrK (fun s K => xc X C nx none c sub W Z s K) K n s
    | _ => .fail
  | _, _, .exit id, _, _, _, s, K => K (.ext id) s
  | _, _, .ret, _, _, _, s, K => K .ret s
  | _, _, .label _, _, _, _, s, K => K .nrm s
  | _, _, _, _, _, _, _, _ => .fail

variable {P : Program} {X : List XTy} {C : List Callee}

theorem map_inr {σ : Type} {t : Tr ρ} {z : σ ⊕ ρ} (h : (t.map Sum.inr : Tr (σ ⊕ ρ)).run = some z) : ∃ r, z = .inr r ∧ t.run = some r := by
  rw [Tr.run_map] at h
  cases q : t.run with
  | none => rw [q] at h; cases h
  | some r => rw [q] at h; injection h with h; exact ⟨r, h.symm, rfl⟩

theorem iter_last {σ : Type} {b : σ → Option (σ ⊕ ρ)} {r : ρ} : ∀ {n : Nat} {x : σ}, iterF b (n + 1) x = some r → (∃ x', b x = some (.inl x') ∧ iterF b n x' = some r) ∨ b x = some (.inr r) := by
  intro n x h
  simp only [iterF] at h
  split at h
  · cases h
  · rename_i x' q; exact .inl ⟨x', q, h⟩
  · rename_i r' q; injection h with h; subst h; exact .inr q

theorem xc_ok (hC : ∀ c ∈ C, c.ok P) {nx : Nat} : ∀ {ρ : Type} (q : Option (EqP ρ)) (c : Code) (h : HT) (W Z : Nat → Bool) (s : SSt) (K : AEx → SSt → Tr ρ) (r : ρ) (Q : AEx → ASt → Prop), (xc X C nx q c h W Z s K).run = some r →
    (∀ x s', Fz W Z s s' → (K x s').run = some r → Q x s'.av) → awp P (TX X) nx c s.av Q
  | _, eq, .skip, h, W, Z, s, K, r, Q, hr, hk => hk .nrm s (Fz.refl _ _ _) hr
  | _, eq, .region id ops dr, h, W, Z, s, K, r, Q, hr, hk => by
    obtain ⟨s1, he, hf1, hr⟩ := frzAllK_ok _ _ _ hr
    obtain ⟨C', hC', hr⟩ := pickK_ok hr
    refine ⟨s1.av, he, xops_ok (fun c hc => hC c (hC' c hc)) ops.toList s1 [] _ r _ hr fun s' fs hf hq => ?_⟩
    simp only [regK]
    cases dr with
    | false => exact ⟨fun e => (by cases e), hk .nrm s' (hf1.trans hf) hq⟩
    | true =>
      simp only [if_true] at hq
      replace hq := ite_run hq
      exact ⟨fun _ => hq.1, hk .nrm s' (hf1.trans hf) hq.2⟩
  | _, eq, .seq a b, h, W, Z, s, K, r, Q, hr, hk => by
    refine xc_ok hC eq a h.l W Z s _ r _ hr fun x s' hf hq => ?_
    cases x with
    | nrm => exact xc_ok hC eq b h.r W Z s' K r Q hq fun x s'' hf' hq' => hk x s'' (hf.trans hf') hq'
    | ext id => exact hk (.ext id) s' hf hq
    | ret => exact hk .ret s' hf hq
  | _, eq, .cond c a b, h, W, Z, s, K, r, Q, hr, hk => by
    simp only [xc] at hr
    simp only [awp, evS_av]
    split at hr
    · rename_i q
      rw [q]
      exact ⟨fun _ => xc_ok hC eq a h.l W Z s K r Q hr hk, fun e => by cases e⟩
    · rename_i q
      rw [q]
      exact ⟨fun e => (by cases e), fun _ => xc_ok hC eq b h.r W Z s K r Q hr hk⟩
    · rename_i t q
      rw [q]
      obtain ⟨h1, h2⟩ := run_br hr
      exact ⟨fun e => xc_ok hC eq a h.l W Z s K r Q (h1 e) hk, fun e => xc_ok hC eq b h.r W Z s K r Q (h2 e) hk⟩
    · rename_i n q
      rw [q]
      split at hr
      · rename_i q'
        obtain ⟨h1, h2⟩ := run_br hr
        by_cases e : n = 0
        · obtain ⟨x, a1, a2, a3⟩ := run_amb (h1 (decide_eq_true e))
          subst a3
          exact ⟨fun _ => xc_ok hC _ a h.l W Z s K _ Q a1 hk, xc_ok hC _ b h.r W Z s K _ Q a2 hk⟩
        · exact ⟨fun e' => absurd e' e, xc_ok hC _ b h.r W Z s K r Q (h2 (decide_eq_false e)) hk⟩
      · cases hr
    · cases hr
  | _, eq, .block id c, h, W, Z, s, K, r, Q, hr, hk => by
    refine xc_ok hC eq c h W Z s _ r _ hr fun x s' hf hq => ?_
    cases x with
    | nrm => exact hk .nrm s' hf hq
    | ext id' =>
      simp only at hq
      simp only [blkK]
      split at hq
      · rename_i e; rw [if_pos e]; exact hk .nrm s' hf hq
      · rename_i e; rw [if_neg e]; exact hk (.ext id') s' hf hq
    | ret => exact hk .ret s' hf hq
  | ρ, eq, .loop c, h, W, Z, s, K, r, Q, hr, hk => by
    cases h with
    | nil => cases hr
    | node a b => cases hr
    | unr n sub =>
      simp only [xc] at hr
      refine ⟨fun n a => ∃ s', a = s'.av ∧ Fz W Z s s' ∧ (unrK (fun s K => xc X C nx none c sub W Z s K) K n s').run = some r, ⟨_, n, Ent.refl _ _, s, rfl, Fz.refl _ _ _, hr⟩, fun m a hI => ?_⟩
      obtain ⟨s', rfl, hf, hq⟩ := hI
      cases m with
      | zero => cases hq
      | succ m =>
        simp only [unrK] at hq
        refine xc_ok hC none c sub W Z s' _ r _ hq fun ex s'' hf' hq' => ?_
        cases ex with
        | nrm => exact ⟨_, m, Ent.refl _ _, Nat.lt_succ_self _, s'', rfl, hf.trans hf', hq'⟩
        | ext id => exact hk (.ext id) s'' (hf.trans hf') hq'
        | ret => exact hk .ret s'' (hf.trans hf') hq'
    | loop slots sub =>
    simp only [xc] at hr
    obtain ⟨s1, ho, hr⟩ := ownK_run _ _ _ hr
    split at hr
    · cases hr
    rename_i ls hls
    replace hr := ite_run hr; obtain ⟨⟨hw, hw2, hWd, hZd⟩, hr⟩ := hr
    generalize hW' : (fun r => memN r (dstsOf c)) = W' at *
    generalize hZ' : (fun b => decide (b < s1.heap.length) && !isSlotB ls b) = Z' at *
    obtain ⟨hf1, hh1⟩ := ownify_fz (W := W') (Z := fun _ => true) slots s s1 hw ho
    obtain ⟨x0, hr, he0⟩ := chkK_ok hr (hZ' ▸ Fz.refl _ _ _)
    have hWW : ∀ r, W r = false → W' r = false := fun r hr' => by
      cases hq : W' r with
      | false => rfl
      | true =>
        subst hW'
        have := allN_mem hWd r (memN_iff.1 hq)
        rw [hr'] at this; cases this
    have hZZ : ∀ b, Z b = true → isSlotB ls b = false := fun b hb => by
      cases hq : isSlotB ls b with
      | false => rfl
      | true =>
        have := allN_mem hZd b (slotBs_mem hq)
        rw [hb] at this; cases this
    have hheadF : ∀ x, Fz W Z s (headS W' ls s1 x) := fun x => by
      refine ⟨?_, fun r hr' => ?_, ?_, fun b hb hz => ?_⟩
      · simp only [headS, slotRegs_length, dropW_length]; exact hf1.len
      · simp only [headS]
        rw [slotRegs_not _ _ _ hw2 r (hWW r hr'), dropW_get, Nat.zero_add, if_neg (by rw [hWW r hr']; simp)]
        exact hf1.regs r (hWW r hr')
      · simp only [headS, headH_length]; exact hf1.hl
      · simp only [headS]
        rw [headH_get _ _ _ _ _ (Nat.lt_of_lt_of_le hb hf1.hl), Nat.zero_add, headBlk_not _ _ _ (hZZ b hz)]
        exact hh1 b hb
    have hheadF2 : ∀ x, Fz W' Z' s1 (headS W' ls s1 x) := fun x => by
      refine ⟨?_, fun r hr' => ?_, ?_, fun b hb hz => ?_⟩
      · simp only [headS, slotRegs_length, dropW_length]
      · simp only [headS]
        rw [slotRegs_not _ _ _ hw2 r hr', dropW_get, Nat.zero_add, if_neg (by rw [hr']; simp)]
      · simp only [headS, headH_length]; exact Nat.le_refl _
      · simp only [headS]
        subst hZ'
        simp only [Bool.and_eq_true, Bool.not_eq_true'] at hz
        rw [headH_get _ _ _ _ _ hb, Nat.zero_add, headBlk_not _ _ _ hz.2]
        rfl
    simp only [Tr.run] at hr
    let body : (tupT (rtys ls)).T → Option ((tupT (rtys ls)).T ⊕ ρ) := fun y => Tr.run (headK W' ls s1 y fun sh => xc X C nx none c sub W' Z' sh fun ex s' => match ex with
      | .nrm => frzAllK nx W' Z' (slotSbs s'.regs slots) s' fun s' => ownK slots s' fun s2 => chkK nx W' ls s1 s2 fun x' => .ret (.inl x')
      | .ext id => (K (.ext id) s').map .inr
      | .ret => (K .ret s').map .inr)
    refine ⟨fun n a => ∃ x, a = (headS W' ls s1 x).av ∧ iterF body n x = some r, ⟨_, FUEL, (ownify_ent slots s s1 ho).trans he0, x0, rfl, hr⟩, fun n a hI => ?_⟩
    obtain ⟨x, rfl, hit⟩ := hI
    cases n with
    | zero => cases hit
    | succ n =>
      have hb := iter_last hit
      have main : ∀ z, body x = some z → (∀ x', z = .inl x' → iterF body n x' = some r) → (∀ r', z = .inr r' → r' = r) → awp P (TX X) nx c (headS W' ls s1 x).av (loopK nx (fun n a => ∃ x, a = (headS W' ls s1 x).av ∧ iterF body n x = some r) (n + 1) Q) := by
        intro z hz hz1 hz2
        simp only [body, headK_eq] at hz
        refine xc_ok hC none c sub W' Z' _ _ z _ hz fun ex s' hf hq => ?_
        cases ex with
        | nrm =>
          simp only at hq
          obtain ⟨s3, he3, hf3, hq3⟩ := frzAllK_ok _ _ _ hq
          clear hq
          obtain ⟨s2, ho2, hq⟩ := ownK_run _ _ _ hq3
          clear hq3
          obtain ⟨hf2, hh2⟩ := ownify_fz (W := W') (Z := Z') slots s3 s2 hw ho2
          have hfull : Fz W' Z' s1 s2 := (((hheadF2 x).trans hf).trans hf3).trans hf2
          subst hZ'
          obtain ⟨x', hq, he⟩ := chkK_ok hq hfull
          injection hq with hq
          exact ⟨_, n, he3.trans ((ownify_ent slots s3 s2 ho2).trans he), Nat.lt_succ_self _, x', rfl, hz1 x' hq.symm⟩
        | ext id =>
          simp only at hq
          obtain ⟨r', e1, e2⟩ := map_inr hq
          have := hz2 r' e1
          subst this
          refine hk (.ext id) s' ?_ e2
          refine (hheadF x).trans ⟨hf.len, fun r hr' => hf.regs r (hWW r hr'), hf.hl, fun b hb' hz' => ?_⟩
          refine hf.heap b hb' ?_
          subst hZ'
          have : b < s1.heap.length := by simpa [headS, headH_length] using hb'
          simp [this, hZZ b hz']
        | ret =>
          simp only at hq
          obtain ⟨r', e1, e2⟩ := map_inr hq
          have := hz2 r' e1
          subst this
          refine hk .ret s' ?_ e2
          refine (hheadF x).trans ⟨hf.len, fun r hr' => hf.regs r (hWW r hr'), hf.hl, fun b hb' hz' => ?_⟩
          refine hf.heap b hb' ?_
          subst hZ'
          have : b < s1.heap.length := by simpa [headS, headH_length] using hb'
          simp [this, hZZ b hz']
      rcases hb with ⟨x', h1, h2⟩ | h1
      · exact main _ h1 (fun y hy => by injection hy with hy; subst hy; exact h2) (fun r' h => by cases h)
      · exact main _ h1 (fun y hy => by cases hy) (fun r' h => by injection h with h; exact h.symm)
  | _, eq, .exit id, h, W, Z, s, K, r, Q, hr, hk => hk (.ext id) s (Fz.refl _ _ _) hr
  | _, eq, .ret, h, W, Z, s, K, r, Q, hr, hk => hk .ret s (Fz.refl _ _ _) hr
  | _, eq, .label _, h, W, Z, s, K, r, Q, hr, hk => hk .nrm s (Fz.refl _ _ _) hr
  | _, _, .rangeFunc .., h, W, Z, s, K, r, Q, hr, hk => by simp [xc, Tr.run] at hr
  | _, _, .scope _, h, W, Z, s, K, r, Q, hr, hk => by simp [xc, Tr.run] at hr
  | _, _, .goto _, h, W, Z, s, K, r, Q, hr, hk => by simp [xc, Tr.run] at hr
  | _, _, .refuse _, h, W, Z, s, K, r, Q, hr, hk => by simp [xc, Tr.run] at hr

/-! ### The end of a function -/

def resVals (X : List XTy) (s : SSt) : List ResultVar → Option (List SV)
  | [] => some []
  | .tmp t :: r => match resVals X s r with
    | some vs => some (nthS s.regs t :: vs)
    | none => none
  | .cell a t :: r => if (nthX X t).kd.isOther = false then (match nthS s.regs a with
    | .ptr b o => if (nthX X t).kd.isAgg = true then (if allS AV.plain (rdS (nthSB s.heap b) o (nthX X t).size) = true then (match resVals X s r with
        | some vs => some (.agg (rdS (nthSB s.heap b) o (nthX X t).size) :: vs)
        | none => none) else none)
      else if (nthS (nthSB s.heap b) o).av.plain = true then (match resVals X s r with
        | some vs => some (nthS (nthSB s.heap b) o :: vs)
        | none => none) else none
    | _ => none) else none
theorem resVals_ok {s : SSt} : ∀ (rs : List ResultVar) (vs : List SV) (k : List AV → Prop), resVals X s rs = some vs → k (avL vs) → resK (TX X) s.av rs k
  | [], vs, k, h, hk => by injection h with h; subst h; exact hk
  | .tmp t :: r, vs, k, h, hk => by
    simp only [resVals] at h
    split at h
    · rename_i ws q
      injection h with h
      subst h
      show resK _ _ r fun vs => k (nth s.av.regs t :: vs)
      refine resVals_ok r ws _ q ?_
      rw [show nth s.av.regs t = (nthS s.regs t).av from nthS_av _ _]
      exact hk
    · cases h
  | .cell a t :: r, vs, k, h, hk => by
    simp only [resVals] at h
    replace h := Option.ite_none_right_eq_some.1 h
    obtain ⟨h0, h⟩ := h
    refine ⟨h0, ?_⟩
    rw [show nth s.av.regs a = (nthS s.regs a).av from nthS_av _ _]
    split at h
    · rename_i b o q
      rw [q]
      simp only [SV.av]
      split at h
      · rename_i hag
        rw [if_pos (show (TX X t).kd.isAgg = true from hag)]
        replace h := Option.ite_none_right_eq_some.1 h
        obtain ⟨h1, h⟩ := h
        have hrd : rdc (s.av.view.cell b) o (TX X t).size = avL (rdS (nthSB s.heap b) o (nthX X t).size) := rdS_av _ _ (fun j => cell_av s b j) _ _
        split at h
        · rename_i ws q2
          injection h with h
          subst h
          rw [hrd]
          exact ⟨by rw [allS_av]; exact h1, resVals_ok r ws _ q2 hk⟩
        · cases h
      · rename_i hag
        rw [if_neg (show ¬ (TX X t).kd.isAgg = true from hag)]
        replace h := Option.ite_none_right_eq_some.1 h
        obtain ⟨h1, h⟩ := h
        rw [cell_av]
        split at h
        · rename_i ws q2
          injection h with h
          subst h
          exact ⟨h1, resVals_ok r ws _ q2 hk⟩
        · cases h
    · cases h

def getResK {α : Type} : (rs : List RK) → List SV → SSt → ((tupT (RK.tys rs)).T → List Nat → Tr α) → Tr α
  | [], [], _, k => k () []
  | .val v :: r, c :: cs, s, k => match v.get c with
    | some x => getResK r cs s fun y os => k (x, y) os
    | none => .fail
  | .own e τ :: r, c :: cs, s, k => match c with
    | .ow b e' τ' xs => if h : τ' = τ then (if e' = e then (match nthSB s.heap b with
      | [.tok n] => .req (decide (n = xs.length)) (getResK r cs s fun y os => k (h ▸ xs, y) (b :: os))
      | _ => .fail) else .fail) else .fail
    | _ => .fail
  | .row τ :: r, c :: cs, s, k => match c with
    | .sb b m => (match nthSB s.heap b with
      | [.arr τ' xs] => if h : τ' = τ then (getResK r cs s fun y os => k (((m : Int), h ▸ xs), y) (b :: os)) else .fail
      | _ => .fail)
    | _ => .fail
  | .ptr τ :: r, c :: cs, s, k => match c with
    | .nilp => getResK r cs s fun y os => k ((false, τ.d), y) os
    | .ptr b o => if o = 0 then (match gtRow τ (nthSB s.heap b) with
      | some x => getResK r cs s fun y os => k ((true, x), y) (b :: os)
      | none => .fail) else .fail
    | _ => .fail
  | .map τ :: r, c :: cs, s, k => match c with
    | .nilm => getResK r cs s fun y os => k ((false, []), y) os
    | .mp b => (match nthSB s.heap b with
      | [.mpl τ' es] => if h : τ' = τ then getResK r cs s fun y os => k ((true, h ▸ es), y) (b :: os) else .fail
      | _ => .fail)
    | _ => .fail
  | .fnb f τ :: r, c :: cs, s, k => match c with
    | .fn f' [.ptr b o] => if f' = f ∧ o = 0 then (match gtRow τ (nthSB s.heap b) with
      | some x => getResK r cs s fun y os => k (x, y) (b :: os)
      | none => .fail) else .fail
    | _ => .fail
  | .mad a e τ p :: r, c :: cs, s, k => match c with
    | .agg ds => (match gtCells a ds with
      | some (x, .sb b m :: ds') => (match gtRow p ds' with
        | some z => (match nthSB s.heap b with
          | [.aw e' τ' xs] => if h : τ' = τ then (if e' = e then .req (decide (m = xs.length)) (getResK r cs s fun y os => k ((x, (h ▸ xs, z)), y) (b :: os)) else .fail) else .fail
          | _ => .fail)
        | none => .fail)
      | _ => .fail)
    | _ => .fail
  | _, _, _, _ => .fail

def getSb0 : (is : List Nat) → List SV → Option (intsT is).T
  | [], [] => some ()
  | i :: r, .sb b n :: cs => if b = i then (match getSb0 r cs with
    | some y => some ((n : Int), y)
    | none => none) else none
  | _, _ => none
theorem getSb0_wk {g : Nat → Nat} {N n : Nat} (hg : ∀ j, j < n → j < N ∧ g j = j) : ∀ {is : List Nat} {cs : List SV} {x : (intsT is).T}, allLt n is = true → getSb0 is cs = some x → WkL g N (avL cs) (avL (sbsS id is x))
  | [], [], _, _, _ => trivial
  | [], _ :: _, _, _, h => by cases h
  | i :: r, [], _, _, h => by cases h
  | i :: r, v :: cs, x, hl, h => by
    cases v <;> first | (simp [getSb0] at h; done) | skip
    rename_i b k
    simp only [getSb0] at h
    replace h := Option.ite_none_right_eq_some.1 h
    obtain ⟨h1, h⟩ := h
    simp only [allLt, Bool.and_eq_true, decide_eq_true_eq] at hl
    split at h
    · rename_i y q
      injection h with h
      subst h
      subst h1
      obtain ⟨w1, w2⟩ := hg b hl.1
      exact ⟨wk_sb w1 w2.symm, getSb0_wk hg hl.2 q⟩
    · cases h

def getOw0 : (es : List (Nat × Nat × Ty)) → List SV → Option (ownsT es).T
  | [], [] => some ()
  | o :: r, .ow b e τ xs :: cs => if b = o.1 ∧ e = o.2.1 then (if h : τ = o.2.2 then (match getOw0 r cs with
    | some y => some (h ▸ xs, y)
    | none => none) else none) else none
  | _, _ => none
theorem getOw0_wk {g : Nat → Nat} {N n : Nat} (hg : ∀ j, j < n → j < N ∧ g j = j) : ∀ {es : List (Nat × Nat × Ty)} {cs : List SV} {x : (ownsT es).T}, allLtO n es = true → getOw0 es cs = some x → WkL g N (avL cs) (avL (owsS id es x))
  | [], [], _, _, _ => trivial
  | [], _ :: _, _, _, h => by cases h
  | o :: r, [], _, _, h => by cases h
  | (i, e0, σ) :: r, v :: cs, x, hl, h => by
    cases v <;> first | (simp [getOw0] at h; done) | skip
    rename_i b e τ xs
    simp only [getOw0] at h
    replace h := Option.ite_none_right_eq_some.1 h
    obtain ⟨⟨h1, h3⟩, h⟩ := h
    simp only [allLtO, Bool.and_eq_true, decide_eq_true_eq] at hl
    split at h
    · rename_i hτ
      split at h
      · rename_i y q
        injection h with h
        subst h
        subst hτ
        subst h1
        subst h3
        obtain ⟨w1, w2⟩ := hg b hl.1
        exact ⟨wk_ow rfl rfl rfl w1 w2.symm, getOw0_wk hg hl.2 q⟩
      · cases h
    · cases h

def getBls : (bl : List BK) → Nat → List (List SV) → Option (tupT (BK.tys bl)).T
  | [], _, _ => some ()
  | .dat τ :: r, i, H => match gtRow τ (nthSB H i) with
    | some x => match getBls r (i + 1) H with
      | some y => some (x, y)
      | none => none
    | none => none
  | .ref j :: r, i, H => if isRef (nthSB H i) j = true then getBls r (i + 1) H else none
  | .arr τ :: r, i, H => match nthSB H i with
    | [.arr τ' xs] => if h : τ' = τ then (match getBls r (i + 1) H with
      | some y => some (h ▸ xs, y)
      | none => none) else none
    | _ => none
  | .cel τ is :: r, i, H => match gtCells τ (nthSB H i) with
    | some (x, cs) => match getSb0 is cs with
      | some z => match getBls r (i + 1) H with
        | some y => some ((x, z), y)
        | none => none
      | none => none
    | none => none
  | .cow τ es :: r, i, H => match gtCells τ (nthSB H i) with
    | some (x, cs) => match getOw0 es cs with
      | some z => match getBls r (i + 1) H with
        | some y => some ((x, z), y)
        | none => none
      | none => none
    | none => none
  | .tok :: r, i, H => match nthSB H i with
    | [.tok n] => match getBls r (i + 1) H with
      | some y => some ((n : Int), y)
      | none => none
    | _ => none

/-- Results that are rows of the call's own: an empty slice becomes one. -/
def resSlots : List ResultVar → List RK → List Slot
  | .tmp t :: r, .own e τ :: k => .own t e τ :: resSlots r k
  | _ :: r, _ :: k => resSlots r k
  | _, _ => []
def endT (X : List XTy) (res : List ResultVar) (rs : List RK) (bl : List BK) (s : SSt) : Tr ((tupT (RK.tys rs)).T × (tupT (BK.tys bl)).T) :=
  match resVals X s res with
    | some vs0 => frzAllK bl.length (fun _ => true) (fun _ => false) (resSbs rs vs0) s fun s => ownK (resSlots res rs) s fun s => match resVals X s res with
      | some vs => getResK rs vs s fun x os => match getBls bl 0 s.heap with
        | some y => if distinct (bsFrom id 0 bl.length ++ os) = true ∧ refsIn bl.length bl = true then .ret (x, y) else .fail
        | none => .fail
      | none => .fail
    | none => .fail
def endK (X : List XTy) (res : List ResultVar) (rs : List RK) (bl : List BK) : AEx → SSt → Tr ((tupT (RK.tys rs)).T × (tupT (BK.tys bl)).T)
  | .ext _, _ => .fail
  | _, s => endT X res rs bl s

theorem resS_len (n m : Nat) : ∀ (rs : List RK) (y : (tupT (RK.tys rs)).T), (resS n rs y).length = (resS m rs y).length := by
  intro rs
  induction rs generalizing n m with
  | nil => intro y; rfl
  | cons c rs ih =>
    intro y
    cases c with
    | val v => simp only [resS, List.length_cons, ih n m]
    | own e τ => simp only [resS, List.length_cons, ih (n + 1) (m + 1)]
    | row τ => simp only [resS, List.length_cons, ih (n + 1) (m + 1)]
    | mad a e τ p => simp only [resS, List.length_cons, ih (n + 1) (m + 1)]
    | fnb f τ => simp only [resS, List.length_cons, ih (n + 1) (m + 1)]
    | ptr τ =>
      simp only [resS]
      cases y.1.1
      · simp only [cond_false, List.length_cons, ih n m]
      · simp only [cond_true, List.length_cons, ih (n + 1) (m + 1)]
    | map τ =>
      simp only [resS]
      cases y.1.1
      · simp only [cond_false, List.length_cons, ih n m]
      · simp only [cond_true, List.length_cons, ih (n + 1) (m + 1)]

/-- What comes out, by values and blocks: the numbers of the blocks stand in pre ++ os. -/
theorem getResK_ok {α : Type} {s : SSt} {r : α} : ∀ (rs : List RK) (vs : List SV) (k : (tupT (RK.tys rs)).T → List Nat → Tr α), (getResK rs vs s k).run = some r →
    ∃ x os, (k x os).run = some r ∧ os.length = (newsS rs x).length ∧ vs.length = (resS 0 rs x).length ∧
      (∀ pre : List Nat, ∀ N, N = (pre ++ os).length → ∀ bs, bs = pre ++ os → WkL (nthN bs) N (avL vs) (avL (resS pre.length rs x))) ∧ (∀ g N, WkHs g N s.av.heap os ((newsS rs x).map avL))
  | [], [], k, h => ⟨(), [], h, rfl, rfl, fun _ _ _ _ _ => trivial, fun _ _ => trivial⟩
  | [], _ :: _, k, h => by cases h
  | .val v :: rs, [], k, h => by cases h
  | .own _ _ :: rs, [], k, h => by cases h
  | .row _ :: rs, [], k, h => by cases h
  | .ptr _ :: rs, [], k, h => by cases h
  | .map _ :: rs, [], k, h => by cases h
  | .mad _ _ _ _ :: rs, [], k, h => by cases h
  | .fnb _ _ :: rs, [], k, h => by cases h
  | .ptr τ :: rs, c :: cs, k, h => by
    simp only [getResK] at h
    split at h
    · obtain ⟨y, os, h1, h2, h3, h4, h5⟩ := getResK_ok rs cs _ h
      exact ⟨((false, τ.d), y), os, h1, h2, by simp [resS, h3], fun pre N hN bs hbs => ⟨wk_nilp, h4 pre N hN bs hbs⟩, h5⟩
    · rename_i b o
      replace h := ite_run h; obtain ⟨ho, h⟩ := h
      split at h
      · rename_i x q
        obtain ⟨y, os, h1, h2, h3, h4, h5⟩ := getResK_ok rs cs _ h
        subst ho
        refine ⟨((true, x), y), b :: os, h1, by simp [newsS, h2], ?_, fun pre N hN bs hbs => ⟨?_, ?_⟩, fun g N => ⟨?_, h5 g N⟩⟩
        · simp only [resS, cond_true, List.length_cons, h3, resS_len (0 + 1) 0]
        · subst hbs
          refine wk_ptr rfl (by rw [hN]; simp) ?_
          clear h4 hN
          induction pre with
          | nil => rfl
          | cons p pre ih => exact ih
        · have := h4 (pre ++ [b]) N (by rw [hN]; simp) bs (by rw [hbs]; simp)
          simpa using this
        · show WkL g N (nthB (s.heap.map avL) b) (avL (τ.svs x))
          rw [nthSB_av, τ.svs_av]
          exact (gtRow_lo q).wks
      · cases h
    · cases h
  | .map τ :: rs, c :: cs, k, h => by
    simp only [getResK] at h
    split at h
    · obtain ⟨y, os, h1, h2, h3, h4, h5⟩ := getResK_ok rs cs _ h
      exact ⟨((false, []), y), os, h1, h2, by simp [resS, h3], fun pre N hN bs hbs => ⟨wk_nilm, h4 pre N hN bs hbs⟩, h5⟩
    · rename_i b
      split at h
      · rename_i τ' es q
        split at h
        · rename_i hτ
          obtain ⟨y, os, h1, h2, h3, h4, h5⟩ := getResK_ok rs cs _ h
          subst hτ
          refine ⟨((true, es), y), b :: os, h1, by simp [newsS, h2], ?_, fun pre N hN bs hbs => ⟨?_, ?_⟩, fun g N => ⟨?_, h5 g N⟩⟩
          · simp only [resS, cond_true, List.length_cons, h3, resS_len (0 + 1) 0]
          · subst hbs
            refine wk_mp (by rw [hN]; simp) ?_
            clear h4 hN
            induction pre with
            | nil => rfl
            | cons p pre ih => exact ih
          · have := h4 (pre ++ [b]) N (by rw [hN]; simp) bs (by rw [hbs]; simp)
            simpa using this
          · show WkL g N (nthB (s.heap.map avL) b) (avL [.mpl τ' es])
            rw [nthSB_av, q]
            exact ⟨wk_mps rfl, trivial⟩
        · cases h
      · cases h
    · cases h
  | .fnb f τ :: rs, c :: cs, k, h => by
    simp only [getResK] at h
    split at h
    · rename_i f' b o
      replace h := ite_run h; obtain ⟨⟨hf, ho⟩, h⟩ := h
      split at h
      · rename_i x q
        obtain ⟨y, os, h1, h2, h3, h4, h5⟩ := getResK_ok rs cs _ h
        subst hf; subst ho
        refine ⟨(x, y), b :: os, h1, by simp [newsS, h2], ?_, fun pre N hN bs hbs => ⟨?_, ?_⟩, fun g N => ⟨?_, h5 g N⟩⟩
        · simp only [resS, List.length_cons, h3, resS_len (0 + 1) 0]
        · subst hbs
          refine wk_fn (wkL_cons (wk_ptr rfl (by rw [hN]; simp) ?_) wkL_nil)
          clear h4 hN
          induction pre with
          | nil => rfl
          | cons p pre ih => exact ih
        · have := h4 (pre ++ [b]) N (by rw [hN]; simp) bs (by rw [hbs]; simp)
          simpa using this
        · show WkL g N (nthB (s.heap.map avL) b) (avL (τ.svs x))
          rw [nthSB_av, τ.svs_av]
          exact (gtRow_lo q).wks
      · cases h
    · cases h
  | .mad a e τ p :: rs, c :: cs, k, h => by
    simp only [getResK] at h
    split at h
    · rename_i ds
      split at h
      · rename_i x b m ds' qa
        split at h
        · rename_i z qz
          split at h
          · rename_i e' τ' xs q
            split at h
            · rename_i hτ
              replace h := ite_run h; obtain ⟨he, h⟩ := h
              replace h := run_req h; obtain ⟨hn, h⟩ := h
              have hn := of_decide_eq_true hn
              obtain ⟨y, os, h1, h2, h3, h4, h5⟩ := getResK_ok rs cs _ h
              subst hτ; subst he
              refine ⟨((x, (xs, z)), y), b :: os, h1, by simp [newsS, h2], ?_, fun pre N hN bs hbs => ⟨?_, ?_⟩, fun g N => ⟨?_, h5 g N⟩⟩
              · simp only [resS, List.length_cons, h3, resS_len (0 + 1) 0]
              · obtain ⟨pp, w1, w2⟩ := gtCells_lo qa
                refine wk_agg (ds := avL (a.svs x ++ SV.sb pre.length xs.length :: p.svs z)) ?_
                show WkL _ _ (avL ds) _
                rw [w1, avL_app, avL_app, a.svs_av]
                refine wkL_app w2.wks ⟨?_, ?_⟩
                · subst hbs
                  rw [hn]
                  refine wk_sb (by rw [hN]; simp) ?_
                  clear h4 hN
                  induction pre with
                  | nil => rfl
                  | cons p pre ih => exact ih
                · show WkL _ _ (avL ds') (avL (p.svs z))
                  rw [p.svs_av]
                  exact (gtRow_lo qz).wks
              · have := h4 (pre ++ [b]) N (by rw [hN]; simp) bs (by rw [hbs]; simp)
                simpa using this
              · show WkL g N (nthB (s.heap.map avL) b) _
                rw [nthSB_av, q]
                exact ⟨wk_aw rfl rfl, trivial⟩
            · cases h
          · cases h
        · cases h
      · cases h
    · cases h
  | .val v :: rs, c :: cs, k, h => by
    simp only [getResK] at h
    split at h
    · rename_i x q
      obtain ⟨y, os, h1, h2, h3, h4, h5⟩ := getResK_ok rs cs _ h
      exact ⟨(x, y), os, h1, h2, by simp [resS, h3], fun pre N hN bs hbs => ⟨VT.get_wk q, h4 pre N hN bs hbs⟩, h5⟩
    · cases h
  | .row τ :: rs, c :: cs, k, h => by
    simp only [getResK] at h
    split at h
    · rename_i b m
      split at h
      · rename_i τ' xs q
        split at h
        · rename_i hτ
          obtain ⟨y, os, h1, h2, h3, h4, h5⟩ := getResK_ok rs cs _ h
          subst hτ
          refine ⟨(((m : Int), xs), y), b :: os, h1, by simp [newsS, h2], ?_, fun pre N hN bs hbs => ⟨?_, ?_⟩, fun g N => ⟨?_, h5 g N⟩⟩
          · simp only [resS, List.length_cons, h3, resS_len (0 + 1) 0]
          · subst hbs
            refine wk_sb (by rw [hN]; simp) ?_
            clear h4 hN
            induction pre with
            | nil => rfl
            | cons p pre ih => exact ih
          · have := h4 (pre ++ [b]) N (by rw [hN]; simp) bs (by rw [hbs]; simp)
            simpa using this
          · show WkL g N (nthB (s.heap.map avL) b) (avL [.arr τ' xs])
            rw [nthSB_av, q]
            exact ⟨wk_arr rfl rfl, trivial⟩
        · cases h
      · cases h
    · cases h
  | .own e τ :: rs, c :: cs, k, h => by
    simp only [getResK] at h
    split at h
    · rename_i b e' τ' xs
      split at h
      · rename_i hτ
        replace h := ite_run h; obtain ⟨he, h⟩ := h
        split at h
        · rename_i n q
          replace h := run_req h; obtain ⟨hn, h⟩ := h
          have hn := of_decide_eq_true hn
          obtain ⟨y, os, h1, h2, h3, h4, h5⟩ := getResK_ok rs cs _ h
          subst hτ; subst he
          refine ⟨(xs, y), b :: os, h1, by simp [newsS, h2], ?_, fun pre N hN bs hbs => ⟨?_, ?_⟩, fun g N => ⟨?_, h5 g N⟩⟩
          · simp only [resS, List.length_cons, h3, resS_len (0 + 1) 0]
          · subst hbs
            refine wk_ow rfl rfl rfl (by rw [hN]; simp) ?_
            clear h4 hN
            induction pre with
            | nil => rfl
            | cons p pre ih => exact ih
          · have := h4 (pre ++ [b]) N (by rw [hN]; simp) bs (by rw [hbs]; simp)
            simpa using this
          · show WkL g N (nthB (s.heap.map avL) b) _
            rw [nthSB_av, q, hn]
            exact ⟨wk_tok rfl, trivial⟩
        · cases h
      · cases h
    · cases h

theorem nthN_from (l : List Nat) : ∀ (n i j : Nat), j < n → nthN (bsFrom id i n ++ l) j = i + j
  | 0, _, _, h => by omega
  | n + 1, i, 0, _ => rfl
  | n + 1, i, j + 1, h => by
    show nthN (bsFrom id (i + 1) n ++ l) j = _
    rw [nthN_from l n (i + 1) j (by omega)]; omega
theorem getBls_ok {s : SSt} {g : Nat → Nat} {N : Nat} {n : Nat} (hg : ∀ j, j < n → j < N ∧ g j = j) : ∀ (bl : List BK) (i : Nat) (y : (tupT (BK.tys bl)).T), refsIn n bl = true → getBls bl i s.heap = some y → WkHs g N s.av.heap (bsFrom id i bl.length) ((blocksS id bl y).map avL)
  | [], _, _, _, _ => trivial
  | .dat τ :: r, i, y, hr, h => by
    simp only [getBls] at h
    split at h
    · rename_i x q
      split at h
      · rename_i z q2
        injection h with h
        subst h
        refine ⟨?_, getBls_ok hg r (i + 1) z hr q2⟩
        show WkL g N (nthB (s.heap.map avL) (id i)) (avL (τ.svs x))
        rw [nthSB_av, τ.svs_av]
        exact (gtRow_lo q).wks
      · cases h
    · cases h
  | .ref j :: r, i, y, hr, h => by
    simp only [getBls] at h
    replace h := Option.ite_none_right_eq_some.1 h
    obtain ⟨h1, h⟩ := h
    simp only [refsIn, Bool.and_eq_true, decide_eq_true_eq] at hr
    refine ⟨?_, getBls_ok hg r (i + 1) y hr.2 h⟩
    show WkL g N (nthB (s.heap.map avL) (id i)) [.ptr j 0]
    obtain ⟨w1, w2⟩ := hg j hr.1
    rw [nthSB_av, show nthSB s.heap (id i) = _ from isRef_eq h1]
    exact ⟨wk_ptr rfl w1 w2.symm, trivial⟩
  | .arr τ :: r, i, y, hr, h => by
    simp only [getBls] at h
    split at h
    · rename_i τ' xs q
      split at h
      · rename_i e
        split at h
        · rename_i z q2
          injection h with h
          subst e
          subst h
          refine ⟨?_, getBls_ok hg r (i + 1) z hr q2⟩
          show WkL g N (nthB (s.heap.map avL) (id i)) (avL [.arr _ xs])
          rw [nthSB_av, show nthSB s.heap (id i) = _ from q]
          exact ⟨wk_arr rfl rfl, trivial⟩
        · cases h
      · cases h
    · cases h
  | .cel τ is :: r, i, y, hr, h => by
    simp only [refsIn, Bool.and_eq_true] at hr
    simp only [getBls] at h
    split at h
    · rename_i x cs q
      split at h
      · rename_i z qz
        split at h
        · rename_i y1 q2
          injection h with h
          subst h
          refine ⟨?_, getBls_ok hg r (i + 1) y1 hr.2 q2⟩
          show WkL g N (nthB (s.heap.map avL) (id i)) (avL (τ.svs x ++ sbsS id is z))
          obtain ⟨p, e1, e2⟩ := gtCells_lo q
          rw [nthSB_av, show nthSB s.heap (id i) = _ from e1, avL_app, avL_app, τ.svs_av]
          exact wkL_app e2.wks (getSb0_wk hg hr.1 qz)
        · cases h
      · cases h
    · cases h
  | .cow τ es :: r, i, y, hr, h => by
    simp only [refsIn, Bool.and_eq_true] at hr
    simp only [getBls] at h
    split at h
    · rename_i x cs q
      split at h
      · rename_i z qz
        split at h
        · rename_i y1 q2
          injection h with h
          subst h
          refine ⟨?_, getBls_ok hg r (i + 1) y1 hr.2 q2⟩
          show WkL g N (nthB (s.heap.map avL) (id i)) (avL (τ.svs x ++ owsS id es z))
          obtain ⟨p, e1, e2⟩ := gtCells_lo q
          rw [nthSB_av, show nthSB s.heap (id i) = _ from e1, avL_app, avL_app, τ.svs_av]
          exact wkL_app e2.wks (getOw0_wk hg hr.1 qz)
        · cases h
      · cases h
    · cases h
  | .tok :: r, i, y, hr, h => by
    simp only [getBls] at h
    split at h
    · rename_i m q
      split at h
      · rename_i z q2
        injection h with h
        subst h
        refine ⟨?_, getBls_ok hg r (i + 1) z hr q2⟩
        show WkL g N (nthB (s.heap.map avL) (id i)) (avL [.tok (Int.toNat (m : Int))])
        rw [nthSB_av, show nthSB s.heap (id i) = _ from q]
        exact ⟨wk_tok rfl, trivial⟩
      · cases h
    · cases h
theorem wkHs_app {g : Nat → Nat} {n : Nat} {H : List (List AV)} : ∀ {a b : List Nat} {A B : List (List AV)}, WkHs g n H a A → WkHs g n H b B → WkHs g n H (a ++ b) (A ++ B)
  | [], _, [], _, _, h => h
  | x :: a, _, y :: A, _, h, h' => ⟨h.1, wkHs_app h.2 h'⟩
  | [], _, _ :: _, _, h, _ => h.elim
  | _ :: _, _, [], _, h, _ => h.elim
theorem isId_from (l : List Nat) : ∀ (n i : Nat), isId i n (bsFrom id i n ++ l) = true
  | 0, _ => rfl
  | n + 1, i => by simp [bsFrom, isId, isId_from l n]
theorem wk_sing {g : Nat → Nat} {n : Nat} : ∀ {a b : List AV}, WkL g n a b → Wk g n (sing a) (sing b)
  | [], [], _ => wk_tup trivial
  | [c], [d], h => h.1
  | c :: c' :: cs, d :: d' :: ds, h => wk_tup h
  | [], _ :: _, h => h.elim
  | _ :: _, [], h => h.elim
  | [_], _ :: _ :: _, h => h.2.elim
  | _ :: _ :: _, [_], h => h.2.elim

/-- The test of a function's results. -/
def eqFn (rs : List RK) (bl : List BK) : EqP ((tupT (RK.tys rs)).T × (tupT (BK.tys bl)).T) := ⟨fun a b => (tupT (RK.tys rs)).eqb a.1 b.1 && (tupT (BK.tys bl)).eqb a.2 b.2, fun a b => by
  rw [Bool.and_eq_true]
  constructor
  · rintro ⟨h1, h2⟩
    exact Prod.ext (eqb_eq h1) (eqb_eq h2)
  · rintro rfl
    exact ⟨eqb_self _ _, eqb_self _ _⟩⟩
def xfun (X : List XTy) (C : List Callee) (fn : Func) (ps : List PK) (bl : List BK) (rs : List RK) (hs : List (List Slot)) (x : (tupT (PK.tys ps)).T) (y : (tupT (BK.tys bl)).T) : Tr ((tupT (RK.tys rs)).T × (tupT (BK.tys bl)).T) :=
  match fn.body with
  | none => .fail
  | some code => xc X C bl.length (some (eqFn rs bl)) code (annot code hs).1 (fun _ => true) (fun _ => false) ⟨argsS ps x ++ List.replicate (fn.ntmps - ps.length) .und, blocksS id bl y⟩ (endK X fn.results.toList rs bl)

theorem argsS_length : ∀ (ps : List PK) (x : (tupT (PK.tys ps)).T), (argsS ps x).length = ps.length
  | [], _ => rfl
  | .val v :: r, x => by simp [argsS, argsS_length r]
  | .ptr i :: r, x => by simp [argsS, argsS_length r]
  | .fn f caps :: r, x => by simp [argsS, argsS_length r]
  | .any :: r, x => by simp [argsS, argsS_length r]
  | .sb i :: r, x => by simp [argsS, argsS_length r]

theorem callee_ok (hT : TabOk P (TX X)) (hm : P.follows .mixedOrders = true) (hC : ∀ c ∈ C, c.ok P) {c : Callee} {fn : Func} (hf : P.funcs[c.f]? = some fn) (hn : (fn.name == "runtime.NumGoroutine") = false) (hany : fn.body.isNone = false) (hs : List (List Slot))
    (hrun : ∀ x y r y', c.fn x y = some (r, y') → (xfun X C fn c.ps c.bl c.rs hs x y).run = some (r, y')) : c.ok P := by
  · refine ⟨⟨fn, hf, hn, hany⟩, fun x y r y' h => ?_⟩
    have hr := hrun x y r y' h
    unfold xfun at hr
    split at hr
    · cases hr
    rename_i code hb
    refine meets_of_awp hT hm hf hb (rs := fn.results.toList) (by simp) ?_
    have e1 : (⟨avL (argsS c.ps x) ++ List.replicate (fn.ntmps - (avL (argsS c.ps x)).length) .und, (blocksS id c.bl y).map avL⟩ : ASt) = (SSt.mk (argsS c.ps x ++ List.replicate (fn.ntmps - c.ps.length) .und) (blocksS id c.bl y)).av := by
      simp only [SSt.av, avL_app, avL_length, argsS_length]
      congr 2
      rw [avL_eq, List.map_replicate]; rfl
    rw [e1, List.length_map, blocksS_length]
    refine xc_ok hC _ code _ _ _ _ _ _ _ hr fun ex s' _ hq => ?_
    have fin : (endT X fn.results.toList c.rs c.bl s').run = some (r, y') → ∃ s1, Ent c.bl.length s'.av s1 ∧ resK (TX X) s1 fn.results.toList fun vs => ∃ bs, Keeps c.bl.length bs ∧ Wk (nthN bs) bs.length (sing vs) (sing (avL (resS c.bl.length c.rs r))) ∧ WkHs (nthN bs) bs.length s1.heap bs ((blocksS id c.bl y' ++ newsS c.rs r).map avL) := by
      intro hq
      unfold endT at hq
      split at hq
      · obtain ⟨s0, he0, _, hq⟩ := frzAllK_ok _ _ _ hq
        obtain ⟨s1, ho1, hq⟩ := ownK_run _ _ _ hq
        have he1 := he0.trans (ownify_ent _ _ _ ho1)
        refine ⟨s1.av, he1, ?_⟩
        split at hq <;> first | (cases hq; done) | skip
        rename_i vs qv
        obtain ⟨x1, os, h1, h2, h3, h4, h5⟩ := getResK_ok c.rs vs _ hq
        split at h1
        · rename_i y1 qy
          replace h1 := ite_run h1; obtain ⟨⟨hd, hri⟩, h1⟩ := h1
          injection h1 with h1
          injection h1 with e1 e2
          subst e1; subst e2
          refine resVals_ok _ vs _ qv ⟨bsFrom id 0 c.bl.length ++ os, ⟨isId_from os _ 0, hd⟩, ?_, ?_⟩
          · refine wk_sing ?_
            have := h4 (bsFrom id 0 c.bl.length) _ rfl _ rfl
            rw [bsFrom_length] at this
            exact this
          · rw [List.map_append]
            refine wkHs_app (getBls_ok (n := c.bl.length) (fun j hj' => ?_) c.bl 0 y1 hri qy) (h5 _ _)
            refine ⟨by rw [List.length_append, bsFrom_length]; omega, ?_⟩
            rw [nthN_from _ _ _ _ hj', Nat.zero_add]
        · cases h1
      · cases hq
    cases ex with
    | nrm => exact fin hq
    | ret => exact fin hq
    | ext id => cases hq
end
end Go.Ab
end
