/- The machine, told for simp: state in the form ⟨R, H⟩, one lemma for each operation; what is simplified inside of what (congr). -/
import Derived.Test.YtpgagefaneaioaaT18
namespace Go.Ab
open Go Go.RowKit
set_option linter.unusedVariables false
set_option linter.unusedSimpArgs false

variable {P : Program} {T : TT}

/-- What an operand comes to, by the registers. -/
def evR (R : List AV) : Operand → AV
  | .tmp r => nth R r
  | .const v => cv v
  | .global _ => .non
  | .func f => .fn f []

theorem ev_mk (R : List AV) (H : List (List AV)) : (ASt.mk R H).view.ev = evR R := by
  funext x; cases x <;> rfl

/-- The footprint of an operation that touches no block. -/
def ft0 (H : List (List AV)) : Ft := ⟨[], [], H.length, 0⟩

def gD : List Oper → Nat → Option Nat
  | [], _ => none
  | o :: _, 0 => o.dst
  | _ :: r, n + 1 => gD r n

theorem gD_eq (all : Array Oper) (g : Nat × Bool) : gDst all g = gD all.toList g.1 := by
  unfold gDst
  rw [← Array.getElem?_toList]
  generalize all.toList = l
  generalize g.1 = n
  induction l generalizing n with
  | nil => simp [gD]
  | cons o r ih =>
    cases n with
    | zero => simp [gD]
    | succ n => simpa [gD] using ih n

/-- A guarded operation, by what its guard holds. -/
def grd (P : Program) (T : TT) (l : List Oper) (dr : Bool) (o : Oper) (rest : List Oper) (d : Nat) (gb : Bool) (R : List AV) (H : List (List AV)) (fs : List Ft) (K : ASt → List Ft → Prop) (v : AV) : Prop :=
  match v with
  | .bool b => (b = gb → aop P T o ⟨R.set d (.bool gb), H⟩ fun e rd => aops P T ⟨l⟩ dr rest (ASt.apply ⟨R.set d (.bool gb), H⟩ e) (more dr fs e rd) K) ∧
      (b = (!gb) → aops P T ⟨l⟩ dr rest (ASt.apply ⟨R.set d (.bool (!gb)), H⟩ ⟨o.dst, .und, [], H.length, []⟩) (more dr fs ⟨o.dst, .und, [], H.length, []⟩ []) K)
  | .und => aops P T ⟨l⟩ dr rest (ASt.apply ⟨R, H⟩ ⟨o.dst, .und, [], H.length, []⟩) (more dr fs ⟨o.dst, .und, [], H.length, []⟩ []) K
  | _ => False

section
variable {l : List Oper} {dr : Bool} {dst : Option Tmp} {op : Op} {ty : TypeId} {pos : String} {af : Array Edge} {g : Option (Nat × Bool)} {rest : List Oper} {d : Nat} {gb : Bool} {R : List AV} {H : List (List AV)} {fs : List Ft} {K : ASt → List Ft → Prop}
theorem grd_congr {o : Oper} {v v' : AV} (h : v = v') : grd P T l dr o rest d gb R H fs K v = grd P T l dr o rest d gb R H fs K v' := by rw [h]
theorem grd_tt : grd P T l dr ⟨dst, op, ty, pos, af, g⟩ rest d true R H fs K (.bool true) = aop P T ⟨dst, op, ty, pos, af, g⟩ ⟨R.set d (.bool true), H⟩ (fun e rd => aops P T ⟨l⟩ dr rest (ASt.apply ⟨R.set d (.bool true), H⟩ e) (more dr fs e rd) K) := by simp [grd]
theorem grd_ff : grd P T l dr ⟨dst, op, ty, pos, af, g⟩ rest d false R H fs K (.bool false) = aop P T ⟨dst, op, ty, pos, af, g⟩ ⟨R.set d (.bool false), H⟩ (fun e rd => aops P T ⟨l⟩ dr rest (ASt.apply ⟨R.set d (.bool false), H⟩ e) (more dr fs e rd) K) := by simp [grd]
theorem grd_tf : grd P T l dr ⟨dst, op, ty, pos, af, g⟩ rest d false R H fs K (.bool true) = aops P T ⟨l⟩ dr rest (ASt.apply ⟨R.set d (.bool true), H⟩ ⟨dst, .und, [], H.length, []⟩) (more dr fs ⟨dst, .und, [], H.length, []⟩ []) K := by simp [grd]
theorem grd_ft : grd P T l dr ⟨dst, op, ty, pos, af, g⟩ rest d true R H fs K (.bool false) = aops P T ⟨l⟩ dr rest (ASt.apply ⟨R.set d (.bool false), H⟩ ⟨dst, .und, [], H.length, []⟩) (more dr fs ⟨dst, .und, [], H.length, []⟩ []) K := by simp [grd]
theorem grd_und : grd P T l dr ⟨dst, op, ty, pos, af, g⟩ rest d gb R H fs K .und = aops P T ⟨l⟩ dr rest (ASt.apply ⟨R, H⟩ ⟨dst, .und, [], H.length, []⟩) (more dr fs ⟨dst, .und, [], H.length, []⟩ []) K := by simp [grd]
/-- The ways of an open guard: it is looked at once, by both literals. -/
theorem grd_split {o : Oper} {b : Bool} (h1 : b = true → grd P T l dr o rest d gb R H fs K (.bool true)) (h2 : b = false → grd P T l dr o rest d gb R H fs K (.bool false)) : grd P T l dr o rest d gb R H fs K (.bool b) := by
  cases b
  · exact h2 rfl
  · exact h1 rfl
end

theorem aops_nil (all : Array Oper) (dr : Bool) (s : ASt) (fs : List Ft) (K : ASt → List Ft → Prop) : aops P T all dr [] s fs K = K s fs := Eq.trans rfl rfl

theorem aops_cons (all : Array Oper) (dr : Bool) (dst : Option Tmp) (op : Op) (ty : TypeId) (pos : String) (af : Array Edge) (rest : List Oper) (R : List AV) (H : List (List AV)) (fs : List Ft) (K : ASt → List Ft → Prop) :
    aops P T all dr (⟨dst, op, ty, pos, af, none⟩ :: rest) ⟨R, H⟩ fs K = aop P T ⟨dst, op, ty, pos, af, none⟩ ⟨R, H⟩ (fun e rd => aops P T all dr rest (ASt.apply ⟨R, H⟩ e) (more dr fs e rd) K) := Eq.trans rfl rfl

theorem aops_guard (l : List Oper) (dr : Bool) (dst : Option Tmp) (op : Op) (ty : TypeId) (pos : String) (af : Array Edge) (n : Nat) (gb : Bool) (rest : List Oper) (R : List AV) (H : List (List AV)) (fs : List Ft) (K : ASt → List Ft → Prop) :
    aops P T ⟨l⟩ dr (⟨dst, op, ty, pos, af, some (n, gb)⟩ :: rest) ⟨R, H⟩ fs K = match gD l n with
      | none => False
      | some d => grd P T l dr ⟨dst, op, ty, pos, af, some (n, gb)⟩ rest d gb R H fs K (nth R d) := by
  rw [aops]
  simp only [gD_eq]
  cases gD l n with
  | none => rfl
  | some d =>
    simp only []
    cases nth R d <;> rfl

theorem more_f (fs : List Ft) (e : Eff) (rd : List (Nat × Nat)) : more false fs e rd = fs := by simp [more]
theorem more_t (fs : List Ft) (d : Option Nat) (v : AV) (ws : List (Nat × Nat × AV)) (b : Nat) (N : List (List AV)) (rd : List (Nat × Nat)) : more true fs ⟨d, v, ws, b, N⟩ rd = fs ++ [⟨rd, ws.map fun x => (x.1, x.2.1), b, N.length⟩] := by simp [more, ftOf]

theorem apply_v (R : List AV) (H : List (List AV)) (d : Nat) (v : AV) (b : Nat) : ASt.apply ⟨R, H⟩ ⟨some d, v, [], b, []⟩ = ⟨R.set d v, H⟩ := by simp [ASt.apply, setR, wrH]
theorem apply_n (R : List AV) (H : List (List AV)) (v : AV) (b : Nat) : ASt.apply ⟨R, H⟩ ⟨none, v, [], b, []⟩ = ⟨R, H⟩ := by simp [ASt.apply, setR, wrH]
theorem apply_s (R : List AV) (H : List (List AV)) (d : Nat) (v : AV) (ws : List (Nat × Nat × AV)) (b : Nat) (N : List (List AV)) : ASt.apply ⟨R, H⟩ ⟨some d, v, ws, b, N⟩ = ⟨R.set d v, wrH ws H ++ N⟩ := Eq.trans rfl rfl
theorem apply_sn (R : List AV) (H : List (List AV)) (v : AV) (ws : List (Nat × Nat × AV)) (b : Nat) (N : List (List AV)) : ASt.apply ⟨R, H⟩ ⟨none, v, ws, b, N⟩ = ⟨R, wrH ws H ++ N⟩ := Eq.trans rfl rfl

section
variable (dst : Option Tmp) (ty : TypeId) (pos : String) (af : Array Edge) (g : Option (Nat × Bool)) (R : List AV) (H : List (List AV)) (k : Eff → List (Nat × Nat) → Prop)

/-- How a value goes on. -/
def go (dst : Option Tmp) (H : List (List AV)) (k : Eff → List (Nat × Nat) → Prop) : AV → Prop := fun c => k ⟨dst, c, [], H.length, []⟩ []
theorem go_eq (c : AV) : go dst H k c = k ⟨dst, c, [], H.length, []⟩ [] := Eq.trans rfl rfl

def aPick (c a b : AV) (k : AV → Prop) : Prop := match c with
  | .bool t => (t = true → k a) ∧ (t = false → k b)
  | _ => False
theorem aPick_congr {c c' a a' b b' : AV} {k : AV → Prop} (h : c = c') (h1 : a = a') (h2 : b = b') : aPick c a b k = aPick c' a' b' k := by rw [h, h1, h2]
theorem aPick_t {a b : AV} {k : AV → Prop} : aPick (.bool true) a b k = k a := by simp [aPick]
theorem aPick_f {a b : AV} {k : AV → Prop} : aPick (.bool false) a b k = k b := by simp [aPick]
theorem aPick_and {t u : Bool} {k : AV → Prop} : aPick (.bool t) (.bool u) (.bool false) k = k (.bool (t && u)) := by cases t <;> simp [aPick]
theorem aPick_or {t u : Bool} {k : AV → Prop} : aPick (.bool t) (.bool true) (.bool u) k = k (.bool (t || u)) := by cases t <;> simp [aPick]
theorem aPick_split {t : Bool} {a b : AV} {k : AV → Prop} (h1 : t = true → k a) (h2 : t = false → k b) : aPick (.bool t) a b k := ⟨h1, h2⟩

theorem op_move (x : Operand) : aop P T ⟨dst, .move x, ty, pos, af, g⟩ ⟨R, H⟩ k = go dst H k (evR R x) := by simp only [aop, aval, ev_mk, go]
theorem op_assign (x : Operand) : aop P T ⟨dst, .assign x, ty, pos, af, g⟩ ⟨R, H⟩ k = go dst H k (evR R x) := by simp only [aop, aval, ev_mk, go]
theorem op_bin (op : BinOp) (t : TypeId) (x y : Operand) (u : TypeId) : aop P T ⟨dst, .binOp op t x y u, ty, pos, af, g⟩ ⟨R, H⟩ k = aBin T op t (evR R x) (evR R y) (go dst H k) := by
  show aBin T op t ((ASt.mk R H).view.ev x) ((ASt.mk R H).view.ev y) (go dst H k) = _
  rw [ev_mk]
theorem op_un (op : UnOp) (t : TypeId) (x : Operand) : aop P T ⟨dst, .unOp op t x, ty, pos, af, g⟩ ⟨R, H⟩ k = aUn op (evR R x) (go dst H k) := by
  show aUn op ((ASt.mk R H).view.ev x) (go dst H k) = _
  rw [ev_mk]
theorem op_conv (s d : TypeId) (x : Operand) : aop P T ⟨dst, .convert s d x, ty, pos, af, g⟩ ⟨R, H⟩ k = aConv T s d (evR R x) (go dst H k) := by
  show aConv T s d ((ASt.mk R H).view.ev x) (go dst H k) = _
  rw [ev_mk]
theorem op_pick (c a b : Operand) : aop P T ⟨dst, .pick c a b, ty, pos, af, g⟩ ⟨R, H⟩ k = aPick (evR R c) (evR R a) (evR R b) (go dst H k) := by
  simp only [aop, aval, ev_mk, aPick]; rfl
theorem op_build (t : TypeId) (ps : Array (Nat × Operand)) : aop P T ⟨dst, .build t ps, ty, pos, af, g⟩ ⟨R, H⟩ k = aBuild T t (ps.toList.map fun p => (p.1, evR R p.2)) (go dst H k) := by
  simp only [aop, aval, ev_mk, go]; rfl
def aNil (x : AV) (k : AV → Prop) : Prop := match x with
  | .cp cs => k (.cp cs)
  | .ptr b o => k (.ptr b o)
  | .fn f cs => k (.fn f cs)
  | _ => False
theorem op_nil (x : Operand) : aop P T ⟨dst, .nilCheck x, ty, pos, af, g⟩ ⟨R, H⟩ k = aNil (evR R x) (go dst H k) := by
  simp only [aop, aval, ev_mk, aNil]; rfl
theorem op_fn (f : Nat) (fi : Array Operand) (cs : Array Operand) : aop P T ⟨dst, .makeFunc (.func f) fi cs, ty, pos, af, g⟩ ⟨R, H⟩ k = (fi = #[] ∧ go dst H k (.fn f (cs.toList.map (evR R)))) := by
  simp only [aop, aval, ev_mk, go]
theorem op_faddr (t : TypeId) (x : Operand) (f : Nat) : aop P T ⟨dst, .fieldAddr t x f, ty, pos, af, g⟩ ⟨R, H⟩ k = aFieldAddr T t (evR R x) f (go dst H k) := by
  show aFieldAddr T t ((ASt.mk R H).view.ev x) f (go dst H k) = _
  rw [ev_mk]
theorem op_field (t : TypeId) (x : Operand) (f : Nat) : aop P T ⟨dst, .field t x f, ty, pos, af, g⟩ ⟨R, H⟩ k = aField T t (evR R x) f (go dst H k) := by
  show aField T t ((ASt.mk R H).view.ev x) f (go dst H k) = _
  rw [ev_mk]
theorem op_iaddr (t : TypeId) (x i : Operand) : aop P T ⟨dst, .indexAddr t x i, ty, pos, af, g⟩ ⟨R, H⟩ k = aIndexAddr T t (evR R x) (evR R i) (go dst H k) := by
  show aIndexAddr T t ((ASt.mk R H).view.ev x) ((ASt.mk R H).view.ev i) (go dst H k) = _
  rw [ev_mk]
theorem op_index (t : TypeId) (x i : Operand) : aop P T ⟨dst, .index t x i, ty, pos, af, g⟩ ⟨R, H⟩ k = aIndex T t (evR R x) (evR R i) (go dst H k) := by
  show aIndex T t ((ASt.mk R H).view.ev x) ((ASt.mk R H).view.ev i) (go dst H k) = _
  rw [ev_mk]
theorem op_slice (t : TypeId) (x : Operand) (lo hi mx : Option Operand) : aop P T ⟨dst, .slice t x lo hi mx, ty, pos, af, g⟩ ⟨R, H⟩ k = aSlice T t (evR R x) (lo.map (evR R)) (hi.map (evR R)) (mx.map (evR R)) (go dst H k) := by
  show aSlice T t ((ASt.mk R H).view.ev x) (lo.map (ASt.mk R H).view.ev) (hi.map (ASt.mk R H).view.ev) (mx.map (ASt.mk R H).view.ev) (go dst H k) = _
  rw [ev_mk]
def aExt (x : AV) (i : Nat) (k : AV → Prop) : Prop := match x with
  | .tup vs => ∃ c, vs[i]? = some c ∧ k c
  | _ => False
theorem op_ext (x : Operand) (i : Nat) : aop P T ⟨dst, .extract x i, ty, pos, af, g⟩ ⟨R, H⟩ k = aExt (evR R x) i (go dst H k) := by
  simp only [aop, aval, ev_mk, aExt]; rfl
theorem op_len (x : Operand) (t : TypeId) : aop P T ⟨dst, .call { callee := .builtin .len, args := #[x], argTypes := #[t] }, ty, pos, af, g⟩ ⟨R, H⟩ k = aLen T t (evR R x) (go dst H k) := by
  show aLen T t ((ASt.mk R H).view.ev x) (go dst H k) = _
  rw [ev_mk]
def aMM (m : Bool) (x y : AV) (k : AV → Prop) : Prop := match x, y with
  | .int ka a, .int _ b => k (.int ka (if m then (if b < a then b else a) else (if b > a then b else a)))
  | _, _ => False
theorem op_min (x y : Operand) (t u : TypeId) : aop P T ⟨dst, .call { callee := .builtin .min, args := #[x, y], argTypes := #[t, u] }, ty, pos, af, g⟩ ⟨R, H⟩ k = aMM true (evR R x) (evR R y) (go dst H k) := by
  show (∃ c, aMins true ((ASt.mk R H).view.ev x) [(ASt.mk R H).view.ev y] = some c ∧ go dst H k c) = _
  rw [ev_mk]
  generalize evR R x = a
  generalize evR R y = b
  cases a <;> cases b <;> simp [aMins, aMin2, aMM]
theorem op_max (x y : Operand) (t u : TypeId) : aop P T ⟨dst, .call { callee := .builtin .max, args := #[x, y], argTypes := #[t, u] }, ty, pos, af, g⟩ ⟨R, H⟩ k = aMM false (evR R x) (evR R y) (go dst H k) := by
  show (∃ c, aMins false ((ASt.mk R H).view.ev x) [(ASt.mk R H).view.ev y] = some c ∧ go dst H k c) = _
  rw [ev_mk]
  generalize evR R x = a
  generalize evR R y = b
  cases a <;> cases b <;> simp [aMins, aMin2, aMM]

/-- Load, by the blocks. -/
def lLoad (T : TT) (dst : Option Nat) (t : Nat) (H : List (List AV)) (x : AV) (k : Eff → List (Nat × Nat) → Prop) : Prop := aLoad T dst t (ASt.mk [] H).view x H.length k
def lStore (T : TT) (dst : Option Nat) (t : Nat) (H : List (List AV)) (x v : AV) (k : Eff → List (Nat × Nat) → Prop) : Prop := aStore T dst t (ASt.mk [] H).view x v H.length k
def lLookup (T : TT) (dst : Option Nat) (t : Nat) (H : List (List AV)) (m key : AV) (k : Eff → List (Nat × Nat) → Prop) : Prop := aLookup T dst t (ASt.mk [] H).view m key H.length k
def lUpdate (T : TT) (dst : Option Nat) (t : Nat) (H : List (List AV)) (m key v : AV) (k : Eff → List (Nat × Nat) → Prop) : Prop := aMapUpdate T dst t (ASt.mk [] H).view m key v H.length k
def lAppend (T : TT) (dst : Option Nat) (t t' : Nat) (H : List (List AV)) (x y : AV) (k : Eff → List (Nat × Nat) → Prop) : Prop := aAppend T dst t t' (ASt.mk [] H).view x y H.length k
theorem op_load (t : TypeId) (a : Operand) : aop P T ⟨dst, .load t a, ty, pos, af, g⟩ ⟨R, H⟩ k = lLoad T dst t H (evR R a) k := by
  show aLoad T dst t (ASt.mk R H).view ((ASt.mk R H).view.ev a) H.length k = _
  rw [ev_mk]; rfl
theorem op_store (t : TypeId) (a v : Operand) : aop P T ⟨dst, .store t a v, ty, pos, af, g⟩ ⟨R, H⟩ k = lStore T dst t H (evR R a) (evR R v) k := by
  show aStore T dst t (ASt.mk R H).view ((ASt.mk R H).view.ev a) ((ASt.mk R H).view.ev v) H.length k = _
  rw [ev_mk]; rfl
theorem op_lookup (t : TypeId) (m key : Operand) : aop P T ⟨dst, .lookup t m key false, ty, pos, af, g⟩ ⟨R, H⟩ k = lLookup T dst t H (evR R m) (evR R key) k := by
  show aLookup T dst t (ASt.mk R H).view ((ASt.mk R H).view.ev m) ((ASt.mk R H).view.ev key) H.length k = _
  rw [ev_mk]; rfl
theorem op_update (t : TypeId) (m key v : Operand) : aop P T ⟨dst, .mapUpdate t m key v, ty, pos, af, g⟩ ⟨R, H⟩ k = lUpdate T dst t H (evR R m) (evR R key) (evR R v) k := by
  show aMapUpdate T dst t (ASt.mk R H).view ((ASt.mk R H).view.ev m) ((ASt.mk R H).view.ev key) ((ASt.mk R H).view.ev v) H.length k = _
  rw [ev_mk]; rfl
theorem op_append (x y : Operand) (t u : TypeId) : aop P T ⟨dst, .call { callee := .builtin .append, args := #[x, y], argTypes := #[t, u] }, ty, pos, af, g⟩ ⟨R, H⟩ k = lAppend T dst t u H (evR R x) (evR R y) k := by
  show aAppend T dst t u (ASt.mk R H).view ((ASt.mk R H).view.ev x) ((ASt.mk R H).view.ev y) H.length k = _
  rw [ev_mk]; rfl
theorem op_alloc (t : TypeId) : aop P T ⟨dst, .alloc t, ty, pos, af, g⟩ ⟨R, H⟩ k = ((T t).kd.isOther = false ∧ k ⟨dst, .ptr H.length 0, [], H.length, [(T t).zero]⟩ []) := Eq.trans rfl rfl
def aBox (dst : Option Nat) (H : List (List AV)) (x : AV) (k : Eff → List (Nat × Nat) → Prop) : Prop := x.known = true ∧ allB AV.cellable x.cells = true ∧ k ⟨dst, .ptr H.length 0, [], H.length, [x.cells]⟩ []
theorem op_box (t : TypeId) (x : Operand) : aop P T ⟨dst, .box t x, ty, pos, af, g⟩ ⟨R, H⟩ k = aBox dst H (evR R x) k := by
  show ((((ASt.mk R H).view.ev x).known = true) ∧ _ ∧ _) = _
  rw [ev_mk]; rfl
theorem op_bslice (t : TypeId) (len : Nat) (ps : Array (Nat × Operand)) : aop P T ⟨dst, .buildSlice t len ps, ty, pos, af, g⟩ ⟨R, H⟩ k = aBuildSlice T dst t len (ps.toList.map fun p => (p.1, evR R p.2)) H.length k := by
  show aBuildSlice T dst t len (ps.toList.map fun p => (p.1, (ASt.mk R H).view.ev p.2)) H.length k = _
  rw [ev_mk]
theorem op_map (t : TypeId) : aop P T ⟨dst, .makeMap t none, ty, pos, af, g⟩ ⟨R, H⟩ k = k ⟨dst, .mp H.length, [], H.length, [[.mps fun _ => none]]⟩ [] := Eq.trans rfl rfl

/-- A call of a function value. -/
def aCallV (P : Program) (s : ASt) (dst : Option Nat) (f : AV) (acts : List AV) (k : Eff → List (Nat × Nat) → Prop) : Prop := match f with
  | .fn f caps => CallC P s dst f (acts ++ caps) k
  | _ => False
theorem op_call (fo : Operand) (as : Array Operand) (ts : Array TypeId) : aop P T ⟨dst, .call { callee := .value fo, args := as, argTypes := ts }, ty, pos, af, g⟩ ⟨R, H⟩ k = aCallV P ⟨R, H⟩ dst (evR R fo) (as.toList.map (evR R)) k := by
  simp only [aop, ev_mk, aCallV]
  rfl
theorem callV_fn (s : ASt) (f : Nat) (caps acts : List AV) : aCallV P s dst (.fn f caps) acts k = CallC P s dst f (acts ++ caps) k := Eq.trans rfl rfl
end

/-! ### Code -/

theorem w_skip (nx : Nat) (R : List AV) (H : List (List AV)) (K : AEx → ASt → Prop) : awp P T nx .skip ⟨R, H⟩ K = K .nrm ⟨R, H⟩ := Eq.trans rfl rfl
theorem w_region (nx id : Nat) (l : List Oper) (dr : Bool) (R : List AV) (H : List (List AV)) (K : AEx → ASt → Prop) : awp P T nx (.region id ⟨l⟩ dr) ⟨R, H⟩ K = aops P T ⟨l⟩ dr l ⟨R, H⟩ [] (regK ⟨l⟩ dr (K .nrm)) := Eq.trans rfl rfl
theorem w_seq (nx : Nat) (a b : Code) (R : List AV) (H : List (List AV)) (K : AEx → ASt → Prop) : awp P T nx (a.seq b) ⟨R, H⟩ K = awp P T nx a ⟨R, H⟩ (seqK (fun s' => awp P T nx b s' K) K) := Eq.trans rfl rfl
def cnd (P : Program) (T : TT) (nx : Nat) (a b : Code) (s : ASt) (K : AEx → ASt → Prop) (v : AV) : Prop := match v with
  | .bool t => (t = true → awp P T nx a s K) ∧ (t = false → awp P T nx b s K)
  | _ => False
theorem cnd_congr {nx : Nat} {a b : Code} {s : ASt} {K : AEx → ASt → Prop} {v v' : AV} (h : v = v') : cnd P T nx a b s K v = cnd P T nx a b s K v' := by rw [h]
theorem cnd_t {nx : Nat} {a b : Code} {s : ASt} {K : AEx → ASt → Prop} : cnd P T nx a b s K (.bool true) = awp P T nx a s K := by simp [cnd]
theorem cnd_f {nx : Nat} {a b : Code} {s : ASt} {K : AEx → ASt → Prop} : cnd P T nx a b s K (.bool false) = awp P T nx b s K := by simp [cnd]
theorem cnd_split {nx : Nat} {a b : Code} {s : ASt} {K : AEx → ASt → Prop} {t : Bool} (h1 : t = true → awp P T nx a s K) (h2 : t = false → awp P T nx b s K) : cnd P T nx a b s K (.bool t) := ⟨h1, h2⟩
theorem w_cond (nx : Nat) (c : Operand) (a b : Code) (R : List AV) (H : List (List AV)) (K : AEx → ASt → Prop) : awp P T nx (.cond c a b) ⟨R, H⟩ K = cnd P T nx a b ⟨R, H⟩ K (evR R c) := by
  simp only [awp, ev_mk]; rfl
theorem w_block (nx id : Nat) (c : Code) (R : List AV) (H : List (List AV)) (K : AEx → ASt → Prop) : awp P T nx (.block id c) ⟨R, H⟩ K = awp P T nx c ⟨R, H⟩ (blkK id K) := Eq.trans rfl rfl
theorem w_exit (nx id : Nat) (R : List AV) (H : List (List AV)) (K : AEx → ASt → Prop) : awp P T nx (.exit id) ⟨R, H⟩ K = K (.ext id) ⟨R, H⟩ := Eq.trans rfl rfl
theorem w_ret (nx : Nat) (R : List AV) (H : List (List AV)) (K : AEx → ASt → Prop) : awp P T nx .ret ⟨R, H⟩ K = K .ret ⟨R, H⟩ := Eq.trans rfl rfl
theorem seqK_n (f : ASt → Prop) (K : AEx → ASt → Prop) (s : ASt) : seqK f K .nrm s = f s := Eq.trans rfl rfl
theorem seqK_r (f : ASt → Prop) (K : AEx → ASt → Prop) (s : ASt) : seqK f K .ret s = K .ret s := Eq.trans rfl rfl
theorem seqK_e (f : ASt → Prop) (K : AEx → ASt → Prop) (id : Nat) (s : ASt) : seqK f K (.ext id) s = K (.ext id) s := Eq.trans rfl rfl
theorem blkK_n (id : Nat) (K : AEx → ASt → Prop) (s : ASt) : blkK id K .nrm s = K .nrm s := Eq.trans rfl rfl
theorem blkK_r (id : Nat) (K : AEx → ASt → Prop) (s : ASt) : blkK id K .ret s = K .ret s := Eq.trans rfl rfl
theorem blkK_e (id id' : Nat) (K : AEx → ASt → Prop) (s : ASt) : blkK id K (.ext id') s = if id' = id then K .nrm s else K (.ext id') s := Eq.trans rfl rfl
theorem loopK_n (nx : Nat) (I : Nat → ASt → Prop) (n : Nat) (K : AEx → ASt → Prop) (s : ASt) : loopK nx I n K .nrm s = ∃ s' m, Ent nx s s' ∧ m < n ∧ I m s' := Eq.trans rfl rfl
theorem loopK_r (nx : Nat) (I : Nat → ASt → Prop) (n : Nat) (K : AEx → ASt → Prop) (s : ASt) : loopK nx I n K .ret s = K .ret s := Eq.trans rfl rfl
theorem loopK_e (nx : Nat) (I : Nat → ASt → Prop) (n : Nat) (K : AEx → ASt → Prop) (id : Nat) (s : ASt) : loopK nx I n K (.ext id) s = K (.ext id) s := Eq.trans rfl rfl
theorem regK_f (all : Array Oper) (K : ASt → Prop) (s : ASt) (fs : List Ft) : regK all false K s fs = K s := by simp [regK]
/-- The order that a drawn region may take. -/
def Ord (all : Array Oper) (fs : List Ft) : Prop := orderB all (masks all) fs = true
theorem regK_t (all : Array Oper) (K : ASt → Prop) (s : ASt) (fs : List Ft) : regK all true K s fs = (Ord all fs ∧ K s) := by simp [regK, Ord]

theorem awp_congr {nx : Nat} {c : Code} {s s' : ASt} {K : AEx → ASt → Prop} (h : s = s') : awp P T nx c s K = awp P T nx c s' K := by rw [h]
theorem aops_congr {all : Array Oper} {dr : Bool} {l : List Oper} {s s' : ASt} {fs fs' : List Ft} {K : ASt → List Ft → Prop} (h : s = s') (h2 : fs = fs') : aops P T all dr l s fs K = aops P T all dr l s' fs' K := by rw [h, h2]
theorem aop_congr {o : Oper} {s s' : ASt} {k : Eff → List (Nat × Nat) → Prop} (h : s = s') : aop P T o s k = aop P T o s' k := by rw [h]
theorem Ord_congr {all : Array Oper} {fs fs' : List Ft} (h : fs = fs') : Ord all fs = Ord all fs' := by rw [h]
theorem go_congr {dst : Option Tmp} {H : List (List AV)} {k : Eff → List (Nat × Nat) → Prop} {c c' : AV} (h : c = c') : go dst H k c = go dst H k c' := by rw [h]
theorem aBin_congr {op : BinOp} {t : Nat} {x x' y y' : AV} {k : AV → Prop} (h : x = x') (h2 : y = y') : aBin T op t x y k = aBin T op t x' y' k := by rw [h, h2]
theorem aUn_congr {op : UnOp} {x x' : AV} {k : AV → Prop} (h : x = x') : aUn op x k = aUn op x' k := by rw [h]
theorem aConv_congr {s d : Nat} {x x' : AV} {k : AV → Prop} (h : x = x') : aConv T s d x k = aConv T s d x' k := by rw [h]
theorem aNil_congr {x x' : AV} {k : AV → Prop} (h : x = x') : aNil x k = aNil x' k := by rw [h]
theorem aExt_congr {x x' : AV} {i : Nat} {k : AV → Prop} (h : x = x') : aExt x i k = aExt x' i k := by rw [h]
theorem aLen_congr {t : Nat} {x x' : AV} {k : AV → Prop} (h : x = x') : aLen T t x k = aLen T t x' k := by rw [h]
theorem aField_congr {t f : Nat} {x x' : AV} {k : AV → Prop} (h : x = x') : aField T t x f k = aField T t x' f k := by rw [h]
theorem aFieldAddr_congr {t f : Nat} {x x' : AV} {k : AV → Prop} (h : x = x') : aFieldAddr T t x f k = aFieldAddr T t x' f k := by rw [h]
theorem aIndex_congr {t : Nat} {x x' i i' : AV} {k : AV → Prop} (h : x = x') (h2 : i = i') : aIndex T t x i k = aIndex T t x' i' k := by rw [h, h2]
theorem aIndexAddr_congr {t : Nat} {x x' i i' : AV} {k : AV → Prop} (h : x = x') (h2 : i = i') : aIndexAddr T t x i k = aIndexAddr T t x' i' k := by rw [h, h2]
theorem aMM_congr {m : Bool} {x x' i i' : AV} {k : AV → Prop} (h : x = x') (h2 : i = i') : aMM m x i k = aMM m x' i' k := by rw [h, h2]
theorem aSlice_congr {t : Nat} {x x' : AV} {a a' b b' c c' : Option AV} {k : AV → Prop} (h : x = x') (h1 : a = a') (h2 : b = b') (h3 : c = c') : aSlice T t x a b c k = aSlice T t x' a' b' c' k := by rw [h, h1, h2, h3]
theorem aBuild_congr {t : Nat} {p p' : List (Nat × AV)} {k : AV → Prop} (h : p = p') : aBuild T t p k = aBuild T t p' k := by rw [h]
theorem aPart_congr {t o : Nat} {p p' : List AV} {k : AV → Prop} (h : p = p') : aPart T t o p k = aPart T t o p' k := by rw [h]
theorem aBuildSlice_congr {dst : Option Nat} {t len b b' : Nat} {p p' : List (Nat × AV)} {k : Eff → List (Nat × Nat) → Prop} (h : p = p') (h2 : b = b') : aBuildSlice T dst t len p b k = aBuildSlice T dst t len p' b' k := by rw [h, h2]
theorem lLoad_congr {dst : Option Nat} {t : Nat} {H H' : List (List AV)} {x x' : AV} {k : Eff → List (Nat × Nat) → Prop} (h : H = H') (h2 : x = x') : lLoad T dst t H x k = lLoad T dst t H' x' k := by rw [h, h2]
theorem lStore_congr {dst : Option Nat} {t : Nat} {H H' : List (List AV)} {x x' y y' : AV} {k : Eff → List (Nat × Nat) → Prop} (h : H = H') (h2 : x = x') (h3 : y = y') : lStore T dst t H x y k = lStore T dst t H' x' y' k := by rw [h, h2, h3]
theorem lLookup_congr {dst : Option Nat} {t : Nat} {H H' : List (List AV)} {x x' y y' : AV} {k : Eff → List (Nat × Nat) → Prop} (h : H = H') (h2 : x = x') (h3 : y = y') : lLookup T dst t H x y k = lLookup T dst t H' x' y' k := by rw [h, h2, h3]
theorem lUpdate_congr {dst : Option Nat} {t : Nat} {H H' : List (List AV)} {x x' y y' z z' : AV} {k : Eff → List (Nat × Nat) → Prop} (h : H = H') (h2 : x = x') (h3 : y = y') (h4 : z = z') : lUpdate T dst t H x y z k = lUpdate T dst t H' x' y' z' k := by rw [h, h2, h3, h4]
theorem lAppend_congr {dst : Option Nat} {t t' : Nat} {H H' : List (List AV)} {x x' y y' : AV} {k : Eff → List (Nat × Nat) → Prop} (h : H = H') (h2 : x = x') (h3 : y = y') : lAppend T dst t t' H x y k = lAppend T dst t t' H' x' y' k := by rw [h, h2, h3]
theorem aBox_congr {dst : Option Nat} {H H' : List (List AV)} {x x' : AV} {k : Eff → List (Nat × Nat) → Prop} (h : H = H') (h2 : x = x') : aBox dst H x k = aBox dst H' x' k := by rw [h, h2]
theorem aCallV_congr {s s' : ASt} {dst : Option Nat} {f f' : AV} {acts acts' : List AV} {k : Eff → List (Nat × Nat) → Prop} (h : s = s') (h2 : f = f') (h3 : acts = acts') : aCallV P s dst f acts k = aCallV P s' dst f' acts' k := by rw [h, h2, h3]
theorem CallC_congr {s s' : ASt} {dst : Option Nat} {f : Nat} {acts acts' : List AV} {k : Eff → List (Nat × Nat) → Prop} (h : s = s') (h3 : acts = acts') : CallC P s dst f acts k = CallC P s' dst f acts' k := by rw [h, h3]

end Go.Ab
