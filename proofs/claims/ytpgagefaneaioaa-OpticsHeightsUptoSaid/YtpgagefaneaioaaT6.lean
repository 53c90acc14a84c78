/- The operations that look at values alone: what they come to, abstractly, and that it is so. -/
import Derived.Test.YtpgagefaneaioaaT5
namespace Go.Ab
open Go Go.RowKit
set_option linter.unusedVariables false
set_option linter.unusedSimpArgs false

/-- Every abstract value holds of the concrete one. -/
def aInt (op : BinOp) (ka kb : IntKind) (a b : Int) (k : AV → Prop) : Prop :=
  match op with
  | .add => ka = kb ∧ k (.int ka (ka.wrap (a + b)))
  | .sub => ka = kb ∧ k (.int ka (ka.wrap (a - b)))
  | .mul => ka = kb ∧ k (.int ka (ka.wrap (a * b)))
  | .quo => ka = kb ∧ b ≠ 0 ∧ k (.int ka (ka.wrap (a.tdiv b)))
  | .rem => ka = kb ∧ b ≠ 0 ∧ k (.int ka (a.tmod b))
  | .eql => ka = kb ∧ k (.bool (a == b))
  | .neq => ka = kb ∧ k (.bool (a != b))
  | .lss => ka = kb ∧ k (.bool (decide (a < b)))
  | .leq => ka = kb ∧ k (.bool (decide (a ≤ b)))
  | .gtr => ka = kb ∧ k (.bool (decide (b < a)))
  | .geq => ka = kb ∧ k (.bool (decide (b ≤ a)))
  | .shl => 0 ≤ b ∧ k (.int ka (ka.wrap (a * 2 ^ (min b.toNat ka.bits))))
  | .shr => 0 ≤ b ∧ k (.int ka (a.fdiv (2 ^ (min b.toNat ka.bits))))
  | .and => ka = kb ∧ k (.int ka (bits .and ka a b))
  | .or => ka = kb ∧ k (.int ka (bits .or ka a b))
  | .xor => ka = kb ∧ k (.int ka (bits .xor ka a b))
  | .andNot => ka = kb ∧ k (.int ka (bits .andNot ka a b))

def aBin (T : TT) (op : BinOp) (t : Nat) (x y : AV) (k : AV → Prop) : Prop :=
  match x, y with
  | .int ka a, .int kb b => aInt op ka kb a b k
  | .str a, .str b =>
    match op with
    | .eql => k (.bool (a == b))
    | .neq => k (.bool (a != b))
    | .add => a.length + b.length ≤ 9223372036854775807 ∧ k (.str (a ++ b))
    | .lss => k (.bool (Op.bytesLess a b))
    | .leq => k (.bool (Op.bytesLess a b || a == b))
    | .gtr => k (.bool (!(Op.bytesLess a b || a == b)))
    | .geq => k (.bool (!Op.bytesLess a b))
    | _ => False
  | .bool a, .bool b =>
    match op with
    | .eql => (T t).kd = .bool ∧ k (.bool (a == b))
    | .neq => (T t).kd = .bool ∧ k (.bool (a != b))
    | _ => False
  | .agg xs, .agg ys =>
    (T t).kd.isAgg = true ∧ match op with
    | .eql => ∃ b, eqT T 10 t xs ys = some b ∧ k (.bool b)
    | .neq => ∃ b, eqT T 10 t xs ys = some b ∧ k (.bool (!b))
    | _ => False
  | _, _ => False

def aUn (op : UnOp) (x : AV) (k : AV → Prop) : Prop :=
  match op, x with
  | .neg, .int ka n => k (.int ka (ka.wrap (0 - n)))
  | .not, .bool b => k (.bool (!b))
  | _, _ => False

/-- Conversions: between integers. -/
def aConv (T : TT) (src dst : Nat) (x : AV) (k : AV → Prop) : Prop :=
  match (T dst).kd, x with
  | .int kd, .int _ n => (T src).kd.isOther = false ∧ k (.int kd (kd.wrap n))
  | .str, .str l => (T src).kd.isOther = false ∧ k (.str l)
  | _, _ => False

def AV.known : AV → Bool
  | .non => false
  | _ => true

/-- The parts laid over the zero value. -/
def lay (off : Nat) : List AV → List AV → List AV
  | [], cs => cs
  | c :: r, cs => lay (off + 1) r (cs.set off c)

def aFill (place : Nat → Option (Nat × Nat)) (cells : List AV) : List (Nat × AV) → Option (List AV)
  | [] => some cells
  | (i, v) :: r =>
    match place i with
    | none => none
    | some (off, size) => if v.cells.length = size ∧ off + size ≤ cells.length ∧ v.known = true then aFill place (lay off v.cells cells) r else none

def stPlace (fs : List AFd) (i : Nat) : Option (Nat × Nat) := (fs[i]?).map fun f => (f.off, f.size)

def aBuild (T : TT) (t : Nat) (parts : List (Nat × AV)) (k : AV → Prop) : Prop :=
  match (T t).kd with
  | .st fs => ∃ cs, aFill (stPlace fs) (T t).zero parts = some cs ∧ k (.agg cs)
  | .arr _ e => (T e).kd.isOther = false ∧ ∃ cs, aFill (fun i => some (i * (T e).size, (T e).size)) (T t).zero parts = some cs ∧ k (.agg cs)
  | _ => False

def aPart (T : TT) (ty off : Nat) (cs : List AV) (k : AV → Prop) : Prop :=
  (T ty).kd.isOther = false ∧ if (T ty).kd.isAgg then k (.agg (cut off (T ty).size cs)) else ∃ c, cs[off]? = some c ∧ k c

def aField (T : TT) (t : Nat) (x : AV) (f : Nat) (k : AV → Prop) : Prop :=
  match (T t).kd, x with
  | .st fs, .agg cs => ∃ fd, fs[f]? = some fd ∧ aPart T fd.ty fd.off cs k
  | _, _ => False

def aFieldAddr (T : TT) (t : Nat) (x : AV) (f : Nat) (k : AV → Prop) : Prop :=
  match (T t).kd, x with
  | .st fs, .cp cells => ∃ fd, fs[f]? = some fd ∧ k (.cp (cells.drop fd.off))
  | .st fs, .ptr b o => ∃ fd, fs[f]? = some fd ∧ k (.ptr b (o + fd.off))
  | _, _ => False

def aIndexAddr (T : TT) (t : Nat) (x i : AV) (k : AV → Prop) : Prop :=
  match (T t).kd, x, i with
  | .slice e, .sl s rows, .int _ n => (T e).kd.isOther = false ∧ s = (T e).size ∧ ∃ row, 0 ≤ n ∧ rows[n.toNat]? = some row ∧ k (.cp row)
  | .slice e, .ow _ _ s rows, .int _ n => (T e).kd.isOther = false ∧ s = (T e).size ∧ ∃ row, 0 ≤ n ∧ rows[n.toNat]? = some row ∧ k (.cp row)
  | .arr m e, .ptr b o, .int _ n => (T e).kd.isOther = false ∧ 0 ≤ n ∧ n < m ∧ k (.ptr b (o + n.toNat * (T e).size))
  | .arr m e, .cp cells, .int _ n => (T e).kd.isOther = false ∧ 0 ≤ n ∧ n < m ∧ k (.cp (cells.drop (n.toNat * (T e).size)))
  | _, _, _ => False

def aIndex (T : TT) (t : Nat) (x i : AV) (k : AV → Prop) : Prop :=
  match (T t).kd, x, i with
  | .str, .str l, .int _ n => ∃ c, 0 ≤ n ∧ l[n.toNat]? = some c ∧ k (.int .u8 (c.toNat : Int))
  | .arr m e, .agg cs, .int _ n => 0 ≤ n ∧ n < m ∧ aPart T e (n.toNat * (T e).size) cs k
  | _, _, _ => False

/-- A bound of a slice expression. -/
def aBnd : Option AV → Nat → Option Int
  | none, d => some d
  | some (.int _ n), _ => some n
  | _, _ => none

def aSlice (T : TT) (t : Nat) (x : AV) (lo hi mx : Option AV) (k : AV → Prop) : Prop :=
  match (T t).kd, x, mx with
  | .str, .str l, none => ∃ a b : Int, aBnd lo 0 = some a ∧ aBnd hi l.length = some b ∧ 0 ≤ a ∧ a ≤ b ∧ b ≤ l.length ∧ k (.str ((l.take b.toNat).drop a.toNat))
  | .slice e, .sl s rows, none => (T e).kd.isOther = false ∧ s = (T e).size ∧ ∃ a b : Int, aBnd lo 0 = some a ∧ aBnd hi rows.length = some b ∧ 0 ≤ a ∧ a ≤ b ∧ b ≤ rows.length ∧ k (.sl s ((rows.take b.toNat).drop a.toNat))
  | .slice e, .ow _ _ s rows, none => (T e).kd.isOther = false ∧ s = (T e).size ∧ ∃ a b : Int, aBnd lo 0 = some a ∧ aBnd hi rows.length = some b ∧ 0 ≤ a ∧ a ≤ b ∧ b ≤ rows.length ∧ k (.sl s ((rows.take b.toNat).drop a.toNat))
  | .slice e, .sl _ _, some (.int _ m) => (T e).kd.isOther = false ∧ lo = none ∧ m = 0 ∧ aBnd hi 1 = some 0 ∧ k .emp
  | .slice e, .ow _ _ _ _, some (.int _ m) => (T e).kd.isOther = false ∧ lo = none ∧ m = 0 ∧ aBnd hi 1 = some 0 ∧ k .emp
  | .slice e, .emp, some (.int _ m) => (T e).kd.isOther = false ∧ lo = none ∧ m = 0 ∧ aBnd hi 1 = some 0 ∧ k .emp
  | _, _, _ => False

def aLen (T : TT) (t : Nat) (x : AV) (k : AV → Prop) : Prop :=
  match (T t).kd, x with
  | .str, .str l => k (.int .i64 l.length)
  | .slice _, .sl _ rows => k (.int .i64 rows.length)
  | .slice _, .ow _ _ _ rows => k (.int .i64 rows.length)
  | .slice _, .emp => k (.int .i64 0)
  | .arr n _, _ => k (.int .i64 n)
  | _, _ => False

def aMin2 (isMin : Bool) (x y : AV) : Option AV :=
  match x, y with
  | .int ka a, .int _ b => some (.int ka (if isMin then (if b < a then b else a) else (if b > a then b else a)))
  | _, _ => none

def aMins (isMin : Bool) : AV → List AV → Option AV
  | x, [] => some x
  | x, y :: r => match aMin2 isMin x y with
    | some z => aMins isMin z r
    | none => none

def aBuiltin (T : TT) (b : Builtin) (ts : List Nat) (xs : List AV) (k : AV → Prop) : Prop :=
  match b, ts, xs with
  | .len, [t], [x] => aLen T t x k
  | .min, _, x :: r => ∃ c, aMins true x r = some c ∧ k c
  | .max, _, x :: r => ∃ c, aMins false x r = some c ∧ k c
  | _, _, _ => False

def aval (T : TT) (ρ : Operand → AV) (op : Op) (k : AV → Prop) : Prop :=
  match op with
  | .move x | .assign x => k (ρ x)
  | .pick c a b => match ρ c with
    | .bool t => (t = true → k (ρ a)) ∧ (t = false → k (ρ b))
    | _ => False
  | .build t parts => aBuild T t (parts.toList.map fun p => (p.1, ρ p.2)) k
  | .nilCheck x => match ρ x with
    | .cp cs => k (.cp cs)
    | .ptr b o => k (.ptr b o)
    | .fn f cs => k (.fn f cs)
    | _ => False
  | .binOp op t x y _ => aBin T op t (ρ x) (ρ y) k
  | .unOp op _ x => aUn op (ρ x) k
  | .convert src dst x => aConv T src dst (ρ x) k
  | .makeFunc (.func f) first captured => first = #[] ∧ k (.fn f (captured.toList.map ρ))
  | .fieldAddr t x f => aFieldAddr T t (ρ x) f k
  | .field t x f => aField T t (ρ x) f k
  | .indexAddr t x i => aIndexAddr T t (ρ x) (ρ i) k
  | .index t x i => aIndex T t (ρ x) (ρ i) k
  | .slice t x lo hi mx => aSlice T t (ρ x) (lo.map ρ) (hi.map ρ) (mx.map ρ) k
  | .extract x i => match ρ x with
    | .tup vs => ∃ c, vs[i]? = some c ∧ k c
    | _ => False
  | .call { callee := .builtin b, args := args, argTypes := ts } => aBuiltin T b ts.toList (args.toList.map ρ) k
  | _ => False

end Go.Ab
