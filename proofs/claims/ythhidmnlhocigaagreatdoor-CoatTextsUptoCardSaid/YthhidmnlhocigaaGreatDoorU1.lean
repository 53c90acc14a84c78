/- Typed symbolic values, what they stand for; trees of ways. -/
import Derived.Test.YthhidmnlhocigaaGreatDoorTB
namespace Go.Ab
open Go Go.RowKit
set_option linter.unusedVariables false
set_option linter.unusedSimpArgs false

/-- Types of plain data. -/
inductive Ty where
  | int (k : IntKind) | bool | str | unit | pair (a b : Ty) | list (a : Ty)
  deriving DecidableEq, Inhabited

@[reducible] def Ty.T : Ty → Type
  | .int _ => Int
  | .bool => Bool
  | .str => List UInt8
  | .unit => Unit
  | .pair a b => a.T × b.T
  | .list a => List a.T

def Ty.d : (τ : Ty) → τ.T
  | .int _ => (0 : Int)
  | .bool => false
  | .str => []
  | .unit => ()
  | .pair a b => (a.d, b.d)
  | .list _ => []

instance (τ : Ty) : Inhabited τ.T := ⟨τ.d⟩

def Ty.size : Ty → Nat
  | .unit => 0
  | .pair a b => a.size + b.size
  | _ => 1

/-- The cells of a value, as the machine has them. -/
def Ty.enc : (τ : Ty) → τ.T → List AV
  | .int k, n => [.int k n]
  | .bool, b => [.bool b]
  | .str, l => [.str l]
  | .unit, _ => []
  | .pair a b, x => a.enc x.1 ++ b.enc x.2
  | .list a, xs => [.sl a.size (xs.map a.enc)]

theorem Ty.enc_length : ∀ (τ : Ty) (x : τ.T), (τ.enc x).length = τ.size
  | .int _, _ => rfl
  | .bool, _ => rfl
  | .str, _ => rfl
  | .unit, _ => rfl
  | .pair a b, x => by simp only [Ty.enc, Ty.size, List.length_append, Ty.enc_length a, Ty.enc_length b]
  | .list _, _ => rfl

/-- Symbolic values: their make is known, what they hold need not be. -/
inductive SV where
  | non
  | und
  | int (k : IntKind) (n : Int)
  | ki (k : IntKind) (n : Int)
  | tt
  | ff
  | bool (b : Bool)
  | str (l : List UInt8)
  | nilp
  | nilf
  | nilm
  | gm (i : Nat)
  | er (b : Bool)
  | cp (cells : List SV)
  | ptr (b off : Nat)
  | emp
  | sl (τ : Ty) (xs : List τ.T)
  | ow (t e : Nat) (τ : Ty) (xs : List τ.T)
  | tok (n : Nat)
  | agg (cs : List SV)
  | tup (vs : List SV)
  | fn (f : Nat) (caps : List SV)
  | mp (b : Nat)
  | mpl (τ : Ty) (l : List (List UInt8 × τ.T))
  | sb (b n : Nat)
  | ep (b s : Nat) (i : Int)
  | arr (τ : Ty) (xs : List τ.T)
  | aw (e : Nat) (τ : Ty) (xs : List τ.T)
  | ef (b s : Nat) (i : Int) (o : Nat)
  | ub (n : Nat)
  deriving Inhabited

/-- A value of one cell. -/
def oneA : (τ : Ty) → τ.T → AV
  | .int k, n => .int k n
  | .bool, b => .bool b
  | .str, l => .str l
  | .list a, xs => .sl a.size (xs.map a.enc)
  | _, _ => .non

def mplF (τ : Ty) (l : List (List UInt8 × τ.T)) : List UInt8 → Option AV := fun x => (l.lookup x).map (oneA τ)

def SV.av : SV → AV
  | .non => .non
  | .und => .und
  | .int k n => .int k n
  | .ki k n => .int k n
  | .tt => .bool true
  | .ff => .bool false
  | .bool b => .bool b
  | .str l => .str l
  | .nilp => .nilp
  | .nilf => .nilf
  | .nilm => .nilm
  | .gm i => .gm i
  | .er b => .er b
  | .cp cells => .cp (avL cells)
  | .ptr b off => .ptr b off
  | .emp => .emp
  | .sl τ xs => .sl τ.size (xs.map τ.enc)
  | .ow t e τ xs => .ow t e τ.size (xs.map τ.enc)
  | .tok n => .tok n
  | .agg cs => .agg (avL cs)
  | .tup vs => .tup (avL vs)
  | .fn f caps => .fn f (avL caps)
  | .mp b => .mp b
  | .mpl τ l => .mps (mplF τ l)
  | .sb b n => .sb b n
  | .ep b s i => .ep b s i.toNat
  | .arr τ xs => .arr τ.size (xs.map τ.enc)
  | .aw e τ xs => .aw e τ.size (xs.map τ.enc)
  | .ef b s i o => .ef b s i.toNat o
  | .ub n => .ub n
where
  avL : List SV → List AV
    | [] => []
    | c :: r => c.av :: avL r

abbrev avL := SV.av.avL
theorem avL_eq : ∀ l : List SV, avL l = l.map SV.av
  | [] => rfl
  | c :: r => by simp only [avL, SV.av.avL, List.map_cons]; exact congrArg _ (avL_eq r)
theorem avL_length (l : List SV) : (avL l).length = l.length := by rw [avL_eq, List.length_map]

/-- The cells of a value, symbolically. -/
def Ty.svs : (τ : Ty) → τ.T → List SV
  | .int k, n => [.int k n]
  | .bool, b => [.bool b]
  | .str, l => [.str l]
  | .unit, _ => []
  | .pair a b, x => a.svs x.1 ++ b.svs x.2
  | .list a, xs => [.sl a xs]
theorem Ty.svs_av : ∀ (τ : Ty) (x : τ.T), avL (τ.svs x) = τ.enc x
  | .int _, _ => rfl
  | .bool, _ => rfl
  | .str, _ => rfl
  | .unit, _ => rfl
  | .pair a b, x => by
    have h1 := Ty.svs_av a x.1
    have h2 := Ty.svs_av b x.2
    rw [avL_eq] at h1 h2 ⊢
    rw [Ty.svs, Ty.enc, List.map_append, h1, h2]
  | .list _, _ => rfl

def nthS : List SV → Nat → SV
  | [], _ => .non
  | c :: _, 0 => c
  | _ :: r, n + 1 => nthS r n
theorem nthS_av : ∀ (l : List SV) (n : Nat), nth (avL l) n = (nthS l n).av
  | [], _ => rfl
  | c :: _, 0 => rfl
  | _ :: r, n + 1 => nthS_av r n
def nthSB : List (List SV) → Nat → List SV
  | [], _ => []
  | c :: _, 0 => c
  | _ :: r, n + 1 => nthSB r n
theorem nthSB_av : ∀ (l : List (List SV)) (n : Nat), nthB (l.map avL) n = avL (nthSB l n)
  | [], _ => rfl
  | c :: _, 0 => rfl
  | _ :: r, n + 1 => nthSB_av r n

def setS : List SV → Nat → SV → List SV
  | [], _, _ => []
  | _ :: r, 0, v => v :: r
  | c :: r, n + 1, v => c :: setS r n v
theorem setS_av : ∀ (l : List SV) (n : Nat) (v : SV), avL (setS l n v) = (avL l).set n v.av
  | [], _, _ => rfl
  | _ :: _, 0, _ => rfl
  | c :: r, n + 1, v => by
    show c.av :: avL (setS r n v) = _
    rw [setS_av r n v]; rfl
theorem setS_length : ∀ (l : List SV) (n : Nat) (v : SV), (setS l n v).length = l.length
  | [], _, _ => rfl
  | _ :: _, 0, _ => rfl
  | c :: r, n + 1, v => by simp [setS, setS_length r n v]
theorem nthS_set : ∀ (l : List SV) (n m : Nat) (v : SV), n ≠ m → nthS (setS l n v) m = nthS l m
  | [], _, _, _, _ => rfl
  | _ :: _, 0, 0, _, h => absurd rfl h
  | _ :: _, 0, m + 1, _, _ => rfl
  | _ :: _, n + 1, 0, _, _ => rfl
  | _ :: r, n + 1, m + 1, v, h => nthS_set r n m v (fun e => h (by rw [e]))

/-- The same, forced. -/
def setK {β : Type 1} : List SV → Nat → SV → (List SV → β) → β
  | [], _, _, k => k []
  | _ :: r, 0, v, k => k (v :: r)
  | c :: r, n + 1, v, k => setK r n v fun r' => k (c :: r')
theorem setK_eq {β : Type 1} : ∀ (l : List SV) (n : Nat) (v : SV) (k : List SV → β), setK l n v k = k (setS l n v)
  | [], _, _, _ => rfl
  | _ :: _, 0, _, _ => rfl
  | c :: r, n + 1, v, k => setK_eq r n v _

structure SSt where
  regs : List SV
  heap : List (List SV)

def SSt.av (s : SSt) : ASt := ⟨avL s.regs, s.heap.map avL⟩

/-! ### Trees of ways -/

/-- A test of equality that is right. -/
structure EqP (ρ : Type) where
  eq : ρ → ρ → Bool
  ok : ∀ a b, eq a b = true ↔ a = b
inductive Tr : Type → Type 1 where
  | ret {ρ : Type} (r : ρ) : Tr ρ
  | fail {ρ : Type} : Tr ρ
  | br {ρ : Type} (b : Bool) (t e : Tr ρ) : Tr ρ
  | req {ρ : Type} (b : Bool) (t : Tr ρ) : Tr ρ
  | bind {ρ : Type} (τ : Ty) (c : Option τ.T) (k : τ.T → Tr ρ) : Tr ρ
  | iter {ρ : Type} (σ : Ty) (body : σ.T → Tr (σ.T ⊕ ρ)) (x : σ.T) : Tr ρ
  | amb {ρ ρ0 : Type} (q : EqP ρ0) (g : ρ0 → ρ) (t e : Tr ρ0) : Tr ρ
/-- Both ways, if they come to the same. -/
def both {ρ ρ0 : Type} (q : EqP ρ0) (g : ρ0 → ρ) (a b : Option ρ0) : Option ρ := match a, b with
  | some a, some b => bif q.eq a b then some (g a) else none
  | _, _ => none
theorem both_some {ρ ρ0 : Type} {q : EqP ρ0} {g : ρ0 → ρ} {a b : Option ρ0} {r : ρ} (h : both q g a b = some r) : ∃ x, a = some x ∧ b = some x ∧ g x = r := by
  unfold both at h
  split at h
  · rename_i x y
    cases hq : q.eq x y with
    | false => rw [hq] at h; cases h
    | true =>
      rw [hq] at h
      injection h with h
      have := (q.ok x y).1 hq
      subst this
      exact ⟨x, rfl, rfl, h⟩
  · cases h
theorem both_eq {ρ ρ0 : Type} {q : EqP ρ0} {g : ρ0 → ρ} (x : ρ0) : both q g (some x) (some x) = some (g x) := by
  simp only [both, (q.ok x x).2 rfl, cond_true]
theorem both_map {ρ ρ' ρ0 : Type} (q : EqP ρ0) (g : ρ0 → ρ) (f : ρ → ρ') (a b : Option ρ0) : both q (f ∘ g) a b = (both q g a b).map f := by
  unfold both
  cases a with
  | none => rfl
  | some x =>
    cases b with
    | none => rfl
    | some y => cases h : q.eq x y <;> simp [h]

/-- Rounds, at most so many. -/
def iterF {σ ρ : Type} (body : σ → Option (σ ⊕ ρ)) : Nat → σ → Option ρ
  | 0, _ => none
  | n + 1, x => match body x with
    | none => none
    | some (.inl x') => iterF body n x'
    | some (.inr r) => some r

/-- More rounds than any loop takes. -/
def FUEL : Nat := 2 ^ 80

def Tr.run : {ρ : Type} → Tr ρ → Option ρ
  | _, .ret r => some r
  | _, .fail => none
  | _, .br b t e => bif b then t.run else e.run
  | _, .req b t => bif b then t.run else none
  | _, .bind _ c k => c.bind fun x => (k x).run
  | _, .iter _ body x => iterF (fun y => (body y).run) FUEL x
  | _, .amb q g t e => both q g t.run e.run

def Tr.map : {ρ : Type} → Tr ρ → {ρ' : Type} → (ρ → ρ') → Tr ρ'
  | _, .ret r, _, f => .ret (f r)
  | _, .fail, _, _ => .fail
  | _, .br b t e, _, f => .br b (t.map f) (e.map f)
  | _, .req b t, _, f => .req b (t.map f)
  | _, .bind τ c k, _, f => .bind τ c fun x => (k x).map f
  | _, .iter σ body x, _, f => .iter σ (fun y => (body y).map (Sum.map id f)) x
  | _, .amb q g t e, _, f => .amb q (f ∘ g) t e

theorem iterF_map {σ ρ ρ' : Type} (f : ρ → ρ') (b : σ → Option (σ ⊕ ρ)) : ∀ (n : Nat) (x : σ), iterF (fun y => (b y).map (Sum.map id f)) n x = (iterF b n x).map f
  | 0, _ => rfl
  | n + 1, x => by
    simp only [iterF]
    cases h : b x with
    | none => rfl
    | some z =>
      cases z with
      | inl x' => exact iterF_map f b n x'
      | inr r => rfl

theorem Tr.run_map : {ρ : Type} → (t : Tr ρ) → {ρ' : Type} → (f : ρ → ρ') → (t.map f).run = t.run.map f
  | _, .ret r, _, f => rfl
  | _, .fail, _, _ => rfl
  | _, .br b t e, _, f => by cases b <;> simp [Tr.map, Tr.run, Tr.run_map]
  | _, .req b t, _, f => by cases b <;> simp [Tr.map, Tr.run, Tr.run_map]
  | _, .bind τ c k, _, f => by
    cases c with
    | none => rfl
    | some x => exact Tr.run_map (k x) f
  | _, .iter σ body x, _, f => by
    simp only [Tr.map, Tr.run]
    rw [← iterF_map]
    congr 1
    funext y
    exact Tr.run_map (body y) _
  | _, .amb q g t e, _, f => both_map q g f t.run e.run

theorem run_amb {ρ ρ0 : Type} {q : EqP ρ0} {g : ρ0 → ρ} {t e : Tr ρ0} {r : ρ} (h : (Tr.amb q g t e).run = some r) : ∃ x, t.run = some x ∧ e.run = some x ∧ g x = r := both_some h
theorem run_br {ρ : Type} {b : Bool} {t e : Tr ρ} {r : ρ} (h : (Tr.br b t e).run = some r) : (b = true → t.run = some r) ∧ (b = false → e.run = some r) := by
  cases b
  · exact ⟨fun h => (by cases h), fun _ => h⟩
  · exact ⟨fun _ => h, fun h => (by cases h)⟩
theorem run_req {ρ : Type} {b : Bool} {t : Tr ρ} {r : ρ} (h : (Tr.req b t).run = some r) : b = true ∧ t.run = some r := by
  cases b
  · cases h
  · exact ⟨rfl, h⟩
theorem run_bind {ρ : Type} {τ : Ty} {c : Option τ.T} {k : τ.T → Tr ρ} {r : ρ} (h : (Tr.bind τ c k).run = some r) : ∃ x, c = some x ∧ (k x).run = some r := by
  cases c with
  | none => cases h
  | some x => exact ⟨x, rfl, h⟩
theorem run_fail {ρ : Type} {r : ρ} (h : (Tr.fail : Tr ρ).run = some r) : False := by cases h

end Go.Ab
