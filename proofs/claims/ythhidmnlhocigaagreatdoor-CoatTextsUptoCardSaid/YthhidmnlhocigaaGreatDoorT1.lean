/- Abstract values, what they say of concrete values, and how what they say is kept. -/
import Derived.WalkKit
import Derived.Orders
import Derived.Deep.Draws
import Derived.Maps.AppendAt
namespace Go.Ab
open Go

/-- Abstract values: immutable memory is carried by its content, mutable blocks by a number of their own. -/
inductive AV where
  | non
  | und
  | int (k : IntKind) (n : Int)
  | bool (b : Bool)
  | str (l : List UInt8)
  | nilp
  | nilf
  | nilm
  | gm (i : Nat)
  | er (b : Bool)
  | cp (cells : List AV)
  | ptr (b off : Nat)
  | emp
  | sl (s : Nat) (rows : List (List AV))
  | ow (t e s : Nat) (rows : List (List AV))
  | tok (n : Nat)
  | agg (cs : List AV)
  | tup (vs : List AV)
  | fn (f : Nat) (caps : List AV)
  | mp (b : Nat)
  | mps (f : List UInt8 → Option AV)
  | mpi (f : Int → Option AV)
  | sb (b n : Nat)
  | ep (b s i : Nat)
  | arr (s : Nat) (rows : List (List AV))
  | aw (e s : Nat) (rows : List (List AV))
  | ef (b s i o : Nat)
  | ub (n : Nat)
  deriving Inhabited

/-- A token: an append-only row of the call's own: how many elements, of which type and size, and the slice value that owns it. -/
structure Tk where
  n : Nat
  e : Nat
  s : Nat
  v : Value

structure Env where
  /-- immutable cells -/
  F : Addr → Value → Prop
  /-- 0: no such block; 1: a box or a map; 2: a token; 3: the row of a made slice -/
  kd : Nat → Nat
  bk : Nat → Option Nat
  tk : Nat → Tk
  /-- blocks that nobody turns -/
  kp : Nat → Option Obj := fun _ => none

structure Env.Le (E E' : Env) : Prop where
  F : ∀ a v, E.F a v → E'.F a v
  box : ∀ b, E.kd b = 1 → E'.kd b = 1 ∧ E'.bk b = E.bk b
  tok : ∀ t, E.kd t = 2 → E'.kd t = 2 ∧ (E'.tk t = E.tk t ∨ (E.tk t).n < (E'.tk t).n)
  ar : ∀ b, E.kd b = 3 → E'.kd b = 3 ∧ E'.bk b = E.bk b ∧ E'.tk b = E.tk b
  kp : ∀ g o, E.kp g = some o → E'.kp g = some o

theorem Env.Le.refl (E : Env) : E.Le E := ⟨fun _ _ h => h, fun _ h => ⟨h, rfl⟩, fun _ h => ⟨h, .inl rfl⟩, fun _ h => ⟨h, rfl, rfl⟩, fun _ _ h => h⟩

theorem Env.Le.trans {E E' E'' : Env} (h : E.Le E') (k : E'.Le E'') : E.Le E'' := by
  refine ⟨fun a v x => k.F a v (h.F a v x), fun b hb => ?_, fun t ht => ?_, fun b hb => ?_, fun g o x => k.kp g o (h.kp g o x)⟩
  · obtain ⟨h1, h2⟩ := h.box b hb
    obtain ⟨k1, k2⟩ := k.box b h1
    exact ⟨k1, k2.trans h2⟩
  · obtain ⟨h1, h2⟩ := h.tok t ht
    obtain ⟨k1, k2⟩ := k.tok t h1
    refine ⟨k1, ?_⟩
    rcases h2 with h2 | h2 <;> rcases k2 with k2 | k2
    · exact .inl (k2.trans h2)
    · exact .inr (by rw [h2] at k2; exact k2)
    · exact .inr (by rw [k2]; exact h2)
    · exact .inr (Nat.lt_trans h2 k2)
  · obtain ⟨h1, h2, h3⟩ := h.ar b hb
    obtain ⟨k1, k2, k3⟩ := k.ar b h1
    exact ⟨k1, k2.trans h2, k3.trans h3⟩

/-- What an abstract value that lies in immutable memory says of a concrete one: no number of a block occurs. -/
inductive VI (F : Addr → Value → Prop) : AV → Value → Prop where
  | non (v : Value) : VI F .non v
  | int (k : IntKind) (n : Int) : VI F (.int k n) (.int k n)
  | bool (b : Bool) : VI F (.bool b) (.bool b)
  | str (l : List UInt8) : VI F (.str l) (.string ⟨l.toArray⟩)
  | nilp : VI F .nilp (.pointer none)
  | nilf : VI F .nilf .nilFunc
  | nilm : VI F .nilm (.map none)
  | gm (i : Nat) (m : Option Nat) (h : F ⟨i, 0, none⟩ (.map m)) : VI F (.gm i) (.map m)
  | er0 : VI F (.er true) .nilIface
  | er1 (t : TypeId) (v : Value) : VI F (.er false) (.iface t v)
  | cp (cells : List AV) (a : Addr) (g : Nat → Value) (h1 : ∀ (j : Nat) c, cells[j]? = some c → F (a.add j) (g j)) (h2 : ∀ (j : Nat) c, cells[j]? = some c → VI F c (g j)) :
      VI F (.cp cells) (.pointer (some a))
  | emp (a : Option Addr) : VI F .emp (.slice a 0 0)
  | sl (s : Nat) (rows : List (List AV)) (a : Option Addr) (cap : Nat) (g : Nat → Nat → Value) (h0 : 0 < rows.length → a.isSome = true)
      (h1 : ∀ (i : Nat) row (j : Nat) c ad, rows[i]? = some row → row[j]? = some c → a = some ad → F (ad.add (i * s + j)) (g i j))
      (h2 : ∀ (i : Nat) row (j : Nat) c, rows[i]? = some row → row[j]? = some c → VI F c (g i j)) (hc : rows.length ≤ cap) : VI F (.sl s rows) (.slice a rows.length cap)

theorem VI.mono {F F' : Addr → Value → Prop} (h : ∀ a v, F a v → F' a v) {c : AV} {v : Value} (hv : VI F c v) : VI F' c v := by
  induction hv with
  | non v => exact .non v
  | int k n => exact .int k n
  | bool b => exact .bool b
  | str l => exact .str l
  | nilp => exact .nilp
  | nilf => exact .nilf
  | nilm => exact .nilm
  | gm i v hv => exact .gm i v (h _ _ hv)
  | er0 => exact .er0
  | er1 t v => exact .er1 t v
  | cp cells a g h1 _ ih => exact .cp cells a g (fun j c hj => h _ _ (h1 j c hj)) ih
  | emp a => exact .emp a
  | sl s rows a cap g h0 h1 _ hc ih => exact .sl s rows a cap g h0 (fun i row j c ad x y z => h _ _ (h1 i row j c ad x y z)) ih hc

/-- What an abstract value says of a concrete one. -/
inductive VR (E : Env) : AV → Value → Prop where
  | non (v : Value) : VR E .non v
  | und : VR E .und undef
  | int (k : IntKind) (n : Int) : VR E (.int k n) (.int k n)
  | bool (b : Bool) : VR E (.bool b) (.bool b)
  | str (l : List UInt8) : VR E (.str l) (.string ⟨l.toArray⟩)
  | nilp : VR E .nilp (.pointer none)
  | nilf : VR E .nilf .nilFunc
  | nilm : VR E .nilm (.map none)
  | gm (i : Nat) (m : Option Nat) (h : E.F ⟨i, 0, none⟩ (.map m)) : VR E (.gm i) (.map m)
  | er0 : VR E (.er true) .nilIface
  | er1 (t : TypeId) (v : Value) : VR E (.er false) (.iface t v)
  | cp (cells : List AV) (a : Addr) (g : Nat → Value) (h1 : ∀ (j : Nat) c, cells[j]? = some c → E.F (a.add j) (g j)) (h2 : ∀ (j : Nat) c, cells[j]? = some c → VI E.F c (g j)) :
      VR E (.cp cells) (.pointer (some a))
  | ptr (b off g : Nat) (hk : E.kd b = 1) (hb : E.bk b = some g) : VR E (.ptr b off) (.pointer (some ⟨g, off, none⟩))
  | emp (a : Option Addr) : VR E .emp (.slice a 0 0)
  | sl (s : Nat) (rows : List (List AV)) (a : Option Addr) (cap : Nat) (g : Nat → Nat → Value) (h0 : 0 < rows.length → a.isSome = true)
      (h1 : ∀ (i : Nat) row (j : Nat) c ad, rows[i]? = some row → row[j]? = some c → a = some ad → E.F (ad.add (i * s + j)) (g i j))
      (h2 : ∀ (i : Nat) row (j : Nat) c, rows[i]? = some row → row[j]? = some c → VI E.F c (g i j)) (hc : rows.length ≤ cap) : VR E (.sl s rows) (.slice a rows.length cap)
  | ow (t e s : Nat) (rows : List (List AV)) (a : Option Addr) (cap : Nat) (g : Nat → Nat → Value) (h0 : 0 < rows.length → a.isSome = true)
      (h1 : ∀ (i : Nat) row (j : Nat) c ad, rows[i]? = some row → row[j]? = some c → a = some ad → E.F (ad.add (i * s + j)) (g i j))
      (h2 : ∀ (i : Nat) row (j : Nat) c, rows[i]? = some row → row[j]? = some c → VI E.F c (g i j))
      (hk : E.kd t = 2) (hn : rows.length ≤ (E.tk t).n) (hv : rows.length = (E.tk t).n → (E.tk t).e = e ∧ (E.tk t).s = s ∧ (E.tk t).v = .slice a rows.length cap) (hc : rows.length ≤ cap) :
      VR E (.ow t e s rows) (.slice a rows.length cap)
  | agg (cs : List AV) (vs : Array Value) (hl : vs.size = cs.length) (h : ∀ (j : Nat) c v, cs[j]? = some c → vs[j]? = some v → VR E c v) : VR E (.agg cs) (.agg vs)
  | tup (cs : List AV) (vs : Array Value) (hl : vs.size = cs.length) (h : ∀ (j : Nat) c v, cs[j]? = some c → vs[j]? = some v → VR E c v) : VR E (.tup cs) (.tuple vs)
  | fn (f : Nat) (cs : List AV) (vs : Array Value) (hl : vs.size = cs.length) (h : ∀ (j : Nat) c v, cs[j]? = some c → vs[j]? = some v → VR E c v) : VR E (.fn f cs) (.func (.func f) #[] vs)
  | mp (b g : Nat) (hk : E.kd b = 1) (hb : E.bk b = some g) : VR E (.mp b) (.map (some g))
  | sb (b n g cap : Nat) (hk : E.kd b = 3) (hb : E.bk b = some g) (hn : n ≤ cap) (hm : n ≤ (E.tk b).n) (hv : (E.tk b).s ≠ 0 → n = (E.tk b).n → (E.tk b).v = .slice (some ⟨g, 0, none⟩) n cap) : VR E (.sb b n) (.slice (some ⟨g, 0, none⟩) n cap)
  | ep (b s i g : Nat) (hk : E.kd b = 3) (hb : E.bk b = some g) (hm : i < (E.tk b).n) : VR E (.ep b s i) (.pointer (some ⟨g, i * s, none⟩))
  | ef (b s i o g : Nat) (hk : E.kd b = 3) (hb : E.bk b = some g) (hm : i < (E.tk b).n) : VR E (.ef b s i o) (.pointer (some ⟨g, i * s + o, none⟩))
  | ub (n : Nat) (b : Bool) (h : b = true → n = 0) : VR E (.ub n) (.bool b)

/-- Less than the whole: what values need. -/
structure Env.Lo (E E' : Env) : Prop where
  F : ∀ a v, E.F a v → E'.F a v
  box : ∀ b, E.kd b = 1 → E'.kd b = 1 ∧ E'.bk b = E.bk b
  tok : ∀ t, E.kd t = 2 → E'.kd t = 2 ∧ (E'.tk t = E.tk t ∨ (E.tk t).n < (E'.tk t).n)
  ar : ∀ b, E.kd b = 3 → E'.kd b = 3 ∧ E'.bk b = E.bk b ∧ E'.tk b = E.tk b
theorem Env.Le.lo {E E' : Env} (h : E.Le E') : E.Lo E' := ⟨h.F, h.box, h.tok, h.ar⟩

theorem VR.mono0 {E E' : Env} (h : E.Lo E') {c : AV} {v : Value} (hv : VR E c v) : VR E' c v := by
  induction hv with
  | non v => exact .non v
  | und => exact .und
  | int k n => exact .int k n
  | bool b => exact .bool b
  | str l => exact .str l
  | nilp => exact .nilp
  | nilf => exact .nilf
  | nilm => exact .nilm
  | gm i v hv => exact .gm i v (h.F _ _ hv)
  | er0 => exact .er0
  | er1 t v => exact .er1 t v
  | cp cells a g h1 h2 => exact .cp cells a g (fun j c hj => h.F _ _ (h1 j c hj)) (fun j c hj => (h2 j c hj).mono h.F)
  | ptr b off g hk hb => exact .ptr b off g (h.box b hk).1 ((h.box b hk).2.trans hb)
  | emp a => exact .emp a
  | sl s rows a cap g h0 h1 h2 hc => exact .sl s rows a cap g h0 (fun i row j c ad x y z => h.F _ _ (h1 i row j c ad x y z)) (fun i row j c x y => (h2 i row j c x y).mono h.F) hc
  | ow t e s rows a cap g h0 h1 h2 hk hn hv hc =>
    obtain ⟨k1, k2⟩ := h.tok t hk
    refine .ow t e s rows a cap g h0 (fun i row j c ad x y z => h.F _ _ (h1 i row j c ad x y z)) (fun i row j c x y => (h2 i row j c x y).mono h.F) k1 ?_ ?_ hc
    · rcases k2 with k2 | k2
      · rw [k2]; exact hn
      · omega
    · rcases k2 with k2 | k2
      · rw [k2]; exact hv
      · intro hx; omega
  | agg cs vs hl _ ih => exact .agg cs vs hl ih
  | tup cs vs hl _ ih => exact .tup cs vs hl ih
  | fn f cs vs hl _ ih => exact .fn f cs vs hl ih
  | mp b g hk hb => exact .mp b g (h.box b hk).1 ((h.box b hk).2.trans hb)
  | sb b n g cap hk hb hn hm hv => exact .sb b n g cap (h.ar b hk).1 ((h.ar b hk).2.1.trans hb) hn (by rw [(h.ar b hk).2.2]; exact hm) (by rw [(h.ar b hk).2.2]; exact hv)
  | ef b s i o g hk hb hm => exact .ef b s i o g (h.ar b hk).1 ((h.ar b hk).2.1.trans hb) (by rw [(h.ar b hk).2.2]; exact hm)
  | ep b s i g hk hb hm => exact .ep b s i g (h.ar b hk).1 ((h.ar b hk).2.1.trans hb) (by rw [(h.ar b hk).2.2]; exact hm)
  | ub n b h => exact .ub n b h

theorem VR.mono {E E' : Env} (h : E.Le E') {c : AV} {v : Value} (hv : VR E c v) : VR E' c v := VR.mono0 h.lo hv

theorem VI.vr {E : Env} {c : AV} {v : Value} (h : VI E.F c v) : VR E c v := by
  cases h with
  | non v => exact .non v
  | int k n => exact .int k n
  | bool b => exact .bool b
  | str l => exact .str l
  | nilp => exact .nilp
  | nilf => exact .nilf
  | nilm => exact .nilm
  | gm i v hv => exact .gm i v hv
  | er0 => exact .er0
  | er1 t v => exact .er1 t v
  | cp cells a g h1 h2 => exact .cp cells a g h1 h2
  | emp a => exact .emp a
  | sl s rows a cap g h0 h1 h2 hc => exact .sl s rows a cap g h0 h1 h2 hc

/-- What may lie in immutable memory; an own slice lies there as its elements. -/
def AV.low : AV → AV
  | .ow _ _ s rows => .sl s rows
  | c => c

def AV.flat : AV → Bool
  | .int .. | .bool _ | .str _ | .nilp | .nilf | .nilm | .gm _ | .er _ | .cp _ | .emp | .sl .. | .ow .. => true
  | _ => false

theorem VR.vi {E : Env} {c : AV} {v : Value} (h : VR E c v) (hfl : c.flat = true) : VI E.F c.low v := by
  cases h <;> simp only [AV.flat] at hfl <;> first | (cases hfl; done) | skip
  case int => exact .int _ _
  case bool => exact .bool _
  case str => exact .str _
  case nilp => exact .nilp
  case nilf => exact .nilf
  case nilm => exact .nilm
  case gm h => exact .gm _ _ h
  case er0 => exact .er0
  case er1 => exact .er1 _ _
  case cp h1 h2 => exact .cp _ _ _ h1 h2
  case emp => exact .emp _
  case sl h0 h1 h2 hc => exact .sl _ _ _ _ _ h0 h1 h2 hc
  case ow h0 h1 h2 _ _ _ hc => exact .sl _ _ _ _ _ h0 h1 h2 hc

/-- Values of one cell. -/
def AV.one : AV → Bool
  | .int .. | .bool _ | .str _ | .nilp | .nilf | .nilm | .gm _ | .er _ | .cp _ | .ptr .. | .emp | .sl .. | .ow .. | .fn .. | .mp _ | .sb .. | .ep .. | .ef .. => true
  | _ => false

theorem VR.one {E : Env} {c : AV} {v : Value} (h : VR E c v) (hc : c.one = true) : v.oneCell' = true := by
  cases h <;> first | rfl | (simp [AV.one] at hc)

/-- The cells of an abstract value. -/
def AV.cells : AV → List AV
  | .agg cs => cs
  | c => [c]

/-- A list of values, one abstract value each. -/
def VRs (E : Env) (cs : List AV) (vs : List Value) : Prop := vs.length = cs.length ∧ ∀ (j : Nat) c v, cs[j]? = some c → vs[j]? = some v → VR E c v

theorem VRs.mono {E E' : Env} (h : E.Le E') {cs : List AV} {vs : List Value} (hv : VRs E cs vs) : VRs E' cs vs := ⟨hv.1, fun j c v x y => (hv.2 j c v x y).mono h⟩
theorem VRs.nil {E : Env} : VRs E [] [] := ⟨rfl, fun j c v h => by simp at h⟩
theorem VRs.cons {E : Env} {c : AV} {v : Value} {cs : List AV} {vs : List Value} (h : VR E c v) (t : VRs E cs vs) : VRs E (c :: cs) (v :: vs) :=
  ⟨by simp [t.1], fun j d u hd hu => by
    cases j with
    | zero => simp at hd hu; subst hd; subst hu; exact h
    | succ j => exact t.2 j d u (by simpa using hd) (by simpa using hu)⟩
theorem VRs.append {E : Env} {cs ds : List AV} {vs us : List Value} (h : VRs E cs vs) (k : VRs E ds us) : VRs E (cs ++ ds) (vs ++ us) := by
  refine ⟨by simp [h.1, k.1], fun j c v hc hv => ?_⟩
  by_cases hj : j < cs.length
  · rw [List.getElem?_append_left hj] at hc
    rw [List.getElem?_append_left (by rw [h.1]; exact hj)] at hv
    exact h.2 j c v hc hv
  · rw [List.getElem?_append_right (by omega)] at hc
    rw [List.getElem?_append_right (by rw [h.1]; omega), h.1] at hv
    exact k.2 _ c v hc hv

theorem VRs.get {E : Env} {cs : List AV} {vs : List Value} (h : VRs E cs vs) {j : Nat} {c : AV} (hc : cs[j]? = some c) : ∃ v, vs[j]? = some v ∧ VR E c v := by
  have hj : j < cs.length := (List.getElem?_eq_some_iff.1 hc).1
  have : vs[j]? = some (vs[j]'(by rw [h.1]; exact hj)) := List.getElem?_eq_getElem _
  exact ⟨_, this, h.2 j c _ hc this⟩

theorem VR.cells {E : Env} {c : AV} {v : Value} (h : VR E c v) (hn : c ≠ .non) : VRs E c.cells v.cells.toList := by
  cases h with
  | non v => exact absurd rfl hn
  | agg cs vs hl hh => exact ⟨by simp [AV.cells, Value.cells, hl], fun j c v hc hv => hh j c v hc (by simpa [Value.cells] using hv)⟩
  | _ => exact VRs.cons (by constructor <;> assumption) VRs.nil

theorem add_add (a : Addr) (i j : Nat) : (a.add i).add j = a.add (i + j) := by
  unfold Addr.add
  by_cases hi : i = 0 <;> by_cases hj : j = 0 <;> simp [hi, hj, Nat.add_assoc]
theorem add_block (a : Addr) (n : Nat) : (a.add n).block = a.block := by unfold Addr.add; split <;> rfl
theorem add_lit (g o n : Nat) : (⟨g, o, none⟩ : Addr).add n = ⟨g, o + n, none⟩ := by unfold Addr.add; split <;> simp_all

end Go.Ab
