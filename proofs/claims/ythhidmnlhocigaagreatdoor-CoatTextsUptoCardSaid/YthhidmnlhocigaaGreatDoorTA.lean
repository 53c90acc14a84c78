/- Abstract states and the relation between them and concrete frames and worlds. Steps that change memory: a new box, a new map, a store into a box, an append onto a token. Appends: onto an empty slice, onto a token; a literal slice. The table of types; equality; the operations that look at values alone, abstractly, and that they are right. The operations that look at values alone: what they come to, abstractly, and that it is so. The operations that look at values alone are right. The rest of the operations that look at values alone, and all of them together. One operation, abstractly: what it does to an abstract state; and that it is so. Appends, literal slices and maps as operations. Calls: what a function is said to do ('Meets'), and a call of it as an operation. -/
import Derived.Test.YthhidmnlhocigaaGreatDoorGL
import Derived.Laws.IdiomCopy
import Derived.Laws.MakeOwn
import Derived.Laws.StructEq
import Derived.Laws.IdiomStrings
import Derived.Laws.BytesString
import Derived.Laws.Cells
section
namespace Go.Ab
open Go

structure FSt where
  n : Nat
  reg : Nat → AV
  cell : Nat → Nat → AV
  dom : Nat → Bool

def upd (f : Nat → Nat → AV) (b j : Nat) (c : AV) : Nat → Nat → AV := fun b' j' => if b' = b ∧ j' = j then c else f b' j'

def wrs : List (Nat × Nat × AV) → (Nat → Nat → AV) → Nat → Nat → AV
  | [], f => f
  | x :: r, f => wrs r (upd f x.1 x.2.1 x.2.2)

/-- What an operation does to an abstract state: a register, cells of blocks that are there, new blocks. -/
structure Eff where
  dst : Option Nat
  val : AV
  ws : List (Nat × Nat × AV)
  base : Nat
  news : List (List AV)

def Eff.new (e : Eff) (b : Nat) : Bool := decide (e.base ≤ b) && decide (b < e.base + e.news.length)

def FSt.apply (S : FSt) (e : Eff) : FSt where
  n := S.n
  reg := fun r => if e.dst = some r ∧ r < S.n then e.val else S.reg r
  cell := fun b j => if e.new b = true then (e.news.getD (b - e.base) []).getD j .non else wrs e.ws S.cell b j
  dom := fun b => S.dom b || e.new b

structure Ctx where
  w0 : World
  X : List Nat
  E0 : Env
  /-- how many blocks were handed over -/
  nx : Nat

def Ctx.mine (Γ : Ctx) (g : Nat) : Prop := Γ.w0.heap.size ≤ g ∨ g ∈ Γ.X

def TOk (Γ : Ctx) (E : Env) (w : World) (t : Nat) : Prop :=
  (E.bk t = none ∧ (E.tk t).n = 0 ∧ ∃ a, (E.tk t).v = .slice a 0 0) ∨
  ∃ g cap xs, E.bk t = some g ∧ (E.tk t).v = .slice (some ⟨g, 0, none⟩) (E.tk t).n cap ∧ w.ownsRow 0 (E.tk t).e (E.tk t).s (E.tk t).v (E.tk t).n xs ∧
    (∀ a v, E.F a v → a.block = g → a.off < (E.tk t).n * (E.tk t).s) ∧ Γ.mine g

def MapOk (E : Env) (f : List UInt8 → Option AV) (es : List MapEntry) : Prop :=
  (∀ e ∈ es, ∃ l : List UInt8, e.key = .string ⟨l.toArray⟩) ∧
  (∀ l, f l = none → ∀ e ∈ es, e.key ≠ .string ⟨l.toArray⟩) ∧
  (∀ l c, f l = some c → ∃ (i : Nat) (e : MapEntry), es[i]? = some e ∧ e.key = .string ⟨l.toArray⟩ ∧ VI E.F c e.val ∧ ∀ (j : Nat) (e' : MapEntry), j < i → es[j]? = some e' → e'.key ≠ .string ⟨l.toArray⟩)

/-- The maps in package variables that nobody changes are as they were. -/
structure GmOk (E : Env) (w : World) : Prop where
  map : ∀ i f, Glob.mapf i = some f → ∃ g es clock, E.F ⟨i, 0, none⟩ (.map (some g)) ∧ w.heap[g]? = some (.map es clock) ∧ MapOk E f es.toList ∧ ∀ b, E.kd b ≠ 0 → E.bk b ≠ some g
  tab : ∀ g cs, Glob.cells g = some cs → ∃ t fr, w.heap[g]? = some (.cells cs t fr) ∧ ∀ b, E.kd b ≠ 0 → E.bk b ≠ some g
  kp : ∀ g o, E.kp g = some o → w.heap[g]? = some o ∧ ∀ b, E.kd b ≠ 0 → E.bk b ≠ some g

theorem GmOk.keep {E E' : Env} {w w' : World} (h : GmOk E w) (hF : ∀ a v, E.F a v → E'.F a v) (hw : ∀ g, g < w.heap.size → (∀ b, E.kd b ≠ 0 → E.bk b ≠ some g) → w'.heap[g]? = w.heap[g]?)
    (hb : ∀ b g, E'.kd b ≠ 0 → E'.bk b = some g → (∃ b', E.kd b' ≠ 0 ∧ E.bk b' = some g) ∨ w.heap.size ≤ g)
    (hkp : ∀ g o, E'.kp g = some o → E.kp g = some o := by exact fun _ _ x => x) : GmOk E' w' := ⟨fun i f hf => by
  obtain ⟨g, es, clock, h1, h2, h3, h4⟩ := h.map i f hf
  have hlt : g < w.heap.size := (Array.getElem?_eq_some_iff.1 h2).1
  refine ⟨g, es, clock, hF _ _ h1, (hw g hlt h4).trans h2, ⟨h3.1, h3.2.1, fun l c hl => let ⟨i, e, a1, a2, a3, a4⟩ := h3.2.2 l c hl; ⟨i, e, a1, a2, a3.mono hF, a4⟩⟩, fun b hk hg => ?_⟩
  rcases hb b g hk hg with ⟨b', k1, k2⟩ | k
  · exact h4 b' k1 k2
  · omega, fun g cs hc => by
  obtain ⟨t, fr, h2, h4⟩ := h.tab g cs hc
  have hlt : g < w.heap.size := (Array.getElem?_eq_some_iff.1 h2).1
  refine ⟨t, fr, (hw g hlt h4).trans h2, fun b hk hg => ?_⟩
  rcases hb b g hk hg with ⟨b', k1, k2⟩ | k
  · exact h4 b' k1 k2
  · omega, fun g o ho => by
  obtain ⟨h2, h4⟩ := h.kp g o (hkp g o ho)
  have hlt : g < w.heap.size := (Array.getElem?_eq_some_iff.1 h2).1
  refine ⟨(hw g hlt h4).trans h2, fun b hk hg => ?_⟩
  rcases hb b g hk hg with ⟨b', k1, k2⟩ | k
  · exact h4 b' k1 k2
  · omega⟩

structure EOk (Γ : Ctx) (E : Env) (w : World) : Prop where
  le : Γ.E0.Le E
  os : w.os = Γ.w0.os
  tape : w.tape = Γ.w0.tape
  output : w.output = Γ.w0.output
  size : Γ.w0.heap.size ≤ w.heap.size
  old : ∀ g, g < Γ.w0.heap.size → g ∉ Γ.X → w.heap[g]? = Γ.w0.heap[g]?
  F : ∀ a v, E.F a v → w.cell? a = some v ∧ v.oneCell' = true
  box : ∀ b, E.kd b = 1 → ∃ g, E.bk b = some g ∧ g < w.heap.size ∧ Γ.mine g ∧ ∀ a v, E.F a v → a.block ≠ g
  tok : ∀ t, E.kd t = 2 → TOk Γ E w t
  fnew : ∀ a v, E.F a v → Γ.E0.F a v ∨ Γ.mine a.block
  kd3 : ∀ b, E.kd b = 0 ∨ E.kd b = 1 ∨ E.kd b = 2 ∨ E.kd b = 3
  arb : ∀ b, E.kd b = 3 → ∃ g, E.bk b = some g ∧ g < w.heap.size ∧ Γ.mine g ∧ ∀ a v, E.F a v → a.block ≠ g
  new : ∀ b g, E.kd b ≠ 0 → E.bk b = some g → (Γ.E0.kd b ≠ 0 ∧ Γ.E0.bk b = some g) ∨ Γ.w0.heap.size ≤ g
  inj : ∀ b b' g, E.kd b ≠ 0 → E.kd b' ≠ 0 → E.bk b = some g → E.bk b' = some g → b = b'
  hx : ∀ b, Γ.E0.kd b ≠ 0 → b < Γ.nx
  gl : Glob.ok E.F
  gm : GmOk E w
  kpn : ∀ g o, E.kp g = some o → Γ.w0.heap.size ≤ g

/-- The cells of a made row. -/
def ArrOk (F : Addr → Value → Prop) (w : World) (g s : Nat) (rows : List (List AV)) : Prop :=
  (∀ row ∈ rows, row.length = s) ∧ ∀ (i : Nat) row (j : Nat) c, rows[i]? = some row → row[j]? = some c →
    ∃ v, w.cell? ⟨g, i * s + j, none⟩ = some v ∧ w.frozen? ⟨g, i * s + j, none⟩ = false ∧ v.oneCell' = true ∧ VI F c v

theorem ArrOk.mono {F F' : Addr → Value → Prop} (h : ∀ a v, F a v → F' a v) {w : World} {g s : Nat} {rows : List (List AV)} (ha : ArrOk F w g s rows) : ArrOk F' w g s rows :=
  ⟨ha.1, fun i row j c x y => let ⟨v, h1, h2, h3, h4⟩ := ha.2 i row j c x y; ⟨v, h1, h2, h3, h4.mono h⟩⟩
theorem ArrOk.block {F : Addr → Value → Prop} {w w' : World} {g s : Nat} {rows : List (List AV)} (h : w'.heap[g]? = w.heap[g]?) (ha : ArrOk F w g s rows) : ArrOk F w' g s rows :=
  ⟨ha.1, fun i row j c x y => let ⟨v, h1, h2, h3, h4⟩ := ha.2 i row j c x y; ⟨v, (World.cell?_of_block h).trans h1, (World.frozen?_of_block h).trans h2, h3, h4⟩⟩

/-- A made row's block is all there, as its slice says. -/
def Shp (k : Tk) (w : World) (g : Nat) : Prop := 0 < k.s ∧ ∃ cap cur, k.v = .slice (some ⟨g, 0, none⟩) k.n cap ∧ w.heap[g]? = some (.cells cur k.e (0, 0)) ∧ k.n ≤ cap ∧ cap ≤ maxLen ∧ cur.size = cap * k.s
theorem Shp.block {k : Tk} {w w' : World} {g : Nat} (h : w'.heap[g]? = w.heap[g]?) (hs : Shp k w g) : Shp k w' g := let ⟨h0, cap, cur, h1, h2, h3⟩ := hs; ⟨h0, cap, cur, h1, h.trans h2, h3⟩

def CellOk (E : Env) (w : World) (b j : Nat) : AV → Prop
  | .non => True
  | .tok n => j = 0 ∧ E.kd b = 2 ∧ (E.tk b).n = n
  | .mps f => j = 0 ∧ E.kd b = 1 ∧ ∃ g es clock, E.bk b = some g ∧ w.heap[g]? = some (.map es clock) ∧ MapOk E f es.toList
  | .mpi _ => False
  | .arr s rows => j = 0 ∧ E.kd b = 3 ∧ rows.length = (E.tk b).n ∧ ∃ g, E.bk b = some g ∧ g < w.heap.size ∧ ArrOk E.F w g s rows
  | .aw e s rows => j = 0 ∧ E.kd b = 3 ∧ rows.length = (E.tk b).n ∧ (E.tk b).e = e ∧ (E.tk b).s = s ∧ ∃ g, E.bk b = some g ∧ g < w.heap.size ∧ ArrOk E.F w g s rows ∧ Shp (E.tk b) w g
  | c => E.kd b = 1 ∧ ∃ g v, E.bk b = some g ∧ w.cell? ⟨g, j, none⟩ = some v ∧ w.frozen? ⟨g, j, none⟩ = false ∧ VR E c v

/-- The deferred calls of an activation: marks of loops over functions, whose blocks hold no calls. -/
def Marks (E : Env) (l : List Deferred) : Prop := (∀ d ∈ l, ∃ D, d = { target := .collected D, args := #[] } ∧ E.kp D = some (.deferred (some []))) ∧ l.Nodup
theorem Marks.nil {E : Env} : Marks E [] := ⟨fun _ h => (by cases h), List.nodup_nil⟩
theorem Marks.mono {E E' : Env} {l : List Deferred} (h : Marks E l) (hle : ∀ g o, E.kp g = some o → E'.kp g = some o) : Marks E' l := ⟨fun d hd => let ⟨D, h1, h2⟩ := h.1 d hd; ⟨D, h1, hle _ _ h2⟩, h.2⟩

structure SOk (E : Env) (S : FSt) (a : Act) (w : World) : Prop where
  size : a.tmps.size = S.n
  defers : Marks E a.defers
  reg : ∀ r, VR E (S.reg r) (a.tmps.getD r undef)
  cell : ∀ b j, CellOk E w b j (S.cell b j)
  dom : ∀ b, S.dom b = false → E.kd b = 0
  gl : Glob.ok E.F

def Rel (Γ : Ctx) (S : FSt) (a : Act) (w : World) : Prop := ∃ E, EOk Γ E w ∧ SOk E S a w

/-- Abstract values that stand for one cell of a box. -/
def AV.plain : AV → Bool
  | .non | .tok _ | .mps _ | .mpi _ | .arr .. | .aw .. => false
  | _ => true

theorem CellOk.plain {E : Env} {w : World} {b j : Nat} {c : AV} (hc : c.plain = true) : CellOk E w b j c ↔ (E.kd b = 1 ∧ ∃ g v, E.bk b = some g ∧ w.cell? ⟨g, j, none⟩ = some v ∧ w.frozen? ⟨g, j, none⟩ = false ∧ VR E c v) := by
  cases c <;> simp [AV.plain] at hc <;> rfl

theorem AV.one_plain {c : AV} (h : c.one = true) : c.plain = true := by cases c <;> simp_all [AV.one, AV.plain]

theorem MapOk.mono {E E' : Env} (h : E.Lo E') {f : List UInt8 → Option AV} {es : List MapEntry} (hm : MapOk E f es) : MapOk E' f es :=
  ⟨hm.1, hm.2.1, fun l c hl => let ⟨i, e, h1, h2, h3, h4⟩ := hm.2.2 l c hl; ⟨i, e, h1, h2, h3.mono h.F, h4⟩⟩

/-- A cell's fact is kept where the environment grows, the block's content (of boxes and maps) is as it was, and no token of that number turns. -/
theorem CellOk.keep0 {E E' : Env} {w w' : World} (h : E.Lo E') {b j : Nat} {c : AV} (hc : CellOk E w b j c)
    (hb : ∀ g, (E.kd b = 1 ∨ E.kd b = 3) → E.bk b = some g → g < w.heap.size → w'.heap[g]? = w.heap[g]?) (ht : E.kd b = 2 → E'.tk b = E.tk b) : CellOk E' w' b j c := by
  by_cases hp : c.plain = true
  · rw [CellOk.plain hp] at hc ⊢
    obtain ⟨hk, g, v, h1, h2, h3, h4⟩ := hc
    obtain ⟨k1, k2⟩ := h.box b hk
    have hlt := World.block_lt_of_cell? w _ h2
    have e := hb g (.inl hk) h1 hlt
    exact ⟨k1, g, v, k2.trans h1, (World.cell?_of_block e).trans h2, (World.frozen?_of_block e).trans h3, h4.mono0 h⟩
  · cases c <;> simp [AV.plain] at hp
    case non => trivial
    case tok n => exact ⟨hc.1, (h.tok b hc.2.1).1, by rw [ht hc.2.1]; exact hc.2.2⟩
    case mps f =>
      obtain ⟨hj, hk, g, es, clock, h1, h2, h3⟩ := hc
      obtain ⟨k1, k2⟩ := h.box b hk
      have hlt : g < w.heap.size := (Array.getElem?_eq_some_iff.1 h2).1
      exact ⟨hj, k1, g, es, clock, k2.trans h1, (hb g (.inl hk) h1 hlt).trans h2, h3.mono h⟩
    case mpi f => exact hc.elim
    case arr s rows =>
      obtain ⟨hj, hk, hl, g, h1, h2, h3⟩ := hc
      obtain ⟨k1, k2, k3⟩ := h.ar b hk
      have e := hb g (.inr hk) h1 h2
      refine ⟨hj, k1, by rw [k3]; exact hl, g, k2.trans h1, ?_, (h3.mono h.F).block e⟩
      have h4 : g < w'.heap.size := by
        rcases Nat.lt_or_ge g w'.heap.size with h5 | h5
        · exact h5
        · rw [Array.getElem?_eq_none h5, Array.getElem?_eq_getElem h2] at e; cases e
      exact h4
    case aw e0 s rows =>
      obtain ⟨hj, hk, hl, he, hs, g, h1, h2, h3, h4⟩ := hc
      obtain ⟨k1, k2, k3⟩ := h.ar b hk
      have e := hb g (.inr hk) h1 h2
      refine ⟨hj, k1, by rw [k3]; exact hl, by rw [k3]; exact he, by rw [k3]; exact hs, g, k2.trans h1, ?_, (h3.mono h.F).block e, by rw [k3]; exact h4.block e⟩
      rcases Nat.lt_or_ge g w'.heap.size with h5 | h5
      · exact h5
      · rw [Array.getElem?_eq_none h5, Array.getElem?_eq_getElem h2] at e; cases e

theorem CellOk.keep {E E' : Env} {w w' : World} (h : E.Le E') {b j : Nat} {c : AV} (hc : CellOk E w b j c)
    (hb : ∀ g, (E.kd b = 1 ∨ E.kd b = 3) → E.bk b = some g → g < w.heap.size → w'.heap[g]? = w.heap[g]?) (ht : E.kd b = 2 → E'.tk b = E.tk b) : CellOk E' w' b j c := CellOk.keep0 h.lo hc hb ht

theorem getD_set (xs : Array Value) (d r : Nat) (v : Value) : (xs.setIfInBounds d v).getD r undef = if d = r ∧ r < xs.size then v else xs.getD r undef := by
  by_cases h : d = r
  · subst h
    by_cases hr : d < xs.size
    · simp [hr]
    · simp [hr]
  · simp only [Array.getD_eq_getD_getElem?, h, false_and, if_false]
    rw [Array.getElem?_setIfInBounds_ne h]

theorem put_getD (a : Act) (dst : Option Nat) (v : Value) (r : Nat) : (a.put dst v).tmps.getD r undef = if dst = some r ∧ r < a.tmps.size then v else a.tmps.getD r undef := by
  cases dst with
  | none => simp [Act.put]
  | some d => simp only [Act.put, Option.some.injEq]; exact getD_set _ _ _ _

theorem put_size (a : Act) (dst : Option Nat) (v : Value) : (a.put dst v).tmps.size = a.tmps.size := by cases dst <;> simp [Act.put]
theorem put_defers (a : Act) (dst : Option Nat) (v : Value) : (a.put dst v).defers = a.defers := by cases dst <;> rfl

/-- The general step: a world and an environment that keep what was known, a value for the register, the cells as the effect says. -/
theorem SOk.step {E E' : Env} {S : FSt} {a : Act} {w w' : World} (h : SOk E S a w) (hle : E.Le E') {e : Eff} {v : Value} (hv : VR E' e.val v)
    (hcell : ∀ b j, CellOk E' w' b j ((S.apply e).cell b j)) (hdom : ∀ b, (S.apply e).dom b = false → E'.kd b = 0) : SOk E' (S.apply e) (a.put e.dst v) w' where
  size := by rw [put_size]; exact h.size
  defers := by rw [put_defers]; exact h.defers.mono hle.kp
  reg := fun r => by
    rw [put_getD, h.size]
    simp only [FSt.apply]
    split
    · exact hv
    · exact (h.reg r).mono hle
  cell := hcell
  dom := hdom
  gl := Glob.mono hle.F h.gl

theorem Eff.new_nil (dst : Option Nat) (c : AV) (ws : List (Nat × Nat × AV)) (n b : Nat) : (⟨dst, c, ws, n, []⟩ : Eff).new b = false := by
  simp [Eff.new]
theorem apply_pure_cell (S : FSt) (dst : Option Nat) (c : AV) (n b j : Nat) : (S.apply ⟨dst, c, [], n, []⟩).cell b j = S.cell b j := by
  simp [FSt.apply, Eff.new_nil, wrs]
theorem apply_pure_dom (S : FSt) (dst : Option Nat) (c : AV) (ws : List (Nat × Nat × AV)) (n b : Nat) : (S.apply ⟨dst, c, ws, n, []⟩).dom b = S.dom b := by
  simp [FSt.apply, Eff.new_nil]

/-- A step that leaves the world alone. -/
theorem SOk.pure {E : Env} {S : FSt} {a : Act} {w : World} (h : SOk E S a w) {dst : Option Nat} {c : AV} {v : Value} (hv : VR E c v) (n : Nat) :
    SOk E (S.apply ⟨dst, c, [], n, []⟩) (a.put dst v) w := by
  refine h.step (Env.Le.refl E) (e := ⟨dst, c, [], n, []⟩) hv (fun b j => ?_) (fun b hb => ?_)
  · rw [apply_pure_cell]; exact h.cell b j
  · rw [apply_pure_dom] at hb; exact h.dom b hb

/-- A new box of number b. -/
def Env.addBox (E : Env) (b g : Nat) : Env := { E with kd := fun x => if x = b then 1 else E.kd x, bk := fun x => if x = b then some g else E.bk x }

theorem Env.addBox_le {E : Env} {b g : Nat} (h : E.kd b = 0) : E.Le (E.addBox b g) :=
  ⟨fun _ _ x => x, fun x hx => by
    have : x ≠ b := fun e => by subst e; omega
    simp [Env.addBox, this, hx], fun x hx => by
    have : x ≠ b := fun e => by subst e; omega
    simp [Env.addBox, this, hx], fun x hx => by
    have : x ≠ b := fun e => by subst e; omega
    simp [Env.addBox, this, hx], fun _ _ x => x⟩

theorem TOk.keep {Γ : Ctx} {E E' : Env} {w w' : World} {t : Nat} (h : TOk Γ E w t) (hb : E'.bk t = E.bk t) (ht : E'.tk t = E.tk t)
    (hw : ∀ g, E.bk t = some g → g < w.heap.size → w'.heap[g]? = w.heap[g]?) (hF : ∀ g a v, E.bk t = some g → E'.F a v → a.block = g → E.F a v) : TOk Γ E' w' t := by
  rcases h with ⟨h1, h2, h3⟩ | ⟨g, cap, xs, h1, h2, h3, h4, hm⟩
  · exact .inl ⟨hb.trans h1, by rw [ht]; exact h2, by rw [ht]; exact h3⟩
  · refine .inr ⟨g, cap, xs, hb.trans h1, by rw [ht]; exact h2, ?_, fun a v x y => by rw [ht]; exact h4 a v (hF g a v h1 x y) y, hm⟩
    rw [ht]
    refine ⟨h3.1, ?_⟩
    rcases h3.2 with h5 | ⟨g', cap', cur, e1, e2, e3, e4⟩
    · exact .inl h5
    · refine .inr ⟨g', cap', cur, e1, e2, ?_, e4⟩
      have e5 : g = g' := by rw [h2] at e1; injection e1 with e1; injection e1 with e1; injection e1
      subst e5
      rw [hw g h1 (Array.getElem?_eq_some_iff.1 e3).1]
      exact e3

theorem heap_alloc_lt (w : World) (o : Obj) {g : Nat} (h : g < w.heap.size) : (w.alloc o).heap[g]? = w.heap[g]? := by
  unfold World.alloc
  simp only [Array.getElem?_push]
  rw [if_neg (by omega)]

theorem EOk.alloc {Γ : Ctx} {E : Env} {w : World} (h : EOk Γ E w) (o : Obj) : EOk Γ E (w.alloc o) where
  le := h.le
  os := h.os
  tape := h.tape
  output := h.output
  size := by have := h.size; simp; omega
  old := fun g hg hx => by rw [heap_alloc_lt w o (Nat.lt_of_lt_of_le hg h.size)]; exact h.old g hg hx
  F := fun a v x => ⟨by rw [World.cell?_alloc_lt w o a (World.block_lt_of_cell? w a (h.F a v x).1)]; exact (h.F a v x).1, (h.F a v x).2⟩
  box := fun b hb => let ⟨g, h1, h2, h3, h4⟩ := h.box b hb; ⟨g, h1, by simp; omega, h3, h4⟩
  tok := fun t ht => (h.tok t ht).keep rfl rfl (fun g _ hlt => heap_alloc_lt w o hlt) (fun _ _ _ _ x _ => x)
  fnew := h.fnew
  kpn := h.kpn
  kd3 := h.kd3
  inj := h.inj
  hx := h.hx
  gl := h.gl
  gm := h.gm.keep (fun _ _ x => x) (fun g hl _ => heap_alloc_lt w o hl) (fun b g hk hg => .inl ⟨b, hk, hg⟩)
  arb := fun b hb => let ⟨g, h1, h2, h3, h4⟩ := h.arb b hb; ⟨g, h1, by simp; omega, h3, h4⟩
  new := h.new

theorem EOk.lt {Γ : Ctx} {E : Env} {w : World} (h : EOk Γ E w) {b g : Nat} (hk : E.kd b ≠ 0) (hg : E.bk b = some g) : g < w.heap.size ∧ Γ.mine g := by
  rcases h.kd3 b with h1 | h1 | h1 | h1
  · exact absurd h1 hk
  · obtain ⟨g', h2, h3, h4, _⟩ := h.box b h1
    rw [hg] at h2; injection h2 with h2; subst h2
    exact ⟨h3, h4⟩
  · rcases h.tok b h1 with ⟨h2, _⟩ | ⟨g', cap, xs, h2, h3, h4, _, hm⟩
    · rw [hg] at h2; cases h2
    · rw [hg] at h2; injection h2 with h2; subst h2
      have := h4.lt g (by rw [h3]; rfl)
      exact ⟨this.2, hm⟩
  · obtain ⟨g', h2, h3, h4, _⟩ := h.arb b h1
    rw [hg] at h2; injection h2 with h2; subst h2
    exact ⟨h3, h4⟩

theorem EOk.addBox {Γ : Ctx} {E : Env} {w : World} (h : EOk Γ E w) {b : Nat} (hb : E.kd b = 0) (o : Obj) : EOk Γ (E.addBox b w.heap.size) (w.alloc o) where
  le := h.le.trans (Env.addBox_le hb)
  os := h.os
  tape := h.tape
  output := h.output
  size := (h.alloc o).size
  old := (h.alloc o).old
  F := (h.alloc o).F
  box := fun x hx => by
    by_cases e : x = b
    · subst e
      refine ⟨w.heap.size, by simp [Env.addBox], by simp, .inl h.size, fun a v y => ?_⟩
      have := World.block_lt_of_cell? w a (h.F a v y).1
      omega
    · simp only [Env.addBox, e, if_false] at hx ⊢
      exact (h.alloc o).box x hx
  tok := fun x hx => by
    have e : x ≠ b := fun e => by subst e; simp [Env.addBox] at hx
    have hx' : E.kd x = 2 := by simpa [Env.addBox, e] using hx
    exact ((h.alloc o).tok x hx').keep (by simp [Env.addBox, e]) rfl (fun _ _ _ => rfl) (fun _ _ _ _ y _ => y)
  fnew := h.fnew
  kpn := h.kpn
  hx := h.hx
  gl := h.gl
  gm := h.gm.keep (fun _ _ x => x) (fun g hl _ => heap_alloc_lt w o hl) (fun x g hk hg => by
    by_cases e : x = b
    · subst e
      simp only [Env.addBox, if_true] at hg
      injection hg with hg
      exact .inr (Nat.le_of_eq hg)
    · simp only [Env.addBox, e, if_false] at hk hg
      exact .inl ⟨x, hk, hg⟩)
  new := fun x g hx hg => by
    by_cases e : x = b
    · subst e
      simp only [Env.addBox, if_true] at hg
      injection hg with hg
      exact .inr (hg ▸ h.size)
    · simp only [Env.addBox, e, if_false] at hx hg
      exact h.new x g hx hg
  arb := fun x hx => by
    have e : x ≠ b := fun e => by subst e; simp [Env.addBox] at hx
    have hx' : E.kd x = 3 := by simpa [Env.addBox, e] using hx
    simp only [Env.addBox, e, if_false]
    exact (h.alloc o).arb x hx'
  kd3 := fun x => by
    by_cases e : x = b
    · exact .inr (.inl (by simp [Env.addBox, e]))
    · simp only [Env.addBox, e, if_false]; exact h.kd3 x
  inj := fun x y g hx hy hgx hgy => by
    have key : ∀ z, E.kd z ≠ 0 → E.bk z = some w.heap.size → False := fun z hz hg => by have := (h.lt hz hg).1; omega
    by_cases ex : x = b <;> by_cases ey : y = b
    · rw [ex, ey]
    · exfalso
      simp only [Env.addBox, ex, ey, if_true, if_false] at hx hy hgx hgy
      injection hgx with hgx
      exact key y hy (hgx ▸ hgy)
    · exfalso
      simp only [Env.addBox, ex, ey, if_true, if_false] at hx hy hgx hgy
      injection hgy with hgy
      exact key x hx (hgy ▸ hgx)
    · simp only [Env.addBox, ex, ey, if_false] at hx hy hgx hgy
      exact h.inj x y g hx hy hgx hgy

/-- A new row of number b. -/
def Env.addArr (E : Env) (b g : Nat) (k : Tk) : Env := { E with kd := fun x => if x = b then 3 else E.kd x, bk := fun x => if x = b then some g else E.bk x, tk := fun x => if x = b then k else E.tk x }

theorem Env.addArr_le {E : Env} {b g : Nat} {n : Tk} (h : E.kd b = 0) : E.Le (E.addArr b g n) :=
  ⟨fun _ _ x => x, fun x hx => by
    have : x ≠ b := fun e => by subst e; omega
    simp [Env.addArr, this, hx], fun x hx => by
    have : x ≠ b := fun e => by subst e; omega
    simp [Env.addArr, this, hx], fun x hx => by
    have : x ≠ b := fun e => by subst e; omega
    simp [Env.addArr, this, hx], fun _ _ x => x⟩

theorem EOk.addArr {Γ : Ctx} {E : Env} {w : World} (h : EOk Γ E w) {b : Nat} (hb : E.kd b = 0) (o : Obj) (n : Tk) : EOk Γ (E.addArr b w.heap.size n) (w.alloc o) where
  le := h.le.trans (Env.addArr_le hb)
  os := h.os
  tape := h.tape
  output := h.output
  size := (h.alloc o).size
  old := (h.alloc o).old
  F := (h.alloc o).F
  arb := fun x hx => by
    by_cases e : x = b
    · subst e
      refine ⟨w.heap.size, by simp [Env.addArr], by simp, .inl h.size, fun a v y => ?_⟩
      have := World.block_lt_of_cell? w a (h.F a v y).1
      omega
    · simp only [Env.addArr, e, if_false] at hx ⊢
      exact (h.alloc o).arb x hx
  tok := fun x hx => by
    have e : x ≠ b := fun e => by subst e; simp [Env.addArr] at hx
    have hx' : E.kd x = 2 := by simpa [Env.addArr, e] using hx
    exact ((h.alloc o).tok x hx').keep (by simp [Env.addArr, e]) (by simp [Env.addArr, e]) (fun _ _ _ => rfl) (fun _ _ _ _ y _ => y)
  fnew := h.fnew
  kpn := h.kpn
  hx := h.hx
  gl := h.gl
  gm := h.gm.keep (fun _ _ x => x) (fun g hl _ => heap_alloc_lt w o hl) (fun x g hk hg => by
    by_cases e : x = b
    · subst e
      simp only [Env.addArr, if_true] at hg
      injection hg with hg
      exact .inr (Nat.le_of_eq hg)
    · simp only [Env.addArr, e, if_false] at hk hg
      exact .inl ⟨x, hk, hg⟩)
  new := fun x g hx hg => by
    by_cases e : x = b
    · subst e
      simp only [Env.addArr, if_true] at hg
      injection hg with hg
      exact .inr (hg ▸ h.size)
    · simp only [Env.addArr, e, if_false] at hx hg
      exact h.new x g hx hg
  box := fun x hx => by
    have e : x ≠ b := fun e => by subst e; simp [Env.addArr] at hx
    have hx' : E.kd x = 1 := by simpa [Env.addArr, e] using hx
    simp only [Env.addArr, e, if_false]
    exact (h.alloc o).box x hx'
  kd3 := fun x => by
    by_cases e : x = b
    · exact .inr (.inr (.inr (by simp [Env.addArr, e])))
    · simp only [Env.addArr, e, if_false]; exact h.kd3 x
  inj := fun x y g hx hy hgx hgy => by
    have key : ∀ z, E.kd z ≠ 0 → E.bk z = some w.heap.size → False := fun z hz hg => by have := (h.lt hz hg).1; omega
    by_cases ex : x = b <;> by_cases ey : y = b
    · rw [ex, ey]
    · exfalso
      simp only [Env.addArr, ex, ey, if_true, if_false] at hx hy hgx hgy
      injection hgx with hgx
      exact key y hy (hgx ▸ hgy)
    · exfalso
      simp only [Env.addArr, ex, ey, if_true, if_false] at hx hy hgx hgy
      injection hgy with hgy
      exact key x hx (hgy ▸ hgx)
    · simp only [Env.addArr, ex, ey, if_false] at hx hy hgx hgy
      exact h.inj x y g hx hy hgx hgy

end Go.Ab
end

section
namespace Go.Ab
open Go Go.RowKit
set_option linter.unusedVariables false
set_option linter.unusedSimpArgs false

def AV.cellable : AV → Bool
  | .tok _ | .mps _ | .mpi _ | .arr .. | .aw .. => false
  | _ => true

theorem AV.cellable_cases {c : AV} (h : c.cellable = true) : c = .non ∨ c.plain = true := by cases c <;> simp_all [AV.cellable, AV.plain]

theorem Eff.new_one (dst : Option Nat) (v : AV) (ws : List (Nat × Nat × AV)) (b : Nat) (cs : List AV) (x : Nat) : (⟨dst, v, ws, b, [cs]⟩ : Eff).new x = decide (x = b) := by
  unfold Eff.new
  by_cases h : x = b
  · subst h; simp
  · simp only [List.length_cons, List.length_nil, h]; simp; omega

theorem apply_new_cell (S : FSt) (dst : Option Nat) (v : AV) (b : Nat) (cs : List AV) (x j : Nat) :
    (S.apply ⟨dst, v, [], b, [cs]⟩).cell x j = if x = b then cs.getD j .non else S.cell x j := by
  simp only [FSt.apply, Eff.new_one, wrs]
  by_cases h : x = b
  · subst h; simp
  · simp [h]

theorem apply_new_dom (S : FSt) (dst : Option Nat) (v : AV) (ws : List (Nat × Nat × AV)) (b : Nat) (cs : List AV) (x : Nat) :
    (S.apply ⟨dst, v, ws, b, [cs]⟩).dom x = (S.dom x || decide (x = b)) := by simp [FSt.apply, Eff.new_one]

/-- The old cells, behind a new object. -/
theorem SOk.old_alloc {Γ : Ctx} {E : Env} {S : FSt} {a : Act} {w : World} (h : SOk E S a w) (hE : EOk Γ E w) {b : Nat} (hb : S.dom b = false) (o : Obj) {x : Nat} (hx : x ≠ b) (j : Nat) :
    CellOk (E.addBox b w.heap.size) (w.alloc o) x j (S.cell x j) :=
  (h.cell x j).keep (Env.addBox_le (h.dom b hb)) (fun _ _ _ hl => heap_alloc_lt w o hl) (fun _ => by simp [Env.addBox])

/-- The old cells, behind a new object. -/
theorem SOk.old_allocA {Γ : Ctx} {E : Env} {S : FSt} {a : Act} {w : World} (h : SOk E S a w) (hE : EOk Γ E w) {b : Nat} (hb : S.dom b = false) (o : Obj) (n : Tk) {x : Nat} (hx : x ≠ b) (j : Nat) :
    CellOk (E.addArr b w.heap.size n) (w.alloc o) x j (S.cell x j) :=
  (h.cell x j).keep (Env.addArr_le (h.dom b hb)) (fun _ _ _ hl => heap_alloc_lt w o hl) (fun _ => by simp [Env.addArr, hx])

theorem SOk.box {Γ : Ctx} {E : Env} {S : FSt} {a : Act} {w : World} (h : SOk E S a w) (hE : EOk Γ E w) {b : Nat} (hb : S.dom b = false) {cs : List AV} {vs : Array Value}
    (hv : VRs E cs vs.toList) (hc : ∀ c ∈ cs, c.cellable = true) (dst : Option Nat) (t : TypeId) :
    EOk Γ (E.addBox b w.heap.size) (w.alloc (.cells vs t)) ∧ SOk (E.addBox b w.heap.size) (S.apply ⟨dst, .ptr b 0, [], b, [cs]⟩) (a.put dst (.pointer (some ⟨w.heap.size, 0, none⟩))) (w.alloc (.cells vs t)) := by
  have hle : E.Le (E.addBox b w.heap.size) := Env.addBox_le (h.dom b hb)
  refine ⟨hE.addBox (h.dom b hb) _, h.step hle (e := ⟨dst, .ptr b 0, [], b, [cs]⟩) (.ptr b 0 _ (by simp [Env.addBox]) (by simp [Env.addBox])) (fun x j => ?_) (fun x hx => ?_)⟩
  · rw [apply_new_cell]
    by_cases hx : x = b
    · subst hx
      simp only [if_true]
      by_cases hj : j < cs.length
      · have he : cs[j]? = some (cs.getD j .non) := by simp [List.getD, List.getElem?_eq_getElem hj]
        obtain ⟨v, h1, h2⟩ := hv.get he
        rcases AV.cellable_cases (hc _ (List.mem_of_getElem? he)) with h3 | h3
        · rw [h3]; trivial
        · rw [CellOk.plain h3]
          refine ⟨by simp [Env.addBox], w.heap.size, v, by simp [Env.addBox], ?_, by simp, h2.mono hle⟩
          rw [World.cell?_alloc_new]
          simpa using h1
      · have : cs.getD j .non = .non := by simp [List.getD, List.getElem?_eq_none (by omega : cs.length ≤ j)]
        rw [this]; trivial
    · simp only [hx, if_false]
      exact h.old_alloc hE hb _ hx j
  · rw [apply_new_dom, Bool.or_eq_false_iff] at hx
    have : x ≠ b := by simpa using hx.2
    simp [Env.addBox, this, h.dom x hx.1]

theorem SOk.map {Γ : Ctx} {E : Env} {S : FSt} {a : Act} {w : World} (h : SOk E S a w) (hE : EOk Γ E w) {b : Nat} (hb : S.dom b = false) (dst : Option Nat) :
    EOk Γ (E.addBox b w.heap.size) (w.alloc (.map #[] 0)) ∧ SOk (E.addBox b w.heap.size) (S.apply ⟨dst, .mp b, [], b, [[.mps fun _ => none]]⟩) (a.put dst (.map (some w.heap.size))) (w.alloc (.map #[] 0)) := by
  have hle : E.Le (E.addBox b w.heap.size) := Env.addBox_le (h.dom b hb)
  refine ⟨hE.addBox (h.dom b hb) _, h.step hle (e := ⟨dst, .mp b, [], b, [[.mps fun _ => none]]⟩) (.mp b _ (by simp [Env.addBox]) (by simp [Env.addBox])) (fun x j => ?_) (fun x hx => ?_)⟩
  · rw [apply_new_cell]
    by_cases hx : x = b
    · subst hx
      simp only [if_true]
      cases j with
      | zero =>
        refine ⟨rfl, by simp [Env.addBox], w.heap.size, #[], 0, by simp [Env.addBox], heap_alloc_new w _, ?_⟩
        exact ⟨fun e he => by simp at he, fun l _ e he => by simp at he, fun l c hl => by simp at hl⟩
      | succ j => simp [List.getD, CellOk]
    · simp only [hx, if_false]
      exact h.old_alloc hE hb _ hx j
  · rw [apply_new_dom, Bool.or_eq_false_iff] at hx
    have : x ≠ b := by simpa using hx.2
    simp [Env.addBox, this, h.dom x hx.1]

/-! ### A store -/

def writes (b : Nat) : Nat → List AV → List (Nat × Nat × AV)
  | _, [] => []
  | o, c :: r => (b, o, c) :: writes b (o + 1) r

theorem wrs_writes (b : Nat) : ∀ (cs : List AV) (o : Nat) (f : Nat → Nat → AV) (x j : Nat),
    wrs (writes b o cs) f x j = if x = b ∧ o ≤ j ∧ j < o + cs.length then cs.getD (j - o) .non else f x j
  | [], o, f, x, j => by
    simp only [writes, wrs, List.length_nil]
    rw [if_neg (by omega)]
  | c :: r, o, f, x, j => by
    rw [writes, wrs, wrs_writes b r (o + 1)]
    by_cases h1 : x = b ∧ o + 1 ≤ j ∧ j < o + 1 + r.length
    · rw [if_pos h1, if_pos (by simp; omega)]
      rw [show j - o = (j - (o + 1)) + 1 by omega]
      simp
    · rw [if_neg h1]
      unfold upd
      by_cases h2 : x = b ∧ j = o
      · rw [if_pos h2, if_pos (by simp; omega)]
        rw [h2.2]; simp
      · rw [if_neg h2, if_neg (by simp; omega)]

theorem heap_setCells (b : Nat) : ∀ (vs : List Value) (o : Nat) (w : World) (g : Nat), g ≠ b → (w.setCells b o vs).heap[g]? = w.heap[g]?
  | [], _, _, _, _ => rfl
  | v :: r, o, w, g, h => by rw [World.setCells, heap_setCells b r _ _ g h]; exact Below.heap_setCell w ⟨b, o, none⟩ v g h

theorem setCells_frame (b : Nat) : ∀ (vs : List Value) (o : Nat) (w : World), (w.setCells b o vs).os = w.os ∧ (w.setCells b o vs).tape = w.tape ∧ (w.setCells b o vs).output = w.output ∧ (w.setCells b o vs).heap.size = w.heap.size
  | [], _, _ => ⟨rfl, rfl, rfl, rfl⟩
  | v :: r, o, w => by
    obtain ⟨h1, h2, h3, h4⟩ := setCells_frame b r (o + 1) (w.setCell ⟨b, o, none⟩ v)
    exact ⟨h1, h2, h3, by rw [World.setCells, h4]; simp⟩

/-- Whatever turns one box of mine alone. -/
theorem EOk.turn {Γ : Ctx} {E : Env} {w w' : World} (h : EOk Γ E w) {b g : Nat} (hk : E.kd b = 1) (hg : E.bk b = some g)
    (hos : w'.os = w.os) (htape : w'.tape = w.tape) (hout : w'.output = w.output) (hsize : w'.heap.size = w.heap.size) (hblk : ∀ x, x ≠ g → w'.heap[x]? = w.heap[x]?) : EOk Γ E w' where
  le := h.le
  kpn := h.kpn
  os := hos.trans h.os
  tape := htape.trans h.tape
  output := hout.trans h.output
  size := by rw [hsize]; exact h.size
  old := fun x hx hX => by
    have hm := (h.lt (by rw [hk]; decide) hg).2
    rw [hblk x (fun e => by subst e; rcases hm with hm | hm; exact absurd hx (Nat.not_lt.2 hm); exact hX hm)]
    exact h.old x hx hX
  F := fun a v x => by
    obtain ⟨g', h1, _, _, h4⟩ := h.box b hk
    rw [hg] at h1; injection h1 with h1; subst h1
    rw [World.cell?_of_block (hblk a.block (h4 a v x))]
    exact h.F a v x
  box := fun x hx => let ⟨g', h1, h2, h3, h4⟩ := h.box x hx; ⟨g', h1, by rw [hsize]; exact h2, h3, h4⟩
  tok := fun t ht => (h.tok t ht).keep rfl rfl (fun g' hg' _ => hblk g' (fun e => by
    subst e
    have := h.inj t b g' (by rw [ht]; decide) (by rw [hk]; decide) hg' hg
    subst this
    rw [ht] at hk; cases hk)) (fun _ _ _ _ x _ => x)
  fnew := h.fnew
  kd3 := h.kd3
  inj := h.inj
  hx := h.hx
  gl := h.gl
  gm := h.gm.keep (fun _ _ x => x) (fun x _ hx => hblk x (fun e => hx b (by rw [hk]; decide) (e ▸ hg))) (fun b g hk hg => .inl ⟨b, hk, hg⟩)
  arb := fun x hx => let ⟨g', h1, h2, h3, h4⟩ := h.arb x hx; ⟨g', h1, by rw [hsize]; exact h2, h3, h4⟩
  new := h.new

/-- The cells of the other blocks, where one box of mine is turned. -/
theorem SOk.turn_other {Γ : Ctx} {E : Env} {S : FSt} {a : Act} {w w' : World} (h : SOk E S a w) (hE : EOk Γ E w) {b g : Nat} (hk : E.kd b = 1) (hg : E.bk b = some g)
    (hblk : ∀ x, x ≠ g → w'.heap[x]? = w.heap[x]?) {x : Nat} (hx : x ≠ b) (j : Nat) : CellOk E w' x j (S.cell x j) :=
  (h.cell x j).keep (Env.Le.refl E) (fun g' hk' hg' _ => hblk g' (fun e => by
    subst e
    exact hx (hE.inj x b g' (by rcases hk' with h | h <;> rw [h] <;> decide) (by rw [hk]; decide) hg' hg))) (fun _ => rfl)

theorem SOk.store {Γ : Ctx} {E : Env} {S : FSt} {a : Act} {w : World} (h : SOk E S a w) (hE : EOk Γ E w) {b g off : Nat} (hk : E.kd b = 1) (hg : E.bk b = some g) {cs : List AV} {vs : List Value}
    (hv : VRs E cs vs) (hc : ∀ c ∈ cs, c.plain = true) (hold : ∀ i, i < cs.length → (S.cell b (off + i)).plain = true) (dst : Option Nat) (n : Nat) :
    EOk Γ E (w.setCells g off vs) ∧ SOk E (S.apply ⟨dst, .und, writes b off cs, n, []⟩) (a.put dst undef) (w.setCells g off vs) := by
  obtain ⟨f1, f2, f3, f4⟩ := setCells_frame g vs off w
  have hblk := fun x hx => heap_setCells g vs off w x hx
  refine ⟨hE.turn hk hg f1 f2 f3 f4 hblk, h.step (Env.Le.refl E) (e := ⟨dst, .und, writes b off cs, n, []⟩) .und (fun x j => ?_) (fun x hx => ?_)⟩
  · have e1 : (S.apply ⟨dst, .und, writes b off cs, n, []⟩).cell x j = wrs (writes b off cs) S.cell x j := by simp [FSt.apply, Eff.new_nil]
    rw [e1, wrs_writes]
    have hin : ∀ i, i < cs.length → ∃ u, w.cell? ⟨g, off + i, none⟩ = some u ∧ w.frozen? ⟨g, off + i, none⟩ = false := fun i hi => by
      have := h.cell b (off + i)
      rw [CellOk.plain (hold i hi)] at this
      obtain ⟨_, g', u, h1, h2, h3, _⟩ := this
      rw [hg] at h1; injection h1 with h1; subst h1
      exact ⟨u, h2, h3⟩
    by_cases hx : x = b ∧ off ≤ j ∧ j < off + cs.length
    · rw [if_pos hx]
      obtain ⟨rfl, h1, h2⟩ := hx
      have hj : j - off < cs.length := by omega
      have he : cs[j - off]? = some (cs.getD (j - off) .non) := by simp [List.getD, List.getElem?_eq_getElem hj]
      obtain ⟨v, hv1, hv2⟩ := hv.get he
      rw [CellOk.plain (hc _ (List.mem_of_getElem? he))]
      refine ⟨hk, g, v, hg, ?_, ?_, hv2⟩
      · have hlen : j - off < vs.length := by rw [hv.1]; exact hj
        have := World.cell?_setCells_in g vs off w (fun i hi => by obtain ⟨u, hu, _⟩ := hin i (by rw [← hv.1]; exact hi); rw [hu]; rfl) (j - off) hlen
        rw [show off + (j - off) = j by omega] at this
        rw [this]
        rw [List.getElem?_eq_getElem hlen] at hv1
        exact hv1
      · rw [World.frozen?_setCells]
        obtain ⟨u, _, hu⟩ := hin (j - off) hj
        rw [show off + (j - off) = j by omega] at hu
        exact hu
    · rw [if_neg hx]
      by_cases hb : x = b
      · subst hb
        by_cases hp : (S.cell x j).plain = true
        · have := h.cell x j
          rw [CellOk.plain hp] at this ⊢
          obtain ⟨_, g', u, h1, h2, h3, h4⟩ := this
          rw [hg] at h1; injection h1 with h1; subst h1
          refine ⟨hk, g, u, hg, ?_, by rw [World.frozen?_setCells]; exact h3, h4⟩
          rw [World.cell?_setCells_out g vs off w ⟨g, j, none⟩ (fun _ _ => by
            simp only
            have := hv.1
            by_cases h1 : j < off
            · exact .inl h1
            · exact .inr (Nat.le_of_not_lt fun h2 => hx ⟨rfl, by omega, by omega⟩))]
          exact h2
        · have hh := h.cell x j
          cases hcell : S.cell x j <;> rw [hcell] at hp hh <;> simp [AV.plain] at hp
          case non => trivial
          case tok m => exact absurd hh.2.1 (by rw [hk]; decide)
          case mps f =>
            -- a map's block holds no cells: nothing can have been stored
            obtain ⟨hj, _, g', es, clock, h1, h2, h3⟩ := hh
            rw [hg] at h1; injection h1 with h1; subst h1
            by_cases h0 : 0 < cs.length
            · obtain ⟨u, hu, _⟩ := hin 0 h0
              simp [World.cell?, h2] at hu
            · have : vs = [] := List.eq_nil_of_length_eq_zero (by rw [hv.1]; omega)
              subst this
              exact ⟨hj, hk, g, es, clock, hg, h2, h3⟩
          case mpi f => exact hh.elim
          case arr s rows => exact absurd hh.2.1 (by rw [hk]; decide)
          case aw e0 s rows => exact absurd hh.2.1 (by rw [hk]; decide)
      · exact h.turn_other hE hk hg hblk hb j
  · rw [apply_pure_dom] at hx
    exact h.dom x hx

/-- Whatever turns one row of mine alone. -/
theorem EOk.turnA {Γ : Ctx} {E : Env} {w w' : World} (h : EOk Γ E w) {b g : Nat} (hk : E.kd b = 3) (hg : E.bk b = some g)
    (hos : w'.os = w.os) (htape : w'.tape = w.tape) (hout : w'.output = w.output) (hsize : w'.heap.size = w.heap.size) (hblk : ∀ x, x ≠ g → w'.heap[x]? = w.heap[x]?) : EOk Γ E w' where
  le := h.le
  kpn := h.kpn
  os := hos.trans h.os
  tape := htape.trans h.tape
  output := hout.trans h.output
  size := by rw [hsize]; exact h.size
  old := fun x hx hX => by
    have hm := (h.lt (by rw [hk]; decide) hg).2
    rw [hblk x (fun e => by subst e; rcases hm with hm | hm; exact absurd hx (Nat.not_lt.2 hm); exact hX hm)]
    exact h.old x hx hX
  F := fun a v x => by
    obtain ⟨g', h1, _, _, h4⟩ := h.arb b hk
    rw [hg] at h1; injection h1 with h1; subst h1
    rw [World.cell?_of_block (hblk a.block (h4 a v x))]
    exact h.F a v x
  box := fun x hx => let ⟨g', h1, h2, h3, h4⟩ := h.box x hx; ⟨g', h1, by rw [hsize]; exact h2, h3, h4⟩
  tok := fun t ht => (h.tok t ht).keep rfl rfl (fun g' hg' _ => hblk g' (fun e => by
    subst e
    have := h.inj t b g' (by rw [ht]; decide) (by rw [hk]; decide) hg' hg
    subst this
    rw [ht] at hk; cases hk)) (fun _ _ _ _ x _ => x)
  fnew := h.fnew
  kd3 := h.kd3
  inj := h.inj
  hx := h.hx
  gl := h.gl
  gm := h.gm.keep (fun _ _ x => x) (fun x _ hx => hblk x (fun e => hx b (by rw [hk]; decide) (e ▸ hg))) (fun b g hk hg => .inl ⟨b, hk, hg⟩)
  arb := fun x hx => let ⟨g', h1, h2, h3, h4⟩ := h.arb x hx; ⟨g', h1, by rw [hsize]; exact h2, h3, h4⟩
  new := h.new

/-- The cells of the other blocks, where one row of mine is turned. -/
theorem SOk.turn_otherA {Γ : Ctx} {E : Env} {S : FSt} {a : Act} {w w' : World} (h : SOk E S a w) (hE : EOk Γ E w) {b g : Nat} (hk : E.kd b = 3) (hg : E.bk b = some g)
    (hblk : ∀ x, x ≠ g → w'.heap[x]? = w.heap[x]?) {x : Nat} (hx : x ≠ b) (j : Nat) : CellOk E w' x j (S.cell x j) :=
  (h.cell x j).keep (Env.Le.refl E) (fun g' hk' hg' _ => hblk g' (fun e => by
    subst e
    exact hx (hE.inj x b g' (by rcases hk' with h | h <;> rw [h] <;> decide) (by rw [hk]; decide) hg' hg))) (fun _ => rfl)


/-! ### Rows that are made, and stores into them -/

theorem SOk.arr {Γ : Ctx} {E : Env} {S : FSt} {a : Act} {w : World} (h : SOk E S a w) (hE : EOk Γ E w) {b : Nat} (hb : S.dom b = false) {z : List AV} {zv : Array Value} {n : Nat}
    (hl : zv.size = z.length) (hz : ∀ (j : Nat) c v, z[j]? = some c → zv[j]? = some v → VI E.F c v ∧ v.oneCell' = true) (dst : Option Nat) (t : TypeId) :
    EOk Γ (E.addArr b w.heap.size ⟨n, 0, 0, undef⟩) (w.alloc (.cells (madeCells zv (n * zv.size)) t)) ∧
      SOk (E.addArr b w.heap.size ⟨n, 0, 0, undef⟩) (S.apply ⟨dst, .sb b n, [], b, [[.arr zv.size (List.replicate n z)]]⟩) (a.put dst (.slice (some ⟨w.heap.size, 0, none⟩) n n)) (w.alloc (.cells (madeCells zv (n * zv.size)) t)) := by
  have hle : E.Le (E.addArr b w.heap.size ⟨n, 0, 0, undef⟩) := Env.addArr_le (h.dom b hb)
  refine ⟨hE.addArr (h.dom b hb) _ ⟨n, 0, 0, undef⟩, h.step hle (e := ⟨dst, .sb b n, [], b, [[.arr zv.size (List.replicate n z)]]⟩) (.sb b n _ n (by simp [Env.addArr]) (by simp [Env.addArr]) (Nat.le_refl _) (by simp [Env.addArr]) (by simp [Env.addArr])) (fun x j => ?_) (fun x hx => ?_)⟩
  · rw [apply_new_cell]
    by_cases hx : x = b
    · subst hx
      simp only [if_true]
      cases j with
      | zero =>
        refine ⟨rfl, by simp [Env.addArr], by simp [Env.addArr], w.heap.size, by simp [Env.addArr], by simp, fun row hrow => ?_, fun i row j c hi hj => ?_⟩
        · rw [(List.mem_replicate.1 hrow).2, hl]
        · rw [List.getElem?_replicate] at hi
          split at hi
          · rename_i hin
            injection hi with hi
            subst hi
            have hjl : j < z.length := (List.getElem?_eq_some_iff.1 hj).1
            have hjz : j < zv.size := by rw [hl]; exact hjl
            obtain ⟨w1, w2⟩ := hz j c zv[j] hj (Array.getElem?_eq_getElem hjz)
            refine ⟨zv[j], ?_, by simp, w2, w1⟩
            rw [World.cell?_alloc_new]
            have hlt : i * zv.size + j < n * zv.size := by
              have : (i + 1) * zv.size ≤ n * zv.size := Nat.mul_le_mul_right _ hin
              rw [Nat.add_mul, Nat.one_mul] at this
              omega
            have hm : (i * zv.size + j) % zv.size = j := by rw [Nat.mul_comm, Nat.mul_add_mod, Nat.mod_eq_of_lt hjz]
            simp only [madeCells, Array.getElem?_map, Array.getElem?_range, hlt, if_true, Option.map_some, hm, getElem!_pos zv j hjz]
          · cases hi
      | succ j => simp [List.getD, CellOk]
    · simp only [hx, if_false]
      exact h.old_allocA hE hb _ ⟨n, 0, 0, undef⟩ hx j
  · rw [apply_new_dom, Bool.or_eq_false_iff] at hx
    have : x ≠ b := by simpa using hx.2
    simp [Env.addArr, this, h.dom x hx.1]

theorem SOk.arrG {Γ : Ctx} {E : Env} {S : FSt} {a : Act} {w : World} (h : SOk E S a w) (hE : EOk Γ E w) {b : Nat} (hb : S.dom b = false) {vs : Array Value} {s n cap : Nat} {rows : List (List AV)} (hn : rows.length = n)
    (hl : ∀ row ∈ rows, row.length = s) (hz : ∀ (i : Nat) row (j : Nat) c, rows[i]? = some row → row[j]? = some c → ∃ v, vs[i * s + j]? = some v ∧ VI E.F c v ∧ v.oneCell' = true) (hcap : n ≤ cap) (dst : Option Nat) (t : TypeId) :
    EOk Γ (E.addArr b w.heap.size ⟨n, 0, 0, undef⟩) (w.alloc (.cells vs t)) ∧
      SOk (E.addArr b w.heap.size ⟨n, 0, 0, undef⟩) (S.apply ⟨dst, .sb b n, [], b, [[.arr s rows]]⟩) (a.put dst (.slice (some ⟨w.heap.size, 0, none⟩) n cap)) (w.alloc (.cells vs t)) := by
  have hle : E.Le (E.addArr b w.heap.size ⟨n, 0, 0, undef⟩) := Env.addArr_le (h.dom b hb)
  refine ⟨hE.addArr (h.dom b hb) _ ⟨n, 0, 0, undef⟩, h.step hle (e := ⟨dst, .sb b n, [], b, [[.arr s rows]]⟩) (.sb b n _ cap (by simp [Env.addArr]) (by simp [Env.addArr]) hcap (by simp [Env.addArr]) (by simp [Env.addArr])) (fun x j => ?_) (fun x hx => ?_)⟩
  · rw [apply_new_cell]
    by_cases hx : x = b
    · subst hx
      simp only [if_true]
      cases j with
      | zero =>
        refine ⟨rfl, by simp [Env.addArr], by simp [Env.addArr, hn], w.heap.size, by simp [Env.addArr], by simp, fun row hrow => hl row hrow, fun i row j c hi hj => ?_⟩
        obtain ⟨v, w1, w2, w3⟩ := hz i row j c hi hj
        refine ⟨v, ?_, by simp, w3, w2⟩
        rw [World.cell?_alloc_new]
        exact w1
      | succ j => simp [List.getD, CellOk]
    · simp only [hx, if_false]
      exact h.old_allocA hE hb _ ⟨n, 0, 0, undef⟩ hx j
  · rw [apply_new_dom, Bool.or_eq_false_iff] at hx
    have : x ≠ b := by simpa using hx.2
    simp [Env.addArr, this, h.dom x hx.1]

/-- The same; the row is all the block, and its slice is known. -/
theorem SOk.arrW {Γ : Ctx} {E : Env} {S : FSt} {a : Act} {w : World} (h : SOk E S a w) (hE : EOk Γ E w) {b : Nat} (hb : S.dom b = false) {vs : Array Value} {s n cap : Nat} {rows : List (List AV)} (hn : rows.length = n)
    (hl : ∀ row ∈ rows, row.length = s) (hz : ∀ (i : Nat) row (j : Nat) c, rows[i]? = some row → row[j]? = some c → ∃ v, vs[i * s + j]? = some v ∧ VI E.F c v ∧ v.oneCell' = true) (hcap : n ≤ cap) (hs0 : 0 < s) (hmx : cap ≤ maxLen) (hvs : vs.size = cap * s) (dst : Option Nat) (t : TypeId) :
    EOk Γ (E.addArr b w.heap.size ⟨n, t, s, .slice (some ⟨w.heap.size, 0, none⟩) n cap⟩) (w.alloc (.cells vs t)) ∧
      SOk (E.addArr b w.heap.size ⟨n, t, s, .slice (some ⟨w.heap.size, 0, none⟩) n cap⟩) (S.apply ⟨dst, .sb b n, [], b, [[.aw t s rows]]⟩) (a.put dst (.slice (some ⟨w.heap.size, 0, none⟩) n cap)) (w.alloc (.cells vs t)) := by
  have hheap : (w.alloc (.cells vs t)).heap[w.heap.size]? = some (.cells vs t (0, 0)) := by unfold World.alloc; simp
  have hle : E.Le (E.addArr b w.heap.size ⟨n, t, s, .slice (some ⟨w.heap.size, 0, none⟩) n cap⟩) := Env.addArr_le (h.dom b hb)
  refine ⟨hE.addArr (h.dom b hb) _ ⟨n, t, s, .slice (some ⟨w.heap.size, 0, none⟩) n cap⟩, h.step hle (e := ⟨dst, .sb b n, [], b, [[.aw t s rows]]⟩) (.sb b n _ cap (by simp [Env.addArr]) (by simp [Env.addArr]) hcap (by simp [Env.addArr]) (by simp [Env.addArr])) (fun x j => ?_) (fun x hx => ?_)⟩
  · rw [apply_new_cell]
    by_cases hx : x = b
    · subst hx
      simp only [if_true]
      cases j with
      | zero =>
        refine ⟨rfl, by simp [Env.addArr], by simp [Env.addArr, hn], by simp [Env.addArr], by simp [Env.addArr], w.heap.size, by simp [Env.addArr], by simp, ⟨fun row hrow => hl row hrow, fun i row j c hi hj => ?_⟩, by simpa [Env.addArr] using hs0, cap, vs, by simp [Env.addArr], by simp only [Env.addArr, if_true]; exact hheap, by simpa [Env.addArr] using hcap, hmx, by simpa [Env.addArr] using hvs⟩
        obtain ⟨v, w1, w2, w3⟩ := hz i row j c hi hj
        refine ⟨v, ?_, by simp, w3, w2⟩
        rw [World.cell?_alloc_new]
        exact w1
      | succ j => simp [List.getD, CellOk]
    · simp only [hx, if_false]
      exact h.old_allocA hE hb _ ⟨n, t, s, .slice (some ⟨w.heap.size, 0, none⟩) n cap⟩ hx j
  · rw [apply_new_dom, Bool.or_eq_false_iff] at hx
    have : x ≠ b := by simpa using hx.2
    simp [Env.addArr, this, h.dom x hx.1]

theorem apply_one_cell (S : FSt) (dst : Option Nat) (v : AV) (b n x j : Nat) (c : AV) : (S.apply ⟨dst, v, [(b, 0, c)], n, []⟩).cell x j = if x = b ∧ j = 0 then c else S.cell x j := by
  simp [FSt.apply, Eff.new_nil, wrs, upd]

theorem SOk.estore {Γ : Ctx} {E : Env} {S : FSt} {a : Act} {w : World} (h : SOk E S a w) (hE : EOk Γ E w) {b g s i : Nat} {rows : List (List AV)} (hk : E.kd b = 3) (hg : E.bk b = some g) (hcur : S.cell b 0 = .arr s rows)
    (hi0 : i < (E.tk b).n) {cs : List AV} {vs : List Value} (hl : vs.length = s) (hcl : cs.length = s) (hv : ∀ (j : Nat) c v, cs[j]? = some c → vs[j]? = some v → VI E.F c v ∧ v.oneCell' = true) (dst : Option Nat) (n : Nat) :
    (∀ j, j < s → (∃ v, w.cell? ⟨g, i * s + j, none⟩ = some v) ∧ w.frozen? ⟨g, i * s + j, none⟩ = false) ∧
    EOk Γ E (w.setCells g (i * s) vs) ∧ SOk E (S.apply ⟨dst, .und, [(b, 0, .arr s (rows.set i cs))], n, []⟩) (a.put dst undef) (w.setCells g (i * s) vs) := by
  obtain ⟨f1, f2, f3, f4⟩ := setCells_frame g vs (i * s) w
  have hblk := fun x hx => heap_setCells g vs (i * s) w x hx
  have hc0 := h.cell b 0
  rw [hcur] at hc0
  obtain ⟨_, _, hln, g', hg', hlt, hfull, hrows⟩ := hc0
  rw [hg] at hg'; injection hg' with hg'; subst hg'
  have hi : i < rows.length := by rw [hln]; exact hi0
  have hold : ∀ i' j, i' < rows.length → j < s → ∃ v, w.cell? ⟨g, i' * s + j, none⟩ = some v ∧ w.frozen? ⟨g, i' * s + j, none⟩ = false := fun i' j hi' hj => by
    have hr : rows[i']? = some rows[i'] := List.getElem?_eq_getElem hi'
    have hrl := hfull _ (List.getElem_mem hi')
    obtain ⟨v, h1, h2, _⟩ := hrows i' _ j _ hr (List.getElem?_eq_getElem (by omega))
    exact ⟨v, h1, h2⟩
  refine ⟨fun j hj => let ⟨v, h1, h2⟩ := hold i j hi hj; ⟨⟨v, h1⟩, h2⟩, hE.turnA hk hg f1 f2 f3 f4 hblk, h.step (Env.Le.refl E) (e := ⟨dst, .und, [(b, 0, .arr s (rows.set i cs))], n, []⟩) .und (fun x j => ?_) (fun x hx => ?_)⟩
  · rw [apply_one_cell]
    by_cases hx : x = b ∧ j = 0
    · rw [if_pos hx]
      obtain ⟨rfl, rfl⟩ := hx
      refine ⟨rfl, hk, by rw [List.length_set]; exact hln, g, hg, by rw [f4]; exact hlt, fun row hrow => ?_, fun i' row j c hi' hj => ?_⟩
      · rcases List.mem_or_eq_of_mem_set hrow with hrow | rfl
        · exact hfull row hrow
        · exact hcl
      · have hi2 : i' < rows.length := by have := (List.getElem?_eq_some_iff.1 hi').1; simpa using this
        rw [List.getElem?_set] at hi'
        by_cases e : i = i'
        · subst e
          rw [if_pos rfl, if_pos hi] at hi'
          injection hi' with hi'
          subst hi'
          have hjl : j < s := by have := (List.getElem?_eq_some_iff.1 hj).1; omega
          have hjv : j < vs.length := by omega
          obtain ⟨w1, w2⟩ := hv j c vs[j] hj (List.getElem?_eq_getElem hjv)
          refine ⟨vs[j], ?_, ?_, w2, w1⟩
          · have := World.cell?_setCells_in g vs (i * s) w (fun k hk' => by obtain ⟨u, hu, _⟩ := hold i k hi (by omega); rw [hu]; rfl) j hjv
            rw [this]
          · rw [World.frozen?_setCells]; exact (hold i j hi hjl).choose_spec.2
        · rw [if_neg e] at hi'
          obtain ⟨v, h1, h2, h3, h4⟩ := hrows i' row j c hi' hj
          have hjl : j < s := by have := (List.getElem?_eq_some_iff.1 hj).1; rw [hfull row (List.mem_of_getElem? hi')] at this; exact this
          refine ⟨v, ?_, by rw [World.frozen?_setCells]; exact h2, h3, h4⟩
          rw [World.cell?_setCells_out g vs (i * s) w ⟨g, i' * s + j, none⟩ (fun _ _ => by
            simp only
            rw [hl]
            rcases Nat.lt_or_gt_of_ne e with e | e
            · right
              have : (i + 1) * s ≤ i' * s := Nat.mul_le_mul_right _ e
              rw [Nat.add_mul, Nat.one_mul] at this
              omega
            · left
              have : (i' + 1) * s ≤ i * s := Nat.mul_le_mul_right _ e
              rw [Nat.add_mul, Nat.one_mul] at this
              omega)]
          exact h1
    · rw [if_neg hx]
      by_cases hb : x = b
      · subst hb
        have hj0 : j ≠ 0 := fun e => hx ⟨rfl, e⟩
        have hh := h.cell x j
        by_cases hp : (S.cell x j).plain = true
        · rw [CellOk.plain hp] at hh
          exact absurd hh.1 (by rw [hk]; decide)
        · cases hcell : S.cell x j <;> rw [hcell] at hp hh <;> simp [AV.plain] at hp
          case non => trivial
          case tok m => exact absurd hh.1 hj0
          case mps f => exact absurd hh.1 hj0
          case mpi f => exact hh.elim
          case arr s rows => exact absurd hh.1 hj0
          case aw e s rows => exact absurd hh.1 hj0
      · exact h.turn_otherA hE hk hg hblk hb j
  · rw [apply_pure_dom] at hx
    exact h.dom x hx

/-- A store into one cell of an element. -/
theorem SOk.fstore {Γ : Ctx} {E : Env} {S : FSt} {a : Act} {w : World} (h : SOk E S a w) (hE : EOk Γ E w) {b g e s i o : Nat} {rows : List (List AV)} (hk : E.kd b = 3) (hg : E.bk b = some g) (hcur : S.cell b 0 = .aw e s rows)
    (hi0 : i < (E.tk b).n) (ho : o < s) {c0 : AV} {v0 : Value} (hv : VI E.F c0 v0 ∧ v0.oneCell' = true) (dst : Option Nat) (n : Nat) (row0 : List AV) (hrow0 : ∀ row', rows[i]? = some row' → row' = row0) :
    ((∃ v, w.cell? ⟨g, i * s + o, none⟩ = some v) ∧ w.frozen? ⟨g, i * s + o, none⟩ = false) ∧
    EOk Γ E (w.setCells g (i * s + o) [v0]) ∧ SOk E (S.apply ⟨dst, .und, [(b, 0, .aw e s (rows.set i (row0.set o c0)))], n, []⟩) (a.put dst undef) (w.setCells g (i * s + o) [v0]) := by
  obtain ⟨f1, f2, f3, f4⟩ := setCells_frame g [v0] (i * s + o) w
  have hblk := fun x hx => heap_setCells g [v0] (i * s + o) w x hx
  have hc0 := h.cell b 0
  rw [hcur] at hc0
  obtain ⟨_, _, hln, he, hs, g', hg', hlt, ⟨hfull, hrows⟩, hshp⟩ := hc0
  rw [hg] at hg'; injection hg' with hg'; subst hg'
  have hi : i < rows.length := by rw [hln]; exact hi0
  have hold : ∀ i' j, i' < rows.length → j < s → ∃ v, w.cell? ⟨g, i' * s + j, none⟩ = some v ∧ w.frozen? ⟨g, i' * s + j, none⟩ = false := fun i' j hi' hj => by
    have hr : rows[i']? = some rows[i'] := List.getElem?_eq_getElem hi'
    have hrl := hfull _ (List.getElem_mem hi')
    obtain ⟨v, h1, h2, _⟩ := hrows i' _ j _ hr (List.getElem?_eq_getElem (by omega))
    exact ⟨v, h1, h2⟩
  have hri : rows[i]? = some row0 := by
    have hr : rows[i]? = some rows[i] := List.getElem?_eq_getElem hi
    rw [hr, hrow0 _ hr]
  have hrl0 : row0.length = s := hfull _ (List.mem_of_getElem? hri)
  refine ⟨let ⟨v, h1, h2⟩ := hold i o hi ho; ⟨⟨v, h1⟩, h2⟩, hE.turnA hk hg f1 f2 f3 f4 hblk, h.step (Env.Le.refl E) (e := ⟨dst, .und, [(b, 0, .aw e s (rows.set i (row0.set o c0)))], n, []⟩) .und (fun x j => ?_) (fun x hx => ?_)⟩
  · rw [apply_one_cell]
    by_cases hx : x = b ∧ j = 0
    · rw [if_pos hx]
      obtain ⟨rfl, rfl⟩ := hx
      have hsh : Shp (E.tk x) (w.setCells g (i * s + o) [v0]) g := by
        obtain ⟨q0, cap, cur, q1, q2, q3, q4, q5⟩ := hshp
        refine ⟨q0, cap, cur.setIfInBounds (i * s + o) v0, q1, ?_, q3, q4, by simpa using q5⟩
        simp [World.setCells, World.setCell, Array.getElem?_modify, q2]
      refine ⟨rfl, hk, by rw [List.length_set]; exact hln, he, hs, g, hg, by rw [f4]; exact hlt, ⟨fun row hrow => ?_, fun i' row j c hi' hj => ?_⟩, hsh⟩
      · rcases List.mem_or_eq_of_mem_set hrow with hrow | rfl
        · exact hfull row hrow
        · rw [List.length_set]; exact hrl0
      · have hi2 : i' < rows.length := by have := (List.getElem?_eq_some_iff.1 hi').1; simpa using this
        rw [List.getElem?_set] at hi'
        have out : ∀ i' row j c, rows[i']? = some row → row[j]? = some c → ¬ (i' = i ∧ j = o) → ∃ v, (w.setCells g (i * s + o) [v0]).cell? ⟨g, i' * s + j, none⟩ = some v ∧ (w.setCells g (i * s + o) [v0]).frozen? ⟨g, i' * s + j, none⟩ = false ∧ v.oneCell' = true ∧ VI E.F c v := fun i' row j c hi' hj hne => by
          obtain ⟨v, h1, h2, h3, h4⟩ := hrows i' row j c hi' hj
          have hjl : j < s := by have := (List.getElem?_eq_some_iff.1 hj).1; rw [hfull row (List.mem_of_getElem? hi')] at this; exact this
          refine ⟨v, ?_, by rw [World.frozen?_setCells]; exact h2, h3, h4⟩
          rw [World.cell?_setCells_out g [v0] (i * s + o) w ⟨g, i' * s + j, none⟩ (fun _ _ => by
            simp only [List.length_cons, List.length_nil]
            rcases Nat.lt_trichotomy i i' with e1 | e1 | e1
            · right
              have : (i + 1) * s ≤ i' * s := Nat.mul_le_mul_right _ e1
              rw [Nat.add_mul, Nat.one_mul] at this
              omega
            · subst e1
              have : j ≠ o := fun e2 => hne ⟨rfl, e2⟩
              omega
            · left
              have : (i' + 1) * s ≤ i * s := Nat.mul_le_mul_right _ e1
              rw [Nat.add_mul, Nat.one_mul] at this
              omega)]
          exact h1
        by_cases e1 : i = i'
        · subst e1
          rw [if_pos rfl, if_pos hi] at hi'
          injection hi' with hi'
          subst hi'
          by_cases e2 : o = j
          · subst e2
            rw [List.getElem?_set, if_pos rfl, if_pos (by omega)] at hj
            injection hj with hj
            subst hj
            refine ⟨v0, ?_, ?_, hv.2, hv.1⟩
            · have := World.cell?_setCells_in g [v0] (i * s + o) w (fun k hk' => by
                have : k = 0 := by simpa using hk'
                subst this
                obtain ⟨u, hu, _⟩ := hold i o hi ho; rw [Nat.add_zero, hu]; rfl) 0 (by simp)
              simpa using this
            · rw [World.frozen?_setCells]; exact (hold i o hi ho).choose_spec.2
          · rw [List.getElem?_set, if_neg e2] at hj
            exact out i row0 j c hri hj (fun h => e2 h.2.symm)
        · rw [if_neg e1] at hi'
          exact out i' row j c hi' hj (fun h => e1 h.1.symm)
    · rw [if_neg hx]
      by_cases hb : x = b
      · subst hb
        have hj0 : j ≠ 0 := fun e => hx ⟨rfl, e⟩
        have hh := h.cell x j
        by_cases hp : (S.cell x j).plain = true
        · rw [CellOk.plain hp] at hh
          exact absurd hh.1 (by rw [hk]; decide)
        · cases hcell : S.cell x j <;> rw [hcell] at hp hh <;> simp [AV.plain] at hp
          case non => trivial
          case tok m => exact absurd hh.1 hj0
          case mps f => exact absurd hh.1 hj0
          case mpi f => exact hh.elim
          case arr s rows => exact absurd hh.1 hj0
          case aw e s rows => exact absurd hh.1 hj0
      · exact h.turn_otherA hE hk hg hblk hb j
  · rw [apply_pure_dom] at hx
    exact h.dom x hx

end Go.Ab
end

section
namespace Go.Ab
open Go Go.RowKit
set_option linter.unusedVariables false
set_option linter.unusedSimpArgs false

/-- A slice value whose elements are known and immutable. -/
def Src (E : Env) (s : Nat) (rows : List (List AV)) (x : Value) : Prop :=
  ∃ a cap, ∃ g : Nat → Nat → Value, x = .slice a rows.length cap ∧ (0 < rows.length → a.isSome = true) ∧
    (∀ (i : Nat) row (j : Nat) c ad, rows[i]? = some row → row[j]? = some c → a = some ad → E.F (ad.add (i * s + j)) (g i j)) ∧
    (∀ (i : Nat) row (j : Nat) c, rows[i]? = some row → row[j]? = some c → VI E.F c (g i j)) ∧ rows.length ≤ cap

theorem Src.of_sl {E : Env} {s : Nat} {rows : List (List AV)} {x : Value} (h : VR E (.sl s rows) x) : Src E s rows x := by
  cases h with
  | sl s rows a cap g h0 h1 h2 hc => exact ⟨a, cap, g, rfl, h0, h1, h2, hc⟩
theorem Src.of_ow {E : Env} {t e s : Nat} {rows : List (List AV)} {x : Value} (h : VR E (.ow t e s rows) x) : Src E s rows x := by
  cases h with
  | ow t e s rows a cap g h0 h1 h2 _ _ _ hc => exact ⟨a, cap, g, rfl, h0, h1, h2, hc⟩
theorem Src.of_emp {E : Env} {s : Nat} {x : Value} (h : VR E .emp x) : Src E s [] x := by
  cases h with
  | emp a => exact ⟨a, 0, fun _ _ => undef, rfl, by simp, by simp, by simp, by simp⟩
theorem Src.sl {E : Env} {s : Nat} {rows : List (List AV)} {x : Value} (h : Src E s rows x) : VR E (.sl s rows) x := by
  obtain ⟨a, cap, g, rfl, h0, h1, h2, hc⟩ := h
  exact .sl s rows a cap g h0 h1 h2 hc

/-- The cells of full rows, in one list. -/
def flat (s n : Nat) (g : Nat → Nat → Value) : List Value := (List.range (n * s)).map fun k => g (k / s) (k % s)

theorem flat_length (s n : Nat) (g : Nat → Nat → Value) : (flat s n g).length = n * s := by simp [flat]

theorem flat_get {s n : Nat} {g : Nat → Nat → Value} {k : Nat} (hk : k < n * s) : (flat s n g)[k]? = some (g (k / s) (k % s)) := by
  simp [flat, List.getElem?_map, List.getElem?_range hk]

theorem lt_of_row {s n i j : Nat} (hi : i < n) (hj : j < s) : i * s + j < n * s := by
  have : (i + 1) * s ≤ n * s := Nat.mul_le_mul_right s hi
  rw [Nat.add_mul, Nat.one_mul] at this
  omega

theorem flat_at {s n : Nat} {g : Nat → Nat → Value} {i j : Nat} (hi : i < n) (hj : j < s) : (flat s n g)[i * s + j]? = some (g i j) := by
  rw [flat_get (lt_of_row hi hj)]
  have h0 : 0 < s := by omega
  rw [Nat.mul_comm i s, Nat.mul_add_div h0, Nat.mul_add_mod, Nat.div_eq_of_lt hj, Nat.mod_eq_of_lt hj, Nat.add_zero]

theorem div_lt {s n k : Nat} (hk : k < n * s) : k / s < n := Nat.div_lt_of_lt_mul (by rw [Nat.mul_comm]; exact hk)
theorem mod_lt {s n k : Nat} (hk : k < n * s) : k % s < s := Nat.mod_lt _ (by
  rcases Nat.eq_zero_or_pos s with h | h
  · subst h; simp at hk
  · exact h)

def Full (s : Nat) (rows : List (List AV)) : Prop := ∀ row ∈ rows, row.length = s

theorem Full.cell {s : Nat} {rows : List (List AV)} (h : Full s rows) {i j : Nat} (hi : i < rows.length) (hj : j < s) : ∃ row c, rows[i]? = some row ∧ row[j]? = some c := by
  have h1 := h rows[i] (List.getElem_mem hi)
  exact ⟨rows[i], rows[i][j]'(by omega), List.getElem?_eq_getElem hi, List.getElem?_eq_getElem _⟩

section
variable {P : Program}

theorem run_append_zero (w : World) (t ty e : TypeId) (i : TypeInfo) (ht : P.underlying t = some (.slice e)) (hi : P.info? e = some i) (a b : Option Addr) (n c d : Nat) (hn : n ≤ c) :
    (Builtin.append_ #[t, t] ty #[.slice a n c, .slice b 0 d]).run P w = .ok (.slice a n c) w := by
  cases b with
  | none => cases a <;> simp [Builtin.append_, run_underlying ht, sizeOf, typeInfo, hi, Builtin.lenOf, Builtin.firstCells, hn, storeCells]
  | some b => cases a <;> simp [Builtin.append_, run_underlying ht, sizeOf, typeInfo, hi, Builtin.lenOf, Builtin.firstCells, loadCells, loadCellsFrom, hn, storeCells]

theorem run_append_fresh (w : World) (t ty e : TypeId) (i : TypeInfo) (z : Value) (ht : P.underlying t = some (.slice e)) (hi : P.info? e = some i) (hz : i.zero = some z)
    (b : Option Addr) (a : Addr) (n c : Nat) (news : List Value) (hl : news.length = n * i.size) (hnews : ∀ (j : Nat) v, news[j]? = some v → w.cell? (a.add j) = some v)
    (h0 : 0 < n) (h63 : (n : Int) ≤ 9223372036854775807) (h48 : n * i.bytes ≤ 281474976710656) :
    (Builtin.append_ #[t, t] ty #[.slice b 0 0, .slice (some a) n c]).run P w =
      .ok (.slice (some ⟨w.heap.size, 0, none⟩) n (grownCap w n 0 e)) (w.drew.alloc (.cells (news.toArray ++ Builtin.zeroCells z.cells (grownCap w n 0 e - n)) e)) := by
  cases b with
  | none => exact run_append_nil w t ty e i z ht hi hz a n c news hl hnews h0 h63 h48
  | some b =>
    have := run_append_grow w t ty e i z ht hi hz b 0 0 [] (by simp) (by simp) a n c news hl hnews (by omega) (by simpa using h63)
      (by rw [Nat.zero_add, nextslicecap_zero h0]; exact h48)
    simpa using this
end

/-- The environment behind an append: token t owns block g now; more immutable cells. -/
def Env.setTok (E : Env) (t : Nat) (g : Option Nat) (k : Tk) (F' : Addr → Value → Prop) : Env :=
  { F := fun a v => E.F a v ∨ F' a v, kd := fun x => if x = t then 2 else E.kd x, bk := fun x => if x = t then g else E.bk x, tk := fun x => if x = t then k else E.tk x, kp := E.kp }

theorem Env.setTok_le {E : Env} {t : Nat} {g : Option Nat} {k : Tk} {F' : Addr → Value → Prop} (h : E.kd t = 0 ∨ (E.kd t = 2 ∧ (E.tk t).n < k.n)) : E.Le (E.setTok t g k F') := by
  refine ⟨fun _ _ x => .inl x, fun x hx => ?_, fun x hx => ?_, fun x hx => ?_, fun _ _ x => x⟩
  · have : x ≠ t := fun e => by subst e; rcases h with h | h <;> omega
    simp [Env.setTok, this, hx]
  · by_cases e : x = t
    · subst e
      rcases h with h | h
      · omega
      · exact ⟨by simp [Env.setTok], .inr (by simpa [Env.setTok] using h.2)⟩
    · simp [Env.setTok, e, hx]
  · have : x ≠ t := fun e => by subst e; rcases h with h | h <;> omega
    simp [Env.setTok, this, hx]

/-- The new environment is right, wherever the world behind holds what it says. -/
theorem EOk.setTok {Γ : Ctx} {E : Env} {w w' : World} (h : EOk Γ E w) {t : Nat} {g : Option Nat} {k : Tk} {F' : Addr → Value → Prop} {row : Option Nat}
    (hk : E.kd t = 0 ∨ (E.kd t = 2 ∧ (E.tk t).n < k.n)) (hgrow : w.grownBy w' row)
    (hrow : ∀ r, row = some r → E.kd t = 2 ∧ E.bk t = some r)
    (hF : ∀ a v, E.F a v ∨ F' a v → w'.cell? a = some v ∧ v.oneCell' = true)
    (hF' : ∀ a v, F' a v → g = some a.block)
    (hg : ∀ x, g = some x → Γ.mine x ∧ (x = w.heap.size ∨ (E.kd t = 2 ∧ E.bk t = some x)))
    (htok : TOk Γ (E.setTok t g k F') w' t) : EOk Γ (E.setTok t g k F') w' where
  le := h.le.trans (Env.setTok_le hk)
  kpn := h.kpn
  os := hgrow.os.trans h.os
  tape := hgrow.tape.trans h.tape
  output := hgrow.output.trans h.output
  size := Nat.le_trans h.size hgrow.size
  old := fun x hx hX => by
    rw [hgrow.block x (Nat.lt_of_lt_of_le hx h.size) (fun e => by
      obtain ⟨h1, h2⟩ := hrow x e.symm
      rcases (h.lt (by rw [h1]; decide) h2).2 with h3 | h3
      · omega
      · exact hX h3)]
    exact h.old x hx hX
  F := hF
  box := fun b hb => by
    have e : b ≠ t := fun e => by subst e; simp [Env.setTok] at hb
    have hb' : E.kd b = 1 := by simpa [Env.setTok, e] using hb
    obtain ⟨x, h1, h2, h3, h4⟩ := h.box b hb'
    refine ⟨x, by simpa [Env.setTok, e] using h1, Nat.lt_of_lt_of_le h2 hgrow.size, h3, fun a v hav hblk => ?_⟩
    rcases hav with hav | hav
    · exact h4 a v hav hblk
    · have := hF' a v hav
      rw [hblk] at this
      rcases (hg x this).2 with h5 | ⟨h5, h6⟩
      · omega
      · exact e (h.inj b t x (by rw [hb']; decide) (by rw [h5]; decide) h1 h6)
  arb := fun b hb => by
    have e : b ≠ t := fun e => by subst e; simp [Env.setTok] at hb
    have hb' : E.kd b = 3 := by simpa [Env.setTok, e] using hb
    obtain ⟨x, h1, h2, h3, h4⟩ := h.arb b hb'
    refine ⟨x, by simpa [Env.setTok, e] using h1, Nat.lt_of_lt_of_le h2 hgrow.size, h3, fun a v hav hblk => ?_⟩
    rcases hav with hav | hav
    · exact h4 a v hav hblk
    · have := hF' a v hav
      rw [hblk] at this
      rcases (hg x this).2 with h5 | ⟨h5, h6⟩
      · omega
      · exact e (h.inj b t x (by rw [hb']; decide) (by rw [h5]; decide) h1 h6)
  new := fun x y hx hy => by
    by_cases e : x = t
    · subst e
      simp only [Env.setTok, if_true] at hy
      rcases (hg y hy).2 with h5 | ⟨h5, h6⟩
      · exact .inr (h5 ▸ h.size)
      · exact h.new x y (by rw [h5]; decide) h6
    · simp only [Env.setTok, e, if_false] at hx hy
      exact h.new x y hx hy
  tok := fun x hx => by
    by_cases e : x = t
    · subst e; exact htok
    · have hx' : E.kd x = 2 := by simpa [Env.setTok, e] using hx
      refine (h.tok x hx').keep (by simp [Env.setTok, e]) (by simp [Env.setTok, e]) (fun g' hg' hl => ?_) (fun g' a v hg' hav hblk => ?_)
      · refine hgrow.block g' hl (fun e' => ?_)
        obtain ⟨h1, h2⟩ := hrow g' e'.symm
        exact e (h.inj x t g' (by rw [hx']; decide) (by rw [h1]; decide) hg' h2)
      · rcases hav with hav | hav
        · exact hav
        · exfalso
          have := hF' a v hav
          rw [hblk] at this
          rcases (hg g' this).2 with h5 | ⟨h5, h6⟩
          · have := (h.lt (by rw [hx']; decide) hg').1; omega
          · exact e (h.inj x t g' (by rw [hx']; decide) (by rw [h5]; decide) hg' h6)
  hx := h.hx
  gl := Glob.mono (fun _ _ x => .inl x) h.gl
  gm := h.gm.keep (fun _ _ x => .inl x) (fun x hx hm => hgrow.block x hx (fun e => by
    obtain ⟨h1, h2⟩ := hrow x e.symm
    exact hm t (by rw [h1]; decide) h2)) (fun x y hx hy => by
    by_cases e : x = t
    · subst e
      simp only [Env.setTok, if_true] at hy
      rcases (hg y hy).2 with h5 | ⟨h5, h6⟩
      · exact .inr (Nat.le_of_eq h5.symm)
      · exact .inl ⟨x, by rw [h5]; decide, h6⟩
    · simp only [Env.setTok, e, if_false] at hx hy
      exact .inl ⟨x, hx, hy⟩)
  fnew := fun a v hx => by
    rcases hx with hx | hx
    · exact h.fnew a v hx
    · exact .inr (hg _ (hF' a v hx)).1
  kd3 := fun x => by
    by_cases e : x = t
    · exact .inr (.inr (.inl (by simp [Env.setTok, e])))
    · simp only [Env.setTok, e, if_false]; exact h.kd3 x
  inj := fun x y z hx hy hgx hgy => by
    have key : ∀ u, u ≠ t → E.kd u ≠ 0 → E.bk u = some z → g = some z → False := fun u hu hku hbu hgz => by
      rcases (hg z hgz).2 with h5 | ⟨h5, h6⟩
      · have := (h.lt hku hbu).1; omega
      · exact hu (h.inj u t z hku (by rw [h5]; decide) hbu h6)
    by_cases ex : x = t <;> by_cases ey : y = t
    · rw [ex, ey]
    · exfalso
      simp only [Env.setTok, ex, ey, if_true, if_false] at hx hy hgx hgy
      exact key y ey hy hgy hgx
    · exfalso
      simp only [Env.setTok, ex, ey, if_true, if_false] at hx hy hgx hgy
      exact key x ex hx hgx hgy
    · simp only [Env.setTok, ex, ey, if_false] at hx hy hgx hgy
      exact h.inj x y z hx hy hgx hgy

/-- The cells of the other blocks behind it. -/
theorem SOk.setTok_other {Γ : Ctx} {E : Env} {S : FSt} {a : Act} {w w' : World} (h : SOk E S a w) (hE : EOk Γ E w) {t : Nat} {g : Option Nat} {k : Tk} {F' : Addr → Value → Prop} {row : Option Nat}
    (hk : E.kd t = 0 ∨ (E.kd t = 2 ∧ (E.tk t).n < k.n)) (hgrow : w.grownBy w' row) (hrow : ∀ r, row = some r → E.kd t = 2 ∧ E.bk t = some r) {x : Nat} (hx : x ≠ t) (j : Nat) :
    CellOk (E.setTok t g k F') w' x j (S.cell x j) :=
  (h.cell x j).keep (Env.setTok_le hk) (fun g' hk' hg' hl => hgrow.block g' hl (fun e => by
    obtain ⟨h1, h2⟩ := hrow g' e.symm
    exact hx (hE.inj x t g' (by rcases hk' with h | h <;> rw [h] <;> decide) (by rw [h1]; decide) hg' h2))) (fun _ => by simp [Env.setTok, hx])

theorem grownBy_drew {w w' : World} {row : Option Nat} (h : w.drew.grownBy w' row) : w.grownBy w' row := ⟨h.os, h.tape, h.output, h.size, h.block⟩

/-- A fresh token: from a world that holds its cells in a new block (or has no elements and no block). -/
theorem SOk.newTok {Γ : Ctx} {E : Env} {S : FSt} {a : Act} {w w' : World} (h : SOk E S a w) (hE : EOk Γ E w) {t : Nat} (ht : S.dom t = false) (dst : Option Nat) (e s : Nat) {rows : List (List AV)} (hs : 0 < s) (hfull : Full s rows)
    {g : Nat → Nat → Value} (hone : ∀ (i j : Nat), i < rows.length → j < s → (g i j).oneCell' = true) (hv : ∀ (i : Nat) row (j : Nat) c, rows[i]? = some row → row[j]? = some c → VI E.F c (g i j))
    {cap : Nat} (hcap : rows.length ≤ cap) (hgrow : w.grownBy w' none) (hsize : w.heap.size < w'.heap.size)
    (hown : w'.ownsRow 0 e s (.slice (some ⟨w.heap.size, 0, none⟩) rows.length cap) rows.length (flat s rows.length g)) (hcell : ∀ k, k < rows.length * s → w'.cell? ⟨w.heap.size, k, none⟩ = (flat s rows.length g)[k]?) :
    Rel Γ (S.apply ⟨dst, .ow t e s rows, [], t, [[.tok rows.length]]⟩) (a.put dst (.slice (some ⟨w.heap.size, 0, none⟩) rows.length cap)) w' := by
  have hk0 : E.kd t = 0 := h.dom t ht
  let F' : Addr → Value → Prop := fun x v => ∃ i j, i < rows.length ∧ j < s ∧ x = ⟨w.heap.size, i * s + j, none⟩ ∧ v = g i j
  let E' := E.setTok t (some w.heap.size) ⟨rows.length, e, s, .slice (some ⟨w.heap.size, 0, none⟩) rows.length cap⟩ F'
  have hle : E.Le E' := Env.setTok_le (.inl hk0)
  have hFc : ∀ x v, E.F x v ∨ F' x v → w'.cell? x = some v ∧ v.oneCell' = true := fun x v hx => by
    rcases hx with hx | ⟨i, j, hi, hj, rfl, rfl⟩
    · refine ⟨?_, (hE.F x v hx).2⟩
      have h1 := (hE.F x v hx).1
      rw [World.cell?_of_block (hgrow.block x.block (World.block_lt_of_cell? w x h1) (by simp))]
      exact h1
    · exact ⟨by rw [hcell _ (lt_of_row hi hj), flat_at hi hj], hone i j hi hj⟩
  have htok : TOk Γ E' w' t := by
    refine .inr ⟨w.heap.size, cap, flat s rows.length g, by simp [E', Env.setTok], by simp [E', Env.setTok], by simpa [E', Env.setTok] using hown, fun x v hx hb => ?_, .inl hE.size⟩
    simp only [E', Env.setTok, if_true]
    rcases hx with hx | ⟨i, j, hi, hj, rfl, rfl⟩
    · have := World.block_lt_of_cell? w x (hE.F x v hx).1; omega
    · exact lt_of_row hi hj
  refine ⟨E', hE.setTok (.inl hk0) hgrow (by simp) hFc (fun x v hx => by obtain ⟨i, j, _, _, rfl, _⟩ := hx; rfl) (fun x hx => by injection hx with hx; subst hx; exact ⟨.inl hE.size, .inl rfl⟩) htok, ?_⟩
  refine h.step hle (e := ⟨dst, .ow t e s rows, [], t, [[.tok rows.length]]⟩) ?_ (fun x j => ?_) (fun x hx => ?_)
  · refine .ow t e s rows _ cap g (by simp) (fun i row j c ad hi hj had => ?_) (fun i row j c hi hj => (hv i row j c hi hj).mono hle.F) (by simp [E', Env.setTok]) (by simp [E', Env.setTok]) (fun _ => by simp [E', Env.setTok]) hcap
    injection had with had
    subst had
    rw [add_lit, Nat.zero_add]
    have h1 : i < rows.length := (List.getElem?_eq_some_iff.1 hi).1
    have h2 : j < s := by rw [← hfull row (List.mem_of_getElem? hi)]; exact (List.getElem?_eq_some_iff.1 hj).1
    exact .inr ⟨i, j, h1, h2, rfl, rfl⟩
  · rw [apply_new_cell]
    by_cases hx : x = t
    · subst hx
      simp only [if_true]
      cases j with
      | zero => exact ⟨rfl, by simp [E', Env.setTok], by simp [E', Env.setTok]⟩
      | succ j => simp [List.getD, CellOk]
    · simp only [hx, if_false]
      exact h.setTok_other hE (.inl hk0) hgrow (by simp) hx j
  · rw [apply_new_dom, Bool.or_eq_false_iff] at hx
    have : x ≠ t := by simpa using hx.2
    simp [E', Env.setTok, this, h.dom x hx.1]

/-- A token without elements: whatever empty slice of no capacity. -/
theorem SOk.noTok {Γ : Ctx} {E : Env} {S : FSt} {a : Act} {w : World} (h : SOk E S a w) (hE : EOk Γ E w) {t : Nat} (ht : S.dom t = false) (dst : Option Nat) (e s : Nat) (b : Option Addr) :
    Rel Γ (S.apply ⟨dst, .ow t e s [], [], t, [[.tok 0]]⟩) (a.put dst (.slice b 0 0)) w := by
  have hk0 : E.kd t = 0 := h.dom t ht
  let E' := E.setTok t none ⟨0, e, s, .slice b 0 0⟩ fun _ _ => False
  have hle : E.Le E' := Env.setTok_le (.inl hk0)
  have hgrow : w.grownBy w none := ⟨rfl, rfl, rfl, Nat.le_refl _, fun _ _ _ => rfl⟩
  refine ⟨E', hE.setTok (.inl hk0) hgrow (by simp) (fun x v hx => hE.F x v (hx.resolve_right id)) (fun x v hx => hx.elim) (by simp) (.inl ⟨by simp [E', Env.setTok], by simp [E', Env.setTok], b, by simp [E', Env.setTok]⟩), ?_⟩
  refine h.step hle (e := ⟨dst, .ow t e s [], [], t, [[.tok 0]]⟩) ?_ (fun x j => ?_) (fun x hx => ?_)
  · exact .ow t e s [] b 0 (fun _ _ => undef) (by simp) (by simp) (by simp) (by simp [E', Env.setTok]) (by simp) (fun _ => by simp [E', Env.setTok]) (Nat.le_refl _)
  · rw [apply_new_cell]
    by_cases hx : x = t
    · subst hx
      simp only [if_true]
      cases j with
      | zero => exact ⟨rfl, by simp [E', Env.setTok], by simp [E', Env.setTok]⟩
      | succ j => simp [List.getD, CellOk]
    · simp only [hx, if_false]
      exact h.setTok_other hE (.inl hk0) hgrow (by simp) hx j
  · rw [apply_new_dom, Bool.or_eq_false_iff] at hx
    have : x ≠ t := by simpa using hx.2
    simp [E', Env.setTok, this, h.dom x hx.1]

/-- What an append of known elements onto an empty slice comes to: a fresh token. -/
theorem SOk.append_emp {P : Program} {Γ : Ctx} {E : Env} {S : FSt} {a : Act} {w : World} (h : SOk E S a w) (hE : EOk Γ E w) {t : Nat} (ht : S.dom t = false) (dst : Option Nat)
    {T ty e s bytes : Nat} {i : TypeInfo} {z : Value} (hT : P.underlying T = some (.slice e)) (hi : P.info? e = some i) (hz : i.zero = some z) (hsz : i.size = s) (hzs : z.cells.size = s) (hby : i.bytes = bytes) (hs : 0 < s)
    {rows : List (List AV)} (hfull : Full s rows) (hlen : rows.length ≤ 9223372036854775807) (hbytes : rows.length * bytes ≤ 140737488355328) {v x : Value} (hv : VR E .emp v) (hx : Src E s rows x) :
    ∃ v' w', (Builtin.append_ #[T, T] ty #[v, x]).run P w = .ok v' w' ∧ Rel Γ (S.apply ⟨dst, .ow t e s rows, [], t, [[.tok rows.length]]⟩) (a.put dst v') w' := by
  cases hv with
  | emp b =>
  obtain ⟨ax, cx, g, rfl, h0, h1, h2, _⟩ := hx
  rcases Nat.eq_zero_or_pos rows.length with hr | hr
  · have : rows = [] := List.eq_nil_of_length_eq_zero hr
    subst this
    exact ⟨_, _, run_append_zero w T ty e i hT hi b ax 0 0 cx (Nat.le_refl _), h.noTok hE ht dst e s b⟩
  · obtain ⟨ad, rfl⟩ := Option.isSome_iff_exists.1 (h0 hr)
    subst hsz; subst hby
    have hF : ∀ i' j', i' < rows.length → j' < i.size → E.F (ad.add (i' * i.size + j')) (g i' j') ∧ ∃ row c, rows[i']? = some row ∧ row[j']? = some c := fun i' j' hi' hj' => by
      obtain ⟨row, c, e1, e2⟩ := hfull.cell hi' hj'
      exact ⟨h1 i' row j' c ad e1 e2 rfl, row, c, e1, e2⟩
    have hnews : ∀ (k : Nat) u, (flat i.size rows.length g)[k]? = some u → w.cell? (ad.add k) = some u := fun k u hk => by
      have hlt : k < rows.length * i.size := by rw [← flat_length i.size rows.length g]; exact (List.getElem?_eq_some_iff.1 hk).1
      rw [flat_get hlt] at hk
      injection hk with hk
      subst hk
      have := (hE.F _ _ (hF (k / i.size) (k % i.size) (div_lt hlt) (mod_lt hlt)).1).1
      rwa [Nat.div_add_mod' k i.size] at this
    have hrun := run_append_fresh (P := P) w T ty e i z hT hi hz b ad rows.length cx (flat i.size rows.length g) (flat_length _ _ _) hnews hr (by omega) (by omega)
    refine ⟨_, _, hrun, ?_⟩
    have hcap : rows.length ≤ grownCap w rows.length 0 e ∧ grownCap w rows.length 0 e ≤ maxLen := by
      unfold grownCap Question.cut maxLen
      have : w.tape w.drawn (Question.appendCap rows.length 0 e) % (2 ^ 63 - rows.length) < 2 ^ 63 - rows.length := Nat.mod_lt _ (by omega)
      simp only
      omega
    refine h.newTok hE ht dst e i.size hs hfull (fun i' j' hi' hj' => (hE.F _ _ (hF i' j' hi' hj').1).2) h2 hcap.1 (grownBy_drew (World.grownBy_alloc w.drew _ none)) (by simp) ?_ (fun k hk => ?_)
    · refine ⟨flat_length _ _ _, .inr ⟨w.heap.size, _, _, rfl, Nat.zero_le _, heap_alloc_new w.drew _, hcap.1, hcap.2, ?_, ?_⟩⟩
      · simp only [Array.size_append, List.size_toArray, flat_length, Builtin.zeroCells, Array.size_map, Array.size_range, hzs]
        rw [← Nat.add_mul]
        congr 1
        omega
      · rw [Array.toList_append]
        rw [List.take_append_of_le_length (by simp [flat_length]), List.take_of_length_le (by simp [flat_length])]
    · have : w.heap.size = w.drew.heap.size := rfl
      rw [this, World.cell?_alloc_new, Array.getElem?_append_left (by simpa [flat_length] using hk)]
      simp

/-- The same as a made row, if there is an element. -/
theorem SOk.append_row {P : Program} {Γ : Ctx} {E : Env} {S : FSt} {a : Act} {w : World} (h : SOk E S a w) (hE : EOk Γ E w) {t : Nat} (ht : S.dom t = false) (dst : Option Nat)
    {T ty e s bytes : Nat} {i : TypeInfo} {z : Value} (hT : P.underlying T = some (.slice e)) (hi : P.info? e = some i) (hz : i.zero = some z) (hsz : i.size = s) (hzs : z.cells.size = s) (hby : i.bytes = bytes) (hs : 0 < s)
    {rows : List (List AV)} (hr : 0 < rows.length) (hfull : Full s rows) (hlen : rows.length ≤ 9223372036854775807) (hbytes : rows.length * bytes ≤ 140737488355328) {v x : Value} (hv : VR E .emp v) (hx : Src E s rows x) :
    ∃ v' w', (Builtin.append_ #[T, T] ty #[v, x]).run P w = .ok v' w' ∧ Rel Γ (S.apply ⟨dst, .sb t rows.length, [], t, [[.arr s rows]]⟩) (a.put dst v') w' := by
  cases hv with
  | emp b =>
  obtain ⟨ax, cx, g, rfl, h0, h1, h2, _⟩ := hx
  obtain ⟨ad, rfl⟩ := Option.isSome_iff_exists.1 (h0 hr)
  subst hsz; subst hby
  have hF : ∀ i' j', i' < rows.length → j' < i.size → E.F (ad.add (i' * i.size + j')) (g i' j') ∧ ∃ row c, rows[i']? = some row ∧ row[j']? = some c := fun i' j' hi' hj' => by
    obtain ⟨row, c, e1, e2⟩ := hfull.cell hi' hj'
    exact ⟨h1 i' row j' c ad e1 e2 rfl, row, c, e1, e2⟩
  have hnews : ∀ (k : Nat) u, (flat i.size rows.length g)[k]? = some u → w.cell? (ad.add k) = some u := fun k u hk => by
    have hlt : k < rows.length * i.size := by rw [← flat_length i.size rows.length g]; exact (List.getElem?_eq_some_iff.1 hk).1
    rw [flat_get hlt] at hk
    injection hk with hk
    subst hk
    have := (hE.F _ _ (hF (k / i.size) (k % i.size) (div_lt hlt) (mod_lt hlt)).1).1
    rwa [Nat.div_add_mod' k i.size] at this
  have hrun := run_append_fresh (P := P) w T ty e i z hT hi hz b ad rows.length cx (flat i.size rows.length g) (flat_length _ _ _) hnews hr (by omega) (by omega)
  refine ⟨_, _, hrun, ?_⟩
  have hcap : rows.length ≤ grownCap w rows.length 0 e := by
    unfold grownCap Question.cut
    have : w.tape w.drawn (Question.appendCap rows.length 0 e) % (2 ^ 63 - rows.length) < 2 ^ 63 - rows.length := Nat.mod_lt _ (by omega)
    simp only
    omega
  have hEd : EOk Γ E w.drew := ⟨hE.le, hE.os, hE.tape, hE.output, hE.size, hE.old, hE.F, hE.box, hE.tok, hE.fnew, hE.kd3, hE.arb, hE.new, hE.inj, hE.hx, hE.gl, ⟨hE.gm.map, hE.gm.tab, hE.gm.kp⟩, hE.kpn⟩
  have hSd : SOk E S a w.drew := ⟨h.size, h.defers, h.reg, h.cell, h.dom, h.gl⟩
  obtain ⟨r1, r2⟩ := hSd.arrG hEd ht (vs := (flat i.size rows.length g).toArray ++ Builtin.zeroCells z.cells (grownCap w rows.length 0 e - rows.length)) (s := i.size) (rows := rows) rfl hfull (fun i' row j' c hi' hj' => by
    have h1' : i' < rows.length := (List.getElem?_eq_some_iff.1 hi').1
    have h2' : j' < i.size := by rw [← hfull row (List.mem_of_getElem? hi')]; exact (List.getElem?_eq_some_iff.1 hj').1
    refine ⟨g i' j', ?_, h2 i' row j' c hi' hj', (hE.F _ _ (hF i' j' h1' h2').1).2⟩
    rw [Array.getElem?_append_left (by simpa [flat_length] using lt_of_row h1' h2')]
    simpa using flat_at (g := g) h1' h2') hcap dst e
  exact ⟨_, r1, r2⟩

/-- The same; the row is all the block. -/
theorem SOk.append_own {P : Program} {Γ : Ctx} {E : Env} {S : FSt} {a : Act} {w : World} (h : SOk E S a w) (hE : EOk Γ E w) {t : Nat} (ht : S.dom t = false) (dst : Option Nat)
    {T ty e s bytes : Nat} {i : TypeInfo} {z : Value} (hT : P.underlying T = some (.slice e)) (hi : P.info? e = some i) (hz : i.zero = some z) (hsz : i.size = s) (hzs : z.cells.size = s) (hby : i.bytes = bytes) (hs : 0 < s)
    {rows : List (List AV)} (hr : 0 < rows.length) (hfull : Full s rows) (hlen : rows.length ≤ 9223372036854775807) (hbytes : rows.length * bytes ≤ 140737488355328) {v x : Value} (hv : VR E .emp v) (hx : Src E s rows x) :
    ∃ v' w', (Builtin.append_ #[T, T] ty #[v, x]).run P w = .ok v' w' ∧ Rel Γ (S.apply ⟨dst, .sb t rows.length, [], t, [[.aw e s rows]]⟩) (a.put dst v') w' := by
  cases hv with
  | emp b =>
  obtain ⟨ax, cx, g, rfl, h0, h1, h2, _⟩ := hx
  obtain ⟨ad, rfl⟩ := Option.isSome_iff_exists.1 (h0 hr)
  subst hsz; subst hby
  have hF : ∀ i' j', i' < rows.length → j' < i.size → E.F (ad.add (i' * i.size + j')) (g i' j') ∧ ∃ row c, rows[i']? = some row ∧ row[j']? = some c := fun i' j' hi' hj' => by
    obtain ⟨row, c, e1, e2⟩ := hfull.cell hi' hj'
    exact ⟨h1 i' row j' c ad e1 e2 rfl, row, c, e1, e2⟩
  have hnews : ∀ (k : Nat) u, (flat i.size rows.length g)[k]? = some u → w.cell? (ad.add k) = some u := fun k u hk => by
    have hlt : k < rows.length * i.size := by rw [← flat_length i.size rows.length g]; exact (List.getElem?_eq_some_iff.1 hk).1
    rw [flat_get hlt] at hk
    injection hk with hk
    subst hk
    have := (hE.F _ _ (hF (k / i.size) (k % i.size) (div_lt hlt) (mod_lt hlt)).1).1
    rwa [Nat.div_add_mod' k i.size] at this
  have hrun := run_append_fresh (P := P) w T ty e i z hT hi hz b ad rows.length cx (flat i.size rows.length g) (flat_length _ _ _) hnews hr (by omega) (by omega)
  refine ⟨_, _, hrun, ?_⟩
  have hcap : rows.length ≤ grownCap w rows.length 0 e := by
    unfold grownCap Question.cut
    have : w.tape w.drawn (Question.appendCap rows.length 0 e) % (2 ^ 63 - rows.length) < 2 ^ 63 - rows.length := Nat.mod_lt _ (by omega)
    simp only
    omega
  have hEd : EOk Γ E w.drew := ⟨hE.le, hE.os, hE.tape, hE.output, hE.size, hE.old, hE.F, hE.box, hE.tok, hE.fnew, hE.kd3, hE.arb, hE.new, hE.inj, hE.hx, hE.gl, ⟨hE.gm.map, hE.gm.tab, hE.gm.kp⟩, hE.kpn⟩
  have hSd : SOk E S a w.drew := ⟨h.size, h.defers, h.reg, h.cell, h.dom, h.gl⟩
  obtain ⟨r1, r2⟩ := hSd.arrW hEd ht (vs := (flat i.size rows.length g).toArray ++ Builtin.zeroCells z.cells (grownCap w rows.length 0 e - rows.length)) (s := i.size) (rows := rows) rfl hfull (fun i' row j' c hi' hj' => by
    have h1' : i' < rows.length := (List.getElem?_eq_some_iff.1 hi').1
    have h2' : j' < i.size := by rw [← hfull row (List.mem_of_getElem? hi')]; exact (List.getElem?_eq_some_iff.1 hj').1
    refine ⟨g i' j', ?_, h2 i' row j' c hi' hj', (hE.F _ _ (hF i' j' h1' h2').1).2⟩
    rw [Array.getElem?_append_left (by simpa [flat_length] using lt_of_row h1' h2')]
    simpa using flat_at (g := g) h1' h2') hcap hs (grownCap_le_maxLen w _ 0 e (by unfold maxLen; omega)) (by
      simp only [Array.size_append, List.size_toArray, flat_length, size_zeroCells, hzs, ← Nat.add_mul]
      congr 1
      omega) dst e
  exact ⟨_, r1, r2⟩

theorem rows_append_get {rows more : List (List AV)} {i : Nat} {row : List AV} (h : (rows ++ more)[i]? = some row) : (i < rows.length ∧ rows[i]? = some row) ∨ (rows.length ≤ i ∧ more[i - rows.length]? = some row) := by
  rcases Nat.lt_or_ge i rows.length with hi | hi
  · rw [List.getElem?_append_left hi] at h; exact .inl ⟨hi, h⟩
  · rw [List.getElem?_append_right hi] at h; exact .inr ⟨hi, h⟩

theorem apply_tok_cell (S : FSt) (dst : Option Nat) (v : AV) (t n m x j : Nat) : (S.apply ⟨dst, v, [(t, 0, .tok m)], n, []⟩).cell x j = if x = t ∧ j = 0 then .tok m else S.cell x j := by
  simp [FSt.apply, Eff.new_nil, wrs, upd]

/-- What an append of known elements onto a token that is up to date comes to. -/
theorem SOk.append_tok {P : Program} {Γ : Ctx} {E : Env} {S : FSt} {a : Act} {w : World} (h : SOk E S a w) (hE : EOk Γ E w) {t : Nat} (dst : Option Nat) (nx : Nat)
    {T ty e s bytes : Nat} {i : TypeInfo} {z : Value} (hT : P.underlying T = some (.slice e)) (hi : P.info? e = some i) (hz : i.zero = some z) (hsz : i.size = s) (hzs : z.cells.size = s) (hby : i.bytes = bytes) (hs : 0 < s)
    {rows more : List (List AV)} (hfull0 : Full s rows) (hfull : Full s more) (hlen : rows.length + more.length ≤ 9223372036854775807) (hbytes : (rows.length + more.length) * bytes ≤ 140737488355328)
    {v x : Value} (hv : VR E (.ow t e s rows) v) (hcur : S.cell t 0 = .tok rows.length) (hx : Src E s more x) :
    ∃ v' w', (Builtin.append_ #[T, T] ty #[v, x]).run P w = .ok v' w' ∧ Rel Γ (S.apply ⟨dst, .ow t e s (rows ++ more), [(t, 0, .tok (rows.length + more.length))], nx, []⟩) (a.put dst v') w' := by
  obtain ⟨_, hkt, hnt⟩ : 0 = 0 ∧ E.kd t = 2 ∧ (E.tk t).n = rows.length := by have := h.cell t 0; rw [hcur] at this; exact this
  cases hv with
  | ow t e s rows a0 cap0 g0 h00 h01 h02 hk hn hv hc0 =>
  obtain ⟨he, hs', hvv⟩ := hv hnt.symm
  obtain ⟨ax, cx, g1, rfl, h10, h11, h12, _⟩ := hx
  rcases Nat.eq_zero_or_pos more.length with hr | hr
  · have : more = [] := List.eq_nil_of_length_eq_zero hr
    subst this
    refine ⟨_, _, run_append_zero w T ty e i hT hi a0 ax rows.length cap0 cx hc0, E, hE, ?_⟩
    refine h.step (Env.Le.refl E) (e := ⟨dst, .ow t e s (rows ++ []), [(t, 0, .tok (rows.length + 0))], nx, []⟩) ?_ (fun y j => ?_) (fun y hy => ?_)
    · rw [List.append_nil]; exact .ow t e s rows a0 cap0 g0 h00 h01 h02 hk hn (fun _ => ⟨he, hs', hvv⟩) hc0
    · rw [apply_tok_cell]
      split
      · rename_i hy; rw [hy.1, hy.2]; exact ⟨rfl, hk, hnt⟩
      · exact h.cell y j
    · rw [apply_pure_dom] at hy; exact h.dom y hy
  · obtain ⟨ad, rfl⟩ := Option.isSome_iff_exists.1 (h10 hr)
    subst hsz; subst hby
    -- what the source holds
    have hF1 : ∀ i' j', i' < more.length → j' < i.size → E.F (ad.add (i' * i.size + j')) (g1 i' j') := fun i' j' hi' hj' => by
      obtain ⟨row, c, e1, e2⟩ := hfull.cell hi' hj'
      exact h11 i' row j' c ad e1 e2 rfl
    have hnews : ∀ (k : Nat) u, (flat i.size more.length g1)[k]? = some u → w.cell? (ad.add k) = some u := fun k u hk => by
      have hlt : k < more.length * i.size := by rw [← flat_length i.size more.length g1]; exact (List.getElem?_eq_some_iff.1 hk).1
      rw [flat_get hlt] at hk
      injection hk with hk
      subst hk
      have := (hE.F _ _ (hF1 (k / i.size) (k % i.size) (div_lt hlt) (mod_lt hlt))).1
      rwa [Nat.div_add_mod' k i.size] at this
    have hone1 : ∀ u ∈ flat i.size more.length g1, u.oneCell' = true := fun u hu => by
      obtain ⟨k, hk⟩ := List.getElem?_of_mem hu
      have hlt : k < more.length * i.size := by rw [← flat_length i.size more.length g1]; exact (List.getElem?_eq_some_iff.1 hk).1
      rw [flat_get hlt] at hk
      injection hk with hk
      subst hk
      exact (hE.F _ _ (hF1 _ _ (div_lt hlt) (mod_lt hlt))).2
    -- the result's shape, one way for both: a value, a world, a block
    have main : ∀ (g' cap' : Nat) (w' : World) (row : Option Nat) (xs' : List Value), w.grownBy w' row → (∀ r, row = some r → E.kd t = 2 ∧ E.bk t = some r) →
        (Γ.mine g' ∧ (g' = w.heap.size ∨ (E.kd t = 2 ∧ E.bk t = some g'))) →
        w'.ownsRow 0 e i.size (.slice (some ⟨g', 0, none⟩) (rows.length + more.length) cap') (rows.length + more.length) xs' →
        (∀ i' j', i' < rows.length → j' < i.size → xs'[i' * i.size + j']? = some (g0 i' j')) →
        (∀ i' j', i' < more.length → j' < i.size → xs'[rows.length * i.size + (i' * i.size + j')]? = some (g1 i' j')) →
        (∀ a v, E.F a v → w'.cell? a = some v) →
        (∀ a v, E.F a v → a.block = g' → a.off < rows.length * i.size) →
        Rel Γ (S.apply ⟨dst, .ow t e i.size (rows ++ more), [(t, 0, .tok (rows.length + more.length))], nx, []⟩) (a.put dst (.slice (some ⟨g', 0, none⟩) (rows.length + more.length) cap')) w' := by
      intro g' cap' w' row xs' hgrow hrow hg' hown hx0 hx1 hFw hFoff
      let G : Nat → Nat → Value := fun i' j' => if i' < rows.length then g0 i' j' else g1 (i' - rows.length) j'
      let F' : Addr → Value → Prop := fun y u => ∃ i' j', i' < rows.length + more.length ∧ j' < i.size ∧ y = ⟨g', i' * i.size + j', none⟩ ∧ u = G i' j'
      let E' := E.setTok t (some g') ⟨rows.length + more.length, e, i.size, .slice (some ⟨g', 0, none⟩) (rows.length + more.length) cap'⟩ F'
      have hkk : E.kd t = 0 ∨ (E.kd t = 2 ∧ (E.tk t).n < rows.length + more.length) := .inr ⟨hk, by omega⟩
      have hle : E.Le E' := Env.setTok_le hkk
      have hG : ∀ i' j', i' < rows.length + more.length → j' < i.size → xs'[i' * i.size + j']? = some (G i' j') := fun i' j' hi' hj' => by
        by_cases hlt : i' < rows.length
        · simp only [G, hlt, if_true]; exact hx0 i' j' hlt hj'
        · simp only [G, hlt, if_false]
          have := hx1 (i' - rows.length) j' (by omega) hj'
          rw [← this]
          congr 1
          rw [Nat.sub_mul]
          have : rows.length * i.size ≤ i' * i.size := Nat.mul_le_mul_right _ (by omega)
          omega
      have hGone : ∀ i' j', i' < rows.length + more.length → j' < i.size → (G i' j').oneCell' = true := fun i' j' hi' hj' => by
        by_cases hlt : i' < rows.length
        · simp only [G, hlt, if_true]
          obtain ⟨row0, c, e1, e2⟩ := hfull0.cell hlt hj'
          obtain ⟨a0', rfl⟩ := Option.isSome_iff_exists.1 (h00 (by omega))
          exact (hE.F _ _ (h01 i' row0 j' c a0' e1 e2 rfl)).2
        · simp only [G, hlt, if_false]
          exact (hE.F _ _ (hF1 (i' - rows.length) j' (by omega) hj')).2
      have hcell : ∀ k u, xs'[k]? = some u → w'.cell? ⟨g', k, none⟩ = some u := fun k u hk => by
        have := hown.cells (g := g') rfl k u hk
        rwa [add_lit, Nat.zero_add] at this
      refine ⟨E', hE.setTok hkk hgrow hrow (fun y u hy => ?_) (fun y u hy => by obtain ⟨_, _, _, _, rfl, _⟩ := hy; rfl) (fun y hy => by injection hy with hy; subst hy; exact hg') ?_, ?_⟩
      · rcases hy with hy | ⟨i', j', hi', hj', rfl, rfl⟩
        · exact ⟨hFw y u hy, (hE.F y u hy).2⟩
        · exact ⟨hcell _ _ (hG i' j' hi' hj'), hGone i' j' hi' hj'⟩
      · refine .inr ⟨g', cap', xs', by simp [E', Env.setTok], by simp [E', Env.setTok], by simpa [E', Env.setTok] using hown, fun y u hy hb => ?_, hg'.1⟩
        simp only [Env.setTok, if_true]
        rcases hy with hy | ⟨i', j', hi', hj', rfl, rfl⟩
        · have := hFoff y u hy hb
          have h2 : rows.length * i.size ≤ (rows.length + more.length) * i.size := Nat.mul_le_mul_right _ (by omega)
          omega
        · exact lt_of_row hi' hj'
      · refine h.step hle (e := ⟨dst, .ow t e i.size (rows ++ more), [(t, 0, .tok (rows.length + more.length))], nx, []⟩) ?_ (fun y j => ?_) (fun y hy => ?_)
        · rw [show rows.length + more.length = (rows ++ more).length by simp]
          refine .ow t e i.size (rows ++ more) (some ⟨g', 0, none⟩) cap' G (by simp) (fun i' row' j' c ad' hi' hj' had => ?_) (fun i' row' j' c hi' hj' => ?_) (by simp [E', Env.setTok]) (by simp [E', Env.setTok]) (fun _ => by simp [E', Env.setTok]) (by
            rcases hown.2 with ⟨h8, _⟩ | ⟨_, _, _, h8, _, _, h9, _⟩
            · cases h8
            · injection h8 with _ _ h8; subst h8; simpa using h9)
          · injection had with had
            subst had
            rw [add_lit, Nat.zero_add]
            have hi2 : i' < rows.length + more.length := by have := (List.getElem?_eq_some_iff.1 hi').1; simpa using this
            have hj2 : j' < i.size := by
              rcases rows_append_get hi' with ⟨_, hh⟩ | ⟨_, hh⟩
              · rw [← hfull0 row' (List.mem_of_getElem? hh)]; exact (List.getElem?_eq_some_iff.1 hj').1
              · rw [← hfull row' (List.mem_of_getElem? hh)]; exact (List.getElem?_eq_some_iff.1 hj').1
            exact .inr ⟨i', j', hi2, hj2, rfl, rfl⟩
          · rcases rows_append_get hi' with ⟨hlt, hh⟩ | ⟨hge, hh⟩
            · simp only [G, hlt, if_true]; exact (h02 i' row' j' c hh hj').mono hle.F
            · simp only [G, Nat.not_lt.2 hge, if_false]; exact (h12 _ row' j' c hh hj').mono hle.F
        · rw [apply_tok_cell]
          by_cases hy : y = t
          · subst hy
            by_cases hj : j = 0
            · subst hj
              simp only [and_self, if_true]
              exact ⟨rfl, by simp [E', Env.setTok], by simp [E', Env.setTok]⟩
            · simp only [hj, and_false, if_false]
              have hc := h.cell y j
              by_cases hp : (S.cell y j).plain = true
              · rw [CellOk.plain hp] at hc
                exact absurd hc.1 (by rw [hk]; decide)
              · cases hcell' : S.cell y j <;> rw [hcell'] at hp hc <;> simp [AV.plain] at hp
                case non => trivial
                case tok m => exact absurd hc.1 hj
                case mps f => exact absurd hc.1 hj
                case mpi f => exact hc.elim
                case arr s rows => exact absurd hc.1 hj
                case aw e0 s rows => exact absurd hc.1 hj
          · simp only [hy, false_and, if_false]
            exact h.setTok_other hE hkk hgrow hrow hy j
        · rw [apply_pure_dom] at hy
          have : y ≠ t := fun e' => by subst e'; have := h.dom y hy; rw [hk] at this; cases this
          simp [E', Env.setTok, this, h.dom y hy]
    -- the three ways
    rcases hE.tok t hk with ⟨hb, h2, a', h3⟩ | ⟨g, cap, xs, hb, h2, h3, h4, hmn⟩
    · -- no block yet
      have hr0 : rows = [] := List.eq_nil_of_length_eq_zero (by omega)
      subst hr0
      rw [hvv] at h3
      injection h3 with h31 h32 h33
      subst h33
      have hrun := run_append_fresh (P := P) w T ty e i z hT hi hz a0 ad more.length cx (flat i.size more.length g1) (flat_length _ _ _) hnews hr (by simp at hlen; omega) (by simp at hbytes; omega)
      refine ⟨_, _, hrun, ?_⟩
      have hcap : more.length ≤ grownCap w more.length 0 e ∧ grownCap w more.length 0 e ≤ maxLen := by
        unfold grownCap Question.cut maxLen
        have : w.tape w.drawn (Question.appendCap more.length 0 e) % (2 ^ 63 - more.length) < 2 ^ 63 - more.length := Nat.mod_lt _ (by simp at hlen; omega)
        simp only
        omega
      have hown : (w.drew.alloc (.cells ((flat i.size more.length g1).toArray ++ Builtin.zeroCells z.cells (grownCap w more.length 0 e - more.length)) e)).ownsRow 0 e i.size
          (.slice (some ⟨w.heap.size, 0, none⟩) more.length (grownCap w more.length 0 e)) more.length (flat i.size more.length g1) := by
        refine ⟨flat_length _ _ _, .inr ⟨w.heap.size, _, _, rfl, Nat.zero_le _, heap_alloc_new w.drew _, hcap.1, hcap.2, ?_, ?_⟩⟩
        · simp only [Array.size_append, List.size_toArray, flat_length, Builtin.zeroCells, Array.size_map, Array.size_range, hzs]
          rw [← Nat.add_mul]
          congr 1
          omega
        · rw [Array.toList_append]
          rw [List.take_append_of_le_length (by simp [flat_length]), List.take_of_length_le (by simp [flat_length])]
      have hm := main w.heap.size (grownCap w more.length 0 e) _ none (flat i.size more.length g1) (grownBy_drew (World.grownBy_alloc w.drew _ none)) (by simp) ⟨.inl hE.size, .inl rfl⟩ (by simpa using hown)
        (fun i' j' hi' _ => by simp at hi') (fun i' j' hi' hj' => by simpa using flat_at hi' hj')
        (fun y u hy => by rw [World.cell?_alloc_lt w.drew _ y (World.block_lt_of_cell? w y (hE.F y u hy).1)]; exact (hE.F y u hy).1)
        (fun y u hy hyb => by have := World.block_lt_of_cell? w y (hE.F y u hy).1; omega)
      simpa using hm
    · rw [hnt, he, hs'] at h3
      rw [hnt, hs'] at h4
      obtain ⟨v', w', hrun, hown, hgrow, _, hblk⟩ := run_append_own_at (P := P) w 0 T ty e i z i.size i.bytes hT hi hz rfl rfl hzs hs (E.tk t).v rows.length xs h3 ad more.length cx (flat i.size more.length g1) (flat_length _ _ _) hnews hone1
        (by unfold maxLen; omega) hbytes (Nat.zero_le _)
      rw [hvv] at hrun h2 hgrow hblk h3
      injection h2 with h21 h22 h23
      subst h21; subst h23
      -- where the row is made anew nothing old turns
      have hnew : v'.ownBlock ≠ some g → ∀ x, x < w.heap.size → w'.heap[x]? = w.heap[x]? := by
        intro hne
        obtain ⟨cur, hg1, hcs⟩ : ∃ cur, w.heap[g]? = some (.cells cur e (0, 0)) ∧ cur.size = cap0 * i.size := by
          rcases h3.2 with ⟨h5, _⟩ | ⟨g2, cap2, cur, h5, _, h6, _, _, h7, _⟩
          · cases h5
          · injection h5 with h51 _ h53
            injection h51 with h51
            injection h51 with h51
            subst h51; subst h53
            exact ⟨cur, h6, h7⟩
        by_cases hroom : rows.length + more.length ≤ cap0
        · exfalso
          have h6 := run_append_room (P := P) w T ty e i hT hi g rows.length cap0 cur hg1 ad more.length cx (flat i.size more.length g1) (flat_length _ _ _) hnews hone1 hroom (by
            rw [flat_length, hcs, ← Nat.add_mul]; exact Nat.mul_le_mul_right _ hroom)
          rw [h6] at hrun
          injection hrun with hv1 _
          rw [← hv1] at hne
          exact hne rfl
        · have hxs : ∀ (j : Nat) u, xs[j]? = some u → w.cell? ((⟨g, 0, none⟩ : Addr).add j) = some u := h3.cells (g := g) rfl
          have h6 := run_append_grow (P := P) w T ty e i z hT hi hz ⟨g, 0, none⟩ rows.length cap0 xs h3.1 hxs ad more.length cx (flat i.size more.length g1) (flat_length _ _ _) hnews (by omega) (by omega) (growslice_fits (by omega) hbytes)
          rw [h6] at hrun
          injection hrun with _ hw1
          intro x hx
          rw [← hw1]
          exact heap_alloc_lt w.drew _ hx
      refine ⟨v', w', hrun, ?_⟩
      obtain ⟨g', cap', hv'⟩ : ∃ g' cap', v' = .slice (some ⟨g', 0, none⟩) (rows.length + more.length) cap' := by
        rcases hown.2 with ⟨_, h0⟩ | ⟨g', cap', _, e', _⟩
        · omega
        · exact ⟨g', cap', e'⟩
      subst hv'
      have hxs0 : ∀ i' j', i' < rows.length → j' < i.size → xs[i' * i.size + j']? = some (g0 i' j') := fun i' j' hi' hj' => by
        obtain ⟨row0, c, e1, e2⟩ := hfull0.cell hi' hj'
        have h5 := (hE.F _ _ (h01 i' row0 j' c _ e1 e2 rfl)).1
        rw [add_lit, Nat.zero_add, h3.cellAt _ (lt_of_row hi' hj')] at h5
        exact h5
      refine main g' cap' w' (some g) (xs ++ flat i.size more.length g1) (by simpa [Value.ownBlock] using hgrow) (fun r hr => by injection hr with hr; subst hr; exact ⟨hk, hb⟩) ?_ hown ?_ ?_ ?_ ?_
      · simp only [Value.ownBlock, Option.some.injEq] at hblk
        rcases hblk with e' | e'
        · subst e'; exact ⟨hmn, .inr ⟨hk, hb⟩⟩
        · subst e'; exact ⟨.inl hE.size, .inl rfl⟩
      · intro i' j' hi' hj'
        rw [List.getElem?_append_left (by rw [h3.1]; exact lt_of_row hi' hj')]
        exact hxs0 i' j' hi' hj'
      · intro i' j' hi' hj'
        rw [List.getElem?_append_right (by rw [h3.1]; omega), h3.1, Nat.add_sub_cancel_left]
        exact flat_at hi' hj'
      · intro y u hy
        have hy1 := (hE.F y u hy).1
        by_cases hyg : y.block = g
        · -- a cell of the row itself: it lies below what is written
          have hoff := h4 y u hy hyg
          have hspot : y.spot = none := by
            unfold World.cell? at hy1
            split at hy1
            · cases hsp : y.spot with
              | none => rfl
              | some _ => simp [hsp] at hy1
            · cases hy1
          have hy' : y = ⟨g, y.off, none⟩ := by
            clear hy hy1
            cases y
            simp only at hspot hyg
            rw [hspot, hyg]
          rw [hy', h3.cellAt _ hoff] at hy1
          simp only [Value.ownBlock, Option.some.injEq] at hblk
          rcases hblk with e' | e'
          · subst e'
            have h6 : (xs ++ flat i.size more.length g1)[y.off]? = some u := by rw [List.getElem?_append_left (by rw [h3.1]; exact hoff)]; exact hy1
            have := hown.cells (g := g') rfl y.off u h6
            rw [add_lit, Nat.zero_add] at this
            rw [hy']; exact this
          · -- the row lies in a new block: the old one is as it was
            have hne : g' ≠ g := fun e2 => by
              have := (hE.lt (by rw [hk]; decide) hb).1
              omega
            rw [World.cell?_of_block (hnew (by simp [Value.ownBlock]; exact hne) y.block (World.block_lt_of_cell? w y (hE.F y u hy).1))]
            exact (hE.F y u hy).1
        · rw [World.cell?_of_block (hgrow.block y.block (World.block_lt_of_cell? w y hy1) (by simp [Value.ownBlock]; exact hyg))]
          exact hy1
      · intro y u hy hyb
        simp only [Value.ownBlock, Option.some.injEq] at hblk
        rcases hblk with e' | e'
        · subst e'; exact h4 y u hy hyb
        · subst e'; have := World.block_lt_of_cell? w y (hE.F y u hy).1; omega
end Go.Ab
end

section
namespace Go.Ab
open Go Go.RowKit
set_option linter.unusedVariables false
set_option linter.unusedSimpArgs false

structure AFd where
  off : Nat
  size : Nat
  ty : Nat

inductive AKind where
  | int (k : IntKind) | bool | str | st (fs : List AFd) | arr (n e : Nat) | slice (e : Nat) | ptr (e : Nat) | map (k e : Nat) | fn | ifc | other
  deriving Inhabited

structure ATy where
  kd : AKind
  size : Nat
  bytes : Nat
  zero : List AV
  deriving Inhabited

abbrev TT := Nat → ATy

/-- A concrete value without addresses, abstractly. -/
def cvOne : Value → AV
  | .bool b => .bool b
  | .int k n => .int k n
  | .string s => .str s.data.toList
  | .pointer none => .nilp
  | .slice none 0 0 => .emp
  | .map none => .nilm
  | .nilFunc => .nilf
  | _ => .non

def cv : Value → AV
  | .agg cs => .agg (cs.toList.map cvOne)
  | v => cvOne v

theorem cvOne_VR (E : Env) (v : Value) : VR E (cvOne v) v := by
  unfold cvOne
  split
  · exact .bool _
  · exact .int _ _
  · exact VR.str _
  · exact .nilp
  · exact .emp none
  · exact .nilm
  · exact .nilf
  · exact .non _

theorem cvOne_VI (F : Addr → Value → Prop) (v : Value) : VI F (cvOne v) v := by
  unfold cvOne
  split
  · exact .bool _
  · exact .int _ _
  · exact VI.str _
  · exact .nilp
  · exact .emp none
  · exact .nilm
  · exact .nilf
  · exact .non _

theorem cv_VR (E : Env) (v : Value) : VR E (cv v) v := by
  unfold cv
  split
  · rename_i cs
    refine .agg _ _ (by simp) (fun j c v hc hv => ?_)
    rw [List.getElem?_map] at hc
    rw [← Array.getElem?_toList] at hv
    rw [hv] at hc
    injection hc with hc
    subst hc
    exact cvOne_VR E v
  · exact cvOne_VR E v

/-- What the table says of type t, of the program's. -/
def kdOk (P : Program) (t : Nat) : AKind → Prop
  | .int k => P.underlying t = some (.int k)
  | .bool => P.underlying t = some .bool
  | .str => P.underlying t = some .string
  | .st fs => ∃ gs, P.underlying t = some (.struct gs) ∧ gs.size = fs.length ∧ P.stoodInHeld t = false ∧ P.eqGuardType P.depth t = false ∧
      ∀ (i : Nat) f g, fs[i]? = some f → gs[i]? = some g → g.name ≠ "_" ∧ g.offset = f.off ∧ g.type = f.ty ∧ f.size ≠ 0 ∧ ∃ j, P.info? f.ty = some j ∧ j.size = f.size
  | .arr n e => P.underlying t = some (.array n e) ∧ P.eqGuardType P.depth t = false
  | .slice e => P.underlying t = some (.slice e)
  | .ptr e => P.underlying t = some (.pointer e)
  | .map k e => P.underlying t = some (.map k e)
  | .fn => ∃ a b c, P.underlying t = some (.func a b c)
  | .ifc => ∃ ms, P.underlying t = some (.interface ms)
  | .other => True

def AKind.isOther : AKind → Bool
  | .other => true
  | _ => false

def tyOk (P : Program) (t : Nat) (A : ATy) : Prop :=
  A.kd.isOther = true ∨ (kdOk P t A.kd ∧ ∃ i z, P.info? t = some i ∧ i.size = A.size ∧ i.bytes = A.bytes ∧ i.zero = some z ∧ z.cells.size = A.size ∧ A.zero = z.cells.toList.map cvOne ∧ (∀ v ∈ z.cells, v.oneCell' = true) ∧ (match A.kd with | .st _ | .arr .. => ∃ cs, z = .agg cs | _ => z.oneCell' = true))

def TabOk (P : Program) (T : TT) : Prop := ∀ t, tyOk P t (T t)

def AKind.isAgg : AKind → Bool
  | .st _ | .arr .. => true
  | _ => false

section
variable {P : Program} {T : TT}

theorem TabOk.kd (h : TabOk P T) {t : Nat} (hn : (T t).kd.isOther = false) : kdOk P t (T t).kd := by
  rcases h t with h | h
  · rw [hn] at h; cases h
  · exact h.1

theorem TabOk.info (h : TabOk P T) {t : Nat} (hn : (T t).kd.isOther = false) :
    ∃ i z, P.info? t = some i ∧ i.size = (T t).size ∧ i.bytes = (T t).bytes ∧ i.zero = some z ∧ z.cells.size = (T t).size ∧ (T t).zero = z.cells.toList.map cvOne ∧ (∀ v ∈ z.cells, v.oneCell' = true) ∧ ((T t).kd.isAgg = true → ∃ cs, z = .agg cs) ∧ ((T t).kd.isAgg = false → z.oneCell' = true) := by
  rcases h t with h | h
  · rw [hn] at h; cases h
  · obtain ⟨_, i, z, h1, h2, h3, h4, h5, h6, h7, h8⟩ := h
    refine ⟨i, z, h1, h2, h3, h4, h5, h6, h7, fun x => ?_, fun x => ?_⟩ <;> cases hk : (T t).kd <;> rw [hk] at x h8 <;> simp only [AKind.isAgg] at x <;> first | exact h8 | cases x

theorem TabOk.size (h : TabOk P T) {t : Nat} (hn : (T t).kd.isOther = false) (w : World) : (sizeOf t).run P w = .ok (T t).size w := by
  obtain ⟨i, z, h1, h2, _⟩ := h.info hn
  simp [sizeOf, typeInfo, h1, h2]

theorem TabOk.isAgg (h : TabOk P T) {t : Nat} (hn : (T t).kd.isOther = false) (w : World) : (isAgg t).run P w = .ok (T t).kd.isAgg w := by
  have := h.kd hn
  cases hk : (T t).kd <;> rw [hk] at this hn <;> simp only [kdOk, AKind.isOther] at this hn
  case int => simp [Go.isAgg, run_underlying this, AKind.isAgg]
  case bool => simp [Go.isAgg, run_underlying this, AKind.isAgg]
  case str => simp [Go.isAgg, run_underlying this, AKind.isAgg]
  case st => obtain ⟨gs, h1, _⟩ := this; simp [Go.isAgg, run_underlying h1, AKind.isAgg]
  case arr => simp [Go.isAgg, run_underlying this.1, AKind.isAgg]
  case slice => simp [Go.isAgg, run_underlying this, AKind.isAgg]
  case ptr => simp [Go.isAgg, run_underlying this, AKind.isAgg]
  case map => simp [Go.isAgg, run_underlying this, AKind.isAgg]
  case fn => obtain ⟨a, b, c, h1⟩ := this; simp [Go.isAgg, run_underlying h1, AKind.isAgg]
  case ifc => obtain ⟨ms, h1⟩ := this; simp [Go.isAgg, run_underlying h1, AKind.isAgg]
  case other => cases hn

/-- A part of cells. -/
def cut (off n : Nat) (cs : List AV) : List AV := (cs.drop off).take n

theorem cut_get {off n : Nat} {cs : List AV} {j : Nat} {c : AV} (h : (cut off n cs)[j]? = some c) : j < n ∧ cs[off + j]? = some c := by
  unfold cut at h
  rw [List.getElem?_take] at h
  split at h
  · rename_i hj
    rw [List.getElem?_drop] at h
    exact ⟨hj, h⟩
  · cases h

/-! ### Equality -/

def eqFs (eq : Nat → List AV → List AV → Option Bool) (xs ys : List AV) : List AFd → Option Bool
  | [] => some true
  | f :: r => match eq f.ty (cut f.off f.size xs) (cut f.off f.size ys), eqFs eq xs ys r with
    | some a, some b => some (a && b)
    | _, _ => none

def eqEs (eq : Nat → List AV → List AV → Option Bool) (e size : Nat) (xs ys : List AV) : Nat → Nat → Option Bool
  | _, 0 => some true
  | i, n + 1 => match eq e (cut (i * size) size xs) (cut (i * size) size ys), eqEs eq e size xs ys (i + 1) n with
    | some a, some b => some (a && b)
    | _, _ => none

def eqT (T : TT) : Nat → Nat → List AV → List AV → Option Bool
  | 0, _, _, _ => none
  | d + 1, t, xs, ys =>
    match (T t).kd with
    | .int _ => match xs, ys with
      | [.int k a], [.int k' b] => if k = k' then some (a == b) else none
      | _, _ => none
    | .bool => match xs, ys with
      | [.bool a], [.bool b] => some (a == b)
      | _, _ => none
    | .str => match xs, ys with
      | [.str a], [.str b] => some (a == b)
      | _, _ => none
    | .st fs => if xs.length = (T t).size ∧ ys.length = (T t).size then eqFs (eqT T d) xs ys fs else none
    | .arr n e => if xs.length = (T t).size ∧ ys.length = (T t).size ∧ (T e).kd.isOther = false then eqEs (eqT T d) e (T e).size xs ys 0 n else none
    | _ => none

theorem VRs.size {E : Env} {cs : List AV} {vs : Array Value} (h : VRs E cs vs.toList) : vs.size = cs.length := by simpa using h.1

theorem VRs.agg {E : Env} {cs : List AV} {vs : Array Value} (h : VRs E cs vs.toList) : VR E (.agg cs) (.agg vs) :=
  .agg cs vs h.size (fun j c v hc hv => h.2 j c v hc (by simpa using hv))
theorem VRs.tup {E : Env} {cs : List AV} {vs : Array Value} (h : VRs E cs vs.toList) : VR E (.tup cs) (.tuple vs) :=
  .tup cs vs h.size (fun j c v hc hv => h.2 j c v hc (by simpa using hv))
theorem VR.of_agg {E : Env} {cs : List AV} {v : Value} (h : VR E (.agg cs) v) : ∃ vs : Array Value, v = .agg vs ∧ VRs E cs vs.toList := by
  cases h with
  | agg cs vs hl hh => exact ⟨vs, rfl, by simpa using hl, fun j c v hc hv => hh j c v hc (by simpa using hv)⟩
theorem VR.of_tup {E : Env} {cs : List AV} {v : Value} (h : VR E (.tup cs) v) : ∃ vs : Array Value, v = .tuple vs ∧ VRs E cs vs.toList := by
  cases h with
  | tup cs vs hl hh => exact ⟨vs, rfl, by simpa using hl, fun j c v hc hv => hh j c v hc (by simpa using hv)⟩

theorem VRs.cut {E : Env} {cs : List AV} {vs : Array Value} (h : VRs E cs vs.toList) (off n : Nat) : VRs E (cut off n cs) (vs.extract off (off + n)).toList := by
  have h1 := h.size
  refine ⟨?_, fun j c v hc hv => ?_⟩
  · simp only [Array.length_toList, Array.size_extract, Ab.cut, List.length_take, List.length_drop]
    omega
  · obtain ⟨h2, h3⟩ := cut_get hc
    refine h.2 (off + j) c v h3 ?_
    rw [Array.getElem?_toList, Array.getElem?_extract] at hv
    split at hv
    · simpa using hv
    · cases hv

/-- A part's run. -/
theorem run_part_agg (h : TabOk P T) {t : Nat} (hn : (T t).kd.isOther = false) (ha : (T t).kd.isAgg = true) (vs : Array Value) (off : Nat) (w : World) :
    (part t vs off).run P w = .ok (.agg (vs.extract off (off + (T t).size))) w := by simp [part, h.isAgg hn, h.size hn, ha]
theorem run_part_one (h : TabOk P T) {t : Nat} (hn : (T t).kd.isOther = false) (ha : (T t).kd.isAgg = false) {vs : Array Value} {off : Nat} {v : Value} (hv : vs[off]? = some v) (w : World) :
    (part t vs off).run P w = .ok v w := by simp [part, h.isAgg hn, ha, hv]

theorem cut_one {cs : List AV} {off : Nat} {c : AV} (h : cut off 1 cs = [c]) : cs[off]? = some c := by
  have : (cut off 1 cs)[0]? = some c := by rw [h]; rfl
  simpa using (cut_get this).2

/-- The parts that two values' fields are, as values: what 'part' hands back. -/
def partV (T : TT) (t : Nat) (vs : List Value) : Value := if (T t).kd.isAgg then .agg vs.toArray else vs.headD undef

/-- The elements of an array, compared one by one. -/
def eqElems (d e size : Nat) (xs ys : Array Value) : Nat → Nat → Sem Bool
  | _, 0 => pure true
  | i, m + 1 => do
    let a ← part e xs (i * size)
    let b ← part e ys (i * size)
    let r ← Op.equalIn d e a b
    if (!r) = true then pure false else eqElems d e size xs ys (i + 1) m

theorem run_equalIn_array (w : World) (d t : Nat) (xs ys : Array Value) (n e size : Nat) (ht : P.underlying t = some (.array n e)) (hs : ∀ w, (sizeOf e).run P w = .ok size w) :
    (Op.equalIn (d + 1) t (.agg xs) (.agg ys)).run P w = (eqElems d e size xs ys 0 n).run P w := by
  simp only [Op.equalIn, Sem.run_bind, run_underlying ht, Result.andThen_ok, hs]
  rw [Std.Legacy.Range.forIn_eq_forIn_range']
  have hr : List.range' ([:n] : Std.Legacy.Range).start ([:n] : Std.Legacy.Range).size ([:n] : Std.Legacy.Range).step = List.range' 0 n := by
    simp [Std.Legacy.Range.size]
  rw [hr]
  generalize 0 = i
  clear ht hr
  induction n generalizing i w with
  | zero => simp [eqElems]
  | succ n ih =>
    simp only [List.range'_succ, List.forIn_cons, eqElems, Sem.run_bind]
    generalize (part e xs (i * size)).run P w = r1
    cases r1 with
    | ok a w1 =>
      simp only [Result.andThen_ok]
      generalize (part e ys (i * size)).run P w1 = r2
      cases r2 with
      | ok b w2 =>
        simp only [Result.andThen_ok]
        generalize (Op.equalIn d e a b).run P w2 = r3
        cases r3 with
        | ok r w3 =>
          cases r
          · simp
          · simp only [Result.andThen_ok, Bool.not_true, Bool.false_eq_true, if_false, Sem.run_pure]
            exact ih w3 (i + 1)
        | halt x w3 => simp [Result.andThen]
      | halt x w2 => simp [Result.andThen]
    | halt x w1 => simp [Result.andThen]

theorem eqT_single (d t : Nat) (xs ys : List AV) (b : Bool) (he : eqT T d t xs ys = some b) : (T t).kd.isOther = false ∧ ((T t).kd.isAgg = false → (∃ c, xs = [c]) ∧ ∃ c, ys = [c]) := by
  cases d with
  | zero => simp [eqT] at he
  | succ d =>
    cases hk : (T t).kd <;> simp only [eqT, hk] at he
    case int => split at he; exact ⟨rfl, fun _ => ⟨⟨_, rfl⟩, ⟨_, rfl⟩⟩⟩; cases he
    case bool => split at he; exact ⟨rfl, fun _ => ⟨⟨_, rfl⟩, ⟨_, rfl⟩⟩⟩; cases he
    case str => split at he; exact ⟨rfl, fun _ => ⟨⟨_, rfl⟩, ⟨_, rfl⟩⟩⟩; cases he
    case st => exact ⟨rfl, fun x => by cases x⟩
    case arr => exact ⟨rfl, fun x => by cases x⟩
    all_goals (simp at he)

/-- Two parts, compared. -/
theorem eqT_part (h : TabOk P T) {E : Env} {d D ty off : Nat} {xs ys : List AV} {us zs : Array Value} {b : Bool} (a3 : VRs E xs us.toList) (a4 : VRs E ys zs.toList)
    (ih : ∀ (t : Nat) (xs ys : List AV) (r : Bool), eqT T d t xs ys = some r → ∀ (vx vy : Value),
      ((T t).kd.isAgg = true → VR E (.agg xs) vx ∧ VR E (.agg ys) vy) → ((T t).kd.isAgg = false → ∀ c, xs = [c] → VR E c vx) → ((T t).kd.isAgg = false → ∀ c, ys = [c] → VR E c vy) →
      ∀ w, (Op.equalIn D t vx vy).run P w = .ok r w)
    (he : eqT T d ty (cut off (T ty).size xs) (cut off (T ty).size ys) = some b) (w : World) :
    ∃ px py, (part ty us off).run P w = .ok px w ∧ (part ty zs off).run P w = .ok py w ∧ (Op.equalIn D ty px py).run P w = .ok b w := by
  obtain ⟨hno, hs⟩ := eqT_single d ty _ _ b he
  cases hag : (T ty).kd.isAgg with
  | true =>
    exact ⟨_, _, run_part_agg h hno hag us off w, run_part_agg h hno hag zs off w,
      ih ty _ _ b he _ _ (fun _ => ⟨(a3.cut off _).agg, (a4.cut off _).agg⟩) (fun x => by rw [hag] at x; cases x) (fun x => by rw [hag] at x; cases x) w⟩
  | false =>
    obtain ⟨⟨c, hc⟩, ⟨c', hc'⟩⟩ := hs hag
    have one : ∀ (l : List AV) (vs : Array Value) (c : AV), VRs E l vs.toList → cut off (T ty).size l = [c] → ∃ v, vs[off]? = some v ∧ VR E c v := fun l vs c hl hc => by
      have hc1 : l[off]? = some c := by
        have : (cut off (T ty).size l)[0]? = some c := by rw [hc]; rfl
        simpa using (cut_get this).2
      obtain ⟨v, hv1, hv2⟩ := hl.get hc1
      exact ⟨v, by simpa using hv1, hv2⟩
    obtain ⟨px, p1, p2⟩ := one xs us c a3 hc
    obtain ⟨py, q1, q2⟩ := one ys zs c' a4 hc'
    refine ⟨px, py, run_part_one h hno hag p1 w, run_part_one h hno hag q1 w, ih ty _ _ b he _ _ (fun x => by rw [hag] at x; cases x) (fun _ c1 h1 => ?_) (fun _ c1 h1 => ?_) w⟩
    · rw [hc] at h1; injection h1 with h1; subst h1; exact p2
    · rw [hc'] at h1; injection h1 with h1; subst h1; exact q2

theorem eqT_sound (h : TabOk P T) {E : Env} : ∀ (d t : Nat) (xs ys : List AV) (r : Bool), eqT T d t xs ys = some r → ∀ (D : Nat) (vx vy : Value), d ≤ D →
    ((T t).kd.isAgg = true → VR E (.agg xs) vx ∧ VR E (.agg ys) vy) → ((T t).kd.isAgg = false → ∀ c, xs = [c] → VR E c vx) → ((T t).kd.isAgg = false → ∀ c, ys = [c] → VR E c vy) →
    ∀ w, (Op.equalIn D t vx vy).run P w = .ok r w
  | 0, t, xs, ys, r, he, _, _, _, _, _, _, _, _ => by simp [eqT] at he
  | d + 1, t, xs, ys, r, he, D, vx, vy, hD, ha, hx, hy, w => by
    obtain ⟨D, rfl⟩ : ∃ D', D = D' + 1 := ⟨D - 1, by omega⟩
    have hno : (T t).kd.isOther = false := by
      cases hk : (T t).kd <;> simp only [eqT, hk] at he <;> first | rfl | (simp at he)
    have hkd := h.kd hno
    cases hk : (T t).kd <;> simp only [eqT, hk] at he
    case int k0 =>
      rw [hk] at hkd
      split at he
      · rename_i k a k' b
        split at he
        · rename_i hkk
          subst hkk
          injection he with he
          subst he
          have h1 := hx (by rw [hk]; rfl) _ rfl
          have h2 := hy (by rw [hk]; rfl) _ rfl
          cases h1; cases h2
          exact run_equalIn_int w D t k k0 a b hkd
        · cases he
      · cases he
    case bool =>
      rw [hk] at hkd
      split at he
      · injection he with he
        subst he
        have h1 := hx (by rw [hk]; rfl) _ rfl
        have h2 := hy (by rw [hk]; rfl) _ rfl
        cases h1; cases h2
        exact run_equalIn_bool w D t _ _ hkd
      · cases he
    case str =>
      rw [hk] at hkd
      split at he
      · injection he with he
        subst he
        have h1 := hx (by rw [hk]; rfl) _ rfl
        have h2 := hy (by rw [hk]; rfl) _ rfl
        cases h1; cases h2
        rw [run_equalIn_string w D t _ _ hkd, ByteArray.toList_eq, ByteArray.toList_eq]
      · cases he
    case st fs =>
      rw [hk] at hkd
      split at he
      · rename_i hl
        obtain ⟨gs, h1, h2, h3, h4, h5⟩ := hkd
        obtain ⟨a1, a2⟩ := ha (by rw [hk]; rfl)
        obtain ⟨us, rfl, a3⟩ := a1.of_agg
        obtain ⟨zs, rfl, a4⟩ := a2.of_agg
        have hfs : P.fieldsOf t = gs := by simp [Program.fieldsOf, h1]
        rw [run_equalIn_struct w D t us zs (by rw [hfs]; exact h1) h3, hfs]
        -- along the fields
        have key : ∀ (fs : List AFd) (gl : List Field), gl.length = fs.length → (∀ (i : Nat) f g, fs[i]? = some f → gl[i]? = some g → g.name ≠ "_" ∧ g.offset = f.off ∧ g.type = f.ty ∧ f.size ≠ 0 ∧ ∃ j, P.info? f.ty = some j ∧ j.size = f.size) →
            ∀ r, eqFs (eqT T d) xs ys fs = some r → (Op.eqFields D us zs gl).run P w = .ok r w := by
          intro fs
          induction fs with
          | nil =>
            intro gl hgl _ r hr
            have : gl = [] := List.eq_nil_of_length_eq_zero hgl
            subst this
            simp only [eqFs, Option.some.injEq] at hr
            subst hr
            simp [Op.eqFields]
          | cons f fs ih =>
            intro gl hgl hh r hr
            match gl, hgl with
            | g :: gl, hgl =>
            obtain ⟨g1, g2, g3, g4, j, g5, g6⟩ := hh 0 f g rfl rfl
            simp only [eqFs] at hr
            split at hr
            · rename_i b1 b2 e1 e2
              injection hr with hr
              subst hr
              have hnf := (eqT_single d f.ty _ _ b1 e1).1
              obtain ⟨i', z', i1, i2, _⟩ := h.info hnf
              have hfsz : f.size = (T f.ty).size := by rw [← g6, ← i2]; rw [g5] at i1; injection i1 with i1; rw [i1]
              rw [hfsz] at e1
              have hsub := eqT_part h (D := D) a3 a4 (fun t xs ys r he vx vy q1 q2 q3 w => eqT_sound h d t xs ys r he D vx vy (by omega) q1 q2 q3 w) e1 w
              rw [← g2, ← g3] at hsub
              obtain ⟨px, py, p1, p2, p3⟩ := hsub
              have hrest := ih gl (by simpa using hgl) (fun i f' g' x y => hh (i + 1) f' g' (by simpa using x) (by simpa using y)) b2 e2
              simp only [Op.eqFields, g1, ne_eq, not_false_eq_true, if_true, Sem.run_bind, p1, p2, p3, Result.andThen_ok]
              cases b1
              · simp
              · simpa using hrest
            · cases hr
        exact key fs gs.toList (by simpa using h2) (fun i f g x y => h5 i f g x (by simpa using y)) r he
      · cases he
    case arr n e =>
      rw [hk] at hkd
      split at he
      · rename_i hl
        obtain ⟨hl1, hl2, hne⟩ := hl
        obtain ⟨h1, h4⟩ := hkd
        obtain ⟨a1, a2⟩ := ha (by rw [hk]; rfl)
        obtain ⟨us, rfl, a3⟩ := a1.of_agg
        obtain ⟨zs, rfl, a4⟩ := a2.of_agg
        have hloop : ∀ (m i : Nat) (r : Bool), eqEs (eqT T d) e (T e).size xs ys i m = some r → (eqElems D e (T e).size us zs i m).run P w = .ok r w := by
          intro m
          induction m with
          | zero => intro i r hr; simp only [eqEs, Option.some.injEq] at hr; subst hr; simp [eqElems]
          | succ m ih =>
            intro i r hr
            simp only [eqEs] at hr
            split at hr
            · rename_i b1 b2 e1 e2
              injection hr with hr
              subst hr
              obtain ⟨px, py, p1, p2, p3⟩ := eqT_part h (D := D) a3 a4 (fun t xs ys r he vx vy q1 q2 q3 w => eqT_sound h d t xs ys r he D vx vy (by omega) q1 q2 q3 w) e1 w
              have hrest := ih (i + 1) b2 e2
              simp only [eqElems, Sem.run_bind, p1, p2, p3, Result.andThen_ok]
              cases b1
              · simp
              · simpa using hrest
            · cases hr
        rw [run_equalIn_array w D t us zs n e (T e).size h1 (h.size hne)]
        exact hloop n 0 r he
      · cases he
    all_goals (simp at he)
end
end Go.Ab
end

section
namespace Go.Ab
open Go Go.RowKit
set_option linter.unusedVariables false
set_option linter.unusedSimpArgs false

/-- Every abstract value holds of the concrete one. -/
def aInt (op : BinOp) (ka kb : IntKind) (a b : Int) (k : AV → Prop) : Prop :=
  match op with
  | .add => ka = kb ∧ k (.int ka (ka.wrap (a + b)))
  | .sub => ka = kb ∧ k (.int ka (ka.wrap (a - b)))
  | .mul => ka = kb ∧ k (.int ka (ka.wrap (a * b)))
  | .quo => ka = kb ∧ b ≠ 0 ∧ k (.int ka (ka.wrap (a.tdiv b)))
  | .rem => ka = kb ∧ b ≠ 0 ∧ k (.int ka (a.tmod b))
  | .eql => ka = kb ∧ k (.bool (a == b))
  | .neq => ka = kb ∧ k (.bool (a != b))
  | .lss => ka = kb ∧ k (.bool (decide (a < b)))
  | .leq => ka = kb ∧ k (.bool (decide (a ≤ b)))
  | .gtr => ka = kb ∧ k (.bool (decide (b < a)))
  | .geq => ka = kb ∧ k (.bool (decide (b ≤ a)))
  | .shl => 0 ≤ b ∧ k (.int ka (ka.wrap (a * 2 ^ (min b.toNat ka.bits))))
  | .shr => 0 ≤ b ∧ k (.int ka (a.fdiv (2 ^ (min b.toNat ka.bits))))
  | .and => ka = kb ∧ k (.int ka (bits .and ka a b))
  | .or => ka = kb ∧ k (.int ka (bits .or ka a b))
  | .xor => ka = kb ∧ k (.int ka (bits .xor ka a b))
  | .andNot => ka = kb ∧ k (.int ka (bits .andNot ka a b))

def aBin (T : TT) (op : BinOp) (t : Nat) (x y : AV) (k : AV → Prop) : Prop :=
  match x, y with
  | .int ka a, .int kb b => aInt op ka kb a b k
  | .str a, .str b =>
    match op with
    | .eql => k (.bool (a == b))
    | .neq => k (.bool (a != b))
    | .add => a.length + b.length ≤ 9223372036854775807 ∧ k (.str (a ++ b))
    | .lss => k (.bool (Op.bytesLess a b))
    | .leq => k (.bool (Op.bytesLess a b || a == b))
    | .gtr => k (.bool (!(Op.bytesLess a b || a == b)))
    | .geq => k (.bool (!Op.bytesLess a b))
    | _ => False
  | .bool a, .bool b =>
    match op with
    | .eql => (T t).kd = .bool ∧ k (.bool (a == b))
    | .neq => (T t).kd = .bool ∧ k (.bool (a != b))
    | _ => False
  | .agg xs, .agg ys =>
    (T t).kd.isAgg = true ∧ match op with
    | .eql => ∃ b, eqT T 10 t xs ys = some b ∧ k (.bool b)
    | .neq => ∃ b, eqT T 10 t xs ys = some b ∧ k (.bool (!b))
    | _ => False
  | _, _ => False

/-- The literal nil of a slice. -/
def nilO : Operand → Bool
  | .const (.slice none 0 0) => true
  | _ => false
theorem nilO_eq {x : Operand} (h : nilO x = true) : x = .const (.slice none 0 0) := by
  unfold nilO at h
  split at h
  · rfl
  · cases h
/-- The literal nil of an interface. -/
def nilI : Operand → Bool
  | .const .nilIface => true
  | _ => false
theorem nilI_eq {x : Operand} (h : nilI x = true) : x = .const .nilIface := by
  unfold nilI at h
  split at h
  · rfl
  · cases h
/-- An error, compared with nil. -/
def aErr (T : TT) (op : BinOp) (t : Nat) (x : AV) (k : AV → Prop) : Prop :=
  match (T t).kd, op, x with
  | .ifc, .eql, .er b => k (.bool b)
  | .ifc, .neq, .er b => k (.bool (!b))
  | _, _, _ => False
/-- The literal nil of a pointer. -/
def nilP : Operand → Bool
  | .const (.pointer none) => true
  | _ => false
theorem nilP_eq {x : Operand} (h : nilP x = true) : x = .const (.pointer none) := by
  unfold nilP at h
  split at h
  · rfl
  · cases h
/-- Whether a pointer is nil. -/
def pNil : AV → Option Bool
  | .nilp => some true
  | .ptr _ _ => some false
  | .cp _ => some false
  | _ => none
/-- A pointer, compared with nil. -/
def aPtr (T : TT) (op : BinOp) (t : Nat) (x : AV) (k : AV → Prop) : Prop :=
  match (T t).kd, op, pNil x with
  | .ptr _, .eql, some b => k (.bool b)
  | .ptr _, .neq, some b => k (.bool (!b))
  | _, _, _ => False
/-- A slice, compared with nil. -/
def aNil (T : TT) (op : BinOp) (t : Nat) (x : AV) (k : AV → Prop) : Prop :=
  match (T t).kd, op, x with
  | .slice _, .eql, .sl _ rows => k (.ub rows.length)
  | .slice _, .eql, .ow _ _ _ rows => k (.ub rows.length)
  | .slice _, .eql, .emp => k (.ub 0)
  | .slice _, .eql, .sb _ _ => k (.bool false)
  | _, _, _ => False

def aUn (op : UnOp) (x : AV) (k : AV → Prop) : Prop :=
  match op, x with
  | .neg, .int ka n => k (.int ka (ka.wrap (0 - n)))
  | .not, .bool b => k (.bool (!b))
  | _, _ => False

/-- Conversions: between integers. -/
def aConv (T : TT) (src dst : Nat) (x : AV) (k : AV → Prop) : Prop :=
  match (T dst).kd, x with
  | .int kd, .int _ n => (T src).kd.isOther = false ∧ k (.int kd (kd.wrap n))
  | .str, .str l => (T src).kd.isOther = false ∧ k (.str l)
  | _, _ => False

def AV.known : AV → Bool
  | .non => false
  | _ => true

/-- The parts laid over the zero value. -/
def lay (off : Nat) : List AV → List AV → List AV
  | [], cs => cs
  | c :: r, cs => lay (off + 1) r (cs.set off c)

def aFill (place : Nat → Option (Nat × Nat)) (cells : List AV) : List (Nat × AV) → Option (List AV)
  | [] => some cells
  | (i, v) :: r =>
    match place i with
    | none => none
    | some (off, size) => if v.cells.length = size ∧ off + size ≤ cells.length ∧ v.known = true then aFill place (lay off v.cells cells) r else none

def stPlace (fs : List AFd) (i : Nat) : Option (Nat × Nat) := (fs[i]?).map fun f => (f.off, f.size)

def aBuild (T : TT) (t : Nat) (parts : List (Nat × AV)) (k : AV → Prop) : Prop :=
  match (T t).kd with
  | .st fs => ∃ cs, aFill (stPlace fs) (T t).zero parts = some cs ∧ k (.agg cs)
  | .arr _ e => (T e).kd.isOther = false ∧ ∃ cs, aFill (fun i => some (i * (T e).size, (T e).size)) (T t).zero parts = some cs ∧ k (.agg cs)
  | _ => False

def aPart (T : TT) (ty off : Nat) (cs : List AV) (k : AV → Prop) : Prop :=
  (T ty).kd.isOther = false ∧ if (T ty).kd.isAgg then k (.agg (cut off (T ty).size cs)) else ∃ c, cs[off]? = some c ∧ k c

def aField (T : TT) (t : Nat) (x : AV) (f : Nat) (k : AV → Prop) : Prop :=
  match (T t).kd, x with
  | .st fs, .agg cs => ∃ fd, fs[f]? = some fd ∧ aPart T fd.ty fd.off cs k
  | _, _ => False

def aFieldAddr (T : TT) (t : Nat) (x : AV) (f : Nat) (k : AV → Prop) : Prop :=
  match (T t).kd, x with
  | .st fs, .cp cells => ∃ fd, fs[f]? = some fd ∧ k (.cp (cells.drop fd.off))
  | .st fs, .ptr b o => ∃ fd, fs[f]? = some fd ∧ k (.ptr b (o + fd.off))
  | .st fs, .ep b s i => ∃ fd, fs[f]? = some fd ∧ (fd.off = 0 ∧ k (.ep b s i) ∨ k (.ef b s i fd.off))
  | _, _ => False

def aIndexAddr (T : TT) (t : Nat) (x i : AV) (k : AV → Prop) : Prop :=
  match (T t).kd, x, i with
  | .slice e, .sl s rows, .int _ n => (T e).kd.isOther = false ∧ s = (T e).size ∧ ∃ row, 0 ≤ n ∧ rows[n.toNat]? = some row ∧ k (.cp row)
  | .slice e, .ow _ _ s rows, .int _ n => (T e).kd.isOther = false ∧ s = (T e).size ∧ ∃ row, 0 ≤ n ∧ rows[n.toNat]? = some row ∧ k (.cp row)
  | .slice e, .sb b m, .int _ n => (T e).kd.isOther = false ∧ 0 ≤ n ∧ n < m ∧ k (.ep b (T e).size n.toNat)
  | .arr m e, .ptr b o, .int _ n => (T e).kd.isOther = false ∧ 0 ≤ n ∧ n < m ∧ k (.ptr b (o + n.toNat * (T e).size))
  | .arr m e, .cp cells, .int _ n => (T e).kd.isOther = false ∧ 0 ≤ n ∧ n < m ∧ k (.cp (cells.drop (n.toNat * (T e).size)))
  | _, _, _ => False

def aIndex (T : TT) (t : Nat) (x i : AV) (k : AV → Prop) : Prop :=
  match (T t).kd, x, i with
  | .str, .str l, .int _ n => ∃ c, 0 ≤ n ∧ l[n.toNat]? = some c ∧ k (.int .u8 (c.toNat : Int))
  | .arr m e, .agg cs, .int _ n => 0 ≤ n ∧ n < m ∧ aPart T e (n.toNat * (T e).size) cs k
  | _, _, _ => False

/-- A bound of a slice expression. -/
def aBnd : Option AV → Nat → Option Int
  | none, d => some d
  | some (.int _ n), _ => some n
  | _, _ => none

def aSlice (T : TT) (t : Nat) (x : AV) (lo hi mx : Option AV) (k : AV → Prop) : Prop :=
  match (T t).kd, x, mx with
  | .str, .str l, none => ∃ a b : Int, aBnd lo 0 = some a ∧ aBnd hi l.length = some b ∧ 0 ≤ a ∧ a ≤ b ∧ b ≤ l.length ∧ k (.str ((l.take b.toNat).drop a.toNat))
  | .slice e, .sl s rows, none => (T e).kd.isOther = false ∧ s = (T e).size ∧ ∃ a b : Int, aBnd lo 0 = some a ∧ aBnd hi rows.length = some b ∧ 0 ≤ a ∧ a ≤ b ∧ b ≤ rows.length ∧ k (.sl s ((rows.take b.toNat).drop a.toNat))
  | .slice e, .ow _ _ s rows, none => (T e).kd.isOther = false ∧ s = (T e).size ∧ ∃ a b : Int, aBnd lo 0 = some a ∧ aBnd hi rows.length = some b ∧ 0 ≤ a ∧ a ≤ b ∧ b ≤ rows.length ∧ k (.sl s ((rows.take b.toNat).drop a.toNat))
  | .slice e, .sl _ _, some (.int _ m) => (T e).kd.isOther = false ∧ lo = none ∧ m = 0 ∧ aBnd hi 1 = some 0 ∧ k .emp
  | .slice e, .ow _ _ _ _, some (.int _ m) => (T e).kd.isOther = false ∧ lo = none ∧ m = 0 ∧ aBnd hi 1 = some 0 ∧ k .emp
  | .slice e, .sb b n, none => (T e).kd.isOther = false ∧ lo = none ∧ ∃ q : Int, aBnd hi n = some q ∧ 0 ≤ q ∧ q ≤ n ∧ k (.sb b q.toNat)
  | .slice e, .sb b n, some (.int _ m) => (T e).kd.isOther = false ∧ lo = none ∧ hi ≠ none ∧ aBnd hi n = some m ∧ 0 ≤ m ∧ m < n ∧ k (.sb b m.toNat)
  | .slice e, .emp, some (.int _ m) => (T e).kd.isOther = false ∧ lo = none ∧ m = 0 ∧ aBnd hi 1 = some 0 ∧ k .emp
  | _, _, _ => False

def aLen (T : TT) (t : Nat) (x : AV) (k : AV → Prop) : Prop :=
  match (T t).kd, x with
  | .str, .str l => k (.int .i64 l.length)
  | .slice _, .sl _ rows => k (.int .i64 rows.length)
  | .slice _, .ow _ _ _ rows => k (.int .i64 rows.length)
  | .slice _, .emp => k (.int .i64 0)
  | .slice _, .sb _ n => k (.int .i64 n)
  | .arr n _, _ => k (.int .i64 n)
  | _, _ => False

def aMin2 (isMin : Bool) (x y : AV) : Option AV :=
  match x, y with
  | .int ka a, .int _ b => some (.int ka (if isMin then (if b < a then b else a) else (if b > a then b else a)))
  | _, _ => none

def aMins (isMin : Bool) : AV → List AV → Option AV
  | x, [] => some x
  | x, y :: r => match aMin2 isMin x y with
    | some z => aMins isMin z r
    | none => none

def aBuiltin (T : TT) (b : Builtin) (ts : List Nat) (xs : List AV) (k : AV → Prop) : Prop :=
  match b, ts, xs with
  | .len, [t], [x] => aLen T t x k
  | .min, _, x :: r => ∃ c, aMins true x r = some c ∧ k c
  | .max, _, x :: r => ∃ c, aMins false x r = some c ∧ k c
  | _, _, _ => False

def aval (T : TT) (ρ : Operand → AV) (op : Op) (k : AV → Prop) : Prop :=
  match op with
  | .move x | .assign x => k (ρ x)
  | .pick c a b => match ρ c with
    | .bool t => (t = true → k (ρ a)) ∧ (t = false → k (ρ b))
    | _ => False
  | .build t parts => aBuild T t (parts.toList.map fun p => (p.1, ρ p.2)) k
  | .nilCheck x => match ρ x with
    | .cp cs => k (.cp cs)
    | .ptr b o => k (.ptr b o)
    | .fn f cs => k (.fn f cs)
    | _ => False
  | .binOp op t x y _ => if nilO y = true then aNil T op t (ρ x) k else if nilI y = true then aErr T op t (ρ x) k else if nilP y = true then aPtr T op t (ρ x) k else aBin T op t (ρ x) (ρ y) k
  | .unOp op _ x => aUn op (ρ x) k
  | .convert src dst x => aConv T src dst (ρ x) k
  | .makeFunc (.func f) first captured => first = #[] ∧ k (.fn f (captured.toList.map ρ))
  | .fieldAddr t x f => aFieldAddr T t (ρ x) f k
  | .field t x f => aField T t (ρ x) f k
  | .indexAddr t x i => aIndexAddr T t (ρ x) (ρ i) k
  | .index t x i => aIndex T t (ρ x) (ρ i) k
  | .slice t x lo hi mx => aSlice T t (ρ x) (lo.map ρ) (hi.map ρ) (mx.map ρ) k
  | .extract x i => match ρ x with
    | .tup vs => ∃ c, vs[i]? = some c ∧ k c
    | _ => False
  | .call { callee := .builtin b, args := args, argTypes := ts } => aBuiltin T b ts.toList (args.toList.map ρ) k
  | _ => False

end Go.Ab
end

section
namespace Go.Ab
open Go Go.RowKit
set_option linter.unusedVariables false
set_option linter.unusedSimpArgs false

variable {P : Program} {T : TT}

theorem aInt_sound {op : BinOp} {ka kb : IntKind} {a b : Int} {k : AV → Prop} (h : aInt op ka kb a b k) (t : Nat) :
    ∃ c, k c ∧ ∀ (E : Env) (w : World), ∃ v, (binOp op t (.int ka a) (.int kb b)).run P w = .ok v w ∧ VR E c v := by
  cases op <;> simp only [aInt] at h
  case shl =>
    refine ⟨_, h.2, fun E w => ⟨_, ?_, .int _ _⟩⟩
    simp [binOp, Op.shift, Int.not_lt.2 h.1]
  case shr =>
    refine ⟨_, h.2, fun E w => ⟨_, ?_, .int _ _⟩⟩
    simp [binOp, Op.shift, Int.not_lt.2 h.1]
  case quo =>
    obtain ⟨rfl, h1, h2⟩ := h
    refine ⟨_, h2, fun E w => ⟨_, ?_, .int _ _⟩⟩
    simp [binOp, Op.intDiv, h1]
  case rem =>
    obtain ⟨rfl, h1, h2⟩ := h
    refine ⟨_, h2, fun E w => ⟨_, ?_, .int _ _⟩⟩
    simp [binOp, Op.intDiv, h1]
  all_goals
    obtain ⟨rfl, h2⟩ := h
    refine ⟨_, h2, fun E w => ⟨_, ?_, by constructor⟩⟩
    simp [binOp, Op.intArith, Op.intCmp, Op.intBits, bits]

theorem bool_eql_run (w : World) (t : Nat) (a b : Bool) (h : P.underlying t = some .bool) : (binOp .eql t (.bool a) (.bool b)).run P w = .ok (.bool (a == b)) w := by
  simp only [binOp]
  simp [Op.equal, Op.maxDepth, run_equalIn_bool' w 9999 t a b h]
theorem bool_neq_run (w : World) (t : Nat) (a b : Bool) (h : P.underlying t = some .bool) : (binOp .neq t (.bool a) (.bool b)).run P w = .ok (.bool (a != b)) w := by
  simp only [binOp]
  simp [Op.equal, Op.maxDepth, run_equalIn_bool' w 9999 t a b h, bne]

theorem guard_one (w : World) (op : BinOp) (t : Nat) (x y : Operand) (u v : Value) (h : (∀ c, u ≠ .agg c) ∧ u ≠ .nilIface) : (eqGuard op t x y u v).run P w = .ok () w := by
  obtain ⟨h1, h2⟩ := h
  cases op <;> simp [eqGuard] <;> cases u <;> simp_all

theorem aBin_sound (hT : TabOk P T) {op : BinOp} {t : Nat} {x y : AV} {k : AV → Prop} (h : aBin T op t x y k) (ox oy : Operand) :
    ∃ c, k c ∧ ∀ (E : Env) (w : World) (vx vy : Value), VR E x vx → VR E y vy →
      ∃ v, ((do eqGuard op t ox oy vx vy; binOp op t vx vy) : Sem Value).run P w = .ok v w ∧ VR E c v := by
  unfold aBin at h
  split at h
  · rename_i ka a kb b
    obtain ⟨c, h1, h2⟩ := aInt_sound (P := P) h t
    refine ⟨c, h1, fun E w vx vy hx hy => ?_⟩
    cases hx; cases hy
    obtain ⟨v, h3, h4⟩ := h2 E w
    exact ⟨v, by rw [Sem.run_bind, guard_one w op t ox oy _ _ ⟨fun _ => by simp, by simp⟩]; exact h3, h4⟩
  · rename_i a b
    have hb : ∀ l : List UInt8, (⟨l.toArray⟩ : ByteArray).toList = l := fun l => by rw [ByteArray.toList_eq]
    cases op <;> simp only at h
    case add =>
      refine ⟨_, h.2, fun E w vx vy hx hy => ?_⟩
      cases hx; cases hy
      refine ⟨.string ⟨(a ++ b).toArray⟩, ?_, .str _⟩
      rw [Sem.run_bind, guard_one w _ t ox oy _ _ ⟨fun _ => by simp, by simp⟩]
      have hsz : ¬ ((a.length + b.length : Nat) : Int) > IntKind.i64.max := by
        have : IntKind.i64.max = 9223372036854775807 := rfl
        omega
      simp only [Result.andThen_ok, binOp, Op.stringOp]
      have e : ByteArray.size ⟨a.toArray⟩ = a.length ∧ ByteArray.size ⟨b.toArray⟩ = b.length := ⟨by simp [ByteArray.size], by simp [ByteArray.size]⟩
      rw [e.1, e.2, if_neg hsz]
      simp only [Sem.run_pure]
      congr 2
    all_goals first
      | exact h.elim
      | (refine ⟨_, h, fun E w vx vy hx hy => ?_⟩
         cases hx; cases hy
         refine ⟨_, ?_, .bool _⟩
         rw [Sem.run_bind, guard_one w _ t ox oy _ _ ⟨fun _ => by simp, by simp⟩]
         simp [binOp, Op.stringOp, hb, bne])
  · rename_i a b
    cases op <;> simp only at h
    case eql =>
      refine ⟨_, h.2, fun E w vx vy hx hy => ?_⟩
      cases hx; cases hy
      have hk := hT.kd (t := t) (by rw [h.1]; rfl)
      rw [h.1] at hk
      exact ⟨_, by rw [Sem.run_bind, guard_one w _ t ox oy _ _ ⟨fun _ => by simp, by simp⟩]; exact bool_eql_run w t a b hk, .bool _⟩
    case neq =>
      refine ⟨_, h.2, fun E w vx vy hx hy => ?_⟩
      cases hx; cases hy
      have hk := hT.kd (t := t) (by rw [h.1]; rfl)
      rw [h.1] at hk
      exact ⟨_, by rw [Sem.run_bind, guard_one w _ t ox oy _ _ ⟨fun _ => by simp, by simp⟩]; exact bool_neq_run w t a b hk, .bool _⟩
    all_goals exact h.elim
  · rename_i xs ys
    obtain ⟨hag, h⟩ := h
    have hg : P.eqGuardType P.depth t = false := by
      have hno : (T t).kd.isOther = false := by cases hk : (T t).kd <;> rw [hk] at hag <;> first | rfl | cases hag
      have := hT.kd hno
      cases hk : (T t).kd <;> rw [hk] at hag this <;> simp only [AKind.isAgg] at hag
      case st => obtain ⟨_, _, _, _, h4, _⟩ := this; exact h4
      case arr => exact this.2
      all_goals cases hag
    cases op <;> simp only at h
    case eql =>
      obtain ⟨b, h1, h2⟩ := h
      refine ⟨_, h2, fun E w vx vy hx hy => ?_⟩
      have := eqT_sound hT 10 t xs ys b h1 10000 vx vy (by omega) (fun _ => ⟨hx, hy⟩) (fun z => by rw [hag] at z; cases z) (fun z => by rw [hag] at z; cases z) w
      obtain ⟨us, rfl, _⟩ := hx.of_agg
      obtain ⟨zs, rfl, _⟩ := hy.of_agg
      exact ⟨.bool b, by rw [Sem.run_bind, run_eqGuard_agg w _ t ox oy us zs hg, Result.andThen_ok, run_eql_struct, this]; rfl, .bool _⟩
    case neq =>
      obtain ⟨b, h1, h2⟩ := h
      refine ⟨_, h2, fun E w vx vy hx hy => ?_⟩
      have := eqT_sound hT 10 t xs ys b h1 10000 vx vy (by omega) (fun _ => ⟨hx, hy⟩) (fun z => by rw [hag] at z; cases z) (fun z => by rw [hag] at z; cases z) w
      obtain ⟨us, rfl, _⟩ := hx.of_agg
      obtain ⟨zs, rfl, _⟩ := hy.of_agg
      exact ⟨.bool (!b), by rw [Sem.run_bind, run_eqGuard_agg w _ t ox oy us zs hg, Result.andThen_ok, run_neq_struct, this]; rfl, .bool _⟩
    all_goals exact h.elim
  · exact h.elim

theorem run_equalIn_nil (w : World) (d t : Nat) {e : Nat} (a : Option Addr) (n cap : Nat) (h : P.underlying t = some (.slice e)) : (Op.equalIn (d + 1) t (.slice a n cap) (.slice none 0 0)).run P w = .ok a.isNone w := by
  cases a with
  | none => simp [Op.equalIn, run_underlying h]
  | some a => simp [Op.equalIn, run_underlying h]
theorem nil_eql_run (w : World) (t : Nat) {e : Nat} (a : Option Addr) (n cap : Nat) (h : P.underlying t = some (.slice e)) : (binOp .eql t (.slice a n cap) (.slice none 0 0)).run P w = .ok (.bool a.isNone) w := by
  simp only [binOp]
  simp [Op.equal, Op.maxDepth, run_equalIn_nil w 9999 t a n cap h]
theorem nil_run (w : World) (t : Nat) {e : Nat} (h : P.underlying t = some (.slice e)) (ox oy : Operand) (a : Option Addr) (n cap : Nat) :
    ((do eqGuard .eql t ox oy (.slice a n cap) (.slice none 0 0); binOp .eql t (.slice a n cap) (.slice none 0 0)) : Sem Value).run P w = .ok (.bool a.isNone) w := by
  rw [Sem.run_bind, guard_one w _ t ox oy _ _ ⟨fun _ => by simp, by simp⟩]
  exact nil_eql_run w t a n cap h
theorem aNil_sound (hT : TabOk P T) {op : BinOp} {t : Nat} {x : AV} {k : AV → Prop} (h : aNil T op t x k) (ox oy : Operand) :
    ∃ c, k c ∧ ∀ (E : Env) (w : World) (vx : Value), VR E x vx →
      ∃ v, ((do eqGuard op t ox oy vx (.slice none 0 0); binOp op t vx (.slice none 0 0)) : Sem Value).run P w = .ok v w ∧ VR E c v := by
  unfold aNil at h
  have und : ∀ {e}, (T t).kd = .slice e → P.underlying t = some (.slice e) := fun {e} hk => by
    have := hT.kd (t := t) (by rw [hk]; rfl)
    rw [hk] at this; exact this
  split at h
  · rename_i e s rows hk
    refine ⟨_, h, fun E w vx hx => ?_⟩
    cases hx with
    | sl _ _ a cap g h0 _ _ _ => exact ⟨_, nil_run w t (und hk) ox oy _ _ _, .ub _ _ fun q => by
        cases rows with
        | nil => rfl
        | cons r l => have := h0 (by simp); cases a <;> simp_all⟩
  · rename_i e t' e' s rows hk
    refine ⟨_, h, fun E w vx hx => ?_⟩
    cases hx with
    | ow _ _ _ _ a cap g h0 _ _ _ _ _ _ => exact ⟨_, nil_run w t (und hk) ox oy _ _ _, .ub _ _ fun q => by
        cases rows with
        | nil => rfl
        | cons r l => have := h0 (by simp); cases a <;> simp_all⟩
  · rename_i e hk
    refine ⟨_, h, fun E w vx hx => ?_⟩
    cases hx with
    | emp a => exact ⟨_, nil_run w t (und hk) ox oy _ _ _, .ub _ _ fun _ => rfl⟩
  · rename_i e b n hk
    refine ⟨_, h, fun E w vx hx => ?_⟩
    cases hx with
    | sb _ _ g cap _ _ _ _ _ => exact ⟨_, nil_run w t (und hk) ox oy _ _ _, .bool _⟩
  · exact h.elim

theorem run_equalIn_err (w : World) (d t : Nat) {ms} (h : P.underlying t = some (.interface ms)) : (Op.equalIn (d + 1) t .nilIface .nilIface).run P w = .ok true w ∧ ∀ ty v, (Op.equalIn (d + 1) t (.iface ty v) .nilIface).run P w = .ok false w :=
  ⟨by simp [Op.equalIn, run_underlying h], fun ty v => by simp [Op.equalIn, run_underlying h]⟩
theorem err_eql_run (w : World) (t : Nat) {ms} (h : P.underlying t = some (.interface ms)) : (binOp .eql t .nilIface .nilIface).run P w = .ok (.bool true) w ∧ ∀ ty v, (binOp .eql t (.iface ty v) .nilIface).run P w = .ok (.bool false) w := by
  have h1 := (run_equalIn_err w 9999 t h).1
  have h2 := (run_equalIn_err w 9999 t h).2
  refine ⟨?_, fun ty v => ?_⟩
  · simp only [binOp]
    simp [Op.equal, Op.maxDepth, h1]
  · simp only [binOp]
    simp [Op.equal, Op.maxDepth, h2]
theorem err_neq_run (w : World) (t : Nat) {ms} (h : P.underlying t = some (.interface ms)) : (binOp .neq t .nilIface .nilIface).run P w = .ok (.bool false) w ∧ ∀ ty v, (binOp .neq t (.iface ty v) .nilIface).run P w = .ok (.bool true) w := by
  have h1 := (run_equalIn_err w 9999 t h).1
  have h2 := (run_equalIn_err w 9999 t h).2
  refine ⟨?_, fun ty v => ?_⟩
  · simp only [binOp]
    simp [Op.equal, Op.maxDepth, h1]
  · simp only [binOp]
    simp [Op.equal, Op.maxDepth, h2]
theorem err_guard (w : World) (op : BinOp) (t : Nat) (ox : Operand) (u : Value) (h : u = .nilIface ∨ ∃ ty v, u = .iface ty v) : (eqGuard op t ox (.const .nilIface) u .nilIface).run P w = .ok () w := by
  rcases h with rfl | ⟨ty, v, rfl⟩ <;> cases op <;> simp [eqGuard]
theorem aErr_sound (hT : TabOk P T) {op : BinOp} {t : Nat} {x : AV} {k : AV → Prop} (h : aErr T op t x k) (ox : Operand) :
    ∃ c, k c ∧ ∀ (E : Env) (w : World) (vx : Value), VR E x vx →
      ∃ v, ((do eqGuard op t ox (.const .nilIface) vx .nilIface; binOp op t vx .nilIface) : Sem Value).run P w = .ok v w ∧ VR E c v := by
  unfold aErr at h
  split at h
  · rename_i b hk
    have hu := hT.kd (t := t) (by rw [hk]; rfl)
    rw [hk] at hu
    obtain ⟨ms, hu⟩ := hu
    refine ⟨_, h, fun E w vx hx => ?_⟩
    cases hx with
    | er0 => exact ⟨_, by rw [Sem.run_bind, err_guard w _ t ox _ (.inl rfl), Result.andThen_ok]; exact (err_eql_run w t hu).1, .bool _⟩
    | er1 ty v => exact ⟨_, by rw [Sem.run_bind, err_guard w _ t ox _ (.inr ⟨_, _, rfl⟩), Result.andThen_ok]; exact (err_eql_run w t hu).2 _ _, .bool _⟩
  · rename_i b hk
    have hu := hT.kd (t := t) (by rw [hk]; rfl)
    rw [hk] at hu
    obtain ⟨ms, hu⟩ := hu
    refine ⟨_, h, fun E w vx hx => ?_⟩
    cases hx with
    | er0 => exact ⟨_, by rw [Sem.run_bind, err_guard w _ t ox _ (.inl rfl), Result.andThen_ok]; exact (err_neq_run w t hu).1, .bool _⟩
    | er1 ty v => exact ⟨_, by rw [Sem.run_bind, err_guard w _ t ox _ (.inr ⟨_, _, rfl⟩), Result.andThen_ok]; exact (err_neq_run w t hu).2 _ _, .bool _⟩
  · exact h.elim

theorem pNil_vr {E : Env} {x : AV} {vx : Value} {b : Bool} (h : pNil x = some b) (hx : VR E x vx) : ∃ a, vx = .pointer a ∧ a.isNone = b := by
  unfold pNil at h
  split at h
  · injection h with h; subst h; cases hx; exact ⟨_, rfl, rfl⟩
  · injection h with h; subst h; cases hx; exact ⟨_, rfl, rfl⟩
  · injection h with h; subst h; cases hx; exact ⟨_, rfl, rfl⟩
  · cases h
theorem run_equalIn_ptr (w : World) (d t : Nat) {e} (h : P.underlying t = some (.pointer e)) (a : Option Addr) : (Op.equalIn (d + 1) t (.pointer a) (.pointer none)).run P w = .ok a.isNone w := by
  cases a <;> simp [Op.equalIn, run_underlying h]
theorem ptr_run (w : World) (t : Nat) {e} (h : P.underlying t = some (.pointer e)) (a : Option Addr) : (binOp .eql t (.pointer a) (.pointer none)).run P w = .ok (.bool a.isNone) w ∧ (binOp .neq t (.pointer a) (.pointer none)).run P w = .ok (.bool (!a.isNone)) w := by
  have h1 := run_equalIn_ptr w 9999 t h a
  refine ⟨?_, ?_⟩
  · simp only [binOp]
    simp [Op.equal, Op.maxDepth, h1]
  · simp only [binOp]
    simp [Op.equal, Op.maxDepth, h1]
theorem ptr_guard (w : World) (op : BinOp) (t : Nat) (ox : Operand) (a : Option Addr) : (eqGuard op t ox (.const (.pointer none)) (.pointer a) (.pointer none)).run P w = .ok () w := by
  cases op <;> simp [eqGuard]
theorem aPtr_sound (hT : TabOk P T) {op : BinOp} {t : Nat} {x : AV} {k : AV → Prop} (h : aPtr T op t x k) (ox : Operand) :
    ∃ c, k c ∧ ∀ (E : Env) (w : World) (vx : Value), VR E x vx →
      ∃ v, ((do eqGuard op t ox (.const (.pointer none)) vx (.pointer none); binOp op t vx (.pointer none)) : Sem Value).run P w = .ok v w ∧ VR E c v := by
  unfold aPtr at h
  split at h
  · rename_i e b hk hb
    have hu := hT.kd (t := t) (by rw [hk]; rfl)
    rw [hk] at hu
    refine ⟨_, h, fun E w vx hx => ?_⟩
    obtain ⟨a, rfl, rfl⟩ := pNil_vr hb hx
    exact ⟨_, by rw [Sem.run_bind, ptr_guard w _ t ox a, Result.andThen_ok]; exact (ptr_run w t hu a).1, .bool _⟩
  · rename_i e b hk hb
    have hu := hT.kd (t := t) (by rw [hk]; rfl)
    rw [hk] at hu
    refine ⟨_, h, fun E w vx hx => ?_⟩
    obtain ⟨a, rfl, rfl⟩ := pNil_vr hb hx
    exact ⟨_, by rw [Sem.run_bind, ptr_guard w _ t ox a, Result.andThen_ok]; exact (ptr_run w t hu a).2, .bool _⟩
  · exact h.elim

theorem aUn_sound {op : UnOp} {x : AV} {k : AV → Prop} (h : aUn op x k) :
    ∃ c, k c ∧ ∀ (E : Env) (w : World) (vx : Value), VR E x vx → ∃ v, (Op.unary op vx).run P w = .ok v w ∧ VR E c v := by
  unfold aUn at h
  split at h
  · exact ⟨_, h, fun E w vx hx => by cases hx; exact ⟨_, by simp [Op.unary, Op.intArith], .int _ _⟩⟩
  · exact ⟨_, h, fun E w vx hx => by cases hx; exact ⟨_, by simp [Op.unary], .bool _⟩⟩
  · exact h.elim

theorem TabOk.under_int (hT : TabOk P T) {t : Nat} {k : IntKind} (h : (T t).kd = .int k) : P.underlying t = some (.int k) := by
  have := hT.kd (t := t) (by rw [h]; rfl)
  rw [h] at this; exact this

theorem TabOk.under_any (hT : TabOk P T) {t : Nat} (h : (T t).kd.isOther = false) : ∃ d, P.underlying t = some d := by
  have := hT.kd h
  cases hk : (T t).kd <;> rw [hk] at this h <;> simp only [kdOk, AKind.isOther] at this h
  case st => obtain ⟨gs, h1, _⟩ := this; exact ⟨_, h1⟩
  case arr => exact ⟨_, this.1⟩
  case fn => obtain ⟨a, b, c, h1⟩ := this; exact ⟨_, h1⟩
  case ifc => obtain ⟨ms, h1⟩ := this; exact ⟨_, h1⟩
  case other => cases h
  all_goals exact ⟨_, this⟩

theorem aConv_sound (hT : TabOk P T) {src dst : Nat} {x : AV} {k : AV → Prop} (h : aConv T src dst x k) :
    ∃ c, k c ∧ ∀ (E : Env) (w : World) (vx : Value), VR E x vx → ∃ v, (convert src dst vx).run P w = .ok v w ∧ VR E c v := by
  unfold aConv at h
  split at h
  · rename_i kd k' n hk
    obtain ⟨d, hd⟩ := hT.under_any h.1
    have hdst := hT.under_int hk
    refine ⟨_, h.2, fun E w vx hx => ?_⟩
    cases hx
    refine ⟨_, ?_, .int _ _⟩
    simp only [convert, Sem.run_bind, run_underlying hd, run_underlying hdst, Result.andThen_ok]
    cases d <;> simp [Conv.intToInt]
  · rename_i l hk
    obtain ⟨d, hd⟩ := hT.under_any h.1
    have hdst := hT.kd (t := dst) (by rw [hk]; rfl)
    rw [hk] at hdst
    refine ⟨_, h.2, fun E w vx hx => ?_⟩
    cases hx
    refine ⟨_, ?_, .str _⟩
    simp only [convert, Sem.run_bind, run_underlying hd, run_underlying hdst, Result.andThen_ok]
    cases d <;> simp
  · exact h.elim

/-! ### build -/

theorem lay_length : ∀ (r : List AV) (off : Nat) (cs : List AV), (lay off r cs).length = cs.length
  | [], _, _ => rfl
  | c :: r, off, cs => by rw [lay, lay_length r]; simp

theorem VRs.set {E : Env} {cs : List AV} {vs : Array Value} (h : VRs E cs vs.toList) {c : AV} {u : Value} (hu : VR E c u) (i : Nat) : VRs E (cs.set i c) (vs.setIfInBounds i u).toList := by
  refine ⟨by simpa using h.1, fun j d v hd hv => ?_⟩
  rw [Array.toList_setIfInBounds] at hv
  rw [List.getElem?_set] at hd hv
  by_cases e : i = j
  · subst e
    rw [if_pos rfl] at hd hv
    split at hd
    · split at hv
      · injection hd with hd; injection hv with hv; subst hd; subst hv; exact hu
      · cases hv
    · cases hd
  · rw [if_neg e] at hd hv
    exact h.2 j d v hd hv

theorem lay_VRs {E : Env} (off : Nat) : ∀ (r : List AV) (us : List Value) (j0 : Nat) (cs : List AV) (vs : Array Value), VRs E r us → VRs E cs vs.toList →
    VRs E (lay (off + j0) r cs) ((us.zipIdx j0).foldl (fun cs (x : Value × Nat) => cs.setIfInBounds (off + x.2) x.1) vs).toList
  | [], us, j0, cs, vs, hr, hv => by
    have : us = [] := List.eq_nil_of_length_eq_zero hr.1
    subst this
    simpa [lay] using hv
  | c :: r, us, j0, cs, vs, hr, hv => by
    match us, hr with
    | u :: us, hr =>
    have hu : VR E c u := hr.2 0 c u rfl rfl
    have hr' : VRs E r us := ⟨by simpa using hr.1, fun j d v x y => hr.2 (j + 1) d v (by simpa using x) (by simpa using y)⟩
    simp only [lay, List.zipIdx_cons, List.foldl_cons]
    exact lay_VRs off r us (j0 + 1) _ _ hr' (hv.set hu _)

theorem aFill_sound {E : Env} (place : Nat → Option (Nat × Nat)) : ∀ (parts : List (Nat × AV)) (vparts : List (Nat × Value)) (cs out : List AV) (vs : Array Value), aFill place cs parts = some out →
    vparts.length = parts.length → (∀ (j : Nat) p q, parts[j]? = some p → vparts[j]? = some q → p.1 = q.1 ∧ VR E p.2 q.2) → VRs E cs vs.toList →
    ∃ us, Instr.fill place vs vparts = some us ∧ VRs E out us.toList
  | [], vparts, cs, out, vs, h, hl, _, hv => by
    have : vparts = [] := List.eq_nil_of_length_eq_zero hl
    subst this
    simp only [aFill, Option.some.injEq] at h
    subst h
    exact ⟨vs, rfl, hv⟩
  | (i, v) :: r, vparts, cs, out, vs, h, hl, hp, hv => by
    match vparts, hl with
    | (i', u) :: rq, hl =>
    obtain ⟨e1, e2⟩ := hp 0 _ _ rfl rfl
    simp only at e1 e2
    subst e1
    simp only [aFill] at h
    split at h
    · cases h
    · rename_i off size hpl
      split at h
      · rename_i hc
        obtain ⟨c1, c2, c3⟩ := hc
        have hcells : VRs E v.cells u.cells.toList := e2.cells (fun e => by subst e; cases c3)
        have hlen : u.cells.size = size := by rw [hcells.size]; exact c1
        have hvs : vs.size = cs.length := hv.size
        have hlay := lay_VRs (E := E) off v.cells u.cells.toList 0 cs vs hcells hv
        obtain ⟨us, h3, h4⟩ := aFill_sound place r rq _ out _ h (by simpa using hl) (fun j p q x y => hp (j + 1) p q (by simpa using x) (by simpa using y)) hlay
        refine ⟨us, ?_, h4⟩
        simp only [Instr.fill, hpl]
        rw [if_neg (by rw [hlen, hvs]; simp; omega)]
        rw [← h3]
        congr 1
        rw [← Array.foldl_toList, Array.toList_zipIdx]
      · cases h

theorem map_VR {E : Env} {a : Act} {ρ : Operand → AV} (hρ : ∀ x, VR E (ρ x) (a.eval x)) (l : List Operand) : VRs E (l.map ρ) (l.map a.eval) :=
  ⟨by simp, fun j c v hc hv => by
    rw [List.getElem?_map] at hc hv
    cases hx : l[j]? with
    | none => rw [hx] at hc; cases hc
    | some x =>
      rw [hx] at hc hv
      injection hc with hc; injection hv with hv
      subst hc; subst hv
      exact hρ x⟩

theorem zero_VRs (E : Env) (z : Value) : VRs E (z.cells.toList.map cvOne) z.cells.toList :=
  ⟨by simp, fun j c v hc hv => by
    rw [List.getElem?_map, hv] at hc
    injection hc with hc
    subst hc
    exact cvOne_VR E v⟩

theorem run_map {α β : Type} (f : α → β) (m : Sem α) (w : World) : (Functor.map f m).run P w = (m.run P w).andThen fun a w' => .ok (f a) w' := by
  show (m.bind fun a => .pure (f a)).run P w = _
  rw [show (m.bind fun a => Sem.pure (f a)) = (m >>= fun a => pure (f a)) from rfl, Sem.run_bind]
  rfl

theorem fields_mapM (hT : TabOk P T) (w : World) : ∀ (gs : List Field) (fs : List AFd), gs.length = fs.length →
    (∀ (i : Nat) f g, fs[i]? = some f → gs[i]? = some g → g.name ≠ "_" ∧ g.offset = f.off ∧ g.type = f.ty ∧ f.size ≠ 0 ∧ ∃ j, P.info? f.ty = some j ∧ j.size = f.size) →
    (gs.mapM (fun f => do pure (f.offset, ← sizeOf f.type) : Field → Sem (Nat × Nat))).run P w = .ok (fs.map fun f => (f.off, f.size)) w
  | [], fs, h, _ => by
    have : fs = [] := List.eq_nil_of_length_eq_zero h.symm
    subst this
    simp
  | g :: gs, fs, h, hh => by
    match fs, h with
    | f :: fs, h =>
    obtain ⟨_, h2, h3, _, j, h4, h5⟩ := hh 0 f g rfl rfl
    have ih := fields_mapM hT w gs fs (by simpa using h) (fun i f' g' x y => hh (i + 1) f' g' (by simpa using x) (by simpa using y))
    simp only [List.mapM_cons, Sem.run_bind, sizeOf, typeInfo, run_program, Result.andThen_ok, h3, h4, Sem.run_pure, h2, h5] at ih ⊢
    rw [ih]
    rfl

theorem aBuild_sound (hT : TabOk P T) {t : Nat} {parts : List (Nat × AV)} {k : AV → Prop} (h : aBuild T t parts k) :
    ∃ c, k c ∧ ∀ (E : Env) (w : World) (vparts : Array (Nat × Value)), vparts.size = parts.length → (∀ (j : Nat) p q, parts[j]? = some p → vparts[j]? = some q → p.1 = q.1 ∧ VR E p.2 q.2) →
      ∃ v, (Instr.build t vparts).run P w = .ok v w ∧ VR E c v := by
  unfold aBuild at h
  split at h
  · rename_i fs hk
    obtain ⟨cs, h1, h2⟩ := h
    refine ⟨_, h2, fun E w vparts hl hp => ?_⟩
    obtain ⟨i, z, i1, _, _, i4, _, i6, _⟩ := hT.info (t := t) (by rw [hk]; rfl)
    have hkd := hT.kd (t := t) (by rw [hk]; rfl)
    rw [hk] at hkd
    obtain ⟨gs, g1, g2, _, _, g5⟩ := hkd
    rw [i6] at h1
    obtain ⟨us, u1, u2⟩ := aFill_sound (E := E) (stPlace fs) parts vparts.toList _ cs z.cells h1 (by simpa using hl) (fun j p q x y => hp j p q x (by simpa using y)) (zero_VRs E z)
    refine ⟨.agg us, ?_, u2.agg⟩
    have hm := fields_mapM hT w gs.toList fs (by simpa using g2) (fun i f g x y => g5 i f g x (by simpa using y))
    have hm2 : (gs.mapM (fun f => do pure (f.offset, ← sizeOf f.type) : Field → Sem (Nat × Nat))).run P w = .ok (fs.map fun f => (f.off, f.size)).toArray w := by
      rw [← Array.toArray_toList (xs := gs), List.mapM_toArray, run_map, hm]
      rfl
    have hz : (zeroValue t).run P w = .ok z w := by simp [zeroValue, typeInfo, i1, i4]
    simp only [Instr.build, Sem.run_bind, hz, Result.andThen_ok, run_underlying g1, hm2]
    have hpl : (fun i => (fs.map fun f => (f.off, f.size)).toArray[i]?) = stPlace fs := by
      funext i; simp [stPlace]
    simp only [hpl, u1]
    rfl
  · rename_i n e hk
    obtain ⟨hne, cs, h1, h2⟩ := h
    refine ⟨_, h2, fun E w vparts hl hp => ?_⟩
    obtain ⟨i, z, i1, _, _, i4, _, i6, _⟩ := hT.info (t := t) (by rw [hk]; rfl)
    have hkd := hT.kd (t := t) (by rw [hk]; rfl)
    rw [hk] at hkd
    rw [i6] at h1
    obtain ⟨us, u1, u2⟩ := aFill_sound (E := E) _ parts vparts.toList _ cs z.cells h1 (by simpa using hl) (fun j p q x y => hp j p q x (by simpa using y)) (zero_VRs E z)
    refine ⟨.agg us, ?_, u2.agg⟩
    have hz : (zeroValue t).run P w = .ok z w := by simp [zeroValue, typeInfo, i1, i4]
    simp only [Instr.build, Sem.run_bind, hz, Result.andThen_ok, run_underlying hkd.1, hT.size hne, u1]
    rfl
  · exact h.elim

end Go.Ab
end

section
namespace Go.Ab
open Go Go.RowKit
set_option linter.unusedVariables false
set_option linter.unusedSimpArgs false

variable {P : Program} {T : TT}

theorem size_str (l : List UInt8) : (⟨l.toArray⟩ : ByteArray).size = l.length := by
  show l.toArray.size = l.length
  simp

theorem aPart_sound (hT : TabOk P T) {ty off : Nat} {cs : List AV} {k : AV → Prop} (h : aPart T ty off cs k) :
    ∃ c, k c ∧ ∀ (E : Env) (w : World) (vs : Array Value), VRs E cs vs.toList → ∃ v, (part ty vs off).run P w = .ok v w ∧ VR E c v := by
  obtain ⟨hno, h⟩ := h
  cases hag : (T ty).kd.isAgg with
  | true =>
    rw [hag, if_pos rfl] at h
    exact ⟨_, h, fun E w vs hv => ⟨_, run_part_agg hT hno hag vs off w, (hv.cut off _).agg⟩⟩
  | false =>
    rw [hag, if_neg (by simp)] at h
    obtain ⟨c, hc, hk⟩ := h
    refine ⟨c, hk, fun E w vs hv => ?_⟩
    obtain ⟨v, h1, h2⟩ := hv.get hc
    exact ⟨v, run_part_one hT hno hag (by simpa using h1) w, h2⟩

/-- A field of a struct type of the table. -/
theorem TabOk.field (hT : TabOk P T) {t : Nat} {fs : List AFd} (hk : (T t).kd = .st fs) {f : Nat} {fd : AFd} (hf : fs[f]? = some fd) :
    ∃ gs g j, P.underlying t = some (.struct gs) ∧ gs[f]? = some g ∧ g.offset = fd.off ∧ g.type = fd.ty ∧ fd.size ≠ 0 ∧ P.info? fd.ty = some j ∧ j.size = fd.size := by
  have hkd := hT.kd (t := t) (by rw [hk]; rfl)
  rw [hk] at hkd
  obtain ⟨gs, g1, g2, _, _, g5⟩ := hkd
  have hlt : f < gs.size := by rw [g2]; exact (List.getElem?_eq_some_iff.1 hf).1
  have hg : gs[f]? = some gs[f] := Array.getElem?_eq_getElem hlt
  obtain ⟨_, h2, h3, h4, j, h5, h6⟩ := g5 f fd _ hf hg
  exact ⟨gs, gs[f], j, g1, hg, h2, h3, h4, h5, h6⟩

theorem aField_sound (hT : TabOk P T) {t f : Nat} {x : AV} {k : AV → Prop} (h : aField T t x f k) :
    ∃ c, k c ∧ ∀ (E : Env) (w : World) (vx : Value), VR E x vx → ∃ v, (Instr.field t vx f).run P w = .ok v w ∧ VR E c v := by
  unfold aField at h
  split at h
  · rename_i fs cs hk
    obtain ⟨fd, hf, h⟩ := h
    obtain ⟨c, hc, hs⟩ := aPart_sound hT h
    obtain ⟨gs, g, j, g1, g2, g3, g4, _⟩ := hT.field hk hf
    refine ⟨c, hc, fun E w vx hx => ?_⟩
    obtain ⟨us, rfl, hu⟩ := hx.of_agg
    obtain ⟨v, h1, h2⟩ := hs E w us hu
    refine ⟨v, ?_, h2⟩
    simp only [Instr.field, Sem.run_bind, run_underlying g1, Result.andThen_ok, g2, asAgg, Sem.run_pure, g3, g4]
    exact h1
  · exact h.elim

theorem drop_cp {E : Env} {cells : List AV} {a : Addr} {g : Nat → Value} (h1 : ∀ (j : Nat) c, cells[j]? = some c → E.F (a.add j) (g j)) (h2 : ∀ (j : Nat) c, cells[j]? = some c → VI E.F c (g j)) (n : Nat) :
    VR E (.cp (cells.drop n)) (.pointer (some (a.add n))) :=
  .cp _ _ (fun j => g (n + j)) (fun j c hc => by rw [List.getElem?_drop] at hc; rw [add_add]; exact h1 _ c hc) (fun j c hc => by rw [List.getElem?_drop] at hc; exact h2 _ c hc)

theorem aFieldAddr_sound (hT : TabOk P T) {t f : Nat} {x : AV} {k : AV → Prop} (h : aFieldAddr T t x f k) :
    ∃ c, k c ∧ ∀ (E : Env) (w : World) (vx : Value), VR E x vx → ∃ v, (Instr.fieldAt t vx f).run P w = .ok v w ∧ VR E c v := by
  unfold aFieldAddr at h
  split at h
  · rename_i fs cells hk
    obtain ⟨fd, hf, h⟩ := h
    obtain ⟨gs, g, j, g1, g2, g3, g4, g5, g6, g7⟩ := hT.field hk hf
    refine ⟨_, h, fun E w vx hx => ?_⟩
    cases hx with
    | cp cells a g' h1 h2 =>
    refine ⟨_, ?_, drop_cp h1 h2 fd.off⟩
    have hsz : j.size ≠ 0 := by rw [g7]; exact g5
    simp [Instr.fieldAt, run_underlying g1, g2, Instr.sureAddr, fieldPlace, sizeOf, typeInfo, g4, g6, g3, hsz]
  · rename_i fs b o hk
    obtain ⟨fd, hf, h⟩ := h
    obtain ⟨gs, g, j, g1, g2, g3, g4, g5, g6, g7⟩ := hT.field hk hf
    refine ⟨_, h, fun E w vx hx => ?_⟩
    cases hx with
    | ptr b off g' hk' hb =>
    refine ⟨.pointer (some ⟨g', o + fd.off, none⟩), ?_, .ptr b _ g' hk' hb⟩
    have hsz : j.size ≠ 0 := by rw [g7]; exact g5
    simp [Instr.fieldAt, run_underlying g1, g2, Instr.sureAddr, fieldPlace, sizeOf, typeInfo, g4, g6, g3, hsz, add_lit]
  · rename_i fs b s i hk
    obtain ⟨fd, hf, h⟩ := h
    obtain ⟨gs, g, j, g1, g2, g3, g4, g5, g6, g7⟩ := hT.field hk hf
    have hsz : j.size ≠ 0 := by rw [g7]; exact g5
    rcases h with ⟨h0, h⟩ | h
    · refine ⟨_, h, fun E w vx hx => ?_⟩
      cases hx with
      | ep b s i g' hk' hb hm =>
      refine ⟨.pointer (some ⟨g', i * s, none⟩), ?_, .ep b s i g' hk' hb hm⟩
      simp [Instr.fieldAt, run_underlying g1, g2, Instr.sureAddr, fieldPlace, sizeOf, typeInfo, g4, g6, g3, hsz, add_lit, h0]
    · refine ⟨_, h, fun E w vx hx => ?_⟩
      cases hx with
      | ep b s i g' hk' hb hm =>
      refine ⟨.pointer (some ⟨g', i * s + fd.off, none⟩), ?_, .ef b s i _ g' hk' hb hm⟩
      simp [Instr.fieldAt, run_underlying g1, g2, Instr.sureAddr, fieldPlace, sizeOf, typeInfo, g4, g6, g3, hsz, add_lit]
  · exact h.elim

theorem row_cp {E : Env} {s : Nat} {rows : List (List AV)} {x : Value} (hx : Src E s rows x) {i : Nat} {row : List AV} (hr : rows[i]? = some row) :
    ∃ ad cap, x = .slice (some ad) rows.length cap ∧ VR E (.cp row) (.pointer (some (ad.add (i * s)))) := by
  obtain ⟨a, cap, g, rfl, h0, h1, h2, _⟩ := hx
  have hi : i < rows.length := (List.getElem?_eq_some_iff.1 hr).1
  obtain ⟨ad, rfl⟩ := Option.isSome_iff_exists.1 (h0 (by omega))
  refine ⟨ad, cap, rfl, .cp row _ (fun j => g i j) (fun j c hc => ?_) (fun j c hc => h2 i row j c hr hc)⟩
  rw [add_add]
  exact h1 i row j c ad hr hc rfl

theorem aIndexAddr_sound (hT : TabOk P T) {t : Nat} {x i : AV} {k : AV → Prop} (h : aIndexAddr T t x i k) :
    ∃ c, k c ∧ ∀ (E : Env) (w : World) (vx vi : Value), VR E x vx → VR E i vi → ∃ v, (Instr.indexAt t vx vi).run P w = .ok v w ∧ VR E c v := by
  have sl : ∀ (e s : Nat) (rows : List (List AV)) (n : Int) (row : List AV), (T t).kd = .slice e → (T e).kd.isOther = false → s = (T e).size → 0 ≤ n → rows[n.toNat]? = some row →
      ∀ (E : Env) (w : World) (vx vi : Value) (kd : IntKind), Src E s rows vx → VR E (.int kd n) vi → ∃ v, (Instr.indexAt t vx vi).run P w = .ok v w ∧ VR E (.cp row) v := by
    intro e s rows n row hk hno hs h0 hr E w vx vi kd hx hi
    have hkd := hT.kd (t := t) (by rw [hk]; rfl)
    rw [hk] at hkd
    obtain ⟨ad, cap, rfl, hcp⟩ := row_cp hx hr
    cases hi
    refine ⟨_, ?_, hcp⟩
    have hlt : n.toNat < rows.length := (List.getElem?_eq_some_iff.1 hr).1
    have hlt' : n < rows.length := by omega
    simp only [kdOk] at hkd
    simp [Instr.indexAt, asIntOf, run_underlying hkd, h0, hlt', hT.size hno, hs]
  unfold aIndexAddr at h
  split at h
  · rename_i e s rows kd n hk
    obtain ⟨hno, hs, row, h0, hr, h⟩ := h
    exact ⟨_, h, fun E w vx vi hx hi => sl e s rows n row hk hno hs h0 hr E w vx vi kd (.of_sl hx) hi⟩
  · rename_i e _ _ s rows kd n hk
    obtain ⟨hno, hs, row, h0, hr, h⟩ := h
    exact ⟨_, h, fun E w vx vi hx hi => sl e s rows n row hk hno hs h0 hr E w vx vi kd (.of_ow hx) hi⟩
  · rename_i e b m kd n hk
    obtain ⟨hno, h0, h1, h⟩ := h
    have hkd := hT.kd (t := t) (by rw [hk]; rfl)
    rw [hk] at hkd
    simp only [kdOk] at hkd
    refine ⟨_, h, fun E w vx vi hx hi => ?_⟩
    cases hx with
    | sb b m g cap hk' hb hn hm hv =>
    cases hi
    refine ⟨.pointer (some ⟨g, n.toNat * (T e).size, none⟩), ?_, .ep b _ _ g hk' hb (by omega)⟩
    simp [Instr.indexAt, asIntOf, run_underlying hkd, h0, h1, hT.size hno, add_lit]
  · rename_i m e b o kd n hk
    obtain ⟨hno, h0, h1, h⟩ := h
    have hkd := hT.kd (t := t) (by rw [hk]; rfl)
    rw [hk] at hkd
    refine ⟨_, h, fun E w vx vi hx hi => ?_⟩
    cases hx with
    | ptr b off g hk' hb =>
    cases hi
    refine ⟨.pointer (some ⟨g, o + n.toNat * (T e).size, none⟩), ?_, .ptr b _ g hk' hb⟩
    simp [Instr.indexAt, asIntOf, run_underlying hkd.1, Instr.sureAddr, h0, h1, hT.size hno, add_lit]
  · rename_i m e cells kd n hk
    obtain ⟨hno, h0, h1, h⟩ := h
    have hkd := hT.kd (t := t) (by rw [hk]; rfl)
    rw [hk] at hkd
    refine ⟨_, h, fun E w vx vi hx hi => ?_⟩
    cases hx with
    | cp cells a g' g1 g2 =>
    cases hi
    refine ⟨_, ?_, drop_cp g1 g2 _⟩
    simp [Instr.indexAt, asIntOf, run_underlying hkd.1, Instr.sureAddr, h0, h1, hT.size hno]
  · exact h.elim

theorem aIndex_sound (hT : TabOk P T) {t : Nat} {x i : AV} {k : AV → Prop} (h : aIndex T t x i k) :
    ∃ c, k c ∧ ∀ (E : Env) (w : World) (vx vi : Value), VR E x vx → VR E i vi → ∃ v, (Instr.index t vx vi).run P w = .ok v w ∧ VR E c v := by
  unfold aIndex at h
  split at h
  · rename_i l kd n hk
    obtain ⟨c, h0, hc, h⟩ := h
    have hkd := hT.kd (t := t) (by rw [hk]; rfl)
    rw [hk] at hkd
    refine ⟨_, h, fun E w vx vi hx hi => ?_⟩
    cases hx; cases hi
    refine ⟨_, ?_, .int _ _⟩
    simp only [kdOk] at hkd
    have hb : (⟨l.toArray⟩ : ByteArray)[n.toNat]? = some c := by
      have hlt : n.toNat < l.length := (List.getElem?_eq_some_iff.1 hc).1
      have hlt2 : n.toNat < (⟨l.toArray⟩ : ByteArray).size := by rw [size_str]; exact hlt
      rw [getElem?_pos (⟨l.toArray⟩ : ByteArray) n.toNat hlt2]
      have := (List.getElem?_eq_some_iff.1 hc).2
      simpa [ByteArray.getElem_eq_getElem_data] using this
    simp [Instr.index, asIntOf, run_underlying hkd, h0, hb]
  · rename_i m e cs kd n hk
    obtain ⟨h0, h1, h⟩ := h
    have hkd := hT.kd (t := t) (by rw [hk]; rfl)
    rw [hk] at hkd
    have hno := h.1
    obtain ⟨c, hc, hs⟩ := aPart_sound hT h
    refine ⟨_, hc, fun E w vx vi hx hi => ?_⟩
    obtain ⟨us, rfl, hu⟩ := hx.of_agg
    cases hi
    obtain ⟨v, h2, h3⟩ := hs E w us hu
    refine ⟨v, ?_, h3⟩
    simp only [Instr.index, asIntOf, Sem.run_bind, Sem.run_pure, Result.andThen_ok, run_underlying hkd.1]
    rw [if_pos ⟨h0, h1⟩]
    simp only [Sem.run_bind, hT.size hno, Result.andThen_ok]
    exact h2
  · exact h.elim

theorem aLen_sound (hT : TabOk P T) {t ty : Nat} {x : AV} {k : AV → Prop} (h : aLen T t x k) :
    ∃ c, k c ∧ ∀ (E : Env) (w : World) (vx : Value), VR E x vx → ∃ v, (Builtin.len_ #[t] ty #[vx]).run P w = .ok v w ∧ VR E c v := by
  unfold aLen at h
  split at h
  · rename_i l hk
    have hkd := hT.kd (t := t) (by rw [hk]; rfl)
    rw [hk] at hkd
    simp only [kdOk] at hkd
    refine ⟨_, h, fun E w vx hx => ?_⟩
    cases hx
    exact ⟨_, by simp [Builtin.len_, run_underlying hkd, goInt, size_str], .int _ _⟩
  · rename_i e s rows hk
    have hkd := hT.kd (t := t) (by rw [hk]; rfl)
    rw [hk] at hkd
    simp only [kdOk] at hkd
    refine ⟨_, h, fun E w vx hx => ?_⟩
    obtain ⟨a, cap, g, rfl, _⟩ := Src.of_sl hx
    exact ⟨_, by simp [Builtin.len_, run_underlying hkd, goInt], .int _ _⟩
  · rename_i e _ _ s rows hk
    have hkd := hT.kd (t := t) (by rw [hk]; rfl)
    rw [hk] at hkd
    simp only [kdOk] at hkd
    refine ⟨_, h, fun E w vx hx => ?_⟩
    obtain ⟨a, cap, g, rfl, _⟩ := Src.of_ow hx
    exact ⟨_, by simp [Builtin.len_, run_underlying hkd, goInt], .int _ _⟩
  · rename_i e hk
    have hkd := hT.kd (t := t) (by rw [hk]; rfl)
    rw [hk] at hkd
    simp only [kdOk] at hkd
    refine ⟨_, h, fun E w vx hx => ?_⟩
    cases hx
    exact ⟨_, by simp [Builtin.len_, run_underlying hkd, goInt], .int _ _⟩
  · rename_i e b n hk
    have hkd := hT.kd (t := t) (by rw [hk]; rfl)
    rw [hk] at hkd
    simp only [kdOk] at hkd
    refine ⟨_, h, fun E w vx hx => ?_⟩
    cases hx
    exact ⟨_, by simp [Builtin.len_, run_underlying hkd, goInt], .int _ _⟩
  · rename_i n e hk
    have hkd := hT.kd (t := t) (by rw [hk]; rfl)
    rw [hk] at hkd
    refine ⟨_, h, fun E w vx hx => ?_⟩
    exact ⟨_, by simp [Builtin.len_, run_underlying hkd.1, goInt], .int _ _⟩
  · exact h.elim

theorem aMins_sound (isMin : Bool) {E : Env} (w : World) : ∀ (r : List AV) (x c : AV) (vr : List Value) (vx : Value), aMins isMin x r = some c → VR E x vx → VRs E r vr →
    ∃ v, (vr.foldlM (if isMin then Builtin.min2 else Builtin.max2) vx).run P w = .ok v w ∧ VR E c v
  | [], x, c, vr, vx, h, hx, hr => by
    have : vr = [] := List.eq_nil_of_length_eq_zero hr.1
    subst this
    simp only [aMins, Option.some.injEq] at h
    subst h
    exact ⟨vx, by simp, hx⟩
  | y :: r, x, c, vr, vx, h, hx, hr => by
    match vr, hr with
    | vy :: vr, hr =>
    have hy : VR E y vy := hr.2 0 y vy rfl rfl
    have hr' : VRs E r vr := ⟨by simpa using hr.1, fun j d v x y => hr.2 (j + 1) d v (by simpa using x) (by simpa using y)⟩
    simp only [aMins] at h
    split at h
    · rename_i z hz
      obtain ⟨ka, a, kb, b, rfl, rfl, rfl⟩ : ∃ ka a kb b, x = .int ka a ∧ y = .int kb b ∧ z = .int ka (if isMin then (if b < a then b else a) else (if b > a then b else a)) := by
        cases x <;> cases y <;> simp only [aMin2] at hz <;> first | (cases hz; done) | skip
        injection hz with hz
        exact ⟨_, _, _, _, rfl, rfl, hz.symm⟩
      · cases hx; cases hy
        obtain ⟨v, h1, h2⟩ := aMins_sound isMin w r _ c vr (.int ka (if isMin then (if b < a then b else a) else (if b > a then b else a))) h (.int _ _) hr'
        refine ⟨v, ?_, h2⟩
        simp only [List.foldlM_cons, Sem.run_bind]
        cases isMin
        · simp only [Bool.false_eq_true, if_false, Builtin.max2, Sem.run_pure, Result.andThen_ok] at h1 ⊢
          exact h1
        · simp only [if_true, Builtin.min2, Sem.run_pure, Result.andThen_ok] at h1 ⊢
          exact h1
    · cases h

theorem aBuiltin_sound (hT : TabOk P T) {b : Builtin} {ts : Array TypeId} {xs : List AV} {k : AV → Prop} (h : aBuiltin T b ts.toList xs k) (ty : TypeId) (cs : Array Bool) :
    ∃ c, k c ∧ ∀ (E : Env) (w : World) (vs : Array Value), VRs E xs vs.toList → ∃ v, (builtin b ts ty cs vs).run P w = .ok (.value v) w ∧ VR E c v := by
  unfold aBuiltin at h
  split at h
  · rename_i t x hts
    have hts' : ts = #[t] := by cases ts; simp_all
    subst hts'
    obtain ⟨c, h1, h2⟩ := aLen_sound hT (ty := ty) h
    refine ⟨c, h1, fun E w vs hv => ?_⟩
    obtain ⟨l⟩ := vs
    match l, hv with
    | [v0], hv =>
      obtain ⟨v, h3, h4⟩ := h2 E w v0 (hv.2 0 x v0 rfl rfl)
      exact ⟨v, by simp [builtin, h3], h4⟩
    | [], hv => exact absurd hv.1 (by simp)
    | _ :: _ :: _, hv => exact absurd hv.1 (by simp)
  · rename_i x r
    obtain ⟨c, h1, h2⟩ := h
    refine ⟨c, h2, fun E w vs hv => ?_⟩
    obtain ⟨l⟩ := vs
    match l, hv with
    | [], hv => exact absurd hv.1 (by simp)
    | v0 :: vr, hv =>
      obtain ⟨v, h3, h4⟩ := aMins_sound (P := P) true w r x c vr v0 h1 (hv.2 0 x v0 rfl rfl) ⟨by simpa using hv.1, fun j d v x y => hv.2 (j + 1) d v (by simpa using x) (by simpa using y)⟩
      exact ⟨v, by simp only [if_true] at h3; simp [builtin, Builtin.min_, h3], h4⟩
  · rename_i x r
    obtain ⟨c, h1, h2⟩ := h
    refine ⟨c, h2, fun E w vs hv => ?_⟩
    obtain ⟨l⟩ := vs
    match l, hv with
    | [], hv => exact absurd hv.1 (by simp)
    | v0 :: vr, hv =>
      obtain ⟨v, h3, h4⟩ := aMins_sound (P := P) false w r x c vr v0 h1 (hv.2 0 x v0 rfl rfl) ⟨by simpa using hv.1, fun j d v x y => hv.2 (j + 1) d v (by simpa using x) (by simpa using y)⟩
      exact ⟨v, by simp only [Bool.false_eq_true, if_false] at h3; simp [builtin, Builtin.max_, h3], h4⟩
  · exact h.elim

/-! ### slices -/

theorem aBnd_none {d : Nat} {r : Int} (h : aBnd none d = some r) : r = d := by simp [aBnd] at h; exact h.symm

theorem bnd_run {E : Env} {x : AV} {v : Value} {r : Int} {d : Nat} (h : aBnd (some x) d = some r) (hv : VR E x v) (y : Nat) (h0 : 0 ≤ r) (h1 : r ≤ y) (code : BoundsCode) (w : World) :
    (Instr.sliceBound v y code).run P w = .ok r.toNat w := by
  cases x <;> simp only [aBnd] at h <;> first | (cases h; done) | skip
  injection h with h
  subst h
  cases hv
  simp [Instr.sliceBound, asIntOf, h0, h1]

def VRo (E : Env) : Option AV → Option Value → Prop
  | none, none => True
  | some c, some v => VR E c v
  | _, _ => False

theorem bounds_run {E : Env} {lo hi : Option AV} {vlo vhi : Option Value} (hlo : VRo E lo vlo) (hhi : VRo E hi vhi) {a b : Int} {len cap : Nat} (ha : aBnd lo 0 = some a) (hb : aBnd hi len = some b)
    (h0 : 0 ≤ a) (h1 : a ≤ b) (h2 : b ≤ len) (hc : len ≤ cap) (isS : Bool) (w : World) : (Instr.sliceBounds isS len cap vlo vhi none).run P w = .ok (a.toNat, b.toNat, cap) w := by
  cases lo with
  | none =>
    have := aBnd_none ha
    subst this
    cases vlo with
    | some _ => exact hlo.elim
    | none =>
    cases hi with
    | none =>
      have := aBnd_none hb
      subst this
      cases vhi with
      | some _ => exact hhi.elim
      | none => simp [Instr.sliceBounds]
    | some x =>
      cases vhi with
      | none => exact hhi.elim
      | some v =>
        have := bnd_run (P := P) hb hhi cap (by omega) (by omega) (if isS then .sliceAcap else .sliceAlen) w
        simp [Instr.sliceBounds, this]
  | some xl =>
    cases vlo with
    | none => exact hlo.elim
    | some vl =>
    cases hi with
    | none =>
      have := aBnd_none hb
      subst this
      cases vhi with
      | some _ => exact hhi.elim
      | none =>
        have := bnd_run (P := P) ha hlo len h0 (by omega) .sliceB w
        simp [Instr.sliceBounds, this]
    | some x =>
      cases vhi with
      | none => exact hhi.elim
      | some v =>
        have h3 := bnd_run (P := P) hb hhi cap (by omega) (by omega) (if isS then .sliceAcap else .sliceAlen) w
        have h4 := bnd_run (P := P) ha hlo b.toNat h0 (by omega) .sliceB w
        simp [Instr.sliceBounds, h3, h4]

theorem Src.cut {E : Env} {s : Nat} {rows : List (List AV)} {a : Option Addr} {n cap : Nat} (h : Src E s rows (.slice a n cap)) {i j : Nat} (hij : i ≤ j) (hj : j ≤ n) :
    VR E (.sl s ((rows.take j).drop i)) (.slice (if cap = i then a else a.map (·.add (i * s))) (j - i) (cap - i)) := by
  obtain ⟨a', cap', g, e, h0, h1, h2, hc⟩ := h
  injection e with e1 e2 e3
  subst e1; subst e2; subst e3
  have hlen : ((rows.take j).drop i).length = j - i := by simp; omega
  rw [← hlen]
  refine .sl s _ _ _ (fun x y => g (i + x) y) (fun hp => ?_) (fun x row y c ad hr hcell had => ?_) (fun x row y c hr hcell => ?_) (by rw [hlen]; omega)
  · rw [hlen] at hp
    have : a.isSome = true := h0 (by omega)
    split
    · exact this
    · obtain ⟨ad, rfl⟩ := Option.isSome_iff_exists.1 this; rfl
  · rw [List.getElem?_drop, List.getElem?_take] at hr
    split at hr
    · rename_i hlt
      have hcap : cap ≠ i := by omega
      rw [if_neg hcap] at had
      cases a with
      | none => cases had
      | some ad0 =>
        injection had with had
        subst had
        simp only
        rw [add_add, show i * s + (x * s + y) = (i + x) * s + y by rw [Nat.add_mul]; omega]
        exact h1 (i + x) row y c ad0 hr hcell rfl
    · cases hr
  · rw [List.getElem?_drop, List.getElem?_take] at hr
    split at hr
    · exact h2 _ row y c hr hcell
    · cases hr

theorem extract_str (l : List UInt8) (a b : Nat) : (⟨l.toArray⟩ : ByteArray).extract a b = ⟨((l.take b).drop a).toArray⟩ := by
  apply ByteArray.ext
  rw [ByteArray.data_extract]
  simp [List.extract_eq_take_drop, List.drop_take]

theorem run_emp_slice (w : World) {t e len cap : Nat} {a : Option Addr} (hkd : P.underlying t = some (.slice e)) {n : Nat} (hs : ∀ w, (sizeOf e).run P w = .ok n w) {E : Env} {hi mx : AV} {vhi vmx : Value} {ki km : IntKind}
    (h1 : VR E (.int ki 0) vhi) (h2 : VR E (.int km 0) vmx) : (Instr.slice t (.slice a len cap) none (some vhi) (some vmx)).run P w = .ok (.slice a 0 0) w := by
  cases h1; cases h2
  simp [Instr.slice, run_underlying hkd, Instr.sliceBounds, Instr.sliceBound, asIntOf, hs]

theorem aBnd_zero {hi : Option AV} (h : aBnd hi 1 = some 0) : ∃ k, hi = some (.int k 0) := by
  cases hi with
  | none => simp [aBnd] at h
  | some x => cases x <;> simp [aBnd] at h; subst h; exact ⟨_, rfl⟩

theorem aSlice_sound (hT : TabOk P T) {t : Nat} {x : AV} {lo hi mx : Option AV} {k : AV → Prop} (h : aSlice T t x lo hi mx k) :
    ∃ c, k c ∧ ∀ (E : Env) (w : World) (vx : Value) (vlo vhi vmx : Option Value), VR E x vx → VRo E lo vlo → VRo E hi vhi → VRo E mx vmx → ∃ v, (Instr.sliceAt t vx vlo vhi vmx).run P w = .ok v w ∧ VR E c v := by
  have sl : ∀ (e s : Nat) (rows : List (List AV)) (a b : Int), (T t).kd = .slice e → (T e).kd.isOther = false → s = (T e).size → aBnd lo 0 = some a → aBnd hi rows.length = some b → 0 ≤ a → a ≤ b → b ≤ rows.length →
      ∀ (E : Env) (w : World) (vx : Value) (vlo vhi : Option Value), Src E s rows vx → VRo E lo vlo → VRo E hi vhi → ∃ v, (Instr.sliceAt t vx vlo vhi none).run P w = .ok v w ∧ VR E (.sl s ((rows.take b.toNat).drop a.toNat)) v := by
    intro e s rows a b hk hno hs ha hb h0 h1 h2 E w vx vlo vhi hx hlo hhi
    have hkd := hT.kd (t := t) (by rw [hk]; rfl)
    rw [hk] at hkd
    simp only [kdOk] at hkd
    have hx' := hx
    obtain ⟨ad, cap, g, rfl, _, _, _, hc⟩ := hx
    have hr := bounds_run (P := P) hlo hhi ha hb h0 h1 h2 hc true w
    refine ⟨_, ?_, hx'.cut (by omega : a.toNat ≤ b.toNat) (by omega)⟩
    simp [Instr.sliceAt, Instr.slice, run_underlying hkd, hr, hT.size hno, hs]
  have em : ∀ (e : Nat) (m : Int) (km : IntKind), (T t).kd = .slice e → (T e).kd.isOther = false → lo = none → m = 0 → aBnd hi 1 = some 0 →
      ∀ (E : Env) (w : World) (a : Option Addr) (len cap : Nat) (vlo vhi vmx : Option Value), VRo E lo vlo → VRo E hi vhi → VRo E (some (.int km m)) vmx → ∃ v, (Instr.sliceAt t (.slice a len cap) vlo vhi vmx).run P w = .ok v w ∧ VR E .emp v := by
    intro e m km hk hno hlo0 hm hb E w a len cap vlo vhi vmx hlo hhi hmx
    have hkd := hT.kd (t := t) (by rw [hk]; rfl)
    rw [hk] at hkd
    simp only [kdOk] at hkd
    subst hlo0; subst hm
    obtain ⟨ki, rfl⟩ := aBnd_zero hb
    cases vlo with
    | some _ => exact hlo.elim
    | none =>
    cases vhi with
    | none => exact hhi.elim
    | some vhi =>
    cases vmx with
    | none => exact hmx.elim
    | some vmx =>
    refine ⟨.slice a 0 0, ?_, .emp a⟩
    have := run_emp_slice (P := P) w hkd (hT.size hno) (len := len) (cap := cap) (a := a) (hi := .emp) (mx := .emp) hhi hmx
    simp only [Instr.sliceAt, Sem.run_bind, run_underlying hkd, Result.andThen_ok]
    exact this
  unfold aSlice at h
  split at h
  · rename_i l hk
    obtain ⟨a, b, ha, hb, h0, h1, h2, h⟩ := h
    have hkd := hT.kd (t := t) (by rw [hk]; rfl)
    rw [hk] at hkd
    simp only [kdOk] at hkd
    refine ⟨_, h, fun E w vx vlo vhi vmx hx hlo hhi hmx => ?_⟩
    cases hx
    cases vmx with
    | some _ => exact hmx.elim
    | none =>
    have hr := bounds_run (P := P) hlo hhi ha hb h0 h1 h2 (Nat.le_refl _) false w
    refine ⟨_, ?_, .str _⟩
    simp [Instr.sliceAt, Instr.slice, run_underlying hkd, size_str, hr, extract_str]
  · rename_i e s rows hk
    obtain ⟨hno, hs, a, b, ha, hb, h0, h1, h2, h⟩ := h
    refine ⟨_, h, fun E w vx vlo vhi vmx hx hlo hhi hmx => ?_⟩
    cases vmx with
    | some _ => exact hmx.elim
    | none => exact sl e s rows a b hk hno hs ha hb h0 h1 h2 E w vx vlo vhi (.of_sl hx) hlo hhi
  · rename_i e _ _ s rows hk
    obtain ⟨hno, hs, a, b, ha, hb, h0, h1, h2, h⟩ := h
    refine ⟨_, h, fun E w vx vlo vhi vmx hx hlo hhi hmx => ?_⟩
    cases vmx with
    | some _ => exact hmx.elim
    | none => exact sl e s rows a b hk hno hs ha hb h0 h1 h2 E w vx vlo vhi (.of_ow hx) hlo hhi
  · rename_i e s rows km m hk
    obtain ⟨hno, h1, h2, h3, h⟩ := h
    refine ⟨_, h, fun E w vx vlo vhi vmx hx hlo hhi hmx => ?_⟩
    obtain ⟨a, cap, g, rfl, _⟩ := Src.of_sl hx
    exact em e m km hk hno h1 h2 h3 E w a _ cap vlo vhi vmx hlo hhi hmx
  · rename_i e _ _ s rows km m hk
    obtain ⟨hno, h1, h2, h3, h⟩ := h
    refine ⟨_, h, fun E w vx vlo vhi vmx hx hlo hhi hmx => ?_⟩
    obtain ⟨a, cap, g, rfl, _⟩ := Src.of_ow hx
    exact em e m km hk hno h1 h2 h3 E w a _ cap vlo vhi vmx hlo hhi hmx
  · rename_i e b n hk
    obtain ⟨hno, hl, q, hq, h0, h1, h⟩ := h
    refine ⟨_, h, fun E w vx vlo vhi vmx hx hlo hhi hmx => ?_⟩
    have hkd := hT.kd (t := t) (by rw [hk]; rfl)
    rw [hk] at hkd
    simp only [kdOk] at hkd
    cases hx with
    | sb b n g cap hk' hb hn hm hv =>
    cases vmx with
    | some _ => exact hmx.elim
    | none =>
    subst hl
    have hr := bounds_run (P := P) hlo hhi (a := 0) rfl hq (Int.le_refl _) h0 h1 hn true w
    have hv' : (E.tk b).s ≠ 0 → q.toNat = (E.tk b).n → (E.tk b).v = .slice (some ⟨g, 0, none⟩) q.toNat cap := fun h2 h3 => by
      have h4 : q.toNat = n := by omega
      rw [h4]
      exact hv h2 (by omega)
    refine ⟨.slice (some ⟨g, 0, none⟩) q.toNat cap, ?_, .sb b _ g cap hk' hb (by omega) (by omega) hv'⟩
    simp [Instr.sliceAt, Instr.slice, run_underlying hkd, hr, hT.size hno, add_lit]
  · rename_i e b n km m hk
    obtain ⟨hno, hl, hh, hq, h0, h1, h⟩ := h
    refine ⟨_, h, fun E w vx vlo vhi vmx hx hlo hhi hmx => ?_⟩
    have hkd := hT.kd (t := t) (by rw [hk]; rfl)
    rw [hk] at hkd
    simp only [kdOk] at hkd
    cases hx with
    | sb b n g cap hk' hb hn hm hv =>
    subst hl
    cases hi with
    | none => exact absurd rfl hh
    | some xh =>
    cases vmx with
    | none => exact hmx.elim
    | some vmx =>
    cases vhi with
    | none => exact hhi.elim
    | some vhi =>
    cases vlo with
    | some _ => exact hlo.elim
    | none =>
    have b1 := bnd_run (P := P) (x := .int km m) (d := n) (r := m) rfl hmx cap h0 (by omega) .slice3Acap w
    have b2 := bnd_run (P := P) hq hhi m.toNat h0 (by omega) .slice3B w
    refine ⟨.slice (some ⟨g, 0, none⟩) m.toNat m.toNat, ?_, .sb b _ g _ hk' hb (Nat.le_refl _) (by omega) (fun h2 h3 => by omega)⟩
    simp [Instr.sliceAt, Instr.slice, Instr.sliceBounds, run_underlying hkd, b1, b2, hT.size hno, add_lit]
  · rename_i e km m hk
    obtain ⟨hno, h1, h2, h3, h⟩ := h
    refine ⟨_, h, fun E w vx vlo vhi vmx hx hlo hhi hmx => ?_⟩
    cases hx with
    | emp a => exact em e m km hk hno h1 h2 h3 E w a _ _ vlo vhi vmx hlo hhi hmx
  · exact h.elim

theorem VRo_map {E : Env} {ρ : Operand → AV} {a : Act} (h : ∀ x, VR E (ρ x) (a.eval x)) (o : Option Operand) : VRo E (o.map ρ) (o.map a.eval) := by
  cases o with
  | none => trivial
  | some x => exact h x

theorem aval_sound (hT : TabOk P T) {ρ : Operand → AV} {o : Oper} {k : AV → Prop} (h : aval T ρ o.op k) :
    ∃ c, k c ∧ ∀ (E : Env) (a : Act) (w : World), (∀ x, VR E (ρ x) (a.eval x)) → ∃ v, (execOp a.eval o).run P w = .ok (.value v) w ∧ VR E c v := by
  have val : ∀ (c : AV) (E : Env) (w : World) (s : Sem Value), (∃ v, s.run P w = .ok v w ∧ VR E c v) → ∃ v, ((do pure (.value (← s))) : Sem Next).run P w = .ok (.value v) w ∧ VR E c v := by
    rintro c E w s ⟨v, h1, h2⟩
    exact ⟨v, by simp [h1], h2⟩
  unfold aval at h
  split at h
  · rename_i x ho
    exact ⟨_, h, fun E a w hρ => ⟨_, by simp [execOp, ho], hρ x⟩⟩
  · rename_i x ho
    exact ⟨_, h, fun E a w hρ => ⟨_, by simp [execOp, ho], hρ x⟩⟩
  · rename_i c x y ho
    split at h
    · rename_i t hc
      have hb : ∀ (E : Env) (a : Act), (∀ x, VR E (ρ x) (a.eval x)) → a.eval c = .bool t := fun E a hρ => by
        have := hρ c
        rw [hc] at this
        cases hv : a.eval c <;> rw [hv] at this <;> cases this
        rfl
      cases t
      · exact ⟨_, h.2 rfl, fun E a w hρ => ⟨a.eval y, by simp [execOp, ho, hb E a hρ, asBool], hρ y⟩⟩
      · exact ⟨_, h.1 rfl, fun E a w hρ => ⟨a.eval x, by simp [execOp, ho, hb E a hρ, asBool], hρ x⟩⟩
    · exact h.elim
  · rename_i t parts ho
    obtain ⟨c, h1, h2⟩ := aBuild_sound hT h
    refine ⟨c, h1, fun E a w hρ => ?_⟩
    simp only [execOp, ho]
    refine val c E w _ (h2 E w _ (by simp) (fun j p q hp hq => ?_))
    rw [List.getElem?_map] at hp
    rw [Array.getElem?_map, ← Array.getElem?_toList] at hq
    cases hx : parts.toList[j]? with
    | none => rw [hx] at hp; cases hp
    | some y =>
      rw [hx] at hp hq
      injection hp with hp; injection hq with hq
      subst hp; subst hq
      exact ⟨rfl, hρ _⟩
  · rename_i x ho
    have nc : ∀ (c : AV), ρ x = c → (∃ cs, c = .cp cs) ∨ (∃ b o, c = .ptr b o) ∨ (∃ f cs, c = .fn f cs) → ∀ (E : Env) (a : Act) (w : World), (∀ x, VR E (ρ x) (a.eval x)) → ∃ v, (execOp a.eval o).run P w = .ok (.value v) w ∧ VR E c v := by
      intro c hc hs E a w hρ
      have := hρ x
      rw [hc] at this
      refine ⟨a.eval x, ?_, this⟩
      simp only [execOp, ho]
      rcases hs with ⟨cs, rfl⟩ | ⟨b, o, rfl⟩ | ⟨f, cs, rfl⟩ <;> generalize a.eval x = vx at this <;> cases this <;> simp
    split at h
    · rename_i cs hc; exact ⟨_, h, nc _ hc (.inl ⟨_, rfl⟩)⟩
    · rename_i b o' hc; exact ⟨_, h, nc _ hc (.inr (.inl ⟨_, _, rfl⟩))⟩
    · rename_i f cs hc; exact ⟨_, h, nc _ hc (.inr (.inr ⟨_, _, rfl⟩))⟩
    · exact h.elim
  · rename_i op t x y yt ho
    split at h
    · rename_i hy
      obtain ⟨c, h1, h2⟩ := aNil_sound hT h x y
      refine ⟨c, h1, fun E a w hρ => ?_⟩
      simp only [execOp, ho]
      have e := nilO_eq hy
      subst e
      exact val c E w _ (h2 E w _ (hρ x))
    split at h
    · rename_i hy
      obtain ⟨c, h1, h2⟩ := aErr_sound hT h x
      refine ⟨c, h1, fun E a w hρ => ?_⟩
      simp only [execOp, ho]
      have e := nilI_eq hy
      subst e
      exact val c E w _ (h2 E w _ (hρ x))
    split at h
    · rename_i hy
      obtain ⟨c, h1, h2⟩ := aPtr_sound hT h x
      refine ⟨c, h1, fun E a w hρ => ?_⟩
      simp only [execOp, ho]
      have e := nilP_eq hy
      subst e
      exact val c E w _ (h2 E w _ (hρ x))
    · obtain ⟨c, h1, h2⟩ := aBin_sound hT h x y
      refine ⟨c, h1, fun E a w hρ => ?_⟩
      simp only [execOp, ho]
      exact val c E w _ (h2 E w _ _ (hρ x) (hρ y))
  · rename_i op t x ho
    obtain ⟨c, h1, h2⟩ := aUn_sound (P := P) h
    refine ⟨c, h1, fun E a w hρ => ?_⟩
    simp only [execOp, ho]
    exact val c E w _ (h2 E w _ (hρ x))
  · rename_i src dst x ho
    obtain ⟨c, h1, h2⟩ := aConv_sound hT h
    refine ⟨c, h1, fun E a w hρ => ?_⟩
    simp only [execOp, ho]
    exact val c E w _ (h2 E w _ (hρ x))
  · rename_i f first captured ho
    obtain ⟨h1, h2⟩ := h
    subst h1
    refine ⟨_, h2, fun E a w hρ => ⟨.func (.func f) #[] (captured.map a.eval), by simp [execOp, ho, Instr.makeFunc], ?_⟩⟩
    have := map_VR hρ captured.toList
    refine .fn f _ _ (by simp) (fun j c v hc hv => this.2 j c v hc ?_)
    rw [← Array.getElem?_toList, Array.toList_map] at hv
    exact hv
  · rename_i t x f ho
    obtain ⟨c, h1, h2⟩ := aFieldAddr_sound hT h
    refine ⟨c, h1, fun E a w hρ => ?_⟩
    simp only [execOp, ho]
    exact val c E w _ (h2 E w _ (hρ x))
  · rename_i t x f ho
    obtain ⟨c, h1, h2⟩ := aField_sound hT h
    refine ⟨c, h1, fun E a w hρ => ?_⟩
    simp only [execOp, ho]
    exact val c E w _ (h2 E w _ (hρ x))
  · rename_i t x i ho
    obtain ⟨c, h1, h2⟩ := aIndexAddr_sound hT h
    refine ⟨c, h1, fun E a w hρ => ?_⟩
    simp only [execOp, ho]
    exact val c E w _ (h2 E w _ _ (hρ x) (hρ i))
  · rename_i t x i ho
    obtain ⟨c, h1, h2⟩ := aIndex_sound hT h
    refine ⟨c, h1, fun E a w hρ => ?_⟩
    simp only [execOp, ho]
    exact val c E w _ (h2 E w _ _ (hρ x) (hρ i))
  · rename_i t x lo hi mx ho
    obtain ⟨c, h1, h2⟩ := aSlice_sound hT h
    refine ⟨c, h1, fun E a w hρ => ?_⟩
    simp only [execOp, ho]
    exact val c E w _ (h2 E w _ _ _ _ (hρ x) (VRo_map hρ lo) (VRo_map hρ hi) (VRo_map hρ mx))
  · rename_i x i ho
    split at h
    · rename_i vs hc
      obtain ⟨c, h1, h2⟩ := h
      refine ⟨c, h2, fun E a w hρ => ?_⟩
      have := hρ x
      rw [hc] at this
      obtain ⟨us, h3, h4⟩ := this.of_tup
      obtain ⟨v, h5, h6⟩ := h4.get h1
      refine ⟨v, ?_, h6⟩
      have h5' : us[i]? = some v := by simpa using h5
      simp [execOp, ho, h3, Instr.extract, h5']
    · exact h.elim
  · rename_i b args ts ho
    obtain ⟨c, h1, h2⟩ := aBuiltin_sound hT h o.type (args.map fun | .const _ => true | _ => false)
    refine ⟨c, h1, fun E a w hρ => ?_⟩
    have := map_VR hρ args.toList
    obtain ⟨v, h3, h4⟩ := h2 E w (args.map a.eval) (by rw [Array.toList_map]; exact this)
    refine ⟨v, ?_, h4⟩
    simp only [execOp, ho, resolve, Sem.run_bind, Sem.run_pure, Result.andThen_ok, invoke]
    exact h3
  · exact h.elim

end Go.Ab
end

section
namespace Go.Ab
open Go Go.RowKit
set_option linter.unusedVariables false
set_option linter.unusedSimpArgs false

variable {P : Program} {T : TT}

def FSt.ev (S : FSt) : Operand → AV
  | .tmp r => S.reg r
  | .const v => cv v
  | .global g => Glob.av g
  | .func f => .fn f []

def tmpOf : Operand → Option Nat
  | .tmp t => some t
  | _ => none

def tmpsOf (op : Op) : List Nat := op.operands.toList.filterMap tmpOf

theorem SOk.ev {E : Env} {S : FSt} {a : Act} {w : World} (h : SOk E S a w) (x : Operand) : VR E (S.ev x) (a.eval x) := by
  cases x with
  | tmp r => exact h.reg r
  | const v => exact cv_VR E v
  | global g => exact Glob.vr h.gl g
  | func f => exact .fn f [] #[] rfl (fun j c v h => by simp at h)

theorem ev_congr {S S' : FSt} {op : Op} (h : ∀ r ∈ tmpsOf op, S'.reg r = S.reg r) {x : Operand} (hx : x ∈ op.operands.toList) : S'.ev x = S.ev x := by
  cases x with
  | tmp r => exact h r (List.mem_filterMap.2 ⟨_, hx, rfl⟩)
  | const v => rfl
  | global g => rfl
  | func f => rfl

theorem aval_congr {ρ ρ' : Operand → AV} {op : Op} {k : AV → Prop} (h : ∀ x ∈ op.operands.toList, ρ x = ρ' x) (hv : aval T ρ op k) : aval T ρ' op k := by
  have hm : ∀ l : List Operand, (∀ x ∈ l, ρ x = ρ' x) → l.map ρ = l.map ρ' := fun l hl => List.map_congr_left hl
  have ho : ∀ o : Option Operand, (∀ x, o = some x → ρ x = ρ' x) → o.map ρ = o.map ρ' := fun o hl => by
    cases o with
    | none => rfl
    | some x => simp [hl x rfl]
  unfold aval at hv ⊢
  split at hv <;> simp only [Op.operands] at h ⊢
  · rw [← h _ (by simp)]; exact hv
  · rw [← h _ (by simp)]; exact hv
  · rename_i c a b; rw [← h c (by simp), ← h a (by simp), ← h b (by simp)]; exact hv
  · rename_i t parts
    have : parts.toList.map (fun p => (p.1, ρ' p.2)) = parts.toList.map (fun p => (p.1, ρ p.2)) := List.map_congr_left fun p hp => by rw [h p.2 (by simp; exact ⟨p.1, by simpa using hp⟩)]
    rw [this]; exact hv
  · rename_i x; rw [← h x (by simp)]; exact hv
  · rename_i op t x y yt; rw [← h x (by simp), ← h y (by simp)]; exact hv
  · rename_i op t x; rw [← h x (by simp)]; exact hv
  · rename_i src dst x; rw [← h x (by simp)]; exact hv
  · rename_i f first captured; rw [← hm _ (fun x hx => h x (by simp; exact .inr (by simpa using hx)))]; exact hv
  · rename_i t x f; rw [← h x (by simp)]; exact hv
  · rename_i t x f; rw [← h x (by simp)]; exact hv
  · rename_i t x i; rw [← h x (by simp), ← h i (by simp)]; exact hv
  · rename_i t x i; rw [← h x (by simp), ← h i (by simp)]; exact hv
  · rename_i t x lo hi mx
    rw [← h x (by simp), ← ho lo (fun y hy => h y (by subst hy; simp)), ← ho hi (fun y hy => h y (by subst hy; simp)), ← ho mx (fun y hy => h y (by subst hy; simp))]; exact hv
  · rename_i x i; rw [← h x (by simp)]; exact hv
  · rename_i b args ts; rw [← hm _ (fun x hx => h x (by simp [Call.operands]; simpa using hx))]; exact hv
  · exact hv.elim

/-- One operation that is carried out: right from every state that agrees on what it looks at. -/
def Stp (Γ : Ctx) (P : Program) (o : Oper) (S : FSt) (rd : List (Nat × Nat)) (e : Eff) : Prop :=
  ∀ (S' : FSt) (a : Act) (w : World), S'.n = S.n → (∀ r ∈ tmpsOf o.op, S'.reg r = S.reg r) → (∀ c ∈ rd, S'.cell c.1 c.2 = S.cell c.1 c.2) → (∀ b, e.new b = true → S'.dom b = false) →
    (∀ b j, S.dom b = true → S.cell b j = .non → S'.cell b j = .non) → Rel Γ S' a w →
    ∀ (K : Act → World → Prop) (Q : Exit → Act → World → Prop), (∀ a' w', Rel Γ (S'.apply e) a' w' → K a' w') → o.wp P a w K Q

theorem wp_val {o : Oper} {a : Act} {w w' : World} {v : Value} {K : Act → World → Prop} {Q : Exit → Act → World → Prop} (h : (execOp a.eval o).run P w = .ok (.value v) w') (hK : K (a.put o.dst v) w') : o.wp P a w K Q := by
  unfold Oper.wp; rw [h]; exact hK
theorem wp_skp {o : Oper} {a : Act} {w w' : World} {K : Act → World → Prop} {Q : Exit → Act → World → Prop} (h : (execOp a.eval o).run P w = .ok .skip w') (hK : K (a.put o.dst undef) w') : o.wp P a w K Q := by
  unfold Oper.wp; rw [h]; exact hK

open Classical in
theorem stp_val (hT : TabOk P T) {Γ : Ctx} {o : Oper} {S : FSt} {k : AV → Prop} (h : aval T S.ev o.op k) : ∃ c, k c ∧ ∀ n, Stp Γ P o S [] ⟨o.dst, c, [], n, []⟩ := by
  let ρ : Operand → AV := fun x => if x ∈ o.op.operands.toList then S.ev x else .non
  have h' : aval T ρ o.op k := aval_congr (fun x hx => by simp only [ρ, hx, if_true]) h
  obtain ⟨c, h1, h2⟩ := aval_sound hT h'
  refine ⟨c, h1, fun n S' a w hn hr _ _ _ hR K Q hK => ?_⟩
  obtain ⟨E, hE, hS⟩ := hR
  obtain ⟨v, h3, h4⟩ := h2 E a w (fun x => by
    by_cases hx : x ∈ o.op.operands.toList
    · simp only [ρ, hx, if_true]; rw [← ev_congr hr hx]; exact hS.ev x
    · simp only [ρ, hx, if_false]; exact .non _)
  exact wp_val h3 (hK _ _ ⟨E, hE, hS.pure h4 n⟩)

/-! ### memory -/

def rdc (f : Nat → AV) : Nat → Nat → List AV
  | _, 0 => []
  | o, n + 1 => f o :: rdc f (o + 1) n

def ks (b : Nat) : Nat → Nat → List (Nat × Nat)
  | _, 0 => []
  | o, n + 1 => (b, o) :: ks b (o + 1) n

theorem rdc_length (f : Nat → AV) : ∀ n o, (rdc f o n).length = n
  | 0, _ => rfl
  | n + 1, o => by simp [rdc, rdc_length f n]
theorem rdc_get (f : Nat → AV) : ∀ n o i, i < n → (rdc f o n)[i]? = some (f (o + i))
  | n + 1, o, 0, _ => by simp [rdc]
  | n + 1, o, i + 1, h => by
    rw [rdc, List.getElem?_cons_succ, rdc_get f n (o + 1) i (by omega)]
    rw [show o + 1 + i = o + (i + 1) by omega]
theorem mem_ks (b : Nat) : ∀ n o i, i < n → (b, o + i) ∈ ks b o n
  | n + 1, o, 0, _ => by simp [ks]
  | n + 1, o, i + 1, h => by
    have := mem_ks b n (o + 1) i (by omega)
    rw [show o + 1 + i = o + (i + 1) by omega] at this
    exact List.mem_cons_of_mem _ this

def allB (p : AV → Bool) : List AV → Bool
  | [] => true
  | c :: r => p c && allB p r
theorem allB_mem {p : AV → Bool} : ∀ {l : List AV}, allB p l = true → ∀ c ∈ l, p c = true
  | c :: r, h, d, hd => by
    simp only [allB, Bool.and_eq_true] at h
    rcases List.mem_cons.1 hd with e | e
    · rw [e]; exact h.1
    · exact allB_mem h.2 d e

def allP (n : Nat) : Nat → List (Nat × AV) → Bool
  | _, [] => true
  | i, p :: r => decide (p.1 = i) && decide (p.2.cells.length = n) && p.2.known && allB AV.flat p.2.cells && allP n (i + 1) r

def aLoad (T : TT) (dst : Option Nat) (t : Nat) (S : FSt) (x : AV) (base : Nat) (k : Eff → List (Nat × Nat) → Prop) : Prop :=
  (T t).kd.isOther = false ∧
  match x with
  | .cp cells => if (T t).kd.isAgg then (T t).size ≤ cells.length ∧ k ⟨dst, .agg (cells.take (T t).size), [], base, []⟩ [] else ∃ c, cells[0]? = some c ∧ k ⟨dst, c, [], base, []⟩ []
  | .ptr b off => if (T t).kd.isAgg then allB AV.plain (rdc (S.cell b) off (T t).size) = true ∧ k ⟨dst, .agg (rdc (S.cell b) off (T t).size), [], base, []⟩ (ks b off (T t).size)
      else (S.cell b off).plain = true ∧ k ⟨dst, S.cell b off, [], base, []⟩ [(b, off)]
  | .ep b s i => match S.cell b 0 with
    | .arr s' rows => s' = s ∧ ∃ row, (∀ row', rows[i]? = some row' → row' = row) ∧ if (T t).kd.isAgg then (T t).size = s ∧ k ⟨dst, .agg row, [], base, []⟩ [(b, 0)] else ∃ c, row[0]? = some c ∧ k ⟨dst, c, [], base, []⟩ [(b, 0)]
    | _ => False
  | _ => False

theorem wp_load {o : Oper} {t : Nat} {x : Operand} (ho : o.op = .load t x) {a : Act} {w : World} {v : Value} {K : Act → World → Prop} {Q : Exit → Act → World → Prop}
    (h : (Instr.loadAt t (a.eval x)).run P w = .ok v w) (hK : K (a.put o.dst v) w) : o.wp P a w K Q :=
  wp_val (v := v) (w' := w) (by simp [execOp, ho, h]) hK

theorem run_loadVar_agg (hT : TabOk P T) {t : Nat} (hn : (T t).kd.isOther = false) (ha : (T t).kd.isAgg = true) {a : Addr} {w : World} {vs : List Value} (hl : vs.length = (T t).size)
    (h : ∀ (j : Nat) v, vs[j]? = some v → w.cell? (a.add j) = some v) : (loadVar t a).run P w = .ok (.agg vs.toArray) w := by
  have := run_loadCells_list (P := P) w a vs h
  rw [hl] at this
  simp [loadVar, hT.isAgg hn, ha, hT.size hn, this]
theorem run_loadVar_one (hT : TabOk P T) {t : Nat} (hn : (T t).kd.isOther = false) (ha : (T t).kd.isAgg = false) {a : Addr} {w : World} {v : Value}
    (h : w.cell? a = some v) : (loadVar t a).run P w = .ok v w := by
  simp [loadVar, hT.isAgg hn, ha, h]

theorem add_zero (a : Addr) : a.add 0 = a := by simp [Addr.add]

theorem stp_load (hT : TabOk P T) {Γ : Ctx} {o : Oper} {t : Nat} {x : Operand} (ho : o.op = .load t x) {S : FSt} {base : Nat} {k : Eff → List (Nat × Nat) → Prop} (h : aLoad T o.dst t S (S.ev x) base k) :
    ∃ e rd, k e rd ∧ Stp Γ P o S rd e := by
  obtain ⟨hno, h⟩ := h
  have hmem : x ∈ o.op.operands.toList := by rw [ho]; simp [Op.operands]
  split at h
  · rename_i cells hx
    cases hag : (T t).kd.isAgg with
    | true =>
      rw [hag, if_pos rfl] at h
      refine ⟨_, _, h.2, fun S' a w hn hr _ _ _ hR K Q hK => ?_⟩
      obtain ⟨E, hE, hS⟩ := hR
      have hv := hS.ev x
      rw [ev_congr hr hmem, hx] at hv
      generalize hax : a.eval x = vx at hv
      cases hv with
      | cp cells ad g h1 h2 =>
      let vs : List Value := (List.range (T t).size).map g
      have hvs : vs.length = (T t).size := by simp [vs]
      have hc : ∀ (j : Nat) v, vs[j]? = some v → ∃ c, cells[j]? = some c ∧ v = g j ∧ j < (T t).size := fun j v hj => by
        have hlt : j < (T t).size := by rw [← hvs]; exact (List.getElem?_eq_some_iff.1 hj).1
        simp only [vs, List.getElem?_map, List.getElem?_range hlt, Option.map_some, Option.some.injEq] at hj
        exact ⟨_, List.getElem?_eq_getElem (by omega), hj.symm, hlt⟩
      refine wp_load ho (v := .agg vs.toArray) ?_ (hK _ _ ⟨E, hE, hS.pure ?_ base⟩)
      · rw [hax]
        simp only [Instr.loadAt, Instr.sureAddr, Sem.run_bind, Sem.run_pure, Result.andThen_ok]
        exact run_loadVar_agg hT hno hag hvs (fun j v hj => by obtain ⟨c, e1, rfl, _⟩ := hc j v hj; exact (hE.F _ _ (h1 j c e1)).1)
      · refine VRs.agg ⟨by simp [hvs]; omega, fun j c v hj hv => ?_⟩
        rw [List.getElem?_take] at hj
        split at hj
        · obtain ⟨c', e1, rfl, _⟩ := hc j v (by simpa using hv)
          exact (h2 j c hj).vr
        · cases hj
    | false =>
      rw [hag, if_neg (by simp)] at h
      obtain ⟨c, hc, hk⟩ := h
      refine ⟨_, _, hk, fun S' a w hn hr _ _ _ hR K Q hK => ?_⟩
      obtain ⟨E, hE, hS⟩ := hR
      have hv := hS.ev x
      rw [ev_congr hr hmem, hx] at hv
      generalize hax : a.eval x = vx at hv
      cases hv with
      | cp cells ad g h1 h2 =>
      refine wp_load ho (v := g 0) ?_ (hK _ _ ⟨E, hE, hS.pure (h2 0 c hc).vr base⟩)
      rw [hax]
      simp only [Instr.loadAt, Instr.sureAddr, Sem.run_bind, Sem.run_pure, Result.andThen_ok]
      have := (hE.F _ _ (h1 0 c hc)).1
      rw [add_zero] at this
      exact run_loadVar_one hT hno hag this
  · rename_i b off hx
    cases hag : (T t).kd.isAgg with
    | true =>
      rw [hag, if_pos rfl] at h
      refine ⟨_, _, h.2, fun S' a w hn hr hrd _ _ hR K Q hK => ?_⟩
      obtain ⟨E, hE, hS⟩ := hR
      have hv := hS.ev x
      rw [ev_congr hr hmem, hx] at hv
      generalize hax : a.eval x = vx at hv
      cases hv with
      | ptr b off g hk hb =>
      have hcell : ∀ j, j < (T t).size → ∃ v, w.cell? ⟨g, off + j, none⟩ = some v ∧ VR E (S.cell b (off + j)) v := fun j hj => by
        have h1 := hS.cell b (off + j)
        rw [hrd (b, off + j) (mem_ks b _ off j hj)] at h1
        rw [CellOk.plain (allB_mem h.1 _ (List.mem_of_getElem? (rdc_get (S.cell b) _ off j hj)))] at h1
        obtain ⟨_, g', v, e1, e2, _, e3⟩ := h1
        rw [hb] at e1; injection e1 with e1; subst e1
        exact ⟨v, e2, e3⟩
      let vs : List Value := (List.range (T t).size).map fun j => (w.cell? ⟨g, off + j, none⟩).getD undef
      have hvs : vs.length = (T t).size := by simp [vs]
      have hget : ∀ (j : Nat) v, vs[j]? = some v → j < (T t).size ∧ w.cell? ⟨g, off + j, none⟩ = some v := fun j v hj => by
        have hlt : j < (T t).size := by rw [← hvs]; exact (List.getElem?_eq_some_iff.1 hj).1
        simp only [vs, List.getElem?_map, List.getElem?_range hlt, Option.map_some, Option.some.injEq] at hj
        obtain ⟨u, e1, _⟩ := hcell j hlt
        rw [e1] at hj
        simp only [Option.getD_some] at hj
        subst hj
        exact ⟨hlt, e1⟩
      refine wp_load ho (v := .agg vs.toArray) ?_ (hK _ _ ⟨E, hE, hS.pure ?_ base⟩)
      · rw [hax]
        simp only [Instr.loadAt, Instr.sureAddr, Sem.run_bind, Sem.run_pure, Result.andThen_ok]
        exact run_loadVar_agg hT hno hag hvs (fun j v hj => by rw [add_lit]; exact (hget j v hj).2)
      · refine VRs.agg ⟨by simp [hvs, rdc_length], fun j c v hj hv => ?_⟩
        obtain ⟨hlt, e1⟩ := hget j v (by simpa using hv)
        obtain ⟨u, e2, e3⟩ := hcell j hlt
        rw [rdc_get _ _ _ _ hlt] at hj
        injection hj with hj
        rw [e1] at e2; injection e2 with e2
        subst hj; subst e2
        exact e3
    | false =>
      rw [hag, if_neg (by simp)] at h
      refine ⟨_, _, h.2, fun S' a w hn hr hrd _ _ hR K Q hK => ?_⟩
      obtain ⟨E, hE, hS⟩ := hR
      have hv := hS.ev x
      rw [ev_congr hr hmem, hx] at hv
      generalize hax : a.eval x = vx at hv
      cases hv with
      | ptr b off g hk hb =>
      have h1 := hS.cell b off
      rw [hrd (b, off) (by simp), CellOk.plain h.1] at h1
      obtain ⟨_, g', v, e1, e2, _, e3⟩ := h1
      rw [hb] at e1; injection e1 with e1; subst e1
      refine wp_load ho (v := v) ?_ (hK _ _ ⟨E, hE, hS.pure e3 base⟩)
      rw [hax]
      simp only [Instr.loadAt, Instr.sureAddr, Sem.run_bind, Sem.run_pure, Result.andThen_ok]
      exact run_loadVar_one hT hno hag e2
  · rename_i b s i hx
    split at h
    · rename_i s' rows hcur
      obtain ⟨rfl, row, hrow, h⟩ := h
      have key : ∀ (E : Env) (S' : FSt) (a : Act) (w : World), EOk Γ E w → SOk E S' a w → S'.cell b 0 = S.cell b 0 → (∀ r ∈ tmpsOf o.op, S'.reg r = S.reg r) →
          ∃ g, a.eval x = .pointer (some ⟨g, i * s', none⟩) ∧ row.length = s' ∧ ∀ (j : Nat) c, row[j]? = some c → ∃ v, w.cell? ⟨g, i * s' + j, none⟩ = some v ∧ VI E.F c v := by
        intro E S' a w hE hS hc0 hr
        have hv := hS.ev x
        rw [ev_congr hr hmem, hx] at hv
        generalize hax : a.eval x = vx at hv
        cases hv with
        | ep b s i g hk hb hm =>
        have h1 := hS.cell b 0
        rw [hc0, hcur] at h1
        obtain ⟨_, _, hl, g', e1, _, e2, e3⟩ := h1
        rw [hb] at e1; injection e1 with e1; subst e1
        have hrow : rows[i]? = some row := by
          have hq : rows[i]? = some rows[i] := List.getElem?_eq_getElem (by omega)
          rw [hq, hrow _ hq]
        exact ⟨g, rfl, e2 row (List.mem_of_getElem? hrow), fun j c hj => let ⟨v, q1, _, _, q2⟩ := e3 i row j c hrow hj; ⟨v, q1, q2⟩⟩
      cases hag : (T t).kd.isAgg with
      | true =>
        rw [hag, if_pos rfl] at h
        obtain ⟨hsz, h⟩ := h
        refine ⟨_, _, h, fun S' a w hn hr hrd _ _ hR K Q hK => ?_⟩
        obtain ⟨E, hE, hS⟩ := hR
        obtain ⟨g, hax, hrl, hcell⟩ := key E S' a w hE hS (hrd (b, 0) (by simp)) hr
        let vs : List Value := (List.range (T t).size).map fun j => (w.cell? ⟨g, i * s' + j, none⟩).getD undef
        have hvs : vs.length = (T t).size := by simp [vs]
        have hget : ∀ (j : Nat) v, vs[j]? = some v → ∃ c, row[j]? = some c ∧ w.cell? ⟨g, i * s' + j, none⟩ = some v ∧ VI E.F c v := fun j v hj => by
          have hlt : j < (T t).size := by rw [← hvs]; exact (List.getElem?_eq_some_iff.1 hj).1
          simp only [vs, List.getElem?_map, List.getElem?_range hlt, Option.map_some, Option.some.injEq] at hj
          have hjr : j < row.length := by omega
          obtain ⟨u, e1, e2⟩ := hcell j _ (List.getElem?_eq_getElem hjr)
          rw [e1] at hj
          simp only [Option.getD_some] at hj
          subst hj
          exact ⟨_, List.getElem?_eq_getElem hjr, e1, e2⟩
        refine wp_load ho (v := .agg vs.toArray) ?_ (hK _ _ ⟨E, hE, hS.pure ?_ base⟩)
        · rw [hax]
          simp only [Instr.loadAt, Instr.sureAddr, Sem.run_bind, Sem.run_pure, Result.andThen_ok]
          exact run_loadVar_agg hT hno hag hvs (fun j v hj => by rw [add_lit]; obtain ⟨_, _, e1, _⟩ := hget j v hj; exact e1)
        · refine VRs.agg ⟨by simp [hvs]; omega, fun j c v hj hv => ?_⟩
          obtain ⟨c', e0, e1, e2⟩ := hget j v (by simpa using hv)
          rw [hj] at e0
          injection e0 with e0
          subst e0
          exact e2.vr
      | false =>
        rw [hag, if_neg (by simp)] at h
        obtain ⟨c, hc, hk⟩ := h
        refine ⟨_, _, hk, fun S' a w hn hr hrd _ _ hR K Q hK => ?_⟩
        obtain ⟨E, hE, hS⟩ := hR
        obtain ⟨g, hax, hrl, hcell⟩ := key E S' a w hE hS (hrd (b, 0) (by simp)) hr
        obtain ⟨v, e1, e2⟩ := hcell 0 c hc
        rw [Nat.add_zero] at e1
        refine wp_load ho (v := v) ?_ (hK _ _ ⟨E, hE, hS.pure e2.vr base⟩)
        rw [hax]
        simp only [Instr.loadAt, Instr.sureAddr, Sem.run_bind, Sem.run_pure, Result.andThen_ok]
        exact run_loadVar_one hT hno hag e1
    · exact h.elim
  · exact h.elim

/-! ### stores, new blocks -/

def aStore (T : TT) (dst : Option Nat) (t : Nat) (S : FSt) (x v : AV) (base : Nat) (k : Eff → List (Nat × Nat) → Prop) : Prop :=
  (T t).kd.isOther = false ∧
  match x with
  | .ptr b off => v.known = true ∧ v.cells.length = (T t).size ∧ allB AV.one v.cells = true ∧ allB AV.plain (rdc (S.cell b) off v.cells.length) = true ∧
      k ⟨dst, .und, writes b off v.cells, base, []⟩ (ks b off v.cells.length)
  | .ep b s i => v.known = true ∧ v.cells.length = (T t).size ∧ (T t).size = s ∧ allB AV.flat v.cells = true ∧ match S.cell b 0 with
    | .arr s' rows => s' = s ∧ k ⟨dst, .und, [(b, 0, .arr s (rows.set i (v.cells.map AV.low)))], base, []⟩ [(b, 0)]
    | _ => False
  | .ef b s i o => v.known = true ∧ (T t).size = 1 ∧ o < s ∧ ∃ c, v.cells = [c] ∧ c.flat = true ∧ match S.cell b 0 with
    | .aw e s' rows => s' = s ∧ ∃ row, (∀ row', rows[i]? = some row' → row' = row) ∧ k ⟨dst, .und, [(b, 0, .aw e s (rows.set i (row.set o c.low)))], base, []⟩ [(b, 0)]
    | _ => False
  | _ => False

theorem known_ne {c : AV} (h : c.known = true) : c ≠ .non := fun e => by subst e; cases h

theorem stp_store (hT : TabOk P T) {Γ : Ctx} {o : Oper} {t : Nat} {x y : Operand} (ho : o.op = .store t x y) {S : FSt} {base : Nat} {k : Eff → List (Nat × Nat) → Prop} (h : aStore T o.dst t S (S.ev x) (S.ev y) base k) :
    ∃ e rd, k e rd ∧ Stp Γ P o S rd e := by
  obtain ⟨hno, h⟩ := h
  have hmx : x ∈ o.op.operands.toList := by rw [ho]; simp [Op.operands]
  have hmy : y ∈ o.op.operands.toList := by rw [ho]; simp [Op.operands]
  split at h
  · rename_i b off hx
    obtain ⟨hkn, hlen, hone, hold, hk⟩ := h
    refine ⟨_, _, hk, fun S' a w hn hr hrd _ _ hR K Q hK => ?_⟩
    obtain ⟨E, hE, hS⟩ := hR
    have hv := hS.ev x
    rw [ev_congr hr hmx, hx] at hv
    have hy := hS.ev y
    rw [ev_congr hr hmy] at hy
    generalize hax : a.eval x = vx at hv
    cases hv with
    | ptr b off g hkd hb =>
    have hcs := hy.cells (known_ne hkn)
    have hpl : ∀ i, i < (S.ev y).cells.length → (S'.cell b (off + i)).plain = true := fun i hi => by
      rw [hrd (b, off + i) (mem_ks b _ off i hi)]
      exact allB_mem hold _ (List.mem_of_getElem? (rdc_get (S.cell b) _ off i hi))
    obtain ⟨hE', hS'⟩ := hS.store hE hkd hb hcs (fun c hc => AV.one_plain (allB_mem hone c hc)) hpl o.dst base
    refine wp_skp ?_ (hK _ _ ⟨E, hE', hS'⟩)
    have hcell : ∀ i, i < (S.ev y).cells.length → ∃ u, w.cell? ⟨g, off + i, none⟩ = some u ∧ w.frozen? ⟨g, off + i, none⟩ = false := fun i hi => by
      have h1 := hS.cell b (off + i)
      rw [CellOk.plain (hpl i hi)] at h1
      obtain ⟨_, g', u, e1, e2, e3, _⟩ := h1
      rw [hb] at e1; injection e1 with e1; subst e1
      exact ⟨u, e2, e3⟩
    have hst := run_storeCells_cells (P := P) g off (a.eval y).cells.toList 0 w (fun j hj => by
        rw [hcs.1] at hj; obtain ⟨u, e1, _⟩ := hcell j hj; rw [Nat.add_zero, e1]; rfl) (fun j hj => by
        rw [hcs.1] at hj; obtain ⟨u, _, e1⟩ := hcell j hj; rw [Nat.add_zero, e1]) (fun v hv => by
        obtain ⟨j, hj⟩ := List.getElem?_of_mem hv
        have hjl : j < (S.ev y).cells.length := by rw [← hcs.1]; exact (List.getElem?_eq_some_iff.1 hj).1
        have hc := List.getElem?_eq_getElem hjl
        exact (hcs.2 j _ v hc hj).one (allB_mem hone _ (List.getElem_mem hjl)))
    have hsz : (a.eval y).cells.size = (T t).size := by rw [hcs.size]; exact hlen
    simp [execOp, ho, hax, Instr.storeAt, Instr.sureAddr, storeVar, hT.size hno, hsz, hst]
  · rename_i b s i hx
    obtain ⟨hkn, hlen, hsz, hfl, h⟩ := h
    split at h
    · rename_i s' rows hcur
      obtain ⟨rfl, hk⟩ := h
      refine ⟨_, _, hk, fun S' a w hn hr hrd _ _ hR K Q hK => ?_⟩
      obtain ⟨E, hE, hS⟩ := hR
      have hv := hS.ev x
      rw [ev_congr hr hmx, hx] at hv
      have hy := hS.ev y
      rw [ev_congr hr hmy] at hy
      generalize hax : a.eval x = vx at hv
      cases hv with
      | ep b s i g hkd hb hm =>
      have hcs := hy.cells (known_ne hkn)
      have hcur' : S'.cell b 0 = .arr s' rows := (hrd (b, 0) (by simp)).trans hcur
      have hone : ∀ (j : Nat) c v, (S.ev y).cells[j]? = some c → (a.eval y).cells.toList[j]? = some v → VI E.F c.low v ∧ v.oneCell' = true := fun j c v hc hv => by
        have hf := allB_mem hfl c (List.mem_of_getElem? hc)
        have hvr := hcs.2 j c v hc hv
        exact ⟨hvr.vi hf, hvr.one (by cases c <;> simp_all [AV.flat, AV.one])⟩
      obtain ⟨hcell, hE', hS'⟩ := hS.estore hE hkd hb hcur' hm (cs := (S.ev y).cells.map AV.low) (vs := (a.eval y).cells.toList) (by rw [hcs.1, hlen, hsz]) (by rw [List.length_map, hlen, hsz]) (fun j c v hc hv => by
        rw [List.getElem?_map] at hc
        cases hq : (S.ev y).cells[j]? with
        | none => rw [hq] at hc; cases hc
        | some c' => rw [hq] at hc; injection hc with hc; subst hc; exact hone j c' v hq hv) o.dst base
      refine wp_skp ?_ (hK _ _ ⟨E, hE', hS'⟩)
      have hst := run_storeCells_cells (P := P) g (i * s') (a.eval y).cells.toList 0 w (fun j hj => by
          rw [hcs.1, hlen, hsz] at hj; obtain ⟨u, e1⟩ := (hcell j hj).1; rw [Nat.add_zero, e1]; rfl) (fun j hj => by
          rw [hcs.1, hlen, hsz] at hj; have e1 := (hcell j hj).2; rw [Nat.add_zero, e1]) (fun v hv => by
          obtain ⟨j, hj⟩ := List.getElem?_of_mem hv
          have hjl : j < (S.ev y).cells.length := by rw [← hcs.1]; exact (List.getElem?_eq_some_iff.1 hj).1
          exact (hone j _ v (List.getElem?_eq_getElem hjl) hj).2)
      have hszz : (a.eval y).cells.size = (T t).size := by rw [hcs.size]; exact hlen
      simp [execOp, ho, hax, Instr.storeAt, Instr.sureAddr, storeVar, hT.size hno, hszz, hst]
    · exact h.elim
  · rename_i b s i of hx
    obtain ⟨hkn, hsz, hos, c, hcl, hfl, h⟩ := h
    split at h
    · rename_i e s' rows hcur
      obtain ⟨rfl, row, hrow, hk⟩ := h
      refine ⟨_, _, hk, fun S' a w hn hr hrd _ _ hR K Q hK => ?_⟩
      obtain ⟨E, hE, hS⟩ := hR
      have hv := hS.ev x
      rw [ev_congr hr hmx, hx] at hv
      have hy := hS.ev y
      rw [ev_congr hr hmy] at hy
      generalize hax : a.eval x = vx at hv
      cases hv with
      | ef b s i of g hkd hb hm =>
      have hcs := hy.cells (known_ne hkn)
      rw [hcl] at hcs
      have hcur' : S'.cell b 0 = .aw e s' rows := (hrd (b, 0) (by simp)).trans hcur
      obtain ⟨v0, hv0⟩ : ∃ v0, (a.eval y).cells.toList = [v0] := by
        have := hcs.1
        match hq : (a.eval y).cells.toList with
        | [] => rw [hq] at this; simp at this
        | [v0] => exact ⟨v0, rfl⟩
        | _ :: _ :: _ => rw [hq] at this; simp at this
      have hvr : VR E c v0 := hcs.2 0 c v0 rfl (by rw [hv0]; rfl)
      have hone : v0.oneCell' = true := hvr.one (by cases c <;> simp_all [AV.flat, AV.one])
      obtain ⟨⟨⟨u, e1⟩, e2⟩, hE', hS'⟩ := hS.fstore hE hkd hb hcur' hm hos ⟨hvr.vi hfl, hone⟩ o.dst base row hrow
      refine wp_skp ?_ (hK _ _ ⟨E, hE', hS'⟩)
      have hst := run_storeCells_cells (P := P) g (i * s' + of) (a.eval y).cells.toList 0 w (fun j hj => by
          rw [hv0] at hj
          have : j = 0 := by simpa using hj
          subst this
          simp only [Nat.add_zero, e1]; rfl) (fun j hj => by
          rw [hv0] at hj
          have : j = 0 := by simpa using hj
          subst this
          simp only [Nat.add_zero, e2]) (fun v hv => by
          rw [hv0] at hv
          rw [List.mem_singleton.1 hv]; exact hone)
      rw [hv0] at hst
      have hszz : (a.eval y).cells.size = (T t).size := by rw [hsz, ← Array.length_toList, hv0]; rfl
      simp [execOp, ho, hax, Instr.storeAt, Instr.sureAddr, storeVar, hT.size hno, hszz, hst, hv0]
    · exact h.elim
  · exact h.elim

theorem Eff.new_base (dst : Option Nat) (v : AV) (ws : List (Nat × Nat × AV)) (b : Nat) (cs : List AV) : (⟨dst, v, ws, b, [cs]⟩ : Eff).new b = true := by simp [Eff.new_one]

theorem cellable_cvOne (v : Value) : (cvOne v).cellable = true := by unfold cvOne; split <;> rfl

theorem stp_alloc (hT : TabOk P T) {Γ : Ctx} {o : Oper} {t : Nat} (ho : o.op = .alloc t) {S : FSt} (base : Nat) (hno : (T t).kd.isOther = false) : Stp Γ P o S [] ⟨o.dst, .ptr base 0, [], base, [(T t).zero]⟩ := by
  intro S' a w hn hr _ hf _ hR K Q hK
  obtain ⟨E, hE, hS⟩ := hR
  obtain ⟨i, z, i1, _, _, i4, i5, i6, i7, _⟩ := hT.info hno
  obtain ⟨hE', hS'⟩ := hS.box hE (hf base (Eff.new_base _ _ _ _ _)) (cs := (T t).zero) (vs := z.cells) (by rw [i6]; exact zero_VRs E z) (fun c hc => by rw [i6] at hc; obtain ⟨v, _, rfl⟩ := List.mem_map.1 hc; exact cellable_cvOne v) o.dst t
  refine wp_val ?_ (hK _ _ ⟨_, hE', hS'⟩)
  simp [execOp, ho, Instr.alloc, zeroValue, typeInfo, i1, i4, newVar, newRow]

/-- Empty slices in a new box's cells become own lists: for each the cell's place, its elements' type and their size. -/
def ownCs (base : Nat) : Nat → List (Nat × Nat × Nat) → List AV → List AV
  | _, [], cs => cs
  | k, o :: r, cs => ownCs base (k + 1) r (cs.set o.1 (.ow (base + 1 + k) o.2.1 o.2.2 []))
def isEmp : Option AV → Bool
  | some .emp => true
  | _ => false
def ownOk (base : Nat) : Nat → List (Nat × Nat × Nat) → List AV → Bool
  | _, [], _ => true
  | k, o :: r, cs => isEmp cs[o.1]? && ownOk base (k + 1) r (cs.set o.1 (.ow (base + 1 + k) o.2.1 o.2.2 []))
theorem Rel.ownCell {Γ : Ctx} {S S' : FSt} {a : Act} {w : World} (h : Rel Γ S a w) {b j t e s : Nat} (hc : S.cell b j = .emp) (ht : S.dom t = false) (hbt : b ≠ t)
    (h1 : S'.n = S.n) (h2 : S'.reg = S.reg) (h3 : S'.cell b j = .ow t e s []) (h4 : ∀ y, S'.cell t y = if y = 0 then .tok 0 else .non)
    (h5 : ∀ x y, x ≠ t → ¬ (x = b ∧ y = j) → S'.cell x y = S.cell x y) (h6 : ∀ x, S'.dom x = false → S.dom x = false ∧ x ≠ t) : Rel Γ S' a w := by
  obtain ⟨E, hE, hS⟩ := h
  have hk0 : E.kd t = 0 := hS.dom t ht
  have hcb := hS.cell b j
  rw [hc, CellOk.plain rfl] at hcb
  obtain ⟨k1, g, v, k2, k3, k4, k5⟩ := hcb
  cases k5 with
  | emp ad =>
  let E' := E.setTok t none ⟨0, e, s, .slice ad 0 0⟩ fun _ _ => False
  have hle : E.Le E' := Env.setTok_le (.inl hk0)
  have hgrow : w.grownBy w none := ⟨rfl, rfl, rfl, Nat.le_refl _, fun _ _ _ => rfl⟩
  refine ⟨E', hE.setTok (.inl hk0) hgrow (by simp) (fun x v hx => hE.F x v (hx.resolve_right id)) (fun x v hx => hx.elim) (by simp) (.inl ⟨by simp [E', Env.setTok], by simp [E', Env.setTok], ad, by simp [E', Env.setTok]⟩), ⟨hS.size.trans h1.symm, hS.defers, fun r => ?_, fun x y => ?_, fun x hx => ?_, Glob.mono hle.F hS.gl⟩⟩
  · rw [h2]; exact (hS.reg r).mono hle
  · by_cases hx : x = t
    · subst hx
      rw [h4 y]
      by_cases hy : y = 0
      · subst hy
        rw [if_pos rfl]
        exact ⟨rfl, by simp [E', Env.setTok], by simp [E', Env.setTok]⟩
      · rw [if_neg hy]; trivial
    · by_cases hy : x = b ∧ y = j
      · obtain ⟨rfl, rfl⟩ := hy
        rw [h3, CellOk.plain rfl]
        refine ⟨by simpa [E', Env.setTok, hx] using k1, g, _, by simpa [E', Env.setTok, hx] using k2, k3, k4, ?_⟩
        exact .ow t e s [] ad 0 (fun _ _ => undef) (by simp) (by simp) (by simp) (by simp [E', Env.setTok]) (by simp) (fun _ => by simp [E', Env.setTok]) (Nat.le_refl _)
      · rw [h5 x y hx hy]
        exact hS.setTok_other hE (.inl hk0) hgrow (by simp) hx y
  · obtain ⟨q1, q2⟩ := h6 x hx
    simpa [E', Env.setTok, q2] using hS.dom x q1
theorem Rel.ownCells {Γ : Ctx} {S : FSt} {a : Act} {w : World} {dst : Option Nat} {base : Nat} : ∀ (os : List (Nat × Nat × Nat)) (cs : List AV) (m : Nat), Rel Γ (S.apply ⟨dst, .ptr base 0, [], base, cs :: List.replicate m [.tok 0]⟩) a w → ownOk base m os cs = true →
    (∀ x, base ≤ x → x < base + 1 + (m + os.length) → S.dom x = false) → Rel Γ (S.apply ⟨dst, .ptr base 0, [], base, ownCs base m os cs :: List.replicate (m + os.length) [.tok 0]⟩) a w
  | [], cs, m, h, _, _ => h
  | o :: r, cs, m, h, hok, hf => by
    simp only [ownOk, Bool.and_eq_true] at hok
    have he : cs[o.1]? = some .emp := by
      have := hok.1
      unfold isEmp at this
      split at this
      · assumption
      · cases this
    have hlt : o.1 < cs.length := (List.getElem?_eq_some_iff.1 he).1
    have hnew : ∀ (m : Nat) (cs : List AV) (x : Nat), (⟨dst, .ptr base 0, [], base, cs :: List.replicate m [.tok 0]⟩ : Eff).new x = (decide (base ≤ x) && decide (x < base + 1 + m)) := fun m cs x => by
      simp only [Eff.new, List.length_cons, List.length_replicate]
      congr 2
      rw [Nat.add_assoc, Nat.add_comm 1 m]
    have hrep : ∀ (m i : Nat), i < m → (List.replicate m [AV.tok 0]).getD i [] = [.tok 0] := fun m i hi => by simp [List.getD, List.getElem?_replicate, hi]
    have h' := Rel.ownCells r (cs.set o.1 (.ow (base + 1 + m) o.2.1 o.2.2 [])) (m + 1) (S := S) (Γ := Γ) (a := a) (w := w) (dst := dst) ?_ hok.2 (fun x h1 h2 => hf x h1 (by simp only [List.length_cons]; omega))
    · rw [List.length_cons, show m + (r.length + 1) = m + 1 + r.length by omega]
      exact h'
    · refine Rel.ownCell h (b := base) (j := o.1) (t := base + 1 + m) (e := o.2.1) (s := o.2.2) ?_ ?_ (by omega) rfl rfl ?_ (fun y => ?_) (fun x y hx hy => ?_) (fun x hx => ?_)
      · simp only [FSt.apply, hnew]
        rw [if_pos (by simp; omega), Nat.sub_self]
        simp [List.getD, he]
      · simp only [FSt.apply, hnew, Bool.or_eq_false_iff]
        refine ⟨hf _ (by omega) (by simp only [List.length_cons]; omega), ?_⟩
        simp
      · simp only [FSt.apply, hnew]
        rw [if_pos (by simp; omega), Nat.sub_self]
        simp [List.getD, hlt]
      · simp only [FSt.apply, hnew]
        rw [if_pos (by simp; omega), show base + 1 + m - base = m + 1 by omega, List.getD_cons_succ, hrep _ _ (by omega)]
        cases y with
        | zero => rfl
        | succ y => simp [List.getD]
      · simp only [FSt.apply, hnew]
        by_cases h1 : base ≤ x ∧ x < base + 1 + m
        · rw [if_pos (by simp; omega), if_pos (by simp; omega)]
          by_cases h2 : x = base
          · subst h2
            rw [Nat.sub_self]
            have hy' : o.1 ≠ y := fun e => hy ⟨rfl, e.symm⟩
            simp [List.getD, List.getElem?_set_ne hy']
          · obtain ⟨q, hq⟩ : ∃ q, x - base = q + 1 := ⟨x - base - 1, by omega⟩
            rw [hq, List.getD_cons_succ, List.getD_cons_succ, hrep _ _ (by omega), hrep _ _ (by omega)]
        · rw [if_neg (by simp; omega), if_neg (by simp; omega)]
      · simp only [FSt.apply, hnew, Bool.or_eq_false_iff] at hx ⊢
        refine ⟨⟨hx.1, ?_⟩, ?_⟩
        · have := hx.2
          simp only [Bool.and_eq_false_iff, decide_eq_false_iff_not] at this ⊢
          omega
        · have := hx.2
          simp only [Bool.and_eq_false_iff, decide_eq_false_iff_not] at this
          omega
theorem stp_allocOwn (hT : TabOk P T) {Γ : Ctx} {o : Oper} {t : Nat} (ho : o.op = .alloc t) {S : FSt} (base : Nat) (hno : (T t).kd.isOther = false) {os : List (Nat × Nat × Nat)} (hok : ownOk base 0 os (T t).zero = true) :
    Stp Γ P o S [] ⟨o.dst, .ptr base 0, [], base, ownCs base 0 os (T t).zero :: List.replicate os.length [.tok 0]⟩ := by
  intro S' a w hn hr hrd hf hz hR K Q hK
  have hdom : ∀ x, base ≤ x → x < base + 1 + (0 + os.length) → S'.dom x = false := fun x h1 h2 => hf x (by simp only [Eff.new, List.length_cons, List.length_replicate, Bool.and_eq_true, decide_eq_true_eq]; omega)
  refine stp_alloc hT ho base hno S' a w hn hr hrd (fun x hx => hdom x ?_ ?_) hz hR K Q (fun a' w' h => hK a' w' ?_)
  · simp only [Eff.new, List.length_singleton, Bool.and_eq_true, decide_eq_true_eq] at hx; exact hx.1
  · simp only [Eff.new, List.length_singleton, Bool.and_eq_true, decide_eq_true_eq] at hx; omega
  · have := Rel.ownCells (S := S') (dst := o.dst) (base := base) os (T t).zero 0 h hok hdom
    rw [Nat.zero_add] at this
    exact this

theorem stp_box {Γ : Ctx} {o : Oper} {t : Nat} {x : Operand} (ho : o.op = .box t x) {S : FSt} (base : Nat) (hkn : (S.ev x).known = true) (hc : allB AV.cellable (S.ev x).cells = true) :
    Stp Γ P o S [] ⟨o.dst, .ptr base 0, [], base, [(S.ev x).cells]⟩ := by
  intro S' a w hn hr _ hf _ hR K Q hK
  obtain ⟨E, hE, hS⟩ := hR
  have hv := hS.ev x
  rw [ev_congr hr (by rw [ho]; simp [Op.operands])] at hv
  obtain ⟨hE', hS'⟩ := hS.box hE (hf base (Eff.new_base _ _ _ _ _)) (hv.cells (known_ne hkn)) (fun c h => allB_mem hc c h) o.dst t
  refine wp_val ?_ (hK _ _ ⟨_, hE', hS'⟩)
  simp [execOp, ho, Instr.box, newVar, newRow]

theorem stp_makeMap {Γ : Ctx} {o : Oper} {t : Nat} (ho : o.op = .makeMap t none) {S : FSt} (base : Nat) : Stp Γ P o S [] ⟨o.dst, .mp base, [], base, [[.mps fun _ => none]]⟩ := by
  intro S' a w hn hr _ hf _ hR K Q hK
  obtain ⟨E, hE, hS⟩ := hR
  obtain ⟨hE', hS'⟩ := hS.map hE (hf base (Eff.new_base _ _ _ _ _)) o.dst
  refine wp_val ?_ (hK _ _ ⟨_, hE', hS'⟩)
  simp [execOp, ho, Instr.makeMap]

def aMake (T : TT) (dst : Option Nat) (t : Nat) (l c : AV) (base : Nat) (k : Eff → List (Nat × Nat) → Prop) : Prop :=
  match (T t).kd, l, c with
  | .slice e, .int _ n, .int _ n' => (T e).kd.isOther = false ∧ n' = n ∧ 0 ≤ n ∧ n.toNat ≤ 1099511627776 ∧ n.toNat * (T e).bytes ≤ 140737488355328 ∧
      k ⟨dst, .sb base n.toNat, [], base, [[.arr (T e).size (List.replicate n.toNat (T e).zero)]]⟩ []
  | _, _, _ => False

theorem stp_make (hT : TabOk P T) {Γ : Ctx} {o : Oper} {t : Nat} {x y : Operand} (ho : o.op = .makeSlice t x y) {S : FSt} {base : Nat} {k : Eff → List (Nat × Nat) → Prop} (h : aMake T o.dst t (S.ev x) (S.ev y) base k) :
    ∃ e rd, k e rd ∧ Stp Γ P o S rd e := by
  unfold aMake at h
  split at h
  · rename_i e kl n kc n' hk hx hy
    obtain ⟨hno, rfl, h0, h1, h2, h⟩ := h
    have hkd := hT.kd (t := t) (by rw [hk]; rfl)
    rw [hk] at hkd
    simp only [kdOk] at hkd
    obtain ⟨i, z, i1, i2, i3, i4, i5, i6, i7, _⟩ := hT.info hno
    refine ⟨_, _, h, fun S' a w hn hr _ hf _ hR K Q hK => ?_⟩
    obtain ⟨E, hE, hS⟩ := hR
    have hvx := hS.ev x
    rw [ev_congr hr (by rw [ho]; simp [Op.operands]), hx] at hvx
    have hvy := hS.ev y
    rw [ev_congr hr (by rw [ho]; simp [Op.operands]), hy] at hvy
    generalize hax : a.eval x = vx at hvx
    generalize hay : a.eval y = vy at hvy
    cases hvx
    cases hvy
    have hsz : z.cells.size = (T e).size := i5
    obtain ⟨hE', hS'⟩ := hS.arr hE (hf base (Eff.new_base _ _ _ _ _)) (z := (T e).zero) (zv := z.cells) (n := n'.toNat) (by rw [i6]; simp) (fun j c v hc hv => by
      rw [i6, List.getElem?_map, Array.getElem?_toList, hv] at hc
      injection hc with hc
      subst hc
      exact ⟨cvOne_VI _ v, i7 v (Array.mem_of_getElem? hv)⟩) o.dst e
    rw [hsz] at hE' hS'
    refine wp_val ?_ (hK _ _ ⟨_, hE', hS'⟩)
    have hrun := run_make (P := P) w t e i z hkd i1 i4 kl kc n' n' h0 (Int.le_refl _) (by
      have h3 : (n'.toNat : Int) = n' := by omega
      have h4 : ((n'.toNat * (T e).bytes : Nat) : Int) ≤ 140737488355328 := by omega
      rw [Int.natCast_mul, h3, ← i3, Int.mul_comm] at h4
      omega) (by omega)
    rw [i2] at hrun
    simp [execOp, ho, hax, hay, hrun]
  · exact h.elim

end Go.Ab
end

section
namespace Go.Ab
open Go Go.RowKit
set_option linter.unusedVariables false
set_option linter.unusedSimpArgs false

variable {P : Program} {T : TT}

/-- The elements of a slice that is appended. -/
def srcOf (s : Nat) : AV → Option (List (List AV))
  | .sl s' rows => if s' = s then some rows else none
  | .ow _ _ s' rows => if s' = s then some rows else none
  | .emp => some []
  | _ => none

theorem srcOf_sound {E : Env} {s : Nat} {x : AV} {rows : List (List AV)} {v : Value} (h : srcOf s x = some rows) (hv : VR E x v) : Src E s rows v := by
  cases x <;> simp only [srcOf] at h <;> first | (cases h; done) | skip
  case sl s' rows' =>
    split at h
    · rename_i e; subst e; injection h with h; subst h; exact .of_sl hv
    · cases h
  case ow t e s' rows' =>
    split at h
    · rename_i e; subst e; injection h with h; subst h; exact .of_ow hv
    · cases h
  case emp => injection h with h; subst h; exact .of_emp hv

def aAppend (T : TT) (dst : Option Nat) (t t' : Nat) (S : FSt) (x y : AV) (base : Nat) (k : Eff → List (Nat × Nat) → Prop) : Prop :=
  t' = t ∧
  match (T t).kd, x with
  | .slice e, .emp => (T e).kd.isOther = false ∧ 0 < (T e).size ∧ ∃ rows, srcOf (T e).size y = some rows ∧ Full (T e).size rows ∧ rows.length ≤ 1099511627776 ∧ rows.length * (T e).bytes ≤ 140737488355328 ∧
      (k ⟨dst, .ow base e (T e).size rows, [], base, [[.tok rows.length]]⟩ [] ∨ 0 < rows.length ∧ (k ⟨dst, .sb base rows.length, [], base, [[.arr (T e).size rows]]⟩ [] ∨ k ⟨dst, .sb base rows.length, [], base, [[.aw e (T e).size rows]]⟩ []))
  | .slice e, .ow b e' s' rows0 => (T e).kd.isOther = false ∧ 0 < (T e).size ∧ e' = e ∧ s' = (T e).size ∧ S.cell b 0 = .tok rows0.length ∧ ∃ rows, srcOf (T e).size y = some rows ∧ Full (T e).size rows0 ∧ Full (T e).size rows ∧
      rows0.length + rows.length ≤ 1099511627776 ∧ (rows0.length + rows.length) * (T e).bytes ≤ 140737488355328 ∧ k ⟨dst, .ow b e (T e).size (rows0 ++ rows), [(b, 0, .tok (rows0.length + rows.length))], base, []⟩ [(b, 0)]
  | _, _ => False

theorem wp_append {o : Oper} {x y : Operand} {t : Nat} (ho : o.op = .call { callee := .builtin .append, args := #[x, y], argTypes := #[t, t] }) {a : Act} {w w' : World} {v : Value} {K : Act → World → Prop} {Q : Exit → Act → World → Prop}
    (h : (Builtin.append_ #[t, t] o.type #[a.eval x, a.eval y]).run P w = .ok v w') (hK : K (a.put o.dst v) w') : o.wp P a w K Q :=
  wp_val (v := v) (w' := w') (by simp [execOp, ho, resolve, invoke, builtin, h]) hK

theorem stp_append (hT : TabOk P T) {Γ : Ctx} {o : Oper} {x y : Operand} {t t' : Nat} (ho : o.op = .call { callee := .builtin .append, args := #[x, y], argTypes := #[t, t'] }) {S : FSt} {base : Nat} {k : Eff → List (Nat × Nat) → Prop}
    (h : aAppend T o.dst t t' S (S.ev x) (S.ev y) base k) : ∃ e rd, k e rd ∧ Stp Γ P o S rd e := by
  obtain ⟨rfl, h⟩ := h
  have hmx : x ∈ o.op.operands.toList := by rw [ho]; simp [Op.operands, Call.operands]
  have hmy : y ∈ o.op.operands.toList := by rw [ho]; simp [Op.operands, Call.operands]
  split at h
  · rename_i e hk hx
    obtain ⟨hno, hs, rows, h1, h2, h3, h4, h5⟩ := h
    have hkd := hT.kd (t := t') (by rw [hk]; rfl)
    rw [hk] at hkd
    obtain ⟨i, z, i1, i2, i3, i4, i5, _⟩ := hT.info hno
    rcases h5 with h5 | ⟨h6, h5 | h5⟩
    · refine ⟨_, _, h5, fun S' a w hn hr hrd hf _ hR K Q hK => ?_⟩
      obtain ⟨E, hE, hS⟩ := hR
      have hvx := hS.ev x
      rw [ev_congr hr hmx, hx] at hvx
      have hvy := hS.ev y
      rw [ev_congr hr hmy] at hvy
      obtain ⟨v', w', hrun, hrel⟩ := hS.append_emp (P := P) hE (hf base (Eff.new_base _ _ _ _ _)) o.dst (ty := o.type) hkd i1 i4 i2 i5 i3 hs h2 (by omega) h4 hvx (srcOf_sound h1 hvy)
      exact wp_append ho hrun (hK _ _ hrel)
    · refine ⟨_, _, h5, fun S' a w hn hr hrd hf _ hR K Q hK => ?_⟩
      obtain ⟨E, hE, hS⟩ := hR
      have hvx := hS.ev x
      rw [ev_congr hr hmx, hx] at hvx
      have hvy := hS.ev y
      rw [ev_congr hr hmy] at hvy
      obtain ⟨v', w', hrun, hrel⟩ := hS.append_row (P := P) hE (hf base (Eff.new_base _ _ _ _ _)) o.dst (ty := o.type) hkd i1 i4 i2 i5 i3 hs h6 h2 (by omega) h4 hvx (srcOf_sound h1 hvy)
      exact wp_append ho hrun (hK _ _ hrel)
    · refine ⟨_, _, h5, fun S' a w hn hr hrd hf _ hR K Q hK => ?_⟩
      obtain ⟨E, hE, hS⟩ := hR
      have hvx := hS.ev x
      rw [ev_congr hr hmx, hx] at hvx
      have hvy := hS.ev y
      rw [ev_congr hr hmy] at hvy
      obtain ⟨v', w', hrun, hrel⟩ := hS.append_own (P := P) hE (hf base (Eff.new_base _ _ _ _ _)) o.dst (ty := o.type) hkd i1 i4 i2 i5 i3 hs h6 h2 (by omega) h4 hvx (srcOf_sound h1 hvy)
      exact wp_append ho hrun (hK _ _ hrel)
  · rename_i e b e' s' rows0 hk hx
    obtain ⟨hno, hs, rfl, rfl, hcur, rows, h1, h2, h2', h3, h4, h5⟩ := h
    have hkd := hT.kd (t := t') (by rw [hk]; rfl)
    rw [hk] at hkd
    obtain ⟨i, z, i1, i2, i3, i4, i5, _⟩ := hT.info hno
    refine ⟨_, _, h5, fun S' a w hn hr hrd hf _ hR K Q hK => ?_⟩
    obtain ⟨E, hE, hS⟩ := hR
    have hvx := hS.ev x
    rw [ev_congr hr hmx, hx] at hvx
    have hvy := hS.ev y
    rw [ev_congr hr hmy] at hvy
    obtain ⟨v', w', hrun, hrel⟩ := hS.append_tok (P := P) hE o.dst base (ty := o.type) hkd i1 i4 i2 i5 i3 hs h2 h2' (by omega) h4 hvx (by rw [hrd (b, 0) (by simp)]; exact hcur) (srcOf_sound h1 hvy)
    exact wp_append ho hrun (hK _ _ hrel)
  · exact h.elim

/-! ### A literal slice -/

theorem SOk.grow {Γ : Ctx} {E : Env} {S : FSt} {a : Act} {w : World} (h : SOk E S a w) (o : Obj) {dst : Option Nat} {c : AV} {v : Value} (hv : VR E c v) (n : Nat) :
    SOk E (S.apply ⟨dst, c, [], n, []⟩) (a.put dst v) (w.alloc o) := by
  refine h.step (Env.Le.refl E) (e := ⟨dst, c, [], n, []⟩) hv (fun b j => ?_) (fun b hb => ?_)
  · rw [apply_pure_cell]
    exact (h.cell b j).keep (Env.Le.refl E) (fun _ _ _ hl => heap_alloc_lt w o hl) (fun _ => rfl)
  · rw [apply_pure_dom] at hb; exact h.dom b hb

theorem lay_get : ∀ (r : List AV) (off : Nat) (cs : List AV) (k : Nat), off + r.length ≤ cs.length → (lay off r cs)[k]? = if off ≤ k ∧ k < off + r.length then r[k - off]? else cs[k]?
  | [], off, cs, k, _ => by rw [lay, if_neg (by simp)]
  | c :: r, off, cs, k, h => by
    rw [lay, lay_get r (off + 1) (cs.set off c) k (by simp at h ⊢; omega)]
    by_cases h1 : off + 1 ≤ k ∧ k < off + 1 + r.length
    · rw [if_pos h1, if_pos (by simp; omega), show k - off = (k - (off + 1)) + 1 by omega]
      simp
    · rw [if_neg h1]
      by_cases h2 : off = k
      · subst h2
        rw [if_pos (by simp), List.getElem?_set]
        simp at h ⊢
        omega
      · rw [if_neg (by simp; omega), List.getElem?_set, if_neg h2]

theorem aFill_rows (s : Nat) (hs : 0 < s) : ∀ (parts : List (Nat × AV)) (i0 : Nat) (cs : List AV), allP s i0 parts = true → (i0 + parts.length) * s ≤ cs.length →
    ∃ out, aFill (fun i => some (i * s, s)) cs parts = some out ∧ out.length = cs.length ∧ (∀ k, k < i0 * s → out[k]? = cs[k]?) ∧ ∀ i j p, parts[i]? = some p → j < s → out[(i0 + i) * s + j]? = p.2.cells[j]?
  | [], i0, cs, _, _ => ⟨cs, rfl, rfl, fun _ _ => rfl, fun i j p h => by simp at h⟩
  | (i, v) :: r, i0, cs, h, hl => by
    simp only [allP, Bool.and_eq_true, decide_eq_true_eq] at h
    obtain ⟨⟨⟨⟨h1, h2⟩, h3⟩, h4⟩, h5⟩ := h
    subst h1
    have hle : i * s + s ≤ cs.length := by
      have : (i + 1) * s ≤ (i + (r.length + 1)) * s := Nat.mul_le_mul_right _ (by omega)
      simp only [List.length_cons] at hl
      rw [Nat.add_mul, Nat.one_mul] at this
      omega
    obtain ⟨out, o1, o2, o3, o4⟩ := aFill_rows s hs r (i + 1) (lay (i * s) v.cells cs) h5 (by rw [lay_length]; simp only [List.length_cons] at hl; rw [show i + 1 + r.length = i + (r.length + 1) by omega]; exact hl)
    refine ⟨out, ?_, by rw [o2, lay_length], fun k hk => ?_, fun i' j p hp hj => ?_⟩
    · simp only [aFill]
      rw [if_pos ⟨h2, hle, h3⟩]
      exact o1
    · rw [o3 k (by rw [Nat.add_mul]; omega), lay_get _ _ _ _ (by omega), if_neg (by omega)]
    · cases i' with
      | zero =>
        simp only [List.getElem?_cons_zero, Option.some.injEq] at hp
        subst hp
        rw [Nat.add_zero, o3 _ (by rw [Nat.add_mul, Nat.one_mul]; omega), lay_get _ _ _ _ (by omega), if_pos (by omega), Nat.add_sub_cancel_left]
      | succ i' =>
        have := o4 i' j p (by simpa using hp) hj
        rw [show i + 1 + i' = i + (i' + 1) by omega] at this
        exact this

def aBuildSlice (T : TT) (dst : Option Nat) (t len : Nat) (parts : List (Nat × AV)) (base : Nat) (k : Eff → List (Nat × Nat) → Prop) : Prop :=
  match (T t).kd with
  | .slice e => (T e).kd.isOther = false ∧ 0 < (T e).size ∧
    if len = 0 then parts.length = 0 ∧ k ⟨dst, .emp, [], base, []⟩ []
    else len * (T e).size ≤ 1024 ∧ parts.length = len ∧ allP (T e).size 0 parts = true ∧ k ⟨dst, .ow base e (T e).size (parts.map fun p => p.2.cells.map AV.low), [], base, [[.tok len]]⟩ []
  | _ => False

theorem allP_get (s : Nat) : ∀ (parts : List (Nat × AV)) (i0 i : Nat) (p : Nat × AV), allP s i0 parts = true → parts[i]? = some p → p.2.cells.length = s ∧ ∀ c ∈ p.2.cells, c.flat = true
  | q :: r, i0, i, p, h, hp => by
    simp only [allP, Bool.and_eq_true, decide_eq_true_eq] at h
    obtain ⟨⟨⟨⟨h1, h2⟩, h3⟩, h4⟩, h5⟩ := h
    cases i with
    | zero =>
      simp only [List.getElem?_cons_zero, Option.some.injEq] at hp
      subst hp
      exact ⟨h2, fun c hc => allB_mem h4 c hc⟩
    | succ i => exact allP_get s r (i0 + 1) i p h5 (by simpa using hp)

theorem grownBy_alloc (w : World) (o : Obj) : w.grownBy (w.alloc o) none := World.grownBy_alloc w o none

theorem stp_buildSlice (hT : TabOk P T) {Γ : Ctx} {o : Oper} {t len : Nat} {parts : Array (Nat × Operand)} (ho : o.op = .buildSlice t len parts) {S : FSt} {base : Nat} {k : Eff → List (Nat × Nat) → Prop}
    (h : aBuildSlice T o.dst t len (parts.toList.map fun p => (p.1, S.ev p.2)) base k) : ∃ e rd, k e rd ∧ Stp Γ P o S rd e := by
  unfold aBuildSlice at h
  split at h
  · rename_i e hk
    obtain ⟨hno, hs, h⟩ := h
    have hkd := hT.kd (t := t) (by rw [hk]; rfl)
    rw [hk] at hkd
    simp only [kdOk] at hkd
    obtain ⟨i, z, i1, i2, _, i4, i5, i6, i7, _⟩ := hT.info hno
    split at h
    · rename_i hl0
      obtain ⟨hp0, hk'⟩ := h
      have hp : parts = #[] := by
        have : parts.toList = [] := List.eq_nil_of_length_eq_zero (by simpa using hp0)
        simpa using this
      subst hp; subst hl0
      refine ⟨_, _, hk', fun S' a w hn hr _ _ _ hR K Q hK => ?_⟩
      obtain ⟨E, hE, hS⟩ := hR
      refine wp_val (v := .slice (some ⟨w.heap.size, 0, none⟩) 0 0) (w' := w.alloc (.cells #[] e)) ?_ (hK _ _ ⟨E, hE.alloc _, hS.grow (Γ := Γ) _ (.emp _) base⟩)
      simp [execOp, ho, Instr.buildSlice, run_underlying hkd, hT.size hno, Instr.fill, newRow]
      have e0 : ∀ f : Nat → Value, Array.map f (Array.range 0) = #[] := fun f => Array.eq_empty_of_size_eq_zero (by simp)
      rw [e0]
    · rename_i hl0
      obtain ⟨hlen, hpl, hall, hk'⟩ := h
      refine ⟨_, _, hk', fun S' a w hn hr _ hf _ hR K Q hK => ?_⟩
      obtain ⟨E, hE, hS⟩ := hR
      -- the cells
      let s := (T e).size
      let ps := parts.toList.map fun p => (p.1, S.ev p.2)
      let zs : Array Value := (Array.range (len * s)).map (fun x => z.cells[x % z.cells.size]!)
      obtain ⟨out, o1, o2, _, o4⟩ := aFill_rows s hs ps 0 (zs.toList.map cvOne) hall (by simp [zs, ps] at hpl ⊢; rw [hpl]; omega)
      have hzs : VRs E (zs.toList.map cvOne) zs.toList := ⟨by simp, fun j c v hc hv => by
        rw [List.getElem?_map, hv] at hc; injection hc with hc; subst hc; exact cvOne_VR E v⟩
      obtain ⟨us, u1, u2⟩ := aFill_sound (E := E) (fun i => some (i * s, s)) ps (parts.map fun (i, x) => (i, a.eval x)).toList (zs.toList.map cvOne) out zs o1 (by simp [ps]) (fun j p q hp hq => by
          rw [List.getElem?_map] at hp
          rw [Array.toList_map, List.getElem?_map] at hq
          cases hx : parts.toList[j]? with
          | none => rw [hx] at hp; cases hp
          | some y =>
            rw [hx] at hp hq
            injection hp with hp; injection hq with hq
            subst hp; subst hq
            refine ⟨rfl, ?_⟩
            have := hS.ev y.2
            rwa [ev_congr hr (by rw [ho]; simp only [Op.operands]; simp; exact ⟨y.1, by simpa using List.mem_of_getElem? hx⟩)] at this) hzs
      have hus : us.size = len * s := by rw [u2.size, o2]; simp [zs]
      have hnp : ps.length = len := hpl
      have hcell : ∀ i' j', i' < len → j' < s → ∃ p c v, ps[i']? = some p ∧ p.2.cells[j']? = some c ∧ us[i' * s + j']? = some v ∧ VR E c v ∧ c.flat = true := fun i' j' hi' hj' => by
        have hp : ps[i']? = some (ps[i']'(by omega)) := List.getElem?_eq_getElem _
        obtain ⟨q1, q2⟩ := allP_get s ps 0 i' _ hall hp
        have hc : (ps[i']'(by omega)).2.cells[j']? = some ((ps[i']'(by omega)).2.cells[j']'(by omega)) := List.getElem?_eq_getElem _
        have ho4 := o4 i' j' _ hp hj'
        rw [Nat.zero_add, hc] at ho4
        obtain ⟨v, v1, v2⟩ := u2.get ho4
        exact ⟨_, _, v, hp, hc, by simpa using v1, v2, q2 _ (List.mem_of_getElem? hc)⟩
      let g : Nat → Nat → Value := fun i' j' => (us[i' * s + j']?).getD undef
      have hrl : (ps.map fun p => p.2.cells.map AV.low).length = len := by simp [hnp]
      have hflat : flat s len g = us.toList := by
        apply List.ext_getElem?
        intro k'
        by_cases hk' : k' < len * s
        · rw [flat_get hk']
          have e1 : us[k']? = some us[k'] := Array.getElem?_eq_getElem (by omega)
          rw [Array.getElem?_toList, e1]
          simp only [g]
          rw [Nat.div_add_mod' k' s, e1]
          rfl
        · rw [List.getElem?_eq_none (by rw [flat_length]; omega), List.getElem?_eq_none (by simp; omega)]
      have hrel := hS.newTok (Γ := Γ) hE (w' := w.alloc (.cells us e)) (t := base) (hf base (Eff.new_base _ _ _ _ _)) o.dst e s (rows := ps.map fun p => p.2.cells.map AV.low) hs
        (fun row hrow => by
          obtain ⟨p, hp, rfl⟩ := List.mem_map.1 hrow
          obtain ⟨i', hi'⟩ := List.getElem?_of_mem hp
          simpa using (allP_get s ps 0 i' p hall hi').1) (g := g)
        (fun i' j' hi' hj' => by
          rw [hrl] at hi'
          obtain ⟨p, c, v, _, _, e3, e4, e5⟩ := hcell i' j' hi' hj'
          simp only [g, e3, Option.getD_some]
          exact e4.one (by cases c <;> simp_all [AV.flat, AV.one]))
        (fun i' row j' c hrow hc => by
          have hi' : i' < len := by rw [← hrl]; exact (List.getElem?_eq_some_iff.1 hrow).1
          rw [List.getElem?_map] at hrow
          have hpi : ps[i']? = some (ps[i']'(by omega)) := List.getElem?_eq_getElem _
          rw [hpi] at hrow
          injection hrow with hrow
          subst hrow
          rw [List.getElem?_map] at hc
          have hj' : j' < s := by
            have := (allP_get s ps 0 i' _ hall hpi).1
            cases hx : (ps[i']'(by omega)).2.cells[j']? with
            | none => rw [hx] at hc; cases hc
            | some c0 => rw [← this]; exact (List.getElem?_eq_some_iff.1 hx).1
          obtain ⟨p, c0, v, e1, e2, e3, e4, e5⟩ := hcell i' j' hi' hj'
          rw [hpi] at e1
          injection e1 with e1
          subst e1
          rw [e2] at hc
          injection hc with hc
          subst hc
          simp only [g, e3, Option.getD_some]
          exact e4.vi e5)
        (cap := len) (by rw [hrl]; exact Nat.le_refl _) (grownBy_alloc w _) (by simp)
        (by
          rw [hrl, hflat]
          exact World.ownsRow_lit w us len (Nat.zero_le _) (by unfold maxLen; have : len ≤ len * (T e).size := Nat.le_mul_of_pos_right _ hs; omega) hus)
        (fun k' hk' => by rw [hrl, hflat, World.cell?_alloc_new]; simp)
      rw [hrl] at hrel
      refine wp_val (w' := w.alloc (.cells us e)) ?_ (hK _ _ hrel)
      have hsz0 : ¬ (len * (T e).size > 2 ^ 24) := by omega
      have hne : ¬ (len * (T e).size = 0) := by
        have : 0 < len * (T e).size := Nat.mul_pos (by omega) hs
        omega
      have hz : (zeroValue e).run P w = .ok z w := by simp [zeroValue, typeInfo, i1, i4]
      have hu1 : Instr.fill (fun i => some (i * (T e).size, (T e).size)) zs ((parts.map fun (i, x) => (i, a.eval x)).toList) = some us := u1
      simp only [execOp, ho, Instr.buildSlice, Sem.run_bind, run_underlying hkd, Result.andThen_ok, hT.size hno, hsz0, hne, if_false, hz, Sem.run_pure]
      simp only [zs, s] at hu1
      rw [hu1]
      simp [newRow]
  · exact h.elim

/-! ### Maps with strings for keys -/

theorem findNow_none (l : List UInt8) : ∀ (es : List MapEntry) (i0 : Nat), (∀ e ∈ es, ∃ l' : List UInt8, e.key = .string ⟨l'.toArray⟩) → (∀ e ∈ es, e.key ≠ .string ⟨l.toArray⟩) →
    Instr.findNow .string (.string ⟨l.toArray⟩) es i0 = some none
  | [], _, _, _ => rfl
  | e :: es, i0, h1, h2 => by
    obtain ⟨l', hl'⟩ := h1 e (by simp)
    have hne : ((⟨l.toArray⟩ : ByteArray) == ⟨l'.toArray⟩) = false := by
      rw [beq_toListBytes, ByteArray.toList_eq, ByteArray.toList_eq]
      simp only [beq_eq_false_iff_ne, ne_eq]
      intro hc
      exact h2 e (by simp) (by rw [hl', show l' = l from by simpa using hc.symm])
    simp only [Instr.findNow, hl', Instr.sameNow, hne]
    exact findNow_none l es (i0 + 1) (fun e he => h1 e (by simp [he])) (fun e he => h2 e (by simp [he]))

theorem findNow_some (l : List UInt8) : ∀ (es : List MapEntry) (i0 i : Nat) (e : MapEntry), (∀ e ∈ es, ∃ l' : List UInt8, e.key = .string ⟨l'.toArray⟩) → es[i]? = some e → e.key = .string ⟨l.toArray⟩ →
    (∀ (j : Nat) (e' : MapEntry), j < i → es[j]? = some e' → e'.key ≠ .string ⟨l.toArray⟩) → Instr.findNow .string (.string ⟨l.toArray⟩) es i0 = some (some (i0 + i, e.val))
  | [], _, i, e, _, h, _, _ => by simp at h
  | d :: es, i0, 0, e, h1, h, hk, _ => by
    simp only [List.getElem?_cons_zero, Option.some.injEq] at h
    subst h
    have he : ((⟨l.toArray⟩ : ByteArray) == ⟨l.toArray⟩) = true := by rw [beq_toListBytes]; simp
    simp [Instr.findNow, hk, Instr.sameNow, he]
  | d :: es, i0, i + 1, e, h1, h, hk, hb => by
    obtain ⟨l', hl'⟩ := h1 d (by simp)
    have hne : ((⟨l.toArray⟩ : ByteArray) == ⟨l'.toArray⟩) = false := by
      rw [beq_toListBytes, ByteArray.toList_eq, ByteArray.toList_eq]
      simp only [beq_eq_false_iff_ne, ne_eq]
      intro hc
      exact hb 0 d (by omega) rfl (by rw [hl', show l' = l from by simpa using hc.symm])
    simp only [Instr.findNow, hl', Instr.sameNow, hne]
    rw [findNow_some l es (i0 + 1) i e (fun e he => h1 e (by simp [he])) (by simpa using h) hk (fun j e' hj he' => hb (j + 1) e' (by omega) (by simpa using he'))]
    rw [show i0 + 1 + i = i0 + (i + 1) by omega]

theorem run_checkKey_str (w : World) {kt : Nat} (h : P.underlying kt = some .string) (b : Bool) (s : ByteArray) : (Instr.checkKey b 10000 kt (.string s)).run P w = .ok () w := by
  rw [show (10000 : Nat) = 9999 + 1 from rfl]
  unfold Instr.checkKey
  rw [Sem.run_bind, run_underlying h]
  rfl

theorem run_findKey_str (w : World) {kt : Nat} (h : P.underlying kt = some .string) (v : Value) (es : List MapEntry) {r : Option (Nat × Value)} (hr : Instr.findNow .string v es 0 = some r) :
    (Instr.findKey kt v es).run P w = .ok r w := by
  simp [Instr.findKey, run_underlying h, hr]

def aLookup (T : TT) (dst : Option Nat) (t : Nat) (S : FSt) (m key : AV) (base : Nat) (k : Eff → List (Nat × Nat) → Prop) : Prop :=
  match (T t).kd, m, key with
  | .map kt et, .mp b, .str l => (T kt).kd = .str ∧ (T et).kd.isOther = false ∧
    match S.cell b 0 with
    | .mps f => (∀ c, f l = some c → k ⟨dst, c, [], base, []⟩ [(b, 0)]) ∧ (f l = none → (T et).kd.isAgg = false ∧ ∃ z, (T et).zero = [z] ∧ k ⟨dst, z, [], base, []⟩ [(b, 0)])
    | _ => False
  | .map kt et, .gm i, .str l => (T kt).kd = .str ∧ (T et).kd.isOther = false ∧
    match Glob.mapf i with
    | some f => (∀ c, f l = some c → k ⟨dst, c, [], base, []⟩ []) ∧ (f l = none → (T et).kd.isAgg = false ∧ ∃ z, (T et).zero = [z] ∧ k ⟨dst, z, [], base, []⟩ [])
    | none => False
  | _, _, _ => False

theorem lookup_run {t kt et g : Nat} {l : List UInt8} {w : World} {es : Array MapEntry} {clock : Nat} (hkd : P.underlying t = some (.map kt et)) (hks : P.underlying kt = some .string) (hg : w.heap[g]? = some (.map es clock)) :
    (Instr.lookup t (.map (some g)) (.string ⟨l.toArray⟩) false).run P w = ((Instr.findKey kt (.string ⟨l.toArray⟩) es.toList).run P w).andThen fun r w1 => match r with
            | some (_, v) => .ok v w1
            | none => ((zeroValue et).run P w1) := by
  have hgo : (getObj g).run P w = .ok (.map es clock) w := by simp [getObj, Sem.run, hg]
  simp only [Instr.lookup, Sem.run_bind, run_underlying hkd, Result.andThen_ok, hgo, Sem.run_pure, run_checkKey_str w hks]
  generalize (Instr.findKey kt (.string ⟨l.toArray⟩) es.toList).run P w = r
  cases r with
  | halt x w1 => simp [Result.andThen]
  | ok r w1 =>
    cases r with
    | none =>
      simp only [Result.andThen_ok, Sem.run_bind]
      generalize (zeroValue et).run P w1 = r2
      cases r2 <;> simp [Result.andThen]
    | some p => simp

theorem lookup_of (hT : TabOk P T) {Γ : Ctx} {o : Oper} {t : Nat} {x y : Operand} (ho : o.op = .lookup t x y false) {S : FSt} {base : Nat} {k : Eff → List (Nat × Nat) → Prop} {rd : List (Nat × Nat)} {kt et : Nat} {l : List UInt8} {f : List UInt8 → Option AV}
    (hkd : P.underlying t = some (.map kt et)) (hks : P.underlying kt = some .string) (het : (T et).kd.isOther = false)
    (main : ∀ (S' : FSt) (a : Act) (w : World), (∀ r ∈ tmpsOf o.op, S'.reg r = S.reg r) → (∀ c ∈ rd, S'.cell c.1 c.2 = S.cell c.1 c.2) → ∀ E, EOk Γ E w → SOk E S' a w →
      ∃ (g : Nat) (es : Array MapEntry) (clock : Nat), a.eval x = .map (some g) ∧ a.eval y = .string ⟨l.toArray⟩ ∧ w.heap[g]? = some (.map es clock) ∧ MapOk E f es.toList)
    (h : (∀ c, f l = some c → k ⟨o.dst, c, [], base, []⟩ rd) ∧ (f l = none → (T et).kd.isAgg = false ∧ ∃ z, (T et).zero = [z] ∧ k ⟨o.dst, z, [], base, []⟩ rd)) : ∃ e rd, k e rd ∧ Stp Γ P o S rd e := by
  cases hfl : f l with
  | some c =>
    refine ⟨_, _, h.1 c hfl, fun S' a w hn hr hrd _ _ hR K Q hK => ?_⟩
    obtain ⟨E, hE, hS⟩ := hR
    obtain ⟨g, es, clock, hax, hay, hg, hm⟩ := main S' a w hr hrd E hE hS
    obtain ⟨i, e, h1, h2, h3, h4⟩ := hm.2.2 l c hfl
    have := run_findKey_str (P := P) w hks _ _ (findNow_some l es.toList 0 i e hm.1 h1 h2 h4)
    have hr2 := lookup_run (l := l) hkd hks hg
    rw [this] at hr2
    exact wp_val (v := e.val) (w' := w) (by simp [execOp, ho, hax, hay, hr2]) (hK _ _ ⟨E, hE, hS.pure h3.vr base⟩)
  | none =>
    obtain ⟨hag, z, hz, hkz⟩ := h.2 hfl
    refine ⟨_, _, hkz, fun S' a w hn hr hrd _ _ hR K Q hK => ?_⟩
    obtain ⟨E, hE, hS⟩ := hR
    obtain ⟨g, es, clock, hax, hay, hg, hm⟩ := main S' a w hr hrd E hE hS
    have := run_findKey_str (P := P) w hks _ _ (findNow_none l es.toList 0 hm.1 (hm.2.1 l hfl))
    have hr2 := lookup_run (l := l) hkd hks hg
    rw [this] at hr2
    obtain ⟨i, zv, i1, _, _, i4, i5, i6, i7, _, i9⟩ := hT.info het
    have hzr : (zeroValue et).run P w = .ok zv w := by simp [zeroValue, typeInfo, i1, i4]
    have hr3 : (Instr.lookup t (.map (some g)) (.string ⟨l.toArray⟩) false).run P w = .ok zv w := by rw [hr2]; simp only [Result.andThen_ok]; exact hzr
    refine wp_val (v := zv) (w' := w) (by simp [execOp, ho, hax, hay, hr3]) (hK _ _ ⟨E, hE, hS.pure ?_ base⟩)
    rw [i6] at hz
    have hone := i9 hag
    have hcs : zv.cells = #[zv] := by cases zv <;> simp_all [Value.cells, Value.oneCell']
    rw [hcs] at hz
    simp only [List.map_cons, List.map_nil, List.cons.injEq, and_true] at hz
    rw [← hz]
    exact cvOne_VR E zv

theorem map_of_cell {S S' : FSt} {a : Act} {w : World} {E : Env} {o : Oper} {x y : Operand} {b : Nat} {l : List UInt8} {f : List UInt8 → Option AV} (hmx : x ∈ o.op.operands.toList) (hmy : y ∈ o.op.operands.toList)
    (hr : ∀ r ∈ tmpsOf o.op, S'.reg r = S.reg r) (hrd : ∀ c ∈ [(b, 0)], S'.cell c.1 c.2 = S.cell c.1 c.2) (hS : SOk E S' a w) (hx : S.ev x = .mp b) (hy : S.ev y = .str l) (hf : S.cell b 0 = .mps f) :
    ∃ (g : Nat) (es : Array MapEntry) (clock : Nat), a.eval x = .map (some g) ∧ a.eval y = .string ⟨l.toArray⟩ ∧ w.heap[g]? = some (.map es clock) ∧ MapOk E f es.toList := by
  have hvx := hS.ev x
  rw [ev_congr hr hmx, hx] at hvx
  have hvy := hS.ev y
  rw [ev_congr hr hmy, hy] at hvy
  have hc := hS.cell b 0
  rw [hrd (b, 0) (by simp), hf] at hc
  obtain ⟨_, hkb, g, es, clock, hb, hg, hm⟩ := hc
  generalize hax : a.eval x = vx at hvx
  generalize hay : a.eval y = vy at hvy
  cases hvx with
  | mp b g' hk' hb' =>
  rw [hb] at hb'; injection hb' with hb'; subst hb'
  cases hvy
  exact ⟨g, es, clock, rfl, rfl, hg, hm⟩
theorem map_of_glob {Γ : Ctx} {S S' : FSt} {a : Act} {w : World} {E : Env} {o : Oper} {x y : Operand} {i : Nat} {l : List UInt8} {f : List UInt8 → Option AV} (hmx : x ∈ o.op.operands.toList) (hmy : y ∈ o.op.operands.toList)
    (hr : ∀ r ∈ tmpsOf o.op, S'.reg r = S.reg r) (hE : EOk Γ E w) (hS : SOk E S' a w) (hx : S.ev x = .gm i) (hy : S.ev y = .str l) (hf : Glob.mapf i = some f) :
    ∃ (g : Nat) (es : Array MapEntry) (clock : Nat), a.eval x = .map (some g) ∧ a.eval y = .string ⟨l.toArray⟩ ∧ w.heap[g]? = some (.map es clock) ∧ MapOk E f es.toList := by
  have hvx := hS.ev x
  rw [ev_congr hr hmx, hx] at hvx
  have hvy := hS.ev y
  rw [ev_congr hr hmy, hy] at hvy
  obtain ⟨g, es, clock, h1, h2, h3, _⟩ := hE.gm.map i f hf
  generalize hax : a.eval x = vx at hvx
  generalize hay : a.eval y = vy at hvy
  cases hvx with
  | gm i v hv =>
  cases hvy
  have e := (hE.F _ _ hv).1.symm.trans (hE.F _ _ h1).1
  injection e with e
  exact ⟨g, es, clock, e, rfl, h2, h3⟩

theorem stp_lookup (hT : TabOk P T) {Γ : Ctx} {o : Oper} {t : Nat} {x y : Operand} (ho : o.op = .lookup t x y false) {S : FSt} {base : Nat} {k : Eff → List (Nat × Nat) → Prop}
    (h : aLookup T o.dst t S (S.ev x) (S.ev y) base k) : ∃ e rd, k e rd ∧ Stp Γ P o S rd e := by
  have hmx : x ∈ o.op.operands.toList := by rw [ho]; simp [Op.operands]
  have hmy : y ∈ o.op.operands.toList := by rw [ho]; simp [Op.operands]
  unfold aLookup at h
  split at h
  · rename_i kt et b l hk hx hy
    obtain ⟨hkt, het, h⟩ := h
    have hkd := hT.kd (t := t) (by rw [hk]; rfl)
    rw [hk] at hkd
    have hks := hT.kd (t := kt) (by rw [hkt]; rfl)
    rw [hkt] at hks
    simp only [kdOk] at hkd hks
    split at h
    · rename_i f hf
      exact lookup_of hT ho hkd hks het (fun S' a w hr hrd E hE hS => map_of_cell hmx hmy hr hrd hS hx hy hf) h
    · exact h.elim
  · rename_i kt et i l hk hx hy
    obtain ⟨hkt, het, h⟩ := h
    have hkd := hT.kd (t := t) (by rw [hk]; rfl)
    rw [hk] at hkd
    have hks := hT.kd (t := kt) (by rw [hkt]; rfl)
    rw [hkt] at hks
    simp only [kdOk] at hkd hks
    split at h
    · rename_i f hf
      exact lookup_of hT ho hkd hks het (fun S' a w hr hrd E hE hS => map_of_glob hmx hmy hr hE hS hx hy hf) h
    · exact h.elim
  · exact h.elim

theorem sameBits_str (n : Nat) (s : ByteArray) : Instr.sameBits n (.string s) (.string s) = true := by
  have he : (s == s) = true := by rw [beq_toListBytes]; simp
  cases n <;> simp [Instr.sameBits, he]

theorem str_inj {l l' : List UInt8} (h : Value.string ⟨l.toArray⟩ = .string ⟨l'.toArray⟩) : l = l' := by
  injection h with h
  have := congrArg (fun b : ByteArray => b.data.toList) h
  simpa using this

theorem MapOk.push {E : Env} {f : List UInt8 → Option AV} {es : Array MapEntry} (h : MapOk E f es.toList) {l : List UInt8} (hl : f l = none) {c : AV} {v : Value} (hv : VI E.F c v) (n : Nat) :
    MapOk E (fun x => if x = l then some c else f x) (es.push { key := .string ⟨l.toArray⟩, val := v, born := n }).toList := by
  rw [Array.toList_push]
  refine ⟨fun e he => ?_, fun x hx e he => ?_, fun x d hx => ?_⟩
  · rcases List.mem_append.1 he with he | he
    · exact h.1 e he
    · rw [List.mem_singleton.1 he]; exact ⟨l, rfl⟩
  · by_cases hxl : x = l
    · simp [hxl] at hx
    · simp only [hxl, if_false] at hx
      rcases List.mem_append.1 he with he | he
      · exact h.2.1 x hx e he
      · rw [List.mem_singleton.1 he]
        exact fun hc => hxl (str_inj hc).symm
  · by_cases hxl : x = l
    · subst hxl
      simp only [if_true, Option.some.injEq] at hx
      subst hx
      refine ⟨es.toList.length, { key := .string ⟨x.toArray⟩, val := v, born := n }, by simp, rfl, hv, fun j e' hj he' => ?_⟩
      rw [List.getElem?_append_left hj] at he'
      exact h.2.1 x hl e' (List.mem_of_getElem? he')
    · simp only [hxl, if_false] at hx
      obtain ⟨i, e, h1, h2, h3, h4⟩ := h.2.2 x d hx
      have hi : i < es.toList.length := (List.getElem?_eq_some_iff.1 h1).1
      refine ⟨i, e, by rw [List.getElem?_append_left hi]; exact h1, h2, h3, fun j e' hj he' => ?_⟩
      rw [List.getElem?_append_left (by omega)] at he'
      exact h4 j e' hj he'

theorem modify_get (es : Array MapEntry) (i : Nat) (g : MapEntry → MapEntry) (j : Nat) : (es.modify i g).toList[j]? = if i = j then (es.toList[j]?).map g else es.toList[j]? := by
  rw [Array.getElem?_toList, Array.getElem?_modify, Array.getElem?_toList]

theorem MapOk.modify {E : Env} {f : List UInt8 → Option AV} {es : Array MapEntry} (h : MapOk E f es.toList) {l : List UInt8} {i : Nat} {e0 : MapEntry} (hi : es.toList[i]? = some e0) (hk : e0.key = .string ⟨l.toArray⟩)
    (hfirst : ∀ (j : Nat) (e' : MapEntry), j < i → es.toList[j]? = some e' → e'.key ≠ .string ⟨l.toArray⟩) {c : AV} {v : Value} (hv : VI E.F c v) :
    MapOk E (fun x => if x = l then some c else f x) (es.modify i fun e => { e with key := .string ⟨l.toArray⟩, val := v }).toList := by
  have hkey : ∀ (j : Nat) (e' : MapEntry), (es.modify i fun e => { e with key := .string ⟨l.toArray⟩, val := v }).toList[j]? = some e' → ∃ d, es.toList[j]? = some d ∧ e'.key = d.key ∧ (j ≠ i → e' = d) ∧ (j = i → e'.val = v) := fun j e' he' => by
    rw [modify_get] at he'
    by_cases hj : i = j
    · subst hj
      rw [if_pos rfl, hi] at he'
      injection he' with he'
      subst he'
      exact ⟨e0, hi, hk.symm, fun x => absurd rfl x, fun _ => rfl⟩
    · rw [if_neg hj] at he'
      exact ⟨e', he', rfl, fun _ => rfl, fun x => absurd x.symm hj⟩
  refine ⟨fun e he => ?_, fun x hx e he => ?_, fun x d hx => ?_⟩
  · obtain ⟨j, hj⟩ := List.getElem?_of_mem he
    obtain ⟨d, h1, h2, _⟩ := hkey j e hj
    obtain ⟨l', h3⟩ := h.1 d (List.mem_of_getElem? h1)
    exact ⟨l', h2.trans h3⟩
  · obtain ⟨j, hj⟩ := List.getElem?_of_mem he
    obtain ⟨d, h1, h2, _⟩ := hkey j e hj
    by_cases hxl : x = l
    · simp [hxl] at hx
    · simp only [hxl, if_false] at hx
      rw [h2]
      exact h.2.1 x hx d (List.mem_of_getElem? h1)
  · by_cases hxl : x = l
    · subst hxl
      simp only [if_true, Option.some.injEq] at hx
      subst hx
      have hm : (es.modify i fun e => { e with key := .string ⟨x.toArray⟩, val := v }).toList[i]? = some { e0 with key := .string ⟨x.toArray⟩, val := v } := by rw [modify_get, if_pos rfl, hi]; rfl
      refine ⟨i, _, hm, rfl, hv, fun j e' hj he' => ?_⟩
      obtain ⟨d, h1, h2, _⟩ := hkey j e' he'
      rw [h2]
      exact hfirst j d hj h1
    · simp only [hxl, if_false] at hx
      obtain ⟨j, e, h1, h2, h3, h4⟩ := h.2.2 x d hx
      have hji : j ≠ i := fun e2 => by
        subst e2
        rw [hi] at h1
        injection h1 with h1
        subst h1
        rw [hk] at h2
        exact hxl (str_inj h2).symm
      refine ⟨j, e, by rw [modify_get, if_neg (Ne.symm hji)]; exact h1, h2, h3, fun j' e' hj' he' => ?_⟩
      obtain ⟨d', h5, h6, _⟩ := hkey j' e' he'
      rw [h6]
      exact h4 j' d' hj' h5

theorem SOk.setMap {Γ : Ctx} {E : Env} {S : FSt} {a : Act} {w : World} (h : SOk E S a w) (hE : EOk Γ E w) {b g : Nat} (hk : E.kd b = 1) (hg : E.bk b = some g) {es es' : Array MapEntry} {ck ck' : Nat} (hw : w.heap[g]? = some (.map es ck))
    {f' : List UInt8 → Option AV} (hm : MapOk E f' es'.toList) (dst : Option Nat) (n : Nat) :
    EOk Γ E { w with heap := w.heap.setIfInBounds g (.map es' ck') } ∧ SOk E (S.apply ⟨dst, .und, [(b, 0, .mps f')], n, []⟩) (a.put dst undef) { w with heap := w.heap.setIfInBounds g (.map es' ck') } := by
  have hlt : g < w.heap.size := (Array.getElem?_eq_some_iff.1 hw).1
  have hblk : ∀ x, x ≠ g → ({ w with heap := w.heap.setIfInBounds g (.map es' ck') } : World).heap[x]? = w.heap[x]? := fun x hx => by simp only; rw [Array.getElem?_setIfInBounds_ne (Ne.symm hx)]
  refine ⟨hE.turn hk hg rfl rfl rfl (by simp) hblk, h.step (Env.Le.refl E) (e := ⟨dst, .und, [(b, 0, .mps f')], n, []⟩) .und (fun x j => ?_) (fun x hx => ?_)⟩
  · have e1 : (S.apply ⟨dst, .und, [(b, 0, .mps f')], n, []⟩).cell x j = if x = b ∧ j = 0 then .mps f' else S.cell x j := by simp [FSt.apply, Eff.new_nil, wrs, upd]
    rw [e1]
    by_cases hx : x = b
    · subst hx
      by_cases hj : j = 0
      · subst hj
        simp only [and_self, if_true]
        exact ⟨rfl, hk, g, es', ck', hg, by simp only; rw [Array.getElem?_setIfInBounds_self_of_lt hlt], hm⟩
      · simp only [hj, and_false, if_false]
        have hc := h.cell x j
        by_cases hp : (S.cell x j).plain = true
        · rw [CellOk.plain hp] at hc
          obtain ⟨_, g', v, e2, e3, _⟩ := hc
          rw [hg] at e2; injection e2 with e2; subst e2
          simp [World.cell?, hw] at e3
        · cases hcell : S.cell x j <;> rw [hcell] at hp hc <;> simp [AV.plain] at hp
          case non => trivial
          case tok m => exact absurd hc.1 hj
          case mps f => exact absurd hc.1 hj
          case mpi f => exact hc.elim
          case arr s rows => exact absurd hc.1 hj
          case aw e0 s rows => exact absurd hc.1 hj
    · simp only [hx, false_and, if_false]
      exact h.turn_other hE hk hg hblk hx j
  · rw [apply_pure_dom] at hx
    exact h.dom x hx

def aMapUpdate (T : TT) (dst : Option Nat) (t : Nat) (S : FSt) (m key v : AV) (base : Nat) (k : Eff → List (Nat × Nat) → Prop) : Prop :=
  match (T t).kd, m, key with
  | .map kt _, .mp b, .str l => (T kt).kd = .str ∧ v.flat = true ∧
    match S.cell b 0 with
    | .mps f => k ⟨dst, .und, [(b, 0, .mps fun x => if x = l then some v.low else f x)], base, []⟩ [(b, 0)]
    | _ => False
  | _, _, _ => False

theorem stp_mapUpdate (hT : TabOk P T) {Γ : Ctx} {o : Oper} {t : Nat} {x y z : Operand} (ho : o.op = .mapUpdate t x y z) {S : FSt} {base : Nat} {k : Eff → List (Nat × Nat) → Prop}
    (h : aMapUpdate T o.dst t S (S.ev x) (S.ev y) (S.ev z) base k) : ∃ e rd, k e rd ∧ Stp Γ P o S rd e := by
  have hmx : x ∈ o.op.operands.toList := by rw [ho]; simp [Op.operands]
  have hmy : y ∈ o.op.operands.toList := by rw [ho]; simp [Op.operands]
  have hmz : z ∈ o.op.operands.toList := by rw [ho]; simp [Op.operands]
  unfold aMapUpdate at h
  split at h
  · rename_i kt et b l hk hx hy
    obtain ⟨hkt, hv, h⟩ := h
    have hkd := hT.kd (t := t) (by rw [hk]; rfl)
    rw [hk] at hkd
    have hks := hT.kd (t := kt) (by rw [hkt]; rfl)
    rw [hkt] at hks
    simp only [kdOk] at hkd hks
    split at h
    · rename_i f hf
      refine ⟨_, _, h, fun S' a w hn hr hrd _ _ hR K Q hK => ?_⟩
      obtain ⟨E, hE, hS⟩ := hR
      have hvx := hS.ev x
      rw [ev_congr hr hmx, hx] at hvx
      have hvy := hS.ev y
      rw [ev_congr hr hmy, hy] at hvy
      have hvz := hS.ev z
      rw [ev_congr hr hmz] at hvz
      have hc := hS.cell b 0
      rw [hrd (b, 0) (by simp), hf] at hc
      obtain ⟨_, hkb, g, es, clock, hb, hg, hm⟩ := hc
      generalize hax : a.eval x = vx at hvx
      generalize hay : a.eval y = vy at hvy
      cases hvx with
      | mp b g' hk' hb' =>
      rw [hb] at hb'; injection hb' with hb'; subst hb'
      cases hvy
      have hgo : (getObj g).run P w = .ok (.map es clock) w := by simp [getObj, Sem.run, hg]
      have hso : ∀ o, (setObj g o).run P w = .ok () { w with heap := w.heap.setIfInBounds g o } := fun o => by simp [setObj, Sem.run, hg]
      cases hfl : f l with
      | some c0 =>
        obtain ⟨i, e, h1, h2, h3, h4⟩ := hm.2.2 l c0 hfl
        have hfk := run_findKey_str (P := P) w hks _ _ (findNow_some l es.toList 0 i e hm.1 h1 h2 h4)
        rw [Nat.zero_add] at hfk
        have hm' := hm.modify h1 h2 h4 (hvz.vi hv)
        obtain ⟨hE', hS'⟩ := hS.setMap hE hkb hb (ck' := clock) hg hm' o.dst base
        refine wp_skp ?_ (hK _ _ ⟨E, hE', hS'⟩)
        have hek : ((es[i]?).map (·.key)).getD (.string ⟨l.toArray⟩) = .string ⟨l.toArray⟩ := by
          have : es[i]? = some e := by simpa using h1
          simp [this, h2]
        simp only [execOp, ho, hax, hay, Instr.mapUpdate, Sem.run_bind, run_underlying hkd, Result.andThen_ok, hgo, run_checkKey_str w hks, hfk, hek, Instr.keyThatStays, sameBits_str, if_true, Sem.run_pure, hso]
      | none =>
        have hfk := run_findKey_str (P := P) w hks _ _ (findNow_none l es.toList 0 hm.1 (hm.2.1 l hfl))
        have hm' := hm.push hfl (hvz.vi hv) clock
        obtain ⟨hE', hS'⟩ := hS.setMap hE hkb hb (ck' := clock + 1) hg hm' o.dst base
        refine wp_skp ?_ (hK _ _ ⟨E, hE', hS'⟩)
        simp only [execOp, ho, hax, hay, Instr.mapUpdate, Sem.run_bind, run_underlying hkd, Result.andThen_ok, hgo, run_checkKey_str w hks, hfk, Sem.run_pure, hso]
    · exact h.elim
  · exact h.elim

/-! ### A look-up that tells whether the key is there -/

theorem vr_two {E : Env} {c : AV} {v : Value} (h : VR E c v) (b : Bool) : VR E (.tup [c, .bool b]) (.tuple #[v, .bool b]) := by
  refine .tup _ _ rfl fun j d u hd hu => ?_
  match j with
  | 0 => simp at hd hu; subst hd; subst hu; exact h
  | 1 => simp at hd hu; subst hd; subst hu; exact .bool b
  | j + 2 => simp at hd
def aLookup2 (T : TT) (dst : Option Nat) (t : Nat) (S : FSt) (m key : AV) (base : Nat) (k : Eff → List (Nat × Nat) → Prop) : Prop :=
  match (T t).kd, m, key with
  | .map kt et, .mp b, .str l => (T kt).kd = .str ∧ (T et).kd.isOther = false ∧
    match S.cell b 0 with
    | .mps f => (∀ c, f l = some c → k ⟨dst, .tup [c, .bool true], [], base, []⟩ [(b, 0)]) ∧ (f l = none → (T et).kd.isAgg = false ∧ ∃ z, (T et).zero = [z] ∧ k ⟨dst, .tup [z, .bool false], [], base, []⟩ [(b, 0)])
    | _ => False
  | _, _, _ => False

theorem stp_lookup2 (hT : TabOk P T) {Γ : Ctx} {o : Oper} {t : Nat} {x y : Operand} (ho : o.op = .lookup t x y true) {S : FSt} {base : Nat} {k : Eff → List (Nat × Nat) → Prop}
    (h : aLookup2 T o.dst t S (S.ev x) (S.ev y) base k) : ∃ e rd, k e rd ∧ Stp Γ P o S rd e := by
  have hmx : x ∈ o.op.operands.toList := by rw [ho]; simp [Op.operands]
  have hmy : y ∈ o.op.operands.toList := by rw [ho]; simp [Op.operands]
  unfold aLookup2 at h
  split at h
  · rename_i kt et b l hk hx hy
    obtain ⟨hkt, het, h⟩ := h
    have hkd := hT.kd (t := t) (by rw [hk]; rfl)
    rw [hk] at hkd
    have hks := hT.kd (t := kt) (by rw [hkt]; rfl)
    rw [hkt] at hks
    simp only [kdOk] at hkd hks
    split at h
    · rename_i f hf
      -- the run, whatever the state
      have main : ∀ (S' : FSt) (a : Act) (w : World), (∀ r ∈ tmpsOf o.op, S'.reg r = S.reg r) → (∀ c ∈ [(b, 0)], S'.cell c.1 c.2 = S.cell c.1 c.2) → ∀ E, EOk Γ E w → SOk E S' a w →
          ∃ es clock, (∀ w', w' = w → (Instr.lookup t (a.eval x) (a.eval y) true).run P w = ((Instr.findKey kt (.string ⟨l.toArray⟩) es).run P w).andThen fun r w1 => match r with
            | some (_, v) => .ok (.tuple #[v, .bool true]) w1
            | none => ((zeroValue et).run P w1).andThen fun z w2 => .ok (.tuple #[z, .bool false]) w2) ∧ MapOk E f es ∧ clock = 0 := by
        intro S' a w hr hrd E hE hS
        have hvx := hS.ev x
        rw [ev_congr hr hmx, hx] at hvx
        have hvy := hS.ev y
        rw [ev_congr hr hmy, hy] at hvy
        have hc := hS.cell b 0
        rw [hrd (b, 0) (by simp), hf] at hc
        obtain ⟨_, hkb, g, es, clock, hb, hg, hm⟩ := hc
        generalize hax : a.eval x = vx at hvx
        generalize hay : a.eval y = vy at hvy
        cases hvx with
        | mp b g' hk' hb' =>
        rw [hb] at hb'; injection hb' with hb'; subst hb'
        cases hvy
        refine ⟨es.toList, 0, fun w' hw' => ?_, hm, rfl⟩
        have hgo : (getObj g).run P w = .ok (.map es clock) w := by simp [getObj, Sem.run, hg]
        simp only [Instr.lookup, Sem.run_bind, run_underlying hkd, Result.andThen_ok, hgo, Sem.run_pure, run_checkKey_str w hks]
        generalize (Instr.findKey kt (.string ⟨l.toArray⟩) es.toList).run P w = r
        cases r with
        | halt x w1 => simp [Result.andThen]
        | ok r w1 =>
          cases r with
          | none => 
            simp only [Result.andThen_ok, Sem.run_bind]
            generalize (zeroValue et).run P w1 = r2
            cases r2 <;> simp [Result.andThen]
          | some p => simp
      cases hfl : f l with
      | some c =>
        refine ⟨_, _, h.1 c hfl, fun S' a w hn hr hrd _ _ hR K Q hK => ?_⟩
        obtain ⟨E, hE, hS⟩ := hR
        obtain ⟨es, _, hrun, hm, _⟩ := main S' a w hr hrd E hE hS
        obtain ⟨i, e, h1, h2, h3, h4⟩ := hm.2.2 l c hfl
        have := run_findKey_str (P := P) w hks _ _ (findNow_some l es 0 i e hm.1 h1 h2 h4)
        have hr2 := hrun w rfl
        rw [this] at hr2
        exact wp_val (v := .tuple #[e.val, .bool true]) (w' := w) (by simp [execOp, ho, hr2]) (hK _ _ ⟨E, hE, hS.pure (vr_two h3.vr true) base⟩)
      | none =>
        obtain ⟨hag, z, hz, hkz⟩ := h.2 hfl
        refine ⟨_, _, hkz, fun S' a w hn hr hrd _ _ hR K Q hK => ?_⟩
        obtain ⟨E, hE, hS⟩ := hR
        obtain ⟨es, _, hrun, hm, _⟩ := main S' a w hr hrd E hE hS
        have := run_findKey_str (P := P) w hks _ _ (findNow_none l es 0 hm.1 (hm.2.1 l hfl))
        have hr2 := hrun w rfl
        rw [this] at hr2
        obtain ⟨i, zv, i1, _, _, i4, i5, i6, i7, _, i9⟩ := hT.info het
        have hzr : (zeroValue et).run P w = .ok zv w := by simp [zeroValue, typeInfo, i1, i4]
        have hr3 : (Instr.lookup t (a.eval x) (a.eval y) true).run P w = .ok (.tuple #[zv, .bool false]) w := by rw [hr2]; simp only [Result.andThen_ok]; rw [hzr]; simp only [Result.andThen_ok]
        refine wp_val (v := .tuple #[zv, .bool false]) (w' := w) (by simp [execOp, ho, hr3]) (hK _ _ ⟨E, hE, hS.pure (vr_two ?_ false) base⟩)
        rw [i6] at hz
        have hone := i9 hag
        have hcs : zv.cells = #[zv] := by cases zv <;> simp_all [Value.cells, Value.oneCell']
        rw [hcs] at hz
        simp only [List.map_cons, List.map_nil, List.cons.injEq, and_true] at hz
        rw [← hz]
        exact cvOne_VR E zv
    · exact h.elim
  · exact h.elim

/-! ### A new row that nobody changes -/

def Env.addF (E : Env) (F' : Addr → Value → Prop) : Env := { E with F := fun a v => E.F a v ∨ F' a v }
theorem Env.addF_le {E : Env} {F' : Addr → Value → Prop} : E.Le (E.addF F') := ⟨fun _ _ x => .inl x, fun _ h => ⟨h, rfl⟩, fun _ h => ⟨h, .inl rfl⟩, fun _ h => ⟨h, rfl, rfl⟩, fun _ _ x => x⟩
theorem EOk.addF {Γ : Ctx} {E : Env} {w w' : World} (h : EOk Γ E w) {F' : Addr → Value → Prop} (hgrow : w.grownBy w' none) (hF : ∀ a v, F' a v → w'.cell? a = some v ∧ v.oneCell' = true)
    (hb : ∀ a v, F' a v → a.block = w.heap.size) : EOk Γ (E.addF F') w' where
  le := h.le.trans Env.addF_le
  kpn := h.kpn
  os := hgrow.os.trans h.os
  tape := hgrow.tape.trans h.tape
  output := hgrow.output.trans h.output
  size := Nat.le_trans h.size hgrow.size
  old := fun x hx hX => by
    rw [hgrow.block x (Nat.lt_of_lt_of_le hx h.size) (by simp)]
    exact h.old x hx hX
  F := fun a v hx => by
    rcases hx with hx | hx
    · refine ⟨?_, (h.F a v hx).2⟩
      have h1 := (h.F a v hx).1
      rw [World.cell?_of_block (hgrow.block a.block (World.block_lt_of_cell? w a h1) (by simp))]
      exact h1
    · exact hF a v hx
  box := fun b hk => by
    obtain ⟨g, h1, h2, h3, h4⟩ := h.box b hk
    refine ⟨g, h1, Nat.lt_of_lt_of_le h2 hgrow.size, h3, fun a v hx e => ?_⟩
    rcases hx with hx | hx
    · exact h4 a v hx e
    · have := hb a v hx; omega
  arb := fun b hk => by
    obtain ⟨g, h1, h2, h3, h4⟩ := h.arb b hk
    refine ⟨g, h1, Nat.lt_of_lt_of_le h2 hgrow.size, h3, fun a v hx e => ?_⟩
    rcases hx with hx | hx
    · exact h4 a v hx e
    · have := hb a v hx; omega
  new := h.new
  tok := fun t ht => (h.tok t ht).keep rfl rfl (fun g _ hl => hgrow.block g hl (by simp)) (fun g a v hg hx e => by
    rcases hx with hx | hx
    · exact hx
    · exfalso
      have h1 := hb a v hx
      have ht' : E.kd t = 2 := ht
      have := (h.lt (by rw [ht']; decide) hg).1
      omega)
  hx := h.hx
  gl := Glob.mono (fun _ _ x => .inl x) h.gl
  gm := h.gm.keep (fun _ _ x => .inl x) (fun g hl _ => hgrow.block g hl (by simp)) (fun b g hk hg => .inl ⟨b, hk, hg⟩)
  fnew := fun a v hx => by
    rcases hx with hx | hx
    · exact h.fnew a v hx
    · exact .inr (.inl (by rw [hb a v hx]; exact h.size))
  kd3 := h.kd3
  inj := h.inj
theorem SOk.newSl {Γ : Ctx} {E : Env} {S : FSt} {a : Act} {w w' : World} (h : SOk E S a w) (hE : EOk Γ E w) (dst : Option Nat) (base : Nat) {s : Nat} {rows : List (List AV)} (hfull : Full s rows)
    {g : Nat → Nat → Value} (hone : ∀ (i j : Nat), i < rows.length → j < s → (g i j).oneCell' = true) (hv : ∀ (i : Nat) row (j : Nat) c, rows[i]? = some row → row[j]? = some c → VI E.F c (g i j))
    {cap : Nat} (hcap : rows.length ≤ cap) (hgrow : w.grownBy w' none) (hcell : ∀ i j, i < rows.length → j < s → w'.cell? ⟨w.heap.size, i * s + j, none⟩ = some (g i j)) :
    Rel Γ (S.apply ⟨dst, .sl s rows, [], base, []⟩) (a.put dst (.slice (some ⟨w.heap.size, 0, none⟩) rows.length cap)) w' := by
  let F' : Addr → Value → Prop := fun x v => ∃ i j, i < rows.length ∧ j < s ∧ x = ⟨w.heap.size, i * s + j, none⟩ ∧ v = g i j
  refine ⟨E.addF F', hE.addF hgrow (fun x v hx => ?_) (fun x v hx => ?_), h.step Env.addF_le (e := ⟨dst, .sl s rows, [], base, []⟩) ?_ (fun b j => ?_) (fun b hb => ?_)⟩
  · obtain ⟨i, j, hi, hj, rfl, rfl⟩ := hx
    exact ⟨hcell i j hi hj, hone i j hi hj⟩
  · obtain ⟨i, j, _, _, rfl, _⟩ := hx; rfl
  · refine .sl s rows _ cap g (fun _ => rfl) (fun i row j c ad hi hj had => ?_) (fun i row j c hi hj => (hv i row j c hi hj).mono Env.addF_le.F) hcap
    injection had with had
    subst had
    rw [add_lit, Nat.zero_add]
    have h1 : i < rows.length := (List.getElem?_eq_some_iff.1 hi).1
    have h2 : j < s := by rw [← hfull row (List.mem_of_getElem? hi)]; exact (List.getElem?_eq_some_iff.1 hj).1
    exact .inr ⟨i, j, h1, h2, rfl, rfl⟩
  · rw [apply_pure_cell]
    exact (h.cell b j).keep Env.addF_le (fun g _ _ hl => hgrow.block g hl (by simp)) (fun _ => rfl)
  · rw [apply_pure_dom] at hb; exact h.dom b hb

/-- The bytes of a text, as a slice. -/
def aBytes (T : TT) (dst : Option Nat) (src d : Nat) (x : AV) (base : Nat) (k : Eff → List (Nat × Nat) → Prop) : Prop :=
  match (T d).kd, x with
  | .slice e, .str l => (T src).kd = .str ∧ (T e).kd = .int .u8 ∧ l.length ≤ 9223372036854775807 ∧ k ⟨dst, .sl 1 (l.map fun b => [.int .u8 (b.toNat : Int)]), [], base, []⟩ []
  | _, _ => False
theorem stp_bytes (hT : TabOk P T) {Γ : Ctx} {o : Oper} {src d : Nat} {x : Operand} (ho : o.op = .convert src d x) {S : FSt} {base : Nat} {k : Eff → List (Nat × Nat) → Prop}
    (h : aBytes T o.dst src d (S.ev x) base k) : ∃ e rd, k e rd ∧ Stp Γ P o S rd e := by
  unfold aBytes at h
  split at h
  · rename_i e l hk hx
    obtain ⟨hsrc, he, hlen, h⟩ := h
    have hkd := hT.kd (t := d) (by rw [hk]; rfl)
    have hks := hT.kd (t := src) (by rw [hsrc]; rfl)
    have hke := hT.kd (t := e) (by rw [he]; rfl)
    rw [hk] at hkd
    rw [hsrc] at hks
    rw [he] at hke
    simp only [kdOk] at hkd hks hke
    refine ⟨_, _, h, fun S' a w hn hr _ hf _ hR K Q hK => ?_⟩
    obtain ⟨E, hE, hS⟩ := hR
    have hvx := hS.ev x
    rw [ev_congr hr (by rw [ho]; simp [Op.operands]), hx] at hvx
    generalize hax : a.eval x = vx at hvx
    cases hvx
    have hrun := run_bytes_of_string (P := P) w src d e ⟨l.toArray⟩ hks hkd hke
    have hsz : (⟨l.toArray⟩ : ByteArray).size = l.length := by simp [ByteArray.size]
    have hrl : (l.map fun b => ([.int .u8 (b.toNat : Int)] : List AV)).length = l.length := by simp
    have hcap : l.length ≤ grownCap w l.length 0 e := by
      unfold grownCap Question.cut
      have : w.tape w.drawn (Question.appendCap l.length 0 e) % (2 ^ 63 - l.length) < 2 ^ 63 - l.length := Nat.mod_lt _ (by omega)
      simp only
      omega
    rw [hsz] at hrun
    have hrel := hS.newSl hE (w' := w.drew.alloc (.cells (bytesRow ⟨l.toArray⟩ (grownCap w l.length 0 e)) e ((bytesRow ⟨l.toArray⟩ (grownCap w l.length 0 e)).size, (bytesRow ⟨l.toArray⟩ (grownCap w l.length 0 e)).size + 1)))
      o.dst base (s := 1) (rows := l.map fun b => [.int .u8 (b.toNat : Int)]) (fun row hrow => by
        obtain ⟨b, _, rfl⟩ := List.mem_map.1 hrow; rfl)
      (g := fun i _ => .int .u8 ((l[i]?).getD 0).toNat) (fun _ _ _ _ => rfl) (fun i row j c hi hj => by
        rw [List.getElem?_map] at hi
        cases hb : l[i]? with
        | none => rw [hb] at hi; cases hi
        | some b =>
          rw [hb] at hi
          injection hi with hi
          subst hi
          match j with
          | 0 => simp at hj; subst hj; simp only [hb, Option.getD_some]; exact .int _ _
          | j + 1 => simp at hj)
      (cap := grownCap w l.length 0 e) (by rw [hrl]; exact hcap) (grownBy_drew (World.grownBy_alloc w.drew _ none)) (fun i j hi hj => by
        rw [hrl] at hi
        have hj0 : j = 0 := by omega
        subst hj0
        have hc := World.cell?_alloc_mark w.drew (bytesRow ⟨l.toArray⟩ (grownCap w l.length 0 e)) e ((bytesRow ⟨l.toArray⟩ (grownCap w l.length 0 e)).size, (bytesRow ⟨l.toArray⟩ (grownCap w l.length 0 e)).size + 1) (i * 1 + 0)
        have hsz2 : w.drew.heap.size = w.heap.size := rfl
        rw [hsz2] at hc
        rw [hc, Nat.mul_one, Nat.add_zero]
        unfold bytesRow
        rw [Array.getElem?_append_left (by simpa using hi)]
        simp [hi])
    rw [hrl] at hrel
    exact wp_val (by simp [execOp, ho, hax, hrun]) (hK _ _ hrel)
  · exact h.elim

/-- The text of a row of bytes. -/
def aText (T : TT) (dst : Option Nat) (src d : Nat) (x : AV) (base : Nat) (k : Eff → List (Nat × Nat) → Prop) : Prop :=
  match (T src).kd, srcOf 1 x with
  | .slice e, some rows => (T d).kd = .str ∧ (T e).kd = .int .u8 ∧ ∃ ns : List Int, rows = ns.map (fun n => [.int .u8 n]) ∧ k ⟨dst, .str (ns.map fun n => UInt8.ofNat n.toNat), [], base, []⟩ []
  | _, _ => False
theorem push_fold : ∀ (ns : List Int) (s : ByteArray), ns.foldl (fun r n => r.push (UInt8.ofNat n.toNat)) s = ⟨s.data ++ (ns.map fun n => UInt8.ofNat n.toNat).toArray⟩
  | [], s => by cases s; simp
  | n :: r, s => by
    rw [List.foldl_cons, push_fold r]
    cases s
    simp [ByteArray.push]
theorem stp_text (hT : TabOk P T) {Γ : Ctx} {o : Oper} {src d : Nat} {x : Operand} (ho : o.op = .convert src d x) {S : FSt} {base : Nat} {k : Eff → List (Nat × Nat) → Prop}
    (h : aText T o.dst src d (S.ev x) base k) : ∃ e rd, k e rd ∧ Stp Γ P o S rd e := by
  unfold aText at h
  split at h
  · rename_i e rows hk hx
    obtain ⟨hsrc, he, ns, hrows, h⟩ := h
    have hkd := hT.kd (t := src) (by rw [hk]; rfl)
    have hks := hT.kd (t := d) (by rw [hsrc]; rfl)
    have hke := hT.kd (t := e) (by rw [he]; rfl)
    rw [hk] at hkd
    rw [hsrc] at hks
    rw [he] at hke
    simp only [kdOk] at hkd hks hke
    refine ⟨_, _, h, fun S' a w hn hr _ hf _ hR K Q hK => ?_⟩
    obtain ⟨E, hE, hS⟩ := hR
    have hvx := hS.ev x
    rw [ev_congr hr (by rw [ho]; simp [Op.operands])] at hvx
    obtain ⟨ad, cap, g, hv, h0, h1, h2, hc⟩ := srcOf_sound hx hvx
    have hlen : rows.length = ns.length := by rw [hrows, List.length_map]
    have hrun : (Go.convert src d (a.eval x)).run P w = .ok (.string ⟨(ns.map fun n => UInt8.ofNat n.toNat).toArray⟩) w := by
      rw [hv, run_convert_bytes_string w src d e ad rows.length cap hkd hke hks]
      cases ad with
      | none =>
        have hz : ns = [] := by
          cases hns : ns with
          | nil => rfl
          | cons b r =>
            exfalso
            have := h0 (by rw [hlen, hns]; simp)
            cases this
        subst hz
        simp [Conv.bytesToString, Sem.run_pure]
        rfl
      | some ad =>
        have hcells : (loadCells ad rows.length).run P w = .ok (ns.map (Value.int .u8)).toArray w := by
          have hl := run_loadCells_list (P := P) w ad (ns.map (Value.int .u8)) (fun j v hj => by
            rw [List.getElem?_map] at hj
            cases hjn : ns[j]? with
            | none => rw [hjn] at hj; cases hj
            | some n =>
              rw [hjn] at hj
              injection hj with hj
              subst hj
              have hr' : rows[j]? = some [.int .u8 n] := by rw [hrows, List.getElem?_map, hjn]; rfl
              have f1 := h1 j _ 0 _ ad hr' rfl rfl
              have f2 := h2 j _ 0 _ hr' rfl
              have f3 := (hE.F _ _ f1).1
              rw [Nat.mul_one, Nat.add_zero] at f3
              generalize g j 0 = y at f2 f3
              cases f2
              exact f3)
          rw [List.length_map, ← hlen] at hl
          exact hl
        rw [run_bytesToString w ad rows.length cap ns hcells, push_fold]
        simp
    have hone : VR E (.str (ns.map fun n => UInt8.ofNat n.toNat)) (.string ⟨(ns.map fun n => UInt8.ofNat n.toNat).toArray⟩) := .str _
    exact wp_val (by simp [execOp, ho, hrun]) (hK _ _ ⟨E, hE, hS.pure hone base⟩)
  · exact h.elim

end Go.Ab
end

section
namespace Go.Ab
open Go Go.RowKit
set_option linter.unusedVariables false
set_option linter.unusedSimpArgs false

variable {P : Program} {T : TT}

def nth : List AV → Nat → AV
  | [], _ => .non
  | c :: _, 0 => c
  | _ :: r, n + 1 => nth r n

theorem nth_eq : ∀ (l : List AV) (n : Nat), nth l n = (l[n]?).getD .non
  | [], _ => rfl
  | c :: _, 0 => rfl
  | _ :: r, n + 1 => by rw [nth, nth_eq r n, List.getElem?_cons_succ]

def nthB : List (List AV) → Nat → List AV
  | [], _ => []
  | c :: _, 0 => c
  | _ :: r, n + 1 => nthB r n

theorem nthB_ge : ∀ (H : List (List AV)) (b : Nat), H.length ≤ b → nthB H b = []
  | [], _, _ => rfl
  | _ :: r, 0, h => by simp at h
  | _ :: r, b + 1, h => nthB_ge r b (by simpa using h)

def HOk (E : Env) (w : World) (H : List (List AV)) : Prop := (∀ b j, CellOk E w b j (nth (nthB H b) j)) ∧ ∀ b, H.length ≤ b → E.kd b = 0

/-- What a call of function f comes to: with such arguments and such blocks behind their pointers it returns r, and the blocks (and new ones behind them) are H'. -/
def Meets (P : Program) (f : Nat) (H : List (List AV)) (args : List AV) (r : AV) (H' : List (List AV)) : Prop :=
  ∀ (w : World) (E : Env) (X : List Nat) (vs : Array Value), E.kp = (fun _ => none) → EOk ⟨w, X, E, H.length⟩ E w → HOk E w H → (∀ b, b < H.length → E.kd b ≠ 0) → VRs E args vs.toList →
    Calls P f vs w fun e w' => ∃ v E', e = .returned v ∧ EOk ⟨w, X, E, H.length⟩ E' w' ∧ HOk E' w' H' ∧ VR E' r v

/-- The numbers of a callee's blocks, as the caller's. -/
def ren (m : Nat → Nat) : AV → AV
  | .ptr b o => .ptr (m b) o
  | .ow t e s rows => .ow (m t) e s rows
  | .mp b => .mp (m b)
  | .sb b n => .sb (m b) n
  | .ep b s i => .ep (m b) s i
  | .ef b s i o => .ef (m b) s i o
  | .agg cs => .agg (renL m cs)
  | .tup cs => .tup (renL m cs)
  | .fn f cs => .fn f (renL m cs)
  | c => c
where
  renL (m : Nat → Nat) : List AV → List AV
    | [] => []
    | c :: r => ren m c :: renL m r

theorem renL_get (m : Nat → Nat) : ∀ (cs : List AV) (j : Nat), (ren.renL m cs)[j]? = (cs[j]?).map (ren m)
  | [], _ => by simp [ren.renL]
  | c :: r, 0 => by simp [ren.renL]
  | c :: r, j + 1 => by simp only [ren.renL, List.getElem?_cons_succ]; exact renL_get m r j
theorem renL_length (m : Nat → Nat) : ∀ cs : List AV, (ren.renL m cs).length = cs.length
  | [] => rfl
  | c :: r => by simp [ren.renL, renL_length m r]

theorem ren_VR {E E' : Env} {m : Nat → Nat} (hF : ∀ a v, E.F a v → E'.F a v) (hkd : ∀ b, E.kd b ≠ 0 → E'.kd (m b) = E.kd b ∧ E'.bk (m b) = E.bk b ∧ ((E.kd b = 2 ∨ E.kd b = 3) → E'.tk (m b) = E.tk b)) {c : AV} {v : Value} (h : VR E c v) :
    VR E' (ren m c) v := by
  induction h with
  | non v => exact .non v
  | und => exact .und
  | int k n => exact .int k n
  | bool b => exact .bool b
  | str l => exact .str l
  | nilp => exact .nilp
  | nilf => exact .nilf
  | nilm => exact .nilm
  | gm i v hv => exact .gm i v (hF _ _ hv)
  | er0 => exact .er0
  | er1 t v => exact .er1 t v
  | cp cells a g h1 h2 => exact .cp cells a g (fun j c hj => hF _ _ (h1 j c hj)) (fun j c hj => (h2 j c hj).mono hF)
  | ptr b off g hk hb =>
    obtain ⟨k1, k2, _⟩ := hkd b (by rw [hk]; decide)
    exact .ptr _ off g (k1.trans hk) (k2.trans hb)
  | emp a => exact .emp a
  | sl s rows a cap g h0 h1 h2 hc => exact .sl s rows a cap g h0 (fun i row j c ad x y z => hF _ _ (h1 i row j c ad x y z)) (fun i row j c x y => (h2 i row j c x y).mono hF) hc
  | ow t e s rows a cap g h0 h1 h2 hk hn hv hc =>
    obtain ⟨k1, _, k3⟩ := hkd t (by rw [hk]; decide)
    have k4 := k3 (.inl hk)
    exact .ow _ e s rows a cap g h0 (fun i row j c ad x y z => hF _ _ (h1 i row j c ad x y z)) (fun i row j c x y => (h2 i row j c x y).mono hF) (k1.trans hk) (by rw [k4]; exact hn) (by rw [k4]; exact hv) hc
  | agg cs vs hl _ ih => exact .agg _ vs (by rw [renL_length]; exact hl) (fun j c v hc hv => by
      rw [renL_get] at hc
      cases hx : cs[j]? with
      | none => rw [hx] at hc; cases hc
      | some d => rw [hx] at hc; injection hc with hc; subst hc; exact ih j d v hx hv)
  | tup cs vs hl _ ih => exact .tup _ vs (by rw [renL_length]; exact hl) (fun j c v hc hv => by
      rw [renL_get] at hc
      cases hx : cs[j]? with
      | none => rw [hx] at hc; cases hc
      | some d => rw [hx] at hc; injection hc with hc; subst hc; exact ih j d v hx hv)
  | fn f cs vs hl _ ih => exact .fn f _ vs (by rw [renL_length]; exact hl) (fun j c v hc hv => by
      rw [renL_get] at hc
      cases hx : cs[j]? with
      | none => rw [hx] at hc; cases hc
      | some d => rw [hx] at hc; injection hc with hc; subst hc; exact ih j d v hx hv)
  | mp b g hk hb =>
    obtain ⟨k1, k2, _⟩ := hkd b (by rw [hk]; decide)
    exact .mp _ g (k1.trans hk) (k2.trans hb)
  | sb b n g cap hk hb hn hm hv =>
    obtain ⟨k1, k2, k3⟩ := hkd b (by rw [hk]; decide)
    exact .sb _ n g cap (k1.trans hk) (k2.trans hb) hn (by rw [k3 (.inr hk)]; exact hm) (by rw [k3 (.inr hk)]; exact hv)
  | ef b s i o g hk hb hm =>
    obtain ⟨k1, k2, k3⟩ := hkd b (by rw [hk]; decide)
    exact .ef _ s i o g (k1.trans hk) (k2.trans hb) (by rw [k3 (.inr hk)]; exact hm)
  | ep b s i g hk hb hm =>
    obtain ⟨k1, k2, k3⟩ := hkd b (by rw [hk]; decide)
    exact .ep _ s i g (k1.trans hk) (k2.trans hb) (by rw [k3 (.inr hk)]; exact hm)
  | ub n b h => exact .ub n b h

/-- The caller's value may be handed over as the callee's. -/
inductive Arg (m : Nat → Nat) (n : Nat) : AV → AV → Prop where
  | non (c : AV) : Arg m n c .non
  | und : Arg m n .und .und
  | flat (c : AV) (h : c.flat = true) : Arg m n c c.low
  | emp (s : Nat) : Arg m n .emp (.sl s [])
  | ptr (b b' o : Nat) (h : b' < n) (hb : b = m b') : Arg m n (.ptr b o) (.ptr b' o)
  | mp (b b' : Nat) (h : b' < n) (hb : b = m b') : Arg m n (.mp b) (.mp b')
  | sb (b b' k : Nat) (h : b' < n) (hb : b = m b') : Arg m n (.sb b k) (.sb b' k)
  | ow (t t' e s : Nat) (rows : List (List AV)) (h : t' < n) (hb : t = m t') : Arg m n (.ow t e s rows) (.ow t' e s rows)
  | tok (k : Nat) : Arg m n (.tok k) (.tok k)
  | arr (s : Nat) (rows : List (List AV)) : Arg m n (.arr s rows) (.arr s rows)
  | agg (cs ds : List AV) (hl : cs.length = ds.length) (h : ∀ (j : Nat) c d, cs[j]? = some c → ds[j]? = some d → Arg m n c d) : Arg m n (.agg cs) (.agg ds)
  | fn (f : Nat) (cs ds : List AV) (hl : cs.length = ds.length) (h : ∀ (j : Nat) c d, cs[j]? = some c → ds[j]? = some d → Arg m n c d) : Arg m n (.fn f cs) (.fn f ds)

theorem Arg.vr {E E' : Env} {m : Nat → Nat} {n : Nat} (hF : ∀ a v, E.F a v → E'.F a v) (hkd : ∀ b, b < n → E'.kd b = E.kd (m b) ∧ E'.bk b = E.bk (m b) ∧ E'.tk b = E.tk (m b)) {c d : AV} (h : Arg m n c d) : ∀ {v : Value}, VR E c v → VR E' d v := by
  induction h with
  | non c => exact fun _ => .non _
  | und => intro v hv; cases hv; exact .und
  | flat c h => intro v hv; exact ((hv.vi h).mono hF).vr
  | emp s => intro v hv; exact (Src.of_emp (E := E') (s := s) (by cases hv; exact .emp _)).sl
  | ptr b b' o h hb =>
    intro v hv
    cases hv with
    | ptr _ _ g hk hg =>
    subst hb
    obtain ⟨k1, k2, _⟩ := hkd b' h
    exact .ptr _ _ g (k1.trans hk) (k2.trans hg)
  | mp b b' h hb =>
    intro v hv
    cases hv with
    | mp _ g hk hg =>
    subst hb
    obtain ⟨k1, k2, _⟩ := hkd b' h
    exact .mp _ g (k1.trans hk) (k2.trans hg)
  | sb b b' k h hb =>
    intro v hv
    cases hv with
    | sb _ _ g cap hk hg hn hm hv =>
    subst hb
    obtain ⟨k1, k2, k3⟩ := hkd b' h
    exact .sb _ _ g cap (k1.trans hk) (k2.trans hg) hn (by rw [k3]; exact hm) (by rw [k3]; exact hv)
  | ow t t' e s rows h hb =>
    intro v hv
    cases hv with
    | ow _ _ _ _ a cap g h0 h1 h2 hk hn hv hc =>
    subst hb
    obtain ⟨k1, _, k3⟩ := hkd t' h
    exact .ow _ e s rows a cap g h0 (fun i row j c ad x y z => hF _ _ (h1 i row j c ad x y z)) (fun i row j c x y => (h2 i row j c x y).mono hF) (k1.trans hk) (by rw [k3]; exact hn) (by rw [k3]; exact hv) hc
  | tok k => intro v hv; cases hv
  | arr s rows => intro v hv; cases hv
  | agg cs ds hl _ ih =>
    intro v hv
    obtain ⟨us, rfl, hu⟩ := hv.of_agg
    refine .agg ds us (by rw [hu.size]; exact hl) (fun j d u hd hu' => ?_)
    have hj : j < cs.length := by rw [hl]; exact (List.getElem?_eq_some_iff.1 hd).1
    have hc : cs[j]? = some cs[j] := List.getElem?_eq_getElem hj
    exact ih j _ d hc hd (hu.2 j _ u hc (by simpa using hu'))
  | fn f cs ds hl _ ih =>
    intro v hv
    cases hv with
    | fn f cs us hl' hu =>
    refine .fn f ds us (by rw [hl']; exact hl) (fun j d u hd hu' => ?_)
    have hj : j < cs.length := by rw [hl]; exact (List.getElem?_eq_some_iff.1 hd).1
    have hc : cs[j]? = some cs[j] := List.getElem?_eq_getElem hj
    exact ih j _ d hc hd (hu j _ u hc hu')

def Args (m : Nat → Nat) (n : Nat) (cs ds : List AV) : Prop := cs.length = ds.length ∧ ∀ (j : Nat) c d, cs[j]? = some c → ds[j]? = some d → Arg m n c d

theorem Args.nil {m : Nat → Nat} {n : Nat} : Args m n [] [] := ⟨rfl, fun j c d h => by simp at h⟩
theorem Args.cons {m : Nat → Nat} {n : Nat} {c d : AV} {cs ds : List AV} (h : Arg m n c d) (t : Args m n cs ds) : Args m n (c :: cs) (d :: ds) :=
  ⟨by simp [t.1], fun j x y hx hy => by
    cases j with
    | zero => simp at hx hy; subst hx; subst hy; exact h
    | succ j => exact t.2 j x y (by simpa using hx) (by simpa using hy)⟩
theorem Arg.aggs {m : Nat → Nat} {n : Nat} {cs ds : List AV} (h : Args m n cs ds) : Arg m n (.agg cs) (.agg ds) := .agg cs ds h.1 h.2
theorem Arg.fns {m : Nat → Nat} {n : Nat} {f : Nat} {cs ds : List AV} (h : Args m n cs ds) : Arg m n (.fn f cs) (.fn f ds) := .fn f cs ds h.1 h.2

theorem Args.vrs {E E' : Env} {m : Nat → Nat} {n : Nat} (hF : ∀ a v, E.F a v → E'.F a v) (hkd : ∀ b, b < n → E'.kd b = E.kd (m b) ∧ E'.bk b = E.bk (m b) ∧ E'.tk b = E.tk (m b)) {cs ds : List AV} (h : Args m n cs ds) {vs : List Value} (hv : VRs E cs vs) : VRs E' ds vs := by
  refine ⟨hv.1.trans h.1, fun j d v hd hvj => ?_⟩
  have hj : j < cs.length := by rw [h.1]; exact (List.getElem?_eq_some_iff.1 hd).1
  have hc : cs[j]? = some cs[j] := List.getElem?_eq_getElem hj
  exact (h.2 j _ d hc hd).vr hF hkd (hv.2 j _ v hc hvj)

/-- Cells of the blocks that are handed over, behind the call. -/
def backs (m m' : Nat → Nat) : Nat → Nat → List (List AV) → List (Nat × Nat × AV)
  | _, 0, _ => []
  | b, n + 1, H => writes (m b) 0 ((nthB H b).map (ren m')) ++ backs m m' (b + 1) n H

def newIds (m : Nat → Nat) (n base : Nat) (b : Nat) : Nat := if b < n then m b else base + (b - n)

/-- The keys of a block's cells. -/
def keysOf (m : Nat → Nat) : Nat → Nat → List (List AV) → List (Nat × Nat)
  | _, 0, _ => []
  | b, n + 1, H => ks (m b) 0 (nthB H b).length ++ keysOf m (b + 1) n H

end Go.Ab
end
