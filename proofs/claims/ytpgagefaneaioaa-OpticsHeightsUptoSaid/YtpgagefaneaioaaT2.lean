/- Abstract states and the relation between them and concrete frames and worlds. -/
import Derived.Test.YtpgagefaneaioaaT1
namespace Go.Ab
open Go

structure FSt where
  n : Nat
  reg : Nat → AV
  cell : Nat → Nat → AV
  dom : Nat → Bool

def upd (f : Nat → Nat → AV) (b j : Nat) (c : AV) : Nat → Nat → AV := fun b' j' => if b' = b ∧ j' = j then c else f b' j'

def wrs : List (Nat × Nat × AV) → (Nat → Nat → AV) → Nat → Nat → AV
  | [], f => f
  | x :: r, f => wrs r (upd f x.1 x.2.1 x.2.2)

/-- What an operation does to an abstract state: a register, cells of blocks that are there, new blocks. -/
structure Eff where
  dst : Option Nat
  val : AV
  ws : List (Nat × Nat × AV)
  base : Nat
  news : List (List AV)

def Eff.new (e : Eff) (b : Nat) : Bool := decide (e.base ≤ b) && decide (b < e.base + e.news.length)

def FSt.apply (S : FSt) (e : Eff) : FSt where
  n := S.n
  reg := fun r => if e.dst = some r ∧ r < S.n then e.val else S.reg r
  cell := fun b j => if e.new b = true then (e.news.getD (b - e.base) []).getD j .non else wrs e.ws S.cell b j
  dom := fun b => S.dom b || e.new b

structure Ctx where
  w0 : World
  X : List Nat
  E0 : Env
  /-- how many blocks were handed over -/
  nx : Nat

def Ctx.mine (Γ : Ctx) (g : Nat) : Prop := Γ.w0.heap.size ≤ g ∨ g ∈ Γ.X

def TOk (Γ : Ctx) (E : Env) (w : World) (t : Nat) : Prop :=
  (E.bk t = none ∧ (E.tk t).n = 0 ∧ ∃ a, (E.tk t).v = .slice a 0 0) ∨
  ∃ g cap xs, E.bk t = some g ∧ (E.tk t).v = .slice (some ⟨g, 0, none⟩) (E.tk t).n cap ∧ w.ownsRow Γ.w0.heap.size (E.tk t).e (E.tk t).s (E.tk t).v (E.tk t).n xs ∧
    ∀ a v, E.F a v → a.block = g → a.off < (E.tk t).n * (E.tk t).s

structure EOk (Γ : Ctx) (E : Env) (w : World) : Prop where
  le : Γ.E0.Le E
  os : w.os = Γ.w0.os
  tape : w.tape = Γ.w0.tape
  output : w.output = Γ.w0.output
  size : Γ.w0.heap.size ≤ w.heap.size
  old : ∀ g, g < Γ.w0.heap.size → g ∉ Γ.X → w.heap[g]? = Γ.w0.heap[g]?
  F : ∀ a v, E.F a v → w.cell? a = some v ∧ v.oneCell' = true
  box : ∀ b, E.kd b = 1 → ∃ g, E.bk b = some g ∧ g < w.heap.size ∧ Γ.mine g ∧ ∀ a v, E.F a v → a.block ≠ g
  tok : ∀ t, E.kd t = 2 → TOk Γ E w t
  fnew : ∀ a v, E.F a v → Γ.E0.F a v ∨ Γ.w0.heap.size ≤ a.block
  kd3 : ∀ b, E.kd b = 0 ∨ E.kd b = 1 ∨ E.kd b = 2
  inj : ∀ b b' g, E.kd b ≠ 0 → E.kd b' ≠ 0 → E.bk b = some g → E.bk b' = some g → b = b'
  hx : ∀ b, Γ.E0.kd b ≠ 0 → b < Γ.nx

def MapOk (E : Env) (f : List UInt8 → Option AV) (es : List MapEntry) : Prop :=
  (∀ e ∈ es, ∃ l : List UInt8, e.key = .string ⟨l.toArray⟩) ∧
  (∀ l, f l = none → ∀ e ∈ es, e.key ≠ .string ⟨l.toArray⟩) ∧
  (∀ l c, f l = some c → ∃ (i : Nat) (e : MapEntry), es[i]? = some e ∧ e.key = .string ⟨l.toArray⟩ ∧ VI E.F c e.val ∧ ∀ (j : Nat) (e' : MapEntry), j < i → es[j]? = some e' → e'.key ≠ .string ⟨l.toArray⟩)

def CellOk (E : Env) (w : World) (b j : Nat) : AV → Prop
  | .non => True
  | .tok n => j = 0 ∧ E.kd b = 2 ∧ (E.tk b).n = n
  | .mps f => j = 0 ∧ E.kd b = 1 ∧ ∃ g es clock, E.bk b = some g ∧ w.heap[g]? = some (.map es clock) ∧ MapOk E f es.toList
  | .mpi _ => False
  | c => E.kd b = 1 ∧ ∃ g v, E.bk b = some g ∧ w.cell? ⟨g, j, none⟩ = some v ∧ w.frozen? ⟨g, j, none⟩ = false ∧ VR E c v

structure SOk (E : Env) (S : FSt) (a : Act) (w : World) : Prop where
  size : a.tmps.size = S.n
  defers : a.defers = []
  reg : ∀ r, VR E (S.reg r) (a.tmps.getD r undef)
  cell : ∀ b j, CellOk E w b j (S.cell b j)
  dom : ∀ b, S.dom b = false → E.kd b = 0

def Rel (Γ : Ctx) (S : FSt) (a : Act) (w : World) : Prop := ∃ E, EOk Γ E w ∧ SOk E S a w

/-- Abstract values that stand for one cell of a box. -/
def AV.plain : AV → Bool
  | .non | .tok _ | .mps _ | .mpi _ => false
  | _ => true

theorem CellOk.plain {E : Env} {w : World} {b j : Nat} {c : AV} (hc : c.plain = true) : CellOk E w b j c ↔ (E.kd b = 1 ∧ ∃ g v, E.bk b = some g ∧ w.cell? ⟨g, j, none⟩ = some v ∧ w.frozen? ⟨g, j, none⟩ = false ∧ VR E c v) := by
  cases c <;> simp [AV.plain] at hc <;> rfl

theorem AV.one_plain {c : AV} (h : c.one = true) : c.plain = true := by cases c <;> simp_all [AV.one, AV.plain]

theorem MapOk.mono {E E' : Env} (h : E.Le E') {f : List UInt8 → Option AV} {es : List MapEntry} (hm : MapOk E f es) : MapOk E' f es :=
  ⟨hm.1, hm.2.1, fun l c hl => let ⟨i, e, h1, h2, h3, h4⟩ := hm.2.2 l c hl; ⟨i, e, h1, h2, h3.mono h.F, h4⟩⟩

/-- A cell's fact is kept where the environment grows, the block's content (of boxes and maps) is as it was, and no token of that number turns. -/
theorem CellOk.keep {E E' : Env} {w w' : World} (h : E.Le E') {b j : Nat} {c : AV} (hc : CellOk E w b j c)
    (hb : ∀ g, E.kd b = 1 → E.bk b = some g → g < w.heap.size → w'.heap[g]? = w.heap[g]?) (ht : E.kd b = 2 → E'.tk b = E.tk b) : CellOk E' w' b j c := by
  by_cases hp : c.plain = true
  · rw [CellOk.plain hp] at hc ⊢
    obtain ⟨hk, g, v, h1, h2, h3, h4⟩ := hc
    obtain ⟨k1, k2⟩ := h.box b hk
    have hlt := World.block_lt_of_cell? w _ h2
    have e := hb g hk h1 hlt
    exact ⟨k1, g, v, k2.trans h1, (World.cell?_of_block e).trans h2, (World.frozen?_of_block e).trans h3, h4.mono h⟩
  · cases c <;> simp [AV.plain] at hp
    case non => trivial
    case tok n => exact ⟨hc.1, (h.tok b hc.2.1).1, by rw [ht hc.2.1]; exact hc.2.2⟩
    case mps f =>
      obtain ⟨hj, hk, g, es, clock, h1, h2, h3⟩ := hc
      obtain ⟨k1, k2⟩ := h.box b hk
      have hlt : g < w.heap.size := (Array.getElem?_eq_some_iff.1 h2).1
      exact ⟨hj, k1, g, es, clock, k2.trans h1, (hb g hk h1 hlt).trans h2, h3.mono h⟩
    case mpi f => exact hc.elim

theorem getD_set (xs : Array Value) (d r : Nat) (v : Value) : (xs.setIfInBounds d v).getD r undef = if d = r ∧ r < xs.size then v else xs.getD r undef := by
  by_cases h : d = r
  · subst h
    by_cases hr : d < xs.size
    · simp [hr]
    · simp [hr]
  · simp only [Array.getD_eq_getD_getElem?, h, false_and, if_false]
    rw [Array.getElem?_setIfInBounds_ne h]

theorem put_getD (a : Act) (dst : Option Nat) (v : Value) (r : Nat) : (a.put dst v).tmps.getD r undef = if dst = some r ∧ r < a.tmps.size then v else a.tmps.getD r undef := by
  cases dst with
  | none => simp [Act.put]
  | some d => simp only [Act.put, Option.some.injEq]; exact getD_set _ _ _ _

theorem put_size (a : Act) (dst : Option Nat) (v : Value) : (a.put dst v).tmps.size = a.tmps.size := by cases dst <;> simp [Act.put]
theorem put_defers (a : Act) (dst : Option Nat) (v : Value) : (a.put dst v).defers = a.defers := by cases dst <;> rfl

/-- The general step: a world and an environment that keep what was known, a value for the register, the cells as the effect says. -/
theorem SOk.step {E E' : Env} {S : FSt} {a : Act} {w w' : World} (h : SOk E S a w) (hle : E.Le E') {e : Eff} {v : Value} (hv : VR E' e.val v)
    (hcell : ∀ b j, CellOk E' w' b j ((S.apply e).cell b j)) (hdom : ∀ b, (S.apply e).dom b = false → E'.kd b = 0) : SOk E' (S.apply e) (a.put e.dst v) w' where
  size := by rw [put_size]; exact h.size
  defers := by rw [put_defers]; exact h.defers
  reg := fun r => by
    rw [put_getD, h.size]
    simp only [FSt.apply]
    split
    · exact hv
    · exact (h.reg r).mono hle
  cell := hcell
  dom := hdom

theorem Eff.new_nil (dst : Option Nat) (c : AV) (ws : List (Nat × Nat × AV)) (n b : Nat) : (⟨dst, c, ws, n, []⟩ : Eff).new b = false := by
  simp [Eff.new]
theorem apply_pure_cell (S : FSt) (dst : Option Nat) (c : AV) (n b j : Nat) : (S.apply ⟨dst, c, [], n, []⟩).cell b j = S.cell b j := by
  simp [FSt.apply, Eff.new_nil, wrs]
theorem apply_pure_dom (S : FSt) (dst : Option Nat) (c : AV) (ws : List (Nat × Nat × AV)) (n b : Nat) : (S.apply ⟨dst, c, ws, n, []⟩).dom b = S.dom b := by
  simp [FSt.apply, Eff.new_nil]

/-- A step that leaves the world alone. -/
theorem SOk.pure {E : Env} {S : FSt} {a : Act} {w : World} (h : SOk E S a w) {dst : Option Nat} {c : AV} {v : Value} (hv : VR E c v) (n : Nat) :
    SOk E (S.apply ⟨dst, c, [], n, []⟩) (a.put dst v) w := by
  refine h.step (Env.Le.refl E) (e := ⟨dst, c, [], n, []⟩) hv (fun b j => ?_) (fun b hb => ?_)
  · rw [apply_pure_cell]; exact h.cell b j
  · rw [apply_pure_dom] at hb; exact h.dom b hb

/-- A new box of number b. -/
def Env.addBox (E : Env) (b g : Nat) : Env := { E with kd := fun x => if x = b then 1 else E.kd x, bk := fun x => if x = b then some g else E.bk x }

theorem Env.addBox_le {E : Env} {b g : Nat} (h : E.kd b = 0) : E.Le (E.addBox b g) :=
  ⟨fun _ _ x => x, fun x hx => by
    have : x ≠ b := fun e => by subst e; omega
    simp [Env.addBox, this, hx], fun x hx => by
    have : x ≠ b := fun e => by subst e; omega
    simp [Env.addBox, this, hx]⟩

theorem TOk.keep {Γ : Ctx} {E E' : Env} {w w' : World} {t : Nat} (h : TOk Γ E w t) (hb : E'.bk t = E.bk t) (ht : E'.tk t = E.tk t)
    (hw : ∀ g, E.bk t = some g → g < w.heap.size → w'.heap[g]? = w.heap[g]?) (hF : ∀ g a v, E.bk t = some g → E'.F a v → a.block = g → E.F a v) : TOk Γ E' w' t := by
  rcases h with ⟨h1, h2, h3⟩ | ⟨g, cap, xs, h1, h2, h3, h4⟩
  · exact .inl ⟨hb.trans h1, by rw [ht]; exact h2, by rw [ht]; exact h3⟩
  · refine .inr ⟨g, cap, xs, hb.trans h1, by rw [ht]; exact h2, ?_, fun a v x y => by rw [ht]; exact h4 a v (hF g a v h1 x y) y⟩
    rw [ht]
    refine ⟨h3.1, ?_⟩
    rcases h3.2 with h5 | ⟨g', cap', cur, e1, e2, e3, e4⟩
    · exact .inl h5
    · refine .inr ⟨g', cap', cur, e1, e2, ?_, e4⟩
      have e5 : g = g' := by rw [h2] at e1; injection e1 with e1; injection e1 with e1; injection e1
      subst e5
      rw [hw g h1 (Array.getElem?_eq_some_iff.1 e3).1]
      exact e3

theorem heap_alloc_lt (w : World) (o : Obj) {g : Nat} (h : g < w.heap.size) : (w.alloc o).heap[g]? = w.heap[g]? := by
  unfold World.alloc
  simp only [Array.getElem?_push]
  rw [if_neg (by omega)]

theorem EOk.alloc {Γ : Ctx} {E : Env} {w : World} (h : EOk Γ E w) (o : Obj) : EOk Γ E (w.alloc o) where
  le := h.le
  os := h.os
  tape := h.tape
  output := h.output
  size := by have := h.size; simp; omega
  old := fun g hg hx => by rw [heap_alloc_lt w o (Nat.lt_of_lt_of_le hg h.size)]; exact h.old g hg hx
  F := fun a v x => ⟨by rw [World.cell?_alloc_lt w o a (World.block_lt_of_cell? w a (h.F a v x).1)]; exact (h.F a v x).1, (h.F a v x).2⟩
  box := fun b hb => let ⟨g, h1, h2, h3, h4⟩ := h.box b hb; ⟨g, h1, by simp; omega, h3, h4⟩
  tok := fun t ht => (h.tok t ht).keep rfl rfl (fun g _ hlt => heap_alloc_lt w o hlt) (fun _ _ _ _ x _ => x)
  fnew := h.fnew
  kd3 := h.kd3
  inj := h.inj
  hx := h.hx

theorem EOk.lt {Γ : Ctx} {E : Env} {w : World} (h : EOk Γ E w) {b g : Nat} (hk : E.kd b ≠ 0) (hg : E.bk b = some g) : g < w.heap.size ∧ Γ.mine g := by
  rcases h.kd3 b with h1 | h1 | h1
  · exact absurd h1 hk
  · obtain ⟨g', h2, h3, h4, _⟩ := h.box b h1
    rw [hg] at h2; injection h2 with h2; subst h2
    exact ⟨h3, h4⟩
  · rcases h.tok b h1 with ⟨h2, _⟩ | ⟨g', cap, xs, h2, h3, h4, _⟩
    · rw [hg] at h2; cases h2
    · rw [hg] at h2; injection h2 with h2; subst h2
      have := h4.lt g (by rw [h3]; rfl)
      exact ⟨this.2, .inl this.1⟩

theorem EOk.addBox {Γ : Ctx} {E : Env} {w : World} (h : EOk Γ E w) {b : Nat} (hb : E.kd b = 0) (o : Obj) : EOk Γ (E.addBox b w.heap.size) (w.alloc o) where
  le := h.le.trans (Env.addBox_le hb)
  os := h.os
  tape := h.tape
  output := h.output
  size := (h.alloc o).size
  old := (h.alloc o).old
  F := (h.alloc o).F
  box := fun x hx => by
    by_cases e : x = b
    · subst e
      refine ⟨w.heap.size, by simp [Env.addBox], by simp, .inl h.size, fun a v y => ?_⟩
      have := World.block_lt_of_cell? w a (h.F a v y).1
      omega
    · simp only [Env.addBox, e, if_false] at hx ⊢
      exact (h.alloc o).box x hx
  tok := fun x hx => by
    have e : x ≠ b := fun e => by subst e; simp [Env.addBox] at hx
    have hx' : E.kd x = 2 := by simpa [Env.addBox, e] using hx
    exact ((h.alloc o).tok x hx').keep (by simp [Env.addBox, e]) rfl (fun _ _ _ => rfl) (fun _ _ _ _ y _ => y)
  fnew := h.fnew
  hx := h.hx
  kd3 := fun x => by
    by_cases e : x = b
    · exact .inr (.inl (by simp [Env.addBox, e]))
    · simp only [Env.addBox, e, if_false]; exact h.kd3 x
  inj := fun x y g hx hy hgx hgy => by
    have key : ∀ z, E.kd z ≠ 0 → E.bk z = some w.heap.size → False := fun z hz hg => by have := (h.lt hz hg).1; omega
    by_cases ex : x = b <;> by_cases ey : y = b
    · rw [ex, ey]
    · exfalso
      simp only [Env.addBox, ex, ey, if_true, if_false] at hx hy hgx hgy
      injection hgx with hgx
      exact key y hy (hgx ▸ hgy)
    · exfalso
      simp only [Env.addBox, ex, ey, if_true, if_false] at hx hy hgx hgy
      injection hgy with hgy
      exact key x hx (hgy ▸ hgx)
    · simp only [Env.addBox, ex, ey, if_false] at hx hy hgx hgy
      exact h.inj x y g hx hy hgx hgy

end Go.Ab
