/- Operations on memory and calls, symbolically, and that they are right. -/
import Derived.Test.YtpgagefaneaioaaU2
namespace Go.Ab
open Go Go.RowKit
set_option linter.unusedVariables false
set_option linter.unusedSimpArgs false

/-! ### Effects -/

structure SEff where
  dst : Option Nat
  val : SV
  ws : List (Nat × Nat × SV)
  base : Nat
  news : List (List SV)

def wav (x : Nat × Nat × SV) : Nat × Nat × AV := (x.1, x.2.1, x.2.2.av)
def SEff.av (e : SEff) : Eff := ⟨e.dst, e.val.av, e.ws.map wav, e.base, e.news.map avL⟩

def setSB : List (List SV) → Nat → Nat → SV → List (List SV)
  | [], _, _, _ => []
  | l :: r, 0, j, c => setS l j c :: r
  | l :: r, b + 1, j, c => l :: setSB r b j c
theorem setSB_av : ∀ (H : List (List SV)) (b j : Nat) (c : SV), (setSB H b j c).map avL = setB (H.map avL) b j c.av
  | [], _, _, _ => rfl
  | l :: r, 0, j, c => by simp only [setSB, List.map_cons, setB, setS_av]
  | l :: r, b + 1, j, c => by simp only [setSB, List.map_cons, setB, setSB_av r]
theorem setSB_length : ∀ (H : List (List SV)) (b j : Nat) (c : SV), (setSB H b j c).length = H.length
  | [], _, _, _ => rfl
  | l :: r, 0, j, c => rfl
  | l :: r, b + 1, j, c => by simp [setSB, setSB_length r]
theorem nthSB_set : ∀ (H : List (List SV)) (b j : Nat) (c : SV) (b' : Nat), b ≠ b' → nthSB (setSB H b j c) b' = nthSB H b'
  | [], _, _, _, _, _ => rfl
  | l :: r, 0, j, c, 0, h => absurd rfl h
  | l :: r, 0, j, c, b' + 1, h => rfl
  | l :: r, b + 1, j, c, 0, h => rfl
  | l :: r, b + 1, j, c, b' + 1, h => nthSB_set r b j c b' (fun e => h (by rw [e]))
def wrS : List (Nat × Nat × SV) → List (List SV) → List (List SV)
  | [], H => H
  | x :: r, H => wrS r (setSB H x.1 x.2.1 x.2.2)
theorem wrS_av : ∀ (ws : List (Nat × Nat × SV)) (H : List (List SV)), (wrS ws H).map avL = wrH (ws.map wav) (H.map avL)
  | [], _ => rfl
  | x :: r, H => by simp only [wrS, List.map_cons, wrH, wrS_av r, setSB_av, wav]
theorem wrS_length : ∀ (ws : List (Nat × Nat × SV)) (H : List (List SV)), (wrS ws H).length = H.length
  | [], _ => rfl
  | x :: r, H => by rw [wrS, wrS_length r, setSB_length]
theorem nthSB_wr : ∀ (ws : List (Nat × Nat × SV)) (H : List (List SV)) (b : Nat), (∀ x ∈ ws, x.1 ≠ b) → nthSB (wrS ws H) b = nthSB H b
  | [], _, _, _ => rfl
  | x :: r, H, b, h => by rw [wrS, nthSB_wr r _ b (fun y hy => h y (List.mem_cons_of_mem _ hy)), nthSB_set _ _ _ _ _ (h x (by simp))]
theorem nthSB_app : ∀ (H N : List (List SV)) (b : Nat), b < H.length → nthSB (H ++ N) b = nthSB H b
  | [], _, _, h => by simp at h
  | l :: r, N, 0, _ => rfl
  | l :: r, N, b + 1, h => nthSB_app r N b (by simpa using h)

def setRS : Option Nat → SV → List SV → List SV
  | none, _, l => l
  | some d, v, l => setS l d v
def SSt.app (s : SSt) (e : SEff) : SSt := ⟨setRS e.dst e.val s.regs, wrS e.ws s.heap ++ e.news⟩
theorem app_av (s : SSt) (e : SEff) : (s.app e).av = s.av.apply e.av := by
  simp only [SSt.app, SSt.av, ASt.apply, SEff.av, List.map_append, wrS_av]
  cases e.dst with
  | none => rfl
  | some d => simp only [setRS, setR, setS_av]

section
variable {β : Type 1}
def setBK : List (List SV) → Nat → Nat → SV → (List (List SV) → β) → β
  | [], _, _, _, k => k []
  | l :: r, 0, j, c, k => setK l j c fun l' => k (l' :: r)
  | l :: r, b + 1, j, c, k => setBK r b j c fun r' => k (l :: r')
theorem setBK_eq : ∀ (H : List (List SV)) (b j : Nat) (c : SV) (k : List (List SV) → β), setBK H b j c k = k (setSB H b j c)
  | [], _, _, _, _ => rfl
  | l :: r, 0, j, c, k => by simp only [setBK, setSB, setK_eq]
  | l :: r, b + 1, j, c, k => by simp only [setBK, setSB, setBK_eq r]
def wrK : List (Nat × Nat × SV) → List (List SV) → (List (List SV) → β) → β
  | [], H, k => k H
  | x :: r, H, k => setBK H x.1 x.2.1 x.2.2 fun H' => wrK r H' k
theorem wrK_eq : ∀ (ws : List (Nat × Nat × SV)) (H : List (List SV)) (k : List (List SV) → β), wrK ws H k = k (wrS ws H)
  | [], _, _ => rfl
  | x :: r, H, k => by simp only [wrK, wrS, setBK_eq, wrK_eq r]
def catK : List (List SV) → List (List SV) → (List (List SV) → β) → β
  | [], N, k => k N
  | l :: r, N, k => catK r N fun r' => k (l :: r')
theorem catK_eq : ∀ (H N : List (List SV)) (k : List (List SV) → β), catK H N k = k (H ++ N)
  | [], _, _ => rfl
  | l :: r, N, k => by simp only [catK, catK_eq r, List.cons_append]
def setRK : Option Nat → SV → List SV → (List SV → β) → β
  | none, _, l, k => k l
  | some d, v, l, k => setK l d v k
def SSt.appK (s : SSt) (e : SEff) (k : SSt → β) : β := setRK e.dst e.val s.regs fun R => match e.ws, e.news with
  | [], [] => k ⟨R, s.heap⟩
  | ws, N => wrK ws s.heap fun H => catK H N fun H' => k ⟨R, H'⟩
theorem appK_eq (s : SSt) (e : SEff) (k : SSt → β) : s.appK e k = k (s.app e) := by
  cases s with
  | mk R H =>
  cases e with
  | mk dst val ws base news =>
  have h1 : ∀ k' : List SV → β, setRK dst val R k' = k' (setRS dst val R) := fun k' => by
    cases dst with
    | none => rfl
    | some d => exact setK_eq _ _ _ _
  simp only [SSt.appK, h1, SSt.app]
  cases ws with
  | nil =>
    cases news with
    | nil => simp [wrS]
    | cons => simp only [wrK, catK_eq, wrS]
  | cons => simp only [wrK_eq, catK_eq]
end

/-! ### Memory -/

def allS (p : AV → Bool) : List SV → Bool
  | [] => true
  | c :: r => p c.av && allS p r
theorem allS_av (p : AV → Bool) : ∀ l : List SV, allB p (avL l) = allS p l
  | [] => rfl
  | c :: r => by
    show (p c.av && allB p (avL r)) = (p c.av && allS p r)
    rw [allS_av p r]
def rdS (l : List SV) : Nat → Nat → List SV
  | _, 0 => []
  | o, n + 1 => nthS l o :: rdS l (o + 1) n
theorem rdS_av (l : List SV) (f : Nat → AV) (h : ∀ j, f j = (nthS l j).av) : ∀ (n o : Nat), rdc f o n = avL (rdS l o n)
  | 0, _ => rfl
  | n + 1, o => by
    show f o :: rdc f (o + 1) n = (nthS l o).av :: avL (rdS l (o + 1) n)
    rw [rdS_av l f h n, h]
def writesS (b : Nat) : Nat → List SV → List (Nat × Nat × SV)
  | _, [] => []
  | o, c :: r => (b, o, c) :: writesS b (o + 1) r
theorem writesS_av (b : Nat) : ∀ (l : List SV) (o : Nat), (writesS b o l).map wav = writes b o (avL l)
  | [], _ => rfl
  | c :: r, o => by
    show (b, o, c.av) :: (writesS b (o + 1) r).map wav = (b, o, c.av) :: writes b (o + 1) (avL r)
    rw [writesS_av b r]
theorem cell_av (s : SSt) (b j : Nat) : s.av.view.cell b j = (nthS (nthSB s.heap b) j).av := by
  show nth (nthB (s.heap.map avL) b) j = _
  rw [nthSB_av, nthS_av]
theorem heap_len (s : SSt) : s.av.heap.length = s.heap.length := by simp [SSt.av]

section
variable {ρ : Type}

def xLoad (X : List XTy) (dst : Option Nat) (t : Nat) (H : List (List SV)) (x : SV) (k : SEff → List (Nat × Nat) → Tr ρ) : Tr ρ :=
  if (nthX X t).kd.isOther = false then (match x with
    | .cp cells => if (nthX X t).kd.isAgg = true then (if (nthX X t).size ≤ cells.length then k ⟨dst, .agg (cells.take (nthX X t).size), [], H.length, []⟩ [] else .fail) else (match cells with
      | c :: _ => k ⟨dst, c, [], H.length, []⟩ []
      | [] => .fail)
    | .ptr b off => if (nthX X t).kd.isAgg = true then (if allS AV.plain (rdS (nthSB H b) off (nthX X t).size) = true then k ⟨dst, .agg (rdS (nthSB H b) off (nthX X t).size), [], H.length, []⟩ (ks b off (nthX X t).size) else .fail)
        else if (nthS (nthSB H b) off).av.plain = true then k ⟨dst, nthS (nthSB H b) off, [], H.length, []⟩ [(b, off)] else .fail
    | _ => .fail) else .fail

theorem xLoad_ok {X : List XTy} {dst : Option Nat} {t : Nat} {s : SSt} {x : SV} {k : SEff → List (Nat × Nat) → Tr ρ} {r : ρ} {kA : Eff → List (Nat × Nat) → Prop} (h : (xLoad X dst t s.heap x k).run = some r)
    (hk : ∀ e rd, (k e rd).run = some r → kA e.av rd) : aLoad (TX X) dst t s.av.view x.av s.heap.length kA := by
  replace h := ite_run h; obtain ⟨h0, h⟩ := h
  unfold aLoad
  refine ⟨h0, ?_⟩
  split at h
  · rename_i cells
    simp only [SV.av]
    split at h
    · rename_i hag
      replace h := ite_run h; obtain ⟨h1, h⟩ := h
      have := hk _ _ h
      rw [if_pos (show (TX X t).kd.isAgg = true from hag)]
      refine ⟨by rw [show SV.av.avL cells = avL cells from rfl, avL_length]; exact h1, ?_⟩
      simp only [SEff.av, SV.av, List.map_nil] at this
      rw [show SV.av.avL (List.take _ cells) = _ from avL_take _ _] at this
      exact this
    · rename_i hag
      rw [if_neg (show ¬ (TX X t).kd.isAgg = true from hag)]
      split at h
      · exact ⟨_, rfl, hk _ _ h⟩
      · cases h
  · rename_i b off
    simp only [SV.av]
    have hrd : rdc (s.av.view.cell b) off (TX X t).size = avL (rdS (nthSB s.heap b) off (nthX X t).size) := rdS_av _ _ (fun j => cell_av s b j) _ _
    rw [hrd, cell_av]
    split at h
    · rename_i hag
      replace h := ite_run h; obtain ⟨h1, h⟩ := h
      rw [if_pos (show (TX X t).kd.isAgg = true from hag)]
      refine ⟨by rw [allS_av]; exact h1, hk _ _ h⟩
    · rename_i hag
      replace h := ite_run h; obtain ⟨h1, h⟩ := h
      rw [if_neg (show ¬ (TX X t).kd.isAgg = true from hag)]
      exact ⟨h1, hk _ _ h⟩
  · cases h

def xStore (X : List XTy) (dst : Option Nat) (t : Nat) (H : List (List SV)) (x v : SV) (k : SEff → List (Nat × Nat) → Tr ρ) : Tr ρ :=
  match x with
  | .ptr b off => if (nthX X t).kd.isOther = false ∧ v.av.known = true ∧ v.cells.length = (nthX X t).size ∧ allS AV.one v.cells = true ∧ allS AV.plain (rdS (nthSB H b) off v.cells.length) = true then
      k ⟨dst, .und, writesS b off v.cells, H.length, []⟩ (ks b off v.cells.length) else .fail
  | _ => .fail
theorem xStore_ok {X : List XTy} {dst : Option Nat} {t : Nat} {s : SSt} {x v : SV} {k : SEff → List (Nat × Nat) → Tr ρ} {r : ρ} {kA : Eff → List (Nat × Nat) → Prop} (h : (xStore X dst t s.heap x v k).run = some r)
    (hk : ∀ e rd, (k e rd).run = some r → kA e.av rd) : aStore (TX X) dst t s.av.view x.av v.av s.heap.length kA := by
  unfold xStore at h
  split at h
  · rename_i b off
    replace h := ite_run h; obtain ⟨⟨h0, h1, h2, h3, h4⟩, h⟩ := h
    have hrd : ∀ n, rdc (s.av.view.cell b) off n = avL (rdS (nthSB s.heap b) off n) := fun n => rdS_av _ _ (fun j => cell_av s b j) _ _
    have := hk _ _ h
    simp only [SEff.av, writesS_av, List.map_nil] at this
    refine ⟨h0, ?_⟩
    simp only [SV.av]
    refine ⟨h1, ?_, ?_, ?_, ?_⟩
    · rw [SV.cells_av, avL_length]; exact h2
    · rw [SV.cells_av, allS_av]; exact h3
    · rw [SV.cells_av, avL_length, hrd, allS_av]; exact h4
    · rw [SV.cells_av, avL_length]; exact this
  · cases h

/-! ### Rows -/

/-- A cell of a row, without loss. -/
def exOne : (τ : Ty) → SV → Option τ.T
  | .int k, v => match asI v with
    | some (k', n) => if k' = k then some n else none
    | none => none
  | .bool, v => asB v
  | .str, .str l => some l
  | .list a, .sl τ xs => if h : τ = a then some (h ▸ xs) else none
  | .list a, .ow _ _ τ xs => if h : τ = a then some (h ▸ xs) else none
  | _, _ => none
theorem exOne_av : ∀ {τ : Ty} {v : SV} {x : τ.T}, exOne τ v = some x → v.av.flat = true ∧ v.av.low = oneA τ x ∧ τ.enc x = [oneA τ x]
  | .int k, v, x, h => by
    simp only [exOne] at h
    split at h
    · rename_i k' n q
      split at h
      · rename_i e; injection h with h; subst h; subst e; rw [asI_av q]; exact ⟨rfl, rfl, rfl⟩
      · cases h
    · cases h
  | .bool, v, x, h => by
    have := asB_av h
    rw [this]; exact ⟨rfl, rfl, rfl⟩
  | .str, v, x, h => by
    cases v <;> simp [exOne] at h
    subst h; exact ⟨rfl, rfl, rfl⟩
  | .list a, v, x, h => by
    cases v <;> simp only [exOne] at h <;> first | (cases h; done) | skip
    all_goals
      split at h
      · rename_i e; subst e; injection h with h; subst h; exact ⟨rfl, rfl, rfl⟩
      · cases h
  | .unit, v, x, h => by cases v <;> cases h
  | .pair _ _, v, x, h => by cases v <;> cases h

def wl {α : Type} {β : Type} (o : Option α) (l : β) : Option (α × β) := match o with
  | some x => some (x, l)
  | none => none
def exCells : (τ : Ty) → List SV → Option (τ.T × List SV)
  | .unit, l => some ((), l)
  | .pair a b, l => match exCells a l with
    | some (x, l') => match exCells b l' with
      | some (y, l'') => some ((x, y), l'')
      | none => none
    | none => none
  | .int k, v :: l => wl (exOne (.int k) v) l
  | .bool, v :: l => wl (exOne .bool v) l
  | .str, v :: l => wl (exOne .str v) l
  | .list a, v :: l => wl (exOne (.list a) v) l
  | _, _ => none

theorem exCells_one {τ : Ty} {v : SV} {l l' : List SV} {x : τ.T} (h : wl (exOne τ v) l = some (x, l')) : ∃ p, (v :: l) = p ++ l' ∧ allB AV.flat (avL p) = true ∧ (avL p).map AV.low = τ.enc x := by
  cases q : exOne τ v with
  | none => rw [q] at h; cases h
  | some y =>
    rw [q] at h
    injection h with h
    injection h with h1 h2
    subst h1; subst h2
    obtain ⟨w1, w2, w3⟩ := exOne_av q
    exact ⟨[v], rfl, by simp [avL_eq, allB, w1], by simp [avL_eq, w2, w3]⟩

theorem allB_append (p : AV → Bool) : ∀ a b : List AV, allB p (a ++ b) = (allB p a && allB p b)
  | [], b => by simp [allB]
  | c :: r, b => by simp only [List.cons_append, allB, allB_append p r b, Bool.and_assoc]
theorem avL_app (a b : List SV) : avL (a ++ b) = avL a ++ avL b := by simp only [avL_eq, List.map_append]

theorem exCells_av : ∀ {τ : Ty} {l l' : List SV} {x : τ.T}, exCells τ l = some (x, l') → ∃ p, l = p ++ l' ∧ allB AV.flat (avL p) = true ∧ (avL p).map AV.low = τ.enc x
  | .unit, l, l', x, h => by
    simp only [exCells, Option.some.injEq, Prod.mk.injEq] at h
    exact ⟨[], by simp [h.2], rfl, rfl⟩
  | .pair a b, l, l', x, h => by
    simp only [exCells] at h
    split at h
    · rename_i y l1 q1
      split at h
      · rename_i z l2 q2
        injection h with h
        injection h with h1 h2
        subst h1; subst h2
        obtain ⟨p1, w1, w2, w3⟩ := exCells_av q1
        obtain ⟨p2, v1, v2, v3⟩ := exCells_av q2
        refine ⟨p1 ++ p2, by rw [w1, v1, List.append_assoc], ?_, ?_⟩
        · rw [avL_app, allB_append, w2, v2]; rfl
        · rw [avL_app, List.map_append, w3, v3]; rfl
      · cases h
    · cases h
  | .int k, [], l', x, h => by cases h
  | .int k, v :: l, l', x, h => by simp only [exCells] at h; exact exCells_one h
  | .bool, [], l', x, h => by cases h
  | .bool, v :: l, l', x, h => by simp only [exCells] at h; exact exCells_one h
  | .str, [], l', x, h => by cases h
  | .str, v :: l, l', x, h => by simp only [exCells] at h; exact exCells_one h
  | .list a, [], l', x, h => by cases h
  | .list a, v :: l, l', x, h => by simp only [exCells] at h; exact exCells_one h

def exRow (τ : Ty) (l : List SV) : Option τ.T := match exCells τ l with
  | some (x, []) => some x
  | _ => none
theorem exRow_av {τ : Ty} {l : List SV} {x : τ.T} (h : exRow τ l = some x) : allB AV.flat (avL l) = true ∧ (avL l).map AV.low = τ.enc x ∧ l.length = τ.size := by
  unfold exRow at h
  split at h
  · rename_i y q
    injection h with h
    subst h
    obtain ⟨p, w1, w2, w3⟩ := exCells_av q
    rw [List.append_nil] at w1
    subst w1
    refine ⟨w2, w3, ?_⟩
    have := congrArg List.length w3
    rw [List.length_map, avL_length, Ty.enc_length] at this
    exact this
  · cases h

def rowsS (τ : Ty) : Nat → List (Nat × SV) → Option (List τ.T)
  | _, [] => some []
  | i, p :: r => if p.1 = i ∧ p.2.av.known = true then (match exRow τ p.2.cells, rowsS τ (i + 1) r with
    | some x, some xs => some (x :: xs)
    | _, _ => none) else none
theorem rowsS_av {τ : Ty} {size : Nat} (hs : τ.size = size) : ∀ (ps : List (Nat × SV)) (i : Nat) (xs : List τ.T), rowsS τ i ps = some xs →
    allP size i (ps.map fun p => (p.1, p.2.av)) = true ∧ (ps.map fun p => (p.1, p.2.av)).map (fun p => p.2.cells.map AV.low) = xs.map τ.enc ∧ xs.length = ps.length
  | [], i, xs, h => by injection h with h; subst h; exact ⟨rfl, rfl, rfl⟩
  | p :: r, i, xs, h => by
    simp only [rowsS] at h
    split at h
    · rename_i hc
      split at h
      · rename_i x ys q1 q2
        injection h with h
        subst h
        obtain ⟨w1, w2, w3⟩ := rowsS_av hs r (i + 1) ys q2
        obtain ⟨v1, v2, v3⟩ := exRow_av q1
        refine ⟨?_, ?_, by simp [w3]⟩
        · simp only [List.map_cons, allP, w1, SV.cells_av, v1, hc.2, avL_length, v3, hs, hc.1]; simp
        · simp only [List.map_cons, SV.cells_av, v2]; rw [w2]
      · cases h
    · cases h

def xBuildSlice (X : List XTy) (dst : Option Nat) (t len : Nat) (ps : List (Nat × SV)) (base : Nat) (k : SEff → List (Nat × Nat) → Tr ρ) : Tr ρ :=
  match (nthX X t).kd with
  | .slice e => if (nthX X e).kd.isOther = false ∧ 0 < (nthX X e).size ∧ (nthX X e).code.size = (nthX X e).size then
      (if len = 0 then (if ps.length = 0 then k ⟨dst, .emp, [], base, []⟩ [] else .fail)
      else if len * (nthX X e).size ≤ 1024 ∧ ps.length = len then (match rowsS (nthX X e).code 0 ps with
        | some xs => k ⟨dst, .ow base e (nthX X e).code xs, [], base, [[.tok len]]⟩ []
        | none => .fail) else .fail) else .fail
  | _ => .fail
theorem xBuildSlice_ok {X : List XTy} {dst : Option Nat} {t len base : Nat} {ps : List (Nat × SV)} {k : SEff → List (Nat × Nat) → Tr ρ} {r : ρ} {kA : Eff → List (Nat × Nat) → Prop} (h : (xBuildSlice X dst t len ps base k).run = some r)
    (hk : ∀ e rd, (k e rd).run = some r → kA e.av rd) : aBuildSlice (TX X) dst t len (ps.map fun p => (p.1, p.2.av)) base kA := by
  unfold xBuildSlice at h
  split at h
  · rename_i e hkd
    replace h := ite_run h; obtain ⟨⟨h0, h1, h2⟩, h⟩ := h
    unfold aBuildSlice
    rw [TX_kd, hkd]
    refine ⟨h0, h1, ?_⟩
    split at h
    · rename_i hl
      replace h := ite_run h; obtain ⟨h3, h⟩ := h
      rw [if_pos hl]
      exact ⟨by rw [List.length_map]; exact h3, hk _ _ h⟩
    · rename_i hl
      replace h := ite_run h; obtain ⟨h3, h⟩ := h
      rw [if_neg hl]
      split at h
      · rename_i xs q
        obtain ⟨w1, w2, w3⟩ := rowsS_av h2 _ _ _ q
        refine ⟨h3.1, by rw [List.length_map]; exact h3.2, w1, ?_⟩
        have := hk _ _ h
        simp only [SEff.av, SV.av, List.map_nil, List.map_cons] at this
        rw [h2] at this
        rw [w2]
        exact this
      · cases h
  · cases h

def srcS (τ : Ty) : SV → Option (List τ.T)
  | .sl τ' xs => if h : τ' = τ then some (h ▸ xs) else none
  | .ow _ _ τ' xs => if h : τ' = τ then some (h ▸ xs) else none
  | .emp => some []
  | _ => none
theorem srcS_av {τ : Ty} {v : SV} {xs : List τ.T} (h : srcS τ v = some xs) : srcOf τ.size v.av = some (xs.map τ.enc) := by
  cases v <;> simp only [srcS] at h <;> first | (cases h; done) | skip
  case emp => injection h with h; subst h; rfl
  all_goals
    split at h
    · rename_i e; subst e; injection h with h; subst h; simp [SV.av, srcOf]
    · cases h
theorem full_enc (τ : Ty) (xs : List τ.T) : Full τ.size (xs.map τ.enc) := by
  intro row hr
  obtain ⟨x, _, rfl⟩ := List.mem_map.1 hr
  exact τ.enc_length x

def xAppend (X : List XTy) (dst : Option Nat) (t t' : Nat) (H : List (List SV)) (x y : SV) (k : SEff → List (Nat × Nat) → Tr ρ) : Tr ρ :=
  match (nthX X t).kd with
  | .slice e => if t' = t ∧ (nthX X e).kd.isOther = false ∧ 0 < (nthX X e).size ∧ (nthX X e).code.size = (nthX X e).size then
      (match srcS (nthX X e).code y with
      | some ys => match x with
        | .emp => .req (okApp ys.length (nthX X e).bytes) (k ⟨dst, .ow H.length e (nthX X e).code ys, [], H.length, [[.tok ys.length]]⟩ [])
        | .ow b e' τ xs => if h : τ = (nthX X e).code then (if e' = e then (match nthS (nthSB H b) 0 with
          | .tok n => .req (decide (n = xs.length)) (.req (okApp (xs.length + ys.length) (nthX X e).bytes) (k ⟨dst, .ow b e (nthX X e).code ((h ▸ xs) ++ ys), [(b, 0, .tok (xs.length + ys.length))], H.length, []⟩ [(b, 0)]))
          | _ => .fail) else .fail) else .fail
        | _ => .fail
      | none => .fail) else .fail
  | _ => .fail
theorem xAppend_ok {X : List XTy} {dst : Option Nat} {t t' : Nat} {s : SSt} {x y : SV} {k : SEff → List (Nat × Nat) → Tr ρ} {r : ρ} {kA : Eff → List (Nat × Nat) → Prop} (h : (xAppend X dst t t' s.heap x y k).run = some r)
    (hk : ∀ e rd, (k e rd).run = some r → kA e.av rd) : aAppend (TX X) dst t t' s.av.view x.av y.av s.heap.length kA := by
  unfold xAppend at h
  split at h
  · rename_i e hkd
    replace h := ite_run h; obtain ⟨⟨h0, h1, h2, h3⟩, h⟩ := h
    split at h
    · rename_i ys q
      have q' := srcS_av q
      have hf := full_enc _ ys
      rw [h3] at q' hf
      unfold aAppend
      refine ⟨h0, ?_⟩
      rw [TX_kd, hkd]
      split at h
      · replace h := run_req h; obtain ⟨h4, h⟩ := h
        obtain ⟨h5, h6⟩ := of_decide_eq_true h4
        have := hk _ _ h
        simp only [SEff.av, SV.av, List.map_nil, List.map_cons, h3] at this
        refine ⟨h1, h2, _, q', hf, by rw [List.length_map]; exact h5, by rw [List.length_map]; exact h6, ?_⟩
        rw [List.length_map]
        exact this
      · rename_i b e' τ xs
        split at h
        · rename_i hτ
          replace h := ite_run h; obtain ⟨h7, h⟩ := h
          split at h
          · rename_i n qn
            replace h := run_req h; obtain ⟨h8, h⟩ := h
            replace h := run_req h; obtain ⟨h4, h⟩ := h
            obtain ⟨h5, h6⟩ := of_decide_eq_true h4
            have h8 := of_decide_eq_true h8
            have := hk _ _ h
            subst hτ
            have hfx := full_enc _ xs
            rw [h3] at hfx
            simp only [SEff.av, SV.av, List.map_nil, List.map_cons, wav, h3] at this
            simp only [SV.av]
            refine ⟨h1, h2, h7, h3, ?_, _, q', ?_, hf, by simp only [List.length_map]; exact h5, by simp only [List.length_map]; exact h6, ?_⟩
            · rw [cell_av, qn, List.length_map, h8]; rfl
            · exact hfx
            · rw [List.length_map, List.length_map, ← List.map_append]
              exact this
          · cases h
        · cases h
      · cases h
    · cases h
  · cases h

/-! ### Maps -/

def oneS : (τ : Ty) → τ.T → SV
  | .int k, n => .int k n
  | .bool, b => .bool b
  | .str, l => .str l
  | .list a, xs => .sl a xs
  | _, _ => .non
theorem oneS_av : ∀ (τ : Ty) (x : τ.T), (oneS τ x).av = oneA τ x
  | .int _, _ => rfl
  | .bool, _ => rfl
  | .str, _ => rfl
  | .list _, _ => rfl
  | .unit, _ => rfl
  | .pair _ _, _ => rfl

def mget (τ : Ty) (m : List (List UInt8 × τ.T)) (l : List UInt8) (z : τ.T) : τ.T := (m.lookup l).getD z

def z0 (τ : Ty) : List SV → Option τ.T
  | [z] => match exOne τ z with
    | some x => if z.av.flat = true then some x else none
    | none => none
  | _ => none

def isPlainK : Ty → Bool
  | .int _ | .bool | .str => true
  | _ => false
theorem exOne_plain {τ : Ty} {v : SV} {x : τ.T} (hp : isPlainK τ = true) (h : exOne τ v = some x) : v.av = oneA τ x := by
  cases τ <;> simp [isPlainK] at hp
  · simp only [exOne] at h
    split at h
    · rename_i k' n q
      split at h
      · rename_i e; injection h with h; subst h; subst e; exact asI_av q
      · cases h
    · cases h
  · exact asB_av h
  · cases v <;> simp [exOne] at h
    subst h; rfl

def xLookup (X : List XTy) (dst : Option Nat) (t : Nat) (H : List (List SV)) (m key : SV) (k : SEff → List (Nat × Nat) → Tr ρ) : Tr ρ :=
  match (nthX X t).kd with
  | .map kt et => if isStrK (nthX X kt).kd = true ∧ (nthX X et).kd.isOther = false ∧ (nthX X et).kd.isAgg = false ∧ isPlainK (nthX X et).code = true then (match m with
    | .mp b => match key with
      | .str l => match nthS (nthSB H b) 0 with
        | .mpl τ es => if h : τ = (nthX X et).code then (match z0 (nthX X et).code (nthX X et).zero with
          | some z => k ⟨dst, oneS (nthX X et).code (mget (nthX X et).code (h ▸ es) l z), [], H.length, []⟩ [(b, 0)]
          | none => .fail) else .fail
        | _ => .fail
      | _ => .fail
    | _ => .fail) else .fail
  | _ => .fail
theorem xLookup_ok {X : List XTy} {dst : Option Nat} {t : Nat} {s : SSt} {m key : SV} {k : SEff → List (Nat × Nat) → Tr ρ} {r : ρ} {kA : Eff → List (Nat × Nat) → Prop} (h : (xLookup X dst t s.heap m key k).run = some r)
    (hk : ∀ e rd, (k e rd).run = some r → kA e.av rd) : aLookup (TX X) dst t s.av.view m.av key.av s.heap.length kA := by
  unfold xLookup at h
  split at h
  · rename_i kt et hkd
    replace h := ite_run h; obtain ⟨⟨h0, h1, h2, h2'⟩, h⟩ := h
    split at h <;> first | (cases h; done) | skip
    rename_i b
    split at h <;> first | (cases h; done) | skip
    rename_i l
    split at h <;> first | (cases h; done) | skip
    rename_i τ es qc
    split at h <;> first | (cases h; done) | skip
    rename_i hτ
    split at h <;> first | (cases h; done) | skip
    rename_i z qz
    subst hτ
    have := hk _ _ h
    simp only [SEff.av, List.map_nil, oneS_av, mget] at this
    unfold aLookup
    rw [TX_kd, hkd]
    simp only [SV.av]
    refine ⟨isStrK_eq h0, h1, ?_⟩
    rw [cell_av, qc]
    simp only [SV.av, mplF]
    refine ⟨fun c hc => ?_, fun hc => ⟨h2, ?_⟩⟩
    · cases hq : es.lookup l with
      | none => rw [hq] at hc; cases hc
      | some y =>
        rw [hq] at hc this
        injection hc with hc
        subst hc
        exact this
    · have hq : es.lookup l = none := by
        cases hq : es.lookup l with
        | none => rfl
        | some y => rw [hq] at hc; cases hc
      rw [hq] at this
      unfold z0 at qz
      split at qz
      · rename_i zz hz
        split at qz
        · rename_i x qx
          split at qz
          · injection qz with qz
            subst qz
            refine ⟨zz.av, by rw [TX_zero, hz]; rfl, ?_⟩
            have e := exOne_plain h2' qx
            rw [e]
            exact this
          · cases qz
        · cases qz
      · cases qz
  · cases h

def xUpdate (X : List XTy) (dst : Option Nat) (t : Nat) (H : List (List SV)) (m key v : SV) (k : SEff → List (Nat × Nat) → Tr ρ) : Tr ρ :=
  match (nthX X t).kd with
  | .map kt et => if isStrK (nthX X kt).kd = true then (match m with
    | .mp b => match key with
      | .str l => match nthS (nthSB H b) 0 with
        | .mpl τ es => match exOne τ v with
          | some x => k ⟨dst, .und, [(b, 0, .mpl τ ((l, x) :: es))], H.length, []⟩ [(b, 0)]
          | none => .fail
        | _ => .fail
      | _ => .fail
    | _ => .fail) else .fail
  | _ => .fail
theorem xUpdate_ok {X : List XTy} {dst : Option Nat} {t : Nat} {s : SSt} {m key v : SV} {k : SEff → List (Nat × Nat) → Tr ρ} {r : ρ} {kA : Eff → List (Nat × Nat) → Prop} (h : (xUpdate X dst t s.heap m key v k).run = some r)
    (hk : ∀ e rd, (k e rd).run = some r → kA e.av rd) : aMapUpdate (TX X) dst t s.av.view m.av key.av v.av s.heap.length kA := by
  unfold xUpdate at h
  split at h
  · rename_i kt et hkd
    replace h := ite_run h; obtain ⟨h0, h⟩ := h
    split at h <;> first | (cases h; done) | skip
    rename_i b
    split at h <;> first | (cases h; done) | skip
    rename_i l
    split at h <;> first | (cases h; done) | skip
    rename_i τ es qc
    split at h <;> first | (cases h; done) | skip
    rename_i x qx
    have := hk _ _ h
    simp only [SEff.av, List.map_nil, List.map_cons, wav, SV.av] at this
    obtain ⟨w1, w2, _⟩ := exOne_av qx
    unfold aMapUpdate
    rw [TX_kd, hkd]
    simp only [SV.av]
    refine ⟨isStrK_eq h0, w1, ?_⟩
    rw [cell_av, qc]
    simp only [SV.av]
    rw [w2]
    rw [show mplF τ ((l, x) :: es) = (fun y => if y = l then some (oneA τ x) else mplF τ es y) from by
      funext y
      simp only [mplF, List.lookup_cons]
      by_cases e : y = l
      · subst e; simp
      · have : (y == l) = false := by simpa using e
        simp [this, e]] at this
    exact this
  · cases h
end
end Go.Ab
