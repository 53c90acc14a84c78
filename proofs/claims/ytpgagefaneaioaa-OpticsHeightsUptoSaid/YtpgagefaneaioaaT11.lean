/- Calls: what a function is said to do ('Meets'), and a call of it as an operation. -/
import Derived.Test.YtpgagefaneaioaaT10
namespace Go.Ab
open Go Go.RowKit
set_option linter.unusedVariables false
set_option linter.unusedSimpArgs false

variable {P : Program} {T : TT}

def nth : List AV → Nat → AV
  | [], _ => .non
  | c :: _, 0 => c
  | _ :: r, n + 1 => nth r n

theorem nth_eq : ∀ (l : List AV) (n : Nat), nth l n = (l[n]?).getD .non
  | [], _ => rfl
  | c :: _, 0 => rfl
  | _ :: r, n + 1 => by rw [nth, nth_eq r n, List.getElem?_cons_succ]

def nthB : List (List AV) → Nat → List AV
  | [], _ => []
  | c :: _, 0 => c
  | _ :: r, n + 1 => nthB r n

theorem nthB_ge : ∀ (H : List (List AV)) (b : Nat), H.length ≤ b → nthB H b = []
  | [], _, _ => rfl
  | _ :: r, 0, h => by simp at h
  | _ :: r, b + 1, h => nthB_ge r b (by simpa using h)

def HOk (E : Env) (w : World) (H : List (List AV)) : Prop := (∀ b j, CellOk E w b j (nth (nthB H b) j)) ∧ ∀ b, H.length ≤ b → E.kd b = 0

/-- What a call of function f comes to: with such arguments and such blocks behind their pointers it returns r, and the blocks (and new ones behind them) are H'. -/
def Meets (P : Program) (f : Nat) (H : List (List AV)) (args : List AV) (r : AV) (H' : List (List AV)) : Prop :=
  ∀ (w : World) (E : Env) (X : List Nat) (vs : Array Value), EOk ⟨w, X, E, H.length⟩ E w → HOk E w H → (∀ b, b < H.length → E.kd b = 1) → VRs E args vs.toList →
    Calls P f vs w fun e w' => ∃ v E', e = .returned v ∧ EOk ⟨w, X, E, H.length⟩ E' w' ∧ HOk E' w' H' ∧ VR E' r v

/-- The numbers of a callee's blocks, as the caller's. -/
def ren (m : Nat → Nat) : AV → AV
  | .ptr b o => .ptr (m b) o
  | .ow t e s rows => .ow (m t) e s rows
  | .mp b => .mp (m b)
  | .agg cs => .agg (renL m cs)
  | .tup cs => .tup (renL m cs)
  | .fn f cs => .fn f (renL m cs)
  | c => c
where
  renL (m : Nat → Nat) : List AV → List AV
    | [] => []
    | c :: r => ren m c :: renL m r

theorem renL_get (m : Nat → Nat) : ∀ (cs : List AV) (j : Nat), (ren.renL m cs)[j]? = (cs[j]?).map (ren m)
  | [], _ => by simp [ren.renL]
  | c :: r, 0 => by simp [ren.renL]
  | c :: r, j + 1 => by simp only [ren.renL, List.getElem?_cons_succ]; exact renL_get m r j
theorem renL_length (m : Nat → Nat) : ∀ cs : List AV, (ren.renL m cs).length = cs.length
  | [] => rfl
  | c :: r => by simp [ren.renL, renL_length m r]

theorem ren_VR {E E' : Env} {m : Nat → Nat} (hF : ∀ a v, E.F a v → E'.F a v) (hkd : ∀ b, E.kd b ≠ 0 → E'.kd (m b) = E.kd b ∧ E'.bk (m b) = E.bk b ∧ (E.kd b = 2 → E'.tk (m b) = E.tk b)) {c : AV} {v : Value} (h : VR E c v) :
    VR E' (ren m c) v := by
  induction h with
  | non v => exact .non v
  | und => exact .und
  | int k n => exact .int k n
  | bool b => exact .bool b
  | str l => exact .str l
  | nilp => exact .nilp
  | nilf => exact .nilf
  | nilm => exact .nilm
  | cp cells a g h1 h2 => exact .cp cells a g (fun j c hj => hF _ _ (h1 j c hj)) (fun j c hj => (h2 j c hj).mono hF)
  | ptr b off g hk hb =>
    obtain ⟨k1, k2, _⟩ := hkd b (by rw [hk]; decide)
    exact .ptr _ off g (k1.trans hk) (k2.trans hb)
  | emp a => exact .emp a
  | sl s rows a cap g h0 h1 h2 hc => exact .sl s rows a cap g h0 (fun i row j c ad x y z => hF _ _ (h1 i row j c ad x y z)) (fun i row j c x y => (h2 i row j c x y).mono hF) hc
  | ow t e s rows a cap g h0 h1 h2 hk hn hv hc =>
    obtain ⟨k1, _, k3⟩ := hkd t (by rw [hk]; decide)
    have k4 := k3 hk
    exact .ow _ e s rows a cap g h0 (fun i row j c ad x y z => hF _ _ (h1 i row j c ad x y z)) (fun i row j c x y => (h2 i row j c x y).mono hF) (k1.trans hk) (by rw [k4]; exact hn) (by rw [k4]; exact hv) hc
  | agg cs vs hl _ ih => exact .agg _ vs (by rw [renL_length]; exact hl) (fun j c v hc hv => by
      rw [renL_get] at hc
      cases hx : cs[j]? with
      | none => rw [hx] at hc; cases hc
      | some d => rw [hx] at hc; injection hc with hc; subst hc; exact ih j d v hx hv)
  | tup cs vs hl _ ih => exact .tup _ vs (by rw [renL_length]; exact hl) (fun j c v hc hv => by
      rw [renL_get] at hc
      cases hx : cs[j]? with
      | none => rw [hx] at hc; cases hc
      | some d => rw [hx] at hc; injection hc with hc; subst hc; exact ih j d v hx hv)
  | fn f cs vs hl _ ih => exact .fn f _ vs (by rw [renL_length]; exact hl) (fun j c v hc hv => by
      rw [renL_get] at hc
      cases hx : cs[j]? with
      | none => rw [hx] at hc; cases hc
      | some d => rw [hx] at hc; injection hc with hc; subst hc; exact ih j d v hx hv)
  | mp b g hk hb =>
    obtain ⟨k1, k2, _⟩ := hkd b (by rw [hk]; decide)
    exact .mp _ g (k1.trans hk) (k2.trans hb)

/-- The caller's value may be handed over as the callee's. -/
inductive Arg (m : Nat → Nat) (n : Nat) : AV → AV → Prop where
  | non (c : AV) : Arg m n c .non
  | und : Arg m n .und .und
  | flat (c : AV) (h : c.flat = true) : Arg m n c c.low
  | emp (s : Nat) : Arg m n .emp (.sl s [])
  | ptr (b b' o : Nat) (h : b' < n) (hb : b = m b') : Arg m n (.ptr b o) (.ptr b' o)
  | mp (b b' : Nat) (h : b' < n) (hb : b = m b') : Arg m n (.mp b) (.mp b')
  | agg (cs ds : List AV) (hl : cs.length = ds.length) (h : ∀ (j : Nat) c d, cs[j]? = some c → ds[j]? = some d → Arg m n c d) : Arg m n (.agg cs) (.agg ds)
  | fn (f : Nat) (cs ds : List AV) (hl : cs.length = ds.length) (h : ∀ (j : Nat) c d, cs[j]? = some c → ds[j]? = some d → Arg m n c d) : Arg m n (.fn f cs) (.fn f ds)

theorem Arg.vr {E E' : Env} {m : Nat → Nat} {n : Nat} (hF : ∀ a v, E.F a v → E'.F a v) (hkd : ∀ b, b < n → E'.kd b = 1 ∧ E'.bk b = E.bk (m b)) {c d : AV} (h : Arg m n c d) : ∀ {v : Value}, VR E c v → VR E' d v := by
  induction h with
  | non c => exact fun _ => .non _
  | und => intro v hv; cases hv; exact .und
  | flat c h => intro v hv; exact ((hv.vi h).mono hF).vr
  | emp s => intro v hv; exact (Src.of_emp (E := E') (s := s) (by cases hv; exact .emp _)).sl
  | ptr b b' o h hb =>
    intro v hv
    cases hv with
    | ptr _ _ g hk hg =>
    subst hb
    obtain ⟨k1, k2⟩ := hkd b' h
    exact .ptr _ _ g k1 (k2.trans hg)
  | mp b b' h hb =>
    intro v hv
    cases hv with
    | mp _ g hk hg =>
    subst hb
    obtain ⟨k1, k2⟩ := hkd b' h
    exact .mp _ g k1 (k2.trans hg)
  | agg cs ds hl _ ih =>
    intro v hv
    obtain ⟨us, rfl, hu⟩ := hv.of_agg
    refine .agg ds us (by rw [hu.size]; exact hl) (fun j d u hd hu' => ?_)
    have hj : j < cs.length := by rw [hl]; exact (List.getElem?_eq_some_iff.1 hd).1
    have hc : cs[j]? = some cs[j] := List.getElem?_eq_getElem hj
    exact ih j _ d hc hd (hu.2 j _ u hc (by simpa using hu'))
  | fn f cs ds hl _ ih =>
    intro v hv
    cases hv with
    | fn f cs us hl' hu =>
    refine .fn f ds us (by rw [hl']; exact hl) (fun j d u hd hu' => ?_)
    have hj : j < cs.length := by rw [hl]; exact (List.getElem?_eq_some_iff.1 hd).1
    have hc : cs[j]? = some cs[j] := List.getElem?_eq_getElem hj
    exact ih j _ d hc hd (hu j _ u hc hu')

def Args (m : Nat → Nat) (n : Nat) (cs ds : List AV) : Prop := cs.length = ds.length ∧ ∀ (j : Nat) c d, cs[j]? = some c → ds[j]? = some d → Arg m n c d

theorem Args.nil {m : Nat → Nat} {n : Nat} : Args m n [] [] := ⟨rfl, fun j c d h => by simp at h⟩
theorem Args.cons {m : Nat → Nat} {n : Nat} {c d : AV} {cs ds : List AV} (h : Arg m n c d) (t : Args m n cs ds) : Args m n (c :: cs) (d :: ds) :=
  ⟨by simp [t.1], fun j x y hx hy => by
    cases j with
    | zero => simp at hx hy; subst hx; subst hy; exact h
    | succ j => exact t.2 j x y (by simpa using hx) (by simpa using hy)⟩
theorem Arg.aggs {m : Nat → Nat} {n : Nat} {cs ds : List AV} (h : Args m n cs ds) : Arg m n (.agg cs) (.agg ds) := .agg cs ds h.1 h.2
theorem Arg.fns {m : Nat → Nat} {n : Nat} {f : Nat} {cs ds : List AV} (h : Args m n cs ds) : Arg m n (.fn f cs) (.fn f ds) := .fn f cs ds h.1 h.2

theorem Args.vrs {E E' : Env} {m : Nat → Nat} {n : Nat} (hF : ∀ a v, E.F a v → E'.F a v) (hkd : ∀ b, b < n → E'.kd b = 1 ∧ E'.bk b = E.bk (m b)) {cs ds : List AV} (h : Args m n cs ds) {vs : List Value} (hv : VRs E cs vs) : VRs E' ds vs := by
  refine ⟨hv.1.trans h.1, fun j d v hd hvj => ?_⟩
  have hj : j < cs.length := by rw [h.1]; exact (List.getElem?_eq_some_iff.1 hd).1
  have hc : cs[j]? = some cs[j] := List.getElem?_eq_getElem hj
  exact (h.2 j _ d hc hd).vr hF hkd (hv.2 j _ v hc hvj)

/-- Cells of the blocks that are handed over, behind the call. -/
def backs (m m' : Nat → Nat) : Nat → Nat → List (List AV) → List (Nat × Nat × AV)
  | _, 0, _ => []
  | b, n + 1, H => writes (m b) 0 ((nthB H b).map (ren m')) ++ backs m m' (b + 1) n H

def newIds (m : Nat → Nat) (n base : Nat) (b : Nat) : Nat := if b < n then m b else base + (b - n)

/-- The keys of a block's cells. -/
def keysOf (m : Nat → Nat) : Nat → Nat → List (List AV) → List (Nat × Nat)
  | _, 0, _ => []
  | b, n + 1, H => ks (m b) 0 (nthB H b).length ++ keysOf m (b + 1) n H

end Go.Ab
