/- Calls, symbolically; one operation. -/
import Derived.Test.YtpgagefaneaioaaU3
namespace Go.Ab
open Go Go.RowKit
set_option linter.unusedVariables false
set_option linter.unusedSimpArgs false

/-! ### Values of a type, with loss of what owns them -/

/-- The second says what the first says, or less. -/
def Lo (c d : AV) : Prop := (c.flat = true ∧ c.low = d) ∨ (c = .emp ∧ ∃ s, d = .sl s [])
def LoL : List AV → List AV → Prop
  | [], [] => True
  | c :: cs, d :: ds => Lo c d ∧ LoL cs ds
  | _, _ => False
theorem Lo.arg {m : Nat → Nat} {n : Nat} {c d : AV} (h : Lo c d) : Arg m n c d := by
  rcases h with ⟨h, rfl⟩ | ⟨rfl, s, rfl⟩
  · exact .flat c h
  · exact .emp s
theorem Lo.wk {g : Nat → Nat} {n : Nat} {c d : AV} (h : Lo c d) : Wk g n c d := by
  rcases h with ⟨h, rfl⟩ | ⟨rfl, s, rfl⟩
  · exact .flat c h
  · exact .emp s
theorem LoL.args {m : Nat → Nat} {n : Nat} : ∀ {cs ds : List AV}, LoL cs ds → ArgsL m n cs ds
  | [], [], _ => trivial
  | c :: cs, d :: ds, h => ⟨h.1.arg, LoL.args h.2⟩
  | [], _ :: _, h => h.elim
  | _ :: _, [], h => h.elim
theorem LoL.wks {g : Nat → Nat} {n : Nat} : ∀ {cs ds : List AV}, LoL cs ds → WkL g n cs ds
  | [], [], _ => trivial
  | c :: cs, d :: ds, h => ⟨h.1.wk, LoL.wks h.2⟩
  | [], _ :: _, h => h.elim
  | _ :: _, [], h => h.elim
theorem LoL.app : ∀ {cs ds cs' ds' : List AV}, LoL cs ds → LoL cs' ds' → LoL (cs ++ cs') (ds ++ ds')
  | [], [], _, _, _, h => h
  | c :: cs, d :: ds, _, _, h, h' => ⟨h.1, LoL.app h.2 h'⟩
  | [], _ :: _, _, _, h, _ => h.elim
  | _ :: _, [], _, _, h, _ => h.elim
theorem LoL.len : ∀ {cs ds : List AV}, LoL cs ds → cs.length = ds.length
  | [], [], _ => rfl
  | c :: cs, d :: ds, h => by simp [LoL.len h.2]
  | [], _ :: _, h => h.elim
  | _ :: _, [], h => h.elim

def gtOne : (τ : Ty) → SV → Option τ.T
  | .list _, .emp => some []
  | τ, v => exOne τ v
theorem gtOne_lo {τ : Ty} {v : SV} {x : τ.T} (h : gtOne τ v = some x) : Lo v.av (oneA τ x) ∧ τ.enc x = [oneA τ x] := by
  unfold gtOne at h
  split at h
  · injection h with h; subst h; exact ⟨.inr ⟨rfl, _, rfl⟩, rfl⟩
  · obtain ⟨w1, w2, w3⟩ := exOne_av h; exact ⟨.inl ⟨w1, w2⟩, w3⟩

def gtCells : (τ : Ty) → List SV → Option (τ.T × List SV)
  | .unit, l => some ((), l)
  | .pair a b, l => match gtCells a l with
    | some (x, l') => match gtCells b l' with
      | some (y, l'') => some ((x, y), l'')
      | none => none
    | none => none
  | .int k, v :: l => wl (gtOne (.int k) v) l
  | .bool, v :: l => wl (gtOne .bool v) l
  | .str, v :: l => wl (gtOne .str v) l
  | .list a, v :: l => wl (gtOne (.list a) v) l
  | _, _ => none
theorem gtCells_one {τ : Ty} {v : SV} {l l' : List SV} {x : τ.T} (h : wl (gtOne τ v) l = some (x, l')) : ∃ p, (v :: l) = p ++ l' ∧ LoL (avL p) (τ.enc x) := by
  cases q : gtOne τ v with
  | none => rw [q] at h; cases h
  | some y =>
    rw [q] at h
    injection h with h
    injection h with h1 h2
    subst h1; subst h2
    obtain ⟨w1, w2⟩ := gtOne_lo q
    exact ⟨[v], rfl, by rw [w2]; exact ⟨w1, trivial⟩⟩
theorem gtCells_lo : ∀ {τ : Ty} {l l' : List SV} {x : τ.T}, gtCells τ l = some (x, l') → ∃ p, l = p ++ l' ∧ LoL (avL p) (τ.enc x)
  | .unit, l, l', x, h => by
    simp only [gtCells, Option.some.injEq, Prod.mk.injEq] at h
    exact ⟨[], by simp [h.2], trivial⟩
  | .pair a b, l, l', x, h => by
    simp only [gtCells] at h
    split at h
    · rename_i y l1 q1
      split at h
      · rename_i z l2 q2
        injection h with h
        injection h with h1 h2
        subst h1; subst h2
        obtain ⟨p1, w1, w2⟩ := gtCells_lo q1
        obtain ⟨p2, v1, v2⟩ := gtCells_lo q2
        refine ⟨p1 ++ p2, by rw [w1, v1, List.append_assoc], ?_⟩
        rw [avL_app]; exact w2.app v2
      · cases h
    · cases h
  | .int k, [], l', x, h => by cases h
  | .int k, v :: l, l', x, h => by simp only [gtCells] at h; exact gtCells_one h
  | .bool, [], l', x, h => by cases h
  | .bool, v :: l, l', x, h => by simp only [gtCells] at h; exact gtCells_one h
  | .str, [], l', x, h => by cases h
  | .str, v :: l, l', x, h => by simp only [gtCells] at h; exact gtCells_one h
  | .list a, [], l', x, h => by cases h
  | .list a, v :: l, l', x, h => by simp only [gtCells] at h; exact gtCells_one h

def gtRow (τ : Ty) (l : List SV) : Option τ.T := match gtCells τ l with
  | some (x, []) => some x
  | _ => none
theorem gtRow_lo {τ : Ty} {l : List SV} {x : τ.T} (h : gtRow τ l = some x) : LoL (avL l) (τ.enc x) := by
  unfold gtRow at h
  split at h
  · rename_i y q
    injection h with h
    subst h
    obtain ⟨p, w1, w2⟩ := gtCells_lo q
    rw [List.append_nil] at w1
    subst w1
    exact w2
  · cases h
theorem gtRow_len {τ : Ty} {l : List SV} {x : τ.T} (h : gtRow τ l = some x) : l.length = τ.size := by
  have := (gtRow_lo h).len
  rwa [avL_length, Ty.enc_length] at this

inductive VT where
  | one (τ : Ty)
  | agg (τ : Ty)
@[reducible] def VT.ty : VT → Ty
  | .one τ => τ
  | .agg τ => τ
def VT.sv : (v : VT) → v.ty.T → SV
  | .one τ, x => oneS τ x
  | .agg τ, x => .agg (τ.svs x)
def VT.get : (v : VT) → SV → Option v.ty.T
  | .one τ, s => gtOne τ s
  | .agg τ, s => match s with
    | .agg cs => gtRow τ cs
    | _ => none
theorem VT.get_arg {m : Nat → Nat} {n : Nat} : ∀ {v : VT} {s : SV} {x : v.ty.T}, v.get s = some x → Arg m n s.av (v.sv x).av
  | .one τ, s, x, h => by
    show Arg m n s.av (oneS τ x).av
    rw [oneS_av]; exact (gtOne_lo h).1.arg
  | .agg τ, s, x, h => by
    cases s <;> simp only [VT.get] at h <;> first | (cases h; done) | skip
    show Arg m n (.agg (avL _)) (.agg (avL (τ.svs x)))
    rw [τ.svs_av]; exact .aggs (gtRow_lo h).args.args
theorem VT.get_wk {g : Nat → Nat} {n : Nat} : ∀ {v : VT} {s : SV} {x : v.ty.T}, v.get s = some x → Wk g n s.av (v.sv x).av
  | .one τ, s, x, h => by
    show Wk g n s.av (oneS τ x).av
    rw [oneS_av]; exact (gtOne_lo h).1.wk
  | .agg τ, s, x, h => by
    cases s <;> simp only [VT.get] at h <;> first | (cases h; done) | skip
    show Wk g n (.agg (avL _)) (.agg (avL (τ.svs x)))
    rw [τ.svs_av]; exact wk_agg (gtRow_lo h).wks

/-! ### Contracts of callees -/

def tupT : List Ty → Ty
  | [] => .unit
  | a :: r => .pair a (tupT r)

inductive PK where
  | val (v : VT)
  | ptr (i : Nat)
  | fn (f : Nat) (caps : List Nat)
  | any
@[reducible] def PK.tys : List PK → List Ty
  | [] => []
  | .val v :: r => v.ty :: PK.tys r
  | .ptr _ :: r => PK.tys r
  | .fn _ _ :: r => PK.tys r
  | .any :: r => PK.tys r
/-- Blocks that are handed over: data, or a pointer to the block of a number. -/
inductive BK where
  | dat (τ : Ty)
  | ref (i : Nat)
@[reducible] def BK.tys : List BK → List Ty
  | [] => []
  | .dat τ :: r => τ :: BK.tys r
  | .ref _ :: r => BK.tys r
inductive RK where
  | val (v : VT)
  | own (e : Nat) (τ : Ty)
  | ptr (τ : Ty)
@[reducible] def RK.ty : RK → Ty
  | .val v => v.ty
  | .own _ τ => .list τ
  | .ptr τ => .pair .bool τ
@[reducible] def RK.tys : List RK → List Ty
  | [] => []
  | k :: r => k.ty :: RK.tys r

def ptrsS (caps : List Nat) : List SV := caps.map fun i => .ptr i 0
def argsS : (ps : List PK) → (tupT (PK.tys ps)).T → List SV
  | [], _ => []
  | .val v :: r, x => v.sv x.1 :: argsS r x.2
  | .ptr i :: r, x => .ptr i 0 :: argsS r x
  | .fn f caps :: r, x => .fn f (ptrsS caps) :: argsS r x
  | .any :: r, x => .non :: argsS r x
def blocksS (g : Nat → Nat) : (bl : List BK) → (tupT (BK.tys bl)).T → List (List SV)
  | [], _ => []
  | .dat τ :: r, x => τ.svs x.1 :: blocksS g r x.2
  | .ref i :: r, x => [.ptr (g i) 0] :: blocksS g r x
def resS : Nat → (rs : List RK) → (tupT (RK.tys rs)).T → List SV
  | _, [], _ => []
  | n, .val v :: r, x => v.sv x.1 :: resS n r x.2
  | n, .own e τ :: r, x => .ow n e τ x.1 :: resS (n + 1) r x.2
  | n, .ptr τ :: r, x => bif x.1.1 then .ptr n 0 :: resS (n + 1) r x.2 else .nilp :: resS n r x.2
def newsS : (rs : List RK) → (tupT (RK.tys rs)).T → List (List SV)
  | [], _ => []
  | .val _ :: r, x => newsS r x.2
  | .own _ τ :: r, x => [.tok (List.length (α := τ.T) x.1)] :: newsS r x.2
  | .ptr τ :: r, x => bif x.1.1 then τ.svs x.1.2 :: newsS r x.2 else newsS r x.2
def singS : List SV → SV
  | [c] => c
  | cs => .tup cs
theorem singS_av : ∀ l : List SV, (singS l).av = sing (avL l)
  | [] => rfl
  | [c] => rfl
  | c :: d :: r => rfl
theorem blocksS_length (g : Nat → Nat) : ∀ (bl : List BK) (x : (tupT (BK.tys bl)).T), (blocksS g bl x).length = bl.length
  | [], _ => rfl
  | .dat τ :: r, x => by simp [blocksS, blocksS_length g r]
  | .ref i :: r, x => by simp [blocksS, blocksS_length g r]

structure Callee where
  f : Nat
  ps : List PK
  bl : List BK
  rs : List RK
  /-- whether it is to be tried as one that hands its blocks back as they were -/
  ro : Bool
  fn : (tupT (PK.tys ps)).T → (tupT (BK.tys bl)).T → Option ((tupT (RK.tys rs)).T × (tupT (BK.tys bl)).T)

def Callee.ok (P : Program) (c : Callee) : Prop := Callable P c.f ∧ ∀ x y r y', c.fn x y = some (r, y') →
  Meets P c.f ((blocksS id c.bl y).map avL) (avL (argsS c.ps x)) (sing (avL (resS c.bl.length c.rs r))) ((blocksS id c.bl y' ++ newsS c.rs r).map avL)

/-! ### What is handed over -/

def capsOk : List Nat → List SV → List Nat → Bool
  | [], [], _ => true
  | i :: r, .ptr b o :: as, ms => decide (i < ms.length) && decide (b = nthN ms i) && decide (o = 0) && capsOk r as ms
  | _, _, _ => false
def argsOk : List PK → List SV → List Nat → Bool
  | [], [], _ => true
  | .val _ :: r, _ :: as, ms => argsOk r as ms
  | .ptr i :: r, .ptr b o :: as, ms => decide (i < ms.length) && decide (b = nthN ms i) && decide (o = 0) && argsOk r as ms
  | .fn f caps :: r, .fn f' cs :: as, ms => decide (f' = f) && capsOk caps cs ms && argsOk r as ms
  | .any :: r, _ :: as, ms => argsOk r as ms
  | _, _, _ => false
def getVals : (ps : List PK) → List SV → Option (tupT (PK.tys ps)).T
  | [], _ => some ()
  | .val v :: r, a :: as => match v.get a with
    | some x => match getVals r as with
      | some y => some (x, y)
      | none => none
    | none => none
  | .val _ :: _, [] => none
  | .ptr _ :: r, as => getVals r as.tail
  | .fn _ _ :: r, as => getVals r as.tail
  | .any :: r, as => getVals r as.tail

theorem capsOk_args : ∀ (caps : List Nat) (as : List SV) (ms : List Nat), capsOk caps as ms = true → ArgsL (nthN ms) ms.length (avL as) (avL (ptrsS caps))
  | [], [], _, _ => trivial
  | i :: r, .ptr b o :: as, ms, h => by
    simp only [capsOk, Bool.and_eq_true, decide_eq_true_eq] at h
    obtain ⟨⟨⟨h1, h2⟩, h3⟩, h4⟩ := h
    exact ⟨arg_ptr h3 h1 h2, capsOk_args r as ms h4⟩
  | [], _ :: _, _, h => by cases h
  | _ :: _, [], _, h => by cases h
  | i :: r, v :: as, ms, h => by
    cases v <;> first | (simp [capsOk] at h; done) | skip
    simp only [capsOk, Bool.and_eq_true, decide_eq_true_eq] at h
    obtain ⟨⟨⟨h1, h2⟩, h3⟩, h4⟩ := h
    exact ⟨arg_ptr h3 h1 h2, capsOk_args r as ms h4⟩
theorem argsOk_args : ∀ (ps : List PK) (as : List SV) (ms : List Nat) (x : (tupT (PK.tys ps)).T), argsOk ps as ms = true → getVals ps as = some x → ArgsL (nthN ms) ms.length (avL as) (avL (argsS ps x))
  | [], [], _, _, _, _ => trivial
  | [], _ :: _, _, _, h, _ => by cases h
  | .val v :: r, [], _, _, h, _ => by cases h
  | .val v :: r, a :: as, ms, x, h, h2 => by
    simp only [argsOk] at h
    simp only [getVals] at h2
    split at h2
    · rename_i y q
      split at h2
      · rename_i z q2
        injection h2 with h2
        subst h2
        exact ⟨VT.get_arg q, argsOk_args r as ms z h q2⟩
      · cases h2
    · cases h2
  | .ptr i :: r, as, ms, x, h, h2 => by
    cases as with
    | nil => cases h
    | cons a as =>
    cases a <;> first | (simp [argsOk] at h; done) | skip
    simp only [argsOk, Bool.and_eq_true, decide_eq_true_eq] at h
    obtain ⟨⟨⟨h1, h2'⟩, h3⟩, h4⟩ := h
    exact ⟨arg_ptr h3 h1 h2', argsOk_args r as ms x h4 h2⟩
  | .fn f caps :: r, as, ms, x, h, h2 => by
    cases as with
    | nil => cases h
    | cons a as =>
    cases a <;> first | (simp [argsOk] at h; done) | skip
    simp only [argsOk, Bool.and_eq_true, decide_eq_true_eq] at h
    obtain ⟨⟨h1, h3⟩, h4⟩ := h
    subst h1
    exact ⟨arg_fn (capsOk_args _ _ _ h3), argsOk_args r as ms x h4 h2⟩
  | .any :: r, as, ms, x, h, h2 => by
    cases as with
    | nil => cases h
    | cons a as =>
    exact ⟨.non _, argsOk_args r as ms x h h2⟩

/-- The caller's numbers of the blocks that are handed over. -/
def findC (i : Nat) : List Nat → List SV → Option Nat
  | j :: r, .ptr b _ :: as => if j = i then some b else findC i r as
  | _ :: r, _ :: as => findC i r as
  | _, _ => none
def findB (i : Nat) : List PK → List SV → Option Nat
  | .ptr j :: r, .ptr b _ :: as => if j = i then some b else findB i r as
  | .fn _ caps :: r, .fn _ cs :: as => match findC i caps cs with
    | some b => some b
    | none => findB i r as
  | _ :: r, _ :: as => findB i r as
  | _, _ => none
def findRef (i : Nat) : List BK → List (Option Nat) → List (List SV) → Option Nat
  | .ref j :: r, some b :: os, H => if j = i then (match nthS (nthSB H b) 0 with
    | .ptr b' _ => some b'
    | _ => none) else findRef i r os H
  | _ :: r, _ :: os, H => findRef i r os H
  | _, _, _ => none
def ms1 (ps : List PK) (as : List SV) : Nat → Nat → List (Option Nat)
  | _, 0 => []
  | i, n + 1 => findB i ps as :: ms1 ps as (i + 1) n
def ms2 (bl : List BK) (l1 : List (Option Nat)) (H : List (List SV)) : Nat → List (Option Nat) → List Nat
  | _, [] => []
  | i, some b :: r => b :: ms2 bl l1 H (i + 1) r
  | i, none :: r => (findRef i bl l1 H).getD 0 :: ms2 bl l1 H (i + 1) r
def msOf (ps : List PK) (as : List SV) (bl : List BK) (H : List (List SV)) : List Nat := ms2 bl (ms1 ps as 0 bl.length) H 0 (ms1 ps as 0 bl.length)

def isRef : List SV → Nat → Bool
  | [.ptr b o], t => decide (b = t) && decide (o = 0)
  | _, _ => false
theorem isRef_eq {l : List SV} {t : Nat} (h : isRef l t = true) : l = [.ptr t 0] := by
  unfold isRef at h
  split at h
  · simp only [Bool.and_eq_true, decide_eq_true_eq] at h
    obtain ⟨rfl, rfl⟩ := h
    rfl
  · cases h
def getBlks (msF : List Nat) : (bl : List BK) → List Nat → List (List SV) → Option (tupT (BK.tys bl)).T
  | [], [], _ => some ()
  | .dat τ :: r, b :: ms, H => if b < H.length ∧ 0 < τ.size ∧ allS AV.plain (nthSB H b) = true then (match gtRow τ (nthSB H b) with
    | some x => match getBlks msF r ms H with
      | some y => some (x, y)
      | none => none
    | none => none) else none
  | .ref i :: r, b :: ms, H => if b < H.length ∧ i < msF.length ∧ isRef (nthSB H b) (nthN msF i) = true then getBlks msF r ms H else none
  | [], _ :: _, _ => none
  | .dat _ :: _, [], _ => none
  | .ref _ :: _, [], _ => none

theorem enc_notNon : ∀ (τ : Ty) (x : τ.T), allB notNon (τ.enc x) = true
  | .int _, _ => rfl
  | .bool, _ => rfl
  | .str, _ => rfl
  | .unit, _ => rfl
  | .pair a b, x => by
    show allB notNon (a.enc x.1 ++ b.enc x.2) = true
    rw [allB_append, enc_notNon a, enc_notNon b]; rfl
  | .list _, _ => rfl

theorem getBlks_hand {msF : List Nat} (ex : List (List AV)) : ∀ (bl : List BK) (ms : List Nat) (H : List (List SV)) (y y' : (tupT (BK.tys bl)).T), getBlks msF bl ms H = some y →
    handL (nthN msF) msF.length (H.map avL) ms ((blocksS id bl y).map avL) ((blocksS id bl y').map avL ++ ex) ∧ ms.length = bl.length
  | [], [], _, _, _, _ => ⟨trivial, rfl⟩
  | [], _ :: _, _, _, _, h => by cases h
  | .dat _ :: _, [], _, _, _, h => by cases h
  | .ref _ :: _, [], _, _, _, h => by cases h
  | .dat τ :: r, b :: ms, H, y, y', h => by
    simp only [getBlks] at h
    replace h := Option.ite_none_right_eq_some.1 h
    obtain ⟨⟨h1, h2, h3⟩, h⟩ := h
    split at h
    · rename_i x q
      split at h
      · rename_i z q2
        injection h with h
        subst h
        obtain ⟨w1, w2⟩ := getBlks_hand ex r ms H z y'.2 q2
        refine ⟨⟨⟨by rw [List.length_map]; exact h1, ?_, ?_, ?_, ?_⟩, ?_, w1⟩, by simp [w2]⟩
        · rw [nthSB_av, avL_length, gtRow_len q]; exact h2
        · rw [nthSB_av, allS_av]; exact h3
        · show (avL (τ.svs y'.1)).length = _
          rw [nthSB_av, avL_length (nthSB H b), gtRow_len q, τ.svs_av, Ty.enc_length]
        · show allB notNon (avL (τ.svs y'.1)) = true
          rw [τ.svs_av]; exact enc_notNon _ _
        · show ArgsL _ _ (nthB (H.map avL) b) (avL (τ.svs x))
          rw [nthSB_av, τ.svs_av]; exact (gtRow_lo q).args
      · cases h
    · cases h
  | .ref i :: r, b :: ms, H, y, y', h => by
    simp only [getBlks] at h
    replace h := Option.ite_none_right_eq_some.1 h
    obtain ⟨⟨h1, h2, h3⟩, h⟩ := h
    obtain ⟨w1, w2⟩ := getBlks_hand ex r ms H y y' h
    have e := isRef_eq h3
    refine ⟨⟨⟨by rw [List.length_map]; exact h1, ?_, ?_, ?_, rfl⟩, ?_, w1⟩, by simp [w2]⟩
    · rw [nthSB_av, e]; exact Nat.zero_lt_one
    · rw [nthSB_av, e]; rfl
    · rw [nthSB_av, e]; rfl
    · rw [nthSB_av, e]; exact ⟨arg_ptr rfl h2 rfl, trivial⟩

/-! ### What comes back -/

theorem renL_eq (m : Nat → Nat) (l : List AV) : ren.renL m l = l.map (ren m) := by
  induction l with
  | nil => rfl
  | cons c r ih => simp only [ren.renL, List.map_cons, ih]
theorem enc_ren (m : Nat → Nat) : ∀ (τ : Ty) (x : τ.T), (τ.enc x).map (ren m) = τ.enc x
  | .int _, _ => rfl
  | .bool, _ => rfl
  | .str, _ => rfl
  | .unit, _ => rfl
  | .pair a b, x => by
    show (a.enc x.1 ++ b.enc x.2).map (ren m) = _
    rw [List.map_append, enc_ren m a, enc_ren m b]; rfl
  | .list _, _ => rfl
theorem oneA_ren (m : Nat → Nat) : ∀ (τ : Ty) (x : τ.T), ren m (oneA τ x) = oneA τ x
  | .int _, _ => rfl
  | .bool, _ => rfl
  | .str, _ => rfl
  | .unit, _ => rfl
  | .pair _ _, _ => rfl
  | .list _, _ => rfl
theorem VT.sv_ren (m : Nat → Nat) : ∀ (v : VT) (x : v.ty.T), ren m (v.sv x).av = (v.sv x).av
  | .one τ, x => by
    show ren m (oneS τ x).av = (oneS τ x).av
    rw [oneS_av, oneA_ren]
  | .agg τ, x => by
    show ren m (.agg (avL (τ.svs x))) = .agg (avL (τ.svs x))
    simp only [ren, renL_eq, τ.svs_av, enc_ren]
theorem resS_ren (mm : Nat → Nat) (n0 base : Nat) : ∀ (rs : List RK) (x : (tupT (RK.tys rs)).T) (j : Nat), (avL (resS (n0 + j) rs x)).map (ren (newIds mm n0 base)) = avL (resS (base + j) rs x)
  | [], _, _ => rfl
  | .val v :: r, x, j => by
    show ren _ (v.sv x.1).av :: (avL (resS (n0 + j) r x.2)).map _ = (v.sv x.1).av :: avL (resS (base + j) r x.2)
    rw [VT.sv_ren, resS_ren mm n0 base r]
  | .own e τ :: r, x, j => by
    show ren _ (SV.ow (n0 + j) e τ x.1).av :: (avL (resS (n0 + j + 1) r x.2)).map _ = (SV.ow (base + j) e τ x.1).av :: avL (resS (base + j + 1) r x.2)
    rw [Nat.add_assoc, Nat.add_assoc, resS_ren mm n0 base r]
    simp only [SV.av, ren, newIds]
    rw [if_neg (by omega)]
    rw [show base + (n0 + j - n0) = base + j by omega]
  | .ptr τ :: r, x, j => by
    simp only [resS]
    cases x.1.1
    · show ren _ AV.nilp :: (avL (resS (n0 + j) r x.2)).map _ = AV.nilp :: avL (resS (base + j) r x.2)
      rw [resS_ren mm n0 base r]; rfl
    · show ren _ (AV.ptr (n0 + j) 0) :: (avL (resS (n0 + j + 1) r x.2)).map _ = AV.ptr (base + j) 0 :: avL (resS (base + j + 1) r x.2)
      rw [Nat.add_assoc, Nat.add_assoc, resS_ren mm n0 base r]
      simp only [ren, newIds]
      rw [if_neg (by omega)]
      rw [show base + (n0 + j - n0) = base + j by omega]
theorem sing_ren (m : Nat → Nat) : ∀ l : List AV, ren m (sing l) = sing (l.map (ren m))
  | [] => rfl
  | [c] => rfl
  | c :: d :: r => by simp only [sing, ren, renL_eq, List.map_cons]
theorem newsS_ren (m : Nat → Nat) : ∀ (rs : List RK) (x : (tupT (RK.tys rs)).T), ((newsS rs x).map avL).map (fun l => l.map (ren m)) = (newsS rs x).map avL
  | [], _ => rfl
  | .val v :: r, x => newsS_ren m r x.2
  | .own e τ :: r, x => by
    show _ :: _ = _ :: _
    rw [newsS_ren m r x.2]; rfl
  | .ptr τ :: r, x => by
    simp only [newsS]
    cases x.1.1
    · exact newsS_ren m r x.2
    · show (avL (τ.svs x.1.2)).map (ren m) :: _ = avL (τ.svs x.1.2) :: _
      rw [newsS_ren m r x.2, τ.svs_av, enc_ren]

def backsI (ms : List Nat) (Bs : List (List SV)) : Nat → Nat → List (Nat × Nat × SV)
  | _, 0 => []
  | b, n + 1 => writesS (nthN ms b) 0 (nthSB Bs b) ++ backsI ms Bs (b + 1) n
def keysI (ms : List Nat) (Bs : List (List SV)) : Nat → Nat → List (Nat × Nat)
  | _, 0 => []
  | b, n + 1 => ks (nthN ms b) 0 (nthSB Bs b).length ++ keysI ms Bs (b + 1) n
theorem backsI_av (ms : List Nat) (m' : Nat → Nat) (Bs Bs' : List (List SV)) (h : ∀ b, (avL (nthSB Bs b)).map (ren m') = avL (nthSB Bs' b)) : ∀ (n b : Nat), (backsI ms Bs' b n).map wav = backs (nthN ms) m' b n (Bs.map avL)
  | 0, _ => rfl
  | n + 1, b => by
    simp only [backsI, backs, List.map_append, writesS_av, backsI_av ms m' Bs Bs' h n, nthSB_av, h]
theorem keysI_av (ms : List Nat) (Bs : List (List SV)) : ∀ (n b : Nat), keysI ms Bs b n = keysOf (nthN ms) b n (Bs.map avL)
  | 0, _ => rfl
  | n + 1, b => by simp only [keysI, keysOf, keysI_av ms Bs n, nthSB_av, avL_length]
def refsIn (n : Nat) : List BK → Bool
  | [] => true
  | .dat _ :: r => refsIn n r
  | .ref i :: r => decide (i < n) && refsIn n r
theorem blocks_ren (mm : Nat → Nat) (n base : Nat) : ∀ (bl : List BK) (y : (tupT (BK.tys bl)).T) (b : Nat), refsIn n bl = true → (avL (nthSB (blocksS id bl y) b)).map (ren (newIds mm n base)) = avL (nthSB (blocksS mm bl y) b)
  | [], _, _, _ => rfl
  | .dat τ :: r, y, 0, _ => by
    show (avL (τ.svs y.1)).map _ = avL (τ.svs y.1)
    rw [τ.svs_av, enc_ren]
  | .dat τ :: r, y, b + 1, h => blocks_ren mm n base r y.2 b h
  | .ref i :: r, y, 0, h => by
    simp only [refsIn, Bool.and_eq_true, decide_eq_true_eq] at h
    show [ren (newIds mm n base) (.ptr i 0)] = [AV.ptr (mm i) 0]
    simp only [ren, newIds, if_pos h.1]
  | .ref i :: r, y, b + 1, h => by
    simp only [refsIn, Bool.and_eq_true] at h
    exact blocks_ren mm n base r y b h.2
theorem news_ren (m : Nat → Nat) : ∀ (rs : List RK) (x : (tupT (RK.tys rs)).T) (b : Nat), (avL (nthSB (newsS rs x) b)).map (ren m) = avL (nthSB (newsS rs x) b) := fun rs x b => by
  have h := newsS_ren m rs x
  have e : ∀ (L : List (List SV)), (L.map avL).map (fun l => l.map (ren m)) = L.map avL → ∀ b, (avL (nthSB L b)).map (ren m) = avL (nthSB L b) := by
    intro L
    induction L with
    | nil => intro _ b; rfl
    | cons l L ih =>
      intro h b
      simp only [List.map_cons, List.cons.injEq] at h
      cases b with
      | zero => exact h.1
      | succ b => exact ih h.2 b
  exact e _ h b
theorem nthSB_cat : ∀ (A B : List (List SV)) (b : Nat), nthSB (A ++ B) b = if b < A.length then nthSB A b else nthSB B (b - A.length)
  | [], B, b => by simp
  | l :: r, B, 0 => by simp [nthSB]
  | l :: r, B, b + 1 => by simp [nthSB, nthSB_cat r B b]

section
variable {ρ : Type}

/-- Pointers among the results are looked at once. -/
def brP : (rs : List RK) → (tupT (RK.tys rs)).T → ((tupT (RK.tys rs)).T → Tr ρ) → Tr ρ
  | [], _, k => k ()
  | .val _ :: r, x, k => brP r x.2 fun y => k (x.1, y)
  | .own _ _ :: r, x, k => brP r x.2 fun y => k (x.1, y)
  | .ptr _ :: r, x, k => .br x.1.1 (brP r x.2 fun y => k ((true, x.1.2), y)) (brP r x.2 fun y => k ((false, x.1.2), y))
theorem brP_ok {r : ρ} : ∀ (rs : List RK) (x : (tupT (RK.tys rs)).T) (k : (tupT (RK.tys rs)).T → Tr ρ), (brP rs x k).run = some r → (k x).run = some r
  | [], _, _, h => h
  | .val _ :: l, x, k, h => brP_ok l x.2 _ h
  | .own _ _ :: l, x, k, h => brP_ok l x.2 _ h
  | .ptr _ :: l, x, k, h => by
    obtain ⟨h1, h2⟩ := run_br h
    obtain ⟨⟨a, b⟩, y⟩ := x
    cases a with
    | true => exact brP_ok l _ _ (h1 rfl)
    | false => exact brP_ok l _ _ (h2 rfl)

/-- Whether two values of a type are the same. -/
def Ty.eqb : (τ : Ty) → τ.T → τ.T → Bool
  | .int _, x, y => decide ((show Int from x) = y)
  | .bool, x, y => decide ((show Bool from x) = y)
  | .str, x, y => decide ((show List UInt8 from x) = y)
  | .unit, _, _ => true
  | .pair a b, x, y => a.eqb x.1 y.1 && b.eqb x.2 y.2
  | .list a, x, y => eqbL a.eqb x y
where eqbL {α : Type} (f : α → α → Bool) : List α → List α → Bool
  | [], [] => true
  | x :: l, y :: m => f x y && eqbL f l m
  | _, _ => false
theorem eqbL_eq {α : Type} {f : α → α → Bool} (hf : ∀ x y, f x y = true → x = y) : ∀ (l m : List α), Ty.eqb.eqbL f l m = true → l = m
  | [], [], _ => rfl
  | x :: l, y :: m, h => by
    simp only [Ty.eqb.eqbL, Bool.and_eq_true] at h
    rw [hf x y h.1, eqbL_eq hf l m h.2]
  | [], _ :: _, h => by cases h
  | _ :: _, [], h => by cases h
theorem eqb_eq : ∀ {τ : Ty} {x y : τ.T}, τ.eqb x y = true → x = y
  | .int _, x, y, h => of_decide_eq_true h
  | .bool, x, y, h => of_decide_eq_true h
  | .str, x, y, h => of_decide_eq_true h
  | .unit, _, _, _ => rfl
  | .pair a b, x, y, h => by
    simp only [Ty.eqb, Bool.and_eq_true] at h
    exact Prod.ext (eqb_eq h.1) (eqb_eq h.2)
  | .list a, x, y, h => eqbL_eq (fun _ _ h => eqb_eq h) x y h
theorem eqbL_self {α : Type} {f : α → α → Bool} (hf : ∀ x, f x x = true) : ∀ (l : List α), Ty.eqb.eqbL f l l = true
  | [] => rfl
  | x :: l => by simp only [Ty.eqb.eqbL, hf x, eqbL_self hf l, Bool.and_self]
theorem eqb_self : ∀ (τ : Ty) (x : τ.T), τ.eqb x x = true
  | .int _, x => decide_eq_true rfl
  | .bool, x => decide_eq_true rfl
  | .str, x => decide_eq_true rfl
  | .unit, _ => rfl
  | .pair a b, x => by simp only [Ty.eqb, eqb_self a, eqb_self b, Bool.and_self]
  | .list a, x => eqbL_self (eqb_self a) x

/-- Cells that lose nothing when they are handed over. -/
def stab : AV → Bool
  | .ow .. => false
  | .emp => false
  | _ => true
theorem Lo.eq {c d : AV} (h : Lo c d) (hs : stab c = true) : c = d := by
  rcases h with ⟨h1, rfl⟩ | ⟨rfl, _⟩
  · cases c <;> first | rfl | cases hs
  · cases hs
theorem LoL.eq : ∀ {cs ds : List AV}, LoL cs ds → allB stab cs = true → cs = ds
  | [], [], _, _ => rfl
  | c :: cs, d :: ds, h, h2 => by
    simp only [allB, Bool.and_eq_true] at h2
    rw [h.1.eq h2.1, LoL.eq h.2 h2.2]
  | [], _ :: _, h, _ => h.elim
  | _ :: _, [], h, _ => h.elim
def roB : List BK → List Nat → List (List SV) → Bool
  | [], _, _ => true
  | .dat _ :: r, b :: ms, H => allS stab (nthSB H b) && roB r ms H
  | _, _, _ => false
theorem roB_ok {msF : List Nat} : ∀ {bl : List BK} {ms : List Nat} {H : List (List SV)} {y : (tupT (BK.tys bl)).T}, getBlks msF bl ms H = some y → roB bl ms H = true →
    ∀ b, b < bl.length → avL (nthSB H (nthN ms b)) = avL (nthSB (blocksS id bl y) b)
  | [], _, _, _, _, _, b, hb => absurd hb (Nat.not_lt_zero b)
  | .dat τ :: r, m :: ms, H, y, h, h2, b, hb => by
    simp only [getBlks] at h
    replace h := Option.ite_none_right_eq_some.1 h
    obtain ⟨_, h⟩ := h
    split at h <;> first | (cases h; done) | skip
    rename_i x qx
    split at h <;> first | (cases h; done) | skip
    rename_i y' qy
    injection h with h
    subst h
    simp only [roB, Bool.and_eq_true] at h2
    cases b with
    | zero =>
      show avL (nthSB H m) = avL (τ.svs x)
      rw [τ.svs_av]
      exact (gtRow_lo qx).eq (by rw [allS_av]; exact h2.1)
    | succ b => exact roB_ok (b := b) qy h2.2 (by simpa using hb)
  | .ref i :: r, m :: ms, H, y, h, h2, b, hb => by cases h2
  | .dat _ :: _, [], _, _, h, _, _, _ => by cases h
  | .ref _ :: _, [], _, _, h, _, _, _ => by cases h

theorem roB_blocks (g : Nat → Nat) : ∀ {bl : List BK} {ms : List Nat} {H : List (List SV)} (y : (tupT (BK.tys bl)).T), roB bl ms H = true → blocksS g bl y = blocksS id bl y
  | [], _, _, _, _ => rfl
  | .dat τ :: r, m :: ms, H, y, h => by
    simp only [roB, Bool.and_eq_true] at h
    show _ :: _ = _ :: _
    rw [roB_blocks g y.2 h.2]
  | .ref i :: r, m :: ms, H, y, h => by cases h
  | .dat _ :: _, [], _, _, h => by cases h
  | .ref _ :: _, [], _, _, h => by cases h

def xcall : List Callee → SSt → Option Nat → Nat → List SV → (SEff → List (Nat × Nat) → Tr ρ) → Tr ρ
  | [], _, _, _, _, _ => .fail
  | c :: C, s, dst, f, acts, k =>
    if c.f = f ∧ argsOk c.ps acts (msOf c.ps acts c.bl s.heap) = true then (match getVals c.ps acts with
      | some x => match getBlks (msOf c.ps acts c.bl s.heap) c.bl (msOf c.ps acts c.bl s.heap) s.heap with
        | some y => if distinct (msOf c.ps acts c.bl s.heap) = true ∧ refsIn c.bl.length c.bl = true then (if c.ro = true ∧ roB c.bl (msOf c.ps acts c.bl s.heap) s.heap = true then
            .bind (.pair (tupT (RK.tys c.rs)) (tupT (BK.tys c.bl))) (c.fn x y) fun z => .req ((tupT (BK.tys c.bl)).eqb z.2 y) (brP c.rs z.1 fun z1 =>
            k ⟨dst, singS (resS s.heap.length c.rs z1), [], s.heap.length, newsS c.rs z1⟩ (keysI (msOf c.ps acts c.bl s.heap) (blocksS id c.bl y) 0 c.bl.length))
          else .bind (.pair (tupT (RK.tys c.rs)) (tupT (BK.tys c.bl))) (c.fn x y) fun z => brP c.rs z.1 fun z1 =>
            k ⟨dst, singS (resS s.heap.length c.rs z1), backsI (msOf c.ps acts c.bl s.heap) (blocksS (nthN (msOf c.ps acts c.bl s.heap)) c.bl z.2) 0 c.bl.length, s.heap.length, newsS c.rs z1⟩ (keysI (msOf c.ps acts c.bl s.heap) (blocksS id c.bl y) 0 c.bl.length)) else .fail
        | none => .fail
      | none => .fail)
    else xcall C s dst f acts k

theorem backsI_cat (ms : List Nat) (A B : List (List SV)) : ∀ (n b : Nat), b + n ≤ A.length → backsI ms (A ++ B) b n = backsI ms A b n
  | 0, _, _ => rfl
  | n + 1, b, h => by
    simp only [backsI]
    rw [backsI_cat ms A B n (b + 1) (by omega), nthSB_cat, if_pos (by omega)]

theorem xcall_ok {P : Program} {s : SSt} {dst : Option Nat} {f : Nat} {acts : List SV} {k : SEff → List (Nat × Nat) → Tr ρ} {r : ρ} {kA : Eff → List (Nat × Nat) → Prop} :
    ∀ (C : List Callee), (∀ c ∈ C, c.ok P) → (xcall C s dst f acts k).run = some r → (∀ e rd, (k e rd).run = some r → kA e.av rd) → CallC P s.av dst f (avL acts) kA
  | [], _, h, _ => by cases h
  | c :: C, hC, h, hk => by
    simp only [xcall] at h
    split at h
    · rename_i hc
      obtain ⟨hf, ha⟩ := hc
      subst hf
      split at h <;> first | (cases h; done) | skip
      rename_i x qx
      split at h <;> first | (cases h; done) | skip
      rename_i y qy
      replace h := ite_run h; obtain ⟨⟨hd, hri⟩, h⟩ := h
      obtain ⟨hcl, hmeet⟩ := hC c (by simp)
      split at h
      · rename_i hro
        obtain ⟨_, hrb⟩ := hro
        replace h := run_bind h; obtain ⟨z, hz, h⟩ := h
        replace h := run_req h; obtain ⟨hzy, h⟩ := h
        replace h := brP_ok _ _ _ h
        have hm := hmeet x y z.1 z.2 hz
        have hzy := eqb_eq hzy
        rw [hzy] at hm
        generalize hms : msOf c.ps acts c.bl s.heap = ms at *
        have hargs := argsOk_args _ _ _ _ ha qx
        obtain ⟨hh, hlen⟩ := getBlks_hand ((newsS c.rs z.1).map avL) c.bl ms s.heap y y qy
        have hkk := hk _ _ h
        rw [List.map_append] at hm
        have hb := roB_ok qy hrb
        refine callMe (R := avL s.regs) (Hs := s.heap.map avL) ms hd hcl hm hargs hh ⟨_, .inr ⟨fun b j hbn hj => ?_, rfl⟩, ?_⟩
        · rw [hlen] at hbn
          have e0 : nthB ((blocksS id c.bl y).map avL ++ (newsS c.rs z.1).map avL) b = avL (nthSB (blocksS id c.bl y) b) := by
            rw [← List.map_append, nthSB_av, nthSB_cat, if_pos (by rw [blocksS_length]; exact hbn)]
          have e1 : nthB (s.heap.map avL) (nthN ms b) = avL (nthSB (blocksS id c.bl y) b) := by rw [nthSB_av]; exact hb b hbn
          have e2 : ∀ (L : List AV) (f : AV → AV) (i : Nat), f .non = .non → nth (L.map f) i = f (nth L i) := fun L f i hf => by
            rw [nth_eq, nth_eq, List.getElem?_map]
            cases L[i]? with
            | none => exact hf.symm
            | some x => rfl
          show nth (nthB (s.heap.map avL) (nthN ms b)) j = _
          rw [e0, e1, hlen, ← e2 (avL (nthSB (blocksS id c.bl y) b)) (ren (newIds (nthN ms) c.bl.length (s.heap.map avL).length)) j rfl]
          have e3 : (avL (nthSB (blocksS id c.bl y) b)).map (ren (newIds (nthN ms) c.bl.length (s.heap.map avL).length)) = avL (nthSB (blocksS (nthN ms) c.bl y) b) := blocks_ren _ _ _ _ _ _ hri
          rw [e3, roB_blocks (nthN ms) y hrb]
        · have e1 : roEff dst (nthN ms) ms.length (s.heap.map avL).length (sing (avL (resS c.bl.length c.rs z.1))) ((blocksS id c.bl y).map avL ++ (newsS c.rs z.1).map avL) =
              SEff.av ⟨dst, singS (resS s.heap.length c.rs z.1), [], s.heap.length, newsS c.rs z.1⟩ := by
            simp only [roEff, SEff.av, List.length_map, hlen, singS_av, sing_ren]
            have q1 := resS_ren (nthN ms) c.bl.length s.heap.length c.rs z.1 0
            simp only [Nat.add_zero] at q1
            rw [q1]
            have q2 : ((blocksS id c.bl y).map avL ++ (newsS c.rs z.1).map avL).drop c.bl.length = (newsS c.rs z.1).map avL := by
              rw [List.drop_append_of_le_length (by rw [List.length_map, blocksS_length]; exact Nat.le_refl _)]
              rw [List.drop_of_length_le (by rw [List.length_map, blocksS_length]; exact Nat.le_refl _), List.nil_append]
            rw [q2, newsS_ren]
            rfl
          have e2 : keysOf (nthN ms) 0 ms.length ((blocksS id c.bl y).map avL) = keysI ms (blocksS id c.bl y) 0 c.bl.length := by
            rw [keysI_av, hlen]
          rw [e1, e2]
          exact hkk
      replace h := run_bind h; obtain ⟨z, hz, h⟩ := h
      replace h := brP_ok _ _ _ h
      have hm := hmeet x y z.1 z.2 hz
      generalize hms : msOf c.ps acts c.bl s.heap = ms at *
      have hargs := argsOk_args _ _ _ _ ha qx
      obtain ⟨hh, hlen⟩ := getBlks_hand ((newsS c.rs z.1).map avL) c.bl ms s.heap y z.2 qy
      have hkk := hk _ _ h
      rw [List.map_append] at hm
      refine callM (R := avL s.regs) (Hs := s.heap.map avL) ms hd hcl hm hargs hh ?_
      have e1 : callEff dst (nthN ms) ms.length (s.heap.map avL).length (sing (avL (resS c.bl.length c.rs z.1))) ((blocksS id c.bl z.2).map avL ++ (newsS c.rs z.1).map avL) =
          SEff.av ⟨dst, singS (resS s.heap.length c.rs z.1), backsI ms (blocksS (nthN ms) c.bl z.2) 0 c.bl.length, s.heap.length, newsS c.rs z.1⟩ := by
        simp only [callEff, SEff.av, List.length_map, hlen, singS_av, sing_ren]
        have q1 := resS_ren (nthN ms) c.bl.length s.heap.length c.rs z.1 0
        simp only [Nat.add_zero] at q1
        rw [q1]
        have q2 : ((blocksS id c.bl z.2).map avL ++ (newsS c.rs z.1).map avL).drop c.bl.length = (newsS c.rs z.1).map avL := by
          rw [List.drop_append_of_le_length (by rw [List.length_map, blocksS_length]; exact Nat.le_refl _)]
          rw [List.drop_of_length_le (by rw [List.length_map, blocksS_length]; exact Nat.le_refl _), List.nil_append]
        rw [q2, newsS_ren]
        rw [← List.map_append]
        rw [← backsI_av ms (newIds (nthN ms) c.bl.length s.heap.length) (blocksS id c.bl z.2 ++ newsS c.rs z.1) (blocksS (nthN ms) c.bl z.2 ++ newsS c.rs z.1) (fun b => by
          rw [nthSB_cat, nthSB_cat, blocksS_length, blocksS_length]
          split
          · exact blocks_ren _ _ _ _ _ _ hri
          · exact news_ren _ _ _ _)]
        rw [backsI_cat _ _ _ _ _ (by rw [blocksS_length]; omega)]
      have e2 : keysOf (nthN ms) 0 ms.length ((blocksS id c.bl y).map avL) = keysI ms (blocksS id c.bl y) 0 c.bl.length := by
        rw [keysI_av, hlen]
      rw [e1, e2]
      exact hkk
    · exact xcall_ok C (fun c hc => hC c (List.mem_cons_of_mem _ hc)) h hk

/-! ### One operation -/

def xop (X : List XTy) (C : List Callee) (o : Oper) (s : SSt) (k : SEff → List (Nat × Nat) → Tr ρ) : Tr ρ :=
  match o.op with
  | .load t a => xLoad X o.dst t s.heap (evS s.regs a) k
  | .store t a v => xStore X o.dst t s.heap (evS s.regs a) (evS s.regs v) k
  | .alloc t => if (nthX X t).kd.isOther = false then k ⟨o.dst, .ptr s.heap.length 0, [], s.heap.length, [(nthX X t).zero]⟩ [] else .fail
  | .box t x => if (evS s.regs x).av.known = true ∧ allS AV.cellable (evS s.regs x).cells = true then k ⟨o.dst, .ptr s.heap.length 0, [], s.heap.length, [(evS s.regs x).cells]⟩ [] else .fail
  | .buildSlice t len parts => xBuildSlice X o.dst t len (parts.toList.map fun p => (p.1, evS s.regs p.2)) s.heap.length k
  | .makeMap t none => match (nthX X t).kd with
    | .map _ et => k ⟨o.dst, .mp s.heap.length, [], s.heap.length, [[.mpl (nthX X et).code []]]⟩ []
    | _ => .fail
  | .lookup t m key false => xLookup X o.dst t s.heap (evS s.regs m) (evS s.regs key) k
  | .mapUpdate t m key v => xUpdate X o.dst t s.heap (evS s.regs m) (evS s.regs key) (evS s.regs v) k
  | .call c => match c.callee with
    | .builtin .append => match c.args.toList, c.argTypes.toList with
      | [x, y], [t, t'] => xAppend X o.dst t t' s.heap (evS s.regs x) (evS s.regs y) k
      | _, _ => .fail
    | .value fo => match evS s.regs fo with
      | .fn f caps => xcall C s o.dst f (c.args.toList.map (evS s.regs) ++ caps) k
      | _ => .fail
    | _ => xval X s.regs o.op fun c => k ⟨o.dst, c, [], s.heap.length, []⟩ []
  | op => xval X s.regs op fun c => k ⟨o.dst, c, [], s.heap.length, []⟩ []

theorem xop_ok {P : Program} {X : List XTy} {C : List Callee} (hC : ∀ c ∈ C, c.ok P) {o : Oper} {s : SSt} {k : SEff → List (Nat × Nat) → Tr ρ} {r : ρ} {kA : Eff → List (Nat × Nat) → Prop} (h : (xop X C o s k).run = some r)
    (hk : ∀ e rd, (k e rd).run = some r → kA e.av rd) : aop P (TX X) o s.av kA := by
  have ev := evS_av s
  have evf : s.av.view.ev = SV.av ∘ evS s.regs := by funext x; exact ev x
  have pv : ∀ op, (xval X s.regs op fun c => k ⟨o.dst, c, [], s.heap.length, []⟩ []).run = some r → aval (TX X) s.av.view.ev op fun c => kA ⟨o.dst, c, [], s.heap.length, []⟩ [] := fun op h =>
    xval_ok h (fun c hc => hk _ _ hc)
  unfold xop at h
  unfold aop
  simp only [heap_len]
  split at h
  · rename_i t a ho
    simp only [ho, ev]; exact xLoad_ok h hk
  · rename_i t a v ho
    simp only [ho, ev]; exact xStore_ok h hk
  · rename_i t ho
    replace h := ite_run h; obtain ⟨h0, h⟩ := h
    simp only [ho]; exact ⟨h0, hk _ _ h⟩
  · rename_i t x ho
    replace h := ite_run h; obtain ⟨⟨h0, h1⟩, h⟩ := h
    simp only [ho, ev, SV.cells_av, allS_av]
    exact ⟨h0, h1, hk _ _ h⟩
  · rename_i t len parts ho
    have := xBuildSlice_ok h hk
    rw [List.map_map] at this
    simp only [ho, ev]
    exact this
  · rename_i t ho
    simp only [ho]
    split at h
    · have := hk _ _ h
      simp only [SEff.av, SV.av, List.map_cons, List.map_nil] at this
      exact this
    · cases h
  · rename_i t m key ho
    simp only [ho, ev]; exact xLookup_ok h hk
  · rename_i t m key v ho
    simp only [ho, ev]; exact xUpdate_ok h hk
  · rename_i c ho
    simp only [ho]
    split at h
    · rename_i hcal
      simp only [hcal]
      split at h
      · rename_i x y t t' q1 q2
        simp only [q1, q2, ev]; exact xAppend_ok h hk
      · cases h
    · rename_i fo hcal
      simp only [hcal, ev]
      split at h
      · rename_i f caps q
        simp only [q, SV.av]
        have := xcall_ok C hC h hk
        rw [avL_app, avL_eq (List.map _ _), List.map_map, ← evf] at this
        exact this
      · cases h
    · rename_i hc1 hc2
      rw [ho] at h
      have := pv _ h
      split
      · rename_i q; exact absurd q hc1
      · rename_i fo q; exact absurd q (hc2 fo)
      · exact this
  · rename_i op h1 h2 h3 h4 h5 h6 h7 h8 h9
    have := pv _ h
    split
    · rename_i q; exact absurd q (h1 _ _)
    · rename_i q; exact absurd q (h2 _ _ _)
    · rename_i q; exact absurd q (h3 _)
    · rename_i q; exact absurd q (h4 _ _)
    · rename_i q; exact absurd q (h5 _ _ _)
    · rename_i q; exact absurd q (h6 _)
    · rename_i q; exact absurd q (h7 _ _ _)
    · rename_i q; exact absurd q (h8 _ _ _ _)
    · rename_i q; exact absurd q (h9 _)
    · exact this
end
end Go.Ab
