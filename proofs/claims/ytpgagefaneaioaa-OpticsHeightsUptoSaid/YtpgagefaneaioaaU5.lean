/- Regions, symbolically; what stays as it is. -/
import Derived.Test.YtpgagefaneaioaaU4
namespace Go.Ab
open Go Go.RowKit
set_option linter.unusedVariables false
set_option linter.unusedSimpArgs false

/-- Between two states: registers outside W, and blocks inside Z, are as they were. -/
structure Fz (W Z : Nat → Bool) (s s' : SSt) : Prop where
  len : s'.regs.length = s.regs.length
  regs : ∀ r, W r = false → nthS s'.regs r = nthS s.regs r
  hl : s.heap.length ≤ s'.heap.length
  heap : ∀ b, b < s.heap.length → Z b = true → nthSB s'.heap b = nthSB s.heap b

theorem Fz.refl (W Z : Nat → Bool) (s : SSt) : Fz W Z s s := ⟨rfl, fun _ _ => rfl, Nat.le_refl _, fun _ _ _ => rfl⟩
theorem Fz.trans {W Z : Nat → Bool} {s s' s'' : SSt} (h : Fz W Z s s') (k : Fz W Z s' s'') : Fz W Z s s'' :=
  ⟨k.len.trans h.len, fun r hr => (k.regs r hr).trans (h.regs r hr), Nat.le_trans h.hl k.hl, fun b hb hz => (k.heap b (Nat.lt_of_lt_of_le hb h.hl) hz).trans (h.heap b hb hz)⟩

def wOk (W : Nat → Bool) : Option Nat → Bool
  | none => true
  | some d => W d
def zOkW (Z : Nat → Bool) : List (Nat × Nat × SV) → Bool
  | [] => true
  | x :: r => !Z x.1 && zOkW Z r
theorem zOkW_mem {Z : Nat → Bool} : ∀ {ws : List (Nat × Nat × SV)}, zOkW Z ws = true → ∀ x ∈ ws, Z x.1 = false
  | [], _, _, h => by cases h
  | x :: r, h, y, hy => by
    simp only [zOkW, Bool.and_eq_true, Bool.not_eq_true'] at h
    rcases List.mem_cons.1 hy with rfl | hy
    · exact h.1
    · exact zOkW_mem h.2 y hy
def okE (W Z : Nat → Bool) (e : SEff) : Bool := wOk W e.dst && zOkW Z e.ws

theorem Fz.set {W Z : Nat → Bool} {s : SSt} {d : Nat} (v : SV) (h : W d = true) : Fz W Z s ⟨setS s.regs d v, s.heap⟩ :=
  ⟨setS_length _ _ _, fun r hr => nthS_set _ _ _ _ (fun e => by subst e; rw [h] at hr; cases hr), Nat.le_refl _, fun _ _ _ => rfl⟩
theorem Fz.app {W Z : Nat → Bool} {s : SSt} {e : SEff} (h : okE W Z e = true) : Fz W Z s (s.app e) := by
  simp only [okE, Bool.and_eq_true] at h
  obtain ⟨h1, h2⟩ := h
  refine ⟨?_, fun r hr => ?_, ?_, fun b hb hz => ?_⟩
  · simp only [SSt.app]
    cases e.dst with
    | none => rfl
    | some d => exact setS_length _ _ _
  · simp only [SSt.app]
    cases hd : e.dst with
    | none => rfl
    | some d =>
      rw [hd] at h1
      exact nthS_set _ _ _ _ (fun e => by subst e; simp only [wOk] at h1; rw [h1] at hr; cases hr)
  · simp only [SSt.app, List.length_append, wrS_length]; omega
  · simp only [SSt.app]
    rw [nthSB_app _ _ _ (by rw [wrS_length]; exact hb), nthSB_wr]
    intro x hx e
    have := zOkW_mem h2 x hx
    rw [e, hz] at this; cases this

def moreS (dr : Bool) (fs : List Ft) (e : SEff) (rd : List (Nat × Nat)) : List Ft := if dr = true then fs ++ [⟨rd, e.ws.map fun x => (x.1, x.2.1), e.base, e.news.length⟩] else fs
theorem moreS_av (dr : Bool) (fs : List Ft) (e : SEff) (rd : List (Nat × Nat)) : more dr fs e.av rd = moreS dr fs e rd := by
  unfold more moreS
  cases dr
  · rfl
  · simp only [if_true, ftOf, SEff.av, List.map_map, List.length_map]
    rfl

section
variable {ρ : Type}

def skipS (s : SSt) (o : Oper) : SEff := ⟨o.dst, .und, [], s.heap.length, []⟩
def sS (b : Bool) : SV := if b = true then .tt else .ff
theorem sS_av (b : Bool) : (sS b).av = .bool b := by cases b <;> rfl

section
variable (X : List XTy) (C : List Callee) (W Z : Nat → Bool)
def stepK (dr : Bool) (o : Oper) (s : SSt) (fs : List Ft) (K : SSt → List Ft → Tr ρ) : Tr ρ :=
  xop X C o s fun e rd => if okE W Z e = true then s.appK e fun s' => K s' (moreS dr fs e rd) else .fail
def skipK (dr : Bool) (o : Oper) (s : SSt) (fs : List Ft) (K : SSt → List Ft → Tr ρ) : Tr ρ :=
  if okE W Z (skipS s o) = true then s.appK (skipS s o) fun s' => K s' (moreS dr fs (skipS s o) []) else .fail
def armK (dr : Bool) (o : Oper) (d : Nat) (g t : Bool) (s : SSt) (fs : List Ft) (K : SSt → List Ft → Tr ρ) : Tr ρ :=
  if W d = true then setK s.regs d (sS t) fun R => if t = g then stepK X C W Z dr o ⟨R, s.heap⟩ fs K else skipK W Z dr o ⟨R, s.heap⟩ fs K else .fail

def xops (all : List Oper) (dr : Bool) : List Oper → SSt → List Ft → (SSt → List Ft → Tr ρ) → Tr ρ
  | [], s, fs, K => K s fs
  | o :: rest, s, fs, K => match o.guard with
    | none => stepK X C W Z dr o s fs fun s' fs' => xops all dr rest s' fs' K
    | some g => match gD all g.1 with
      | none => .fail
      | some d => match nthS s.regs d with
        | .tt => armK X C W Z dr o d g.2 true s fs fun s' fs' => xops all dr rest s' fs' K
        | .ff => armK X C W Z dr o d g.2 false s fs fun s' fs' => xops all dr rest s' fs' K
        | .bool b => .br b (armK X C W Z dr o d g.2 true s fs fun s' fs' => xops all dr rest s' fs' K) (armK X C W Z dr o d g.2 false s fs fun s' fs' => xops all dr rest s' fs' K)
        | .und => skipK W Z dr o s fs fun s' fs' => xops all dr rest s' fs' K
        | _ => .fail
end

variable {P : Program} {X : List XTy} {C : List Callee} {W Z : Nat → Bool}

theorem stepK_ok (hC : ∀ c ∈ C, c.ok P) {dr : Bool} {o : Oper} {s : SSt} {fs : List Ft} {K : SSt → List Ft → Tr ρ} {r : ρ} {kA : ASt → List Ft → Prop} (h : (stepK X C W Z dr o s fs K).run = some r)
    (hk : ∀ s' fs', Fz W Z s s' → (K s' fs').run = some r → kA s'.av fs') : aop P (TX X) o s.av fun e rd => kA (s.av.apply e) (more dr fs e rd) := by
  refine xop_ok hC h fun e rd he => ?_
  replace he := ite_run he; obtain ⟨h1, he⟩ := he
  rw [appK_eq] at he
  have := hk _ _ (Fz.app h1) he
  rw [app_av, ← moreS_av] at this
  exact this
theorem skipK_ok {dr : Bool} {o : Oper} {s : SSt} {fs : List Ft} {K : SSt → List Ft → Tr ρ} {r : ρ} {kA : ASt → List Ft → Prop} (h : (skipK W Z dr o s fs K).run = some r)
    (hk : ∀ s' fs', Fz W Z s s' → (K s' fs').run = some r → kA s'.av fs') : kA (s.av.apply (skipEff s.av o)) (more dr fs (skipEff s.av o) []) := by
  replace h := ite_run h; obtain ⟨h1, h⟩ := h
  rw [appK_eq] at h
  have := hk _ _ (Fz.app h1) h
  rw [app_av, ← moreS_av] at this
  have e : (skipS s o).av = skipEff s.av o := by simp [skipS, SEff.av, skipEff, SV.av, heap_len]
  rw [e] at this
  exact this
theorem armK_ok (hC : ∀ c ∈ C, c.ok P) {dr : Bool} {o : Oper} {d : Nat} {g t : Bool} {s : SSt} {fs : List Ft} {K : SSt → List Ft → Tr ρ} {r : ρ} {kA : ASt → List Ft → Prop} (h : (armK X C W Z dr o d g t s fs K).run = some r)
    (hk : ∀ s' fs', Fz W Z s s' → (K s' fs').run = some r → kA s'.av fs') :
    (t = g → aop P (TX X) o ⟨s.av.regs.set d (.bool g), s.av.heap⟩ fun e rd => kA (ASt.apply ⟨s.av.regs.set d (.bool g), s.av.heap⟩ e) (more dr fs e rd)) ∧
    (t = (!g) → kA (ASt.apply ⟨s.av.regs.set d (.bool (!g)), s.av.heap⟩ (skipEff ⟨s.av.regs.set d (.bool (!g)), s.av.heap⟩ o)) (more dr fs (skipEff ⟨s.av.regs.set d (.bool (!g)), s.av.heap⟩ o) [])) := by
  replace h := ite_run h; obtain ⟨hW, h⟩ := h
  rw [setK_eq] at h
  have e : ∀ b : Bool, (⟨s.av.regs.set d (.bool b), s.av.heap⟩ : ASt) = (SSt.mk (setS s.regs d (sS b)) s.heap).av := fun b => by
    simp only [SSt.av, setS_av, sS_av]
  refine ⟨fun ht => ?_, fun ht => ?_⟩
  · subst ht
    rw [if_pos rfl] at h
    rw [e]
    exact stepK_ok hC h fun s' fs' hf hr => hk s' fs' ((Fz.set _ hW).trans hf) hr
  · have hn : ¬ t = g := by subst ht; cases g <;> simp
    rw [if_neg hn] at h
    rw [← ht, e]
    exact skipK_ok h fun s' fs' hf hr => hk s' fs' ((Fz.set _ hW).trans hf) hr

theorem xops_ok (hC : ∀ c ∈ C, c.ok P) {all : Array Oper} {dr : Bool} : ∀ (rest : List Oper) (s : SSt) (fs : List Ft) (K : SSt → List Ft → Tr ρ) (r : ρ) (kA : ASt → List Ft → Prop), (xops X C W Z all.toList dr rest s fs K).run = some r →
    (∀ s' fs', Fz W Z s s' → (K s' fs').run = some r → kA s'.av fs') → aops P (TX X) all dr rest s.av fs kA
  | [], s, fs, K, r, kA, h, hk => hk s fs (Fz.refl _ _ _) h
  | o :: rest, s, fs, K, r, kA, h, hk => by
    have go : ∀ s', Fz W Z s s' → ∀ fs', (xops X C W Z all.toList dr rest s' fs' K).run = some r → aops P (TX X) all dr rest s'.av fs' kA := fun s' hf fs' h' =>
      xops_ok hC rest s' fs' K r kA h' fun s'' fs'' hf' => hk s'' fs'' (hf.trans hf')
    simp only [xops] at h
    simp only [aops]
    cases hg : o.guard with
    | none =>
      rw [hg] at h
      exact stepK_ok (kA := fun s' fs' => aops P (TX X) all dr rest s' fs' kA) hC h fun s' fs' hf hr => go s' hf fs' hr
    | some g =>
      rw [hg] at h
      simp only [gD_eq]
      simp only at h ⊢
      cases hd : gD all.toList g.1 with
      | none => rw [hd] at h; cases h
      | some d =>
        rw [hd] at h
        simp only at h ⊢
        have hn : nth s.av.regs d = (nthS s.regs d).av := nthS_av _ _
        split at h
        · rename_i q
          rw [hn, q]
          have := armK_ok (kA := fun s' fs' => aops P (TX X) all dr rest s' fs' kA) hC h fun s' fs' hf hr => go s' hf fs' hr
          exact this
        · rename_i q
          rw [hn, q]
          have := armK_ok (kA := fun s' fs' => aops P (TX X) all dr rest s' fs' kA) hC h fun s' fs' hf hr => go s' hf fs' hr
          exact this
        · rename_i b q
          rw [hn, q]
          obtain ⟨h1, h2⟩ := run_br h
          cases b with
          | true => exact armK_ok (kA := fun s' fs' => aops P (TX X) all dr rest s' fs' kA) hC (h1 rfl) fun s' fs' hf hr => go s' hf fs' hr
          | false => exact armK_ok (kA := fun s' fs' => aops P (TX X) all dr rest s' fs' kA) hC (h2 rfl) fun s' fs' hf hr => go s' hf fs' hr
        · rename_i q
          rw [hn, q]
          exact skipK_ok (kA := fun s' fs' => aops P (TX X) all dr rest s' fs' kA) h fun s' fs' hf hr => go s' hf fs' hr
        · cases h
end

/-! ### Loops: what a round hands to the next one -/

inductive Slot where
  | reg (r : Nat) (v : VT)
  | own (r e : Nat) (τ : Ty)
  | blk (r : Nat) (τ : Ty) (p : List Nat)
  | map (r : Nat) (τ : Ty)
/-- The same, its block found. -/
inductive RSlot where
  | reg (r : Nat) (v : VT)
  | own (r e : Nat) (τ : Ty) (b : Nat)
  | blk (τ : Ty) (b : Nat)
  | map (τ : Ty) (b : Nat)
@[reducible] def RSlot.ty : RSlot → Ty
  | .reg _ v => v.ty
  | .own _ _ τ _ => .list τ
  | .blk τ _ => τ
  | .map τ _ => .list (.pair .str τ)
@[reducible] def rtys : List RSlot → List Ty
  | [] => []
  | s :: r => s.ty :: rtys r

section
variable {β : Type 1}
end

def ownify : List Slot → SSt → Option SSt
  | [], s => some s
  | .own r e τ :: l, s => match nthS s.regs r with
    | .emp => ownify l ⟨setS s.regs r (.ow s.heap.length e τ []), s.heap ++ [[.tok 0]]⟩
    | .ow _ _ _ _ => ownify l s
    | _ => none
  | _ :: l, s => ownify l s
section
variable {ρ : Type}
def ownK : List Slot → SSt → (SSt → Tr ρ) → Tr ρ
  | [], s, k => k s
  | .own r e τ :: l, s, k => match nthS s.regs r with
    | .emp => setK s.regs r (.ow s.heap.length e τ []) fun R => catK s.heap [[.tok 0]] fun H => ownK l ⟨R, H⟩ k
    | .ow _ _ _ _ => ownK l s k
    | _ => .fail
  | _ :: l, s, k => ownK l s k
theorem ownK_run {r : ρ} : ∀ (l : List Slot) (s : SSt) (k : SSt → Tr ρ), (ownK l s k).run = some r → ∃ s', ownify l s = some s' ∧ (k s').run = some r
  | [], s, k, h => ⟨s, rfl, h⟩
  | .own a e τ :: l, s, k, h => by
    simp only [ownK] at h
    simp only [ownify]
    split at h
    · rename_i q
      rw [setK_eq, catK_eq] at h
      exact ownK_run l _ k h
    · exact ownK_run l _ k h
    · cases h
  | .reg _ _ :: l, s, k, h => ownK_run l s k h
  | .blk _ _ _ :: l, s, k, h => ownK_run l s k h
  | .map _ _ :: l, s, k, h => ownK_run l s k h
end

def slotW (W : Nat → Bool) : List Slot → Bool
  | [] => true
  | .reg r _ :: l => W r && slotW W l
  | .own r _ _ :: l => W r && slotW W l
  | _ :: l => slotW W l

theorem ownify_fz {W Z : Nat → Bool} : ∀ (l : List Slot) (s s' : SSt), slotW W l = true → ownify l s = some s' → Fz W Z s s' ∧ ∀ b, b < s.heap.length → nthSB s'.heap b = nthSB s.heap b
  | [], s, s', _, h => by injection h with h; subst h; exact ⟨Fz.refl _ _ _, fun _ _ => rfl⟩
  | .own r e τ :: l, s, s', hW, h => by
    simp only [slotW, Bool.and_eq_true] at hW
    simp only [ownify] at h
    split at h
    · obtain ⟨h1, h2⟩ := ownify_fz (W := W) (Z := Z) l _ s' hW.2 h
      have hf : Fz W Z s ⟨setS s.regs r (.ow s.heap.length e τ []), s.heap ++ [[.tok 0]]⟩ :=
        ⟨setS_length _ _ _, fun x hx => nthS_set _ _ _ _ (fun e => by subst e; rw [hW.1] at hx; cases hx), by simp, fun b hb _ => nthSB_app _ _ _ hb⟩
      exact ⟨hf.trans h1, fun b hb => (h2 b (by simp; omega)).trans (nthSB_app _ _ _ hb)⟩
    · exact ownify_fz l _ s' hW.2 h
    · cases h
  | .reg r _ :: l, s, s', hW, h => by
    simp only [slotW, Bool.and_eq_true] at hW
    exact ownify_fz l s s' hW.2 h
  | .blk _ _ _ :: l, s, s', hW, h => ownify_fz l s s' hW h
  | .map _ _ :: l, s, s', hW, h => ownify_fz l s s' hW h
theorem ownify_ent {nx : Nat} : ∀ (l : List Slot) (s s' : SSt), ownify l s = some s' → Ent nx s.av s'.av
  | [], s, s', h => by injection h with h; subst h; exact Ent.refl _ _
  | .own r e τ :: l, s, s', h => by
    simp only [ownify] at h
    split at h
    · rename_i q
      have h1 := ent_tok (nx := nx) (s := s.av) r e τ.size (by show nth (avL s.regs) r = _; rw [nthS_av, q]; rfl)
      have h2 := ownify_ent (nx := nx) l _ s' h
      refine h1.trans ?_
      have e1 : (SSt.mk (setS s.regs r (.ow s.heap.length e τ [])) (s.heap ++ [[.tok 0]])).av = ⟨s.av.regs.set r (.ow s.av.heap.length e τ.size []), s.av.heap ++ [[.tok 0]]⟩ := by
        simp only [SSt.av, setS_av, List.map_append, SV.av, List.map_nil, List.length_map]
        rfl
      rw [e1] at h2
      exact h2
    · exact ownify_ent l _ s' h
    · cases h
  | .reg _ _ :: l, s, s', h => ownify_ent l s s' h
  | .blk _ _ _ :: l, s, s', h => ownify_ent l s s' h
  | .map _ _ :: l, s, s', h => ownify_ent l s s' h

/-- The block at the end of a path: 0 follows a pointer, i + 1 takes what a function value has captured. -/
def blkAt (H : List (List SV)) : SV → List Nat → Option Nat
  | .ptr b _, [] => some b
  | .ptr b o, 0 :: p => blkAt H (nthS (nthSB H b) o) p
  | .fn _ cs, (i + 1) :: p => blkAt H (nthS cs i) p
  | _, _ => none
def resolve : List Slot → SSt → Option (List RSlot)
  | [], _ => some []
  | .reg r v :: l, s => (resolve l s).map (.reg r v :: ·)
  | .own r e τ :: l, s => match nthS s.regs r with
    | .ow b _ _ _ => (resolve l s).map (.own r e τ b :: ·)
    | _ => none
  | .blk r τ p :: l, s => match blkAt s.heap (nthS s.regs r) p with
    | some b => (resolve l s).map (.blk τ b :: ·)
    | none => none
  | .map r τ :: l, s => match nthS s.regs r with
    | .mp b => (resolve l s).map (.map τ b :: ·)
    | _ => none

/-- Where a block of the head comes from. -/
def srcB : List RSlot → SSt → Nat → Nat
  | [], _, i => i
  | .own r _ _ b :: l, s, i => if b = i then (match nthS s.regs r with
    | .ow b' _ _ _ => b'
    | _ => i) else srcB l s i
  | _ :: l, s, i => srcB l s i
def bsFrom (f : Nat → Nat) : Nat → Nat → List Nat
  | _, 0 => []
  | i, n + 1 => f i :: bsFrom f (i + 1) n
theorem bsFrom_length (f : Nat → Nat) : ∀ n i, (bsFrom f i n).length = n
  | 0, _ => rfl
  | n + 1, i => by simp [bsFrom, bsFrom_length f n]
theorem bsFrom_get (f : Nat → Nat) : ∀ n i j, j < n → nthN (bsFrom f i n) j = f (i + j)
  | 0, _, _, h => by omega
  | n + 1, i, 0, _ => rfl
  | n + 1, i, j + 1, h => by
    show nthN (bsFrom f (i + 1) n) j = _
    rw [bsFrom_get f n (i + 1) j (by omega)]
    congr 1; omega

def isSlotB : List RSlot → Nat → Bool
  | [], _ => false
  | .reg _ _ :: l, i => isSlotB l i
  | .own _ _ _ b :: l, i => decide (b = i) || isSlotB l i
  | .blk _ b :: l, i => decide (b = i) || isSlotB l i
  | .map _ b :: l, i => decide (b = i) || isSlotB l i
theorem srcB_not {s : SSt} : ∀ {ls : List RSlot} {i : Nat}, isSlotB ls i = false → srcB ls s i = i
  | [], _, _ => rfl
  | .reg _ _ :: l, i, h => srcB_not (ls := l) h
  | .own r e τ b :: l, i, h => by
    simp only [isSlotB, Bool.or_eq_false_iff, decide_eq_false_iff_not] at h
    simp only [srcB, h.1, if_false]
    exact srcB_not h.2
  | .blk τ b :: l, i, h => by
    simp only [isSlotB, Bool.or_eq_false_iff] at h
    exact srcB_not (ls := l) h.2
  | .map τ b :: l, i, h => by
    simp only [isSlotB, Bool.or_eq_false_iff] at h
    exact srcB_not (ls := l) h.2

section
variable {ρ : Type}
def conformK (src : Nat → Nat) (n : Nat) : (ls : List RSlot) → SSt → ((tupT (rtys ls)).T → Tr ρ) → Tr ρ
  | [], _, k => k ()
  | .reg r v :: l, s, k => match v.get (nthS s.regs r) with
    | some x => conformK src n l s fun y => k (x, y)
    | none => .fail
  | .own r e τ b :: l, s, k => match nthS s.regs r with
    | .ow b' e' τ' xs => if h : τ' = τ then (if e' = e ∧ b' = src b ∧ b < n then (match nthSB s.heap b' with
      | [.tok m] => .req (decide (m = xs.length)) (conformK src n l s fun y => k (h ▸ xs, y))
      | _ => .fail) else .fail) else .fail
    | _ => .fail
  | .blk τ b :: l, s, k => if src b = b ∧ b < n then (match gtRow τ (nthSB s.heap b) with
    | some x => conformK src n l s fun y => k (x, y)
    | none => .fail) else .fail
  | .map τ b :: l, s, k => if src b = b ∧ b < n then (match nthSB s.heap b with
    | [.mpl τ' es] => if h : τ' = τ then conformK src n l s fun y => k (h ▸ es, y) else .fail
    | _ => .fail) else .fail

/-- What is known of the slots. -/
def good (bs : List Nat) : (ls : List RSlot) → SSt → (tupT (rtys ls)).T → Prop
  | [], _, _ => True
  | .reg r v :: l, s, x => Wk (nthN bs) bs.length (nthS s.regs r).av (v.sv x.1).av ∧ good bs l s x.2
  | .own r e τ b :: l, s, x => (b < bs.length ∧ nthS s.regs r = .ow (nthN bs b) e τ x.1 ∧ nthSB s.heap (nthN bs b) = [.tok (List.length (α := τ.T) x.1)]) ∧ good bs l s x.2
  | .blk τ b :: l, s, x => (b < bs.length ∧ nthN bs b = b ∧ WkL (nthN bs) bs.length (avL (nthSB s.heap b)) (avL (τ.svs x.1))) ∧ good bs l s x.2
  | .map τ b :: l, s, x => (b < bs.length ∧ nthN bs b = b ∧ nthSB s.heap b = [.mpl τ x.1]) ∧ good bs l s x.2

theorem conformK_ok {src : Nat → Nat} {n : Nat} {bs : List Nat} (hl : bs.length = n) (hb : ∀ b, b < n → nthN bs b = src b) {r : ρ} : ∀ (ls : List RSlot) (s : SSt) (k : (tupT (rtys ls)).T → Tr ρ), (conformK src n ls s k).run = some r →
    ∃ x, (k x).run = some r ∧ good bs ls s x
  | [], s, k, h => ⟨(), h, trivial⟩
  | .reg a v :: l, s, k, h => by
    simp only [conformK] at h
    split at h
    · rename_i x q
      obtain ⟨y, h1, h2⟩ := conformK_ok hl hb l s _ h
      exact ⟨(x, y), h1, VT.get_wk q, h2⟩
    · cases h
  | .own a e τ b :: l, s, k, h => by
    simp only [conformK] at h
    split at h
    · rename_i b' e' τ' xs q
      split at h
      · rename_i hτ
        replace h := ite_run h; obtain ⟨⟨h1, h2, h3⟩, h⟩ := h
        split at h
        · rename_i m qm
          replace h := run_req h; obtain ⟨h4, h⟩ := h
          have h4 := of_decide_eq_true h4
          obtain ⟨y, h5, h6⟩ := conformK_ok hl hb l s _ h
          subst hτ; subst h1
          refine ⟨(xs, y), h5, ⟨by omega, ?_, ?_⟩, h6⟩
          · rw [hb b h3, ← h2, q]
          · rw [hb b h3, ← h2, qm, h4]
        · cases h
      · cases h
    · cases h
  | .blk τ b :: l, s, k, h => by
    simp only [conformK] at h
    replace h := ite_run h; obtain ⟨⟨h1, h2⟩, h⟩ := h
    split at h
    · rename_i x q
      obtain ⟨y, h5, h6⟩ := conformK_ok hl hb l s _ h
      refine ⟨(x, y), h5, ⟨by omega, by rw [hb b h2, h1], ?_⟩, h6⟩
      rw [τ.svs_av]; exact (gtRow_lo q).wks
    · cases h
  | .map τ b :: l, s, k, h => by
    simp only [conformK] at h
    replace h := ite_run h; obtain ⟨⟨h1, h2⟩, h⟩ := h
    split at h
    · rename_i τ' es q
      split at h
      · rename_i hτ
        obtain ⟨y, h5, h6⟩ := conformK_ok hl hb l s _ h
        subst hτ
        exact ⟨(es, y), h5, ⟨by omega, by rw [hb b h2, h1], q⟩, h6⟩
      · cases h
    · cases h
end

/-! ### The head of a loop -/

def dropW (W : Nat → Bool) : Nat → List SV → List SV
  | _, [] => []
  | i, c :: r => (if W i = true then .non else c) :: dropW W (i + 1) r
theorem dropW_length (W : Nat → Bool) : ∀ (l : List SV) (i : Nat), (dropW W i l).length = l.length
  | [], _ => rfl
  | c :: r, i => by simp [dropW, dropW_length W r]
theorem dropW_get (W : Nat → Bool) : ∀ (l : List SV) (i j : Nat), nthS (dropW W i l) j = if W (i + j) = true then .non else nthS l j
  | [], i, j => by simp [dropW, nthS]
  | c :: r, i, 0 => rfl
  | c :: r, i, j + 1 => by
    show nthS (dropW W (i + 1) r) j = if _ then _ else nthS r j
    rw [dropW_get W r (i + 1) j, show i + 1 + j = i + (j + 1) by omega]

def slotRegs : (ls : List RSlot) → (tupT (rtys ls)).T → List SV → List SV
  | [], _, R => R
  | .reg r v :: l, x, R => slotRegs l x.2 (setS R r (v.sv x.1))
  | .own r e τ b :: l, x, R => slotRegs l x.2 (setS R r (.ow b e τ x.1))
  | .blk _ _ :: l, x, R => slotRegs l x.2 R
  | .map _ _ :: l, x, R => slotRegs l x.2 R
def headBlk : (ls : List RSlot) → (tupT (rtys ls)).T → Nat → Option (List SV)
  | [], _, _ => none
  | .reg _ _ :: l, x, i => headBlk l x.2 i
  | .own _ _ τ b :: l, x, i => if b = i then some [.tok (List.length (α := τ.T) x.1)] else headBlk l x.2 i
  | .blk τ b :: l, x, i => if b = i then some (τ.svs x.1) else headBlk l x.2 i
  | .map τ b :: l, x, i => if b = i then some [.mpl τ x.1] else headBlk l x.2 i
def headH (ls : List RSlot) (x : (tupT (rtys ls)).T) : Nat → List (List SV) → List (List SV)
  | _, [] => []
  | i, l :: r => (headBlk ls x i).getD l :: headH ls x (i + 1) r
def headS (W : Nat → Bool) (ls : List RSlot) (s : SSt) (x : (tupT (rtys ls)).T) : SSt := ⟨slotRegs ls x (dropW W 0 s.regs), headH ls x 0 s.heap⟩

section
variable {β : Type 1}
def dropK (W : Nat → Bool) : Nat → List SV → (List SV → β) → β
  | _, [], k => k []
  | i, c :: r, k => dropK W (i + 1) r fun r' => if W i = true then k (.non :: r') else k (c :: r')
theorem dropK_eq (W : Nat → Bool) : ∀ (l : List SV) (i : Nat) (k : List SV → β), dropK W i l k = k (dropW W i l)
  | [], _, _ => rfl
  | c :: r, i, k => by
    simp only [dropK, dropW, dropK_eq W r]
    split <;> rfl
def slotRegsK : (ls : List RSlot) → (tupT (rtys ls)).T → List SV → (List SV → β) → β
  | [], _, R, k => k R
  | .reg r v :: l, x, R, k => setK R r (v.sv x.1) fun R' => slotRegsK l x.2 R' k
  | .own r e τ b :: l, x, R, k => setK R r (.ow b e τ x.1) fun R' => slotRegsK l x.2 R' k
  | .blk _ _ :: l, x, R, k => slotRegsK l x.2 R k
  | .map _ _ :: l, x, R, k => slotRegsK l x.2 R k
theorem slotRegsK_eq : ∀ (ls : List RSlot) (x : (tupT (rtys ls)).T) (R : List SV) (k : List SV → β), slotRegsK ls x R k = k (slotRegs ls x R)
  | [], _, _, _ => rfl
  | .reg r v :: l, x, R, k => by simp only [slotRegsK, slotRegs, setK_eq, slotRegsK_eq l]
  | .own r e τ b :: l, x, R, k => by simp only [slotRegsK, slotRegs, setK_eq, slotRegsK_eq l]
  | .blk _ _ :: l, x, R, k => slotRegsK_eq l x.2 R k
  | .map _ _ :: l, x, R, k => slotRegsK_eq l x.2 R k
def headHK (ls : List RSlot) (x : (tupT (rtys ls)).T) : Nat → List (List SV) → (List (List SV) → β) → β
  | _, [], k => k []
  | i, l :: r, k => headHK ls x (i + 1) r fun r' => match headBlk ls x i with
    | some l' => k (l' :: r')
    | none => k (l :: r')
theorem headHK_eq (ls : List RSlot) (x : (tupT (rtys ls)).T) : ∀ (H : List (List SV)) (i : Nat) (k : List (List SV) → β), headHK ls x i H k = k (headH ls x i H)
  | [], _, _ => rfl
  | l :: r, i, k => by
    simp only [headHK, headH, headHK_eq ls x r]
    cases headBlk ls x i <;> rfl
def headK (W : Nat → Bool) (ls : List RSlot) (s : SSt) (x : (tupT (rtys ls)).T) (k : SSt → β) : β :=
  dropK W 0 s.regs fun R => slotRegsK ls x R fun R' => headHK ls x 0 s.heap fun H => k ⟨R', H⟩
theorem headK_eq (W : Nat → Bool) (ls : List RSlot) (s : SSt) (x : (tupT (rtys ls)).T) (k : SSt → β) : headK W ls s x k = k (headS W ls s x) := by
  simp only [headK, dropK_eq, slotRegsK_eq, headHK_eq, headS]
end

def rslotW (W : Nat → Bool) : List RSlot → Bool
  | [] => true
  | .reg r _ :: l => W r && rslotW W l
  | .own r _ _ _ :: l => W r && rslotW W l
  | _ :: l => rslotW W l
theorem slotRegs_length : ∀ (ls : List RSlot) (x : (tupT (rtys ls)).T) (R : List SV), (slotRegs ls x R).length = R.length
  | [], _, _ => rfl
  | .reg r v :: l, x, R => by simp only [slotRegs, slotRegs_length l, setS_length]
  | .own r e τ b :: l, x, R => by simp only [slotRegs, slotRegs_length l, setS_length]
  | .blk _ _ :: l, x, R => slotRegs_length l x.2 R
  | .map _ _ :: l, x, R => slotRegs_length l x.2 R
theorem slotRegs_not {W : Nat → Bool} : ∀ (ls : List RSlot) (x : (tupT (rtys ls)).T) (R : List SV), rslotW W ls = true → ∀ j, W j = false → nthS (slotRegs ls x R) j = nthS R j
  | [], _, _, _, _, _ => rfl
  | .reg r v :: l, x, R, h, j, hj => by
    simp only [rslotW, Bool.and_eq_true] at h
    simp only [slotRegs]
    rw [slotRegs_not l x.2 _ h.2 j hj, nthS_set _ _ _ _ (fun e => by subst e; rw [h.1] at hj; cases hj)]
  | .own r e τ b :: l, x, R, h, j, hj => by
    simp only [rslotW, Bool.and_eq_true] at h
    simp only [slotRegs]
    rw [slotRegs_not l x.2 _ h.2 j hj, nthS_set _ _ _ _ (fun e => by subst e; rw [h.1] at hj; cases hj)]
  | .blk _ _ :: l, x, R, h, j, hj => slotRegs_not l x.2 R h j hj
  | .map _ _ :: l, x, R, h, j, hj => slotRegs_not l x.2 R h j hj
theorem headH_length (ls : List RSlot) (x : (tupT (rtys ls)).T) : ∀ (H : List (List SV)) (i : Nat), (headH ls x i H).length = H.length
  | [], _ => rfl
  | l :: r, i => by simp [headH, headH_length ls x r]
theorem headH_get (ls : List RSlot) (x : (tupT (rtys ls)).T) : ∀ (H : List (List SV)) (i j : Nat), j < H.length → nthSB (headH ls x i H) j = (headBlk ls x (i + j)).getD (nthSB H j)
  | [], _, _, h => by simp at h
  | l :: r, i, 0, _ => rfl
  | l :: r, i, j + 1, h => by
    show nthSB (headH ls x (i + 1) r) j = (headBlk ls x _).getD (nthSB r j)
    rw [headH_get ls x r (i + 1) j (by simpa using h), show i + 1 + j = i + (j + 1) by omega]
theorem headBlk_not : ∀ (ls : List RSlot) (x : (tupT (rtys ls)).T) (i : Nat), isSlotB ls i = false → headBlk ls x i = none
  | [], _, _, _ => rfl
  | .reg _ _ :: l, x, i, h => headBlk_not l x.2 i h
  | .own r e τ b :: l, x, i, h => by
    simp only [isSlotB, Bool.or_eq_false_iff, decide_eq_false_iff_not] at h
    simp only [headBlk, h.1, if_false]; exact headBlk_not l x.2 i h.2
  | .blk τ b :: l, x, i, h => by
    simp only [isSlotB, Bool.or_eq_false_iff, decide_eq_false_iff_not] at h
    simp only [headBlk, h.1, if_false]; exact headBlk_not l x.2 i h.2
  | .map τ b :: l, x, i, h => by
    simp only [isSlotB, Bool.or_eq_false_iff, decide_eq_false_iff_not] at h
    simp only [headBlk, h.1, if_false]; exact headBlk_not l x.2 i h.2

/-! ### The state of a round says less than the state that came to it -/

def refsOk (bs : List Nat) : SV → Bool
  | .ptr b _ => decide (b < bs.length) && decide (nthN bs b = b)
  | .ow b _ _ _ => decide (b < bs.length) && decide (nthN bs b = b)
  | .mp b => decide (b < bs.length) && decide (nthN bs b = b)
  | .agg cs => refsL bs cs
  | .tup cs => refsL bs cs
  | .fn _ cs => refsL bs cs
  | _ => true
where
  refsL (bs : List Nat) : List SV → Bool
    | [] => true
    | c :: r => refsOk bs c && refsL bs r
theorem refsL_wk {bs : List Nat} : ∀ (l : List SV), (∀ c ∈ l, refsOk bs c = true → Wk (nthN bs) bs.length c.av c.av) → refsOk.refsL bs l = true → WkL (nthN bs) bs.length (avL l) (avL l)
  | [], _, _ => trivial
  | c :: r, h, hr => by
    simp only [refsOk.refsL, Bool.and_eq_true] at hr
    exact ⟨h c (by simp) hr.1, refsL_wk r (fun d hd => h d (List.mem_cons_of_mem _ hd)) hr.2⟩
theorem wk_fn {g : Nat → Nat} {n f : Nat} {cs ds : List AV} (h : WkL g n cs ds) : Wk g n (.fn f cs) (.fn f ds) := .fn f cs ds h.get.1 fun j c d x y => by
  have := h.get.2 j
  rw [nth_eq, nth_eq, x, y] at this; exact this
theorem refsOk_wk {bs : List Nat} : ∀ (v : SV), refsOk bs v = true → Wk (nthN bs) bs.length v.av v.av
  | .non, _ => .non _
  | .und, _ => .und
  | .int _ _, _ => wk_int rfl
  | .ki _ _, _ => wk_int rfl
  | .tt, _ => wk_bool rfl
  | .ff, _ => wk_bool rfl
  | .bool _, _ => wk_bool rfl
  | .str _, _ => wk_str rfl
  | .nilp, _ => wk_nilp
  | .nilf, _ => wk_nilf
  | .nilm, _ => .flat .nilm rfl
  | .cp _, _ => wk_cp rfl
  | .ptr b o, h => by
    simp only [refsOk, Bool.and_eq_true, decide_eq_true_eq] at h
    exact wk_ptr rfl h.1 h.2.symm
  | .emp, _ => wk_ee
  | .sl _ _, _ => wk_sl rfl rfl
  | .ow b e τ xs, h => by
    simp only [refsOk, Bool.and_eq_true, decide_eq_true_eq] at h
    exact wk_ow rfl rfl rfl h.1 h.2.symm
  | .tok _, _ => wk_tok rfl
  | .agg cs, h => wk_agg (refsL_wk cs (fun c hc => refsOk_wk c) h)
  | .tup cs, h => wk_tup (refsL_wk cs (fun c hc => refsOk_wk c) h)
  | .fn f cs, h => wk_fn (refsL_wk cs (fun c hc => refsOk_wk c) h)
  | .mp b, h => by
    simp only [refsOk, Bool.and_eq_true, decide_eq_true_eq] at h
    exact wk_mp h.1 h.2.symm
  | .mpl _ _, _ => wk_mps rfl

def fixR (W : Nat → Bool) (bs : List Nat) : Nat → List SV → Bool
  | _, [] => true
  | i, c :: r => (W i || refsOk bs c) && fixR W bs (i + 1) r
theorem fixR_get {W : Nat → Bool} {bs : List Nat} : ∀ (l : List SV) (i j : Nat), fixR W bs i l = true → W (i + j) = false → refsOk bs (nthS l j) = true
  | [], _, _, _, _ => rfl
  | c :: r, i, 0, h, hw => by
    simp only [fixR, Bool.and_eq_true, Bool.or_eq_true] at h
    rcases h.1 with h1 | h1
    · simp only [Nat.add_zero] at hw; rw [hw] at h1; cases h1
    · exact h1
  | c :: r, i, j + 1, h, hw => by
    simp only [fixR, Bool.and_eq_true] at h
    exact fixR_get r (i + 1) j h.2 (by rw [show i + 1 + j = i + (j + 1) by omega]; exact hw)
def fixH (ls : List RSlot) (bs : List Nat) : Nat → List (List SV) → Bool
  | _, [] => true
  | i, l :: r => (isSlotB ls i || refsOk.refsL bs l) && fixH ls bs (i + 1) r
theorem fixH_get {ls : List RSlot} {bs : List Nat} : ∀ (H : List (List SV)) (i j : Nat), fixH ls bs i H = true → isSlotB ls (i + j) = false → refsOk.refsL bs (nthSB H j) = true
  | [], _, _, _, _ => rfl
  | l :: r, i, 0, h, hw => by
    simp only [fixH, Bool.and_eq_true, Bool.or_eq_true] at h
    rcases h.1 with h1 | h1
    · simp only [Nat.add_zero] at hw; rw [hw] at h1; cases h1
    · exact h1
  | l :: r, i, j + 1, h, hw => by
    simp only [fixH, Bool.and_eq_true] at h
    exact fixH_get r (i + 1) j h.2 (by rw [show i + 1 + j = i + (j + 1) by omega]; exact hw)

theorem wkL_of {g : Nat → Nat} {n : Nat} : ∀ (A B : List SV), A.length = B.length → (∀ j, j < B.length → Wk g n (nthS A j).av (nthS B j).av) → WkL g n (avL A) (avL B)
  | [], [], _, _ => trivial
  | a :: A, b :: B, hl, h => ⟨h 0 (by simp), wkL_of A B (by simpa using hl) (fun j hj => h (j + 1) (by simpa using hj))⟩
  | [], _ :: _, hl, _ => by simp at hl
  | _ :: _, [], hl, _ => by simp at hl
theorem wkHs_of {g : Nat → Nat} {n : Nat} {H : List (List AV)} : ∀ (bs : List Nat) (L : List (List AV)), bs.length = L.length → (∀ i, i < bs.length → WkL g n (nthB H (nthN bs i)) (nthB L i)) → WkHs g n H bs L
  | [], [], _, _ => trivial
  | b :: bs, l :: L, hl, h => ⟨h 0 (by simp), wkHs_of bs L (by simpa using hl) (fun i hi => h (i + 1) (by simpa using hi))⟩
  | [], _ :: _, hl, _ => by simp at hl
  | _ :: _, [], hl, _ => by simp at hl

theorem nthS_self : ∀ (R : List SV) (r : Nat) (v : SV), r < R.length → nthS (setS R r v) r = v
  | [], _, _, h => by simp at h
  | _ :: _, 0, _, _ => rfl
  | _ :: R, r + 1, v, h => nthS_self R r v (by simpa using h)
theorem nthS_out : ∀ (R : List SV) (r : Nat) (v : SV), ¬ r < R.length → nthS (setS R r v) r = .non
  | [], _, _, _ => rfl
  | _ :: _, 0, _, h => by simp at h
  | _ :: R, r + 1, v, h => nthS_out R r v (by simpa using h)

theorem slotRegs_wk {bs : List Nat} {s : SSt} : ∀ (ls : List RSlot) (x : (tupT (rtys ls)).T) (R : List SV), good bs ls s x → (∀ j, Wk (nthN bs) bs.length (nthS s.regs j).av (nthS R j).av) →
    ∀ j, Wk (nthN bs) bs.length (nthS s.regs j).av (nthS (slotRegs ls x R) j).av
  | [], _, _, _, h => h
  | .reg r v :: l, x, R, hg, h => by
    refine slotRegs_wk l x.2 _ hg.2 fun j => ?_
    by_cases e : r = j
    · subst e
      by_cases hr : r < R.length
      · have : nthS (setS R r (v.sv x.1)) r = v.sv x.1 := nthS_self _ _ _ hr
        rw [this]; exact hg.1
      · have : nthS (setS R r (v.sv x.1)) r = .non := nthS_out _ _ _ hr
        rw [this]; exact .non _
    · rw [nthS_set _ _ _ _ e]; exact h j
  | .own r e τ b :: l, x, R, hg, h => by
    refine slotRegs_wk l x.2 _ hg.2 fun j => ?_
    by_cases e' : r = j
    · subst e'
      by_cases hr : r < R.length
      · have : nthS (setS R r (.ow b e τ x.1)) r = .ow b e τ x.1 := nthS_self _ _ _ hr
        rw [this]
        obtain ⟨⟨h1, h2, _⟩, _⟩ := hg
        rw [h2]
        exact wk_ow rfl rfl rfl h1 rfl
      · have : nthS (setS R r (.ow b e τ x.1)) r = .non := nthS_out _ _ _ hr
        rw [this]; exact .non _
    · rw [nthS_set _ _ _ _ e']; exact h j
  | .blk _ _ :: l, x, R, hg, h => slotRegs_wk l x.2 R hg.2 h
  | .map _ _ :: l, x, R, hg, h => slotRegs_wk l x.2 R hg.2 h

theorem headBlk_wk {bs : List Nat} {s : SSt} : ∀ (ls : List RSlot) (x : (tupT (rtys ls)).T) (i : Nat) (l : List SV), good bs ls s x → headBlk ls x i = some l → WkL (nthN bs) bs.length (avL (nthSB s.heap (nthN bs i))) (avL l)
  | [], _, _, _, _, h => by cases h
  | .reg _ _ :: l, x, i, c, hg, h => headBlk_wk l x.2 i c hg.2 h
  | .own r e τ b :: l, x, i, c, hg, h => by
    simp only [headBlk] at h
    split at h
    · rename_i e1
      subst e1
      injection h with h
      subst h
      rw [hg.1.2.2]
      exact ⟨wk_tok rfl, trivial⟩
    · exact headBlk_wk l x.2 i c hg.2 h
  | .blk τ b :: l, x, i, c, hg, h => by
    simp only [headBlk] at h
    split at h
    · rename_i e1
      subst e1
      injection h with h
      subst h
      rw [hg.1.2.1]
      exact hg.1.2.2
    · exact headBlk_wk l x.2 i c hg.2 h
  | .map τ b :: l, x, i, c, hg, h => by
    simp only [headBlk] at h
    split at h
    · rename_i e1
      subst e1
      injection h with h
      subst h
      rw [hg.1.2.1, hg.1.2.2]
      exact ⟨wk_mps rfl, trivial⟩
    · exact headBlk_wk l x.2 i c hg.2 h

def chkB (nx : Nat) (W : Nat → Bool) (ls : List RSlot) (s1 s : SSt) (bs : List Nat) : Bool :=
  distinct bs && isId 0 nx bs && fixR W bs 0 s1.regs && fixH ls bs 0 s1.heap

/-- From a state that differs from s1 where it may, to the head. -/
theorem head_ent {nx : Nat} {W : Nat → Bool} {ls : List RSlot} {s1 s : SSt} {x : (tupT (rtys ls)).T} (hc : chkB nx W ls s1 s (bsFrom (srcB ls s) 0 s1.heap.length) = true) (hg : good (bsFrom (srcB ls s) 0 s1.heap.length) ls s x)
    (hf : Fz W (fun b => decide (b < s1.heap.length) && !isSlotB ls b) s1 s) : Ent nx s.av (headS W ls s1 x).av := by
  simp only [chkB, Bool.and_eq_true] at hc
  obtain ⟨⟨⟨h1, h2⟩, h3⟩, h4⟩ := hc
  generalize hbs : bsFrom (srcB ls s) 0 s1.heap.length = bs at *
  have hlen : bs.length = s1.heap.length := by rw [← hbs, bsFrom_length]
  have hget : ∀ i, i < s1.heap.length → nthN bs i = srcB ls s i := fun i hi => by rw [← hbs, bsFrom_get _ _ _ _ hi, Nat.zero_add]
  refine ent_of bs ⟨h2, h1⟩ ?_ ?_
  · refine wkL_of _ _ (by simp only [headS, slotRegs_length, dropW_length]; exact hf.len) fun j _ => ?_
    refine slotRegs_wk ls x _ hg (fun j => ?_) j
    rw [dropW_get, Nat.zero_add]
    split
    · exact .non _
    · rename_i hw
      have hw : W j = false := by simpa using hw
      rw [hf.regs j hw]
      exact refsOk_wk _ (fixR_get _ 0 j h3 (by rw [Nat.zero_add]; exact hw))
  · refine wkHs_of bs _ (by simp only [headS, SSt.av, List.length_map, headH_length]; exact hlen) fun i hi => ?_
    have hi' : i < s1.heap.length := by omega
    show WkL _ _ (nthB (s.heap.map avL) _) (nthB ((headH ls x 0 s1.heap).map avL) i)
    rw [nthSB_av, nthSB_av, headH_get _ _ _ _ _ hi', Nat.zero_add]
    cases hb : headBlk ls x i with
    | some l => exact headBlk_wk ls x i l hg hb
    | none =>
      have hns : isSlotB ls i = false := by
        cases hq : isSlotB ls i with
        | false => rfl
        | true =>
          exfalso
          have key : ∀ (ls : List RSlot) (x : (tupT (rtys ls)).T), isSlotB ls i = true → headBlk ls x i ≠ none := by
            intro ls
            induction ls with
            | nil => intro x h; cases h
            | cons c l ih =>
              intro x h
              cases c with
              | reg r v => exact ih x.2 h
              | own r e τ b =>
                simp only [isSlotB, Bool.or_eq_true, decide_eq_true_eq] at h
                simp only [headBlk]
                split
                · simp
                · rcases h with h | h
                  · contradiction
                  · exact ih x.2 h
              | blk τ b =>
                simp only [isSlotB, Bool.or_eq_true, decide_eq_true_eq] at h
                simp only [headBlk]
                split
                · simp
                · rcases h with h | h
                  · contradiction
                  · exact ih x.2 h
              | map τ b =>
                simp only [isSlotB, Bool.or_eq_true, decide_eq_true_eq] at h
                simp only [headBlk]
                split
                · simp
                · rcases h with h | h
                  · contradiction
                  · exact ih x.2 h
          exact key ls x hq hb
      rw [hget i hi', srcB_not hns, hf.heap i hi' (by simp [hi', hns])]
      exact refsL_wk _ (fun c _ => refsOk_wk c) (fixH_get _ 0 i h4 (by rw [Nat.zero_add]; exact hns))

end Go.Ab
