/- Code and functions, symbolically: from a tree to a contract. -/
import Derived.Test.YtpgagefaneaioaaU5
namespace Go.Ab
open Go Go.RowKit
set_option linter.unusedVariables false
set_option linter.unusedSimpArgs false

/-- What is told of the loops. -/
inductive HT where
  | nil
  | node (l r : HT)
  | loop (slots : List Slot) (b : HT)
def HT.l : HT → HT
  | .node l _ => l
  | _ => .nil
def HT.r : HT → HT
  | .node _ r => r
  | _ => .nil

def annot : Code → List (List Slot) → HT × List (List Slot)
  | .seq a b, hs => let p := annot a hs; let q := annot b p.2; (.node p.1 q.1, q.2)
  | .cond _ a b, hs => let p := annot a hs; let q := annot b p.2; (.node p.1 q.1, q.2)
  | .block _ c, hs => annot c hs
  | .loop c, hs => match hs with
    | h :: t => let p := annot c t; (.loop h p.1, p.2)
    | [] => (.nil, [])
  | _, hs => (.nil, hs)

def opDsts : List Oper → List Nat
  | [] => []
  | o :: r => match o.dst with
    | some d => d :: opDsts r
    | none => opDsts r
/-- The registers that a piece of code writes. -/
def dstsOf : Code → List Nat
  | .region _ ops _ => opDsts ops.toList
  | .seq a b => dstsOf a ++ dstsOf b
  | .cond _ a b => dstsOf a ++ dstsOf b
  | .block _ c => dstsOf c
  | .loop c => dstsOf c
  | _ => []

def allN (p : Nat → Bool) : List Nat → Bool
  | [] => true
  | x :: r => p x && allN p r
theorem allN_mem {p : Nat → Bool} : ∀ {l : List Nat}, allN p l = true → ∀ x ∈ l, p x = true
  | [], _, _, h => by cases h
  | y :: r, h, x, hx => by
    simp only [allN, Bool.and_eq_true] at h
    rcases List.mem_cons.1 hx with rfl | hx
    · exact h.1
    · exact allN_mem h.2 x hx
def slotBs : List RSlot → List Nat
  | [] => []
  | .reg _ _ :: l => slotBs l
  | .own _ _ _ b :: l => b :: slotBs l
  | .blk _ b :: l => b :: slotBs l
  | .map _ b :: l => b :: slotBs l
theorem slotBs_mem : ∀ {ls : List RSlot} {i : Nat}, isSlotB ls i = true → i ∈ slotBs ls
  | [], _, h => by cases h
  | .reg _ _ :: l, i, h => slotBs_mem (ls := l) h
  | .own _ _ _ b :: l, i, h => by
    simp only [isSlotB, Bool.or_eq_true, decide_eq_true_eq] at h
    rcases h with rfl | h
    · simp [slotBs]
    · exact List.mem_cons_of_mem _ (slotBs_mem h)
  | .blk _ b :: l, i, h => by
    simp only [isSlotB, Bool.or_eq_true, decide_eq_true_eq] at h
    rcases h with rfl | h
    · simp [slotBs]
    · exact List.mem_cons_of_mem _ (slotBs_mem h)
  | .map _ b :: l, i, h => by
    simp only [isSlotB, Bool.or_eq_true, decide_eq_true_eq] at h
    rcases h with rfl | h
    · simp [slotBs]
    · exact List.mem_cons_of_mem _ (slotBs_mem h)

section
variable {ρ : Type}

def chkK (nx : Nat) (W : Nat → Bool) (ls : List RSlot) (s1 s : SSt) (k : (tupT (rtys ls)).T → Tr ρ) : Tr ρ :=
  if chkB nx W ls s1 s (bsFrom (srcB ls s) 0 s1.heap.length) = true then conformK (srcB ls s) s1.heap.length ls s k else .fail

theorem chkK_ok {nx : Nat} {W : Nat → Bool} {ls : List RSlot} {s1 s : SSt} {k : (tupT (rtys ls)).T → Tr ρ} {r : ρ} (h : (chkK nx W ls s1 s k).run = some r)
    (hf : Fz W (fun b => decide (b < s1.heap.length) && !isSlotB ls b) s1 s) : ∃ x, (k x).run = some r ∧ Ent nx s.av (headS W ls s1 x).av := by
  replace h := ite_run h; obtain ⟨h1, h⟩ := h
  obtain ⟨x, h2, h3⟩ := conformK_ok (bs := bsFrom (srcB ls s) 0 s1.heap.length) (bsFrom_length _ _ _) (fun b hb => by rw [bsFrom_get _ _ _ _ hb, Nat.zero_add]) ls s k h
  exact ⟨x, h2, head_ent h1 h3 hf⟩

def xc (X : List XTy) (C : List Callee) (nx : Nat) : {ρ : Type} → Code → HT → (Nat → Bool) → (Nat → Bool) → SSt → (AEx → SSt → Tr ρ) → Tr ρ
  | _, .skip, _, _, _, s, K => K .nrm s
  | _, .region _ ops dr, _, W, Z, s, K => xops X C W Z ops.toList dr ops.toList s [] fun s' fs => if dr = true then (if orderB ops (masks ops) fs = true then K .nrm s' else .fail) else K .nrm s'
  | _, .seq a b, h, W, Z, s, K => xc X C nx a h.l W Z s fun x s' => match x with
    | .nrm => xc X C nx b h.r W Z s' K
    | .ext id => K (.ext id) s'
    | .ret => K .ret s'
  | _, .cond c a b, h, W, Z, s, K => match evS s.regs c with
    | .tt => xc X C nx a h.l W Z s K
    | .ff => xc X C nx b h.r W Z s K
    | .bool t => .br t (xc X C nx a h.l W Z s K) (xc X C nx b h.r W Z s K)
    | _ => .fail
  | _, .block id c, h, W, Z, s, K => xc X C nx c h W Z s fun x s' => match x with
    | .ext id' => if id' = id then K .nrm s' else K (.ext id') s'
    | .nrm => K .nrm s'
    | .ret => K .ret s'
  | _, .loop c, h, W, Z, s, K => match h with
    | .loop slots sub => ownK slots s fun s1 => match resolve slots s1 with
      | none => .fail
      | some ls => if slotW (fun r => memN r (dstsOf c)) slots = true ∧ rslotW (fun r => memN r (dstsOf c)) ls = true ∧ allN W (dstsOf c) = true ∧ allN (fun b => !Z b) (slotBs ls) = true then
          chkK nx (fun r => memN r (dstsOf c)) ls s1 s1 fun x0 => .iter (tupT (rtys ls)) (fun x => headK (fun r => memN r (dstsOf c)) ls s1 x fun sh =>
            xc X C nx c sub (fun r => memN r (dstsOf c)) (fun b => decide (b < s1.heap.length) && !isSlotB ls b) sh fun ex s' => match ex with
              | .nrm => ownK slots s' fun s2 => chkK nx (fun r => memN r (dstsOf c)) ls s1 s2 fun x' => .ret (.inl x')
              | .ext id => (K (.ext id) s').map .inr
              | .ret => (K .ret s').map .inr) x0
        else .fail
    | _ => .fail
  | _, .exit id, _, _, _, s, K => K (.ext id) s
  | _, .ret, _, _, _, s, K => K .ret s
  | _, .label _, _, _, _, s, K => K .nrm s
  | _, _, _, _, _, _, _ => .fail

variable {P : Program} {X : List XTy} {C : List Callee}

theorem map_inr {σ : Type} {t : Tr ρ} {z : σ ⊕ ρ} (h : (t.map Sum.inr : Tr (σ ⊕ ρ)).run = some z) : ∃ r, z = .inr r ∧ t.run = some r := by
  rw [Tr.run_map] at h
  cases q : t.run with
  | none => rw [q] at h; cases h
  | some r => rw [q] at h; injection h with h; exact ⟨r, h.symm, rfl⟩

theorem iter_last {σ : Type} {b : σ → Option (σ ⊕ ρ)} {r : ρ} : ∀ {n : Nat} {x : σ}, iterF b (n + 1) x = some r → (∃ x', b x = some (.inl x') ∧ iterF b n x' = some r) ∨ b x = some (.inr r) := by
  intro n x h
  simp only [iterF] at h
  split at h
  · cases h
  · rename_i x' q; exact .inl ⟨x', q, h⟩
  · rename_i r' q; injection h with h; subst h; exact .inr q

theorem xc_ok (hC : ∀ c ∈ C, c.ok P) {nx : Nat} : ∀ {ρ : Type} (c : Code) (h : HT) (W Z : Nat → Bool) (s : SSt) (K : AEx → SSt → Tr ρ) (r : ρ) (Q : AEx → ASt → Prop), (xc X C nx c h W Z s K).run = some r →
    (∀ x s', Fz W Z s s' → (K x s').run = some r → Q x s'.av) → awp P (TX X) nx c s.av Q
  | _, .skip, h, W, Z, s, K, r, Q, hr, hk => hk .nrm s (Fz.refl _ _ _) hr
  | _, .region id ops dr, h, W, Z, s, K, r, Q, hr, hk => by
    refine xops_ok hC ops.toList s [] _ r _ hr fun s' fs hf hq => ?_
    simp only [regK]
    cases dr with
    | false => exact ⟨fun e => (by cases e), hk .nrm s' hf hq⟩
    | true =>
      simp only [if_true] at hq
      replace hq := ite_run hq
      exact ⟨fun _ => hq.1, hk .nrm s' hf hq.2⟩
  | _, .seq a b, h, W, Z, s, K, r, Q, hr, hk => by
    refine xc_ok hC a h.l W Z s _ r _ hr fun x s' hf hq => ?_
    cases x with
    | nrm => exact xc_ok hC b h.r W Z s' K r Q hq fun x s'' hf' hq' => hk x s'' (hf.trans hf') hq'
    | ext id => exact hk (.ext id) s' hf hq
    | ret => exact hk .ret s' hf hq
  | _, .cond c a b, h, W, Z, s, K, r, Q, hr, hk => by
    simp only [xc] at hr
    simp only [awp, evS_av]
    split at hr
    · rename_i q
      rw [q]
      exact ⟨fun _ => xc_ok hC a h.l W Z s K r Q hr hk, fun e => by cases e⟩
    · rename_i q
      rw [q]
      exact ⟨fun e => (by cases e), fun _ => xc_ok hC b h.r W Z s K r Q hr hk⟩
    · rename_i t q
      rw [q]
      obtain ⟨h1, h2⟩ := run_br hr
      exact ⟨fun e => xc_ok hC a h.l W Z s K r Q (h1 e) hk, fun e => xc_ok hC b h.r W Z s K r Q (h2 e) hk⟩
    · cases hr
  | _, .block id c, h, W, Z, s, K, r, Q, hr, hk => by
    refine xc_ok hC c h W Z s _ r _ hr fun x s' hf hq => ?_
    cases x with
    | nrm => exact hk .nrm s' hf hq
    | ext id' =>
      simp only at hq
      simp only [blkK]
      split at hq
      · rename_i e; rw [if_pos e]; exact hk .nrm s' hf hq
      · rename_i e; rw [if_neg e]; exact hk (.ext id') s' hf hq
    | ret => exact hk .ret s' hf hq
  | ρ, .loop c, h, W, Z, s, K, r, Q, hr, hk => by
    cases h with
    | nil => cases hr
    | node a b => cases hr
    | loop slots sub =>
    simp only [xc] at hr
    obtain ⟨s1, ho, hr⟩ := ownK_run _ _ _ hr
    split at hr
    · cases hr
    rename_i ls hls
    replace hr := ite_run hr; obtain ⟨⟨hw, hw2, hWd, hZd⟩, hr⟩ := hr
    generalize hW' : (fun r => memN r (dstsOf c)) = W' at *
    generalize hZ' : (fun b => decide (b < s1.heap.length) && !isSlotB ls b) = Z' at *
    obtain ⟨hf1, hh1⟩ := ownify_fz (W := W') (Z := fun _ => true) slots s s1 hw ho
    obtain ⟨x0, hr, he0⟩ := chkK_ok hr (hZ' ▸ Fz.refl _ _ _)
    have hWW : ∀ r, W r = false → W' r = false := fun r hr' => by
      cases hq : W' r with
      | false => rfl
      | true =>
        subst hW'
        have := allN_mem hWd r (memN_iff.1 hq)
        rw [hr'] at this; cases this
    have hZZ : ∀ b, Z b = true → isSlotB ls b = false := fun b hb => by
      cases hq : isSlotB ls b with
      | false => rfl
      | true =>
        have := allN_mem hZd b (slotBs_mem hq)
        rw [hb] at this; cases this
    have hheadF : ∀ x, Fz W Z s (headS W' ls s1 x) := fun x => by
      refine ⟨?_, fun r hr' => ?_, ?_, fun b hb hz => ?_⟩
      · simp only [headS, slotRegs_length, dropW_length]; exact hf1.len
      · simp only [headS]
        rw [slotRegs_not _ _ _ hw2 r (hWW r hr'), dropW_get, Nat.zero_add, if_neg (by rw [hWW r hr']; simp)]
        exact hf1.regs r (hWW r hr')
      · simp only [headS, headH_length]; exact hf1.hl
      · simp only [headS]
        rw [headH_get _ _ _ _ _ (Nat.lt_of_lt_of_le hb hf1.hl), Nat.zero_add, headBlk_not _ _ _ (hZZ b hz)]
        exact hh1 b hb
    have hheadF2 : ∀ x, Fz W' Z' s1 (headS W' ls s1 x) := fun x => by
      refine ⟨?_, fun r hr' => ?_, ?_, fun b hb hz => ?_⟩
      · simp only [headS, slotRegs_length, dropW_length]
      · simp only [headS]
        rw [slotRegs_not _ _ _ hw2 r hr', dropW_get, Nat.zero_add, if_neg (by rw [hr']; simp)]
      · simp only [headS, headH_length]; exact Nat.le_refl _
      · simp only [headS]
        subst hZ'
        simp only [Bool.and_eq_true, Bool.not_eq_true'] at hz
        rw [headH_get _ _ _ _ _ hb, Nat.zero_add, headBlk_not _ _ _ hz.2]
        rfl
    simp only [Tr.run] at hr
    let body : (tupT (rtys ls)).T → Option ((tupT (rtys ls)).T ⊕ ρ) := fun y => Tr.run (headK W' ls s1 y fun sh => xc X C nx c sub W' Z' sh fun ex s' => match ex with
      | .nrm => ownK slots s' fun s2 => chkK nx W' ls s1 s2 fun x' => .ret (.inl x')
      | .ext id => (K (.ext id) s').map .inr
      | .ret => (K .ret s').map .inr)
    refine ⟨fun n a => ∃ x, a = (headS W' ls s1 x).av ∧ iterF body n x = some r, ⟨_, FUEL, (ownify_ent slots s s1 ho).trans he0, x0, rfl, hr⟩, fun n a hI => ?_⟩
    obtain ⟨x, rfl, hit⟩ := hI
    cases n with
    | zero => cases hit
    | succ n =>
      have hb := iter_last hit
      have main : ∀ z, body x = some z → (∀ x', z = .inl x' → iterF body n x' = some r) → (∀ r', z = .inr r' → r' = r) → awp P (TX X) nx c (headS W' ls s1 x).av (loopK nx (fun n a => ∃ x, a = (headS W' ls s1 x).av ∧ iterF body n x = some r) (n + 1) Q) := by
        intro z hz hz1 hz2
        simp only [body, headK_eq] at hz
        refine xc_ok hC c sub W' Z' _ _ z _ hz fun ex s' hf hq => ?_
        cases ex with
        | nrm =>
          simp only at hq
          obtain ⟨s2, ho2, hq⟩ := ownK_run _ _ _ hq
          obtain ⟨hf2, hh2⟩ := ownify_fz (W := W') (Z := Z') slots s' s2 hw ho2
          have hfull : Fz W' Z' s1 s2 := ((hheadF2 x).trans hf).trans hf2
          subst hZ'
          obtain ⟨x', hq, he⟩ := chkK_ok hq hfull
          injection hq with hq
          exact ⟨_, n, (ownify_ent slots s' s2 ho2).trans he, Nat.lt_succ_self _, x', rfl, hz1 x' hq.symm⟩
        | ext id =>
          simp only at hq
          obtain ⟨r', e1, e2⟩ := map_inr hq
          have := hz2 r' e1
          subst this
          refine hk (.ext id) s' ?_ e2
          refine (hheadF x).trans ⟨hf.len, fun r hr' => hf.regs r (hWW r hr'), hf.hl, fun b hb' hz' => ?_⟩
          refine hf.heap b hb' ?_
          subst hZ'
          have : b < s1.heap.length := by simpa [headS, headH_length] using hb'
          simp [this, hZZ b hz']
        | ret =>
          simp only at hq
          obtain ⟨r', e1, e2⟩ := map_inr hq
          have := hz2 r' e1
          subst this
          refine hk .ret s' ?_ e2
          refine (hheadF x).trans ⟨hf.len, fun r hr' => hf.regs r (hWW r hr'), hf.hl, fun b hb' hz' => ?_⟩
          refine hf.heap b hb' ?_
          subst hZ'
          have : b < s1.heap.length := by simpa [headS, headH_length] using hb'
          simp [this, hZZ b hz']
      rcases hb with ⟨x', h1, h2⟩ | h1
      · exact main _ h1 (fun y hy => by injection hy with hy; subst hy; exact h2) (fun r' h => by cases h)
      · exact main _ h1 (fun y hy => by cases hy) (fun r' h => by injection h with h; exact h.symm)
  | _, .exit id, h, W, Z, s, K, r, Q, hr, hk => hk (.ext id) s (Fz.refl _ _ _) hr
  | _, .ret, h, W, Z, s, K, r, Q, hr, hk => hk .ret s (Fz.refl _ _ _) hr
  | _, .label _, h, W, Z, s, K, r, Q, hr, hk => hk .nrm s (Fz.refl _ _ _) hr
  | _, .rangeFunc .., h, W, Z, s, K, r, Q, hr, hk => by simp [xc, Tr.run] at hr
  | _, .scope _, h, W, Z, s, K, r, Q, hr, hk => by simp [xc, Tr.run] at hr
  | _, .goto _, h, W, Z, s, K, r, Q, hr, hk => by simp [xc, Tr.run] at hr
  | _, .refuse _, h, W, Z, s, K, r, Q, hr, hk => by simp [xc, Tr.run] at hr

/-! ### The end of a function -/

def resVals (X : List XTy) (s : SSt) : List ResultVar → Option (List SV)
  | [] => some []
  | .tmp t :: r => match resVals X s r with
    | some vs => some (nthS s.regs t :: vs)
    | none => none
  | .cell a t :: r => if (nthX X t).kd.isOther = false then (match nthS s.regs a with
    | .ptr b o => if (nthX X t).kd.isAgg = true then (if allS AV.plain (rdS (nthSB s.heap b) o (nthX X t).size) = true then (match resVals X s r with
        | some vs => some (.agg (rdS (nthSB s.heap b) o (nthX X t).size) :: vs)
        | none => none) else none)
      else if (nthS (nthSB s.heap b) o).av.plain = true then (match resVals X s r with
        | some vs => some (nthS (nthSB s.heap b) o :: vs)
        | none => none) else none
    | _ => none) else none
theorem resVals_ok {s : SSt} : ∀ (rs : List ResultVar) (vs : List SV) (k : List AV → Prop), resVals X s rs = some vs → k (avL vs) → resK (TX X) s.av rs k
  | [], vs, k, h, hk => by injection h with h; subst h; exact hk
  | .tmp t :: r, vs, k, h, hk => by
    simp only [resVals] at h
    split at h
    · rename_i ws q
      injection h with h
      subst h
      show resK _ _ r fun vs => k (nth s.av.regs t :: vs)
      refine resVals_ok r ws _ q ?_
      rw [show nth s.av.regs t = (nthS s.regs t).av from nthS_av _ _]
      exact hk
    · cases h
  | .cell a t :: r, vs, k, h, hk => by
    simp only [resVals] at h
    replace h := Option.ite_none_right_eq_some.1 h
    obtain ⟨h0, h⟩ := h
    refine ⟨h0, ?_⟩
    rw [show nth s.av.regs a = (nthS s.regs a).av from nthS_av _ _]
    split at h
    · rename_i b o q
      rw [q]
      simp only [SV.av]
      split at h
      · rename_i hag
        rw [if_pos (show (TX X t).kd.isAgg = true from hag)]
        replace h := Option.ite_none_right_eq_some.1 h
        obtain ⟨h1, h⟩ := h
        have hrd : rdc (s.av.view.cell b) o (TX X t).size = avL (rdS (nthSB s.heap b) o (nthX X t).size) := rdS_av _ _ (fun j => cell_av s b j) _ _
        split at h
        · rename_i ws q2
          injection h with h
          subst h
          rw [hrd]
          exact ⟨by rw [allS_av]; exact h1, resVals_ok r ws _ q2 hk⟩
        · cases h
      · rename_i hag
        rw [if_neg (show ¬ (TX X t).kd.isAgg = true from hag)]
        replace h := Option.ite_none_right_eq_some.1 h
        obtain ⟨h1, h⟩ := h
        rw [cell_av]
        split at h
        · rename_i ws q2
          injection h with h
          subst h
          exact ⟨h1, resVals_ok r ws _ q2 hk⟩
        · cases h
    · cases h

def getResK {α : Type} : (rs : List RK) → List SV → SSt → ((tupT (RK.tys rs)).T → List Nat → Tr α) → Tr α
  | [], [], _, k => k () []
  | .val v :: r, c :: cs, s, k => match v.get c with
    | some x => getResK r cs s fun y os => k (x, y) os
    | none => .fail
  | .own e τ :: r, c :: cs, s, k => match c with
    | .ow b e' τ' xs => if h : τ' = τ then (if e' = e then (match nthSB s.heap b with
      | [.tok n] => .req (decide (n = xs.length)) (getResK r cs s fun y os => k (h ▸ xs, y) (b :: os))
      | _ => .fail) else .fail) else .fail
    | _ => .fail
  | .ptr τ :: r, c :: cs, s, k => match c with
    | .nilp => getResK r cs s fun y os => k ((false, τ.d), y) os
    | .ptr b o => if o = 0 then (match gtRow τ (nthSB s.heap b) with
      | some x => getResK r cs s fun y os => k ((true, x), y) (b :: os)
      | none => .fail) else .fail
    | _ => .fail
  | _, _, _, _ => .fail

def getBls : (bl : List BK) → Nat → List (List SV) → Option (tupT (BK.tys bl)).T
  | [], _, _ => some ()
  | .dat τ :: r, i, H => match gtRow τ (nthSB H i) with
    | some x => match getBls r (i + 1) H with
      | some y => some (x, y)
      | none => none
    | none => none
  | .ref j :: r, i, H => if isRef (nthSB H i) j = true then getBls r (i + 1) H else none

def endT (X : List XTy) (res : List ResultVar) (rs : List RK) (bl : List BK) (s : SSt) : Tr ((tupT (RK.tys rs)).T × (tupT (BK.tys bl)).T) :=
  match resVals X s res with
    | some vs => getResK rs vs s fun x os => match getBls bl 0 s.heap with
      | some y => if distinct (bsFrom id 0 bl.length ++ os) = true ∧ refsIn bl.length bl = true then .ret (x, y) else .fail
      | none => .fail
    | none => .fail
def endK (X : List XTy) (res : List ResultVar) (rs : List RK) (bl : List BK) : AEx → SSt → Tr ((tupT (RK.tys rs)).T × (tupT (BK.tys bl)).T)
  | .ext _, _ => .fail
  | _, s => endT X res rs bl s

theorem resS_len (n m : Nat) : ∀ (rs : List RK) (y : (tupT (RK.tys rs)).T), (resS n rs y).length = (resS m rs y).length := by
  intro rs
  induction rs generalizing n m with
  | nil => intro y; rfl
  | cons c rs ih =>
    intro y
    cases c with
    | val v => simp only [resS, List.length_cons, ih n m]
    | own e τ => simp only [resS, List.length_cons, ih (n + 1) (m + 1)]
    | ptr τ =>
      simp only [resS]
      cases y.1.1
      · simp only [cond_false, List.length_cons, ih n m]
      · simp only [cond_true, List.length_cons, ih (n + 1) (m + 1)]

/-- What comes out, by values and blocks: the numbers of the blocks stand in pre ++ os. -/
theorem getResK_ok {α : Type} {s : SSt} {r : α} : ∀ (rs : List RK) (vs : List SV) (k : (tupT (RK.tys rs)).T → List Nat → Tr α), (getResK rs vs s k).run = some r →
    ∃ x os, (k x os).run = some r ∧ os.length = (newsS rs x).length ∧ vs.length = (resS 0 rs x).length ∧
      (∀ pre : List Nat, ∀ N, N = (pre ++ os).length → ∀ bs, bs = pre ++ os → WkL (nthN bs) N (avL vs) (avL (resS pre.length rs x))) ∧ (∀ g N, WkHs g N s.av.heap os ((newsS rs x).map avL))
  | [], [], k, h => ⟨(), [], h, rfl, rfl, fun _ _ _ _ _ => trivial, fun _ _ => trivial⟩
  | [], _ :: _, k, h => by cases h
  | .val v :: rs, [], k, h => by cases h
  | .own _ _ :: rs, [], k, h => by cases h
  | .ptr _ :: rs, [], k, h => by cases h
  | .ptr τ :: rs, c :: cs, k, h => by
    simp only [getResK] at h
    split at h
    · obtain ⟨y, os, h1, h2, h3, h4, h5⟩ := getResK_ok rs cs _ h
      exact ⟨((false, τ.d), y), os, h1, h2, by simp [resS, h3], fun pre N hN bs hbs => ⟨wk_nilp, h4 pre N hN bs hbs⟩, h5⟩
    · rename_i b o
      replace h := ite_run h; obtain ⟨ho, h⟩ := h
      split at h
      · rename_i x q
        obtain ⟨y, os, h1, h2, h3, h4, h5⟩ := getResK_ok rs cs _ h
        subst ho
        refine ⟨((true, x), y), b :: os, h1, by simp [newsS, h2], ?_, fun pre N hN bs hbs => ⟨?_, ?_⟩, fun g N => ⟨?_, h5 g N⟩⟩
        · simp only [resS, cond_true, List.length_cons, h3, resS_len (0 + 1) 0]
        · subst hbs
          refine wk_ptr rfl (by rw [hN]; simp) ?_
          clear h4 hN
          induction pre with
          | nil => rfl
          | cons p pre ih => exact ih
        · have := h4 (pre ++ [b]) N (by rw [hN]; simp) bs (by rw [hbs]; simp)
          simpa using this
        · show WkL g N (nthB (s.heap.map avL) b) (avL (τ.svs x))
          rw [nthSB_av, τ.svs_av]
          exact (gtRow_lo q).wks
      · cases h
    · cases h
  | .val v :: rs, c :: cs, k, h => by
    simp only [getResK] at h
    split at h
    · rename_i x q
      obtain ⟨y, os, h1, h2, h3, h4, h5⟩ := getResK_ok rs cs _ h
      exact ⟨(x, y), os, h1, h2, by simp [resS, h3], fun pre N hN bs hbs => ⟨VT.get_wk q, h4 pre N hN bs hbs⟩, h5⟩
    · cases h
  | .own e τ :: rs, c :: cs, k, h => by
    simp only [getResK] at h
    split at h
    · rename_i b e' τ' xs
      split at h
      · rename_i hτ
        replace h := ite_run h; obtain ⟨he, h⟩ := h
        split at h
        · rename_i n q
          replace h := run_req h; obtain ⟨hn, h⟩ := h
          have hn := of_decide_eq_true hn
          obtain ⟨y, os, h1, h2, h3, h4, h5⟩ := getResK_ok rs cs _ h
          subst hτ; subst he
          refine ⟨(xs, y), b :: os, h1, by simp [newsS, h2], ?_, fun pre N hN bs hbs => ⟨?_, ?_⟩, fun g N => ⟨?_, h5 g N⟩⟩
          · simp only [resS, List.length_cons, h3, resS_len (0 + 1) 0]
          · subst hbs
            refine wk_ow rfl rfl rfl (by rw [hN]; simp) ?_
            clear h4 hN
            induction pre with
            | nil => rfl
            | cons p pre ih => exact ih
          · have := h4 (pre ++ [b]) N (by rw [hN]; simp) bs (by rw [hbs]; simp)
            simpa using this
          · show WkL g N (nthB (s.heap.map avL) b) _
            rw [nthSB_av, q, hn]
            exact ⟨wk_tok rfl, trivial⟩
        · cases h
      · cases h
    · cases h

theorem nthN_from (l : List Nat) : ∀ (n i j : Nat), j < n → nthN (bsFrom id i n ++ l) j = i + j
  | 0, _, _, h => by omega
  | n + 1, i, 0, _ => rfl
  | n + 1, i, j + 1, h => by
    show nthN (bsFrom id (i + 1) n ++ l) j = _
    rw [nthN_from l n (i + 1) j (by omega)]; omega
theorem getBls_ok {s : SSt} {g : Nat → Nat} {N : Nat} : ∀ (bl : List BK) (i : Nat) (y : (tupT (BK.tys bl)).T), (∀ j, .ref j ∈ bl → j < N ∧ g j = j) → getBls bl i s.heap = some y → WkHs g N s.av.heap (bsFrom id i bl.length) ((blocksS id bl y).map avL)
  | [], _, _, _, _ => trivial
  | .dat τ :: r, i, y, hr, h => by
    simp only [getBls] at h
    split at h
    · rename_i x q
      split at h
      · rename_i z q2
        injection h with h
        subst h
        refine ⟨?_, getBls_ok r (i + 1) z (fun j hj => hr j (List.mem_cons_of_mem _ hj)) q2⟩
        show WkL g N (nthB (s.heap.map avL) (id i)) (avL (τ.svs x))
        rw [nthSB_av, τ.svs_av]
        exact (gtRow_lo q).wks
      · cases h
    · cases h
  | .ref j :: r, i, y, hr, h => by
    simp only [getBls] at h
    replace h := Option.ite_none_right_eq_some.1 h
    obtain ⟨h1, h⟩ := h
    refine ⟨?_, getBls_ok r (i + 1) y (fun j hj => hr j (List.mem_cons_of_mem _ hj)) h⟩
    show WkL g N (nthB (s.heap.map avL) (id i)) [.ptr j 0]
    obtain ⟨w1, w2⟩ := hr j (by simp)
    rw [nthSB_av, show nthSB s.heap (id i) = _ from isRef_eq h1]
    exact ⟨wk_ptr rfl w1 w2.symm, trivial⟩
theorem refsIn_mem {n : Nat} : ∀ {bl : List BK}, refsIn n bl = true → ∀ j, .ref j ∈ bl → j < n
  | [], _, _, h => by cases h
  | .dat _ :: r, h, j, hj => by
    rcases List.mem_cons.1 hj with hj | hj
    · cases hj
    · exact refsIn_mem (bl := r) h j hj
  | .ref i :: r, h, j, hj => by
    simp only [refsIn, Bool.and_eq_true, decide_eq_true_eq] at h
    rcases List.mem_cons.1 hj with hj | hj
    · injection hj with hj; omega
    · exact refsIn_mem h.2 j hj
theorem wkHs_app {g : Nat → Nat} {n : Nat} {H : List (List AV)} : ∀ {a b : List Nat} {A B : List (List AV)}, WkHs g n H a A → WkHs g n H b B → WkHs g n H (a ++ b) (A ++ B)
  | [], _, [], _, _, h => h
  | x :: a, _, y :: A, _, h, h' => ⟨h.1, wkHs_app h.2 h'⟩
  | [], _, _ :: _, _, h, _ => h.elim
  | _ :: _, _, [], _, h, _ => h.elim
theorem isId_from (l : List Nat) : ∀ (n i : Nat), isId i n (bsFrom id i n ++ l) = true
  | 0, _ => rfl
  | n + 1, i => by simp [bsFrom, isId, isId_from l n]
theorem wk_sing {g : Nat → Nat} {n : Nat} : ∀ {a b : List AV}, WkL g n a b → Wk g n (sing a) (sing b)
  | [], [], _ => wk_tup trivial
  | [c], [d], h => h.1
  | c :: c' :: cs, d :: d' :: ds, h => wk_tup h
  | [], _ :: _, h => h.elim
  | _ :: _, [], h => h.elim
  | [_], _ :: _ :: _, h => h.2.elim
  | _ :: _ :: _, [_], h => h.2.elim

def xfun (X : List XTy) (C : List Callee) (fn : Func) (ps : List PK) (bl : List BK) (rs : List RK) (hs : List (List Slot)) (x : (tupT (PK.tys ps)).T) (y : (tupT (BK.tys bl)).T) : Tr ((tupT (RK.tys rs)).T × (tupT (BK.tys bl)).T) :=
  match fn.body with
  | none => .fail
  | some code => xc X C bl.length code (annot code hs).1 (fun _ => true) (fun _ => false) ⟨argsS ps x ++ List.replicate (fn.ntmps - ps.length) .und, blocksS id bl y⟩ (endK X fn.results.toList rs bl)

theorem argsS_length : ∀ (ps : List PK) (x : (tupT (PK.tys ps)).T), (argsS ps x).length = ps.length
  | [], _ => rfl
  | .val v :: r, x => by simp [argsS, argsS_length r]
  | .ptr i :: r, x => by simp [argsS, argsS_length r]
  | .fn f caps :: r, x => by simp [argsS, argsS_length r]
  | .any :: r, x => by simp [argsS, argsS_length r]

theorem callee_ok (hT : TabOk P (TX X)) (hm : P.follows .mixedOrders = true) (hC : ∀ c ∈ C, c.ok P) {c : Callee} {fn : Func} (hf : P.funcs[c.f]? = some fn) (hn : (fn.name == "runtime.NumGoroutine") = false) (hany : fn.body.isNone = false) (hs : List (List Slot))
    (hrun : ∀ x y r y', c.fn x y = some (r, y') → (xfun X C fn c.ps c.bl c.rs hs x y).run = some (r, y')) : c.ok P := by
  · refine ⟨⟨fn, hf, hn, hany⟩, fun x y r y' h => ?_⟩
    have hr := hrun x y r y' h
    unfold xfun at hr
    split at hr
    · cases hr
    rename_i code hb
    refine meets_of_awp hT hm hf hb (rs := fn.results.toList) (by simp) ?_
    have e1 : (⟨avL (argsS c.ps x) ++ List.replicate (fn.ntmps - (avL (argsS c.ps x)).length) .und, (blocksS id c.bl y).map avL⟩ : ASt) = (SSt.mk (argsS c.ps x ++ List.replicate (fn.ntmps - c.ps.length) .und) (blocksS id c.bl y)).av := by
      simp only [SSt.av, avL_app, avL_length, argsS_length]
      congr 2
      rw [avL_eq, List.map_replicate]; rfl
    rw [e1, List.length_map, blocksS_length]
    refine xc_ok hC code _ _ _ _ _ _ _ hr fun ex s' _ hq => ?_
    have fin : (endT X fn.results.toList c.rs c.bl s').run = some (r, y') → resK (TX X) s'.av fn.results.toList fun vs => ∃ bs, Keeps c.bl.length bs ∧ Wk (nthN bs) bs.length (sing vs) (sing (avL (resS c.bl.length c.rs r))) ∧ WkHs (nthN bs) bs.length s'.av.heap bs ((blocksS id c.bl y' ++ newsS c.rs r).map avL) := by
      intro hq
      unfold endT at hq
      split at hq
      · rename_i vs qv
        obtain ⟨x1, os, h1, h2, h3, h4, h5⟩ := getResK_ok c.rs vs _ hq
        split at h1
        · rename_i y1 qy
          replace h1 := ite_run h1; obtain ⟨⟨hd, hri⟩, h1⟩ := h1
          injection h1 with h1
          injection h1 with e1 e2
          subst e1; subst e2
          refine resVals_ok _ vs _ qv ⟨bsFrom id 0 c.bl.length ++ os, ⟨isId_from os _ 0, hd⟩, ?_, ?_⟩
          · refine wk_sing ?_
            have := h4 (bsFrom id 0 c.bl.length) _ rfl _ rfl
            rw [bsFrom_length] at this
            exact this
          · rw [List.map_append]
            refine wkHs_app (getBls_ok c.bl 0 y1 (fun j hj => ?_) qy) (h5 _ _)
            have hj' := refsIn_mem hri j hj
            refine ⟨by rw [List.length_append, bsFrom_length]; omega, ?_⟩
            rw [nthN_from _ _ _ _ hj', Nat.zero_add]
        · cases h1
      · cases hq
    cases ex with
    | nrm => exact fin hq
    | ret => exact fin hq
    | ext id => cases hq
end
end Go.Ab
