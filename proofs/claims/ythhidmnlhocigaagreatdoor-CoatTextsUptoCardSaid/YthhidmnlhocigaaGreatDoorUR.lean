/- The symbolic machine at functions that hold ranges over lines. -/
import Derived.Test.YthhidmnlhocigaaGreatDoorRH
import Derived.Test.YthhidmnlhocigaaGreatDoorUA
namespace Go.Ab
open Go
set_option linter.unusedVariables false
set_option linter.unusedSimpArgs false

def setBk : List (List SV) → Nat → List SV → List (List SV)
  | [], _, _ => []
  | _ :: r, 0, l => l :: r
  | c :: r, b + 1, l => c :: setBk r b l
theorem setBk_length : ∀ (H : List (List SV)) (b : Nat) (l : List SV), (setBk H b l).length = H.length
  | [], _, _ => rfl
  | _ :: r, 0, l => rfl
  | c :: r, b + 1, l => by simp [setBk, setBk_length r b l]
theorem setBk_get : ∀ (H : List (List SV)) (b : Nat) (l : List SV) (x : Nat), x ≠ b → nthSB (setBk H b l) x = nthSB H x
  | [], _, _, _, _ => rfl
  | _ :: r, 0, l, 0, h => absurd rfl h
  | _ :: r, 0, l, x + 1, h => rfl
  | c :: r, b + 1, l, 0, h => rfl
  | c :: r, b + 1, l, x + 1, h => setBk_get r b l x (by omega)
theorem setBk_av {c d : SV} : ∀ (H : List (List SV)) (b : Nat), nthSB H b = [d] → (setBk H b [c]).map avL = setB (H.map avL) b 0 c.av
  | [], _, h => rfl
  | l :: r, 0, h => by
    have : l = [d] := h
    subst this; rfl
  | l :: r, b + 1, h => by
    show avL l :: _ = avL l :: _
    rw [setBk_av r b h]
section
variable {β : Type 1}
def setBkK : List (List SV) → Nat → List SV → (List (List SV) → β) → β
  | [], _, _, k => k []
  | _ :: r, 0, l, k => k (l :: r)
  | c :: r, b + 1, l, k => setBkK r b l fun r' => k (c :: r')
theorem setBkK_eq : ∀ (H : List (List SV)) (b : Nat) (l : List SV) (k : List (List SV) → β), setBkK H b l k = k (setBk H b l)
  | [], _, _, _ => rfl
  | _ :: r, 0, l, k => rfl
  | c :: r, b + 1, l, k => setBkK_eq r b l _
end
theorem slotRegs_none : ∀ (ls : List RSlot) (x : (tupT (rtys ls)).T) (R : List SV), rslotW (fun _ => false) ls = true → slotRegs ls x R = R
  | [], _, _, _ => rfl
  | .reg r v :: l, x, R, h => by simp [rslotW] at h
  | .sbl r b :: l, x, R, h => by simp [rslotW] at h
  | .own r e τ b :: l, x, R, h => by simp [rslotW] at h
  | .blk _ _ :: l, x, R, h => slotRegs_none l x.2 R h
  | .map _ _ :: l, x, R, h => slotRegs_none l x.2 R h
  | .arr _ _ :: l, x, R, h => slotRegs_none l x.2 R h
  | .cow _ _ _ :: l, x, R, h => slotRegs_none l x.2 R h

def annotR : Code → List (List Slot) → HT × List (List Slot)
  | .seq a b, hs => let p := annotR a hs; let q := annotR b p.2; (.node p.1 q.1, q.2)
  | .block _ c, hs => annotR c hs
  | .rangeFunc _ _ _ c, hs => match hs with
    | h :: t => let p := annot c t; (.loop h p.1, p.2)
    | [] => (.nil, [])
  | c, hs => annot c hs

def okTxt (n : Nat) : Bool := decide (n ≤ 1099511627776)

section
variable {ρ : Type}

def rangeK (X : List XTy) (C : List Callee) (LN : List Nat) (nx : Nat) (g : Operand) (p : Nat) (asn bd : Code) (slots : List Slot) (sub : HT) (s : SSt) (K : AEx → SSt → Tr ρ) : Tr ρ :=
  match resolve slots s with
  | none => .fail
  | some ls => if rslotW (fun _ => false) ls = true ∧ ndC asn = true ∧ ndC bd = true then
      chkK nx (fun r => memN r (p :: (dstsOf asn ++ dstsOf bd))) ls s s fun x0 => headK (fun r => memN r (p :: (dstsOf asn ++ dstsOf bd))) ls s x0 fun s0 => match evS s0.regs g with
        | .fn L [.ptr b o] => if memN L LN = true ∧ o = 0 ∧ isSlotB ls b = true then (match nthSB s0.heap b with
          | [.str t0] => .req (okTxt t0.length) (.iter (tupT (rtys ls)) (fun x => headK (fun r => memN r (p :: (dstsOf asn ++ dstsOf bd))) ls s x fun sh => match nthSB sh.heap b with
            | [.str t] => .br (decide (t = [])) ((K .nrm ⟨s0.regs, sh.heap⟩).map .inr)
                (setK s0.regs p (.str (firstL t)) fun R => setBkK sh.heap b [.str (restL t)] fun H =>
                  xc X C s.heap.length none asn .nil (fun r => memN r (p :: (dstsOf asn ++ dstsOf bd))) (fun b => decide (b < s.heap.length) && !isSlotB ls b) ⟨R, H⟩ fun ex s1 => match ex with
                    | .nrm => if s1.heap.length = s.heap.length then xc X C s.heap.length none bd sub (fun r => memN r (p :: (dstsOf asn ++ dstsOf bd))) (fun b => decide (b < s.heap.length) && !isSlotB ls b) s1 fun ex s2 => match ex with
                        | .nrm => chkK s.heap.length (fun r => memN r (p :: (dstsOf asn ++ dstsOf bd))) ls s s2 fun x' => headK (fun r => memN r (p :: (dstsOf asn ++ dstsOf bd))) ls s x' fun sh' => match nthSB sh'.heap b with
                            | [.str t'] => .req (decide (t' = restL t)) (.ret (.inl x'))
                            | _ => .fail
                        | .ext id => (K (.ext id) ⟨s0.regs, s2.heap⟩).map .inr
                        | .ret => (K .ret ⟨s0.regs, s2.heap⟩).map .inr
                      else .fail
                    | _ => .fail)
            | _ => .fail) x0)
          | _ => .fail) else .fail
        | _ => .fail
    else .fail

def xcR (X : List XTy) (C : List Callee) (LN : List Nat) (nx : Nat) (q : Option (EqP ρ)) : Code → HT → SSt → (AEx → SSt → Tr ρ) → Tr ρ
  | .seq a b, h, s, K => xcR X C LN nx q a h.l s fun x s' => match x with
    | .nrm => xcR X C LN nx q b h.r s' K
    | .ext id => K (.ext id) s'
    | .ret => K .ret s'
  | .block id c, h, s, K => xcR X C LN nx q c h s fun x s' => match x with
    | .ext id' => if id' = id then K .nrm s' else K (.ext id') s'
    | .nrm => K .nrm s'
    | .ret => K .ret s'
  | .rangeFunc g ps asn bd, h, s, K => match ps.toList, h with
    | [p], .loop slots sub => rangeK X C LN nx g p asn bd slots sub s K
    | _, _ => .fail
  | c, h, s, K => xc X C nx q c h (fun _ => true) (fun _ => false) s K

variable {P : Program} {X : List XTy} {C : List Callee} {LN : List Nat}

theorem rangeK_ok (hC : ∀ c ∈ C, c.ok P) (hLN : ∀ L ∈ LN, LinesAt P L ∧ Callable P L) {nx : Nat} {g : Operand} {p : Nat} {asn bd : Code} {slots : List Slot} {sub : HT} {s : SSt} {K : AEx → SSt → Tr ρ} {r : ρ} {Q : AEx → ASt → Prop}
    (hr : (rangeK X C LN nx g p asn bd slots sub s K).run = some r) (hk : ∀ x s', (K x s').run = some r → Q x s'.av) : ∃ s', Ent nx s.av s' ∧ rangeA P (TX X) g #[p] asn bd s' Q := by
  unfold rangeK at hr
  split at hr
  · cases hr
  rename_i ls hls
  replace hr := ite_run hr; obtain ⟨⟨hrs, hnd1, hnd2⟩, hr⟩ := hr
  generalize hW' : (fun r => memN r (p :: (dstsOf asn ++ dstsOf bd))) = W' at *
  generalize hZ' : (fun b => decide (b < s.heap.length) && !isSlotB ls b) = Z' at *
  obtain ⟨x0, hr, he0⟩ := chkK_ok hr (hZ' ▸ Fz.refl _ _ _)
  rw [headK_eq] at hr
  have hregs : ∀ x, (headS W' ls s x).regs = dropW W' 0 s.regs := fun x => slotRegs_none ls x _ hrs
  split at hr <;> first | (cases hr; done) | skip
  rename_i L b o hev
  replace hr := ite_run hr; obtain ⟨⟨hL, ho, hsb⟩, hr⟩ := hr
  subst ho
  obtain ⟨hLines, hCall⟩ := hLN L (memN_iff.1 hL)
  split at hr <;> first | (cases hr; done) | skip
  rename_i t0 hb0
  obtain ⟨ht0, hr⟩ := run_req hr
  have ht0 := of_decide_eq_true ht0
  simp only [Tr.run] at hr
  let body : (tupT (rtys ls)).T → Option ((tupT (rtys ls)).T ⊕ ρ) := fun x => Tr.run (headK W' ls s x fun sh => match nthSB sh.heap b with
    | [.str t] => .br (decide (t = [])) ((K .nrm ⟨(headS W' ls s x0).regs, sh.heap⟩).map .inr)
        (setK (headS W' ls s x0).regs p (.str (firstL t)) fun R => setBkK sh.heap b [.str (restL t)] fun H =>
          xc X C s.heap.length none asn .nil W' Z' ⟨R, H⟩ fun ex s1 => match ex with
            | .nrm => if s1.heap.length = s.heap.length then xc X C s.heap.length none bd sub W' Z' s1 fun ex s2 => match ex with
                | .nrm => chkK s.heap.length W' ls s s2 fun x' => headK W' ls s x' fun sh' => match nthSB sh'.heap b with
                    | [.str t'] => .req (decide (t' = restL t)) (.ret (.inl x'))
                    | _ => .fail
                | .ext id => (K (.ext id) ⟨(headS W' ls s x0).regs, s2.heap⟩).map .inr
                | .ret => (K .ret ⟨(headS W' ls s x0).regs, s2.heap⟩).map .inr
              else .fail
            | _ => .fail)
    | _ => .fail)
  have hr : iterF body FUEL x0 = some r := hr
  have hlen : ∀ x, ((headS W' ls s x).heap.map avL).length = s.heap.length := fun x => by simp only [List.length_map, headS, headH_length]
  refine ⟨(headS W' ls s x0).av, he0, L, b, p, t0, ?_, hLines, hCall, rfl, ht0, hnd1, hnd2, fun t H => ∃ n x, H = (headS W' ls s x).heap.map avL ∧ nthSB (headS W' ls s x).heap b = [.str t] ∧ iterF body n x = some r, ⟨FUEL, x0, rfl, hb0, hr⟩, ?_, ?_⟩
  · show (SSt.av _).view.ev g = _
    rw [evS_av, hev]; rfl
  · rintro t H ⟨n, x, rfl, hb, hit⟩
    refine ⟨(hlen x).trans (hlen x0).symm, by rw [nthSB_av, hb]; rfl, fun htn => ?_⟩
    cases n with
    | zero => cases hit
    | succ n =>
      have hb2 := iter_last hit
      have main : ∀ z, body x = some z → (∀ x', z = .inl x' → iterF body n x' = some r) → (∀ r', z = .inr r' → r' = r) → awp P (TX X) ((headS W' ls s x0).av).heap.length asn ⟨(headS W' ls s x0).av.regs.set p (.str (firstL t)), setB ((headS W' ls s x).heap.map avL) b 0 (.str (restL t))⟩ fun x s1 => match x with
          | .nrm => s1.heap.length = ((headS W' ls s x0).av).heap.length ∧ awp P (TX X) ((headS W' ls s x0).av).heap.length bd s1 fun x s2 => match x with
            | .nrm => ∃ s3, Ent ((headS W' ls s x0).av).heap.length s2 s3 ∧ ∃ n x, s3.heap = (headS W' ls s x).heap.map avL ∧ nthSB (headS W' ls s x).heap b = [.str (restL t)] ∧ iterF body n x = some r
            | .ext id => Q (.ext id) ⟨(headS W' ls s x0).av.regs, s2.heap⟩
            | .ret => Q .ret ⟨(headS W' ls s x0).av.regs, s2.heap⟩
          | _ => False := by
        intro z hz hz1 hz2
        simp only [body, headK_eq, hb] at hz
        replace hz := (run_br hz).2 (decide_eq_false htn)
        rw [setK_eq, setBkK_eq] at hz
        have est : (ASt.mk ((headS W' ls s x0).av.regs.set p (.str (firstL t))) (setB ((headS W' ls s x).heap.map avL) b 0 (.str (restL t)))) = (SSt.mk (setS (headS W' ls s x0).regs p (.str (firstL t))) (setBk (headS W' ls s x).heap b [.str (restL t)])).av := by
          simp only [SSt.av, setS_av, setBk_av _ _ hb]
          rfl
        rw [est, show ((headS W' ls s x0).av).heap.length = s.heap.length from hlen x0]
        have hf0 : Fz W' Z' s (SSt.mk (setS (headS W' ls s x0).regs p (.str (firstL t))) (setBk (headS W' ls s x).heap b [.str (restL t)])) := by
          refine ⟨?_, fun r' hr' => ?_, ?_, fun b' hb' hz' => ?_⟩
          · simp only [setS_length, hregs, dropW_length]
          · have hp : r' ≠ p := fun e => by
              subst hW'
              rw [e] at hr'
              simp [memN] at hr'
            simp only
            rw [nthS_set _ _ _ _ (fun e => hp e.symm), hregs, dropW_get, Nat.zero_add, if_neg (by rw [hr']; simp)]
          · simp only [setBk_length, headS, headH_length]; exact Nat.le_refl _
          · subst hZ'
            simp only [Bool.and_eq_true, Bool.not_eq_true', decide_eq_true_eq] at hz'
            have hne : b' ≠ b := fun e => by rw [e, hsb] at hz'; cases hz'.2
            simp only
            rw [setBk_get _ _ _ _ hne]
            simp only [headS]
            rw [headH_get _ _ _ _ _ hb', Nat.zero_add, headBlk_not _ _ _ hz'.2]
            rfl
        refine xc_ok hC none asn .nil W' Z' _ _ z _ hz fun ex s1 hf1 hq => ?_
        cases ex with
        | ext id => cases hq
        | ret => cases hq
        | nrm =>
          simp only at hq
          replace hq := ite_run hq; obtain ⟨hl1, hq⟩ := hq
          refine ⟨by simp only [SSt.av, List.length_map]; exact hl1, ?_⟩
          refine xc_ok hC none bd sub W' Z' s1 _ z _ hq fun ex s2 hf2 hq2 => ?_
          cases ex with
          | nrm =>
            simp only at hq2
            have hfull : Fz W' Z' s s2 := (hf0.trans hf1).trans hf2
            subst hZ'
            obtain ⟨x', hq2, he⟩ := chkK_ok hq2 hfull
            split at hq2 <;> first | (cases hq2; done) | skip
            rename_i t' hb'
            obtain ⟨ht', hq3⟩ := run_req hq2
            clear hq2
            have ht' := of_decide_eq_true ht'
            subst ht'
            have hq2 : some (Sum.inl x') = some z := hq3
            injection hq2 with hq2
            exact ⟨_, he, n, x', rfl, hb', hz1 x' hq2.symm⟩
          | ext id =>
            simp only at hq2
            obtain ⟨r', e1, e2⟩ := map_inr hq2
            have := hz2 r' e1
            subst this
            exact hk (.ext id) _ e2
          | ret =>
            simp only at hq2
            obtain ⟨r', e1, e2⟩ := map_inr hq2
            have := hz2 r' e1
            subst this
            exact hk .ret _ e2
      rcases hb2 with ⟨x', h1, h2⟩ | h1
      · exact main _ h1 (fun y e => by injection e with e; subst e; exact h2) (fun r' e => by cases e)
      · exact main _ h1 (fun y e => by cases e) (fun r' e => by injection e with e; exact e.symm)
  · rintro H ⟨n, x, rfl, hb, hit⟩
    have hz : ∀ z, body x = some z → ∃ r', z = .inr r' ∧ (K .nrm ⟨(headS W' ls s x0).regs, (headS W' ls s x).heap⟩).run = some r' := fun z hz => by
      simp only [body, headK_eq, hb] at hz
      exact map_inr ((run_br hz).1 (by simp))
    cases n with
    | zero => cases hit
    | succ n =>
      rcases iter_last hit with ⟨x', h1, h2⟩ | h1
      · obtain ⟨r', e, _⟩ := hz _ h1; cases e
      · obtain ⟨r', e, h3⟩ := hz _ h1
        injection e with e
        subst e
        exact hk .nrm _ h3

theorem xcR_ok (hC : ∀ c ∈ C, c.ok P) (hLN : ∀ L ∈ LN, LinesAt P L ∧ Callable P L) {nx : Nat} (q : Option (EqP ρ)) : ∀ (c : Code) (h : HT) (s : SSt) (K : AEx → SSt → Tr ρ) (r : ρ) (Q : AEx → ASt → Prop), (xcR X C LN nx q c h s K).run = some r →
    (∀ x s', (K x s').run = some r → Q x s'.av) → awpR P (TX X) nx c s.av Q
  | .seq a b, h, s, K, r, Q, hr, hk => by
    refine xcR_ok hC hLN q a h.l s _ r _ hr fun x s' hq => ?_
    cases x with
    | nrm => exact xcR_ok hC hLN q b h.r s' K r Q hq hk
    | ext id => exact hk (.ext id) s' hq
    | ret => exact hk .ret s' hq
  | .block id c, h, s, K, r, Q, hr, hk => by
    refine xcR_ok hC hLN q c h s _ r _ hr fun x s' hq => ?_
    cases x with
    | nrm => exact hk .nrm s' hq
    | ext id' =>
      simp only at hq
      simp only [blkK]
      split at hq
      · rename_i e; rw [if_pos e]; exact hk .nrm s' hq
      · rename_i e; rw [if_neg e]; exact hk (.ext id') s' hq
    | ret => exact hk .ret s' hq
  | .rangeFunc g ps asn bd, h, s, K, r, Q, hr, hk => by
    simp only [xcR] at hr
    split at hr
    · rename_i p slots sub hp
      have : ps = #[p] := by cases ps; simp at hp; rw [hp]
      subst this
      exact rangeK_ok hC hLN hr hk
    · cases hr
  | .skip, h, s, K, r, Q, hr, hk => xc_ok hC q (.skip) h _ _ s K r Q hr fun x s' _ hq => hk x s' hq
  | .region id ops dr, h, s, K, r, Q, hr, hk => xc_ok hC q (.region id ops dr) h _ _ s K r Q hr fun x s' _ hq => hk x s' hq
  | .cond c a b, h, s, K, r, Q, hr, hk => xc_ok hC q (.cond c a b) h _ _ s K r Q hr fun x s' _ hq => hk x s' hq
  | .loop c, h, s, K, r, Q, hr, hk => xc_ok hC q (.loop c) h _ _ s K r Q hr fun x s' _ hq => hk x s' hq
  | .exit id, h, s, K, r, Q, hr, hk => xc_ok hC q (.exit id) h _ _ s K r Q hr fun x s' _ hq => hk x s' hq
  | .ret, h, s, K, r, Q, hr, hk => xc_ok hC q (.ret) h _ _ s K r Q hr fun x s' _ hq => hk x s' hq
  | .label l, h, s, K, r, Q, hr, hk => xc_ok hC q (.label l) h _ _ s K r Q hr fun x s' _ hq => hk x s' hq
  | .scope x, h, s, K, r, Q, hr, hk => xc_ok hC q (.scope x) h _ _ s K r Q hr fun x s' _ hq => hk x s' hq
  | .goto l, h, s, K, r, Q, hr, hk => xc_ok hC q (.goto l) h _ _ s K r Q hr fun x s' _ hq => hk x s' hq
  | .refuse x, h, s, K, r, Q, hr, hk => xc_ok hC q (.refuse x) h _ _ s K r Q hr fun x s' _ hq => hk x s' hq
end

def xfunR (X : List XTy) (C : List Callee) (LN : List Nat) (fn : Func) (ps : List PK) (bl : List BK) (rs : List RK) (hs : List (List Slot)) (x : (tupT (PK.tys ps)).T) (y : (tupT (BK.tys bl)).T) : Tr ((tupT (RK.tys rs)).T × (tupT (BK.tys bl)).T) :=
  match fn.body with
  | none => .fail
  | some code => xcR X C LN bl.length (some (eqFn rs bl)) code (annotR code hs).1 ⟨argsS ps x ++ List.replicate (fn.ntmps - ps.length) .und, blocksS id bl y⟩ (endK X fn.results.toList rs bl)

section
variable {P : Program} {X : List XTy} {C : List Callee} {LN : List Nat}
theorem callee_okR (hT : TabOk P (TX X)) (hm : P.follows .mixedOrders = true) (hC : ∀ c ∈ C, c.ok P) (hLN : ∀ L ∈ LN, LinesAt P L ∧ Callable P L) {c : Callee} {fn : Func} (hf : P.funcs[c.f]? = some fn) (hn : (fn.name == "runtime.NumGoroutine") = false) (hany : fn.body.isNone = false) (hs : List (List Slot))
    (hrun : ∀ x y r y', c.fn x y = some (r, y') → (xfunR X C LN fn c.ps c.bl c.rs hs x y).run = some (r, y')) : c.ok P := by
  · refine ⟨⟨fn, hf, hn, hany⟩, fun x y r y' h => ?_⟩
    have hr := hrun x y r y' h
    unfold xfunR at hr
    split at hr
    · cases hr
    rename_i code hb
    refine meets_of_awpR hT hm hf hb (rs := fn.results.toList) (by simp) ?_
    have e1 : (⟨avL (argsS c.ps x) ++ List.replicate (fn.ntmps - (avL (argsS c.ps x)).length) .und, (blocksS id c.bl y).map avL⟩ : ASt) = (SSt.mk (argsS c.ps x ++ List.replicate (fn.ntmps - c.ps.length) .und) (blocksS id c.bl y)).av := by
      simp only [SSt.av, avL_app, avL_length, argsS_length]
      congr 2
      rw [avL_eq, List.map_replicate]; rfl
    rw [e1, List.length_map, blocksS_length]
    refine xcR_ok hC hLN _ code _ _ _ _ _ hr fun ex s' hq => ?_
    have fin : (endT X fn.results.toList c.rs c.bl s').run = some (r, y') → ∃ s1, Ent c.bl.length s'.av s1 ∧ resK (TX X) s1 fn.results.toList fun vs => ∃ bs, Keeps c.bl.length bs ∧ Wk (nthN bs) bs.length (sing vs) (sing (avL (resS c.bl.length c.rs r))) ∧ WkHs (nthN bs) bs.length s1.heap bs ((blocksS id c.bl y' ++ newsS c.rs r).map avL) := by
      intro hq
      unfold endT at hq
      split at hq
      · obtain ⟨s0, he0, _, hq⟩ := frzAllK_ok _ _ _ hq
        obtain ⟨s1, ho1, hq⟩ := ownK_run _ _ _ hq
        have he1 := he0.trans (ownify_ent _ _ _ ho1)
        refine ⟨s1.av, he1, ?_⟩
        split at hq <;> first | (cases hq; done) | skip
        rename_i vs qv
        obtain ⟨x1, os, h1, h2, h3, h4, h5⟩ := getResK_ok c.rs vs _ hq
        split at h1
        · rename_i y1 qy
          replace h1 := ite_run h1; obtain ⟨⟨hd, hri⟩, h1⟩ := h1
          injection h1 with h1
          injection h1 with e1 e2
          subst e1; subst e2
          refine resVals_ok _ vs _ qv ⟨bsFrom id 0 c.bl.length ++ os, ⟨isId_from os _ 0, hd⟩, ?_, ?_⟩
          · refine wk_sing ?_
            have := h4 (bsFrom id 0 c.bl.length) _ rfl _ rfl
            rw [bsFrom_length] at this
            exact this
          · rw [List.map_append]
            refine wkHs_app (getBls_ok (n := c.bl.length) (fun j hj' => ?_) c.bl 0 y1 hri qy) (h5 _ _)
            refine ⟨by rw [List.length_append, bsFrom_length]; omega, ?_⟩
            rw [nthN_from _ _ _ _ hj', Nat.zero_add]
        · cases h1
      · cases hq
    cases ex with
    | nrm => exact fin hq
    | ret => exact fin hq
    | ext id => cases hq
end
end Go.Ab
