/- The machine inside a round of a range over a function: what it shows of code as a function's own it shows of code in such a round. -/
import Derived.Test.YthhidmnlhocigaaGreatDoorTB
import Derived.RangeFuncCalls
import Derived.TacticsIn
import Derived.OrdersIn
import Derived.ControlIn
namespace Go.Ab
open Go Go.RowKit
set_option linter.unusedVariables false
set_option linter.unusedSimpArgs false

variable {P : Program} {T : TT}

def isDefer : Op → Bool
  | .defer _ => true
  | _ => false
theorem not_defer {o : Oper} (h : isDefer o.op = false) : ∀ c, o.op ≠ .defer c := fun c e => by rw [e] at h; cases h

/-- An operation in a round is carried out as everywhere. -/
theorem op_in {o : Oper} {a : Act} {w : World} {K : Act → World → Prop} {Q : Exit → Act → World → Prop} {l n : Nat} (hd : isDefer o.op = false) (h : o.wp P a w K Q) : o.wpIn (Fence.wide.inRound l) n P a w K Q := by
  refine ⟨fun f _ => trivial, ?_⟩
  rw [Fence.inRound_round, Oper.semAt_some l a.eval o (not_defer hd)]
  unfold Oper.wp at h
  revert h
  generalize (execOp a.eval o).run P w = r
  intro h
  cases r with
  | ok x w' =>
    cases x with
    | value v => exact h
    | skip => exact h
    | defer d => exact h
    | enter f args => exact ⟨fun hx => by simp [Fence.wide] at hx, CallsIn.inRound l (callsIn_wide.2 h)⟩
    | row row args => exact ⟨fun hx => by simp [Fence.wide] at hx, fun c cs _ => let ⟨v, w', r, s⟩ := h c cs; ⟨v, w', r, stepsIn_wide.2 s⟩⟩
    | _ => exact h.elim
  | halt s w' =>
    cases s with
    | panic v => exact h
    | _ => exact h.elim
theorem op_at {ops : Array Oper} {i : Nat} {a : Act} {w : World} {K K' : Act → World → Prop} {Q : Exit → Act → World → Prop} {l n : Nat} (hq : ¬ LetsOut Q) (hd : ∀ o ∈ ops.toList, isDefer o.op = false)
    (hK : ∀ a w, K a w → K' a w) (h : wpOp P ops Q i K a w) : wpOpIn (Fence.wide.inRound l) n P ops Q i K' a w := by
  unfold wpOp at h
  unfold wpOpIn
  cases ho : ops[i]? with
  | none => rw [ho] at h; exact hK _ _ h
  | some o =>
    rw [ho] at h
    have hm : o ∈ ops.toList := List.mem_of_getElem? (by rw [Array.getElem?_toList]; exact ho)
    simp only at h ⊢
    split at h
    · rename_i hw
      rw [if_pos hw]
      rcases h with h | ⟨_, h⟩
      · exact op_in (hd o hm) (Oper.wp_mono hK h)
      · exact absurd h hq
    · rename_i hw
      rw [if_neg hw]
      exact ⟨fun _ _ => trivial, hK _ _ h⟩
theorem any_in {md : Region.Mode} {ops : Array Oper} {Q : Exit → Act → World → Prop} {l n : Nat} (hq : ¬ LetsOut Q) (hd : ∀ o ∈ ops.toList, isDefer o.op = false) : ∀ (fuel : Nat) (listed : Array Bool) (a : Act) (w : World),
    wpAny P md ops Q fuel listed a w → wpAnyIn (Fence.wide.inRound l) n P md ops Q fuel listed a w
  | 0, listed, a, w, h => h
  | fuel + 1, listed, a, w, h => ⟨h.1, fun i hi => op_at hq hd (fun a w h => any_in hq hd fuel _ a w h) (h.2 i hi)⟩
theorem ops_in {ops : Array Oper} {Q : Exit → Act → World → Prop} {l n : Nat} (hq : ¬ LetsOut Q) (hd : ∀ o ∈ ops.toList, isDefer o.op = false) : ∀ (is : List Nat) (a : Act) (w : World),
    wpOps P ops Q is a w → wpOpsIn (Fence.wide.inRound l) n P ops Q is a w
  | [], a, w, h => h
  | i :: r, a, w, h => by
    rw [wpOpsIn_cons]
    rw [wpOps_cons] at h
    exact op_at hq hd (fun a w h => ops_in hq hd r a w h) h
section
variable {Γ : Ctx} {all : Array Oper} {S : Nat → FSt} {e : Nat → Eff} {rd : Nat → List (Nat × Nat)} {B : Nat → Nat → Bool}
theorem Trace.drawsAny (h : Trace Γ P all S e rd) (ho : Order all e rd B) {Q : Exit → Act → World → Prop} {a : Act} {w : World} (hR : Rel Γ (S 0) a w) (hQ : ∀ a w, Rel Γ (S all.size) a w → Q .normal a w) :
    wpAny P .any all Q all.size (Array.replicate all.size false) a { w with drawn := w.drawn + 1 } := by
  refine h.any ho hQ _ _ _ _ (by simp) (fun k i _ hk _ => ?_) ?_ ?_
  · exfalso
    simp only [Array.getD_eq_getD_getElem?, Array.getElem?_replicate] at hk
    split at hk <;> simp at hk
  · simp
  · have e1 : at_ S e all.size (fun k => (Array.replicate all.size false).getD k false) = S 0 := by
      show SD (S 0) e (fun k => (Array.replicate all.size false).getD k false) all.size = S 0
      rw [SD_stop 0 all.size (Nat.zero_le _) (fun x _ _ => by
        show (Array.replicate all.size false).getD x false = false
        simp only [Array.getD_eq_getD_getElem?, Array.getElem?_replicate]
        split <;> rfl)]
      rfl
    rw [e1]; exact hR.drew
theorem Trace.plainOps (h : Trace Γ P all S e rd) {Q : Exit → Act → World → Prop} {a : Act} {w : World} (hR : Rel Γ (S 0) a w) (hQ : ∀ a w, Rel Γ (S all.size) a w → Q .normal a w) :
    wpOps P all Q (List.range all.size) a w := by
  have key : ∀ (m k : Nat) (a : Act) (w : World), k + m = all.size → Rel Γ (S k) a w → wpOps P all Q (List.range' k m) a w := by
    intro m
    induction m with
    | zero => intro k a w hk hR; simp only [Nat.add_zero] at hk; subst hk; exact hQ a w hR
    | succ m ih =>
      intro k a w hk hR
      rw [List.range'_succ, wpOps_cons]
      refine h.step k (by omega) (S k) a w rfl (fun _ _ _ _ => rfl) (fun _ _ => rfl) (fun b hb => h.fresh k b (by omega) hb) (fun b j _ hx => hx) hR _ Q (fun a' w' hR' => ih (k + 1) a' w' (by omega) ?_)
      rw [h.next k (by omega)]; exact hR'
  rw [List.range_eq_range']
  exact key all.size 0 a w (by omega) hR
end
theorem region_soundIn (hT : TabOk P T) (hm : P.follows .mixedOrders = true) {Γ : Ctx} {id : Nat} {all : Array Oper} {dr : Bool} {s : ASt} {K : ASt → Prop} (h : aops P T all dr all.toList s [] (regK all dr K))
    {Q : Exit → Act → World → Prop} {a : Act} {w : World} {l n : Nat} (hq : ¬ LetsOut Q) (hnd : ∀ o ∈ all.toList, isDefer o.op = false) (hR : Rel Γ s.view a w) (hQ : ∀ s' a' w', K s' → Rel Γ s'.view a' w' → Q .normal a' w') :
    (Code.region id all dr).wpIn (Fence.wide.inRound l) n P Q a w := by
  obtain ⟨S, e, rd, s', hp, hS0, hSn, hd, hK⟩ := aops_sound hT (Γ := Γ) all.toList 0 s [] _ (by simp) (by simp) h
  have htr : Trace Γ P all S e rd := ⟨fun i hi => hp.step i (Nat.zero_le _) hi, fun i hi => hp.next i (Nat.zero_le _) hi, fun i b hi => hp.fresh i b (Nat.zero_le _) hi, fun i hi => hp.keep i (Nat.zero_le _) hi,
    fun b j hb => by
      rw [hS0] at hb ⊢
      simp only [ASt.view, decide_eq_false_iff_not] at hb ⊢
      rw [nthB_ge _ _ (by omega)]; rfl, fun i o ho => hp.dst i o (Nat.zero_le _) ho⟩
  rw [← hS0] at hR
  cases dr with
  | false => exact wpIn_region (ops_in hq hnd _ _ _ (htr.plainOps hR (fun a' w' hR' => hQ s' a' w' hK (by rw [← hSn]; exact hR'))))
  | true =>
    have hb := hd rfl
    have ho := orderB_sound (e := e) (rd := rd) (fun i hi => by
      simp only [if_true, List.nil_append, Array.length_toList, List.getElem?_map]
      rw [List.getElem?_range' hi]
      simp) htr.dst hb
    exact wpIn_region_any hm (any_in hq hnd _ _ _ _ (htr.drawsAny ho hR (fun a' w' hR' => hQ s' a' w' hK (by rw [← hSn]; exact hR'))))

theorem wpIn_loop_idx {F : Fence} {n : Nat} {c : Code} {Q : Exit → Act → World → Prop} {a : Act} {w : World} (J : Nat → Act → World → Prop) (n₀ : Nat) (h₀ : J n₀ a w)
    (round : ∀ m a w, J m a w → c.wpIn F n P (Exit.then (fun a' w' => ∃ k, k < m ∧ J k a' w') Q) a w) : (Code.loop c).wpIn F n P Q a w := by
  intro b k cs hro hb hr
  have key : ∀ m a w, J m a w → ∃ e a' w', Q e a' w' ∧ ArrivesIn (Machine.fenced P F) P (lone (b.atR a (.code c :: .inLoop c :: k)) cs w) b k cs e a' w' := by
    intro m
    induction m using Nat.strongRecOn with
    | _ m ih =>
      intro a w hJ
      obtain ⟨e, a₁, w₁, hq, harr⟩ := round m a w hJ b (.inLoop c :: k) cs hro hb hr
      cases e with
      | normal =>
        obtain ⟨k', hlt, hJ₁⟩ := hq
        obtain ⟨e₂, a₂, w₂, hq₂, harr₂⟩ := ih k' hlt a₁ w₁ hJ₁
        exact ⟨e₂, a₂, w₂, hq₂, .of_steps (StepsIn.trans harr (.one (fenced_calm hb hr rfl) stepR_inLoop)) harr₂⟩
      | exit id => exact ⟨_, a₁, w₁, hq, .pass (x := .inLoop c) rfl (fun _ _ => .inl (by simp)) harr⟩
      | goto l => exact ⟨_, a₁, w₁, hq, .pass (x := .inLoop c) rfl (fun _ _ => .inl (by simp)) harr⟩
      | ret => exact ⟨_, a₁, w₁, hq, .pass (x := .inLoop c) rfl (fun _ _ => .inl (by simp)) harr⟩
      | panic ch => exact ⟨_, a₁, w₁, hq, .pass (x := .inLoop c) rfl (fun _ _ => .inl (by simp)) harr⟩
      | outgrown => exact ⟨_, a₁, w₁, hq, .pass (x := .inLoop c) rfl (fun _ _ => .inl (by simp)) harr⟩
  obtain ⟨e, a', w', hq, harr⟩ := key n₀ a w h₀
  exact ⟨e, a', w', hq, .of_steps (.one (fenced_calm hb hr rfl) stepR_loop) harr⟩

/-- No operation of it is a defer statement. -/
def ndC : Code → Bool
  | .region _ ops _ => ops.toList.all fun o => !isDefer o.op
  | .seq a b => ndC a && ndC b
  | .cond _ a b => ndC a && ndC b
  | .block _ c => ndC c
  | .loop c => ndC c
  | _ => true
/-- What is known at the exits of code that the machine executes. -/
def exK (Γ : Ctx) (K : AEx → ASt → Prop) (e : Exit) (a : Act) (w : World) : Prop := ∃ x s, e = x.ex ∧ K x s ∧ Rel Γ s.view a w
theorem exK_out {Γ : Ctx} {K : AEx → ASt → Prop} : ¬ LetsOut (exK Γ K) := by
  rintro ⟨a, w, x, s, h, _⟩
  cases x <;> cases h
theorem awp_soundIn (hT : TabOk P T) (hm : P.follows .mixedOrders = true) {Γ : Ctx} {l n : Nat} : ∀ (c : Code) (s : ASt) (K : AEx → ASt → Prop), ndC c = true → awp P T Γ.nx c s K → ∀ (a : Act) (w : World), Rel Γ s.view a w →
    c.wpIn (Fence.wide.inRound l) n P (exK Γ K) a w
  | .skip, s, K, _, h, a, w, hR => wpIn_skip ⟨.nrm, s, rfl, h, hR⟩
  | .region id ops dr, s, K, hnd, ⟨s1, he, h⟩, a, w, hR =>
    region_soundIn hT hm h exK_out (fun o ho => by have := List.all_eq_true.1 hnd o ho; simpa using this) (he Γ a w rfl hR) (fun s' a' w' hK hR' => ⟨.nrm, s', rfl, hK, hR'⟩)
  | .seq x y, s, K, hnd, h, a, w, hR => by
    simp only [ndC, Bool.and_eq_true] at hnd
    refine wpIn_seq (Code.wpIn_mono (fun e a' w' hq => ?_) (awp_soundIn hT hm x s _ hnd.1 h a w hR))
    obtain ⟨z, s', rfl, hK, hR'⟩ := hq
    cases z with
    | nrm => exact awp_soundIn hT hm y s' K hnd.2 hK a' w' hR'
    | ext id => exact ⟨.ext id, s', rfl, hK, hR'⟩
    | ret => exact ⟨.ret, s', rfl, hK, hR'⟩
  | .cond c x y, s, K, hnd, h, a, w, hR => by
    simp only [ndC, Bool.and_eq_true] at hnd
    simp only [awp] at h
    split at h
    · rename_i t ht
      obtain ⟨E, hE, hS⟩ := hR
      have hv := hS.ev c
      rw [ht] at hv
      have hb : a.eval c = .bool t := by
        generalize a.eval c = v at hv
        cases hv; rfl
      refine wpIn_cond hb ?_
      cases t with
      | true => exact awp_soundIn hT hm x s K hnd.1 (h.1 rfl) a w ⟨E, hE, hS⟩
      | false => exact awp_soundIn hT hm y s K hnd.2 (h.2 rfl) a w ⟨E, hE, hS⟩
    · rename_i k ht
      obtain ⟨E, hE, hS⟩ := hR
      have hv := hS.ev c
      rw [ht] at hv
      obtain ⟨t, hb, hn⟩ : ∃ t, a.eval c = .bool t ∧ (t = true → k = 0) := by
        generalize a.eval c = v at hv
        cases hv with
        | ub _ t hn => exact ⟨t, rfl, hn⟩
      refine wpIn_cond hb ?_
      cases t with
      | true => exact awp_soundIn hT hm x s K hnd.1 (h.1 (hn rfl)) a w ⟨E, hE, hS⟩
      | false => exact awp_soundIn hT hm y s K hnd.2 h.2 a w ⟨E, hE, hS⟩
    · exact h.elim
  | .block id c, s, K, hnd, h, a, w, hR => by
    refine wpIn_block (Code.wpIn_mono (fun e a' w' hq => ?_) (awp_soundIn hT hm c s _ hnd h a w hR))
    obtain ⟨z, s', rfl, hK, hR'⟩ := hq
    cases z with
    | nrm => exact ⟨.nrm, s', rfl, hK, hR'⟩
    | ext id' =>
      simp only [blkK] at hK
      simp only [AEx.ex, Exit.inBlock]
      split at hK
      · rename_i e; rw [if_pos e]; exact ⟨.nrm, s', rfl, hK, hR'⟩
      · rename_i e; rw [if_neg e]; exact ⟨.ext id', s', rfl, hK, hR'⟩
    | ret => exact ⟨.ret, s', rfl, hK, hR'⟩
  | .loop c, s, K, hnd, h, a, w, hR => by
    obtain ⟨I, ⟨s0, n0, he, hI⟩, hround⟩ := h
    refine wpIn_loop_idx (fun n a w => ∃ s, I n s ∧ Rel Γ s.view a w) n0 ⟨s0, hI, he Γ a w rfl hR⟩ (fun m a' w' hJ => ?_)
    obtain ⟨s1, hI1, hR1⟩ := hJ
    refine Code.wpIn_mono (fun e a2 w2 hq => ?_) (awp_soundIn hT hm c s1 _ hnd (hround m s1 hI1) a' w' hR1)
    obtain ⟨z, s', rfl, hK, hR2⟩ := hq
    cases z with
    | nrm =>
      obtain ⟨s2, m', he2, hlt, hI2⟩ := hK
      exact ⟨m', hlt, s2, hI2, he2 Γ a2 w2 rfl hR2⟩
    | ext id => exact ⟨.ext id, s', rfl, hK, hR2⟩
    | ret => exact ⟨.ret, s', rfl, hK, hR2⟩
  | .exit id, s, K, _, h, a, w, hR => wpIn_exit ⟨.ext id, s, rfl, h, hR⟩
  | .ret, s, K, _, h, a, w, hR => wpIn_ret ⟨.ret, s, rfl, h, hR⟩
  | .label l, s, K, _, h, a, w, hR => wpIn_label ⟨.nrm, s, rfl, h, hR⟩
  | .rangeFunc .., s, K, _, h, a, w, hR => by simp [awp] at h
  | .scope _, s, K, _, h, a, w, hR => by simp [awp] at h
  | .goto _, s, K, _, h, a, w, hR => by simp [awp] at h
  | .refuse _, s, K, _, h, a, w, hR => by simp [awp] at h
end Go.Ab
