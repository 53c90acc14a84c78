/- A region that draws its order: whatever order comes up, the state is the lexical one's. -/
import Derived.Test.YtpgagefaneaioaaT12
namespace Go.Ab
open Go Go.RowKit
set_option linter.unusedVariables false
set_option linter.unusedSimpArgs false

variable {P : Program} {T : TT}

/-- The temporary that an operation's guard looks at. -/
def gTmp (all : Array Oper) (o : Oper) : Option Nat := o.guard.bind fun g => (all[g.1]?).bind (·.dst)

def nms (all : Array Oper) (o : Oper) : List Nat := tmpsOf o.op ++ (gTmp all o).toList

/-- Operation number i, carried out or passed over. -/
def Step1 (Γ : Ctx) (P : Program) (all : Array Oper) (i : Nat) (S : FSt) (rd : List (Nat × Nat)) (e : Eff) : Prop :=
  ∀ (S' : FSt) (a : Act) (w : World), S'.n = S.n → (∀ o, all[i]? = some o → ∀ r ∈ nms all o, S'.reg r = S.reg r) → (∀ c ∈ rd, S'.cell c.1 c.2 = S.cell c.1 c.2) → (∀ b, e.new b = true → S'.dom b = false) →
    (∀ b j, S.dom b = true → S.cell b j = .non → S'.cell b j = .non) → Rel Γ S' a w →
    ∀ (K : Act → World → Prop) (Q : Exit → Act → World → Prop), (∀ a' w', Rel Γ (S'.apply e) a' w' → K a' w') → wpOp P all Q i K a w

theorem Stp.step1 {Γ : Ctx} {all : Array Oper} {i : Nat} {o : Oper} {S : FSt} {rd : List (Nat × Nat)} {e : Eff} (ho : all[i]? = some o)
    (hw : ∀ (S' : FSt) (a : Act) (w : World), (∀ r ∈ nms all o, S'.reg r = S.reg r) → Rel Γ S' a w → Region.wanted o (yielded all a.tmps) = true) (h : Stp Γ P o S rd e) : Step1 Γ P all i S rd e := by
  intro S' a w hn hr hrd hf hz hR K Q hK
  unfold wpOp
  simp only [ho]
  rw [if_pos (hw S' a w (hr o ho) hR)]
  exact .inl (h S' a w hn (fun r hm => hr o ho r (by simp [nms, hm])) hrd hf hz hR K Q hK)

theorem step1xskip {Γ : Ctx} {all : Array Oper} {i : Nat} {o : Oper} {S : FSt} (ho : all[i]? = some o)
    (hw : ∀ (S' : FSt) (a : Act) (w : World), (∀ r ∈ nms all o, S'.reg r = S.reg r) → Rel Γ S' a w → Region.wanted o (yielded all a.tmps) = false) (n : Nat) : Step1 Γ P all i S [] ⟨o.dst, .und, [], n, []⟩ := by
  intro S' a w hn hr hrd hf hz hR K Q hK
  unfold wpOp
  simp only [ho]
  rw [if_neg (by rw [hw S' a w (hr o ho) hR]; simp)]
  obtain ⟨E, hE, hS⟩ := hR
  exact hK _ _ ⟨E, hE, hS.pure .und n⟩

theorem wanted_none {o : Oper} (h : o.guard = none) (f : Nat → Option Bool) : Region.wanted o f = true := by simp [Region.wanted, h]

theorem yielded_of {E : Env} {S : FSt} {a : Act} {w : World} (h : SOk E S a w) {all : Array Oper} {j d : Nat} (hd : (all[j]?).bind (·.dst) = some d) :
    (∀ b, S.reg d = .bool b → yielded all a.tmps j = some b) ∧ (S.reg d = .und → yielded all a.tmps j = none) := by
  have hv := h.reg d
  constructor
  · intro b hb
    rw [hb] at hv
    have h1 : a.tmps.getD d undef = .bool b := by
      generalize a.tmps.getD d undef = u at hv
      cases hv; rfl
    have h2 : a.tmps[d]? = some (.bool b) := by
      rw [Array.getD_eq_getD_getElem?] at h1
      cases hx : a.tmps[d]? with
      | none => rw [hx] at h1; cases h1
      | some v => rw [hx] at h1; simpa using h1
    simp [yielded, hd, h2]
  · intro hb
    rw [hb] at hv
    have h1 : a.tmps.getD d undef = undef := by
      generalize a.tmps.getD d undef = u at hv
      cases hv; rfl
    rw [Array.getD_eq_getD_getElem?] at h1
    cases hx : a.tmps[d]? with
    | none => simp [yielded, hd, hx]
    | some v => rw [hx] at h1; simp only [Option.getD_some] at h1; subst h1; simp [yielded, hd, hx, undef]

/-! ### The states -/

/-- The state when of the first k operations those of D have come up. -/
def SD (S0 : FSt) (e : Nat → Eff) (D : Nat → Bool) : Nat → FSt
  | 0 => S0
  | k + 1 => if D k then (SD S0 e D k).apply (e k) else SD S0 e D k

theorem SD_n (S0 : FSt) (e : Nat → Eff) (D : Nat → Bool) : ∀ k, (SD S0 e D k).n = S0.n
  | 0 => rfl
  | k + 1 => by
    rw [SD]
    split
    · exact SD_n S0 e D k
    · exact SD_n S0 e D k

section
variable {S0 : FSt} {e : Nat → Eff} {n : Nat}

theorem SD_reg {D L : Nat → Bool} {r : Nat} (h : ∀ k, k < n → (e k).dst = some r → D k = L k) : ∀ k, k ≤ n → (SD S0 e D k).reg r = (SD S0 e L k).reg r
  | 0, _ => rfl
  | k + 1, hk => by
    have ih := SD_reg h k (by omega)
    by_cases hd : (e k).dst = some r
    · rw [SD, SD, h k (by omega) hd]
      split
      · simp only [FSt.apply, hd, true_and, SD_n]; rw [ih]
      · exact ih
    · have : ∀ S : FSt, (S.apply (e k)).reg r = S.reg r := fun S => by simp [FSt.apply, hd]
      have h2 : ∀ M : Nat → Bool, (SD S0 e M (k + 1)).reg r = (SD S0 e M k).reg r := fun M => by
        rw [SD]; split
        · exact this _
        · rfl
      rw [h2, h2, ih]

/-- A cell that an effect writes. -/
def Eff.hits (f : Eff) (b j : Nat) : Bool := f.new b || f.ws.any fun x => x.1 == b && x.2.1 == j

theorem wrs_miss : ∀ (ws : List (Nat × Nat × AV)) (f : Nat → Nat → AV) (b j : Nat), (ws.any fun x => x.1 == b && x.2.1 == j) = false → wrs ws f b j = f b j
  | [], _, _, _, _ => rfl
  | x :: r, f, b, j, h => by
    simp only [List.any_cons, Bool.or_eq_false_iff] at h
    rw [wrs, wrs_miss r _ b j h.2]
    unfold upd
    rw [if_neg]
    rintro ⟨h1, h2⟩
    subst h1; subst h2
    simp at h

theorem wrs_hit : ∀ (ws : List (Nat × Nat × AV)) (f g : Nat → Nat → AV) (b j : Nat), (ws.any fun x => x.1 == b && x.2.1 == j) = true → wrs ws f b j = wrs ws g b j
  | [], _, _, _, _, h => by simp at h
  | x :: r, f, g, b, j, h => by
    simp only [List.any_cons, Bool.or_eq_true] at h
    rw [wrs, wrs]
    by_cases hr : (r.any fun x => x.1 == b && x.2.1 == j) = true
    · exact wrs_hit r _ _ b j hr
    · have hx : (x.1 == b && x.2.1 == j) = true := h.resolve_right hr
      rw [wrs_miss r _ b j (Bool.eq_false_iff.2 hr), wrs_miss r _ b j (Bool.eq_false_iff.2 hr)]
      simp only [Bool.and_eq_true, beq_iff_eq] at hx
      simp [upd, hx.1, hx.2]

theorem wrs_val : ∀ (ws : List (Nat × Nat × AV)) (f : Nat → Nat → AV) (b j : Nat), (ws.any fun x => x.1 == b && x.2.1 == j) = true → ∃ c, (b, j, c) ∈ ws ∧ wrs ws f b j = c
  | [], _, _, _, h => by simp at h
  | x :: r, f, b, j, h => by
    simp only [List.any_cons, Bool.or_eq_true] at h
    rw [wrs]
    by_cases hr : (r.any fun x => x.1 == b && x.2.1 == j) = true
    · obtain ⟨c, h1, h2⟩ := wrs_val r (upd f x.1 x.2.1 x.2.2) b j hr
      exact ⟨c, List.mem_cons_of_mem _ h1, h2⟩
    · have hx : (x.1 == b && x.2.1 == j) = true := h.resolve_right hr
      simp only [Bool.and_eq_true, beq_iff_eq] at hx
      refine ⟨x.2.2, by rw [← hx.1, ← hx.2]; simp, ?_⟩
      rw [wrs_miss r _ b j (Bool.eq_false_iff.2 hr)]
      simp [upd, hx.1, hx.2]

theorem apply_miss (S : FSt) (f : Eff) {b j : Nat} (h : f.hits b j = false) : (S.apply f).cell b j = S.cell b j := by
  simp only [Eff.hits, Bool.or_eq_false_iff] at h
  simp only [FSt.apply, h.1, Bool.false_eq_true, if_false]
  exact wrs_miss _ _ _ _ h.2

theorem apply_hit (S S' : FSt) (f : Eff) {b j : Nat} (h : f.hits b j = true) : (S.apply f).cell b j = (S'.apply f).cell b j := by
  simp only [FSt.apply]
  split
  · rfl
  · rename_i hn
    simp only [Eff.hits, Bool.or_eq_true] at h
    exact wrs_hit _ _ _ _ _ (h.resolve_left hn)

theorem SD_cell {D L : Nat → Bool} {b j : Nat} (h : ∀ k, k < n → (e k).hits b j = true → D k = L k) : ∀ k, k ≤ n → (SD S0 e D k).cell b j = (SD S0 e L k).cell b j
  | 0, _ => rfl
  | k + 1, hk => by
    have ih := SD_cell h k (by omega)
    cases hd : (e k).hits b j with
    | true =>
      rw [SD, SD, h k (by omega) hd]
      split
      · exact apply_hit _ _ _ hd
      · exact ih
    | false =>
      have h2 : ∀ M : Nat → Bool, (SD S0 e M (k + 1)).cell b j = (SD S0 e M k).cell b j := fun M => by
        rw [SD]; split
        · exact apply_miss _ _ hd
        · rfl
      rw [h2, h2, ih]

theorem SD_dom {D L : Nat → Bool} {b : Nat} (h : ∀ k, k < n → (e k).new b = true → D k = L k) : ∀ k, k ≤ n → (SD S0 e D k).dom b = (SD S0 e L k).dom b
  | 0, _ => rfl
  | k + 1, hk => by
    have ih := SD_dom h k (by omega)
    cases hd : (e k).new b with
    | true =>
      rw [SD, SD, h k (by omega) hd]
      split
      · simp [FSt.apply, hd]
      · exact ih
    | false =>
      have h2 : ∀ M : Nat → Bool, (SD S0 e M (k + 1)).dom b = (SD S0 e M k).dom b := fun M => by
        rw [SD]; split
        · simp [FSt.apply, hd]
        · rfl
      rw [h2, h2, ih]

theorem SD_stop {D : Nat → Bool} (i : Nat) : ∀ k, i ≤ k → (∀ x, i ≤ x → x < k → D x = false) → SD S0 e D k = SD S0 e D i
  | 0, h, _ => by rw [Nat.le_zero.1 h]
  | k + 1, h, hD => by
    rcases Nat.lt_or_ge k i with hk | hk
    · have : i = k + 1 := by omega
      rw [this]
    · rw [SD, hD k hk (by omega), if_neg (by simp)]
      exact SD_stop i k hk (fun x a b => hD x a (by omega))

theorem SD_congr {D L : Nat → Bool} : ∀ k, (∀ x, x < k → D x = L x) → SD S0 e D k = SD S0 e L k
  | 0, _ => rfl
  | k + 1, h => by rw [SD, SD, h k (by omega), SD_congr k (fun x hx => h x (by omega))]

/-- The lexical states. -/
theorem SD_lex {S : Nat → FSt} (h0 : S 0 = S0) (hs : ∀ i, i < n → S (i + 1) = (S i).apply (e i)) : ∀ k, k ≤ n → SD S0 e (fun _ => true) k = S k
  | 0, _ => h0.symm
  | k + 1, hk => by rw [SD, if_pos rfl, SD_lex h0 hs k (by omega), hs k (by omega)]

theorem SD_prefix (i : Nat) {k : Nat} (hk : i ≤ k) : SD S0 e (fun x => decide (x < i)) k = SD S0 e (fun _ => true) i := by
  rw [SD_stop i k hk (fun x a _ => by simp; omega)]
  exact SD_congr i (fun x hx => by simp [hx])

end

/-- All that is asked of a region's trace. -/
structure Trace (Γ : Ctx) (P : Program) (all : Array Oper) (S : Nat → FSt) (e : Nat → Eff) (rd : Nat → List (Nat × Nat)) : Prop where
  step : ∀ i, i < all.size → Step1 Γ P all i (S i) (rd i) (e i)
  next : ∀ i, i < all.size → S (i + 1) = (S i).apply (e i)
  fresh : ∀ i b, i < all.size → (e i).new b = true → (S i).dom b = false
  keep : ∀ i, i < all.size → ∀ x ∈ (e i).ws, (S i).cell x.1 x.2.1 ≠ .non ∧ x.2.2 ≠ .non
  out : ∀ b j, (S 0).dom b = false → (S 0).cell b j = .non
  dst : ∀ (i : Nat) o, all[i]? = some o → (e i).dst = o.dst

structure Indep (all : Array Oper) (e : Nat → Eff) (rd : Nat → List (Nat × Nat)) (i j : Nat) : Prop where
  t1 : ∀ d o, (e i).dst = some d → all[j]? = some o → d ∉ nms all o
  t2 : ∀ d o, (e j).dst = some d → all[i]? = some o → d ∉ nms all o
  t3 : ∀ d, (e i).dst = some d → (e j).dst ≠ some d
  c1 : ∀ c ∈ rd j, (e i).hits c.1 c.2 = false
  c2 : ∀ c ∈ rd i, (e j).hits c.1 c.2 = false
  c3 : ∀ b k, (e i).hits b k = true → (e j).hits b k = false

/-- What is asked of the order. -/
structure Order (all : Array Oper) (e : Nat → Eff) (rd : Nat → List (Nat × Nat)) (B : Nat → Nat → Bool) : Prop where
  back : ∀ (j : Nat) o, all[j]? = some o → ∀ x ∈ o.after, Region.binds .any x = true → x.on < j
  via : ∀ (j : Nat) o i, all[j]? = some o → B j i = true → ∃ x ∈ o.after, Region.binds .any x = true ∧ (x.on = i ∨ B x.on i = true)
  pair : ∀ i j, i < j → j < all.size → B j i = true ∨ Indep all e rd i j

section
variable {Γ : Ctx} {all : Array Oper} {S : Nat → FSt} {e : Nat → Eff} {rd : Nat → List (Nat × Nat)} {B : Nat → Nat → Bool}

/-- The state at a set of operations that have come up. -/
abbrev at_ (S : Nat → FSt) (e : Nat → Eff) (n : Nat) (D : Nat → Bool) : FSt := SD (S 0) e D n

theorem Trace.dom_mono (h : Trace Γ P all S e rd) {b : Nat} : ∀ i k, i ≤ k → k ≤ all.size → (S i).dom b = true → (S k).dom b = true
  | i, 0, hik, _, hd => by rw [Nat.le_zero.1 hik] at hd; exact hd
  | i, k + 1, hik, hk, hd => by
    rcases Nat.lt_or_ge k i with h1 | h1
    · have : i = k + 1 := by omega
      subst this; exact hd
    · rw [h.next k (by omega)]
      simp [FSt.apply, h.dom_mono i k h1 (by omega) hd]

theorem Trace.out' (h : Trace Γ P all S e rd) {b j : Nat} : ∀ k, k ≤ all.size → (S k).dom b = false → (S k).cell b j = .non
  | 0, _, hd => h.out b j hd
  | k + 1, hk, hd => by
    rw [h.next k (by omega)] at hd ⊢
    simp only [FSt.apply, Bool.or_eq_false_iff] at hd
    have ih := h.out' (b := b) (j := j) k (by omega) hd.1
    cases hh : (e k).hits b j with
    | false => rw [apply_miss _ _ hh]; exact ih
    | true =>
      exfalso
      simp only [Eff.hits, hd.2, Bool.false_or] at hh
      obtain ⟨c, h1, _⟩ := wrs_val (e k).ws (S k).cell b j hh
      exact (h.keep k (by omega) _ h1).1 ih

theorem Trace.non1 (h : Trace Γ P all S e rd) (D : Nat → Bool) {b j : Nat} : ∀ k, k ≤ all.size → (SD (S 0) e D k).cell b j ≠ .non → (S k).cell b j ≠ .non
  | 0, _, hx => hx
  | k + 1, hk, hx => by
    have ih := h.non1 D (b := b) (j := j) k (by omega)
    rw [h.next k (by omega)]
    cases hh : (e k).hits b j with
    | false =>
      rw [apply_miss _ _ hh]
      rw [SD] at hx
      split at hx
      · rw [apply_miss _ _ hh] at hx; exact ih hx
      · exact ih hx
    | true =>
      rw [SD] at hx
      split at hx
      · rw [apply_hit _ (S k) _ hh] at hx; exact hx
      · -- it has not come up: the cell was there already, so it is not new
        have hk' := ih hx
        simp only [FSt.apply]
        split
        · rename_i hn
          exact absurd (h.out' k (by omega) (h.fresh k b (by omega) hn)) hk'
        · rename_i hn
          simp only [Eff.hits, Bool.or_eq_true] at hh
          obtain ⟨c, h1, h2⟩ := wrs_val (e k).ws (S k).cell b j (hh.resolve_left hn)
          rw [h2]
          exact (h.keep k (by omega) _ h1).2

theorem Trace.non2 (h : Trace Γ P all S e rd) {b j i : Nat} (hd : (S i).dom b = true) : ∀ k, i ≤ k → k ≤ all.size → (S k).cell b j ≠ .non → (S i).cell b j ≠ .non
  | 0, hik, _, hx => by rw [Nat.le_zero.1 hik]; exact hx
  | k + 1, hik, hk, hx => by
    rcases Nat.lt_or_ge k i with h1 | h1
    · have : i = k + 1 := by omega
      subst this; exact hx
    · refine h.non2 hd k h1 (by omega) ?_
      rw [h.next k (by omega)] at hx
      cases hh : (e k).hits b j with
      | false => rw [apply_miss _ _ hh] at hx; exact hx
      | true =>
        have hnew : (e k).new b = false := by
          cases hn : (e k).new b with
          | false => rfl
          | true =>
            have := h.fresh k b (by omega) hn
            rw [h.dom_mono i k h1 (by omega) hd] at this
            cases this
        simp only [Eff.hits, hnew, Bool.false_or] at hh
        obtain ⟨c, h2, _⟩ := wrs_val (e k).ws (S k).cell b j hh
        exact (h.keep k (by omega) _ h2).1

theorem fs_ext {A C : FSt} (h1 : A.n = C.n) (h2 : ∀ r, A.reg r = C.reg r) (h3 : ∀ b j, A.cell b j = C.cell b j) (h4 : ∀ b, A.dom b = C.dom b) : A = C := by
  cases A; cases C
  simp only at h1 h2 h3 h4
  subst h1
  congr
  · funext r; exact h2 r
  · funext b j; exact h3 b j
  · funext b; exact h4 b

/-- One operation more comes up. -/
theorem Trace.come (h : Trace Γ P all S e rd) (ho : Order all e rd B) {D : Nat → Bool} (hcl : ∀ k i, k < all.size → D k = true → B k i = true → D i = true) {i : Nat} {o : Oper} (hi : all[i]? = some o) (hD : D i = false)
    (hr : ∀ x ∈ o.after, Region.binds .any x = true → D x.on = true) {a : Act} {w : World} (hR : Rel Γ (at_ S e all.size D) a w) {K : Act → World → Prop} {Q : Exit → Act → World → Prop}
    (hK : ∀ a' w', Rel Γ (at_ S e all.size (fun k => D k || decide (k = i))) a' w' → K a' w') : wpOp P all Q i K a w := by
  have hin : i < all.size := (Array.getElem?_eq_some_iff.1 hi).1
  have hlex := SD_lex (S0 := S 0) (e := e) (n := all.size) (S := S) rfl h.next
  -- what stands ahead of i has come up; what waits for i has not
  have hB : ∀ k, B i k = true → D k = true := fun k hk => by
    obtain ⟨x, h1, h2, h3⟩ := ho.via i o k hi hk
    rcases h3 with h3 | h3
    · rw [← h3]; exact hr x h1 h2
    · have hx := hr x h1 h2
      exact hcl x.on k (Nat.lt_trans (ho.back i o hi x h1 h2) hin) hx h3
  have hA : ∀ k, k < all.size → B k i = true → D k = false := fun k hk hb => by
    cases hx : D k with
    | false => rfl
    | true => have := hcl k i hk hx hb; rw [hD] at this; cases this
  -- D and 'less than i' agree on whatever is not apart from i
  have agree : ∀ k, k < all.size → k ≠ i → (k < i → ¬ Indep all e rd k i) → (i < k → ¬ Indep all e rd i k) → D k = decide (k < i) := fun k hk hne h1 h2 => by
    rcases Nat.lt_or_ge k i with hlt | hge
    · have := (ho.pair k i hlt hin).resolve_right (h1 hlt)
      simp [hB k this, hlt]
    · have hgt : i < k := by omega
      have := (ho.pair i k hgt hk).resolve_right (h2 hgt)
      rw [hA k hk this]
      simp; omega
  have hSi : SD (S 0) e (fun x => decide (x < i)) all.size = S i := by rw [SD_prefix i (by omega), hlex i (by omega)]
  have hnm : (at_ S e all.size D).n = (S i).n := by rw [SD_n, ← hlex i (by omega), SD_n]
  refine h.step i hin (at_ S e all.size D) a w hnm (fun o' ho' r hm => ?_) (fun c hc => ?_) (fun b hb => ?_) (fun b j hd hx => ?_) hR K Q (fun a' w' hR' => hK a' w' ?_)
  · rw [hi] at ho'; injection ho' with ho'; subst ho'
    rw [← hSi]
    refine SD_reg (n := all.size) (fun k hk hd => ?_) _ (Nat.le_refl _)
    by_cases hki : k = i
    · subst hki; simp [hD]
    · exact agree k hk hki (fun _ hx => hx.t1 r o hd hi hm) (fun _ hx => hx.t2 r o hd hi hm)
  · rw [← hSi]
    refine SD_cell (n := all.size) (fun k hk hh => ?_) _ (Nat.le_refl _)
    by_cases hki : k = i
    · subst hki; simp [hD]
    · exact agree k hk hki (fun _ hx => by have := hx.c1 c hc; rw [hh] at this; cases this) (fun _ hx => by have := hx.c2 c hc; rw [hh] at this; cases this)
  · -- a number that is new to i is new to nobody else
    have h0 : (S 0).dom b = false := by
      cases hx : (S 0).dom b with
      | false => rfl
      | true => have := h.dom_mono 0 i (Nat.zero_le _) (by omega) hx; rw [h.fresh i b hin hb] at this; cases this
    rw [SD_dom (n := all.size) (L := fun _ => false) (fun k hk hkn => ?_) _ (Nat.le_refl _)]
    · rw [SD_stop 0 all.size (Nat.zero_le _) (fun _ _ _ => rfl)]; exact h0
    · by_cases hki : k = i
      · subst hki; exact hD
      · exfalso
        rcases Nat.lt_or_ge k i with hlt | hge
        · have h1 : (S (k + 1)).dom b = true := by rw [h.next k hk]; simp [FSt.apply, hkn]
          have := h.dom_mono (k + 1) i (by omega) (by omega) h1
          rw [h.fresh i b hin hb] at this; cases this
        · have h1 : (S (i + 1)).dom b = true := by rw [h.next i hin]; simp [FSt.apply, hb]
          have := h.dom_mono (i + 1) k (by omega) (by omega) h1
          rw [h.fresh k b hk hkn] at this; cases this
  · exact Classical.byContradiction fun hc => absurd hx (h.non2 hd all.size (by omega) (Nat.le_refl _) (h.non1 D all.size (Nat.le_refl _) hc))
  · -- the state behind
    have hst : at_ S e all.size (fun k => D k || decide (k = i)) = (at_ S e all.size D).apply (e i) := by
      have hlate : ∀ k, i < k → k < all.size → ¬ Indep all e rd i k → D k = false := fun k h1 h2 h3 => hA k h2 ((ho.pair i k h1 h2).resolve_right h3)
      refine fs_ext ?_ (fun r => ?_) (fun b j => ?_) (fun b => ?_)
      · rw [SD_n]; simp only [FSt.apply]; rw [SD_n]
      · by_cases hd : (e i).dst = some r
        · -- i writes it last
          have e1 : (at_ S e all.size (fun k => D k || decide (k = i))).reg r = (SD (S 0) e (fun k => (D k || decide (k = i)) && decide (k ≤ i)) all.size).reg r := by
            refine SD_reg (n := all.size) (fun k hk hkd => ?_) _ (Nat.le_refl _)
            by_cases hki : k = i
            · subst hki; simp
            · rcases Nat.lt_or_ge k i with hlt | hge
              · simp [Nat.le_of_lt hlt]
              · rw [hlate k (by omega) hk (fun hx => hx.t3 r hd hkd)]; simp [hki]
          rw [e1, SD_stop (i + 1) all.size (by omega) (fun x h1 _ => by simp; omega), SD]
          simp only [decide_true, Bool.or_true, Nat.le_refl, Bool.and_self, if_true, FSt.apply, hd, true_and, SD_n]
          have hreg : ∀ c : AV, (if r < (S 0).n then (e i).val else c) = if r < (S 0).n then (e i).val else c := fun _ => rfl
          by_cases hrn : r < (S 0).n
          · simp [hrn]
          · simp only [hrn, if_false]
            -- a register that is not there: nobody writes it
            have none_ : ∀ (M : Nat → Bool) k, (SD (S 0) e M k).reg r = (S 0).reg r := fun M k => by
              induction k with
              | zero => rfl
              | succ k ih =>
                rw [SD]; split
                · simp only [FSt.apply, SD_n, hrn, and_false, if_false]; exact ih
                · exact ih
            rw [none_, none_]
        · have e1 : (at_ S e all.size (fun k => D k || decide (k = i))).reg r = (at_ S e all.size D).reg r := by
            refine SD_reg (n := all.size) (fun k hk hkd => ?_) _ (Nat.le_refl _)
            have : k ≠ i := fun e' => by subst e'; exact hd hkd
            simp [this]
          rw [e1]
          simp [FSt.apply, hd]
      · cases hh : (e i).hits b j with
        | true =>
          have e1 : (at_ S e all.size (fun k => D k || decide (k = i))).cell b j = (SD (S 0) e (fun k => (D k || decide (k = i)) && decide (k ≤ i)) all.size).cell b j := by
            refine SD_cell (n := all.size) (fun k hk hkd => ?_) _ (Nat.le_refl _)
            by_cases hki : k = i
            · subst hki; simp
            · rcases Nat.lt_or_ge k i with hlt | hge
              · simp [Nat.le_of_lt hlt]
              · rw [hlate k (by omega) hk (fun hx => by have := hx.c3 b j hh; rw [hkd] at this; cases this)]; simp [hki]
          rw [e1, SD_stop (i + 1) all.size (by omega) (fun x h1 _ => by simp; omega), SD]
          simp only [decide_true, Bool.or_true, Nat.le_refl, Bool.and_self, if_true]
          exact apply_hit _ _ _ hh
        | false =>
          rw [apply_miss _ _ hh]
          refine SD_cell (n := all.size) (fun k hk hkd => ?_) _ (Nat.le_refl _)
          have : k ≠ i := fun e' => by subst e'; rw [hh] at hkd; cases hkd
          simp [this]
      · cases hh : (e i).new b with
        | true =>
          simp only [FSt.apply, hh, Bool.or_true]
          have e1 : (at_ S e all.size (fun k => D k || decide (k = i))).dom b = (SD (S 0) e (fun k => decide (k = i)) all.size).dom b := by
            refine SD_dom (n := all.size) (fun k hk hkn => ?_) _ (Nat.le_refl _)
            by_cases hki : k = i
            · subst hki; simp
            · exfalso
              rcases Nat.lt_or_ge k i with hlt | hge
              · have h1 : (S (k + 1)).dom b = true := by rw [h.next k hk]; simp [FSt.apply, hkn]
                have := h.dom_mono (k + 1) i (by omega) (by omega) h1
                rw [h.fresh i b hin hh] at this; cases this
              · have h1 : (S (i + 1)).dom b = true := by rw [h.next i hin]; simp [FSt.apply, hh]
                have := h.dom_mono (i + 1) k (by omega) (by omega) h1
                rw [h.fresh k b hk hkn] at this; cases this
          rw [e1, SD_stop (i + 1) all.size (by omega) (fun x h1 _ => by simp; omega), SD]
          simp [FSt.apply, hh]
        | false =>
          simp only [FSt.apply, hh, Bool.or_false]
          refine SD_dom (n := all.size) (fun k hk hkn => ?_) _ (Nat.le_refl _)
          have : k ≠ i := fun e' => by subst e'; rw [hh] at hkn; cases hkn
          simp [this]
    rw [hst]; exact hR'

end
end Go.Ab
