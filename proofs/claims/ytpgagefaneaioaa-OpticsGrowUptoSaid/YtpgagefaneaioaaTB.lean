/- A region that draws its order: whatever order comes up, the state is the lexical one's. A region, abstractly: its operations one behind the other; the order that it draws; that it is right. The abstract machine: states as lists, one operation, a region, code; that what it shows is so of the model. Regions and code, abstractly; loops; functions. From the code of a function to its contract. The table of types, computed of the program, and that it is right. The machine, told for simp: state in the form ⟨R, H⟩, one lemma for each operation; what is simplified inside of what (congr). Values, for simp: lists as rows, wrapping, calls. Operations by the table, with their side conditions as conjuncts: the shapes that the printed text of a seat instantiates for each type. Loops and ends, for proofs: states with few registers known; weakening. From a contract to a law's call: the environment of the world's own cells; readings of arguments. Maps that are sets of strings. Calls that are handed blocks. -/
import Derived.Test.YtpgagefaneaioaaTA
import Derived.Below
import Derived.ChangeSame
import Derived.ChangeSlices
import Derived.ProofKit
section
namespace Go.Ab
open Go Go.RowKit
set_option linter.unusedVariables false
set_option linter.unusedSimpArgs false

variable {P : Program} {T : TT}

/-- The temporary that an operation's guard looks at. -/
def gTmp (all : Array Oper) (o : Oper) : Option Nat := o.guard.bind fun g => (all[g.1]?).bind (·.dst)

def nms (all : Array Oper) (o : Oper) : List Nat := tmpsOf o.op ++ (gTmp all o).toList

/-- Operation number i, carried out or passed over. -/
def Step1 (Γ : Ctx) (P : Program) (all : Array Oper) (i : Nat) (S : FSt) (rd : List (Nat × Nat)) (e : Eff) : Prop :=
  ∀ (S' : FSt) (a : Act) (w : World), S'.n = S.n → (∀ o, all[i]? = some o → ∀ r ∈ nms all o, S'.reg r = S.reg r) → (∀ c ∈ rd, S'.cell c.1 c.2 = S.cell c.1 c.2) → (∀ b, e.new b = true → S'.dom b = false) →
    (∀ b j, S.dom b = true → S.cell b j = .non → S'.cell b j = .non) → Rel Γ S' a w →
    ∀ (K : Act → World → Prop) (Q : Exit → Act → World → Prop), (∀ a' w', Rel Γ (S'.apply e) a' w' → K a' w') → wpOp P all Q i K a w

theorem Stp.step1 {Γ : Ctx} {all : Array Oper} {i : Nat} {o : Oper} {S : FSt} {rd : List (Nat × Nat)} {e : Eff} (ho : all[i]? = some o)
    (hw : ∀ (S' : FSt) (a : Act) (w : World), (∀ r ∈ nms all o, S'.reg r = S.reg r) → Rel Γ S' a w → Region.wanted o (yielded all a.tmps) = true) (h : Stp Γ P o S rd e) : Step1 Γ P all i S rd e := by
  intro S' a w hn hr hrd hf hz hR K Q hK
  unfold wpOp
  simp only [ho]
  rw [if_pos (hw S' a w (hr o ho) hR)]
  exact .inl (h S' a w hn (fun r hm => hr o ho r (by simp [nms, hm])) hrd hf hz hR K Q hK)

theorem step1xskip {Γ : Ctx} {all : Array Oper} {i : Nat} {o : Oper} {S : FSt} (ho : all[i]? = some o)
    (hw : ∀ (S' : FSt) (a : Act) (w : World), (∀ r ∈ nms all o, S'.reg r = S.reg r) → Rel Γ S' a w → Region.wanted o (yielded all a.tmps) = false) (n : Nat) : Step1 Γ P all i S [] ⟨o.dst, .und, [], n, []⟩ := by
  intro S' a w hn hr hrd hf hz hR K Q hK
  unfold wpOp
  simp only [ho]
  rw [if_neg (by rw [hw S' a w (hr o ho) hR]; simp)]
  obtain ⟨E, hE, hS⟩ := hR
  exact hK _ _ ⟨E, hE, hS.pure .und n⟩

theorem wanted_none {o : Oper} (h : o.guard = none) (f : Nat → Option Bool) : Region.wanted o f = true := by simp [Region.wanted, h]

theorem yielded_of {E : Env} {S : FSt} {a : Act} {w : World} (h : SOk E S a w) {all : Array Oper} {j d : Nat} (hd : (all[j]?).bind (·.dst) = some d) :
    (∀ b, S.reg d = .bool b → yielded all a.tmps j = some b) ∧ (S.reg d = .und → yielded all a.tmps j = none) := by
  have hv := h.reg d
  constructor
  · intro b hb
    rw [hb] at hv
    have h1 : a.tmps.getD d undef = .bool b := by
      generalize a.tmps.getD d undef = u at hv
      cases hv; rfl
    have h2 : a.tmps[d]? = some (.bool b) := by
      rw [Array.getD_eq_getD_getElem?] at h1
      cases hx : a.tmps[d]? with
      | none => rw [hx] at h1; cases h1
      | some v => rw [hx] at h1; simpa using h1
    simp [yielded, hd, h2]
  · intro hb
    rw [hb] at hv
    have h1 : a.tmps.getD d undef = undef := by
      generalize a.tmps.getD d undef = u at hv
      cases hv; rfl
    rw [Array.getD_eq_getD_getElem?] at h1
    cases hx : a.tmps[d]? with
    | none => simp [yielded, hd, hx]
    | some v => rw [hx] at h1; simp only [Option.getD_some] at h1; subst h1; simp [yielded, hd, hx, undef]

/-! ### The states -/

/-- The state when of the first k operations those of D have come up. -/
def SD (S0 : FSt) (e : Nat → Eff) (D : Nat → Bool) : Nat → FSt
  | 0 => S0
  | k + 1 => if D k then (SD S0 e D k).apply (e k) else SD S0 e D k

theorem SD_n (S0 : FSt) (e : Nat → Eff) (D : Nat → Bool) : ∀ k, (SD S0 e D k).n = S0.n
  | 0 => rfl
  | k + 1 => by
    rw [SD]
    split
    · exact SD_n S0 e D k
    · exact SD_n S0 e D k

section
variable {S0 : FSt} {e : Nat → Eff} {n : Nat}

theorem SD_reg {D L : Nat → Bool} {r : Nat} (h : ∀ k, k < n → (e k).dst = some r → D k = L k) : ∀ k, k ≤ n → (SD S0 e D k).reg r = (SD S0 e L k).reg r
  | 0, _ => rfl
  | k + 1, hk => by
    have ih := SD_reg h k (by omega)
    by_cases hd : (e k).dst = some r
    · rw [SD, SD, h k (by omega) hd]
      split
      · simp only [FSt.apply, hd, true_and, SD_n]; rw [ih]
      · exact ih
    · have : ∀ S : FSt, (S.apply (e k)).reg r = S.reg r := fun S => by simp [FSt.apply, hd]
      have h2 : ∀ M : Nat → Bool, (SD S0 e M (k + 1)).reg r = (SD S0 e M k).reg r := fun M => by
        rw [SD]; split
        · exact this _
        · rfl
      rw [h2, h2, ih]

/-- A cell that an effect writes. -/
def Eff.hits (f : Eff) (b j : Nat) : Bool := f.new b || f.ws.any fun x => x.1 == b && x.2.1 == j

theorem wrs_miss : ∀ (ws : List (Nat × Nat × AV)) (f : Nat → Nat → AV) (b j : Nat), (ws.any fun x => x.1 == b && x.2.1 == j) = false → wrs ws f b j = f b j
  | [], _, _, _, _ => rfl
  | x :: r, f, b, j, h => by
    simp only [List.any_cons, Bool.or_eq_false_iff] at h
    rw [wrs, wrs_miss r _ b j h.2]
    unfold upd
    rw [if_neg]
    rintro ⟨h1, h2⟩
    subst h1; subst h2
    simp at h

theorem wrs_hit : ∀ (ws : List (Nat × Nat × AV)) (f g : Nat → Nat → AV) (b j : Nat), (ws.any fun x => x.1 == b && x.2.1 == j) = true → wrs ws f b j = wrs ws g b j
  | [], _, _, _, _, h => by simp at h
  | x :: r, f, g, b, j, h => by
    simp only [List.any_cons, Bool.or_eq_true] at h
    rw [wrs, wrs]
    by_cases hr : (r.any fun x => x.1 == b && x.2.1 == j) = true
    · exact wrs_hit r _ _ b j hr
    · have hx : (x.1 == b && x.2.1 == j) = true := h.resolve_right hr
      rw [wrs_miss r _ b j (Bool.eq_false_iff.2 hr), wrs_miss r _ b j (Bool.eq_false_iff.2 hr)]
      simp only [Bool.and_eq_true, beq_iff_eq] at hx
      simp [upd, hx.1, hx.2]

theorem wrs_val : ∀ (ws : List (Nat × Nat × AV)) (f : Nat → Nat → AV) (b j : Nat), (ws.any fun x => x.1 == b && x.2.1 == j) = true → ∃ c, (b, j, c) ∈ ws ∧ wrs ws f b j = c
  | [], _, _, _, h => by simp at h
  | x :: r, f, b, j, h => by
    simp only [List.any_cons, Bool.or_eq_true] at h
    rw [wrs]
    by_cases hr : (r.any fun x => x.1 == b && x.2.1 == j) = true
    · obtain ⟨c, h1, h2⟩ := wrs_val r (upd f x.1 x.2.1 x.2.2) b j hr
      exact ⟨c, List.mem_cons_of_mem _ h1, h2⟩
    · have hx : (x.1 == b && x.2.1 == j) = true := h.resolve_right hr
      simp only [Bool.and_eq_true, beq_iff_eq] at hx
      refine ⟨x.2.2, by rw [← hx.1, ← hx.2]; simp, ?_⟩
      rw [wrs_miss r _ b j (Bool.eq_false_iff.2 hr)]
      simp [upd, hx.1, hx.2]

theorem apply_miss (S : FSt) (f : Eff) {b j : Nat} (h : f.hits b j = false) : (S.apply f).cell b j = S.cell b j := by
  simp only [Eff.hits, Bool.or_eq_false_iff] at h
  simp only [FSt.apply, h.1, Bool.false_eq_true, if_false]
  exact wrs_miss _ _ _ _ h.2

theorem apply_hit (S S' : FSt) (f : Eff) {b j : Nat} (h : f.hits b j = true) : (S.apply f).cell b j = (S'.apply f).cell b j := by
  simp only [FSt.apply]
  split
  · rfl
  · rename_i hn
    simp only [Eff.hits, Bool.or_eq_true] at h
    exact wrs_hit _ _ _ _ _ (h.resolve_left hn)

theorem SD_cell {D L : Nat → Bool} {b j : Nat} (h : ∀ k, k < n → (e k).hits b j = true → D k = L k) : ∀ k, k ≤ n → (SD S0 e D k).cell b j = (SD S0 e L k).cell b j
  | 0, _ => rfl
  | k + 1, hk => by
    have ih := SD_cell h k (by omega)
    cases hd : (e k).hits b j with
    | true =>
      rw [SD, SD, h k (by omega) hd]
      split
      · exact apply_hit _ _ _ hd
      · exact ih
    | false =>
      have h2 : ∀ M : Nat → Bool, (SD S0 e M (k + 1)).cell b j = (SD S0 e M k).cell b j := fun M => by
        rw [SD]; split
        · exact apply_miss _ _ hd
        · rfl
      rw [h2, h2, ih]

theorem SD_dom {D L : Nat → Bool} {b : Nat} (h : ∀ k, k < n → (e k).new b = true → D k = L k) : ∀ k, k ≤ n → (SD S0 e D k).dom b = (SD S0 e L k).dom b
  | 0, _ => rfl
  | k + 1, hk => by
    have ih := SD_dom h k (by omega)
    cases hd : (e k).new b with
    | true =>
      rw [SD, SD, h k (by omega) hd]
      split
      · simp [FSt.apply, hd]
      · exact ih
    | false =>
      have h2 : ∀ M : Nat → Bool, (SD S0 e M (k + 1)).dom b = (SD S0 e M k).dom b := fun M => by
        rw [SD]; split
        · simp [FSt.apply, hd]
        · rfl
      rw [h2, h2, ih]

theorem SD_stop {D : Nat → Bool} (i : Nat) : ∀ k, i ≤ k → (∀ x, i ≤ x → x < k → D x = false) → SD S0 e D k = SD S0 e D i
  | 0, h, _ => by rw [Nat.le_zero.1 h]
  | k + 1, h, hD => by
    rcases Nat.lt_or_ge k i with hk | hk
    · have : i = k + 1 := by omega
      rw [this]
    · rw [SD, hD k hk (by omega), if_neg (by simp)]
      exact SD_stop i k hk (fun x a b => hD x a (by omega))

theorem SD_congr {D L : Nat → Bool} : ∀ k, (∀ x, x < k → D x = L x) → SD S0 e D k = SD S0 e L k
  | 0, _ => rfl
  | k + 1, h => by rw [SD, SD, h k (by omega), SD_congr k (fun x hx => h x (by omega))]

/-- The lexical states. -/
theorem SD_lex {S : Nat → FSt} (h0 : S 0 = S0) (hs : ∀ i, i < n → S (i + 1) = (S i).apply (e i)) : ∀ k, k ≤ n → SD S0 e (fun _ => true) k = S k
  | 0, _ => h0.symm
  | k + 1, hk => by rw [SD, if_pos rfl, SD_lex h0 hs k (by omega), hs k (by omega)]

theorem SD_prefix (i : Nat) {k : Nat} (hk : i ≤ k) : SD S0 e (fun x => decide (x < i)) k = SD S0 e (fun _ => true) i := by
  rw [SD_stop i k hk (fun x a _ => by simp; omega)]
  exact SD_congr i (fun x hx => by simp [hx])

end

/-- All that is asked of a region's trace. -/
structure Trace (Γ : Ctx) (P : Program) (all : Array Oper) (S : Nat → FSt) (e : Nat → Eff) (rd : Nat → List (Nat × Nat)) : Prop where
  step : ∀ i, i < all.size → Step1 Γ P all i (S i) (rd i) (e i)
  next : ∀ i, i < all.size → S (i + 1) = (S i).apply (e i)
  fresh : ∀ i b, i < all.size → (e i).new b = true → (S i).dom b = false
  keep : ∀ i, i < all.size → ∀ x ∈ (e i).ws, (S i).cell x.1 x.2.1 ≠ .non ∧ x.2.2 ≠ .non
  out : ∀ b j, (S 0).dom b = false → (S 0).cell b j = .non
  dst : ∀ (i : Nat) o, all[i]? = some o → (e i).dst = o.dst

structure Indep (all : Array Oper) (e : Nat → Eff) (rd : Nat → List (Nat × Nat)) (i j : Nat) : Prop where
  t1 : ∀ d o, (e i).dst = some d → all[j]? = some o → d ∉ nms all o
  t2 : ∀ d o, (e j).dst = some d → all[i]? = some o → d ∉ nms all o
  t3 : ∀ d, (e i).dst = some d → (e j).dst ≠ some d
  c1 : ∀ c ∈ rd j, (e i).hits c.1 c.2 = false
  c2 : ∀ c ∈ rd i, (e j).hits c.1 c.2 = false
  c3 : ∀ b k, (e i).hits b k = true → (e j).hits b k = false

/-- What is asked of the order. -/
structure Order (all : Array Oper) (e : Nat → Eff) (rd : Nat → List (Nat × Nat)) (B : Nat → Nat → Bool) : Prop where
  back : ∀ (j : Nat) o, all[j]? = some o → ∀ x ∈ o.after, Region.binds .any x = true → x.on < j
  via : ∀ (j : Nat) o i, all[j]? = some o → B j i = true → ∃ x ∈ o.after, Region.binds .any x = true ∧ (x.on = i ∨ B x.on i = true)
  pair : ∀ i j, i < j → j < all.size → B j i = true ∨ Indep all e rd i j

section
variable {Γ : Ctx} {all : Array Oper} {S : Nat → FSt} {e : Nat → Eff} {rd : Nat → List (Nat × Nat)} {B : Nat → Nat → Bool}

/-- The state at a set of operations that have come up. -/
abbrev at_ (S : Nat → FSt) (e : Nat → Eff) (n : Nat) (D : Nat → Bool) : FSt := SD (S 0) e D n

theorem Trace.dom_mono (h : Trace Γ P all S e rd) {b : Nat} : ∀ i k, i ≤ k → k ≤ all.size → (S i).dom b = true → (S k).dom b = true
  | i, 0, hik, _, hd => by rw [Nat.le_zero.1 hik] at hd; exact hd
  | i, k + 1, hik, hk, hd => by
    rcases Nat.lt_or_ge k i with h1 | h1
    · have : i = k + 1 := by omega
      subst this; exact hd
    · rw [h.next k (by omega)]
      simp [FSt.apply, h.dom_mono i k h1 (by omega) hd]

theorem Trace.out' (h : Trace Γ P all S e rd) {b j : Nat} : ∀ k, k ≤ all.size → (S k).dom b = false → (S k).cell b j = .non
  | 0, _, hd => h.out b j hd
  | k + 1, hk, hd => by
    rw [h.next k (by omega)] at hd ⊢
    simp only [FSt.apply, Bool.or_eq_false_iff] at hd
    have ih := h.out' (b := b) (j := j) k (by omega) hd.1
    cases hh : (e k).hits b j with
    | false => rw [apply_miss _ _ hh]; exact ih
    | true =>
      exfalso
      simp only [Eff.hits, hd.2, Bool.false_or] at hh
      obtain ⟨c, h1, _⟩ := wrs_val (e k).ws (S k).cell b j hh
      exact (h.keep k (by omega) _ h1).1 ih

theorem Trace.non1 (h : Trace Γ P all S e rd) (D : Nat → Bool) {b j : Nat} : ∀ k, k ≤ all.size → (SD (S 0) e D k).cell b j ≠ .non → (S k).cell b j ≠ .non
  | 0, _, hx => hx
  | k + 1, hk, hx => by
    have ih := h.non1 D (b := b) (j := j) k (by omega)
    rw [h.next k (by omega)]
    cases hh : (e k).hits b j with
    | false =>
      rw [apply_miss _ _ hh]
      rw [SD] at hx
      split at hx
      · rw [apply_miss _ _ hh] at hx; exact ih hx
      · exact ih hx
    | true =>
      rw [SD] at hx
      split at hx
      · rw [apply_hit _ (S k) _ hh] at hx; exact hx
      · -- it has not come up: the cell was there already, so it is not new
        have hk' := ih hx
        simp only [FSt.apply]
        split
        · rename_i hn
          exact absurd (h.out' k (by omega) (h.fresh k b (by omega) hn)) hk'
        · rename_i hn
          simp only [Eff.hits, Bool.or_eq_true] at hh
          obtain ⟨c, h1, h2⟩ := wrs_val (e k).ws (S k).cell b j (hh.resolve_left hn)
          rw [h2]
          exact (h.keep k (by omega) _ h1).2

theorem Trace.non2 (h : Trace Γ P all S e rd) {b j i : Nat} (hd : (S i).dom b = true) : ∀ k, i ≤ k → k ≤ all.size → (S k).cell b j ≠ .non → (S i).cell b j ≠ .non
  | 0, hik, _, hx => by rw [Nat.le_zero.1 hik]; exact hx
  | k + 1, hik, hk, hx => by
    rcases Nat.lt_or_ge k i with h1 | h1
    · have : i = k + 1 := by omega
      subst this; exact hx
    · refine h.non2 hd k h1 (by omega) ?_
      rw [h.next k (by omega)] at hx
      cases hh : (e k).hits b j with
      | false => rw [apply_miss _ _ hh] at hx; exact hx
      | true =>
        have hnew : (e k).new b = false := by
          cases hn : (e k).new b with
          | false => rfl
          | true =>
            have := h.fresh k b (by omega) hn
            rw [h.dom_mono i k h1 (by omega) hd] at this
            cases this
        simp only [Eff.hits, hnew, Bool.false_or] at hh
        obtain ⟨c, h2, _⟩ := wrs_val (e k).ws (S k).cell b j hh
        exact (h.keep k (by omega) _ h2).1

theorem fs_ext {A C : FSt} (h1 : A.n = C.n) (h2 : ∀ r, A.reg r = C.reg r) (h3 : ∀ b j, A.cell b j = C.cell b j) (h4 : ∀ b, A.dom b = C.dom b) : A = C := by
  cases A; cases C
  simp only at h1 h2 h3 h4
  subst h1
  congr
  · funext r; exact h2 r
  · funext b j; exact h3 b j
  · funext b; exact h4 b

/-- One operation more comes up. -/
theorem Trace.come (h : Trace Γ P all S e rd) (ho : Order all e rd B) {D : Nat → Bool} (hcl : ∀ k i, k < all.size → D k = true → B k i = true → D i = true) {i : Nat} {o : Oper} (hi : all[i]? = some o) (hD : D i = false)
    (hr : ∀ x ∈ o.after, Region.binds .any x = true → D x.on = true) {a : Act} {w : World} (hR : Rel Γ (at_ S e all.size D) a w) {K : Act → World → Prop} {Q : Exit → Act → World → Prop}
    (hK : ∀ a' w', Rel Γ (at_ S e all.size (fun k => D k || decide (k = i))) a' w' → K a' w') : wpOp P all Q i K a w := by
  have hin : i < all.size := (Array.getElem?_eq_some_iff.1 hi).1
  have hlex := SD_lex (S0 := S 0) (e := e) (n := all.size) (S := S) rfl h.next
  -- what stands ahead of i has come up; what waits for i has not
  have hB : ∀ k, B i k = true → D k = true := fun k hk => by
    obtain ⟨x, h1, h2, h3⟩ := ho.via i o k hi hk
    rcases h3 with h3 | h3
    · rw [← h3]; exact hr x h1 h2
    · have hx := hr x h1 h2
      exact hcl x.on k (Nat.lt_trans (ho.back i o hi x h1 h2) hin) hx h3
  have hA : ∀ k, k < all.size → B k i = true → D k = false := fun k hk hb => by
    cases hx : D k with
    | false => rfl
    | true => have := hcl k i hk hx hb; rw [hD] at this; cases this
  -- D and 'less than i' agree on whatever is not apart from i
  have agree : ∀ k, k < all.size → k ≠ i → (k < i → ¬ Indep all e rd k i) → (i < k → ¬ Indep all e rd i k) → D k = decide (k < i) := fun k hk hne h1 h2 => by
    rcases Nat.lt_or_ge k i with hlt | hge
    · have := (ho.pair k i hlt hin).resolve_right (h1 hlt)
      simp [hB k this, hlt]
    · have hgt : i < k := by omega
      have := (ho.pair i k hgt hk).resolve_right (h2 hgt)
      rw [hA k hk this]
      simp; omega
  have hSi : SD (S 0) e (fun x => decide (x < i)) all.size = S i := by rw [SD_prefix i (by omega), hlex i (by omega)]
  have hnm : (at_ S e all.size D).n = (S i).n := by rw [SD_n, ← hlex i (by omega), SD_n]
  refine h.step i hin (at_ S e all.size D) a w hnm (fun o' ho' r hm => ?_) (fun c hc => ?_) (fun b hb => ?_) (fun b j hd hx => ?_) hR K Q (fun a' w' hR' => hK a' w' ?_)
  · rw [hi] at ho'; injection ho' with ho'; subst ho'
    rw [← hSi]
    refine SD_reg (n := all.size) (fun k hk hd => ?_) _ (Nat.le_refl _)
    by_cases hki : k = i
    · subst hki; simp [hD]
    · exact agree k hk hki (fun _ hx => hx.t1 r o hd hi hm) (fun _ hx => hx.t2 r o hd hi hm)
  · rw [← hSi]
    refine SD_cell (n := all.size) (fun k hk hh => ?_) _ (Nat.le_refl _)
    by_cases hki : k = i
    · subst hki; simp [hD]
    · exact agree k hk hki (fun _ hx => by have := hx.c1 c hc; rw [hh] at this; cases this) (fun _ hx => by have := hx.c2 c hc; rw [hh] at this; cases this)
  · -- a number that is new to i is new to nobody else
    have h0 : (S 0).dom b = false := by
      cases hx : (S 0).dom b with
      | false => rfl
      | true => have := h.dom_mono 0 i (Nat.zero_le _) (by omega) hx; rw [h.fresh i b hin hb] at this; cases this
    rw [SD_dom (n := all.size) (L := fun _ => false) (fun k hk hkn => ?_) _ (Nat.le_refl _)]
    · rw [SD_stop 0 all.size (Nat.zero_le _) (fun _ _ _ => rfl)]; exact h0
    · by_cases hki : k = i
      · subst hki; exact hD
      · exfalso
        rcases Nat.lt_or_ge k i with hlt | hge
        · have h1 : (S (k + 1)).dom b = true := by rw [h.next k hk]; simp [FSt.apply, hkn]
          have := h.dom_mono (k + 1) i (by omega) (by omega) h1
          rw [h.fresh i b hin hb] at this; cases this
        · have h1 : (S (i + 1)).dom b = true := by rw [h.next i hin]; simp [FSt.apply, hb]
          have := h.dom_mono (i + 1) k (by omega) (by omega) h1
          rw [h.fresh k b hk hkn] at this; cases this
  · exact Classical.byContradiction fun hc => absurd hx (h.non2 hd all.size (by omega) (Nat.le_refl _) (h.non1 D all.size (Nat.le_refl _) hc))
  · -- the state behind
    have hst : at_ S e all.size (fun k => D k || decide (k = i)) = (at_ S e all.size D).apply (e i) := by
      have hlate : ∀ k, i < k → k < all.size → ¬ Indep all e rd i k → D k = false := fun k h1 h2 h3 => hA k h2 ((ho.pair i k h1 h2).resolve_right h3)
      refine fs_ext ?_ (fun r => ?_) (fun b j => ?_) (fun b => ?_)
      · rw [SD_n]; simp only [FSt.apply]; rw [SD_n]
      · by_cases hd : (e i).dst = some r
        · -- i writes it last
          have e1 : (at_ S e all.size (fun k => D k || decide (k = i))).reg r = (SD (S 0) e (fun k => (D k || decide (k = i)) && decide (k ≤ i)) all.size).reg r := by
            refine SD_reg (n := all.size) (fun k hk hkd => ?_) _ (Nat.le_refl _)
            by_cases hki : k = i
            · subst hki; simp
            · rcases Nat.lt_or_ge k i with hlt | hge
              · simp [Nat.le_of_lt hlt]
              · rw [hlate k (by omega) hk (fun hx => hx.t3 r hd hkd)]; simp [hki]
          rw [e1, SD_stop (i + 1) all.size (by omega) (fun x h1 _ => by simp; omega), SD]
          simp only [decide_true, Bool.or_true, Nat.le_refl, Bool.and_self, if_true, FSt.apply, hd, true_and, SD_n]
          have hreg : ∀ c : AV, (if r < (S 0).n then (e i).val else c) = if r < (S 0).n then (e i).val else c := fun _ => rfl
          by_cases hrn : r < (S 0).n
          · simp [hrn]
          · simp only [hrn, if_false]
            -- a register that is not there: nobody writes it
            have none_ : ∀ (M : Nat → Bool) k, (SD (S 0) e M k).reg r = (S 0).reg r := fun M k => by
              induction k with
              | zero => rfl
              | succ k ih =>
                rw [SD]; split
                · simp only [FSt.apply, SD_n, hrn, and_false, if_false]; exact ih
                · exact ih
            rw [none_, none_]
        · have e1 : (at_ S e all.size (fun k => D k || decide (k = i))).reg r = (at_ S e all.size D).reg r := by
            refine SD_reg (n := all.size) (fun k hk hkd => ?_) _ (Nat.le_refl _)
            have : k ≠ i := fun e' => by subst e'; exact hd hkd
            simp [this]
          rw [e1]
          simp [FSt.apply, hd]
      · cases hh : (e i).hits b j with
        | true =>
          have e1 : (at_ S e all.size (fun k => D k || decide (k = i))).cell b j = (SD (S 0) e (fun k => (D k || decide (k = i)) && decide (k ≤ i)) all.size).cell b j := by
            refine SD_cell (n := all.size) (fun k hk hkd => ?_) _ (Nat.le_refl _)
            by_cases hki : k = i
            · subst hki; simp
            · rcases Nat.lt_or_ge k i with hlt | hge
              · simp [Nat.le_of_lt hlt]
              · rw [hlate k (by omega) hk (fun hx => by have := hx.c3 b j hh; rw [hkd] at this; cases this)]; simp [hki]
          rw [e1, SD_stop (i + 1) all.size (by omega) (fun x h1 _ => by simp; omega), SD]
          simp only [decide_true, Bool.or_true, Nat.le_refl, Bool.and_self, if_true]
          exact apply_hit _ _ _ hh
        | false =>
          rw [apply_miss _ _ hh]
          refine SD_cell (n := all.size) (fun k hk hkd => ?_) _ (Nat.le_refl _)
          have : k ≠ i := fun e' => by subst e'; rw [hh] at hkd; cases hkd
          simp [this]
      · cases hh : (e i).new b with
        | true =>
          simp only [FSt.apply, hh, Bool.or_true]
          have e1 : (at_ S e all.size (fun k => D k || decide (k = i))).dom b = (SD (S 0) e (fun k => decide (k = i)) all.size).dom b := by
            refine SD_dom (n := all.size) (fun k hk hkn => ?_) _ (Nat.le_refl _)
            by_cases hki : k = i
            · subst hki; simp
            · exfalso
              rcases Nat.lt_or_ge k i with hlt | hge
              · have h1 : (S (k + 1)).dom b = true := by rw [h.next k hk]; simp [FSt.apply, hkn]
                have := h.dom_mono (k + 1) i (by omega) (by omega) h1
                rw [h.fresh i b hin hh] at this; cases this
              · have h1 : (S (i + 1)).dom b = true := by rw [h.next i hin]; simp [FSt.apply, hh]
                have := h.dom_mono (i + 1) k (by omega) (by omega) h1
                rw [h.fresh k b hk hkn] at this; cases this
          rw [e1, SD_stop (i + 1) all.size (by omega) (fun x h1 _ => by simp; omega), SD]
          simp [FSt.apply, hh]
        | false =>
          simp only [FSt.apply, hh, Bool.or_false]
          refine SD_dom (n := all.size) (fun k hk hkn => ?_) _ (Nat.le_refl _)
          have : k ≠ i := fun e' => by subst e'; rw [hh] at hkn; cases hkn
          simp [this]
    rw [hst]; exact hR'

end
end Go.Ab
end

section
namespace Go.Ab
open Go Go.RowKit
set_option linter.unusedVariables false
set_option linter.unusedSimpArgs false

variable {P : Program} {T : TT}

/-! ### Whatever order comes up -/

section
variable {Γ : Ctx} {all : Array Oper} {S : Nat → FSt} {e : Nat → Eff} {rd : Nat → List (Nat × Nat)} {B : Nat → Nat → Bool}

theorem all_listed (ho : Order all e rd B) {listed : Array Bool} (hsz : listed.size = all.size) (h : Region.ready .any all listed = []) : ∀ i, i < all.size → listed.getD i false = true := by
  intro i
  induction i using Nat.strongRecOn with
  | _ i ih =>
    intro hi
    refine Classical.byContradiction fun hc => ?_
    have hmem : i ∈ Region.ready .any all listed := by
      refine mem_ready.2 ⟨?_, all[i], Array.getElem?_eq_getElem hi, fun x hx hb => ?_⟩
      · have hlt : i < listed.size := by omega
        simp only [Array.getD_eq_getD_getElem?, Array.getElem?_eq_getElem hlt, Option.getD_some] at hc ⊢
        simpa using hc
      · have := ho.back i all[i] (Array.getElem?_eq_getElem hi) x hx hb
        exact ih x.on this (by omega)
    rw [h] at hmem
    cases hmem

theorem count_set : ∀ (l : List Bool) (i : Nat), l[i]? = some false → (l.set i true).count false + 1 = l.count false
  | [], i, h => by simp at h
  | b :: l, 0, h => by
    simp only [List.getElem?_cons_zero, Option.some.injEq] at h
    subst h
    simp
  | b :: l, i + 1, h => by
    have := count_set l i (by simpa using h)
    simp only [List.set_cons_succ, List.count_cons]
    omega

theorem Trace.any (h : Trace Γ P all S e rd) (ho : Order all e rd B) {Q : Exit → Act → World → Prop} (hQ : ∀ a w, Rel Γ (S all.size) a w → Q .normal a w) :
    ∀ (fuel : Nat) (listed : Array Bool) (a : Act) (w : World), listed.size = all.size → (∀ k i, k < all.size → listed.getD k false = true → B k i = true → listed.getD i false = true) → listed.toList.count false ≤ fuel →
      Rel Γ (at_ S e all.size fun k => listed.getD k false) a w → wpAny P .any all Q fuel listed a w := by
  have fin : ∀ (listed : Array Bool) (a : Act) (w : World), listed.size = all.size → Region.ready .any all listed = [] → Rel Γ (at_ S e all.size fun k => listed.getD k false) a w → Q .normal a w := by
    intro listed a w hsz hr hR
    refine hQ a w ?_
    have := all_listed ho hsz hr
    have e1 : at_ S e all.size (fun k => listed.getD k false) = S all.size := by
      rw [← SD_lex (S0 := S 0) (e := e) (n := all.size) (S := S) rfl h.next all.size (Nat.le_refl _)]
      exact SD_congr _ (fun x hx => this x hx)
    rw [← e1]; exact hR
  intro fuel
  induction fuel with
  | zero =>
    intro listed a w hsz hcl hc hR
    have hall : ∀ i, i < listed.size → listed.getD i false = true := fun i hi => by
      refine Classical.byContradiction fun hx => ?_
      have hf : listed.toList[i]? = some false := by
        rw [Array.getElem?_toList, Array.getElem?_eq_getElem hi]
        simp only [Array.getD_eq_getD_getElem?, Array.getElem?_eq_getElem hi, Option.getD_some] at hx
        simpa using hx
      have := List.count_pos_iff.2 (List.mem_of_getElem? hf)
      omega
    have hr : Region.ready .any all listed = [] := by
      refine List.eq_nil_iff_forall_not_mem.2 fun i hi => ?_
      obtain ⟨h1, o, h2, _⟩ := mem_ready.1 hi
      have hlt : i < listed.size := by rw [hsz]; exact (Array.getElem?_eq_some_iff.1 h2).1
      have h3 := hall i hlt
      simp only [Array.getD_eq_getD_getElem?, Array.getElem?_eq_getElem hlt, Option.getD_some] at h1 h3
      rw [h3] at h1; cases h1
    exact ⟨hr, fin listed a w hsz hr hR⟩
  | succ fuel ih =>
    intro listed a w hsz hcl hc hR
    refine ⟨fun hr => fin listed a w hsz hr hR, fun i hi => ?_⟩
    obtain ⟨h1, o, h2, h3⟩ := mem_ready.1 hi
    have hlt : i < listed.size := by rw [hsz]; exact (Array.getElem?_eq_some_iff.1 h2).1
    have h1' : listed.getD i false = false := by
      simp only [Array.getD_eq_getD_getElem?, Array.getElem?_eq_getElem hlt, Option.getD_some] at h1 ⊢
      exact h1
    have hset : ∀ k, (listed.setIfInBounds i true).getD k false = (listed.getD k false || decide (k = i)) := fun k => by
      simp only [Array.getD_eq_getD_getElem?]
      by_cases hk : i = k
      · subst hk; rw [Array.getElem?_setIfInBounds_self_of_lt hlt]; simp
      · rw [Array.getElem?_setIfInBounds_ne hk]
        have : ¬ k = i := fun e' => hk e'.symm
        simp [this]
    have hB : ∀ k, B i k = true → listed.getD k false = true := fun k hk => by
      obtain ⟨x, y1, y2, y3⟩ := ho.via i o k h2 hk
      have hx := h3 x y1 y2
      rcases y3 with y3 | y3
      · rw [← y3]; exact hx
      · exact hcl x.on k (Nat.lt_trans (ho.back i o h2 x y1 y2) (by omega)) hx y3
    refine h.come ho (D := fun k => listed.getD k false) hcl h2 h1' h3 hR (fun a' w' hR' => ih _ a' w' (by simpa using hsz) (fun k j hk hk1 hk2 => ?_) ?_ ?_)
    · rw [hset] at hk1 ⊢
      simp only [Bool.or_eq_true, decide_eq_true_eq] at hk1 ⊢
      rcases hk1 with hk1 | hk1
      · exact .inl (hcl k j hk hk1 hk2)
      · subst hk1; exact .inl (hB j hk2)
    · have := count_set listed.toList i (by rw [Array.getElem?_toList, Array.getElem?_eq_getElem hlt]; simp only [Array.getD_eq_getD_getElem?, Array.getElem?_eq_getElem hlt, Option.getD_some] at h1'; rw [h1'])
      rw [Array.toList_setIfInBounds]
      omega
    · have e1 : at_ S e all.size (fun k => (listed.setIfInBounds i true).getD k false) = at_ S e all.size (fun k => listed.getD k false || decide (k = i)) := SD_congr _ (fun k _ => hset k)
      rw [e1]; exact hR'

theorem Rel.drew {S : FSt} {a : Act} {w : World} (h : Rel Γ S a w) : Rel Γ S a { w with drawn := w.drawn + 1 } := by
  obtain ⟨E, hE, hS⟩ := h
  exact ⟨E, ⟨hE.le, hE.os, hE.tape, hE.output, hE.size, hE.old, hE.F, hE.box, hE.tok, hE.fnew, hE.kd3, hE.inj, hE.hx⟩, ⟨hS.size, hS.defers, hS.reg, hS.cell, hS.dom⟩⟩

theorem Trace.draws (h : Trace Γ P all S e rd) (ho : Order all e rd B) (hm : P.follows .mixedOrders = true) {id : Nat} {Q : Exit → Act → World → Prop} {a : Act} {w : World} (hR : Rel Γ (S 0) a w) (hQ : ∀ a w, Rel Γ (S all.size) a w → Q .normal a w) :
    (Code.region id all true).wp P Q a w := by
  refine wp_region_any hm (h.any ho hQ _ _ _ _ (by simp) (fun k i _ hk _ => ?_) ?_ ?_)
  · exfalso
    simp only [Array.getD_eq_getD_getElem?, Array.getElem?_replicate] at hk
    split at hk <;> simp at hk
  · simp
  · have e1 : at_ S e all.size (fun k => (Array.replicate all.size false).getD k false) = S 0 := by
      show SD (S 0) e (fun k => (Array.replicate all.size false).getD k false) all.size = S 0
      rw [SD_stop 0 all.size (Nat.zero_le _) (fun x _ _ => by
        show (Array.replicate all.size false).getD x false = false
        simp only [Array.getD_eq_getD_getElem?, Array.getElem?_replicate]
        split <;> rfl)]
      rfl
    rw [e1]; exact hR.drew

theorem Trace.plain (h : Trace Γ P all S e rd) {id : Nat} {Q : Exit → Act → World → Prop} {a : Act} {w : World} (hR : Rel Γ (S 0) a w) (hQ : ∀ a w, Rel Γ (S all.size) a w → Q .normal a w) :
    (Code.region id all false).wp P Q a w := by
  refine wp_region ?_
  have key : ∀ (m k : Nat) (a : Act) (w : World), k + m = all.size → Rel Γ (S k) a w → wpOps P all Q (List.range' k m) a w := by
    intro m
    induction m with
    | zero => intro k a w hk hR; simp only [Nat.add_zero] at hk; subst hk; exact hQ a w hR
    | succ m ih =>
      intro k a w hk hR
      rw [List.range'_succ, wpOps_cons]
      refine h.step k (by omega) (S k) a w rfl (fun _ _ _ _ => rfl) (fun _ _ => rfl) (fun b hb => h.fresh k b (by omega) hb) (fun b j _ hx => hx) hR _ Q (fun a' w' hR' => ih (k + 1) a' w' (by omega) ?_)
      rw [h.next k (by omega)]; exact hR'
  rw [List.range_eq_range']
  exact key all.size 0 a w (by omega) hR
end

/-! ### The order's test, by computation -/

structure Ft where
  rd : List (Nat × Nat)
  wr : List (Nat × Nat)
  base : Nat
  cnt : Nat

def ftOf (e : Eff) (rd : List (Nat × Nat)) : Ft := ⟨rd, e.ws.map fun x => (x.1, x.2.1), e.base, e.news.length⟩

def Ft.hits (f : Ft) (c : Nat × Nat) : Bool := (decide (f.base ≤ c.1) && decide (c.1 < f.base + f.cnt)) || f.wr.any fun x => x.1 == c.1 && x.2 == c.2

/-- Do two operations' writes meet? -/
def Ft.meet (f g : Ft) : Bool := (g.wr.any fun c => f.hits c) || (f.wr.any fun c => g.hits c) || (decide (f.base < g.base + g.cnt) && decide (g.base < f.base + f.cnt) && decide (0 < f.cnt) && decide (0 < g.cnt))

theorem ftOf_hits (e : Eff) (rd : List (Nat × Nat)) (b j : Nat) : (ftOf e rd).hits (b, j) = e.hits b j := by
  simp only [Ft.hits, ftOf, Eff.hits, Eff.new, List.any_map]
  rfl

def memN (n : Nat) : List Nat → Bool
  | [] => false
  | x :: r => x == n || memN n r
theorem memN_iff {n : Nat} : ∀ {l : List Nat}, memN n l = true ↔ n ∈ l
  | [] => by simp [memN]
  | x :: r => by
    rw [memN, Bool.or_eq_true, memN_iff (l := r), List.mem_cons, beq_iff_eq]
    exact ⟨fun h => h.imp Eq.symm id, fun h => h.imp Eq.symm id⟩

/-- An operation's names: what it writes, what it looks at. -/
structure Nm where
  dst : Option Nat
  nm : List Nat

def nmOf (all : Array Oper) (o : Oper) : Nm := ⟨o.dst, nms all o⟩

def apartB (p q : Nm) (f g : Ft) : Bool :=
  (match p.dst with | none => true | some d => !memN d q.nm && !(q.dst == some d)) &&
  (match q.dst with | none => true | some d => !memN d p.nm) &&
  (g.rd.all fun c => !f.hits c) && (f.rd.all fun c => !g.hits c) && !f.meet g

def edgeMask (ms : List Nat) (o : Oper) : Nat := o.after.toList.foldl (fun s x => if Region.binds .any x then s ||| 2 ^ x.on ||| ms.getD x.on 0 else s) 0

def pairsB (nm : List Nm) (fs : List Ft) (ms : List Nat) : Nat → Bool
  | 0 => true
  | j + 1 => pairsB nm fs ms j && (List.range j).all fun i => (ms.getD j 0).testBit i ||
      match nm[i]?, nm[j]?, fs[i]?, fs[j]? with
      | some p, some q, some f, some g => apartB p q f g
      | _, _, _, _ => false

def orderB (all : Array Oper) (ms : List Nat) (fs : List Ft) : Bool :=
  (all.toList.zipIdx.all fun (o, j) => (o.after.toList.all fun x => !Region.binds .any x || decide (x.on < j)) && decide (ms.getD j 0 = edgeMask ms o)) &&
  pairsB (all.toList.map (nmOf all)) fs ms all.size

/-- The masks that the model itself reckons. -/
def masks (all : Array Oper) : List Nat := (Region.before all).toList

theorem fold_testBit (ms : List Nat) (i : Nat) : ∀ (l : List Edge) (s : Nat), (l.foldl (fun s x => if Region.binds .any x then s ||| 2 ^ x.on ||| ms.getD x.on 0 else s) s).testBit i = true →
    s.testBit i = true ∨ ∃ x ∈ l, Region.binds .any x = true ∧ (x.on = i ∨ (ms.getD x.on 0).testBit i = true)
  | [], s, h => .inl h
  | x :: l, s, h => by
    rw [List.foldl_cons] at h
    rcases fold_testBit ms i l _ h with h1 | ⟨y, y1, y2, y3⟩
    · split at h1
      · rename_i hb
        rw [Nat.testBit_or, Nat.testBit_or, Bool.or_eq_true, Bool.or_eq_true] at h1
        rcases h1 with (h1 | h1) | h1
        · exact .inl h1
        · rw [Nat.testBit_two_pow] at h1
          exact .inr ⟨x, by simp, hb, .inl (by simpa using h1)⟩
        · exact .inr ⟨x, by simp, hb, .inr h1⟩
      · exact .inl h1
    · exact .inr ⟨y, List.mem_cons_of_mem _ y1, y2, y3⟩

theorem pairsB_get {nm : List Nm} {fs : List Ft} {ms : List Nat} : ∀ {n : Nat}, pairsB nm fs ms n = true → ∀ i j, i < j → j < n →
    (ms.getD j 0).testBit i = true ∨ ∃ p q f g, nm[i]? = some p ∧ nm[j]? = some q ∧ fs[i]? = some f ∧ fs[j]? = some g ∧ apartB p q f g = true
  | 0, _, i, j, _, h => by omega
  | n + 1, h, i, j, hij, hj => by
    simp only [pairsB, Bool.and_eq_true] at h
    rcases Nat.lt_or_ge j n with hlt | hge
    · exact pairsB_get h.1 i j hij hlt
    · have : j = n := by omega
      subst this
      have := List.all_eq_true.1 h.2 i (List.mem_range.2 hij)
      rw [Bool.or_eq_true] at this
      rcases this with h1 | h1
      · exact .inl h1
      · right
        split at h1
        · rename_i p q f g e1 e2 e3 e4
          exact ⟨p, q, f, g, e1, e2, e3, e4, h1⟩
        · cases h1

theorem apartB_sound {all : Array Oper} {e : Nat → Eff} {rd : Nat → List (Nat × Nat)} {i j : Nat} {oi oj : Oper} (hi : all[i]? = some oi) (hj : all[j]? = some oj) (di : (e i).dst = oi.dst) (dj : (e j).dst = oj.dst)
    (h : apartB (nmOf all oi) (nmOf all oj) (ftOf (e i) (rd i)) (ftOf (e j) (rd j)) = true) : Indep all e rd i j := by
  simp only [apartB, Bool.and_eq_true, Bool.not_eq_true'] at h
  obtain ⟨⟨⟨⟨h1, h2⟩, h3⟩, h4⟩, h5⟩ := h
  refine ⟨fun d o hd ho => ?_, fun d o hd ho => ?_, fun d hd hd' => ?_, fun c hc => ?_, fun c hc => ?_, fun b k hb => ?_⟩
  · rw [hj] at ho; injection ho with ho; subst ho
    rw [di] at hd
    simp only [nmOf, hd, Bool.and_eq_true, Bool.not_eq_true'] at h1
    intro hm
    have := memN_iff.2 hm
    rw [h1.1] at this; cases this
  · rw [hi] at ho; injection ho with ho; subst ho
    rw [dj] at hd
    simp only [nmOf, hd, Bool.not_eq_true'] at h2
    intro hm
    have := memN_iff.2 hm
    rw [h2] at this; cases this
  · rw [di] at hd
    rw [dj] at hd'
    simp [nmOf, hd, hd'] at h1
  · have := List.all_eq_true.1 h3 c hc
    rw [← ftOf_hits (e i) (rd i)]
    simpa using this
  · have := List.all_eq_true.1 h4 c hc
    rw [← ftOf_hits (e j) (rd j)]
    simpa using this
  · simp only [Ft.meet, Bool.or_eq_false_iff] at h5
    obtain ⟨⟨m1, m2⟩, m3⟩ := h5
    refine Classical.byContradiction fun hc => ?_
    have hc' : (e j).hits b k = true := by simpa using hc
    have key : ∀ (f g : Eff) (r r' : List (Nat × Nat)), ((ftOf f r).wr.any fun c => (ftOf g r').hits c) = false → (f.ws.any fun x => x.1 == b && x.2.1 == k) = true → g.hits b k = true → False := by
      intro f g r r' hz hx hg
      obtain ⟨x, x1, x2⟩ := List.any_eq_true.1 hx
      simp only [Bool.and_eq_true, beq_iff_eq] at x2
      have : (ftOf g r').hits (b, k) = false := by
        have := List.any_eq_false.1 hz (x.1, x.2.1) (by simp only [ftOf]; exact List.mem_map.2 ⟨x, x1, rfl⟩)
        rw [x2.1, x2.2] at this
        simpa using this
      rw [ftOf_hits, hg] at this; cases this
    have hb' := hb
    simp only [Eff.hits, Bool.or_eq_true] at hb
    rcases hb with hb | hb
    · have hc2 := hc'
      simp only [Eff.hits, Bool.or_eq_true] at hc2
      rcases hc2 with hc2 | hc2
      · -- both new
        simp only [Eff.new, Bool.and_eq_true, decide_eq_true_eq] at hb hc2
        exact absurd (by
          simp only [ftOf, Bool.and_eq_true]
          exact ⟨⟨⟨decide_eq_true (by omega), decide_eq_true (by omega)⟩, decide_eq_true (by omega)⟩, decide_eq_true (by omega)⟩) (Bool.eq_false_iff.1 m3)
      · exact key (e j) (e i) _ _ m1 hc2 hb'
    · exact key (e i) (e j) _ _ m2 hb hc'

theorem orderB_sound {all : Array Oper} {e : Nat → Eff} {rd : Nat → List (Nat × Nat)} {ms : List Nat} {fs : List Ft} (hf : ∀ i, i < all.size → fs[i]? = some (ftOf (e i) (rd i))) (hd : ∀ (i : Nat) o, all[i]? = some o → (e i).dst = o.dst)
    (h : orderB all ms fs = true) : Order all e rd (fun j i => (ms.getD j 0).testBit i) := by
  simp only [orderB, Bool.and_eq_true] at h
  obtain ⟨h1, h2⟩ := h
  have hz : ∀ (j : Nat) o, all[j]? = some o → (∀ x ∈ o.after, Region.binds .any x = true → x.on < j) ∧ ms.getD j 0 = edgeMask ms o := fun j o hj => by
    have hmem : (o, j) ∈ all.toList.zipIdx := by
      rw [List.mem_zipIdx_iff_getElem?]
      simpa using hj
    have := List.all_eq_true.1 h1 _ hmem
    simp only [Bool.and_eq_true, decide_eq_true_eq] at this
    refine ⟨fun x hx hb => ?_, this.2⟩
    have := List.all_eq_true.1 this.1 x (by simpa using hx)
    simp only [hb, Bool.not_true, Bool.false_or, decide_eq_true_eq] at this
    exact this
  refine ⟨fun j o hj => (hz j o hj).1, fun j o i hj hb => ?_, fun i j hij hj => ?_⟩
  · rw [(hz j o hj).2] at hb
    rcases fold_testBit ms i _ _ hb with h3 | ⟨x, x1, x2, x3⟩
    · simp at h3
    · exact ⟨x, by simpa using x1, x2, x3⟩
  · rcases pairsB_get h2 i j hij hj with h3 | ⟨p, q, f, g, e1, e2, e3, e4, e5⟩
    · exact .inl h3
    · right
      rw [List.getElem?_map] at e1 e2
      have hi : all[i]? = some (all[i]'(by omega)) := Array.getElem?_eq_getElem _
      have hj' : all[j]? = some all[j] := Array.getElem?_eq_getElem hj
      rw [Array.getElem?_toList, hi] at e1
      rw [Array.getElem?_toList, hj'] at e2
      injection e1 with e1; injection e2 with e2
      rw [hf i (by omega)] at e3
      rw [hf j hj] at e4
      injection e3 with e3; injection e4 with e4
      subst e1; subst e2; subst e3; subst e4
      exact apartB_sound hi hj' (hd i _ hi) (hd j _ hj') e5

end Go.Ab
end

section
namespace Go.Ab
open Go Go.RowKit
set_option linter.unusedVariables false
set_option linter.unusedSimpArgs false

variable {P : Program} {T : TT}

structure ASt where
  regs : List AV
  heap : List (List AV)

def ASt.view (s : ASt) : FSt where
  n := s.regs.length
  reg := nth s.regs
  cell := fun b j => nth (nthB s.heap b) j
  dom := fun b => decide (b < s.heap.length)

def setB : List (List AV) → Nat → Nat → AV → List (List AV)
  | [], _, _, _ => []
  | l :: r, 0, j, c => l.set j c :: r
  | l :: r, b + 1, j, c => l :: setB r b j c

def wrH : List (Nat × Nat × AV) → List (List AV) → List (List AV)
  | [], H => H
  | x :: r, H => wrH r (setB H x.1 x.2.1 x.2.2)

def setR : Option Nat → AV → List AV → List AV
  | none, _, l => l
  | some d, c, l => l.set d c

def ASt.apply (s : ASt) (e : Eff) : ASt := ⟨setR e.dst e.val s.regs, wrH e.ws s.heap ++ e.news⟩

theorem setB_length : ∀ (H : List (List AV)) (b j : Nat) (c : AV), (setB H b j c).length = H.length
  | [], _, _, _ => rfl
  | l :: r, 0, j, c => by simp [setB]
  | l :: r, b + 1, j, c => by simp [setB, setB_length r b j c]

theorem setB_get : ∀ (H : List (List AV)) (b j : Nat) (c : AV) (x : Nat), nthB (setB H b j c) x = if x = b then (nthB H x).set j c else nthB H x
  | [], b, j, c, x => by simp [setB, nthB]
  | l :: r, 0, j, c, 0 => by simp [setB, nthB]
  | l :: r, 0, j, c, x + 1 => by simp [setB, nthB]
  | l :: r, b + 1, j, c, 0 => by simp [setB, nthB]
  | l :: r, b + 1, j, c, x + 1 => by simp [setB, nthB, setB_get r b j c x]

theorem nth_set (l : List AV) (j : Nat) (c : AV) (i : Nat) : nth (l.set j c) i = if i = j ∧ j < l.length then c else nth l i := by
  rw [nth_eq, nth_eq, List.getElem?_set]
  by_cases h : j = i
  · subst h
    by_cases h2 : j < l.length
    · simp [h2]
    · simp [h2, List.getElem?_eq_none (Nat.le_of_not_lt h2)]
  · have h3 : ¬ i = j := fun e => h e.symm
    simp [h, h3]

theorem wrH_length : ∀ (ws : List (Nat × Nat × AV)) (H : List (List AV)), (wrH ws H).length = H.length
  | [], _ => rfl
  | x :: r, H => by rw [wrH, wrH_length r, setB_length]

theorem wrH_blk : ∀ (ws : List (Nat × Nat × AV)) (H : List (List AV)) (b : Nat), (nthB (wrH ws H) b).length = (nthB H b).length
  | [], _, _ => rfl
  | x :: r, H, b => by
    rw [wrH, wrH_blk r, setB_get]
    split <;> simp

theorem wrH_get : ∀ (ws : List (Nat × Nat × AV)) (H : List (List AV)) (f : Nat → Nat → AV), (∀ x ∈ ws, x.2.1 < (nthB H x.1).length) → (∀ b j, nth (nthB H b) j = f b j) → ∀ b j, nth (nthB (wrH ws H) b) j = wrs ws f b j
  | [], _, _, _, h => h
  | x :: r, H, f, hin, h => by
    intro b j
    rw [wrH, wrs]
    refine wrH_get r _ _ (fun y hy => ?_) (fun b j => ?_) b j
    · rw [setB_get]
      have := hin y (List.mem_cons_of_mem _ hy)
      split <;> simpa using this
    · rw [setB_get]
      unfold upd
      by_cases hb : b = x.1
      · subst hb
        simp only [if_true, true_and]
        rw [nth_set]
        have := hin x (by simp)
        by_cases hj : j = x.2.1
        · simp [hj, this]
        · simp [hj, h]
      · simp [hb, h]

theorem nthB_append : ∀ (H N : List (List AV)) (b : Nat), nthB (H ++ N) b = if b < H.length then nthB H b else nthB N (b - H.length)
  | [], N, b => by simp
  | l :: r, N, 0 => by simp [nthB]
  | l :: r, N, b + 1 => by
    simp only [List.cons_append, nthB, nthB_append r N b, List.length_cons, Nat.add_lt_add_iff_right, Nat.add_sub_add_right]

theorem getD_nthB : ∀ (L : List (List AV)) (i : Nat), L.getD i [] = nthB L i
  | [], _ => rfl
  | c :: L, 0 => rfl
  | c :: L, i + 1 => by simpa [nthB] using getD_nthB L i
theorem getD_nth : ∀ (L : List AV) (i : Nat), L.getD i .non = nth L i
  | [], _ => rfl
  | c :: L, 0 => rfl
  | c :: L, i + 1 => by simpa [nth] using getD_nth L i

/-- An effect that is in its place. -/
structure Fits (s : ASt) (e : Eff) : Prop where
  base : e.base = s.heap.length
  keep : ∀ x ∈ e.ws, s.view.cell x.1 x.2.1 ≠ .non ∧ x.2.2 ≠ .non

theorem nth_ne {l : List AV} {j : Nat} (h : nth l j ≠ .non) : j < l.length := Nat.lt_of_not_le fun hx => h (nth_ge hx)
theorem nthB_ne {H : List (List AV)} {b j : Nat} (h : nth (nthB H b) j ≠ .non) : b < H.length := Nat.lt_of_not_le fun hx => h (by rw [nthB_ge H b hx]; rfl)

theorem view_apply {s : ASt} {e : Eff} (h : Fits s e) : (s.apply e).view = s.view.apply e := by
  have hin : ∀ x ∈ e.ws, x.2.1 < (nthB s.heap x.1).length := fun x hx => nth_ne (h.keep x hx).1
  have hnew : ∀ b, e.new b = (decide (s.heap.length ≤ b) && decide (b < s.heap.length + e.news.length)) := fun b => by rw [Eff.new, h.base]
  refine fs_ext ?_ (fun r => ?_) (fun b j => ?_) (fun b => ?_)
  · simp only [ASt.view, ASt.apply, FSt.apply]
    cases e.dst <;> simp [setR]
  · simp only [ASt.view, ASt.apply, FSt.apply]
    cases hd : e.dst with
    | none => simp [setR]
    | some d =>
      simp only [setR, nth_set, Option.some.injEq]
      by_cases h1 : r = d
      · subst h1; simp
      · have : ¬ d = r := fun e' => h1 e'.symm
        simp [h1, this]
  · simp only [ASt.view, ASt.apply, FSt.apply, nthB_append, wrH_length, hnew]
    by_cases hb : b < s.heap.length
    · have : (decide (s.heap.length ≤ b) && decide (b < s.heap.length + e.news.length)) = false := by simp; omega
      simp only [hb, if_true, this, Bool.false_eq_true, if_false]
      exact wrH_get e.ws s.heap _ hin (fun _ _ => rfl) b j
    · simp only [hb, if_false]
      by_cases hb2 : b < s.heap.length + e.news.length
      · have : (decide (s.heap.length ≤ b) && decide (b < s.heap.length + e.news.length)) = true := by simp; omega
        simp only [this, if_true, h.base, getD_nthB, getD_nth]
      · have : (decide (s.heap.length ≤ b) && decide (b < s.heap.length + e.news.length)) = false := by simp; omega
        simp only [this, Bool.false_eq_true, if_false]
        rw [nthB_ge e.news _ (by omega)]
        have e1 : wrs e.ws (fun b j => nth (nthB s.heap b) j) b j = nth (nthB s.heap b) j := by
          refine wrs_miss _ _ _ _ ?_
          refine Classical.byContradiction fun hc => ?_
          obtain ⟨x, x1, x2⟩ := List.any_eq_true.1 (by simpa using hc : (e.ws.any fun x => x.1 == b && x.2.1 == j) = true)
          simp only [Bool.and_eq_true, beq_iff_eq] at x2
          have := nthB_ne (h.keep x x1).1
          omega
        rw [e1, nthB_ge s.heap b (by omega)]
  · simp only [ASt.view, ASt.apply, FSt.apply, hnew, List.length_append, wrH_length]
    by_cases h1 : b < s.heap.length
    · simp [h1]; omega
    · by_cases h2 : b < s.heap.length + e.news.length
      · simp [h2]; omega
      · simp [h1, h2]

/-! ### One operation -/

/-- What a call comes to, by what is known of the callee. -/
def CallC (P : Program) (s : ASt) (dst : Option Nat) (f : Nat) (acts : List AV) (k : Eff → List (Nat × Nat) → Prop) : Prop :=
  ∃ (m : Nat → Nat) (n : Nat) (H H' : List (List AV)) (args : List AV) (r : AV), Callable P f ∧ Meets P f H args r H' ∧ Args m n acts args ∧ Hand s.view m n s.heap.length H H' ∧
    (∀ b j, b < n → j < (nthB H' b).length → nth (nthB H' b) j ≠ .non) ∧ ∃ e, (e = callEff dst m n s.heap.length r H' ∨ (RoOk s.view m n s.heap.length H' ∧ e = roEff dst m n s.heap.length r H')) ∧ k e (keysOf m 0 n H)

def aop (P : Program) (T : TT) (o : Oper) (s : ASt) (k : Eff → List (Nat × Nat) → Prop) : Prop :=
  match o.op with
  | .load t a => aLoad T o.dst t s.view (s.view.ev a) s.heap.length k
  | .store t a v => aStore T o.dst t s.view (s.view.ev a) (s.view.ev v) s.heap.length k
  | .alloc t => (T t).kd.isOther = false ∧ k ⟨o.dst, .ptr s.heap.length 0, [], s.heap.length, [(T t).zero]⟩ []
  | .box t x => (s.view.ev x).known = true ∧ allB AV.cellable (s.view.ev x).cells = true ∧ k ⟨o.dst, .ptr s.heap.length 0, [], s.heap.length, [(s.view.ev x).cells]⟩ []
  | .buildSlice t len parts => aBuildSlice T o.dst t len (parts.toList.map fun p => (p.1, s.view.ev p.2)) s.heap.length k
  | .makeMap t none => k ⟨o.dst, .mp s.heap.length, [], s.heap.length, [[.mps fun _ => none]]⟩ []
  | .lookup t m key false => aLookup T o.dst t s.view (s.view.ev m) (s.view.ev key) s.heap.length k
  | .mapUpdate t m key v => aMapUpdate T o.dst t s.view (s.view.ev m) (s.view.ev key) (s.view.ev v) s.heap.length k
  | .call c => match c.callee with
    | .builtin .append => match c.args.toList, c.argTypes.toList with
      | [x, y], [t, t'] => aAppend T o.dst t t' s.view (s.view.ev x) (s.view.ev y) s.heap.length k
      | _, _ => False
    | .value fo => match s.view.ev fo with
      | .fn f caps => CallC P s o.dst f (c.args.toList.map s.view.ev ++ caps) k
      | _ => False
    | _ => aval T s.view.ev o.op fun c => k ⟨o.dst, c, [], s.heap.length, []⟩ []
  | op => aval T s.view.ev op fun c => k ⟨o.dst, c, [], s.heap.length, []⟩ []

def Fact (s : ASt) (o : Oper) (e : Eff) : Prop := Fits s e ∧ e.dst = o.dst

theorem Fact.pure (s : ASt) (o : Oper) (c : AV) : Fact s o ⟨o.dst, c, [], s.heap.length, []⟩ := ⟨⟨rfl, by simp⟩, rfl⟩
theorem Fact.new (s : ASt) (o : Oper) (c : AV) (N : List (List AV)) : Fact s o ⟨o.dst, c, [], s.heap.length, N⟩ := ⟨⟨rfl, by simp⟩, rfl⟩

theorem mem_writes (b : Nat) : ∀ (cs : List AV) (o : Nat) (x : Nat × Nat × AV), x ∈ writes b o cs → x.1 = b ∧ ∃ i, i < cs.length ∧ x.2.1 = o + i ∧ cs[i]? = some x.2.2
  | [], _, x, h => by simp [writes] at h
  | c :: r, o, x, h => by
    rw [writes] at h
    rcases List.mem_cons.1 h with h | h
    · subst h; exact ⟨rfl, 0, by simp, rfl, rfl⟩
    · obtain ⟨h1, i, h2, h3, h4⟩ := mem_writes b r (o + 1) x h
      exact ⟨h1, i + 1, by simp; omega, by omega, by simpa using h4⟩

theorem plain_ne {c : AV} (h : c.plain = true) : c ≠ .non := fun e => by subst e; cases h

theorem mem_backs (m m' : Nat → Nat) (H : List (List AV)) : ∀ (n b0 : Nat) (x : Nat × Nat × AV), x ∈ backs m m' b0 n H → ∃ b j, b0 ≤ b ∧ b < b0 + n ∧ j < (nthB H b).length ∧ x = (m b, j, ren m' (nth (nthB H b) j))
  | 0, _, x, h => by simp [backs] at h
  | n + 1, b0, x, h => by
    rw [backs] at h
    rcases List.mem_append.1 h with h | h
    · obtain ⟨h1, i, h2, h3, h4⟩ := mem_writes _ _ _ x h
      simp at h2
      refine ⟨b0, i, Nat.le_refl _, by omega, h2, ?_⟩
      rw [List.getElem?_map, nth_lt h2] at h4
      injection h4 with h4
      obtain ⟨x1, x2, x3⟩ := x
      simp only at h1 h3 h4
      subst h1; subst h4
      rw [h3, Nat.zero_add]
    · obtain ⟨b, j, h1, h2, h3⟩ := mem_backs m m' H n (b0 + 1) x h
      exact ⟨b, j, by omega, by omega, h3⟩

theorem ren_non {m : Nat → Nat} {c : AV} (h : c ≠ .non) : ren m c ≠ .non := by cases c <;> simp_all [ren]

theorem aop_sound (hT : TabOk P T) {Γ : Ctx} {o : Oper} {s : ASt} {k : Eff → List (Nat × Nat) → Prop} (h : aop P T o s k) : ∃ e rd, k e rd ∧ Stp Γ P o s.view rd e ∧ Fact s o e := by
  let k' : Eff → List (Nat × Nat) → Prop := fun e rd => k e rd ∧ Fact s o e
  have re : (∃ e rd, k' e rd ∧ Stp Γ P o s.view rd e) → ∃ e rd, k e rd ∧ Stp Γ P o s.view rd e ∧ Fact s o e := fun ⟨e, rd, h1, h2⟩ => ⟨e, rd, h1.1, h2, h1.2⟩
  have pv : aval T s.view.ev o.op (fun c => k ⟨o.dst, c, [], s.heap.length, []⟩ []) → ∃ e rd, k e rd ∧ Stp Γ P o s.view rd e ∧ Fact s o e := fun hv => by
    obtain ⟨c, h1, h2⟩ := stp_val (P := P) hT (Γ := Γ) hv
    exact ⟨_, _, h1, h2 _, Fact.pure s o c⟩
  unfold aop at h
  split at h
  · rename_i t a ho
    refine re (stp_load (P := P) hT ho (base := s.heap.length) (k := k') ?_)
    unfold aLoad at h ⊢
    obtain ⟨h0, h⟩ := h
    refine ⟨h0, ?_⟩
    split at h
    · split at h
      · rename_i hag; rw [if_pos hag]; exact ⟨h.1, h.2, Fact.pure s o _⟩
      · rename_i hag; rw [if_neg hag]; obtain ⟨c, h1, h2⟩ := h; exact ⟨c, h1, h2, Fact.pure s o _⟩
    · split at h
      · rename_i hag; rw [if_pos hag]; exact ⟨h.1, h.2, Fact.pure s o _⟩
      · rename_i hag; rw [if_neg hag]; exact ⟨h.1, h.2, Fact.pure s o _⟩
    · exact h.elim
  · rename_i t a v ho
    refine re (stp_store (P := P) hT ho (base := s.heap.length) (k := k') ?_)
    unfold aStore at h ⊢
    obtain ⟨h0, h⟩ := h
    refine ⟨h0, ?_⟩
    split at h
    · rename_i b off _
      obtain ⟨h1, h2, h3, h4, h5⟩ := h
      refine ⟨h1, h2, h3, h4, h5, ⟨rfl, fun x hx => ?_⟩, rfl⟩
      obtain ⟨x1, i, x2, x3, x4⟩ := mem_writes _ _ _ x hx
      rw [x1, x3]
      exact ⟨plain_ne (allB_mem h4 _ (List.mem_of_getElem? (rdc_get _ _ off i x2))), fun e => by have := allB_mem h3 _ (List.mem_of_getElem? x4); rw [e] at this; cases this⟩
    · exact h.elim
  · rename_i t ho
    exact ⟨_, _, h.2, stp_alloc hT ho _ h.1, Fact.new s o _ _⟩
  · rename_i t x ho
    exact ⟨_, _, h.2.2, stp_box ho _ h.1 h.2.1, Fact.new s o _ _⟩
  · rename_i t len parts ho
    refine re (stp_buildSlice (P := P) hT ho (base := s.heap.length) (k := k') ?_)
    unfold aBuildSlice at h ⊢
    split at h
    · obtain ⟨h0, h1, h⟩ := h
      refine ⟨h0, h1, ?_⟩
      split at h
      · rename_i hl; rw [if_pos hl]; exact ⟨h.1, h.2, Fact.pure s o _⟩
      · rename_i hl; rw [if_neg hl]; exact ⟨h.1, h.2.1, h.2.2.1, h.2.2.2, Fact.new s o _ _⟩
    · exact h.elim
  · rename_i t ho
    exact ⟨_, _, h, stp_makeMap ho _, Fact.new s o _ _⟩
  · rename_i t m key ho
    refine re (stp_lookup (P := P) hT ho (base := s.heap.length) (k := k') ?_)
    unfold aLookup at h ⊢
    split at h
    · obtain ⟨h0, h1, h⟩ := h
      refine ⟨h0, h1, ?_⟩
      split at h
      · exact ⟨fun c hc => ⟨h.1 c hc, Fact.pure s o _⟩, fun hn => by obtain ⟨h2, z, h3, h4⟩ := h.2 hn; exact ⟨h2, z, h3, h4, Fact.pure s o _⟩⟩
      · exact h.elim
    · exact h.elim
  · rename_i t m key v ho
    refine re (stp_mapUpdate (P := P) hT ho (base := s.heap.length) (k := k') ?_)
    unfold aMapUpdate at h ⊢
    split at h
    · obtain ⟨h0, h1, h⟩ := h
      refine ⟨h0, h1, ?_⟩
      split at h
      · rename_i f hf
        refine ⟨h, ⟨rfl, fun x hx => ?_⟩, rfl⟩
        rw [List.mem_singleton.1 hx]
        exact ⟨by rw [hf]; simp, by simp⟩
      · exact h.elim
    · exact h.elim
  · rename_i c ho
    split at h
    · rename_i hcal
      split at h
      · rename_i x y t t' hxy htt
        have ho' : o.op = .call { callee := .builtin .append, args := #[x, y], argTypes := #[t, t'] } := by
          rw [ho]
          obtain ⟨cal, as, ts⟩ := c
          simp only at hcal hxy htt
          subst hcal
          have h1 : as = #[x, y] := by rw [← Array.toArray_toList (xs := as), hxy]
          have h2 : ts = #[t, t'] := by rw [← Array.toArray_toList (xs := ts), htt]
          rw [h1, h2]
        refine re (stp_append (P := P) hT ho' (base := s.heap.length) (k := k') ?_)
        unfold aAppend at h ⊢
        obtain ⟨h0, h⟩ := h
        refine ⟨h0, ?_⟩
        split at h
        · obtain ⟨h1, h2, rows, h3, h4, h5, h6, h7⟩ := h
          exact ⟨h1, h2, rows, h3, h4, h5, h6, h7, Fact.new s o _ _⟩
        · obtain ⟨h1, h2, h3, h4, hcur, rows, h5, h6, h7, h8, h9, h10⟩ := h
          refine ⟨h1, h2, h3, h4, hcur, rows, h5, h6, h7, h8, h9, h10, ⟨rfl, fun x hx => ?_⟩, rfl⟩
          rw [List.mem_singleton.1 hx]
          exact ⟨by rw [hcur]; simp, by simp⟩
        · exact h.elim
      · exact h.elim
    · rename_i fo hcal
      split at h
      · rename_i f caps hf
        have ho' : o.op = .call { callee := .value fo, args := c.args, argTypes := c.argTypes } := by
          rw [ho]
          obtain ⟨cal, as, ts⟩ := c
          simp only at hcal
          subst hcal
          rfl
        obtain ⟨m, n, H, H', args, r, h1, h2, h3, h4, h5, e, he, h6⟩ := h
        rcases he with rfl | ⟨hro, rfl⟩
        · refine ⟨_, _, h6, stp_call ho' hf h1 h3 h2 h4, ⟨rfl, fun x hx => ?_⟩, rfl⟩
          obtain ⟨b, j, _, hb, hj, rfl⟩ := mem_backs _ _ _ _ _ x hx
          exact ⟨(h4.full b j (by omega) hj).1, ren_non (h5 b j (by omega) hj)⟩
        · exact ⟨_, _, h6, stp_call_ro ho' hf h1 h3 h2 h4 hro, ⟨rfl, fun x hx => by cases hx⟩, rfl⟩
      · exact h.elim
    · exact pv h
  · exact pv h

end Go.Ab
end

section
namespace Go.Ab
open Go Go.RowKit
set_option linter.unusedVariables false
set_option linter.unusedSimpArgs false

variable {P : Program} {T : TT}

def skipEff (s : ASt) (o : Oper) : Eff := ⟨o.dst, .und, [], s.heap.length, []⟩

def more (dr : Bool) (fs : List Ft) (e : Eff) (rd : List (Nat × Nat)) : List Ft := if dr then fs ++ [ftOf e rd] else fs

def gDst (all : Array Oper) (g : Nat × Bool) : Option Nat := (all[g.1]?).bind (·.dst)

def aops (P : Program) (T : TT) (all : Array Oper) (dr : Bool) : List Oper → ASt → List Ft → (ASt → List Ft → Prop) → Prop
  | [], s, fs, K => K s fs
  | o :: rest, s, fs, K =>
    match o.guard with
    | none => aop P T o s fun e rd => aops P T all dr rest (s.apply e) (more dr fs e rd) K
    | some g => match gDst all g with
      | none => False
      | some d => match nth s.regs d with
        | .bool b => (b = g.2 → aop P T o ⟨s.regs.set d (.bool g.2), s.heap⟩ fun e rd => aops P T all dr rest (ASt.apply ⟨s.regs.set d (.bool g.2), s.heap⟩ e) (more dr fs e rd) K) ∧
            (b = (!g.2) → aops P T all dr rest (ASt.apply ⟨s.regs.set d (.bool (!g.2)), s.heap⟩ (skipEff ⟨s.regs.set d (.bool (!g.2)), s.heap⟩ o)) (more dr fs (skipEff ⟨s.regs.set d (.bool (!g.2)), s.heap⟩ o) []) K)
        | .und => aops P T all dr rest (s.apply (skipEff s o)) (more dr fs (skipEff s o) []) K
        | _ => False

theorem view_set {s : ASt} {d : Nat} {c : AV} (h : nth s.regs d = c) : (ASt.mk (s.regs.set d c) s.heap).view = s.view := by
  refine fs_ext (by simp [ASt.view]) (fun r => ?_) (fun _ _ => rfl) (fun _ => rfl)
  simp only [ASt.view, nth_set]
  split
  · rename_i hr; rw [hr.1, h]
  · rfl

/-- What is shown of the operations from number k on. -/
structure Part (Γ : Ctx) (P : Program) (all : Array Oper) (k : Nat) (S : Nat → FSt) (e : Nat → Eff) (rd : Nat → List (Nat × Nat)) : Prop where
  step : ∀ i, k ≤ i → i < all.size → Step1 Γ P all i (S i) (rd i) (e i)
  next : ∀ i, k ≤ i → i < all.size → S (i + 1) = (S i).apply (e i)
  fresh : ∀ i b, k ≤ i → i < all.size → (e i).new b = true → (S i).dom b = false
  keep : ∀ i, k ≤ i → i < all.size → ∀ x ∈ (e i).ws, (S i).cell x.1 x.2.1 ≠ .non ∧ x.2.2 ≠ .non
  dst : ∀ (i : Nat) o, k ≤ i → all[i]? = some o → (e i).dst = o.dst

theorem aops_sound (hT : TabOk P T) {Γ : Ctx} {all : Array Oper} {dr : Bool} : ∀ (rest : List Oper) (k : Nat) (s : ASt) (fs : List Ft) (K : ASt → List Ft → Prop), (∀ j, rest[j]? = all[k + j]?) → k + rest.length = all.size →
    aops P T all dr rest s fs K → ∃ S e rd s', Part Γ P all k S e rd ∧ S k = s.view ∧ S all.size = s'.view ∧ K s' (if dr then fs ++ (List.range' k rest.length).map (fun i => ftOf (e i) (rd i)) else fs)
  | [], k, s, fs, K, hl, hk, h => by
    simp only [List.length_nil, Nat.add_zero] at hk
    subst hk
    refine ⟨fun _ => s.view, fun _ => default', fun _ => [], s, ⟨fun i h1 h2 => by omega, fun i h1 h2 => by omega, fun i b h1 h2 => by omega, fun i h1 h2 => by omega, fun i o h1 h2 => ?_⟩, rfl, rfl, ?_⟩
    · have := (Array.getElem?_eq_some_iff.1 h2).1; omega
    · simp only [aops] at h
      simp only [List.length_nil, List.range'_zero, List.map_nil, List.append_nil, ite_self]
      exact h
  | o :: rest, k, s, fs, K, hl, hk, h => by
    have ho : all[k]? = some o := by simpa using (hl 0).symm
    have hl' : ∀ j, rest[j]? = all[k + 1 + j]? := fun j => by have := hl (j + 1); simpa [Nat.add_assoc, Nat.add_comm 1 j] using this
    have hk' : k + 1 + rest.length = all.size := by simp at hk; omega
    have hks : k < all.size := by omega
    -- one step ahead of what follows
    have step : ∀ (s0 : ASt) (e0 : Eff) (rd0 : List (Nat × Nat)), s0.view = s.view → Step1 Γ P all k s.view rd0 e0 → Fact s0 o e0 → aops P T all dr rest (s0.apply e0) (more dr fs e0 rd0) K →
        ∃ S e rd s', Part Γ P all k S e rd ∧ S k = s.view ∧ S all.size = s'.view ∧ K s' (if dr then fs ++ (List.range' k (o :: rest).length).map (fun i => ftOf (e i) (rd i)) else fs) := by
      intro s0 e0 rd0 hv h1 h2 h3
      obtain ⟨S, e, rd, s', hp, hS1, hSn, hK⟩ := aops_sound hT rest (k + 1) _ _ K hl' hk' h3
      have hvs : S (k + 1) = s.view.apply e0 := by rw [hS1, view_apply h2.1, hv]
      refine ⟨fun i => if i ≤ k then s.view else S i, fun i => if i = k then e0 else e i, fun i => if i = k then rd0 else rd i, s', ⟨fun i a b => ?_, fun i a b => ?_, fun i b a c => ?_, fun i a b => ?_, fun i o' a b => ?_⟩, by simp, ?_, ?_⟩
      · by_cases hi : i = k
        · subst hi; simpa using h1
        · have : ¬ i ≤ k := by omega
          simp only [hi, this, if_false]; exact hp.step i (by omega) b
      · by_cases hi : i = k
        · subst hi
          have : ¬ i + 1 ≤ i := by omega
          simp only [Nat.le_refl, if_true, this, if_false]; exact hvs
        · have h1 : ¬ i ≤ k := by omega
          have h2 : ¬ i + 1 ≤ k := by omega
          simp only [hi, h1, h2, if_false]; exact hp.next i (by omega) b
      · by_cases hi : i = k
        · subst hi
          simp only [Nat.le_refl, if_true]
          intro hb
          rw [← hv]
          simp only [Eff.new, h2.1.base, Bool.and_eq_true, decide_eq_true_eq] at hb
          simp only [ASt.view, decide_eq_false_iff_not]
          omega
        · have : ¬ i ≤ k := by omega
          simp only [hi, this, if_false]; exact hp.fresh i b (by omega) c
      · by_cases hi : i = k
        · subst hi
          simp only [Nat.le_refl, if_true]
          rw [← hv]; exact h2.1.keep
        · have : ¬ i ≤ k := by omega
          simp only [hi, this, if_false]; exact hp.keep i (by omega) b
      · by_cases hi : i = k
        · subst hi
          simp only [if_true]
          rw [ho] at b; injection b with b; subst b
          exact h2.2
        · simp only [hi, if_false]; exact hp.dst i o' (by omega) b
      · have : ¬ all.size ≤ k := by omega
        simp only [this, if_false]; exact hSn
      · cases dr with
        | false => simpa [more] using hK
        | true =>
          simp only [if_true, more] at hK ⊢
          rw [List.length_cons, List.range'_succ, List.map_cons]
          simp only [if_true]
          have e1 : (List.range' (k + 1) rest.length).map (fun i => ftOf (if i = k then e0 else e i) (if i = k then rd0 else rd i)) = (List.range' (k + 1) rest.length).map (fun i => ftOf (e i) (rd i)) := by
            refine List.map_congr_left fun i hi => ?_
            have := (List.mem_range'_1.1 hi).1
            have : ¬ i = k := by omega
            simp [this]
          rw [e1]
          simpa using hK
    simp only [aops] at h
    split at h
    · rename_i hg
      obtain ⟨e0, rd0, h1, h2, h3⟩ := aop_sound hT (Γ := Γ) h
      exact step s e0 rd0 rfl (h2.step1 ho (fun _ _ _ _ _ => wanted_none hg _)) h3 h1
    · rename_i g hg
      split at h
      · exact h.elim
      · rename_i d hd
        have hgt : gTmp all o = some d := by simp only [gTmp, hg, Option.bind_some]; exact hd
        have hdm : d ∈ nms all o := by simp [nms, hgt]
        split at h
        · rename_i b hb
          by_cases hbw : b = g.2
          · subst hbw
            have hv := view_set (s := s) hb
            obtain ⟨e0, rd0, h1, h2, h3⟩ := aop_sound hT (Γ := Γ) (h.1 rfl)
            rw [hv] at h2
            refine step _ e0 rd0 hv (h2.step1 ho (fun S' a w hr hR => ?_)) h3 h1
            obtain ⟨E, hE, hS⟩ := hR
            have := (yielded_of hS hd).1 g.2 (by rw [hr d hdm]; exact hb)
            simp [Region.wanted, hg, this]
          · have hbw' : b = !g.2 := by cases b <;> cases hg2 : g.2 <;> simp_all
            have hv := view_set (s := s) (c := .bool (!g.2)) (by rw [hb, hbw'])
            refine step _ _ _ hv (step1xskip ho (fun S' a w hr hR => ?_) _) (Fact.pure _ o _) (h.2 hbw')
            obtain ⟨E, hE, hS⟩ := hR
            have := (yielded_of hS hd).1 b (by rw [hr d hdm]; exact hb)
            simp [Region.wanted, hg, this, hbw]
        · rename_i hb
          refine step s _ _ rfl (step1xskip ho (fun S' a w hr hR => ?_) _) (Fact.pure _ o _) h
          obtain ⟨E, hE, hS⟩ := hR
          have := (yielded_of hS hd).2 (by rw [hr d hdm]; exact hb)
          simp [Region.wanted, hg, this]
        · exact h.elim
where
  default' : Eff := ⟨none, .non, [], 0, []⟩

/-- Behind a region. -/
def regK (all : Array Oper) (dr : Bool) (K : ASt → Prop) : ASt → List Ft → Prop := fun s fs => (dr = true → orderB all (masks all) fs = true) ∧ K s

theorem region_sound (hT : TabOk P T) (hm : P.follows .mixedOrders = true) {Γ : Ctx} {id : Nat} {all : Array Oper} {dr : Bool} {s : ASt} {K : ASt → Prop} (h : aops P T all dr all.toList s [] (regK all dr K))
    {Q : Exit → Act → World → Prop} {a : Act} {w : World} (hR : Rel Γ s.view a w) (hQ : ∀ s' a' w', K s' → Rel Γ s'.view a' w' → Q .normal a' w') : (Code.region id all dr).wp P Q a w := by
  obtain ⟨S, e, rd, s', hp, hS0, hSn, hd, hK⟩ := aops_sound hT (Γ := Γ) all.toList 0 s [] _ (by simp) (by simp) h
  have htr : Trace Γ P all S e rd := ⟨fun i hi => hp.step i (Nat.zero_le _) hi, fun i hi => hp.next i (Nat.zero_le _) hi, fun i b hi => hp.fresh i b (Nat.zero_le _) hi, fun i hi => hp.keep i (Nat.zero_le _) hi,
    fun b j hb => by
      rw [hS0] at hb ⊢
      simp only [ASt.view, decide_eq_false_iff_not] at hb ⊢
      rw [nthB_ge _ _ (by omega)]; rfl, fun i o ho => hp.dst i o (Nat.zero_le _) ho⟩
  rw [← hS0] at hR
  cases dr with
  | false => exact htr.plain hR (fun a' w' hR' => hQ s' a' w' hK (by rw [← hSn]; exact hR'))
  | true =>
    have hb := hd rfl
    have ho := orderB_sound (e := e) (rd := rd) (fun i hi => by
      simp only [if_true, List.nil_append, Array.length_toList, List.getElem?_map]
      rw [List.getElem?_range' hi]
      simp) htr.dst hb
    exact htr.draws ho hm hR (fun a' w' hR' => hQ s' a' w' hK (by rw [← hSn]; exact hR'))

/-! ### Weaker states -/

inductive Wk (g : Nat → Nat) (n : Nat) : AV → AV → Prop where
  | non (c : AV) : Wk g n c .non
  | und : Wk g n .und .und
  | flat (c : AV) (h : c.flat = true) : Wk g n c c.low
  | emp (s : Nat) : Wk g n .emp (.sl s [])
  | ptr (b b' o : Nat) (h : b' < n) (hb : b = g b') : Wk g n (.ptr b o) (.ptr b' o)
  | ow (t t' e s : Nat) (rows : List (List AV)) (h : t' < n) (hb : t = g t') : Wk g n (.ow t e s rows) (.ow t' e s rows)
  | mp (b b' : Nat) (h : b' < n) (hb : b = g b') : Wk g n (.mp b) (.mp b')
  | tok (k : Nat) : Wk g n (.tok k) (.tok k)
  | mps (f : List UInt8 → Option AV) : Wk g n (.mps f) (.mps f)
  | agg (cs ds : List AV) (hl : cs.length = ds.length) (h : ∀ (j : Nat) c d, cs[j]? = some c → ds[j]? = some d → Wk g n c d) : Wk g n (.agg cs) (.agg ds)
  | tup (cs ds : List AV) (hl : cs.length = ds.length) (h : ∀ (j : Nat) c d, cs[j]? = some c → ds[j]? = some d → Wk g n c d) : Wk g n (.tup cs) (.tup ds)
  | fn (f : Nat) (cs ds : List AV) (hl : cs.length = ds.length) (h : ∀ (j : Nat) c d, cs[j]? = some c → ds[j]? = some d → Wk g n c d) : Wk g n (.fn f cs) (.fn f ds)

def Env.pick (E : Env) (g : Nat → Nat) (n : Nat) : Env := { F := E.F, kd := fun b => if b < n then E.kd (g b) else 0, bk := fun b => E.bk (g b), tk := fun b => E.tk (g b) }

theorem Wk.vr {E : Env} {g : Nat → Nat} {n : Nat} {c d : AV} (h : Wk g n c d) : ∀ {v : Value}, VR E c v → VR (E.pick g n) d v := by
  induction h with
  | non c => exact fun _ => .non _
  | und => intro v hv; cases hv; exact .und
  | flat c h => intro v hv; exact (show VI (E.pick g n).F c.low v from hv.vi h).vr
  | emp s => intro v hv; exact (Src.of_emp (E := E.pick g n) (s := s) (by cases hv; exact .emp _)).sl
  | ptr b b' o h hb =>
    intro v hv
    cases hv with
    | ptr _ _ x hk hg => subst hb; exact .ptr _ _ x (by simp [Env.pick, h, hk]) hg
  | ow t t' e s rows h hb =>
    intro v hv
    cases hv with
    | ow _ _ _ _ a cap x h0 h1 h2 hk hn hv hc => subst hb; exact .ow _ _ _ _ a cap x h0 h1 h2 (by simp [Env.pick, h, hk]) hn hv hc
  | mp b b' h hb =>
    intro v hv
    cases hv with
    | mp _ x hk hg => subst hb; exact .mp _ x (by simp [Env.pick, h, hk]) hg
  | tok k => intro v hv; cases hv
  | mps f => intro v hv; cases hv
  | agg cs ds hl _ ih =>
    intro v hv
    obtain ⟨us, rfl, hu⟩ := hv.of_agg
    refine .agg ds us (by rw [hu.size]; exact hl) (fun j d u hd hu' => ?_)
    have hj : j < cs.length := by rw [hl]; exact (List.getElem?_eq_some_iff.1 hd).1
    exact ih j _ d (List.getElem?_eq_getElem hj) hd (hu.2 j _ u (List.getElem?_eq_getElem hj) (by simpa using hu'))
  | tup cs ds hl _ ih =>
    intro v hv
    obtain ⟨us, rfl, hu⟩ := hv.of_tup
    refine .tup ds us (by rw [hu.size]; exact hl) (fun j d u hd hu' => ?_)
    have hj : j < cs.length := by rw [hl]; exact (List.getElem?_eq_some_iff.1 hd).1
    exact ih j _ d (List.getElem?_eq_getElem hj) hd (hu.2 j _ u (List.getElem?_eq_getElem hj) (by simpa using hu'))
  | fn f cs ds hl _ ih =>
    intro v hv
    cases hv with
    | fn f cs us hl' hu =>
    refine .fn f ds us (by rw [hl']; exact hl) (fun j d u hd hu' => ?_)
    have hj : j < cs.length := by rw [hl]; exact (List.getElem?_eq_some_iff.1 hd).1
    exact ih j _ d (List.getElem?_eq_getElem hj) hd (hu j _ u (List.getElem?_eq_getElem hj) hu')

theorem Wk.cell {E : Env} {w : World} {g : Nat → Nat} {n b j : Nat} {c d : AV} (h : Wk g n c d) (hb : b < n) (hc : CellOk E w (g b) j c) : CellOk (E.pick g n) w b j d := by
  have pl : c.plain = true → d.plain = true → CellOk (E.pick g n) w b j d := fun h1 h2 => by
    rw [CellOk.plain h1] at hc
    rw [CellOk.plain h2]
    obtain ⟨hk, x, v, e1, e2, e3, e4⟩ := hc
    exact ⟨by simp [Env.pick, hb, hk], x, v, e1, e2, e3, h.vr e4⟩
  cases h with
  | non c => trivial
  | und => exact pl rfl rfl
  | flat c h => exact pl (by cases c <;> simp_all [AV.flat, AV.plain]) (by cases c <;> simp_all [AV.flat, AV.plain, AV.low])
  | emp s => exact pl rfl rfl
  | ptr => exact pl rfl rfl
  | ow => exact pl rfl rfl
  | mp => exact pl rfl rfl
  | tok k => exact ⟨hc.1, by simp [Env.pick, hb, hc.2.1], hc.2.2⟩
  | mps f =>
    obtain ⟨h1, h2, x, es, ck, h3, h4, h5⟩ := hc
    exact ⟨h1, by simp [Env.pick, hb, h2], x, es, ck, h3, h4, h5⟩
  | agg => exact pl rfl rfl
  | tup => exact pl rfl rfl
  | fn => exact pl rfl rfl

structure Pick (nx n : Nat) (g : Nat → Nat) : Prop where
  le : nx ≤ n
  old : ∀ b, b < nx → g b = b
  inj : ∀ x y, x < n → y < n → g x = g y → x = y

theorem EOk.pick {Γ : Ctx} {E : Env} {w : World} (h : EOk Γ E w) {g : Nat → Nat} {n : Nat} (hp : Pick Γ.nx n g) : EOk Γ (E.pick g n) w where
  le := by
    refine ⟨h.le.F, fun b hb => ?_, fun t ht => ?_⟩
    · have hb' := h.hx b (by rw [hb]; decide)
      obtain ⟨h1, h2⟩ := h.le.box b hb
      have hn : b < n := Nat.lt_of_lt_of_le hb' hp.le
      simp only [Env.pick, hn, if_true, hp.old b hb']
      exact ⟨h1, h2⟩
    · have hb' := h.hx t (by rw [ht]; decide)
      obtain ⟨h1, h2⟩ := h.le.tok t ht
      have hn : t < n := Nat.lt_of_lt_of_le hb' hp.le
      simp only [Env.pick, hn, if_true, hp.old t hb']
      exact ⟨h1, h2⟩
  os := h.os
  tape := h.tape
  output := h.output
  size := h.size
  old := h.old
  F := h.F
  box := fun b hb => by
    simp only [Env.pick] at hb ⊢
    split at hb
    · exact h.box (g b) hb
    · cases hb
  tok := fun t ht => by
    simp only [Env.pick] at ht
    split at ht
    · exact (h.tok (g t) ht)
    · cases ht
  fnew := h.fnew
  kd3 := fun b => by
    simp only [Env.pick]
    split
    · exact h.kd3 _
    · exact .inl rfl
  inj := fun b b' x hb hb' hx hx' => by
    simp only [Env.pick] at hb hb' hx hx'
    split at hb
    · split at hb'
      · exact hp.inj b b' (by assumption) (by assumption) (h.inj (g b) (g b') x hb hb' hx hx')
      · exact absurd rfl hb'
    · exact absurd rfl hb
  hx := h.hx

/-- The second state says less. -/
def Ent (nx : Nat) (s s' : ASt) : Prop := ∀ (Γ : Ctx) (a : Act) (w : World), Γ.nx = nx → Rel Γ s.view a w → Rel Γ s'.view a w

theorem Ent.refl (nx : Nat) (s : ASt) : Ent nx s s := fun _ _ _ _ h => h
theorem Ent.trans {nx : Nat} {s s' s'' : ASt} (h : Ent nx s s') (k : Ent nx s' s'') : Ent nx s s'' := fun Γ a w e hR => k Γ a w e (h Γ a w e hR)

def WkL (g : Nat → Nat) (n : Nat) : List AV → List AV → Prop
  | [], [] => True
  | c :: cs, d :: ds => Wk g n c d ∧ WkL g n cs ds
  | _, _ => False

def WkHs (g : Nat → Nat) (n : Nat) (H : List (List AV)) : List Nat → List (List AV) → Prop
  | [], [] => True
  | b :: bs, l :: ls => WkL g n (nthB H b) l ∧ WkHs g n H bs ls
  | _, _ => False

def nthN : List Nat → Nat → Nat
  | [], _ => 0
  | c :: _, 0 => c
  | _ :: r, n + 1 => nthN r n

theorem WkL.get {g : Nat → Nat} {n : Nat} : ∀ {cs ds : List AV}, WkL g n cs ds → cs.length = ds.length ∧ ∀ j, Wk g n (nth cs j) (nth ds j)
  | [], [], _ => ⟨rfl, fun j => .non _⟩
  | c :: cs, d :: ds, h => by
    obtain ⟨h1, h2⟩ := WkL.get h.2
    refine ⟨by simp [h1], fun j => ?_⟩
    cases j with
    | zero => exact h.1
    | succ j => exact h2 j
  | [], _ :: _, h => h.elim
  | _ :: _, [], h => h.elim

theorem WkHs.get {g : Nat → Nat} {n : Nat} {H : List (List AV)} : ∀ {bs : List Nat} {H' : List (List AV)}, WkHs g n H bs H' → bs.length = H'.length ∧ ∀ i, i < bs.length → WkL g n (nthB H (nthN bs i)) (nthB H' i)
  | [], [], _ => ⟨rfl, fun i h => by simp at h⟩
  | b :: bs, l :: ls, h => by
    obtain ⟨h1, h2⟩ := WkHs.get h.2
    refine ⟨by simp [h1], fun i hi => ?_⟩
    cases i with
    | zero => exact h.1
    | succ i => exact h2 i (by simpa using hi)
  | [], _ :: _, h => h.elim
  | _ :: _, [], h => h.elim

def distinct : List Nat → Bool
  | [] => true
  | b :: bs => !memN b bs && distinct bs

theorem mem_nthN : ∀ {l : List Nat} {i : Nat}, i < l.length → nthN l i ∈ l
  | c :: r, 0, _ => by simp [nthN]
  | c :: r, i + 1, h => List.mem_cons_of_mem _ (mem_nthN (l := r) (by simpa using h))

theorem distinct_inj : ∀ {l : List Nat}, distinct l = true → ∀ x y, x < l.length → y < l.length → nthN l x = nthN l y → x = y
  | [], _, x, y, h, _, _ => by simp at h
  | c :: r, h, 0, 0, _, _, _ => rfl
  | c :: r, h, 0, y + 1, _, hy, e => by
    simp only [distinct, Bool.and_eq_true, Bool.not_eq_true'] at h
    have := mem_nthN (l := r) (i := y) (by simpa using hy)
    simp only [nthN] at e
    rw [← e] at this
    have := memN_iff.2 this
    rw [h.1] at this; cases this
  | c :: r, h, x + 1, 0, hx, _, e => by
    simp only [distinct, Bool.and_eq_true, Bool.not_eq_true'] at h
    have := mem_nthN (l := r) (i := x) (by simpa using hx)
    simp only [nthN] at e
    rw [e] at this
    have := memN_iff.2 this
    rw [h.1] at this; cases this
  | c :: r, h, x + 1, y + 1, hx, hy, e => by
    simp only [distinct, Bool.and_eq_true] at h
    rw [distinct_inj h.2 x y (by simpa using hx) (by simpa using hy) e]

def isId : Nat → Nat → List Nat → Bool
  | _, 0, _ => true
  | i, n + 1, b :: bs => b == i && isId (i + 1) n bs
  | _, _ + 1, [] => false

theorem isId_get : ∀ (n i : Nat) (l : List Nat), isId i n l = true → n ≤ l.length ∧ ∀ b, b < n → nthN l b = i + b
  | 0, i, l, _ => ⟨Nat.zero_le _, fun b h => by omega⟩
  | n + 1, i, [], h => by simp [isId] at h
  | n + 1, i, c :: r, h => by
    simp only [isId, Bool.and_eq_true, beq_iff_eq] at h
    obtain ⟨h1, h2⟩ := isId_get n (i + 1) r h.2
    refine ⟨by simp; omega, fun b hb => ?_⟩
    cases b with
    | zero => simp [nthN, h.1]
    | succ b => simp only [nthN]; rw [h2 b (by omega)]; omega

/-- The blocks bs are kept, in this order. -/
structure Keeps (nx : Nat) (bs : List Nat) : Prop where
  id : isId 0 nx bs = true
  distinct : distinct bs = true

theorem Keeps.pick {nx : Nat} {bs : List Nat} (h : Keeps nx bs) : Pick nx bs.length (nthN bs) := by
  obtain ⟨h1, h2⟩ := isId_get nx 0 bs h.id
  exact ⟨h1, fun b hb => by rw [h2 b hb, Nat.zero_add], distinct_inj h.distinct⟩

theorem ent_of {nx : Nat} {s s' : ASt} (bs : List Nat) (hk : Keeps nx bs) (hr : WkL (nthN bs) bs.length s.regs s'.regs) (hh : WkHs (nthN bs) bs.length s.heap bs s'.heap) : Ent nx s s' := by
  intro Γ a w hn hR
  obtain ⟨E, hE, hS⟩ := hR
  subst hn
  obtain ⟨r1, r2⟩ := hr.get
  obtain ⟨h1, h2⟩ := hh.get
  refine ⟨E.pick (nthN bs) bs.length, hE.pick hk.pick, ⟨?_, hS.defers, fun r => (r2 r).vr (hS.reg r), fun b j => ?_, fun b hb => ?_⟩⟩
  · rw [hS.size]; exact r1
  · by_cases hb : b < bs.length
    · exact ((h2 b hb).get.2 j).cell hb (hS.cell (nthN bs b) j)
    · show CellOk _ _ _ _ (nth (nthB s'.heap b) j)
      rw [nthB_ge _ _ (by omega)]
      trivial
  · simp only [ASt.view, decide_eq_false_iff_not] at hb
    simp only [Env.pick]
    rw [if_neg (by omega)]

/-- An empty slice without capacity becomes a token. -/
theorem ent_tok {nx : Nat} {s : ASt} (r e sz : Nat) (hr : nth s.regs r = .emp) : Ent nx s ⟨s.regs.set r (.ow s.heap.length e sz []), s.heap ++ [[.tok 0]]⟩ := by
  intro Γ a w hn hR
  obtain ⟨E, hE, hS⟩ := hR
  have hv := hS.reg r
  simp only [ASt.view] at hv
  rw [hr] at hv
  have hrl : r < s.regs.length := nth_ne (by rw [hr]; simp)
  generalize hx : a.tmps.getD r undef = v at hv
  cases hv with
  | emp b =>
  have h1 := hS.noTok (Γ := Γ) hE (t := s.heap.length) (by simp [ASt.view]) (some r) e sz b
  have h2 : a.put (some r) (.slice b 0 0) = a := by
    cases a with
    | mk tmps defers =>
    simp only [Act.put]
    congr
    have hsz : r < tmps.size := by have := hS.size; simp only [ASt.view] at this; omega
    simp only [Array.getD_eq_getD_getElem?, Array.getElem?_eq_getElem hsz, Option.getD_some] at hx
    rw [← hx]
    refine Array.ext (by simp) (fun i h1 h2 => ?_)
    rw [Array.getElem_setIfInBounds]
    split
    · rename_i e; subst e; rfl
    · rfl
  rw [h2] at h1
  have h3 := view_apply (s := s) (e := ⟨some r, .ow s.heap.length e sz [], [], s.heap.length, [[.tok 0]]⟩) ⟨rfl, by simp⟩
  rw [← h3] at h1
  exact h1

/-! ### Code -/

inductive AEx where
  | nrm | ext (id : Nat) | ret

def AEx.ex : AEx → Exit
  | .nrm => .normal
  | .ext id => .exit id
  | .ret => .ret

def loopK (nx : Nat) (I : Nat → ASt → Prop) (n : Nat) (K : AEx → ASt → Prop) : AEx → ASt → Prop
  | .nrm, s => ∃ s' m, Ent nx s s' ∧ m < n ∧ I m s'
  | x, s => K x s

def seqK (f : ASt → Prop) (K : AEx → ASt → Prop) : AEx → ASt → Prop
  | .nrm, s => f s
  | x, s => K x s

def blkK (id : Nat) (K : AEx → ASt → Prop) : AEx → ASt → Prop
  | .ext id', s => if id' = id then K .nrm s else K (.ext id') s
  | x, s => K x s

def awp (P : Program) (T : TT) (nx : Nat) : Code → ASt → (AEx → ASt → Prop) → Prop
  | .skip, s, K => K .nrm s
  | .region _ ops dr, s, K => aops P T ops dr ops.toList s [] (regK ops dr (K .nrm))
  | .seq a b, s, K => awp P T nx a s (seqK (fun s' => awp P T nx b s' K) K)
  | .cond c a b, s, K => match s.view.ev c with
    | .bool t => (t = true → awp P T nx a s K) ∧ (t = false → awp P T nx b s K)
    | _ => False
  | .block id c, s, K => awp P T nx c s (blkK id K)
  | .loop c, s, K => ∃ I : Nat → ASt → Prop, (∃ s' n, Ent nx s s' ∧ I n s') ∧ ∀ n s, I n s → awp P T nx c s (loopK nx I n K)
  | .exit id, s, K => K (.ext id) s
  | .ret, s, K => K .ret s
  | .label _, s, K => K .nrm s
  | _, _, _ => False

theorem wp_loop_idx {c : Code} {Q : Exit → Act → World → Prop} {a : Act} {w : World} (J : Nat → Act → World → Prop) (n₀ : Nat) (h₀ : J n₀ a w)
    (round : ∀ n a w, J n a w → c.wp P (Exit.then (fun a' w' => ∃ m, m < n ∧ J m a' w') Q) a w) : (Code.loop c).wp P Q a w := by
  intro b k cs
  have key : ∀ n a w, J n a w → ∃ e a' w', Q e a' w' ∧ Arrives P (lone (b.at a (.code c :: .inLoop c :: k)) cs w) b k cs e a' w' := by
    intro n
    induction n using Nat.strongRecOn with
    | _ n ih =>
      intro a w hJ
      obtain ⟨e, a₁, w₁, hq, harr⟩ := round n a w hJ b (.inLoop c :: k) cs
      cases e with
      | normal =>
        obtain ⟨m, hlt, hJ₁⟩ := hq
        obtain ⟨e₂, a₂, w₂, hq₂, harr₂⟩ := ih m hlt a₁ w₁ hJ₁
        exact ⟨e₂, a₂, w₂, hq₂, .of_steps (Steps.trans harr (.one step_inLoop)) harr₂⟩
      | exit id => exact ⟨_, a₁, w₁, hq, .pass (x := .inLoop c) rfl (fun _ _ => .inl (by simp)) harr⟩
      | goto l => exact ⟨_, a₁, w₁, hq, .pass (x := .inLoop c) rfl (fun _ _ => .inl (by simp)) harr⟩
      | ret => exact ⟨_, a₁, w₁, hq, .pass (x := .inLoop c) rfl (fun _ _ => .inl (by simp)) harr⟩
      | panic ch => exact ⟨_, a₁, w₁, hq, .pass (x := .inLoop c) rfl (fun _ _ => .inl (by simp)) harr⟩
      | outgrown => exact ⟨_, a₁, w₁, hq, .pass (x := .inLoop c) rfl (fun _ _ => .inl (by simp)) harr⟩
  obtain ⟨e, a', w', hq, harr⟩ := key n₀ a w h₀
  exact ⟨e, a', w', hq, .of_steps (.one step_loop) harr⟩

theorem awp_sound (hT : TabOk P T) (hm : P.follows .mixedOrders = true) {Γ : Ctx} : ∀ (c : Code) (s : ASt) (K : AEx → ASt → Prop), awp P T Γ.nx c s K → ∀ (Q : Exit → Act → World → Prop) (a : Act) (w : World), Rel Γ s.view a w →
    (∀ x s' a' w', K x s' → Rel Γ s'.view a' w' → Q x.ex a' w') → c.wp P Q a w
  | .skip, s, K, h, Q, a, w, hR, hQ => wp_skip (hQ .nrm s a w h hR)
  | .region id ops dr, s, K, h, Q, a, w, hR, hQ => region_sound hT hm h hR (fun s' a' w' hK hR' => hQ .nrm s' a' w' hK hR')
  | .seq x y, s, K, h, Q, a, w, hR, hQ => by
    refine wp_seq (awp_sound hT hm x s _ h _ a w hR (fun e s' a' w' hK hR' => ?_))
    cases e with
    | nrm => exact awp_sound hT hm y s' K hK Q a' w' hR' hQ
    | ext id => exact hQ (.ext id) s' a' w' hK hR'
    | ret => exact hQ .ret s' a' w' hK hR'
  | .cond c x y, s, K, h, Q, a, w, hR, hQ => by
    simp only [awp] at h
    split at h
    · rename_i t ht
      obtain ⟨E, hE, hS⟩ := hR
      have hv := hS.ev c
      rw [ht] at hv
      have hb : a.eval c = .bool t := by
        generalize a.eval c = v at hv
        cases hv; rfl
      refine wp_cond hb ?_
      cases t with
      | true => exact awp_sound hT hm x s K (h.1 rfl) Q a w ⟨E, hE, hS⟩ hQ
      | false => exact awp_sound hT hm y s K (h.2 rfl) Q a w ⟨E, hE, hS⟩ hQ
    · exact h.elim
  | .block id c, s, K, h, Q, a, w, hR, hQ => by
    refine wp_block (awp_sound hT hm c s _ h _ a w hR (fun e s' a' w' hK hR' => ?_))
    cases e with
    | nrm => exact hQ .nrm s' a' w' hK hR'
    | ext id' =>
      simp only [blkK] at hK
      simp only [AEx.ex, Exit.inBlock]
      split at hK
      · rename_i e; rw [if_pos e]; exact hQ .nrm s' a' w' hK hR'
      · rename_i e; rw [if_neg e]; exact hQ (.ext id') s' a' w' hK hR'
    | ret => exact hQ .ret s' a' w' hK hR'
  | .loop c, s, K, h, Q, a, w, hR, hQ => by
    obtain ⟨I, ⟨s0, n0, he, hI⟩, hround⟩ := h
    refine wp_loop_idx (fun n a w => ∃ s, I n s ∧ Rel Γ s.view a w) n0 ⟨s0, hI, he Γ a w rfl hR⟩ (fun n a' w' hJ => ?_)
    obtain ⟨s1, hI1, hR1⟩ := hJ
    refine awp_sound hT hm c s1 _ (hround n s1 hI1) _ a' w' hR1 (fun e s' a2 w2 hK hR2 => ?_)
    cases e with
    | nrm =>
      obtain ⟨s2, m, he2, hlt, hI2⟩ := hK
      exact ⟨m, hlt, s2, hI2, he2 Γ a2 w2 rfl hR2⟩
    | ext id => exact hQ (.ext id) s' a2 w2 hK hR2
    | ret => exact hQ .ret s' a2 w2 hK hR2
  | .exit id, s, K, h, Q, a, w, hR, hQ => wp_exit (hQ (.ext id) s a w h hR)
  | .ret, s, K, h, Q, a, w, hR, hQ => wp_ret (hQ .ret s a w h hR)
  | .label l, s, K, h, Q, a, w, hR, hQ => wp_label (hQ .nrm s a w h hR)
  | .rangeFunc .., s, K, h, Q, a, w, hR, hQ => by simp [awp] at h
  | .scope _, s, K, h, Q, a, w, hR, hQ => by simp [awp] at h
  | .goto _, s, K, h, Q, a, w, hR, hQ => by simp [awp] at h
  | .refuse _, s, K, h, Q, a, w, hR, hQ => by simp [awp] at h

end Go.Ab
end

section
namespace Go.Ab
open Go Go.RowKit
set_option linter.unusedVariables false
set_option linter.unusedSimpArgs false

variable {P : Program} {T : TT}

def sing : List AV → AV
  | [c] => c
  | cs => .tup cs

/-- The results, by registers and blocks. -/
def resK (T : TT) (s : ASt) : List ResultVar → (List AV → Prop) → Prop
  | [], k => k []
  | .tmp t :: r, k => resK T s r fun vs => k (nth s.regs t :: vs)
  | .cell a t :: r, k => (T t).kd.isOther = false ∧ match nth s.regs a with
    | .ptr b o => if (T t).kd.isAgg then allB AV.plain (rdc (s.view.cell b) o (T t).size) = true ∧ resK T s r fun vs => k (.agg (rdc (s.view.cell b) o (T t).size) :: vs)
        else (s.view.cell b o).plain = true ∧ resK T s r fun vs => k (s.view.cell b o :: vs)
    | _ => False

/-- The end of a function: what is said of its result and of the blocks that it leaves. -/
def ends (T : TT) (rs : List ResultVar) (nx : Nat) (r : AV) (H' : List (List AV)) : AEx → ASt → Prop
  | .ext _, _ => False
  | _, s => resK T s rs fun vs => ∃ bs, Keeps nx bs ∧ Wk (nthN bs) bs.length (sing vs) r ∧ WkHs (nthN bs) bs.length s.heap bs H'

def resOne (tmps : Array Value) : ResultVar → Sem Value
  | .tmp t => pure (tmps.getD t undef)
  | .cell a t => do loadVar t (← asAddr (tmps.getD a undef))

theorem resK_sound (hT : TabOk P T) {Γ : Ctx} {E : Env} {s : ASt} {a : Act} {w : World} (hE : EOk Γ E w) (hS : SOk E s.view a w) : ∀ (rs : List ResultVar) (k : List AV → Prop), resK T s rs k →
    ∃ cs vs, k cs ∧ VRs E cs vs ∧ (rs.mapM (resOne a.tmps)).run P w = .ok vs w
  | [], k, h => ⟨[], [], h, VRs.nil, by simp⟩
  | .tmp t :: r, k, h => by
    obtain ⟨cs, vs, h1, h2, h3⟩ := resK_sound hT hE hS r _ h
    refine ⟨_, _, h1, VRs.cons (hS.reg t) h2, ?_⟩
    rw [List.mapM_cons, Sem.run_bind]
    simp only [resOne, Sem.run_pure, Result.andThen_ok, Sem.run_bind, h3]
  | .cell x t :: r, k, h => by
    obtain ⟨hno, h⟩ := h
    have hv := hS.reg x
    simp only [ASt.view] at hv
    split at h
    · rename_i b off hx
      rw [hx] at hv
      generalize hax : a.tmps.getD x undef = vx at hv
      cases hv with
      | ptr b off g hk hb =>
      cases hag : (T t).kd.isAgg with
      | true =>
        rw [hag, if_pos rfl] at h
        obtain ⟨cs, vs', h1, h2, h3⟩ := resK_sound hT hE hS r _ h.2
        have hcell : ∀ j, j < (T t).size → ∃ v, w.cell? ⟨g, off + j, none⟩ = some v ∧ VR E (s.view.cell b (off + j)) v := fun j hj => by
          have h1 := hS.cell b (off + j)
          rw [CellOk.plain (allB_mem h.1 _ (List.mem_of_getElem? (rdc_get (s.view.cell b) _ off j hj)))] at h1
          obtain ⟨_, g', v, e1, e2, _, e3⟩ := h1
          rw [hb] at e1; injection e1 with e1; subst e1
          exact ⟨v, e2, e3⟩
        let vs : List Value := (List.range (T t).size).map fun j => (w.cell? ⟨g, off + j, none⟩).getD undef
        have hvs : vs.length = (T t).size := by simp [vs]
        have hget : ∀ (j : Nat) v, vs[j]? = some v → j < (T t).size ∧ w.cell? ⟨g, off + j, none⟩ = some v := fun j v hj => by
          have hlt : j < (T t).size := by rw [← hvs]; exact (List.getElem?_eq_some_iff.1 hj).1
          simp only [vs, List.getElem?_map, List.getElem?_range hlt, Option.map_some, Option.some.injEq] at hj
          obtain ⟨u, e1, _⟩ := hcell j hlt
          rw [e1] at hj
          simp only [Option.getD_some] at hj
          subst hj
          exact ⟨hlt, e1⟩
        refine ⟨_, .agg vs.toArray :: vs', h1, VRs.cons (VRs.agg ⟨by simp [hvs, rdc_length], fun j c v hj hv => ?_⟩) h2, ?_⟩
        · obtain ⟨hlt, e1⟩ := hget j v (by simpa using hv)
          obtain ⟨u, e2, e3⟩ := hcell j hlt
          rw [rdc_get _ _ _ _ hlt] at hj
          injection hj with hj
          rw [e1] at e2; injection e2 with e2
          subst hj; subst e2
          exact e3
        · rw [List.mapM_cons, Sem.run_bind]
          simp only [resOne, hax, asAddr, Sem.run_bind, Sem.run_pure, Result.andThen_ok]
          rw [run_loadVar_agg hT hno hag hvs (fun j v hj => by rw [add_lit]; exact (hget j v hj).2)]
          simp only [Result.andThen_ok, Sem.run_bind, h3, Sem.run_pure]
      | false =>
        rw [hag, if_neg (by simp)] at h
        obtain ⟨cs, vs', h1, h2, h3⟩ := resK_sound hT hE hS r _ h.2
        have h4 := hS.cell b off
        rw [CellOk.plain h.1] at h4
        obtain ⟨_, g', v, e1, e2, _, e3⟩ := h4
        rw [hb] at e1; injection e1 with e1; subst e1
        refine ⟨_, v :: vs', h1, VRs.cons e3 h2, ?_⟩
        rw [List.mapM_cons, Sem.run_bind]
        simp only [resOne, hax, asAddr, Sem.run_bind, Sem.run_pure, Result.andThen_ok]
        rw [run_loadVar_one hT hno hag e2]
        simp only [Result.andThen_ok, Sem.run_bind, h3, Sem.run_pure]
    · exact h.elim

theorem run_results {fn : Func} {rs : List ResultVar} (hr : fn.results = rs.toArray) (tmps : Array Value) {w : World} {vs : List Value} (h : (rs.mapM (resOne tmps)).run P w = .ok vs w) :
    (results fn tmps).run P w = .ok (if h : vs.toArray.size = 1 then vs.toArray[0] else .tuple vs.toArray) w := by
  have e : results fn tmps = (fn.results.mapM (resOne tmps) >>= fun vs => pure (if h : vs.size = 1 then vs[0] else .tuple vs)) := by
    unfold results
    refine congrArg (fun f => (Array.mapM f fn.results >>= fun vs => pure (if h : vs.size = 1 then vs[0] else .tuple vs) : Sem Value)) ?_
    funext x; cases x <;> rfl
  rw [e, hr, List.mapM_toArray, Sem.run_bind]
  simp [h]

theorem VR.sing {E : Env} {cs : List AV} {vs : List Value} (h : VRs E cs vs) : VR E (sing cs) (if h : vs.toArray.size = 1 then vs.toArray[0] else .tuple vs.toArray) := by
  obtain ⟨h1, h2⟩ := h
  match cs, vs, h1 with
  | [], [], _ => exact .tup [] #[] rfl (fun j c v h => by simp at h)
  | [c], [v], _ => exact h2 0 c v rfl rfl
  | c :: d :: cs, v :: u :: vs, h1 =>
    have : ¬ (v :: u :: vs).toArray.size = 1 := by simp
    rw [dif_neg this]
    exact .tup _ _ (by simpa using h1) (fun j c v h k => h2 j c v h (by simpa using k))

theorem meets_of_awp (hT : TabOk P T) (hm : P.follows .mixedOrders = true) {f : Nat} {fn : Func} {code : Code} (hf : P.funcs[f]? = some fn) (hb : fn.body = some code) {rs : List ResultVar} (hr : fn.results = rs.toArray)
    {H H' : List (List AV)} {args : List AV} {r : AV} (h : awp P T H.length code ⟨args ++ List.replicate (fn.ntmps - args.length) .und, H⟩ (ends T rs H.length r H')) : Meets P f H args r H' := by
  intro w E X vs hE hH h1 hv
  have hsz : vs.size = args.length := by simpa using hv.1
  have hreg : VRs E (args ++ List.replicate (fn.ntmps - args.length) .und) (vs ++ Array.replicate (fn.ntmps - vs.size) undef).toList := by
    rw [Array.toList_append, Array.toList_replicate, hsz]
    refine hv.append ⟨by simp, fun j c v x y => ?_⟩
    rw [List.getElem?_replicate] at x y
    split at x
    · rename_i hj
      rw [if_pos hj] at y
      injection x with x; injection y with y
      subst x; subst y; exact .und
    · cases x
  have hRel : Rel ⟨w, X, E, H.length⟩ (ASt.mk (args ++ List.replicate (fn.ntmps - args.length) .und) H).view { tmps := vs ++ Array.replicate (fn.ntmps - vs.size) undef, defers := [] } w := by
    refine ⟨E, hE, ⟨by simpa [ASt.view] using hreg.1, rfl, fun r => ?_, hH.1, fun b hb => ?_⟩⟩
    · simp only [ASt.view]
      rw [nth_eq]
      cases hx : (args ++ List.replicate (fn.ntmps - args.length) AV.und)[r]? with
      | none => exact .non _
      | some c =>
        obtain ⟨v, y1, y2⟩ := hreg.get hx
        rw [Array.getElem?_toList] at y1
        simp only [Array.getD_eq_getD_getElem?, y1, Option.getD_some]
        exact y2
    · simp only [ASt.view, decide_eq_false_iff_not] at hb
      exact hH.2 b (by omega)
  refine calls_of_wp hf hb (awp_sound hT hm (Γ := ⟨w, X, E, H.length⟩) code _ _ h _ _ _ hRel (fun x s' a' w' hK hR => ?_))
  have fin : (resK T s' rs fun vs => ∃ bs, Keeps H.length bs ∧ Wk (nthN bs) bs.length (sing vs) r ∧ WkHs (nthN bs) bs.length s'.heap bs H') →
      a'.defers = [] ∧ ∃ v, (results fn a'.tmps).run P w' = .ok v w' ∧ ∃ v' E', Ending.returned v = .returned v' ∧ EOk ⟨w, X, E, H.length⟩ E' w' ∧ HOk E' w' H' ∧ VR E' r v' := by
    intro hres
    obtain ⟨E1, hE1, hS1⟩ := hR
    obtain ⟨cs, us, ⟨bs, hk, hw, hh⟩, q3, q4⟩ := resK_sound hT hE1 hS1 rs _ hres
    obtain ⟨q1, q2⟩ := hh.get
    refine ⟨hS1.defers, _, run_results hr _ q4, _, E1.pick (nthN bs) bs.length, rfl, hE1.pick hk.pick, ⟨fun b j => ?_, fun b hb => ?_⟩, hw.vr (VR.sing q3)⟩
    · by_cases hb : b < bs.length
      · exact ((q2 b hb).get.2 j).cell hb (hS1.cell (nthN bs b) j)
      · rw [nthB_ge _ _ (by omega)]
        trivial
    · simp only [Env.pick]
      rw [if_neg (by omega)]
  cases x with
  | nrm => exact fin hK
  | ret => exact fin hK
  | ext id => exact hK.elim

end Go.Ab
end

section
namespace Go.Ab
open Go Go.RowKit
set_option linter.unusedVariables false
set_option linter.unusedSimpArgs false

def szOf (P : Program) (t : Nat) : Nat := match P.info? t with
  | some i => i.size
  | none => 0

def kindOf (P : Program) (t : Nat) : AKind := match P.underlying t with
  | some (.int k) => .int k
  | some .bool => .bool
  | some .string => .str
  | some (.struct gs) => if P.stoodInHeld t = false ∧ P.eqGuardType P.depth t = false ∧ (gs.toList.all fun g => g.name != "_" && szOf P g.type != 0) = true then .st (gs.toList.map fun g => ⟨g.offset, szOf P g.type, g.type⟩) else .other
  | some (.array n e) => if P.eqGuardType P.depth t = false then .arr n e else .other
  | some (.slice e) => .slice e
  | some (.pointer e) => .ptr e
  | some (.map k e) => .map k e
  | some (.func _ _ _) => .fn
  | _ => .other

theorem kindOf_ok (P : Program) (t : Nat) : kdOk P t (kindOf P t) := by
  unfold kindOf
  split
  case h_4 gs hu =>
    split
    · rename_i hc
      obtain ⟨h1, h2, h3⟩ := hc
      refine ⟨gs, hu, by simp, h1, h2, fun i f g x y => ?_⟩
      rw [List.getElem?_map, Array.getElem?_toList, y] at x
      injection x with x
      subst x
      have hg : g ∈ gs.toList := by
        rw [← Array.getElem?_toList] at y
        exact List.mem_of_getElem? y
      have := List.all_eq_true.1 h3 g hg
      simp only [Bool.and_eq_true, bne_iff_ne, ne_eq] at this
      refine ⟨this.1, rfl, rfl, this.2, ?_⟩
      have h4 := this.2
      simp only [szOf] at h4 ⊢
      split at h4
      · rename_i j hj; exact ⟨j, hj, rfl⟩
      · exact absurd rfl h4
    · trivial
  case h_5 n e hu =>
    split
    · rename_i hc; exact ⟨hu, hc⟩
    · trivial
  case h_9 a b c hu => exact ⟨a, b, c, hu⟩
  all_goals first | assumption | trivial

def isAggV : Value → Bool
  | .agg _ => true
  | _ => false

def zOk (P : Program) (t : Nat) (i : TypeInfo) (z : Value) : Bool := z.cells.size == i.size && (z.cells.toList.all fun v => v.oneCell') && (match kindOf P t with | .st _ | .arr .. => isAggV z | _ => z.oneCell')

def tabOf (P : Program) (t : Nat) : ATy := match P.info? t with
  | some i => match i.zero with
    | some z => if zOk P t i z = true then ⟨kindOf P t, i.size, i.bytes, z.cells.toList.map cvOne⟩ else ⟨.other, 0, 0, []⟩
    | none => ⟨.other, 0, 0, []⟩
  | none => ⟨.other, 0, 0, []⟩

theorem tabOf_ok (P : Program) : TabOk P (tabOf P) := by
  intro t
  unfold tabOf
  split
  · rename_i i hi
    split
    · rename_i z hz
      split
      · rename_i hc
        simp only [zOk, Bool.and_eq_true, beq_iff_eq] at hc
        obtain ⟨⟨h1, h2⟩, h3⟩ := hc
        refine .inr ⟨kindOf_ok P t, i, z, hi, rfl, rfl, hz, h1, rfl, fun v hv => ?_, ?_⟩
        · exact List.all_eq_true.1 h2 v (Array.mem_toList_iff.2 hv)
        · show match kindOf P t with | .st _ | .arr .. => ∃ cs, z = .agg cs | _ => z.oneCell' = true
          have ag : isAggV z = true → ∃ cs, z = .agg cs := fun h => by
            cases z <;> first | exact ⟨_, rfl⟩ | (simp [isAggV] at h)
          generalize kindOf P t = kk at h3
          cases kk <;> first | exact h3 | exact ag h3
      · exact .inl rfl
    · exact .inl rfl
  · exact .inl rfl

end Go.Ab
end

section
namespace Go.Ab
open Go Go.RowKit
set_option linter.unusedVariables false
set_option linter.unusedSimpArgs false

variable {P : Program} {T : TT}

/-- What an operand comes to, by the registers. -/
def evR (R : List AV) : Operand → AV
  | .tmp r => nth R r
  | .const v => cv v
  | .global _ => .non
  | .func f => .fn f []

theorem ev_mk (R : List AV) (H : List (List AV)) : (ASt.mk R H).view.ev = evR R := by
  funext x; cases x <;> rfl

/-- The footprint of an operation that touches no block. -/
def ft0 (H : List (List AV)) : Ft := ⟨[], [], H.length, 0⟩

def gD : List Oper → Nat → Option Nat
  | [], _ => none
  | o :: _, 0 => o.dst
  | _ :: r, n + 1 => gD r n

theorem gD_eq (all : Array Oper) (g : Nat × Bool) : gDst all g = gD all.toList g.1 := by
  unfold gDst
  rw [← Array.getElem?_toList]
  generalize all.toList = l
  generalize g.1 = n
  induction l generalizing n with
  | nil => simp [gD]
  | cons o r ih =>
    cases n with
    | zero => simp [gD]
    | succ n => simpa [gD] using ih n

/-- A guarded operation, by what its guard holds. -/
def grd (P : Program) (T : TT) (l : List Oper) (dr : Bool) (o : Oper) (rest : List Oper) (d : Nat) (gb : Bool) (R : List AV) (H : List (List AV)) (fs : List Ft) (K : ASt → List Ft → Prop) (v : AV) : Prop :=
  match v with
  | .bool b => (b = gb → aop P T o ⟨R.set d (.bool gb), H⟩ fun e rd => aops P T ⟨l⟩ dr rest (ASt.apply ⟨R.set d (.bool gb), H⟩ e) (more dr fs e rd) K) ∧
      (b = (!gb) → aops P T ⟨l⟩ dr rest (ASt.apply ⟨R.set d (.bool (!gb)), H⟩ ⟨o.dst, .und, [], H.length, []⟩) (more dr fs ⟨o.dst, .und, [], H.length, []⟩ []) K)
  | .und => aops P T ⟨l⟩ dr rest (ASt.apply ⟨R, H⟩ ⟨o.dst, .und, [], H.length, []⟩) (more dr fs ⟨o.dst, .und, [], H.length, []⟩ []) K
  | _ => False

section
variable {l : List Oper} {dr : Bool} {dst : Option Tmp} {op : Op} {ty : TypeId} {pos : String} {af : Array Edge} {g : Option (Nat × Bool)} {rest : List Oper} {d : Nat} {gb : Bool} {R : List AV} {H : List (List AV)} {fs : List Ft} {K : ASt → List Ft → Prop}
theorem grd_congr {o : Oper} {v v' : AV} (h : v = v') : grd P T l dr o rest d gb R H fs K v = grd P T l dr o rest d gb R H fs K v' := by rw [h]
theorem grd_tt : grd P T l dr ⟨dst, op, ty, pos, af, g⟩ rest d true R H fs K (.bool true) = aop P T ⟨dst, op, ty, pos, af, g⟩ ⟨R.set d (.bool true), H⟩ (fun e rd => aops P T ⟨l⟩ dr rest (ASt.apply ⟨R.set d (.bool true), H⟩ e) (more dr fs e rd) K) := by simp [grd]
theorem grd_ff : grd P T l dr ⟨dst, op, ty, pos, af, g⟩ rest d false R H fs K (.bool false) = aop P T ⟨dst, op, ty, pos, af, g⟩ ⟨R.set d (.bool false), H⟩ (fun e rd => aops P T ⟨l⟩ dr rest (ASt.apply ⟨R.set d (.bool false), H⟩ e) (more dr fs e rd) K) := by simp [grd]
theorem grd_tf : grd P T l dr ⟨dst, op, ty, pos, af, g⟩ rest d false R H fs K (.bool true) = aops P T ⟨l⟩ dr rest (ASt.apply ⟨R.set d (.bool true), H⟩ ⟨dst, .und, [], H.length, []⟩) (more dr fs ⟨dst, .und, [], H.length, []⟩ []) K := by simp [grd]
theorem grd_ft : grd P T l dr ⟨dst, op, ty, pos, af, g⟩ rest d true R H fs K (.bool false) = aops P T ⟨l⟩ dr rest (ASt.apply ⟨R.set d (.bool false), H⟩ ⟨dst, .und, [], H.length, []⟩) (more dr fs ⟨dst, .und, [], H.length, []⟩ []) K := by simp [grd]
theorem grd_und : grd P T l dr ⟨dst, op, ty, pos, af, g⟩ rest d gb R H fs K .und = aops P T ⟨l⟩ dr rest (ASt.apply ⟨R, H⟩ ⟨dst, .und, [], H.length, []⟩) (more dr fs ⟨dst, .und, [], H.length, []⟩ []) K := by simp [grd]
/-- The ways of an open guard: it is looked at once, by both literals. -/
theorem grd_split {o : Oper} {b : Bool} (h1 : b = true → grd P T l dr o rest d gb R H fs K (.bool true)) (h2 : b = false → grd P T l dr o rest d gb R H fs K (.bool false)) : grd P T l dr o rest d gb R H fs K (.bool b) := by
  cases b
  · exact h2 rfl
  · exact h1 rfl
end

theorem aops_nil (all : Array Oper) (dr : Bool) (s : ASt) (fs : List Ft) (K : ASt → List Ft → Prop) : aops P T all dr [] s fs K = K s fs := Eq.trans rfl rfl

theorem aops_cons (all : Array Oper) (dr : Bool) (dst : Option Tmp) (op : Op) (ty : TypeId) (pos : String) (af : Array Edge) (rest : List Oper) (R : List AV) (H : List (List AV)) (fs : List Ft) (K : ASt → List Ft → Prop) :
    aops P T all dr (⟨dst, op, ty, pos, af, none⟩ :: rest) ⟨R, H⟩ fs K = aop P T ⟨dst, op, ty, pos, af, none⟩ ⟨R, H⟩ (fun e rd => aops P T all dr rest (ASt.apply ⟨R, H⟩ e) (more dr fs e rd) K) := Eq.trans rfl rfl

theorem aops_guard (l : List Oper) (dr : Bool) (dst : Option Tmp) (op : Op) (ty : TypeId) (pos : String) (af : Array Edge) (n : Nat) (gb : Bool) (rest : List Oper) (R : List AV) (H : List (List AV)) (fs : List Ft) (K : ASt → List Ft → Prop) :
    aops P T ⟨l⟩ dr (⟨dst, op, ty, pos, af, some (n, gb)⟩ :: rest) ⟨R, H⟩ fs K = match gD l n with
      | none => False
      | some d => grd P T l dr ⟨dst, op, ty, pos, af, some (n, gb)⟩ rest d gb R H fs K (nth R d) := by
  rw [aops]
  simp only [gD_eq]
  cases gD l n with
  | none => rfl
  | some d =>
    simp only []
    cases nth R d <;> rfl

theorem more_f (fs : List Ft) (e : Eff) (rd : List (Nat × Nat)) : more false fs e rd = fs := by simp [more]
theorem more_t (fs : List Ft) (d : Option Nat) (v : AV) (ws : List (Nat × Nat × AV)) (b : Nat) (N : List (List AV)) (rd : List (Nat × Nat)) : more true fs ⟨d, v, ws, b, N⟩ rd = fs ++ [⟨rd, ws.map fun x => (x.1, x.2.1), b, N.length⟩] := by simp [more, ftOf]

theorem apply_v (R : List AV) (H : List (List AV)) (d : Nat) (v : AV) (b : Nat) : ASt.apply ⟨R, H⟩ ⟨some d, v, [], b, []⟩ = ⟨R.set d v, H⟩ := by simp [ASt.apply, setR, wrH]
theorem apply_n (R : List AV) (H : List (List AV)) (v : AV) (b : Nat) : ASt.apply ⟨R, H⟩ ⟨none, v, [], b, []⟩ = ⟨R, H⟩ := by simp [ASt.apply, setR, wrH]
theorem apply_s (R : List AV) (H : List (List AV)) (d : Nat) (v : AV) (ws : List (Nat × Nat × AV)) (b : Nat) (N : List (List AV)) : ASt.apply ⟨R, H⟩ ⟨some d, v, ws, b, N⟩ = ⟨R.set d v, wrH ws H ++ N⟩ := Eq.trans rfl rfl
theorem apply_sn (R : List AV) (H : List (List AV)) (v : AV) (ws : List (Nat × Nat × AV)) (b : Nat) (N : List (List AV)) : ASt.apply ⟨R, H⟩ ⟨none, v, ws, b, N⟩ = ⟨R, wrH ws H ++ N⟩ := Eq.trans rfl rfl

section
variable (dst : Option Tmp) (ty : TypeId) (pos : String) (af : Array Edge) (g : Option (Nat × Bool)) (R : List AV) (H : List (List AV)) (k : Eff → List (Nat × Nat) → Prop)

/-- How a value goes on. -/
def go (dst : Option Tmp) (H : List (List AV)) (k : Eff → List (Nat × Nat) → Prop) : AV → Prop := fun c => k ⟨dst, c, [], H.length, []⟩ []
theorem go_eq (c : AV) : go dst H k c = k ⟨dst, c, [], H.length, []⟩ [] := Eq.trans rfl rfl

def aPick (c a b : AV) (k : AV → Prop) : Prop := match c with
  | .bool t => (t = true → k a) ∧ (t = false → k b)
  | _ => False
theorem aPick_congr {c c' a a' b b' : AV} {k : AV → Prop} (h : c = c') (h1 : a = a') (h2 : b = b') : aPick c a b k = aPick c' a' b' k := by rw [h, h1, h2]
theorem aPick_t {a b : AV} {k : AV → Prop} : aPick (.bool true) a b k = k a := by simp [aPick]
theorem aPick_f {a b : AV} {k : AV → Prop} : aPick (.bool false) a b k = k b := by simp [aPick]
theorem aPick_and {t u : Bool} {k : AV → Prop} : aPick (.bool t) (.bool u) (.bool false) k = k (.bool (t && u)) := by cases t <;> simp [aPick]
theorem aPick_or {t u : Bool} {k : AV → Prop} : aPick (.bool t) (.bool true) (.bool u) k = k (.bool (t || u)) := by cases t <;> simp [aPick]
theorem aPick_split {t : Bool} {a b : AV} {k : AV → Prop} (h1 : t = true → k a) (h2 : t = false → k b) : aPick (.bool t) a b k := ⟨h1, h2⟩

theorem op_move (x : Operand) : aop P T ⟨dst, .move x, ty, pos, af, g⟩ ⟨R, H⟩ k = go dst H k (evR R x) := by simp only [aop, aval, ev_mk, go]
theorem op_assign (x : Operand) : aop P T ⟨dst, .assign x, ty, pos, af, g⟩ ⟨R, H⟩ k = go dst H k (evR R x) := by simp only [aop, aval, ev_mk, go]
theorem op_bin (op : BinOp) (t : TypeId) (x y : Operand) (u : TypeId) : aop P T ⟨dst, .binOp op t x y u, ty, pos, af, g⟩ ⟨R, H⟩ k = aBin T op t (evR R x) (evR R y) (go dst H k) := by
  show aBin T op t ((ASt.mk R H).view.ev x) ((ASt.mk R H).view.ev y) (go dst H k) = _
  rw [ev_mk]
theorem op_un (op : UnOp) (t : TypeId) (x : Operand) : aop P T ⟨dst, .unOp op t x, ty, pos, af, g⟩ ⟨R, H⟩ k = aUn op (evR R x) (go dst H k) := by
  show aUn op ((ASt.mk R H).view.ev x) (go dst H k) = _
  rw [ev_mk]
theorem op_conv (s d : TypeId) (x : Operand) : aop P T ⟨dst, .convert s d x, ty, pos, af, g⟩ ⟨R, H⟩ k = aConv T s d (evR R x) (go dst H k) := by
  show aConv T s d ((ASt.mk R H).view.ev x) (go dst H k) = _
  rw [ev_mk]
theorem op_pick (c a b : Operand) : aop P T ⟨dst, .pick c a b, ty, pos, af, g⟩ ⟨R, H⟩ k = aPick (evR R c) (evR R a) (evR R b) (go dst H k) := by
  simp only [aop, aval, ev_mk, aPick]; rfl
theorem op_build (t : TypeId) (ps : Array (Nat × Operand)) : aop P T ⟨dst, .build t ps, ty, pos, af, g⟩ ⟨R, H⟩ k = aBuild T t (ps.toList.map fun p => (p.1, evR R p.2)) (go dst H k) := by
  simp only [aop, aval, ev_mk, go]; rfl
def aNil (x : AV) (k : AV → Prop) : Prop := match x with
  | .cp cs => k (.cp cs)
  | .ptr b o => k (.ptr b o)
  | .fn f cs => k (.fn f cs)
  | _ => False
theorem op_nil (x : Operand) : aop P T ⟨dst, .nilCheck x, ty, pos, af, g⟩ ⟨R, H⟩ k = aNil (evR R x) (go dst H k) := by
  simp only [aop, aval, ev_mk, aNil]; rfl
theorem op_fn (f : Nat) (fi : Array Operand) (cs : Array Operand) : aop P T ⟨dst, .makeFunc (.func f) fi cs, ty, pos, af, g⟩ ⟨R, H⟩ k = (fi = #[] ∧ go dst H k (.fn f (cs.toList.map (evR R)))) := by
  simp only [aop, aval, ev_mk, go]
theorem op_faddr (t : TypeId) (x : Operand) (f : Nat) : aop P T ⟨dst, .fieldAddr t x f, ty, pos, af, g⟩ ⟨R, H⟩ k = aFieldAddr T t (evR R x) f (go dst H k) := by
  show aFieldAddr T t ((ASt.mk R H).view.ev x) f (go dst H k) = _
  rw [ev_mk]
theorem op_field (t : TypeId) (x : Operand) (f : Nat) : aop P T ⟨dst, .field t x f, ty, pos, af, g⟩ ⟨R, H⟩ k = aField T t (evR R x) f (go dst H k) := by
  show aField T t ((ASt.mk R H).view.ev x) f (go dst H k) = _
  rw [ev_mk]
theorem op_iaddr (t : TypeId) (x i : Operand) : aop P T ⟨dst, .indexAddr t x i, ty, pos, af, g⟩ ⟨R, H⟩ k = aIndexAddr T t (evR R x) (evR R i) (go dst H k) := by
  show aIndexAddr T t ((ASt.mk R H).view.ev x) ((ASt.mk R H).view.ev i) (go dst H k) = _
  rw [ev_mk]
theorem op_index (t : TypeId) (x i : Operand) : aop P T ⟨dst, .index t x i, ty, pos, af, g⟩ ⟨R, H⟩ k = aIndex T t (evR R x) (evR R i) (go dst H k) := by
  show aIndex T t ((ASt.mk R H).view.ev x) ((ASt.mk R H).view.ev i) (go dst H k) = _
  rw [ev_mk]
theorem op_slice (t : TypeId) (x : Operand) (lo hi mx : Option Operand) : aop P T ⟨dst, .slice t x lo hi mx, ty, pos, af, g⟩ ⟨R, H⟩ k = aSlice T t (evR R x) (lo.map (evR R)) (hi.map (evR R)) (mx.map (evR R)) (go dst H k) := by
  show aSlice T t ((ASt.mk R H).view.ev x) (lo.map (ASt.mk R H).view.ev) (hi.map (ASt.mk R H).view.ev) (mx.map (ASt.mk R H).view.ev) (go dst H k) = _
  rw [ev_mk]
def aExt (x : AV) (i : Nat) (k : AV → Prop) : Prop := match x with
  | .tup vs => ∃ c, vs[i]? = some c ∧ k c
  | _ => False
theorem op_ext (x : Operand) (i : Nat) : aop P T ⟨dst, .extract x i, ty, pos, af, g⟩ ⟨R, H⟩ k = aExt (evR R x) i (go dst H k) := by
  simp only [aop, aval, ev_mk, aExt]; rfl
theorem op_len (x : Operand) (t : TypeId) : aop P T ⟨dst, .call { callee := .builtin .len, args := #[x], argTypes := #[t] }, ty, pos, af, g⟩ ⟨R, H⟩ k = aLen T t (evR R x) (go dst H k) := by
  show aLen T t ((ASt.mk R H).view.ev x) (go dst H k) = _
  rw [ev_mk]
def aMM (m : Bool) (x y : AV) (k : AV → Prop) : Prop := match x, y with
  | .int ka a, .int _ b => k (.int ka (if m then (if b < a then b else a) else (if b > a then b else a)))
  | _, _ => False
theorem op_min (x y : Operand) (t u : TypeId) : aop P T ⟨dst, .call { callee := .builtin .min, args := #[x, y], argTypes := #[t, u] }, ty, pos, af, g⟩ ⟨R, H⟩ k = aMM true (evR R x) (evR R y) (go dst H k) := by
  show (∃ c, aMins true ((ASt.mk R H).view.ev x) [(ASt.mk R H).view.ev y] = some c ∧ go dst H k c) = _
  rw [ev_mk]
  generalize evR R x = a
  generalize evR R y = b
  cases a <;> cases b <;> simp [aMins, aMin2, aMM]
theorem op_max (x y : Operand) (t u : TypeId) : aop P T ⟨dst, .call { callee := .builtin .max, args := #[x, y], argTypes := #[t, u] }, ty, pos, af, g⟩ ⟨R, H⟩ k = aMM false (evR R x) (evR R y) (go dst H k) := by
  show (∃ c, aMins false ((ASt.mk R H).view.ev x) [(ASt.mk R H).view.ev y] = some c ∧ go dst H k c) = _
  rw [ev_mk]
  generalize evR R x = a
  generalize evR R y = b
  cases a <;> cases b <;> simp [aMins, aMin2, aMM]

/-- Load, by the blocks. -/
def lLoad (T : TT) (dst : Option Nat) (t : Nat) (H : List (List AV)) (x : AV) (k : Eff → List (Nat × Nat) → Prop) : Prop := aLoad T dst t (ASt.mk [] H).view x H.length k
def lStore (T : TT) (dst : Option Nat) (t : Nat) (H : List (List AV)) (x v : AV) (k : Eff → List (Nat × Nat) → Prop) : Prop := aStore T dst t (ASt.mk [] H).view x v H.length k
def lLookup (T : TT) (dst : Option Nat) (t : Nat) (H : List (List AV)) (m key : AV) (k : Eff → List (Nat × Nat) → Prop) : Prop := aLookup T dst t (ASt.mk [] H).view m key H.length k
def lUpdate (T : TT) (dst : Option Nat) (t : Nat) (H : List (List AV)) (m key v : AV) (k : Eff → List (Nat × Nat) → Prop) : Prop := aMapUpdate T dst t (ASt.mk [] H).view m key v H.length k
def lAppend (T : TT) (dst : Option Nat) (t t' : Nat) (H : List (List AV)) (x y : AV) (k : Eff → List (Nat × Nat) → Prop) : Prop := aAppend T dst t t' (ASt.mk [] H).view x y H.length k
theorem op_load (t : TypeId) (a : Operand) : aop P T ⟨dst, .load t a, ty, pos, af, g⟩ ⟨R, H⟩ k = lLoad T dst t H (evR R a) k := by
  show aLoad T dst t (ASt.mk R H).view ((ASt.mk R H).view.ev a) H.length k = _
  rw [ev_mk]; rfl
theorem op_store (t : TypeId) (a v : Operand) : aop P T ⟨dst, .store t a v, ty, pos, af, g⟩ ⟨R, H⟩ k = lStore T dst t H (evR R a) (evR R v) k := by
  show aStore T dst t (ASt.mk R H).view ((ASt.mk R H).view.ev a) ((ASt.mk R H).view.ev v) H.length k = _
  rw [ev_mk]; rfl
theorem op_lookup (t : TypeId) (m key : Operand) : aop P T ⟨dst, .lookup t m key false, ty, pos, af, g⟩ ⟨R, H⟩ k = lLookup T dst t H (evR R m) (evR R key) k := by
  show aLookup T dst t (ASt.mk R H).view ((ASt.mk R H).view.ev m) ((ASt.mk R H).view.ev key) H.length k = _
  rw [ev_mk]; rfl
theorem op_update (t : TypeId) (m key v : Operand) : aop P T ⟨dst, .mapUpdate t m key v, ty, pos, af, g⟩ ⟨R, H⟩ k = lUpdate T dst t H (evR R m) (evR R key) (evR R v) k := by
  show aMapUpdate T dst t (ASt.mk R H).view ((ASt.mk R H).view.ev m) ((ASt.mk R H).view.ev key) ((ASt.mk R H).view.ev v) H.length k = _
  rw [ev_mk]; rfl
theorem op_append (x y : Operand) (t u : TypeId) : aop P T ⟨dst, .call { callee := .builtin .append, args := #[x, y], argTypes := #[t, u] }, ty, pos, af, g⟩ ⟨R, H⟩ k = lAppend T dst t u H (evR R x) (evR R y) k := by
  show aAppend T dst t u (ASt.mk R H).view ((ASt.mk R H).view.ev x) ((ASt.mk R H).view.ev y) H.length k = _
  rw [ev_mk]; rfl
theorem op_alloc (t : TypeId) : aop P T ⟨dst, .alloc t, ty, pos, af, g⟩ ⟨R, H⟩ k = ((T t).kd.isOther = false ∧ k ⟨dst, .ptr H.length 0, [], H.length, [(T t).zero]⟩ []) := Eq.trans rfl rfl
def aBox (dst : Option Nat) (H : List (List AV)) (x : AV) (k : Eff → List (Nat × Nat) → Prop) : Prop := x.known = true ∧ allB AV.cellable x.cells = true ∧ k ⟨dst, .ptr H.length 0, [], H.length, [x.cells]⟩ []
theorem op_box (t : TypeId) (x : Operand) : aop P T ⟨dst, .box t x, ty, pos, af, g⟩ ⟨R, H⟩ k = aBox dst H (evR R x) k := by
  show ((((ASt.mk R H).view.ev x).known = true) ∧ _ ∧ _) = _
  rw [ev_mk]; rfl
theorem op_bslice (t : TypeId) (len : Nat) (ps : Array (Nat × Operand)) : aop P T ⟨dst, .buildSlice t len ps, ty, pos, af, g⟩ ⟨R, H⟩ k = aBuildSlice T dst t len (ps.toList.map fun p => (p.1, evR R p.2)) H.length k := by
  show aBuildSlice T dst t len (ps.toList.map fun p => (p.1, (ASt.mk R H).view.ev p.2)) H.length k = _
  rw [ev_mk]
theorem op_map (t : TypeId) : aop P T ⟨dst, .makeMap t none, ty, pos, af, g⟩ ⟨R, H⟩ k = k ⟨dst, .mp H.length, [], H.length, [[.mps fun _ => none]]⟩ [] := Eq.trans rfl rfl

/-- A call of a function value. -/
def aCallV (P : Program) (s : ASt) (dst : Option Nat) (f : AV) (acts : List AV) (k : Eff → List (Nat × Nat) → Prop) : Prop := match f with
  | .fn f caps => CallC P s dst f (acts ++ caps) k
  | _ => False
theorem op_call (fo : Operand) (as : Array Operand) (ts : Array TypeId) : aop P T ⟨dst, .call { callee := .value fo, args := as, argTypes := ts }, ty, pos, af, g⟩ ⟨R, H⟩ k = aCallV P ⟨R, H⟩ dst (evR R fo) (as.toList.map (evR R)) k := by
  simp only [aop, ev_mk, aCallV]
  try rfl
theorem callV_fn (s : ASt) (f : Nat) (caps acts : List AV) : aCallV P s dst (.fn f caps) acts k = CallC P s dst f (acts ++ caps) k := Eq.trans rfl rfl
end

/-! ### Code -/

theorem w_skip (nx : Nat) (R : List AV) (H : List (List AV)) (K : AEx → ASt → Prop) : awp P T nx .skip ⟨R, H⟩ K = K .nrm ⟨R, H⟩ := Eq.trans rfl rfl
theorem w_region (nx id : Nat) (l : List Oper) (dr : Bool) (R : List AV) (H : List (List AV)) (K : AEx → ASt → Prop) : awp P T nx (.region id ⟨l⟩ dr) ⟨R, H⟩ K = aops P T ⟨l⟩ dr l ⟨R, H⟩ [] (regK ⟨l⟩ dr (K .nrm)) := Eq.trans rfl rfl
theorem w_seq (nx : Nat) (a b : Code) (R : List AV) (H : List (List AV)) (K : AEx → ASt → Prop) : awp P T nx (a.seq b) ⟨R, H⟩ K = awp P T nx a ⟨R, H⟩ (seqK (fun s' => awp P T nx b s' K) K) := Eq.trans rfl rfl
def cnd (P : Program) (T : TT) (nx : Nat) (a b : Code) (s : ASt) (K : AEx → ASt → Prop) (v : AV) : Prop := match v with
  | .bool t => (t = true → awp P T nx a s K) ∧ (t = false → awp P T nx b s K)
  | _ => False
theorem cnd_congr {nx : Nat} {a b : Code} {s : ASt} {K : AEx → ASt → Prop} {v v' : AV} (h : v = v') : cnd P T nx a b s K v = cnd P T nx a b s K v' := by rw [h]
theorem cnd_t {nx : Nat} {a b : Code} {s : ASt} {K : AEx → ASt → Prop} : cnd P T nx a b s K (.bool true) = awp P T nx a s K := by simp [cnd]
theorem cnd_f {nx : Nat} {a b : Code} {s : ASt} {K : AEx → ASt → Prop} : cnd P T nx a b s K (.bool false) = awp P T nx b s K := by simp [cnd]
theorem cnd_split {nx : Nat} {a b : Code} {s : ASt} {K : AEx → ASt → Prop} {t : Bool} (h1 : t = true → awp P T nx a s K) (h2 : t = false → awp P T nx b s K) : cnd P T nx a b s K (.bool t) := ⟨h1, h2⟩
theorem w_cond (nx : Nat) (c : Operand) (a b : Code) (R : List AV) (H : List (List AV)) (K : AEx → ASt → Prop) : awp P T nx (.cond c a b) ⟨R, H⟩ K = cnd P T nx a b ⟨R, H⟩ K (evR R c) := by
  simp only [awp, ev_mk]; rfl
theorem w_block (nx id : Nat) (c : Code) (R : List AV) (H : List (List AV)) (K : AEx → ASt → Prop) : awp P T nx (.block id c) ⟨R, H⟩ K = awp P T nx c ⟨R, H⟩ (blkK id K) := Eq.trans rfl rfl
theorem w_exit (nx id : Nat) (R : List AV) (H : List (List AV)) (K : AEx → ASt → Prop) : awp P T nx (.exit id) ⟨R, H⟩ K = K (.ext id) ⟨R, H⟩ := Eq.trans rfl rfl
theorem w_ret (nx : Nat) (R : List AV) (H : List (List AV)) (K : AEx → ASt → Prop) : awp P T nx .ret ⟨R, H⟩ K = K .ret ⟨R, H⟩ := Eq.trans rfl rfl
theorem seqK_n (f : ASt → Prop) (K : AEx → ASt → Prop) (s : ASt) : seqK f K .nrm s = f s := Eq.trans rfl rfl
theorem seqK_r (f : ASt → Prop) (K : AEx → ASt → Prop) (s : ASt) : seqK f K .ret s = K .ret s := Eq.trans rfl rfl
theorem seqK_e (f : ASt → Prop) (K : AEx → ASt → Prop) (id : Nat) (s : ASt) : seqK f K (.ext id) s = K (.ext id) s := Eq.trans rfl rfl
theorem blkK_n (id : Nat) (K : AEx → ASt → Prop) (s : ASt) : blkK id K .nrm s = K .nrm s := Eq.trans rfl rfl
theorem blkK_r (id : Nat) (K : AEx → ASt → Prop) (s : ASt) : blkK id K .ret s = K .ret s := Eq.trans rfl rfl
theorem blkK_e (id id' : Nat) (K : AEx → ASt → Prop) (s : ASt) : blkK id K (.ext id') s = if id' = id then K .nrm s else K (.ext id') s := Eq.trans rfl rfl
theorem loopK_n (nx : Nat) (I : Nat → ASt → Prop) (n : Nat) (K : AEx → ASt → Prop) (s : ASt) : loopK nx I n K .nrm s = ∃ s' m, Ent nx s s' ∧ m < n ∧ I m s' := Eq.trans rfl rfl
theorem loopK_r (nx : Nat) (I : Nat → ASt → Prop) (n : Nat) (K : AEx → ASt → Prop) (s : ASt) : loopK nx I n K .ret s = K .ret s := Eq.trans rfl rfl
theorem loopK_e (nx : Nat) (I : Nat → ASt → Prop) (n : Nat) (K : AEx → ASt → Prop) (id : Nat) (s : ASt) : loopK nx I n K (.ext id) s = K (.ext id) s := Eq.trans rfl rfl
theorem regK_f (all : Array Oper) (K : ASt → Prop) (s : ASt) (fs : List Ft) : regK all false K s fs = K s := by simp [regK]
/-- The order that a drawn region may take. -/
def Ord (all : Array Oper) (fs : List Ft) : Prop := orderB all (masks all) fs = true
theorem regK_t (all : Array Oper) (K : ASt → Prop) (s : ASt) (fs : List Ft) : regK all true K s fs = (Ord all fs ∧ K s) := by simp [regK, Ord]

theorem awp_congr {nx : Nat} {c : Code} {s s' : ASt} {K : AEx → ASt → Prop} (h : s = s') : awp P T nx c s K = awp P T nx c s' K := by rw [h]
theorem aops_congr {all : Array Oper} {dr : Bool} {l : List Oper} {s s' : ASt} {fs fs' : List Ft} {K : ASt → List Ft → Prop} (h : s = s') (h2 : fs = fs') : aops P T all dr l s fs K = aops P T all dr l s' fs' K := by rw [h, h2]
theorem aop_congr {o : Oper} {s s' : ASt} {k : Eff → List (Nat × Nat) → Prop} (h : s = s') : aop P T o s k = aop P T o s' k := by rw [h]
theorem Ord_congr {all : Array Oper} {fs fs' : List Ft} (h : fs = fs') : Ord all fs = Ord all fs' := by rw [h]
theorem go_congr {dst : Option Tmp} {H : List (List AV)} {k : Eff → List (Nat × Nat) → Prop} {c c' : AV} (h : c = c') : go dst H k c = go dst H k c' := by rw [h]
theorem aBin_congr {op : BinOp} {t : Nat} {x x' y y' : AV} {k : AV → Prop} (h : x = x') (h2 : y = y') : aBin T op t x y k = aBin T op t x' y' k := by rw [h, h2]
theorem aUn_congr {op : UnOp} {x x' : AV} {k : AV → Prop} (h : x = x') : aUn op x k = aUn op x' k := by rw [h]
theorem aConv_congr {s d : Nat} {x x' : AV} {k : AV → Prop} (h : x = x') : aConv T s d x k = aConv T s d x' k := by rw [h]
theorem aNil_congr {x x' : AV} {k : AV → Prop} (h : x = x') : aNil x k = aNil x' k := by rw [h]
theorem aExt_congr {x x' : AV} {i : Nat} {k : AV → Prop} (h : x = x') : aExt x i k = aExt x' i k := by rw [h]
theorem aLen_congr {t : Nat} {x x' : AV} {k : AV → Prop} (h : x = x') : aLen T t x k = aLen T t x' k := by rw [h]
theorem aField_congr {t f : Nat} {x x' : AV} {k : AV → Prop} (h : x = x') : aField T t x f k = aField T t x' f k := by rw [h]
theorem aFieldAddr_congr {t f : Nat} {x x' : AV} {k : AV → Prop} (h : x = x') : aFieldAddr T t x f k = aFieldAddr T t x' f k := by rw [h]
theorem aIndex_congr {t : Nat} {x x' i i' : AV} {k : AV → Prop} (h : x = x') (h2 : i = i') : aIndex T t x i k = aIndex T t x' i' k := by rw [h, h2]
theorem aIndexAddr_congr {t : Nat} {x x' i i' : AV} {k : AV → Prop} (h : x = x') (h2 : i = i') : aIndexAddr T t x i k = aIndexAddr T t x' i' k := by rw [h, h2]
theorem aMM_congr {m : Bool} {x x' i i' : AV} {k : AV → Prop} (h : x = x') (h2 : i = i') : aMM m x i k = aMM m x' i' k := by rw [h, h2]
theorem aSlice_congr {t : Nat} {x x' : AV} {a a' b b' c c' : Option AV} {k : AV → Prop} (h : x = x') (h1 : a = a') (h2 : b = b') (h3 : c = c') : aSlice T t x a b c k = aSlice T t x' a' b' c' k := by rw [h, h1, h2, h3]
theorem aBuild_congr {t : Nat} {p p' : List (Nat × AV)} {k : AV → Prop} (h : p = p') : aBuild T t p k = aBuild T t p' k := by rw [h]
theorem aPart_congr {t o : Nat} {p p' : List AV} {k : AV → Prop} (h : p = p') : aPart T t o p k = aPart T t o p' k := by rw [h]
theorem aBuildSlice_congr {dst : Option Nat} {t len b b' : Nat} {p p' : List (Nat × AV)} {k : Eff → List (Nat × Nat) → Prop} (h : p = p') (h2 : b = b') : aBuildSlice T dst t len p b k = aBuildSlice T dst t len p' b' k := by rw [h, h2]
theorem lLoad_congr {dst : Option Nat} {t : Nat} {H H' : List (List AV)} {x x' : AV} {k : Eff → List (Nat × Nat) → Prop} (h : H = H') (h2 : x = x') : lLoad T dst t H x k = lLoad T dst t H' x' k := by rw [h, h2]
theorem lStore_congr {dst : Option Nat} {t : Nat} {H H' : List (List AV)} {x x' y y' : AV} {k : Eff → List (Nat × Nat) → Prop} (h : H = H') (h2 : x = x') (h3 : y = y') : lStore T dst t H x y k = lStore T dst t H' x' y' k := by rw [h, h2, h3]
theorem lLookup_congr {dst : Option Nat} {t : Nat} {H H' : List (List AV)} {x x' y y' : AV} {k : Eff → List (Nat × Nat) → Prop} (h : H = H') (h2 : x = x') (h3 : y = y') : lLookup T dst t H x y k = lLookup T dst t H' x' y' k := by rw [h, h2, h3]
theorem lUpdate_congr {dst : Option Nat} {t : Nat} {H H' : List (List AV)} {x x' y y' z z' : AV} {k : Eff → List (Nat × Nat) → Prop} (h : H = H') (h2 : x = x') (h3 : y = y') (h4 : z = z') : lUpdate T dst t H x y z k = lUpdate T dst t H' x' y' z' k := by rw [h, h2, h3, h4]
theorem lAppend_congr {dst : Option Nat} {t t' : Nat} {H H' : List (List AV)} {x x' y y' : AV} {k : Eff → List (Nat × Nat) → Prop} (h : H = H') (h2 : x = x') (h3 : y = y') : lAppend T dst t t' H x y k = lAppend T dst t t' H' x' y' k := by rw [h, h2, h3]
theorem aBox_congr {dst : Option Nat} {H H' : List (List AV)} {x x' : AV} {k : Eff → List (Nat × Nat) → Prop} (h : H = H') (h2 : x = x') : aBox dst H x k = aBox dst H' x' k := by rw [h, h2]
theorem aCallV_congr {s s' : ASt} {dst : Option Nat} {f f' : AV} {acts acts' : List AV} {k : Eff → List (Nat × Nat) → Prop} (h : s = s') (h2 : f = f') (h3 : acts = acts') : aCallV P s dst f acts k = aCallV P s' dst f' acts' k := by rw [h, h2, h3]
theorem CallC_congr {s s' : ASt} {dst : Option Nat} {f : Nat} {acts acts' : List AV} {k : Eff → List (Nat × Nat) → Prop} (h : s = s') (h3 : acts = acts') : CallC P s dst f acts k = CallC P s' dst f acts' k := by rw [h, h3]

end Go.Ab
end

section
namespace Go.Ab
open Go Go.RowKit
set_option linter.unusedVariables false
set_option linter.unusedSimpArgs false

attribute [congr] grd_congr aPick_congr awp_congr aops_congr aop_congr Ord_congr go_congr aBin_congr aUn_congr aConv_congr aNil_congr aExt_congr aLen_congr aField_congr aFieldAddr_congr aIndex_congr aIndexAddr_congr aMM_congr aSlice_congr aBuild_congr aPart_congr aBuildSlice_congr lLoad_congr lStore_congr lLookup_congr lUpdate_congr lAppend_congr aBox_congr aCallV_congr CallC_congr cnd_congr

variable {P : Program} {T : TT}

theorem wrap64 {x : Int} (h1 : -9223372036854775808 ≤ x) (h2 : x ≤ 9223372036854775807) : IntKind.i64.wrap x = x := by simp only [IntKind.wrap, IntKind.bits, IntKind.signed]; simp; omega

section
variable {k : AV → Prop} {ka : IntKind} {a b : Int} {t : Nat}
theorem b_add : aBin T .add t (.int ka a) (.int ka b) k = k (.int ka (ka.wrap (a + b))) := by simp [aBin, aInt]
theorem b_sub : aBin T .sub t (.int ka a) (.int ka b) k = k (.int ka (ka.wrap (a - b))) := by simp [aBin, aInt]
theorem b_mul : aBin T .mul t (.int ka a) (.int ka b) k = k (.int ka (ka.wrap (a * b))) := by simp [aBin, aInt]
theorem b_quo : aBin T .quo t (.int ka a) (.int ka b) k = (b ≠ 0 ∧ k (.int ka (ka.wrap (a.tdiv b)))) := by simp [aBin, aInt]
theorem b_rem : aBin T .rem t (.int ka a) (.int ka b) k = (b ≠ 0 ∧ k (.int ka (a.tmod b))) := by simp [aBin, aInt]
theorem b_eql : aBin T .eql t (.int ka a) (.int ka b) k = k (.bool (decide (a = b))) := by simp [aBin, aInt]; rfl
theorem b_neq : aBin T .neq t (.int ka a) (.int ka b) k = k (.bool (!decide (a = b))) := by simp [aBin, aInt]; rfl
theorem b_lss : aBin T .lss t (.int ka a) (.int ka b) k = k (.bool (decide (a < b))) := by simp [aBin, aInt]
theorem b_leq : aBin T .leq t (.int ka a) (.int ka b) k = k (.bool (decide (a ≤ b))) := by simp [aBin, aInt]
theorem b_gtr : aBin T .gtr t (.int ka a) (.int ka b) k = k (.bool (decide (b < a))) := by simp [aBin, aInt]
theorem b_geq : aBin T .geq t (.int ka a) (.int ka b) k = k (.bool (decide (b ≤ a))) := by simp [aBin, aInt]
theorem beq_dec (x y : List UInt8) : (x == y) = decide (x = y) := by rw [Bool.eq_iff_iff]; simp
theorem bs_eql {x y : List UInt8} : aBin T .eql t (.str x) (.str y) k = k (.bool (decide (x = y))) := by simp only [aBin, beq_dec]
theorem bs_neq {x y : List UInt8} : aBin T .neq t (.str x) (.str y) k = k (.bool (!decide (x = y))) := by simp only [aBin, bne, beq_dec]
theorem bb_eql {x y : Bool} (h : (T t).kd = .bool) : aBin T .eql t (.bool x) (.bool y) k = k (.bool (decide (x = y))) := by simp [aBin, h]; rfl
theorem bb_neq {x y : Bool} (h : (T t).kd = .bool) : aBin T .neq t (.bool x) (.bool y) k = k (.bool (!decide (x = y))) := by simp [aBin, h]; rfl
theorem u_neg : aUn .neg (.int ka a) k = k (.int ka (ka.wrap (0 - a))) := Eq.trans rfl rfl
theorem u_not {x : Bool} : aUn .not (.bool x) k = k (.bool (!x)) := Eq.trans rfl rfl
end

/-! ### Lists -/

class Enc (α : Type) where
  enc : α → List AV

def rowsOf {α : Type} [Enc α] (xs : List α) : List (List AV) := xs.map Enc.enc
theorem rowsOf_length {α : Type} [Enc α] (xs : List α) : (rowsOf xs).length = xs.length := by simp [rowsOf]
theorem rowsOf_get {α : Type} [Enc α] (xs : List α) (n : Nat) : (rowsOf xs)[n]? = (xs[n]?).map Enc.enc := by simp [rowsOf]
theorem rowsOf_append {α : Type} [Enc α] (xs ys : List α) : rowsOf xs ++ rowsOf ys = rowsOf (xs ++ ys) := by simp [rowsOf]

/-- The element at a place. -/
def gi {α : Type} [Inhabited α] (xs : List α) (i : Int) : α := xs.getD i.toNat default

theorem rows_gi {α : Type} [Inhabited α] [Enc α] {xs : List α} {i : Int} (h : 0 ≤ i) (h2 : i < xs.length) : (rowsOf xs)[i.toNat]? = some (Enc.enc (gi xs i)) := by
  have : i.toNat < xs.length := by omega
  simp [rowsOf, gi, List.getD, List.getElem?_eq_getElem this]

instance : Enc Int := ⟨fun x => [.int .i64 x]⟩
theorem enc_int (x : Int) : Enc.enc x = [AV.int .i64 x] := Eq.trans rfl rfl

theorem iaddr_sl {α : Type} [Inhabited α] [Enc α] {t e : Nat} {kk : IntKind} {xs : List α} {i : Int} {s : Nat} {k : AV → Prop} (h : (T t).kd = .slice e) (h2 : (T e).kd.isOther = false) (h3 : s = (T e).size) (h4 : 0 ≤ i) (h5 : i < xs.length) :
    aIndexAddr T t (.sl s (rowsOf xs)) (.int kk i) k = k (.cp (Enc.enc (gi xs i))) := by
  simp [aIndexAddr, h, h2, h3, h4, rows_gi h4 h5]
theorem iaddr_ow {α : Type} [Inhabited α] [Enc α] {t e b e' : Nat} {kk : IntKind} {xs : List α} {i : Int} {s : Nat} {k : AV → Prop} (h : (T t).kd = .slice e) (h2 : (T e).kd.isOther = false) (h3 : s = (T e).size) (h4 : 0 ≤ i) (h5 : i < xs.length) :
    aIndexAddr T t (.ow b e' s (rowsOf xs)) (.int kk i) k = k (.cp (Enc.enc (gi xs i))) := by
  simp [aIndexAddr, h, h2, h3, h4, rows_gi h4 h5]
theorem len_sl {α : Type} [Enc α] {t e s : Nat} {xs : List α} {k : AV → Prop} (h : (T t).kd = .slice e) : aLen T t (.sl s (rowsOf xs)) k = k (.int .i64 xs.length) := by simp [aLen, h, rowsOf_length]
theorem len_ow {α : Type} [Enc α] {t e s b e' : Nat} {xs : List α} {k : AV → Prop} (h : (T t).kd = .slice e) : aLen T t (.ow b e' s (rowsOf xs)) k = k (.int .i64 xs.length) := by simp [aLen, h, rowsOf_length]
theorem len_emp {t e : Nat} {k : AV → Prop} (h : (T t).kd = .slice e) : aLen T t .emp k = k (.int .i64 0) := by simp [aLen, h]
theorem len_str {t : Nat} {l : List UInt8} {k : AV → Prop} (h : (T t).kd = .str) : aLen T t (.str l) k = k (.int .i64 l.length) := by simp [aLen, h]

/-! ### Loads -/

theorem load_cp1 {dst : Option Nat} {t : Nat} {H : List (List AV)} {c : AV} {cs : List AV} {k : Eff → List (Nat × Nat) → Prop} (h : (T t).kd.isOther = false) (h2 : (T t).kd.isAgg = false) : lLoad T dst t H (.cp (c :: cs)) k = k ⟨dst, c, [], H.length, []⟩ [] := by
  simp [lLoad, aLoad, h, h2]
theorem load_cpa {dst : Option Nat} {t : Nat} {H : List (List AV)} {cs : List AV} {k : Eff → List (Nat × Nat) → Prop} (h : (T t).kd.isOther = false) (h2 : (T t).kd.isAgg = true) (h3 : (T t).size ≤ cs.length) : lLoad T dst t H (.cp cs) k = k ⟨dst, .agg (cs.take (T t).size), [], H.length, []⟩ [] := by
  simp [lLoad, aLoad, h, h2, h3]
def rdH (l : List AV) : Nat → Nat → List AV
  | _, 0 => []
  | o, n + 1 => nth l o :: rdH l (o + 1) n
theorem rdc_rdH (l : List AV) : ∀ (n o : Nat), rdc (nth l) o n = rdH l o n
  | 0, _ => rfl
  | n + 1, o => by rw [rdc, rdH, rdc_rdH l n]
theorem load_p1 {dst : Option Nat} {t b o : Nat} {H : List (List AV)} {k : Eff → List (Nat × Nat) → Prop} (h : (T t).kd.isOther = false) (h2 : (T t).kd.isAgg = false) :
    lLoad T dst t H (.ptr b o) k = ((nth (nthB H b) o).plain = true ∧ k ⟨dst, nth (nthB H b) o, [], H.length, []⟩ [(b, o)]) := by
  simp [lLoad, aLoad, h, h2, ASt.view]
theorem load_pa {dst : Option Nat} {t b o : Nat} {H : List (List AV)} {k : Eff → List (Nat × Nat) → Prop} (h : (T t).kd.isOther = false) (h2 : (T t).kd.isAgg = true) :
    lLoad T dst t H (.ptr b o) k = (allB AV.plain (rdH (nthB H b) o (T t).size) = true ∧ k ⟨dst, .agg (rdH (nthB H b) o (T t).size), [], H.length, []⟩ (ks b o (T t).size)) := by
  simp [lLoad, aLoad, h, h2, ASt.view, rdc_rdH]
theorem store_p {dst : Option Nat} {t b o : Nat} {v : AV} {H : List (List AV)} {k : Eff → List (Nat × Nat) → Prop} (h : (T t).kd.isOther = false) :
    lStore T dst t H (.ptr b o) v k = (v.known = true ∧ v.cells.length = (T t).size ∧ allB AV.one v.cells = true ∧ allB AV.plain (rdH (nthB H b) o v.cells.length) = true ∧ k ⟨dst, .und, writes b o v.cells, H.length, []⟩ (ks b o v.cells.length)) := by
  simp [lStore, aStore, h, ASt.view, rdc_rdH]

/-! ### Own slices -/

def FullE (α : Type) [Enc α] (n : Nat) : Prop := ∀ x : α, (Enc.enc x).length = n
theorem full_rowsOf {α : Type} [Enc α] {n : Nat} (h : FullE α n) (xs : List α) : Full n (rowsOf xs) := by
  intro row hr
  simp only [rowsOf, List.mem_map] at hr
  obtain ⟨x, _, rfl⟩ := hr
  exact h x
theorem fullE_int : FullE Int 1 := fun _ => rfl

theorem src_sl {s : Nat} {rows : List (List AV)} : srcOf s (.sl s rows) = some rows := by simp [srcOf]
theorem src_ow {s b e : Nat} {rows : List (List AV)} : srcOf s (.ow b e s rows) = some rows := by simp [srcOf]

theorem append_emp {α : Type} [Enc α] {dst : Option Nat} {t e s : Nat} {H : List (List AV)} {y : AV} {ys : List α} {k : Eff → List (Nat × Nat) → Prop} (h : (T t).kd = .slice e) (h2 : (T e).kd.isOther = false) (hs : (T e).size = s) (h3 : 0 < s) (hy : srcOf s y = some (rowsOf ys))
    (hf : FullE α s) (hl : ys.length ≤ 1099511627776) (hl2 : ys.length * (T e).bytes ≤ 140737488355328) : lAppend T dst t t H .emp y k = k ⟨dst, .ow H.length e s (rowsOf ys), [], H.length, [[.tok ys.length]]⟩ [] := by
  subst hs
  simp only [lAppend, aAppend, h, true_and, eq_iff_iff]
  constructor
  · rintro ⟨_, _, rows, q1, q2, q3, q4, q5⟩
    rw [hy] at q1; injection q1 with q1; subst q1
    simpa [rowsOf_length] using q5
  · intro hk
    exact ⟨h2, h3, _, hy, full_rowsOf hf ys, by rw [rowsOf_length]; exact hl, by rw [rowsOf_length]; exact hl2, by simpa [rowsOf_length] using hk⟩

theorem append_ow {α : Type} [Enc α] {dst : Option Nat} {t e s b : Nat} {H : List (List AV)} {y : AV} {xs ys : List α} {k : Eff → List (Nat × Nat) → Prop} (h : (T t).kd = .slice e) (h2 : (T e).kd.isOther = false) (hs : (T e).size = s) (h3 : 0 < s) (hc : nth (nthB H b) 0 = .tok xs.length) (hy : srcOf s y = some (rowsOf ys))
    (hf : FullE α s) (hl : xs.length + ys.length ≤ 1099511627776) (hl2 : (xs.length + ys.length) * (T e).bytes ≤ 140737488355328) :
    lAppend T dst t t H (.ow b e s (rowsOf xs)) y k = k ⟨dst, .ow b e s (rowsOf (xs ++ ys)), [(b, 0, .tok (xs.length + ys.length))], H.length, []⟩ [(b, 0)] := by
  subst hs
  simp only [lAppend, aAppend, h, true_and, eq_iff_iff]
  constructor
  · rintro ⟨_, _, _, rows, q1, q2, q3, q4, q5, q6⟩
    rw [hy] at q1; injection q1 with q1; subst q1
    simpa [rowsOf_length, rowsOf_append] using q6
  · intro hk
    exact ⟨h2, h3, by simpa [ASt.view, rowsOf_length] using hc, _, hy, full_rowsOf hf xs, full_rowsOf hf ys, by simpa [rowsOf_length] using hl, by simpa [rowsOf_length] using hl2, by simpa [rowsOf_length, rowsOf_append] using hk⟩

/-- A slice literal of one element. -/
theorem bslice1 {dst : Option Nat} {t e : Nat} {x : AV} {H : List (List AV)} {k : Eff → List (Nat × Nat) → Prop} (h : (T t).kd = .slice e) (h2 : (T e).kd.isOther = false) (h3 : 0 < (T e).size) (h4 : (T e).size ≤ 1024) (h5 : x.cells.length = (T e).size) (h6 : x.known = true) (h7 : allB AV.flat x.cells = true) :
    aBuildSlice T dst t 1 [(0, x)] H.length k = k ⟨dst, .ow H.length e (T e).size [x.cells.map AV.low], [], H.length, [[.tok 1]]⟩ [] := by
  simp [aBuildSlice, h, h2, h3, h4, allP, h5, h6, h7]
theorem bslice0 {dst : Option Nat} {t e n : Nat} {k : Eff → List (Nat × Nat) → Prop} (h : (T t).kd = .slice e) (h2 : (T e).kd.isOther = false) (h3 : 0 < (T e).size) : aBuildSlice T dst t 0 [] n k = k ⟨dst, .emp, [], n, []⟩ [] := by
  simp [aBuildSlice, h, h2, h3]
theorem rows1 (x : Int) : [[AV.int .i64 x]] = rowsOf [x] := Eq.trans rfl rfl

/-! ### Calls without blocks -/

theorem ren_flat {m : Nat → Nat} : ∀ c : AV, c.flat = true → (∀ t e s rows, c ≠ .ow t e s rows) → ren m c = c := by
  intro c h h2
  cases c <;> first | rfl | (simp [AV.flat] at h; done) | exact absurd rfl (h2 _ _ _ _)

theorem callC {s : ASt} {dst : Option Nat} {f : Nat} {acts args : List AV} {r : AV} {k : Eff → List (Nat × Nat) → Prop} (hc : Callable P f) (hm : Meets P f [] args r []) (ha : Args id 0 acts args)
    (hk : k ⟨dst, ren (newIds id 0 s.heap.length) r, [], s.heap.length, []⟩ []) : CallC P s dst f acts k := by
  refine ⟨id, 0, [], [], args, r, hc, hm, ha, ⟨rfl, Nat.zero_le _, fun x y h => by omega, fun x h => by omega, fun b hb => by simpa [ASt.view] using hb, fun b j h => by omega, fun b h => by omega, fun b j h => by omega, fun b j h => by omega⟩, fun b j h => by omega, _, .inl rfl, ?_⟩
  simpa [callEff, backs, keysOf] using hk

theorem Args.flat {m : Nat → Nat} {n : Nat} : ∀ {cs ds : List AV}, allB AV.flat cs = true → cs.map AV.low = ds → Args m n cs ds
  | [], _, _, h => by subst h; exact .nil
  | c :: cs, _, h, h2 => by
    subst h2
    simp only [allB, Bool.and_eq_true] at h
    exact .cons (.flat c h.1) (Args.flat h.2 rfl)

theorem wk_flat {g : Nat → Nat} {n : Nat} {c d : AV} (h : c.flat = true) (h2 : c.low = d) : Wk g n c d := by subst h2; exact .flat c h
theorem wk_flats {g : Nat → Nat} {n : Nat} : ∀ {cs ds : List AV}, allB AV.flat cs = true → cs.map AV.low = ds → WkL g n cs ds
  | [], _, _, h => by subst h; trivial
  | c :: cs, _, h, h2 => by
    subst h2
    simp only [allB, Bool.and_eq_true] at h
    exact ⟨.flat c h.1, wk_flats h.2 rfl⟩
theorem wk_agg {g : Nat → Nat} {n : Nat} {cs ds : List AV} (h : WkL g n cs ds) : Wk g n (.agg cs) (.agg ds) := .agg cs ds h.get.1 fun j c d x y => by
  have := h.get.2 j
  rw [nth_eq, nth_eq, x, y] at this; exact this
theorem wk_tup {g : Nat → Nat} {n : Nat} {cs ds : List AV} (h : WkL g n cs ds) : Wk g n (.tup cs) (.tup ds) := .tup cs ds h.get.1 fun j c d x y => by
  have := h.get.2 j
  rw [nth_eq, nth_eq, x, y] at this; exact this

/-- The end of a function that was handed no block and leaves none. -/
def res (T : TT) (R : List AV) (H : List (List AV)) (rs : List ResultVar) (k : List AV → Prop) : Prop := resK T ⟨R, H⟩ rs k
theorem res_nil {R : List AV} {H : List (List AV)} {k : List AV → Prop} : res T R H [] k = k [] := Eq.trans rfl rfl
theorem res_t {R : List AV} {H : List (List AV)} {t : Nat} {rs : List ResultVar} {k : List AV → Prop} : res T R H (.tmp t :: rs) k = res T R H rs fun vs => k (nth R t :: vs) := Eq.trans rfl rfl
theorem res_c1 {R : List AV} {H : List (List AV)} {a t b o : Nat} {rs : List ResultVar} {k : List AV → Prop} (h : (T t).kd.isOther = false) (h2 : (T t).kd.isAgg = false) (hp : nth R a = .ptr b o) :
    res T R H (.cell a t :: rs) k = ((nth (nthB H b) o).plain = true ∧ res T R H rs fun vs => k (nth (nthB H b) o :: vs)) := by
  simp [res, resK, h, h2, hp, ASt.view]
/-- A result that lies in a block. -/
def resP (T : TT) (R : List AV) (H : List (List AV)) (t : Nat) (v : AV) (rs : List ResultVar) (k : List AV → Prop) : Prop := (T t).kd.isOther = false ∧ match v with
  | .ptr b o => if (T t).kd.isAgg then allB AV.plain (rdH (nthB H b) o (T t).size) = true ∧ res T R H rs fun vs => k (.agg (rdH (nthB H b) o (T t).size) :: vs)
      else (nth (nthB H b) o).plain = true ∧ res T R H rs fun vs => k (nth (nthB H b) o :: vs)
  | _ => False
theorem res_c {R : List AV} {H : List (List AV)} {a t : Nat} {rs : List ResultVar} {k : List AV → Prop} : res T R H (.cell a t :: rs) k = resP T R H t (nth R a) rs k := by
  simp only [res, resK, resP, ASt.view]
  cases nth R a <;> simp only [rdc_rdH]
theorem resP_congr {R : List AV} {H : List (List AV)} {t : Nat} {v v' : AV} {rs : List ResultVar} {k : List AV → Prop} (h : v = v') : resP T R H t v rs k = resP T R H t v' rs k := by rw [h]
theorem c_rp_a {R : List AV} {H : List (List AV)} {t b o s : Nat} {rs : List ResultVar} {k : List AV → Prop} (h : (T t).kd.isOther = false) (h2 : (T t).kd.isAgg = true) (h3 : (T t).size = s) :
    resP T R H t (.ptr b o) rs k = (allB AV.plain (rdH (nthB H b) o s) = true ∧ res T R H rs fun vs => k (.agg (rdH (nthB H b) o s) :: vs)) := by
  subst h3; simp [resP, h, h2]
theorem c_rp_1 {R : List AV} {H : List (List AV)} {t b o : Nat} {rs : List ResultVar} {k : List AV → Prop} (h : (T t).kd.isOther = false) (h2 : (T t).kd.isAgg = false) :
    resP T R H t (.ptr b o) rs k = ((nth (nthB H b) o).plain = true ∧ res T R H rs fun vs => k (nth (nthB H b) o :: vs)) := by
  simp [resP, h, h2]

theorem ends_r0 {rs : List ResultVar} {r : AV} {R : List AV} {H : List (List AV)} (h : res T R H rs fun vs => Wk (nthN []) 0 (sing vs) r) : ends T rs 0 r [] .ret ⟨R, H⟩ := by
  have : (fun vs => Wk (nthN []) 0 (sing vs) r) = fun vs => ∃ bs, Keeps 0 bs ∧ Wk (nthN bs) bs.length (sing vs) r ∧ WkHs (nthN bs) bs.length H bs [] := by
    funext vs
    refine propext ⟨fun h => ⟨[], ⟨rfl, rfl⟩, h, trivial⟩, fun ⟨bs, h1, h2, h3⟩ => ?_⟩
    cases bs with
    | nil => exact h2
    | cons b bs => exact h3.elim
  show res T R H rs _
  rw [← this]; exact h
theorem ends_n0 {rs : List ResultVar} {r : AV} {R : List AV} {H : List (List AV)} (h : res T R H rs fun vs => Wk (nthN []) 0 (sing vs) r) : ends T rs 0 r [] .nrm ⟨R, H⟩ := ends_r0 h

attribute [congr] resP_congr

end Go.Ab
end

section
namespace Go.Ab
open Go Go.RowKit
set_option linter.unusedVariables false
set_option linter.unusedSimpArgs false
set_option linter.unusedSectionVars false

variable {P : Program} {T : TT}

/-- The rows of every element have as many cells. -/
class Sized (α : Type) [Enc α] (n : outParam Nat) : Prop where
  full : FullE α n
instance : Sized Int 1 := ⟨fun _ => rfl⟩

section
variable {α : Type} [Inhabited α] [Enc α] {t e s : Nat} {k : AV → Prop} {kk : IntKind} {i : Int} {xs : List α}

theorem rows_gi_iff {Q : List AV → Prop} : (∃ row, 0 ≤ i ∧ (rowsOf xs)[i.toNat]? = some row ∧ Q row) = ((0 ≤ i ∧ i < xs.length) ∧ Q (Enc.enc (gi xs i))) := by
  simp only [eq_iff_iff]
  constructor
  · rintro ⟨row, h1, h2, h3⟩
    have h4 : i.toNat < xs.length := by
      have := (List.getElem?_eq_some_iff.1 h2).1
      rwa [rowsOf_length] at this
    have h5 : i < xs.length := by omega
    rw [rows_gi h1 h5] at h2
    injection h2 with h2; subst h2
    exact ⟨⟨h1, h5⟩, h3⟩
  · rintro ⟨⟨h1, h2⟩, h3⟩
    exact ⟨_, h1, rows_gi h1 h2, h3⟩

theorem c_ia_sl (h : (T t).kd = .slice e) (h2 : (T e).kd.isOther = false) (h3 : (T e).size = s) : aIndexAddr T t (.sl s (rowsOf xs)) (.int kk i) k = ((0 ≤ i ∧ i < xs.length) ∧ k (.cp (Enc.enc (gi xs i)))) := by
  subst h3
  simp only [aIndexAddr, h, h2, true_and, rows_gi_iff (Q := fun row => k (.cp row))]
theorem c_ia_ow {b e' : Nat} (h : (T t).kd = .slice e) (h2 : (T e).kd.isOther = false) (h3 : (T e).size = s) : aIndexAddr T t (.ow b e' s (rowsOf xs)) (.int kk i) k = ((0 ≤ i ∧ i < xs.length) ∧ k (.cp (Enc.enc (gi xs i)))) := by
  subst h3
  simp only [aIndexAddr, h, h2, true_and, rows_gi_iff (Q := fun row => k (.cp row))]
theorem c_ia_ap {n b o : Nat} (h : (T t).kd = .arr n e) (h2 : (T e).kd.isOther = false) (h3 : (T e).size = s) : aIndexAddr T t (.ptr b o) (.int kk i) k = ((0 ≤ i ∧ i < n) ∧ k (.ptr b (o + i.toNat * s))) := by
  subst h3
  simp only [aIndexAddr, h, h2, true_and, and_assoc]
theorem c_ia_ac {n : Nat} {cells : List AV} (h : (T t).kd = .arr n e) (h2 : (T e).kd.isOther = false) (h3 : (T e).size = s) : aIndexAddr T t (.cp cells) (.int kk i) k = ((0 ≤ i ∧ i < n) ∧ k (.cp (cells.drop (i.toNat * s)))) := by
  subst h3
  simp only [aIndexAddr, h, h2, true_and, and_assoc]
theorem c_ix_str {l : List UInt8} (h : (T t).kd = .str) : aIndex T t (.str l) (.int kk i) k = ((0 ≤ i ∧ i < l.length) ∧ k (.int .u8 ((gi l i).toNat : Int))) := by
  simp only [aIndex, h, eq_iff_iff]
  constructor
  · rintro ⟨c, h1, h2, h3⟩
    have h4 : i.toNat < l.length := (List.getElem?_eq_some_iff.1 h2).1
    refine ⟨⟨h1, by omega⟩, ?_⟩
    simp only [gi, List.getD, h2, Option.getD_some]; exact h3
  · rintro ⟨⟨h1, h2⟩, h3⟩
    have h4 : i.toNat < l.length := by omega
    refine ⟨l[i.toNat], h1, List.getElem?_eq_getElem h4, ?_⟩
    simp only [gi, List.getD, List.getElem?_eq_getElem h4, Option.getD_some] at h3; exact h3
theorem c_ix_a1 {n : Nat} {cs : List AV} (h : (T t).kd = .arr n e) (h2 : (T e).kd.isOther = false) (h4 : (T e).kd.isAgg = false) (h3 : (T e).size = s) : aIndex T t (.agg cs) (.int kk i) k = ((0 ≤ i ∧ i < n) ∧ ∃ c, cs[i.toNat * s]? = some c ∧ k c) := by
  subst h3
  simp [aIndex, h, aPart, h2, h4, and_assoc]
theorem c_ix_aa {n : Nat} {cs : List AV} (h : (T t).kd = .arr n e) (h2 : (T e).kd.isOther = false) (h4 : (T e).kd.isAgg = true) (h3 : (T e).size = s) : aIndex T t (.agg cs) (.int kk i) k = ((0 ≤ i ∧ i < n) ∧ k (.agg (cut (i.toNat * s) s cs))) := by
  subst h3
  simp [aIndex, h, aPart, h2, h4, and_assoc]

theorem c_len_sl (h : (T t).kd = .slice e) : aLen T t (.sl s (rowsOf xs)) k = k (.int .i64 xs.length) := by simp [aLen, h, rowsOf_length]
theorem c_len_ow {b e' : Nat} (h : (T t).kd = .slice e) : aLen T t (.ow b e' s (rowsOf xs)) k = k (.int .i64 xs.length) := by simp [aLen, h, rowsOf_length]
theorem c_len_emp (h : (T t).kd = .slice e) : aLen T t .emp k = k (.int .i64 0) := by simp [aLen, h]
theorem c_len_str {l : List UInt8} (h : (T t).kd = .str) : aLen T t (.str l) k = k (.int .i64 l.length) := by simp [aLen, h]
theorem c_len_arr {n : Nat} {x : AV} (h : (T t).kd = .arr n e) : aLen T t x k = k (.int .i64 n) := by
  cases x <;> simp [aLen, h]

/-- Parts of lists. -/
def part (xs : List α) (a b : Int) : List α := (xs.take b.toNat).drop a.toNat
def bndI (x : Option AV) (d : Nat) : Int := (aBnd x d).getD 0
theorem bnd_n (d : Nat) : aBnd none d = some (d : Int) := Eq.trans rfl rfl
theorem bnd_s (d : Nat) (n : Int) : aBnd (some (.int kk n)) d = some n := by cases d <;> rfl
def lohi (lo hi : Option AV) (n : Nat) (k : Int → Int → Prop) : Prop := ∃ a b : Int, aBnd lo 0 = some a ∧ aBnd hi n = some b ∧ 0 ≤ a ∧ a ≤ b ∧ b ≤ n ∧ k a b
theorem lohi_ss {ka kb : IntKind} {a b : Int} {n : Nat} {k : Int → Int → Prop} : lohi (some (.int ka a)) (some (.int kb b)) n k = ((0 ≤ a ∧ a ≤ b ∧ b ≤ n) ∧ k a b) := by
  simp [lohi, bnd_s, and_assoc]
theorem lohi_ns {kb : IntKind} {b : Int} {n : Nat} {k : Int → Int → Prop} : lohi none (some (.int kb b)) n k = ((0 ≤ b ∧ b ≤ n) ∧ k 0 b) := by
  simp [lohi, bnd_s, bnd_n, and_assoc]
theorem lohi_sn {ka : IntKind} {a : Int} {n : Nat} {k : Int → Int → Prop} : lohi (some (.int ka a)) none n k = ((0 ≤ a ∧ a ≤ n) ∧ k a n) := by
  simp [lohi, bnd_s, bnd_n, and_assoc]
theorem lohi_nn {n : Nat} {k : Int → Int → Prop} : lohi none none n k = k 0 n := by
  simp [lohi, bnd_n]
theorem rows_part (a b : Int) : ((rowsOf xs).take b.toNat).drop a.toNat = rowsOf (part xs a b) := by simp [rowsOf, part, List.map_take, List.map_drop]
theorem c_sc_str {lo hi : Option AV} {l : List UInt8} (h : (T t).kd = .str) : aSlice T t (.str l) lo hi none k = lohi lo hi l.length fun a b => k (.str (part l a b)) := by
  simp [aSlice, h, lohi, part]
theorem c_sc_sl {lo hi : Option AV} (h : (T t).kd = .slice e) (h2 : (T e).kd.isOther = false) (h3 : (T e).size = s) : aSlice T t (.sl s (rowsOf xs)) lo hi none k = lohi lo hi xs.length fun a b => k (.sl s (rowsOf (part xs a b))) := by
  subst h3
  simp [aSlice, h, h2, lohi, rows_part, rowsOf_length]
theorem c_sc_ow {lo hi : Option AV} {b e' : Nat} (h : (T t).kd = .slice e) (h2 : (T e).kd.isOther = false) (h3 : (T e).size = s) : aSlice T t (.ow b e' s (rowsOf xs)) lo hi none k = lohi lo hi xs.length fun a b => k (.sl s (rowsOf (part xs a b))) := by
  subst h3
  simp [aSlice, h, h2, lohi, rows_part, rowsOf_length]
/-- The empty slice without capacity, by a full slice expression. -/
theorem c_s0xsl {rows : List (List AV)} {s' : Nat} {kb kc : IntKind} (h : (T t).kd = .slice e) (h2 : (T e).kd.isOther = false) : aSlice T t (.sl s' rows) none (some (.int kb 0)) (some (.int kc 0)) k = k .emp := by
  simp [aSlice, h, h2, bnd_s]
theorem c_s0xow {rows : List (List AV)} {s' b e' : Nat} {kb kc : IntKind} (h : (T t).kd = .slice e) (h2 : (T e).kd.isOther = false) : aSlice T t (.ow b e' s' rows) none (some (.int kb 0)) (some (.int kc 0)) k = k .emp := by
  simp [aSlice, h, h2, bnd_s]
theorem c_s0xemp {kb kc : IntKind} (h : (T t).kd = .slice e) (h2 : (T e).kd.isOther = false) : aSlice T t .emp none (some (.int kb 0)) (some (.int kc 0)) k = k .emp := by
  simp [aSlice, h, h2, bnd_s]
theorem lohi_congr {lo lo' hi hi' : Option AV} {n : Nat} {k : Int → Int → Prop} (h : lo = lo') (h2 : hi = hi') : lohi lo hi n k = lohi lo' hi' n k := by rw [h, h2]
end

section
variable {t : Nat} {k : AV → Prop}
def bld (o : Option (List AV)) (k : AV → Prop) : Prop := ∃ cs, o = some cs ∧ k (.agg cs)
theorem bld_some {cs : List AV} : bld (some cs) k = k (.agg cs) := by simp [bld]
theorem bld_congr {o o' : Option (List AV)} (h : o = o') : bld o k = bld o' k := by rw [h]
theorem c_bd_st {fs : List AFd} {z : List AV} {ps : List (Nat × AV)} (h : (T t).kd = .st fs) (h2 : (T t).zero = z) : aBuild T t ps k = bld (aFill (stPlace fs) z ps) k := by
  subst h2
  simp only [aBuild, h, bld]
theorem c_bd_arr {n e s : Nat} {z : List AV} {ps : List (Nat × AV)} (h : (T t).kd = .arr n e) (h2 : (T t).zero = z) (h3 : (T e).kd.isOther = false) (h4 : (T e).size = s) : aBuild T t ps k = bld (aFill (fun i => some (i * s, s)) z ps) k := by
  subst h2; subst h4
  simp only [aBuild, h, h3, true_and, bld]
theorem fill_nil {pl : Nat → Option (Nat × Nat)} {cs : List AV} : aFill pl cs [] = some cs := Eq.trans rfl rfl
theorem fill_cons {pl : Nat → Option (Nat × Nat)} {cs : List AV} {i : Nat} {v : AV} {r : List (Nat × AV)} : aFill pl cs ((i, v) :: r) = match pl i with
    | none => none
    | some (off, size) => if v.cells.length = size ∧ off + size ≤ cs.length ∧ v.known = true then aFill pl (lay off v.cells cs) r else none := rfl

theorem c_fd_1 {fs : List AFd} {cs : List AV} {f off sz ty : Nat} (h : (T t).kd = .st fs) (h2 : fs[f]? = some ⟨off, sz, ty⟩) (h3 : (T ty).kd.isOther = false) (h4 : (T ty).kd.isAgg = false) : aField T t (.agg cs) f k = (off < cs.length ∧ k (nth cs off)) := by
  simp only [aField, h, h2, aPart, h3, h4, Bool.false_eq_true, if_false, Option.some.injEq, exists_eq_left', true_and, eq_iff_iff]
  constructor
  · rintro ⟨c, h5, h6⟩
    refine ⟨(List.getElem?_eq_some_iff.1 h5).1, ?_⟩
    rw [nth_eq, h5]; exact h6
  · rintro ⟨h5, h6⟩
    exact ⟨_, nth_lt h5, h6⟩
theorem c_fd_a {fs : List AFd} {cs : List AV} {f off sz ty s : Nat} (h : (T t).kd = .st fs) (h2 : fs[f]? = some ⟨off, sz, ty⟩) (h3 : (T ty).kd.isOther = false) (h4 : (T ty).kd.isAgg = true) (h5 : (T ty).size = s) : aField T t (.agg cs) f k = k (.agg (cut off s cs)) := by
  subst h5
  simp only [aField, h, h2, aPart, h3, h4, if_true, Option.some.injEq, exists_eq_left', true_and]
theorem c_fa_cp {fs : List AFd} {cs : List AV} {f off sz ty : Nat} (h : (T t).kd = .st fs) (h2 : fs[f]? = some ⟨off, sz, ty⟩) : aFieldAddr T t (.cp cs) f k = k (.cp (cs.drop off)) := by
  simp only [aFieldAddr, h, h2, Option.some.injEq, exists_eq_left']
theorem c_fa_p {fs : List AFd} {b o f off sz ty : Nat} (h : (T t).kd = .st fs) (h2 : fs[f]? = some ⟨off, sz, ty⟩) : aFieldAddr T t (.ptr b o) f k = k (.ptr b (o + off)) := by
  simp only [aFieldAddr, h, h2, Option.some.injEq, exists_eq_left']
theorem nil_cp {cs : List AV} : aNil (.cp cs) k = k (.cp cs) := Eq.trans rfl rfl
theorem nil_p {b o : Nat} : aNil (.ptr b o) k = k (.ptr b o) := Eq.trans rfl rfl
theorem nil_fn {f : Nat} {cs : List AV} : aNil (.fn f cs) k = k (.fn f cs) := Eq.trans rfl rfl
theorem ext_tup {cs : List AV} {i : Nat} : aExt (.tup cs) i k = (i < cs.length ∧ k (nth cs i)) := by
  simp only [aExt, eq_iff_iff]
  constructor
  · rintro ⟨c, h5, h6⟩
    refine ⟨(List.getElem?_eq_some_iff.1 h5).1, ?_⟩
    rw [nth_eq, h5]; exact h6
  · rintro ⟨h5, h6⟩
    exact ⟨_, nth_lt h5, h6⟩
theorem mm_min {ka kb : IntKind} {a b : Int} : aMM true (.int ka a) (.int kb b) k = k (.int ka (min a b)) := by
  have : (if b < a then b else a) = min a b := by omega
  simp [aMM, this]
theorem mm_max {ka kb : IntKind} {a b : Int} : aMM false (.int ka a) (.int kb b) k = k (.int ka (max a b)) := by
  have : (if b > a then b else a) = max a b := by omega
  simp [aMM, this]
theorem c_cv_int {s d : Nat} {ka kb : IntKind} {n : Int} (h : (T d).kd = .int kb) (h2 : (T s).kd.isOther = false) : aConv T s d (.int ka n) k = k (.int kb (kb.wrap n)) := by
  simp [aConv, h, h2]
theorem c_cv_str {s d : Nat} {l : List UInt8} (h : (T d).kd = .str) (h2 : (T s).kd.isOther = false) : aConv T s d (.str l) k = k (.str l) := by
  simp [aConv, h, h2]
def eqG (o : Option Bool) (k : Bool → Prop) : Prop := ∃ b, o = some b ∧ k b
theorem eqG_some {b : Bool} {k : Bool → Prop} : eqG (some b) k = k b := by simp [eqG]
theorem eqG_congr {o o' : Option Bool} {k : Bool → Prop} (h : o = o') : eqG o k = eqG o' k := by rw [h]
theorem c_eq_agg {xs ys : List AV} (h : (T t).kd.isAgg = true) : aBin T .eql t (.agg xs) (.agg ys) k = eqG (eqT T 10 t xs ys) fun b => k (.bool b) := by simp [aBin, h, eqG]
theorem c_ne_agg {xs ys : List AV} (h : (T t).kd.isAgg = true) : aBin T .neq t (.agg xs) (.agg ys) k = eqG (eqT T 10 t xs ys) fun b => k (.bool (!b)) := by simp [aBin, h, eqG]
end

section
variable {α : Type} [Enc α] {s : Nat} [Sized α s] {dst : Option Nat} {t e b : Nat} {H : List (List AV)} {y : AV} {xs ys : List α} {k : Eff → List (Nat × Nat) → Prop}

theorem c_ap_emp {bt : Nat} (h : (T t).kd = .slice e) (h2 : (T e).kd.isOther = false) (hs : (T e).size = s) (hb : (T e).bytes = bt) (h3 : 0 < s) (hy : srcOf s y = some (rowsOf ys)) :
    lAppend T dst t t H .emp y k = ((ys.length ≤ 1099511627776 ∧ ys.length * bt ≤ 140737488355328) ∧ k ⟨dst, .ow H.length e s (rowsOf ys), [], H.length, [[.tok ys.length]]⟩ []) := by
  subst hs; subst hb
  simp only [lAppend, aAppend, h, true_and, eq_iff_iff]
  constructor
  · rintro ⟨_, _, rows, q1, q2, q3, q4, q5⟩
    rw [hy] at q1; injection q1 with q1; subst q1
    simp only [rowsOf_length] at q3 q4 q5
    exact ⟨⟨q3, q4⟩, q5⟩
  · rintro ⟨⟨q3, q4⟩, q5⟩
    exact ⟨h2, h3, _, hy, full_rowsOf Sized.full ys, by rw [rowsOf_length]; exact q3, by rw [rowsOf_length]; exact q4, by simpa [rowsOf_length] using q5⟩

theorem c_ap_ow {bt : Nat} (h : (T t).kd = .slice e) (h2 : (T e).kd.isOther = false) (hs : (T e).size = s) (hb : (T e).bytes = bt) (h3 : 0 < s) (hy : srcOf s y = some (rowsOf ys)) :
    lAppend T dst t t H (.ow b e s (rowsOf xs)) y k = (nth (nthB H b) 0 = .tok xs.length ∧ (xs.length + ys.length ≤ 1099511627776 ∧ (xs.length + ys.length) * bt ≤ 140737488355328) ∧ k ⟨dst, .ow b e s (rowsOf (xs ++ ys)), [(b, 0, .tok (xs.length + ys.length))], H.length, []⟩ [(b, 0)]) := by
  subst hs; subst hb
  simp only [lAppend, aAppend, h, true_and, eq_iff_iff]
  constructor
  · rintro ⟨_, _, q0, rows, q1, q2, q3, q4, q5, q6⟩
    rw [hy] at q1; injection q1 with q1; subst q1
    simp only [rowsOf_length, rowsOf_append] at q0 q4 q5 q6
    exact ⟨q0, ⟨q4, q5⟩, q6⟩
  · rintro ⟨q0, ⟨q4, q5⟩, q6⟩
    exact ⟨h2, h3, by simpa [ASt.view, rowsOf_length] using q0, _, hy, full_rowsOf Sized.full xs, full_rowsOf Sized.full ys, by simpa [rowsOf_length] using q4, by simpa [rowsOf_length] using q5, by simpa [rowsOf_length, rowsOf_append] using q6⟩
end

section
variable {dst : Option Nat} {t e : Nat} {x : AV} {H : List (List AV)} {k : Eff → List (Nat × Nat) → Prop}
/-- The only row of a literal, by its cells. -/
theorem c_bs1 {s : Nat} (h : (T t).kd = .slice e) (h2 : (T e).kd.isOther = false) (hs : (T e).size = s) (h3 : 0 < s) (h4 : s ≤ 1024) {n : Nat} :
    aBuildSlice T dst t 1 [(0, x)] n k = ((x.cells.length = s ∧ x.known = true ∧ allB AV.flat x.cells = true) ∧ k ⟨dst, .ow n e s [x.cells.map AV.low], [], n, [[.tok 1]]⟩ []) := by
  subst hs
  simp [aBuildSlice, h, h2, h3, h4, allP, and_assoc]
theorem c_bs0 {s n : Nat} (h : (T t).kd = .slice e) (h2 : (T e).kd.isOther = false) (hs : (T e).size = s) (h3 : 0 < s) : aBuildSlice T dst t 0 [] n k = k ⟨dst, .emp, [], n, []⟩ [] := by
  subst hs
  simp [aBuildSlice, h, h2, h3]
theorem c_bsn {s n len : Nat} {ps : List (Nat × AV)} (h : (T t).kd = .slice e) (h2 : (T e).kd.isOther = false) (hs : (T e).size = s) (h3 : 0 < s) (h4 : len ≠ 0) : aBuildSlice T dst t len ps n k = ((len * s ≤ 1024 ∧ ps.length = len ∧ allP s 0 ps = true) ∧ k ⟨dst, .ow n e s (ps.map fun p => p.2.cells.map AV.low), [], n, [[.tok len]]⟩ []) := by
  subst hs
  simp [aBuildSlice, h, h2, h3, h4, and_assoc]
end

attribute [congr] lohi_congr bld_congr eqG_congr

end Go.Ab
end

section
namespace Go.Ab
open Go Go.RowKit
set_option linter.unusedVariables false
set_option linter.unusedSimpArgs false
set_option linter.unusedSectionVars false

variable {P : Program} {T : TT}

/-- Registers of which only those are known. -/
def regsOf (n : Nat) (l : List (Nat × AV)) : List AV := l.foldl (fun R p => R.set p.1 p.2) (List.replicate n .non)

theorem wk_int {g : Nat → Nat} {n : Nat} {k : IntKind} {a b : Int} (h : a = b) : Wk g n (.int k a) (.int k b) := by subst h; exact .flat _ rfl
theorem wk_bool {g : Nat → Nat} {n : Nat} {a b : Bool} (h : a = b) : Wk g n (.bool a) (.bool b) := by subst h; exact .flat _ rfl
theorem wk_str {g : Nat → Nat} {n : Nat} {a b : List UInt8} (h : a = b) : Wk g n (.str a) (.str b) := by subst h; exact .flat _ rfl
theorem wk_sl {g : Nat → Nat} {n s s' : Nat} {a b : List (List AV)} (h : a = b) (h2 : s = s') : Wk g n (.sl s a) (.sl s' b) := by subst h; subst h2; exact .flat (.sl s a) rfl
theorem wk_emp {g : Nat → Nat} {n s : Nat} {b : List (List AV)} (h : b = []) : Wk g n .emp (.sl s b) := by subst h; exact .emp s
theorem wk_ow_sl {g : Nat → Nat} {n t e s s' : Nat} {a b : List (List AV)} (h : a = b) (h2 : s = s') : Wk g n (.ow t e s a) (.sl s' b) := by subst h; subst h2; exact .flat (.ow t e s a) rfl
theorem wk_ow {g : Nat → Nat} {n t t' e e' s s' : Nat} {a b : List (List AV)} (h : a = b) (h1 : e = e') (h2 : s = s') (h3 : t' < n) (h4 : t = g t') : Wk g n (.ow t e s a) (.ow t' e' s' b) := by subst h; subst h1; subst h2; exact .ow _ _ _ _ _ h3 h4
theorem wk_cp {g : Nat → Nat} {n : Nat} {a b : List AV} (h : a = b) : Wk g n (.cp a) (.cp b) := by subst h; exact .flat (.cp a) rfl
theorem wk_nilp {g : Nat → Nat} {n : Nat} : Wk g n .nilp .nilp := .flat _ rfl
theorem wk_nilf {g : Nat → Nat} {n : Nat} : Wk g n .nilf .nilf := .flat _ rfl
theorem wk_ee {g : Nat → Nat} {n : Nat} : Wk g n .emp .emp := .flat _ rfl
theorem wk_tok {g : Nat → Nat} {n a b : Nat} (h : a = b) : Wk g n (.tok a) (.tok b) := by subst h; exact .tok a

theorem wk_mp {g : Nat → Nat} {n b b' : Nat} (h : b' < n) (hb : b = g b') : Wk g n (.mp b) (.mp b') := .mp b b' h hb
theorem wk_ptr {g : Nat → Nat} {n b b' o o' : Nat} (ho : o = o') (h : b' < n) (hb : b = g b') : Wk g n (.ptr b o) (.ptr b' o') := by subst ho; exact .ptr b b' o h hb
theorem wk_mps {g : Nat → Nat} {n : Nat} {a b : List UInt8 → Option AV} (h : a = b) : Wk g n (.mps a) (.mps b) := by subst h; exact .mps a

theorem wkL_nil {g : Nat → Nat} {n : Nat} : WkL g n [] [] := trivial
theorem wkL_cons {g : Nat → Nat} {n : Nat} {c d : AV} {cs ds : List AV} (h : Wk g n c d) (t : WkL g n cs ds) : WkL g n (c :: cs) (d :: ds) := ⟨h, t⟩
theorem wkHs_nil {g : Nat → Nat} {n : Nat} {H : List (List AV)} : WkHs g n H [] [] := trivial
theorem wkHs_cons {g : Nat → Nat} {n b : Nat} {H : List (List AV)} {bs : List Nat} {l : List AV} {ls : List (List AV)} (h : WkL g n (nthB H b) l) (t : WkHs g n H bs ls) : WkHs g n H (b :: bs) (l :: ls) := ⟨h, t⟩

def loopU (nx : Nat) (st : Nat → ASt → Prop) (N i : Nat) (K : AEx → ASt → Prop) : AEx → ASt → Prop
  | .nrm, s => ∃ s' j, Ent nx s s' ∧ i < j ∧ j ≤ N ∧ st j s'
  | x, s => K x s

/-- A loop, by an invariant over numbers that grow up to a bound. -/
theorem loop_up {nx : Nat} {c : Code} {s : ASt} {K : AEx → ASt → Prop} (st : Nat → ASt → Prop) (N : Nat) (h0 : ∃ s', Ent nx s s' ∧ st 0 s')
    (h : ∀ i s, i ≤ N → st i s → awp P T nx c s (loopU nx st N i K)) : awp P T nx (.loop c) s K := by
  refine ⟨fun n s => ∃ i, i ≤ N ∧ n = N - i ∧ st i s, ?_, fun n s hs => ?_⟩
  · obtain ⟨s', h1, h2⟩ := h0
    exact ⟨s', N, h1, 0, Nat.zero_le _, rfl, h2⟩
  · obtain ⟨i, h1, h2, h3⟩ := hs
    have e : loopK nx (fun n s => ∃ i, i ≤ N ∧ n = N - i ∧ st i s) n K = loopU nx st N i K := by
      funext x s
      cases x with
      | nrm =>
        simp only [loopK, loopU, eq_iff_iff]
        constructor
        · rintro ⟨s', m, q1, q2, j, q3, q4, q5⟩
          exact ⟨s', j, q1, by omega, q3, q5⟩
        · rintro ⟨s', j, q1, q2, q3, q5⟩
          exact ⟨s', N - j, q1, by omega, j, q3, rfl, q5⟩
      | ext id => rfl
      | ret => rfl
    rw [e]
    exact h i s h1 h3
theorem loopU_n {nx : Nat} {st : Nat → ASt → Prop} {N i : Nat} {K : AEx → ASt → Prop} {R : List AV} {H : List (List AV)} : loopU nx st N i K .nrm ⟨R, H⟩ = ∃ s' j, Ent nx ⟨R, H⟩ s' ∧ i < j ∧ j ≤ N ∧ st j s' := Eq.trans rfl rfl
theorem loopU_r {nx : Nat} {st : Nat → ASt → Prop} {N i : Nat} {K : AEx → ASt → Prop} {s : ASt} : loopU nx st N i K .ret s = K .ret s := Eq.trans rfl rfl
theorem loopU_e {nx : Nat} {st : Nat → ASt → Prop} {N i id : Nat} {K : AEx → ASt → Prop} {s : ASt} : loopU nx st N i K (.ext id) s = K (.ext id) s := Eq.trans rfl rfl

/-- The next round. -/
theorem round {nx : Nat} {st : Nat → ASt → Prop} {N i : Nat} {R : List AV} {H : List (List AV)} (j : Nat) (s' : ASt) (h1 : i < j) (h2 : j ≤ N) (h3 : st j s') (h4 : Ent nx ⟨R, H⟩ s') : ∃ s' j, Ent nx ⟨R, H⟩ s' ∧ i < j ∧ j ≤ N ∧ st j s' := ⟨s', j, h4, h1, h2, h3⟩

theorem sing_1 (c : AV) : sing [c] = c := Eq.trans rfl rfl
theorem sing_2 (c d : AV) (r : List AV) : sing (c :: d :: r) = .tup (c :: d :: r) := Eq.trans rfl rfl
theorem ord_of {all : Array Oper} {fs : List Ft} (h : orderB all (masks all) fs = true) : Ord all fs := h
theorem len_int {a b : Nat} (h : (a : Int) = b) : a = b := by omega

theorem arg_ow {m : Nat → Nat} {n b e s : Nat} {rows : List (List AV)} : Arg m n (.ow b e s rows) (.sl s rows) := .flat (.ow b e s rows) rfl
theorem arg_sl {m : Nat → Nat} {n s : Nat} {rows : List (List AV)} : Arg m n (.sl s rows) (.sl s rows) := .flat (.sl s rows) rfl
theorem arg_emp {α : Type} [Enc α] {m : Nat → Nat} {n s : Nat} : Arg m n .emp (.sl s (rowsOf ([] : List α))) := .emp s
theorem arg_int {m : Nat → Nat} {n : Nat} {k : IntKind} {x : Int} : Arg m n (.int k x) (.int k x) := .flat (.int k x) rfl
theorem arg_bool {m : Nat → Nat} {n : Nat} {x : Bool} : Arg m n (.bool x) (.bool x) := .flat (.bool x) rfl
theorem arg_str {m : Nat → Nat} {n : Nat} {x : List UInt8} : Arg m n (.str x) (.str x) := .flat (.str x) rfl
theorem arg_any {m : Nat → Nat} {n : Nat} {x : AV} (h : x.flat = true) (h2 : x.low = x) : Arg m n x x := by have := Arg.flat (m := m) (n := n) x h; rwa [h2] at this

theorem id0 : isId 0 0 [] = true := Eq.trans rfl rfl

end Go.Ab
end

section
namespace Go.Ab
open Go Go.RowKit Go.ChangeShapes Go.WideShapes Go.ChangeAt
set_option linter.unusedVariables false
set_option linter.unusedSimpArgs false

variable {P : Program}

def envOf (W : World) : Env := { F := fun a v => W.cell? a = some v ∧ v.oneCell' = true, kd := fun _ => 0, bk := fun _ => none, tk := fun _ => ⟨0, 0, 0, undef⟩ }

theorem envOf_ok (W : World) : EOk ⟨W, [], envOf W, 0⟩ (envOf W) W where
  le := Env.Le.refl _
  os := rfl
  tape := rfl
  output := rfl
  size := Nat.le_refl _
  old := fun _ _ _ => rfl
  F := fun _ _ h => h
  box := fun _ h => by cases h
  tok := fun _ h => by cases h
  fnew := fun _ _ h => .inl h
  kd3 := fun _ => .inl rfl
  inj := fun _ _ _ h => absurd rfl h
  hx := fun _ h => absurd rfl h

theorem law_calls {f : Nat} {args : List AV} {r : AV} {vs : Array Value} {W : World} (hm : Meets P f [] args r []) (hv : VRs (envOf W) args vs.toList) :
    Calls P f vs W fun e W' => ∃ v E, e = .returned v ∧ VR E r v ∧ Below W.heap.size W W' := by
  refine (hm W (envOf W) [] vs (envOf_ok W) ⟨fun b j => trivial, fun _ _ => rfl⟩ (fun b h => by cases h) hv).mono fun e W' ⟨v, E', he, hE, _, hr⟩ => ⟨v, E', he, hr, ?_⟩
  exact ⟨hE.os, hE.tape, hE.output, hE.size, fun k hk => hE.old k hk (by simp)⟩

theorem law_true {f : Nat} {args : List AV} {vs : Array Value} {W : World} (hm : Meets P f [] args (.bool true) []) (hv : VRs (envOf W) args vs.toList) :
    Calls P f vs W fun e W' => e = .returned (.bool true) ∧ Below W.heap.size W W' :=
  (law_calls hm hv).mono fun e W' ⟨v, E, he, hr, hb⟩ => by
    cases hr
    exact ⟨he, hb⟩

theorem read_ints {H : Type} {enc : TypeId × Value → H} {W : World} {t e : TypeId} {a : Option Addr} {len cap : Nat} {d : DataW H} {ps : List MemPlace} (ht : P.underlying t = some (.slice e)) (he : P.underlying e = some (.int .i64)) (hc : P.cellsOf e = 1)
    (h : DataW.Trod enc P W 0 (fun _ => true) true t (.slice a len cap) d ps) : ∃ xs : List Int, VR (envOf W) (.sl 1 (rowsOf xs)) (.slice a len cap) ∧ ((d = .nil ∧ xs = []) ∨ ∃ sp, d = .slice (lits .i64 xs) sp) ∧ ∀ n ∈ xs, (Lit.int .i64 n).wf = true := by
  obtain ⟨n, hn⟩ := h
  rcases open_ints ht he hc hn with ⟨h1, h2⟩ | ⟨a', len', cap', zs, h1, _, h3, _, h5, h6, h7, h8⟩
  · simp [Value.cells] at h1
    obtain ⟨rfl, rfl, rfl⟩ := h1
    simp only [Prod.mk.injEq] at h2
    exact ⟨[], (Src.of_emp (E := envOf W) (s := 1) (.emp none)).sl, .inl ⟨h2.1, rfl⟩, by simp⟩
  · simp [Value.cells] at h1
    obtain ⟨rfl, rfl, rfl⟩ := h1
    simp only [Prod.mk.injEq] at h6
    simp only [if_true] at h5
    have hl : (zs.take len).length = len := by rw [List.length_take]; omega
    refine ⟨zs.take len, ?_, .inr ⟨_, h6.1⟩, fun n hn => h8 n (List.mem_of_mem_take hn)⟩
    have hrow : ∀ (i : Nat) row (j : Nat) c, (rowsOf (zs.take len))[i]? = some row → row[j]? = some c → i < len ∧ j = 0 ∧ c = .int .i64 (zs.getD i 0) := fun i row j c hi hj => by
      rw [rowsOf_get] at hi
      cases hx : (zs.take len)[i]? with
      | none => rw [hx] at hi; cases hi
      | some x =>
        rw [hx] at hi
        injection hi with hi
        subst hi
        have hlt : i < len := by have := (List.getElem?_eq_some_iff.1 hx).1; omega
        rw [List.getElem?_take, if_pos hlt] at hx
        cases j with
        | zero =>
          rw [enc_int] at hj
          simp only [List.getElem?_cons_zero, Option.some.injEq] at hj
          exact ⟨hlt, rfl, by rw [← hj]; simp [List.getD, hx]⟩
        | succ j => simp [enc_int] at hj
    have := VR.sl (E := envOf W) 1 (rowsOf (zs.take len)) (some a') cap (fun i _ => .int .i64 (zs.getD i 0)) (fun _ => rfl)
      (fun i row j c ad hi hj hd => by
        obtain ⟨q1, rfl, rfl⟩ := hrow i row j c hi hj
        injection hd with hd
        subst hd
        rw [Nat.mul_one, Nat.add_zero]
        exact ⟨h7 i (by omega), rfl⟩)
      (fun i row j c hi hj => by
        obtain ⟨q1, rfl, rfl⟩ := hrow i row j c hi hj
        exact .int _ _)
      (by rw [rowsOf_length, hl]; exact h3)
    rwa [rowsOf_length, hl] at this

section
variable {H : Type} {enc : TypeId × Value → H}
theorem post_of_below {f : Func} {s : ChangeSpec} {apart fresh handsOn again : Bool} {W W' : World} {args : Array Value} {v : Value} {ds gs : List (DataW H)} {before pa pv : List MemPlace}
    (hW : DataW.Whole enc P f.params.toList s.vars apart W args.toList ds gs before)
    (hres : ∀ (b : Nat) (sp : Nat → Bool) (hd : Bool), DataW.TrodAll enc P W' b sp hd f.resultTypes.toList (v.resultList f.resultTypes.size) (s.fn H (ds ++ gs)).results [])
    (hargs : ∀ sp : Nat → Bool, (∀ p ∈ before, sp p.block = true) → DataW.TrodAll enc P W' 0 sp true f.params.toList args.toList (s.fn H (ds ++ gs)).args pa)
    (hvars : ∀ sp : Nat → Bool, (∀ p ∈ before, sp p.block = true) → DataW.TrodVars enc P W' sp s.vars (s.fn H (ds ++ gs)).vars pv)
    (hps : before = pa ++ pv) (hb : Below W.heap.size W W')
    (hok : ∀ (j : Nat) (t : TypeId) (r : Value), f.resultTypes[j]? = some t → (v.resultList f.resultTypes.size)[j]? = some r → Value.okWide P W' .any 0 t r) :
    s.post enc P f apart fresh handsOn again W args v W' := by
  have hlt : ∀ p ∈ before, p.block < W.heap.size := fun p hp => hW.lt p hp
  have hold : ∀ p ∈ before, (fun b => decide (b < W.heap.size)) p.block = true := fun p hp => by simpa using hlt p hp
  refine ⟨ds, gs, before, [], pa, pv, hW, hres _ _ _, hargs _ hold, hvars _ hold, World.keptBut_mono (fun p hp => ⟨hp, ?_⟩) (hb.frame (· ∈ before)), fun _ => ?_⟩
  · rw [hps, List.mem_append] at hp
    exact Or.inr hp
  · obtain ⟨_, _, _, _, _, hz, hn⟩ := hW
    refine ⟨hok, _, _, ([] ++ pa) ++ pv, ⟨[] ++ pa, pv, trodAll_append (hargs _ (fun _ _ => rfl)) (hres _ _ _), hvars _ (fun _ _ => rfl), rfl, ?_, ?_⟩, ?_⟩
    · intro b off hp
      have hin : MemPlace.cell b off ∈ before := by rw [hps]; simpa using hp
      rw [hb.frozen (hlt _ hin)]
      exact hz b off hin
    · intro ha
      have := hn ha
      rw [hps] at this
      simpa using this
    · intro p hp _
      rw [hps]
      simpa using hp
end

end Go.Ab
end

section
namespace Go.Ab
open Go Go.RowKit
set_option linter.unusedVariables false
set_option linter.unusedSimpArgs false
set_option linter.unusedSectionVars false

variable {P : Program} {T : TT}

/-- The map that holds true at these keys. -/
def setF (names : List (List UInt8)) : List UInt8 → Option AV := fun x => if x ∈ names then some (.bool true) else none

theorem setF_nil : (fun _ => none : List UInt8 → Option AV) = setF [] := by funext x; simp [setF]
theorem setF_cons (l : List UInt8) (names : List (List UInt8)) : (fun x => if x = l then some (AV.bool true) else setF names x) = setF (l :: names) := by
  funext x
  by_cases h : x = l <;> simp [setF, h]

section
variable {dst : Option Nat} {t kt et b : Nat} {H : List (List AV)} {l : List UInt8} {k : Eff → List (Nat × Nat) → Prop}
def lkS (v : AV) (l : List UInt8) (k : AV → Prop) : Prop := match v with
  | .mps f => (∀ c, f l = some c → k c) ∧ (f l = none → k (.bool false))
  | _ => False
theorem lkS_set {names : List (List UInt8)} {k : AV → Prop} : lkS (.mps (setF names)) l k = k (.bool (decide (l ∈ names))) := by
  simp only [lkS, setF, eq_iff_iff]
  by_cases h : l ∈ names
  · simp [h]
  · simp [h]
theorem lkS_congr {v v' : AV} {k : AV → Prop} (h : v = v') : lkS v l k = lkS v' l k := by rw [h]
theorem c_lk (h : (T t).kd = .map kt et) (h2 : (T kt).kd = .str) (h3 : (T et).kd = .bool) (h4 : (T et).zero = [.bool false]) :
    lLookup T dst t H (.mp b) (.str l) k = lkS (nth (nthB H b) 0) l fun c => k ⟨dst, c, [], H.length, []⟩ [(b, 0)] := by
  simp only [lLookup, aLookup, h, h2, h3, ASt.view, h4, AKind.isOther, AKind.isAgg, true_and, lkS]
  generalize nth (nthB H b) 0 = v
  cases v <;> simp
def updS (v : AV) (l : List UInt8) (k : AV → Prop) : Prop := match v with
  | .mps f => k (.mps fun x => if x = l then some (.bool true) else f x)
  | _ => False
theorem updS_set {names : List (List UInt8)} {k : AV → Prop} : updS (.mps (setF names)) l k = k (.mps (setF (l :: names))) := by
  simp only [updS, setF_cons]
theorem updS_congr {v v' : AV} {k : AV → Prop} (h : v = v') : updS v l k = updS v' l k := by rw [h]
theorem c_up (h : (T t).kd = .map kt et) (h2 : (T kt).kd = .str) :
    lUpdate T dst t H (.mp b) (.str l) (.bool true) k = updS (nth (nthB H b) 0) l fun v => k ⟨dst, .und, [(b, 0, v)], H.length, []⟩ [(b, 0)] := by
  simp only [lUpdate, aMapUpdate, h, h2, ASt.view, AV.flat, true_and, AV.low, updS]
  generalize nth (nthB H b) 0 = v
  cases v <;> rfl
end
attribute [congr] lkS_congr updS_congr
end Go.Ab
end

section
namespace Go.Ab
open Go Go.RowKit
set_option linter.unusedVariables false
set_option linter.unusedSimpArgs false

variable {P : Program} {T : TT}

def ArgsL (m : Nat → Nat) (n : Nat) : List AV → List AV → Prop
  | [], [] => True
  | c :: cs, d :: ds => Arg m n c d ∧ ArgsL m n cs ds
  | _, _ => False
theorem ArgsL.args {m : Nat → Nat} {n : Nat} : ∀ {cs ds : List AV}, ArgsL m n cs ds → Args m n cs ds
  | [], [], _ => .nil
  | c :: cs, d :: ds, h => .cons h.1 (ArgsL.args h.2)
  | [], _ :: _, h => h.elim
  | _ :: _, [], h => h.elim
theorem ArgsL.len {m : Nat → Nat} {n : Nat} {cs ds : List AV} (h : ArgsL m n cs ds) : cs.length = ds.length := h.args.1

def notNon : AV → Bool
  | .non => false
  | _ => true
theorem notNon_ne {c : AV} (h : notNon c = true) : c ≠ .non := fun e => by subst e; cases h

/-- The blocks that are handed over: as they are, as the callee is told, as they come back. -/
def handL (m : Nat → Nat) (n : Nat) (Hs : List (List AV)) : List Nat → List (List AV) → List (List AV) → Prop
  | [], [], _ => True
  | b :: bs, d :: ds, l :: ls => (b < Hs.length ∧ 0 < (nthB Hs b).length ∧ allB AV.plain (nthB Hs b) = true ∧ l.length = (nthB Hs b).length ∧ allB notNon l = true) ∧ ArgsL m n (nthB Hs b) d ∧ handL m n Hs bs ds ls
  | _, _, _ => False

theorem handL.get {m : Nat → Nat} {n : Nat} {Hs : List (List AV)} : ∀ {bs : List Nat} {ds ls : List (List AV)}, handL m n Hs bs ds ls → bs.length = ds.length ∧ bs.length ≤ ls.length ∧
    ∀ i, i < bs.length → (nthN bs i < Hs.length ∧ 0 < (nthB Hs (nthN bs i)).length ∧ allB AV.plain (nthB Hs (nthN bs i)) = true ∧ (nthB ls i).length = (nthB Hs (nthN bs i)).length ∧ allB notNon (nthB ls i) = true) ∧ ArgsL m n (nthB Hs (nthN bs i)) (nthB ds i)
  | [], [], ls, _ => ⟨rfl, Nat.zero_le _, fun i h => by simp at h⟩
  | b :: bs, d :: ds, l :: ls, h => by
    obtain ⟨q1, q2, q3⟩ := handL.get h.2.2
    refine ⟨by simp [q1], by simp [q2], fun i hi => ?_⟩
    cases i with
    | zero => exact ⟨h.1, h.2.1⟩
    | succ i => exact q3 i (by simpa using hi)
  | [], _ :: _, _, h => by cases h
  | _ :: _, [], _, h => by cases h
  | _ :: _, _ :: _, [], h => by cases h

theorem allB_nth {p : AV → Bool} {l : List AV} (h : allB p l = true) {j : Nat} (hj : j < l.length) : p (nth l j) = true := allB_mem h _ (List.mem_of_getElem? (nth_lt hj))

theorem callMe {R : List AV} {Hs : List (List AV)} {dst : Option Nat} {f : Nat} {acts args : List AV} {r : AV} {k : Eff → List (Nat × Nat) → Prop} {H H' : List (List AV)} (m : List Nat) (hd : distinct m = true) (hc : Callable P f) (hm : Meets P f H args r H')
    (ha : ArgsL (nthN m) m.length acts args) (hh : handL (nthN m) m.length Hs m H H') (hk : ∃ e, (e = callEff dst (nthN m) m.length Hs.length r H' ∨ (RoOk (ASt.mk R Hs).view (nthN m) m.length Hs.length H' ∧ e = roEff dst (nthN m) m.length Hs.length r H')) ∧ k e (keysOf (nthN m) 0 m.length H)) : CallC P ⟨R, Hs⟩ dst f acts k := by
  obtain ⟨q1, q2, q3⟩ := hh.get
  refine ⟨nthN m, m.length, H, H', args, r, hc, hm, ha.args, ⟨q1.symm, q2, distinct_inj hd, fun x hx => by simpa [ASt.view] using (q3 x hx).1.1, fun b hb => by simpa [ASt.view] using hb, fun b j hb hj => ?_, fun b hb => ?_, fun b j hb hj => ?_, fun b j hb hj => ?_⟩, fun b j hb hj => ?_, hk⟩
  · obtain ⟨_, w2⟩ := q3 b hb
    have hl := w2.len
    exact w2.args.2 j _ _ (nth_lt (by omega)) (nth_lt hj)
  · obtain ⟨⟨w1, w2, w3, _⟩, _⟩ := q3 b hb
    have := allB_nth w3 w2
    exact ⟨plain_ne this, this⟩
  · obtain ⟨⟨_, _, _, w4, _⟩, _⟩ := q3 b hb
    exact nth_ge (by show (nthB Hs (nthN m b)).length ≤ j; omega)
  · obtain ⟨⟨_, _, w3, w4, _⟩, w6⟩ := q3 b hb
    have hl := w6.len
    exact ⟨plain_ne (allB_nth w3 (by omega)), by omega⟩
  · obtain ⟨⟨_, _, _, _, w5⟩, _⟩ := q3 b hb
    exact notNon_ne (allB_nth w5 hj)

theorem callM {R : List AV} {Hs : List (List AV)} {dst : Option Nat} {f : Nat} {acts args : List AV} {r : AV} {k : Eff → List (Nat × Nat) → Prop} {H H' : List (List AV)} (m : List Nat) (hd : distinct m = true) (hc : Callable P f) (hm : Meets P f H args r H')
    (ha : ArgsL (nthN m) m.length acts args) (hh : handL (nthN m) m.length Hs m H H') (hk : k (callEff dst (nthN m) m.length Hs.length r H') (keysOf (nthN m) 0 m.length H)) : CallC P ⟨R, Hs⟩ dst f acts k :=
  callMe m hd hc hm ha hh ⟨_, .inl rfl, hk⟩

/-- The ends of a function that was handed one block, or two, and hands them back alone. -/
theorem ends_rb {rs : List ResultVar} {r : AV} {R : List AV} {H H' : List (List AV)} {nx : Nat} (bs : List Nat) (hb : Keeps nx bs) (h : res T R H rs fun vs => Wk (nthN bs) bs.length (sing vs) r ∧ WkHs (nthN bs) bs.length H bs H') : ends T rs nx r H' .ret ⟨R, H⟩ := by
  have key : ∀ (rs : List ResultVar) (k k' : List AV → Prop), (∀ vs, k vs → k' vs) → resK T ⟨R, H⟩ rs k → resK T ⟨R, H⟩ rs k' := by
    intro rs
    induction rs with
    | nil => exact fun k k' hk h => hk _ h
    | cons x rs ih =>
      intro k k' hk h
      cases x with
      | tmp t => exact ih _ _ (fun vs => hk _) h
      | cell a t =>
        simp only [resK] at h ⊢
        refine ⟨h.1, ?_⟩
        obtain ⟨_, h⟩ := h
        split at h
        · split at h
          · rename_i hag; rw [if_pos hag]; exact ⟨h.1, ih _ _ (fun vs => hk _) h.2⟩
          · rename_i hag; rw [if_neg hag]; exact ⟨h.1, ih _ _ (fun vs => hk _) h.2⟩
        · exact h.elim
  exact key rs _ _ (fun vs hv => ⟨bs, hb, hv.1, hv.2⟩) h
theorem ends_r1 {rs : List ResultVar} {r : AV} {R : List AV} {H H' : List (List AV)} (h : res T R H rs fun vs => Wk (nthN [0]) 1 (sing vs) r ∧ WkHs (nthN [0]) 1 H [0] H') : ends T rs 1 r H' .ret ⟨R, H⟩ := ends_rb [0] ⟨rfl, rfl⟩ h
theorem ends_n1 {rs : List ResultVar} {r : AV} {R : List AV} {H H' : List (List AV)} (h : res T R H rs fun vs => Wk (nthN [0]) 1 (sing vs) r ∧ WkHs (nthN [0]) 1 H [0] H') : ends T rs 1 r H' .nrm ⟨R, H⟩ := ends_rb [0] ⟨rfl, rfl⟩ h
theorem ends_r2 {rs : List ResultVar} {r : AV} {R : List AV} {H H' : List (List AV)} (h : res T R H rs fun vs => Wk (nthN [0, 1]) 2 (sing vs) r ∧ WkHs (nthN [0, 1]) 2 H [0, 1] H') : ends T rs 2 r H' .ret ⟨R, H⟩ := ends_rb [0, 1] ⟨rfl, rfl⟩ h
theorem ends_n2 {rs : List ResultVar} {r : AV} {R : List AV} {H H' : List (List AV)} (h : res T R H rs fun vs => Wk (nthN [0, 1]) 2 (sing vs) r ∧ WkHs (nthN [0, 1]) 2 H [0, 1] H') : ends T rs 2 r H' .nrm ⟨R, H⟩ := ends_rb [0, 1] ⟨rfl, rfl⟩ h
theorem ends_r3 {rs : List ResultVar} {r : AV} {R : List AV} {H H' : List (List AV)} (h : res T R H rs fun vs => Wk (nthN [0, 1, 2]) 3 (sing vs) r ∧ WkHs (nthN [0, 1, 2]) 3 H [0, 1, 2] H') : ends T rs 3 r H' .ret ⟨R, H⟩ := ends_rb [0, 1, 2] ⟨rfl, rfl⟩ h
theorem ends_n3 {rs : List ResultVar} {r : AV} {R : List AV} {H H' : List (List AV)} (h : res T R H rs fun vs => Wk (nthN [0, 1, 2]) 3 (sing vs) r ∧ WkHs (nthN [0, 1, 2]) 3 H [0, 1, 2] H') : ends T rs 3 r H' .nrm ⟨R, H⟩ := ends_rb [0, 1, 2] ⟨rfl, rfl⟩ h

theorem argsL_nil {m : Nat → Nat} {n : Nat} : ArgsL m n [] [] := trivial
theorem argsL_cons {m : Nat → Nat} {n : Nat} {c d : AV} {cs ds : List AV} (h : Arg m n c d) (t : ArgsL m n cs ds) : ArgsL m n (c :: cs) (d :: ds) := ⟨h, t⟩
theorem arg_ptr {m : Nat → Nat} {n b b' o o' : Nat} (ho : o = o') (h : b' < n) (hb : b = m b') : Arg m n (.ptr b o) (.ptr b' o') := by subst ho; exact .ptr b b' o h hb
theorem arg_agg {m : Nat → Nat} {n : Nat} {cs ds : List AV} (h : ArgsL m n cs ds) : Arg m n (.agg cs) (.agg ds) := .aggs h.args
theorem arg_fn {m : Nat → Nat} {n f : Nat} {cs ds : List AV} (h : ArgsL m n cs ds) : Arg m n (.fn f cs) (.fn f ds) := .fns h.args
theorem arg_int' {m : Nat → Nat} {n : Nat} {k : IntKind} {x y : Int} (h : x = y) : Arg m n (.int k x) (.int k y) := by subst h; exact .flat (.int k x) rfl
theorem arg_bool' {m : Nat → Nat} {n : Nat} {x y : Bool} (h : x = y) : Arg m n (.bool x) (.bool y) := by subst h; exact .flat (.bool x) rfl
theorem arg_str' {m : Nat → Nat} {n : Nat} {x y : List UInt8} (h : x = y) : Arg m n (.str x) (.str y) := by subst h; exact .flat (.str x) rfl
theorem handL_nil {m : Nat → Nat} {n : Nat} {Hs ls : List (List AV)} : handL m n Hs [] [] ls := trivial
theorem handL_cons {m : Nat → Nat} {n b : Nat} {Hs : List (List AV)} {bs : List Nat} {d l : List AV} {ds ls : List (List AV)} (h : b < Hs.length ∧ 0 < (nthB Hs b).length ∧ allB AV.plain (nthB Hs b) = true ∧ l.length = (nthB Hs b).length ∧ allB notNon l = true)
    (h2 : ArgsL m n (nthB Hs b) d) (h3 : handL m n Hs bs ds ls) : handL m n Hs (b :: bs) (d :: ds) (l :: ls) := ⟨h, h2, h3⟩

/-- A block's content, for lemmas about calls. -/
def BlkIs (Hs : List (List AV)) (b : Nat) (l : List AV) : Prop := b < Hs.length ∧ nthB Hs b = l
theorem blk0 {l : List AV} {r : List (List AV)} : BlkIs (l :: r) 0 l := ⟨by simp, rfl⟩
theorem blk_succ {l a : List AV} {r : List (List AV)} {n : Nat} (h : BlkIs r n l) : BlkIs (a :: r) (n + 1) l := ⟨by have := h.1; simp; omega, h.2⟩
theorem blk1 {a l : List AV} {r : List (List AV)} : BlkIs (a :: l :: r) 1 l := blk_succ blk0
theorem blk2 {a b l : List AV} {r : List (List AV)} : BlkIs (a :: b :: l :: r) 2 l := blk_succ blk1
theorem blk3 {a b c l : List AV} {r : List (List AV)} : BlkIs (a :: b :: c :: l :: r) 3 l := blk_succ blk2
theorem blk4 {a b c d l : List AV} {r : List (List AV)} : BlkIs (a :: b :: c :: d :: l :: r) 4 l := blk_succ blk3
theorem blk5 {a b c d e l : List AV} {r : List (List AV)} : BlkIs (a :: b :: c :: d :: e :: l :: r) 5 l := blk_succ blk4

/-- A call that is handed one block and hands it back. -/
theorem call1b {R : List AV} {Hs : List (List AV)} {dst : Option Nat} {f b : Nat} {acts args : List AV} {r r' : AV} {k : Eff → List (Nat × Nat) → Prop} {d l l' l'' : List AV} (hc : Callable P f) (hm : Meets P f [d] args r [l']) (hb : BlkIs Hs b l)
    (ha : ArgsL (nthN [b]) 1 acts args) (hp : 0 < l.length ∧ allB AV.plain l = true ∧ l'.length = l.length ∧ allB notNon l' = true) (hl : ArgsL (nthN [b]) 1 l d) (hr : ren (newIds (nthN [b]) 1 Hs.length) r = r') (hl' : l'.map (ren (newIds (nthN [b]) 1 Hs.length)) = l'')
    (hk : k ⟨dst, r', writes b 0 l'', Hs.length, []⟩ (ks b 0 d.length)) : CallC P ⟨R, Hs⟩ dst f acts k := by
  obtain ⟨h1, h2⟩ := hb
  subst hr; subst hl'; subst h2
  refine callM [b] rfl hc hm ha (handL_cons ⟨h1, hp.1, hp.2.1, hp.2.2.1, hp.2.2.2⟩ hl handL_nil) ?_
  simpa [callEff, backs, keysOf, nthN, nthB] using hk

end Go.Ab
end
