/- A call of a function of which 'Meets' is known, as one operation. -/
import Derived.Test.YtpgagefaneaioaaT11
namespace Go.Ab
open Go Go.RowKit
set_option linter.unusedVariables false
set_option linter.unusedSimpArgs false

variable {P : Program} {T : TT}

theorem wrs_append : ∀ (a b : List (Nat × Nat × AV)) (f : Nat → Nat → AV), wrs (a ++ b) f = wrs b (wrs a f)
  | [], _, _ => rfl
  | x :: a, b, f => by rw [List.cons_append, wrs, wrs, wrs_append a b]

theorem nth_lt {l : List AV} {j : Nat} (h : j < l.length) : l[j]? = some (nth l j) := by rw [nth_eq, List.getElem?_eq_getElem h]; rfl
theorem nth_ge {l : List AV} {j : Nat} (h : l.length ≤ j) : nth l j = .non := by rw [nth_eq, List.getElem?_eq_none h]; rfl

theorem wrs_backs_hit (m m' : Nat → Nat) (H : List (List AV)) : ∀ (n b0 b j : Nat) (f : Nat → Nat → AV), (∀ x y, b0 ≤ x → x < b0 + n → b0 ≤ y → y < b0 + n → m x = m y → x = y) → b0 ≤ b → b < b0 + n → j < (nthB H b).length →
    wrs (backs m m' b0 n H) f (m b) j = ren m' (nth (nthB H b) j)
  | 0, b0, b, j, f, _, h1, h2, _ => by omega
  | n + 1, b0, b, j, f, hi, h1, h2, h3 => by
    rw [backs, wrs_append]
    by_cases h : b = b0
    · subst h
      -- nothing behind writes there again
      have miss : ∀ (n' b1 : Nat) (f : Nat → Nat → AV), (∀ x, b1 ≤ x → x < b1 + n' → m x ≠ m b) → wrs (backs m m' b1 n' H) f (m b) j = f (m b) j := by
        intro n'
        induction n' with
        | zero => intro b1 f _; rfl
        | succ n' ih =>
          intro b1 f hx
          rw [backs, wrs_append, ih (b1 + 1) _ (fun x a1 a2 => hx x (by omega) (by omega)), wrs_writes, if_neg (fun hc => hx b1 (Nat.le_refl _) (by omega) hc.1.symm)]
      rw [miss n (b + 1) _ (fun x a1 a2 e => by have := hi x b (by omega) (by omega) (by omega) (by omega) e; omega), wrs_writes, if_pos ⟨rfl, Nat.zero_le _, by simpa using h3⟩]
      rw [Nat.sub_zero]
      simp only [List.getD, List.getElem?_map, nth_lt h3]
      rfl
    · exact wrs_backs_hit m m' H n (b0 + 1) b j _ (fun x y a1 a2 a3 a4 => hi x y (by omega) (by omega) (by omega) (by omega)) (by omega) (by omega) h3

theorem wrs_backs_miss (m m' : Nat → Nat) (H : List (List AV)) (x j : Nat) : ∀ (n b0 : Nat) (f : Nat → Nat → AV), (∀ b, b0 ≤ b → b < b0 + n → x = m b → (nthB H b).length ≤ j) → wrs (backs m m' b0 n H) f x j = f x j
  | 0, _, _, _ => rfl
  | n + 1, b0, f, h => by
    rw [backs, wrs_append, wrs_backs_miss m m' H x j n (b0 + 1) _ (fun b a1 a2 => h b (by omega) (by omega)), wrs_writes, if_neg]
    rintro ⟨h1, h2, h3⟩
    have := h b0 (Nat.le_refl _) (by omega) h1
    simp at h3
    omega

theorem mem_keysOf (m : Nat → Nat) (H : List (List AV)) : ∀ (n b0 b j : Nat), b0 ≤ b → b < b0 + n → j < (nthB H b).length → (m b, j) ∈ keysOf m b0 n H
  | 0, b0, b, j, h1, h2, _ => by omega
  | n + 1, b0, b, j, h1, h2, h3 => by
    rw [keysOf]
    by_cases h : b = b0
    · subst h
      have := mem_ks (m b) _ 0 j h3
      rw [Nat.zero_add] at this
      exact List.mem_append_left _ this
    · exact List.mem_append_right _ (mem_keysOf m H n (b0 + 1) b j (by omega) (by omega) h3)

/-- A function with a body, that is entered. -/
def Callable (P : Program) (f : Nat) : Prop := ∃ fn, P.funcs[f]? = some fn ∧ (fn.name == "runtime.NumGoroutine") = false ∧ fn.body.isNone = false

theorem run_callFunc (w : World) {f : Nat} (h : Callable P f) (args : Array Value) : (callFunc f args).run P w = .ok (.enter f args) w := by
  obtain ⟨fn, h1, h2, h3⟩ := h
  simp only [callFunc, Sem.run_bind, run_program, Result.andThen_ok, h1, h2, h3, Bool.false_eq_true, if_false, Sem.run_pure]

/-- What a call does to the caller's state. -/
def callEff (dst : Option Nat) (m : Nat → Nat) (n base : Nat) (r : AV) (H' : List (List AV)) : Eff :=
  ⟨dst, ren (newIds m n base) r, backs m (newIds m n base) 0 n H', base, (H'.drop n).map fun l => l.map (ren (newIds m n base))⟩

/-- What must hold of what is handed over. -/
structure Hand (S : FSt) (m : Nat → Nat) (n base : Nat) (H H' : List (List AV)) : Prop where
  len : H.length = n
  len' : n ≤ H'.length
  inj : ∀ x y, x < n → y < n → m x = m y → x = y
  dom : ∀ x, x < n → S.dom (m x) = true
  dbase : ∀ b, S.dom b = true → b < base
  cell : ∀ b j, b < n → j < (nthB H b).length → Arg m n (S.cell (m b) j) (nth (nthB H b) j)
  one : ∀ b, b < n → S.cell (m b) 0 ≠ .non ∧ (S.cell (m b) 0).plain = true
  keep : ∀ b j, b < n → (nthB H' b).length ≤ j → S.cell (m b) j = .non
  full : ∀ b j, b < n → j < (nthB H' b).length → S.cell (m b) j ≠ .non ∧ j < (nthB H b).length

theorem ren_plain (m : Nat → Nat) (c : AV) : (ren m c).plain = c.plain := by cases c <;> rfl

theorem CellOk.ren {E E' : Env} {w : World} {m : Nat → Nat} (hF : ∀ a v, E.F a v → E'.F a v) (hkd : ∀ b, E.kd b ≠ 0 → E'.kd (m b) = E.kd b ∧ E'.bk (m b) = E.bk b ∧ (E.kd b = 2 → E'.tk (m b) = E.tk b)) {b j : Nat} {c : AV}
    (h : CellOk E w b j c) : CellOk E' w (m b) j (ren m c) := by
  by_cases hp : c.plain = true
  · rw [CellOk.plain (by rw [ren_plain]; exact hp)]
    rw [CellOk.plain hp] at h
    obtain ⟨hk, g, v, h1, h2, h3, h4⟩ := h
    obtain ⟨k1, k2, _⟩ := hkd b (by rw [hk]; decide)
    exact ⟨k1.trans hk, g, v, k2.trans h1, h2, h3, ren_VR hF hkd h4⟩
  · cases c <;> simp [AV.plain] at hp
    case non => trivial
    case tok n =>
      obtain ⟨h1, h2, h3⟩ := h
      obtain ⟨k1, _, k3⟩ := hkd b (by rw [h2]; decide)
      exact ⟨h1, k1.trans h2, by rw [k3 h2]; exact h3⟩
    case mps f =>
      obtain ⟨h1, h2, g, es, clock, h3, h4, h5⟩ := h
      obtain ⟨k1, k2, _⟩ := hkd b (by rw [h2]; decide)
      exact ⟨h1, k1.trans h2, g, es, clock, k2.trans h3, h4, h5.1, h5.2.1, fun l c hl => by
        obtain ⟨i, e, a1, a2, a3, a4⟩ := h5.2.2 l c hl
        exact ⟨i, e, a1, a2, a3.mono hF, a4⟩⟩
    case mpi f => exact h.elim

theorem Arg.plain {m : Nat → Nat} {n : Nat} {c d : AV} (h : Arg m n c d) (hd : d.plain = true) : c.plain = true := by
  cases h <;> first | rfl | (cases hd; done) | skip
  rename_i hfl
  cases c <;> simp_all [AV.flat, AV.plain]
theorem Arg.not_plain {m : Nat → Nat} {n : Nat} {c d : AV} (h : Arg m n c d) (hd : ¬ d.plain = true) : d = .non := by
  cases h <;> first | rfl | (simp [AV.plain] at hd; done) | skip
  rename_i hfl
  cases c <;> simp_all [AV.flat, AV.plain, AV.low]

theorem stp_call {Γ : Ctx} {o : Oper} {fo : Operand} {as : Array Operand} {ts : Array TypeId} (ho : o.op = .call { callee := .value fo, args := as, argTypes := ts }) {S : FSt} {f : Nat} {caps : List AV}
    (hfo : S.ev fo = .fn f caps) (hc : Callable P f) {m : Nat → Nat} {n base : Nat} {H H' : List (List AV)} {args : List AV} {r : AV} (hargs : Args m n (as.toList.map S.ev ++ caps) args) (hm : Meets P f H args r H')
    (hh : Hand S m n base H H') : Stp Γ P o S (keysOf m 0 n H) (callEff o.dst m n base r H') := by
  intro S' a w hn hr hrd hf hz hR K Q hK
  obtain ⟨E, hE, hS⟩ := hR
  have hmf : fo ∈ o.op.operands.toList := by rw [ho]; simp [Op.operands, Call.operands]
  have hvf := hS.ev fo
  rw [ev_congr hr hmf, hfo] at hvf
  generalize haf : a.eval fo = vf at hvf
  cases hvf with
  | fn f caps vcaps hlc hcaps =>
  -- the arguments
  have hacts : VRs E (as.toList.map S.ev ++ caps) ((as.map a.eval) ++ vcaps).toList := by
    rw [Array.toList_append]
    refine VRs.append ?_ ⟨by simpa using hlc, fun j c v x y => hcaps j c v x (by simpa using y)⟩
    have h1 : as.toList.map S.ev = as.toList.map S'.ev := List.map_congr_left fun x hx => (ev_congr hr (by rw [ho]; simp [Op.operands, Call.operands]; exact .inr (by simpa using hx))).symm
    rw [h1, Array.toList_map]
    exact map_VR hS.ev as.toList
  -- the blocks that are handed over
  have hbox : ∀ b, b < n → ∃ g, E.kd (m b) = 1 ∧ E.bk (m b) = some g := fun b hb => by
    have h1 := hS.cell (m b) 0
    have hlen : 0 < (nthB H b).length := by
      rcases Nat.eq_zero_or_pos (nthB H' b).length with h0 | h0
      · exact absurd (hh.keep b 0 hb (by omega)) (hh.one b hb).1
      · exact (hh.full b 0 hb h0).2
    rw [hrd (m b, 0) (mem_keysOf m H n 0 b 0 (Nat.zero_le _) (by omega) hlen)] at h1
    rw [CellOk.plain (hh.one b hb).2] at h1
    obtain ⟨h2, g, _, h3, _⟩ := h1
    exact ⟨g, h2, h3⟩
  let E0 : Env := { F := E.F, kd := fun b => if b < n then 1 else 0, bk := fun b => E.bk (m b), tk := fun b => E.tk b }
  let X : List Nat := (List.range n).filterMap fun b => E.bk (m b)
  have hX : ∀ g, g ∈ X ↔ ∃ b, b < n ∧ E.bk (m b) = some g := fun g => by simp [X]
  have hkd0 : ∀ b, b < n → E0.kd b = 1 ∧ E0.bk b = E.bk (m b) := fun b hb => ⟨by simp [E0, hb], rfl⟩
  have hEk : ∀ b, E0.kd b = 1 → b < n := fun b hb => by
    simp only [E0] at hb
    split at hb
    · assumption
    · cases hb
  have hE0 : EOk ⟨w, X, E0, H.length⟩ E0 w := by
    refine ⟨Env.Le.refl _, rfl, rfl, rfl, Nat.le_refl _, fun _ _ _ => rfl, hE.F, fun b hb => ?_, fun t ht => ?_, fun _ _ x => .inl x, fun b => ?_, fun b b' g hb hb' hg hg' => ?_, fun b hb => ?_⟩
    · have hbn := hEk b hb
      obtain ⟨g, h1, h2⟩ := hbox b hbn
      obtain ⟨g', h3, h4, _, h5⟩ := hE.box (m b) h1
      rw [h2] at h3; injection h3 with h3; subst h3
      exact ⟨g, h2, h4, .inr ((hX g).2 ⟨b, hbn, h2⟩), h5⟩
    · simp only [E0] at ht; split at ht <;> cases ht
    · simp only [E0]; split
      · exact .inr (.inl rfl)
      · exact .inl rfl
    · have h1 : b < n := by simp only [E0] at hb; split at hb; assumption; exact absurd rfl hb
      have h2 : b' < n := by simp only [E0] at hb'; split at hb'; assumption; exact absurd rfl hb'
      obtain ⟨g1, k1, _⟩ := hbox b h1
      obtain ⟨g2, k2, _⟩ := hbox b' h2
      exact hh.inj b b' h1 h2 (hE.inj (m b) (m b') g (by rw [k1]; decide) (by rw [k2]; decide) hg hg')
    · show b < H.length
      rw [hh.len]
      exact Nat.lt_of_not_le fun hx => hb (by simp only [E0]; rw [if_neg (by omega)])
  have hH0 : HOk E0 w H := by
    refine ⟨fun b j => ?_, fun b hb => by simp only [E0]; rw [if_neg (by rw [hh.len] at hb; omega)]⟩
    by_cases hb : b < n
    · by_cases hj : j < (nthB H b).length
      · have h1 := hS.cell (m b) j
        rw [hrd (m b, j) (mem_keysOf m H n 0 b j (Nat.zero_le _) (by omega) hj)] at h1
        have ha := hh.cell b j hb hj
        generalize nth (nthB H b) j = d at ha
        by_cases hd : d.plain = true
        · -- a cell
          have hcp := ha.plain hd
          rw [CellOk.plain hcp] at h1
          rw [CellOk.plain hd]
          obtain ⟨_, g, v, e1, e2, e3, e4⟩ := h1
          exact ⟨(hkd0 b hb).1, g, v, e1, e2, e3, ha.vr (E := E) (E' := E0) (fun _ _ x => x) hkd0 e4⟩
        · have := ha.not_plain hd
          rw [this]; trivial
      · rw [nth_ge (by omega)]; trivial
    · rw [nthB_ge H b (by rw [hh.len]; omega)]; trivial
  have hrun : (execOp a.eval o).run P w = .ok (.enter f ((as.map a.eval) ++ vcaps)) w := by
    simp only [execOp, ho, resolve, Sem.run_bind, haf, Deferred.ofValue, Sem.run_pure, Result.andThen_ok, invoke]
    rw [Array.empty_append]
    exact run_callFunc w hc _
  unfold Oper.wp
  rw [hrun, Oper.upon_enter]
  refine (hm w E0 X _ hE0 hH0 (fun b hb => (hkd0 b (by rw [hh.len] at hb; exact hb)).1) (hargs.vrs (E := E) (E' := E0) (fun _ _ x => x) hkd0 hacts)).mono ?_
  rintro e w' ⟨v, E', rfl, hE', hH', hv⟩
  refine hK _ _ ?_
  -- the caller's environment behind the call
  let k : Nat := H'.length - n
  let m' := newIds m n base
  let new : Nat → Bool := fun x => decide (base ≤ x) && decide (x < base + k)
  let E2 : Env := { F := E'.F, kd := fun x => if new x then E'.kd (x - base + n) else E.kd x, bk := fun x => if new x then E'.bk (x - base + n) else E.bk x, tk := fun x => if new x then E'.tk (x - base + n) else E.tk x }
  have hnew : ∀ x, (callEff o.dst m n base r H').new x = new x := fun x => by simp [Eff.new, callEff, new, k]
  have hnk : ∀ x, new x = true → E.kd x = 0 := fun x hx => hS.dom x (hf x (by rw [hnew]; exact hx))
  have hmn : ∀ b, b < n → new (m b) = false := fun b hb => by
    cases hx : new (m b) with
    | false => rfl
    | true =>
      obtain ⟨g, h1, _⟩ := hbox b hb
      have := hnk _ hx
      rw [h1] at this; cases this
  have hm'old : ∀ b, b < n → m' b = m b := fun b hb => by simp [m', newIds, hb]
  have hm'new : ∀ b, n ≤ b → b < H'.length → new (m' b) = true ∧ m' b - base + n = b := fun b h1 h2 => by
    have : ¬ b < n := by omega
    simp [m', newIds, this, new, k]
    omega
  have hE'b : ∀ b, b < n → E'.kd b = 1 ∧ E'.bk b = E.bk (m b) := fun b hb => by
    obtain ⟨h1, h2⟩ := hE'.le.box b (hkd0 b hb).1
    exact ⟨h1, h2.trans rfl⟩
  have hkd2 : ∀ b, E'.kd b ≠ 0 → E2.kd (m' b) = E'.kd b ∧ E2.bk (m' b) = E'.bk b ∧ (E'.kd b = 2 → E2.tk (m' b) = E'.tk b) := fun b hb => by
    by_cases hbn : b < n
    · obtain ⟨h1, h2⟩ := hE'b b hbn
      obtain ⟨g, h3, h4⟩ := hbox b hbn
      rw [hm'old b hbn]
      simp only [E2, hmn b hbn, Bool.false_eq_true, if_false]
      exact ⟨h3.trans h1.symm, h2.symm, fun hx => by rw [h1] at hx; cases hx⟩
    · have hbl : b < H'.length := Nat.lt_of_not_le fun hx => hb (hH'.2 b hx)
      obtain ⟨h1, h2⟩ := hm'new b (by omega) hbl
      refine ⟨?_, ?_, fun _ => ?_⟩ <;> simp only [E2, h1, if_true, h2]
  have hFE : ∀ a v, E.F a v → E'.F a v := hE'.le.F
  have hle2 : E.Le E2 := ⟨hFE, fun x hx => by
      have : new x = false := by
        cases hn' : new x with
        | false => rfl
        | true => have := hnk x hn'; rw [hx] at this; cases this
      simp [E2, this, hx], fun x hx => by
      have : new x = false := by
        cases hn' : new x with
        | false => rfl
        | true => have := hnk x hn'; rw [hx] at this; cases this
      simp [E2, this, hx]⟩
  -- a block of the caller's that was not handed over is as it was
  have hkeep : ∀ x g, E.kd x ≠ 0 → E.bk x = some g → (∀ b, b < n → x ≠ m b) → w'.heap[g]? = w.heap[g]? ∧ ∀ a v, E'.F a v → a.block = g → E.F a v := fun x g hx hg hxm => by
    have hlt := (hE.lt hx hg).1
    have hnX : g ∉ X := fun hgX => by
      obtain ⟨b, hb, hg'⟩ := (hX g).1 hgX
      obtain ⟨g', h1, h2⟩ := hbox b hb
      exact hxm b hb (hE.inj x (m b) g hx (by rw [h1]; decide) hg hg')
    refine ⟨hE'.old g hlt hnX, fun a v hav hblk => ?_⟩
    rcases hE'.fnew a v hav with h1 | h1
    · exact h1
    · simp only at h1; omega
  have holdk : ∀ x, E2.kd x ≠ 0 → new x = false → E.kd x ≠ 0 ∧ E2.kd x = E.kd x ∧ E2.bk x = E.bk x ∧ E2.tk x = E.tk x := fun x hx hn' => by
    have e1 : E2.kd x = E.kd x := by simp only [E2, hn', Bool.false_eq_true, if_false]
    rw [e1] at hx
    refine ⟨hx, e1, ?_, ?_⟩ <;> simp only [E2, hn', Bool.false_eq_true, if_false]
  have hnewk : ∀ x, new x = true → ∃ b, n ≤ b ∧ b < H'.length ∧ x - base + n = b ∧ E2.kd x = E'.kd b ∧ E2.bk x = E'.bk b ∧ E2.tk x = E'.tk b := fun x hx => by
    refine ⟨x - base + n, by omega, ?_, rfl, by simp [E2, hx], by simp [E2, hx], by simp [E2, hx]⟩
    simp [new, k] at hx
    omega
  -- new blocks of the callee lie behind all that was there
  have hfresh : ∀ b g, n ≤ b → E'.kd b ≠ 0 → E'.bk b = some g → w.heap.size ≤ g := fun b g hb hk' hg => by
    rcases (hE'.lt hk' hg).2 with h1 | h1
    · exact h1
    · exfalso
      obtain ⟨c, hc1, hc2⟩ := (hX g).1 h1
      obtain ⟨h2, h3⟩ := hE'b c hc1
      have := hE'.inj b c g hk' (by rw [h2]; decide) hg (h3.trans hc2)
      omega
  have hE2 : EOk Γ E2 w' := by
    refine ⟨hE.le.trans hle2, hE'.os.trans hE.os, hE'.tape.trans hE.tape, hE'.output.trans hE.output, Nat.le_trans hE.size hE'.size, fun g hg hgX => ?_, hE'.F, fun x hx => ?_, fun x hx => ?_, fun a v hav => ?_, fun x => ?_, fun x y g hx hy hgx hgy => ?_, hE.hx⟩
    · have hnX : g ∉ X := fun h1 => by
        obtain ⟨b, hb, hg'⟩ := (hX g).1 h1
        obtain ⟨g', h2, h3⟩ := hbox b hb
        rcases (hE.lt (by rw [h2]; decide) hg').2 with h4 | h4
        · omega
        · exact hgX h4
      rw [hE'.old g (Nat.lt_of_lt_of_le hg hE.size) hnX]
      exact hE.old g hg hgX
    · cases hn' : new x with
      | true =>
        obtain ⟨b, hb1, hb2, hb3, hb4, hb5, _⟩ := hnewk x hn'
        rw [hb4] at hx
        obtain ⟨g, h1, h2, h3, h4⟩ := hE'.box b hx
        refine ⟨g, hb5.trans h1, h2, .inl (Nat.le_trans hE.size (hfresh b g hb1 (by rw [hx]; decide) h1)), h4⟩
      | false =>
        obtain ⟨h0, h1, h2, _⟩ := holdk x (by rw [hx]; decide) hn'
        rw [h1] at hx
        obtain ⟨g, h3, h4, h5, h6⟩ := hE.box x hx
        refine ⟨g, h2.trans h3, Nat.lt_of_lt_of_le h4 hE'.size, h5, fun a v hav hblk => ?_⟩
        by_cases hxm : ∃ b, b < n ∧ x = m b
        · obtain ⟨b, hb, rfl⟩ := hxm
          obtain ⟨k1, k2⟩ := hE'b b hb
          obtain ⟨g', k3, _, _, k4⟩ := hE'.box b k1
          rw [k2, h3] at k3; injection k3 with k3; subst k3
          exact k4 a v hav hblk
        · exact h6 a v ((hkeep x g h0 h3 (fun b hb e => hxm ⟨b, hb, e⟩)).2 a v hav hblk) hblk
    · cases hn' : new x with
      | true =>
        obtain ⟨b, hb1, hb2, hb3, hb4, hb5, hb6⟩ := hnewk x hn'
        rw [hb4] at hx
        rcases hE'.tok b hx with ⟨h1, h2, h3⟩ | ⟨g, cap, xs, h1, h2, h3, h4⟩
        · exact .inl ⟨hb5.trans h1, by rw [hb6]; exact h2, by rw [hb6]; exact h3⟩
        · refine .inr ⟨g, cap, xs, hb5.trans h1, by rw [hb6]; exact h2, ?_, fun a v x y => by rw [hb6]; exact h4 a v x y⟩
          rw [hb6]
          refine ⟨h3.1, ?_⟩
          rcases h3.2 with h5 | ⟨g', cap', cur, e1, e2, e3⟩
          · exact .inl h5
          · exact .inr ⟨g', cap', cur, e1, Nat.le_trans hE.size e2, e3⟩
      | false =>
        obtain ⟨h0, h1, h2, h3⟩ := holdk x (by rw [hx]; decide) hn'
        rw [h1] at hx
        refine (hE.tok x hx).keep h2 h3 (fun g hg _ => ?_) (fun g a v hg hav hblk => ?_)
        · exact (hkeep x g h0 hg (fun b hb e => by subst e; obtain ⟨g', k1, _⟩ := hbox b hb; rw [hx] at k1; cases k1)).1
        · exact (hkeep x g h0 hg (fun b hb e => by subst e; obtain ⟨g', k1, _⟩ := hbox b hb; rw [hx] at k1; cases k1)).2 a v hav hblk
    · rcases hE'.fnew a v hav with h1 | h1
      · exact hE.fnew a v h1
      · exact .inr (Nat.le_trans hE.size h1)
    · simp only [E2]; split
      · exact hE'.kd3 _
      · exact hE.kd3 _
    · cases hnx : new x with
      | true =>
        obtain ⟨b, hb1, hb2, hb3, hb4, hb5, _⟩ := hnewk x hnx
        rw [hb4] at hx; rw [hb5] at hgx
        cases hny : new y with
        | true =>
          obtain ⟨c, hc1, hc2, hc3, hc4, hc5, _⟩ := hnewk y hny
          rw [hc4] at hy; rw [hc5] at hgy
          have := hE'.inj b c g hx hy hgx hgy
          simp [new] at hnx hny
          omega
        | false =>
          obtain ⟨h0, h1, h2, _⟩ := holdk y hy hny
          rw [h2] at hgy
          have := (hE.lt h0 hgy).1
          have := hfresh b g hb1 hx hgx
          omega
      | false =>
        obtain ⟨h0, h1, h2, _⟩ := holdk x hx hnx
        rw [h2] at hgx
        cases hny : new y with
        | true =>
          obtain ⟨c, hc1, hc2, hc3, hc4, hc5, _⟩ := hnewk y hny
          rw [hc4] at hy; rw [hc5] at hgy
          have := (hE.lt h0 hgx).1
          have := hfresh c g hc1 hy hgy
          omega
        | false =>
          obtain ⟨k0, _, k2, _⟩ := holdk y hy hny
          rw [k2] at hgy
          exact hE.inj x y g h0 k0 hgx hgy
  refine ⟨E2, hE2, hS.step hle2 (e := callEff o.dst m n base r H') (ren_VR (E := E') (E' := E2) (m := m') (fun _ _ x => x) hkd2 hv) (fun x j => ?_) (fun x hx => ?_)⟩
  · simp only [FSt.apply, hnew]
    by_cases hx : new x = true
    · rw [if_pos hx]
      obtain ⟨b, hb1, hb2, hb3, _⟩ := hnewk x hx
      have hxm : x = m' b := by
        have : ¬ b < n := by omega
        simp [new] at hx
        simp [m', newIds, this]
        omega
      have h1 := (hH'.1 b j).ren (E := E') (E' := E2) (m := m') (fun _ _ x => x) hkd2
      rw [← hxm] at h1
      have e1 : ((callEff o.dst m n base r H').news.getD (x - (callEff o.dst m n base r H').base) []).getD j .non = ren m' (nth (nthB H' b) j) := by
        have hnb : ∀ (L : List (List AV)) (i : Nat), L.getD i [] = nthB L i := by
          intro L
          induction L with
          | nil => intro i; rfl
          | cons c L ih => intro i; cases i with
            | zero => rfl
            | succ i => simpa [nthB] using ih i
        have hdrop : ∀ (L : List (List AV)) (q i : Nat), nthB (L.drop q) i = nthB L (q + i) := by
          intro L
          induction L with
          | nil => intro q i; simp [nthB]
          | cons c L ih => intro q i; cases q with
            | zero => simp
            | succ q => rw [List.drop_succ_cons, ih q i, show q + 1 + i = (q + i) + 1 by omega]; rfl
        have hmapB : ∀ (L : List (List AV)) (i : Nat), nthB (L.map fun l => l.map (ren m')) i = (nthB L i).map (ren m') := by
          intro L
          induction L with
          | nil => intro i; rfl
          | cons c L ih => intro i; cases i with
            | zero => rfl
            | succ i => exact ih i
        simp only [callEff]
        rw [hnb, hmapB, hdrop, show n + (x - base) = b by omega]
        simp only [List.getD, List.getElem?_map, nth_eq]
        cases (nthB H' b)[j]? <;> rfl
      rw [e1]
      exact h1
    · rw [if_neg hx]
      simp only [callEff]
      by_cases hxm : ∃ b, b < n ∧ x = m b
      · obtain ⟨b, hb, rfl⟩ := hxm
        by_cases hj : j < (nthB H' b).length
        · rw [wrs_backs_hit m _ H' n 0 b j _ (fun x y _ h1 _ h2 h3 => hh.inj x y (by omega) (by omega) h3) (Nat.zero_le _) (by omega) hj]
          have h1 := (hH'.1 b j).ren (E := E') (E' := E2) (m := m') (fun _ _ x => x) hkd2
          rw [hm'old b hb] at h1
          exact h1
        · rw [wrs_backs_miss m _ H' (m b) j n 0 _ (fun c _ hc e => by
            have := hh.inj b c hb (by omega) e
            subst this; omega)]
          rw [hz (m b) j (hh.dom b hb) (hh.keep b j hb (by omega))]
          trivial
      · rw [wrs_backs_miss m _ H' x j n 0 _ (fun b _ hb e => absurd ⟨b, by omega, e⟩ hxm)]
        refine (hS.cell x j).keep hle2 (fun g hk hg _ => (hkeep x g (by rw [hk]; decide) hg (fun b hb e => hxm ⟨b, hb, e⟩)).1) (fun hk => ?_)
        have : new x = false := by
          cases hn' : new x with
          | false => rfl
          | true => have := hnk x hn'; rw [hk] at this; cases this
        simp [E2, this]
  · simp only [FSt.apply, hnew, Bool.or_eq_false_iff] at hx
    simp only [E2, hx.2, Bool.false_eq_true, if_false]
    exact hS.dom x hx.1

/-- What a call does that leaves the blocks as they were. -/
def roEff (dst : Option Nat) (m : Nat → Nat) (n base : Nat) (r : AV) (H' : List (List AV)) : Eff :=
  ⟨dst, ren (newIds m n base) r, [], base, (H'.drop n).map fun l => l.map (ren (newIds m n base))⟩
/-- The blocks are handed back as they were. -/
def RoOk (S : FSt) (m : Nat → Nat) (n base : Nat) (H' : List (List AV)) : Prop := ∀ b j, b < n → j < (nthB H' b).length → S.cell (m b) j = ren (newIds m n base) (nth (nthB H' b) j)

theorem stp_call_ro {Γ : Ctx} {o : Oper} {fo : Operand} {as : Array Operand} {ts : Array TypeId} (ho : o.op = .call { callee := .value fo, args := as, argTypes := ts }) {S : FSt} {f : Nat} {caps : List AV}
    (hfo : S.ev fo = .fn f caps) (hc : Callable P f) {m : Nat → Nat} {n base : Nat} {H H' : List (List AV)} {args : List AV} {r : AV} (hargs : Args m n (as.toList.map S.ev ++ caps) args) (hm : Meets P f H args r H')
    (hh : Hand S m n base H H') (hro : RoOk S m n base H') : Stp Γ P o S (keysOf m 0 n H) (roEff o.dst m n base r H') := by
  intro S' a w hn hr hrd hf hz hR K Q hK
  refine stp_call ho hfo hc hargs hm hh S' a w hn hr hrd hf hz hR K Q (fun a' w' h => hK a' w' ?_)
  have e : S'.apply (callEff o.dst m n base r H') = S'.apply (roEff o.dst m n base r H') := by
    have hc : ∀ x j, wrs (backs m (newIds m n base) 0 n H') S'.cell x j = S'.cell x j := fun x j => by
      by_cases hx : ∃ b, b < n ∧ x = m b ∧ j < (nthB H' b).length
      · obtain ⟨b, hb, rfl, hj⟩ := hx
        rw [wrs_backs_hit m _ H' n 0 b j _ (fun x y _ a2 _ a4 e => hh.inj x y (by omega) (by omega) e) (Nat.zero_le _) (by omega) hj, ← hro b j hb hj]
        exact (hrd (m b, j) (mem_keysOf m H n 0 b j (Nat.zero_le _) (by omega) (hh.full b j hb hj).2)).symm
      · exact wrs_backs_miss m _ H' x j n 0 _ (fun b _ h2 h3 => Nat.le_of_not_lt fun h4 => hx ⟨b, by omega, h3, h4⟩)
    unfold FSt.apply
    congr 1
    funext x j
    simp only [callEff, roEff, Eff.new, hc, wrs]
    rfl
  rw [← e]; exact h

end Go.Ab
