/- A call of a function of which 'Meets' is known, as one operation. A region that draws its order: whatever order comes up, the state is the lexical one's. A region, abstractly: its operations one behind the other; the order that it draws; that it is right. The abstract machine: states as lists, one operation, a region, code; that what it shows is so of the model. Regions and code, abstractly; loops; functions. From the code of a function to its contract. The table of types, computed of the program, and that it is right. Small things: the element at a place, wrapping, weaker values by their heads; from a contract to a law's call. Calls that are handed blocks. -/
import Derived.Test.YthhidmnlhocigaaGreatDoorTA
import Derived.RangeFuncLeaves
import Derived.RangeFuncRecord
import Derived.RangeFuncCalls
import Derived.Below
import Derived.ChangeSame
import Derived.ChangeSlices
import Derived.ProofKit
section
namespace Go.Ab
open Go Go.RowKit
set_option linter.unusedVariables false
set_option linter.unusedSimpArgs false

variable {P : Program} {T : TT}

theorem wrs_append : ∀ (a b : List (Nat × Nat × AV)) (f : Nat → Nat → AV), wrs (a ++ b) f = wrs b (wrs a f)
  | [], _, _ => rfl
  | x :: a, b, f => by rw [List.cons_append, wrs, wrs, wrs_append a b]

theorem nth_lt {l : List AV} {j : Nat} (h : j < l.length) : l[j]? = some (nth l j) := by rw [nth_eq, List.getElem?_eq_getElem h]; rfl
theorem nth_ge {l : List AV} {j : Nat} (h : l.length ≤ j) : nth l j = .non := by rw [nth_eq, List.getElem?_eq_none h]; rfl

theorem wrs_backs_hit (m m' : Nat → Nat) (H : List (List AV)) : ∀ (n b0 b j : Nat) (f : Nat → Nat → AV), (∀ x y, b0 ≤ x → x < b0 + n → b0 ≤ y → y < b0 + n → m x = m y → x = y) → b0 ≤ b → b < b0 + n → j < (nthB H b).length →
    wrs (backs m m' b0 n H) f (m b) j = ren m' (nth (nthB H b) j)
  | 0, b0, b, j, f, _, h1, h2, _ => by omega
  | n + 1, b0, b, j, f, hi, h1, h2, h3 => by
    rw [backs, wrs_append]
    by_cases h : b = b0
    · subst h
      -- nothing behind writes there again
      have miss : ∀ (n' b1 : Nat) (f : Nat → Nat → AV), (∀ x, b1 ≤ x → x < b1 + n' → m x ≠ m b) → wrs (backs m m' b1 n' H) f (m b) j = f (m b) j := by
        intro n'
        induction n' with
        | zero => intro b1 f _; rfl
        | succ n' ih =>
          intro b1 f hx
          rw [backs, wrs_append, ih (b1 + 1) _ (fun x a1 a2 => hx x (by omega) (by omega)), wrs_writes, if_neg (fun hc => hx b1 (Nat.le_refl _) (by omega) hc.1.symm)]
      rw [miss n (b + 1) _ (fun x a1 a2 e => by have := hi x b (by omega) (by omega) (by omega) (by omega) e; omega), wrs_writes, if_pos ⟨rfl, Nat.zero_le _, by simpa using h3⟩]
      rw [Nat.sub_zero]
      simp only [List.getD, List.getElem?_map, nth_lt h3]
      rfl
    · exact wrs_backs_hit m m' H n (b0 + 1) b j _ (fun x y a1 a2 a3 a4 => hi x y (by omega) (by omega) (by omega) (by omega)) (by omega) (by omega) h3

theorem wrs_backs_miss (m m' : Nat → Nat) (H : List (List AV)) (x j : Nat) : ∀ (n b0 : Nat) (f : Nat → Nat → AV), (∀ b, b0 ≤ b → b < b0 + n → x = m b → (nthB H b).length ≤ j) → wrs (backs m m' b0 n H) f x j = f x j
  | 0, _, _, _ => rfl
  | n + 1, b0, f, h => by
    rw [backs, wrs_append, wrs_backs_miss m m' H x j n (b0 + 1) _ (fun b a1 a2 => h b (by omega) (by omega)), wrs_writes, if_neg]
    rintro ⟨h1, h2, h3⟩
    have := h b0 (Nat.le_refl _) (by omega) h1
    simp at h3
    omega

theorem mem_keysOf (m : Nat → Nat) (H : List (List AV)) : ∀ (n b0 b j : Nat), b0 ≤ b → b < b0 + n → j < (nthB H b).length → (m b, j) ∈ keysOf m b0 n H
  | 0, b0, b, j, h1, h2, _ => by omega
  | n + 1, b0, b, j, h1, h2, h3 => by
    rw [keysOf]
    by_cases h : b = b0
    · subst h
      have := mem_ks (m b) _ 0 j h3
      rw [Nat.zero_add] at this
      exact List.mem_append_left _ this
    · exact List.mem_append_right _ (mem_keysOf m H n (b0 + 1) b j (by omega) (by omega) h3)

/-- A function with a body, that is entered. -/
def Callable (P : Program) (f : Nat) : Prop := ∃ fn, P.funcs[f]? = some fn ∧ (fn.name == "runtime.NumGoroutine") = false ∧ fn.body.isNone = false

theorem run_callFunc (w : World) {f : Nat} (h : Callable P f) (args : Array Value) : (callFunc f args).run P w = .ok (.enter f args) w := by
  obtain ⟨fn, h1, h2, h3⟩ := h
  simp only [callFunc, Sem.run_bind, run_program, Result.andThen_ok, h1, h2, h3, Bool.false_eq_true, if_false, Sem.run_pure]

/-- What a call does to the caller's state. -/
def callEff (dst : Option Nat) (m : Nat → Nat) (n base : Nat) (r : AV) (H' : List (List AV)) : Eff :=
  ⟨dst, ren (newIds m n base) r, backs m (newIds m n base) 0 n H', base, (H'.drop n).map fun l => l.map (ren (newIds m n base))⟩

/-- Cells that may be handed over. -/
def AV.hard : AV → Bool
  | .arr .. | .tok _ => true
  | c => c.plain
theorem AV.plain_hard {c : AV} (h : c.plain = true) : c.hard = true := by cases c <;> simp_all [AV.hard, AV.plain]

/-- What must hold of what is handed over. -/
structure Hand (S : FSt) (m : Nat → Nat) (n base : Nat) (H H' : List (List AV)) : Prop where
  len : H.length = n
  len' : n ≤ H'.length
  inj : ∀ x y, x < n → y < n → m x = m y → x = y
  dom : ∀ x, x < n → S.dom (m x) = true
  dbase : ∀ b, S.dom b = true → b < base
  cell : ∀ b j, b < n → j < (nthB H b).length → Arg m n (S.cell (m b) j) (nth (nthB H b) j)
  one : ∀ b, b < n → S.cell (m b) 0 ≠ .non ∧ (S.cell (m b) 0).hard = true
  keep : ∀ b j, b < n → (nthB H' b).length ≤ j → S.cell (m b) j = .non
  full : ∀ b j, b < n → j < (nthB H' b).length → S.cell (m b) j ≠ .non ∧ j < (nthB H b).length

theorem ren_plain (m : Nat → Nat) (c : AV) : (ren m c).plain = c.plain := by cases c <;> rfl

theorem CellOk.ren {E E' : Env} {w : World} {m : Nat → Nat} (hF : ∀ a v, E.F a v → E'.F a v) (hkd : ∀ b, E.kd b ≠ 0 → E'.kd (m b) = E.kd b ∧ E'.bk (m b) = E.bk b ∧ ((E.kd b = 2 ∨ E.kd b = 3) → E'.tk (m b) = E.tk b)) {b j : Nat} {c : AV}
    (h : CellOk E w b j c) : CellOk E' w (m b) j (ren m c) := by
  by_cases hp : c.plain = true
  · rw [CellOk.plain (by rw [ren_plain]; exact hp)]
    rw [CellOk.plain hp] at h
    obtain ⟨hk, g, v, h1, h2, h3, h4⟩ := h
    obtain ⟨k1, k2, _⟩ := hkd b (by rw [hk]; decide)
    exact ⟨k1.trans hk, g, v, k2.trans h1, h2, h3, ren_VR hF hkd h4⟩
  · cases c <;> simp [AV.plain] at hp
    case non => trivial
    case tok n =>
      obtain ⟨h1, h2, h3⟩ := h
      obtain ⟨k1, _, k3⟩ := hkd b (by rw [h2]; decide)
      exact ⟨h1, k1.trans h2, by rw [k3 (.inl h2)]; exact h3⟩
    case mps f =>
      obtain ⟨h1, h2, g, es, clock, h3, h4, h5⟩ := h
      obtain ⟨k1, k2, _⟩ := hkd b (by rw [h2]; decide)
      exact ⟨h1, k1.trans h2, g, es, clock, k2.trans h3, h4, h5.1, h5.2.1, fun l c hl => by
        obtain ⟨i, e, a1, a2, a3, a4⟩ := h5.2.2 l c hl
        exact ⟨i, e, a1, a2, a3.mono hF, a4⟩⟩
    case mpi f => exact h.elim
    case arr s rows =>
      obtain ⟨h1, h2, hl, g, h3, h4, h5⟩ := h
      obtain ⟨k1, k2, k3⟩ := hkd b (by rw [h2]; decide)
      exact ⟨h1, k1.trans h2, by rw [k3 (.inr h2)]; exact hl, g, k2.trans h3, h4, h5.mono hF⟩
    case aw e s rows =>
      obtain ⟨h1, h2, hl, he, hs, g, h3, h4, h5, h6⟩ := h
      obtain ⟨k1, k2, k3⟩ := hkd b (by rw [h2]; decide)
      exact ⟨h1, k1.trans h2, by rw [k3 (.inr h2)]; exact hl, by rw [k3 (.inr h2)]; exact he, by rw [k3 (.inr h2)]; exact hs, g, k2.trans h3, h4, h5.mono hF, by rw [k3 (.inr h2)]; exact h6⟩

theorem Arg.plain {m : Nat → Nat} {n : Nat} {c d : AV} (h : Arg m n c d) (hd : d.plain = true) : c.plain = true := by
  cases h <;> first | rfl | (cases hd; done) | skip
  rename_i hfl
  cases c <;> simp_all [AV.flat, AV.plain]
theorem Arg.not_plain {m : Nat → Nat} {n : Nat} {c d : AV} (h : Arg m n c d) (hd : ¬ d.plain = true) : d = .non ∨ (∃ s rows, c = .arr s rows ∧ d = .arr s rows) ∨ ∃ k, c = .tok k ∧ d = .tok k := by
  cases h <;> first | exact .inl rfl | exact .inr (.inl ⟨_, _, rfl, rfl⟩) | exact .inr (.inr ⟨_, rfl, rfl⟩) | (simp [AV.plain] at hd; done) | skip
  rename_i hfl
  cases c <;> simp_all [AV.flat, AV.plain, AV.low]

theorem stp_call {Γ : Ctx} {o : Oper} {fo : Operand} {asv : Array Operand} {ts : Array TypeId} (ho : o.op = .call { callee := .value fo, args := asv, argTypes := ts }) {S : FSt} {f : Nat} {caps : List AV}
    (hfo : S.ev fo = .fn f caps) (hc : Callable P f) {m : Nat → Nat} {n base : Nat} {H H' : List (List AV)} {args : List AV} {r : AV} (hargs : Args m n (asv.toList.map S.ev ++ caps) args) (hm : Meets P f H args r H')
    (hh : Hand S m n base H H') : Stp Γ P o S (keysOf m 0 n H) (callEff o.dst m n base r H') := by
  intro S' a w hn hr hrd hf hz hR K Q hK
  obtain ⟨E, hE, hS⟩ := hR
  have hmf : fo ∈ o.op.operands.toList := by rw [ho]; simp [Op.operands, Call.operands]
  have hvf := hS.ev fo
  rw [ev_congr hr hmf, hfo] at hvf
  generalize haf : a.eval fo = vf at hvf
  cases hvf with
  | fn f caps vcaps hlc hcaps =>
  -- the arguments
  have hacts : VRs E (asv.toList.map S.ev ++ caps) ((asv.map a.eval) ++ vcaps).toList := by
    rw [Array.toList_append]
    refine VRs.append ?_ ⟨by simpa using hlc, fun j c v x y => hcaps j c v x (by simpa using y)⟩
    have h1 : asv.toList.map S.ev = asv.toList.map S'.ev := List.map_congr_left fun x hx => (ev_congr hr (by rw [ho]; simp [Op.operands, Call.operands]; exact .inr (by simpa using hx))).symm
    rw [h1, Array.toList_map]
    exact map_VR hS.ev asv.toList
  -- the blocks that are handed over
  have hkd : ∀ b, b < n → E.kd (m b) = 1 ∨ E.kd (m b) = 2 ∨ E.kd (m b) = 3 := fun b hb => by
    have h1 := hS.cell (m b) 0
    have hlen : 0 < (nthB H b).length := by
      rcases Nat.eq_zero_or_pos (nthB H' b).length with h0 | h0
      · exact absurd (hh.keep b 0 hb (by omega)) (hh.one b hb).1
      · exact (hh.full b 0 hb h0).2
    rw [hrd (m b, 0) (mem_keysOf m H n 0 b 0 (Nat.zero_le _) (by omega) hlen)] at h1
    by_cases hp : (S.cell (m b) 0).plain = true
    · rw [CellOk.plain hp] at h1
      exact .inl h1.1
    · have h2 := (hh.one b hb).2
      cases hc : S.cell (m b) 0 <;> rw [hc] at h1 h2 hp <;> first | (exact absurd h2 hp) | skip
      case arr s rows => exact .inr (.inr h1.2.1)
      case tok k => exact .inr (.inl h1.2.1)
  have hne : ∀ b, b < n → E.kd (m b) ≠ 0 := fun b hb => by rcases hkd b hb with h | h | h <;> rw [h] <;> decide
  let E0 : Env := { F := E.F, kd := fun b => if b < n then E.kd (m b) else 0, bk := fun b => E.bk (m b), tk := fun b => E.tk (m b) }
  let X : List Nat := (List.range n).filterMap fun b => E.bk (m b)
  have hX : ∀ g, g ∈ X ↔ ∃ b, b < n ∧ E.bk (m b) = some g := fun g => by simp [X]
  have hkd0 : ∀ b, b < n → E0.kd b = E.kd (m b) ∧ E0.bk b = E.bk (m b) ∧ E0.tk b = E.tk (m b) := fun b hb => ⟨by simp [E0, hb], rfl, rfl⟩
  have hEk : ∀ b, E0.kd b ≠ 0 → b < n := fun b hb => by
    simp only [E0] at hb
    split at hb
    · assumption
    · exact absurd rfl hb
  have hE0 : EOk ⟨w, X, E0, H.length⟩ E0 w := by
    have hbx : ∀ b, E0.kd b = 1 ∨ E0.kd b = 3 → ∃ g, E0.bk b = some g ∧ g < w.heap.size ∧ Ctx.mine ⟨w, X, E0, H.length⟩ g ∧ ∀ a v, E0.F a v → a.block ≠ g := fun b hb => by
      have hbn := hEk b (by rcases hb with h | h <;> rw [h] <;> decide)
      rw [(hkd0 b hbn).1] at hb
      rcases hb with h1 | h1
      · obtain ⟨g', h3, h4, _, h5⟩ := hE.box (m b) h1
        exact ⟨g', h3, h4, .inr ((hX g').2 ⟨b, hbn, h3⟩), h5⟩
      · obtain ⟨g', h3, h4, _, h5⟩ := hE.arb (m b) h1
        exact ⟨g', h3, h4, .inr ((hX g').2 ⟨b, hbn, h3⟩), h5⟩
    exact {
      le := Env.Le.refl _
      os := rfl
      tape := rfl
      output := rfl
      size := Nat.le_refl _
      old := fun _ _ _ => rfl
      F := hE.F
      box := fun b hb => hbx b (.inl hb)
      arb := fun b hb => hbx b (.inr hb)
      tok := fun t ht => by
        have htn := hEk t (by rw [ht]; decide)
        rcases hE.tok (m t) ((hkd0 t htn).1.symm.trans ht) with h1 | ⟨g, cap, xs, h1, h2, h3, h4, _⟩
        · exact .inl h1
        · exact .inr ⟨g, cap, xs, h1, h2, h3, h4, .inr ((hX g).2 ⟨t, htn, h1⟩)⟩
      fnew := fun _ _ x => .inl x
      kd3 := fun b => by
        simp only [E0]; split
        · exact hE.kd3 _
        · exact .inl rfl
      new := fun _ _ hk hg => .inl ⟨hk, hg⟩
      inj := fun b b' g hb hb' hg hg' => by
        have h1 := hEk b hb
        have h2 := hEk b' hb'
        exact hh.inj b b' h1 h2 (hE.inj (m b) (m b') g (hne b h1) (hne b' h2) hg hg')
      gl := hE.gl
      gm := hE.gm.keep (fun _ _ x => x) (fun _ _ _ => rfl) (fun b g hk hg => .inl ⟨m b, hne b (hEk b hk), hg⟩) (fun _ _ h => nomatch h)
      kpn := fun _ _ h => nomatch h
      hx := fun b hb => by
        show b < H.length
        rw [hh.len]
        exact hEk b hb }
  have hH0 : HOk E0 w H := by
    refine ⟨fun b j => ?_, fun b hb => by simp only [E0]; rw [if_neg (by rw [hh.len] at hb; omega)]⟩
    by_cases hb : b < n
    · by_cases hj : j < (nthB H b).length
      · have h1 := hS.cell (m b) j
        rw [hrd (m b, j) (mem_keysOf m H n 0 b j (Nat.zero_le _) (by omega) hj)] at h1
        have ha := hh.cell b j hb hj
        generalize nth (nthB H b) j = d at ha
        by_cases hd : d.plain = true
        · -- a cell
          have hcp := ha.plain hd
          rw [CellOk.plain hcp] at h1
          rw [CellOk.plain hd]
          obtain ⟨e0, g, v, e1, e2, e3, e4⟩ := h1
          exact ⟨(hkd0 b hb).1.trans e0, g, v, e1, e2, e3, ha.vr (E := E) (E' := E0) (fun _ _ x => x) hkd0 e4⟩
        · rcases ha.not_plain hd with this | ⟨s, rows, hc1, rfl⟩ | ⟨k, hc1, rfl⟩
          · rw [this]; trivial
          · rw [hc1] at h1
            obtain ⟨e0, e1, el, g, e2, e3, e4⟩ := h1
            exact ⟨e0, (hkd0 b hb).1.trans e1, el, g, e2, e3, e4⟩
          · rw [hc1] at h1
            exact ⟨h1.1, (hkd0 b hb).1.trans h1.2.1, h1.2.2⟩
      · rw [nth_ge (by omega)]; trivial
    · rw [nthB_ge H b (by rw [hh.len]; omega)]; trivial
  have hrun : (execOp a.eval o).run P w = .ok (.enter f ((asv.map a.eval) ++ vcaps)) w := by
    simp only [execOp, ho, resolve, Sem.run_bind, haf, Deferred.ofValue, Sem.run_pure, Result.andThen_ok, invoke]
    rw [Array.empty_append]
    exact run_callFunc w hc _
  unfold Oper.wp
  rw [hrun, Oper.upon_enter]
  refine (hm w E0 X _ rfl hE0 hH0 (fun b hb => by rw [hh.len] at hb; rw [(hkd0 b hb).1]; exact hne b hb) (hargs.vrs (E := E) (E' := E0) (fun _ _ x => x) hkd0 hacts)).mono ?_
  rintro e w' ⟨v, E', rfl, hE', hH', hv⟩
  refine hK _ _ ?_
  -- the caller's environment behind the call
  let k : Nat := H'.length - n
  let m' := newIds m n base
  let new : Nat → Bool := fun x => decide (base ≤ x) && decide (x < base + k)
  let ht : Nat → Prop := fun x => ∃ b, b < n ∧ x = m b ∧ E.kd x = 2
  let E2 : Env := { F := E'.F, kd := fun x => if new x then E'.kd (x - base + n) else E.kd x, bk := fun x => if new x then E'.bk (x - base + n) else if h : ht x then E'.bk h.choose else E.bk x, tk := fun x => if new x then E'.tk (x - base + n) else if h : ht x then E'.tk h.choose else E.tk x, kp := E.kp }
  have hnew : ∀ x, (callEff o.dst m n base r H').new x = new x := fun x => by simp [Eff.new, callEff, new, k]
  have hnk : ∀ x, new x = true → E.kd x = 0 := fun x hx => hS.dom x (hf x (by rw [hnew]; exact hx))
  have hmn : ∀ b, b < n → new (m b) = false := fun b hb => by
    cases hx : new (m b) with
    | false => rfl
    | true => exact absurd (hnk _ hx) (hne b hb)
  have hm'old : ∀ b, b < n → m' b = m b := fun b hb => by simp [m', newIds, hb]
  have hm'new : ∀ b, n ≤ b → b < H'.length → new (m' b) = true ∧ m' b - base + n = b := fun b h1 h2 => by
    have : ¬ b < n := by omega
    simp [m', newIds, this, new, k]
    omega
  have hE't : ∀ b, b < n → E.kd (m b) = 3 → E'.tk b = E.tk (m b) := fun b hb h3 => (hE'.le.ar b ((hkd0 b hb).1.trans h3)).2.2
  have hE'k : ∀ b, b < n → E'.kd b = E.kd (m b) := fun b hb => by
    rcases hkd b hb with hg | hg | hg
    · exact (hE'.le.box b ((hkd0 b hb).1.trans hg)).1.trans hg.symm
    · exact (hE'.le.tok b ((hkd0 b hb).1.trans hg)).1.trans hg.symm
    · exact (hE'.le.ar b ((hkd0 b hb).1.trans hg)).1.trans hg.symm
  have hE'b : ∀ b, b < n → E.kd (m b) ≠ 2 → E'.bk b = E.bk (m b) := fun b hb h2 => by
    rcases hkd b hb with hg | hg | hg
    · exact (hE'.le.box b ((hkd0 b hb).1.trans hg)).2
    · exact absurd hg h2
    · exact (hE'.le.ar b ((hkd0 b hb).1.trans hg)).2.1
  have hE'n : ∀ b, b < n → E'.kd b ≠ 0 := fun b hb => by rw [hE'k b hb]; exact hne b hb
  have hE2tok : ∀ b, b < n → E.kd (m b) = 2 → E2.kd (m b) = 2 ∧ E2.bk (m b) = E'.bk b ∧ E2.tk (m b) = E'.tk b := fun b hb h2 => by
    have hx : ht (m b) := ⟨b, hb, rfl, h2⟩
    have hc : hx.choose = b := by
      obtain ⟨h3, h4, _⟩ := hx.choose_spec
      exact hh.inj _ _ h3 hb h4.symm
    refine ⟨by simp only [E2, hmn b hb, Bool.false_eq_true, if_false]; exact h2, ?_, ?_⟩
    · simp only [E2, hmn b hb, Bool.false_eq_true, if_false, dif_pos hx, hc]
    · simp only [E2, hmn b hb, Bool.false_eq_true, if_false, dif_pos hx, hc]
  have hE2old : ∀ x, new x = false → ¬ ht x → E2.kd x = E.kd x ∧ E2.bk x = E.bk x ∧ E2.tk x = E.tk x := fun x hn' hx => by
    refine ⟨?_, ?_, ?_⟩
    · simp only [E2, hn', Bool.false_eq_true, if_false]
    · simp only [E2, hn', Bool.false_eq_true, if_false, dif_neg hx]
    · simp only [E2, hn', Bool.false_eq_true, if_false, dif_neg hx]
  have hnt : ∀ x, E.kd x ≠ 2 → ¬ ht x := fun x hx ⟨_, _, _, h⟩ => hx h
  have hkd2 : ∀ b, E'.kd b ≠ 0 → E2.kd (m' b) = E'.kd b ∧ E2.bk (m' b) = E'.bk b ∧ ((E'.kd b = 2 ∨ E'.kd b = 3) → E2.tk (m' b) = E'.tk b) := fun b hb => by
    by_cases hbn : b < n
    · rw [hm'old b hbn]
      by_cases h2 : E.kd (m b) = 2
      · obtain ⟨k1, k2, k3⟩ := hE2tok b hbn h2
        exact ⟨k1.trans (h2.symm.trans (hE'k b hbn).symm), k2, fun _ => k3⟩
      · obtain ⟨k1, k2, k3⟩ := hE2old (m b) (hmn b hbn) (hnt _ h2)
        refine ⟨k1.trans (hE'k b hbn).symm, k2.trans (hE'b b hbn h2).symm, fun hx => ?_⟩
        rcases hx with hx | hx
        · exact absurd ((hE'k b hbn).symm.trans hx) h2
        · exact k3.trans (hE't b hbn ((hE'k b hbn).symm.trans hx)).symm
    · have hbl : b < H'.length := Nat.lt_of_not_le fun hx => hb (hH'.2 b hx)
      obtain ⟨h1, h2⟩ := hm'new b (by omega) hbl
      refine ⟨?_, ?_, fun _ => ?_⟩ <;> simp only [E2, h1, if_true, h2]
  have hFE : ∀ a v, E.F a v → E'.F a v := hE'.le.F
  have hnf : ∀ x, E.kd x ≠ 0 → new x = false := fun x hx => by
    cases hn' : new x with
    | false => rfl
    | true => exact absurd (hnk x hn') hx
  have hle2 : E.Le E2 := ⟨hFE, fun x hx => by
      obtain ⟨k1, k2, _⟩ := hE2old x (hnf x (by rw [hx]; decide)) (hnt x (by rw [hx]; decide))
      exact ⟨k1.trans hx, k2⟩, fun x hx => by
      by_cases hxt : ht x
      · obtain ⟨b, hb, rfl, _⟩ := hxt
        obtain ⟨k1, _, k3⟩ := hE2tok b hb hx
        refine ⟨k1, ?_⟩
        rw [k3]
        exact (hE'.le.tok b ((hkd0 b hb).1.trans hx)).2
      · obtain ⟨k1, _, k3⟩ := hE2old x (hnf x (by rw [hx]; decide)) hxt
        exact ⟨k1.trans hx, .inl k3⟩, fun x hx => by
      obtain ⟨k1, k2, k3⟩ := hE2old x (hnf x (by rw [hx]; decide)) (hnt x (by rw [hx]; decide))
      exact ⟨k1.trans hx, k2, k3⟩, fun _ _ x => x⟩
  have hmine : ∀ g, Ctx.mine ⟨w, X, E0, H.length⟩ g → Γ.mine g := fun g hg => by
    rcases hg with hg | hg
    · exact .inl (Nat.le_trans hE.size hg)
    · obtain ⟨b, hb, hg'⟩ := (hX g).1 hg
      exact (hE.lt (hne b hb) hg').2
  -- a block of the caller's that was not handed over is asv it was
  have hkeep : ∀ x g, E.kd x ≠ 0 → E.bk x = some g → (∀ b, b < n → x ≠ m b) → w'.heap[g]? = w.heap[g]? ∧ ∀ a v, E'.F a v → a.block = g → E.F a v := fun x g hx hg hxm => by
    have hlt := (hE.lt hx hg).1
    have hnX : g ∉ X := fun hgX => by
      obtain ⟨b, hb, hg'⟩ := (hX g).1 hgX
      exact hxm b hb (hE.inj x (m b) g hx (hne b hb) hg hg')
    refine ⟨hE'.old g hlt hnX, fun a v hav hblk => ?_⟩
    rcases hE'.fnew a v hav with h1 | h1 | h1
    · exact h1
    · simp only at h1; omega
    · exact absurd (hblk ▸ h1) hnX
  have holdk : ∀ x, E2.kd x ≠ 0 → new x = false → E.kd x ≠ 0 ∧ E2.kd x = E.kd x := fun x hx hn' => by
    have e1 : E2.kd x = E.kd x := by simp only [E2, hn', Bool.false_eq_true, if_false]
    rw [e1] at hx
    exact ⟨hx, e1⟩
  have hnewk : ∀ x, new x = true → ∃ b, n ≤ b ∧ b < H'.length ∧ x - base + n = b ∧ E2.kd x = E'.kd b ∧ E2.bk x = E'.bk b ∧ E2.tk x = E'.tk b := fun x hx => by
    refine ⟨x - base + n, by omega, ?_, rfl, by simp [E2, hx], by simp [E2, hx], by simp [E2, hx]⟩
    simp [new, k] at hx
    omega
  -- new blocks of the callee lie behind all that was there
  have hfresh : ∀ b g, n ≤ b → E'.kd b ≠ 0 → E'.bk b = some g → w.heap.size ≤ g := fun b g hb hk' hg => by
    rcases hE'.new b g hk' hg with ⟨h1, _⟩ | h1
    · have := hEk b h1; omega
    · exact h1
  -- each block is either asv it was, or the callee's
  have hsrc : ∀ x g, E2.kd x ≠ 0 → E2.bk x = some g → (E.kd x ≠ 0 ∧ E.bk x = some g) ∨ ∃ b, x = m' b ∧ E'.kd b ≠ 0 ∧ E'.bk b = some g := fun x g hx hg => by
    cases hn' : new x with
    | true =>
      obtain ⟨b, hb1, hb2, hb3, hb4, hb5, _⟩ := hnewk x hn'
      refine .inr ⟨b, ?_, by rw [← hb4]; exact hx, hb5.symm.trans hg⟩
      have : ¬ b < n := by omega
      simp [new] at hn'
      simp [m', newIds, this]
      omega
    | false =>
      by_cases hxt : ht x
      · obtain ⟨b, hb, rfl, h2⟩ := hxt
        exact .inr ⟨b, (hm'old b hb).symm, hE'n b hb, (hE2tok b hb h2).2.1.symm.trans hg⟩
      · obtain ⟨k1, k2, _⟩ := hE2old x hn' hxt
        exact .inl ⟨k1 ▸ hx, k2.symm.trans hg⟩
  have hmix : ∀ x b g, E.kd x ≠ 0 → E.bk x = some g → E'.kd b ≠ 0 → E'.bk b = some g → x = m' b := fun x b g hx hgx hb hgb => by
    rcases hE'.new b g hb hgb with ⟨h1, h2⟩ | h1
    · have hbn := hEk b h1
      rw [hm'old b hbn]
      exact hE.inj x (m b) g hx (hne b hbn) hgx h2
    · have := (hE.lt hx hgx).1
      simp only at h1
      omega
  have hE2 : EOk Γ E2 w' := by
    have hbx : ∀ x (q : Nat), q = 1 ∨ q = 3 → E2.kd x = q → ∃ g, E2.bk x = some g ∧ g < w'.heap.size ∧ Γ.mine g ∧ ∀ a v, E2.F a v → a.block ≠ g := fun x q hq hx => by
      have hx0 : E2.kd x ≠ 0 := by rw [hx]; omega
      cases hn' : new x with
      | true =>
        obtain ⟨b, hb1, hb2, hb3, hb4, hb5, _⟩ := hnewk x hn'
        rw [hb4] at hx
        have key : ∃ g, E'.bk b = some g ∧ g < w'.heap.size ∧ ∀ a v, E'.F a v → a.block ≠ g := by
          rcases hq with rfl | rfl
          · obtain ⟨g, h1, h2, h3, h4⟩ := hE'.box b hx; exact ⟨g, h1, h2, h4⟩
          · obtain ⟨g, h1, h2, h3, h4⟩ := hE'.arb b hx; exact ⟨g, h1, h2, h4⟩
        obtain ⟨g, h1, h2, h4⟩ := key
        exact ⟨g, hb5.trans h1, h2, .inl (Nat.le_trans hE.size (hfresh b g hb1 (by rw [hx]; omega) h1)), h4⟩
      | false =>
        obtain ⟨h0, h1⟩ := holdk x hx0 hn'
        rw [h1] at hx
        have h2 : E2.bk x = E.bk x := (hE2old x hn' (hnt x (by rw [hx]; omega))).2.1
        have key : ∃ g, E.bk x = some g ∧ g < w.heap.size ∧ Γ.mine g ∧ ∀ a v, E.F a v → a.block ≠ g := by
          rcases hq with rfl | rfl
          · exact hE.box x hx
          · exact hE.arb x hx
        obtain ⟨g, h3, h4, h5, h6⟩ := key
        refine ⟨g, h2.trans h3, Nat.lt_of_lt_of_le h4 hE'.size, h5, fun a v hav hblk => ?_⟩
        by_cases hxm : ∃ b, b < n ∧ x = m b
        · obtain ⟨b, hb, rfl⟩ := hxm
          have k1 := hE'k b hb
          have k2 := hE'b b hb (by rw [hx]; omega)
          have key2 : ∃ g, E'.bk b = some g ∧ ∀ a v, E'.F a v → a.block ≠ g := by
            rw [hx] at k1
            rcases hq with rfl | rfl
            · obtain ⟨g', k3, _, _, k4⟩ := hE'.box b k1; exact ⟨g', k3, k4⟩
            · obtain ⟨g', k3, _, _, k4⟩ := hE'.arb b k1; exact ⟨g', k3, k4⟩
          obtain ⟨g', k3, k4⟩ := key2
          rw [k2, h3] at k3; injection k3 with k3; subst k3
          exact k4 a v hav hblk
        · exact h6 a v ((hkeep x g h0 h3 (fun b hb e => hxm ⟨b, hb, e⟩)).2 a v hav hblk) hblk
    refine { le := hE.le.trans hle2, os := hE'.os.trans hE.os, tape := hE'.tape.trans hE.tape, output := hE'.output.trans hE.output, size := Nat.le_trans hE.size hE'.size, old := fun g hg hgX => ?_, F := hE'.F, box := fun x hx => hbx x 1 (.inl rfl) hx, tok := fun x hx => ?_, fnew := fun a v hav => ?_, kd3 := fun x => ?_, arb := fun x hx => hbx x 3 (.inr rfl) hx, new := fun x g hx hg => ?_, inj := fun x y g hx hy hgx hgy => ?_, hx := hE.hx, gl := hE'.gl, gm := ⟨fun i f hf => ?_, fun g cs hcs => ?_, fun g o ho => ?_⟩, kpn := hE.kpn }
    · have hnX : g ∉ X := fun h1 => by
        obtain ⟨b, hb, hg'⟩ := (hX g).1 h1
        rcases (hE.lt (hne b hb) hg').2 with h4 | h4
        · omega
        · exact hgX h4
      rw [hE'.old g (Nat.lt_of_lt_of_le hg hE.size) hnX]
      exact hE.old g hg hgX
    · have back : ∀ b, E'.kd b = 2 → E2.bk x = E'.bk b → E2.tk x = E'.tk b → TOk Γ E2 w' x := fun b hb hb5 hb6 => by
        rcases hE'.tok b hb with ⟨h1, h2, h3⟩ | ⟨g, cap, xs, h1, h2, h3, h4, h5⟩
        · exact .inl ⟨hb5.trans h1, by rw [hb6]; exact h2, by rw [hb6]; exact h3⟩
        · exact .inr ⟨g, cap, xs, hb5.trans h1, by rw [hb6]; exact h2, by rw [hb6]; exact h3, fun a v x y => by rw [hb6]; exact h4 a v x y, hmine g h5⟩
      cases hn' : new x with
      | true =>
        obtain ⟨b, hb1, hb2, hb3, hb4, hb5, hb6⟩ := hnewk x hn'
        rw [hb4] at hx
        exact back b hx hb5 hb6
      | false =>
        obtain ⟨h0, h1⟩ := holdk x (by rw [hx]; decide) hn'
        rw [h1] at hx
        by_cases hxt : ht x
        · obtain ⟨b, hb, rfl, _⟩ := hxt
          obtain ⟨_, k2, k3⟩ := hE2tok b hb hx
          exact back b ((hE'k b hb).trans hx) k2 k3
        · obtain ⟨_, h2, h3⟩ := hE2old x hn' hxt
          have hxm : ∀ b, b < n → x ≠ m b := fun b hb e => hxt ⟨b, hb, e, hx⟩
          refine (hE.tok x hx).keep h2 h3 (fun g hg _ => (hkeep x g h0 hg hxm).1) (fun g a v hg hav hblk => (hkeep x g h0 hg hxm).2 a v hav hblk)
    · rcases hE'.fnew a v hav with h1 | h1
      · exact hE.fnew a v h1
      · exact .inr (hmine _ h1)
    · simp only [E2]; split
      · exact hE'.kd3 _
      · exact hE.kd3 _
    · rcases hsrc x g hx hg with ⟨h1, h2⟩ | ⟨b, hb1, hb2, hb3⟩
      · exact hE.new x g h1 h2
      · rcases hE'.new b g hb2 hb3 with ⟨h1, h2⟩ | h1
        · have hbn := hEk b h1
          rw [hb1, hm'old b hbn]
          exact hE.new (m b) g (hne b hbn) h2
        · exact .inr (Nat.le_trans hE.size h1)
    · rcases hsrc x g hx hgx with ⟨h1, h2⟩ | ⟨b, hb1, hb2, hb3⟩ <;> rcases hsrc y g hy hgy with ⟨k1, k2⟩ | ⟨c, hc1, hc2, hc3⟩
      · exact hE.inj x y g h1 k1 h2 k2
      · rw [hc1]; exact hmix x c g h1 h2 hc2 hc3
      · rw [hb1]; exact (hmix y b g k1 k2 hb2 hb3).symm
      · rw [hb1, hc1, hE'.inj b c g hb2 hc2 hb3 hc3]
    · obtain ⟨g, es, clock, q1, q2, q3, q4⟩ := hE'.gm.map i f hf
      refine ⟨g, es, clock, q1, q2, q3, fun x hx hgx => ?_⟩
      rcases hsrc x g hx hgx with ⟨h1, h2⟩ | ⟨b, _, hb2, hb3⟩
      · obtain ⟨g', es', clock', p1, p2, p3, p4⟩ := hE.gm.map i f hf
        have e1 := (hE'.F _ _ (hFE _ _ p1)).1.symm.trans (hE'.F _ _ q1).1
        injection e1 with e1
        injection e1 with e1
        injection e1 with e1
        exact p4 x h1 (e1 ▸ h2)
      · exact q4 b hb2 hb3
    · obtain ⟨t, fr, q2, q4⟩ := hE'.gm.tab g cs hcs
      refine ⟨t, fr, q2, fun x hx hgx => ?_⟩
      rcases hsrc x g hx hgx with ⟨h1, h2⟩ | ⟨b, _, hb2, hb3⟩
      · obtain ⟨_, _, _, p4⟩ := hE.gm.tab g cs hcs
        exact p4 x h1 h2
      · exact q4 b hb2 hb3
    · obtain ⟨q1, q2⟩ := hE.gm.kp g o ho
      have hlt : g < w.heap.size := (Array.getElem?_eq_some_iff.1 q1).1
      have hnX : g ∉ X := fun h1 => by
        obtain ⟨b, hb, hg'⟩ := (hX g).1 h1
        exact q2 (m b) (hne b hb) hg'
      refine ⟨(hE'.old g hlt hnX).trans q1, fun x hx hgx => ?_⟩
      rcases hsrc x g hx hgx with ⟨h1, h2⟩ | ⟨b, hb1, hb2, hb3⟩
      · exact q2 x h1 h2
      · rcases hE'.new b g hb2 hb3 with ⟨h1, h2⟩ | h1
        · have hbn := hEk b h1
          exact q2 (m b) (hne b hbn) h2
        · have : w.heap.size ≤ g := h1
          omega
  refine ⟨E2, hE2, hS.step hle2 (e := callEff o.dst m n base r H') (ren_VR (E := E') (E' := E2) (m := m') (fun _ _ x => x) hkd2 hv) (fun x j => ?_) (fun x hx => ?_)⟩
  · simp only [FSt.apply, hnew]
    by_cases hx : new x = true
    · rw [if_pos hx]
      obtain ⟨b, hb1, hb2, hb3, _⟩ := hnewk x hx
      have hxm : x = m' b := by
        have : ¬ b < n := by omega
        simp [new] at hx
        simp [m', newIds, this]
        omega
      have h1 := (hH'.1 b j).ren (E := E') (E' := E2) (m := m') (fun _ _ x => x) hkd2
      rw [← hxm] at h1
      have e1 : ((callEff o.dst m n base r H').news.getD (x - (callEff o.dst m n base r H').base) []).getD j .non = ren m' (nth (nthB H' b) j) := by
        have hnb : ∀ (L : List (List AV)) (i : Nat), L.getD i [] = nthB L i := by
          intro L
          induction L with
          | nil => intro i; rfl
          | cons c L ih => intro i; cases i with
            | zero => rfl
            | succ i => simpa [nthB] using ih i
        have hdrop : ∀ (L : List (List AV)) (q i : Nat), nthB (L.drop q) i = nthB L (q + i) := by
          intro L
          induction L with
          | nil => intro q i; simp [nthB]
          | cons c L ih => intro q i; cases q with
            | zero => simp
            | succ q => rw [List.drop_succ_cons, ih q i, show q + 1 + i = (q + i) + 1 by omega]; rfl
        have hmapB : ∀ (L : List (List AV)) (i : Nat), nthB (L.map fun l => l.map (ren m')) i = (nthB L i).map (ren m') := by
          intro L
          induction L with
          | nil => intro i; rfl
          | cons c L ih => intro i; cases i with
            | zero => rfl
            | succ i => exact ih i
        simp only [callEff]
        rw [hnb, hmapB, hdrop, show n + (x - base) = b by omega]
        simp only [List.getD, List.getElem?_map, nth_eq]
        cases (nthB H' b)[j]? <;> rfl
      rw [e1]
      exact h1
    · rw [if_neg hx]
      simp only [callEff]
      by_cases hxm : ∃ b, b < n ∧ x = m b
      · obtain ⟨b, hb, rfl⟩ := hxm
        by_cases hj : j < (nthB H' b).length
        · rw [wrs_backs_hit m _ H' n 0 b j _ (fun x y _ h1 _ h2 h3 => hh.inj x y (by omega) (by omega) h3) (Nat.zero_le _) (by omega) hj]
          have h1 := (hH'.1 b j).ren (E := E') (E' := E2) (m := m') (fun _ _ x => x) hkd2
          rw [hm'old b hb] at h1
          exact h1
        · rw [wrs_backs_miss m _ H' (m b) j n 0 _ (fun c _ hc e => by
            have := hh.inj b c hb (by omega) e
            subst this; omega)]
          rw [hz (m b) j (hh.dom b hb) (hh.keep b j hb (by omega))]
          trivial
      · rw [wrs_backs_miss m _ H' x j n 0 _ (fun b _ hb e => absurd ⟨b, by omega, e⟩ hxm)]
        refine (hS.cell x j).keep hle2 (fun g hk hg _ => (hkeep x g (by rcases hk with h | h <;> rw [h] <;> decide) hg (fun b hb e => hxm ⟨b, hb, e⟩)).1) (fun hk => ?_)
        exact (hE2old x (hnf x (by rw [hk]; decide)) (fun ⟨b, hb, e, _⟩ => hxm ⟨b, hb, e⟩)).2.2
  · simp only [FSt.apply, hnew, Bool.or_eq_false_iff] at hx
    simp only [E2, hx.2, Bool.false_eq_true, if_false]
    exact hS.dom x hx.1

/-- Blocks without those of K. -/
def maskH (K : Nat → Bool) : Nat → List (List AV) → List (List AV)
  | _, [] => []
  | i, l :: r => (if K i = true then [] else l) :: maskH K (i + 1) r
theorem maskH_get (K : Nat → Bool) : ∀ (H : List (List AV)) (i b : Nat), nthB (maskH K i H) b = if K (i + b) = true then [] else nthB H b
  | [], i, b => by simp [maskH, nthB]
  | l :: r, i, 0 => rfl
  | l :: r, i, b + 1 => by
    show nthB (maskH K (i + 1) r) b = _
    rw [maskH_get K r (i + 1) b, show i + 1 + b = i + (b + 1) by omega]; rfl
/-- What a call does that leaves the blocks of K as they were. -/
def roEff (K : Nat → Bool) (dst : Option Nat) (m : Nat → Nat) (n base : Nat) (r : AV) (H' : List (List AV)) : Eff :=
  ⟨dst, ren (newIds m n base) r, backs m (newIds m n base) 0 n (maskH K 0 H'), base, (H'.drop n).map fun l => l.map (ren (newIds m n base))⟩
/-- These blocks are handed back as they were. -/
def RoOk (K : Nat → Bool) (S : FSt) (m : Nat → Nat) (n base : Nat) (H' : List (List AV)) : Prop := ∀ b j, b < n → K b = true → j < (nthB H' b).length → S.cell (m b) j = ren (newIds m n base) (nth (nthB H' b) j)

theorem stp_call_ro {Γ : Ctx} {o : Oper} {fo : Operand} {asv : Array Operand} {ts : Array TypeId} (ho : o.op = .call { callee := .value fo, args := asv, argTypes := ts }) {S : FSt} {f : Nat} {caps : List AV}
    (hfo : S.ev fo = .fn f caps) (hc : Callable P f) {m : Nat → Nat} {n base : Nat} {H H' : List (List AV)} {args : List AV} {r : AV} (hargs : Args m n (asv.toList.map S.ev ++ caps) args) (hm : Meets P f H args r H')
    (hh : Hand S m n base H H') {K : Nat → Bool} (hro : RoOk K S m n base H') : Stp Γ P o S (keysOf m 0 n H) (roEff K o.dst m n base r H') := by
  intro S' a w hn hr hrd hf hz hR K' Q hK
  refine stp_call ho hfo hc hargs hm hh S' a w hn hr hrd hf hz hR K' Q (fun a' w' h => hK a' w' ?_)
  have e : S'.apply (callEff o.dst m n base r H') = S'.apply (roEff K o.dst m n base r H') := by
    have hc : ∀ x j, wrs (backs m (newIds m n base) 0 n H') S'.cell x j = wrs (backs m (newIds m n base) 0 n (maskH K 0 H')) S'.cell x j := fun x j => by
      have hmask : ∀ b, nthB (maskH K 0 H') b = if K b = true then [] else nthB H' b := fun b => by rw [maskH_get, Nat.zero_add]
      by_cases hx : ∃ b, b < n ∧ x = m b ∧ j < (nthB H' b).length
      · obtain ⟨b, hb, rfl, hj⟩ := hx
        rw [wrs_backs_hit m _ H' n 0 b j _ (fun x y _ a2 _ a4 e => hh.inj x y (by omega) (by omega) e) (Nat.zero_le _) (by omega) hj]
        by_cases hKb : K b = true
        · rw [wrs_backs_miss m _ (maskH K 0 H') (m b) j n 0 _ (fun c _ hc2 e => by
            have := hh.inj b c hb (by omega) e
            subst this
            rw [hmask, if_pos hKb]; exact Nat.zero_le _)]
          rw [← hro b j hb hKb hj]
          exact (hrd (m b, j) (mem_keysOf m H n 0 b j (Nat.zero_le _) (by omega) (hh.full b j hb hj).2)).symm
        · rw [wrs_backs_hit m _ (maskH K 0 H') n 0 b j _ (fun x y _ a2 _ a4 e => hh.inj x y (by omega) (by omega) e) (Nat.zero_le _) (by omega) (by rw [hmask, if_neg hKb]; exact hj)]
          rw [hmask, if_neg hKb]
      · rw [wrs_backs_miss m _ H' x j n 0 _ (fun b _ h2 h3 => Nat.le_of_not_lt fun h4 => hx ⟨b, by omega, h3, h4⟩)]
        rw [wrs_backs_miss m _ (maskH K 0 H') x j n 0 _ (fun b _ h2 h3 => by
          rw [hmask]
          split
          · exact Nat.zero_le _
          · exact Nat.le_of_not_lt fun h4 => hx ⟨b, by omega, h3, h4⟩)]
    unfold FSt.apply
    congr 1
    funext x j
    simp only [callEff, roEff, Eff.new, hc]
    rfl
  rw [← e]; exact h

end Go.Ab
end

section
namespace Go.Ab
open Go Go.RowKit
set_option linter.unusedVariables false
set_option linter.unusedSimpArgs false

variable {P : Program} {T : TT}

/-- The temporary that an operation's guard looks at. -/
def gTmp (all : Array Oper) (o : Oper) : Option Nat := o.guard.bind fun g => (all[g.1]?).bind (·.dst)

def nms (all : Array Oper) (o : Oper) : List Nat := tmpsOf o.op ++ (gTmp all o).toList

/-- Operation number i, carried out or passed over. -/
def Step1 (Γ : Ctx) (P : Program) (all : Array Oper) (i : Nat) (S : FSt) (rd : List (Nat × Nat)) (e : Eff) : Prop :=
  ∀ (S' : FSt) (a : Act) (w : World), S'.n = S.n → (∀ o, all[i]? = some o → ∀ r ∈ nms all o, S'.reg r = S.reg r) → (∀ c ∈ rd, S'.cell c.1 c.2 = S.cell c.1 c.2) → (∀ b, e.new b = true → S'.dom b = false) →
    (∀ b j, S.dom b = true → S.cell b j = .non → S'.cell b j = .non) → Rel Γ S' a w →
    ∀ (K : Act → World → Prop) (Q : Exit → Act → World → Prop), (∀ a' w', Rel Γ (S'.apply e) a' w' → K a' w') → wpOp P all Q i K a w

theorem Stp.step1 {Γ : Ctx} {all : Array Oper} {i : Nat} {o : Oper} {S : FSt} {rd : List (Nat × Nat)} {e : Eff} (ho : all[i]? = some o)
    (hw : ∀ (S' : FSt) (a : Act) (w : World), (∀ r ∈ nms all o, S'.reg r = S.reg r) → Rel Γ S' a w → Region.wanted o (yielded all a.tmps) = true) (h : Stp Γ P o S rd e) : Step1 Γ P all i S rd e := by
  intro S' a w hn hr hrd hf hz hR K Q hK
  unfold wpOp
  simp only [ho]
  rw [if_pos (hw S' a w (hr o ho) hR)]
  exact .inl (h S' a w hn (fun r hm => hr o ho r (by simp [nms, hm])) hrd hf hz hR K Q hK)

theorem step1xskip {Γ : Ctx} {all : Array Oper} {i : Nat} {o : Oper} {S : FSt} (ho : all[i]? = some o)
    (hw : ∀ (S' : FSt) (a : Act) (w : World), (∀ r ∈ nms all o, S'.reg r = S.reg r) → Rel Γ S' a w → Region.wanted o (yielded all a.tmps) = false) (n : Nat) : Step1 Γ P all i S [] ⟨o.dst, .und, [], n, []⟩ := by
  intro S' a w hn hr hrd hf hz hR K Q hK
  unfold wpOp
  simp only [ho]
  rw [if_neg (by rw [hw S' a w (hr o ho) hR]; simp)]
  obtain ⟨E, hE, hS⟩ := hR
  exact hK _ _ ⟨E, hE, hS.pure .und n⟩

theorem wanted_none {o : Oper} (h : o.guard = none) (f : Nat → Option Bool) : Region.wanted o f = true := by simp [Region.wanted, h]

theorem yielded_of {E : Env} {S : FSt} {a : Act} {w : World} (h : SOk E S a w) {all : Array Oper} {j d : Nat} (hd : (all[j]?).bind (·.dst) = some d) :
    (∀ b, S.reg d = .bool b → yielded all a.tmps j = some b) ∧ (S.reg d = .und → yielded all a.tmps j = none) := by
  have hv := h.reg d
  constructor
  · intro b hb
    rw [hb] at hv
    have h1 : a.tmps.getD d undef = .bool b := by
      generalize a.tmps.getD d undef = u at hv
      cases hv; rfl
    have h2 : a.tmps[d]? = some (.bool b) := by
      rw [Array.getD_eq_getD_getElem?] at h1
      cases hx : a.tmps[d]? with
      | none => rw [hx] at h1; cases h1
      | some v => rw [hx] at h1; simpa using h1
    simp [yielded, hd, h2]
  · intro hb
    rw [hb] at hv
    have h1 : a.tmps.getD d undef = undef := by
      generalize a.tmps.getD d undef = u at hv
      cases hv; rfl
    rw [Array.getD_eq_getD_getElem?] at h1
    cases hx : a.tmps[d]? with
    | none => simp [yielded, hd, hx]
    | some v => rw [hx] at h1; simp only [Option.getD_some] at h1; subst h1; simp [yielded, hd, hx, undef]

/-! ### The states -/

/-- The state when of the first k operations those of D have come up. -/
def SD (S0 : FSt) (e : Nat → Eff) (D : Nat → Bool) : Nat → FSt
  | 0 => S0
  | k + 1 => if D k then (SD S0 e D k).apply (e k) else SD S0 e D k

theorem SD_n (S0 : FSt) (e : Nat → Eff) (D : Nat → Bool) : ∀ k, (SD S0 e D k).n = S0.n
  | 0 => rfl
  | k + 1 => by
    rw [SD]
    split
    · exact SD_n S0 e D k
    · exact SD_n S0 e D k

section
variable {S0 : FSt} {e : Nat → Eff} {n : Nat}

theorem SD_reg {D L : Nat → Bool} {r : Nat} (h : ∀ k, k < n → (e k).dst = some r → D k = L k) : ∀ k, k ≤ n → (SD S0 e D k).reg r = (SD S0 e L k).reg r
  | 0, _ => rfl
  | k + 1, hk => by
    have ih := SD_reg h k (by omega)
    by_cases hd : (e k).dst = some r
    · rw [SD, SD, h k (by omega) hd]
      split
      · simp only [FSt.apply, hd, true_and, SD_n]; rw [ih]
      · exact ih
    · have : ∀ S : FSt, (S.apply (e k)).reg r = S.reg r := fun S => by simp [FSt.apply, hd]
      have h2 : ∀ M : Nat → Bool, (SD S0 e M (k + 1)).reg r = (SD S0 e M k).reg r := fun M => by
        rw [SD]; split
        · exact this _
        · rfl
      rw [h2, h2, ih]

/-- A cell that an effect writes. -/
def Eff.hits (f : Eff) (b j : Nat) : Bool := f.new b || f.ws.any fun x => x.1 == b && x.2.1 == j

theorem wrs_miss : ∀ (ws : List (Nat × Nat × AV)) (f : Nat → Nat → AV) (b j : Nat), (ws.any fun x => x.1 == b && x.2.1 == j) = false → wrs ws f b j = f b j
  | [], _, _, _, _ => rfl
  | x :: r, f, b, j, h => by
    simp only [List.any_cons, Bool.or_eq_false_iff] at h
    rw [wrs, wrs_miss r _ b j h.2]
    unfold upd
    rw [if_neg]
    rintro ⟨h1, h2⟩
    subst h1; subst h2
    simp at h

theorem wrs_hit : ∀ (ws : List (Nat × Nat × AV)) (f g : Nat → Nat → AV) (b j : Nat), (ws.any fun x => x.1 == b && x.2.1 == j) = true → wrs ws f b j = wrs ws g b j
  | [], _, _, _, _, h => by simp at h
  | x :: r, f, g, b, j, h => by
    simp only [List.any_cons, Bool.or_eq_true] at h
    rw [wrs, wrs]
    by_cases hr : (r.any fun x => x.1 == b && x.2.1 == j) = true
    · exact wrs_hit r _ _ b j hr
    · have hx : (x.1 == b && x.2.1 == j) = true := h.resolve_right hr
      rw [wrs_miss r _ b j (Bool.eq_false_iff.2 hr), wrs_miss r _ b j (Bool.eq_false_iff.2 hr)]
      simp only [Bool.and_eq_true, beq_iff_eq] at hx
      simp [upd, hx.1, hx.2]

theorem wrs_val : ∀ (ws : List (Nat × Nat × AV)) (f : Nat → Nat → AV) (b j : Nat), (ws.any fun x => x.1 == b && x.2.1 == j) = true → ∃ c, (b, j, c) ∈ ws ∧ wrs ws f b j = c
  | [], _, _, _, h => by simp at h
  | x :: r, f, b, j, h => by
    simp only [List.any_cons, Bool.or_eq_true] at h
    rw [wrs]
    by_cases hr : (r.any fun x => x.1 == b && x.2.1 == j) = true
    · obtain ⟨c, h1, h2⟩ := wrs_val r (upd f x.1 x.2.1 x.2.2) b j hr
      exact ⟨c, List.mem_cons_of_mem _ h1, h2⟩
    · have hx : (x.1 == b && x.2.1 == j) = true := h.resolve_right hr
      simp only [Bool.and_eq_true, beq_iff_eq] at hx
      refine ⟨x.2.2, by rw [← hx.1, ← hx.2]; simp, ?_⟩
      rw [wrs_miss r _ b j (Bool.eq_false_iff.2 hr)]
      simp [upd, hx.1, hx.2]

theorem apply_miss (S : FSt) (f : Eff) {b j : Nat} (h : f.hits b j = false) : (S.apply f).cell b j = S.cell b j := by
  simp only [Eff.hits, Bool.or_eq_false_iff] at h
  simp only [FSt.apply, h.1, Bool.false_eq_true, if_false]
  exact wrs_miss _ _ _ _ h.2

theorem apply_hit (S S' : FSt) (f : Eff) {b j : Nat} (h : f.hits b j = true) : (S.apply f).cell b j = (S'.apply f).cell b j := by
  simp only [FSt.apply]
  split
  · rfl
  · rename_i hn
    simp only [Eff.hits, Bool.or_eq_true] at h
    exact wrs_hit _ _ _ _ _ (h.resolve_left hn)

theorem SD_cell {D L : Nat → Bool} {b j : Nat} (h : ∀ k, k < n → (e k).hits b j = true → D k = L k) : ∀ k, k ≤ n → (SD S0 e D k).cell b j = (SD S0 e L k).cell b j
  | 0, _ => rfl
  | k + 1, hk => by
    have ih := SD_cell h k (by omega)
    cases hd : (e k).hits b j with
    | true =>
      rw [SD, SD, h k (by omega) hd]
      split
      · exact apply_hit _ _ _ hd
      · exact ih
    | false =>
      have h2 : ∀ M : Nat → Bool, (SD S0 e M (k + 1)).cell b j = (SD S0 e M k).cell b j := fun M => by
        rw [SD]; split
        · exact apply_miss _ _ hd
        · rfl
      rw [h2, h2, ih]

theorem SD_dom {D L : Nat → Bool} {b : Nat} (h : ∀ k, k < n → (e k).new b = true → D k = L k) : ∀ k, k ≤ n → (SD S0 e D k).dom b = (SD S0 e L k).dom b
  | 0, _ => rfl
  | k + 1, hk => by
    have ih := SD_dom h k (by omega)
    cases hd : (e k).new b with
    | true =>
      rw [SD, SD, h k (by omega) hd]
      split
      · simp [FSt.apply, hd]
      · exact ih
    | false =>
      have h2 : ∀ M : Nat → Bool, (SD S0 e M (k + 1)).dom b = (SD S0 e M k).dom b := fun M => by
        rw [SD]; split
        · simp [FSt.apply, hd]
        · rfl
      rw [h2, h2, ih]

theorem SD_stop {D : Nat → Bool} (i : Nat) : ∀ k, i ≤ k → (∀ x, i ≤ x → x < k → D x = false) → SD S0 e D k = SD S0 e D i
  | 0, h, _ => by rw [Nat.le_zero.1 h]
  | k + 1, h, hD => by
    rcases Nat.lt_or_ge k i with hk | hk
    · have : i = k + 1 := by omega
      rw [this]
    · rw [SD, hD k hk (by omega), if_neg (by simp)]
      exact SD_stop i k hk (fun x a b => hD x a (by omega))

theorem SD_congr {D L : Nat → Bool} : ∀ k, (∀ x, x < k → D x = L x) → SD S0 e D k = SD S0 e L k
  | 0, _ => rfl
  | k + 1, h => by rw [SD, SD, h k (by omega), SD_congr k (fun x hx => h x (by omega))]

/-- The lexical states. -/
theorem SD_lex {S : Nat → FSt} (h0 : S 0 = S0) (hs : ∀ i, i < n → S (i + 1) = (S i).apply (e i)) : ∀ k, k ≤ n → SD S0 e (fun _ => true) k = S k
  | 0, _ => h0.symm
  | k + 1, hk => by rw [SD, if_pos rfl, SD_lex h0 hs k (by omega), hs k (by omega)]

theorem SD_prefix (i : Nat) {k : Nat} (hk : i ≤ k) : SD S0 e (fun x => decide (x < i)) k = SD S0 e (fun _ => true) i := by
  rw [SD_stop i k hk (fun x a _ => by simp; omega)]
  exact SD_congr i (fun x hx => by simp [hx])

end

/-- All that is asked of a region's trace. -/
structure Trace (Γ : Ctx) (P : Program) (all : Array Oper) (S : Nat → FSt) (e : Nat → Eff) (rd : Nat → List (Nat × Nat)) : Prop where
  step : ∀ i, i < all.size → Step1 Γ P all i (S i) (rd i) (e i)
  next : ∀ i, i < all.size → S (i + 1) = (S i).apply (e i)
  fresh : ∀ i b, i < all.size → (e i).new b = true → (S i).dom b = false
  keep : ∀ i, i < all.size → ∀ x ∈ (e i).ws, (S i).cell x.1 x.2.1 ≠ .non ∧ x.2.2 ≠ .non
  out : ∀ b j, (S 0).dom b = false → (S 0).cell b j = .non
  dst : ∀ (i : Nat) o, all[i]? = some o → (e i).dst = o.dst

structure Indep (all : Array Oper) (e : Nat → Eff) (rd : Nat → List (Nat × Nat)) (i j : Nat) : Prop where
  t1 : ∀ d o, (e i).dst = some d → all[j]? = some o → d ∉ nms all o
  t2 : ∀ d o, (e j).dst = some d → all[i]? = some o → d ∉ nms all o
  t3 : ∀ d, (e i).dst = some d → (e j).dst ≠ some d
  c1 : ∀ c ∈ rd j, (e i).hits c.1 c.2 = false
  c2 : ∀ c ∈ rd i, (e j).hits c.1 c.2 = false
  c3 : ∀ b k, (e i).hits b k = true → (e j).hits b k = false

/-- What is asked of the order. -/
structure Order (all : Array Oper) (e : Nat → Eff) (rd : Nat → List (Nat × Nat)) (B : Nat → Nat → Bool) : Prop where
  back : ∀ (j : Nat) o, all[j]? = some o → ∀ x ∈ o.after, Region.binds .any x = true → x.on < j
  via : ∀ (j : Nat) o i, all[j]? = some o → B j i = true → ∃ x ∈ o.after, Region.binds .any x = true ∧ (x.on = i ∨ B x.on i = true)
  pair : ∀ i j, i < j → j < all.size → B j i = true ∨ Indep all e rd i j

section
variable {Γ : Ctx} {all : Array Oper} {S : Nat → FSt} {e : Nat → Eff} {rd : Nat → List (Nat × Nat)} {B : Nat → Nat → Bool}

/-- The state at a set of operations that have come up. -/
abbrev at_ (S : Nat → FSt) (e : Nat → Eff) (n : Nat) (D : Nat → Bool) : FSt := SD (S 0) e D n

theorem Trace.dom_mono (h : Trace Γ P all S e rd) {b : Nat} : ∀ i k, i ≤ k → k ≤ all.size → (S i).dom b = true → (S k).dom b = true
  | i, 0, hik, _, hd => by rw [Nat.le_zero.1 hik] at hd; exact hd
  | i, k + 1, hik, hk, hd => by
    rcases Nat.lt_or_ge k i with h1 | h1
    · have : i = k + 1 := by omega
      subst this; exact hd
    · rw [h.next k (by omega)]
      simp [FSt.apply, h.dom_mono i k h1 (by omega) hd]

theorem Trace.out' (h : Trace Γ P all S e rd) {b j : Nat} : ∀ k, k ≤ all.size → (S k).dom b = false → (S k).cell b j = .non
  | 0, _, hd => h.out b j hd
  | k + 1, hk, hd => by
    rw [h.next k (by omega)] at hd ⊢
    simp only [FSt.apply, Bool.or_eq_false_iff] at hd
    have ih := h.out' (b := b) (j := j) k (by omega) hd.1
    cases hh : (e k).hits b j with
    | false => rw [apply_miss _ _ hh]; exact ih
    | true =>
      exfalso
      simp only [Eff.hits, hd.2, Bool.false_or] at hh
      obtain ⟨c, h1, _⟩ := wrs_val (e k).ws (S k).cell b j hh
      exact (h.keep k (by omega) _ h1).1 ih

theorem Trace.non1 (h : Trace Γ P all S e rd) (D : Nat → Bool) {b j : Nat} : ∀ k, k ≤ all.size → (SD (S 0) e D k).cell b j ≠ .non → (S k).cell b j ≠ .non
  | 0, _, hx => hx
  | k + 1, hk, hx => by
    have ih := h.non1 D (b := b) (j := j) k (by omega)
    rw [h.next k (by omega)]
    cases hh : (e k).hits b j with
    | false =>
      rw [apply_miss _ _ hh]
      rw [SD] at hx
      split at hx
      · rw [apply_miss _ _ hh] at hx; exact ih hx
      · exact ih hx
    | true =>
      rw [SD] at hx
      split at hx
      · rw [apply_hit _ (S k) _ hh] at hx; exact hx
      · -- it has not come up: the cell was there already, so it is not new
        have hk' := ih hx
        simp only [FSt.apply]
        split
        · rename_i hn
          exact absurd (h.out' k (by omega) (h.fresh k b (by omega) hn)) hk'
        · rename_i hn
          simp only [Eff.hits, Bool.or_eq_true] at hh
          obtain ⟨c, h1, h2⟩ := wrs_val (e k).ws (S k).cell b j (hh.resolve_left hn)
          rw [h2]
          exact (h.keep k (by omega) _ h1).2

theorem Trace.non2 (h : Trace Γ P all S e rd) {b j i : Nat} (hd : (S i).dom b = true) : ∀ k, i ≤ k → k ≤ all.size → (S k).cell b j ≠ .non → (S i).cell b j ≠ .non
  | 0, hik, _, hx => by rw [Nat.le_zero.1 hik]; exact hx
  | k + 1, hik, hk, hx => by
    rcases Nat.lt_or_ge k i with h1 | h1
    · have : i = k + 1 := by omega
      subst this; exact hx
    · refine h.non2 hd k h1 (by omega) ?_
      rw [h.next k (by omega)] at hx
      cases hh : (e k).hits b j with
      | false => rw [apply_miss _ _ hh] at hx; exact hx
      | true =>
        have hnew : (e k).new b = false := by
          cases hn : (e k).new b with
          | false => rfl
          | true =>
            have := h.fresh k b (by omega) hn
            rw [h.dom_mono i k h1 (by omega) hd] at this
            cases this
        simp only [Eff.hits, hnew, Bool.false_or] at hh
        obtain ⟨c, h2, _⟩ := wrs_val (e k).ws (S k).cell b j hh
        exact (h.keep k (by omega) _ h2).1

theorem fs_ext {A C : FSt} (h1 : A.n = C.n) (h2 : ∀ r, A.reg r = C.reg r) (h3 : ∀ b j, A.cell b j = C.cell b j) (h4 : ∀ b, A.dom b = C.dom b) : A = C := by
  cases A; cases C
  simp only at h1 h2 h3 h4
  subst h1
  congr
  · funext r; exact h2 r
  · funext b j; exact h3 b j
  · funext b; exact h4 b

/-- One operation more comes up. -/
theorem Trace.come (h : Trace Γ P all S e rd) (ho : Order all e rd B) {D : Nat → Bool} (hcl : ∀ k i, k < all.size → D k = true → B k i = true → D i = true) {i : Nat} {o : Oper} (hi : all[i]? = some o) (hD : D i = false)
    (hr : ∀ x ∈ o.after, Region.binds .any x = true → D x.on = true) {a : Act} {w : World} (hR : Rel Γ (at_ S e all.size D) a w) {K : Act → World → Prop} {Q : Exit → Act → World → Prop}
    (hK : ∀ a' w', Rel Γ (at_ S e all.size (fun k => D k || decide (k = i))) a' w' → K a' w') : wpOp P all Q i K a w := by
  have hin : i < all.size := (Array.getElem?_eq_some_iff.1 hi).1
  have hlex := SD_lex (S0 := S 0) (e := e) (n := all.size) (S := S) rfl h.next
  -- what stands ahead of i has come up; what waits for i has not
  have hB : ∀ k, B i k = true → D k = true := fun k hk => by
    obtain ⟨x, h1, h2, h3⟩ := ho.via i o k hi hk
    rcases h3 with h3 | h3
    · rw [← h3]; exact hr x h1 h2
    · have hx := hr x h1 h2
      exact hcl x.on k (Nat.lt_trans (ho.back i o hi x h1 h2) hin) hx h3
  have hA : ∀ k, k < all.size → B k i = true → D k = false := fun k hk hb => by
    cases hx : D k with
    | false => rfl
    | true => have := hcl k i hk hx hb; rw [hD] at this; cases this
  -- D and 'less than i' agree on whatever is not apart from i
  have agree : ∀ k, k < all.size → k ≠ i → (k < i → ¬ Indep all e rd k i) → (i < k → ¬ Indep all e rd i k) → D k = decide (k < i) := fun k hk hne h1 h2 => by
    rcases Nat.lt_or_ge k i with hlt | hge
    · have := (ho.pair k i hlt hin).resolve_right (h1 hlt)
      simp [hB k this, hlt]
    · have hgt : i < k := by omega
      have := (ho.pair i k hgt hk).resolve_right (h2 hgt)
      rw [hA k hk this]
      simp; omega
  have hSi : SD (S 0) e (fun x => decide (x < i)) all.size = S i := by rw [SD_prefix i (by omega), hlex i (by omega)]
  have hnm : (at_ S e all.size D).n = (S i).n := by rw [SD_n, ← hlex i (by omega), SD_n]
  refine h.step i hin (at_ S e all.size D) a w hnm (fun o' ho' r hm => ?_) (fun c hc => ?_) (fun b hb => ?_) (fun b j hd hx => ?_) hR K Q (fun a' w' hR' => hK a' w' ?_)
  · rw [hi] at ho'; injection ho' with ho'; subst ho'
    rw [← hSi]
    refine SD_reg (n := all.size) (fun k hk hd => ?_) _ (Nat.le_refl _)
    by_cases hki : k = i
    · subst hki; simp [hD]
    · exact agree k hk hki (fun _ hx => hx.t1 r o hd hi hm) (fun _ hx => hx.t2 r o hd hi hm)
  · rw [← hSi]
    refine SD_cell (n := all.size) (fun k hk hh => ?_) _ (Nat.le_refl _)
    by_cases hki : k = i
    · subst hki; simp [hD]
    · exact agree k hk hki (fun _ hx => by have := hx.c1 c hc; rw [hh] at this; cases this) (fun _ hx => by have := hx.c2 c hc; rw [hh] at this; cases this)
  · -- a number that is new to i is new to nobody else
    have h0 : (S 0).dom b = false := by
      cases hx : (S 0).dom b with
      | false => rfl
      | true => have := h.dom_mono 0 i (Nat.zero_le _) (by omega) hx; rw [h.fresh i b hin hb] at this; cases this
    rw [SD_dom (n := all.size) (L := fun _ => false) (fun k hk hkn => ?_) _ (Nat.le_refl _)]
    · rw [SD_stop 0 all.size (Nat.zero_le _) (fun _ _ _ => rfl)]; exact h0
    · by_cases hki : k = i
      · subst hki; exact hD
      · exfalso
        rcases Nat.lt_or_ge k i with hlt | hge
        · have h1 : (S (k + 1)).dom b = true := by rw [h.next k hk]; simp [FSt.apply, hkn]
          have := h.dom_mono (k + 1) i (by omega) (by omega) h1
          rw [h.fresh i b hin hb] at this; cases this
        · have h1 : (S (i + 1)).dom b = true := by rw [h.next i hin]; simp [FSt.apply, hb]
          have := h.dom_mono (i + 1) k (by omega) (by omega) h1
          rw [h.fresh k b hk hkn] at this; cases this
  · exact Classical.byContradiction fun hc => absurd hx (h.non2 hd all.size (by omega) (Nat.le_refl _) (h.non1 D all.size (Nat.le_refl _) hc))
  · -- the state behind
    have hst : at_ S e all.size (fun k => D k || decide (k = i)) = (at_ S e all.size D).apply (e i) := by
      have hlate : ∀ k, i < k → k < all.size → ¬ Indep all e rd i k → D k = false := fun k h1 h2 h3 => hA k h2 ((ho.pair i k h1 h2).resolve_right h3)
      refine fs_ext ?_ (fun r => ?_) (fun b j => ?_) (fun b => ?_)
      · rw [SD_n]; simp only [FSt.apply]; rw [SD_n]
      · by_cases hd : (e i).dst = some r
        · -- i writes it last
          have e1 : (at_ S e all.size (fun k => D k || decide (k = i))).reg r = (SD (S 0) e (fun k => (D k || decide (k = i)) && decide (k ≤ i)) all.size).reg r := by
            refine SD_reg (n := all.size) (fun k hk hkd => ?_) _ (Nat.le_refl _)
            by_cases hki : k = i
            · subst hki; simp
            · rcases Nat.lt_or_ge k i with hlt | hge
              · simp [Nat.le_of_lt hlt]
              · rw [hlate k (by omega) hk (fun hx => hx.t3 r hd hkd)]; simp [hki]
          rw [e1, SD_stop (i + 1) all.size (by omega) (fun x h1 _ => by simp; omega), SD]
          simp only [decide_true, Bool.or_true, Nat.le_refl, Bool.and_self, if_true, FSt.apply, hd, true_and, SD_n]
          have hreg : ∀ c : AV, (if r < (S 0).n then (e i).val else c) = if r < (S 0).n then (e i).val else c := fun _ => rfl
          by_cases hrn : r < (S 0).n
          · simp [hrn]
          · simp only [hrn, if_false]
            -- a register that is not there: nobody writes it
            have none_ : ∀ (M : Nat → Bool) k, (SD (S 0) e M k).reg r = (S 0).reg r := fun M k => by
              induction k with
              | zero => rfl
              | succ k ih =>
                rw [SD]; split
                · simp only [FSt.apply, SD_n, hrn, and_false, if_false]; exact ih
                · exact ih
            rw [none_, none_]
        · have e1 : (at_ S e all.size (fun k => D k || decide (k = i))).reg r = (at_ S e all.size D).reg r := by
            refine SD_reg (n := all.size) (fun k hk hkd => ?_) _ (Nat.le_refl _)
            have : k ≠ i := fun e' => by subst e'; exact hd hkd
            simp [this]
          rw [e1]
          simp [FSt.apply, hd]
      · cases hh : (e i).hits b j with
        | true =>
          have e1 : (at_ S e all.size (fun k => D k || decide (k = i))).cell b j = (SD (S 0) e (fun k => (D k || decide (k = i)) && decide (k ≤ i)) all.size).cell b j := by
            refine SD_cell (n := all.size) (fun k hk hkd => ?_) _ (Nat.le_refl _)
            by_cases hki : k = i
            · subst hki; simp
            · rcases Nat.lt_or_ge k i with hlt | hge
              · simp [Nat.le_of_lt hlt]
              · rw [hlate k (by omega) hk (fun hx => by have := hx.c3 b j hh; rw [hkd] at this; cases this)]; simp [hki]
          rw [e1, SD_stop (i + 1) all.size (by omega) (fun x h1 _ => by simp; omega), SD]
          simp only [decide_true, Bool.or_true, Nat.le_refl, Bool.and_self, if_true]
          exact apply_hit _ _ _ hh
        | false =>
          rw [apply_miss _ _ hh]
          refine SD_cell (n := all.size) (fun k hk hkd => ?_) _ (Nat.le_refl _)
          have : k ≠ i := fun e' => by subst e'; rw [hh] at hkd; cases hkd
          simp [this]
      · cases hh : (e i).new b with
        | true =>
          simp only [FSt.apply, hh, Bool.or_true]
          have e1 : (at_ S e all.size (fun k => D k || decide (k = i))).dom b = (SD (S 0) e (fun k => decide (k = i)) all.size).dom b := by
            refine SD_dom (n := all.size) (fun k hk hkn => ?_) _ (Nat.le_refl _)
            by_cases hki : k = i
            · subst hki; simp
            · exfalso
              rcases Nat.lt_or_ge k i with hlt | hge
              · have h1 : (S (k + 1)).dom b = true := by rw [h.next k hk]; simp [FSt.apply, hkn]
                have := h.dom_mono (k + 1) i (by omega) (by omega) h1
                rw [h.fresh i b hin hh] at this; cases this
              · have h1 : (S (i + 1)).dom b = true := by rw [h.next i hin]; simp [FSt.apply, hh]
                have := h.dom_mono (i + 1) k (by omega) (by omega) h1
                rw [h.fresh k b hk hkn] at this; cases this
          rw [e1, SD_stop (i + 1) all.size (by omega) (fun x h1 _ => by simp; omega), SD]
          simp [FSt.apply, hh]
        | false =>
          simp only [FSt.apply, hh, Bool.or_false]
          refine SD_dom (n := all.size) (fun k hk hkn => ?_) _ (Nat.le_refl _)
          have : k ≠ i := fun e' => by subst e'; rw [hh] at hkn; cases hkn
          simp [this]
    rw [hst]; exact hR'

end
end Go.Ab
end

section
namespace Go.Ab
open Go Go.RowKit
set_option linter.unusedVariables false
set_option linter.unusedSimpArgs false

variable {P : Program} {T : TT}

/-! ### Whatever order comes up -/

section
variable {Γ : Ctx} {all : Array Oper} {S : Nat → FSt} {e : Nat → Eff} {rd : Nat → List (Nat × Nat)} {B : Nat → Nat → Bool}

theorem all_listed (ho : Order all e rd B) {listed : Array Bool} (hsz : listed.size = all.size) (h : Region.ready .any all listed = []) : ∀ i, i < all.size → listed.getD i false = true := by
  intro i
  induction i using Nat.strongRecOn with
  | _ i ih =>
    intro hi
    refine Classical.byContradiction fun hc => ?_
    have hmem : i ∈ Region.ready .any all listed := by
      refine mem_ready.2 ⟨?_, all[i], Array.getElem?_eq_getElem hi, fun x hx hb => ?_⟩
      · have hlt : i < listed.size := by omega
        simp only [Array.getD_eq_getD_getElem?, Array.getElem?_eq_getElem hlt, Option.getD_some] at hc ⊢
        simpa using hc
      · have := ho.back i all[i] (Array.getElem?_eq_getElem hi) x hx hb
        exact ih x.on this (by omega)
    rw [h] at hmem
    cases hmem

theorem count_set : ∀ (l : List Bool) (i : Nat), l[i]? = some false → (l.set i true).count false + 1 = l.count false
  | [], i, h => by simp at h
  | b :: l, 0, h => by
    simp only [List.getElem?_cons_zero, Option.some.injEq] at h
    subst h
    simp
  | b :: l, i + 1, h => by
    have := count_set l i (by simpa using h)
    simp only [List.set_cons_succ, List.count_cons]
    omega

theorem Trace.any (h : Trace Γ P all S e rd) (ho : Order all e rd B) {Q : Exit → Act → World → Prop} (hQ : ∀ a w, Rel Γ (S all.size) a w → Q .normal a w) :
    ∀ (fuel : Nat) (listed : Array Bool) (a : Act) (w : World), listed.size = all.size → (∀ k i, k < all.size → listed.getD k false = true → B k i = true → listed.getD i false = true) → listed.toList.count false ≤ fuel →
      Rel Γ (at_ S e all.size fun k => listed.getD k false) a w → wpAny P .any all Q fuel listed a w := by
  have fin : ∀ (listed : Array Bool) (a : Act) (w : World), listed.size = all.size → Region.ready .any all listed = [] → Rel Γ (at_ S e all.size fun k => listed.getD k false) a w → Q .normal a w := by
    intro listed a w hsz hr hR
    refine hQ a w ?_
    have := all_listed ho hsz hr
    have e1 : at_ S e all.size (fun k => listed.getD k false) = S all.size := by
      rw [← SD_lex (S0 := S 0) (e := e) (n := all.size) (S := S) rfl h.next all.size (Nat.le_refl _)]
      exact SD_congr _ (fun x hx => this x hx)
    rw [← e1]; exact hR
  intro fuel
  induction fuel with
  | zero =>
    intro listed a w hsz hcl hc hR
    have hall : ∀ i, i < listed.size → listed.getD i false = true := fun i hi => by
      refine Classical.byContradiction fun hx => ?_
      have hf : listed.toList[i]? = some false := by
        rw [Array.getElem?_toList, Array.getElem?_eq_getElem hi]
        simp only [Array.getD_eq_getD_getElem?, Array.getElem?_eq_getElem hi, Option.getD_some] at hx
        simpa using hx
      have := List.count_pos_iff.2 (List.mem_of_getElem? hf)
      omega
    have hr : Region.ready .any all listed = [] := by
      refine List.eq_nil_iff_forall_not_mem.2 fun i hi => ?_
      obtain ⟨h1, o, h2, _⟩ := mem_ready.1 hi
      have hlt : i < listed.size := by rw [hsz]; exact (Array.getElem?_eq_some_iff.1 h2).1
      have h3 := hall i hlt
      simp only [Array.getD_eq_getD_getElem?, Array.getElem?_eq_getElem hlt, Option.getD_some] at h1 h3
      rw [h3] at h1; cases h1
    exact ⟨hr, fin listed a w hsz hr hR⟩
  | succ fuel ih =>
    intro listed a w hsz hcl hc hR
    refine ⟨fun hr => fin listed a w hsz hr hR, fun i hi => ?_⟩
    obtain ⟨h1, o, h2, h3⟩ := mem_ready.1 hi
    have hlt : i < listed.size := by rw [hsz]; exact (Array.getElem?_eq_some_iff.1 h2).1
    have h1' : listed.getD i false = false := by
      simp only [Array.getD_eq_getD_getElem?, Array.getElem?_eq_getElem hlt, Option.getD_some] at h1 ⊢
      exact h1
    have hset : ∀ k, (listed.setIfInBounds i true).getD k false = (listed.getD k false || decide (k = i)) := fun k => by
      simp only [Array.getD_eq_getD_getElem?]
      by_cases hk : i = k
      · subst hk; rw [Array.getElem?_setIfInBounds_self_of_lt hlt]; simp
      · rw [Array.getElem?_setIfInBounds_ne hk]
        have : ¬ k = i := fun e' => hk e'.symm
        simp [this]
    have hB : ∀ k, B i k = true → listed.getD k false = true := fun k hk => by
      obtain ⟨x, y1, y2, y3⟩ := ho.via i o k h2 hk
      have hx := h3 x y1 y2
      rcases y3 with y3 | y3
      · rw [← y3]; exact hx
      · exact hcl x.on k (Nat.lt_trans (ho.back i o h2 x y1 y2) (by omega)) hx y3
    refine h.come ho (D := fun k => listed.getD k false) hcl h2 h1' h3 hR (fun a' w' hR' => ih _ a' w' (by simpa using hsz) (fun k j hk hk1 hk2 => ?_) ?_ ?_)
    · rw [hset] at hk1 ⊢
      simp only [Bool.or_eq_true, decide_eq_true_eq] at hk1 ⊢
      rcases hk1 with hk1 | hk1
      · exact .inl (hcl k j hk hk1 hk2)
      · subst hk1; exact .inl (hB j hk2)
    · have := count_set listed.toList i (by rw [Array.getElem?_toList, Array.getElem?_eq_getElem hlt]; simp only [Array.getD_eq_getD_getElem?, Array.getElem?_eq_getElem hlt, Option.getD_some] at h1'; rw [h1'])
      rw [Array.toList_setIfInBounds]
      omega
    · have e1 : at_ S e all.size (fun k => (listed.setIfInBounds i true).getD k false) = at_ S e all.size (fun k => listed.getD k false || decide (k = i)) := SD_congr _ (fun k _ => hset k)
      rw [e1]; exact hR'

theorem Rel.drew {S : FSt} {a : Act} {w : World} (h : Rel Γ S a w) : Rel Γ S a { w with drawn := w.drawn + 1 } := by
  obtain ⟨E, hE, hS⟩ := h
  exact ⟨E, ⟨hE.le, hE.os, hE.tape, hE.output, hE.size, hE.old, hE.F, hE.box, hE.tok, hE.fnew, hE.kd3, hE.arb, hE.new, hE.inj, hE.hx, hE.gl, ⟨hE.gm.map, hE.gm.tab, hE.gm.kp⟩, hE.kpn⟩, ⟨hS.size, hS.defers, hS.reg, hS.cell, hS.dom, hS.gl⟩⟩

theorem Trace.draws (h : Trace Γ P all S e rd) (ho : Order all e rd B) (hm : P.follows .mixedOrders = true) {id : Nat} {Q : Exit → Act → World → Prop} {a : Act} {w : World} (hR : Rel Γ (S 0) a w) (hQ : ∀ a w, Rel Γ (S all.size) a w → Q .normal a w) :
    (Code.region id all true).wp P Q a w := by
  refine wp_region_any hm (h.any ho hQ _ _ _ _ (by simp) (fun k i _ hk _ => ?_) ?_ ?_)
  · exfalso
    simp only [Array.getD_eq_getD_getElem?, Array.getElem?_replicate] at hk
    split at hk <;> simp at hk
  · simp
  · have e1 : at_ S e all.size (fun k => (Array.replicate all.size false).getD k false) = S 0 := by
      show SD (S 0) e (fun k => (Array.replicate all.size false).getD k false) all.size = S 0
      rw [SD_stop 0 all.size (Nat.zero_le _) (fun x _ _ => by
        show (Array.replicate all.size false).getD x false = false
        simp only [Array.getD_eq_getD_getElem?, Array.getElem?_replicate]
        split <;> rfl)]
      rfl
    rw [e1]; exact hR.drew

theorem Trace.plain (h : Trace Γ P all S e rd) {id : Nat} {Q : Exit → Act → World → Prop} {a : Act} {w : World} (hR : Rel Γ (S 0) a w) (hQ : ∀ a w, Rel Γ (S all.size) a w → Q .normal a w) :
    (Code.region id all false).wp P Q a w := by
  refine wp_region ?_
  have key : ∀ (m k : Nat) (a : Act) (w : World), k + m = all.size → Rel Γ (S k) a w → wpOps P all Q (List.range' k m) a w := by
    intro m
    induction m with
    | zero => intro k a w hk hR; simp only [Nat.add_zero] at hk; subst hk; exact hQ a w hR
    | succ m ih =>
      intro k a w hk hR
      rw [List.range'_succ, wpOps_cons]
      refine h.step k (by omega) (S k) a w rfl (fun _ _ _ _ => rfl) (fun _ _ => rfl) (fun b hb => h.fresh k b (by omega) hb) (fun b j _ hx => hx) hR _ Q (fun a' w' hR' => ih (k + 1) a' w' (by omega) ?_)
      rw [h.next k (by omega)]; exact hR'
  rw [List.range_eq_range']
  exact key all.size 0 a w (by omega) hR
end

/-! ### The order's test, by computation -/

structure Ft where
  rd : List (Nat × Nat)
  wr : List (Nat × Nat)
  base : Nat
  cnt : Nat

def ftOf (e : Eff) (rd : List (Nat × Nat)) : Ft := ⟨rd, e.ws.map fun x => (x.1, x.2.1), e.base, e.news.length⟩

def Ft.hits (f : Ft) (c : Nat × Nat) : Bool := (decide (f.base ≤ c.1) && decide (c.1 < f.base + f.cnt)) || f.wr.any fun x => x.1 == c.1 && x.2 == c.2

/-- Do two operations' writes meet? -/
def Ft.meet (f g : Ft) : Bool := (g.wr.any fun c => f.hits c) || (f.wr.any fun c => g.hits c) || (decide (f.base < g.base + g.cnt) && decide (g.base < f.base + f.cnt) && decide (0 < f.cnt) && decide (0 < g.cnt))

theorem ftOf_hits (e : Eff) (rd : List (Nat × Nat)) (b j : Nat) : (ftOf e rd).hits (b, j) = e.hits b j := by
  simp only [Ft.hits, ftOf, Eff.hits, Eff.new, List.any_map]
  rfl

def memN (n : Nat) : List Nat → Bool
  | [] => false
  | x :: r => x == n || memN n r
theorem memN_iff {n : Nat} : ∀ {l : List Nat}, memN n l = true ↔ n ∈ l
  | [] => by simp [memN]
  | x :: r => by
    rw [memN, Bool.or_eq_true, memN_iff (l := r), List.mem_cons, beq_iff_eq]
    exact ⟨fun h => h.imp Eq.symm id, fun h => h.imp Eq.symm id⟩

/-- An operation's names: what it writes, what it looks at. -/
structure Nm where
  dst : Option Nat
  nm : List Nat

def nmOf (all : Array Oper) (o : Oper) : Nm := ⟨o.dst, nms all o⟩

def apartB (p q : Nm) (f g : Ft) : Bool :=
  (match p.dst with | none => true | some d => !memN d q.nm && !(q.dst == some d)) &&
  (match q.dst with | none => true | some d => !memN d p.nm) &&
  (g.rd.all fun c => !f.hits c) && (f.rd.all fun c => !g.hits c) && !f.meet g

def edgeMask (ms : List Nat) (o : Oper) : Nat := o.after.toList.foldl (fun s x => if Region.binds .any x then s ||| 2 ^ x.on ||| ms.getD x.on 0 else s) 0

def pairsB (nm : List Nm) (fs : List Ft) (ms : List Nat) : Nat → Bool
  | 0 => true
  | j + 1 => pairsB nm fs ms j && (List.range j).all fun i => (ms.getD j 0).testBit i ||
      match nm[i]?, nm[j]?, fs[i]?, fs[j]? with
      | some p, some q, some f, some g => apartB p q f g
      | _, _, _, _ => false

def orderB (all : Array Oper) (ms : List Nat) (fs : List Ft) : Bool :=
  (all.toList.zipIdx.all fun (o, j) => (o.after.toList.all fun x => !Region.binds .any x || decide (x.on < j)) && decide (ms.getD j 0 = edgeMask ms o)) &&
  pairsB (all.toList.map (nmOf all)) fs ms all.size

/-- The masks that the model itself reckons. -/
def masks (all : Array Oper) : List Nat := (Region.before all).toList

theorem fold_testBit (ms : List Nat) (i : Nat) : ∀ (l : List Edge) (s : Nat), (l.foldl (fun s x => if Region.binds .any x then s ||| 2 ^ x.on ||| ms.getD x.on 0 else s) s).testBit i = true →
    s.testBit i = true ∨ ∃ x ∈ l, Region.binds .any x = true ∧ (x.on = i ∨ (ms.getD x.on 0).testBit i = true)
  | [], s, h => .inl h
  | x :: l, s, h => by
    rw [List.foldl_cons] at h
    rcases fold_testBit ms i l _ h with h1 | ⟨y, y1, y2, y3⟩
    · split at h1
      · rename_i hb
        rw [Nat.testBit_or, Nat.testBit_or, Bool.or_eq_true, Bool.or_eq_true] at h1
        rcases h1 with (h1 | h1) | h1
        · exact .inl h1
        · rw [Nat.testBit_two_pow] at h1
          exact .inr ⟨x, by simp, hb, .inl (by simpa using h1)⟩
        · exact .inr ⟨x, by simp, hb, .inr h1⟩
      · exact .inl h1
    · exact .inr ⟨y, List.mem_cons_of_mem _ y1, y2, y3⟩

theorem pairsB_get {nm : List Nm} {fs : List Ft} {ms : List Nat} : ∀ {n : Nat}, pairsB nm fs ms n = true → ∀ i j, i < j → j < n →
    (ms.getD j 0).testBit i = true ∨ ∃ p q f g, nm[i]? = some p ∧ nm[j]? = some q ∧ fs[i]? = some f ∧ fs[j]? = some g ∧ apartB p q f g = true
  | 0, _, i, j, _, h => by omega
  | n + 1, h, i, j, hij, hj => by
    simp only [pairsB, Bool.and_eq_true] at h
    rcases Nat.lt_or_ge j n with hlt | hge
    · exact pairsB_get h.1 i j hij hlt
    · have : j = n := by omega
      subst this
      have := List.all_eq_true.1 h.2 i (List.mem_range.2 hij)
      rw [Bool.or_eq_true] at this
      rcases this with h1 | h1
      · exact .inl h1
      · right
        split at h1
        · rename_i p q f g e1 e2 e3 e4
          exact ⟨p, q, f, g, e1, e2, e3, e4, h1⟩
        · cases h1

theorem apartB_sound {all : Array Oper} {e : Nat → Eff} {rd : Nat → List (Nat × Nat)} {i j : Nat} {oi oj : Oper} (hi : all[i]? = some oi) (hj : all[j]? = some oj) (di : (e i).dst = oi.dst) (dj : (e j).dst = oj.dst)
    (h : apartB (nmOf all oi) (nmOf all oj) (ftOf (e i) (rd i)) (ftOf (e j) (rd j)) = true) : Indep all e rd i j := by
  simp only [apartB, Bool.and_eq_true, Bool.not_eq_true'] at h
  obtain ⟨⟨⟨⟨h1, h2⟩, h3⟩, h4⟩, h5⟩ := h
  refine ⟨fun d o hd ho => ?_, fun d o hd ho => ?_, fun d hd hd' => ?_, fun c hc => ?_, fun c hc => ?_, fun b k hb => ?_⟩
  · rw [hj] at ho; injection ho with ho; subst ho
    rw [di] at hd
    simp only [nmOf, hd, Bool.and_eq_true, Bool.not_eq_true'] at h1
    intro hm
    have := memN_iff.2 hm
    rw [h1.1] at this; cases this
  · rw [hi] at ho; injection ho with ho; subst ho
    rw [dj] at hd
    simp only [nmOf, hd, Bool.not_eq_true'] at h2
    intro hm
    have := memN_iff.2 hm
    rw [h2] at this; cases this
  · rw [di] at hd
    rw [dj] at hd'
    simp [nmOf, hd, hd'] at h1
  · have := List.all_eq_true.1 h3 c hc
    rw [← ftOf_hits (e i) (rd i)]
    simpa using this
  · have := List.all_eq_true.1 h4 c hc
    rw [← ftOf_hits (e j) (rd j)]
    simpa using this
  · simp only [Ft.meet, Bool.or_eq_false_iff] at h5
    obtain ⟨⟨m1, m2⟩, m3⟩ := h5
    refine Classical.byContradiction fun hc => ?_
    have hc' : (e j).hits b k = true := by simpa using hc
    have key : ∀ (f g : Eff) (r r' : List (Nat × Nat)), ((ftOf f r).wr.any fun c => (ftOf g r').hits c) = false → (f.ws.any fun x => x.1 == b && x.2.1 == k) = true → g.hits b k = true → False := by
      intro f g r r' hz hx hg
      obtain ⟨x, x1, x2⟩ := List.any_eq_true.1 hx
      simp only [Bool.and_eq_true, beq_iff_eq] at x2
      have : (ftOf g r').hits (b, k) = false := by
        have := List.any_eq_false.1 hz (x.1, x.2.1) (by simp only [ftOf]; exact List.mem_map.2 ⟨x, x1, rfl⟩)
        rw [x2.1, x2.2] at this
        simpa using this
      rw [ftOf_hits, hg] at this; cases this
    have hb' := hb
    simp only [Eff.hits, Bool.or_eq_true] at hb
    rcases hb with hb | hb
    · have hc2 := hc'
      simp only [Eff.hits, Bool.or_eq_true] at hc2
      rcases hc2 with hc2 | hc2
      · -- both new
        simp only [Eff.new, Bool.and_eq_true, decide_eq_true_eq] at hb hc2
        exact absurd (by
          simp only [ftOf, Bool.and_eq_true]
          exact ⟨⟨⟨decide_eq_true (by omega), decide_eq_true (by omega)⟩, decide_eq_true (by omega)⟩, decide_eq_true (by omega)⟩) (Bool.eq_false_iff.1 m3)
      · exact key (e j) (e i) _ _ m1 hc2 hb'
    · exact key (e i) (e j) _ _ m2 hb hc'

theorem orderB_sound {all : Array Oper} {e : Nat → Eff} {rd : Nat → List (Nat × Nat)} {ms : List Nat} {fs : List Ft} (hf : ∀ i, i < all.size → fs[i]? = some (ftOf (e i) (rd i))) (hd : ∀ (i : Nat) o, all[i]? = some o → (e i).dst = o.dst)
    (h : orderB all ms fs = true) : Order all e rd (fun j i => (ms.getD j 0).testBit i) := by
  simp only [orderB, Bool.and_eq_true] at h
  obtain ⟨h1, h2⟩ := h
  have hz : ∀ (j : Nat) o, all[j]? = some o → (∀ x ∈ o.after, Region.binds .any x = true → x.on < j) ∧ ms.getD j 0 = edgeMask ms o := fun j o hj => by
    have hmem : (o, j) ∈ all.toList.zipIdx := by
      rw [List.mem_zipIdx_iff_getElem?]
      simpa using hj
    have := List.all_eq_true.1 h1 _ hmem
    simp only [Bool.and_eq_true, decide_eq_true_eq] at this
    refine ⟨fun x hx hb => ?_, this.2⟩
    have := List.all_eq_true.1 this.1 x (by simpa using hx)
    simp only [hb, Bool.not_true, Bool.false_or, decide_eq_true_eq] at this
    exact this
  refine ⟨fun j o hj => (hz j o hj).1, fun j o i hj hb => ?_, fun i j hij hj => ?_⟩
  · rw [(hz j o hj).2] at hb
    rcases fold_testBit ms i _ _ hb with h3 | ⟨x, x1, x2, x3⟩
    · simp at h3
    · exact ⟨x, by simpa using x1, x2, x3⟩
  · rcases pairsB_get h2 i j hij hj with h3 | ⟨p, q, f, g, e1, e2, e3, e4, e5⟩
    · exact .inl h3
    · right
      rw [List.getElem?_map] at e1 e2
      have hi : all[i]? = some (all[i]'(by omega)) := Array.getElem?_eq_getElem _
      have hj' : all[j]? = some all[j] := Array.getElem?_eq_getElem hj
      rw [Array.getElem?_toList, hi] at e1
      rw [Array.getElem?_toList, hj'] at e2
      injection e1 with e1; injection e2 with e2
      rw [hf i (by omega)] at e3
      rw [hf j hj] at e4
      injection e3 with e3; injection e4 with e4
      subst e1; subst e2; subst e3; subst e4
      exact apartB_sound hi hj' (hd i _ hi) (hd j _ hj') e5

end Go.Ab
end

section
namespace Go.Ab
open Go Go.RowKit
set_option linter.unusedVariables false
set_option linter.unusedSimpArgs false

variable {P : Program} {T : TT}

structure ASt where
  regs : List AV
  heap : List (List AV)

def ASt.view (s : ASt) : FSt where
  n := s.regs.length
  reg := nth s.regs
  cell := fun b j => nth (nthB s.heap b) j
  dom := fun b => decide (b < s.heap.length)

def setB : List (List AV) → Nat → Nat → AV → List (List AV)
  | [], _, _, _ => []
  | l :: r, 0, j, c => l.set j c :: r
  | l :: r, b + 1, j, c => l :: setB r b j c

def wrH : List (Nat × Nat × AV) → List (List AV) → List (List AV)
  | [], H => H
  | x :: r, H => wrH r (setB H x.1 x.2.1 x.2.2)

def setR : Option Nat → AV → List AV → List AV
  | none, _, l => l
  | some d, c, l => l.set d c

def ASt.apply (s : ASt) (e : Eff) : ASt := ⟨setR e.dst e.val s.regs, wrH e.ws s.heap ++ e.news⟩

theorem setB_length : ∀ (H : List (List AV)) (b j : Nat) (c : AV), (setB H b j c).length = H.length
  | [], _, _, _ => rfl
  | l :: r, 0, j, c => by simp [setB]
  | l :: r, b + 1, j, c => by simp [setB, setB_length r b j c]

theorem setB_get : ∀ (H : List (List AV)) (b j : Nat) (c : AV) (x : Nat), nthB (setB H b j c) x = if x = b then (nthB H x).set j c else nthB H x
  | [], b, j, c, x => by simp [setB, nthB]
  | l :: r, 0, j, c, 0 => by simp [setB, nthB]
  | l :: r, 0, j, c, x + 1 => by simp [setB, nthB]
  | l :: r, b + 1, j, c, 0 => by simp [setB, nthB]
  | l :: r, b + 1, j, c, x + 1 => by simp [setB, nthB, setB_get r b j c x]

theorem nth_set (l : List AV) (j : Nat) (c : AV) (i : Nat) : nth (l.set j c) i = if i = j ∧ j < l.length then c else nth l i := by
  rw [nth_eq, nth_eq, List.getElem?_set]
  by_cases h : j = i
  · subst h
    by_cases h2 : j < l.length
    · simp [h2]
    · simp [h2, List.getElem?_eq_none (Nat.le_of_not_lt h2)]
  · have h3 : ¬ i = j := fun e => h e.symm
    simp [h, h3]

theorem wrH_length : ∀ (ws : List (Nat × Nat × AV)) (H : List (List AV)), (wrH ws H).length = H.length
  | [], _ => rfl
  | x :: r, H => by rw [wrH, wrH_length r, setB_length]

theorem wrH_blk : ∀ (ws : List (Nat × Nat × AV)) (H : List (List AV)) (b : Nat), (nthB (wrH ws H) b).length = (nthB H b).length
  | [], _, _ => rfl
  | x :: r, H, b => by
    rw [wrH, wrH_blk r, setB_get]
    split <;> simp

theorem wrH_get : ∀ (ws : List (Nat × Nat × AV)) (H : List (List AV)) (f : Nat → Nat → AV), (∀ x ∈ ws, x.2.1 < (nthB H x.1).length) → (∀ b j, nth (nthB H b) j = f b j) → ∀ b j, nth (nthB (wrH ws H) b) j = wrs ws f b j
  | [], _, _, _, h => h
  | x :: r, H, f, hin, h => by
    intro b j
    rw [wrH, wrs]
    refine wrH_get r _ _ (fun y hy => ?_) (fun b j => ?_) b j
    · rw [setB_get]
      have := hin y (List.mem_cons_of_mem _ hy)
      split <;> simpa using this
    · rw [setB_get]
      unfold upd
      by_cases hb : b = x.1
      · subst hb
        simp only [if_true, true_and]
        rw [nth_set]
        have := hin x (by simp)
        by_cases hj : j = x.2.1
        · simp [hj, this]
        · simp [hj, h]
      · simp [hb, h]

theorem nthB_append : ∀ (H N : List (List AV)) (b : Nat), nthB (H ++ N) b = if b < H.length then nthB H b else nthB N (b - H.length)
  | [], N, b => by simp
  | l :: r, N, 0 => by simp [nthB]
  | l :: r, N, b + 1 => by
    simp only [List.cons_append, nthB, nthB_append r N b, List.length_cons, Nat.add_lt_add_iff_right, Nat.add_sub_add_right]

theorem getD_nthB : ∀ (L : List (List AV)) (i : Nat), L.getD i [] = nthB L i
  | [], _ => rfl
  | c :: L, 0 => rfl
  | c :: L, i + 1 => by simpa [nthB] using getD_nthB L i
theorem getD_nth : ∀ (L : List AV) (i : Nat), L.getD i .non = nth L i
  | [], _ => rfl
  | c :: L, 0 => rfl
  | c :: L, i + 1 => by simpa [nth] using getD_nth L i

/-- An effect that is in its place. -/
structure Fits (s : ASt) (e : Eff) : Prop where
  base : e.base = s.heap.length
  keep : ∀ x ∈ e.ws, s.view.cell x.1 x.2.1 ≠ .non ∧ x.2.2 ≠ .non

theorem nth_ne {l : List AV} {j : Nat} (h : nth l j ≠ .non) : j < l.length := Nat.lt_of_not_le fun hx => h (nth_ge hx)
theorem nthB_ne {H : List (List AV)} {b j : Nat} (h : nth (nthB H b) j ≠ .non) : b < H.length := Nat.lt_of_not_le fun hx => h (by rw [nthB_ge H b hx]; rfl)

theorem view_apply {s : ASt} {e : Eff} (h : Fits s e) : (s.apply e).view = s.view.apply e := by
  have hin : ∀ x ∈ e.ws, x.2.1 < (nthB s.heap x.1).length := fun x hx => nth_ne (h.keep x hx).1
  have hnew : ∀ b, e.new b = (decide (s.heap.length ≤ b) && decide (b < s.heap.length + e.news.length)) := fun b => by rw [Eff.new, h.base]
  refine fs_ext ?_ (fun r => ?_) (fun b j => ?_) (fun b => ?_)
  · simp only [ASt.view, ASt.apply, FSt.apply]
    cases e.dst <;> simp [setR]
  · simp only [ASt.view, ASt.apply, FSt.apply]
    cases hd : e.dst with
    | none => simp [setR]
    | some d =>
      simp only [setR, nth_set, Option.some.injEq]
      by_cases h1 : r = d
      · subst h1; simp
      · have : ¬ d = r := fun e' => h1 e'.symm
        simp [h1, this]
  · simp only [ASt.view, ASt.apply, FSt.apply, nthB_append, wrH_length, hnew]
    by_cases hb : b < s.heap.length
    · have : (decide (s.heap.length ≤ b) && decide (b < s.heap.length + e.news.length)) = false := by simp; omega
      simp only [hb, if_true, this, Bool.false_eq_true, if_false]
      exact wrH_get e.ws s.heap _ hin (fun _ _ => rfl) b j
    · simp only [hb, if_false]
      by_cases hb2 : b < s.heap.length + e.news.length
      · have : (decide (s.heap.length ≤ b) && decide (b < s.heap.length + e.news.length)) = true := by simp; omega
        simp only [this, if_true, h.base, getD_nthB, getD_nth]
      · have : (decide (s.heap.length ≤ b) && decide (b < s.heap.length + e.news.length)) = false := by simp; omega
        simp only [this, Bool.false_eq_true, if_false]
        rw [nthB_ge e.news _ (by omega)]
        have e1 : wrs e.ws (fun b j => nth (nthB s.heap b) j) b j = nth (nthB s.heap b) j := by
          refine wrs_miss _ _ _ _ ?_
          refine Classical.byContradiction fun hc => ?_
          obtain ⟨x, x1, x2⟩ := List.any_eq_true.1 (by simpa using hc : (e.ws.any fun x => x.1 == b && x.2.1 == j) = true)
          simp only [Bool.and_eq_true, beq_iff_eq] at x2
          have := nthB_ne (h.keep x x1).1
          omega
        rw [e1, nthB_ge s.heap b (by omega)]
  · simp only [ASt.view, ASt.apply, FSt.apply, hnew, List.length_append, wrH_length]
    by_cases h1 : b < s.heap.length
    · simp [h1]; omega
    · by_cases h2 : b < s.heap.length + e.news.length
      · simp [h2]; omega
      · simp [h1, h2]

/-! ### One operation -/

/-- What a call comes to, by what is known of the callee. -/
def CallC (P : Program) (s : ASt) (dst : Option Nat) (f : Nat) (acts : List AV) (k : Eff → List (Nat × Nat) → Prop) : Prop :=
  ∃ (m : Nat → Nat) (n : Nat) (H H' : List (List AV)) (args : List AV) (r : AV), Callable P f ∧ Meets P f H args r H' ∧ Args m n acts args ∧ Hand s.view m n s.heap.length H H' ∧
    (∀ b j, b < n → j < (nthB H' b).length → nth (nthB H' b) j ≠ .non) ∧ ∃ e, (e = callEff dst m n s.heap.length r H' ∨ (∃ K, RoOk K s.view m n s.heap.length H' ∧ e = roEff K dst m n s.heap.length r H')) ∧ k e (keysOf m 0 n H)

def aop (P : Program) (T : TT) (o : Oper) (s : ASt) (k : Eff → List (Nat × Nat) → Prop) : Prop :=
  match o.op with
  | .load t a => aLoad T o.dst t s.view (s.view.ev a) s.heap.length k
  | .store t a v => aStore T o.dst t s.view (s.view.ev a) (s.view.ev v) s.heap.length k
  | .alloc t => (T t).kd.isOther = false ∧ ∃ os, ownOk s.heap.length 0 os (T t).zero = true ∧ k ⟨o.dst, .ptr s.heap.length 0, [], s.heap.length, ownCs s.heap.length 0 os (T t).zero :: List.replicate os.length [.tok 0]⟩ []
  | .box t x => (s.view.ev x).known = true ∧ allB AV.cellable (s.view.ev x).cells = true ∧ k ⟨o.dst, .ptr s.heap.length 0, [], s.heap.length, [(s.view.ev x).cells]⟩ []
  | .buildSlice t len parts => aBuildSlice T o.dst t len (parts.toList.map fun p => (p.1, s.view.ev p.2)) s.heap.length k
  | .makeSlice t l c => aMake T o.dst t (s.view.ev l) (s.view.ev c) s.heap.length k
  | .makeMap t none => k ⟨o.dst, .mp s.heap.length, [], s.heap.length, [[.mps fun _ => none]]⟩ []
  | .lookup t m key false => aLookup T o.dst t s.view (s.view.ev m) (s.view.ev key) s.heap.length k
  | .lookup t m key true => aLookup2 T o.dst t s.view (s.view.ev m) (s.view.ev key) s.heap.length k
  | .convert src d x => match (T d).kd with
    | .slice _ => aBytes T o.dst src d (s.view.ev x) s.heap.length k
    | .str => aText T o.dst src d (s.view.ev x) s.heap.length k ∨ aval T s.view.ev o.op fun c => k ⟨o.dst, c, [], s.heap.length, []⟩ []
    | _ => aval T s.view.ev o.op fun c => k ⟨o.dst, c, [], s.heap.length, []⟩ []
  | .mapUpdate t m key v => aMapUpdate T o.dst t s.view (s.view.ev m) (s.view.ev key) (s.view.ev v) s.heap.length k
  | .call c => match c.callee with
    | .builtin .append => match c.args.toList, c.argTypes.toList with
      | [x, y], [t, t'] => aAppend T o.dst t t' s.view (s.view.ev x) (s.view.ev y) s.heap.length k
      | _, _ => False
    | .value fo => match s.view.ev fo with
      | .fn f caps => CallC P s o.dst f (c.args.toList.map s.view.ev ++ caps) k
      | _ => False
    | _ => aval T s.view.ev o.op fun c => k ⟨o.dst, c, [], s.heap.length, []⟩ []
  | op => aval T s.view.ev op fun c => k ⟨o.dst, c, [], s.heap.length, []⟩ []

def Fact (s : ASt) (o : Oper) (e : Eff) : Prop := Fits s e ∧ e.dst = o.dst

theorem Fact.pure (s : ASt) (o : Oper) (c : AV) : Fact s o ⟨o.dst, c, [], s.heap.length, []⟩ := ⟨⟨rfl, by simp⟩, rfl⟩
theorem Fact.new (s : ASt) (o : Oper) (c : AV) (N : List (List AV)) : Fact s o ⟨o.dst, c, [], s.heap.length, N⟩ := ⟨⟨rfl, by simp⟩, rfl⟩

theorem mem_writes (b : Nat) : ∀ (cs : List AV) (o : Nat) (x : Nat × Nat × AV), x ∈ writes b o cs → x.1 = b ∧ ∃ i, i < cs.length ∧ x.2.1 = o + i ∧ cs[i]? = some x.2.2
  | [], _, x, h => by simp [writes] at h
  | c :: r, o, x, h => by
    rw [writes] at h
    rcases List.mem_cons.1 h with h | h
    · subst h; exact ⟨rfl, 0, by simp, rfl, rfl⟩
    · obtain ⟨h1, i, h2, h3, h4⟩ := mem_writes b r (o + 1) x h
      exact ⟨h1, i + 1, by simp; omega, by omega, by simpa using h4⟩

theorem plain_ne {c : AV} (h : c.plain = true) : c ≠ .non := fun e => by subst e; cases h

theorem mem_backs (m m' : Nat → Nat) (H : List (List AV)) : ∀ (n b0 : Nat) (x : Nat × Nat × AV), x ∈ backs m m' b0 n H → ∃ b j, b0 ≤ b ∧ b < b0 + n ∧ j < (nthB H b).length ∧ x = (m b, j, ren m' (nth (nthB H b) j))
  | 0, _, x, h => by simp [backs] at h
  | n + 1, b0, x, h => by
    rw [backs] at h
    rcases List.mem_append.1 h with h | h
    · obtain ⟨h1, i, h2, h3, h4⟩ := mem_writes _ _ _ x h
      simp at h2
      refine ⟨b0, i, Nat.le_refl _, by omega, h2, ?_⟩
      rw [List.getElem?_map, nth_lt h2] at h4
      injection h4 with h4
      obtain ⟨x1, x2, x3⟩ := x
      simp only at h1 h3 h4
      subst h1; subst h4
      rw [h3, Nat.zero_add]
    · obtain ⟨b, j, h1, h2, h3⟩ := mem_backs m m' H n (b0 + 1) x h
      exact ⟨b, j, by omega, by omega, h3⟩

theorem ren_non {m : Nat → Nat} {c : AV} (h : c ≠ .non) : ren m c ≠ .non := by cases c <;> simp_all [ren]

theorem aop_sound (hT : TabOk P T) {Γ : Ctx} {o : Oper} {s : ASt} {k : Eff → List (Nat × Nat) → Prop} (h : aop P T o s k) : ∃ e rd, k e rd ∧ Stp Γ P o s.view rd e ∧ Fact s o e := by
  let k' : Eff → List (Nat × Nat) → Prop := fun e rd => k e rd ∧ Fact s o e
  have re : (∃ e rd, k' e rd ∧ Stp Γ P o s.view rd e) → ∃ e rd, k e rd ∧ Stp Γ P o s.view rd e ∧ Fact s o e := fun ⟨e, rd, h1, h2⟩ => ⟨e, rd, h1.1, h2, h1.2⟩
  have pv : aval T s.view.ev o.op (fun c => k ⟨o.dst, c, [], s.heap.length, []⟩ []) → ∃ e rd, k e rd ∧ Stp Γ P o s.view rd e ∧ Fact s o e := fun hv => by
    obtain ⟨c, h1, h2⟩ := stp_val (P := P) hT (Γ := Γ) hv
    exact ⟨_, _, h1, h2 _, Fact.pure s o c⟩
  unfold aop at h
  split at h
  · rename_i t a ho
    refine re (stp_load (P := P) hT ho (base := s.heap.length) (k := k') ?_)
    unfold aLoad at h ⊢
    obtain ⟨h0, h⟩ := h
    refine ⟨h0, ?_⟩
    split at h
    · split at h
      · rename_i hag; rw [if_pos hag]; exact ⟨h.1, h.2, Fact.pure s o _⟩
      · rename_i hag; rw [if_neg hag]; obtain ⟨c, h1, h2⟩ := h; exact ⟨c, h1, h2, Fact.pure s o _⟩
    · split at h
      · rename_i hag; rw [if_pos hag]; exact ⟨h.1, h.2, Fact.pure s o _⟩
      · rename_i hag; rw [if_neg hag]; exact ⟨h.1, h.2, Fact.pure s o _⟩
    · split at h
      · obtain ⟨h1, row, h3, h⟩ := h
        refine ⟨h1, row, h3, ?_⟩
        split at h
        · rename_i hag; rw [if_pos hag]; exact ⟨h.1, h.2, Fact.pure s o _⟩
        · rename_i hag; rw [if_neg hag]; obtain ⟨c, h4, h5⟩ := h; exact ⟨c, h4, h5, Fact.pure s o _⟩
      · exact h.elim
    · exact h.elim
  · rename_i t a v ho
    refine re (stp_store (P := P) hT ho (base := s.heap.length) (k := k') ?_)
    unfold aStore at h ⊢
    obtain ⟨h0, h⟩ := h
    refine ⟨h0, ?_⟩
    split at h
    · rename_i b off _
      obtain ⟨h1, h2, h3, h4, h5⟩ := h
      refine ⟨h1, h2, h3, h4, h5, ⟨rfl, fun x hx => ?_⟩, rfl⟩
      obtain ⟨x1, i, x2, x3, x4⟩ := mem_writes _ _ _ x hx
      rw [x1, x3]
      exact ⟨plain_ne (allB_mem h4 _ (List.mem_of_getElem? (rdc_get _ _ off i x2))), fun e => by have := allB_mem h3 _ (List.mem_of_getElem? x4); rw [e] at this; cases this⟩
    · obtain ⟨h1, h2, h3, h4, h⟩ := h
      refine ⟨h1, h2, h3, h4, ?_⟩
      split at h
      · rename_i s' rows hcur
        refine ⟨h.1, h.2, ⟨rfl, fun x hx => ?_⟩, rfl⟩
        rw [List.mem_singleton.1 hx]
        exact ⟨by rw [hcur]; simp, by simp⟩
      · exact h.elim
    · obtain ⟨h1, h2, h3, c, h4, h5, h⟩ := h
      refine ⟨h1, h2, h3, c, h4, h5, ?_⟩
      split at h
      · rename_i e s' rows hcur
        obtain ⟨h6, row, h7, h8⟩ := h
        refine ⟨h6, row, h7, h8, ⟨rfl, fun x hx => ?_⟩, rfl⟩
        rw [List.mem_singleton.1 hx]
        exact ⟨by rw [hcur]; simp, by simp⟩
      · exact h.elim
    · exact h.elim
  · rename_i t ho
    obtain ⟨h1, os, h2, h3⟩ := h
    exact ⟨_, _, h3, stp_allocOwn hT ho _ h1 h2, Fact.new s o _ _⟩
  · rename_i t x ho
    exact ⟨_, _, h.2.2, stp_box ho _ h.1 h.2.1, Fact.new s o _ _⟩
  · rename_i t len parts ho
    refine re (stp_buildSlice (P := P) hT ho (base := s.heap.length) (k := k') ?_)
    unfold aBuildSlice at h ⊢
    split at h
    · obtain ⟨h0, h1, h⟩ := h
      refine ⟨h0, h1, ?_⟩
      split at h
      · rename_i hl; rw [if_pos hl]; exact ⟨h.1, h.2, Fact.pure s o _⟩
      · rename_i hl; rw [if_neg hl]; exact ⟨h.1, h.2.1, h.2.2.1, h.2.2.2, Fact.new s o _ _⟩
    · exact h.elim
  · rename_i t l c ho
    refine re (stp_make (P := P) hT ho (base := s.heap.length) (k := k') ?_)
    unfold aMake at h ⊢
    split at h
    · obtain ⟨h1, h2, h3, h4, h5, h6⟩ := h
      exact ⟨h1, h2, h3, h4, h5, h6, Fact.new s o _ _⟩
    · exact h.elim
  · rename_i t ho
    exact ⟨_, _, h, stp_makeMap ho _, Fact.new s o _ _⟩
  · rename_i t m key ho
    refine re (stp_lookup (P := P) hT ho (base := s.heap.length) (k := k') ?_)
    unfold aLookup at h ⊢
    split at h
    · obtain ⟨h0, h1, h⟩ := h
      refine ⟨h0, h1, ?_⟩
      split at h
      · exact ⟨fun c hc => ⟨h.1 c hc, Fact.pure s o _⟩, fun hn => by obtain ⟨h2, z, h3, h4⟩ := h.2 hn; exact ⟨h2, z, h3, h4, Fact.pure s o _⟩⟩
      · exact h.elim
    · obtain ⟨h0, h1, h⟩ := h
      refine ⟨h0, h1, ?_⟩
      split at h
      · exact ⟨fun c hc => ⟨h.1 c hc, Fact.pure s o _⟩, fun hn => by obtain ⟨h2, z, h3, h4⟩ := h.2 hn; exact ⟨h2, z, h3, h4, Fact.pure s o _⟩⟩
      · exact h.elim
    · exact h.elim
  · rename_i t m key ho
    refine re (stp_lookup2 (P := P) hT ho (base := s.heap.length) (k := k') ?_)
    unfold aLookup2 at h ⊢
    split at h
    · obtain ⟨h0, h1, h⟩ := h
      refine ⟨h0, h1, ?_⟩
      split at h
      · exact ⟨fun c hc => ⟨h.1 c hc, Fact.pure s o _⟩, fun hn => by obtain ⟨h2, z, h3, h4⟩ := h.2 hn; exact ⟨h2, z, h3, h4, Fact.pure s o _⟩⟩
      · exact h.elim
    · exact h.elim
  · rename_i src d x ho
    split at h
    · refine re (stp_bytes (P := P) hT ho (base := s.heap.length) (k := k') ?_)
      unfold aBytes at h ⊢
      split at h
      · exact ⟨h.1, h.2.1, h.2.2.1, h.2.2.2, Fact.pure s o _⟩
      · exact h.elim
    · rcases h with h | h
      · refine re (stp_text (P := P) hT ho (base := s.heap.length) (k := k') ?_)
        unfold aText at h ⊢
        split at h
        · obtain ⟨h1, h2, ns, h3, h4⟩ := h
          exact ⟨h1, h2, ns, h3, h4, Fact.pure s o _⟩
        · exact h.elim
      · exact pv h
    · exact pv h
  · rename_i t m key v ho
    refine re (stp_mapUpdate (P := P) hT ho (base := s.heap.length) (k := k') ?_)
    unfold aMapUpdate at h ⊢
    split at h
    · obtain ⟨h0, h1, h⟩ := h
      refine ⟨h0, h1, ?_⟩
      split at h
      · rename_i f hf
        refine ⟨h, ⟨rfl, fun x hx => ?_⟩, rfl⟩
        rw [List.mem_singleton.1 hx]
        exact ⟨by rw [hf]; simp, by simp⟩
      · exact h.elim
    · exact h.elim
  · rename_i c ho
    split at h
    · rename_i hcal
      split at h
      · rename_i x y t t' hxy htt
        have ho' : o.op = .call { callee := .builtin .append, args := #[x, y], argTypes := #[t, t'] } := by
          rw [ho]
          obtain ⟨cal, asv, ts⟩ := c
          simp only at hcal hxy htt
          subst hcal
          have h1 : asv = #[x, y] := by rw [← Array.toArray_toList (xs := asv), hxy]
          have h2 : ts = #[t, t'] := by rw [← Array.toArray_toList (xs := ts), htt]
          rw [h1, h2]
        refine re (stp_append (P := P) hT ho' (base := s.heap.length) (k := k') ?_)
        unfold aAppend at h ⊢
        obtain ⟨h0, h⟩ := h
        refine ⟨h0, ?_⟩
        split at h
        · obtain ⟨h1, h2, rows, h3, h4, h5, h6, h7⟩ := h
          rcases h7 with h7 | ⟨h8, h7 | h7⟩
          · exact ⟨h1, h2, rows, h3, h4, h5, h6, .inl ⟨h7, Fact.new s o _ _⟩⟩
          · exact ⟨h1, h2, rows, h3, h4, h5, h6, .inr ⟨h8, .inl ⟨h7, Fact.new s o _ _⟩⟩⟩
          · exact ⟨h1, h2, rows, h3, h4, h5, h6, .inr ⟨h8, .inr ⟨h7, Fact.new s o _ _⟩⟩⟩
        · obtain ⟨h1, h2, h3, h4, hcur, rows, h5, h6, h7, h8, h9, h10⟩ := h
          refine ⟨h1, h2, h3, h4, hcur, rows, h5, h6, h7, h8, h9, h10, ⟨rfl, fun x hx => ?_⟩, rfl⟩
          rw [List.mem_singleton.1 hx]
          exact ⟨by rw [hcur]; simp, by simp⟩
        · exact h.elim
      · exact h.elim
    · rename_i fo hcal
      split at h
      · rename_i f caps hf
        have ho' : o.op = .call { callee := .value fo, args := c.args, argTypes := c.argTypes } := by
          rw [ho]
          obtain ⟨cal, asv, ts⟩ := c
          simp only at hcal
          subst hcal
          rfl
        obtain ⟨m, n, H, H', args, r, h1, h2, h3, h4, h5, e, he, h6⟩ := h
        rcases he with rfl | ⟨K, hro, rfl⟩
        · refine ⟨_, _, h6, stp_call ho' hf h1 h3 h2 h4, ⟨rfl, fun x hx => ?_⟩, rfl⟩
          obtain ⟨b, j, _, hb, hj, rfl⟩ := mem_backs _ _ _ _ _ x hx
          exact ⟨(h4.full b j (by omega) hj).1, ren_non (h5 b j (by omega) hj)⟩
        · refine ⟨_, _, h6, stp_call_ro ho' hf h1 h3 h2 h4 hro, ⟨rfl, fun x hx => ?_⟩, rfl⟩
          obtain ⟨b, j, _, hb, hj, rfl⟩ := mem_backs _ _ _ _ _ x hx
          rw [maskH_get, Nat.zero_add] at hj
          split at hj
          · exact absurd hj (Nat.not_lt_zero _)
          · rename_i hKb
            refine ⟨(h4.full b j (by omega) hj).1, ?_⟩
            rw [maskH_get, Nat.zero_add, if_neg hKb]
            exact ren_non (h5 b j (by omega) hj)
      · exact h.elim
    · exact pv h
  · exact pv h

end Go.Ab
end

section
namespace Go.Ab
open Go Go.RowKit
set_option linter.unusedVariables false
set_option linter.unusedSimpArgs false

variable {P : Program} {T : TT}

def skipEff (s : ASt) (o : Oper) : Eff := ⟨o.dst, .und, [], s.heap.length, []⟩

def more (dr : Bool) (fs : List Ft) (e : Eff) (rd : List (Nat × Nat)) : List Ft := if dr then fs ++ [ftOf e rd] else fs

def gDst (all : Array Oper) (g : Nat × Bool) : Option Nat := (all[g.1]?).bind (·.dst)

def aops (P : Program) (T : TT) (all : Array Oper) (dr : Bool) : List Oper → ASt → List Ft → (ASt → List Ft → Prop) → Prop
  | [], s, fs, K => K s fs
  | o :: rest, s, fs, K =>
    match o.guard with
    | none => aop P T o s fun e rd => aops P T all dr rest (s.apply e) (more dr fs e rd) K
    | some g => match gDst all g with
      | none => False
      | some d => match nth s.regs d with
        | .bool b => (b = g.2 → aop P T o ⟨s.regs.set d (.bool g.2), s.heap⟩ fun e rd => aops P T all dr rest (ASt.apply ⟨s.regs.set d (.bool g.2), s.heap⟩ e) (more dr fs e rd) K) ∧
            (b = (!g.2) → aops P T all dr rest (ASt.apply ⟨s.regs.set d (.bool (!g.2)), s.heap⟩ (skipEff ⟨s.regs.set d (.bool (!g.2)), s.heap⟩ o)) (more dr fs (skipEff ⟨s.regs.set d (.bool (!g.2)), s.heap⟩ o) []) K)
        | .und => aops P T all dr rest (s.apply (skipEff s o)) (more dr fs (skipEff s o) []) K
        | _ => False

theorem view_set {s : ASt} {d : Nat} {c : AV} (h : nth s.regs d = c) : (ASt.mk (s.regs.set d c) s.heap).view = s.view := by
  refine fs_ext (by simp [ASt.view]) (fun r => ?_) (fun _ _ => rfl) (fun _ => rfl)
  simp only [ASt.view, nth_set]
  split
  · rename_i hr; rw [hr.1, h]
  · rfl

/-- What is shown of the operations from number k on. -/
structure Part (Γ : Ctx) (P : Program) (all : Array Oper) (k : Nat) (S : Nat → FSt) (e : Nat → Eff) (rd : Nat → List (Nat × Nat)) : Prop where
  step : ∀ i, k ≤ i → i < all.size → Step1 Γ P all i (S i) (rd i) (e i)
  next : ∀ i, k ≤ i → i < all.size → S (i + 1) = (S i).apply (e i)
  fresh : ∀ i b, k ≤ i → i < all.size → (e i).new b = true → (S i).dom b = false
  keep : ∀ i, k ≤ i → i < all.size → ∀ x ∈ (e i).ws, (S i).cell x.1 x.2.1 ≠ .non ∧ x.2.2 ≠ .non
  dst : ∀ (i : Nat) o, k ≤ i → all[i]? = some o → (e i).dst = o.dst

theorem aops_sound (hT : TabOk P T) {Γ : Ctx} {all : Array Oper} {dr : Bool} : ∀ (rest : List Oper) (k : Nat) (s : ASt) (fs : List Ft) (K : ASt → List Ft → Prop), (∀ j, rest[j]? = all[k + j]?) → k + rest.length = all.size →
    aops P T all dr rest s fs K → ∃ S e rd s', Part Γ P all k S e rd ∧ S k = s.view ∧ S all.size = s'.view ∧ K s' (if dr then fs ++ (List.range' k rest.length).map (fun i => ftOf (e i) (rd i)) else fs)
  | [], k, s, fs, K, hl, hk, h => by
    simp only [List.length_nil, Nat.add_zero] at hk
    subst hk
    refine ⟨fun _ => s.view, fun _ => default', fun _ => [], s, ⟨fun i h1 h2 => by omega, fun i h1 h2 => by omega, fun i b h1 h2 => by omega, fun i h1 h2 => by omega, fun i o h1 h2 => ?_⟩, rfl, rfl, ?_⟩
    · have := (Array.getElem?_eq_some_iff.1 h2).1; omega
    · simp only [aops] at h
      simp only [List.length_nil, List.range'_zero, List.map_nil, List.append_nil, ite_self]
      exact h
  | o :: rest, k, s, fs, K, hl, hk, h => by
    have ho : all[k]? = some o := by simpa using (hl 0).symm
    have hl' : ∀ j, rest[j]? = all[k + 1 + j]? := fun j => by have := hl (j + 1); simpa [Nat.add_assoc, Nat.add_comm 1 j] using this
    have hk' : k + 1 + rest.length = all.size := by simp at hk; omega
    have hks : k < all.size := by omega
    -- one step ahead of what follows
    have step : ∀ (s0 : ASt) (e0 : Eff) (rd0 : List (Nat × Nat)), s0.view = s.view → Step1 Γ P all k s.view rd0 e0 → Fact s0 o e0 → aops P T all dr rest (s0.apply e0) (more dr fs e0 rd0) K →
        ∃ S e rd s', Part Γ P all k S e rd ∧ S k = s.view ∧ S all.size = s'.view ∧ K s' (if dr then fs ++ (List.range' k (o :: rest).length).map (fun i => ftOf (e i) (rd i)) else fs) := by
      intro s0 e0 rd0 hv h1 h2 h3
      obtain ⟨S, e, rd, s', hp, hS1, hSn, hK⟩ := aops_sound hT rest (k + 1) _ _ K hl' hk' h3
      have hvs : S (k + 1) = s.view.apply e0 := by rw [hS1, view_apply h2.1, hv]
      refine ⟨fun i => if i ≤ k then s.view else S i, fun i => if i = k then e0 else e i, fun i => if i = k then rd0 else rd i, s', ⟨fun i a b => ?_, fun i a b => ?_, fun i b a c => ?_, fun i a b => ?_, fun i o' a b => ?_⟩, by simp, ?_, ?_⟩
      · by_cases hi : i = k
        · subst hi; simpa using h1
        · have : ¬ i ≤ k := by omega
          simp only [hi, this, if_false]; exact hp.step i (by omega) b
      · by_cases hi : i = k
        · subst hi
          have : ¬ i + 1 ≤ i := by omega
          simp only [Nat.le_refl, if_true, this, if_false]; exact hvs
        · have h1 : ¬ i ≤ k := by omega
          have h2 : ¬ i + 1 ≤ k := by omega
          simp only [hi, h1, h2, if_false]; exact hp.next i (by omega) b
      · by_cases hi : i = k
        · subst hi
          simp only [Nat.le_refl, if_true]
          intro hb
          rw [← hv]
          simp only [Eff.new, h2.1.base, Bool.and_eq_true, decide_eq_true_eq] at hb
          simp only [ASt.view, decide_eq_false_iff_not]
          omega
        · have : ¬ i ≤ k := by omega
          simp only [hi, this, if_false]; exact hp.fresh i b (by omega) c
      · by_cases hi : i = k
        · subst hi
          simp only [Nat.le_refl, if_true]
          rw [← hv]; exact h2.1.keep
        · have : ¬ i ≤ k := by omega
          simp only [hi, this, if_false]; exact hp.keep i (by omega) b
      · by_cases hi : i = k
        · subst hi
          simp only [if_true]
          rw [ho] at b; injection b with b; subst b
          exact h2.2
        · simp only [hi, if_false]; exact hp.dst i o' (by omega) b
      · have : ¬ all.size ≤ k := by omega
        simp only [this, if_false]; exact hSn
      · cases dr with
        | false => simpa [more] using hK
        | true =>
          simp only [if_true, more] at hK ⊢
          rw [List.length_cons, List.range'_succ, List.map_cons]
          simp only [if_true]
          have e1 : (List.range' (k + 1) rest.length).map (fun i => ftOf (if i = k then e0 else e i) (if i = k then rd0 else rd i)) = (List.range' (k + 1) rest.length).map (fun i => ftOf (e i) (rd i)) := by
            refine List.map_congr_left fun i hi => ?_
            have := (List.mem_range'_1.1 hi).1
            have : ¬ i = k := by omega
            simp [this]
          rw [e1]
          simpa using hK
    simp only [aops] at h
    split at h
    · rename_i hg
      obtain ⟨e0, rd0, h1, h2, h3⟩ := aop_sound hT (Γ := Γ) h
      exact step s e0 rd0 rfl (h2.step1 ho (fun _ _ _ _ _ => wanted_none hg _)) h3 h1
    · rename_i g hg
      split at h
      · exact h.elim
      · rename_i d hd
        have hgt : gTmp all o = some d := by simp only [gTmp, hg, Option.bind_some]; exact hd
        have hdm : d ∈ nms all o := by simp [nms, hgt]
        split at h
        · rename_i b hb
          by_cases hbw : b = g.2
          · subst hbw
            have hv := view_set (s := s) hb
            obtain ⟨e0, rd0, h1, h2, h3⟩ := aop_sound hT (Γ := Γ) (h.1 rfl)
            rw [hv] at h2
            refine step _ e0 rd0 hv (h2.step1 ho (fun S' a w hr hR => ?_)) h3 h1
            obtain ⟨E, hE, hS⟩ := hR
            have := (yielded_of hS hd).1 g.2 (by rw [hr d hdm]; exact hb)
            simp [Region.wanted, hg, this]
          · have hbw' : b = !g.2 := by cases b <;> cases hg2 : g.2 <;> simp_all
            have hv := view_set (s := s) (c := .bool (!g.2)) (by rw [hb, hbw'])
            refine step _ _ _ hv (step1xskip ho (fun S' a w hr hR => ?_) _) (Fact.pure _ o _) (h.2 hbw')
            obtain ⟨E, hE, hS⟩ := hR
            have := (yielded_of hS hd).1 b (by rw [hr d hdm]; exact hb)
            simp [Region.wanted, hg, this, hbw]
        · rename_i hb
          refine step s _ _ rfl (step1xskip ho (fun S' a w hr hR => ?_) _) (Fact.pure _ o _) h
          obtain ⟨E, hE, hS⟩ := hR
          have := (yielded_of hS hd).2 (by rw [hr d hdm]; exact hb)
          simp [Region.wanted, hg, this]
        · exact h.elim
where
  default' : Eff := ⟨none, .non, [], 0, []⟩

/-- Behind a region. -/
def regK (all : Array Oper) (dr : Bool) (K : ASt → Prop) : ASt → List Ft → Prop := fun s fs => (dr = true → orderB all (masks all) fs = true) ∧ K s

theorem region_sound (hT : TabOk P T) (hm : P.follows .mixedOrders = true) {Γ : Ctx} {id : Nat} {all : Array Oper} {dr : Bool} {s : ASt} {K : ASt → Prop} (h : aops P T all dr all.toList s [] (regK all dr K))
    {Q : Exit → Act → World → Prop} {a : Act} {w : World} (hR : Rel Γ s.view a w) (hQ : ∀ s' a' w', K s' → Rel Γ s'.view a' w' → Q .normal a' w') : (Code.region id all dr).wp P Q a w := by
  obtain ⟨S, e, rd, s', hp, hS0, hSn, hd, hK⟩ := aops_sound hT (Γ := Γ) all.toList 0 s [] _ (by simp) (by simp) h
  have htr : Trace Γ P all S e rd := ⟨fun i hi => hp.step i (Nat.zero_le _) hi, fun i hi => hp.next i (Nat.zero_le _) hi, fun i b hi => hp.fresh i b (Nat.zero_le _) hi, fun i hi => hp.keep i (Nat.zero_le _) hi,
    fun b j hb => by
      rw [hS0] at hb ⊢
      simp only [ASt.view, decide_eq_false_iff_not] at hb ⊢
      rw [nthB_ge _ _ (by omega)]; rfl, fun i o ho => hp.dst i o (Nat.zero_le _) ho⟩
  rw [← hS0] at hR
  cases dr with
  | false => exact htr.plain hR (fun a' w' hR' => hQ s' a' w' hK (by rw [← hSn]; exact hR'))
  | true =>
    have hb := hd rfl
    have ho := orderB_sound (e := e) (rd := rd) (fun i hi => by
      simp only [if_true, List.nil_append, Array.length_toList, List.getElem?_map]
      rw [List.getElem?_range' hi]
      simp) htr.dst hb
    exact htr.draws ho hm hR (fun a' w' hR' => hQ s' a' w' hK (by rw [← hSn]; exact hR'))

/-! ### Weaker states -/

inductive Wk (g : Nat → Nat) (n : Nat) : AV → AV → Prop where
  | non (c : AV) : Wk g n c .non
  | und : Wk g n .und .und
  | flat (c : AV) (h : c.flat = true) : Wk g n c c.low
  | emp (s : Nat) : Wk g n .emp (.sl s [])
  | ptr (b b' o : Nat) (h : b' < n) (hb : b = g b') : Wk g n (.ptr b o) (.ptr b' o)
  | ow (t t' e s : Nat) (rows : List (List AV)) (h : t' < n) (hb : t = g t') : Wk g n (.ow t e s rows) (.ow t' e s rows)
  | mp (b b' : Nat) (h : b' < n) (hb : b = g b') : Wk g n (.mp b) (.mp b')
  | sb (b b' k : Nat) (h : b' < n) (hb : b = g b') : Wk g n (.sb b k) (.sb b' k)
  | ep (b b' s i : Nat) (h : b' < n) (hb : b = g b') : Wk g n (.ep b s i) (.ep b' s i)
  | arr (s : Nat) (rows : List (List AV)) : Wk g n (.arr s rows) (.arr s rows)
  | aw (e s : Nat) (rows : List (List AV)) : Wk g n (.aw e s rows) (.aw e s rows)
  | ef (b b' s i o : Nat) (h : b' < n) (hb : b = g b') : Wk g n (.ef b s i o) (.ef b' s i o)
  | tok (k : Nat) : Wk g n (.tok k) (.tok k)
  | mps (f : List UInt8 → Option AV) : Wk g n (.mps f) (.mps f)
  | agg (cs ds : List AV) (hl : cs.length = ds.length) (h : ∀ (j : Nat) c d, cs[j]? = some c → ds[j]? = some d → Wk g n c d) : Wk g n (.agg cs) (.agg ds)
  | tup (cs ds : List AV) (hl : cs.length = ds.length) (h : ∀ (j : Nat) c d, cs[j]? = some c → ds[j]? = some d → Wk g n c d) : Wk g n (.tup cs) (.tup ds)
  | fn (f : Nat) (cs ds : List AV) (hl : cs.length = ds.length) (h : ∀ (j : Nat) c d, cs[j]? = some c → ds[j]? = some d → Wk g n c d) : Wk g n (.fn f cs) (.fn f ds)

def Env.pick (E : Env) (g : Nat → Nat) (n : Nat) : Env := { F := E.F, kd := fun b => if b < n then E.kd (g b) else 0, bk := fun b => E.bk (g b), tk := fun b => E.tk (g b), kp := E.kp }

theorem Wk.vr {E : Env} {g : Nat → Nat} {n : Nat} {c d : AV} (h : Wk g n c d) : ∀ {v : Value}, VR E c v → VR (E.pick g n) d v := by
  induction h with
  | non c => exact fun _ => .non _
  | und => intro v hv; cases hv; exact .und
  | flat c h => intro v hv; exact (show VI (E.pick g n).F c.low v from hv.vi h).vr
  | emp s => intro v hv; exact (Src.of_emp (E := E.pick g n) (s := s) (by cases hv; exact .emp _)).sl
  | ptr b b' o h hb =>
    intro v hv
    cases hv with
    | ptr _ _ x hk hg => subst hb; exact .ptr _ _ x (by simp [Env.pick, h, hk]) hg
  | ow t t' e s rows h hb =>
    intro v hv
    cases hv with
    | ow _ _ _ _ a cap x h0 h1 h2 hk hn hv hc => subst hb; exact .ow _ _ _ _ a cap x h0 h1 h2 (by simp [Env.pick, h, hk]) hn hv hc
  | mp b b' h hb =>
    intro v hv
    cases hv with
    | mp _ x hk hg => subst hb; exact .mp _ x (by simp [Env.pick, h, hk]) hg
  | sb b b' k h hb =>
    intro v hv
    cases hv with
    | sb _ _ x cap hk hg hn hm hv => subst hb; exact .sb _ _ x cap (by simp [Env.pick, h, hk]) hg hn hm hv
  | ep b b' s i h hb =>
    intro v hv
    cases hv with
    | ep _ _ _ x hk hg hm => subst hb; exact .ep _ _ _ x (by simp [Env.pick, h, hk]) hg hm
  | arr s rows => intro v hv; cases hv
  | aw e s rows => intro v hv; cases hv
  | ef b b' s i o h hb =>
    intro v hv
    cases hv with
    | ef _ _ _ _ x hk hg hm => subst hb; exact .ef _ _ _ _ x (by simp [Env.pick, h, hk]) hg hm
  | tok k => intro v hv; cases hv
  | mps f => intro v hv; cases hv
  | agg cs ds hl _ ih =>
    intro v hv
    obtain ⟨us, rfl, hu⟩ := hv.of_agg
    refine .agg ds us (by rw [hu.size]; exact hl) (fun j d u hd hu' => ?_)
    have hj : j < cs.length := by rw [hl]; exact (List.getElem?_eq_some_iff.1 hd).1
    exact ih j _ d (List.getElem?_eq_getElem hj) hd (hu.2 j _ u (List.getElem?_eq_getElem hj) (by simpa using hu'))
  | tup cs ds hl _ ih =>
    intro v hv
    obtain ⟨us, rfl, hu⟩ := hv.of_tup
    refine .tup ds us (by rw [hu.size]; exact hl) (fun j d u hd hu' => ?_)
    have hj : j < cs.length := by rw [hl]; exact (List.getElem?_eq_some_iff.1 hd).1
    exact ih j _ d (List.getElem?_eq_getElem hj) hd (hu.2 j _ u (List.getElem?_eq_getElem hj) (by simpa using hu'))
  | fn f cs ds hl _ ih =>
    intro v hv
    cases hv with
    | fn f cs us hl' hu =>
    refine .fn f ds us (by rw [hl']; exact hl) (fun j d u hd hu' => ?_)
    have hj : j < cs.length := by rw [hl]; exact (List.getElem?_eq_some_iff.1 hd).1
    exact ih j _ d (List.getElem?_eq_getElem hj) hd (hu j _ u (List.getElem?_eq_getElem hj) hu')

theorem Wk.cell {E : Env} {w : World} {g : Nat → Nat} {n b j : Nat} {c d : AV} (h : Wk g n c d) (hb : b < n) (hc : CellOk E w (g b) j c) : CellOk (E.pick g n) w b j d := by
  have pl : c.plain = true → d.plain = true → CellOk (E.pick g n) w b j d := fun h1 h2 => by
    rw [CellOk.plain h1] at hc
    rw [CellOk.plain h2]
    obtain ⟨hk, x, v, e1, e2, e3, e4⟩ := hc
    exact ⟨by simp [Env.pick, hb, hk], x, v, e1, e2, e3, h.vr e4⟩
  cases h with
  | non c => trivial
  | und => exact pl rfl rfl
  | flat c h => exact pl (by cases c <;> simp_all [AV.flat, AV.plain]) (by cases c <;> simp_all [AV.flat, AV.plain, AV.low])
  | emp s => exact pl rfl rfl
  | ptr => exact pl rfl rfl
  | ow => exact pl rfl rfl
  | mp => exact pl rfl rfl
  | sb => exact pl rfl rfl
  | ep => exact pl rfl rfl
  | arr s rows => exact ⟨hc.1, by simp [Env.pick, hb, hc.2.1], hc.2.2⟩
  | aw e s rows => exact ⟨hc.1, by simp [Env.pick, hb, hc.2.1], hc.2.2⟩
  | ef => exact pl rfl rfl
  | tok k => exact ⟨hc.1, by simp [Env.pick, hb, hc.2.1], hc.2.2⟩
  | mps f =>
    obtain ⟨h1, h2, x, es, ck, h3, h4, h5⟩ := hc
    exact ⟨h1, by simp [Env.pick, hb, h2], x, es, ck, h3, h4, h5⟩
  | agg => exact pl rfl rfl
  | tup => exact pl rfl rfl
  | fn => exact pl rfl rfl

structure Pick (nx n : Nat) (g : Nat → Nat) : Prop where
  le : nx ≤ n
  old : ∀ b, b < nx → g b = b
  inj : ∀ x y, x < n → y < n → g x = g y → x = y

theorem EOk.pick {Γ : Ctx} {E : Env} {w : World} (h : EOk Γ E w) {g : Nat → Nat} {n : Nat} (hp : Pick Γ.nx n g) : EOk Γ (E.pick g n) w where
  kpn := h.kpn
  le := by
    refine ⟨h.le.F, fun b hb => ?_, fun t ht => ?_, fun b hb => ?_, h.le.kp⟩
    · have hb' := h.hx b (by rw [hb]; decide)
      obtain ⟨h1, h2⟩ := h.le.box b hb
      have hn : b < n := Nat.lt_of_lt_of_le hb' hp.le
      simp only [Env.pick, hn, if_true, hp.old b hb']
      exact ⟨h1, h2⟩
    · have hb' := h.hx t (by rw [ht]; decide)
      obtain ⟨h1, h2⟩ := h.le.tok t ht
      have hn : t < n := Nat.lt_of_lt_of_le hb' hp.le
      simp only [Env.pick, hn, if_true, hp.old t hb']
      exact ⟨h1, h2⟩
    · have hb' := h.hx b (by rw [hb]; decide)
      obtain ⟨h1, h2, h3⟩ := h.le.ar b hb
      have hn : b < n := Nat.lt_of_lt_of_le hb' hp.le
      simp only [Env.pick, hn, if_true, hp.old b hb']
      exact ⟨h1, h2, h3⟩
  os := h.os
  tape := h.tape
  output := h.output
  size := h.size
  old := h.old
  F := h.F
  box := fun b hb => by
    simp only [Env.pick] at hb ⊢
    split at hb
    · exact h.box (g b) hb
    · cases hb
  arb := fun b hb => by
    simp only [Env.pick] at hb ⊢
    split at hb
    · exact h.arb (g b) hb
    · cases hb
  new := fun b x hb hx => by
    simp only [Env.pick] at hb hx
    split at hb
    · rename_i hbn
      rcases h.new (g b) x hb hx with ⟨h1, h2⟩ | h1
      · have h3 := h.hx (g b) h1
        have h4 : g b = b := hp.inj (g b) b (Nat.lt_of_lt_of_le h3 hp.le) hbn (hp.old (g b) h3)
        rw [h4] at h1 h2
        exact .inl ⟨h1, h2⟩
      · exact .inr h1
    · exact absurd rfl hb
  tok := fun t ht => by
    simp only [Env.pick] at ht
    split at ht
    · exact (h.tok (g t) ht)
    · cases ht
  fnew := h.fnew
  kd3 := fun b => by
    simp only [Env.pick]
    split
    · exact h.kd3 _
    · exact .inl rfl
  inj := fun b b' x hb hb' hx hx' => by
    simp only [Env.pick] at hb hb' hx hx'
    split at hb
    · split at hb'
      · exact hp.inj b b' (by assumption) (by assumption) (h.inj (g b) (g b') x hb hb' hx hx')
      · exact absurd rfl hb'
    · exact absurd rfl hb
  hx := h.hx
  gl := h.gl
  gm := h.gm.keep (fun _ _ x => x) (fun _ _ _ => rfl) (fun b x hb hx => by
    simp only [Env.pick] at hb hx
    split at hb
    · exact .inl ⟨_, hb, hx⟩
    · exact absurd rfl hb)

/-- The second state says less. -/
def Ent (nx : Nat) (s s' : ASt) : Prop := ∀ (Γ : Ctx) (a : Act) (w : World), Γ.nx = nx → Rel Γ s.view a w → Rel Γ s'.view a w

theorem Ent.refl (nx : Nat) (s : ASt) : Ent nx s s := fun _ _ _ _ h => h
theorem Ent.trans {nx : Nat} {s s' s'' : ASt} (h : Ent nx s s') (k : Ent nx s' s'') : Ent nx s s'' := fun Γ a w e hR => k Γ a w e (h Γ a w e hR)

def WkL (g : Nat → Nat) (n : Nat) : List AV → List AV → Prop
  | [], [] => True
  | c :: cs, d :: ds => Wk g n c d ∧ WkL g n cs ds
  | _, _ => False

def WkHs (g : Nat → Nat) (n : Nat) (H : List (List AV)) : List Nat → List (List AV) → Prop
  | [], [] => True
  | b :: bs, l :: ls => WkL g n (nthB H b) l ∧ WkHs g n H bs ls
  | _, _ => False

def nthN : List Nat → Nat → Nat
  | [], _ => 0
  | c :: _, 0 => c
  | _ :: r, n + 1 => nthN r n

theorem WkL.get {g : Nat → Nat} {n : Nat} : ∀ {cs ds : List AV}, WkL g n cs ds → cs.length = ds.length ∧ ∀ j, Wk g n (nth cs j) (nth ds j)
  | [], [], _ => ⟨rfl, fun j => .non _⟩
  | c :: cs, d :: ds, h => by
    obtain ⟨h1, h2⟩ := WkL.get h.2
    refine ⟨by simp [h1], fun j => ?_⟩
    cases j with
    | zero => exact h.1
    | succ j => exact h2 j
  | [], _ :: _, h => h.elim
  | _ :: _, [], h => h.elim

theorem WkHs.get {g : Nat → Nat} {n : Nat} {H : List (List AV)} : ∀ {bs : List Nat} {H' : List (List AV)}, WkHs g n H bs H' → bs.length = H'.length ∧ ∀ i, i < bs.length → WkL g n (nthB H (nthN bs i)) (nthB H' i)
  | [], [], _ => ⟨rfl, fun i h => by simp at h⟩
  | b :: bs, l :: ls, h => by
    obtain ⟨h1, h2⟩ := WkHs.get h.2
    refine ⟨by simp [h1], fun i hi => ?_⟩
    cases i with
    | zero => exact h.1
    | succ i => exact h2 i (by simpa using hi)
  | [], _ :: _, h => h.elim
  | _ :: _, [], h => h.elim

def distinct : List Nat → Bool
  | [] => true
  | b :: bs => !memN b bs && distinct bs

theorem mem_nthN : ∀ {l : List Nat} {i : Nat}, i < l.length → nthN l i ∈ l
  | c :: r, 0, _ => by simp [nthN]
  | c :: r, i + 1, h => List.mem_cons_of_mem _ (mem_nthN (l := r) (by simpa using h))

theorem distinct_inj : ∀ {l : List Nat}, distinct l = true → ∀ x y, x < l.length → y < l.length → nthN l x = nthN l y → x = y
  | [], _, x, y, h, _, _ => by simp at h
  | c :: r, h, 0, 0, _, _, _ => rfl
  | c :: r, h, 0, y + 1, _, hy, e => by
    simp only [distinct, Bool.and_eq_true, Bool.not_eq_true'] at h
    have := mem_nthN (l := r) (i := y) (by simpa using hy)
    simp only [nthN] at e
    rw [← e] at this
    have := memN_iff.2 this
    rw [h.1] at this; cases this
  | c :: r, h, x + 1, 0, hx, _, e => by
    simp only [distinct, Bool.and_eq_true, Bool.not_eq_true'] at h
    have := mem_nthN (l := r) (i := x) (by simpa using hx)
    simp only [nthN] at e
    rw [e] at this
    have := memN_iff.2 this
    rw [h.1] at this; cases this
  | c :: r, h, x + 1, y + 1, hx, hy, e => by
    simp only [distinct, Bool.and_eq_true] at h
    rw [distinct_inj h.2 x y (by simpa using hx) (by simpa using hy) e]

def isId : Nat → Nat → List Nat → Bool
  | _, 0, _ => true
  | i, n + 1, b :: bs => b == i && isId (i + 1) n bs
  | _, _ + 1, [] => false

theorem isId_get : ∀ (n i : Nat) (l : List Nat), isId i n l = true → n ≤ l.length ∧ ∀ b, b < n → nthN l b = i + b
  | 0, i, l, _ => ⟨Nat.zero_le _, fun b h => by omega⟩
  | n + 1, i, [], h => by simp [isId] at h
  | n + 1, i, c :: r, h => by
    simp only [isId, Bool.and_eq_true, beq_iff_eq] at h
    obtain ⟨h1, h2⟩ := isId_get n (i + 1) r h.2
    refine ⟨by simp; omega, fun b hb => ?_⟩
    cases b with
    | zero => simp [nthN, h.1]
    | succ b => simp only [nthN]; rw [h2 b (by omega)]; omega

/-- The blocks bs are kept, in this order. -/
structure Keeps (nx : Nat) (bs : List Nat) : Prop where
  id : isId 0 nx bs = true
  distinct : distinct bs = true

theorem Keeps.pick {nx : Nat} {bs : List Nat} (h : Keeps nx bs) : Pick nx bs.length (nthN bs) := by
  obtain ⟨h1, h2⟩ := isId_get nx 0 bs h.id
  exact ⟨h1, fun b hb => by rw [h2 b hb, Nat.zero_add], distinct_inj h.distinct⟩

theorem ent_of {nx : Nat} {s s' : ASt} (bs : List Nat) (hk : Keeps nx bs) (hr : WkL (nthN bs) bs.length s.regs s'.regs) (hh : WkHs (nthN bs) bs.length s.heap bs s'.heap) : Ent nx s s' := by
  intro Γ a w hn hR
  obtain ⟨E, hE, hS⟩ := hR
  subst hn
  obtain ⟨r1, r2⟩ := hr.get
  obtain ⟨h1, h2⟩ := hh.get
  refine ⟨E.pick (nthN bs) bs.length, hE.pick hk.pick, ⟨?_, hS.defers, fun r => (r2 r).vr (hS.reg r), fun b j => ?_, fun b hb => ?_, hS.gl⟩⟩
  · rw [hS.size]; exact r1
  · by_cases hb : b < bs.length
    · exact ((h2 b hb).get.2 j).cell hb (hS.cell (nthN bs b) j)
    · show CellOk _ _ _ _ (nth (nthB s'.heap b) j)
      rw [nthB_ge _ _ (by omega)]
      trivial
  · simp only [ASt.view, decide_eq_false_iff_not] at hb
    simp only [Env.pick]
    rw [if_neg (by omega)]

/-- An empty slice without capacity becomes a token. -/
theorem ent_tok {nx : Nat} {s : ASt} (r e sz : Nat) (hr : nth s.regs r = .emp) : Ent nx s ⟨s.regs.set r (.ow s.heap.length e sz []), s.heap ++ [[.tok 0]]⟩ := by
  intro Γ a w hn hR
  obtain ⟨E, hE, hS⟩ := hR
  have hv := hS.reg r
  simp only [ASt.view] at hv
  rw [hr] at hv
  have hrl : r < s.regs.length := nth_ne (by rw [hr]; simp)
  generalize hx : a.tmps.getD r undef = v at hv
  cases hv with
  | emp b =>
  have h1 := hS.noTok (Γ := Γ) hE (t := s.heap.length) (by simp [ASt.view]) (some r) e sz b
  have h2 : a.put (some r) (.slice b 0 0) = a := by
    cases a with
    | mk tmps defers =>
    simp only [Act.put]
    congr
    have hsz : r < tmps.size := by have := hS.size; simp only [ASt.view] at this; omega
    simp only [Array.getD_eq_getD_getElem?, Array.getElem?_eq_getElem hsz, Option.getD_some] at hx
    rw [← hx]
    refine Array.ext (by simp) (fun i h1 h2 => ?_)
    rw [Array.getElem_setIfInBounds]
    split
    · rename_i e; subst e; rfl
    · rfl
  rw [h2] at h1
  have h3 := view_apply (s := s) (e := ⟨some r, .ow s.heap.length e sz [], [], s.heap.length, [[.tok 0]]⟩) ⟨rfl, by simp⟩
  rw [← h3] at h1
  exact h1

/-! ### A made row that turns no more -/

def frz (b s : Nat) (rows : List (List AV)) : AV → AV
  | .sb b' n => if b' = b then .sl s (rows.take n) else .sb b' n
  | .ptr b' o => if b' = b then .non else .ptr b' o
  | .mp b' => if b' = b then .non else .mp b'
  | .ow t e s' r => if t = b then .non else .ow t e s' r
  | .ep b' s' i => if b' = b then .non else .ep b' s' i
  | .ef b' s' i o => if b' = b then .non else .ef b' s' i o
  | .agg cs => .agg (frzL b s rows cs)
  | .tup cs => .tup (frzL b s rows cs)
  | .fn f cs => .fn f (frzL b s rows cs)
  | c => c
where
  frzL (b s : Nat) (rows : List (List AV)) : List AV → List AV
    | [] => []
    | c :: r => frz b s rows c :: frzL b s rows r

theorem frzL_get (b s : Nat) (rows : List (List AV)) : ∀ (cs : List AV) (j : Nat), (frz.frzL b s rows cs)[j]? = (cs[j]?).map (frz b s rows)
  | [], _ => by simp [frz.frzL]
  | c :: r, 0 => by simp [frz.frzL]
  | c :: r, j + 1 => by simp only [frz.frzL, List.getElem?_cons_succ]; exact frzL_get b s rows r j
theorem frzL_length (b s : Nat) (rows : List (List AV)) : ∀ cs : List AV, (frz.frzL b s rows cs).length = cs.length
  | [] => rfl
  | c :: r => by simp [frz.frzL, frzL_length b s rows r]
theorem frzL_nth (b s : Nat) (rows : List (List AV)) (cs : List AV) (j : Nat) : nth (frz.frzL b s rows cs) j = frz b s rows (nth cs j) := by
  rw [nth_eq, nth_eq, frzL_get]
  cases cs[j]? <;> simp [frz]

/-- The environment behind it. -/
def Env.frz (E : Env) (w : World) (b g s : Nat) (rows : List (List AV)) : Env where
  F := fun a v => E.F a v ∨ ∃ i j row c, rows[i]? = some row ∧ row[j]? = some c ∧ a = ⟨g, i * s + j, none⟩ ∧ w.cell? a = some v
  kd := fun x => if x = b then 0 else E.kd x
  bk := E.bk
  kp := E.kp
  tk := E.tk

theorem frz_VR {E : Env} {w : World} {b g s : Nat} {rows : List (List AV)} (hk : E.kd b = 3) (hg : E.bk b = some g) (hln : rows.length = (E.tk b).n) (ha : ArrOk E.F w g s rows) {c : AV} {v : Value} (h : VR E c v) :
    VR (E.frz w b g s rows) (frz b s rows c) v := by
  have hF : ∀ a v, E.F a v → (E.frz w b g s rows).F a v := fun a v x => .inl x
  have keep : ∀ x, x ≠ b → (E.frz w b g s rows).kd x = E.kd x := fun x hx => by simp [Env.frz, hx]
  induction h with
  | non v => exact .non v
  | und => exact .und
  | int k n => exact .int k n
  | bool b => exact .bool b
  | str l => exact .str l
  | nilp => exact .nilp
  | nilf => exact .nilf
  | nilm => exact .nilm
  | gm i v hv => exact .gm i v (hF _ _ hv)
  | er0 => exact .er0
  | er1 t v => exact .er1 t v
  | cp cells a g h1 h2 => exact .cp cells a g (fun j c hj => hF _ _ (h1 j c hj)) (fun j c hj => (h2 j c hj).mono hF)
  | ptr x off y hkx hb =>
    simp only [Go.Ab.frz]
    split
    · exact .non _
    · rename_i e; exact .ptr _ _ y ((keep x e).trans hkx) hb
  | emp a => exact .emp a
  | sl s rows a cap g h0 h1 h2 hc => exact .sl s rows a cap g h0 (fun i row j c ad x y z => hF _ _ (h1 i row j c ad x y z)) (fun i row j c x y => (h2 i row j c x y).mono hF) hc
  | ow t e s' rows' a cap y h0 h1 h2 hkt hn hv hc =>
    simp only [Go.Ab.frz]
    split
    · exact .non _
    · rename_i e'; exact .ow t e s' rows' a cap y h0 (fun i row j c ad x y z => hF _ _ (h1 i row j c ad x y z)) (fun i row j c x y => (h2 i row j c x y).mono hF) ((keep t e').trans hkt) hn hv hc
  | agg cs vs hl _ ih => exact .agg _ vs (by rw [frzL_length]; exact hl) (fun j c v hc hv => by
      rw [frzL_get] at hc
      cases hx : cs[j]? with
      | none => rw [hx] at hc; cases hc
      | some d => rw [hx] at hc; injection hc with hc; subst hc; exact ih j d v hx hv)
  | tup cs vs hl _ ih => exact .tup _ vs (by rw [frzL_length]; exact hl) (fun j c v hc hv => by
      rw [frzL_get] at hc
      cases hx : cs[j]? with
      | none => rw [hx] at hc; cases hc
      | some d => rw [hx] at hc; injection hc with hc; subst hc; exact ih j d v hx hv)
  | fn f cs vs hl _ ih => exact .fn f _ vs (by rw [frzL_length]; exact hl) (fun j c v hc hv => by
      rw [frzL_get] at hc
      cases hx : cs[j]? with
      | none => rw [hx] at hc; cases hc
      | some d => rw [hx] at hc; injection hc with hc; subst hc; exact ih j d v hx hv)
  | mp x y hkx hb =>
    simp only [Go.Ab.frz]
    split
    · exact .non _
    · rename_i e; exact .mp _ y ((keep x e).trans hkx) hb
  | sb x n y cap hkx hb hn hm hvv =>
    simp only [Go.Ab.frz]
    split
    · rename_i e
      subst e
      rw [hg] at hb; injection hb with hb; subst hb
      have hl : (rows.take n).length = n := by rw [List.length_take]; omega
      have hcell : ∀ (i : Nat) row (j : Nat) c, (rows.take n)[i]? = some row → row[j]? = some c → rows[i]? = some row ∧ ∃ v, w.cell? ⟨g, i * s + j, none⟩ = some v ∧ VI E.F c v := fun i row j c hi hj => by
        rw [List.getElem?_take] at hi
        split at hi
        · obtain ⟨v, q1, _, _, q2⟩ := ha.2 i row j c hi hj
          exact ⟨hi, v, q1, q2⟩
        · cases hi
      have := VR.sl (E := E.frz w x g s rows) s (rows.take n) (some ⟨g, 0, none⟩) cap (fun i j => (w.cell? ⟨g, i * s + j, none⟩).getD undef) (fun _ => rfl) (fun i row j c ad hi hj had => by
        injection had with had
        subst had
        rw [add_lit, Nat.zero_add]
        obtain ⟨h1, v, h2, _⟩ := hcell i row j c hi hj
        refine .inr ⟨i, j, row, c, h1, hj, rfl, ?_⟩
        rw [h2]; rfl) (fun i row j c hi hj => by
        obtain ⟨_, v, h2, h3⟩ := hcell i row j c hi hj
        simp only [h2, Option.getD_some]
        exact h3.mono hF) (by rw [hl]; exact hn)
      rw [hl] at this
      exact this
    · rename_i e; exact .sb _ _ y cap ((keep x e).trans hkx) hb hn hm hvv
  | ep x s' i y hkx hb hm =>
    simp only [Go.Ab.frz]
    split
    · exact .non _
    · rename_i e; exact .ep _ _ _ y ((keep x e).trans hkx) hb hm
  | ef x s' i o y hkx hb hm =>
    simp only [Go.Ab.frz]
    split
    · exact .non _
    · rename_i e; exact .ef _ _ _ _ y ((keep x e).trans hkx) hb hm
  | ub n b h => exact .ub n b h

def frzH (b s : Nat) (rows : List (List AV)) : Nat → List (List AV) → List (List AV)
  | _, [] => []
  | i, l :: r => (if i = b then [.non] else frz.frzL b s rows l) :: frzH b s rows (i + 1) r
theorem frzH_length (b s : Nat) (rows : List (List AV)) : ∀ (H : List (List AV)) (i : Nat), (frzH b s rows i H).length = H.length
  | [], _ => rfl
  | l :: r, i => by simp [frzH, frzH_length b s rows r]
theorem frzH_get (b s : Nat) (rows : List (List AV)) : ∀ (H : List (List AV)) (i x j : Nat), nth (nthB (frzH b s rows i H) x) j = if i + x = b then .non else frz b s rows (nth (nthB H x) j)
  | [], i, x, j => by simp only [frzH, nthB, nth]; split <;> rfl
  | l :: r, i, 0, j => by
    simp only [frzH, nthB, Nat.add_zero]
    split
    · cases j <;> rfl
    · exact frzL_nth b s rows l j
  | l :: r, i, x + 1, j => by
    show nth (nthB (frzH b s rows (i + 1) r) x) j = _
    rw [frzH_get b s rows r (i + 1) x j, show i + 1 + x = i + (x + 1) by omega]
    rfl

def ASt.frz (s : ASt) (b sz : Nat) (rows : List (List AV)) : ASt := ⟨frz.frzL b sz rows s.regs, frzH b sz rows 0 s.heap⟩

theorem ent_frz {nx : Nat} {s : ASt} {b sz : Nat} {rows : List (List AV)} (hb : nx ≤ b) (hc : nth (nthB s.heap b) 0 = .arr sz rows) : Ent nx s (s.frz b sz rows) := by
  intro Γ a w hn hR
  subst hn
  obtain ⟨E, hE, hS⟩ := hR
  have h0 := hS.cell b 0
  rw [show s.view.cell b 0 = .arr sz rows from hc] at h0
  obtain ⟨_, hk, hln, g, hg, hlt, ha⟩ := h0
  have hvr : ∀ {c : AV} {v : Value}, VR E c v → VR (E.frz w b g sz rows) (Go.Ab.frz b sz rows c) v := fun h => frz_VR hk hg hln ha h
  have hnb : ∀ x, Γ.E0.kd x ≠ 0 → x ≠ b := fun x hx e => by have := hE.hx x hx; omega
  have hsz : Γ.w0.heap.size ≤ g := by
    rcases hE.new b g (by rw [hk]; decide) hg with ⟨h, _⟩ | h
    · exact absurd rfl (hnb b h)
    · exact h
  have hkeep : ∀ x, x ≠ b → (E.frz w b g sz rows).kd x = E.kd x := fun x hx => by simp [Env.frz, hx]
  have hne : ∀ x, (E.frz w b g sz rows).kd x ≠ 0 → x ≠ b ∧ E.kd x ≠ 0 := fun x hx => by
    have h1 : x ≠ b := fun e => hx (by simp [Env.frz, e])
    exact ⟨h1, by rw [← hkeep x h1]; exact hx⟩
  have hblk : ∀ x g', (E.frz w b g sz rows).kd x ≠ 0 → E.bk x = some g' → g' ≠ g := fun x g' hx hg' e => by
    subst e
    obtain ⟨h1, h2⟩ := hne x hx
    exact h1 (hE.inj x b g' h2 (by rw [hk]; decide) hg' hg)
  refine ⟨E.frz w b g sz rows, { le := ?_, os := hE.os, tape := hE.tape, output := hE.output, size := hE.size, old := hE.old, kpn := hE.kpn, F := ?_, box := ?_, tok := ?_, fnew := ?_, kd3 := ?_, arb := ?_, new := ?_, inj := ?_, hx := hE.hx, gl := Glob.mono (fun _ _ x => .inl x) hE.gl, gm := hE.gm.keep (fun _ _ x => .inl x) (fun _ _ _ => rfl) (fun x y hx hy => .inl ⟨x, (hne x hx).2, hy⟩) }, ⟨?_, hS.defers, fun r => ?_, fun x j => ?_, fun x hx => ?_, Glob.mono (fun _ _ x => .inl x) hS.gl⟩⟩
  · refine ⟨fun a v x => .inl (hE.le.F a v x), fun x hx => ?_, fun x hx => ?_, fun x hx => ?_, hE.le.kp⟩
    · rw [hkeep x (hnb x (by rw [hx]; decide))]; exact hE.le.box x hx
    · rw [hkeep x (hnb x (by rw [hx]; decide))]; exact hE.le.tok x hx
    · rw [hkeep x (hnb x (by rw [hx]; decide))]; exact hE.le.ar x hx
  · rintro y v (h | ⟨i, j, row, c, h1, h2, rfl, h4⟩)
    · exact hE.F y v h
    · obtain ⟨u, q1, _, q2, _⟩ := ha.2 i row j c h1 h2
      rw [h4] at q1; injection q1 with q1; subst q1
      exact ⟨h4, q2⟩
  · intro x hx
    obtain ⟨h1, _⟩ := hne x (by rw [hx]; decide)
    obtain ⟨g', q1, q2, q3, q4⟩ := hE.box x ((hkeep x h1).symm.trans hx)
    refine ⟨g', q1, q2, q3, ?_⟩
    rintro y v (h | ⟨i, j, row, c, _, _, rfl, _⟩)
    · exact q4 y v h
    · exact fun e => hblk x g' (by rw [hx]; decide) q1 e.symm
  · intro x hx
    obtain ⟨h1, _⟩ := hne x (by rw [hx]; decide)
    refine (hE.tok x ((hkeep x h1).symm.trans hx)).keep rfl rfl (fun _ _ _ => rfl) ?_
    rintro g' y v hg' (h | ⟨i, j, row, c, _, _, rfl, _⟩) e
    · exact h
    · exact absurd e.symm (hblk x g' (by rw [hx]; decide) hg')
  · rintro y v (h | ⟨i, j, row, c, _, _, rfl, _⟩)
    · exact hE.fnew y v h
    · exact .inr (.inl hsz)
  · intro x
    by_cases h : x = b
    · exact .inl (by simp [Env.frz, h])
    · rw [hkeep x h]; exact hE.kd3 x
  · intro x hx
    obtain ⟨h1, _⟩ := hne x (by rw [hx]; decide)
    obtain ⟨g', q1, q2, q3, q4⟩ := hE.arb x ((hkeep x h1).symm.trans hx)
    refine ⟨g', q1, q2, q3, ?_⟩
    rintro y v (h | ⟨i, j, row, c, _, _, rfl, _⟩)
    · exact q4 y v h
    · exact fun e => hblk x g' (by rw [hx]; decide) q1 e.symm
  · intro x z hx hz
    exact hE.new x z (hne x hx).2 hz
  · intro x y z hx hy hgx hgy
    exact hE.inj x y z (hne x hx).2 (hne y hy).2 hgx hgy
  · simp only [ASt.view, ASt.frz, frzL_length]; exact hS.size
  · simp only [ASt.view, ASt.frz, frzL_nth]
    exact hvr (hS.reg r)
  · simp only [ASt.view, ASt.frz, frzH_get, Nat.zero_add]
    split
    · trivial
    · rename_i hxb
      have h1 := hS.cell x j
      simp only [ASt.view] at h1
      generalize nth (nthB s.heap x) j = c at h1
      by_cases hp : c.plain = true
      · rw [CellOk.plain hp] at h1
        obtain ⟨e1, g', v, e2, e3, e4, e5⟩ := h1
        have h2 := hvr e5
        have : (Go.Ab.frz b sz rows c).plain = true ∨ Go.Ab.frz b sz rows c = .non := by
          cases c <;> simp only [Go.Ab.frz] <;> first | (exact .inl rfl) | (split <;> first | exact .inr rfl | exact .inl rfl) | (simp [AV.plain] at hp)
        rcases this with h3 | h3
        · rw [CellOk.plain h3]
          exact ⟨(hkeep x hxb).trans e1, g', v, e2, e3, e4, h2⟩
        · rw [h3]; trivial
      · cases c <;> simp [AV.plain] at hp
        case non => trivial
        case tok m => exact ⟨h1.1, (hkeep x hxb).trans h1.2.1, h1.2.2⟩
        case mps f =>
          obtain ⟨e0, e1, y, es, ck, e2, e3, e4⟩ := h1
          exact ⟨e0, (hkeep x hxb).trans e1, y, es, ck, e2, e3, e4.1, e4.2.1, fun l c hl => by
            obtain ⟨i, e, a1, a2, a3, a4⟩ := e4.2.2 l c hl
            exact ⟨i, e, a1, a2, a3.mono (fun a v x => .inl x), a4⟩⟩
        case mpi f => exact h1.elim
        case arr s' rows' =>
          obtain ⟨e0, e1, e2, y, e3, e4, e5⟩ := h1
          exact ⟨e0, (hkeep x hxb).trans e1, e2, y, e3, e4, e5.mono (fun a v x => .inl x)⟩
        case aw e' s' rows' =>
          obtain ⟨e0, e1, e2, e6, e7, y, e3, e4, e5, e8⟩ := h1
          exact ⟨e0, (hkeep x hxb).trans e1, e2, e6, e7, y, e3, e4, e5.mono (fun a v x => .inl x), e8⟩
  · simp only [ASt.view, ASt.frz, frzH_length, decide_eq_false_iff_not] at hx
    have := hS.dom x (by simp only [ASt.view, decide_eq_false_iff_not]; exact hx)
    simp only [Env.frz]
    split
    · rfl
    · exact this

/-! ### A made row that becomes an own list -/

def own (b et s : Nat) (rows : List (List AV)) : AV → AV
  | .sb b' n => if b' = b then (if n = rows.length then .ow b et s rows else .non) else .sb b' n
  | .ptr b' o => if b' = b then .non else .ptr b' o
  | .mp b' => if b' = b then .non else .mp b'
  | .ow t e s' r => if t = b then .non else .ow t e s' r
  | .ep b' s' i => if b' = b then .non else .ep b' s' i
  | .ef b' s' i o => if b' = b then .non else .ef b' s' i o
  | .agg cs => .agg (ownL b et s rows cs)
  | .tup cs => .tup (ownL b et s rows cs)
  | .fn f cs => .fn f (ownL b et s rows cs)
  | c => c
where
  ownL (b et s : Nat) (rows : List (List AV)) : List AV → List AV
    | [] => []
    | c :: r => own b et s rows c :: ownL b et s rows r

theorem ownL_get (b et s : Nat) (rows : List (List AV)) : ∀ (cs : List AV) (j : Nat), (own.ownL b et s rows cs)[j]? = (cs[j]?).map (own b et s rows)
  | [], _ => by simp [own.ownL]
  | c :: r, 0 => by simp [own.ownL]
  | c :: r, j + 1 => by simp only [own.ownL, List.getElem?_cons_succ]; exact ownL_get b et s rows r j
theorem ownL_length (b et s : Nat) (rows : List (List AV)) : ∀ cs : List AV, (own.ownL b et s rows cs).length = cs.length
  | [] => rfl
  | c :: r => by simp [own.ownL, ownL_length b et s rows r]
theorem ownL_nth (b et s : Nat) (rows : List (List AV)) (cs : List AV) (j : Nat) : nth (own.ownL b et s rows cs) j = own b et s rows (nth cs j) := by
  rw [nth_eq, nth_eq, ownL_get]
  cases cs[j]? <;> simp [own]

/-- The environment behind it. -/
def Env.own (E : Env) (w : World) (b g s : Nat) (rows : List (List AV)) : Env where
  F := fun a v => E.F a v ∨ ∃ i j row c, rows[i]? = some row ∧ row[j]? = some c ∧ a = ⟨g, i * s + j, none⟩ ∧ w.cell? a = some v
  kd := fun x => if x = b then 2 else E.kd x
  bk := E.bk
  kp := E.kp
  tk := E.tk

theorem own_VR {E : Env} {w : World} {b g et s : Nat} {rows : List (List AV)} (hk : E.kd b = 3) (hg : E.bk b = some g) (hln : rows.length = (E.tk b).n) (he : (E.tk b).e = et) (hs : (E.tk b).s = s) (hs0 : 0 < s) (ha : ArrOk E.F w g s rows) {c : AV} {v : Value} (h : VR E c v) :
    VR (E.own w b g s rows) (own b et s rows c) v := by
  have hF : ∀ a v, E.F a v → (E.own w b g s rows).F a v := fun a v x => .inl x
  have keep : ∀ x, x ≠ b → (E.own w b g s rows).kd x = E.kd x := fun x hx => by simp [Env.own, hx]
  induction h with
  | non v => exact .non v
  | und => exact .und
  | int k n => exact .int k n
  | bool b => exact .bool b
  | str l => exact .str l
  | nilp => exact .nilp
  | nilf => exact .nilf
  | nilm => exact .nilm
  | gm i v hv => exact .gm i v (hF _ _ hv)
  | er0 => exact .er0
  | er1 t v => exact .er1 t v
  | cp cells a g h1 h2 => exact .cp cells a g (fun j c hj => hF _ _ (h1 j c hj)) (fun j c hj => (h2 j c hj).mono hF)
  | ptr x off y hkx hb =>
    simp only [Go.Ab.own]
    split
    · exact .non _
    · rename_i e; exact .ptr _ _ y ((keep x e).trans hkx) hb
  | emp a => exact .emp a
  | sl s rows a cap g h0 h1 h2 hc => exact .sl s rows a cap g h0 (fun i row j c ad x y z => hF _ _ (h1 i row j c ad x y z)) (fun i row j c x y => (h2 i row j c x y).mono hF) hc
  | ow t e s' rows' a cap y h0 h1 h2 hkt hn hv hc =>
    simp only [Go.Ab.own]
    split
    · exact .non _
    · rename_i e'; exact .ow t e s' rows' a cap y h0 (fun i row j c ad x y z => hF _ _ (h1 i row j c ad x y z)) (fun i row j c x y => (h2 i row j c x y).mono hF) ((keep t e').trans hkt) hn hv hc
  | agg cs vs hl _ ih => exact .agg _ vs (by rw [ownL_length]; exact hl) (fun j c v hc hv => by
      rw [ownL_get] at hc
      cases hx : cs[j]? with
      | none => rw [hx] at hc; cases hc
      | some d => rw [hx] at hc; injection hc with hc; subst hc; exact ih j d v hx hv)
  | tup cs vs hl _ ih => exact .tup _ vs (by rw [ownL_length]; exact hl) (fun j c v hc hv => by
      rw [ownL_get] at hc
      cases hx : cs[j]? with
      | none => rw [hx] at hc; cases hc
      | some d => rw [hx] at hc; injection hc with hc; subst hc; exact ih j d v hx hv)
  | fn f cs vs hl _ ih => exact .fn f _ vs (by rw [ownL_length]; exact hl) (fun j c v hc hv => by
      rw [ownL_get] at hc
      cases hx : cs[j]? with
      | none => rw [hx] at hc; cases hc
      | some d => rw [hx] at hc; injection hc with hc; subst hc; exact ih j d v hx hv)
  | mp x y hkx hb =>
    simp only [Go.Ab.own]
    split
    · exact .non _
    · rename_i e; exact .mp _ y ((keep x e).trans hkx) hb
  | sb x n y cap hkx hb hn hm hvv =>
    simp only [Go.Ab.own]
    split
    · rename_i e
      split
      · rename_i hln2
        subst e
        rw [hg] at hb; injection hb with hb; subst hb
        have hv2 := hvv (by omega) (by omega)
        rw [hln2] at hv2 hn ⊢
        have hcell : ∀ (i : Nat) row (j : Nat) c, rows[i]? = some row → row[j]? = some c → ∃ v, w.cell? ⟨g, i * s + j, none⟩ = some v ∧ VI E.F c v := fun i row j c hi hj => by
          obtain ⟨v, q1, _, _, q2⟩ := ha.2 i row j c hi hj
          exact ⟨v, q1, q2⟩
        exact .ow x et s rows (some ⟨g, 0, none⟩) cap (fun i j => (w.cell? ⟨g, i * s + j, none⟩).getD undef) (fun _ => rfl) (fun i row j c ad hi hj had => by
          injection had with had
          subst had
          rw [add_lit, Nat.zero_add]
          obtain ⟨v, h2, _⟩ := hcell i row j c hi hj
          refine .inr ⟨i, j, row, c, hi, hj, rfl, ?_⟩
          rw [h2]; rfl) (fun i row j c hi hj => by
          obtain ⟨v, h2, h3⟩ := hcell i row j c hi hj
          simp only [h2, Option.getD_some]
          exact h3.mono hF) (by simp [Env.own]) (by show rows.length ≤ (E.tk x).n; omega) (fun _ => ⟨he, hs, hv2⟩) hn
      · exact .non _
    · rename_i e; exact .sb _ _ y cap ((keep x e).trans hkx) hb hn hm hvv
  | ep x s' i y hkx hb hm =>
    simp only [Go.Ab.own]
    split
    · exact .non _
    · rename_i e; exact .ep _ _ _ y ((keep x e).trans hkx) hb hm
  | ef x s' i o y hkx hb hm =>
    simp only [Go.Ab.own]
    split
    · exact .non _
    · rename_i e; exact .ef _ _ _ _ y ((keep x e).trans hkx) hb hm
  | ub n b h => exact .ub n b h

def ownH (b et s : Nat) (rows : List (List AV)) : Nat → List (List AV) → List (List AV)
  | _, [] => []
  | i, l :: r => (if i = b then [.tok rows.length] else own.ownL b et s rows l) :: ownH b et s rows (i + 1) r
theorem ownH_length (b et s : Nat) (rows : List (List AV)) : ∀ (H : List (List AV)) (i : Nat), (ownH b et s rows i H).length = H.length
  | [], _ => rfl
  | l :: r, i => by simp [ownH, ownH_length b et s rows r]
theorem ownH_get (b et s : Nat) (rows : List (List AV)) : ∀ (H : List (List AV)) (i x j : Nat), x < H.length → nth (nthB (ownH b et s rows i H) x) j = if i + x = b then (if j = 0 then .tok rows.length else .non) else own b et s rows (nth (nthB H x) j)
  | [], i, x, j, h => absurd h (Nat.not_lt_zero _)
  | l :: r, i, 0, j, _ => by
    simp only [ownH, nthB, Nat.add_zero]
    split
    · cases j <;> rfl
    · exact ownL_nth b et s rows l j
  | l :: r, i, x + 1, j, h => by
    show nth (nthB (ownH b et s rows (i + 1) r) x) j = _
    rw [ownH_get b et s rows r (i + 1) x j (by simpa using h), show i + 1 + x = i + (x + 1) by omega]
    rfl

def ASt.own (s : ASt) (b et sz : Nat) (rows : List (List AV)) : ASt := ⟨own.ownL b et sz rows s.regs, ownH b et sz rows 0 s.heap⟩

theorem ent_own {nx : Nat} {s : ASt} {b et sz : Nat} {rows : List (List AV)} (hb : nx ≤ b) (hc : nth (nthB s.heap b) 0 = .aw et sz rows) : Ent nx s (s.own b et sz rows) := by
  intro Γ a w hn hR
  subst hn
  obtain ⟨E, hE, hS⟩ := hR
  have h0 := hS.cell b 0
  rw [show s.view.cell b 0 = .aw et sz rows from hc] at h0
  obtain ⟨_, hk, hln, he, hs, g, hg, hlt, ha, hs0, cap, cur, hq1, hq2, hq3, hq4, hq5⟩ := h0
  rw [hs] at hs0 hq5
  rw [he] at hq2
  have hbl : b < s.heap.length := by
    refine Nat.lt_of_not_le fun hx => ?_
    rw [nthB_ge _ _ hx] at hc
    cases hc
  have hvr : ∀ {c : AV} {v : Value}, VR E c v → VR (E.own w b g sz rows) (Go.Ab.own b et sz rows c) v := fun h => own_VR hk hg hln he hs hs0 ha h
  have hnb : ∀ x, Γ.E0.kd x ≠ 0 → x ≠ b := fun x hx e => by have := hE.hx x hx; omega
  have hsz : Γ.w0.heap.size ≤ g := by
    rcases hE.new b g (by rw [hk]; decide) hg with ⟨h, _⟩ | h
    · exact absurd rfl (hnb b h)
    · exact h
  have hkeep : ∀ x, x ≠ b → (E.own w b g sz rows).kd x = E.kd x := fun x hx => by simp [Env.own, hx]
  have hkb : (E.own w b g sz rows).kd b = 2 := by simp [Env.own]
  have hne : ∀ x, (E.own w b g sz rows).kd x ≠ 0 → E.kd x ≠ 0 := fun x hx => by
    by_cases h1 : x = b
    · rw [h1, hk]; decide
    · rw [← hkeep x h1]; exact hx
  have hblk : ∀ x g', x ≠ b → E.kd x ≠ 0 → E.bk x = some g' → g' ≠ g := fun x g' h1 h2 hg' e => by
    subst e
    exact h1 (hE.inj x b g' h2 (by rw [hk]; decide) hg' hg)
  refine ⟨E.own w b g sz rows, { le := ?_, os := hE.os, tape := hE.tape, output := hE.output, size := hE.size, old := hE.old, kpn := hE.kpn, F := ?_, box := ?_, tok := ?_, fnew := ?_, kd3 := ?_, arb := ?_, new := ?_, inj := ?_, hx := hE.hx, gl := Glob.mono (fun _ _ x => .inl x) hE.gl, gm := hE.gm.keep (fun _ _ x => .inl x) (fun _ _ _ => rfl) (fun x y hx hy => .inl ⟨x, hne x hx, hy⟩) }, ⟨?_, hS.defers, fun r => ?_, fun x j => ?_, fun x hx => ?_, Glob.mono (fun _ _ x => .inl x) hS.gl⟩⟩
  · refine ⟨fun a v x => .inl (hE.le.F a v x), fun x hx => ?_, fun x hx => ?_, fun x hx => ?_, hE.le.kp⟩
    · rw [hkeep x (hnb x (by rw [hx]; decide))]; exact hE.le.box x hx
    · rw [hkeep x (hnb x (by rw [hx]; decide))]; exact hE.le.tok x hx
    · rw [hkeep x (hnb x (by rw [hx]; decide))]; exact hE.le.ar x hx
  · rintro y v (h | ⟨i, j, row, c, h1, h2, rfl, h4⟩)
    · exact hE.F y v h
    · obtain ⟨u, q1, _, q2, _⟩ := ha.2 i row j c h1 h2
      rw [h4] at q1; injection q1 with q1; subst q1
      exact ⟨h4, q2⟩
  · intro x hx
    have h1 : x ≠ b := fun e => by subst e; rw [hkb] at hx; cases hx
    have h2 := (hkeep x h1).symm.trans hx
    obtain ⟨g', q1, q2, q3, q4⟩ := hE.box x h2
    refine ⟨g', q1, q2, q3, ?_⟩
    rintro y v (h | ⟨i, j, row, c, _, _, rfl, _⟩)
    · exact q4 y v h
    · exact fun e => hblk x g' h1 (by rw [h2]; decide) q1 e.symm
  · intro x hx
    by_cases h1 : x = b
    · subst h1
      obtain ⟨g', r1, r2, r3, r4⟩ := hE.arb x hk
      rw [hg] at r1; injection r1 with r1; subst r1
      have hle : (E.tk x).n * sz ≤ cap * sz := Nat.mul_le_mul_right _ hq3
      refine .inr ⟨g, cap, cur.toList.take ((E.tk x).n * sz), hg, hq1, ⟨?_, .inr ⟨g, cap, cur, hq1, Nat.zero_le _, ?_, hq3, hq4, ?_, ?_⟩⟩, ?_, r3⟩
      · show (cur.toList.take ((E.tk x).n * sz)).length = (E.tk x).n * (E.tk x).s
        rw [hs, List.length_take, Array.length_toList]
        omega
      · show w.heap[g]? = some (.cells cur (E.tk x).e (0, 0))
        rw [he]; exact hq2
      · show cur.size = cap * (E.tk x).s
        rw [hs]; exact hq5
      · show cur.toList.take ((E.tk x).n * (E.tk x).s) = _
        rw [hs]
      · rintro y v (h | ⟨i, j, row, c, h1, h2, rfl, _⟩) hy
        · exact absurd hy (r4 y v h)
        · show i * sz + j < (E.tk x).n * (E.tk x).s
          rw [hs]
          have hi : i < rows.length := (List.getElem?_eq_some_iff.1 h1).1
          have hj : j < sz := by rw [← ha.1 row (List.mem_of_getElem? h1)]; exact (List.getElem?_eq_some_iff.1 h2).1
          have : (i + 1) * sz ≤ (E.tk x).n * sz := Nat.mul_le_mul_right _ (by omega)
          rw [Nat.add_mul, Nat.one_mul] at this
          omega
    · have h2 := (hkeep x h1).symm.trans hx
      refine (hE.tok x h2).keep rfl rfl (fun _ _ _ => rfl) ?_
      rintro g' y v hg' (h | ⟨i, j, row, c, _, _, rfl, _⟩) e
      · exact h
      · exact absurd e.symm (hblk x g' h1 (by rw [h2]; decide) hg')
  · rintro y v (h | ⟨i, j, row, c, _, _, rfl, _⟩)
    · exact hE.fnew y v h
    · exact .inr (.inl hsz)
  · intro x
    by_cases h : x = b
    · exact .inr (.inr (.inl (by rw [h]; exact hkb)))
    · rw [hkeep x h]; exact hE.kd3 x
  · intro x hx
    have h1 : x ≠ b := fun e => by subst e; rw [hkb] at hx; cases hx
    have h2 := (hkeep x h1).symm.trans hx
    obtain ⟨g', q1, q2, q3, q4⟩ := hE.arb x h2
    refine ⟨g', q1, q2, q3, ?_⟩
    rintro y v (h | ⟨i, j, row, c, _, _, rfl, _⟩)
    · exact q4 y v h
    · exact fun e => hblk x g' h1 (by rw [h2]; decide) q1 e.symm
  · intro x z hx hz
    exact hE.new x z (hne x hx) hz
  · intro x y z hx hy hgx hgy
    exact hE.inj x y z (hne x hx) (hne y hy) hgx hgy
  · simp only [ASt.view, ASt.own, ownL_length]; exact hS.size
  · simp only [ASt.view, ASt.own, ownL_nth]
    exact hvr (hS.reg r)
  · by_cases hxl : x < s.heap.length
    · simp only [ASt.view, ASt.own, ownH_get _ _ _ _ _ _ _ _ hxl, Nat.zero_add]
      split
      · rename_i hxb
        subst hxb
        split
        · rename_i hj
          exact ⟨hj, hkb, hln.symm⟩
        · trivial
      · rename_i hxb
        have h1 := hS.cell x j
        simp only [ASt.view] at h1
        generalize nth (nthB s.heap x) j = c at h1
        by_cases hp : c.plain = true
        · rw [CellOk.plain hp] at h1
          obtain ⟨e1, g', v, e2, e3, e4, e5⟩ := h1
          have h2 := hvr e5
          have : (Go.Ab.own b et sz rows c).plain = true ∨ Go.Ab.own b et sz rows c = .non := by
            cases c <;> simp only [Go.Ab.own] <;> first | (exact .inl rfl) | (split <;> first | exact .inr rfl | exact .inl rfl | (split <;> first | exact .inr rfl | exact .inl rfl)) | (simp [AV.plain] at hp)
          rcases this with h3 | h3
          · rw [CellOk.plain h3]
            exact ⟨(hkeep x hxb).trans e1, g', v, e2, e3, e4, h2⟩
          · rw [h3]; trivial
        · cases c <;> simp [AV.plain] at hp
          case non => trivial
          case tok m => exact ⟨h1.1, (hkeep x hxb).trans h1.2.1, h1.2.2⟩
          case mps f =>
            obtain ⟨e0, e1, y, es, ck, e2, e3, e4⟩ := h1
            exact ⟨e0, (hkeep x hxb).trans e1, y, es, ck, e2, e3, e4.1, e4.2.1, fun l c hl => by
              obtain ⟨i, e, a1, a2, a3, a4⟩ := e4.2.2 l c hl
              exact ⟨i, e, a1, a2, a3.mono (fun a v x => .inl x), a4⟩⟩
          case mpi f => exact h1.elim
          case arr s' rows' =>
            obtain ⟨e0, e1, e2, y, e3, e4, e5⟩ := h1
            exact ⟨e0, (hkeep x hxb).trans e1, e2, y, e3, e4, e5.mono (fun a v x => .inl x)⟩
          case aw e' s' rows' =>
            obtain ⟨e0, e1, e2, e6, e7, y, e3, e4, e5, e8⟩ := h1
            exact ⟨e0, (hkeep x hxb).trans e1, e2, e6, e7, y, e3, e4, e5.mono (fun a v x => .inl x), e8⟩
    · simp only [ASt.view, ASt.own]
      rw [nthB_ge _ _ (by rw [ownH_length]; omega)]
      trivial
  · simp only [ASt.view, ASt.own, ownH_length, decide_eq_false_iff_not] at hx
    have := hS.dom x (by simp only [ASt.view, decide_eq_false_iff_not]; exact hx)
    have hxb : x ≠ b := fun e => hx (e ▸ hbl)
    rw [hkeep x hxb]
    exact this

/-! ### Code -/

inductive AEx where
  | nrm | ext (id : Nat) | ret

def AEx.ex : AEx → Exit
  | .nrm => .normal
  | .ext id => .exit id
  | .ret => .ret

def loopK (nx : Nat) (I : Nat → ASt → Prop) (n : Nat) (K : AEx → ASt → Prop) : AEx → ASt → Prop
  | .nrm, s => ∃ s' m, Ent nx s s' ∧ m < n ∧ I m s'
  | x, s => K x s

def seqK (f : ASt → Prop) (K : AEx → ASt → Prop) : AEx → ASt → Prop
  | .nrm, s => f s
  | x, s => K x s

def blkK (id : Nat) (K : AEx → ASt → Prop) : AEx → ASt → Prop
  | .ext id', s => if id' = id then K .nrm s else K (.ext id') s
  | x, s => K x s

def awp (P : Program) (T : TT) (nx : Nat) : Code → ASt → (AEx → ASt → Prop) → Prop
  | .skip, s, K => K .nrm s
  | .region _ ops dr, s, K => ∃ s', Ent nx s s' ∧ aops P T ops dr ops.toList s' [] (regK ops dr (K .nrm))
  | .seq a b, s, K => awp P T nx a s (seqK (fun s' => awp P T nx b s' K) K)
  | .cond c a b, s, K => match s.view.ev c with
    | .bool t => (t = true → awp P T nx a s K) ∧ (t = false → awp P T nx b s K)
    | .ub n => (n = 0 → awp P T nx a s K) ∧ awp P T nx b s K
    | _ => False
  | .block id c, s, K => awp P T nx c s (blkK id K)
  | .loop c, s, K => ∃ I : Nat → ASt → Prop, (∃ s' n, Ent nx s s' ∧ I n s') ∧ ∀ n s, I n s → awp P T nx c s (loopK nx I n K)
  | .exit id, s, K => K (.ext id) s
  | .ret, s, K => K .ret s
  | .label _, s, K => K .nrm s
  | _, _, _ => False

theorem wp_loop_idx {c : Code} {Q : Exit → Act → World → Prop} {a : Act} {w : World} (J : Nat → Act → World → Prop) (n₀ : Nat) (h₀ : J n₀ a w)
    (round : ∀ n a w, J n a w → c.wp P (Exit.then (fun a' w' => ∃ m, m < n ∧ J m a' w') Q) a w) : (Code.loop c).wp P Q a w := by
  intro b k cs
  have key : ∀ n a w, J n a w → ∃ e a' w', Q e a' w' ∧ Arrives P (lone (b.at a (.code c :: .inLoop c :: k)) cs w) b k cs e a' w' := by
    intro n
    induction n using Nat.strongRecOn with
    | _ n ih =>
      intro a w hJ
      obtain ⟨e, a₁, w₁, hq, harr⟩ := round n a w hJ b (.inLoop c :: k) cs
      cases e with
      | normal =>
        obtain ⟨m, hlt, hJ₁⟩ := hq
        obtain ⟨e₂, a₂, w₂, hq₂, harr₂⟩ := ih m hlt a₁ w₁ hJ₁
        exact ⟨e₂, a₂, w₂, hq₂, .of_steps (Steps.trans harr (.one step_inLoop)) harr₂⟩
      | exit id => exact ⟨_, a₁, w₁, hq, .pass (x := .inLoop c) rfl (fun _ _ => .inl (by simp)) harr⟩
      | goto l => exact ⟨_, a₁, w₁, hq, .pass (x := .inLoop c) rfl (fun _ _ => .inl (by simp)) harr⟩
      | ret => exact ⟨_, a₁, w₁, hq, .pass (x := .inLoop c) rfl (fun _ _ => .inl (by simp)) harr⟩
      | panic ch => exact ⟨_, a₁, w₁, hq, .pass (x := .inLoop c) rfl (fun _ _ => .inl (by simp)) harr⟩
      | outgrown => exact ⟨_, a₁, w₁, hq, .pass (x := .inLoop c) rfl (fun _ _ => .inl (by simp)) harr⟩
  obtain ⟨e, a', w', hq, harr⟩ := key n₀ a w h₀
  exact ⟨e, a', w', hq, .of_steps (.one step_loop) harr⟩

theorem awp_sound (hT : TabOk P T) (hm : P.follows .mixedOrders = true) {Γ : Ctx} : ∀ (c : Code) (s : ASt) (K : AEx → ASt → Prop), awp P T Γ.nx c s K → ∀ (Q : Exit → Act → World → Prop) (a : Act) (w : World), Rel Γ s.view a w →
    (∀ x s' a' w', K x s' → Rel Γ s'.view a' w' → Q x.ex a' w') → c.wp P Q a w
  | .skip, s, K, h, Q, a, w, hR, hQ => wp_skip (hQ .nrm s a w h hR)
  | .region id ops dr, s, K, ⟨s1, he, h⟩, Q, a, w, hR, hQ => region_sound hT hm h (he Γ a w rfl hR) (fun s' a' w' hK hR' => hQ .nrm s' a' w' hK hR')
  | .seq x y, s, K, h, Q, a, w, hR, hQ => by
    refine wp_seq (awp_sound hT hm x s _ h _ a w hR (fun e s' a' w' hK hR' => ?_))
    cases e with
    | nrm => exact awp_sound hT hm y s' K hK Q a' w' hR' hQ
    | ext id => exact hQ (.ext id) s' a' w' hK hR'
    | ret => exact hQ .ret s' a' w' hK hR'
  | .cond c x y, s, K, h, Q, a, w, hR, hQ => by
    simp only [awp] at h
    split at h
    · rename_i t ht
      obtain ⟨E, hE, hS⟩ := hR
      have hv := hS.ev c
      rw [ht] at hv
      have hb : a.eval c = .bool t := by
        generalize a.eval c = v at hv
        cases hv; rfl
      refine wp_cond hb ?_
      cases t with
      | true => exact awp_sound hT hm x s K (h.1 rfl) Q a w ⟨E, hE, hS⟩ hQ
      | false => exact awp_sound hT hm y s K (h.2 rfl) Q a w ⟨E, hE, hS⟩ hQ
    · rename_i n ht
      obtain ⟨E, hE, hS⟩ := hR
      have hv := hS.ev c
      rw [ht] at hv
      obtain ⟨t, hb, hn⟩ : ∃ t, a.eval c = .bool t ∧ (t = true → n = 0) := by
        generalize a.eval c = v at hv
        cases hv with
        | ub _ t hn => exact ⟨t, rfl, hn⟩
      refine wp_cond hb ?_
      cases t with
      | true => exact awp_sound hT hm x s K (h.1 (hn rfl)) Q a w ⟨E, hE, hS⟩ hQ
      | false => exact awp_sound hT hm y s K h.2 Q a w ⟨E, hE, hS⟩ hQ
    · exact h.elim
  | .block id c, s, K, h, Q, a, w, hR, hQ => by
    refine wp_block (awp_sound hT hm c s _ h _ a w hR (fun e s' a' w' hK hR' => ?_))
    cases e with
    | nrm => exact hQ .nrm s' a' w' hK hR'
    | ext id' =>
      simp only [blkK] at hK
      simp only [AEx.ex, Exit.inBlock]
      split at hK
      · rename_i e; rw [if_pos e]; exact hQ .nrm s' a' w' hK hR'
      · rename_i e; rw [if_neg e]; exact hQ (.ext id') s' a' w' hK hR'
    | ret => exact hQ .ret s' a' w' hK hR'
  | .loop c, s, K, h, Q, a, w, hR, hQ => by
    obtain ⟨I, ⟨s0, n0, he, hI⟩, hround⟩ := h
    refine wp_loop_idx (fun n a w => ∃ s, I n s ∧ Rel Γ s.view a w) n0 ⟨s0, hI, he Γ a w rfl hR⟩ (fun n a' w' hJ => ?_)
    obtain ⟨s1, hI1, hR1⟩ := hJ
    refine awp_sound hT hm c s1 _ (hround n s1 hI1) _ a' w' hR1 (fun e s' a2 w2 hK hR2 => ?_)
    cases e with
    | nrm =>
      obtain ⟨s2, m, he2, hlt, hI2⟩ := hK
      exact ⟨m, hlt, s2, hI2, he2 Γ a2 w2 rfl hR2⟩
    | ext id => exact hQ (.ext id) s' a2 w2 hK hR2
    | ret => exact hQ .ret s' a2 w2 hK hR2
  | .exit id, s, K, h, Q, a, w, hR, hQ => wp_exit (hQ (.ext id) s a w h hR)
  | .ret, s, K, h, Q, a, w, hR, hQ => wp_ret (hQ .ret s a w h hR)
  | .label l, s, K, h, Q, a, w, hR, hQ => wp_label (hQ .nrm s a w h hR)
  | .rangeFunc .., s, K, h, Q, a, w, hR, hQ => by simp [awp] at h
  | .scope _, s, K, h, Q, a, w, hR, hQ => by simp [awp] at h
  | .goto _, s, K, h, Q, a, w, hR, hQ => by simp [awp] at h
  | .refuse _, s, K, h, Q, a, w, hR, hQ => by simp [awp] at h

end Go.Ab
end

section
namespace Go.Ab
open Go Go.RowKit
set_option linter.unusedVariables false
set_option linter.unusedSimpArgs false

variable {P : Program} {T : TT}

def sing : List AV → AV
  | [c] => c
  | cs => .tup cs

/-- The results, by registers and blocks. -/
def resK (T : TT) (s : ASt) : List ResultVar → (List AV → Prop) → Prop
  | [], k => k []
  | .tmp t :: r, k => resK T s r fun vs => k (nth s.regs t :: vs)
  | .cell a t :: r, k => (T t).kd.isOther = false ∧ match nth s.regs a with
    | .ptr b o => if (T t).kd.isAgg then allB AV.plain (rdc (s.view.cell b) o (T t).size) = true ∧ resK T s r fun vs => k (.agg (rdc (s.view.cell b) o (T t).size) :: vs)
        else (s.view.cell b o).plain = true ∧ resK T s r fun vs => k (s.view.cell b o :: vs)
    | _ => False

/-- The end of a function: what is said of its result and of the blocks that it leaves. -/
def ends (T : TT) (rs : List ResultVar) (nx : Nat) (r : AV) (H' : List (List AV)) : AEx → ASt → Prop
  | .ext _, _ => False
  | _, s0 => ∃ s, Ent nx s0 s ∧ resK T s rs fun vs => ∃ bs, Keeps nx bs ∧ Wk (nthN bs) bs.length (sing vs) r ∧ WkHs (nthN bs) bs.length s.heap bs H'

def resOne (tmps : Array Value) : ResultVar → Sem Value
  | .tmp t => pure (tmps.getD t undef)
  | .cell a t => do loadVar t (← asAddr (tmps.getD a undef))

theorem resK_sound (hT : TabOk P T) {Γ : Ctx} {E : Env} {s : ASt} {a : Act} {w : World} (hE : EOk Γ E w) (hS : SOk E s.view a w) : ∀ (rs : List ResultVar) (k : List AV → Prop), resK T s rs k →
    ∃ cs vs, k cs ∧ VRs E cs vs ∧ (rs.mapM (resOne a.tmps)).run P w = .ok vs w
  | [], k, h => ⟨[], [], h, VRs.nil, by simp⟩
  | .tmp t :: r, k, h => by
    obtain ⟨cs, vs, h1, h2, h3⟩ := resK_sound hT hE hS r _ h
    refine ⟨_, _, h1, VRs.cons (hS.reg t) h2, ?_⟩
    rw [List.mapM_cons, Sem.run_bind]
    simp only [resOne, Sem.run_pure, Result.andThen_ok, Sem.run_bind, h3]
  | .cell x t :: r, k, h => by
    obtain ⟨hno, h⟩ := h
    have hv := hS.reg x
    simp only [ASt.view] at hv
    split at h
    · rename_i b off hx
      rw [hx] at hv
      generalize hax : a.tmps.getD x undef = vx at hv
      cases hv with
      | ptr b off g hk hb =>
      cases hag : (T t).kd.isAgg with
      | true =>
        rw [hag, if_pos rfl] at h
        obtain ⟨cs, vs', h1, h2, h3⟩ := resK_sound hT hE hS r _ h.2
        have hcell : ∀ j, j < (T t).size → ∃ v, w.cell? ⟨g, off + j, none⟩ = some v ∧ VR E (s.view.cell b (off + j)) v := fun j hj => by
          have h1 := hS.cell b (off + j)
          rw [CellOk.plain (allB_mem h.1 _ (List.mem_of_getElem? (rdc_get (s.view.cell b) _ off j hj)))] at h1
          obtain ⟨_, g', v, e1, e2, _, e3⟩ := h1
          rw [hb] at e1; injection e1 with e1; subst e1
          exact ⟨v, e2, e3⟩
        let vs : List Value := (List.range (T t).size).map fun j => (w.cell? ⟨g, off + j, none⟩).getD undef
        have hvs : vs.length = (T t).size := by simp [vs]
        have hget : ∀ (j : Nat) v, vs[j]? = some v → j < (T t).size ∧ w.cell? ⟨g, off + j, none⟩ = some v := fun j v hj => by
          have hlt : j < (T t).size := by rw [← hvs]; exact (List.getElem?_eq_some_iff.1 hj).1
          simp only [vs, List.getElem?_map, List.getElem?_range hlt, Option.map_some, Option.some.injEq] at hj
          obtain ⟨u, e1, _⟩ := hcell j hlt
          rw [e1] at hj
          simp only [Option.getD_some] at hj
          subst hj
          exact ⟨hlt, e1⟩
        refine ⟨_, .agg vs.toArray :: vs', h1, VRs.cons (VRs.agg ⟨by simp [hvs, rdc_length], fun j c v hj hv => ?_⟩) h2, ?_⟩
        · obtain ⟨hlt, e1⟩ := hget j v (by simpa using hv)
          obtain ⟨u, e2, e3⟩ := hcell j hlt
          rw [rdc_get _ _ _ _ hlt] at hj
          injection hj with hj
          rw [e1] at e2; injection e2 with e2
          subst hj; subst e2
          exact e3
        · rw [List.mapM_cons, Sem.run_bind]
          simp only [resOne, hax, asAddr, Sem.run_bind, Sem.run_pure, Result.andThen_ok]
          rw [run_loadVar_agg hT hno hag hvs (fun j v hj => by rw [add_lit]; exact (hget j v hj).2)]
          simp only [Result.andThen_ok, Sem.run_bind, h3, Sem.run_pure]
      | false =>
        rw [hag, if_neg (by simp)] at h
        obtain ⟨cs, vs', h1, h2, h3⟩ := resK_sound hT hE hS r _ h.2
        have h4 := hS.cell b off
        rw [CellOk.plain h.1] at h4
        obtain ⟨_, g', v, e1, e2, _, e3⟩ := h4
        rw [hb] at e1; injection e1 with e1; subst e1
        refine ⟨_, v :: vs', h1, VRs.cons e3 h2, ?_⟩
        rw [List.mapM_cons, Sem.run_bind]
        simp only [resOne, hax, asAddr, Sem.run_bind, Sem.run_pure, Result.andThen_ok]
        rw [run_loadVar_one hT hno hag e2]
        simp only [Result.andThen_ok, Sem.run_bind, h3, Sem.run_pure]
    · exact h.elim

theorem run_results {fn : Func} {rs : List ResultVar} (hr : fn.results = rs.toArray) (tmps : Array Value) {w : World} {vs : List Value} (h : (rs.mapM (resOne tmps)).run P w = .ok vs w) :
    (results fn tmps).run P w = .ok (if h : vs.toArray.size = 1 then vs.toArray[0] else .tuple vs.toArray) w := by
  have e : results fn tmps = (fn.results.mapM (resOne tmps) >>= fun vs => pure (if h : vs.size = 1 then vs[0] else .tuple vs)) := by
    unfold results
    refine congrArg (fun f => (Array.mapM f fn.results >>= fun vs => pure (if h : vs.size = 1 then vs[0] else .tuple vs) : Sem Value)) ?_
    funext x; cases x <;> rfl
  rw [e, hr, List.mapM_toArray, Sem.run_bind]
  simp [h]

theorem VR.sing {E : Env} {cs : List AV} {vs : List Value} (h : VRs E cs vs) : VR E (sing cs) (if h : vs.toArray.size = 1 then vs.toArray[0] else .tuple vs.toArray) := by
  obtain ⟨h1, h2⟩ := h
  match cs, vs, h1 with
  | [], [], _ => exact .tup [] #[] rfl (fun j c v h => by simp at h)
  | [c], [v], _ => exact h2 0 c v rfl rfl
  | c :: d :: cs, v :: u :: vs, h1 =>
    have : ¬ (v :: u :: vs).toArray.size = 1 := by simp
    rw [dif_neg this]
    exact .tup _ _ (by simpa using h1) (fun j c v h k => h2 j c v h (by simpa using k))

/-! ### Blocks that are kept -/

def Env.setKp (E : Env) (D : Nat) (x : Option Obj) : Env := { E with kp := fun g => if g = D then x else E.kp g }
theorem Env.setKp_lo (E : Env) (D : Nat) (x : Option Obj) : E.Lo (E.setKp D x) := ⟨fun _ _ h => h, fun _ h => ⟨h, rfl⟩, fun _ h => ⟨h, .inl rfl⟩, fun _ h => ⟨h, rfl, rfl⟩⟩
/-- Records of loops, and blocks of deferred calls. -/
def isBook : Obj → Bool
  | .deferred _ => true
  | .loop _ => true
  | _ => false
theorem isBook_cell {w : World} {D : Nat} {o : Obj} (h : w.heap[D]? = some o) (ho : isBook o = true) {a : Addr} {v : Value} (hc : w.cell? a = some v) : a.block ≠ D := by
  rintro rfl
  unfold World.cell? at hc
  rw [h] at hc
  cases o <;> simp [isBook] at ho <;> simp at hc
theorem EOk.putKp {Γ : Ctx} {E : Env} {w : World} (h : EOk Γ E w) {D : Nat} {o : Obj} (hk : E.kp D = some o) (hΓ : Γ.E0.kp D = none) (ho : isBook o = true) {o' : Obj} {x : Option Obj} (hx : ∀ u, x = some u → u = o') :
    EOk Γ (E.setKp D x) (w.putObj D o') := by
  obtain ⟨hD, hDb⟩ := h.gm.kp D o hk
  have hlt : D < w.heap.size := (Array.getElem?_eq_some_iff.1 hD).1
  have hoth : ∀ g, g ≠ D → (w.putObj D o').heap[g]? = w.heap[g]? := fun g hg => World.putObj_heap_other hg
  have hsz : (w.putObj D o').heap.size = w.heap.size := by simp
  have hF : ∀ a v, E.F a v → a.block ≠ D := fun a v hav => isBook_cell hD ho (h.F a v hav).1
  exact {
    le := ⟨h.le.F, h.le.box, h.le.tok, h.le.ar, fun g u hu => by
      have : g ≠ D := fun e => by rw [e, hΓ] at hu; cases hu
      show (if g = D then x else E.kp g) = some u
      rw [if_neg this]; exact h.le.kp g u hu⟩
    os := h.os
    tape := h.tape
    output := h.output
    size := by rw [hsz]; exact h.size
    old := fun g hg hX => by
      rw [hoth g (fun e => by have := h.kpn D o hk; omega)]; exact h.old g hg hX
    F := fun a v hav => ⟨by rw [World.cell?_of_block (hoth _ (hF a v hav))]; exact (h.F a v hav).1, (h.F a v hav).2⟩
    box := fun b hb => by rw [hsz]; exact h.box b hb
    arb := fun b hb => by rw [hsz]; exact h.arb b hb
    tok := fun t ht => (h.tok t ht).keep rfl rfl (fun g hg _ => hoth g (fun e => hDb t (by rw [show E.kd t = 2 from ht]; decide) (e ▸ hg))) (fun _ _ _ _ y _ => y)
    fnew := h.fnew
    kd3 := h.kd3
    new := h.new
    inj := h.inj
    hx := h.hx
    gl := h.gl
    gm := ⟨fun i f hf => by
        obtain ⟨g, es, ck, h1, h2, h3, h4⟩ := h.gm.map i f hf
        refine ⟨g, es, ck, h1, ?_, h3, h4⟩
        rw [hoth g (fun e => by rw [e, hD] at h2; injection h2 with h2; subst h2; cases ho)]; exact h2,
      fun g cs hc => by
        obtain ⟨t, fr, h2, h4⟩ := h.gm.tab g cs hc
        refine ⟨t, fr, ?_, h4⟩
        rw [hoth g (fun e => by rw [e, hD] at h2; injection h2 with h2; subst h2; cases ho)]; exact h2,
      fun g u hu => by
        simp only [Env.setKp] at hu
        split at hu
        · rename_i e
          subst e
          rw [hx u hu]
          exact ⟨World.putObj_heap_same hlt, hDb⟩
        · rename_i e
          obtain ⟨h2, h4⟩ := h.gm.kp g u hu
          exact ⟨(hoth g e).trans h2, h4⟩⟩
    kpn := fun g u hu => by
      simp only [Env.setKp] at hu
      split at hu
      · rename_i e; rw [e]; exact h.kpn D o hk
      · exact h.kpn g u hu }
theorem SOk.putKp {Γ : Ctx} {E : Env} {S : FSt} {a : Act} {w : World} (hS : SOk E S a w) (h : EOk Γ E w) {D : Nat} {o : Obj} (hk : E.kp D = some o) {o' : Obj} (x : Option Obj) {ds : List Deferred} (hds : Marks (E.setKp D x) ds) :
    SOk (E.setKp D x) S { tmps := a.tmps, defers := ds } (w.putObj D o') := by
  obtain ⟨hD, hDb⟩ := h.gm.kp D o hk
  have hoth : ∀ g, g ≠ D → (w.putObj D o').heap[g]? = w.heap[g]? := fun g hg => World.putObj_heap_other hg
  exact ⟨hS.size, hds, fun r => (hS.reg r).mono0 (E.setKp_lo D x), fun b j => (hS.cell b j).keep0 (E.setKp_lo D x) (fun g hb hg _ => hoth g (fun e => hDb b (by rcases hb with hb | hb <;> rw [hb] <;> decide) (e ▸ hg))) (fun _ => rfl), hS.dom, hS.gl⟩

/-- The end of an activation: its marks are taken, then its results. -/
theorem leaves_marks (hT : TabOk P T) {f : Nat} {fn : Func} {rs : List ResultVar} (hr : fn.results = rs.toArray) {Γ : Ctx} (hkp : Γ.E0.kp = fun _ => none) {n : Nat} {H' : List (List AV)} {r : AV} {s : ASt}
    (hres : resK T s rs fun vs => ∃ bs, Keeps Γ.nx bs ∧ Wk (nthN bs) bs.length (sing vs) r ∧ WkHs (nthN bs) bs.length s.heap bs H') :
    ∀ (ds : List Deferred) (E : Env) (tmps : Array Value) (w : World), EOk Γ E w → SOk E s.view { tmps := tmps, defers := ds } w →
    LeavesInM Fence.wide n P fn tmps (fun e w' => ∃ v E', e = .returned v ∧ EOk Γ E' w' ∧ HOk E' w' H' ∧ VR E' r v) ds .returning w
  | [], E1, tmps, w', hE1, hS1 => by
    obtain ⟨cs, us, ⟨bs, hk, hw, hh⟩, q3, q4⟩ := resK_sound hT hE1 hS1 rs _ hres
    obtain ⟨q1, q2⟩ := hh.get
    refine ⟨_, run_results hr _ q4, _, E1.pick (nthN bs) bs.length, rfl, hE1.pick hk.pick, ⟨fun b j => ?_, fun b hb => ?_⟩, hw.vr (VR.sing q3)⟩
    · by_cases hb : b < bs.length
      · exact ((q2 b hb).get.2 j).cell hb (hS1.cell (nthN bs b) j)
      · rw [nthB_ge _ _ (by omega)]
        trivial
    · simp only [Env.pick]
      rw [if_neg (by omega)]
  | d :: ds, E1, tmps, w', hE1, hS1 => by
    obtain ⟨D, rfl, hD⟩ := hS1.defers.1 d (by simp)
    have hn := List.nodup_cons.1 hS1.defers.2
    obtain ⟨h1, h2⟩ := hE1.gm.kp D _ hD
    refine ⟨by simp, .inl ⟨D, _, rfl, run_takeDeferred h1, ?_⟩⟩
    have hm : Marks (E1.setKp D none) ds := ⟨fun d hd => by
      obtain ⟨D', e, h3⟩ := hS1.defers.1 d (List.mem_cons_of_mem _ hd)
      refine ⟨D', e, ?_⟩
      have : D' ≠ D := fun e' => hn.1 (by rw [← e', ← e]; exact hd)
      simp only [Env.setKp, this, if_false]; exact h3, hn.2⟩
    exact leaves_marks hT (f := f) hr hkp hres ds _ tmps _ (hE1.putKp hD (by rw [hkp]) rfl (x := none) (fun u hu => by cases hu)) (hS1.putKp hE1 hD none hm)

theorem meets_of_awp (hT : TabOk P T) (hm : P.follows .mixedOrders = true) {f : Nat} {fn : Func} {code : Code} (hf : P.funcs[f]? = some fn) (hb : fn.body = some code) {rs : List ResultVar} (hr : fn.results = rs.toArray)
    {H H' : List (List AV)} {args : List AV} {r : AV} (h : awp P T H.length code ⟨args ++ List.replicate (fn.ntmps - args.length) .und, H⟩ (ends T rs H.length r H')) : Meets P f H args r H' := by
  intro w E X vs hkp hE hH h1 hv
  have hsz : vs.size = args.length := by simpa using hv.1
  have hreg : VRs E (args ++ List.replicate (fn.ntmps - args.length) .und) (vs ++ Array.replicate (fn.ntmps - vs.size) undef).toList := by
    rw [Array.toList_append, Array.toList_replicate, hsz]
    refine hv.append ⟨by simp, fun j c v x y => ?_⟩
    rw [List.getElem?_replicate] at x y
    split at x
    · rename_i hj
      rw [if_pos hj] at y
      injection x with x; injection y with y
      subst x; subst y; exact .und
    · cases x
  have hRel : Rel ⟨w, X, E, H.length⟩ (ASt.mk (args ++ List.replicate (fn.ntmps - args.length) .und) H).view { tmps := vs ++ Array.replicate (fn.ntmps - vs.size) undef, defers := [] } w := by
    refine ⟨E, hE, ⟨by simpa [ASt.view] using hreg.1, Marks.nil, fun r => ?_, hH.1, fun b hb => ?_, hE.gl⟩⟩
    · simp only [ASt.view]
      rw [nth_eq]
      cases hx : (args ++ List.replicate (fn.ntmps - args.length) AV.und)[r]? with
      | none => exact .non _
      | some c =>
        obtain ⟨v, y1, y2⟩ := hreg.get hx
        rw [Array.getElem?_toList] at y1
        simp only [Array.getD_eq_getD_getElem?, y1, Option.getD_some]
        exact y2
    · simp only [ASt.view, decide_eq_false_iff_not] at hb
      exact hH.2 b (by omega)
  refine (callsIn_wide (n := 0)).1 (callsIn_of_wp_marks hf hb trivial (wpIn_wide.2 (awp_sound hT hm (Γ := ⟨w, X, E, H.length⟩) code _ _ h _ _ _ hRel (fun x s' a' w' hK hR => ?_))) rfl)
  have fin : (∃ s', Rel ⟨w, X, E, H.length⟩ s'.view a' w' ∧ resK T s' rs fun vs => ∃ bs, Keeps H.length bs ∧ Wk (nthN bs) bs.length (sing vs) r ∧ WkHs (nthN bs) bs.length s'.heap bs H') →
      LeavesInM Fence.wide 0 P fn a'.tmps (fun e w' => ∃ v E', e = .returned v ∧ EOk ⟨w, X, E, H.length⟩ E' w' ∧ HOk E' w' H' ∧ VR E' r v) a'.defers .returning w' := by
    rintro ⟨s', hR, hres⟩
    obtain ⟨E1, hE1, hS1⟩ := hR
    exact leaves_marks hT (f := f) (Γ := ⟨w, X, E, H.length⟩) hr hkp hres a'.defers E1 a'.tmps w' hE1 hS1
  cases x with
  | nrm => obtain ⟨s1, h1, h2⟩ := hK; exact fin ⟨s1, h1 _ _ _ rfl hR, h2⟩
  | ret => obtain ⟨s1, h1, h2⟩ := hK; exact fin ⟨s1, h1 _ _ _ rfl hR, h2⟩
  | ext id => exact hK.elim

end Go.Ab
end

section
namespace Go.Ab
open Go Go.RowKit
set_option linter.unusedVariables false
set_option linter.unusedSimpArgs false

def szOf (P : Program) (t : Nat) : Nat := match P.info? t with
  | some i => i.size
  | none => 0

def kindOf (P : Program) (t : Nat) : AKind := match P.underlying t with
  | some (.int k) => .int k
  | some .bool => .bool
  | some .string => .str
  | some (.struct gs) => if P.stoodInHeld t = false ∧ P.eqGuardType P.depth t = false ∧ (gs.toList.all fun g => g.name != "_" && szOf P g.type != 0) = true then .st (gs.toList.map fun g => ⟨g.offset, szOf P g.type, g.type⟩) else .other
  | some (.array n e) => if P.eqGuardType P.depth t = false then .arr n e else .other
  | some (.slice e) => .slice e
  | some (.pointer e) => .ptr e
  | some (.map k e) => .map k e
  | some (.func _ _ _) => .fn
  | some (.interface _) => .ifc
  | _ => .other

theorem kindOf_ok (P : Program) (t : Nat) : kdOk P t (kindOf P t) := by
  unfold kindOf
  split
  case h_4 gs hu =>
    split
    · rename_i hc
      obtain ⟨h1, h2, h3⟩ := hc
      refine ⟨gs, hu, by simp, h1, h2, fun i f g x y => ?_⟩
      rw [List.getElem?_map, Array.getElem?_toList, y] at x
      injection x with x
      subst x
      have hg : g ∈ gs.toList := by
        rw [← Array.getElem?_toList] at y
        exact List.mem_of_getElem? y
      have := List.all_eq_true.1 h3 g hg
      simp only [Bool.and_eq_true, bne_iff_ne, ne_eq] at this
      refine ⟨this.1, rfl, rfl, this.2, ?_⟩
      have h4 := this.2
      simp only [szOf] at h4 ⊢
      split at h4
      · rename_i j hj; exact ⟨j, hj, rfl⟩
      · exact absurd rfl h4
    · trivial
  case h_5 n e hu =>
    split
    · rename_i hc; exact ⟨hu, hc⟩
    · trivial
  case h_9 a b c hu => exact ⟨a, b, c, hu⟩
  case h_10 ms hu => exact ⟨ms, hu⟩
  all_goals first | assumption | trivial

def isAggV : Value → Bool
  | .agg _ => true
  | _ => false

def zOk (P : Program) (t : Nat) (i : TypeInfo) (z : Value) : Bool := z.cells.size == i.size && (z.cells.toList.all fun v => v.oneCell') && (match kindOf P t with | .st _ | .arr .. => isAggV z | _ => z.oneCell')

def tabOf (P : Program) (t : Nat) : ATy := match P.info? t with
  | some i => match i.zero with
    | some z => if zOk P t i z = true then ⟨kindOf P t, i.size, i.bytes, z.cells.toList.map cvOne⟩ else ⟨.other, 0, 0, []⟩
    | none => ⟨.other, 0, 0, []⟩
  | none => ⟨.other, 0, 0, []⟩

theorem tabOf_ok (P : Program) : TabOk P (tabOf P) := by
  intro t
  unfold tabOf
  split
  · rename_i i hi
    split
    · rename_i z hz
      split
      · rename_i hc
        simp only [zOk, Bool.and_eq_true, beq_iff_eq] at hc
        obtain ⟨⟨h1, h2⟩, h3⟩ := hc
        refine .inr ⟨kindOf_ok P t, i, z, hi, rfl, rfl, hz, h1, rfl, fun v hv => ?_, ?_⟩
        · exact List.all_eq_true.1 h2 v (Array.mem_toList_iff.2 hv)
        · show match kindOf P t with | .st _ | .arr .. => ∃ cs, z = .agg cs | _ => z.oneCell' = true
          have ag : isAggV z = true → ∃ cs, z = .agg cs := fun h => by
            cases z <;> first | exact ⟨_, rfl⟩ | (simp [isAggV] at h)
          generalize kindOf P t = kk at h3
          cases kk <;> first | exact h3 | exact ag h3
      · exact .inl rfl
    · exact .inl rfl
  · exact .inl rfl

end Go.Ab
end

section
namespace Go.Ab
open Go Go.RowKit Go.ChangeShapes Go.WideShapes Go.ChangeAt
set_option linter.unusedVariables false
set_option linter.unusedSimpArgs false

variable {P : Program} {T : TT}

def gD : List Oper → Nat → Option Nat
  | [], _ => none
  | o :: _, 0 => o.dst
  | _ :: r, n + 1 => gD r n

theorem gD_eq (all : Array Oper) (g : Nat × Bool) : gDst all g = gD all.toList g.1 := by
  unfold gDst
  rw [← Array.getElem?_toList]
  generalize all.toList = l
  generalize g.1 = n
  induction l generalizing n with
  | nil => simp [gD]
  | cons o r ih =>
    cases n with
    | zero => simp [gD]
    | succ n => simpa [gD] using ih n

theorem wrap64 {x : Int} (h1 : -9223372036854775808 ≤ x) (h2 : x ≤ 9223372036854775807) : IntKind.i64.wrap x = x := by simp only [IntKind.wrap, IntKind.bits, IntKind.signed]; simp; omega

def gi {α : Type} [Inhabited α] (xs : List α) (i : Int) : α := xs.getD i.toNat default

theorem wk_agg {g : Nat → Nat} {n : Nat} {cs ds : List AV} (h : WkL g n cs ds) : Wk g n (.agg cs) (.agg ds) := .agg cs ds h.get.1 fun j c d x y => by
  have := h.get.2 j
  rw [nth_eq, nth_eq, x, y] at this; exact this

theorem wk_tup {g : Nat → Nat} {n : Nat} {cs ds : List AV} (h : WkL g n cs ds) : Wk g n (.tup cs) (.tup ds) := .tup cs ds h.get.1 fun j c d x y => by
  have := h.get.2 j
  rw [nth_eq, nth_eq, x, y] at this; exact this

def part {α : Type} (xs : List α) (a b : Int) : List α := (xs.take b.toNat).drop a.toNat

theorem wk_int {g : Nat → Nat} {n : Nat} {k : IntKind} {a b : Int} (h : a = b) : Wk g n (.int k a) (.int k b) := by subst h; exact .flat _ rfl
theorem wk_bool {g : Nat → Nat} {n : Nat} {a b : Bool} (h : a = b) : Wk g n (.bool a) (.bool b) := by subst h; exact .flat _ rfl
theorem wk_str {g : Nat → Nat} {n : Nat} {a b : List UInt8} (h : a = b) : Wk g n (.str a) (.str b) := by subst h; exact .flat _ rfl
theorem wk_sl {g : Nat → Nat} {n s s' : Nat} {a b : List (List AV)} (h : a = b) (h2 : s = s') : Wk g n (.sl s a) (.sl s' b) := by subst h; subst h2; exact .flat (.sl s a) rfl
theorem wk_emp {g : Nat → Nat} {n s : Nat} {b : List (List AV)} (h : b = []) : Wk g n .emp (.sl s b) := by subst h; exact .emp s
theorem wk_ow_sl {g : Nat → Nat} {n t e s s' : Nat} {a b : List (List AV)} (h : a = b) (h2 : s = s') : Wk g n (.ow t e s a) (.sl s' b) := by subst h; subst h2; exact .flat (.ow t e s a) rfl
theorem wk_ow {g : Nat → Nat} {n t t' e e' s s' : Nat} {a b : List (List AV)} (h : a = b) (h1 : e = e') (h2 : s = s') (h3 : t' < n) (h4 : t = g t') : Wk g n (.ow t e s a) (.ow t' e' s' b) := by subst h; subst h1; subst h2; exact .ow _ _ _ _ _ h3 h4
theorem wk_cp {g : Nat → Nat} {n : Nat} {a b : List AV} (h : a = b) : Wk g n (.cp a) (.cp b) := by subst h; exact .flat (.cp a) rfl
theorem wk_nilm {g : Nat → Nat} {n : Nat} : Wk g n .nilm .nilm := .flat _ rfl
theorem wk_nilp {g : Nat → Nat} {n : Nat} : Wk g n .nilp .nilp := .flat _ rfl
theorem wk_nilf {g : Nat → Nat} {n : Nat} : Wk g n .nilf .nilf := .flat _ rfl
theorem wk_ee {g : Nat → Nat} {n : Nat} : Wk g n .emp .emp := .flat _ rfl
theorem wk_tok {g : Nat → Nat} {n a b : Nat} (h : a = b) : Wk g n (.tok a) (.tok b) := by subst h; exact .tok a
theorem wk_mp {g : Nat → Nat} {n b b' : Nat} (h : b' < n) (hb : b = g b') : Wk g n (.mp b) (.mp b') := .mp b b' h hb
theorem wk_ptr {g : Nat → Nat} {n b b' o o' : Nat} (ho : o = o') (h : b' < n) (hb : b = g b') : Wk g n (.ptr b o) (.ptr b' o') := by subst ho; exact .ptr b b' o h hb
theorem wk_sb {g : Nat → Nat} {n b b' k : Nat} (h : b' < n) (hb : b = g b') : Wk g n (.sb b k) (.sb b' k) := .sb b b' k h hb
theorem wk_ef {g : Nat → Nat} {n b b' s i o : Nat} (h : b' < n) (hb : b = g b') : Wk g n (.ef b s i o) (.ef b' s i o) := .ef b b' s i o h hb
theorem wk_aw {g : Nat → Nat} {n s s' e : Nat} {a a' : List (List AV)} (h : a = a') (h2 : s = s') : Wk g n (.aw e s a) (.aw e s' a') := by subst h; subst h2; exact .aw e s a
theorem wk_ep {g : Nat → Nat} {n b b' s i : Nat} (h : b' < n) (hb : b = g b') : Wk g n (.ep b s i) (.ep b' s i) := .ep b b' s i h hb
theorem wk_arr {g : Nat → Nat} {n s s' : Nat} {a a' : List (List AV)} (h : a = a') (h2 : s = s') : Wk g n (.arr s a) (.arr s' a') := by subst h; subst h2; exact .arr s a
theorem wk_mps {g : Nat → Nat} {n : Nat} {a b : List UInt8 → Option AV} (h : a = b) : Wk g n (.mps a) (.mps b) := by subst h; exact .mps a
theorem wkL_nil {g : Nat → Nat} {n : Nat} : WkL g n [] [] := trivial
theorem wkL_cons {g : Nat → Nat} {n : Nat} {c d : AV} {cs ds : List AV} (h : Wk g n c d) (t : WkL g n cs ds) : WkL g n (c :: cs) (d :: ds) := ⟨h, t⟩
theorem wkHs_nil {g : Nat → Nat} {n : Nat} {H : List (List AV)} : WkHs g n H [] [] := trivial
theorem wkHs_cons {g : Nat → Nat} {n b : Nat} {H : List (List AV)} {bs : List Nat} {l : List AV} {ls : List (List AV)} (h : WkL g n (nthB H b) l) (t : WkHs g n H bs ls) : WkHs g n H (b :: bs) (l :: ls) := ⟨h, t⟩
theorem sing_1 (c : AV) : sing [c] = c := Eq.trans rfl rfl
theorem sing_2 (c d : AV) (r : List AV) : sing (c :: d :: r) = .tup (c :: d :: r) := Eq.trans rfl rfl
def envOf (W : World) : Env := { F := fun a v => W.cell? a = some v ∧ v.oneCell' = true, kd := fun _ => 0, bk := fun _ => none, tk := fun _ => ⟨0, 0, 0, undef⟩ }

theorem envOf_ok (W : World) (hg : Glob.ok (envOf W).F) (hm : GmOk (envOf W) W) : EOk ⟨W, [], envOf W, 0⟩ (envOf W) W where
  kpn := fun _ _ h => nomatch h
  le := Env.Le.refl _
  os := rfl
  tape := rfl
  output := rfl
  size := Nat.le_refl _
  old := fun _ _ _ => rfl
  F := fun _ _ h => h
  box := fun _ h => by cases h
  tok := fun _ h => by cases h
  fnew := fun _ _ h => .inl h
  kd3 := fun _ => .inl rfl
  arb := fun _ h => by cases h
  new := fun _ _ h => absurd rfl h
  inj := fun _ _ _ h => absurd rfl h
  hx := fun _ h => absurd rfl h
  gl := hg
  gm := hm

theorem law_calls {f : Nat} {args : List AV} {r : AV} {vs : Array Value} {W : World} (hg : Glob.ok (envOf W).F) (hg2 : GmOk (envOf W) W) (hm : Meets P f [] args r []) (hv : VRs (envOf W) args vs.toList) :
    Calls P f vs W fun e W' => ∃ v E, e = .returned v ∧ VR E r v ∧ Below W.heap.size W W' := by
  refine (hm W (envOf W) [] vs rfl (envOf_ok W hg hg2) ⟨fun b j => trivial, fun _ _ => rfl⟩ (fun b h => by cases h) hv).mono fun e W' ⟨v, E', he, hE, _, hr⟩ => ⟨v, E', he, hr, ?_⟩
  exact ⟨hE.os, hE.tape, hE.output, hE.size, fun k hk => hE.old k hk (by simp)⟩

theorem law_true {f : Nat} {args : List AV} {vs : Array Value} {W : World} (hg : Glob.ok (envOf W).F) (hg2 : GmOk (envOf W) W) (hm : Meets P f [] args (.bool true) []) (hv : VRs (envOf W) args vs.toList) :
    Calls P f vs W fun e W' => e = .returned (.bool true) ∧ Below W.heap.size W W' :=
  (law_calls hg hg2 hm hv).mono fun e W' ⟨v, E, he, hr, hb⟩ => by
    cases hr
    exact ⟨he, hb⟩


section
variable {H : Type} {enc : TypeId × Value → H}
theorem post_of_below {f : Func} {s : ChangeSpec} {apart fresh handsOn again : Bool} {W W' : World} {args : Array Value} {v : Value} {ds gs : List (DataW H)} {before pa pv : List MemPlace}
    (hW : DataW.Whole enc P f.params.toList s.vars apart W args.toList ds gs before)
    (hres : ∀ (b : Nat) (sp : Nat → Bool) (hd : Bool), DataW.TrodAll enc P W' b sp hd f.resultTypes.toList (v.resultList f.resultTypes.size) (s.fn H (ds ++ gs)).results [])
    (hargs : ∀ sp : Nat → Bool, (∀ p ∈ before, sp p.block = true) → DataW.TrodAll enc P W' 0 sp true f.params.toList args.toList (s.fn H (ds ++ gs)).args pa)
    (hvars : ∀ sp : Nat → Bool, (∀ p ∈ before, sp p.block = true) → DataW.TrodVars enc P W' sp s.vars (s.fn H (ds ++ gs)).vars pv)
    (hps : before = pa ++ pv) (hb : Below W.heap.size W W')
    (hok : ∀ (j : Nat) (t : TypeId) (r : Value), f.resultTypes[j]? = some t → (v.resultList f.resultTypes.size)[j]? = some r → Value.okWide P W' .any 0 t r) :
    s.post enc P f apart fresh handsOn again W args v W' := by
  have hlt : ∀ p ∈ before, p.block < W.heap.size := fun p hp => hW.lt p hp
  have hold : ∀ p ∈ before, (fun b => decide (b < W.heap.size)) p.block = true := fun p hp => by simpa using hlt p hp
  refine ⟨ds, gs, before, [], pa, pv, hW, hres _ _ _, hargs _ hold, hvars _ hold, World.keptBut_mono (fun p hp => ⟨hp, ?_⟩) (hb.frame (· ∈ before)), fun _ => ?_⟩
  · rw [hps, List.mem_append] at hp
    exact Or.inr hp
  · obtain ⟨_, _, _, _, _, hz, hn⟩ := hW
    refine ⟨hok, _, _, ([] ++ pa) ++ pv, ⟨[] ++ pa, pv, trodAll_append (hargs _ (fun _ _ => rfl)) (hres _ _ _), hvars _ (fun _ _ => rfl), rfl, ?_, ?_⟩, ?_⟩
    · intro b off hp
      have hin : MemPlace.cell b off ∈ before := by rw [hps]; simpa using hp
      rw [hb.frozen (hlt _ hin)]
      exact hz b off hin
    · intro ha
      have := hn ha
      rw [hps] at this
      simpa using this
    · intro p hp _
      rw [hps]
      simpa using hp
end

end Go.Ab
end

section
namespace Go.Ab
open Go Go.RowKit
set_option linter.unusedVariables false
set_option linter.unusedSimpArgs false

variable {P : Program} {T : TT}

def ArgsL (m : Nat → Nat) (n : Nat) : List AV → List AV → Prop
  | [], [] => True
  | c :: cs, d :: ds => Arg m n c d ∧ ArgsL m n cs ds
  | _, _ => False
theorem ArgsL.args {m : Nat → Nat} {n : Nat} : ∀ {cs ds : List AV}, ArgsL m n cs ds → Args m n cs ds
  | [], [], _ => .nil
  | c :: cs, d :: ds, h => .cons h.1 (ArgsL.args h.2)
  | [], _ :: _, h => h.elim
  | _ :: _, [], h => h.elim
theorem ArgsL.len {m : Nat → Nat} {n : Nat} {cs ds : List AV} (h : ArgsL m n cs ds) : cs.length = ds.length := h.args.1

def notNon : AV → Bool
  | .non => false
  | _ => true
theorem notNon_ne {c : AV} (h : notNon c = true) : c ≠ .non := fun e => by subst e; cases h

/-- The blocks that are handed over: as they are, as the callee is told, as they come back. -/
def handL (m : Nat → Nat) (n : Nat) (Hs : List (List AV)) : List Nat → List (List AV) → List (List AV) → Prop
  | [], [], _ => True
  | b :: bs, d :: ds, l :: ls => (b < Hs.length ∧ 0 < (nthB Hs b).length ∧ allB AV.hard (nthB Hs b) = true ∧ l.length = (nthB Hs b).length ∧ allB notNon l = true) ∧ ArgsL m n (nthB Hs b) d ∧ handL m n Hs bs ds ls
  | _, _, _ => False

theorem handL.get {m : Nat → Nat} {n : Nat} {Hs : List (List AV)} : ∀ {bs : List Nat} {ds ls : List (List AV)}, handL m n Hs bs ds ls → bs.length = ds.length ∧ bs.length ≤ ls.length ∧
    ∀ i, i < bs.length → (nthN bs i < Hs.length ∧ 0 < (nthB Hs (nthN bs i)).length ∧ allB AV.hard (nthB Hs (nthN bs i)) = true ∧ (nthB ls i).length = (nthB Hs (nthN bs i)).length ∧ allB notNon (nthB ls i) = true) ∧ ArgsL m n (nthB Hs (nthN bs i)) (nthB ds i)
  | [], [], ls, _ => ⟨rfl, Nat.zero_le _, fun i h => by simp at h⟩
  | b :: bs, d :: ds, l :: ls, h => by
    obtain ⟨q1, q2, q3⟩ := handL.get h.2.2
    refine ⟨by simp [q1], by simp [q2], fun i hi => ?_⟩
    cases i with
    | zero => exact ⟨h.1, h.2.1⟩
    | succ i => exact q3 i (by simpa using hi)
  | [], _ :: _, _, h => by cases h
  | _ :: _, [], _, h => by cases h
  | _ :: _, _ :: _, [], h => by cases h

theorem allB_nth {p : AV → Bool} {l : List AV} (h : allB p l = true) {j : Nat} (hj : j < l.length) : p (nth l j) = true := allB_mem h _ (List.mem_of_getElem? (nth_lt hj))

theorem hard_ne {c : AV} (h : c.hard = true) : c ≠ .non := fun e => by subst e; cases h

theorem callMe {R : List AV} {Hs : List (List AV)} {dst : Option Nat} {f : Nat} {acts args : List AV} {r : AV} {k : Eff → List (Nat × Nat) → Prop} {H H' : List (List AV)} (m : List Nat) (hd : distinct m = true) (hc : Callable P f) (hm : Meets P f H args r H')
    (ha : ArgsL (nthN m) m.length acts args) (hh : handL (nthN m) m.length Hs m H H') (hk : ∃ e, (e = callEff dst (nthN m) m.length Hs.length r H' ∨ (∃ K, RoOk K (ASt.mk R Hs).view (nthN m) m.length Hs.length H' ∧ e = roEff K dst (nthN m) m.length Hs.length r H')) ∧ k e (keysOf (nthN m) 0 m.length H)) : CallC P ⟨R, Hs⟩ dst f acts k := by
  obtain ⟨q1, q2, q3⟩ := hh.get
  refine ⟨nthN m, m.length, H, H', args, r, hc, hm, ha.args, ⟨q1.symm, q2, distinct_inj hd, fun x hx => by simpa [ASt.view] using (q3 x hx).1.1, fun b hb => by simpa [ASt.view] using hb, fun b j hb hj => ?_, fun b hb => ?_, fun b j hb hj => ?_, fun b j hb hj => ?_⟩, fun b j hb hj => ?_, hk⟩
  · obtain ⟨_, w2⟩ := q3 b hb
    have hl := w2.len
    exact w2.args.2 j _ _ (nth_lt (by omega)) (nth_lt hj)
  · obtain ⟨⟨w1, w2, w3, _⟩, _⟩ := q3 b hb
    have := allB_nth w3 w2
    exact ⟨hard_ne this, this⟩
  · obtain ⟨⟨_, _, _, w4, _⟩, _⟩ := q3 b hb
    exact nth_ge (by show (nthB Hs (nthN m b)).length ≤ j; omega)
  · obtain ⟨⟨_, _, w3, w4, _⟩, w6⟩ := q3 b hb
    have hl := w6.len
    exact ⟨hard_ne (allB_nth w3 (by omega)), by omega⟩
  · obtain ⟨⟨_, _, _, _, w5⟩, _⟩ := q3 b hb
    exact notNon_ne (allB_nth w5 hj)

theorem callM {R : List AV} {Hs : List (List AV)} {dst : Option Nat} {f : Nat} {acts args : List AV} {r : AV} {k : Eff → List (Nat × Nat) → Prop} {H H' : List (List AV)} (m : List Nat) (hd : distinct m = true) (hc : Callable P f) (hm : Meets P f H args r H')
    (ha : ArgsL (nthN m) m.length acts args) (hh : handL (nthN m) m.length Hs m H H') (hk : k (callEff dst (nthN m) m.length Hs.length r H') (keysOf (nthN m) 0 m.length H)) : CallC P ⟨R, Hs⟩ dst f acts k :=
  callMe m hd hc hm ha hh ⟨_, .inl rfl, hk⟩

theorem argsL_nil {m : Nat → Nat} {n : Nat} : ArgsL m n [] [] := trivial
theorem argsL_cons {m : Nat → Nat} {n : Nat} {c d : AV} {cs ds : List AV} (h : Arg m n c d) (t : ArgsL m n cs ds) : ArgsL m n (c :: cs) (d :: ds) := ⟨h, t⟩
theorem arg_ptr {m : Nat → Nat} {n b b' o o' : Nat} (ho : o = o') (h : b' < n) (hb : b = m b') : Arg m n (.ptr b o) (.ptr b' o') := by subst ho; exact .ptr b b' o h hb
theorem arg_agg {m : Nat → Nat} {n : Nat} {cs ds : List AV} (h : ArgsL m n cs ds) : Arg m n (.agg cs) (.agg ds) := .aggs h.args
theorem arg_fn {m : Nat → Nat} {n f : Nat} {cs ds : List AV} (h : ArgsL m n cs ds) : Arg m n (.fn f cs) (.fn f ds) := .fns h.args
theorem arg_int' {m : Nat → Nat} {n : Nat} {k : IntKind} {x y : Int} (h : x = y) : Arg m n (.int k x) (.int k y) := by subst h; exact .flat (.int k x) rfl
theorem arg_bool' {m : Nat → Nat} {n : Nat} {x y : Bool} (h : x = y) : Arg m n (.bool x) (.bool y) := by subst h; exact .flat (.bool x) rfl
theorem arg_str' {m : Nat → Nat} {n : Nat} {x y : List UInt8} (h : x = y) : Arg m n (.str x) (.str y) := by subst h; exact .flat (.str x) rfl
theorem handL_nil {m : Nat → Nat} {n : Nat} {Hs ls : List (List AV)} : handL m n Hs [] [] ls := trivial
theorem handL_cons {m : Nat → Nat} {n b : Nat} {Hs : List (List AV)} {bs : List Nat} {d l : List AV} {ds ls : List (List AV)} (h : b < Hs.length ∧ 0 < (nthB Hs b).length ∧ allB AV.hard (nthB Hs b) = true ∧ l.length = (nthB Hs b).length ∧ allB notNon l = true)
    (h2 : ArgsL m n (nthB Hs b) d) (h3 : handL m n Hs bs ds ls) : handL m n Hs (b :: bs) (d :: ds) (l :: ls) := ⟨h, h2, h3⟩

/-- A block's content, for lemmas about calls. -/
def BlkIs (Hs : List (List AV)) (b : Nat) (l : List AV) : Prop := b < Hs.length ∧ nthB Hs b = l
theorem blk0 {l : List AV} {r : List (List AV)} : BlkIs (l :: r) 0 l := ⟨by simp, rfl⟩
theorem blk_succ {l a : List AV} {r : List (List AV)} {n : Nat} (h : BlkIs r n l) : BlkIs (a :: r) (n + 1) l := ⟨by have := h.1; simp; omega, h.2⟩
theorem blk1 {a l : List AV} {r : List (List AV)} : BlkIs (a :: l :: r) 1 l := blk_succ blk0
theorem blk2 {a b l : List AV} {r : List (List AV)} : BlkIs (a :: b :: l :: r) 2 l := blk_succ blk1
theorem blk3 {a b c l : List AV} {r : List (List AV)} : BlkIs (a :: b :: c :: l :: r) 3 l := blk_succ blk2
theorem blk4 {a b c d l : List AV} {r : List (List AV)} : BlkIs (a :: b :: c :: d :: l :: r) 4 l := blk_succ blk3
theorem blk5 {a b c d e l : List AV} {r : List (List AV)} : BlkIs (a :: b :: c :: d :: e :: l :: r) 5 l := blk_succ blk4

end Go.Ab
end
