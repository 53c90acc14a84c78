/- The pairs of a mirror: what the reference's and the program's functions compute. -/
import Derived.Test.YtpghhfnlfmlakaaGreatDoorN6
namespace Go.Ab
open Go
set_option maxRecDepth 1000000
set_option maxHeartbeats 4000000
set_option linter.unusedVariables false
set_option linter.unusedSimpArgs false

/-- The column behind a line's last word. -/
def endS (ws : List Wd) : Int := match ws.getLast? with
  | some w => w.2 + w.1.length
  | none => 0
/-- What is known of the words of a line. -/
def WB (ws : List Wd) : Prop := ws.length ≤ 1048577 ∧ ∀ w ∈ ws, (1 ≤ w.2 ∧ w.2 ≤ 1048577) ∧ w.1.length ≤ 1048576
theorem endS_at {ws : List Wd} (h : 0 < ws.length) : endS ws = ws[ws.length - 1].2 + (ws[ws.length - 1].1.length : Int) := by
  unfold endS
  rw [List.getLast?_eq_getElem?, List.getElem?_eq_getElem (by omega)]
/-- What comes of the reference's reader of pairs. -/
def PostM (c0 : Int) (o : (Int × Int) ⊕ Srf) (x : Srf) (c er : Int) : Prop := match o with
  | .inl (c', e') => c = c' ∧ er = e'
  | .inr s => x = s ∧ c = c0 ∧ er = srfE s
theorem drop_two {ws : List Wd} {j : Nat} (h : j + 1 < ws.length) : ws.drop j = ws[j] :: ws[j + 1] :: ws.drop (j + 2) := by
  rw [List.drop_eq_getElem_cons (by omega), List.drop_eq_getElem_cons h]
theorem drop_one {ws : List Wd} {j : Nat} (h : j + 1 = ws.length) : ws.drop j = [ws[j]'(by omega)] := by
  rw [List.drop_eq_getElem_cons (by omega), List.drop_of_length_le (by omega)]
theorem wrap2 (j : Nat) (h : j ≤ 9223372036854775800) : IntKind.i64.wrap ((j : Int) + 2) = ((j + 2 : Nat) : Int) := by rw [w64' (by omega) (by omega)]; omega

theorem mir_0 {l : List Wd} {e : Int} {j : Nat} {b0 s : Srf} {h : Had} (hl : WB l) (hj : j < l.length) (hk : keyS l[j].1 = some 0) :
    (hadG h 0 = true → ∃ x, (T_ref02xmirror_l0 l e (j : Int) b0 h s).run = some (.inr ((x, (l[j].2, (5, ()))), ()))) ∧
    (hadG h 0 = false → j + 1 = l.length → ∃ x, (T_ref02xmirror_l0 l e (j : Int) b0 h s).run = some (.inr ((x, (e, (6, ()))), ()))) ∧
    (hadG h 0 = false → ∀ hj1 : j + 1 < l.length, (putS 0 l[j + 1].1 s = none → ∃ x, (T_ref02xmirror_l0 l e (j : Int) b0 h s).run = some (.inr ((x, (l[j + 1].2, (7, ()))), ()))) ∧
      ∀ s', putS 0 l[j + 1].1 s = some s' → (T_ref02xmirror_l0 l e (j : Int) b0 h s).run = some (.inl (((j + 2 : Nat) : Int), (b0, (hadP h 0, (s', ())))))) := by
  have hlen := hl.1
  have hkey : ref02xkey l[j].1 = some (((0 : Int), ()), ()) := by have := k_key (s := l[j].1); rw [hk] at this; exact this
  have ej : gi l (j : Int) = l[j] := gi_nat hj
  have w1j := w1 j (by omega)
  refine ⟨fun hh => ?_, fun hh hend => ?_, fun hh hj1 => ?_⟩
  · refine ⟨s, ?_⟩
    unfold T_ref02xmirror_l0
    refine (br_t (decide_eq_true (by omega))).trans ?_
    refine (q_of (inB_t' (by omega) (by omega))).trans ?_
    rw [ej]
    refine (r_bs hkey).trans ?_
    refine (br_f rfl).trans ?_
    refine (br_t rfl).trans ?_
    refine (br_t hh).trans ?_
    refine (q_of (inB_t' (by omega) (by omega))).trans ?_
    exact r_ret _
  · refine ⟨s, ?_⟩
    unfold T_ref02xmirror_l0
    refine (br_t (decide_eq_true (by omega))).trans ?_
    refine (q_of (inB_t' (by omega) (by omega))).trans ?_
    rw [ej, w1j]
    refine (r_bs hkey).trans ?_
    refine (br_f rfl).trans ?_
    refine (br_t rfl).trans ?_
    refine (br_f hh).trans ?_
    refine (br_t rfl).trans ?_
    refine (br_t (decide_eq_true (by omega))).trans ?_
    exact r_ret _
  · have ej1 : gi l ((j + 1 : Nat) : Int) = l[j + 1] := gi_nat hj1
    have hv := (hl.2 l[j + 1] (List.getElem_mem hj1)).2
    obtain ⟨w, b, kl, gl⟩ := k_rlength hv
    obtain ⟨hb, hw⟩ := gl
    cases hx : lenS l[j + 1].1 with
    | none =>
      rw [hx] at hb
      have hp : putS 0 l[j + 1].1 s = none := by unfold putS; simp [hx]
      refine ⟨fun _ => ⟨(s.1, ((w, s.2.1.2), s.2.2)), ?_⟩, fun s' hs' => by rw [hp] at hs'; cases hs'⟩
      unfold T_ref02xmirror_l0
      refine (br_t (decide_eq_true (by omega))).trans ?_
      refine (q_of (inB_t' (by omega) (by omega))).trans ?_
      rw [ej, w1j, ej1]
      refine (r_bs hkey).trans ?_
      refine (br_f rfl).trans ?_
      refine (br_t rfl).trans ?_
      refine (br_f hh).trans ?_
      refine (br_t rfl).trans ?_
      refine (br_f (decide_eq_false (by omega))).trans ?_
      refine (q_of (inB_t' (by omega) (by omega))).trans ?_
      refine (r_bs kl).trans ?_
      refine (br_t rfl).trans ?_
      subst hb
      refine (br_t rfl).trans ?_
      refine (q_of (inB_t' (by omega) (by omega))).trans ?_
      exact r_ret _
    | some x =>
      rw [hx] at hb
      have hwx := hw x hx
      have hp : putS 0 l[j + 1].1 s = some (s.1, ((x, s.2.1.2), s.2.2)) := by unfold putS; simp [hx]
      refine ⟨fun hn => (by rw [hp] at hn; cases hn), fun s' hs' => ?_⟩
      rw [hp] at hs'
      injection hs' with hs'
      subst hs'
      rw [← wrap2 j (by omega)]
      unfold T_ref02xmirror_l0
      refine (br_t (decide_eq_true (by omega))).trans ?_
      refine (q_of (inB_t' (by omega) (by omega))).trans ?_
      rw [ej, w1j, ej1]
      refine (r_bs hkey).trans ?_
      refine (br_f rfl).trans ?_
      refine (br_t rfl).trans ?_
      refine (br_f hh).trans ?_
      refine (br_t rfl).trans ?_
      refine (br_f (decide_eq_false (by omega))).trans ?_
      refine (q_of (inB_t' (by omega) (by omega))).trans ?_
      refine (r_bs kl).trans ?_
      refine (br_t rfl).trans ?_
      subst hb
      subst hwx
      refine (br_f rfl).trans ?_
      exact r_ret _
theorem mir_1 {l : List Wd} {e : Int} {j : Nat} {b0 s : Srf} {h : Had} (hl : WB l) (hj : j < l.length) (hk : keyS l[j].1 = some 1) :
    (hadG h 1 = true → ∃ x, (T_ref02xmirror_l0 l e (j : Int) b0 h s).run = some (.inr ((x, (l[j].2, (5, ()))), ()))) ∧
    (hadG h 1 = false → j + 1 = l.length → ∃ x, (T_ref02xmirror_l0 l e (j : Int) b0 h s).run = some (.inr ((x, (e, (6, ()))), ()))) ∧
    (hadG h 1 = false → ∀ hj1 : j + 1 < l.length, (putS 1 l[j + 1].1 s = none → ∃ x, (T_ref02xmirror_l0 l e (j : Int) b0 h s).run = some (.inr ((x, (l[j + 1].2, (7, ()))), ()))) ∧
      ∀ s', putS 1 l[j + 1].1 s = some s' → (T_ref02xmirror_l0 l e (j : Int) b0 h s).run = some (.inl (((j + 2 : Nat) : Int), (b0, (hadP h 1, (s', ())))))) := by
  have hlen := hl.1
  have hkey : ref02xkey l[j].1 = some (((1 : Int), ()), ()) := by have := k_key (s := l[j].1); rw [hk] at this; exact this
  have ej : gi l (j : Int) = l[j] := gi_nat hj
  have w1j := w1 j (by omega)
  refine ⟨fun hh => ?_, fun hh hend => ?_, fun hh hj1 => ?_⟩
  · refine ⟨s, ?_⟩
    unfold T_ref02xmirror_l0
    refine (br_t (decide_eq_true (by omega))).trans ?_
    refine (q_of (inB_t' (by omega) (by omega))).trans ?_
    rw [ej]
    refine (r_bs hkey).trans ?_
    refine (br_f rfl).trans ?_
    refine (br_f rfl).trans ?_
    refine (br_t rfl).trans ?_
    refine (br_t hh).trans ?_
    refine (q_of (inB_t' (by omega) (by omega))).trans ?_
    exact r_ret _
  · refine ⟨s, ?_⟩
    unfold T_ref02xmirror_l0
    refine (br_t (decide_eq_true (by omega))).trans ?_
    refine (q_of (inB_t' (by omega) (by omega))).trans ?_
    rw [ej, w1j]
    refine (r_bs hkey).trans ?_
    refine (br_f rfl).trans ?_
    refine (br_f rfl).trans ?_
    refine (br_t rfl).trans ?_
    refine (br_f hh).trans ?_
    refine (br_f rfl).trans ?_
    refine (br_t rfl).trans ?_
    refine (br_t (decide_eq_true (by omega))).trans ?_
    exact r_ret _
  · have ej1 : gi l ((j + 1 : Nat) : Int) = l[j + 1] := gi_nat hj1
    have hv := (hl.2 l[j + 1] (List.getElem_mem hj1)).2
    obtain ⟨w, b, kl, gl⟩ := k_rlength hv
    obtain ⟨wc, bc, kc, gc⟩ := k_constant hv
    obtain ⟨hb, hw⟩ := gc
    cases hx : conS l[j + 1].1 with
    | none =>
      rw [hx] at hb
      have hp : putS 1 l[j + 1].1 s = none := by unfold putS; simp [hx]
      refine ⟨fun _ => ⟨(s.1, ((s.2.1.1, wc), s.2.2)), ?_⟩, fun s' hs' => by rw [hp] at hs'; cases hs'⟩
      unfold T_ref02xmirror_l0
      refine (br_t (decide_eq_true (by omega))).trans ?_
      refine (q_of (inB_t' (by omega) (by omega))).trans ?_
      rw [ej, w1j, ej1]
      refine (r_bs hkey).trans ?_
      refine (br_f rfl).trans ?_
      refine (br_f rfl).trans ?_
      refine (br_t rfl).trans ?_
      refine (br_f hh).trans ?_
      refine (br_f rfl).trans ?_
      refine (br_t rfl).trans ?_
      refine (br_f (decide_eq_false (by omega))).trans ?_
      refine (q_of (inB_t' (by omega) (by omega))).trans ?_
      refine (r_bs kl).trans ?_
      refine (br_f rfl).trans ?_
      refine (br_t rfl).trans ?_
      refine (q_of (inB_t' (by omega) (by omega))).trans ?_
      refine (r_bs kc).trans ?_
      subst hb
      refine (br_t rfl).trans ?_
      refine (q_of (inB_t' (by omega) (by omega))).trans ?_
      exact r_ret _
    | some x =>
      rw [hx] at hb
      have hwx := hw x hx
      have hp : putS 1 l[j + 1].1 s = some (s.1, ((s.2.1.1, x), s.2.2)) := by unfold putS; simp [hx]
      refine ⟨fun hn => (by rw [hp] at hn; cases hn), fun s' hs' => ?_⟩
      rw [hp] at hs'
      injection hs' with hs'
      subst hs'
      rw [← wrap2 j (by omega)]
      unfold T_ref02xmirror_l0
      refine (br_t (decide_eq_true (by omega))).trans ?_
      refine (q_of (inB_t' (by omega) (by omega))).trans ?_
      rw [ej, w1j, ej1]
      refine (r_bs hkey).trans ?_
      refine (br_f rfl).trans ?_
      refine (br_f rfl).trans ?_
      refine (br_t rfl).trans ?_
      refine (br_f hh).trans ?_
      refine (br_f rfl).trans ?_
      refine (br_t rfl).trans ?_
      refine (br_f (decide_eq_false (by omega))).trans ?_
      refine (q_of (inB_t' (by omega) (by omega))).trans ?_
      refine (r_bs kl).trans ?_
      refine (br_f rfl).trans ?_
      refine (br_t rfl).trans ?_
      refine (q_of (inB_t' (by omega) (by omega))).trans ?_
      refine (r_bs kc).trans ?_
      subst hb
      subst hwx
      refine (br_f rfl).trans ?_
      exact r_ret _
theorem mir_2 {l : List Wd} {e : Int} {j : Nat} {b0 s : Srf} {h : Had} (hl : WB l) (hj : j < l.length) (hk : keyS l[j].1 = some 2) :
    (hadG h 2 = true → ∃ x, (T_ref02xmirror_l0 l e (j : Int) b0 h s).run = some (.inr ((x, (l[j].2, (5, ()))), ()))) ∧
    (hadG h 2 = false → j + 1 = l.length → ∃ x, (T_ref02xmirror_l0 l e (j : Int) b0 h s).run = some (.inr ((x, (e, (6, ()))), ()))) ∧
    (hadG h 2 = false → ∀ hj1 : j + 1 < l.length, (putS 2 l[j + 1].1 s = none → ∃ x, (T_ref02xmirror_l0 l e (j : Int) b0 h s).run = some (.inr ((x, (l[j + 1].2, (7, ()))), ()))) ∧
      ∀ s', putS 2 l[j + 1].1 s = some s' → (T_ref02xmirror_l0 l e (j : Int) b0 h s).run = some (.inl (((j + 2 : Nat) : Int), (b0, (hadP h 2, (s', ())))))) := by
  have hlen := hl.1
  have hkey : ref02xkey l[j].1 = some (((2 : Int), ()), ()) := by have := k_key (s := l[j].1); rw [hk] at this; exact this
  have ej : gi l (j : Int) = l[j] := gi_nat hj
  have w1j := w1 j (by omega)
  refine ⟨fun hh => ?_, fun hh hend => ?_, fun hh hj1 => ?_⟩
  · refine ⟨s, ?_⟩
    unfold T_ref02xmirror_l0
    refine (br_t (decide_eq_true (by omega))).trans ?_
    refine (q_of (inB_t' (by omega) (by omega))).trans ?_
    rw [ej]
    refine (r_bs hkey).trans ?_
    refine (br_f rfl).trans ?_
    refine (br_f rfl).trans ?_
    refine (br_f rfl).trans ?_
    refine (br_t rfl).trans ?_
    refine (br_t hh).trans ?_
    refine (q_of (inB_t' (by omega) (by omega))).trans ?_
    exact r_ret _
  · refine ⟨s, ?_⟩
    unfold T_ref02xmirror_l0
    refine (br_t (decide_eq_true (by omega))).trans ?_
    refine (q_of (inB_t' (by omega) (by omega))).trans ?_
    rw [ej, w1j]
    refine (r_bs hkey).trans ?_
    refine (br_f rfl).trans ?_
    refine (br_f rfl).trans ?_
    refine (br_f rfl).trans ?_
    refine (br_t rfl).trans ?_
    refine (br_f hh).trans ?_
    refine (br_f rfl).trans ?_
    refine (br_f rfl).trans ?_
    refine (br_t rfl).trans ?_
    refine (br_t (decide_eq_true (by omega))).trans ?_
    exact r_ret _
  · have ej1 : gi l ((j + 1 : Nat) : Int) = l[j + 1] := gi_nat hj1
    have hv := (hl.2 l[j + 1] (List.getElem_mem hj1)).2
    obtain ⟨w, b, kl, gl⟩ := k_rlength hv
    obtain ⟨hb, hw⟩ := gl
    cases hx : lenS l[j + 1].1 with
    | none =>
      rw [hx] at hb
      have hp : putS 2 l[j + 1].1 s = none := by unfold putS; simp [hx]
      refine ⟨fun _ => ⟨(s.1, (s.2.1, (w, s.2.2.2))), ?_⟩, fun s' hs' => by rw [hp] at hs'; cases hs'⟩
      unfold T_ref02xmirror_l0
      refine (br_t (decide_eq_true (by omega))).trans ?_
      refine (q_of (inB_t' (by omega) (by omega))).trans ?_
      rw [ej, w1j, ej1]
      refine (r_bs hkey).trans ?_
      refine (br_f rfl).trans ?_
      refine (br_f rfl).trans ?_
      refine (br_f rfl).trans ?_
      refine (br_t rfl).trans ?_
      refine (br_f hh).trans ?_
      refine (br_f rfl).trans ?_
      refine (br_f rfl).trans ?_
      refine (br_t rfl).trans ?_
      refine (br_f (decide_eq_false (by omega))).trans ?_
      refine (q_of (inB_t' (by omega) (by omega))).trans ?_
      refine (r_bs kl).trans ?_
      refine (br_f rfl).trans ?_
      refine (br_f rfl).trans ?_
      refine (br_t rfl).trans ?_
      subst hb
      refine (br_t rfl).trans ?_
      refine (q_of (inB_t' (by omega) (by omega))).trans ?_
      exact r_ret _
    | some x =>
      rw [hx] at hb
      have hwx := hw x hx
      have hp : putS 2 l[j + 1].1 s = some (s.1, (s.2.1, (x, s.2.2.2))) := by unfold putS; simp [hx]
      refine ⟨fun hn => (by rw [hp] at hn; cases hn), fun s' hs' => ?_⟩
      rw [hp] at hs'
      injection hs' with hs'
      subst hs'
      rw [← wrap2 j (by omega)]
      unfold T_ref02xmirror_l0
      refine (br_t (decide_eq_true (by omega))).trans ?_
      refine (q_of (inB_t' (by omega) (by omega))).trans ?_
      rw [ej, w1j, ej1]
      refine (r_bs hkey).trans ?_
      refine (br_f rfl).trans ?_
      refine (br_f rfl).trans ?_
      refine (br_f rfl).trans ?_
      refine (br_t rfl).trans ?_
      refine (br_f hh).trans ?_
      refine (br_f rfl).trans ?_
      refine (br_f rfl).trans ?_
      refine (br_t rfl).trans ?_
      refine (br_f (decide_eq_false (by omega))).trans ?_
      refine (q_of (inB_t' (by omega) (by omega))).trans ?_
      refine (r_bs kl).trans ?_
      refine (br_f rfl).trans ?_
      refine (br_f rfl).trans ?_
      refine (br_t rfl).trans ?_
      subst hb
      subst hwx
      refine (br_f rfl).trans ?_
      exact r_ret _
theorem mir_3 {l : List Wd} {e : Int} {j : Nat} {b0 s : Srf} {h : Had} (hl : WB l) (hj : j < l.length) (hk : keyS l[j].1 = some 3) :
    (hadG h 3 = true → ∃ x, (T_ref02xmirror_l0 l e (j : Int) b0 h s).run = some (.inr ((x, (l[j].2, (5, ()))), ()))) ∧
    (hadG h 3 = false → j + 1 = l.length → ∃ x, (T_ref02xmirror_l0 l e (j : Int) b0 h s).run = some (.inr ((x, (e, (6, ()))), ()))) ∧
    (hadG h 3 = false → ∀ hj1 : j + 1 < l.length, (putS 3 l[j + 1].1 s = none → ∃ x, (T_ref02xmirror_l0 l e (j : Int) b0 h s).run = some (.inr ((x, (l[j + 1].2, (7, ()))), ()))) ∧
      ∀ s', putS 3 l[j + 1].1 s = some s' → (T_ref02xmirror_l0 l e (j : Int) b0 h s).run = some (.inl (((j + 2 : Nat) : Int), (b0, (hadP h 3, (s', ())))))) := by
  have hlen := hl.1
  have hkey : ref02xkey l[j].1 = some (((3 : Int), ()), ()) := by have := k_key (s := l[j].1); rw [hk] at this; exact this
  have ej : gi l (j : Int) = l[j] := gi_nat hj
  have w1j := w1 j (by omega)
  refine ⟨fun hh => ?_, fun hh hend => ?_, fun hh hj1 => ?_⟩
  · refine ⟨s, ?_⟩
    unfold T_ref02xmirror_l0
    refine (br_t (decide_eq_true (by omega))).trans ?_
    refine (q_of (inB_t' (by omega) (by omega))).trans ?_
    rw [ej]
    refine (r_bs hkey).trans ?_
    refine (br_f rfl).trans ?_
    refine (br_f rfl).trans ?_
    refine (br_f rfl).trans ?_
    refine (br_f rfl).trans ?_
    refine (br_t rfl).trans ?_
    refine (br_t hh).trans ?_
    refine (q_of (inB_t' (by omega) (by omega))).trans ?_
    exact r_ret _
  · refine ⟨s, ?_⟩
    unfold T_ref02xmirror_l0
    refine (br_t (decide_eq_true (by omega))).trans ?_
    refine (q_of (inB_t' (by omega) (by omega))).trans ?_
    rw [ej, w1j]
    refine (r_bs hkey).trans ?_
    refine (br_f rfl).trans ?_
    refine (br_f rfl).trans ?_
    refine (br_f rfl).trans ?_
    refine (br_f rfl).trans ?_
    refine (br_t rfl).trans ?_
    refine (br_f hh).trans ?_
    refine (br_f rfl).trans ?_
    refine (br_f rfl).trans ?_
    refine (br_f rfl).trans ?_
    refine (br_t rfl).trans ?_
    refine (br_t (decide_eq_true (by omega))).trans ?_
    exact r_ret _
  · have ej1 : gi l ((j + 1 : Nat) : Int) = l[j + 1] := gi_nat hj1
    have hv := (hl.2 l[j + 1] (List.getElem_mem hj1)).2
    obtain ⟨w, b, kl, gl⟩ := k_rlength hv
    obtain ⟨hb, hw⟩ := gl
    cases hx : lenS l[j + 1].1 with
    | none =>
      rw [hx] at hb
      have hp : putS 3 l[j + 1].1 s = none := by unfold putS; simp [hx]
      refine ⟨fun _ => ⟨(s.1, (s.2.1, (s.2.2.1, w))), ?_⟩, fun s' hs' => by rw [hp] at hs'; cases hs'⟩
      unfold T_ref02xmirror_l0
      refine (br_t (decide_eq_true (by omega))).trans ?_
      refine (q_of (inB_t' (by omega) (by omega))).trans ?_
      rw [ej, w1j, ej1]
      refine (r_bs hkey).trans ?_
      refine (br_f rfl).trans ?_
      refine (br_f rfl).trans ?_
      refine (br_f rfl).trans ?_
      refine (br_f rfl).trans ?_
      refine (br_t rfl).trans ?_
      refine (br_f hh).trans ?_
      refine (br_f rfl).trans ?_
      refine (br_f rfl).trans ?_
      refine (br_f rfl).trans ?_
      refine (br_t rfl).trans ?_
      refine (br_f (decide_eq_false (by omega))).trans ?_
      refine (q_of (inB_t' (by omega) (by omega))).trans ?_
      refine (r_bs kl).trans ?_
      refine (br_f rfl).trans ?_
      refine (br_f rfl).trans ?_
      refine (br_f rfl).trans ?_
      refine (br_t rfl).trans ?_
      subst hb
      refine (br_t rfl).trans ?_
      refine (q_of (inB_t' (by omega) (by omega))).trans ?_
      exact r_ret _
    | some x =>
      rw [hx] at hb
      have hwx := hw x hx
      have hp : putS 3 l[j + 1].1 s = some (s.1, (s.2.1, (s.2.2.1, x))) := by unfold putS; simp [hx]
      refine ⟨fun hn => (by rw [hp] at hn; cases hn), fun s' hs' => ?_⟩
      rw [hp] at hs'
      injection hs' with hs'
      subst hs'
      rw [← wrap2 j (by omega)]
      unfold T_ref02xmirror_l0
      refine (br_t (decide_eq_true (by omega))).trans ?_
      refine (q_of (inB_t' (by omega) (by omega))).trans ?_
      rw [ej, w1j, ej1]
      refine (r_bs hkey).trans ?_
      refine (br_f rfl).trans ?_
      refine (br_f rfl).trans ?_
      refine (br_f rfl).trans ?_
      refine (br_f rfl).trans ?_
      refine (br_t rfl).trans ?_
      refine (br_f hh).trans ?_
      refine (br_f rfl).trans ?_
      refine (br_f rfl).trans ?_
      refine (br_f rfl).trans ?_
      refine (br_t rfl).trans ?_
      refine (br_f (decide_eq_false (by omega))).trans ?_
      refine (q_of (inB_t' (by omega) (by omega))).trans ?_
      refine (r_bs kl).trans ?_
      refine (br_f rfl).trans ?_
      refine (br_f rfl).trans ?_
      refine (br_f rfl).trans ?_
      refine (br_t rfl).trans ?_
      subst hb
      subst hwx
      refine (br_f rfl).trans ?_
      exact r_ret _

theorem k_mirror {l : List Wd} {e : Int} (hl : WB l) (h2 : 2 ≤ l.length) : ∃ x c er, ref02xmirror l e = some ((x, (c, (er, ()))), ()) ∧ PostM (l[0]'(by omega)).2 (pairsS e (false, false, false, false) ((l[1]'(by omega)).1, ((0, (0, 1)), (0, 0))) (l.drop 2)) x c er := by
  show ∃ x c er, (T_ref02xmirror l e).run = _ ∧ _
  unfold T_ref02xmirror
  have hlen := hl.1
  have e1 : gi l 1 = l[1]'(by omega) := gi_nat (i := 1) (by omega)
  have e0 : gi l 0 = l[0]'(by omega) := gi_nat (i := 0) (by omega)
  generalize hO : pairsS e (false, false, false, false) ((l[1]'(by omega)).1, ((0, (0, 1)), (0, 0))) (l.drop 2) = O
  obtain ⟨r, q1, x, c, er, q2, q3⟩ := iter_post (b := fun q_ : Int × Srf × Had × Srf × Unit => (T_ref02xmirror_l0 l e q_.1 q_.2.1 q_.2.2.1 q_.2.2.2.1).run)
    (fun i (st : Int × Srf × Had × Srf × Unit) => ∃ b0 h s, st = (((2 + 2 * i : Nat) : Int), (b0, (h, (s, ())))) ∧ SB s ∧ pairsS e h s (l.drop (2 + 2 * i)) = O ∧ i ≤ l.length)
    (fun r : (Srf × Int × Int × Unit) × Unit => ∃ x c er, r = ((x, (c, (er, ()))), ()) ∧ PostM (l[0]'(by omega)).2 O x c er) l.length (by omega)
    (x0 := ((2 : Int), (([], ((0, (0, 0)), (0, 0))), ((false, false, false, false), (((l[1]'(by omega)).1, ((0, (0, 1)), (0, 0))), ()))))) (by
      rintro i st hi ⟨b0, h, s, rfl, hs, hp, hil⟩
      obtain ⟨j, hj⟩ : ∃ j, j = 2 + 2 * i := ⟨_, rfl⟩
      rw [← hj] at hp ⊢
      show (∃ x', (T_ref02xmirror_l0 l e (j : Int) b0 h s).run = _ ∧ _) ∨ (∃ r, (T_ref02xmirror_l0 l e (j : Int) b0 h s).run = _ ∧ _)
      by_cases hjl : j < l.length
      case neg =>
        right
        rw [List.drop_of_length_le (by omega), pairsS] at hp
        unfold T_ref02xmirror_l0
        cases h0 : h.1 with
        | false =>
          rw [h0] at hp
          refine ⟨((s, (e, (6, ()))), ()), ?_, s, e, 6, rfl, by rw [← hp]; exact ⟨rfl, rfl⟩⟩
          refine (br_f (decide_eq_false (by omega))).trans ?_
          refine (br_t (by simp [h0])).trans ?_
          exact r_ret _
        | true =>
          cases h2' : h.2.2.1 with
          | false =>
            rw [h0, h2'] at hp
            refine ⟨((s, (e, (6, ()))), ()), ?_, s, e, 6, rfl, by rw [← hp]; exact ⟨rfl, rfl⟩⟩
            refine (br_f (decide_eq_false (by omega))).trans ?_
            refine (br_f (by simp [h0])).trans ?_
            refine (br_t (by simp [h2'])).trans ?_
            exact r_ret _
          | true =>
            rw [h0, h2'] at hp
            refine ⟨((s, ((l[0]'(by omega)).2, (srfE s, ()))), ()), ?_, s, _, _, rfl, by rw [← hp]; exact ⟨rfl, rfl, rfl⟩⟩
            have ks := k_rsurface (s := s) ⟨by have := hs.1.1; omega, by have := hs.1.2; omega⟩ ⟨by have := hs.2.1; omega, by have := hs.2.2; omega⟩
            refine (br_f (decide_eq_false (by omega))).trans ?_
            refine (br_f (by simp [h0])).trans ?_
            refine (br_f (by simp [h2'])).trans ?_
            refine (q_of (inB_t' (by omega) (by omega))).trans ?_
            rw [e0]
            refine (r_bs ks).trans ?_
            exact r_ret _
      cases hk : keyS l[j].1 with
      | none =>
        right
        have hO' : O = .inl (l[j].2, 7) := by
          rw [← hp]
          by_cases hj1 : j + 1 < l.length
          · rw [drop_two hj1, pairsS, hk]
          · rw [drop_one (by omega : j + 1 = l.length), pairsS, hk]
        refine ⟨((s, (l[j].2, (7, ()))), ()), ?_, s, l[j].2, 7, rfl, by rw [hO']; exact ⟨rfl, rfl⟩⟩
        have hkey : ref02xkey l[j].1 = some (((-1 : Int), ()), ()) := by have := k_key (s := l[j].1); rw [hk] at this; exact this
        have ej : gi l (j : Int) = l[j] := gi_nat hjl
        unfold T_ref02xmirror_l0
        refine (br_t (decide_eq_true (by omega))).trans ?_
        refine (q_of (inB_t' (by omega) (by omega))).trans ?_
        rw [ej]
        refine (r_bs hkey).trans ?_
        refine (br_t rfl).trans ?_
        refine (q_of (inB_t' (by omega) (by omega))).trans ?_
        exact r_ret _
      | some n =>
        have key : (hadG h n = true → ∃ x, (T_ref02xmirror_l0 l e (j : Int) b0 h s).run = some (.inr ((x, (l[j].2, (5, ()))), ()))) ∧
            (hadG h n = false → j + 1 = l.length → ∃ x, (T_ref02xmirror_l0 l e (j : Int) b0 h s).run = some (.inr ((x, (e, (6, ()))), ()))) ∧
            (hadG h n = false → ∀ hj1 : j + 1 < l.length, (putS n l[j + 1].1 s = none → ∃ x, (T_ref02xmirror_l0 l e (j : Int) b0 h s).run = some (.inr ((x, (l[j + 1].2, (7, ()))), ()))) ∧
              ∀ s', putS n l[j + 1].1 s = some s' → (T_ref02xmirror_l0 l e (j : Int) b0 h s).run = some (.inl (((j + 2 : Nat) : Int), (b0, (hadP h n, (s', ())))))) := by
          have hn := keyS_lt hk
          match n, hn, hk with
          | 0, _, hk => exact mir_0 hl hjl hk
          | 1, _, hk => exact mir_1 hl hjl hk
          | 2, _, hk => exact mir_2 hl hjl hk
          | 3, _, hk => exact mir_3 hl hjl hk
        obtain ⟨m1, m2, m3⟩ := key
        by_cases hj1 : j + 1 < l.length
        · rw [drop_two hj1, pairsS, hk] at hp
          simp only at hp
          cases hh : hadG h n with
          | true =>
            right
            rw [hh, if_pos rfl] at hp
            obtain ⟨x, r1⟩ := m1 hh
            exact ⟨_, r1, x, _, _, rfl, by rw [← hp]; exact ⟨rfl, rfl⟩⟩
          | false =>
            rw [hh, if_neg (by decide)] at hp
            obtain ⟨m4, m5⟩ := m3 hh hj1
            cases hq : putS n l[j + 1].1 s with
            | none =>
              right
              rw [hq] at hp
              obtain ⟨x, r1⟩ := m4 hq
              exact ⟨_, r1, x, _, _, rfl, by rw [← hp]; exact ⟨rfl, rfl⟩⟩
            | some s' =>
              left
              rw [hq] at hp
              refine ⟨_, m5 s' hq, by omega, b0, hadP h n, s', ?_, putS_SB hs hq, ?_, by omega⟩
              · rw [show j + 2 = 2 + 2 * (i + 1) by omega]
              · rw [show 2 + 2 * (i + 1) = j + 2 by omega]; exact hp
        · right
          have hend : j + 1 = l.length := by omega
          rw [drop_one hend, pairsS, hk] at hp
          simp only at hp
          cases hh : hadG h n with
          | true =>
            rw [hh, if_pos rfl] at hp
            obtain ⟨x, r1⟩ := m1 hh
            exact ⟨_, r1, x, _, _, rfl, by rw [← hp]; exact ⟨rfl, rfl⟩⟩
          | false =>
            rw [hh, if_neg (by decide)] at hp
            obtain ⟨x, r1⟩ := m2 hh hend
            exact ⟨_, r1, x, _, _, rfl, by rw [← hp]; exact ⟨rfl, rfl⟩⟩)
    ⟨_, _, _, rfl, ⟨⟨by show (-100000000 : Int) < 0; omega, by show (0 : Int) < 100000000; omega⟩, ⟨by show (-100000000 : Int) < 1; omega, by show (1 : Int) < 100000000; omega⟩⟩, hO, Nat.zero_le _⟩
  refine ⟨x, c, er, ?_, q3⟩
  rw [← q2, e1]
  refine (q_of (inB_t' (by omega) (by omega))).trans ?_
  rw [r_iter]
  exact q1
end Go.Ab
