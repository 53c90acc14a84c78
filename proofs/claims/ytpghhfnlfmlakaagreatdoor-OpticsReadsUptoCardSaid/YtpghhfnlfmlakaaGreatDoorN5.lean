/- Lengths and conic constants of the reference, and the program's; the keys. -/
import Derived.Test.YtpghhfnlfmlakaaGreatDoorN4
import Derived.Test.YtpghhfnlfmlakaaGreatDoorNC
namespace Go.Ab
open Go
set_option maxRecDepth 1000000
set_option maxHeartbeats 1000000
set_option linter.unusedVariables false
set_option linter.unusedSimpArgs false

theorem num_fin (u : List UInt8) (t : Int) (hu : u.length ≤ 1048576) (ht : t = 1 ∨ t = 1000 ∨ t = 1000000) :
    ∃ w b, (Tr.bind (.pair (.pair (.int .i64) (.pair .bool .unit)) .unit) (base_Number u 8) fun z => .ret (((IntKind.i64.wrap (z.1.1 * t)), (z.1.2.1, ())), ())).run = some ((w, b, ()), ()) ∧ Got ((numS u).map fun n => n * t) w b := by
  obtain ⟨w, b, k1, k2⟩ := k_Number hu
  exact ⟨_, b, (r_bs k1).trans (r_ret _), k2.mulw t ht (fun v hv => numS_bd hv)⟩
theorem numS_bad {c : UInt8} (h : ¬ isDg c) : numS [c] = none := by
  by_cases h45 : c = 45
  · subst h45; exact numS_none (.inl rfl)
  · exact numS_none (.inr (.inr ⟨c, by unfold fromS; rw [if_neg (by simp [h45])]; simp, h⟩))
theorem suf_long {s p : List UInt8} (h : s.length < p.length) : Lib.hasSuffix s p = false := by
  cases q : Lib.hasSuffix s p with
  | false => rfl
  | true => have := (suf_iff.1 q).1; omega
theorem k_rlength {s : List UInt8} (hs : s.length ≤ 1048576) : ∃ w b, ref02xlength s = some ((w, b, ()), ()) ∧ Got (lenS s) w b := by
  show ∃ w b, (T_ref02xlength s).run = _ ∧ _
  unfold T_ref02xlength
  obtain ⟨w0, b0, f0, g0⟩ := num_fin s 1 hs (.inl rfl)
  by_cases h2 : 2 < s.length
  · have e2 : IntKind.i64.wrap ((s.length : Int) - 2) = ((s.length - 2 : Nat) : Int) := by rw [w64' (by omega) (by omega)]; omega
    have e1 : IntKind.i64.wrap ((s.length : Int) - 1) = ((s.length - 1 : Nat) : Int) := by rw [w64' (by omega) (by omega)]; omega
    have p2 : part s ((s.length - 2 : Nat) : Int) (s.length : Int) = s.drop (s.length - 2) := by rw [part_nat, List.take_length]
    have t2 : part s 0 ((s.length - 2 : Nat) : Int) = s.take (s.length - 2) := by have := part_nat s 0 (s.length - 2); simpa using this
    have t1 : part s 0 ((s.length - 1 : Nat) : Int) = s.take (s.length - 1) := by have := part_nat s 0 (s.length - 1); simpa using this
    have s2 : ∀ a b : UInt8, s.drop (s.length - 2) = [a, b] ↔ Lib.hasSuffix s [a, b] = true := fun a b => by
      rw [suf_iff]; simp
      try omega
    rw [e2, e1, p2, t2, t1]
    unfold lenS unitS
    by_cases hum : s.drop (s.length - 2) = [117, 109]
    · have hum' := (s2 _ _).1 hum
      obtain ⟨w, b, f, g⟩ := num_fin (s.take (s.length - 2)) 1 (by rw [List.length_take]; omega) (.inl rfl)
      refine ⟨w, b, ?_, by rw [if_pos hum', trim_suf hum']; exact g⟩
      refine (br_t (decide_eq_true (by omega))).trans ?_
      refine (q_of (bnd_t' (by omega) (by omega) (by omega))).trans ?_
      refine (br_t (decide_eq_true hum)).trans ?_
      exact (q_of (bnd_t' (by omega) (by omega) (by omega))).trans f
    have hum' : ¬ Lib.hasSuffix s [117, 109] = true := fun h => hum ((s2 _ _).2 h)
    rw [if_neg hum']
    by_cases hmm : s.drop (s.length - 2) = [109, 109]
    · have hmm' := (s2 _ _).1 hmm
      obtain ⟨w, b, f, g⟩ := num_fin (s.take (s.length - 2)) 1000 (by rw [List.length_take]; omega) (.inr (.inl rfl))
      refine ⟨w, b, ?_, by rw [if_pos hmm', trim_suf hmm']; exact g⟩
      refine (br_t (decide_eq_true (by omega))).trans ?_
      refine (q_of (bnd_t' (by omega) (by omega) (by omega))).trans ?_
      refine (br_f (decide_eq_false hum)).trans ?_
      refine (br_t (decide_eq_true (by omega))).trans ?_
      refine (q_of (bnd_t' (by omega) (by omega) (by omega))).trans ?_
      refine (br_t (decide_eq_true hmm)).trans ?_
      exact (q_of (bnd_t' (by omega) (by omega) (by omega))).trans f
    have hmm' : ¬ Lib.hasSuffix s [109, 109] = true := fun h => hmm ((s2 _ _).2 h)
    rw [if_neg hmm']
    have hl1 : s.length - 1 < s.length := by omega
    have hm : s[s.length - 1] = 109 ↔ Lib.hasSuffix s [109] = true := by
      rw [suf_iff]
      have : s.drop (s.length - 1) = [s[s.length - 1]] := by
        rw [drop_cons hl1, List.drop_of_length_le (by omega)]
      simp only [List.length_singleton]
      rw [this]
      constructor
      · intro h; exact ⟨by omega, by rw [h]⟩
      · rintro ⟨_, h⟩; injection h
    by_cases hm1 : s[s.length - 1] = 109
    · have hm' := hm.1 hm1
      obtain ⟨w, b, f, g⟩ := num_fin (s.take (s.length - 1)) 1000000 (by rw [List.length_take]; omega) (.inr (.inr rfl))
      refine ⟨w, b, ?_, by rw [if_pos hm', trim_suf hm']; exact g⟩
      refine (br_t (decide_eq_true (by omega))).trans ?_
      refine (q_of (bnd_t' (by omega) (by omega) (by omega))).trans ?_
      refine (br_f (decide_eq_false hum)).trans ?_
      refine (br_t (decide_eq_true (by omega))).trans ?_
      refine (q_of (bnd_t' (by omega) (by omega) (by omega))).trans ?_
      refine (br_f (decide_eq_false hmm)).trans ?_
      refine (br_t (decide_eq_true (by omega))).trans ?_
      refine (q_of (inB_t' (by omega) (by omega))).trans ?_
      rw [gi_nat hl1]
      refine (br_t (decide_eq_true ((u8_eq (c := 109) rfl).2 hm1))).trans ?_
      exact (q_of (bnd_t' (by omega) (by omega) (by omega))).trans f
    · have hm' : ¬ Lib.hasSuffix s [109] = true := fun h => hm1 (hm.2 h)
      refine ⟨w0, b0, ?_, by rw [if_neg hm']; exact g0⟩
      refine (br_t (decide_eq_true (by omega))).trans ?_
      refine (q_of (bnd_t' (by omega) (by omega) (by omega))).trans ?_
      refine (br_f (decide_eq_false hum)).trans ?_
      refine (br_t (decide_eq_true (by omega))).trans ?_
      refine (q_of (bnd_t' (by omega) (by omega) (by omega))).trans ?_
      refine (br_f (decide_eq_false hmm)).trans ?_
      refine (br_t (decide_eq_true (by omega))).trans ?_
      refine (q_of (inB_t' (by omega) (by omega))).trans ?_
      rw [gi_nat hl1]
      exact (br_f (decide_eq_false (fun e => hm1 ((u8_eq (c := 109) rfl).1 e)))).trans f0
  · have pre : ∀ {t1 t2 t3 : Tr ((Int × Bool × Unit) × Unit)}, (Tr.br (decide (2 < (s.length : Int))) t1 (Tr.br (decide (2 < (s.length : Int))) t2 t3)).run = t3.run := fun {t1 t2 t3} =>
      (br_f (decide_eq_false (by omega))).trans (br_f (decide_eq_false (by omega)))
    match s, hs, h2, f0, g0, @pre with
    | [], _, _, f0, g0, pre =>
      exact ⟨w0, b0, pre.trans ((br_f rfl).trans f0), g0⟩
    | [x], _, _, f0, g0, pre =>
      refine ⟨w0, b0, pre.trans ((br_f rfl).trans f0), ?_⟩
      by_cases hx : x = 109
      · subst hx
        rw [numS_bad (by decide)] at g0
        rw [show lenS [109] = none from rfl]
        exact g0
      · unfold lenS unitS
        rw [suf_long (by simp), suf_long (by simp)]
        simp only [Bool.false_eq_true, if_false]
        rw [if_neg (by rw [suf_iff]; simp [hx])]
        exact g0
    | [x, y], hs, _, f0, g0, pre =>
      have ey : gi [x, y] (IntKind.i64.wrap (([x, y].length : Int) - 1)) = y := rfl
      by_cases hy : y = 109
      · subst hy
        obtain ⟨w, b, f, g⟩ := num_fin [x] 1000000 (by simp) (.inr (.inr rfl))
        refine ⟨w, b, pre.trans ((br_t rfl).trans ((q_of rfl).trans ((br_t rfl).trans ((q_of rfl).trans f)))), ?_⟩
        by_cases hx : x = 117
        · subst hx
          rw [numS_bad (by decide)] at g
          rw [show lenS [117, 109] = none from rfl]
          exact g
        · by_cases hx2 : x = 109
          · subst hx2
            rw [numS_bad (by decide)] at g
            rw [show lenS [109, 109] = none from rfl]
            exact g
          · unfold lenS unitS
            rw [if_neg (by rw [suf_iff]; simp [hx])]
            have h1 : Lib.hasSuffix [x, 109] [109] = true := by rw [suf_iff]; simp
            rw [if_neg (by rw [suf_iff]; simp [hx2]), if_pos h1, trim_suf h1]
            exact g
      · refine ⟨w0, b0, pre.trans ((br_t rfl).trans ((q_of rfl).trans ((br_f ?_).trans f0))), ?_⟩
        · rw [ey]; exact decide_eq_false (fun e => hy ((u8_eq (c := 109) rfl).1 e))
        · unfold lenS unitS
          rw [if_neg (by rw [suf_iff]; simp [hy]), if_neg (by rw [suf_iff]; simp [hy]), if_neg (by rw [suf_iff]; simp [hy])]
          exact g0
    | x :: y :: z :: r, _, h2, _, _, _ => simp at h2

/-! ### Constants -/

/-- A conic constant. -/
def conS (s : List UInt8) : Option (Int × Int) := match cutL 47 s with
  | [a] => (numS a).map fun n => (n, 1)
  | [a, b] => match numS a, numS b with
    | some x, some y => if 1 < y then some (x, y) else none
    | _, _ => none
  | _ => none
theorem conS_bd {s : List UInt8} {v : Int × Int} (h : conS s = some v) : (-100000000 < v.1 ∧ v.1 < 100000000) ∧ (-100000000 < v.2 ∧ v.2 < 100000000) := by
  unfold conS at h
  split at h
  · rename_i a _
    cases hn : numS a with
    | none => rw [hn] at h; cases h
    | some n =>
      rw [hn] at h; injection h with h; subst h
      exact ⟨numS_bd hn, show (-100000000 : Int) < 1 ∧ (1 : Int) < 100000000 by decide⟩
  · split at h
    · rename_i h1 h2
      split at h
      · injection h with h; subst h
        exact ⟨numS_bd h1, numS_bd h2⟩
      · cases h
    · cases h
  · cases h
theorem cutL_mem (c : UInt8) : ∀ (s : List UInt8) (p : List UInt8), p ∈ cutL c s → p.length ≤ s.length
  | [], p, h => by simp [cutL] at h; subst h; simp
  | b :: r, p, h => by
    by_cases hb : b = c
    · subst hb
      rw [cutL_hit] at h
      rcases List.mem_cons.1 h with h | h
      · subst h; simp
      · have := cutL_mem b r p h; simp; omega
    · cases e : cutL c r with
      | nil => rw [cutL, if_neg hb, e] at h; simp at h; subst h; simp
      | cons q qs =>
        rw [cutL_ne hb e] at h
        have ih := cutL_mem c r
        rcases List.mem_cons.1 h with h | h
        · subst h
          have := ih q (by rw [e]; simp); simp; omega
        · have := ih p (by rw [e]; simp [h]); simp; omega
/-- Two numbers that were read, with a bar between them. -/
theorem got_both {a b : Option Int} {x y : Int} {p q : Bool} (h1 : Got a x p) (h2 : Got b y q) : Got (match a, b with | some x, some y => if 1 < y then some (x, y) else none | _, _ => none) (x, y) (p && q && decide (1 < y)) := by
  obtain ⟨rfl, h1⟩ := h1
  obtain ⟨rfl, h2⟩ := h2
  cases a with
  | none => exact got_none
  | some a =>
    cases b with
    | none => exact got_none
    | some b =>
      have e1 := h1 a rfl
      have e2 := h2 b rfl
      subst e1 e2
      simp only [Option.isSome_some, Bool.true_and]
      by_cases h : 1 < y
      · rw [if_pos h, decide_eq_true h]; exact got_some
      · rw [if_neg h, decide_eq_false h]; exact got_none
theorem got_one {a : Option Int} {x : Int} {p : Bool} (h : Got a x p) : Got (a.map fun n => (n, (1 : Int))) (x, 1) p := by
  obtain ⟨rfl, h⟩ := h
  cases a with
  | none => exact got_none
  | some n => rw [h n rfl]; exact got_some
theorem both_tree {x y : Int} {p q : Bool} : (Tr.br p (.br q (.ret ((((x), (y)), ((decide (1 < y)), ())), ())) (.ret ((((x), (y)), (false, ())), ()))) (.ret ((((x), (y)), (false, ())), ())) : Tr (((Int × Int) × Bool × Unit) × Unit)).run = some (((x, y), (p && q && decide (1 < y)), ()), ()) := by
  cases p <;> cases q <;> rfl
theorem k_constant {s : List UInt8} (hs : s.length ≤ 1048576) : ∃ w b, ref02xconstant s = some ((w, b, ()), ()) ∧ Got (conS s) w b := by
  show ∃ w b, (T_ref02xconstant s).run = _ ∧ _
  unfold T_ref02xconstant conS
  have hlen := cutL_len 47 s
  have hmem := cutL_mem 47 s
  have kc := k_Cut (s := s) (c := 47) (z := 47) rfl hs
  generalize cutL 47 s = l at *
  match l, hlen, hmem, kc with
  | [], _, _, kc =>
    exfalso
    have : cutL 47 s ≠ [] := by
      cases s with
      | nil => simp [cutL]
      | cons b r => rw [cutL]; split; · simp
                    split <;> simp
    have h2 := k_Cut (s := s) (c := 47) (z := 47) rfl hs
    rw [kc] at h2
    injection h2 with h2
    injection h2 with h2
    injection h2 with h2
    exact this h2.symm
  | [a], _, hmem, kc =>
    obtain ⟨x, p, k1, g1⟩ := k_Number (s := a) (by have := hmem a (by simp); omega)
    refine ⟨(x, 1), p, ?_, ?_⟩
    · refine (r_bs kc).trans ?_
      refine (q_of rfl).trans ?_
      refine (r_bs k1).trans ?_
      refine (br_t rfl).trans ?_
      exact r_ret _
    · exact got_one g1
  | [a, b], _, hmem, kc =>
    obtain ⟨x, p, k1, g1⟩ := k_Number (s := a) (by have := hmem a (by simp); omega)
    obtain ⟨y, q, k2, g2⟩ := k_Number (s := b) (by have := hmem b (by simp); omega)
    refine ⟨(x, y), _, ?_, got_both g1 g2⟩
    refine (r_bs kc).trans ?_
    refine (q_of rfl).trans ?_
    refine (r_bs k1).trans ?_
    refine (br_f rfl).trans ?_
    refine (br_f rfl).trans ?_
    refine (q_of rfl).trans ?_
    refine (r_bs k2).trans ?_
    exact both_tree
  | a :: b :: c :: r, _, hmem, kc =>
    obtain ⟨x, p, k1, g1⟩ := k_Number (s := a) (by have := hmem a (by simp); omega)
    refine ⟨(0, 0), false, ?_, got_none⟩
    refine (r_bs kc).trans ?_
    refine (q_of (inB_t' (by omega) (by simp; omega))).trans ?_
    refine (r_bs k1).trans ?_
    refine (br_f (decide_eq_false (by simp; omega))).trans ?_
    refine (br_t (decide_eq_true (by simp; omega))).trans ?_
    exact r_ret _
theorem numS_bar {u : List UInt8} {k : Nat} (h : u[k]? = some 47) : numS u = none := by
  refine numS_none (.inr (.inr ⟨47, ?_, by decide⟩))
  unfold fromS
  split
  · rename_i hh
    cases u with
    | nil => cases hh
    | cons c r =>
      simp at hh; subst hh
      cases k with
      | zero => simp at h
      | succ k => exact List.mem_iff_getElem?.2 ⟨k, by simpa using h⟩
  · exact List.mem_iff_getElem?.2 ⟨k, by simpa using h⟩
theorem k_conic {s : List UInt8} (hs : s.length ≤ 1048576) : ∃ w b, optics_conic s = some ((w, b, ()), ()) ∧ Got (conS s) w b := by
  show ∃ w b, (T_optics_conic s).run = _ ∧ _
  unfold T_optics_conic conS
  rcases first_at s 47 with h | ⟨i, h1, h2⟩
  · have kc := k_cut s [47] hs
    rw [cut_none h] at kc
    rw [cutL_none h]
    obtain ⟨x, p, k1, g1⟩ := k_integer hs
    refine ⟨(x, 1), p, ?_, ?_⟩
    · refine (r_bs kc).trans ?_
      refine (r_bs k1).trans ?_
      refine (br_t rfl).trans ?_
      refine (r_bs (k_owhole x)).trans ?_
      exact r_ret _
    · exact got_one g1
  · have kc := k_cut s [47] hs
    rw [cut_some h1 h2] at kc
    rw [cutL_some h1 h2]
    obtain ⟨x, p, k1, g1⟩ := k_integer (s := s.take i) (by rw [List.length_take]; omega)
    obtain ⟨y, q, k2, g2⟩ := k_integer (s := s.drop (i + 1)) (by rw [List.length_drop]; omega)
    refine ⟨(x, y), p && q && decide (1 < y), ?_, ?_⟩
    · refine (r_bs kc).trans ?_
      refine (r_bs k1).trans ?_
      refine (br_f rfl).trans ?_
      refine (r_bs k2).trans ?_
      exact both_tree
    · have hb := got_both g1 g2
      rcases first_at (s.drop (i + 1)) 47 with h | ⟨j, h3, h4⟩
      · rw [cutL_none h]; exact hb
      · rw [numS_bar h3] at hb
        have e : (match numS (s.take i), (none : Option Int) with | some x, some y => if 1 < y then some (x, y) else none | _, _ => none) = (none : Option (Int × Int)) := by
          cases numS (s.take i) <;> rfl
        rw [e] at hb
        rw [cutL_some h3 h4]
        cases hq : cutL 47 ((s.drop (i + 1)).drop (j + 1)) with
        | nil =>
          exfalso
          revert hq
          generalize (s.drop (i + 1)).drop (j + 1) = v
          cases v with
          | nil => simp [cutL]
          | cons b r => rw [cutL]; split
                        · simp
                        · split <;> simp
        | cons a l => exact hb

/-! ### Keys -/

/-- The number of a key. -/
def keyS (s : List UInt8) : Option Nat := if s = bRadius then some 0 else if s = bConic then some 1 else if s = bDiameter then some 2 else if s = bApart then some 3 else none
theorem k_key {s : List UInt8} : ref02xkey s = some (((match keyS s with | some n => (n : Int) | none => -1), ()), ()) := by
  show (T_ref02xkey s).run = _
  unfold T_ref02xkey
  rw [r_iter]
  obtain ⟨F, hF⟩ : ∃ F, FUEL = F + 5 := ⟨FUEL - 5, by decide⟩
  rw [hF]
  have hit : ∀ (m i : Nat) (l : List UInt8), (T_ref02xkey_l0 s (i : Int)).run = some (.inr (((i : Int), ()), ())) → iterF (fun y : Int × Unit => (T_ref02xkey_l0 s y.1).run) (m + 1) ((i : Int), ()) = some (((i : Int), ()), ()) := fun m i l h => by
    rw [iterF, h]
  have step : ∀ (m i : Nat) (r : (Int × Unit) × Unit), (T_ref02xkey_l0 s (i : Int)).run = some (.inl (((i + 1 : Nat) : Int), ())) → iterF (fun y : Int × Unit => (T_ref02xkey_l0 s y.1).run) m (((i + 1 : Nat) : Int), ()) = some r → iterF (fun y : Int × Unit => (T_ref02xkey_l0 s y.1).run) (m + 1) ((i : Int), ()) = some r := fun m i r h h2 => by
    rw [iterF, h]; exact h2
  unfold keyS
  by_cases h0 : s = bRadius
  · rw [if_pos h0]
    refine hit _ 0 [] ?_
    unfold T_ref02xkey_l0
    exact (br_t rfl).trans ((br_t rfl).trans ((br_t (decide_eq_true h0.symm)).trans (r_ret _)))
  rw [if_neg h0]
  refine step _ 0 _ ?_ ?_
  · unfold T_ref02xkey_l0
    exact (br_t rfl).trans ((br_t rfl).trans ((br_f (decide_eq_false (fun e => h0 e.symm))).trans (r_ret _)))
  by_cases h1 : s = bConic
  · rw [if_pos h1]
    refine hit _ 1 [] ?_
    unfold T_ref02xkey_l0
    exact (br_t rfl).trans ((br_f rfl).trans ((br_t rfl).trans ((br_t (decide_eq_true h1.symm)).trans (r_ret _))))
  rw [if_neg h1]
  refine step _ 1 _ ?_ ?_
  · unfold T_ref02xkey_l0
    exact (br_t rfl).trans ((br_f rfl).trans ((br_t rfl).trans ((br_f (decide_eq_false (fun e => h1 e.symm))).trans (r_ret _))))
  by_cases h2 : s = bDiameter
  · rw [if_pos h2]
    refine hit _ 2 [] ?_
    unfold T_ref02xkey_l0
    exact (br_t rfl).trans ((br_f rfl).trans ((br_f rfl).trans ((br_t rfl).trans ((br_t (decide_eq_true h2.symm)).trans (r_ret _)))))
  rw [if_neg h2]
  refine step _ 2 _ ?_ ?_
  · unfold T_ref02xkey_l0
    exact (br_t rfl).trans ((br_f rfl).trans ((br_f rfl).trans ((br_t rfl).trans ((br_f (decide_eq_false (fun e => h2 e.symm))).trans (r_ret _)))))
  by_cases h3 : s = bApart
  · rw [if_pos h3]
    refine hit _ 3 [] ?_
    unfold T_ref02xkey_l0
    exact (br_t rfl).trans ((br_f rfl).trans ((br_f rfl).trans ((br_f rfl).trans ((br_t rfl).trans ((br_t (decide_eq_true h3.symm)).trans (r_ret _))))))
  rw [if_neg h3]
  refine step _ 3 _ ?_ ?_
  · unfold T_ref02xkey_l0
    exact (br_t rfl).trans ((br_f rfl).trans ((br_f rfl).trans ((br_f rfl).trans ((br_t rfl).trans ((br_f (decide_eq_false (fun e => h3 e.symm))).trans (r_ret _))))))
  · have : (T_ref02xkey_l0 s ((4 : Nat) : Int)).run = some (.inr ((-1, ()), ())) := by
      unfold T_ref02xkey_l0
      exact (br_f rfl).trans (r_ret _)
    rw [iterF, this]
end Go.Ab
