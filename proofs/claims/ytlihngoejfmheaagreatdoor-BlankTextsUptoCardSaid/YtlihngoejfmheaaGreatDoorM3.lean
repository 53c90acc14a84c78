/- Lists of numbers, as the program and the reference read them. -/
import Derived.Test.YtlihngoejfmheaaGreatDoorM2
namespace Go.Ab
open Go
set_option maxRecDepth 1000000
set_option maxHeartbeats 1000000
set_option linter.unusedVariables false
set_option linter.unusedSimpArgs false

def numsS : List (List UInt8) → Option (List Int)
  | [] => some []
  | w :: r => match numS w, numsS r with
    | some n, some ns => some (n :: ns)
    | _, _ => none
theorem numsS_snoc {l : List (List UInt8)} {w : List UInt8} : numsS (l ++ [w]) = match numsS l, numS w with
    | some ns, some n => some (ns ++ [n])
    | _, _ => none := by
  induction l with
  | nil => simp only [List.nil_append, numsS]; cases numS w <;> rfl
  | cons x r ih =>
    simp only [List.cons_append, numsS, ih]
    cases numS x <;> cases numsS r <;> cases numS w <;> rfl
theorem numsS_none {l : List (List UInt8)} {w : List UInt8} (hw : w ∈ l) (h : numS w = none) : numsS l = none := by
  induction l with
  | nil => cases hw
  | cons x r ih =>
    simp only [numsS]
    rcases List.mem_cons.1 hw with rfl | hw
    · rw [h]
    · rw [ih hw]; cases numS x <;> rfl
theorem numsS_len : ∀ {l : List (List UInt8)} {ns : List Int}, numsS l = some ns → ns.length = l.length
  | [], ns, h => by injection h with h; subst h; rfl
  | x :: r, ns, h => by
    simp only [numsS] at h
    split at h
    · rename_i n ms h1 h2
      injection h with h
      subst h
      simp [numsS_len h2]
    · cases h
theorem numS_why {s : List UInt8} : (∃ v, Lib.atoiAll s = .ok v ∧ numS s = if Lib.itoa v = s ∧ (Lib.trimPrefix s [45]).length ≤ 7 then some v else none) ∨ ((∀ v, Lib.atoiAll s ≠ .ok v) ∧ numS s = none) := by
  unfold numS
  cases ha : Lib.atoiAll s with
  | ok v => exact .inl ⟨v, rfl, rfl⟩
  | _ => exact .inr ⟨fun v e => (by cases e), rfl⟩
theorem atoi_bad {s : List UInt8} (h : ∀ v, Lib.atoiAll s ≠ .ok v) (hs : s.length ≤ 1048576) : ∃ v, strconv_Atoi s = some ((v, false, ()), ()) := by
  unfold strconv_Atoi
  rw [if_pos (by omega)]
  cases ha : Lib.atoiAll s with
  | ok v => exact absurd ha (h v)
  | range => exact ⟨_, rfl⟩
  | _ => exact ⟨_, rfl⟩

def outN (o : Option (List Int)) (c : Int) : List Int × Bool × Unit := match o with
  | some ns => (ns, decide ((ns.length : Int) = c), ())
  | none => ([], false, ())
theorem k_numbers {l : List (List UInt8)} {c : Int} (hl : l.length ≤ 1048576) (hw : ∀ w ∈ l, w.length ≤ 1048576) : blank_numbers l c = some (outN (numsS l) c, ()) := by
  show (T_blank_numbers l c).run = _
  unfold T_blank_numbers
  refine (q_of (decide_eq_true rfl)).trans ?_
  rw [r_iter]
  refine iter_eq (fun i (st : List Int × Int × Unit) => numsS (l.take i) = some st.1 ∧ st.2 = ((i : Int), ())) _ l.length (by omega) ?_ ⟨rfl, rfl⟩
  rintro i ⟨acc, b⟩ hi ⟨h1, rfl⟩
  dsimp only at h1 ⊢
  unfold T_blank_numbers_l0
  have hal : acc.length = i := by rw [numsS_len h1, List.length_take]; omega
  by_cases hlt : i < l.length
  · have hm : l[i] ∈ l := List.getElem_mem hlt
    have hsz := hw _ hm
    have bad : numS l[i] = none → outN (numsS l) c = ([], false, ()) := fun h => by rw [numsS_none hm h]; rfl
    rcases numS_why (s := l[i]) with ⟨v, ha, hn⟩ | ⟨ha, hn⟩
    · by_cases h2 : Lib.itoa v = l[i]
      · by_cases h3 : (Lib.trimPrefix l[i] [45]).length ≤ 7
        · left
          rw [if_pos ⟨h2, h3⟩] at hn
          refine ⟨(acc ++ [v], (((i + 1 : Nat) : Int), ())), ?_, hlt, ?_, rfl⟩
          · refine (br_t (decide_eq_true (by omega))).trans ?_
            refine (q_of (inB_t' (by omega) (by omega))).trans ?_
            rw [gi_nat hlt]
            refine (r_bs (atoi_ok ha hsz)).trans ?_
            refine (br_f rfl).trans ?_
            refine (r_bs (k_Itoa (atoiAll_bd ha))).trans ?_
            refine (br_f (nd h2)).trans ?_
            refine (r_bs (k_trim _)).trans ?_
            refine (br_f (decide_eq_false (by dsimp only; omega))).trans ?_
            refine (q_of (decide_eq_true rfl)).trans ?_
            refine (q_of (app_t' (by simp; omega) (by simp; omega))).trans ?_
            refine (q_of (decide_eq_true (by simp))).trans ?_
            rw [w1 i (by omega)]
            exact r_ret _
          · rw [List.take_succ_eq_append_getElem hlt, numsS_snoc, h1, hn]
        · right
          rw [if_neg (fun h => h3 h.2)] at hn
          rw [bad hn]
          refine (br_t (decide_eq_true (by omega))).trans ?_
          refine (q_of (inB_t' (by omega) (by omega))).trans ?_
          rw [gi_nat hlt]
          refine (r_bs (atoi_ok ha hsz)).trans ?_
          refine (br_f rfl).trans ?_
          refine (r_bs (k_Itoa (atoiAll_bd ha))).trans ?_
          refine (br_f (nd h2)).trans ?_
          refine (r_bs (k_trim _)).trans ?_
          exact (br_t (decide_eq_true (by dsimp only; omega))).trans (r_ret _)
      · right
        rw [if_neg (fun h => h2 h.1)] at hn
        rw [bad hn]
        refine (br_t (decide_eq_true (by omega))).trans ?_
        refine (q_of (inB_t' (by omega) (by omega))).trans ?_
        rw [gi_nat hlt]
        refine (r_bs (atoi_ok ha hsz)).trans ?_
        refine (br_f rfl).trans ?_
        refine (r_bs (k_Itoa (atoiAll_bd ha))).trans ?_
        exact (br_t (nd' h2)).trans (r_ret _)
    · right
      rw [bad hn]
      obtain ⟨v, hv⟩ := atoi_bad ha hsz
      refine (br_t (decide_eq_true (by omega))).trans ?_
      refine (q_of (inB_t' (by omega) (by omega))).trans ?_
      rw [gi_nat hlt]
      refine (r_bs hv).trans ?_
      exact (br_t rfl).trans (r_ret _)
  · right
    have e : i = l.length := by omega
    subst e
    rw [List.take_length] at h1
    rw [h1]
    exact (br_f (decide_eq_false (by omega))).trans (r_ret _)

def outI (o : Option (List Int)) : List Int × Bool × Unit := match o with
  | some ns => (ns, true, ())
  | none => ([], false, ())
theorem k_ints {l : List (List UInt8)} (hl : l.length ≤ 1048576) (hw : ∀ w ∈ l, w.length ≤ 1048576) : ref03xints l = some (outI (numsS l), ()) := by
  show (T_ref03xints l).run = _
  unfold T_ref03xints
  refine (q_of (decide_eq_true rfl)).trans ?_
  rw [r_iter]
  refine iter_eq (fun i (st : List Int × Int × Unit) => numsS (l.take i) = some st.1 ∧ st.2 = ((i : Int), ())) _ l.length (by omega) ?_ ⟨rfl, rfl⟩
  rintro i ⟨acc, b⟩ hi ⟨h1, rfl⟩
  dsimp only at h1 ⊢
  unfold T_ref03xints_l0
  have hal : acc.length = i := by rw [numsS_len h1, List.length_take]; omega
  by_cases hlt : i < l.length
  · have hm : l[i] ∈ l := List.getElem_mem hlt
    obtain ⟨w, b, hN, hb, hv⟩ := k_Number (hw _ hm)
    cases hn : numS l[i] with
    | none =>
      right
      rw [hn] at hb
      rw [numsS_none hm hn]
      refine (br_t (decide_eq_true (by omega))).trans ?_
      refine (q_of (inB_t' (by omega) (by omega))).trans ?_
      rw [gi_nat hlt]
      refine (r_bs hN).trans ?_
      exact (br_t (by rw [hb]; rfl)).trans (r_ret _)
    | some n =>
      left
      rw [hn] at hb
      have hwn := hv n hn
      subst hwn
      refine ⟨(acc ++ [w], (((i + 1 : Nat) : Int), ())), ?_, hlt, ?_, rfl⟩
      · refine (br_t (decide_eq_true (by omega))).trans ?_
        refine (q_of (inB_t' (by omega) (by omega))).trans ?_
        rw [gi_nat hlt]
        refine (r_bs hN).trans ?_
        refine (br_f (by rw [hb]; rfl)).trans ?_
        refine (q_of (decide_eq_true rfl)).trans ?_
        refine (q_of (app_t' (by simp; omega) (by simp; omega))).trans ?_
        refine (q_of (decide_eq_true (by simp))).trans ?_
        rw [w1 i (by omega)]
        exact r_ret _
      · rw [List.take_succ_eq_append_getElem hlt, numsS_snoc, h1, hn]
  · right
    have e : i = l.length := by omega
    subst e
    rw [List.take_length] at h1
    rw [h1]
    exact (br_f (decide_eq_false (by omega))).trans (r_ret _)
end Go.Ab
