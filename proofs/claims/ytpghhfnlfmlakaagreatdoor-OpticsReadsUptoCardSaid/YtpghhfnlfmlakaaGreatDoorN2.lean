/- The words of a line: what the program's and the reference's functions compute. Texts cut at a byte. -/
import Derived.Test.YtpghhfnlfmlakaaGreatDoorN1
import Derived.Test.YtpghhfnlfmlakaaGreatDoorN0
import Derived.Lib.SplitLaws
namespace Go.Ab
open Go
set_option maxRecDepth 1000000
set_option maxHeartbeats 1000000
set_option linter.unusedVariables false
set_option linter.unusedSimpArgs false

abbrev Wd := List UInt8 × Int
/-- A word that is under way ends. -/
def flushW (k : Nat) (cur : List UInt8) : List Wd := if cur = [] then [] else [(cur, ((k - cur.length : Nat) : Int) + 1)]
/-- The words of what is left of a line from place k on; a word may be under way. -/
def wordsA (k : Nat) (cur : List UInt8) : List UInt8 → List Wd
  | [] => flushW k cur
  | c :: r => if c = 35 then flushW k cur else if c = 32 ∨ c = 9 then flushW k cur ++ wordsA (k + 1) [] r else wordsA (k + 1) (cur ++ [c]) r
theorem flushW_nil (k : Nat) : flushW k [] = [] := rfl
theorem wordsA_nil (k : Nat) (cur : List UInt8) : wordsA k cur [] = flushW k cur := rfl
theorem wordsA_hash (k : Nat) (cur r : List UInt8) : wordsA k cur (35 :: r) = flushW k cur := by rw [wordsA, if_pos rfl]
theorem wordsA_gap {c : UInt8} (h : c = 32 ∨ c = 9) (k : Nat) (cur r : List UInt8) : wordsA k cur (c :: r) = flushW k cur ++ wordsA (k + 1) [] r := by
  rw [wordsA, if_neg (by rcases h with rfl | rfl <;> decide), if_pos h]
theorem wordsA_let {c : UInt8} (h1 : c ≠ 35) (h : ¬ (c = 32 ∨ c = 9)) (k : Nat) (cur r : List UInt8) : wordsA k cur (c :: r) = wordsA (k + 1) (cur ++ [c]) r := by
  rw [wordsA, if_neg h1, if_neg h]
theorem wordsA_take : ∀ (s : List UInt8) (i k : Nat) (cur : List UInt8), s[i]? = some 35 → wordsA k cur s = wordsA k cur (s.take i)
  | [], i, k, cur, h => by simp at h
  | c :: r, 0, k, cur, h => by
    simp at h; subst h
    rw [wordsA_hash]; rfl
  | c :: r, i + 1, k, cur, h => by
    rw [List.take_succ_cons]
    have ih := fun k cur => wordsA_take r i k cur (by simpa using h)
    by_cases h1 : c = 35
    · subst h1; rw [wordsA_hash, wordsA_hash]
    · by_cases h2 : c = 32 ∨ c = 9
      · rw [wordsA_gap h2, wordsA_gap h2, ih]
      · rw [wordsA_let h1 h2, wordsA_let h1 h2, ih]
/-- A word that lies farther on. -/
def shiftW (d : Nat) (w : Wd) : Wd := (w.1, w.2 + (d : Int))
theorem flushW_shift {k : Nat} {cur : List UInt8} (d : Nat) (h : cur.length ≤ k) : flushW (k + d) cur = (flushW k cur).map (shiftW d) := by
  unfold flushW
  split
  · rfl
  · simp only [List.map_cons, List.map_nil, shiftW]
    congr 2
    omega
theorem wordsA_shift (d : Nat) : ∀ (s : List UInt8) (k : Nat) (cur : List UInt8), cur.length ≤ k → wordsA (k + d) cur s = (wordsA k cur s).map (shiftW d)
  | [], k, cur, h => flushW_shift d h
  | c :: r, k, cur, h => by
    by_cases h1 : c = 35
    · subst h1; rw [wordsA_hash, wordsA_hash, flushW_shift d h]
    · by_cases h2 : c = 32 ∨ c = 9
      · rw [wordsA_gap h2, wordsA_gap h2, List.map_append, flushW_shift d h, ← wordsA_shift d r (k + 1) [] (by simp), Nat.add_right_comm]
      · rw [wordsA_let h1 h2, wordsA_let h1 h2, ← wordsA_shift d r (k + 1) (cur ++ [c]) (by simp; omega), Nat.add_right_comm]
/-- Where the words lie. -/
theorem wordsA_bd : ∀ (s : List UInt8) (k : Nat) (cur : List UInt8), cur.length ≤ k → ∀ w ∈ wordsA k cur s, 1 ≤ w.2 ∧ w.2 + w.1.length ≤ k + s.length + 1 ∧ w.1.length ≤ cur.length + s.length := by
  have fl : ∀ (k : Nat) (cur : List UInt8), cur.length ≤ k → ∀ w ∈ flushW k cur, 1 ≤ w.2 ∧ w.2 + w.1.length ≤ k + 1 ∧ w.1.length ≤ cur.length := fun k cur h w hw => by
    unfold flushW at hw
    split at hw
    · cases hw
    · rw [List.mem_singleton] at hw
      subst hw
      refine ⟨by simp only; omega, by simp only; omega, Nat.le_refl _⟩
  intro s
  induction s with
  | nil => intro k cur h w hw; have := fl k cur h w hw; simp only [List.length_nil]; omega
  | cons c r ih =>
    intro k cur h w hw
    simp only [List.length_cons]
    by_cases h1 : c = 35
    · subst h1; rw [wordsA_hash] at hw
      have := fl k cur h w hw; omega
    · by_cases h2 : c = 32 ∨ c = 9
      · rw [wordsA_gap h2] at hw
        rcases List.mem_append.1 hw with hw | hw
        · have := fl k cur h w hw; omega
        · have := ih (k + 1) [] (by simp) w hw
          simp only [List.length_nil] at this
          omega
      · rw [wordsA_let h1 h2] at hw
        have := ih (k + 1) (cur ++ [c]) (by simp; omega) w hw
        simp only [List.length_append, List.length_cons, List.length_nil] at this
        omega
theorem wordsA_len : ∀ (s : List UInt8) (k : Nat) (cur : List UInt8), (wordsA k cur s).length ≤ s.length + 1 := by
  have fl : ∀ (k : Nat) (cur : List UInt8), (flushW k cur).length ≤ 1 := fun k cur => by unfold flushW; split <;> simp
  intro s
  induction s with
  | nil => intro k cur; have := fl k cur; rw [wordsA_nil]; omega
  | cons c r ih =>
    intro k cur
    simp only [List.length_cons]
    by_cases h1 : c = 35
    · subst h1; rw [wordsA_hash]; have := fl k cur; omega
    · by_cases h2 : c = 32 ∨ c = 9
      · rw [wordsA_gap h2, List.length_append]
        have := fl k cur; have := ih (k + 1) []; omega
      · rw [wordsA_let h1 h2]
        have := ih (k + 1) (cur ++ [c]); omega
/-- How many bytes of a word stand ahead. -/
def wlen : List UInt8 → Nat
  | [] => 0
  | c :: r => if c = 35 ∨ c = 32 ∨ c = 9 then 0 else wlen r + 1
theorem wlen_le : ∀ l : List UInt8, wlen l ≤ l.length
  | [] => Nat.le_refl _
  | c :: r => by have := wlen_le r; rw [wlen]; split <;> simp <;> omega
theorem wlen_before : ∀ (l : List UInt8) (j : Nat) (c : UInt8), j < wlen l → l[j]? = some c → ¬ (c = 35 ∨ c = 32 ∨ c = 9)
  | [], j, c, h, _ => by simp [wlen] at h
  | b :: r, j, c, h, hc => by
    rw [wlen] at h
    split at h
    · omega
    · rename_i hb
      cases j with
      | zero => simp at hc; subst hc; exact hb
      | succ j => exact wlen_before r j c (by omega) (by simpa using hc)
theorem wlen_at : ∀ (l : List UInt8) (c : UInt8), l[wlen l]? = some c → c = 35 ∨ c = 32 ∨ c = 9
  | [], c, h => by simp [wlen] at h
  | b :: r, c, h => by
    by_cases hb : b = 35 ∨ b = 32 ∨ b = 9
    · rw [wlen, if_pos hb] at h; simp at h; subst h; exact hb
    · rw [wlen, if_neg hb] at h
      exact wlen_at r c (by simpa using h)
theorem wordsA_run : ∀ (l : List UInt8) (k : Nat) (cur : List UInt8), wordsA k cur l = wordsA (k + wlen l) (cur ++ l.take (wlen l)) (l.drop (wlen l))
  | [], k, cur => by simp [wlen]
  | c :: r, k, cur => by
    by_cases hb : c = 35 ∨ c = 32 ∨ c = 9
    · rw [wlen, if_pos hb]; simp
    · rw [wlen, if_neg hb, wordsA_let (fun e => hb (.inl e)) (fun e => hb (.inr e)), wordsA_run r]
      simp only [List.take_succ_cons, List.drop_succ_cons, List.append_assoc, List.cons_append, List.nil_append]
      rw [show k + 1 + wlen r = k + (wlen r + 1) by omega]
theorem wordsA_stop {l : List UInt8} (h : ∀ c, l[0]? = some c → c = 35 ∨ c = 32 ∨ c = 9) (k : Nat) (cur : List UInt8) : wordsA k cur l = flushW k cur ++ wordsA k [] l := by
  cases l with
  | nil => rw [wordsA_nil, wordsA_nil, flushW_nil, List.append_nil]
  | cons c r =>
    rcases h c rfl with h1 | h1
    · subst h1; rw [wordsA_hash, wordsA_hash, flushW_nil, List.append_nil]
    · rw [wordsA_gap h1, wordsA_gap h1, flushW_nil, List.nil_append]

theorem part_nat (s : List UInt8) (a b : Nat) : part s (a : Int) (b : Int) = (s.take b).drop a := by simp [part]
theorem u8_eq {a : UInt8} {n : Int} {c : UInt8} (hn : (c.toNat : Int) = n) : ((a.toNat : Int) = n) ↔ a = c := by
  constructor
  · intro h; exact UInt8.toNat_inj.1 (by omega)
  · intro h; subst h; exact hn
theorem drop_cons {s : List UInt8} {i : Nat} (h : i < s.length) : s.drop i = s[i] :: s.drop (i + 1) := (List.drop_eq_getElem_cons h)

/-! ### The reference's words -/

theorem k_words {s : List UInt8} (hs : s.length ≤ 1048576) : ref02xwords s = some ((wordsA 0 [] s, ()), ()) := by
  show (T_ref02xwords s).run = _
  unfold T_ref02xwords
  refine (q_of rfl).trans ?_
  rw [r_iter]
  refine iter_eq (fun i (st : List Wd × Int × Unit) => ∃ (a : List Wd) (b : Nat), st = (a, ((b : Int), ())) ∧ i ≤ b ∧ b ≤ s.length ∧ a.length ≤ b ∧ a ++ wordsA b [] (s.drop b) = wordsA 0 [] s) _ s.length (by omega) ?_
    ⟨[], 0, rfl, Nat.le_refl _, Nat.zero_le _, Nat.zero_le _, rfl⟩
  rintro i st hi ⟨a, b, rfl, hib, hbl, hal, hw⟩
  show (∃ x', (T_ref02xwords_l0 s a b).run = _ ∧ _) ∨ (T_ref02xwords_l0 s a b).run = _
  unfold T_ref02xwords_l0
  by_cases hb : b < s.length
  case neg =>
    right
    have : b = s.length := by omega
    subst this
    rw [List.drop_length, wordsA_nil, flushW_nil, List.append_nil] at hw
    rw [← hw]
    exact (br_f (decide_eq_false (by omega))).trans (r_ret _)
  have hd := drop_cons hb
  by_cases h35 : s[b] = 35
  · right
    rw [hd, h35, wordsA_hash, flushW_nil, List.append_nil] at hw
    rw [← hw]
    refine (br_t (decide_eq_true (by omega))).trans ?_
    refine (q_of (inB_t' (by omega) (by omega))).trans ?_
    rw [gi_nat hb]
    refine (br_f ?_).trans (r_ret _)
    rw [h35]; rfl
  left
  have h35' : ¬ ((s[b].toNat : Int) = 35) := fun h => h35 ((u8_eq (c := 35) rfl).1 h)
  generalize hW : wlen (s.drop b) = w
  have hwl := wlen_le (s.drop b)
  rw [hW, List.length_drop] at hwl
  have hbef : ∀ j, b ≤ j → j < b + w → ∀ hj : j < s.length, ¬ (s[j] = 35 ∨ s[j] = 32 ∨ s[j] = 9) := fun j h1 h2 hj =>
    wlen_before (s.drop b) (j - b) s[j] (by omega) (by rw [List.getElem?_drop, show b + (j - b) = j by omega]; exact List.getElem?_eq_getElem hj)
  have hat : ∀ hj : b + w < s.length, (s[b + w] = 35 ∨ s[b + w] = 32 ∨ s[b + w] = 9) := fun hj =>
    wlen_at (s.drop b) s[b + w] (by rw [hW, List.getElem?_drop]; exact List.getElem?_eq_getElem hj)
  have hrun := wordsA_run (s.drop b) b []
  rw [hW, List.nil_append, List.drop_drop] at hrun
  have hstop := wordsA_stop (l := s.drop (b + w)) (fun c hc => by
    rw [List.getElem?_drop, Nat.add_zero] at hc
    obtain ⟨h1, h2⟩ := List.getElem?_eq_some_iff.1 hc
    rw [← h2]; exact hat h1) (b + w) ((s.drop b).take w)
  rw [hstop] at hrun
  refine ⟨if 0 < w then (a ++ [(part s b ((b + w : Nat) : Int), IntKind.i64.wrap ((b : Int) + 1))], (((b + w : Nat) : Int), ())) else (a, (IntKind.i64.wrap (((b + w : Nat) : Int) + 1), ())), ?_, by omega, ?_⟩
  · refine (br_t (decide_eq_true (by omega))).trans ?_
    refine (q_of (inB_t' (by omega) (by omega))).trans ?_
    rw [gi_nat hb]
    refine (br_t (nd' h35')).trans ?_
    rw [r_iter]
    refine iter_eq (fun j (st : Int × Unit) => st = (((b + j : Nat) : Int), ()) ∧ j ≤ w) _ w (by omega) ?_ ⟨rfl, Nat.zero_le _⟩
    rintro j st hj ⟨rfl, hjw⟩
    show (∃ x', (T_ref02xwords_l1 s a b ((b + j : Nat) : Int)).run = _ ∧ _) ∨ (T_ref02xwords_l1 s a b ((b + j : Nat) : Int)).run = _
    unfold T_ref02xwords_l1
    by_cases hjlt : j < w
    · left
      have hjs : b + j < s.length := by omega
      have hne := hbef (b + j) (by omega) (by omega) hjs
      refine ⟨_, ?_, hjlt, rfl, by omega⟩
      rw [← Nat.add_assoc, ← w1 (b + j) (by omega)]
      refine (br_t (decide_eq_true (by omega))).trans ?_
      refine (q_of (inB_t' (by omega) (by omega))).trans ?_
      rw [gi_nat hjs]
      refine (br_t (nd' (fun h => hne (.inr (.inl ((u8_eq (c := 32) rfl).1 h)))))).trans ?_
      refine (q_of (inB_t' (by omega) (by omega))).trans ?_
      refine (br_t (nd' (fun h => hne (.inr (.inr ((u8_eq (c := 9) rfl).1 h)))))).trans ?_
      refine (q_of (inB_t' (by omega) (by omega))).trans ?_
      exact (br_t (nd' (fun h => hne (.inl ((u8_eq (c := 35) rfl).1 h))))).trans (r_ret _)
    · right
      have : j = w := by omega
      subst this
      have tail : ∀ {t : Tr ((Int × Unit) ⊕ ((List Wd × Int × Unit) ⊕ ((List Wd × Unit) × Unit)))}, t = .br (decide ((b : Int) < ((b + j : Nat) : Int))) (.req (bndOk b ((b + j : Nat) : Int) s.length) (.req (decide (a.length = a.length)) (.req (okApp (a.length + [(part s b ((b + j : Nat) : Int), IntKind.i64.wrap ((b : Int) + 1))].length) 24) (.req (decide (a.length + [(part s b ((b + j : Nat) : Int), IntKind.i64.wrap ((b : Int) + 1))].length = (a ++ [(part s b ((b + j : Nat) : Int), IntKind.i64.wrap ((b : Int) + 1))]).length)) (.ret (.inr (.inl (a ++ [(part s b ((b + j : Nat) : Int), IntKind.i64.wrap ((b : Int) + 1))], (((b + j : Nat) : Int), ()))))))))) (.req (decide (a.length = a.length)) (.ret (.inr (.inl (a, (IntKind.i64.wrap (((b + j : Nat) : Int) + 1), ())))))) →
          t.run = some (.inr (.inl (if 0 < j then (a ++ [(part s b ((b + j : Nat) : Int), IntKind.i64.wrap ((b : Int) + 1))], (((b + j : Nat) : Int), ())) else (a, (IntKind.i64.wrap (((b + j : Nat) : Int) + 1), ()))))) := by
        rintro t rfl
        by_cases hj0 : 0 < j
        · rw [if_pos hj0]
          refine (br_t (decide_eq_true (by omega))).trans ?_
          refine (q_of (bnd_t' (by omega) (by omega) (by omega))).trans ?_
          refine (q_of (decide_eq_true rfl)).trans ?_
          refine (q_of (app_t' (by simp; omega) (by simp; omega))).trans ?_
          refine (q_of (decide_eq_true (by simp))).trans ?_
          exact r_ret _
        · rw [if_neg hj0]
          refine (br_f (decide_eq_false (by omega))).trans ?_
          refine (q_of (decide_eq_true rfl)).trans ?_
          exact r_ret _
      by_cases hend : b + j < s.length
      · refine (br_t (decide_eq_true (by omega))).trans ?_
        refine (q_of (inB_t' (by omega) (by omega))).trans ?_
        rw [gi_nat hend]
        rcases Decidable.em (s[b + j] = 32) with h | h
        · refine (br_f (nd ((u8_eq (c := 32) rfl).2 h))).trans ?_
          exact tail rfl
        · refine (br_t (nd' (fun e => h ((u8_eq (c := 32) rfl).1 e)))).trans ?_
          refine (q_of (inB_t' (by omega) (by omega))).trans ?_
          rcases Decidable.em (s[b + j] = 9) with h2 | h2
          · refine (br_f (nd ((u8_eq (c := 9) rfl).2 h2))).trans ?_
            exact tail rfl
          · refine (br_t (nd' (fun e => h2 ((u8_eq (c := 9) rfl).1 e)))).trans ?_
            refine (q_of (inB_t' (by omega) (by omega))).trans ?_
            have h3 : s[b + j] = 35 := by
              rcases hat hend with h3 | h3 | h3
              · exact h3
              · exact absurd h3 h
              · exact absurd h3 h2
            refine (br_f (nd ((u8_eq (c := 35) rfl).2 h3))).trans ?_
            exact tail rfl
      · refine (br_f (decide_eq_false (by omega))).trans ?_
        exact tail rfl
  · by_cases hw0 : 0 < w
    · rw [if_pos hw0]
      refine ⟨_, b + w, rfl, by omega, by omega, by simp; omega, ?_⟩
      rw [← hw, hrun, List.append_assoc]
      congr 2
      unfold flushW
      have hl : ((s.drop b).take w).length = w := by simp; omega
      rw [if_neg (by intro e; rw [e] at hl; simp at hl; omega), hl, part_nat, List.drop_take, w1 b (by omega)]
      simp
    · rw [if_neg hw0]
      have : w = 0 := by omega
      subst this
      refine ⟨a, b + 1, by rw [Nat.add_zero, w1 b (by omega)], by omega, by omega, by omega, ?_⟩
      rw [← hw, hd]
      have := hat (by omega)
      have h2 : s[b] = 32 ∨ s[b] = 9 := by
        rcases this with h | h
        · exact absurd h h35
        · exact h
      rw [wordsA_gap h2, flushW_nil, List.nil_append]
end Go.Ab
