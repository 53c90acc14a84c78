/- The program's words of a line; numbers, lengths and conic constants that are read. -/
import Derived.Test.YtpghhfnlfmlakaaGreatDoorN2
import Derived.Lib.IndexMore
namespace Go.Ab
open Go
set_option maxRecDepth 1000000
set_option maxHeartbeats 1000000
set_option linter.unusedVariables false
set_option linter.unusedSimpArgs false

/-! ### Texts cut at the first byte of a kind -/

theorem cut_none {s : List UInt8} {c : UInt8} (h : ∀ k : Nat, s[k]? ≠ some c) : Lib.cut s [c] = (s, [], false) := by
  unfold Lib.cut
  rw [if_neg]
  have h1 := Lib.index_one s c
  intro hge
  have hi : Lib.index s [c] = ((Lib.index s [c]).toNat : Int) := by omega
  rw [hi] at h1
  obtain ⟨h2, _⟩ := Lib.indexByte_some h1.symm
  exact h _ h2
theorem cut_some {s : List UInt8} {c : UInt8} {i : Nat} (h : s[i]? = some c) (hn : ∀ k : Nat, k < i → s[k]? ≠ some c) : Lib.cut s [c] = (s.take i, s.drop (i + 1), true) := by
  have h1 := Lib.index_one s c
  have hge := Lib.index_ge s [c]
  by_cases hm : Lib.index s [c] = -1
  · rw [hm] at h1
    exact absurd h (Lib.indexByte_none h1.symm i)
  · have hi : Lib.index s [c] = ((Lib.index s [c]).toNat : Int) := by omega
    generalize (Lib.index s [c]).toNat = j at hi
    rw [hi] at h1
    obtain ⟨h2, h3⟩ := Lib.indexByte_some h1.symm
    have : j = i := by
      rcases Nat.lt_trichotomy j i with q | q | q
      · exact absurd h2 (hn j q)
      · exact q
      · exact absurd h (h3 i q)
    subst this
    unfold Lib.cut
    rw [if_pos (by omega), hi]
    rfl
theorem first_at (s : List UInt8) (c : UInt8) : (∀ k : Nat, s[k]? ≠ some c) ∨ ∃ i : Nat, s[i]? = some c ∧ ∀ k : Nat, k < i → s[k]? ≠ some c := by
  induction s with
  | nil => left; intro k; simp
  | cons b r ih =>
    by_cases hb : b = c
    · right; exact ⟨0, by simp [hb], fun k hk => by omega⟩
    · rcases ih with h | ⟨i, h1, h2⟩
      · left; intro k
        cases k with
        | zero => simpa using hb
        | succ k => simpa using h k
      · right
        refine ⟨i + 1, by simpa using h1, fun k hk => ?_⟩
        cases k with
        | zero => simpa using hb
        | succ k => simpa using h2 k (by omega)
theorem k_cut (s p : List UInt8) (h : s.length ≤ 1048576) : strings_Cut s p = some (((Lib.cut s p).1, (Lib.cut s p).2.1, (Lib.cut s p).2.2, ()), ()) := by
  unfold strings_Cut
  rw [if_pos (by omega)]

/-! ### The program's words -/

theorem k_splitW {s : List UInt8} (hs : s.length ≤ 1048576) : optics_split s = some ((wordsA 0 [] s, ()), ()) := by
  show (T_optics_split s).run = _
  unfold T_optics_split
  refine (r_bs (k_cut s [35] hs)).trans ?_
  have hu : ∃ u : List UInt8, (Lib.cut s [35]).1 = u ∧ wordsA 0 [] s = wordsA 0 [] u ∧ (∀ k : Nat, u[k]? ≠ some 35) ∧ u.length ≤ s.length := by
    rcases first_at s 35 with h | ⟨i, h1, h2⟩
    · exact ⟨s, by rw [cut_none h], rfl, h, Nat.le_refl _⟩
    · refine ⟨s.take i, by rw [cut_some h1 h2], wordsA_take s i 0 [] h1, fun k hk => ?_, by rw [List.length_take]; omega⟩
      rw [List.getElem?_take] at hk
      split at hk
      · rename_i hki; exact h2 k hki hk
      · cases hk
  obtain ⟨u, e1, e2, e3, e4⟩ := hu
  rw [e2]
  refine (q_of rfl).trans ?_
  rw [r_iter]
  generalize hz : (((Lib.cut s [35]).1, (Lib.cut s [35]).2.1, (Lib.cut s [35]).2.2, ()), ()) = z
  have hz1 : z.1.1 = u := by rw [← hz]; exact e1
  refine iter_eq (fun i (st : List Wd × Int × Int × Unit) => ∃ (a : List Wd) (b : Int), st = (a, (b, ((i : Int), ()))) ∧
    (i ≤ u.length → a.length ≤ i ∧ ∃ cur : List UInt8, a ++ wordsA i cur (u.drop i) = wordsA 0 [] u ∧ ((b = -1 ∧ cur = []) ∨ ∃ bn : Nat, b = (bn : Int) ∧ bn < i ∧ cur = (u.take i).drop bn)) ∧ (i = u.length + 1 → a = wordsA 0 [] u)) _ (u.length + 1) (by omega) ?_
    ⟨[], -1, rfl, fun _ => ⟨Nat.zero_le _, [], rfl, .inl ⟨rfl, rfl⟩⟩, fun h => absurd h (by omega)⟩
  rintro i st hi ⟨a, b, rfl, h1, h2⟩
  show (∃ x', (T_optics_split_l1 z a b i).run = _ ∧ _) ∨ (T_optics_split_l1 z a b i).run = _
  unfold T_optics_split_l1
  rw [hz1]
  by_cases hle : i ≤ u.length
  case neg =>
    right
    have : i = u.length + 1 := by omega
    rw [← h2 this]
    exact (br_f (decide_eq_false (by omega))).trans (r_ret _)
  left
  obtain ⟨hal, cur, hw, hb⟩ := h1 hle
  -- the tail of a round behind a gap
  have gap : ∀ {t : Tr ((List Wd × Int × Int × Unit) ⊕ ((List Wd × Unit) × Unit))} {t2 : Tr ((List Wd × Int × Int × Unit) ⊕ ((List Wd × Unit) × Unit))},
      t = .br (decide ((0 : Int) ≤ b)) (.req (bndOk b (i : Int) u.length) (.req (decide (a.length = a.length)) (.req (okApp (a.length + [(part u b (i : Int), IntKind.i64.wrap (b + 1))].length) 24) (.req (decide (a.length + [(part u b (i : Int), IntKind.i64.wrap (b + 1))].length = (a ++ [(part u b (i : Int), IntKind.i64.wrap (b + 1))]).length)) (.ret (.inl (a ++ [(part u b (i : Int), IntKind.i64.wrap (b + 1))], (-1, (IntKind.i64.wrap ((i : Int) + 1), ())))))))) ) t2 →
      (b < 0 → t2.run = some (.inl (a, (b, (IntKind.i64.wrap ((i : Int) + 1), ()))))) →
      ∃ (a' : List Wd), t.run = some (.inl (a', (-1, (((i + 1 : Nat) : Int), ())))) ∧ a' = a ++ flushW i cur ∧ a'.length ≤ i + 1 := by
    rintro t t2 rfl ht
    rw [w1 i (by omega)] at ht ⊢
    rcases hb with ⟨rfl, rfl⟩ | ⟨bn, rfl, hbn, rfl⟩
    · refine ⟨a, (br_f (decide_eq_false (by omega))).trans (ht (by omega)), by rw [flushW_nil, List.append_nil], by omega⟩
    · have hl : ((u.take i).drop bn).length = i - bn := by rw [List.length_drop, List.length_take]; omega
      have hf : flushW i ((u.take i).drop bn) = [(part u (bn : Int) (i : Int), IntKind.i64.wrap ((bn : Int) + 1))] := by
        unfold flushW
        rw [if_neg (by intro e; rw [e] at hl; simp at hl; omega), hl, part_nat, w1 bn (by omega)]
        congr 2
        omega
      refine ⟨a ++ [(part u (bn : Int) (i : Int), IntKind.i64.wrap ((bn : Int) + 1))], ?_, by rw [hf], by simp; omega⟩
      refine (br_t (decide_eq_true (by omega))).trans ?_
      refine (q_of (bnd_t' (by omega) (by omega) (by omega))).trans ?_
      refine (q_of (decide_eq_true rfl)).trans ?_
      refine (q_of (app_t' (by simp; omega) (by simp; omega))).trans ?_
      refine (q_of (decide_eq_true (by simp))).trans ?_
      exact r_ret _
  have plain2 : ∀ {t : Tr ((List Wd × Int × Int × Unit) ⊕ ((List Wd × Unit) × Unit))}, t = .req (decide (a.length = a.length)) (.ret (.inl (a, (b, (IntKind.i64.wrap ((i : Int) + 1), ()))))) → t.run = some (.inl (a, (b, (IntKind.i64.wrap ((i : Int) + 1), ())))) := by
    rintro t rfl
    exact (q_of (decide_eq_true rfl)).trans (r_ret _)
  by_cases he : i = u.length
  · subst he
    obtain ⟨a', r1, r2, r3⟩ := gap (t2 := _) rfl (fun _ => plain2 rfl)
    rw [List.drop_length, wordsA_nil] at hw
    refine ⟨_, (br_t (decide_eq_true (by omega))).trans ((br_t (decide_eq_true (by omega))).trans r1), by omega, ⟨a', -1, rfl, fun h => absurd h (by omega), fun _ => by rw [r2, hw]⟩⟩
  have hlt : i < u.length := by omega
  have hd := drop_cons hlt
  have hne : u[i] ≠ 35 := fun e => e3 i (by rw [List.getElem?_eq_getElem hlt, e])
  by_cases hg : u[i] = 32 ∨ u[i] = 9
  · have fin : ∀ a' : List Wd, a' = a ++ flushW i cur → a'.length ≤ i + 1 → ∃ (a2 : List Wd) (b : Int), (a', ((-1 : Int), (((i + 1 : Nat) : Int), ()))) = (a2, (b, (((i + 1 : Nat) : Int), ()))) ∧
      (i + 1 ≤ u.length → a2.length ≤ i + 1 ∧ ∃ cur : List UInt8, a2 ++ wordsA (i + 1) cur (u.drop (i + 1)) = wordsA 0 [] u ∧ ((b = -1 ∧ cur = []) ∨ ∃ bn : Nat, b = (bn : Int) ∧ bn < i + 1 ∧ cur = (u.take (i + 1)).drop bn)) ∧ (i + 1 = u.length + 1 → a2 = wordsA 0 [] u) := by
      intro a' r2 r3
      refine ⟨a', -1, rfl, fun _ => ⟨r3, [], ?_, .inl ⟨rfl, rfl⟩⟩, fun h => absurd h (by omega)⟩
      rw [r2, ← hw, hd, wordsA_gap hg, List.append_assoc]
    by_cases h32 : u[i] = 32
    · obtain ⟨a', r1, r2, r3⟩ := gap (t2 := _) rfl (fun _ => plain2 rfl)
      refine ⟨_, ?_, by omega, fin a' r2 r3⟩
      refine (br_t (decide_eq_true (by omega))).trans ?_
      refine (br_f (decide_eq_false (by omega))).trans ?_
      refine (q_of (inB_t' (by omega) (by omega))).trans ?_
      rw [gi_nat hlt]
      exact (br_t (decide_eq_true ((u8_eq (c := 32) rfl).2 h32))).trans r1
    · have h9 : u[i] = 9 := by
        rcases hg with h | h
        · exact absurd h h32
        · exact h
      have h9' : ((u[i].toNat : Int) = 9) := (u8_eq (c := 9) rfl).2 h9
      obtain ⟨a', r1, r2, r3⟩ := gap (t2 := .br (!decide ((u[i].toNat : Int) = 9)) (.br (decide (b < (0 : Int))) (.req (decide (a.length = a.length)) (.ret (.inl (a, ((i : Int), (IntKind.i64.wrap ((i : Int) + 1), ())))))) (.req (decide (a.length = a.length)) (.ret (.inl (a, (b, (IntKind.i64.wrap ((i : Int) + 1), ()))))))) (.req (decide (a.length = a.length)) (.ret (.inl (a, (b, (IntKind.i64.wrap ((i : Int) + 1), ()))))))) rfl (fun _ => (br_f (nd h9')).trans (plain2 rfl))
      refine ⟨_, ?_, by omega, fin a' r2 r3⟩
      refine (br_t (decide_eq_true (by omega))).trans ?_
      refine (br_f (decide_eq_false (by omega))).trans ?_
      refine (q_of (inB_t' (by omega) (by omega))).trans ?_
      rw [gi_nat hlt]
      refine (br_f (decide_eq_false (fun e => h32 ((u8_eq (c := 32) rfl).1 e)))).trans ?_
      refine (q_of (inB_t' (by omega) (by omega))).trans ?_
      exact (br_t (decide_eq_true h9')).trans r1
  · have h32 : ¬ ((u[i].toNat : Int) = 32) := fun e => hg (.inl ((u8_eq (c := 32) rfl).1 e))
    have h9 : ¬ ((u[i].toNat : Int) = 9) := fun e => hg (.inr ((u8_eq (c := 9) rfl).1 e))
    have hw' : a ++ wordsA (i + 1) (cur ++ [u[i]]) (u.drop (i + 1)) = wordsA 0 [] u := by rw [← hw, hd, wordsA_let hne hg]
    rcases hb with ⟨rfl, rfl⟩ | ⟨bn, rfl, hbn, rfl⟩
    · refine ⟨(a, ((i : Int), (((i + 1 : Nat) : Int), ()))), ?_, by omega, ⟨a, i, rfl, fun _ => ⟨by omega, [u[i]], hw', .inr ⟨i, rfl, by omega, ?_⟩⟩, fun h => absurd h (by omega)⟩⟩
      · rw [← w1 i (by omega)]
        refine (br_t (decide_eq_true (by omega))).trans ?_
        refine (br_f (decide_eq_false (by omega))).trans ?_
        refine (q_of (inB_t' (by omega) (by omega))).trans ?_
        rw [gi_nat hlt]
        refine (br_f (decide_eq_false h32)).trans ?_
        refine (q_of (inB_t' (by omega) (by omega))).trans ?_
        refine (br_f (decide_eq_false h9)).trans ?_
        refine (br_t (nd' h9)).trans ?_
        refine (br_t (decide_eq_true (by omega))).trans ?_
        exact (q_of (decide_eq_true rfl)).trans (r_ret _)
      · rw [List.take_add_one, List.getElem?_eq_getElem hlt, List.drop_append_of_le_length (by rw [List.length_take]; omega), List.drop_of_length_le (by rw [List.length_take]; omega)]
        rfl
    · refine ⟨(a, ((bn : Int), (((i + 1 : Nat) : Int), ()))), ?_, by omega, ⟨a, bn, rfl, fun _ => ⟨by omega, _, hw', .inr ⟨bn, rfl, by omega, ?_⟩⟩, fun h => absurd h (by omega)⟩⟩
      · rw [← w1 i (by omega)]
        refine (br_t (decide_eq_true (by omega))).trans ?_
        refine (br_f (decide_eq_false (by omega))).trans ?_
        refine (q_of (inB_t' (by omega) (by omega))).trans ?_
        rw [gi_nat hlt]
        refine (br_f (decide_eq_false h32)).trans ?_
        refine (q_of (inB_t' (by omega) (by omega))).trans ?_
        refine (br_f (decide_eq_false h9)).trans ?_
        refine (br_t (nd' h9)).trans ?_
        refine (br_f (decide_eq_false (by omega))).trans ?_
        exact plain2 rfl
      · rw [List.take_add_one, List.getElem?_eq_getElem hlt, List.drop_append_of_le_length (by rw [List.length_take]; omega)]
        rfl

/-! ### Numbers -/

/-- The digits of a number; none of zero. -/
def digs0 (m : Nat) : List UInt8 := if m = 0 then [] else Lib.decDigits m
theorem digs0_step {m : Nat} (h : 0 < m) : digs0 m = digs0 (m / 10) ++ [UInt8.ofNat (48 + m % 10)] := by
  unfold digs0
  rw [if_neg (by omega)]
  by_cases hs : m < 10
  · rw [if_pos (by omega), Lib.decDigits_one hs, Nat.mod_eq_of_lt hs]; rfl
  · rw [if_neg (by omega), Lib.decDigits, dif_neg hs]
theorem nDigits_le (u : Nat) : Lib.nDigits u ≤ u + 1 := by
  induction u using Nat.strongRecOn with
  | _ u ih =>
    by_cases h : u < 10
    · rw [Lib.nDigits_small h]; omega
    · rw [Lib.nDigits_big h]
      have := ih (u / 10) (by omega)
      omega
theorem k_Decimal {n : Int} (h1 : -1000000000000000000 ≤ n) (h2 : n ≤ 1000000000000000000) : base_Decimal n = some ((Lib.itoa n, ()), ()) := by
  show (T_base_Decimal n).run = _
  unfold T_base_Decimal
  by_cases h0 : n = 0
  · subst h0
    refine (br_t (decide_eq_true rfl)).trans ((r_ret _).trans ?_)
    unfold Lib.itoa
    rw [if_neg (by omega), Lib.decDigits_one (by decide)]
    rfl
  refine (br_f (decide_eq_false h0)).trans ?_
  rw [r_iter]
  refine iter_eq (fun i (st : List UInt8 × Int × Unit) => ∃ (a : List UInt8) (m : Nat), st = (a, ((if n < 0 then -(m : Int) else m), ())) ∧ m + i ≤ n.natAbs ∧ digs0 m ++ a = Lib.decDigits n.natAbs) _ n.natAbs (by omega) ?_
    ⟨[], n.natAbs, by rw [show (if n < 0 then -(n.natAbs : Int) else (n.natAbs : Int)) = n by split <;> omega], by omega, by rw [List.append_nil]; unfold digs0; rw [if_neg (by omega)]⟩
  rintro i st hi ⟨a, m, rfl, hm, hda⟩
  show (∃ x', (T_base_Decimal_l0 n a (if n < 0 then -(m : Int) else m)).run = _ ∧ _) ∨ (T_base_Decimal_l0 n a (if n < 0 then -(m : Int) else m)).run = _
  unfold T_base_Decimal_l0
  have hlen : a.length ≤ 1000000000000000001 := by
    have : a.length ≤ (Lib.decDigits n.natAbs).length := by rw [← hda]; simp
    rw [Lib.decDigits_length] at this
    have := nDigits_le n.natAbs
    omega
  by_cases hm0 : m = 0
  · right
    subst hm0
    have : a = Lib.decDigits n.natAbs := hda
    subst this
    refine (br_f (nd (by split <;> rfl))).trans ?_
    by_cases hn : n < 0
    · refine (br_t (decide_eq_true hn)).trans ?_
      refine (q_of (str_t' (by omega))).trans ((r_ret _).trans ?_)
      unfold Lib.itoa
      rw [if_pos hn]; rfl
    · refine (br_f (decide_eq_false hn)).trans ((r_ret _).trans ?_)
      unfold Lib.itoa
      rw [if_neg hn]
      have e : n.toNat = n.natAbs := by omega
      rw [e]
  · left
    generalize hb : (if n < 0 then -(m : Int) else m) = b
    have hbm : b.natAbs = m := by rw [← hb]; split <;> omega
    have hmod : b.tmod 10 = if n < 0 then -((m % 10 : Nat) : Int) else ((m % 10 : Nat) : Int) := by
      rw [← hb]
      split
      · rw [Int.neg_tmod]; rfl
      · rfl
    have hdiv : b.tdiv 10 = if n < 0 then -((m / 10 : Nat) : Int) else ((m / 10 : Nat) : Int) := by
      rw [← hb]
      split
      · rw [Int.neg_tdiv]; rfl
      · rfl
    have habs : max (b.tmod 10) (-(b.tmod 10)) = ((m % 10 : Nat) : Int) := by
      rw [hmod]; split <;> omega
    have hmlt : m % 10 < 10 := Nat.mod_lt _ (by decide)
    refine ⟨([UInt8.ofNat (48 + m % 10)] ++ a, ((if n < 0 then -((m / 10 : Nat) : Int) else ((m / 10 : Nat) : Int)), ())), ?_, by omega, ⟨_, m / 10, rfl, by omega, ?_⟩⟩
    · refine (br_t (nd' (by rw [← hb]; split <;> omega))).trans ?_
      refine (q_of (nz_t (by decide))).trans ?_
      refine (r_bs (k_Abs (by rw [hmod]; split <;> omega) (by rw [hmod]; split <;> omega))).trans ?_
      rw [habs]
      have e1 : IntKind.u8.wrap (IntKind.i64.wrap (48 + ((m % 10 : Nat) : Int))) = ((48 + m % 10 : Nat) : Int) := by
        rw [w64' (by omega) (by omega)]
        unfold IntKind.wrap
        simp only [IntKind.signed, IntKind.bits]
        simp
        omega
      show (Tr.req (okStr (([IntKind.u8.wrap (IntKind.i64.wrap (48 + ((m % 10 : Nat) : Int)))].map fun n : Int => UInt8.ofNat n.toNat).length + a.length)) _).run = _
      rw [e1]
      refine (q_of (str_t' (by simp; omega))).trans ?_
      refine (q_of (nz_t (by decide))).trans ?_
      refine (r_ret _).trans ?_
      rw [hdiv, w64' (by split <;> omega) (by split <;> omega)]
      rfl
    · rw [← hda, digs0_step (m := m) (by omega), List.append_assoc]
end Go.Ab
