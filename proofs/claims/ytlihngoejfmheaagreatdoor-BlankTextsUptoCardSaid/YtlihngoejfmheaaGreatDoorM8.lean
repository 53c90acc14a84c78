/- What is written is read again; BlankTexts answers true. -/
import Derived.Test.YtlihngoejfmheaaGreatDoorM7
import Derived.Test.YtlihngoejfmheaaGreatDoorQLBlankTexts
namespace Go.Ab
open Go
set_option maxRecDepth 1000000
set_option maxHeartbeats 4000000
set_option linter.unusedVariables false
set_option linter.unusedSimpArgs false

def CleanT (t : List UInt8) : Prop := ∀ c ∈ t, c ≠ 32 ∧ c ≠ 10
theorem itoa_bytes (n : Int) : ∀ c ∈ Lib.itoa n, isDg c ∨ c = 45 := by
  intro c hc
  unfold Lib.itoa at hc
  split at hc
  · rcases List.mem_cons.1 hc with h | h
    · exact .inr h
    · exact .inl (dec_dg _ c h)
  · exact .inl (dec_dg _ c hc)
theorem itoa_clean (n : Int) : CleanT (Lib.itoa n) := fun c hc => by
  rcases itoa_bytes n c hc with h | rfl
  · unfold isDg at h
    refine ⟨?_, ?_⟩ <;> (intro e; rw [e] at h; exact absurd h (by decide))
  · decide
theorem cutL_app (c : UInt8) : ∀ (t r : List UInt8), c ∉ t → cutL c (t ++ c :: r) = t :: cutL c r
  | [], r, _ => by rw [List.nil_append, cutL_hit]
  | b :: t, r, h => by
    have hb : b ≠ c := fun e => h (by simp [e])
    rw [List.cons_append]
    exact cutL_ne hb (cutL_app c t r (fun hm => h (by simp [hm])))
theorem cutL_one (c : UInt8) {t : List UInt8} (h : c ∉ t) : cutL c t = [t] := cutL_none (fun k hk => h (List.mem_of_getElem? hk))
theorem cut_join : ∀ (l : List (List UInt8)) (x : List UInt8), CleanT x → (∀ t ∈ l, CleanT t) → cutL 32 (lnT (x :: l)) = x :: l
  | [], x, hx, _ => by
    unfold lnT
    rw [join_flat]
    simp only [List.map_nil, List.flatten_nil, List.append_nil]
    exact cutL_one 32 (fun h => (hx 32 h).1 rfl)
  | y :: r, x, hx, h => by
    have ih := cut_join r y (h y (by simp)) (fun t ht => h t (by simp [ht]))
    unfold lnT at ih ⊢
    rw [join_flat] at ih ⊢
    show cutL 32 (x ++ 32 :: (y ++ (r.map ([32] ++ ·)).flatten)) = _
    rw [cutL_app 32 x _ (fun h => (hx 32 h).1 rfl), ih]
theorem join_no10 {l : List (List UInt8)} {x : List UInt8} (hx : CleanT x) (h : ∀ t ∈ l, CleanT t) : (10 : UInt8) ∉ lnT (x :: l) := by
  intro hm
  unfold lnT at hm
  rw [join_flat] at hm
  rcases List.mem_append.1 hm with hm | hm
  · exact (hx 10 hm).2 rfl
  · obtain ⟨t, ht, hc⟩ := List.mem_flatten.1 hm
    obtain ⟨u, hu, rfl⟩ := List.mem_map.1 ht
    rcases List.mem_append.1 hc with hc | hc
    · simp at hc
    · exact ((h u hu) 10 hc).2 rfl
def ToksC (l : List (List UInt8)) : Prop := l ≠ [] ∧ ∀ t ∈ l, CleanT t
theorem ToksC.cut {l : List (List UInt8)} (h : ToksC l) : cutL 32 (lnT l) = l := by
  cases l with
  | nil => exact absurd rfl h.1
  | cons x r => exact cut_join r x (h.2 x (by simp)) (fun t ht => h.2 t (by simp [ht]))
theorem ToksC.no10 {l : List (List UInt8)} (h : ToksC l) : (10 : UInt8) ∉ lnT l := by
  cases l with
  | nil => exact absurd rfl h.1
  | cons x r => exact join_no10 (h.2 x (by simp)) (fun t ht => h.2 t (by simp [ht]))
theorem tokG_c (g : Gla) : ToksC (tokG g) := ⟨by simp [tokG], fun t ht => by
  simp only [tokG, List.mem_cons, List.not_mem_nil, or_false] at ht
  rcases ht with rfl | rfl | rfl
  · show ∀ c ∈ wGlass, _; decide
  all_goals exact itoa_clean _⟩
theorem tokP_c (p : Prt) : ToksC (tokP p) := ⟨by simp [tokP], fun t ht => by
  simp only [tokP, List.mem_cons, List.not_mem_nil, or_false] at ht
  rcases ht with rfl | rfl | rfl | rfl | rfl | rfl
  · cases p.2.2.2.2.2
    · show ∀ c ∈ wRing, _; decide
    · show ∀ c ∈ wCut, _; decide
  all_goals exact itoa_clean _⟩
theorem tokC_c (p : Cap) : ToksC (tokC p) := ⟨by simp [tokC], fun t ht => by
  simp only [tokC, List.mem_cons, List.not_mem_nil, or_false] at ht
  rcases ht with rfl | rfl | rfl | rfl | rfl
  · cases p.2.2.2.2
    · show ∀ c ∈ wCap, _; decide
    · show ∀ c ∈ wDish, _; decide
  · exact itoa_clean _
  · exact itoa_clean _
  · exact itoa_clean _
  · cases p.2.2.2.1
    · show ∀ c ∈ wDown, _; decide
    · show ∀ c ∈ wUp, _; decide⟩
theorem cut_lines : ∀ (l : List (List (List UInt8))), (∀ x ∈ l, ToksC x) → cutL 10 (flS l) = l.map lnT ++ [[]]
  | [], _ => rfl
  | x :: r, h => by
    have ih := cut_lines r (fun t ht => h t (by simp [ht]))
    unfold flS at *
    simp only [List.map_cons, List.flatten_cons, List.append_assoc]
    show cutL 10 (lnT x ++ 10 :: (r.map fun x => lnT x ++ [10]).flatten) = _
    rw [cutL_app 10 _ _ (h x (by simp)).no10, ih]
    rfl
theorem prL_c (g : Gla) : ∀ x ∈ prL g, ToksC x := by
  intro x hx
  unfold prL at hx
  rcases List.mem_cons.1 hx with rfl | hx
  · exact tokG_c g
  rcases List.mem_append.1 hx with hx | hx
  · obtain ⟨p, _, rfl⟩ := List.mem_map.1 hx; exact tokP_c p
  · obtain ⟨p, _, rfl⟩ := List.mem_map.1 hx; exact tokC_c p

theorem numSm {n : Int} (h : Sm n) : numS (Lib.itoa n) = some n := numS_of h.1 h.2
theorem numsS_cons {w : List UInt8} {r : List (List UInt8)} {n : Int} {ns : List Int} (h : numS w = some n) (hr : numsS r = some ns) : numsS (w :: r) = some (n :: ns) := by
  simp only [numsS, h, hr]
theorem numsS_nil : numsS [] = some [] := rfl
theorem back_G {g : Gla} (S : SmG g) : lineS true zG (lnT (tokG g)) = some (g.1, g.2.1, [], []) := by
  unfold lineS
  rw [(tokG_c g).cut]
  show lineW true zG wGlass [Lib.itoa g.1, Lib.itoa g.2.1] = _
  unfold lineW
  rw [if_pos rfl, if_pos rfl]
  unfold lnGlass
  rw [numsS_cons (numSm S.d) (numsS_cons (numSm S.t) numsS_nil)]
  rfl
theorem back_P {d t : Int} {ps : List Prt} {p : Prt} (h : SmP p) : lineS false (d, t, ps, []) (lnT (tokP p)) = some (d, t, ps ++ [p], []) := by
  unfold lineS
  rw [(tokP_c p).cut]
  show lineW false _ (wordP p.2.2.2.2.2) [Lib.itoa p.1, Lib.itoa p.2.1, Lib.itoa p.2.2.1, Lib.itoa p.2.2.2.1, Lib.itoa p.2.2.2.2.1] = _
  have hn := numsS_cons (numSm h.a) (numsS_cons (numSm h.b) (numsS_cons (numSm h.c) (numsS_cons (numSm h.d) (numsS_cons (numSm h.e) numsS_nil))))
  have e : ∀ b : Bool, lineW false (d, t, ps, []) (wordP b) [Lib.itoa p.1, Lib.itoa p.2.1, Lib.itoa p.2.2.1, Lib.itoa p.2.2.2.1, Lib.itoa p.2.2.2.2.1] = lnPart (d, t, ps, []) b [Lib.itoa p.1, Lib.itoa p.2.1, Lib.itoa p.2.2.1, Lib.itoa p.2.2.2.1, Lib.itoa p.2.2.2.2.1] := by
    intro b; cases b <;> rfl
  rw [e]
  unfold lnPart
  rw [hn]
  rfl
theorem back_C {d t : Int} {ps : List Prt} {cs : List Cap} {p : Cap} (h : SmC p) : lineS false (d, t, ps, cs) (lnT (tokC p)) = some (d, t, ps, cs ++ [p]) := by
  unfold lineS
  rw [(tokC_c p).cut]
  obtain ⟨a, b, c, up, cut⟩ := p
  show lineW false _ (wordC cut) [Lib.itoa a, Lib.itoa b, Lib.itoa c, wordW up] = _
  have hn := numsS_cons (numSm h.a) (numsS_cons (numSm h.b) (numsS_cons (numSm h.c) numsS_nil))
  have e : lineW false (d, t, ps, cs) (wordC cut) [Lib.itoa a, Lib.itoa b, Lib.itoa c, wordW up] = lnCap (d, t, ps, cs) cut [Lib.itoa a, Lib.itoa b, Lib.itoa c, wordW up] := by
    cases cut <;> rfl
  rw [e]
  unfold lnCap
  dsimp only
  have hu : (wordW up = wUp ∨ wordW up = wDown) := by cases up; exact .inr rfl; exact .inl rfl
  have hd : decide (wordW up = wUp) = up := by cases up <;> rfl
  rw [if_pos hu, hd]
  rw [show numsS [Lib.itoa a, Lib.itoa b, Lib.itoa c] = some [a, b, c] from hn]
theorem dec_s {i : Nat} (h : i ≠ 0) : decide (i = 0) = false := decide_eq_false h
theorem back_parts {d t : Int} {T : List (List UInt8)} (hT : T ≠ []) : ∀ (r ps : List Prt) (i : Nat), i ≠ 0 → (∀ p ∈ r, SmP p) → parL i (d, t, ps, []) ((r.map tokP).map lnT ++ T) = parL (i + r.length) (d, t, ps ++ r, []) T
  | [], ps, i, _, _ => by simp
  | p :: r, ps, i, hi, h => by
    simp only [List.map_cons, List.cons_append]
    rw [parL_go (by simp [hT]), dec_s hi, back_P (h p (by simp))]
    show parL (i + 1) (d, t, ps ++ [p], []) _ = _
    rw [back_parts hT r (ps ++ [p]) (i + 1) (by omega) (fun q hq => h q (by simp [hq]))]
    simp only [List.length_cons, List.append_assoc, List.singleton_append]
    rw [show i + 1 + r.length = i + (r.length + 1) by omega]
theorem back_caps {d t : Int} {ps : List Prt} {T : List (List UInt8)} (hT : T ≠ []) : ∀ (r cs : List Cap) (i : Nat), i ≠ 0 → (∀ p ∈ r, SmC p) → parL i (d, t, ps, cs) ((r.map tokC).map lnT ++ T) = parL (i + r.length) (d, t, ps, cs ++ r) T
  | [], cs, i, _, _ => by simp
  | p :: r, cs, i, hi, h => by
    simp only [List.map_cons, List.cons_append]
    rw [parL_go (by simp [hT]), dec_s hi, back_C (h p (by simp))]
    show parL (i + 1) (d, t, ps, cs ++ [p]) _ = _
    rw [back_caps hT r (cs ++ [p]) (i + 1) (by omega) (fun q hq => h q (by simp [hq]))]
    simp only [List.length_cons, List.append_assoc, List.singleton_append]
    rw [show i + 1 + r.length = i + (r.length + 1) by omega]
theorem parS_back {g : Gla} (h : glE g = 0) : parS (prS g) = (g, 0, 0, ()) := by
  have S := smG h
  have hl := prS_len S
  unfold parS
  rw [if_neg (by omega)]
  unfold prS
  rw [cut_lines _ (prL_c g)]
  unfold prL
  simp only [List.map_cons, List.cons_append, List.map_append, List.append_assoc]
  rw [parL_go (by simp)]
  show (match lineS true zG (lnT (tokG g)) with | none => _ | some g' => parL 1 g' _) = _
  rw [back_G S]
  show parL 1 (g.1, g.2.1, [], []) _ = _
  rw [back_parts (by simp) g.2.2.1 [] 1 (by omega) S.pt, List.nil_append, back_caps (by simp) g.2.2.2 [] _ (by omega) S.cp, List.nil_append]
  show parL _ g [[]] = _
  rw [parL_end, if_pos ⟨rfl, by omega⟩]
  unfold endS
  rw [if_pos h]

theorem parL_ok : ∀ (L : List (List UInt8)) (i : Nat) (g : Gla), (parL i g L).1 = zG ∨ glE (parL i g L).1 = 0
  | [], i, g => .inl rfl
  | [x], i, g => by
    rw [parL_end]
    split
    · unfold endS
      split
      · rename_i h; exact .inr h
      · exact .inl rfl
    · exact .inl rfl
  | x :: y :: r, i, g => by
    rw [parL_go (by simp)]
    split
    · exact .inl rfl
    · exact parL_ok (y :: r) (i + 1) _
theorem parS_len (s : List UInt8) : (parS s).1.2.2.1.length ≤ 1048576 ∧ (parS s).1.2.2.2.length ≤ 1048576 := by
  have key : (parS s).1 = zG ∨ glE (parS s).1 = 0 := by
    unfold parS
    split
    · exact .inl rfl
    · exact parL_ok _ _ _
  rcases key with h | h
  · rw [h]; simp [zG]
  · have S := smG h
    have := S.np
    have := S.nc
    constructor <;> omega
