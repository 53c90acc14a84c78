/- The pairs of a mirror; surfaces; names. -/
import Derived.Test.YtpghhfnlfmlakaaGreatDoorN5
import Derived.Test.YtpghhfnlfmlakaaGreatDoorH9
namespace Go.Ab
open Go
set_option maxRecDepth 1000000
set_option maxHeartbeats 2000000
set_option linter.unusedVariables false
set_option linter.unusedSimpArgs false

abbrev Srf := List UInt8 × ((Int × (Int × Int)) × (Int × Int))
/-- What a key's value makes of a surface. -/
def putS (n : Nat) (v : List UInt8) (s : Srf) : Option Srf :=
  if n = 0 then (lenS v).map fun x => (s.1, ((x, s.2.1.2), s.2.2))
  else if n = 1 then (conS v).map fun k => (s.1, ((s.2.1.1, k), s.2.2))
  else if n = 2 then (lenS v).map fun x => (s.1, (s.2.1, (x, s.2.2.2)))
  else (lenS v).map fun x => (s.1, (s.2.1, (s.2.2.1, x)))
abbrev Had := Bool × Bool × Bool × Bool
def hadG (h : Had) (n : Nat) : Bool := if n = 0 then h.1 else if n = 1 then h.2.1 else if n = 2 then h.2.2.1 else h.2.2.2
def hadP (h : Had) (n : Nat) : Had := if n = 0 then (true, h.2) else if n = 1 then (h.1, true, h.2.2) else if n = 2 then (h.1, h.2.1, true, h.2.2.2) else (h.1, h.2.1, h.2.2.1, true)
/-- The pairs of a mirror: the column and the error, or the surface. e: the column at the line's end. -/
def pairsS (e : Int) : Had → Srf → List Wd → (Int × Int) ⊕ Srf
  | h, s, [] => if h.1 && h.2.2.1 then .inr s else .inl (e, 6)
  | h, s, [k] => match keyS k.1 with
    | none => .inl (k.2, 7)
    | some n => if hadG h n then .inl (k.2, 5) else .inl (e, 6)
  | h, s, k :: v :: r => match keyS k.1 with
    | none => .inl (k.2, 7)
    | some n => if hadG h n then .inl (k.2, 5) else match putS n v.1 s with
      | none => .inl (v.2, 7)
      | some s' => pairsS e (hadP h n) s' r
theorem keyS_at {s : List UInt8} {n : Nat} (h : keyS s = some n) : (n = 0 ∧ s = bRadius) ∨ (n = 1 ∧ s = bConic) ∨ (n = 2 ∧ s = bDiameter) ∨ (n = 3 ∧ s = bApart) := by
  unfold keyS at h
  split at h
  · injection h with h; exact .inl ⟨h.symm, by assumption⟩
  · split at h
    · injection h with h; exact .inr (.inl ⟨h.symm, by assumption⟩)
    · split at h
      · injection h with h; exact .inr (.inr (.inl ⟨h.symm, by assumption⟩))
      · split at h
        · injection h with h; exact .inr (.inr (.inr ⟨h.symm, by assumption⟩))
        · cases h
/-- What is known of the numbers of a surface's conic. -/
def SB (s : Srf) : Prop := (-100000000 < s.2.1.2.1 ∧ s.2.1.2.1 < 100000000) ∧ (-100000000 < s.2.1.2.2 ∧ s.2.1.2.2 < 100000000)
theorem putS_SB {n : Nat} {v : List UInt8} {s s' : Srf} (h : SB s) (hs : putS n v s = some s') : SB s' := by
  have key : ∀ {f : Int → Srf}, (∀ x, SB (f x)) → (lenS v).map f = some s' → SB s' := fun {f} hf he => by
    cases hl : lenS v with
    | none => rw [hl] at he; cases he
    | some x => rw [hl] at he; injection he with he; subst he; exact hf x
  unfold putS at hs
  split at hs
  · refine key ?_ hs; intro x; exact h
  · split at hs
    · cases hl : conS v with
      | none => rw [hl] at hs; cases hs
      | some x => rw [hl] at hs; injection hs with hs; subst hs; exact conS_bd hl
    · split at hs
      · refine key ?_ hs; intro x; exact h
      · refine key ?_ hs; intro x; exact h
theorem pairsS_SB (e : Int) : ∀ (ws : List Wd) (h : Had) (s s' : Srf), SB s → pairsS e h s ws = .inr s' → SB s'
  | [], h, s, s', hs, hp => by
    unfold pairsS at hp
    split at hp
    · injection hp with hp; subst hp; exact hs
    · cases hp
  | [k], h, s, s', hs, hp => by
    unfold pairsS at hp
    split at hp
    · cases hp
    · split at hp <;> cases hp
  | k :: v :: r, h, s, s', hs, hp => by
    unfold pairsS at hp
    split at hp
    · cases hp
    · split at hp
      · cases hp
      · split at hp
        · cases hp
        · rename_i hq; exact pairsS_SB e r _ _ _ (putS_SB hs hq) hp

/-! ### Surfaces -/

def srfE (s : Srf) : Int := if coE s.2.1 ≠ 0 then coE s.2.1 else if ¬ (1 ≤ s.2.2.1 ∧ s.2.2.1 ≤ 2000000) then 2 else if ¬ (0 ≤ s.2.2.2 ∧ s.2.2.2 ≤ 10000000) then 2 else if bey s.2.1.1 s.2.1.2 ((s.2.2.1 + 1).tdiv 2) then 12 else 0
theorem half_bd {D : Int} (h1 : 1 ≤ D) (h2 : D ≤ 2000000) : 0 ≤ (D + 1).tdiv 2 ∧ (D + 1).tdiv 2 ≤ 1000000 := by
  rw [Int.tdiv_eq_ediv_of_nonneg (by omega)]
  omega
theorem half_w {D : Int} (h1 : 1 ≤ D) (h2 : D ≤ 2000000) : IntKind.i64.wrap ((IntKind.i64.wrap (D + 1)).tdiv 2) = (D + 1).tdiv 2 := by
  have := half_bd h1 h2
  rw [w64' (x := D + 1) (by omega) (by omega), w64' (by omega) (by omega)]
theorem k_rsurface {s : Srf} (h1 : I64 s.2.1.2.1) (h2 : I64 s.2.1.2.2) : ref02xsurface s = some ((srfE s, ()), ()) := by
  show (T_ref02xsurface s).run = _
  unfold T_ref02xsurface srfE
  refine (r_bs (k_rCheckConic (c := s.2.1) h1 h2)).trans ?_
  by_cases hc : coE s.2.1 = 0
  case neg =>
    rw [if_pos hc]
    refine (br_t (nd' hc)).trans ?_
    exact r_ret _
  rw [if_neg (fun h => h hc)]
  refine (br_f (nd hc)).trans ?_
  refine (r_bs (k_Within _ _ _)).trans ?_
  by_cases hd : 1 ≤ s.2.2.1 ∧ s.2.2.1 ≤ 2000000
  case neg =>
    rw [if_pos hd]
    refine (br_t (nd' hd)).trans ?_
    exact r_ret _
  rw [if_neg (fun h => h hd)]
  refine (br_f (nd hd)).trans ?_
  refine (r_bs (k_Within _ _ _)).trans ?_
  by_cases ha : 0 ≤ s.2.2.2 ∧ s.2.2.2 ≤ 10000000
  case neg =>
    rw [if_pos ha]
    refine (br_t (nd' ha)).trans ?_
    exact r_ret _
  rw [if_neg (fun h => h ha)]
  refine (br_f (nd ha)).trans ?_
  refine (q_of (nz_t (by decide))).trans ?_
  rw [half_w hd.1 hd.2]
  have hb := half_bd hd.1 hd.2
  refine (r_bs (k_Beyond (coE_ok hc) hb.1 hb.2)).trans ?_
  by_cases hq : bey s.2.1.1 s.2.1.2 ((s.2.2.1 + 1).tdiv 2)
  · rw [if_pos hq]
    refine (br_t (decide_eq_true hq)).trans ?_
    exact r_ret _
  · rw [if_neg hq]
    refine (br_f (decide_eq_false hq)).trans ?_
    exact r_ret _
theorem k_shapeOf {c : Con} (h : ConOk c) : optics_shapeOf c = some (((ab c.1, c.2.1 + c.2.2, c.2.2, decide (c.1 < 0)), ()), ()) := by
  have h1 := h.lo; have h2 := h.hi; have h3 := h.n1; have h4 := h.n2; have h5 := h.q0; have h6 := h.q1
  simp only [optics_shapeOf, T_optics_shapeOf, ab]
  refine (r_ret _).trans ?_
  rw [w64' (x := 0 - c.1) (by omega) (by omega), w64' (x := c.2.1 + c.2.2) (by omega) (by omega)]
  simp
theorem k_checkSurface {s : Srf} (h1 : I64 s.2.1.2.1) (h2 : I64 s.2.1.2.2) : optics_checkSurface s = some ((srfE s, ()), ()) := by
  show (T_optics_checkSurface s).run = _
  unfold T_optics_checkSurface srfE
  refine (r_bs (k_CheckConic (c := s.2.1) h1 h2)).trans ?_
  by_cases hc : coE s.2.1 = 0
  case neg =>
    rw [if_pos hc]
    refine (br_t (nd' hc)).trans ?_
    exact r_ret _
  rw [if_neg (fun h => h hc)]
  refine (br_f (nd hc)).trans ?_
  refine (r_bs (k_within _ _ _)).trans ?_
  by_cases hd : 1 ≤ s.2.2.1 ∧ s.2.2.1 ≤ 2000000
  case neg =>
    rw [if_pos hd]
    refine (br_t (nd' hd)).trans ?_
    exact r_ret _
  rw [if_neg (fun h => h hd)]
  refine (br_f (nd hd)).trans ?_
  refine (r_bs (k_within _ _ _)).trans ?_
  by_cases ha : 0 ≤ s.2.2.2 ∧ s.2.2.2 ≤ 10000000
  case neg =>
    rw [if_pos ha]
    refine (br_t (nd' ha)).trans ?_
    exact r_ret _
  rw [if_neg (fun h => h ha)]
  refine (br_f (nd ha)).trans ?_
  have hk := coE_ok hc
  refine (r_bs (k_shapeOf hk)).trans ?_
  refine (q_of (nz_t (by decide))).trans ?_
  rw [half_w hd.1 hd.2]
  have hb := half_bd hd.1 hd.2
  have h3 := hk.lo; have h4 := hk.hi
  refine (r_bs (k_beyond (R := ab s.2.1.1) (k := s.2.1.2) rfl rfl (by unfold ab; omega) (by unfold ab; omega) hk.n1 hk.n2 hk.q0 hk.q1 hb.1 hb.2)).trans ?_
  by_cases hq : bey s.2.1.1 s.2.1.2 ((s.2.2.1 + 1).tdiv 2)
  · rw [if_pos hq]
    refine (br_t (decide_eq_true ((bey_ab _ _ _).2 hq))).trans ?_
    exact r_ret _
  · rw [if_neg hq]
    refine (br_f (decide_eq_false (fun h => hq ((bey_ab _ _ _).1 h)))).trans ?_
    exact r_ret _

/-! ### Names that are there already -/

def namedB (l : List Srf) (n : List UInt8) : Bool := l.any fun s => decide (s.1 = n)
theorem named_gen {b : Int × Unit → Option ((Int × Unit) ⊕ ((Bool × Unit) × Unit))} {l : List Srf} {n : List UInt8} (hl : l.length ≤ 1048576)
    (h1 : ∀ i (h : i < l.length), l[i].1 = n → b ((i : Int), ()) = some (.inr ((true, ()), ()))) (h2 : ∀ i (h : i < l.length), ¬ l[i].1 = n → b ((i : Int), ()) = some (.inl (((i + 1 : Nat) : Int), ())))
    (h3 : b ((l.length : Int), ()) = some (.inr ((false, ()), ()))) : iterF b FUEL (0, ()) = some ((namedB l n, ()), ()) := by
  refine iter_eq (fun i st => st = ((i : Int), ()) ∧ namedB (l.take i) n = false) _ l.length (by omega) ?_ ⟨rfl, rfl⟩
  rintro i st hi ⟨rfl, hn⟩
  by_cases h : i < l.length
  · by_cases he : l[i].1 = n
    · right
      rw [h1 i h he]
      have : namedB l n = true := List.any_eq_true.2 ⟨l[i], List.getElem_mem h, decide_eq_true he⟩
      rw [this]
    · left
      refine ⟨_, h2 i h he, h, rfl, ?_⟩
      unfold namedB at hn ⊢
      rw [List.take_add_one, List.getElem?_eq_getElem h, List.any_append, hn]
      simp [he]
  · right
    have : i = l.length := by omega
    subst this
    rw [List.take_length] at hn
    rw [h3, hn]
theorem k_rnamed {l : List Srf} {n : List UInt8} (hl : l.length ≤ 1048576) : ref02xnamed l n = some ((namedB l n, ()), ()) := by
  show (T_ref02xnamed l n).run = _
  unfold T_ref02xnamed
  rw [r_iter]
  refine named_gen hl (fun i h he => ?_) (fun i h he => ?_) ?_
  · show (T_ref02xnamed_l0 l n i).run = _
    unfold T_ref02xnamed_l0
    rw [gi_nat h]
    refine (br_t (decide_eq_true (by omega))).trans ?_
    refine (q_of (inB_t' (by omega) (by omega))).trans ?_
    refine (br_t (decide_eq_true he)).trans ?_
    exact r_ret _
  · show (T_ref02xnamed_l0 l n i).run = _
    unfold T_ref02xnamed_l0
    rw [gi_nat h, w1 i (by omega)]
    refine (br_t (decide_eq_true (by omega))).trans ?_
    refine (q_of (inB_t' (by omega) (by omega))).trans ?_
    refine (br_f (decide_eq_false he)).trans ?_
    exact r_ret _
  · show (T_ref02xnamed_l0 l n l.length).run = _
    unfold T_ref02xnamed_l0
    refine (br_f (decide_eq_false (by omega))).trans ?_
    exact r_ret _
theorem k_named {l : List Srf} {n : List UInt8} (hl : l.length ≤ 1048576) : optics_named l n = some ((namedB l n, ()), ()) := by
  show (T_optics_named l n).run = _
  unfold T_optics_named
  rw [r_iter]
  refine named_gen hl (fun i h he => ?_) (fun i h he => ?_) ?_
  · show (T_optics_named_l0 l n i).run = _
    unfold T_optics_named_l0
    rw [gi_nat h]
    refine (br_t (decide_eq_true (by omega))).trans ?_
    refine (q_of (inB_t' (by omega) (by omega))).trans ?_
    refine (br_t (decide_eq_true he)).trans ?_
    exact r_ret _
  · show (T_optics_named_l0 l n i).run = _
    unfold T_optics_named_l0
    rw [gi_nat h, w1 i (by omega)]
    refine (br_t (decide_eq_true (by omega))).trans ?_
    refine (q_of (inB_t' (by omega) (by omega))).trans ?_
    refine (br_f (decide_eq_false he)).trans ?_
    exact r_ret _
  · show (T_optics_named_l0 l n l.length).run = _
    unfold T_optics_named_l0
    refine (br_f (decide_eq_false (by omega))).trans ?_
    exact r_ret _
/-- The error of a name behind others. -/
def cnE (l : List Srf) (n : List UInt8) : Int := if nameB n = true then (if namedB l n = true then 5 else 0) else 4
theorem k_checkName {l : List Srf} {n : List UInt8} (hl : l.length ≤ 1048576) (hn : n.length ≤ 1048576) : optics_checkName l n = some ((cnE l n, ()), ()) := by
  show (T_optics_checkName l n).run = _
  unfold T_optics_checkName cnE
  refine (r_bs (k_isName hn)).trans ?_
  cases h1 : nameB n with
  | false =>
    refine (br_t rfl).trans ?_
    exact r_ret _
  | true =>
    refine (br_f rfl).trans ?_
    refine (r_bs (k_named hl)).trans ?_
    cases h2 : namedB l n with
    | false =>
      refine (br_f rfl).trans ?_
      exact r_ret _
    | true =>
      refine (br_t rfl).trans ?_
      exact r_ret _
end Go.Ab
