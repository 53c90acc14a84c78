/- Earliest of the reference: the least times that keep all bounds, or none. -/
import Derived.Test.YtnkpnobdhoemoaaD4
namespace Go.Ab
open Go
set_option maxRecDepth 1000000
set_option maxHeartbeats 1000000
set_option linter.unusedVariables false
set_option linter.unusedSimpArgs false

/-- The bounds that the reference looks at while it waits: those that begin at a level. -/
def edR (a : Ann) (m : Nat) : Edg := if (gi (sysL a) ((m % (sysL a).length : Nat) : Int)).1 < 0 then (0, 0, 0) else edA a m
abbrev rR (a : Ann) (m : Nat) : (Nat → Int) × (Nat → Nat) := runE (edR a) m
theorem edR_w {a : Ann} (h : An a) (m : Nat) : -250000000000 ≤ (edR a m).2.2 := by
  unfold edR
  split
  · decide
  · exact edA_w h m
theorem rR_bd {a : Ann} (h : An a) (m x : Nat) : 0 ≤ (rR a m).1 x ∧ (rR a m).1 x ≤ (m : Int) * 250000000000 := run_bd (by decide) (edR_w h) m x
theorem run_keep {e : Nat → Edg} {x : Nat} (h : ∀ m, (e m).1 ≠ x) : ∀ m, (runE e m).1 x = 0
  | 0 => rfl
  | m + 1 => by
    by_cases t : trg (runE e m).1 (e m)
    · rw [run_t t]
      show updE _ _ _ _ = _
      rw [updE_ne (fun q => h m q.symm)]
      exact run_keep h m
    · rw [run_f t]; exact run_keep h m
theorem edR_1 {a : Ann} (h : An a) (m : Nat) : (edR a m).1 ≠ nn a - 1 := by
  have hnn : nn a = a.2.2.1.length + 2 := rfl
  unfold edR
  split
  · show 0 ≠ _
    omega
  · rename_i q
    have b := sysL_bd h (edA_mem a m)
    show ndx (nn a) _ ≠ _
    unfold ndx
    rw [if_neg (by omega)]
    omega
theorem rR_0 {a : Ann} (h : An a) (m : Nat) : (rR a m).1 (nn a - 1) = 0 := run_keep (edR_1 h) m

/-- Where times keep all bounds, both wait alike. -/
theorem rR_eq {a : Ann} (h : An a) {T : Nat → Int} (F : Fs a T) : ∀ m, rR a m = rA a m
  | 0 => rfl
  | m + 1 => by
    have hnn : nn a = a.2.2.1.length + 2 := rfl
    have ih := rR_eq h F m
    have e1 : rR a (m + 1) = if trg (rR a m).1 (edR a m) then (updE (rR a m).1 (edR a m).1 ((rR a m).1 (edR a m).2.1 - (edR a m).2.2), updE (rR a m).2 (edR a m).1 (m + 1)) else rR a m := rfl
    have e2 : rA a (m + 1) = if trg (rA a m).1 (edA a m) then (updE (rA a m).1 (edA a m).1 ((rA a m).1 (edA a m).2.1 - (edA a m).2.2), updE (rA a m).2 (edA a m).1 (m + 1)) else rA a m := rfl
    by_cases q : (gi (sysL a) ((m % (sysL a).length : Nat) : Int)).1 < 0
    · have n1 : ¬ trg (rR a m).1 (edR a m) := by
        unfold edR trg
        rw [if_pos q]
        dsimp only
        omega
      have b := sysL_bd h (edA_mem a m)
      have n2 : ¬ trg (rA a m).1 (edA a m) := fun t => by
        have up := F.run h (m + 1) (nn a - 1)
        have u1 : (edA a m).1 = nn a - 1 := by
          show ndx (nn a) _ = _
          unfold ndx
          rw [if_pos (by omega)]
        rw [e2, if_pos t] at up
        replace up : updE _ _ _ _ ≤ _ := up
        rw [← u1, updE_at] at up
        unfold ext0 at up
        rw [u1, if_neg (by omega)] at up
        have z := (rA_bd h m (edA a m).1).1
        unfold trg at t
        omega
      rw [e1, e2, if_neg n1, if_neg n2, ih]
    · have e3 : edR a m = edA a m := by unfold edR; rw [if_neg q]
      rw [e1, e2, e3, ih]

/-- Where times keep all bounds, the waiting ends. -/
theorem conv {a : Ann} (h : An a) {T : Nat → Int} (F : Fs a T) : ∃ r, r < nn a ∧ ∀ j, j < (sysL a).length → ¬ trg (rA a (r * (sysL a).length + j)).1 (edA a (r * (sysL a).length + j)) := by
  have hnn : nn a = a.2.2.1.length + 2 := rfl
  refine Classical.byContradiction fun no => ?_
  -- each round changes a number
  have all : ∀ r, r < nn a → ∃ j, j < (sysL a).length ∧ trg (rA a (r * (sysL a).length + j)).1 (edA a (r * (sysL a).length + j)) := fun r hr => by
    refine Classical.byContradiction fun c => no ⟨r, hr, fun j hj t => c ⟨j, hj, t⟩⟩
  obtain ⟨j, hj, t⟩ := all (nn a - 1) (by omega)
  have em : nn a * (sysL a).length = (nn a - 1) * (sysL a).length + (sysL a).length := by
    rw [show nn a = nn a - 1 + 1 by omega, Nat.add_mul, Nat.one_mul]; rfl
  have st : (nn a - 1) * (sysL a).length < (rA a (nn a * (sysL a).length)).2 (edA a ((nn a - 1) * (sysL a).length + j)).1 := by
    have s1 : (rA a ((nn a - 1) * (sysL a).length + j + 1)).2 (edA a ((nn a - 1) * (sysL a).length + j)).1 = (nn a - 1) * (sysL a).length + j + 1 := by
      show (runE (edA a) (_ + 1)).2 _ = _
      rw [run_t t]
      show updE _ _ _ _ = _
      rw [updE_at]
    have s2 := st_mono (e := edA a) (edA a ((nn a - 1) * (sysL a).length + j)).1 (show (nn a - 1) * (sysL a).length + j + 1 ≤ nn a * (sysL a).length by omega)
    replace s1 : (runE (edA a) _).2 _ = _ := s1
    rw [s1] at s2
    exact Nat.lt_of_lt_of_le (by omega) s2
  have x0 := (edA_n h ((nn a - 1) * (sysL a).length + j)).1
  have ok := walk_ok (edA_per a) (edA_ns h) (edA_n h) (sys_pos a) x0 st
  obtain ⟨p, p1, p2, p3⟩ := walk_round (L := (sysL a).length) (edA_n h) x0
  generalize (edA a ((nn a - 1) * (sysL a).length + j)).1 = x at *
  rw [wlk_add] at p3
  have ok2 : ∀ k, 0 < (rA a (nn a * (sysL a).length)).2 (wlk (preE (edA a) (nn a * (sysL a).length)) (wlk (preE (edA a) (nn a * (sysL a).length)) x (nn a)) k) := fun k => by
    rw [← wlk_add]; exact (ok _).1
  have neg := sum_neg ok2 p1 p3
  generalize wlk (preE (edA a) (nn a * (sysL a).length)) x (nn a) = y at *
  have key : ∀ k, ext0 a T (wlk (preE (edA a) (nn a * (sysL a).length)) y k) - ext0 a T y ≤ sumE (edA a) (nn a * (sysL a).length) y k := fun k => by
    induction k with
    | zero => show _ - _ ≤ (0 : Int); show ext0 a T y - ext0 a T y ≤ 0; omega
    | succ k ih =>
      obtain ⟨s, hs⟩ : ∃ s, (rA a (nn a * (sysL a).length)).2 (wlk (preE (edA a) (nn a * (sysL a).length)) y k) = s + 1 := ⟨(rA a (nn a * (sysL a).length)).2 (wlk (preE (edA a) (nn a * (sysL a).length)) y k) - 1, by have := ok2 k; omega⟩
      have g := (st_eq hs).2.1
      have l : lastE (edA a) (nn a * (sysL a).length) (wlk (preE (edA a) (nn a * (sysL a).length)) y k) = edA a s := by unfold lastE; rw [hs]; rfl
      have b := sysL_bd h (edA_mem a s)
      have f := F _ (edA_mem a s)
      rw [← ext0_ndx b.1.1 b.1.2, ← ext0_ndx b.2.1.1 b.2.1.2] at f
      have e1 : wlk (preE (edA a) (nn a * (sysL a).length)) y (k + 1) = (edA a s).2.1 := congrArg (fun d : Edg => d.2.1) l
      have e2 : sumE (edA a) (nn a * (sysL a).length) y (k + 1) = sumE (edA a) (nn a * (sysL a).length) y k + (edA a s).2.2 := by
        show _ + _ = _
        rw [l]
      rw [e1, e2]
      rw [← g] at ih
      replace f : ext0 a T (edA a s).2.1 - (edA a s).2.2 ≤ ext0 a T (edA a s).1 := f
      omega
  have k := key p
  rw [p3] at k
  omega
/-- What is left then keeps all bounds. -/
theorem conv_fs {a : Ann} (h : An a) {T : Nat → Int} (F : Fs a T) {m : Nat} (hm : nn a * (sysL a).length ≤ m) : Fs a (rA a m).1 := by
  obtain ⟨r, hr, hf⟩ := conv h F
  have fx := fs_fix h hf
  refine fx.congr h fun x hx => ?_
  have up := fx.run h m x
  unfold ext0 at up
  rw [if_pos (by omega)] at up
  have lo := run_mono (e := edA a) x (show r * (sysL a).length ≤ m from Nat.le_trans (Nat.mul_le_mul_right _ (by omega)) hm)
  exact Int.le_antisymm lo up

/-! ### The walk -/
structure RelR (a : Ann) (m : Nat) (T : List Int) : Prop where
  lt : T.length = a.2.2.1.length + 1
  t : ∀ x : Nat, x < a.2.2.1.length + 1 → gi T (x : Int) = (rR a m).1 x
theorem k_timeOf {n : Nat} {y : Int} {T : List Int} (h : y < n) : ref03xtimeOf (n : Int) y T = some ((tmL (fun x => gi T (x : Int)) y, ()), (T, ())) := by
  simp only [ref03xtimeOf, T_ref03xtimeOf, tmL, Int.toNat_natCast]
  by_cases q : y < 0
  · refine (br_t (decide_eq_true q)).trans ?_
    rw [if_pos q]; exact r_ret _
  · refine (br_f (decide_eq_false q)).trans ?_
    refine (q_of (inB_t' (by omega) (by omega))).trans ?_
    rw [if_neg q, show ((y.toNat : Nat) : Int) = y by omega]
    exact r_ret _
theorem RelR.tm {a : Ann} (h : An a) {m : Nat} {T : List Int} (R : RelR a m T) {y : Int} (h1 : -1 ≤ y) (h2 : y ≤ a.2.2.1.length) : tmL (fun x => gi T (x : Int)) y = (rR a m).1 (ndx (nn a) y) := by
  have hnn : nn a = a.2.2.1.length + 2 := rfl
  unfold tmL ndx
  by_cases q : y = -1
  · rw [if_pos (by omega), if_pos q, rR_0 h]
  · rw [if_neg (by omega), if_neg q]
    exact R.t _ (by omega)

theorem k_r2 {a : Ann} (h : An a) {r : Nat} (hr : r ≤ 40) {T : List Int} (R : RelR a (r * (sysL a).length) T) :
    ∃ out, iterF (fun q_ : Int × (List Int × Unit) => (T_ref03xEarliest_l2 a ((sysL a, ()), ()) (r : Int) q_.1 q_.2.1).run) FUEL (0, T, ()) = some out ∧ ∃ T', out = .inl (((r + 1 : Nat) : Int), (T', ())) ∧ RelR a ((r + 1) * (sysL a).length) T' := by
  have hnn : nn a = a.2.2.1.length + 2 := rfl
  have hl := h.len
  have hw := h.wl
  have hL := sysL_len a
  have hpos := sys_pos a
  have hm : r * (sysL a).length ≤ 40 * 211 := Nat.mul_le_mul hr (by omega)
  have z64 : IntKind.i64.wrap ((a.2.2.1.length : Int) + 1) = ((a.2.2.1.length + 1 : Nat) : Int) := by rw [w64' (by omega) (by omega)]; omega
  refine iter_post (fun k y => ∃ T : List Int, y = ((k : Int), T, ()) ∧ RelR a (r * (sysL a).length + k) T) _ (sysL a).length (by omega) (fun k y hk hI => ?_) ⟨T, rfl, R⟩
  obtain ⟨T, rfl, R⟩ := hI
  dsimp only
  unfold T_ref03xEarliest_l2
  dsimp only
  rw [z64, Int.toNat_natCast]
  by_cases e : k < (sysL a).length
  · left
    have hmem : gi (sysL a) (k : Int) ∈ sysL a := gi_mem (by omega) (by omega)
    have hb := sysL_bd h hmem
    have hmod : (r * (sysL a).length + k) % (sysL a).length = k := by rw [Nat.add_comm, Nat.add_mul_mod_self_right, Nat.mod_eq_of_lt e]
    have hed := edA_at a r e
    have hM : ((r * (sysL a).length + k : Nat) : Int) * 250000000000 ≤ 10000 * 250000000000 := by omega
    have b1 := rR_bd h (r * (sysL a).length + k) (ndx (nn a) (gi (sysL a) (k : Int)).1)
    have b2 := rR_bd h (r * (sysL a).length + k) (ndx (nn a) (gi (sysL a) (k : Int)).2.1)
    have tm2 := R.tm h hb.2.1.1 hb.2.1.2
    have edr : edR a (r * (sysL a).length + k) = if (gi (sysL a) (k : Int)).1 < 0 then (0, 0, 0) else edO (nn a) (gi (sysL a) (k : Int)) := by
      unfold edR; rw [hmod, hed]
    by_cases q : 0 ≤ (gi (sysL a) (k : Int)).1
    · have n1 : ndx (nn a) (gi (sysL a) (k : Int)).1 = (gi (sysL a) (k : Int)).1.toNat := by unfold ndx; rw [if_neg (by omega)]
      have tn : ((gi (sysL a) (k : Int)).1.toNat : Int) = (gi (sysL a) (k : Int)).1 := by omega
      have tg : gi T (gi (sysL a) (k : Int)).1 = (rR a (r * (sysL a).length + k)).1 (ndx (nn a) (gi (sysL a) (k : Int)).1) := by
        have := R.t (gi (sysL a) (k : Int)).1.toNat (by omega)
        rw [tn] at this
        rw [this, n1]
      rw [if_neg (by omega)] at edr
      by_cases t : trg (rR a (r * (sysL a).length + k)).1 (edR a (r * (sysL a).length + k))
      · refine ⟨(((k + 1 : Nat) : Int), T.set (gi (sysL a) (k : Int)).1.toNat ((rR a (r * (sysL a).length + k)).1 (ndx (nn a) (gi (sysL a) (k : Int)).2.1) - (gi (sysL a) (k : Int)).2.2), ()), ?_, e, _, rfl, ?_⟩
        · refine (br_t (decide_eq_true (by omega))).trans ?_
          refine (q_of (inB_t' (by omega) (by omega))).trans ?_
          refine (br_t (decide_eq_true q)).trans ?_
          refine (r_bs (k_timeOf (by omega))).trans ?_
          refine (q_of (eqK_self _ _ _)).trans ?_
          refine (q_of (inB_t' (by omega) (by omega))).trans ?_
          dsimp only
          rw [edr] at t
          unfold trg edO at t
          dsimp only at t
          rw [tm2, tg, w64' (x := (rR a (r * (sysL a).length + k)).1 (ndx (nn a) (gi (sysL a) (k : Int)).2.1) - (rR a (r * (sysL a).length + k)).1 (ndx (nn a) (gi (sysL a) (k : Int)).1)) (by omega) (by omega)]
          refine (br_t (decide_eq_true (by omega))).trans ?_
          refine (r_bs (k_timeOf (by omega))).trans ?_
          refine (q_of (eqK_self _ _ _)).trans ?_
          refine (q_of (inB_t' (by omega) (by omega))).trans ?_
          dsimp only
          rw [tm2, w64' (x := (rR a (r * (sysL a).length + k)).1 (ndx (nn a) (gi (sysL a) (k : Int)).2.1) - (gi (sysL a) (k : Int)).2.2) (by omega) (by omega), w64' (x := (k : Int) + 1) (by omega) (by omega)]
          exact r_ret _
        · refine ⟨by rw [List.length_set, R.lt], fun x hx => ?_⟩
          rw [gi_set (by rw [R.lt]; omega)]
          show _ = (runE (edR a) (r * (sysL a).length + k + 1)).1 x
          rw [run_t t]
          show _ = updE _ _ _ _
          rw [edr]
          show _ = updE _ (ndx (nn a) (gi (sysL a) (k : Int)).1) _ _
          rw [n1]
          by_cases ex : x = (gi (sysL a) (k : Int)).1.toNat
          · subst ex; rw [if_pos rfl, updE_at]; rfl
          · rw [if_neg ex, updE_ne ex]; exact R.t x hx
      · refine ⟨(((k + 1 : Nat) : Int), T, ()), ?_, e, _, rfl, ⟨R.lt, ?_⟩⟩
        · refine (br_t (decide_eq_true (by omega))).trans ?_
          refine (q_of (inB_t' (by omega) (by omega))).trans ?_
          refine (br_t (decide_eq_true q)).trans ?_
          refine (r_bs (k_timeOf (by omega))).trans ?_
          refine (q_of (eqK_self _ _ _)).trans ?_
          refine (q_of (inB_t' (by omega) (by omega))).trans ?_
          dsimp only
          rw [edr] at t
          unfold trg edO at t
          dsimp only at t
          rw [tm2, tg, w64' (x := (rR a (r * (sysL a).length + k)).1 (ndx (nn a) (gi (sysL a) (k : Int)).2.1) - (rR a (r * (sysL a).length + k)).1 (ndx (nn a) (gi (sysL a) (k : Int)).1)) (by omega) (by omega)]
          refine (br_f (decide_eq_false (by omega))).trans ?_
          rw [w64' (x := (k : Int) + 1) (by omega) (by omega)]
          exact r_ret _
        · rw [show rR a (r * (sysL a).length + (k + 1)) = rR a (r * (sysL a).length + k) from run_f t]
          exact R.t
    · have t : ¬ trg (rR a (r * (sysL a).length + k)).1 (edR a (r * (sysL a).length + k)) := by
        rw [edr, if_pos (by omega)]
        unfold trg
        dsimp only
        omega
      refine ⟨(((k + 1 : Nat) : Int), T, ()), ?_, e, _, rfl, ⟨R.lt, ?_⟩⟩
      · refine (br_t (decide_eq_true (by omega))).trans ?_
        refine (q_of (inB_t' (by omega) (by omega))).trans ?_
        refine (br_f (decide_eq_false q)).trans ?_
        rw [w64' (x := (k : Int) + 1) (by omega) (by omega)]
        exact r_ret _
      · rw [show rR a (r * (sysL a).length + (k + 1)) = rR a (r * (sysL a).length + k) from run_f t]
        exact R.t
  · right
    have e : k = (sysL a).length := by omega
    subst e
    refine ⟨_, ?_, T, rfl, by rw [Nat.add_mul, Nat.one_mul]; exact R⟩
    refine (br_f (decide_eq_false (by omega))).trans ?_
    rw [w64' (x := (r : Int) + 1) (by omega) (by omega)]
    exact r_ret _

def ROut (a : Ann) (t : List Int) (ok : Bool) : Prop :=
  (ok = true ∧ t.length = a.2.2.1.length + 1 ∧ Fs a (fun x => gi t (x : Int)) ∧ ∀ T, Fs a T → ∀ x : Nat, x ≤ a.2.2.1.length → gi t (x : Int) ≤ T x) ∨ (ok = false ∧ t = [] ∧ ∀ T, ¬ Fs a T)
theorem k_rEarliest {a : Ann} (h : An a) : ∃ t ok, ref03xEarliest a = some ((t, (ok, ())), ()) ∧ ROut a t ok := by
  have hnn : nn a = a.2.2.1.length + 2 := rfl
  have hl := h.len
  have hw := h.wl
  have hL := sysL_len a
  have hpos := sys_pos a
  have z64 : IntKind.i64.wrap ((a.2.2.1.length : Int) + 1) = ((a.2.2.1.length + 1 : Nat) : Int) := by rw [w64' (by omega) (by omega)]; omega
  have key : ∃ r, iterF (fun q_ : Int × (List Int × Unit) => (T_ref03xEarliest_l1 a ((sysL a, ()), ()) q_.1 q_.2.1).run) FUEL (0, List.replicate (a.2.2.1.length + 1) 0, ()) = some r ∧ ∃ t ok, r = ((t, (ok, ())), ()) ∧ ROut a t ok := by
    refine iter_post (fun r y => ∃ T : List Int, y = ((r : Int), T, ()) ∧ RelR a (r * (sysL a).length) T) _ (nn a + 1) (by omega) (fun r y hr hI => ?_) ⟨List.replicate (a.2.2.1.length + 1) 0, rfl, List.length_replicate, fun x hx => ?_⟩
    · obtain ⟨T, rfl, R⟩ := hI
      dsimp only
      unfold T_ref03xEarliest_l1
      rw [w64' (x := (a.2.2.1.length : Int) + 2) (by omega) (by omega)]
      by_cases e : r < nn a + 1
      · left
        obtain ⟨out, k2, T', rfl, R'⟩ := k_r2 h (show r ≤ 40 by omega) R
        refine ⟨(((r + 1 : Nat) : Int), T', ()), ?_, e, T', rfl, R'⟩
        refine (br_t (decide_eq_true (by omega))).trans ?_
        rw [r_iter]
        exact k2
      · right
        have e : r = nn a + 1 := by omega
        subst e
        have hM : (((nn a + 1) * (sysL a).length : Nat) : Int) * 250000000000 ≤ 10000 * 250000000000 := by
          have : (nn a + 1) * (sysL a).length ≤ 40 * 211 := Nat.mul_le_mul (by omega) (by omega)
          omega
        have tmb : ∀ y : Int, -1 ≤ y → y ≤ a.2.2.1.length → 0 ≤ tmL (fun x => gi T (x : Int)) y ∧ tmL (fun x => gi T (x : Int)) y ≤ 10000 * 250000000000 := fun y h1 h2 => by
          rw [R.tm h h1 h2]
          have := rR_bd h ((nn a + 1) * (sysL a).length) (ndx (nn a) y)
          omega
        -- the check at the end
        have chk : ∃ r5, iterF (fun q_ : Int × Unit => (T_ref03xEarliest_l5 a ((sysL a, ()), ()) T q_.1).run) FUEL (0, ()) = some r5 ∧ ∃ t ok, r5 = .inr ((t, (ok, ())), ()) ∧ ROut a t ok := by
          refine iter_post (fun k y => y = ((k : Int), ()) ∧ ∀ j : Nat, j < k → tmL (fun x => gi T (x : Int)) (gi (sysL a) (j : Int)).2.1 - (gi (sysL a) (j : Int)).2.2 ≤ tmL (fun x => gi T (x : Int)) (gi (sysL a) (j : Int)).1) _ (sysL a).length (by omega) (fun k y hk hI => ?_) ⟨rfl, fun j hj => by omega⟩
          obtain ⟨rfl, hall⟩ := hI
          dsimp only
          unfold T_ref03xEarliest_l5
          dsimp only
          rw [z64, Int.toNat_natCast]
          by_cases e : k < (sysL a).length
          · have hmem : gi (sysL a) (k : Int) ∈ sysL a := gi_mem (by omega) (by omega)
            have hb := sysL_bd h hmem
            have t1 := tmb _ hb.1.1 hb.1.2
            have t2 := tmb _ hb.2.1.1 hb.2.1.2
            by_cases q : (gi (sysL a) (k : Int)).2.2 < tmL (fun x => gi T (x : Int)) (gi (sysL a) (k : Int)).2.1 - tmL (fun x => gi T (x : Int)) (gi (sysL a) (k : Int)).1
            · right
              refine ⟨_, ?_, [], false, rfl, .inr ⟨rfl, rfl, fun T0 F => ?_⟩⟩
              · refine (br_t (decide_eq_true (by omega))).trans ?_
                refine (q_of (inB_t' (by omega) (by omega))).trans ?_
                refine (r_bs (k_timeOf (by omega))).trans ?_
                refine (q_of (eqK_self _ _ _)).trans ?_
                refine (q_of (inB_t' (by omega) (by omega))).trans ?_
                refine (r_bs (k_timeOf (by omega))).trans ?_
                refine (q_of (eqK_self _ _ _)).trans ?_
                refine (q_of (inB_t' (by omega) (by omega))).trans ?_
                dsimp only
                rw [w64' (x := tmL (fun x => gi T (x : Int)) (gi (sysL a) (k : Int)).2.1 - tmL (fun x => gi T (x : Int)) (gi (sysL a) (k : Int)).1) (by omega) (by omega)]
                refine (br_t (decide_eq_true q)).trans ?_
                exact r_ret _
              · have cf := conv_fs h F (m := (nn a + 1) * (sysL a).length) (Nat.mul_le_mul_right _ (by omega))
                have g := (cf.congr h (T' := fun x => gi T (x : Int)) (fun x hx => by rw [R.t x (by omega), rR_eq h F])) _ hmem
                omega
            · left
              refine ⟨(((k + 1 : Nat) : Int), ()), ?_, e, rfl, fun j hj => ?_⟩
              · refine (br_t (decide_eq_true (by omega))).trans ?_
                refine (q_of (inB_t' (by omega) (by omega))).trans ?_
                refine (r_bs (k_timeOf (by omega))).trans ?_
                refine (q_of (eqK_self _ _ _)).trans ?_
                refine (q_of (inB_t' (by omega) (by omega))).trans ?_
                refine (r_bs (k_timeOf (by omega))).trans ?_
                refine (q_of (eqK_self _ _ _)).trans ?_
                refine (q_of (inB_t' (by omega) (by omega))).trans ?_
                dsimp only
                rw [w64' (x := tmL (fun x => gi T (x : Int)) (gi (sysL a) (k : Int)).2.1 - tmL (fun x => gi T (x : Int)) (gi (sysL a) (k : Int)).1) (by omega) (by omega)]
                refine (br_f (decide_eq_false q)).trans ?_
                rw [w64' (x := (k : Int) + 1) (by omega) (by omega)]
                exact r_ret _
              · by_cases ej : j = k
                · subst ej; omega
                · exact hall j (by omega)
          · right
            have e : k = (sysL a).length := by omega
            subst e
            have hT : T.take (a.2.2.1.length + 1) = T := List.take_of_length_le (by rw [R.lt]; exact Nat.le_refl _)
            refine ⟨_, (br_f (decide_eq_false (by omega))).trans (r_ret _), T.take (a.2.2.1.length + 1), true, rfl, .inl ?_⟩
            rw [hT]
            refine ⟨rfl, R.lt, fun b hb => ?_, fun T0 F x hx => ?_⟩
            · obtain ⟨j, hj, e⟩ := List.getElem_of_mem hb
              have := hall j hj
              rw [gi_nat hj, e] at this
              exact this
            · rw [R.t x (by omega), rR_eq h F]
              have := F.run h ((nn a + 1) * (sysL a).length) x
              unfold ext0 at this
              rw [if_pos (by omega)] at this
              exact this
        obtain ⟨r5, k5, t, ok, rfl, o⟩ := chk
        refine ⟨_, ?_, t, ok, rfl, o⟩
        refine (br_f (decide_eq_false (by omega))).trans ?_
        rw [r_iter]
        exact k5
    · show _ = (runE (edR a) (0 * _)).1 x
      rw [Nat.zero_mul]
      show _ = (0 : Int)
      rw [gi_nat (by rw [List.length_replicate]; exact hx), List.getElem_replicate]
  obtain ⟨r, k1, t, ok, rfl, o⟩ := key
  refine ⟨t, ok, ?_, o⟩
  simp only [ref03xEarliest, T_ref03xEarliest]
  refine (r_bs (k_System h)).trans ?_
  rw [z64, Int.toNat_natCast]
  have om : okMk ((a.2.2.1.length + 1 : Nat) : Int) ((a.2.2.1.length + 1 : Nat) : Int) 8 = true := decide_eq_true ⟨rfl, by omega, by omega, by omega⟩
  refine (q_of om).trans ?_
  rw [r_iter]
  exact k1
end Go.Ab
