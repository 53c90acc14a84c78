/- The iterator of strings.Lines, over whatever rounds. -/
import Derived.Test.YthhidmnlhocigaaGreatDoorUR
import Derived.Test.YthhidmnlhocigaaGreatDoorSH
import Derived.RangeFuncLeaves
import Derived.Shelf.Abstract
import Derived.Shelf.RegionOpen
import Derived.WalkKit
import Derived.OwnWalkIn
import Derived.TacticsInMore
import Derived.LoopIn
namespace Go.Ab
open Go Go.RowKit Go.Shelf Go.Proofs
set_option linter.unusedVariables false
set_option maxHeartbeats 4000000
set_option maxRecDepth 100000
attribute [local go_sem] Oper.semAt_some

/-- The first line and the rest, by the place of the first end of a line. -/
theorem lines_index : ∀ t : List UInt8, (Lib.indexByte t 10 = -1 ∧ firstL t = t ∧ restL t = []) ∨ (∃ i : Nat, Lib.indexByte t 10 = (i : Int) ∧ i < t.length ∧ firstL t = t.take (i + 1) ∧ restL t = t.drop (i + 1)) := by
  intro t
  induction t with
  | nil => left; exact ⟨rfl, rfl, rfl⟩
  | cons c r ih =>
    by_cases h : c = 10
    · right
      refine ⟨0, by simp [Lib.indexByte, h], by simp, by simp [firstL, h], by simp [restL, h]⟩
    · rcases ih with ⟨h1, h2, h3⟩ | ⟨i, h1, h2, h3, h4⟩
      · left
        refine ⟨by simp [Lib.indexByte, h, h1], by simp [firstL, h, h2], by simp [restL, h, h3]⟩
      · right
        refine ⟨i + 1, ?_, by simp; omega, by simp [firstL, h, h3], by simp [restL, h, h4]⟩
        have hc : (c == 10) = false := by simpa using h
        have hi : ((i : Int) == -1) = false := by simp
        simp only [Lib.indexByte, hc, h1, hi, Bool.false_eq_true, if_false]
        omega

theorem ext_take (t : List UInt8) (i : Nat) : ByteArray.extract ⟨t.toArray⟩ 0 i = ⟨(t.take i).toArray⟩ := by
  apply ByteArray.ext
  rw [ByteArray.data_extract]
  simp
theorem ext_drop (t : List UInt8) (i : Nat) : ByteArray.extract ⟨t.toArray⟩ i t.length = ⟨(t.drop i).toArray⟩ := by
  apply ByteArray.ext
  rw [ByteArray.data_extract]
  simp [List.take_of_length_le]

theorem lines_at : LinesAt Tryz.prog 55 := by
  intro n l B t0 W0 J Jx ht0 hdrew hcell hY h0
  refine callsIn_of_wp Tryz.func55 rfl trivial ?_ rfl
  simp only [Tryz.ntmps55, List.size_toArray, List.length_cons, List.length_nil, Nat.reduceAdd, Nat.reduceSub, Array.replicate_succ, Array.replicate_zero, List.push_toArray, List.append_toArray, List.nil_append, List.cons_append]
  refine wpIn_block ?_
  refine wpIn_loop_idx (fun m a w => ∃ t x2 x3 x4 x5 x6 x7 x8 x9 x10 x11 x12 x13 x14 x15 x16 x17 x18 x19 x20 x21 x22 x23 x24, a = { tmps := #[.func (.yield l) #[] #[], .pointer (some ⟨B, 0, none⟩), x2, x3, x4, x5, x6, x7, x8, x9, x10, x11, x12, x13, x14, x15, x16, x17, x18, x19, x20, x21, x22, x23, x24], defers := [] } ∧ J t w ∧ m = t.length ∧ t.length ≤ 1099511627776) t0.length
    ⟨t0, undef, undef, undef, undef, undef, undef, undef, undef, undef, undef, undef, undef, undef, undef, undef, undef, undef, undef, undef, undef, undef, undef, undef, rfl, h0, rfl, ht0⟩ ?_
  rintro m a w ⟨t, x2, x3, x4, x5, x6, x7, x8, x9, x10, x11, x12, x13, x14, x15, x16, x17, x18, x19, x20, x21, x22, x23, x24, rfl, hJ, rfl, htl⟩
  obtain ⟨hc, hf⟩ := hcell t w hJ
  have hmx : Tryz.prog.follows .mixedOrders = true := by kernel_rfl
  by_cases htn : t = []
  · subst htn
    gi_wp2
    go_end0
    exact ⟨⟨_, rfl⟩, .inl hJ⟩
  · have hlp : 0 < t.length := List.length_pos_iff.2 htn
    rcases lines_index t with ⟨h1, h2, h3⟩ | ⟨i, h1, h2, h3, h4⟩
    · have hI : Calls Tryz.prog 56 #[.string ⟨t.toArray⟩, .int .u8 10] w fun e w' => e = .returned (.int .i64 (-1)) ∧ w' = w := by
        refine (Tryz.strings_IndexByte ⟨t.toArray⟩ 10 w).mono ?_
        rintro e w' ⟨rfl, rfl⟩
        refine ⟨?_, rfl⟩
        show Ending.returned (.int .i64 (Lib.indexByte t 10)) = _
        rw [h1]
      have hYt := hY t w hJ htn
      rw [h2, h3] at hYt
      obtain ⟨fn, tmps, assign, body, hy, hR⟩ := hYt
      gi_wp2_with (refine ⟨trivial, fun h => (by cases h), ?_⟩; refine (callsIn_wide.2 hI).mono ?_; rintro e w' ⟨rfl, rfl⟩)
      refine ⟨fun h => (by cases h), hR.mono ?_⟩
      rintro e W' (⟨rfl, hJ'⟩ | ⟨rfl, hJx'⟩)
      · gi_wp2
        exact ⟨0, hlp, [], _, _, _, _, _, _, _, _, _, _, _, _, _, _, _, _, _, _, _, _, _, _, _, rfl, hJ', rfl, Nat.zero_le _⟩
      · gi_wp2
        refine bodyPost_ret (results_none rfl _ _ _) rfl ?_
        exact ⟨⟨_, rfl⟩, .inr hJx'⟩
    · have hI : Calls Tryz.prog 56 #[.string ⟨t.toArray⟩, .int .u8 10] w fun e w' => e = .returned (.int .i64 i) ∧ w' = w := by
        refine (Tryz.strings_IndexByte ⟨t.toArray⟩ 10 w).mono ?_
        rintro e w' ⟨rfl, rfl⟩
        refine ⟨?_, rfl⟩
        show Ending.returned (.int .i64 (Lib.indexByte t 10)) = _
        rw [h1]
      have hYt := hY t w.drew (hdrew t w hJ) htn
      rw [h3, h4] at hYt
      replace hYt : YieldAt Fence.wide (n - 1) Tryz.prog l #[.string ⟨(t.take (i + 1)).toArray⟩] (w.setCell ⟨B, 0, none⟩ (.string ⟨(t.drop (i + 1)).toArray⟩)).drew fun e W' =>
        (e = .returned (.bool true) ∧ J (t.drop (i + 1)) W') ∨ (e = .returned (.bool false) ∧ Jx W') := hYt
      obtain ⟨fn, tmps, assign, body, hy, hR⟩ := hYt
      gi_wp2_with (refine ⟨trivial, fun h => (by cases h), ?_⟩; refine (callsIn_wide.2 hI).mono ?_; rintro e w' ⟨rfl, rfl⟩)
      gi_region
      rw [ext_take, ext_drop]
      gi_wp2
      refine ⟨fun h => (by cases h), hR.mono ?_⟩
      rintro e W' (⟨rfl, hJ'⟩ | ⟨rfl, hJx'⟩)
      · gi_wp2
        exact ⟨(t.drop (i + 1)).length, by rw [List.length_drop]; omega, t.drop (i + 1), _, _, _, _, _, _, _, _, _, _, _, _, _, _, _, _, _, _, _, _, _, _, _, rfl, hJ', rfl, by rw [List.length_drop]; omega⟩
      · gi_wp2
        refine bodyPost_ret (results_none rfl _ _ _) rfl ?_
        exact ⟨⟨_, rfl⟩, .inr hJx'⟩
end Go.Ab
