/- The contracts of the library's functions that this seat's functions call, for the symbolic machine. -/
import Derived.Test.YthhidmnlhocigaaGreatDoorXT
import Derived.Test.YthhidmnlhocigaaGreatDoorLB
import Derived.Test.YthhidmnlhocigaaGreatDoorSH
import Derived.Test.YthhidmnlhocigaaGreatDoorLT
namespace Go.Ab
open Go Go.Proofs
set_option linter.unusedVariables false

theorem mk_bytes (x : ByteArray) : (⟨x.data.toList.toArray⟩ : ByteArray) = x := by cases x; simp

/-- A function that hands back a value that may depend on the world, but is right in every one. -/
theorem meets_vals {P : Program} {f : Nat} {args : List AV} {r : AV}
    (hC : ∀ (w : World) (E : Env) (vs : Array Value), Glob.ok E.F → GmOk E w → (∀ a v, E.F a v → w.cell? a = some v ∧ v.oneCell' = true) → VRs E args vs.toList →
      Calls P f vs w fun e w' => ∃ v, e = .returned v ∧ (∀ E, VR E r v) ∧ Grew w w') : Meets P f [] args r [] := by
  intro w E X vs _ hE hH _ hv
  refine (hC w E vs hE.gl hE.gm hE.F hv).mono ?_
  rintro e w' ⟨v, rfl, hr, hg⟩
  exact ⟨v, E.addF (fun _ _ => False), rfl, hE.grew hg (fun _ _ h => h.elim) (fun _ _ h => h.elim), hH.none rfl, hr _⟩

theorem vr_tup2 {E : Env} {a b : AV} {u v : Value} (h1 : VR E a u) (h2 : VR E b v) : VR E (.tup [a, b]) (.tuple #[u, v]) := by
  refine .tup _ _ rfl fun j c x hc hx => ?_
  match j, hc, hx with
  | 0, hc, hx => simp at hc hx; subst hc hx; exact h1
  | 1, hc, hx => simp at hc hx; subst hc hx; exact h2
theorem vr_tup3 {E : Env} {a b c : AV} {u v t : Value} (h1 : VR E a u) (h2 : VR E b v) (h3 : VR E c t) : VR E (.tup [a, b, c]) (.tuple #[u, v, t]) := by
  refine .tup _ _ rfl fun j c' x hc hx => ?_
  match j, hc, hx with
  | 0, hc, hx => simp at hc hx; subst hc hx; exact h1
  | 1, hc, hx => simp at hc hx; subst hc hx; exact h2
  | 2, hc, hx => simp at hc hx; subst hc hx; exact h3
theorem Grew.drewN (w : World) (n : Nat) : Grew w (w.drewN n) := ⟨rfl, rfl, rfl, Nat.le_refl _, fun _ _ => rfl⟩
theorem Grew.grow (w : World) (os : Array Obj) : Grew w (Go.Sort.grow w os) := ⟨rfl, rfl, rfl, by simp [Go.Sort.grow], fun g hg => by simp only [Go.Sort.grow]; exact Array.getElem?_append_left hg⟩
theorem Grew.trans {a b c : World} (h : Grew a b) (k : Grew b c) : Grew a c :=
  ⟨k.os.trans h.os, k.tape.trans h.tape, k.output.trans h.output, Nat.le_trans h.size k.size, fun g hg => (k.old g (Nat.lt_of_lt_of_le hg h.size)).trans (h.old g hg)⟩

/-! ### Texts -/

def strings_Split (s sep : List UInt8) : Option ((List (List UInt8) × Unit) × Unit) :=
  if 1 ≤ sep.length ∧ s.length < 4294967281 then some ((Lib.splitK sep 0 (Lib.count s sep) s, ()), ()) else none
def c_strings_Split : Callee := ⟨25, [.val (.one .str), .val (.one .str)], [], [.val (.one (.list .str))], false, fun x y => strings_Split x.1 x.2.1⟩
theorem ok_strings_Split : c_strings_Split.ok Tryz.prog := by
  refine ⟨⟨Tryz.f25, Tryz.func25, by kernel_rfl, by kernel_rfl⟩, fun x y r y' h => ?_⟩
  have h' : strings_Split x.1 x.2.1 = some (r, y') := h
  unfold strings_Split at h'
  split at h'
  · rename_i hc
    injection h' with h'
    injection h' with h1 h2
    subst h1
    show Meets Tryz.prog 25 [] [.str x.1, .str x.2.1] (.sl 1 ((Lib.splitK x.2.1 0 (Lib.count x.1 x.2.1) x.1).map fun l => [.str l])) []
    refine meets_texts (t := 9) fun w E vs hg _ hF hv => ?_
    rw [vrs_str2 hv]
    obtain ⟨⟨m, hm⟩, _⟩ := hg
    have e := Lib.splitB_data (⟨x.2.1.toArray⟩ : ByteArray) 0 (Lib.countB (⟨x.1.toArray⟩ : ByteArray) (⟨x.2.1.toArray⟩ : ByteArray)) (⟨x.1.toArray⟩ : ByteArray)
    have hl := Lib.splitB_all (⟨x.2.1.toArray⟩ : ByteArray) (show 1 ≤ (⟨x.2.1.toArray⟩ : ByteArray).size from hc.1) 0 _ (⟨x.1.toArray⟩ : ByteArray) rfl
    have e' : Lib.splitK x.2.1 0 (Lib.count x.1 x.2.1) x.1 = (Lib.splitB (⟨x.2.1.toArray⟩ : ByteArray) 0 (Lib.countB (⟨x.1.toArray⟩ : ByteArray) (⟨x.2.1.toArray⟩ : ByteArray)) (⟨x.1.toArray⟩ : ByteArray)).map (·.data.toList) := e.symm
    refine (Tryz.strings_Split (⟨x.1.toArray⟩ : ByteArray) (⟨x.2.1.toArray⟩ : ByteArray) m w hc.2 (hF _ _ hm).1 hc.1).mono ?_
    rintro e w' ⟨rfl, rfl⟩
    rw [e', List.length_map, hl, List.map_map]
    refine ⟨rfl, ?_⟩
    congr 3
  · cases h'

def strings_CutSuffix (s p : List UInt8) : Option ((List UInt8 × Bool × Unit) × Unit) :=
  if s.length ≤ 9223372036854775807 then some ((Lib.trimSuffix s p, Lib.hasSuffix s p, ()), ()) else none
def c_strings_CutSuffix : Callee := ⟨37, [.val (.one .str), .val (.one .str)], [], [.val (.one .str), .val (.one .bool)], false, fun x y => strings_CutSuffix x.1 x.2.1⟩
theorem ok_strings_CutSuffix : c_strings_CutSuffix.ok Tryz.prog := by
  refine ⟨⟨Tryz.f37, Tryz.func37, by kernel_rfl, by kernel_rfl⟩, fun x y r y' h => ?_⟩
  have h' : strings_CutSuffix x.1 x.2.1 = some (r, y') := h
  unfold strings_CutSuffix at h'
  split at h'
  · rename_i hc
    injection h' with h'
    injection h' with h1 h2
    subst h1
    show Meets Tryz.prog 37 [] [.str x.1, .str x.2.1] (.tup [.str (Lib.trimSuffix x.1 x.2.1), .bool (Lib.hasSuffix x.1 x.2.1)]) []
    refine meets_vals fun w E vs hg _ hF hv => ?_
    rw [vrs_str2 hv]
    refine (Tryz.strings_CutSuffix (⟨x.1.toArray⟩ : ByteArray) (⟨x.2.1.toArray⟩ : ByteArray) w hc).mono ?_
    rintro e w' ⟨rfl, rfl⟩
    exact ⟨_, rfl, fun E => vr_tup2 (.str _) (.bool _), .refl _⟩
  · cases h'

def strings_TrimPrefix (s p : List UInt8) : Option ((List UInt8 × Unit) × Unit) := some ((Lib.trimPrefix s p, ()), ())
def c_strings_TrimPrefix : Callee := ⟨48, [.val (.one .str), .val (.one .str)], [], [.val (.one .str)], false, fun x y => strings_TrimPrefix x.1 x.2.1⟩
theorem ok_strings_TrimPrefix : c_strings_TrimPrefix.ok Tryz.prog := by
  refine ⟨⟨Tryz.f48, Tryz.func48, by kernel_rfl, by kernel_rfl⟩, fun x y r y' h => ?_⟩
  have h' : strings_TrimPrefix x.1 x.2.1 = some (r, y') := h
  unfold strings_TrimPrefix at h'
  injection h' with h'
  injection h' with h1 h2
  subst h1
  show Meets Tryz.prog 48 [] [.str x.1, .str x.2.1] (.str (Lib.trimPrefix x.1 x.2.1)) []
  refine meets_vals fun w E vs hg _ hF hv => ?_
  rw [vrs_str2 hv]
  refine (Tryz.strings_TrimPrefix (⟨x.1.toArray⟩ : ByteArray) (⟨x.2.1.toArray⟩ : ByteArray) w).mono ?_
  rintro e w' ⟨rfl, rfl⟩
  exact ⟨_, rfl, fun E => .str _, .refl _⟩

/-! ### Numbers -/

theorem vrs_int1 {E : Env} {k : IntKind} {n : Int} {vs : Array Value} (h : VRs E [.int k n] vs.toList) : vs = #[.int k n] := by
  obtain ⟨v, h1, h2⟩ := h.get (j := 0) rfl
  have hl := h.size
  cases h2
  cases vs with | mk l => match l, hl, h1 with | [x], _, h1 => simp at h1; simp [h1]

def strconv_Itoa (n : Int) : Option ((List UInt8 × Unit) × Unit) :=
  if -9223372036854775808 ≤ n ∧ n ≤ 9223372036854775807 then some ((Lib.itoa n, ()), ()) else none
def c_strconv_Itoa : Callee := ⟨24, [.val (.one (.int .i64))], [], [.val (.one .str)], false, fun x y => strconv_Itoa x.1⟩
theorem ok_strconv_Itoa : c_strconv_Itoa.ok Tryz.prog := by
  refine ⟨⟨Tryz.f24, Tryz.func24, by kernel_rfl, by kernel_rfl⟩, fun x y r y' h => ?_⟩
  have h' : strconv_Itoa x.1 = some (r, y') := h
  unfold strconv_Itoa at h'
  split at h'
  · rename_i hc
    injection h' with h'
    injection h' with h1 h2
    subst h1
    show Meets Tryz.prog 24 [] [.int .i64 x.1] (.str (Lib.itoa x.1)) []
    refine meets_vals fun w E vs hg hm hF hv => ?_
    rw [vrs_int1 hv]
    obtain ⟨t, fr, ht, _⟩ := hm.tab 0 _ rfl
    have htab : Lib.TabIs Tryz.prog w "internal/strconv.uint64pow10" .u64 Lib.pow10Tab := by
      unfold Lib.TabIs World.var?
      rw [show Program.globalNamed Tryz.prog "internal/strconv.uint64pow10" = some 0 by kernel_rfl]
      simp [ht]
    refine (Tryz.strconv_Itoa x.1 hc.1 hc.2 w htab).mono ?_
    rintro e w' ⟨rfl, k, os, rfl⟩
    exact ⟨_, rfl, fun E => .str _, (Grew.drewN w k).trans (.grow _ os)⟩
  · cases h'

def strconv_Atoi (s : List UInt8) : Option ((Int × Bool × Unit) × Unit) :=
  if s.length ≤ 281474976710656 then some (match Lib.atoiAll s with
    | .ok v => ((v, true, ()), ())
    | .range => ((Lib.atoiSat s, false, ()), ())
    | _ => ((0, false, ()), ())) else none
def c_strconv_Atoi : Callee := ⟨47, [.val (.one .str)], [], [.val (.one (.int .i64)), .val .err], false, fun x y => strconv_Atoi x.1⟩
theorem ok_strconv_Atoi : c_strconv_Atoi.ok Tryz.prog := by
  refine ⟨⟨Tryz.f47, Tryz.func47, by kernel_rfl, by kernel_rfl⟩, fun x y r y' h => ?_⟩
  have h' : strconv_Atoi x.1 = some (r, y') := h
  unfold strconv_Atoi at h'
  split at h'
  · rename_i hc
    injection h' with h'
    show Meets Tryz.prog 47 [] [.str x.1] (.tup [.int .i64 r.1, .er r.2.1]) []
    refine meets_vals fun w E vs hg hm hF hv => ?_
    rw [vrs_str1 hv]
    obtain ⟨_, ⟨e4, h4, h4'⟩, e5, h5, h5'⟩ := hg
    cases ha : Lib.atoiAll x.1 with
    | ok v =>
      rw [ha] at h'
      injection h' with h1 h2
      subst h1
      refine (Tryz.strconv_Atoi_ok (⟨x.1.toArray⟩ : ByteArray) (Nat.le_trans hc (by decide)) v ha w).mono ?_
      rintro e w' ⟨rfl, hw⟩
      refine ⟨_, rfl, fun E => vr_tup2 (.int _ _) .er0, ?_⟩
      rcases hw with rfl | ⟨t, rfl⟩
      · exact .refl _
      · exact .of_below (Lib.bytesWorld_below w 5 t)
    | range =>
      rw [ha] at h'
      injection h' with h1 h2
      subst h1
      refine (Tryz.strconv_Atoi_range (⟨x.1.toArray⟩ : ByteArray) hc ha e5 w (hF _ _ h5).1 h5').mono ?_
      rintro e w' ⟨N, rfl, _, _, hw⟩
      exact ⟨_, rfl, fun E => vr_tup2 (.int _ _) (.er1 _ _), .of_below hw⟩
    | _ =>
      rw [ha] at h'
      injection h' with h1 h2
      subst h1
      refine (Tryz.strconv_Atoi_syntax (⟨x.1.toArray⟩ : ByteArray) hc (by intro v; rw [show Lib.atoiAll (⟨x.1.toArray⟩ : ByteArray).data.toList = _ from ha]; intro e; cases e) (by rw [show Lib.atoiAll (⟨x.1.toArray⟩ : ByteArray).data.toList = _ from ha]; intro e; cases e) e4 w (hF _ _ h4).1 h4').mono ?_
      rintro e w' ⟨N, rfl, _, _, hw⟩
      exact ⟨_, rfl, fun E => vr_tup2 (.int _ _) (.er1 _ _), .of_below hw⟩
  · cases h'

/-- A cell that can be read lies at an address without a spot, in a block of the heap. -/
theorem cell_plain {w : World} {a : Addr} {v : Value} (h : w.cell? a = some v) : a.spot = none ∧ a.block < w.heap.size := by
  unfold World.cell? at h
  split at h
  · rename_i c _ _ hb
    split at h
    · cases h
    · rename_i hs
      refine ⟨by simpa using hs, ?_⟩
      by_cases hlt : a.block < w.heap.size
      · exact hlt
      · rw [Array.getElem?_eq_none (Nat.not_lt.mp hlt)] at hb; cases hb
  · cases h

/-! ### strings.Join -/

def strings_Lines (s : List UInt8) : Option ((List UInt8 × Unit) × Unit) := some ((s, ()), ())
def c_strings_Lines : Callee := ⟨36, [.val (.one .str)], [], [.fnb 55 .str], false, fun x y => strings_Lines x.1⟩
theorem e_strings_Lines (x : (tupT (PK.tys [.val (.one .str)])).T) (y : (tupT (BK.tys [])).T) : xfun xt [] Tryz.f36 [.val (.one .str)] [] [.fnb 55 .str] [] x y = .ret ((x.1, ()), ()) := by kernel_rfl
theorem ok_strings_Lines : c_strings_Lines.ok Tryz.prog := callee_ok (X := xt) (C := []) xt_ok mixed (allOk_mem trivial) (fn := Tryz.f36) Tryz.func36 (by kernel_rfl) (by kernel_rfl) [] (fun x y r y' h => (congrArg Tr.run (e_strings_Lines x y)).trans h)
theorem lines_LN : ∀ L ∈ [55], LinesAt Tryz.prog L ∧ Callable Tryz.prog L := fun L hL => by
  simp only [List.mem_cons, List.not_mem_nil, or_false] at hL
  subst hL
  exact ⟨lines_at, ⟨Tryz.f55, Tryz.func55, by kernel_rfl, by kernel_rfl⟩⟩
end Go.Ab
