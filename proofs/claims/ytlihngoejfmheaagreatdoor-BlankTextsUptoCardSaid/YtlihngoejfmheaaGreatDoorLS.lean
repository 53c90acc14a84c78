/- The contracts of the library's functions that this seat's functions call, for the symbolic machine. -/
import Derived.Test.YtlihngoejfmheaaGreatDoorXT
import Derived.Test.YtlihngoejfmheaaGreatDoorLB
import Derived.Test.YtlihngoejfmheaaGreatDoorSH
import Derived.Test.YtlihngoejfmheaaGreatDoorLT
namespace Go.Ab
open Go Go.Proofs
set_option linter.unusedVariables false

theorem mk_bytes (x : ByteArray) : (⟨x.data.toList.toArray⟩ : ByteArray) = x := by cases x; simp

/-- A function that hands back a value that may depend on the world, but is right in every one. -/
theorem meets_vals {P : Program} {f : Nat} {args : List AV} {r : AV}
    (hC : ∀ (w : World) (E : Env) (vs : Array Value), Glob.ok E.F → GmOk E w → (∀ a v, E.F a v → w.cell? a = some v ∧ v.oneCell' = true) → VRs E args vs.toList →
      Calls P f vs w fun e w' => ∃ v, e = .returned v ∧ (∀ E, VR E r v) ∧ Grew w w') : Meets P f [] args r [] := by
  intro w E X vs _ hE hH _ hv
  refine (hC w E vs hE.gl hE.gm hE.F hv).mono ?_
  rintro e w' ⟨v, rfl, hr, hg⟩
  exact ⟨v, E.addF (fun _ _ => False), rfl, hE.grew hg (fun _ _ h => h.elim) (fun _ _ h => h.elim), hH.none rfl, hr _⟩

theorem vr_tup2 {E : Env} {a b : AV} {u v : Value} (h1 : VR E a u) (h2 : VR E b v) : VR E (.tup [a, b]) (.tuple #[u, v]) := by
  refine .tup _ _ rfl fun j c x hc hx => ?_
  match j, hc, hx with
  | 0, hc, hx => simp at hc hx; subst hc hx; exact h1
  | 1, hc, hx => simp at hc hx; subst hc hx; exact h2
theorem vr_tup3 {E : Env} {a b c : AV} {u v t : Value} (h1 : VR E a u) (h2 : VR E b v) (h3 : VR E c t) : VR E (.tup [a, b, c]) (.tuple #[u, v, t]) := by
  refine .tup _ _ rfl fun j c' x hc hx => ?_
  match j, hc, hx with
  | 0, hc, hx => simp at hc hx; subst hc hx; exact h1
  | 1, hc, hx => simp at hc hx; subst hc hx; exact h2
  | 2, hc, hx => simp at hc hx; subst hc hx; exact h3
theorem Grew.drewN (w : World) (n : Nat) : Grew w (w.drewN n) := ⟨rfl, rfl, rfl, Nat.le_refl _, fun _ _ => rfl⟩
theorem Grew.grow (w : World) (os : Array Obj) : Grew w (Go.Sort.grow w os) := ⟨rfl, rfl, rfl, by simp [Go.Sort.grow], fun g hg => by simp only [Go.Sort.grow]; exact Array.getElem?_append_left hg⟩
theorem Grew.trans {a b c : World} (h : Grew a b) (k : Grew b c) : Grew a c :=
  ⟨k.os.trans h.os, k.tape.trans h.tape, k.output.trans h.output, Nat.le_trans h.size k.size, fun g hg => (k.old g (Nat.lt_of_lt_of_le hg h.size)).trans (h.old g hg)⟩

/-! ### Texts -/

def strings_Split (s sep : List UInt8) : Option ((List (List UInt8) × Unit) × Unit) :=
  if 1 ≤ sep.length ∧ s.length < 4294967281 then some ((Lib.splitK sep 0 (Lib.count s sep) s, ()), ()) else none
def c_strings_Split : Callee := ⟨41, [.val (.one .str), .val (.one .str)], [], [.val (.one (.list .str))], false, fun x y => strings_Split x.1 x.2.1⟩
theorem ok_strings_Split : c_strings_Split.ok Tryz.prog := by
  refine ⟨⟨Tryz.f41, Tryz.func41, by kernel_rfl, by kernel_rfl⟩, fun x y r y' h => ?_⟩
  have h' : strings_Split x.1 x.2.1 = some (r, y') := h
  unfold strings_Split at h'
  split at h'
  · rename_i hc
    injection h' with h'
    injection h' with h1 h2
    subst h1
    show Meets Tryz.prog 41 [] [.str x.1, .str x.2.1] (.sl 1 ((Lib.splitK x.2.1 0 (Lib.count x.1 x.2.1) x.1).map fun l => [.str l])) []
    refine meets_texts (t := 9) fun w E vs hg _ hF hv => ?_
    rw [vrs_str2 hv]
    obtain ⟨⟨m, hm⟩, _⟩ := hg
    have e := Lib.splitB_data (⟨x.2.1.toArray⟩ : ByteArray) 0 (Lib.countB (⟨x.1.toArray⟩ : ByteArray) (⟨x.2.1.toArray⟩ : ByteArray)) (⟨x.1.toArray⟩ : ByteArray)
    have hl := Lib.splitB_all (⟨x.2.1.toArray⟩ : ByteArray) (show 1 ≤ (⟨x.2.1.toArray⟩ : ByteArray).size from hc.1) 0 _ (⟨x.1.toArray⟩ : ByteArray) rfl
    have e' : Lib.splitK x.2.1 0 (Lib.count x.1 x.2.1) x.1 = (Lib.splitB (⟨x.2.1.toArray⟩ : ByteArray) 0 (Lib.countB (⟨x.1.toArray⟩ : ByteArray) (⟨x.2.1.toArray⟩ : ByteArray)) (⟨x.1.toArray⟩ : ByteArray)).map (·.data.toList) := e.symm
    refine (Tryz.strings_Split (⟨x.1.toArray⟩ : ByteArray) (⟨x.2.1.toArray⟩ : ByteArray) m w hc.2 (hF _ _ hm).1 hc.1).mono ?_
    rintro e w' ⟨rfl, rfl⟩
    rw [e', List.length_map, hl, List.map_map]
    refine ⟨rfl, ?_⟩
    congr 3
  · cases h'

def strings_CutSuffix (s p : List UInt8) : Option ((List UInt8 × Bool × Unit) × Unit) :=
  if s.length ≤ 9223372036854775807 then some ((Lib.trimSuffix s p, Lib.hasSuffix s p, ()), ()) else none
def c_strings_CutSuffix : Callee := ⟨20, [.val (.one .str), .val (.one .str)], [], [.val (.one .str), .val (.one .bool)], false, fun x y => strings_CutSuffix x.1 x.2.1⟩
theorem ok_strings_CutSuffix : c_strings_CutSuffix.ok Tryz.prog := by
  refine ⟨⟨Tryz.f20, Tryz.func20, by kernel_rfl, by kernel_rfl⟩, fun x y r y' h => ?_⟩
  have h' : strings_CutSuffix x.1 x.2.1 = some (r, y') := h
  unfold strings_CutSuffix at h'
  split at h'
  · rename_i hc
    injection h' with h'
    injection h' with h1 h2
    subst h1
    show Meets Tryz.prog 20 [] [.str x.1, .str x.2.1] (.tup [.str (Lib.trimSuffix x.1 x.2.1), .bool (Lib.hasSuffix x.1 x.2.1)]) []
    refine meets_vals fun w E vs hg _ hF hv => ?_
    rw [vrs_str2 hv]
    refine (Tryz.strings_CutSuffix (⟨x.1.toArray⟩ : ByteArray) (⟨x.2.1.toArray⟩ : ByteArray) w hc).mono ?_
    rintro e w' ⟨rfl, rfl⟩
    exact ⟨_, rfl, fun E => vr_tup2 (.str _) (.bool _), .refl _⟩
  · cases h'

def strings_TrimPrefix (s p : List UInt8) : Option ((List UInt8 × Unit) × Unit) := some ((Lib.trimPrefix s p, ()), ())
def c_strings_TrimPrefix : Callee := ⟨64, [.val (.one .str), .val (.one .str)], [], [.val (.one .str)], false, fun x y => strings_TrimPrefix x.1 x.2.1⟩
theorem ok_strings_TrimPrefix : c_strings_TrimPrefix.ok Tryz.prog := by
  refine ⟨⟨Tryz.f64, Tryz.func64, by kernel_rfl, by kernel_rfl⟩, fun x y r y' h => ?_⟩
  have h' : strings_TrimPrefix x.1 x.2.1 = some (r, y') := h
  unfold strings_TrimPrefix at h'
  injection h' with h'
  injection h' with h1 h2
  subst h1
  show Meets Tryz.prog 64 [] [.str x.1, .str x.2.1] (.str (Lib.trimPrefix x.1 x.2.1)) []
  refine meets_vals fun w E vs hg _ hF hv => ?_
  rw [vrs_str2 hv]
  refine (Tryz.strings_TrimPrefix (⟨x.1.toArray⟩ : ByteArray) (⟨x.2.1.toArray⟩ : ByteArray) w).mono ?_
  rintro e w' ⟨rfl, rfl⟩
  exact ⟨_, rfl, fun E => .str _, .refl _⟩

/-! ### Numbers -/

theorem vrs_int1 {E : Env} {k : IntKind} {n : Int} {vs : Array Value} (h : VRs E [.int k n] vs.toList) : vs = #[.int k n] := by
  obtain ⟨v, h1, h2⟩ := h.get (j := 0) rfl
  have hl := h.size
  cases h2
  cases vs with | mk l => match l, hl, h1 with | [x], _, h1 => simp at h1; simp [h1]

def strconv_Itoa (n : Int) : Option ((List UInt8 × Unit) × Unit) :=
  if -9223372036854775808 ≤ n ∧ n ≤ 9223372036854775807 then some ((Lib.itoa n, ()), ()) else none
def c_strconv_Itoa : Callee := ⟨47, [.val (.one (.int .i64))], [], [.val (.one .str)], false, fun x y => strconv_Itoa x.1⟩
theorem ok_strconv_Itoa : c_strconv_Itoa.ok Tryz.prog := by
  refine ⟨⟨Tryz.f47, Tryz.func47, by kernel_rfl, by kernel_rfl⟩, fun x y r y' h => ?_⟩
  have h' : strconv_Itoa x.1 = some (r, y') := h
  unfold strconv_Itoa at h'
  split at h'
  · rename_i hc
    injection h' with h'
    injection h' with h1 h2
    subst h1
    show Meets Tryz.prog 47 [] [.int .i64 x.1] (.str (Lib.itoa x.1)) []
    refine meets_vals fun w E vs hg hm hF hv => ?_
    rw [vrs_int1 hv]
    obtain ⟨t, fr, ht, _⟩ := hm.tab 3 _ rfl
    have htab : Lib.TabIs Tryz.prog w "internal/strconv.uint64pow10" .u64 Lib.pow10Tab := by
      unfold Lib.TabIs World.var?
      rw [show Program.globalNamed Tryz.prog "internal/strconv.uint64pow10" = some 3 by kernel_rfl]
      simp [ht]
    refine (Tryz.strconv_Itoa x.1 hc.1 hc.2 w htab).mono ?_
    rintro e w' ⟨rfl, k, os, rfl⟩
    exact ⟨_, rfl, fun E => .str _, (Grew.drewN w k).trans (.grow _ os)⟩
  · cases h'

def strconv_Atoi (s : List UInt8) : Option ((Int × Bool × Unit) × Unit) :=
  if s.length ≤ 281474976710656 then some (match Lib.atoiAll s with
    | .ok v => ((v, true, ()), ())
    | .range => ((Lib.atoiSat s, false, ()), ())
    | _ => ((0, false, ()), ())) else none
def c_strconv_Atoi : Callee := ⟨63, [.val (.one .str)], [], [.val (.one (.int .i64)), .val .err], false, fun x y => strconv_Atoi x.1⟩
theorem ok_strconv_Atoi : c_strconv_Atoi.ok Tryz.prog := by
  refine ⟨⟨Tryz.f63, Tryz.func63, by kernel_rfl, by kernel_rfl⟩, fun x y r y' h => ?_⟩
  have h' : strconv_Atoi x.1 = some (r, y') := h
  unfold strconv_Atoi at h'
  split at h'
  · rename_i hc
    injection h' with h'
    show Meets Tryz.prog 63 [] [.str x.1] (.tup [.int .i64 r.1, .er r.2.1]) []
    refine meets_vals fun w E vs hg hm hF hv => ?_
    rw [vrs_str1 hv]
    obtain ⟨_, ⟨e4, h4, h4'⟩, e5, h5, h5'⟩ := hg
    cases ha : Lib.atoiAll x.1 with
    | ok v =>
      rw [ha] at h'
      injection h' with h1 h2
      subst h1
      refine (Tryz.strconv_Atoi_ok (⟨x.1.toArray⟩ : ByteArray) (Nat.le_trans hc (by decide)) v ha w).mono ?_
      rintro e w' ⟨rfl, hw⟩
      refine ⟨_, rfl, fun E => vr_tup2 (.int _ _) .er0, ?_⟩
      rcases hw with rfl | ⟨t, rfl⟩
      · exact .refl _
      · exact .of_below (Lib.bytesWorld_below w 5 t)
    | range =>
      rw [ha] at h'
      injection h' with h1 h2
      subst h1
      refine (Tryz.strconv_Atoi_range (⟨x.1.toArray⟩ : ByteArray) hc ha e5 w (hF _ _ h5).1 h5').mono ?_
      rintro e w' ⟨N, rfl, _, _, hw⟩
      exact ⟨_, rfl, fun E => vr_tup2 (.int _ _) (.er1 _ _), .of_below hw⟩
    | _ =>
      rw [ha] at h'
      injection h' with h1 h2
      subst h1
      refine (Tryz.strconv_Atoi_syntax (⟨x.1.toArray⟩ : ByteArray) hc (by intro v; rw [show Lib.atoiAll (⟨x.1.toArray⟩ : ByteArray).data.toList = _ from ha]; intro e; cases e) (by rw [show Lib.atoiAll (⟨x.1.toArray⟩ : ByteArray).data.toList = _ from ha]; intro e; cases e) e4 w (hF _ _ h4).1 h4').mono ?_
      rintro e w' ⟨N, rfl, _, _, hw⟩
      exact ⟨_, rfl, fun E => vr_tup2 (.int _ _) (.er1 _ _), .of_below hw⟩
  · cases h'

/-- A cell that can be read lies at an address without a spot, in a block of the heap. -/
theorem cell_plain {w : World} {a : Addr} {v : Value} (h : w.cell? a = some v) : a.spot = none ∧ a.block < w.heap.size := by
  unfold World.cell? at h
  split at h
  · rename_i c _ _ hb
    split at h
    · cases h
    · rename_i hs
      refine ⟨by simpa using hs, ?_⟩
      by_cases hlt : a.block < w.heap.size
      · exact hlt
      · rw [Array.getElem?_eq_none (Nat.not_lt.mp hlt)] at hb; cases hb
  · cases h

/-! ### strings.Join -/

def strings_Join (xs : List (List UInt8)) (sep : List UInt8) : Option ((List UInt8 × Unit) × Unit) :=
  if xs.length ≤ 140737488355328 ∧ (Lib.join xs sep).length ≤ 140737488355328 then some ((Lib.join xs sep, ()), ()) else none
def c_strings_Join : Callee := ⟨48, [.val (.one (.list .str)), .val (.one .str)], [], [.val (.one .str)], false, fun x y => strings_Join x.1 x.2.1⟩
theorem ok_strings_Join : c_strings_Join.ok Tryz.prog := by
  refine ⟨⟨Tryz.f48, Tryz.func48, by kernel_rfl, by kernel_rfl⟩, fun x y r y' h => ?_⟩
  have h' : strings_Join x.1 x.2.1 = some (r, y') := h
  unfold strings_Join at h'
  split at h'
  · rename_i hc
    injection h' with h'
    injection h' with h1 h2
    subst h1
    generalize hxs : (x.1 : List (List UInt8)) = xs at *
    show Meets Tryz.prog 48 [] [.sl 1 ((x.1 : List (List UInt8)).map fun l => [.str l]), .str x.2.1] (.str (Lib.join xs x.2.1)) []
    rw [hxs]
    refine meets_vals fun w E vs hg hm hF hv => ?_
    obtain ⟨v, h1, h2⟩ := hv.get (j := 0) rfl
    obtain ⟨u, h3, h4⟩ := hv.get (j := 1) rfl
    have hl := hv.size
    cases h4
    generalize hrows : (xs.map fun l => [AV.str l]) = rows at h2
    cases h2 with
    | sl _ _ a cap g h0 g1 g2 hcap =>
    have hvs : vs = #[.slice a rows.length cap, .string ⟨x.2.1.toArray⟩] := by
      cases vs with | mk l => match l, hl, h1, h3 with | [x, y], _, h1, h3 => simp at h1 h3; simp [h1, h3]
    rw [hvs]
    have hlen : rows.length = xs.length := by rw [← hrows, List.length_map]
    cases hx : xs with
    | nil =>
      have h0' : rows.length = 0 := by rw [hlen, hx]; rfl
      rw [h0']
      refine (Tryz.strings_Join_none a cap _ w).mono ?_
      rintro e w' ⟨rfl, rfl⟩
      exact ⟨_, rfl, fun E => .str [], .refl _⟩
    | cons x0 xs0 =>
      rw [← hx]
      have hsome := h0 (by rw [hlen, hx]; simp)
      cases a with
      | none => cases hsome
      | some ad =>
      have hcells : ∀ (j : Nat) y, (xs.map fun l => (⟨l.toArray⟩ : ByteArray))[j]? = some y → w.cell? (ad.add (j * 1 + 0)) = some (.string y) := by
        intro j y hj
        rw [List.getElem?_map] at hj
        cases hjl : xs[j]? with
        | none => rw [hjl] at hj; cases hj
        | some l =>
          rw [hjl] at hj; injection hj with hj; subst hj
          have hr : rows[j]? = some [.str l] := by rw [← hrows, List.getElem?_map, hjl]; rfl
          have f1 := g1 j _ 0 _ ad hr rfl rfl
          have f2 := g2 j _ 0 _ hr rfl
          have f3 := (hF _ _ f1).1
          cases hg2 : g j 0 <;> rw [hg2] at f2 f3 <;> first | (cases f2; exact f3) | (cases f2; done)
      have hc0 : w.cell? ad = some (.string ⟨x0.toArray⟩) := by
        have h := hcells 0 ⟨x0.toArray⟩ (by rw [hx]; rfl)
        simpa [Addr.add] using h
      have hspot : ad.spot = none ∧ ad.block < w.heap.size := cell_plain hc0
      have had : ad = ⟨ad.block, ad.off, none⟩ := by
        cases ad with | mk b o s => simp at hspot; simp [hspot.1]
      have hmap : ((xs.map fun l => (⟨l.toArray⟩ : ByteArray)).map (·.data.toList)) = xs := by
        rw [List.map_map]
        exact (List.map_congr_left fun l _ => by simp).trans (List.map_id _)
      have hJ := Tryz.strings_Join ad.block ad.off cap (xs.map fun l => (⟨l.toArray⟩ : ByteArray)) ⟨x.2.1.toArray⟩ w (fun j y hj => by
          have h := hcells j y hj
          rw [had] at h
          simp only [Addr.add] at h
          split at h
          · rename_i h0'
            have : j = 0 := by omega
            subst this
            exact h
          · simpa using h) hspot.2 (by rw [List.length_map]; exact hc.1) (by rw [List.length_map, ← hlen]; exact hcap) (by rw [hmap]; simpa using hc.2)
      rw [hmap] at hJ
      rw [hlen, had]
      rw [List.length_map] at hJ
      refine hJ.mono ?_
      rintro e w' ⟨rfl, hb⟩
      refine ⟨_, rfl, fun E => ?_, .of_below hb⟩
      have := VR.str (E := E) (Lib.join xs x.2.1)
      simpa using this
  · cases h'

/-! ### strings.Lines -/

def strings_Lines (s : List UInt8) : Option ((List UInt8 × Unit) × Unit) := some ((s, ()), ())
def c_strings_Lines : Callee := ⟨19, [.val (.one .str)], [], [.fnb 38 .str], false, fun x y => strings_Lines x.1⟩
theorem e_strings_Lines (x : (tupT (PK.tys [.val (.one .str)])).T) (y : (tupT (BK.tys [])).T) : xfun xt [] Tryz.f19 [.val (.one .str)] [] [.fnb 38 .str] [] x y = .ret ((x.1, ()), ()) := by kernel_rfl
theorem ok_strings_Lines : c_strings_Lines.ok Tryz.prog := callee_ok (X := xt) (C := []) xt_ok mixed (allOk_mem trivial) (fn := Tryz.f19) Tryz.func19 (by kernel_rfl) (by kernel_rfl) [] (fun x y r y' h => (congrArg Tr.run (e_strings_Lines x y)).trans h)
theorem lines_LN : ∀ L ∈ [38], LinesAt Tryz.prog L ∧ Callable Tryz.prog L := fun L hL => by
  simp only [List.mem_cons, List.not_mem_nil, or_false] at hL
  subst hL
  exact ⟨lines_at, ⟨Tryz.f38, Tryz.func38, by kernel_rfl, by kernel_rfl⟩⟩
end Go.Ab
