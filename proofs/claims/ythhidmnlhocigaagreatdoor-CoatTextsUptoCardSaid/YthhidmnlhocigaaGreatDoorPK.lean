/- coat.Print as a function that the machine knows. -/
import Derived.Test.YthhidmnlhocigaaGreatDoorPR
import Derived.Test.YthhidmnlhocigaaGreatDoorLS
import Derived.Test.YthhidmnlhocigaaGreatDoorQ0
namespace Go.Ab
open Go Go.Proofs Go.RowKit
set_option maxRecDepth 100000
set_option linter.unusedVariables false
set_option linter.unusedSimpArgs false

def prI64 (x : List UInt8 × Int) : Bool := decide (-9223372036854775808 ≤ x.2) && decide (x.2 ≤ 9223372036854775807)
def coat_Print (l : List (List UInt8 × Int)) : Option ((List UInt8 × Int × Unit) × Unit) :=
  match coat_checkLayers l with
  | none => none
  | some z => if z.1.1 = 0 then (if l.length ≤ 1048576 ∧ (layTs l).length ≤ 1073741824 ∧ l.all prI64 = true then some ((layTs l, 0, ()), ()) else none) else some (([], z.1.1, ()), ())
def c_coat_Print : Callee := ⟨11, [.val (.one (.list (.pair .str (.int .i64))))], [], [.val (.one .str), .val (.one (.int .i64))], false, fun x y => coat_Print x.1⟩

theorem lay_calls {w : World} {E : Env} {l : List (List UInt8 × Int)} {n : Int} (hz : coat_checkLayers l = some ((n, ()), ())) (hg : Glob.ok E.F) (hm : GmOk E w) (hF : ∀ a v, E.F a v → w.cell? a = some v ∧ v.oneCell' = true)
    {v : Value} (hv : VR E (.sl 2 (l.map fun x => [.str x.1, .int .i64 x.2])) v) :
    Calls Tryz.prog 33 #[v] w fun e w' => e = .returned (.int .i64 n) ∧ Below w.heap.size w w' := by
  have hM : Meets Tryz.prog 33 [] [.sl 2 (l.map fun x => [.str x.1, .int .i64 x.2])] (.int .i64 n) [] := ok_coat_checkLayers.2 (l, ()) () (n, ()) () hz
  have hF' : ∀ a v, E.F a v → (envOf w).F a v := hF
  have hg2 : GmOk (envOf w) w := ⟨fun _ _ h => (by cases h), fun g cs hc => by
    obtain ⟨t, fr, h, _⟩ := hm.tab g cs hc
    exact ⟨t, fr, h, fun b hb => absurd rfl hb⟩, fun g o h => (by cases h)⟩
  have hv' : VR (envOf w) (.sl 2 (l.map fun x => [.str x.1, .int .i64 x.2])) v := by
    generalize (l.map fun x => [AV.str x.1, AV.int .i64 x.2]) = rows at hv
    cases hv with
    | sl _ _ a cap g h0 g1 g2 hcap => exact .sl 2 rows a cap g h0 (fun i row j c ad x y z => hF' _ _ (g1 i row j c ad x y z)) (fun i row j c x y => (g2 i row j c x y).mono hF') hcap
  refine (law_calls (Glob.mono hF' hg) hg2 hM (vs := #[v]) (VRs.cons hv' VRs.nil)).mono ?_
  rintro e w' ⟨v', E', rfl, hr, hb⟩
  cases hr
  exact ⟨rfl, hb⟩

theorem ok_coat_Print : c_coat_Print.ok Tryz.prog := by
  refine ⟨⟨Tryz.f11, Tryz.func11, by kernel_rfl, by kernel_rfl⟩, fun x y r y' h => ?_⟩
  have h' : coat_Print x.1 = some (r, y') := h
  unfold coat_Print at h'
  cases hz : coat_checkLayers x.1 with
  | none => rw [hz] at h'; cases h'
  | some z =>
  rw [hz] at h'
  obtain ⟨⟨n, u⟩, u'⟩ := z
  have hz : coat_checkLayers x.1 = some ((n, ()), ()) := hz
  dsimp only at h'
  split at h'
  · rename_i hn
    subst hn
    split at h'
    · rename_i hc
      injection h' with h'
      injection h' with h1 h2
      subst h1
      generalize hl : (x.1 : List (List UInt8 × Int)) = l at *
      show Meets Tryz.prog 11 [] [.sl 2 ((x.1 : List (List UInt8 × Int)).map fun p => [.str p.1, .int .i64 p.2])] (.tup [.str (layTs l), .int .i64 0]) []
      rw [hl]
      refine meets_vals fun w E vs hg hm hF hv => ?_
      obtain ⟨v, h1, h2⟩ := hv.get (j := 0) rfl
      have hsz := hv.size
      have hvs : vs = #[v] := by
        cases vs with | mk q => match q, hsz, h1 with | [x], _, h1 => simp at h1; simp [h1]
      subst hvs
      have hchk := lay_calls hz hg hm hF h2
      have hitoa : ∀ (n : Int) (w' : World), -9223372036854775808 ≤ n → n ≤ 9223372036854775807 → (∀ k, k < w.heap.size → w'.heap[k]? = w.heap[k]?) → Calls Tryz.prog 24 #[.int .i64 n] w' fun e w'' => e = .returned (.string ⟨(Lib.itoa n).toArray⟩) ∧ Below w'.heap.size w' w'' := by
        intro n w' h1 h2 hk
        obtain ⟨t, fr, ht, _⟩ := hm.tab 0 _ rfl
        have hlt : 0 < w.heap.size := by
          rcases Nat.lt_or_ge 0 w.heap.size with h | h
          · exact h
          · rw [Array.getElem?_eq_none h] at ht; cases ht
        have ht' := (hk 0 hlt).trans ht
        have htab : Lib.TabIs Tryz.prog w' "internal/strconv.uint64pow10" .u64 Lib.pow10Tab := by
          unfold Lib.TabIs World.var?
          rw [show Program.globalNamed Tryz.prog "internal/strconv.uint64pow10" = some 0 by kernel_rfl]
          simp [ht']
        refine (Tryz.strconv_Itoa n h1 h2 w' htab).mono ?_
        rintro e w'' ⟨rfl, k, os, rfl⟩
        have g := (Grew.drewN w' k).trans (.grow _ os)
        exact ⟨rfl, g.os, g.tape, g.output, g.size, g.old⟩
      have hi : ∀ p ∈ l, -9223372036854775808 ≤ p.2 ∧ p.2 ≤ 9223372036854775807 := fun p hp => by
        have := List.all_eq_true.1 hc.2.2 p hp
        unfold prI64 at this
        rw [Bool.and_eq_true] at this
        exact ⟨of_decide_eq_true this.1, of_decide_eq_true this.2⟩
      generalize hrows : (l.map fun p => [AV.str p.1, AV.int .i64 p.2]) = rows at h2
      cases h2 with
      | sl _ _ a cap g h0 g1 g2 hcap =>
      have hlen : rows.length = l.length := by rw [← hrows, List.length_map]
      rw [hlen] at hchk hcap ⊢
      have fin : ∀ {e : Ending} {w' : World}, (e = .returned (.tuple #[.string ⟨(layTs l).toArray⟩, .int .i64 0]) ∧ Below w.heap.size w w') → ∃ v, e = .returned v ∧ (∀ E, VR E (.tup [.str (layTs l), .int .i64 0]) v) ∧ Grew w w' := by
        rintro e w' ⟨rfl, hb⟩
        exact ⟨_, rfl, fun E => vr_tup2 (.str _) (.int _ _), .of_below hb⟩
      by_cases hpos : 0 < l.length
      · have hsome := h0 (by rw [hlen]; exact hpos)
        cases a with
        | none => cases hsome
        | some ad =>
        have key : ∀ (i : Nat) p, l[i]? = some p → w.cell? (ad.add (i * 2 + 0)) = some (.string ⟨p.1.toArray⟩) ∧ w.cell? (ad.add (i * 2 + 1)) = some (.int .i64 p.2) := by
          intro i p hp
          have hr : rows[i]? = some [.str p.1, .int .i64 p.2] := by rw [← hrows, List.getElem?_map, hp]; rfl
          have f1 := g1 i _ 0 _ ad hr rfl rfl
          have f2 := g2 i _ 0 _ hr rfl
          have f3 := (hF _ _ f1).1
          have q1 := g1 i _ 1 _ ad hr rfl rfl
          have q2 := g2 i _ 1 _ hr rfl
          have q3 := (hF _ _ q1).1
          constructor
          · cases hg2 : g i 0 <;> rw [hg2] at f2 f3 <;> first | (cases f2; exact f3) | (cases f2; done)
          · cases hg2 : g i 1 <;> rw [hg2] at q2 q3 <;> first | (cases q2; exact q3) | (cases q2; done)
        obtain ⟨p0, hp0⟩ : ∃ p0, l[0]? = some p0 := ⟨l[0], List.getElem?_eq_getElem hpos⟩
        have hc0 : w.cell? ad = some (.string ⟨p0.1.toArray⟩) := by
          have h := (key 0 p0 hp0).1
          simpa [Addr.add] using h
        have hspot : ad.spot = none ∧ ad.block < w.heap.size := cell_plain hc0
        have had : ad = ⟨ad.block, ad.off, none⟩ := by
          cases ad with | mk b o s => simp at hspot; simp [hspot.1]
        have addp : ∀ m : Nat, ad.add m = ⟨ad.block, ad.off + m, none⟩ := fun m => by
          rw [had]
          simp only [Addr.add]
          split
          · rename_i h; subst h; rfl
          · rfl
        refine (print_walk l (some ad) ad.block ad.off cap w (fun _ => by rw [← had]) (fun i p hp => by
          have h := key i p hp
          rw [addp, addp] at h
          exact ⟨by simpa using h.1, by simpa [Nat.add_assoc] using h.2⟩) (fun _ => hspot.2) hcap hc.1 hchk hitoa hi hc.2.1).mono fun e w' he => fin he
      · have hnil : l = [] := by cases l with | nil => rfl | cons p r => simp at hpos
        refine (print_walk l a 0 0 cap w (fun h => absurd h hpos) (fun i p hp => by rw [hnil] at hp; cases hp) (fun h => absurd h hpos) hcap hc.1 hchk hitoa hi hc.2.1).mono fun e w' he => fin he
    · cases h'
  · rename_i hn
    injection h' with h'
    injection h' with h1 h2
    subst h1
    show Meets Tryz.prog 11 [] [.sl 2 ((x.1 : List (List UInt8 × Int)).map fun p => [.str p.1, .int .i64 p.2])] (.tup [.str [], .int .i64 n]) []
    refine meets_vals fun w E vs hg hm hF hv => ?_
    obtain ⟨v, h1, h2⟩ := hv.get (j := 0) rfl
    have hsz := hv.size
    have hvs : vs = #[v] := by
      cases vs with | mk q => match q, hsz, h1 with | [x], _, h1 => simp at h1; simp [h1]
    subst hvs
    refine (print_err v n w hn (lay_calls hz hg hm hF h2)).mono ?_
    rintro e w' ⟨rfl, hb⟩
    exact ⟨_, rfl, fun E => vr_tup2 (.str []) (.int _ _), .of_below hb⟩
end Go.Ab
