/- Code of a function that holds ranges over lines, abstractly, and the function's contract. -/
import Derived.Test.YthhidmnlhocigaaGreatDoorRG
namespace Go.Ab
open Go Go.RowKit
set_option linter.unusedVariables false
set_option linter.unusedSimpArgs false

variable {P : Program} {T : TT}

def awpR (P : Program) (T : TT) (nx : Nat) : Code → ASt → (AEx → ASt → Prop) → Prop
  | .seq a b, s, K => awpR P T nx a s (seqK (fun s' => awpR P T nx b s' K) K)
  | .block id c, s, K => awpR P T nx c s (blkK id K)
  | .rangeFunc g ps asn bd, s, K => ∃ s', Ent nx s s' ∧ rangeA P T g ps asn bd s' K
  | c, s, K => awp P T nx c s K

theorem awpR_sound (hT : TabOk P T) (hm : P.follows .mixedOrders = true) {Γ : Ctx} {n : Nat} : ∀ (c : Code) (s : ASt) (K : AEx → ASt → Prop), awpR P T Γ.nx c s K → ∀ (Q : Exit → Act → World → Prop) (a : Act) (w : World), Rel Γ s.view a w →
    (∀ x s' a' w', K x s' → Rel Γ s'.view a' w' → Q x.ex a' w') → c.wpIn Fence.wide n P Q a w
  | .seq x y, s, K, h, Q, a, w, hR, hQ => by
    refine wpIn_seq (awpR_sound hT hm x s _ h _ a w hR (fun e s' a' w' hK hR' => ?_))
    cases e with
    | nrm => exact awpR_sound hT hm y s' K hK Q a' w' hR' hQ
    | ext id => exact hQ (.ext id) s' a' w' hK hR'
    | ret => exact hQ .ret s' a' w' hK hR'
  | .block id c, s, K, h, Q, a, w, hR, hQ => by
    refine wpIn_block (awpR_sound hT hm c s _ h _ a w hR (fun e s' a' w' hK hR' => ?_))
    cases e with
    | nrm => exact hQ .nrm s' a' w' hK hR'
    | ext id' =>
      simp only [blkK] at hK
      simp only [AEx.ex, Exit.inBlock]
      split at hK
      · rename_i e; rw [if_pos e]; exact hQ .nrm s' a' w' hK hR'
      · rename_i e; rw [if_neg e]; exact hQ (.ext id') s' a' w' hK hR'
    | ret => exact hQ .ret s' a' w' hK hR'
  | .rangeFunc g ps asn bd, s, K, ⟨s', he, h⟩, Q, a, w, hR, hQ => range_sound hT hm h (he Γ a w rfl hR) hQ
  | .skip, s, K, h, Q, a, w, hR, hQ => wpIn_wide.2 (awp_sound hT hm (.skip) s K h Q a w hR hQ)
  | .region id ops dr, s, K, h, Q, a, w, hR, hQ => wpIn_wide.2 (awp_sound hT hm (.region id ops dr) s K h Q a w hR hQ)
  | .cond c x y, s, K, h, Q, a, w, hR, hQ => wpIn_wide.2 (awp_sound hT hm (.cond c x y) s K h Q a w hR hQ)
  | .loop c, s, K, h, Q, a, w, hR, hQ => wpIn_wide.2 (awp_sound hT hm (.loop c) s K h Q a w hR hQ)
  | .exit id, s, K, h, Q, a, w, hR, hQ => wpIn_wide.2 (awp_sound hT hm (.exit id) s K h Q a w hR hQ)
  | .ret, s, K, h, Q, a, w, hR, hQ => wpIn_wide.2 (awp_sound hT hm .ret s K h Q a w hR hQ)
  | .label l, s, K, h, Q, a, w, hR, hQ => wpIn_wide.2 (awp_sound hT hm (.label l) s K h Q a w hR hQ)
  | .scope x, s, K, h, Q, a, w, hR, hQ => wpIn_wide.2 (awp_sound hT hm (.scope x) s K h Q a w hR hQ)
  | .goto l, s, K, h, Q, a, w, hR, hQ => wpIn_wide.2 (awp_sound hT hm (.goto l) s K h Q a w hR hQ)
  | .refuse x, s, K, h, Q, a, w, hR, hQ => wpIn_wide.2 (awp_sound hT hm (.refuse x) s K h Q a w hR hQ)

theorem meets_of_awpR (hT : TabOk P T) (hm : P.follows .mixedOrders = true) {f : Nat} {fn : Func} {code : Code} (hf : P.funcs[f]? = some fn) (hb : fn.body = some code) {rs : List ResultVar} (hr : fn.results = rs.toArray)
    {H H' : List (List AV)} {args : List AV} {r : AV} (h : awpR P T H.length code ⟨args ++ List.replicate (fn.ntmps - args.length) .und, H⟩ (ends T rs H.length r H')) : Meets P f H args r H' := by
  intro w E X vs hkp hE hH h1 hv
  have hsz : vs.size = args.length := by simpa using hv.1
  have hreg : VRs E (args ++ List.replicate (fn.ntmps - args.length) .und) (vs ++ Array.replicate (fn.ntmps - vs.size) undef).toList := by
    rw [Array.toList_append, Array.toList_replicate, hsz]
    refine hv.append ⟨by simp, fun j c v x y => ?_⟩
    rw [List.getElem?_replicate] at x y
    split at x
    · rename_i hj
      rw [if_pos hj] at y
      injection x with x; injection y with y
      subst x; subst y; exact .und
    · cases x
  have hRel : Rel ⟨w, X, E, H.length⟩ (ASt.mk (args ++ List.replicate (fn.ntmps - args.length) .und) H).view { tmps := vs ++ Array.replicate (fn.ntmps - vs.size) undef, defers := [] } w := by
    refine ⟨E, hE, ⟨by simpa [ASt.view] using hreg.1, Marks.nil, fun r => ?_, hH.1, fun b hb => ?_, hE.gl⟩⟩
    · simp only [ASt.view]
      rw [nth_eq]
      cases hx : (args ++ List.replicate (fn.ntmps - args.length) AV.und)[r]? with
      | none => exact .non _
      | some c =>
        obtain ⟨v, y1, y2⟩ := hreg.get hx
        rw [Array.getElem?_toList] at y1
        simp only [Array.getD_eq_getD_getElem?, y1, Option.getD_some]
        exact y2
    · simp only [ASt.view, decide_eq_false_iff_not] at hb
      exact hH.2 b (by omega)
  refine (callsIn_wide (n := 0)).1 (callsIn_of_wp_marks hf hb trivial (awpR_sound hT hm (Γ := ⟨w, X, E, H.length⟩) code _ _ h _ _ _ hRel (fun x s' a' w' hK hR => ?_)) rfl)
  have fin : (∃ s', Rel ⟨w, X, E, H.length⟩ s'.view a' w' ∧ resK T s' rs fun vs => ∃ bs, Keeps H.length bs ∧ Wk (nthN bs) bs.length (sing vs) r ∧ WkHs (nthN bs) bs.length s'.heap bs H') →
      LeavesInM Fence.wide 0 P fn a'.tmps (fun e w' => ∃ v E', e = .returned v ∧ EOk ⟨w, X, E, H.length⟩ E' w' ∧ HOk E' w' H' ∧ VR E' r v) a'.defers .returning w' := by
    rintro ⟨s', hR, hres⟩
    obtain ⟨E1, hE1, hS1⟩ := hR
    exact leaves_marks hT (f := f) (Γ := ⟨w, X, E, H.length⟩) hr hkp hres a'.defers E1 a'.tmps w' hE1 hS1
  cases x with
  | nrm => obtain ⟨s1, h1, h2⟩ := hK; exact fin ⟨s1, h1 _ _ _ rfl hR, h2⟩
  | ret => obtain ⟨s1, h1, h2⟩ := hK; exact fin ⟨s1, h1 _ _ _ rfl hR, h2⟩
  | ext id => exact hK.elim

end Go.Ab
