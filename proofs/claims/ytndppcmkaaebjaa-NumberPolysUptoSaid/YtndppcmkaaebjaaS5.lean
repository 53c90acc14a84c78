/- For all arguments that hold at most 1048576 values together, NumberPolys answers true and leaves its arguments alone. -/
import Derived.Test.YtndppcmkaaebjaaRows
import Derived.Test.YtndppcmkaaebjaaF8
import Derived.Test.YtndppcmkaaebjaaR1
import Derived.WalkKit
import Derived.ProofKit
import Derived.OpenShut
import Derived.JoinedCond
namespace Go.Proofs.Ytndppcmkaaebjaa.numberPolys
open Go Go.Ab
open Go.ChangeShapes Go.WideShapes Go.ChangeAt Go.RowKit
set_option linter.unusedVariables false
set_option linter.unusedSimpArgs false

theorem own : ownKnob Try.prog.godebug = none := by kernel_rfl
theorem laidOut : laidOutB Try.prog = true := by kernel_rfl
theorem meets (x0 : List (Int)) (b0 : bulkT (.list (.int .i64)) x0 ≤ 1048576) (w0 : wfT (.list (.int .i64)) x0) : Meets Try.prog 6 [] [(VT.sv (.one (.list (.int .i64))) x0).av] (.bool true) [] :=
  meets_law ok_law01xNumberPolys (x := (x0, ())) (y := ()) (y' := ()) (r := (true, ())) ((show c_law01xNumberPolys.fn (x0, ()) () = law01xNumberPolys x0 by kernel_rfl).trans (k_NumberPolys b0 w0)) (by kernel_rfl) (by kernel_rfl) (by kernel_rfl) (by kernel_rfl) (by kernel_rfl)

set_option maxRecDepth 100000 in
theorem contract (H : Type) (enc : TypeId × Value → H) (W : World) (base : Nat) (args : Array Value) (ds gs : List (DataW H)) (before : List MemPlace)
    (hval : ∀ (j : Nat) t v, Try.f6.params[j]? = some t → args[j]? = some v → Value.okWide Try.prog W .any base t v)
    (hW : DataW.Whole enc Try.prog Try.f6.params.toList Rows.numberPolysSpec.vars false W args.toList ds gs before) (hk : Rows.uptoSmall H (ds ++ gs) = true) :
    Calls Try.prog 6 args W fun e W' => ∃ v, e = .returned v ∧ Rows.numberPolysSpec.post enc Try.prog Try.f6 false true false false W args v W' := by
  have hW' := hW
  obtain ⟨p0, q, hA0, hV, rfl, hfz, hnd⟩ := hW
  have hA : DataW.TrodAll enc Try.prog W 0 (fun _ => true) true Try.f6.params.toList args.toList ds p0 := hA0
  rw [Try.params6] at hA hval
  obtain ⟨v0, d0, rfl, rfl, h0⟩ := trodAll_one hA
  obtain ⟨rfl, rfl⟩ := trodVars_none hV
  obtain ⟨x0, r0, b0, w0⟩ := read_val (.one (.list (.int .i64))) (by kernel_rfl) (hval 0 22 v0 rfl rfl) h0
  clear hA0
  simp only [List.append_nil] at hW' hk
  have s0 := Nat.le_trans b0 (bulk_small (d := d0) (by simp) hk)
  refine (law_true (meets x0 s0 w0) (VRs.cons r0 VRs.nil)).mono fun e W' ⟨he, hb⟩ => ?_
  subst he
  refine ⟨_, rfl, post_of_below (pa := p0) (pv := []) hW' (fun _ _ _ => trodAll_cons_mk (shut_bool Try.underlying4 _) trodAll_mk0) (fun sp hsp => ?_) (fun _ _ => rfl) (by simp) hb (ok_one (by kernel_rfl) rfl (okWide_bool_mk Try.underlying4 _))⟩
  have hlt : ∀ x ∈ p0, x.block < W.heap.size := fun x hx => hW'.lt x hx
  rw [Try.params6]
  exact trodAll_mk1
    (WideElems.Trod_stays laidOut (by kernel_rfl) (of_decide_eq_true (by kernel_rfl)) h0 (fun x hx => hb.same (hlt x hx)) (fun x hx => hsp x hx))

theorem cl : Try.pinned.checked.prog.closure 6 = [6, 12, 38, 78, 43, 81, 68, 79, 29, 76, 101, 112, 113, 14, 61, 26, 62, 88, 63, 89, 97, 107, 90, 105, 91, 98, 108, 109, 65, 64, 92, 73, 60, 87, 69, 70, 15, 25, 75, 23, 20, 27, 28] := by kernel_rfl
theorem rec_self : ((Try.pinned.checked.prog.funcs[81]?).elim [] Try.pinned.checked.prog.leadsTo).any (fun h => (Try.pinned.checked.prog.closure h).contains 81) = true := by kernel_rfl
set_option maxRecDepth 100000 in
theorem recurses : Try.pinned.checked.prog.recurses 6 = true := by
  have h : (Try.pinned.checked.prog.closure 6).any (fun g => ((Try.pinned.checked.prog.funcs[g]?).elim [] Try.pinned.checked.prog.leadsTo).any fun h => (Try.pinned.checked.prog.closure h).contains g) = true := List.any_eq_true.2 ⟨81, by rw [cl]; simp, rec_self⟩
  unfold Program.recurses
  rw [h, Bool.or_true]

set_option maxRecDepth 100000 in
theorem lifted (os : Os) (started : os.Started) (H : Type) (enc : TypeId × Value → H) (F : Stop.Interp) :
    ReturnsInHanded {} Try.checked os 6 .any ((Rows.OpenSpec.upto Rows.numberPolysSpec).pre6 enc Try.prog Try.f6 Rows.numberPolysUptoRow.domain false) (((Rows.OpenSpec.upto Rows.numberPolysSpec).at F).post enc Try.prog Try.f6 false true false false) := by
  refine returnsInHanded_of_cond (C := Try.checked) (s := Rows.OpenSpec.upto Rows.numberPolysSpec) (k := Rows.uptoSmall) rfl own started (by kernel_rfl) Try.func6
    (OpenSpec.witness (enc := enc) (C := Try.checked) (s := Rows.OpenSpec.upto Rows.numberPolysSpec) (k := Rows.uptoSmall) rfl false ⟨#[], #[.slice none 0 0], []⟩ 8 (by kernel_rfl) (by kernel_rfl) (by kernel_rfl)
      (x := ([.nil], [], [])) (by kernel_rfl) rfl (by kernel_rfl)) ?_
  intro W base args ds gs before hval hW _ hk _
  exact contract H enc W base args ds gs before hval hW hk

theorem proved : Rows.NumberPolysUptoSaid :=
  OpenClaim.holds_of_cond 6 Try.f6 rfl rfl rfl rfl rfl rfl rfl ⟨rfl, rfl, rfl, rfl, rfl⟩ rfl rfl rfl rfl rfl (by kernel_rfl) Try.func6 (by unfold joinedFacts; rw [recurses]; unfold Program.inPlace Program.unfollowed Program.varsNamed; rw [cl]; kernel_rfl)
    (of_decide_eq_true (by kernel_rfl)) (by unfold Func.isWrapper; first | (rw [if_pos (by decide +kernel)]; kernel_rfl) | (rw [if_neg (by decide +kernel)]; exact ⟨rfl, rfl⟩))
    (fun os started H enc _ F => lifted os started H enc F)
end Go.Proofs.Ytndppcmkaaebjaa.numberPolys
