/- For all arguments that hold at most 1048576 values together, TopBlankWeighed answers true and leaves its arguments alone. -/
import Derived.Test.YtlihngoejfmheaaRows
import Derived.Test.YtlihngoejfmheaaJ4
import Derived.Test.YtlihngoejfmheaaR1
import Derived.WalkKit
import Derived.ProofKit
import Derived.OpenShut
import Derived.JoinedCond
namespace Go.Proofs.Ytlihngoejfmheaa.topBlankWeighed
open Go Go.Ab
open Go.ChangeShapes Go.WideShapes Go.ChangeAt Go.RowKit
set_option linter.unusedVariables false
set_option linter.unusedSimpArgs false

theorem own : ownKnob Try.prog.godebug = none := by kernel_rfl
theorem laidOut : laidOutB Try.prog = true := by kernel_rfl
theorem meets (x0 : (Int × (Int × (List ((Int × (Int × (Int × (Int × (Int × Bool)))))) × List ((Int × (Int × (Int × (Bool × Bool))))))))) (x1 : List ((List UInt8 × (Int × (Int × Int))))) (x2 : (Int × Int)) (b0 : bulkT (.pair (.int .i64) (.pair (.int .i64) (.pair (.list (.pair (.int .i64) (.pair (.int .i64) (.pair (.int .i64) (.pair (.int .i64) (.pair (.int .i64) .bool)))))) (.list (.pair (.int .i64) (.pair (.int .i64) (.pair (.int .i64) (.pair .bool .bool)))))))) x0 ≤ 1048576) (w0 : wfT (.pair (.int .i64) (.pair (.int .i64) (.pair (.list (.pair (.int .i64) (.pair (.int .i64) (.pair (.int .i64) (.pair (.int .i64) (.pair (.int .i64) .bool)))))) (.list (.pair (.int .i64) (.pair (.int .i64) (.pair (.int .i64) (.pair .bool .bool)))))))) x0) (b1 : bulkT (.list (.pair .str (.pair (.int .i64) (.pair (.int .i64) (.int .i64))))) x1 ≤ 1048576) (w1 : wfT (.list (.pair .str (.pair (.int .i64) (.pair (.int .i64) (.int .i64))))) x1) (b2 : bulkT (.pair (.int .i64) (.int .i64)) x2 ≤ 1048576) (w2 : wfT (.pair (.int .i64) (.int .i64)) x2) : Meets Try.prog 5 [] [(VT.sv (.agg (.pair (.int .i64) (.pair (.int .i64) (.pair (.list (.pair (.int .i64) (.pair (.int .i64) (.pair (.int .i64) (.pair (.int .i64) (.pair (.int .i64) .bool)))))) (.list (.pair (.int .i64) (.pair (.int .i64) (.pair (.int .i64) (.pair .bool .bool))))))))) x0).av, (VT.sv (.one (.list (.pair .str (.pair (.int .i64) (.pair (.int .i64) (.int .i64)))))) x1).av, (VT.sv (.agg (.pair (.int .i64) (.int .i64))) x2).av] (.bool true) [] :=
  meets_law ok_top_TopBlankWeighed (x := (x0, x1, x2, ())) (y := ()) (y' := ()) (r := (true, ())) ((show c_top_TopBlankWeighed.fn (x0, x1, x2, ()) () = top_TopBlankWeighed x0 x1 x2 by kernel_rfl).trans (k_TopBlankWeighed b0 w0 b1 w1 b2 w2)) (by kernel_rfl) (by kernel_rfl) (by kernel_rfl) (by kernel_rfl) (by kernel_rfl)

set_option maxRecDepth 100000 in
theorem contract (H : Type) (enc : TypeId × Value → H) (W : World) (base : Nat) (args : Array Value) (ds gs : List (DataW H)) (before : List MemPlace)
    (hval : ∀ (j : Nat) t v, Try.f5.params[j]? = some t → args[j]? = some v → Value.okWide Try.prog W .any base t v)
    (hW : DataW.Whole enc Try.prog Try.f5.params.toList Rows.topBlankWeighedSpec.vars false W args.toList ds gs before) (hk : Rows.uptoSmall H (ds ++ gs) = true) :
    Calls Try.prog 5 args W fun e W' => ∃ v, e = .returned v ∧ Rows.topBlankWeighedSpec.post enc Try.prog Try.f5 false true false false W args v W' := by
  have hW' := hW
  obtain ⟨p, q, hA0, hV, rfl, hfz, hnd⟩ := hW
  have hA : DataW.TrodAll enc Try.prog W 0 (fun _ => true) true Try.f5.params.toList args.toList ds p := hA0
  rw [Try.params5] at hA hval
  obtain ⟨v0, v1, v2, d0, d1, d2, p0, p1, p2, rfl, rfl, rfl, h0, h1, h2⟩ := trodAll_three hA
  obtain ⟨rfl, rfl⟩ := trodVars_none hV
  obtain ⟨x0, r0, b0, w0⟩ := read_val (.agg (.pair (.int .i64) (.pair (.int .i64) (.pair (.list (.pair (.int .i64) (.pair (.int .i64) (.pair (.int .i64) (.pair (.int .i64) (.pair (.int .i64) .bool)))))) (.list (.pair (.int .i64) (.pair (.int .i64) (.pair (.int .i64) (.pair .bool .bool))))))))) (by kernel_rfl) (hval 0 25 v0 rfl rfl) h0
  obtain ⟨x1, r1, b1, w1⟩ := read_val (.one (.list (.pair .str (.pair (.int .i64) (.pair (.int .i64) (.int .i64)))))) (by kernel_rfl) (hval 1 41 v1 rfl rfl) h1
  obtain ⟨x2, r2, b2, w2⟩ := read_val (.agg (.pair (.int .i64) (.int .i64))) (by kernel_rfl) (hval 2 26 v2 rfl rfl) h2
  clear hA0
  simp only [List.append_nil] at hW' hk
  have s0 := Nat.le_trans b0 (bulk_small (d := d0) (by simp) hk)
  have s1 := Nat.le_trans b1 (bulk_small (d := d1) (by simp) hk)
  have s2 := Nat.le_trans b2 (bulk_small (d := d2) (by simp) hk)
  refine (law_true (meets x0 x1 x2 s0 w0 s1 w1 s2 w2) (VRs.cons r0 (VRs.cons r1 (VRs.cons r2 VRs.nil)))).mono fun e W' ⟨he, hb⟩ => ?_
  subst he
  refine ⟨_, rfl, post_of_below (pa := p0 ++ (p1 ++ p2)) (pv := []) hW' (fun _ _ _ => trodAll_cons_mk (shut_bool Try.underlying4 _) trodAll_mk0) (fun sp hsp => ?_) (fun _ _ => rfl) (by simp) hb (ok_one (by kernel_rfl) rfl (okWide_bool_mk Try.underlying4 _))⟩
  have hlt : ∀ x ∈ p0 ++ p1 ++ p2, x.block < W.heap.size := fun x hx => hW'.lt x hx
  rw [Try.params5]
  exact trodAll_mk3
    (WideElems.Trod_stays laidOut (by kernel_rfl) (of_decide_eq_true (by kernel_rfl)) h0 (fun x hx => hb.same (hlt x (List.mem_append_left _ (List.mem_append_left _ hx)))) (fun x hx => hsp x (List.mem_append_left _ (List.mem_append_left _ hx))))
    (WideElems.Trod_stays laidOut (by kernel_rfl) (of_decide_eq_true (by kernel_rfl)) h1 (fun x hx => hb.same (hlt x (List.mem_append_left _ (List.mem_append_right _ hx)))) (fun x hx => hsp x (List.mem_append_left _ (List.mem_append_right _ hx))))
    (WideElems.Trod_stays laidOut (by kernel_rfl) (of_decide_eq_true (by kernel_rfl)) h2 (fun x hx => hb.same (hlt x (List.mem_append_right _ hx))) (fun x hx => hsp x (List.mem_append_right _ hx)))

set_option maxRecDepth 100000 in
theorem lifted (os : Os) (started : os.Started) (H : Type) (enc : TypeId × Value → H) (F : Stop.Interp) :
    ReturnsInHanded {} Try.checked os 5 .any ((Rows.OpenSpec.upto Rows.topBlankWeighedSpec).pre6 enc Try.prog Try.f5 Rows.topBlankWeighedUptoRow.domain false) (((Rows.OpenSpec.upto Rows.topBlankWeighedSpec).at F).post enc Try.prog Try.f5 false true false false) := by
  refine returnsInHanded_of_cond (C := Try.checked) (s := Rows.OpenSpec.upto Rows.topBlankWeighedSpec) (k := Rows.uptoSmall) rfl own started (by kernel_rfl) Try.func5
    (OpenSpec.witness (enc := enc) (C := Try.checked) (s := Rows.OpenSpec.upto Rows.topBlankWeighedSpec) (k := Rows.uptoSmall) rfl false ⟨#[], #[.agg #[.int .i64 0, .int .i64 0, .slice none 0 0, .slice none 0 0], .slice none 0 0, .agg #[.int .i64 0, .int .i64 0]], []⟩ 8 (by kernel_rfl) (by kernel_rfl) (by kernel_rfl)
      (x := ([.agg [.lit (.int .i64 0), .lit (.int .i64 0), .nil, .nil], .nil, .agg [.lit (.int .i64 0), .lit (.int .i64 0)]], [], [])) (by kernel_rfl) rfl (by kernel_rfl)) ?_
  intro W base args ds gs before hval hW _ hk _
  exact contract H enc W base args ds gs before hval hW hk

theorem proved : Rows.TopBlankWeighedUptoSaid :=
  OpenClaim.holds_of_cond 5 Try.f5 rfl rfl rfl rfl rfl rfl rfl ⟨rfl, rfl, rfl, rfl, rfl⟩ rfl rfl rfl rfl rfl (by kernel_rfl) Try.func5 (by kernel_rfl)
    (of_decide_eq_true (by kernel_rfl)) (by unfold Func.isWrapper; first | (rw [if_pos (by decide +kernel)]; kernel_rfl) | (rw [if_neg (by decide +kernel)]; exact ⟨rfl, rfl⟩))
    (fun os started H enc _ F => lifted os started H enc F)
end Go.Proofs.Ytlihngoejfmheaa.topBlankWeighed
