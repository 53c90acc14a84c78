/- For all arguments that hold at most 1048576 values together, OpticsDesigns answers true and leaves its arguments alone. -/
import Derived.Test.YtpghhfnlfmlakaaGreatDoorCards
import Derived.Test.YtpghhfnlfmlakaaGreatDoorTie
import Derived.Deep.DeepHandedRow
import Derived.Lay
import Derived.SevenTiedAt
import Derived.Shelf.Vars
import Derived.Test.YtpghhfnlfmlakaaGreatDoorGW
import Derived.LaidMore
import Derived.MakeChecks
import Derived.Test.YtpghhfnlfmlakaaGreatDoorRows
import Derived.Test.YtpghhfnlfmlakaaGreatDoorP3
import Derived.Test.YtpghhfnlfmlakaaGreatDoorR1
import Derived.WalkKit
import Derived.ProofKit
import Derived.OpenShut
import Derived.JoinedCond
namespace Go.Proofs.YtpghhfnlfmlakaaGreatDoor.opticsDesigns
open Go Go.Ab
open Go.ChangeShapes Go.WideShapes Go.ChangeAt Go.RowKit
set_option linter.unusedVariables false
set_option linter.unusedSimpArgs false

theorem own : ownKnob Tryz.prog.godebug = none := by kernel_rfl
theorem laidOut : laidOutB Tryz.prog = true := by kernel_rfl
theorem meets (x0 : (List UInt8 × List ((List UInt8 × ((Int × (Int × Int)) × (Int × Int)))))) (b0 : bulkT (.pair .str (.list (.pair .str (.pair (.pair (.int .i64) (.pair (.int .i64) (.int .i64))) (.pair (.int .i64) (.int .i64)))))) x0 ≤ 1048576) (w0 : wfT (.pair .str (.list (.pair .str (.pair (.pair (.int .i64) (.pair (.int .i64) (.int .i64))) (.pair (.int .i64) (.int .i64)))))) x0) : Meets Tryz.prog 5 [] [(VT.sv (.agg (.pair .str (.list (.pair .str (.pair (.pair (.int .i64) (.pair (.int .i64) (.int .i64))) (.pair (.int .i64) (.int .i64))))))) x0).av] (.bool true) [] :=
  meets_law ok_law02xOpticsDesigns (x := (x0, ())) (y := ()) (y' := ()) (r := (true, ())) ((show c_law02xOpticsDesigns.fn (x0, ()) () = law02xOpticsDesigns x0 by kernel_rfl).trans (k_OpticsDesigns b0 w0)) (by kernel_rfl) (by kernel_rfl) (by kernel_rfl) (by kernel_rfl) (by kernel_rfl)

set_option maxRecDepth 100000 in
theorem contract (H : Type) (enc : TypeId × Value → H) (W : World) (base : Nat) (args : Array Value) (ds gs : List (DataW H)) (before : List MemPlace)
    (hval : ∀ (j : Nat) t v, Tryz.f5.params[j]? = some t → args[j]? = some v → Value.okWide Tryz.prog W .any base t v)
    (hW : DataW.Whole enc Tryz.prog Tryz.f5.params.toList Rows.opticsDesignsSpec.vars false W args.toList ds gs before) (hk : Rows.uptoSmall H (ds ++ gs) = true) (hL : laidMetH Tryz.prog Rows.opticsDesignsUptoRow.laid W) (hsh : W.ShapedOpen Tryz.prog) :
    Calls Tryz.prog 5 args W fun e W' => ∃ v, e = .returned v ∧ Rows.opticsDesignsSpec.post enc Tryz.prog Tryz.f5 false true false false W args v W' := by
  have hW' := hW
  obtain ⟨p0, q, hA0, hV, rfl, hfz, hnd⟩ := hW
  have hA : DataW.TrodAll enc Tryz.prog W 0 (fun _ => true) true Tryz.f5.params.toList args.toList ds p0 := hA0
  rw [Tryz.params5] at hA hval
  obtain ⟨v0, d0, rfl, rfl, h0⟩ := trodAll_one hA
  obtain ⟨rfl, rfl⟩ := trodVars_none hV
  obtain ⟨x0, r0, b0, w0⟩ := read_val (.agg (.pair .str (.list (.pair .str (.pair (.pair (.int .i64) (.pair (.int .i64) (.int .i64))) (.pair (.int .i64) (.int .i64))))))) (by kernel_rfl) (hval 0 47 v0 rfl rfl) h0
  clear hA0
  simp only [List.append_nil] at hW' hk
  rw [MakeChecks.laidMetH_plain _ _ _ (by kernel_rfl)] at hL
  obtain ⟨hg, hg2⟩ := glob_of hL hsh (List.mem_of_getElem? (i := 6) rfl) (List.mem_of_getElem? (i := 7) rfl) (List.mem_of_getElem? (i := 2) rfl) (List.mem_of_getElem? (i := 5) rfl) (List.mem_of_getElem? (i := 4) rfl)
  have s0 := Nat.le_trans b0 (bulk_small (d := d0) (by simp) hk)
  refine (law_true hg hg2 (meets x0 s0 w0) (VRs.cons r0 VRs.nil)).mono fun e W' ⟨he, hb⟩ => ?_
  subst he
  refine ⟨_, rfl, post_of_below (pa := p0) (pv := []) hW' (fun _ _ _ => trodAll_cons_mk (shut_bool Tryz.underlying4 _) trodAll_mk0) (fun sp hsp => ?_) (fun _ _ => rfl) (by simp) hb (ok_one (by kernel_rfl) rfl (okWide_bool_mk Tryz.underlying4 _))⟩
  have hlt : ∀ x ∈ p0, x.block < W.heap.size := fun x hx => hW'.lt x hx
  rw [Tryz.params5]
  exact trodAll_mk1
    (WideElems.Trod_stays laidOut (by kernel_rfl) (of_decide_eq_true (by kernel_rfl)) h0 (fun x hx => hb.same (hlt x hx)) (fun x hx => hsp x hx))

theorem cl : Tryz.pinned.checked.prog.closure 5 = [5, 20, 53, 52, 86, 112, 100, 113, 157, 114, 115, 87, 136, 89, 90, 137, 177, 203, 192, 138, 88, 54, 91, 139, 141, 95, 102, 150, 180, 147, 182, 183, 181, 144, 151, 184, 94, 145, 96, 146, 140, 92, 142, 99, 143, 179, 178, 93, 97, 55, 98, 101, 149, 103, 148, 104, 105, 24, 26, 25, 60, 61, 111, 62, 27, 28, 38, 73, 126, 162, 163, 191, 193, 164, 165, 194, 195, 205, 206, 63, 116, 82, 133, 158, 187, 48, 49, 29, 45, 81, 79, 64, 65, 117, 46, 159, 188, 80, 118, 160, 30, 31, 44, 21, 39, 74, 127, 166, 167, 196, 128, 168, 129, 169, 134, 176, 197, 198, 199, 207, 56, 106, 152, 57, 107, 108, 109, 153, 185, 51, 85, 135, 204, 75, 130, 170, 200, 208, 209, 131, 171, 201, 172, 173, 202, 174, 76, 132, 175, 186, 23] := by kernel_rfl
theorem rec_self : ((Tryz.pinned.checked.prog.funcs[182]?).elim [] Tryz.pinned.checked.prog.leadsTo).any (fun h => (Tryz.pinned.checked.prog.closure h).contains 182) = true := by kernel_rfl
set_option maxRecDepth 100000 in
theorem recurses : Tryz.pinned.checked.prog.recurses 5 = true := by
  have h : (Tryz.pinned.checked.prog.closure 5).any (fun g => ((Tryz.pinned.checked.prog.funcs[g]?).elim [] Tryz.pinned.checked.prog.leadsTo).any fun h => (Tryz.pinned.checked.prog.closure h).contains g) = true := List.any_eq_true.2 ⟨182, by rw [cl]; simp, rec_self⟩
  unfold Program.recurses
  rw [h, Bool.or_true]

set_option maxRecDepth 1000000 in
theorem laid_met (os : Os) : laidMet Tryz.prog Rows.opticsDesignsUptoRow.laid ((startW os Rows.opticsDesignsUptoRow.laid).forCall (fun _ _ => 0) ⟨#[], #[.agg #[.string ⟨#[]⟩, .slice none 0 0]], []⟩).memory :=
  startW_met _ (by kernel_rfl) (by kernel_rfl) (LaidIn.of_run [0, 16] 8 (by kernel_rfl) (by kernel_rfl) (by kernel_rfl) (by kernel_rfl))
theorem reads (os : Os) {H : Type} (enc : TypeId × Value → H) : ∃ places, DataW.whole enc Tryz.prog ((startW os Rows.opticsDesignsUptoRow.laid).forCall (fun _ _ => 0) ⟨#[], #[.agg #[.string ⟨#[]⟩, .slice none 0 0]], []⟩).memory Tryz.f5.params.toList Rows.opticsDesignsSpec.vars false (#[.agg #[.string ⟨#[]⟩, .slice none 0 0]] : Array Value).toList 8 = some ([.agg [.lit (.string []), .nil]], [], places) :=
  ⟨[], by kernel_rfl⟩
set_option maxRecDepth 100000 in
theorem lifted (os : Os) (started : os.Started) (H : Type) (enc : TypeId × Value → H) (F : Stop.Interp) :
    ReturnsInHanded {} Tryz.checked os 5 .any ((Rows.OpenSpec.upto Rows.opticsDesignsSpec).preRow enc Tryz.prog Tryz.f5 Rows.opticsDesignsUptoRow.domain false Rows.opticsDesignsUptoRow.laid) (((Rows.OpenSpec.upto Rows.opticsDesignsSpec).at F).post enc Tryz.prog Tryz.f5 false true false false) := by
  obtain ⟨places, hx⟩ := reads os enc
  refine returnsInHanded_of_row (C := Tryz.checked) (s := Rows.OpenSpec.upto Rows.opticsDesignsSpec) own started (by kernel_rfl) Tryz.func5
    (witness_row_atRef (enc := enc) (C := Tryz.checked) false (startW os Rows.opticsDesignsUptoRow.laid) #[.agg #[.string ⟨#[]⟩, .slice none 0 0]] (startW_os _ _) (by kernel_rfl) (by kernel_rfl) (by kernel_rfl)
      (OpenSpec.preRow_of_cond 8 hx (by kernel_rfl) (fun k hk => by cases hk; kernel_rfl) (by kernel_rfl) (laid_met os))) ?_
  intro W base args ds gs before hval hW _ hcond _ hL hsh _
  exact contract H enc W base args ds gs before hval hW (hcond _ rfl) hL hsh
theorem row : Rows.OpticsDesignsUptoSaid :=
  OpenClaim.holds_of_cond 5 Tryz.f5 rfl rfl rfl rfl rfl rfl rfl ⟨rfl, rfl, rfl, rfl, rfl⟩ rfl rfl rfl rfl rfl (by kernel_rfl) Tryz.func5 (by unfold joinedFacts; rw [recurses]; unfold Program.inPlace Program.unfollowed Program.varsNamed; rw [cl]; kernel_rfl)
    (of_decide_eq_true (by kernel_rfl)) (by unfold Func.isWrapper; first | (rw [if_pos (by decide +kernel)]; kernel_rfl) | (rw [if_neg (by decide +kernel)]; exact ⟨rfl, rfl⟩))
    (fun os started H enc _ F => by rw [OpenClaim.pre_eq_preRow]; exact lifted os started H enc F)
theorem plain (f : FuncId) (fn : Func) (hf : Tryz.pinned.checked.prog.funcNamed Rows.opticsDesignsUptoRow.func = some f) (hfn : Tryz.pinned.checked.prog.funcs[f]? = some fn) :
    true = Tryz.pinned.checked.prog.looks [] ∧ ∀ (j : Nat) t, fn.params[j]? = some t → Tryz.pinned.checked.prog.wantsStandIn t = false := by
  obtain rfl : f = 5 := Option.some.inj ((show Tryz.prog.funcNamed Rows.opticsDesignsUptoRow.func = some 5 by kernel_rfl).symm.trans hf) |>.symm
  obtain rfl : fn = Tryz.f5 := (Option.some.inj (Tryz.func5.symm.trans hfn)).symm
  refine ⟨by kernel_rfl, fun j t ht => ?_⟩
  rw [Tryz.params5] at ht
  have hm : t ∈ [47] := by simpa using Array.mem_of_getElem? ht
  simp only [List.mem_cons, List.not_mem_nil, or_false] at hm
  rcases hm with rfl
  · exact (show Tryz.prog.wantsStandIn 47 = false by kernel_rfl)
theorem proved : Rows.OpticsDesignsUptoCardSaid :=
  Claim7.holds_tied_plain_at .later [] _ _ _ _ row (fun _ h => by cases h) (by kernel_rfl) (fun _ h => by cases h) opticsDesignsUpto_row_tie rfl ⟨rfl, rfl⟩ (by kernel_rfl) rfl plain (by kernel_rfl)
end Go.Proofs.YtpghhfnlfmlakaaGreatDoor.opticsDesigns
