/- For all arguments that hold at most 1048576 values together, OpticsReads answers true and leaves its arguments alone. -/
import Derived.Test.YtpghhfnlfmlakaaGreatDoorCards
import Derived.Test.YtpghhfnlfmlakaaGreatDoorTie
import Derived.Deep.DeepHandedRow
import Derived.Lay
import Derived.SevenTiedAt
import Derived.Shelf.Vars
import Derived.Test.YtpghhfnlfmlakaaGreatDoorGW
import Derived.LaidMore
import Derived.MakeChecks
import Derived.Test.YtpghhfnlfmlakaaGreatDoorRows
import Derived.Test.YtpghhfnlfmlakaaGreatDoorNE
import Derived.Test.YtpghhfnlfmlakaaGreatDoorR1
import Derived.WalkKit
import Derived.ProofKit
import Derived.OpenShut
import Derived.JoinedCond
namespace Go.Proofs.YtpghhfnlfmlakaaGreatDoor.opticsReads
open Go Go.Ab
open Go.ChangeShapes Go.WideShapes Go.ChangeAt Go.RowKit
set_option linter.unusedVariables false
set_option linter.unusedSimpArgs false

theorem own : ownKnob Tryz.prog.godebug = none := by kernel_rfl
theorem laidOut : laidOutB Tryz.prog = true := by kernel_rfl
theorem meets (x0 : List UInt8) (b0 : bulkT .str x0 ≤ 1048576) (w0 : wfT .str x0) : Meets Tryz.prog 4 [] [(VT.sv (.one .str) x0).av] (.bool true) [] :=
  meets_law ok_law02xOpticsReads (x := (x0, ())) (y := ()) (y' := ()) (r := (true, ())) ((show c_law02xOpticsReads.fn (x0, ()) () = law02xOpticsReads x0 by kernel_rfl).trans (k_OpticsReads b0 w0)) (by kernel_rfl) (by kernel_rfl) (by kernel_rfl) (by kernel_rfl) (by kernel_rfl)

set_option maxRecDepth 100000 in
theorem contract (H : Type) (enc : TypeId × Value → H) (W : World) (base : Nat) (args : Array Value) (ds gs : List (DataW H)) (before : List MemPlace)
    (hval : ∀ (j : Nat) t v, Tryz.f4.params[j]? = some t → args[j]? = some v → Value.okWide Tryz.prog W .any base t v)
    (hW : DataW.Whole enc Tryz.prog Tryz.f4.params.toList Rows.opticsReadsSpec.vars false W args.toList ds gs before) (hk : Rows.uptoSmall H (ds ++ gs) = true) (hL : laidMetH Tryz.prog Rows.opticsReadsUptoRow.laid W) (hsh : W.ShapedOpen Tryz.prog) :
    Calls Tryz.prog 4 args W fun e W' => ∃ v, e = .returned v ∧ Rows.opticsReadsSpec.post enc Tryz.prog Tryz.f4 false true false false W args v W' := by
  have hW' := hW
  obtain ⟨p0, q, hA0, hV, rfl, hfz, hnd⟩ := hW
  have hA : DataW.TrodAll enc Tryz.prog W 0 (fun _ => true) true Tryz.f4.params.toList args.toList ds p0 := hA0
  rw [Tryz.params4] at hA hval
  obtain ⟨v0, d0, rfl, rfl, h0⟩ := trodAll_one hA
  obtain ⟨rfl, rfl⟩ := trodVars_none hV
  obtain ⟨x0, r0, b0, w0⟩ := read_val (.one .str) (by kernel_rfl) (hval 0 9 v0 rfl rfl) h0
  clear hA0
  simp only [List.append_nil] at hW' hk
  rw [MakeChecks.laidMetH_plain _ _ _ (by kernel_rfl)] at hL
  obtain ⟨hg, hg2⟩ := glob_of hL hsh (List.mem_of_getElem? (i := 3) rfl) (List.mem_of_getElem? (i := 7) rfl) (List.mem_of_getElem? (i := 8) rfl) (List.mem_of_getElem? (i := 2) rfl) (List.mem_of_getElem? (i := 6) rfl) (List.mem_of_getElem? (i := 5) rfl)
  have s0 := Nat.le_trans b0 (bulk_small (d := d0) (by simp) hk)
  refine (law_true hg hg2 (meets x0 s0 w0) (VRs.cons r0 VRs.nil)).mono fun e W' ⟨he, hb⟩ => ?_
  subst he
  refine ⟨_, rfl, post_of_below (pa := p0) (pv := []) hW' (fun _ _ _ => trodAll_cons_mk (shut_bool Tryz.underlying4 _) trodAll_mk0) (fun sp hsp => ?_) (fun _ _ => rfl) (by simp) hb (ok_one (by kernel_rfl) rfl (okWide_bool_mk Tryz.underlying4 _))⟩
  have hlt : ∀ x ∈ p0, x.block < W.heap.size := fun x hx => hW'.lt x hx
  rw [Tryz.params4]
  exact trodAll_mk1
    (WideElems.Trod_stays laidOut (by kernel_rfl) (of_decide_eq_true (by kernel_rfl)) h0 (fun x hx => hb.same (hlt x hx)) (fun x hx => hsp x hx))

theorem cl : Tryz.pinned.checked.prog.closure 4 = [4, 20, 53, 52, 86, 112, 100, 113, 157, 114, 115, 87, 136, 89, 90, 137, 177, 203, 192, 138, 88, 54, 91, 139, 141, 95, 102, 150, 180, 147, 182, 183, 181, 144, 151, 184, 94, 145, 96, 146, 140, 92, 142, 99, 143, 179, 178, 93, 97, 55, 98, 101, 149, 103, 148, 104, 105, 21, 39, 74, 127, 166, 167, 196, 128, 168, 129, 169, 134, 176, 197, 198, 199, 207, 56, 106, 152, 57, 107, 108, 60, 61, 111, 109, 153, 185, 51, 85, 135, 204, 75, 130, 170, 200, 208, 209, 131, 171, 201, 172, 173, 38, 73, 126, 162, 163, 191, 193, 164, 165, 194, 195, 205, 206, 202, 174, 76, 132, 175, 186, 62, 22, 42, 58, 59, 45, 81, 79, 64, 110, 154, 155, 43, 44, 80, 156, 65, 117, 46, 159, 188, 118, 160, 23] := by kernel_rfl
theorem rec_self : ((Tryz.pinned.checked.prog.funcs[182]?).elim [] Tryz.pinned.checked.prog.leadsTo).any (fun h => (Tryz.pinned.checked.prog.closure h).contains 182) = true := by kernel_rfl
set_option maxRecDepth 100000 in
theorem recurses : Tryz.pinned.checked.prog.recurses 4 = true := by
  have h : (Tryz.pinned.checked.prog.closure 4).any (fun g => ((Tryz.pinned.checked.prog.funcs[g]?).elim [] Tryz.pinned.checked.prog.leadsTo).any fun h => (Tryz.pinned.checked.prog.closure h).contains g) = true := List.any_eq_true.2 ⟨182, by rw [cl]; simp, rec_self⟩
  unfold Program.recurses
  rw [h, Bool.or_true]

set_option maxRecDepth 1000000 in
theorem laid_met (os : Os) : laidMet Tryz.prog Rows.opticsReadsUptoRow.laid ((startW os Rows.opticsReadsUptoRow.laid).forCall (fun _ _ => 0) ⟨#[], #[.string ⟨#[]⟩], []⟩).memory :=
  startW_met _ (by kernel_rfl) (by kernel_rfl) (LaidIn.of_run [0, 16] 8 (by kernel_rfl) (by kernel_rfl) (by kernel_rfl) (by kernel_rfl))
theorem reads (os : Os) {H : Type} (enc : TypeId × Value → H) : ∃ places, DataW.whole enc Tryz.prog ((startW os Rows.opticsReadsUptoRow.laid).forCall (fun _ _ => 0) ⟨#[], #[.string ⟨#[]⟩], []⟩).memory Tryz.f4.params.toList Rows.opticsReadsSpec.vars false (#[.string ⟨#[]⟩] : Array Value).toList 8 = some ([.lit (.string [])], [], places) :=
  ⟨[], by kernel_rfl⟩
set_option maxRecDepth 100000 in
theorem lifted (os : Os) (started : os.Started) (H : Type) (enc : TypeId × Value → H) (F : Stop.Interp) :
    ReturnsInHanded {} Tryz.checked os 4 .any ((Rows.OpenSpec.upto Rows.opticsReadsSpec).preRow enc Tryz.prog Tryz.f4 Rows.opticsReadsUptoRow.domain false Rows.opticsReadsUptoRow.laid) (((Rows.OpenSpec.upto Rows.opticsReadsSpec).at F).post enc Tryz.prog Tryz.f4 false true false false) := by
  obtain ⟨places, hx⟩ := reads os enc
  refine returnsInHanded_of_row (C := Tryz.checked) (s := Rows.OpenSpec.upto Rows.opticsReadsSpec) own started (by kernel_rfl) Tryz.func4
    (witness_row_atRef (enc := enc) (C := Tryz.checked) false (startW os Rows.opticsReadsUptoRow.laid) #[.string ⟨#[]⟩] (startW_os _ _) (by kernel_rfl) (by kernel_rfl) (by kernel_rfl)
      (OpenSpec.preRow_of_cond 8 hx (by kernel_rfl) (fun k hk => by cases hk; kernel_rfl) (by kernel_rfl) (laid_met os))) ?_
  intro W base args ds gs before hval hW _ hcond _ hL hsh _
  exact contract H enc W base args ds gs before hval hW (hcond _ rfl) hL hsh
theorem row : Rows.OpticsReadsUptoSaid :=
  OpenClaim.holds_of_cond 4 Tryz.f4 rfl rfl rfl rfl rfl rfl rfl ⟨rfl, rfl, rfl, rfl, rfl⟩ rfl rfl rfl rfl rfl (by kernel_rfl) Tryz.func4 (by unfold joinedFacts; rw [recurses]; unfold Program.inPlace Program.unfollowed Program.varsNamed; rw [cl]; kernel_rfl)
    (of_decide_eq_true (by kernel_rfl)) (by unfold Func.isWrapper; first | (rw [if_pos (by decide +kernel)]; kernel_rfl) | (rw [if_neg (by decide +kernel)]; exact ⟨rfl, rfl⟩))
    (fun os started H enc _ F => by rw [OpenClaim.pre_eq_preRow]; exact lifted os started H enc F)
theorem plain (f : FuncId) (fn : Func) (hf : Tryz.pinned.checked.prog.funcNamed Rows.opticsReadsUptoRow.func = some f) (hfn : Tryz.pinned.checked.prog.funcs[f]? = some fn) :
    true = Tryz.pinned.checked.prog.looks [] ∧ ∀ (j : Nat) t, fn.params[j]? = some t → Tryz.pinned.checked.prog.wantsStandIn t = false := by
  obtain rfl : f = 4 := Option.some.inj ((show Tryz.prog.funcNamed Rows.opticsReadsUptoRow.func = some 4 by kernel_rfl).symm.trans hf) |>.symm
  obtain rfl : fn = Tryz.f4 := (Option.some.inj (Tryz.func4.symm.trans hfn)).symm
  refine ⟨by kernel_rfl, fun j t ht => ?_⟩
  rw [Tryz.params4] at ht
  have hm : t ∈ [9] := by simpa using Array.mem_of_getElem? ht
  simp only [List.mem_cons, List.not_mem_nil, or_false] at hm
  rcases hm with rfl
  · exact (show Tryz.prog.wantsStandIn 9 = false by kernel_rfl)
theorem proved : Rows.OpticsReadsUptoCardSaid :=
  Claim7.holds_tied_plain_at .later [] _ _ _ _ row (fun _ h => by cases h) (by kernel_rfl) (fun _ h => by cases h) opticsReadsUpto_row_tie rfl ⟨rfl, rfl⟩ (by kernel_rfl) rfl plain (by kernel_rfl)
end Go.Proofs.YtpghhfnlfmlakaaGreatDoor.opticsReads
