/- What the package variables of a first world hold: the table of powers of ten, two errors. -/
import Derived.Test.YthhidmnlhocigaaGreatDoorR1
import Derived.Test.YthhidmnlhocigaaGreatDoorRows
import Derived.Shelf.Vars
import Derived.OpenShut
import Derived.WideKeyElems2
import Derived.StringKeys
import Derived.FnData
import Derived.Lib.LaidTab
namespace Go.Ab
open Go Go.Proofs
set_option maxRecDepth 1000000
set_option linter.unusedVariables false
set_option linter.unusedSimpArgs false

theorem laid_mem {P : Program} {w : World} {n : String} {d : DataW Unit} : ∀ {L : List (String × DataW Unit)} {ps : List MemPlace}, DataW.LaidVars P w L ps → (n, d) ∈ L →
    ∃ g t cs fuel p, P.globalNamed n = some g ∧ (P.globals[g]?).map (·.type) = some t ∧ w.var? P n = some cs ∧ DataW.trod (fun _ => ()) P w 0 (fun _ => true) false fuel t cs.toList = some (d, p)
  | [], _, _, h => by cases h
  | (m, e) :: r, ps, hl, h => by
    obtain ⟨g, t, cs, fuel, p, q, h1, h2, h3, h4, h5, _⟩ := hl
    rcases List.mem_cons.1 h with h | h
    · injection h with e1 e2
      subst e1 e2
      exact ⟨g, t, cs, fuel, p, h1, h2, h3, h4⟩
    · exact laid_mem h5 h
section
variable {P : Program} {w : World} {enc : TypeId × Value → Unit} {sp : Nat → Bool} {held : Bool}
theorem trod_ifc {fuel : Nat} {t : TypeId} {cs : List Value} {x : DataW Unit × List MemPlace} {ms : Array (String × TypeId)} (ht : P.underlying t = some (.interface ms)) (h : DataW.trod enc P w 0 sp held fuel t cs = some x) :
    ∃ e, cs = [e] ∧ (e = .nilIface ∨ ∃ te pe, e = .iface te pe) := by
  cases fuel with
  | zero => simp [DataW.trod] at h
  | succ n =>
    unfold DataW.trod at h
    rw [ht] at h
    split at h <;> simp_all
end
/-- An error of the library. -/
theorem err_of {W : World} {L : List (String × DataW Unit)} {ps : List MemPlace} {n : String} {d : DataW Unit} {g : Nat} (hL : DataW.LaidVars Tryz.prog W L ps) (hm : (n, d) ∈ L) (hg : Tryz.prog.globalNamed n = some g)
    (ht : (Tryz.prog.globals[g]?).map (·.type) = some 80) : ∃ e, W.cell? ⟨g, 0, none⟩ = some e ∧ (e = .nilIface ∨ ∃ te pe, e = .iface te pe) := by
  obtain ⟨g', t, cs, fuel, p, h1, h2, h3, h4⟩ := laid_mem hL hm
  obtain rfl := Option.some.inj (hg.symm.trans h1)
  obtain rfl := Option.some.inj (ht.symm.trans h2)
  obtain ⟨e, he, hk⟩ := trod_ifc Tryz.underlying80 h4
  refine ⟨e, ?_, hk⟩
  rw [World.var?_cell h1 h3 0, ← Array.getElem?_toList, he]; rfl
theorem tab_of {W : World} {L : List (String × DataW Unit)} {ps : List MemPlace} (hL : DataW.LaidVars Tryz.prog W L ps) (hm : ("internal/strconv.uint64pow10", Go.Proofs.YthhidmnlhocigaaGreatDoor.Rows.laid_internal_strconv_uint64pow10) ∈ L) :
    ∃ t fr, W.heap[0]? = some (.cells (Lib.pow10Tab.map fun z => Value.int .u64 z).toArray t fr) := by
  obtain ⟨g, t, cs, fuel, p, h1, h2, h3, h4⟩ := laid_mem hL hm
  obtain rfl := Option.some.inj ((show Tryz.prog.globalNamed "internal/strconv.uint64pow10" = some 0 by kernel_rfl).symm.trans h1)
  obtain rfl := Option.some.inj ((show (Tryz.prog.globals[0]?).map (·.type) = some 141 by kernel_rfl).symm.trans h2)
  have h4 : DataW.trod (fun _ => ()) Tryz.prog W 0 (fun _ => true) false fuel 141 cs.toList = some (Lib.tabData .u64 Lib.pow10Tab, p) := h4
  have e := Lib.cells_of_tab Tryz.underlying141 Tryz.underlying124 (by kernel_rfl) (by kernel_rfl) h4
  rw [← e]
  unfold World.var? at h3
  rw [h1, Option.bind_some] at h3
  split at h3
  · rename_i c t' fr hh
    injection h3 with h3
    subst h3
    exact ⟨t', fr, by simpa using hh⟩
  · cases h3
theorem glob_of {W : World} {L : List (String × DataW Unit)} (hL : laidMet Tryz.prog L W) (hsh : W.ShapedOpen Tryz.prog)
    (m4 : ("internal/strconv.uint64pow10", Go.Proofs.YthhidmnlhocigaaGreatDoor.Rows.laid_internal_strconv_uint64pow10) ∈ L)
    (m5 : ("strconv.ErrSyntax", Go.Proofs.YthhidmnlhocigaaGreatDoor.Rows.laid_strconv_ErrSyntax) ∈ L) (m6 : ("strconv.ErrRange", Go.Proofs.YthhidmnlhocigaaGreatDoor.Rows.laid_strconv_ErrRange) ∈ L) :
    Glob.ok (envOf W).F ∧ GmOk (envOf W) W := by
  obtain ⟨ps, hv, _, _⟩ := hL
  obtain ⟨m, hm⟩ := Go.Proofs.cell_of_shapedOpen_int (zero := #[.int .i64 0]) (t := 3) (g := 1) hsh (of_decide_eq_true (by kernel_rfl)) (by kernel_rfl) rfl (by kernel_rfl) (by kernel_rfl) Tryz.underlying3
  obtain ⟨e4, h4, k4⟩ := err_of (g := 2) hv m5 (by kernel_rfl) (by kernel_rfl)
  obtain ⟨e5, h5, k5⟩ := err_of (g := 3) hv m6 (by kernel_rfl) (by kernel_rfl)
  have one : ∀ {e : Value}, (e = .nilIface ∨ ∃ te pe, e = .iface te pe) → e.oneCell' = true := fun h => by
    rcases h with rfl | ⟨_, _, rfl⟩ <;> rfl
  refine ⟨⟨⟨m, hm, rfl⟩, ⟨e4, ⟨h4, one k4⟩, k4⟩, ⟨e5, ⟨h5, one k5⟩, k5⟩⟩, fun i f hf => (by cases hf), fun g' cs hc => ?_, fun g o h => (by cases h)⟩
  unfold Glob.cells at hc
  split at hc
  · rename_i hg
    subst hg
    injection hc with hc
    subst hc
    obtain ⟨t, fr, ht⟩ := tab_of hv m4
    exact ⟨t, fr, ht, fun g o h => (by cases h)⟩
  · cases hc
end Go.Ab
