/- What the package variables of a first world hold: the keys, the units, the table of powers of ten, two errors. -/
import Derived.Test.YtpghhfnlfmlakaaGreatDoorR1
import Derived.Test.YtpghhfnlfmlakaaGreatDoorRows
import Derived.Shelf.Vars
import Derived.OpenShut
import Derived.WideKeyElems2
import Derived.StringKeys
import Derived.FnData
import Derived.Lib.LaidTab
namespace Go.Ab
open Go Go.Proofs
set_option maxRecDepth 1000000
set_option linter.unusedVariables false
set_option linter.unusedSimpArgs false

theorem laid_mem {P : Program} {w : World} {n : String} {d : DataW Unit} : ∀ {L : List (String × DataW Unit)} {ps : List MemPlace}, DataW.LaidVars P w L ps → (n, d) ∈ L →
    ∃ g t cs fuel p, P.globalNamed n = some g ∧ (P.globals[g]?).map (·.type) = some t ∧ w.var? P n = some cs ∧ DataW.trod (fun _ => ()) P w 0 (fun _ => true) false fuel t cs.toList = some (d, p)
  | [], _, _, h => by cases h
  | (m, e) :: r, ps, hl, h => by
    obtain ⟨g, t, cs, fuel, p, q, h1, h2, h3, h4, h5, _⟩ := hl
    rcases List.mem_cons.1 h with h | h
    · injection h with e1 e2
      subst e1 e2
      exact ⟨g, t, cs, fuel, p, h1, h2, h3, h4⟩
    · exact laid_mem h5 h
section
variable {P : Program} {w : World} {enc : TypeId × Value → Unit} {sp : Nat → Bool} {held : Bool}
theorem trod_strL {fuel : Nat} {t : TypeId} {cs : List Value} {x : DataW Unit × List MemPlace} {l : List UInt8} (ht : P.underlying t = some .string) (h : DataW.trod enc P w 0 sp held fuel t cs = some x) (hx : x.1 = .lit (.string l)) : cs = [.string ⟨l.toArray⟩] := by
  obtain ⟨s, rfl, rfl, _⟩ := DataW.trod_string ht h
  injection hx with hx
  injection hx with hx
  subst hx
  cases s; simp
theorem trod_intL {fuel : Nat} {t : TypeId} {cs : List Value} {x : DataW Unit × List MemPlace} {k : IntKind} {n : Int} (ht : P.underlying t = some (.int k)) (h : DataW.trod enc P w 0 sp held fuel t cs = some x) (hx : x.1 = .lit (.int k n)) : cs = [.int k n] := by
  obtain ⟨m, rfl, rfl, _⟩ := DataW.trod_int ht h
  injection hx with hx
  injection hx with _ hx
  subst hx
  rfl
end
section
variable {P : Program} {w : World} {enc : TypeId × Value → Unit} {sp : Nat → Bool} {held : Bool}
theorem trod_ifc {fuel : Nat} {t : TypeId} {cs : List Value} {x : DataW Unit × List MemPlace} {ms : Array (String × TypeId)} (ht : P.underlying t = some (.interface ms)) (h : DataW.trod enc P w 0 sp held fuel t cs = some x) :
    ∃ e, cs = [e] ∧ (e = .nilIface ∨ ∃ te pe, e = .iface te pe) := by
  cases fuel with
  | zero => simp [DataW.trod] at h
  | succ n =>
    unfold DataW.trod at h
    rw [ht] at h
    split at h <;> simp_all
end
/-- An error of the library. -/
theorem err_of {W : World} {L : List (String × DataW Unit)} {ps : List MemPlace} {n : String} {d : DataW Unit} {g : Nat} (hL : DataW.LaidVars Tryz.prog W L ps) (hm : (n, d) ∈ L) (hg : Tryz.prog.globalNamed n = some g)
    (ht : (Tryz.prog.globals[g]?).map (·.type) = some 104) : ∃ e, W.cell? ⟨g, 0, none⟩ = some e ∧ (e = .nilIface ∨ ∃ te pe, e = .iface te pe) := by
  obtain ⟨g', t, cs, fuel, p, h1, h2, h3, h4⟩ := laid_mem hL hm
  obtain rfl := Option.some.inj (hg.symm.trans h1)
  obtain rfl := Option.some.inj (ht.symm.trans h2)
  obtain ⟨e, he, hk⟩ := trod_ifc Tryz.underlying104 h4
  refine ⟨e, ?_, hk⟩
  rw [World.var?_cell h1 h3 0, ← Array.getElem?_toList, he]; rfl
def unitL : List (List UInt8 × Int) := [(bUm, 1), (bMm, 1000), (bM, 1000000)]
theorem units_of {W : World} {L : List (String × DataW Unit)} {ps : List MemPlace} (hL : DataW.LaidVars Tryz.prog W L ps) (hm : ("speculum/optics.units", Go.Proofs.YtpghhfnlfmlakaaGreatDoor.Rows.laid_speculum_optics_units) ∈ L) :
    VI (envOf W).F (.cp gUnits) (.pointer (some ⟨6, 0, none⟩)) := by
  obtain ⟨g, t, cs, fuel, p, h1, h2, h3, h4⟩ := laid_mem hL hm
  obtain rfl := Option.some.inj ((show Tryz.prog.globalNamed "speculum/optics.units" = some 6 by kernel_rfl).symm.trans h1)
  obtain rfl := Option.some.inj ((show (Tryz.prog.globals[6]?).map (·.type) = some 274 by kernel_rfl).symm.trans h2)
  rcases DataW.trod_slice Tryz.underlying274 h4 with ⟨_, hx⟩ | ⟨a, len, cap, elems, rest, n, hn, hcs, hx, hb, hlc, hcm, hlen, hel, _, _⟩
  · cases hx
  have c275 : Tryz.prog.cellsOf 275 = 2 := by kernel_rfl
  have c9 : Tryz.prog.cellsOf 9 = 1 := by kernel_rfl
  have c3 : Tryz.prog.cellsOf 3 = 1 := by kernel_rfl
  have e3 : (elems.map (·.1)) = unitL.map fun u => .agg [.lit (.string u.1), .lit (.int .i64 u.2)] := (DataW.slice.inj (Prod.mk.inj hx).1).1.symm
  have h3len : elems.length = 3 := by have := congrArg List.length e3; rw [List.length_map, List.length_map] at this; exact this
  rw [h3len] at hlen
  subst hlen
  rw [c275] at hel
  have key : ∀ (i : Nat) u, unitL[i]? = some u → W.cell? (a.add (i * 2 + 0)) = some (.string ⟨u.1.toArray⟩) ∧ W.cell? (a.add (i * 2 + 1)) = some (.int .i64 u.2) := fun i u hi => by
    have hi3 : i < 3 := (List.getElem?_eq_some_iff.1 hi).1
    have hE := hel i hi3
    have hz : (elems.map (·.1))[i]? = some (.agg [.lit (.string u.1), .lit (.int .i64 u.2)]) := by rw [e3, List.getElem?_map, hi]; rfl
    rw [List.getElem?_map] at hz
    cases hxi : elems[i]? with
    | none => rw [hxi] at hz; cases hz
    | some z =>
      rw [hxi] at hz hE
      injection hz with hz
      cases hc : W.cells? 0 (a.add (i * 2)) 2 with
      | none => rw [hc] at hE; cases hE
      | some row =>
        rw [hc] at hE
        have hE : DataW.trod (fun _ => ()) Tryz.prog W 0 (fun _ => true) false n 275 row = some z := hE
        obtain ⟨xs, m, _, ez, hrl, hxl, hf⟩ := DataW.trod_struct Tryz.underlying275 hE
        rw [ez] at hz
        have hxs := DataW.agg.inj hz
        obtain ⟨_, r2, r3⟩ := World.cells?_some hc
        match xs, hxs, hf with
        | [x0, x1], hxs, hf =>
          have q0 : x0.1 = .lit (.string u.1) := (List.cons.inj hxs).1
          have q1 : x1.1 = .lit (.int .i64 u.2) := (List.cons.inj (List.cons.inj hxs).2).1
          have f0 := hf 0 _ rfl
          have f1 := hf 1 _ rfl
          have g0 : List.take (Tryz.prog.cellsOf 9) (List.drop 0 row) = [.string ⟨u.1.toArray⟩] := trod_strL Tryz.underlying9 f0 q0
          have g1 : List.take (Tryz.prog.cellsOf 3) (List.drop 1 row) = [.int .i64 u.2] := trod_intL Tryz.underlying3 f1 q1
          rw [c9] at g0
          rw [c3] at g1
          match row, r2, r3, g0, g1 with
          | [v0, v1], _, r3, g0, g1 =>
            have e0 : v0 = .string ⟨u.1.toArray⟩ := (List.cons.inj g0).1
            have e1 : v1 = .int .i64 u.2 := (List.cons.inj g1).1
            have p0 := r3 0 (by decide)
            have p1 := r3 1 (by decide)
            rw [add_add] at p0 p1
            rw [p0, p1, e0, e1]
            exact ⟨rfl, rfl⟩
  have hcell : W.cell? ⟨6, 0, none⟩ = some (.slice (some a) 3 cap) := by
    rw [World.var?_cell h1 h3 0, ← Array.getElem?_toList, hcs]; rfl
  have hrow : ∀ (i : Nat) (row : List AV), ([[.str bUm, .int .i64 1], [.str bMm, .int .i64 1000], [.str bM, .int .i64 1000000]] : List (List AV))[i]? = some row → ∃ u, unitL[i]? = some u ∧ row = [.str u.1, .int .i64 u.2] := fun i row hi => by
    match i, hi with
    | 0, hi => injection hi with hi; exact ⟨_, rfl, hi.symm⟩
    | 1, hi => injection hi with hi; exact ⟨_, rfl, hi.symm⟩
    | 2, hi => injection hi with hi; exact ⟨_, rfl, hi.symm⟩
    | i + 3, hi => cases hi
  have hsl : VI (envOf W).F (.sl 2 [[.str bUm, .int .i64 1], [.str bMm, .int .i64 1000], [.str bM, .int .i64 1000000]]) (.slice (some a) 3 cap) := by
    refine .sl 2 [[.str bUm, .int .i64 1], [.str bMm, .int .i64 1000], [.str bM, .int .i64 1000000]] (some a) cap (fun i j => (W.cell? (a.add (i * 2 + j))).getD undef) (fun _ => rfl) (fun i row j c ad hi hj had => ?_) (fun i row j c hi hj => ?_) hlc
    · injection had with had
      subst had
      obtain ⟨u, hu, rfl⟩ := hrow i row hi
      obtain ⟨k0, k1⟩ := key i u hu
      match j, hj with
      | 0, hj => exact ⟨by rw [k0]; rfl, by rw [k0]; rfl⟩
      | 1, hj => exact ⟨by rw [k1]; rfl, by rw [k1]; rfl⟩
    · obtain ⟨u, hu, rfl⟩ := hrow i row hi
      obtain ⟨k0, k1⟩ := key i u hu
      match j, hj with
      | 0, hj => injection hj with hj; subst hj; rw [k0]; exact .str _
      | 1, hj => injection hj with hj; subst hj; rw [k1]; exact .int _ _
  refine .cp gUnits _ (fun _ => .slice (some a) 3 cap) (fun j c hj => ?_) (fun j c hj => ?_)
  · match j, hj with
    | 0, hj => exact ⟨hcell, rfl⟩
    | j + 1, hj => cases hj
  · match j, hj with
    | 0, hj => injection hj with hj; subst hj; exact hsl
    | j + 1, hj => cases hj
open Go.WideElems in
theorem map_of {W : World} {L : List (String × DataW Unit)} {ps : List MemPlace} (hL : DataW.LaidVars Tryz.prog W L ps) (hm : ("speculum/optics.keys", Go.Proofs.YtpghhfnlfmlakaaGreatDoor.Rows.laid_speculum_optics_keys) ∈ L) :
    ∃ g es clock, (envOf W).F ⟨0, 0, none⟩ (.map (some g)) ∧ W.heap[g]? = some (.map es clock) ∧ MapOk (envOf W) (fun x => (List.lookup x [(bApart, true), (bConic, true), (bDiameter, true), (bRadius, true)]).map AV.bool) es.toList := by
  obtain ⟨g, t, cs, fuel, p, h1, h2, h3, h4⟩ := laid_mem hL hm
  obtain rfl := Option.some.inj ((show Tryz.prog.globalNamed "speculum/optics.keys" = some 0 by kernel_rfl).symm.trans h1)
  obtain rfl := Option.some.inj ((show (Tryz.prog.globals[0]?).map (·.type) = some 228 by kernel_rfl).symm.trans h2)
  rcases Go.WideElems.open_map Tryz.underlying228 h4 with ⟨_, hx⟩ | ⟨b, es, clock, n, _, hcs, hb, _, F, hx⟩
  · cases hx
  have e3 : (es.toList.map (rg Tryz.prog 9 (elemAt (fun _ => ()) Tryz.prog W 0 (fun _ => true) false n 4))).foldr DataW.insert [] = [(.string bApart, .lit (.bool true)), (.string bConic, .lit (.bool true)), (.string bDiameter, .lit (.bool true)), (.string bRadius, .lit (.bool true))] :=
    (DataW.map.inj (Prod.mk.inj hx).1).symm
  have hperm : ∀ q, q ∈ es.toList.map (rg Tryz.prog 9 (elemAt (fun _ => ()) Tryz.prog W 0 (fun _ => true) false n 4)) ↔ q ∈ ([(.string bApart, .lit (.bool true)), (.string bConic, .lit (.bool true)), (.string bDiameter, .lit (.bool true)), (.string bRadius, .lit (.bool true))] : List (Lit × DataW Unit)) := fun q => by
    rw [← e3]
    exact (Go.WideShapes.sorted_perm _).mem_iff.symm
  have each : ∀ e ∈ es.toList, ∃ l : List UInt8, e.key = .string ⟨l.toArray⟩ ∧ (Lit.string l, DataW.lit (.bool true)) ∈ ([(.string bApart, .lit (.bool true)), (.string bConic, .lit (.bool true)), (.string bDiameter, .lit (.bool true)), (.string bRadius, .lit (.bool true))] : List (Lit × DataW Unit)) ∧ e.val = .bool true := fun e he => by
    obtain ⟨y, hy⟩ := F.reads e he
    have hk := rd_key hy
    obtain ⟨s, ks, ls, _⟩ := Go.WideMaps.string_of_keyOf Tryz.underlying9 hk
    obtain ⟨z, hz, hz2⟩ := rd_val hy
    obtain ⟨bb, hv, hzz⟩ := elemAt_bool Tryz.underlying4 hz
    have hmem := (hperm y).1 (by rw [← rg_of hy]; exact List.mem_map_of_mem he)
    have hy1 : y.1 = .string s.data.toList := ls
    have hy2 : y.2 = .lit (.bool bb) := by rw [hz2, hzz]
    have hyy : y = (.string s.data.toList, .lit (.bool bb)) := Prod.ext hy1 hy2
    rw [hyy] at hmem
    have hbb : bb = true := by
      simp only [List.mem_cons, Prod.mk.injEq, DataW.lit.injEq, Lit.bool.injEq, List.not_mem_nil, or_false] at hmem
      rcases hmem with h | h | h | h <;> exact h.2
    subst hbb
    exact ⟨s.data.toList, by rw [ks], hmem, hv⟩
  have hcell : W.cell? ⟨0, 0, none⟩ = some (.map (some b)) := by
    rw [World.var?_cell h1 h3 0, ← Array.getElem?_toList, hcs]; rfl
  have inj : ∀ {l l' : List UInt8}, Value.string ⟨l.toArray⟩ = Value.string ⟨l'.toArray⟩ → l = l' := fun h => by
    injection h with h; injection h with h
    simpa using congrArg Array.toList h
  refine ⟨b, es, clock, ⟨hcell, rfl⟩, hb, fun e he => ?_, fun l hl e he => ?_, fun l c hl => ?_⟩
  · obtain ⟨l, h, _⟩ := each e he
    exact ⟨l, h⟩
  · obtain ⟨l', h, hmem, _⟩ := each e he
    intro h'
    rw [h] at h'
    have := inj h'
    subst this
    simp only [List.mem_cons, Prod.mk.injEq, Lit.string.injEq, and_true, List.not_mem_nil, or_false] at hmem
    rcases hmem with rfl | rfl | rfl | rfl <;> exact absurd hl (by decide)
  · have hmem : (Lit.string l, (DataW.lit (.bool true) : DataW Unit)) ∈ ([(.string bApart, .lit (.bool true)), (.string bConic, .lit (.bool true)), (.string bDiameter, .lit (.bool true)), (.string bRadius, .lit (.bool true))] : List (Lit × DataW Unit)) ∧ c = .bool true := by
      by_cases q1 : l = bApart
      · subst q1; injection hl with hl; exact ⟨by simp, hl.symm⟩
      by_cases q2 : l = bConic
      · subst q2; injection hl with hl; exact ⟨by simp, hl.symm⟩
      by_cases q3 : l = bDiameter
      · subst q3; injection hl with hl; exact ⟨by simp, hl.symm⟩
      by_cases q4 : l = bRadius
      · subst q4; injection hl with hl; exact ⟨by simp, hl.symm⟩
      have d : ∀ {a b : List UInt8}, a ≠ b → (a == b) = false := fun h => by simpa using h
      simp only [List.lookup_cons, d q1, d q2, d q3, d q4, List.lookup_nil] at hl
      cases hl
    obtain ⟨hmem, rfl⟩ := hmem
    obtain ⟨e, he, hrg⟩ := List.mem_map.1 ((hperm _).2 hmem)
    obtain ⟨l', hk', _, hv⟩ := each e he
    obtain ⟨y, hy⟩ := F.reads e he
    have hk := rd_key hy
    rw [← rg_of hy, hrg] at hk
    obtain ⟨s, ks, ls, _⟩ := Go.WideMaps.string_of_keyOf Tryz.underlying9 hk
    have hkey : e.key = .string ⟨l.toArray⟩ := by
      rw [ks]
      injection ls with ls
      subst ls
      cases s; simp
    obtain ⟨i, hi, hie⟩ := List.mem_iff_getElem.1 he
    refine ⟨i, e, by rw [List.getElem?_eq_getElem hi, hie], hkey, by rw [hv]; exact .bool _, fun j e' hj he' hk2 => ?_⟩
    have hpw := ((Go.MapKept.stamped_iff es clock).1 F.stamped).2.2
    obtain ⟨hjl, hje⟩ := List.getElem?_eq_some_iff.1 he'
    have := List.pairwise_iff_getElem.1 hpw j i hjl hi hj
    rw [hje, hie, hkey, hk2] at this
    exact this rfl
theorem tab_of {W : World} {L : List (String × DataW Unit)} {ps : List MemPlace} (hL : DataW.LaidVars Tryz.prog W L ps) (hm : ("internal/strconv.uint64pow10", Go.Proofs.YtpghhfnlfmlakaaGreatDoor.Rows.laid_internal_strconv_uint64pow10) ∈ L) :
    ∃ t fr, W.heap[2]? = some (.cells (Lib.pow10Tab.map fun z => Value.int .u64 z).toArray t fr) := by
  obtain ⟨g, t, cs, fuel, p, h1, h2, h3, h4⟩ := laid_mem hL hm
  obtain rfl := Option.some.inj ((show Tryz.prog.globalNamed "internal/strconv.uint64pow10" = some 2 by kernel_rfl).symm.trans h1)
  obtain rfl := Option.some.inj ((show (Tryz.prog.globals[2]?).map (·.type) = some 264 by kernel_rfl).symm.trans h2)
  have h4 : DataW.trod (fun _ => ()) Tryz.prog W 0 (fun _ => true) false fuel 264 cs.toList = some (Lib.tabData .u64 Lib.pow10Tab, p) := h4
  have e := Lib.cells_of_tab Tryz.underlying264 Tryz.underlying240 (by kernel_rfl) (by kernel_rfl) h4
  rw [← e]
  unfold World.var? at h3
  rw [h1, Option.bind_some] at h3
  split at h3
  · rename_i c t' fr hh
    injection h3 with h3
    subst h3
    exact ⟨t', fr, by simpa using hh⟩
  · cases h3
theorem glob_of {W : World} {L : List (String × DataW Unit)} (hL : laidMet Tryz.prog L W) (hsh : W.ShapedOpen Tryz.prog)
    (m2 : ("speculum/optics.units", Go.Proofs.YtpghhfnlfmlakaaGreatDoor.Rows.laid_speculum_optics_units) ∈ L)
    (m3 : ("speculum/optics.keys", Go.Proofs.YtpghhfnlfmlakaaGreatDoor.Rows.laid_speculum_optics_keys) ∈ L) (m4 : ("internal/strconv.uint64pow10", Go.Proofs.YtpghhfnlfmlakaaGreatDoor.Rows.laid_internal_strconv_uint64pow10) ∈ L)
    (m5 : ("strconv.ErrSyntax", Go.Proofs.YtpghhfnlfmlakaaGreatDoor.Rows.laid_strconv_ErrSyntax) ∈ L) (m6 : ("strconv.ErrRange", Go.Proofs.YtpghhfnlfmlakaaGreatDoor.Rows.laid_strconv_ErrRange) ∈ L) :
    Glob.ok (envOf W).F ∧ GmOk (envOf W) W := by
  obtain ⟨ps, hv, _, _⟩ := hL
  obtain ⟨m, hm⟩ := Go.Proofs.cell_of_shapedOpen_int (zero := #[.int .i64 0]) (t := 3) (g := 3) hsh (of_decide_eq_true (by kernel_rfl)) (by kernel_rfl) rfl (by kernel_rfl) (by kernel_rfl) Tryz.underlying3
  obtain ⟨e4, h4, k4⟩ := err_of (g := 4) hv m5 (by kernel_rfl) (by kernel_rfl)
  obtain ⟨e5, h5, k5⟩ := err_of (g := 5) hv m6 (by kernel_rfl) (by kernel_rfl)
  have one : ∀ {e : Value}, (e = .nilIface ∨ ∃ te pe, e = .iface te pe) → e.oneCell' = true := fun h => by
    rcases h with rfl | ⟨_, _, rfl⟩ <;> rfl
  obtain ⟨g, es, clock, c1, c2, c3⟩ := map_of hv m3
  refine ⟨⟨⟨m, hm, rfl⟩, ⟨e4, ⟨h4, one k4⟩, k4⟩, ⟨e5, ⟨h5, one k5⟩, k5⟩, units_of hv m2, _, c1⟩, fun i f hf => ?_, fun g' cs hc => ?_⟩
  · unfold Glob.mapf at hf
    split at hf
    · rename_i hi
      subst hi
      injection hf with hf
      subst hf
      exact ⟨g, es, clock, c1, c2, c3, fun b hb => absurd rfl hb⟩
    · cases hf
  · unfold Glob.cells at hc
    split at hc
    · rename_i hg
      subst hg
      injection hc with hc
      subst hc
      obtain ⟨t, fr, ht⟩ := tab_of hv m4
      exact ⟨t, fr, ht, fun b hb => absurd rfl hb⟩
    · cases hc
end Go.Ab
