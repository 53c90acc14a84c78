/- coat.Print, walked by hand: it writes into a strings.Builder. -/
import Derived.Test.YthhidmnlhocigaaGreatDoorWB
import Derived.Deep.RegionWith
set_option linter.unusedVariables false
namespace Go.Proofs
open Go.Shelf Go.RowKit

/-- The text of layers. -/
def layT (x : List UInt8 × Int) : List UInt8 := [108, 97, 121, 101, 114, 32] ++ x.1 ++ [32] ++ Lib.itoa x.2 ++ [10]
def layTs (l : List (List UInt8 × Int)) : List UInt8 := (l.map layT).flatten
theorem isb_keep {T e : TypeId} {B b : Nat} {bs : List Value} {w w' : World} (h : Lib.IsBuilder T e B b bs w) (hk : ∀ (k : Nat) (o : Obj), w.heap[k]? = some o → w'.heap[k]? = some o) : Lib.IsBuilder T e B b bs w' := by
  have one : ∀ p, Lib.BuilderAt T e B b p bs w → Lib.BuilderAt T e B b p bs w' := by
    rintro p ⟨hB, v, hbk, ⟨hl, ho⟩, hne⟩
    refine ⟨hB, v, hk _ _ hbk, ⟨hl, ?_⟩, hne⟩
    rcases ho with ho | ⟨g, cap, cur, hv, hg, hc, r⟩
    · exact .inl ho
    · exact .inr ⟨g, cap, cur, hv, hg, hk _ _ hc, r⟩
  exact h.elim (fun x => .inl (one _ x)) (fun x => .inr (one _ x))
theorem below_keep {w w' : World} (h : Below w.heap.size w w') : ∀ (k : Nat) (o : Obj), w.heap[k]? = some o → w'.heap[k]? = some o := fun k o hk => by
  rw [h.block k (by rcases Nat.lt_or_ge k w.heap.size with h' | h'; exact h'; rw [Array.getElem?_eq_none h'] at hk; cases hk)]
  exact hk
theorem hidP {p : Prop} (h : p) : Hid p := h

set_option maxHeartbeats 4000000 in
set_option maxRecDepth 100000 in
theorem print_walk (l : List (List UInt8 × Int)) (a : Option Addr) (bk o c : Nat) (w : World) (hA : 0 < l.length → a = some ⟨bk, o, none⟩)
    (hcells : ∀ (i : Nat) x, l[i]? = some x → w.cell? ⟨bk, o + i * 2, none⟩ = some (.string ⟨x.1.toArray⟩) ∧ w.cell? ⟨bk, o + i * 2 + 1, none⟩ = some (.int .i64 x.2))
    (hbk' : 0 < l.length → bk < w.heap.size) (hcap : l.length ≤ c) (hN : l.length ≤ 1048576)
    (hchk : Calls Tryz.prog 33 #[.slice a l.length c] w fun e w' => e = .returned (.int .i64 0) ∧ Below w.heap.size w w')
    (hitoa : ∀ (n : Int) (w' : World), -9223372036854775808 ≤ n → n ≤ 9223372036854775807 → (∀ k, k < w.heap.size → w'.heap[k]? = w.heap[k]?) → Calls Tryz.prog 24 #[.int .i64 n] w' fun e w'' => e = .returned (.string ⟨(Lib.itoa n).toArray⟩) ∧ Below w'.heap.size w' w'')
    (hi : ∀ x ∈ l, -9223372036854775808 ≤ x.2 ∧ x.2 ≤ 9223372036854775807) (hlen : (layTs l).length ≤ 1073741824) :
    Calls Tryz.prog 11 #[.slice a l.length c] w fun e w' => e = .returned (.tuple #[.string ⟨(layTs l).toArray⟩, .int .i64 0]) ∧ Below w.heap.size w w' := by
  have HC := hidP hcells
  have HI := hidP hitoa
  clear hcells hitoa
  go_enter Tryz.func11, Tryz.ntmps11
  go_wp2_with (go_at_call 33; refine hchk.mono ?_)
  rintro e w1 ⟨rfl, hb1⟩
  have h0 := hidP (Lib.fresh_isBuilder 78 5 w1)
  have Hb1 := hidP hb1
  go_wp2_with fail
  go_loopw [15] (fun i wr => ∃ k : Nat, k ≤ l.length ∧ i = .int .i64 k ∧ Hid (Lib.IsBuilder 78 5 w1.heap.size w1.heap.size (Lib.byteCells (layTs (l.take k))) wr) ∧ Hid (Below w1.heap.size w1 wr)) (fun i _ => l.length - (intOf i).toNat)
  case atStart => exact ⟨0, Nat.zero_le _, rfl, h0, hidP ((Below.refl _ w1).alloc (Nat.le_refl _) _)⟩
  case round =>
    obtain ⟨k, hk, rfl, HB, HW⟩ := hrel
    by_cases hkn : k < l.length
    · obtain ⟨x, hx⟩ : ∃ x, l[k]? = some x := ⟨l[k], List.getElem?_eq_getElem hkn⟩
      have hbk := hbk' (by omega)
      have ha := hA (by omega)
      subst ha
      have hbk1 : bk < w1.heap.size := Nat.lt_of_lt_of_le hbk hb1.size
      have c0 : wr.cell? ⟨bk, o + k * 2, none⟩ = some (.string ⟨x.1.toArray⟩) := by
        rw [HW.out.cell (p := ⟨bk, o + k * 2, none⟩) hbk1, hb1.cell (p := ⟨bk, o + k * 2, none⟩) hbk]
        exact (HC.out k x hx).1
      have c1 : wr.cell? ⟨bk, o + k * 2 + 1, none⟩ = some (.int .i64 x.2) := by
        rw [HW.out.cell (p := ⟨bk, o + k * 2 + 1, none⟩) hbk1, hb1.cell (p := ⟨bk, o + k * 2 + 1, none⟩) hbk]
        exact (HC.out k x hx).2
      have hstep : layTs (l.take (k + 1)) = layTs (l.take k) ++ layT x := by
        have e : l.take (k + 1) = l.take k ++ [x] := by rw [List.take_add_one, hx]; rfl
        rw [e]; simp [layTs]
      have hle : (layTs (l.take (k + 1))).length ≤ (layTs l).length := by
        have e : layTs l = layTs (l.take (k + 1)) ++ layTs (l.drop (k + 1)) := by
          unfold layTs
          rw [← List.flatten_append, ← List.map_append, List.take_append_drop]
        rw [e, List.length_append]; omega
      have hWr : ∀ (W : World) (s : ByteArray), s.data.toList = layT x → Hid (Lib.IsBuilder 78 5 w1.heap.size w1.heap.size (Lib.byteCells (layTs (l.take k))) W) → Hid (Below w1.heap.size w1 W) →
          Calls Tryz.prog 34 #[.pointer (some ⟨w1.heap.size, 0, none⟩), .string s] W fun e W' => e = .returned (.tuple #[.int .i64 s.size, .nilIface]) ∧ Hid (Lib.IsBuilder 78 5 w1.heap.size w1.heap.size (Lib.byteCells (layTs (l.take (k + 1)))) W') ∧ Hid (Below w1.heap.size w1 W') := by
        intro W s hs hB hW
        have hsz : s.size = (layT x).length := by rw [← hs]; exact (Array.length_toList).symm
        refine (bWrite w1.heap.size w1.heap.size _ s W hB.out (by rw [Lib.byteCells_length, hsz]; rw [hstep, List.length_append] at hle; omega) hW.out.size).mono ?_
        rintro e W' ⟨rfl, h, hb⟩
        refine ⟨rfl, hidP (Or.inr ?_), hidP (hW.out.trans hb)⟩
        rw [Lib.strCells_eq, hs, ← Lib.byteCells_append, ← hstep] at h
        exact h
      have hx64 := hi x (List.mem_of_getElem? hx)
      clear hchk
      have hlx : 6 + x.1.length + 1 + (Lib.itoa x.2).length + 1 ≤ 1073741824 := by
        have e : (layT x).length = 6 + x.1.length + 1 + (Lib.itoa x.2).length + 1 := by simp [layT]; omega
        rw [hstep, List.length_append] at hle
        omega
      have n1 : ¬ 9223372036854775807 < 6 + x.1.length := by omega
      have n2 : ¬ 9223372036854775807 < 6 + x.1.length + 1 := by omega
      have n3 : ¬ 9223372036854775807 < 6 + x.1.length + 1 + (Lib.itoa x.2).length := by omega
      have n4 : ¬ 9223372036854775807 < 6 + x.1.length + 1 + (Lib.itoa x.2).length + 1 := by omega
      go_wp2_with fail
      have d0 : (wr.alloc (Obj.cells #[Value.string ⟨x.1.toArray⟩, Value.int IntKind.i64 x.2] 52)).cell? ⟨wr.heap.size, 0, none⟩ = some (.string ⟨x.1.toArray⟩) := by rw [Lib.cell_of_heap (heap_alloc_new wr _)]; rfl
      have d1 : (wr.alloc (Obj.cells #[Value.string ⟨x.1.toArray⟩, Value.int IntKind.i64 x.2] 52)).cell? ⟨wr.heap.size, 1, none⟩ = some (.int .i64 x.2) := by rw [Lib.cell_of_heap (heap_alloc_new wr _)]; rfl
      have HB8 : Hid (Lib.IsBuilder 78 5 w1.heap.size w1.heap.size (Lib.byteCells (layTs (l.take k))) (wr.alloc (Obj.cells #[Value.string ⟨x.1.toArray⟩, Value.int IntKind.i64 x.2] 52))) := hidP (isb_keep HB.out (below_keep ((Below.refl _ wr).alloc (Nat.le_refl _) _)))
      have HW8 : Hid (Below w1.heap.size w1 (wr.alloc (Obj.cells #[Value.string ⟨x.1.toArray⟩, Value.int IntKind.i64 x.2] 52))) := hidP (HW.out.alloc HW.out.size _)
      generalize wr.alloc (Obj.cells #[Value.string ⟨x.1.toArray⟩, Value.int IntKind.i64 x.2] 52) = w8 at d0 d1 HB8 HW8 ⊢
      have hIt : Calls Tryz.prog 24 #[.int .i64 x.2] w8.drew fun e w' => e = .returned (.string ⟨(Lib.itoa x.2).toArray⟩) ∧ w'.cell? ⟨wr.heap.size, 0, none⟩ = some (.string ⟨x.1.toArray⟩) ∧ w'.cell? ⟨wr.heap.size, 1, none⟩ = some (.int .i64 x.2) ∧
          Hid (Lib.IsBuilder 78 5 w1.heap.size w1.heap.size (Lib.byteCells (layTs (l.take k))) w') ∧ Hid (Below w1.heap.size w1 w') := by
        refine (HI.out x.2 w8.drew hx64.1 hx64.2 (fun k hk => (HW8.out.block k (Nat.lt_of_lt_of_le hk hb1.size)).trans (hb1.block k hk))).mono ?_
        rintro e w' ⟨rfl, hb⟩
        have hb' : Below w8.heap.size w8 w' := ⟨hb.os, hb.tape, hb.output, hb.size, hb.block⟩
        have hlt : wr.heap.size < w8.heap.size := World.block_lt_of_cell? w8 ⟨wr.heap.size, 0, none⟩ d0
        refine ⟨rfl, ?_, ?_, hidP (isb_keep HB8.out (below_keep hb')), hidP ?_⟩
        · rw [hb'.cell (p := ⟨wr.heap.size, 0, none⟩) hlt]; exact d0
        · rw [hb'.cell (p := ⟨wr.heap.size, 1, none⟩) hlt]; exact d1
        · exact HW8.out.trans ⟨hb'.os, hb'.tape, hb'.output, hb'.size, fun k hk => hb'.block k (Nat.lt_of_lt_of_le hk HW8.out.size)⟩
      have e0 : w8.drew.cell? ⟨wr.heap.size, 0, none⟩ = some (.string ⟨x.1.toArray⟩) := d0
      have e1 : w8.drew.cell? ⟨wr.heap.size, 1, none⟩ = some (.int .i64 x.2) := d1
      have HB8' : Hid (Lib.IsBuilder 78 5 w1.heap.size w1.heap.size (Lib.byteCells (layTs (l.take k))) w8.drew) := hidP HB8.out
      clear HB8 c0 c1
      go_region_with (first
        | (go_at_call 24; refine hIt.mono ?_; rintro e w9 ⟨rfl, f0, f1, HB9, HW9⟩)
        | (go_at_call 34; refine (hWr _ _ ?_ HB9 HW9).mono ?_; simp [layT]; rintro e w10 ⟨rfl, HB10, HW10⟩))
      all_goals (
        go_wp2
        exact ⟨⟨k + 1, by omega, by go_num, HB10, HW10⟩, by simp [intOf]; omega⟩)
    · have hke : k = l.length := by omega
      subst hke
      have hB' := HB.out
      rw [List.take_length] at hB'
      have hBw : w1.heap.size ≤ wr.heap.size := HW.out.size
      go_wp2_with (go_at_call 35; refine (Tryz.Builder_String_any w1.heap.size w1.heap.size _ wr hB' hBw).mono ?_)
      rintro e w5 ⟨rfl, hb5⟩
      go_wp2
      go_ret2
      have hmono : Below w.heap.size w1 w5 := by
        have hh := HW.out.trans hb5
        exact ⟨hh.os, hh.tape, hh.output, hh.size, fun k hk => hh.block k (Nat.lt_of_lt_of_le hk hb1.size)⟩
      exact ⟨rfl, hb1.trans hmono⟩

set_option maxHeartbeats 4000000 in
set_option maxRecDepth 100000 in
theorem print_err (l : Value) (n : Int) (w : World) (hn : n ≠ 0)
    (hchk : Calls Tryz.prog 33 #[l] w fun e w' => e = .returned (.int .i64 n) ∧ Below w.heap.size w w') :
    Calls Tryz.prog 11 #[l] w fun e w' => e = .returned (.tuple #[.string ⟨#[]⟩, .int .i64 n]) ∧ Below w.heap.size w w' := by
  have hb : (n != 0) = true := by simpa using hn
  have hb2 : (n == 0) = false := by simpa using hn
  go_enter Tryz.func11, Tryz.ntmps11
  go_wp2_with (go_at_call 33; refine hchk.mono ?_)
  rintro e w1 ⟨rfl, hb1⟩
  go_wp2
  go_ret2
  exact ⟨rfl, hb1⟩
end Go.Proofs
