/- From a contract of a library function to a contract of the symbolic machine: a function that leaves what it found and hands back a text, or a new row of texts. -/
import Derived.Test.YthhidmnlhocigaaGreatDoorUA
import Derived.Below
namespace Go.Ab
open Go Go.RowKit
set_option linter.unusedVariables false
set_option linter.unusedSimpArgs false

variable {P : Program}

/-- The world has grown by blocks that nobody else knows. -/
structure Grew (w w' : World) : Prop where
  os : w'.os = w.os
  tape : w'.tape = w.tape
  output : w'.output = w.output
  size : w.heap.size ≤ w'.heap.size
  old : ∀ g, g < w.heap.size → w'.heap[g]? = w.heap[g]?

theorem Grew.of_below {w w' : World} (h : Below w.heap.size w w') : Grew w w' := ⟨h.os, h.tape, h.output, h.size, h.block⟩
theorem Grew.refl (w : World) : Grew w w := ⟨rfl, rfl, rfl, Nat.le_refl _, fun _ _ => rfl⟩
theorem Grew.alloc (w : World) (o : Obj) : Grew w (w.alloc o) := ⟨rfl, rfl, rfl, by simp, fun g hg => heap_alloc_lt w o hg⟩

/-- What was right is right behind such a call. -/
theorem EOk.grew {w w' : World} {E : Env} {X : List Nat} {n : Nat} (h : EOk ⟨w, X, E, n⟩ E w) (hg : Grew w w') {F' : Addr → Value → Prop}
    (hF : ∀ a v, F' a v → w'.cell? a = some v ∧ v.oneCell' = true) (hb : ∀ a v, F' a v → w.heap.size ≤ a.block) :
    EOk ⟨w, X, E, n⟩ (E.addF F') w' where
  kpn := h.kpn
  le := Env.addF_le
  os := hg.os
  tape := hg.tape
  output := hg.output
  size := hg.size
  old := fun g hlt _ => hg.old g hlt
  F := fun a v hx => by
    rcases hx with hx | hx
    · refine ⟨?_, (h.F a v hx).2⟩
      have h1 := (h.F a v hx).1
      rw [World.cell?_of_block (hg.old a.block (World.block_lt_of_cell? w a h1))]
      exact h1
    · exact hF a v hx
  box := fun b hk => by
    obtain ⟨g, h1, h2, h3, h4⟩ := h.box b hk
    refine ⟨g, h1, Nat.lt_of_lt_of_le h2 hg.size, h3, fun a v hx e => ?_⟩
    rcases hx with hx | hx
    · exact h4 a v hx e
    · have := hb a v hx; omega
  arb := fun b hk => by
    obtain ⟨g, h1, h2, h3, h4⟩ := h.arb b hk
    refine ⟨g, h1, Nat.lt_of_lt_of_le h2 hg.size, h3, fun a v hx e => ?_⟩
    rcases hx with hx | hx
    · exact h4 a v hx e
    · have := hb a v hx; omega
  new := fun _ _ hk hg => .inl ⟨hk, hg⟩
  tok := fun t ht => (h.tok t ht).keep rfl rfl (fun g _ hl => hg.old g hl) (fun g a v hg' hx e => by
    rcases hx with hx | hx
    · exact hx
    · exfalso
      have h1 := hb a v hx
      have ht' : E.kd t = 2 := ht
      have := (h.lt (by rw [ht']; decide) hg').1
      omega)
  hx := h.hx
  gl := Glob.mono (fun _ _ x => .inl x) h.gl
  gm := h.gm.keep (fun _ _ x => .inl x) (fun g hl _ => hg.old g hl) (fun b g hk hg => .inl ⟨b, hk, hg⟩)
  fnew := fun a v hx => by
    rcases hx with hx | hx
    · exact .inl hx
    · exact .inr (.inl (hb a v hx))
  kd3 := h.kd3
  inj := h.inj

/-- No blocks come in and none go out. -/
theorem HOk.none {E E' : Env} {w w' : World} (h : HOk E w []) (hk : E'.kd = E.kd) : HOk E' w' [] :=
  ⟨fun b j => by cases b <;> exact trivial, fun b hb => by rw [hk]; exact h.2 b hb⟩

/-- A function that hands back a value that lies in no memory. -/
theorem meets_val {f : Nat} {args : List AV} {r : AV} {v : Value} (hr : ∀ E, VR E r v)
    (hC : ∀ (w : World) (E : Env) (vs : Array Value), Glob.ok E.F → GmOk E w → (∀ a v, E.F a v → w.cell? a = some v ∧ v.oneCell' = true) → VRs E args vs.toList →
      Calls P f vs w fun e w' => e = .returned v ∧ Grew w w') : Meets P f [] args r [] := by
  intro w E X vs _ hE hH _ hv
  refine (hC w E vs hE.gl hE.gm hE.F hv).mono ?_
  rintro e w' ⟨rfl, hg⟩
  exact ⟨v, E.addF (fun _ _ => False), rfl, hE.grew hg (fun _ _ h => h.elim) (fun _ _ h => h.elim), hH.none rfl, hr _⟩

/-- A function that hands back a new row of texts. -/
theorem meets_texts {f : Nat} {args : List AV} {out : List (List UInt8)} {t : TypeId}
    (hC : ∀ (w : World) (E : Env) (vs : Array Value), Glob.ok E.F → GmOk E w → (∀ a v, E.F a v → w.cell? a = some v ∧ v.oneCell' = true) → VRs E args vs.toList →
      Calls P f vs w fun e w' => e = .returned (.slice (some ⟨w.heap.size, 0, none⟩) out.length out.length) ∧ w' = w.alloc (.cells (out.map fun l => Value.string ⟨l.toArray⟩).toArray t)) :
    Meets P f [] args (.sl 1 (out.map fun l => [.str l])) [] := by
  intro w E X vs _ hE hH _ hv
  refine (hC w E vs hE.gl hE.gm hE.F hv).mono ?_
  rintro e w' ⟨rfl, rfl⟩
  have hcell : ∀ (i : Nat) l, out[i]? = some l → (w.alloc (.cells (out.map fun l => Value.string ⟨l.toArray⟩).toArray t)).cell? ⟨w.heap.size, i, none⟩ = some (.string ⟨l.toArray⟩) := fun i l hl => by
    rw [World.cell?_alloc_at _ _ _ _ rfl]
    simp [hl]
  have hF' : ∀ a v, (fun (a : Addr) (v : Value) => ∃ i l, out[i]? = some l ∧ a = ⟨w.heap.size, i, none⟩ ∧ v = .string ⟨l.toArray⟩) a v → (w.alloc (.cells (out.map fun l => Value.string ⟨l.toArray⟩).toArray t)).cell? a = some v ∧ v.oneCell' = true := by
    rintro a v ⟨i, l, hl, rfl, rfl⟩
    exact ⟨hcell i l hl, rfl⟩
  refine ⟨_, E.addF (fun (a : Addr) (v : Value) => ∃ i l, out[i]? = some l ∧ a = ⟨w.heap.size, i, none⟩ ∧ v = .string ⟨l.toArray⟩), rfl,
    hE.grew (.alloc w _) hF' (by rintro a v ⟨i, l, _, rfl, _⟩; exact Nat.le_refl _), hH.none rfl, ?_⟩
  have := VR.sl (E := E.addF (fun (a : Addr) (v : Value) => ∃ i l, out[i]? = some l ∧ a = ⟨w.heap.size, i, none⟩ ∧ v = .string ⟨l.toArray⟩)) 1 (out.map fun l => [AV.str l]) (some ⟨w.heap.size, 0, none⟩) out.length
    (fun i j => match out[i]? with | some l => .string ⟨l.toArray⟩ | none => undef) (fun _ => rfl) (fun i row j c ad hi hj e => ?_) (fun i row j c hi hj => ?_) (by simp)
  · rw [List.length_map] at this
    exact this
  · injection e with e; subst e
    rw [List.getElem?_map] at hi
    cases hl : out[i]? with
    | none => rw [hl] at hi; cases hi
    | some l =>
      rw [hl] at hi; injection hi with hi; subst hi
      cases j with
      | succ j => simp at hj
      | zero =>
        refine .inr ⟨i, l, hl, ?_, ?_⟩
        · cases i with
          | zero => rfl
          | succ i =>
            unfold Addr.add
            rw [if_neg (by omega)]
            show (⟨w.heap.size, 0 + ((i + 1) * 1 + 0), none⟩ : Addr) = ⟨w.heap.size, i + 1, none⟩
            rw [Nat.mul_one, Nat.add_zero, Nat.zero_add]
        · simp only [hl]
  · rw [List.getElem?_map] at hi
    cases hl : out[i]? with
    | none => rw [hl] at hi; cases hi
    | some l =>
      rw [hl] at hi; injection hi with hi; subst hi
      cases j with
      | succ j => simp at hj
      | zero =>
        simp at hj; subst hj
        simp only [hl]
        exact .str l

/-- Arguments that are texts. -/
theorem vrs_str1 {E : Env} {a : List UInt8} {vs : Array Value} (h : VRs E [.str a] vs.toList) : vs = #[.string ⟨a.toArray⟩] := by
  obtain ⟨v, h1, h2⟩ := h.get (j := 0) rfl
  have hl := h.size
  cases h2
  cases vs with | mk l => match l, hl, h1 with | [x], _, h1 => simp at h1; simp [h1]
theorem vrs_str2 {E : Env} {a b : List UInt8} {vs : Array Value} (h : VRs E [.str a, .str b] vs.toList) : vs = #[.string ⟨a.toArray⟩, .string ⟨b.toArray⟩] := by
  obtain ⟨v, h1, h2⟩ := h.get (j := 0) rfl
  obtain ⟨u, h3, h4⟩ := h.get (j := 1) rfl
  have hl := h.size
  cases h2; cases h4
  cases vs with | mk l => match l, hl, h1, h3 with | [x, y], _, h1, h3 => simp at h1 h3; simp [h1, h3]

end Go.Ab
