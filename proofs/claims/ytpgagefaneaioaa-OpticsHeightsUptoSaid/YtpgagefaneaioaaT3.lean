/- Steps that change memory: a new box, a new map, a store into a box, an append onto a token. -/
import Derived.Test.YtpgagefaneaioaaT2
import Derived.Laws.IdiomCopy
namespace Go.Ab
open Go Go.RowKit
set_option linter.unusedVariables false
set_option linter.unusedSimpArgs false

def AV.cellable : AV → Bool
  | .tok _ | .mps _ | .mpi _ => false
  | _ => true

theorem AV.cellable_cases {c : AV} (h : c.cellable = true) : c = .non ∨ c.plain = true := by cases c <;> simp_all [AV.cellable, AV.plain]

theorem Eff.new_one (dst : Option Nat) (v : AV) (ws : List (Nat × Nat × AV)) (b : Nat) (cs : List AV) (x : Nat) : (⟨dst, v, ws, b, [cs]⟩ : Eff).new x = decide (x = b) := by
  unfold Eff.new
  by_cases h : x = b
  · subst h; simp
  · simp only [List.length_cons, List.length_nil, h]; simp; omega

theorem apply_new_cell (S : FSt) (dst : Option Nat) (v : AV) (b : Nat) (cs : List AV) (x j : Nat) :
    (S.apply ⟨dst, v, [], b, [cs]⟩).cell x j = if x = b then cs.getD j .non else S.cell x j := by
  simp only [FSt.apply, Eff.new_one, wrs]
  by_cases h : x = b
  · subst h; simp
  · simp [h]

theorem apply_new_dom (S : FSt) (dst : Option Nat) (v : AV) (ws : List (Nat × Nat × AV)) (b : Nat) (cs : List AV) (x : Nat) :
    (S.apply ⟨dst, v, ws, b, [cs]⟩).dom x = (S.dom x || decide (x = b)) := by simp [FSt.apply, Eff.new_one]

/-- The old cells, behind a new object. -/
theorem SOk.old_alloc {Γ : Ctx} {E : Env} {S : FSt} {a : Act} {w : World} (h : SOk E S a w) (hE : EOk Γ E w) {b : Nat} (hb : S.dom b = false) (o : Obj) {x : Nat} (hx : x ≠ b) (j : Nat) :
    CellOk (E.addBox b w.heap.size) (w.alloc o) x j (S.cell x j) :=
  (h.cell x j).keep (Env.addBox_le (h.dom b hb)) (fun _ _ _ hl => heap_alloc_lt w o hl) (fun _ => by simp [Env.addBox])

theorem SOk.box {Γ : Ctx} {E : Env} {S : FSt} {a : Act} {w : World} (h : SOk E S a w) (hE : EOk Γ E w) {b : Nat} (hb : S.dom b = false) {cs : List AV} {vs : Array Value}
    (hv : VRs E cs vs.toList) (hc : ∀ c ∈ cs, c.cellable = true) (dst : Option Nat) (t : TypeId) :
    EOk Γ (E.addBox b w.heap.size) (w.alloc (.cells vs t)) ∧ SOk (E.addBox b w.heap.size) (S.apply ⟨dst, .ptr b 0, [], b, [cs]⟩) (a.put dst (.pointer (some ⟨w.heap.size, 0, none⟩))) (w.alloc (.cells vs t)) := by
  have hle : E.Le (E.addBox b w.heap.size) := Env.addBox_le (h.dom b hb)
  refine ⟨hE.addBox (h.dom b hb) _, h.step hle (e := ⟨dst, .ptr b 0, [], b, [cs]⟩) (.ptr b 0 _ (by simp [Env.addBox]) (by simp [Env.addBox])) (fun x j => ?_) (fun x hx => ?_)⟩
  · rw [apply_new_cell]
    by_cases hx : x = b
    · subst hx
      simp only [if_true]
      by_cases hj : j < cs.length
      · have he : cs[j]? = some (cs.getD j .non) := by simp [List.getD, List.getElem?_eq_getElem hj]
        obtain ⟨v, h1, h2⟩ := hv.get he
        rcases AV.cellable_cases (hc _ (List.mem_of_getElem? he)) with h3 | h3
        · rw [h3]; trivial
        · rw [CellOk.plain h3]
          refine ⟨by simp [Env.addBox], w.heap.size, v, by simp [Env.addBox], ?_, by simp, h2.mono hle⟩
          rw [World.cell?_alloc_new]
          simpa using h1
      · have : cs.getD j .non = .non := by simp [List.getD, List.getElem?_eq_none (by omega : cs.length ≤ j)]
        rw [this]; trivial
    · simp only [hx, if_false]
      exact h.old_alloc hE hb _ hx j
  · rw [apply_new_dom, Bool.or_eq_false_iff] at hx
    have : x ≠ b := by simpa using hx.2
    simp [Env.addBox, this, h.dom x hx.1]

theorem SOk.map {Γ : Ctx} {E : Env} {S : FSt} {a : Act} {w : World} (h : SOk E S a w) (hE : EOk Γ E w) {b : Nat} (hb : S.dom b = false) (dst : Option Nat) :
    EOk Γ (E.addBox b w.heap.size) (w.alloc (.map #[] 0)) ∧ SOk (E.addBox b w.heap.size) (S.apply ⟨dst, .mp b, [], b, [[.mps fun _ => none]]⟩) (a.put dst (.map (some w.heap.size))) (w.alloc (.map #[] 0)) := by
  have hle : E.Le (E.addBox b w.heap.size) := Env.addBox_le (h.dom b hb)
  refine ⟨hE.addBox (h.dom b hb) _, h.step hle (e := ⟨dst, .mp b, [], b, [[.mps fun _ => none]]⟩) (.mp b _ (by simp [Env.addBox]) (by simp [Env.addBox])) (fun x j => ?_) (fun x hx => ?_)⟩
  · rw [apply_new_cell]
    by_cases hx : x = b
    · subst hx
      simp only [if_true]
      cases j with
      | zero =>
        refine ⟨rfl, by simp [Env.addBox], w.heap.size, #[], 0, by simp [Env.addBox], heap_alloc_new w _, ?_⟩
        exact ⟨fun e he => by simp at he, fun l _ e he => by simp at he, fun l c hl => by simp at hl⟩
      | succ j => simp [List.getD, CellOk]
    · simp only [hx, if_false]
      exact h.old_alloc hE hb _ hx j
  · rw [apply_new_dom, Bool.or_eq_false_iff] at hx
    have : x ≠ b := by simpa using hx.2
    simp [Env.addBox, this, h.dom x hx.1]

/-! ### A store -/

def writes (b : Nat) : Nat → List AV → List (Nat × Nat × AV)
  | _, [] => []
  | o, c :: r => (b, o, c) :: writes b (o + 1) r

theorem wrs_writes (b : Nat) : ∀ (cs : List AV) (o : Nat) (f : Nat → Nat → AV) (x j : Nat),
    wrs (writes b o cs) f x j = if x = b ∧ o ≤ j ∧ j < o + cs.length then cs.getD (j - o) .non else f x j
  | [], o, f, x, j => by
    simp only [writes, wrs, List.length_nil]
    rw [if_neg (by omega)]
  | c :: r, o, f, x, j => by
    rw [writes, wrs, wrs_writes b r (o + 1)]
    by_cases h1 : x = b ∧ o + 1 ≤ j ∧ j < o + 1 + r.length
    · rw [if_pos h1, if_pos (by simp; omega)]
      rw [show j - o = (j - (o + 1)) + 1 by omega]
      simp
    · rw [if_neg h1]
      unfold upd
      by_cases h2 : x = b ∧ j = o
      · rw [if_pos h2, if_pos (by simp; omega)]
        rw [h2.2]; simp
      · rw [if_neg h2, if_neg (by simp; omega)]

theorem heap_setCells (b : Nat) : ∀ (vs : List Value) (o : Nat) (w : World) (g : Nat), g ≠ b → (w.setCells b o vs).heap[g]? = w.heap[g]?
  | [], _, _, _, _ => rfl
  | v :: r, o, w, g, h => by rw [World.setCells, heap_setCells b r _ _ g h]; exact Below.heap_setCell w ⟨b, o, none⟩ v g h

theorem setCells_frame (b : Nat) : ∀ (vs : List Value) (o : Nat) (w : World), (w.setCells b o vs).os = w.os ∧ (w.setCells b o vs).tape = w.tape ∧ (w.setCells b o vs).output = w.output ∧ (w.setCells b o vs).heap.size = w.heap.size
  | [], _, _ => ⟨rfl, rfl, rfl, rfl⟩
  | v :: r, o, w => by
    obtain ⟨h1, h2, h3, h4⟩ := setCells_frame b r (o + 1) (w.setCell ⟨b, o, none⟩ v)
    exact ⟨h1, h2, h3, by rw [World.setCells, h4]; simp⟩

/-- Whatever turns one box of mine alone. -/
theorem EOk.turn {Γ : Ctx} {E : Env} {w w' : World} (h : EOk Γ E w) {b g : Nat} (hk : E.kd b = 1) (hg : E.bk b = some g)
    (hos : w'.os = w.os) (htape : w'.tape = w.tape) (hout : w'.output = w.output) (hsize : w'.heap.size = w.heap.size) (hblk : ∀ x, x ≠ g → w'.heap[x]? = w.heap[x]?) : EOk Γ E w' where
  le := h.le
  os := hos.trans h.os
  tape := htape.trans h.tape
  output := hout.trans h.output
  size := by rw [hsize]; exact h.size
  old := fun x hx hX => by
    have hm := (h.lt (by rw [hk]; decide) hg).2
    rw [hblk x (fun e => by subst e; rcases hm with hm | hm; exact absurd hx (Nat.not_lt.2 hm); exact hX hm)]
    exact h.old x hx hX
  F := fun a v x => by
    obtain ⟨g', h1, _, _, h4⟩ := h.box b hk
    rw [hg] at h1; injection h1 with h1; subst h1
    rw [World.cell?_of_block (hblk a.block (h4 a v x))]
    exact h.F a v x
  box := fun x hx => let ⟨g', h1, h2, h3, h4⟩ := h.box x hx; ⟨g', h1, by rw [hsize]; exact h2, h3, h4⟩
  tok := fun t ht => (h.tok t ht).keep rfl rfl (fun g' hg' _ => hblk g' (fun e => by
    subst e
    have := h.inj t b g' (by rw [ht]; decide) (by rw [hk]; decide) hg' hg
    subst this
    rw [ht] at hk; cases hk)) (fun _ _ _ _ x _ => x)
  fnew := h.fnew
  kd3 := h.kd3
  inj := h.inj
  hx := h.hx

/-- The cells of the other blocks, where one box of mine is turned. -/
theorem SOk.turn_other {Γ : Ctx} {E : Env} {S : FSt} {a : Act} {w w' : World} (h : SOk E S a w) (hE : EOk Γ E w) {b g : Nat} (hk : E.kd b = 1) (hg : E.bk b = some g)
    (hblk : ∀ x, x ≠ g → w'.heap[x]? = w.heap[x]?) {x : Nat} (hx : x ≠ b) (j : Nat) : CellOk E w' x j (S.cell x j) :=
  (h.cell x j).keep (Env.Le.refl E) (fun g' hk' hg' _ => hblk g' (fun e => by
    subst e
    exact hx (hE.inj x b g' (by rw [hk']; decide) (by rw [hk]; decide) hg' hg))) (fun _ => rfl)

theorem SOk.store {Γ : Ctx} {E : Env} {S : FSt} {a : Act} {w : World} (h : SOk E S a w) (hE : EOk Γ E w) {b g off : Nat} (hk : E.kd b = 1) (hg : E.bk b = some g) {cs : List AV} {vs : List Value}
    (hv : VRs E cs vs) (hc : ∀ c ∈ cs, c.plain = true) (hold : ∀ i, i < cs.length → (S.cell b (off + i)).plain = true) (dst : Option Nat) (n : Nat) :
    EOk Γ E (w.setCells g off vs) ∧ SOk E (S.apply ⟨dst, .und, writes b off cs, n, []⟩) (a.put dst undef) (w.setCells g off vs) := by
  obtain ⟨f1, f2, f3, f4⟩ := setCells_frame g vs off w
  have hblk := fun x hx => heap_setCells g vs off w x hx
  refine ⟨hE.turn hk hg f1 f2 f3 f4 hblk, h.step (Env.Le.refl E) (e := ⟨dst, .und, writes b off cs, n, []⟩) .und (fun x j => ?_) (fun x hx => ?_)⟩
  · have e1 : (S.apply ⟨dst, .und, writes b off cs, n, []⟩).cell x j = wrs (writes b off cs) S.cell x j := by simp [FSt.apply, Eff.new_nil]
    rw [e1, wrs_writes]
    have hin : ∀ i, i < cs.length → ∃ u, w.cell? ⟨g, off + i, none⟩ = some u ∧ w.frozen? ⟨g, off + i, none⟩ = false := fun i hi => by
      have := h.cell b (off + i)
      rw [CellOk.plain (hold i hi)] at this
      obtain ⟨_, g', u, h1, h2, h3, _⟩ := this
      rw [hg] at h1; injection h1 with h1; subst h1
      exact ⟨u, h2, h3⟩
    by_cases hx : x = b ∧ off ≤ j ∧ j < off + cs.length
    · rw [if_pos hx]
      obtain ⟨rfl, h1, h2⟩ := hx
      have hj : j - off < cs.length := by omega
      have he : cs[j - off]? = some (cs.getD (j - off) .non) := by simp [List.getD, List.getElem?_eq_getElem hj]
      obtain ⟨v, hv1, hv2⟩ := hv.get he
      rw [CellOk.plain (hc _ (List.mem_of_getElem? he))]
      refine ⟨hk, g, v, hg, ?_, ?_, hv2⟩
      · have hlen : j - off < vs.length := by rw [hv.1]; exact hj
        have := World.cell?_setCells_in g vs off w (fun i hi => by obtain ⟨u, hu, _⟩ := hin i (by rw [← hv.1]; exact hi); rw [hu]; rfl) (j - off) hlen
        rw [show off + (j - off) = j by omega] at this
        rw [this]
        rw [List.getElem?_eq_getElem hlen] at hv1
        exact hv1
      · rw [World.frozen?_setCells]
        obtain ⟨u, _, hu⟩ := hin (j - off) hj
        rw [show off + (j - off) = j by omega] at hu
        exact hu
    · rw [if_neg hx]
      by_cases hb : x = b
      · subst hb
        by_cases hp : (S.cell x j).plain = true
        · have := h.cell x j
          rw [CellOk.plain hp] at this ⊢
          obtain ⟨_, g', u, h1, h2, h3, h4⟩ := this
          rw [hg] at h1; injection h1 with h1; subst h1
          refine ⟨hk, g, u, hg, ?_, by rw [World.frozen?_setCells]; exact h3, h4⟩
          rw [World.cell?_setCells_out g vs off w ⟨g, j, none⟩ (fun _ _ => by
            simp only
            have := hv.1
            by_cases h1 : j < off
            · exact .inl h1
            · exact .inr (Nat.le_of_not_lt fun h2 => hx ⟨rfl, by omega, by omega⟩))]
          exact h2
        · have hh := h.cell x j
          cases hcell : S.cell x j <;> rw [hcell] at hp hh <;> simp [AV.plain] at hp
          case non => trivial
          case tok m => exact absurd hh.2.1 (by rw [hk]; decide)
          case mps f =>
            -- a map's block holds no cells: nothing can have been stored
            obtain ⟨hj, _, g', es, clock, h1, h2, h3⟩ := hh
            rw [hg] at h1; injection h1 with h1; subst h1
            by_cases h0 : 0 < cs.length
            · obtain ⟨u, hu, _⟩ := hin 0 h0
              simp [World.cell?, h2] at hu
            · have : vs = [] := List.eq_nil_of_length_eq_zero (by rw [hv.1]; omega)
              subst this
              exact ⟨hj, hk, g, es, clock, hg, h2, h3⟩
          case mpi f => exact hh.elim
      · exact h.turn_other hE hk hg hblk hb j
  · rw [apply_pure_dom] at hx
    exact h.dom x hx

end Go.Ab
