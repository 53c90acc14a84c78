/- A range over the lines of a text (strings.Lines), abstractly: the statement's rule, that it is right, and from the code of a function that holds such a statement to its contract. -/
import Derived.Test.YthhidmnlhocigaaGreatDoorRF
import Derived.RangeFuncIn
import Derived.RangeFuncRecord
import Derived.RangeFuncLeaves
namespace Go.Ab
open Go Go.RowKit
set_option linter.unusedVariables false
set_option linter.unusedSimpArgs false

variable {P : Program} {T : TT}

/-- The first line of a text, its end with it; what is behind it. -/
def firstL : List UInt8 → List UInt8
  | [] => []
  | c :: r => if c = 10 then [c] else c :: firstL r
def restL : List UInt8 → List UInt8
  | [] => []
  | c :: r => if c = 10 then r else restL r
theorem restL_lt : ∀ {t : List UInt8}, t ≠ [] → (restL t).length < t.length
  | [], h => absurd rfl h
  | [c], _ => by simp only [restL]; split <;> simp
  | c :: d :: r, _ => by
    simp only [restL]
    split
    · simp
    · have := restL_lt (t := d :: r) (by simp)
      simp only [restL, List.length_cons] at this ⊢
      omega
theorem restL_le : ∀ t : List UInt8, (restL t).length ≤ t.length
  | [] => Nat.le_refl _
  | c :: r => Nat.le_of_lt (restL_lt (by simp))

/-- What the iterator of strings.Lines does, over whatever rounds. -/
def LinesAt (P : Program) (L : Nat) : Prop :=
  ∀ (n l B : Nat) (t0 : List UInt8) (W0 : World) (J : List UInt8 → World → Prop) (Jx : World → Prop), t0.length ≤ 1099511627776 →
    (∀ t W, J t W → J t W.drew) →
    (∀ t W, J t W → W.cell? ⟨B, 0, none⟩ = some (.string ⟨t.toArray⟩) ∧ W.frozen? ⟨B, 0, none⟩ = false) →
    (∀ t W, J t W → t ≠ [] → YieldAt Fence.wide (n - 1) P l #[.string ⟨(firstL t).toArray⟩] (W.setCell ⟨B, 0, none⟩ (.string ⟨(restL t).toArray⟩)) fun e W' =>
      (e = .returned (.bool true) ∧ J (restL t) W') ∨ (e = .returned (.bool false) ∧ Jx W')) →
    J t0 W0 → CallsIn Fence.wide n P L #[.func (.yield l) #[] #[], .pointer (some ⟨B, 0, none⟩)] W0 fun e W' => (∃ v, e = .returned v) ∧ (J [] W' ∨ Jx W')

/-- The rule of the statement. -/
def rangeA (P : Program) (T : TT) (g : Operand) (ps : Array Tmp) (asn bd : Code) (s : ASt) (K : AEx → ASt → Prop) : Prop :=
  ∃ (L b p : Nat) (t0 : List UInt8), s.view.ev g = .fn L [.ptr b 0] ∧ LinesAt P L ∧ Callable P L ∧ ps = #[p] ∧ t0.length ≤ 1099511627776 ∧ ndC asn = true ∧ ndC bd = true ∧
    ∃ I : List UInt8 → List (List AV) → Prop, I t0 s.heap ∧
      (∀ t H, I t H → H.length = s.heap.length ∧ nthB H b = [.str t] ∧ (t ≠ [] → awp P T s.heap.length asn ⟨s.regs.set p (.str (firstL t)), setB H b 0 (.str (restL t))⟩ fun x s1 => match x with
        | .nrm => s1.heap.length = s.heap.length ∧ awp P T s.heap.length bd s1 fun x s2 => match x with
          | .nrm => ∃ s3, Ent s.heap.length s2 s3 ∧ I (restL t) s3.heap
          | .ext id => K (.ext id) ⟨s.regs, s2.heap⟩
          | .ret => K .ret ⟨s.regs, s2.heap⟩
        | _ => False)) ∧
      (∀ H, I [] H → K .nrm ⟨s.regs, H⟩)

theorem Env.Lo.trans {E E' E'' : Env} (h : E.Lo E') (k : E'.Lo E'') : E.Lo E'' := by
  have h' : ({ E with kp := fun _ => none } : Env).Le { E' with kp := fun _ => none } := ⟨h.F, h.box, h.tok, h.ar, fun _ _ x => nomatch x⟩
  have k' : ({ E' with kp := fun _ => none } : Env).Le { E'' with kp := fun _ => none } := ⟨k.F, k.box, k.tok, k.ar, fun _ _ x => nomatch x⟩
  have := h'.trans k'
  exact ⟨this.F, this.box, this.tok, this.ar⟩

/-- The environment as it is now as the first one. -/
theorem EOk.rebase {Γ : Ctx} {E : Env} {w : World} (h : EOk Γ E w) {n : Nat} (hd : ∀ b, E.kd b ≠ 0 → b < n) : EOk { Γ with E0 := E, nx := n } E w :=
  { le := Env.Le.refl _, os := h.os, tape := h.tape, output := h.output, size := h.size, old := h.old, F := h.F, box := h.box, tok := h.tok, fnew := fun _ _ x => .inl x, kd3 := h.kd3, arb := h.arb,
    new := fun _ _ hk hg => .inl ⟨hk, hg⟩, inj := h.inj, hx := hd, gl := h.gl, gm := h.gm, kpn := h.kpn }
theorem EOk.unbase {Γ : Ctx} {E1 E2 : Env} {w1 w2 : World} {n : Nat} (h : EOk { Γ with E0 := E1, nx := n } E2 w2) (h1 : EOk Γ E1 w1) : EOk Γ E2 w2 :=
  { le := h1.le.trans h.le, os := h.os, tape := h.tape, output := h.output, size := h.size, old := h.old, F := h.F, box := h.box, tok := h.tok,
    fnew := fun a v x => by
      rcases h.fnew a v x with y | y
      · exact h1.fnew a v y
      · exact .inr y
    kd3 := h.kd3, arb := h.arb,
    new := fun b g hk hg => by
      rcases h.new b g hk hg with ⟨y1, y2⟩ | y
      · exact h1.new b g y1 y2
      · exact .inr y
    inj := h.inj, hx := h1.hx, gl := h.gl, gm := h.gm, kpn := h.kpn }
theorem EOk.drew {Γ : Ctx} {E : Env} {w : World} (hE : EOk Γ E w) : EOk Γ E w.drew :=
  ⟨hE.le, hE.os, hE.tape, hE.output, hE.size, hE.old, hE.F, hE.box, hE.tok, hE.fnew, hE.kd3, hE.arb, hE.new, hE.inj, hE.hx, hE.gl, ⟨hE.gm.map, hE.gm.tab, hE.gm.kp⟩, hE.kpn⟩
theorem SOk.drew {E : Env} {S : FSt} {a : Act} {w : World} (h : SOk E S a w) : SOk E S a w.drew := ⟨h.size, h.defers, h.reg, h.cell, h.dom, h.gl⟩

/-- New blocks of the book-keeping. -/
theorem EOk.newKp {Γ : Ctx} {E : Env} {w : World} (h : EOk Γ E w) (o : Obj) : EOk Γ (E.setKp w.heap.size (some o)) (w.alloc o) := by
  have h' := h.alloc o
  have hno : E.kp w.heap.size = none := by
    cases q : E.kp w.heap.size with
    | none => rfl
    | some u => have := (Array.getElem?_eq_some_iff.1 (h.gm.kp _ u q).1).1; omega
  exact {
    le := ⟨h'.le.F, h'.le.box, h'.le.tok, h'.le.ar, fun g u hu => by
      have hu' := h'.le.kp g u hu
      have : g ≠ w.heap.size := fun e => by rw [e, hno] at hu'; cases hu'
      show (if g = w.heap.size then some o else E.kp g) = some u
      rw [if_neg this]; exact hu'⟩
    os := h'.os
    tape := h'.tape
    output := h'.output
    size := h'.size
    old := h'.old
    F := h'.F
    box := h'.box
    tok := fun t ht => (h'.tok t ht).keep rfl rfl (fun _ _ _ => rfl) (fun _ _ _ _ y _ => y)
    fnew := h'.fnew
    kd3 := h'.kd3
    arb := h'.arb
    new := h'.new
    inj := h'.inj
    hx := h'.hx
    gl := h'.gl
    gm := ⟨h'.gm.map, h'.gm.tab, fun g u hu => by
      simp only [Env.setKp] at hu
      split at hu
      · rename_i e
        subst e
        injection hu with hu
        subst hu
        refine ⟨World.alloc_heap_new w o, fun b hb hg => ?_⟩
        have := (h.lt hb hg).1
        omega
      · exact h'.gm.kp g u hu⟩
    kpn := fun g u hu => by
      simp only [Env.setKp] at hu
      split at hu
      · rename_i e; rw [e]; exact h.size
      · exact h.kpn g u hu }
theorem SOk.newKp {Γ : Ctx} {E : Env} {S : FSt} {a : Act} {w : World} (hS : SOk E S a w) (h : EOk Γ E w) (o : Obj) {ds : List Deferred} (hds : Marks (E.setKp w.heap.size (some o)) ds) : SOk (E.setKp w.heap.size (some o)) S { tmps := a.tmps, defers := ds } (w.alloc o) :=
  ⟨hS.size, hds, fun r => (hS.reg r).mono0 (E.setKp_lo _ _), fun b j => (hS.cell b j).keep0 (E.setKp_lo _ _) (fun g hb hg hl => heap_alloc_lt w o hl) (fun _ => rfl), hS.dom, hS.gl⟩

theorem kp_fresh {Γ : Ctx} {E : Env} {w : World} (h : EOk Γ E w) {g : Nat} (hg : w.heap.size ≤ g) : E.kp g = none := by
  cases q : E.kp g with
  | none => rfl
  | some u => have := (Array.getElem?_eq_some_iff.1 (h.gm.kp _ u q).1).1; omega

/-- At the end of a round the record turns. -/
theorem round_end {Γ : Ctx} {E : Env} {w : World} {l : Nat} {r : Loop} (h : EOk Γ E w) (hk : E.kp l = some (.loop r)) (jump : Option Code) :
    (Instr.endRound l jump).run P w = .ok (.bool jump.isNone) (w.putObj l (.loop { r with state := if jump.isNone then .ready else .done, pending := jump })) := run_endRound jump (h.gm.kp l _ hk).1

theorem marks_setKp {E : Env} {ds : List Deferred} (h : Marks E ds) {l : Nat} {r : Loop} (hl : E.kp l = some (.loop r)) {x : Option Obj} : Marks (E.setKp l x) ds :=
  ⟨fun d hd => by
    obtain ⟨D, e, hD⟩ := h.1 d hd
    refine ⟨D, e, ?_⟩
    have : D ≠ l := fun e' => by rw [e', hl] at hD; cases hD
    simp only [Env.setKp, this, if_false]; exact hD, h.2⟩

/-- What is between two rounds. -/
structure RangeJ (Γ : Ctx) (E0 : Env) (s : ASt) (a : Act) (D l : Nat) (rec : Loop) (H : List (List AV)) (E : Env) (W : World) : Prop where
  e : EOk Γ E W
  s : SOk E (ASt.mk s.regs H).view { tmps := a.tmps, defers := [] } W
  d : E.kp D = some (.deferred (some []))
  l : E.kp l = some (.loop rec)
  k : ∀ g o, E0.kp g = some o → E.kp g = some o

theorem view_setR {R : List AV} {H : List (List AV)} {p : Nat} {c : AV} : (ASt.mk (R.set p c) H).view = (ASt.mk R H).view.apply ⟨some p, c, [], H.length, []⟩ := by
  have := view_apply (s := ASt.mk R H) (e := ⟨some p, c, [], H.length, []⟩) ⟨rfl, by simp⟩
  rw [← this]
  simp [ASt.apply, wrH, setR]
theorem view_setB {R : List AV} {H : List (List AV)} {b : Nat} {c d : AV} (hb : nthB H b = [d]) (hd : d ≠ .non) (hc : c ≠ .non) : (ASt.mk R (setB H b 0 c)).view = (ASt.mk R H).view.apply ⟨none, .und, writes b 0 [c], H.length, []⟩ := by
  have := view_apply (s := ASt.mk R H) (e := ⟨none, .und, writes b 0 [c], H.length, []⟩) ⟨rfl, fun x hx => by
    simp only [writes, List.mem_cons, List.not_mem_nil, or_false] at hx
    subst hx
    refine ⟨?_, hc⟩
    simp only [ASt.view]
    rw [hb]; exact hd⟩
  rw [← this]
  simp [ASt.apply, wrH, setR, writes]

theorem range_sound (hT : TabOk P T) (hm : P.follows .mixedOrders = true) {Γ : Ctx} {g : Operand} {ps : Array Tmp} {asn bd : Code} {s : ASt} {K : AEx → ASt → Prop} (h : rangeA P T g ps asn bd s K) {Q : Exit → Act → World → Prop} {a : Act} {w : World} {n : Nat}
    (hR : Rel Γ s.view a w) (hQ : ∀ x s' a' w', K x s' → Rel Γ s'.view a' w' → Q x.ex a' w') : (Code.rangeFunc g ps asn bd).wpIn Fence.wide n P Q a w := by
  obtain ⟨L, b, p, t0, hg, hLines, hCall, rfl, ht0, hnd1, hnd2, I, hI0, hround, hdone⟩ := h
  obtain ⟨E, hE, hS⟩ := hR
  -- the iterator's value
  obtain ⟨B, hga⟩ : ∃ B, a.eval g = .func (.func L) #[] #[.pointer (some ⟨B, 0, none⟩)] := by
    have hv := hS.ev g
    rw [hg] at hv
    generalize a.eval g = v at hv
    cases hv with
    | fn _ _ us hl hu =>
      have : us.size = 1 := hl
      obtain ⟨u, rfl⟩ : ∃ u, us = #[u] := ⟨us[0], by cases us with | mk l => match l, this with | [u], _ => rfl⟩
      have h1 := hu 0 (.ptr b 0) u rfl rfl
      cases h1 with
      | ptr _ _ B hk hb => exact ⟨B, rfl⟩
  have hsz := hS.size
  refine wpIn_rangeFunc ?_
  intro fn hfn
  obtain ⟨rec, hrec⟩ : ∃ rec : LoopState → Option Code → Loop, rec = fun st pe => { state := st, pending := pe, fn, tmps := a.tmps, params := #[p], assign := asn, body := bd, defers := w.heap.size } := ⟨_, rfl⟩
  -- the two blocks of the book-keeping
  have hE1 := hE.newKp (.deferred (some []))
  have hS1 : SOk (E.setKp w.heap.size (some (.deferred (some [])))) s.view { tmps := a.tmps, defers := [] } (w.alloc (.deferred (some []))) := hS.newKp hE _ Marks.nil
  have hE2 := hE1.newKp (.loop (rec .ready none))
  have hS2 : SOk ((E.setKp w.heap.size (some (.deferred (some [])))).setKp (w.alloc (.deferred (some []))).heap.size (some (.loop (rec .ready none)))) s.view { tmps := a.tmps, defers := [] } ((w.alloc (.deferred (some []))).alloc (.loop (rec .ready none))) := hS1.newKp hE1 _ Marks.nil
  have hl1 : (w.alloc (.deferred (some []))).heap.size = w.heap.size + 1 := World.size_alloc _ _
  rw [hl1] at hE2 hS2
  generalize hW1 : (w.alloc (.deferred (some []))).alloc (.loop (rec .ready none)) = W1 at hE2 hS2
  generalize hEE : (E.setKp w.heap.size (some (.deferred (some [])))).setKp (w.heap.size + 1) (some (.loop (rec .ready none))) = E1 at hE2 hS2
  have hΓl : Γ.E0.kp (w.heap.size + 1) = none := by
    cases q : Γ.E0.kp (w.heap.size + 1) with
    | none => rfl
    | some u => have := hE.le.kp _ u q; rw [kp_fresh hE (by omega)] at this; cases this
  have hKfresh : ∀ g o, E.kp g = some o → g ≠ w.heap.size ∧ g ≠ w.heap.size + 1 := fun g o hgo => by
    refine ⟨fun e => ?_, fun e => ?_⟩ <;> rw [e, kp_fresh hE (by omega)] at hgo <;> cases hgo
  have hJ1 : RangeJ Γ E s a w.heap.size (w.heap.size + 1) (rec .ready none) s.heap E1 W1 := by
    subst hEE
    refine ⟨hE2, hS2, ?_, ?_, fun g o hgo => ?_⟩
    · simp [Env.setKp]
    · simp [Env.setKp]
    · obtain ⟨q1, q2⟩ := hKfresh g o hgo
      simp [Env.setKp, q1, q2, hgo]
  -- a frame whose deferred calls bear the mark
  have hmark : ∀ E' : Env, (∀ g o, E.kp g = some o → E'.kp g = some o) → E'.kp w.heap.size = some (.deferred (some [])) → Marks E' ({ target := .collected w.heap.size, args := #[] } :: a.defers) := fun E' hk hd => by
    have h1 := hS.defers.mono hk
    refine ⟨fun d hd' => ?_, List.nodup_cons.2 ⟨fun hin => ?_, h1.2⟩⟩
    · rcases List.mem_cons.1 hd' with rfl | hd'
      · exact ⟨_, rfl, hd⟩
      · exact h1.1 d hd'
    · obtain ⟨D', e, hD'⟩ := hS.defers.1 _ hin
      injection e with e
      injection e with e
      subst e
      exact (hKfresh _ _ hD').1 rfl
  refine ⟨w.heap.size + 1, [{ target := .collected w.heap.size, args := #[] }], W1, { target := .fn (.func L) #[.pointer (some ⟨B, 0, none⟩)], args := #[.func (.yield (w.heap.size + 1)) #[] #[]] }, W1, L,
    #[.func (.yield (w.heap.size + 1)) #[] #[]] ++ #[.pointer (some ⟨B, 0, none⟩)], W1, ?_, ?_, ?_, ?_, fun h0 => (by cases h0), ?_⟩
  · rw [← hW1, hrec]; exact run_enterLoop_outer _ _ _ _ _
  · simp only [resolve, hga]
    simp [go_sem]
  · intro f' hf'; simp [Target.leads] at hf'; trivial
  · simp [invoke, go_sem, run_callFunc _ hCall]
  · refine (hLines (n - 1) (w.heap.size + 1) B t0 W1 (fun t W => ∃ H E', I t H ∧ RangeJ Γ E s a w.heap.size (w.heap.size + 1) (rec .ready none) H E' W)
      (fun W => ∃ x c H E', (∀ (a' : Act) (W' : World), Q x.ex a' W' → Code.wpIn Fence.wide n P c Q a' W') ∧ K x ⟨s.regs, H⟩ ∧ RangeJ Γ E s a w.heap.size (w.heap.size + 1) (rec .done (some c)) H E' W) ht0 ?_ ?_ ?_ ⟨s.heap, E1, hI0, hJ1⟩).mono ?_
    · rintro t W ⟨H, E', hI, hJ⟩
      exact ⟨H, E', hI, hJ.e.drew, hJ.s.drew, hJ.d, hJ.l, hJ.k⟩
    · rintro t W ⟨H, E', hI, hJ⟩
      obtain ⟨_, hb, _⟩ := hround t H hI
      have hv := hJ.s.ev g
      have hev : (ASt.mk s.regs H).view.ev g = s.view.ev g := by cases g <;> rfl
      have hae : Act.eval { tmps := a.tmps, defers := [] } g = a.eval g := by cases g <;> rfl
      rw [hev, hg, hae, hga] at hv
      have hc := hJ.s.cell b 0
      simp only [ASt.view] at hc
      rw [hb] at hc
      rw [show nth [AV.str t] 0 = .str t from rfl, CellOk.plain rfl] at hc
      obtain ⟨hk, B', v, h1, h2, h3, h4⟩ := hc
      cases hv with
      | fn _ _ us hl hu =>
        have h5 := hu 0 (.ptr b 0) _ rfl rfl
        cases h5 with
        | ptr _ _ _ hk' hb' =>
          rw [h1] at hb'; injection hb' with hb'; subst hb'
          cases h4
          exact ⟨h2, h3⟩
    · rintro t W ⟨H, E', hI, hJ⟩ htn
      obtain ⟨hHl, hb, hrnd⟩ := hround t H hI
      replace hrnd := hrnd htn
      -- the block of the text
      have hBk : E'.kd b = 1 ∧ E'.bk b = some B := by
        have hv := hJ.s.ev g
        have hev : (ASt.mk s.regs H).view.ev g = s.view.ev g := by cases g <;> rfl
        have hae : Act.eval { tmps := a.tmps, defers := [] } g = a.eval g := by cases g <;> rfl
        rw [hev, hg, hae, hga] at hv
        cases hv with
        | fn _ _ us hl hu =>
          have h5 := hu 0 (.ptr b 0) _ rfl rfl
          cases h5 with
          | ptr _ _ _ hk' hb' => exact ⟨hk', hb'⟩
      obtain ⟨hst1, hst2⟩ := hJ.s.store hJ.e hBk.1 hBk.2 (off := 0) (cs := [.str (restL t)]) (vs := [.string ⟨(restL t).toArray⟩]) (VRs.cons (.str _) VRs.nil) (by simp [AV.plain]) (fun i hi => by
        have hi : i = 0 := by simpa using hi
        subst hi
        simp only [ASt.view, Nat.zero_add]
        rw [hb]; rfl) none H.length
      rw [← view_setB hb (by simp) (by simp)] at hst2
      have hput : (Act.put { tmps := a.tmps, defers := [] } none undef) = { tmps := a.tmps, defers := [] } := rfl
      rw [hput] at hst2
      have hset : W.setCells B 0 [.string ⟨(restL t).toArray⟩] = W.setCell ⟨B, 0, none⟩ (.string ⟨(restL t).toArray⟩) := rfl
      rw [hset] at hst1 hst2
      generalize hWs : W.setCell ⟨B, 0, none⟩ (.string ⟨(restL t).toArray⟩) = Ws at hst1 hst2
      have hheap := (hst1.gm.kp _ _ hJ.l).1
      have hy := run_yield (P := P) (args := #[.string ⟨(firstL t).toArray⟩]) hheap (by rw [hrec]; rfl)
      rw [hrec] at hy
      refine ⟨fn, _, asn, bd, hy, roundIn_of_wpIn hfn ?_⟩
      clear hy
      -- the assignment
      have hbase := hst1.rebase (n := s.heap.length) (fun b' hb' => by
        rcases Nat.lt_or_ge b' H.length with q | q
        · omega
        · exact absurd (hJ.s.dom b' (by simp only [ASt.view, decide_eq_false_iff_not]; omega)) hb')
      have hpure := hst2.pure (dst := some p) (c := .str (firstL t)) (v := .string ⟨(firstL t).toArray⟩) (.str _) (setB H b 0 (.str (restL t))).length
      rw [← view_setR] at hpure
      have hzip : ((#[p] : Array Tmp).zip #[Value.string ⟨(firstL t).toArray⟩]).foldl (fun tmps (t, a) => tmps.setIfInBounds t a) a.tmps = a.tmps.setIfInBounds p (.string ⟨(firstL t).toArray⟩) := by simp
      have hRel : Rel { Γ with E0 := E', nx := s.heap.length } (ASt.mk (s.regs.set p (.str (firstL t))) (setB H b 0 (.str (restL t)))).view { tmps := a.tmps.setIfInBounds p (.string ⟨(firstL t).toArray⟩), defers := [] } Ws := ⟨E', hbase, hpure⟩
      dsimp only
      rw [hzip]
      refine wpIn_mono (awp_soundIn hT hm (Γ := { Γ with E0 := E', nx := s.heap.length }) (l := w.heap.size + 1) (n := n - 1 - 1) asn _ _ hnd1 hrnd _ _ hRel) ?_
      rintro e a1 w1 ⟨x, s1, rfl, hx, E2, hE2', hS2'⟩
      cases x with
      | ext id => exact hx.elim
      | ret => exact hx.elim
      | nrm =>
      obtain ⟨hs1l, hx⟩ := hx
      have hl2 : E2.kp (w.heap.size + 1) = some (.loop (rec .ready none)) := hE2'.le.kp _ _ hJ.l
      have hheap2 := (hE2'.gm.kp _ _ hl2).1
      refine ⟨_, run_beginRound hheap2 (by rw [hrec]), ?_⟩
      have hun := hE2'.unbase hJ.e
      have hEb := hun.putKp (o' := .loop { rec .ready none with state := .busy }) (x := some (.loop { rec .ready none with state := .busy })) hl2 hΓl rfl (fun u hu => by injection hu with hu; exact hu.symm)
      have hSb := hS2'.putKp hE2' (D := w.heap.size + 1) (o' := .loop { rec .ready none with state := .busy }) hl2 (some (.loop { rec .ready none with state := .busy })) (ds := a1.defers) (marks_setKp hS2'.defers hl2)
      generalize hWb : w1.putObj (w.heap.size + 1) (.loop { rec .ready none with state := .busy }) = Wb at hEb hSb
      generalize hE3 : E2.setKp (w.heap.size + 1) (some (.loop { rec .ready none with state := .busy })) = E3 at hEb hSb
      have hl3 : E3.kp (w.heap.size + 1) = some (.loop { rec .ready none with state := .busy }) := by subst hE3; simp [Env.setKp]
      have hd3 : E3.kp w.heap.size = some (.deferred (some [])) := by subst hE3; simp [Env.setKp]; exact hE2'.le.kp _ _ hJ.d
      have hk3 : ∀ g o, E.kp g = some o → E3.kp g = some o := fun g o hgo => by
        subst hE3
        simp [Env.setKp, (hKfresh g o hgo).2]; exact hE2'.le.kp _ _ (hJ.k g o hgo)
      have hlo3 : E'.Lo E3 := by subst hE3; exact hE2'.le.lo.trans (E2.setKp_lo _ _)
      have hbase3 := hEb.rebase (n := s.heap.length) (fun b' hb' => by
        rcases Nat.lt_or_ge b' s1.heap.length with q | q
        · omega
        · exact absurd (hSb.dom b' (by simp only [ASt.view, decide_eq_false_iff_not]; omega)) hb')
      have hRel3 : Rel { Γ with E0 := E3, nx := s.heap.length } s1.view a1 Wb := ⟨E3, hbase3, hSb⟩
      refine wpIn_mono (awp_soundIn hT hm (Γ := { Γ with E0 := E3, nx := s.heap.length }) (l := w.heap.size + 1) (n := n - 1 - 1) bd _ _ hnd2 hx _ _ hRel3) ?_
      -- where the round is over
      have fin : ∀ (H2 : List (List AV)) (S2 : ASt) (E4 : Env) (a4 : Act) (w4 : World) (jump : Option Code), S2.heap = H2 → EOk { Γ with E0 := E3, nx := s.heap.length } E4 w4 → SOk E4 S2.view a4 w4 →
          (Instr.endRound (w.heap.size + 1) jump).run P w4 = .ok (.bool jump.isNone) (w4.putObj (w.heap.size + 1) (.loop (rec (if jump.isNone then .ready else .done) jump))) ∧
          RangeJ Γ E s a w.heap.size (w.heap.size + 1) (rec (if jump.isNone then .ready else .done) jump) H2 (E4.setKp (w.heap.size + 1) (some (.loop (rec (if jump.isNone then .ready else .done) jump)))) (w4.putObj (w.heap.size + 1) (.loop (rec (if jump.isNone then .ready else .done) jump))) := by
        rintro H2 S2 E4 a4 w4 jump rfl hE4 hS4
        have hl4 := hE4.le.kp _ _ hl3
        have hend := round_end (P := P) hE4 hl4 jump
        rw [hrec] at hend ⊢
        refine ⟨hend, ?_⟩
        have hun4 := hE4.unbase hEb
        have hE5 := hun4.putKp (o' := .loop { state := if jump.isNone then .ready else .done, pending := jump, fn, tmps := a.tmps, params := #[p], assign := asn, body := bd, defers := w.heap.size }) (x := some (.loop { state := if jump.isNone then .ready else .done, pending := jump, fn, tmps := a.tmps, params := #[p], assign := asn, body := bd, defers := w.heap.size })) hl4 hΓl rfl (fun u hu => by injection hu with hu; exact hu.symm)
        have hS5 := hS4.putKp hE4 (D := w.heap.size + 1) (o' := .loop { state := if jump.isNone then .ready else .done, pending := jump, fn, tmps := a.tmps, params := #[p], assign := asn, body := bd, defers := w.heap.size }) hl4 (some (.loop { state := if jump.isNone then .ready else .done, pending := jump, fn, tmps := a.tmps, params := #[p], assign := asn, body := bd, defers := w.heap.size })) (ds := []) Marks.nil
        refine ⟨hE5, ⟨hJ.s.size, Marks.nil, fun r => (hJ.s.reg r).mono0 (hlo3.trans (hE4.le.lo.trans (E4.setKp_lo _ _))), hS5.cell, hS5.dom, hS5.gl⟩, ?_, by simp [Env.setKp], fun g o hgo => ?_⟩
        · simp [Env.setKp]; exact hE4.le.kp _ _ hd3
        · simp [Env.setKp, (hKfresh g o hgo).2]; exact hE4.le.kp _ _ (hk3 g o hgo)
      rintro e a3 w3 ⟨x, s2, rfl, hx2, hR2⟩
      cases x with
      | nrm =>
        obtain ⟨s3, he3, hI3⟩ := hx2
        obtain ⟨E4, hE4, hS4⟩ := he3 _ a3 w3 rfl hR2
        obtain ⟨q1, q2⟩ := fin s3.heap s3 E4 a3 w3 none rfl hE4 hS4
        exact ⟨_, _, q1, .inl ⟨rfl, s3.heap, _, hI3, q2⟩⟩
      | ext id =>
        obtain ⟨E4, hE4, hS4⟩ := hR2
        obtain ⟨q1, q2⟩ := fin s2.heap s2 E4 a3 w3 (some (.exit id)) rfl hE4 hS4
        exact ⟨_, _, q1, .inr ⟨rfl, .ext id, .exit id, s2.heap, _, fun a' W' hq => wpIn_exit hq, hx2, q2⟩⟩
      | ret =>
        obtain ⟨E4, hE4, hS4⟩ := hR2
        obtain ⟨q1, q2⟩ := fin s2.heap s2 E4 a3 w3 (some .ret) rfl hE4 hS4
        exact ⟨_, _, q1, .inr ⟨rfl, .ret, .ret, s2.heap, _, fun a' W' hq => wpIn_ret hq, hx2, q2⟩⟩
    · rintro e W2 ⟨⟨v, rfl⟩, (⟨H, E', hI, hJ⟩ | ⟨x, c, H, E', hc, hK, hJ⟩)⟩
      · have hend := run_endLoop (P := P) (hJ.e.gm.kp _ _ hJ.l).1 (by rw [hrec]; simp)
        refine ⟨none, _, by rw [hrec] at hend; exact hend, ?_⟩
        refine hQ .nrm ⟨s.regs, H⟩ _ _ (hdone H hI) ⟨_, hJ.e.putKp (x := none) hJ.l hΓl rfl (fun u hu => by cases hu), ?_⟩
        exact hJ.s.putKp hJ.e hJ.l none (hmark _ (fun g o hgo => by simp [Env.setKp, (hKfresh g o hgo).2]; exact hJ.k g o hgo) (by simp [Env.setKp]; exact hJ.d))
      · have hend := run_endLoop (P := P) (hJ.e.gm.kp _ _ hJ.l).1 (by rw [hrec]; simp)
        refine ⟨some c, _, by rw [hrec] at hend; exact hend, ?_⟩
        refine hc _ _ (hQ x ⟨s.regs, H⟩ _ _ hK ⟨_, hJ.e.putKp (x := none) hJ.l hΓl rfl (fun u hu => by cases hu), ?_⟩)
        exact hJ.s.putKp hJ.e hJ.l none (hmark _ (fun g o hgo => by simp [Env.setKp, (hKfresh g o hgo).2]; exact hJ.k g o hgo) (by simp [Env.setKp]; exact hJ.d))
end Go.Ab
