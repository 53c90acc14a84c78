/- The rest of the operations that look at values alone, and all of them together. -/
import Derived.Test.YtpgagefaneaioaaT7
namespace Go.Ab
open Go Go.RowKit
set_option linter.unusedVariables false
set_option linter.unusedSimpArgs false

variable {P : Program} {T : TT}

theorem size_str (l : List UInt8) : (⟨l.toArray⟩ : ByteArray).size = l.length := by
  show l.toArray.size = l.length
  simp

theorem aPart_sound (hT : TabOk P T) {ty off : Nat} {cs : List AV} {k : AV → Prop} (h : aPart T ty off cs k) :
    ∃ c, k c ∧ ∀ (E : Env) (w : World) (vs : Array Value), VRs E cs vs.toList → ∃ v, (part ty vs off).run P w = .ok v w ∧ VR E c v := by
  obtain ⟨hno, h⟩ := h
  cases hag : (T ty).kd.isAgg with
  | true =>
    rw [hag, if_pos rfl] at h
    exact ⟨_, h, fun E w vs hv => ⟨_, run_part_agg hT hno hag vs off w, (hv.cut off _).agg⟩⟩
  | false =>
    rw [hag, if_neg (by simp)] at h
    obtain ⟨c, hc, hk⟩ := h
    refine ⟨c, hk, fun E w vs hv => ?_⟩
    obtain ⟨v, h1, h2⟩ := hv.get hc
    exact ⟨v, run_part_one hT hno hag (by simpa using h1) w, h2⟩

/-- A field of a struct type of the table. -/
theorem TabOk.field (hT : TabOk P T) {t : Nat} {fs : List AFd} (hk : (T t).kd = .st fs) {f : Nat} {fd : AFd} (hf : fs[f]? = some fd) :
    ∃ gs g j, P.underlying t = some (.struct gs) ∧ gs[f]? = some g ∧ g.offset = fd.off ∧ g.type = fd.ty ∧ fd.size ≠ 0 ∧ P.info? fd.ty = some j ∧ j.size = fd.size := by
  have hkd := hT.kd (t := t) (by rw [hk]; rfl)
  rw [hk] at hkd
  obtain ⟨gs, g1, g2, _, _, g5⟩ := hkd
  have hlt : f < gs.size := by rw [g2]; exact (List.getElem?_eq_some_iff.1 hf).1
  have hg : gs[f]? = some gs[f] := Array.getElem?_eq_getElem hlt
  obtain ⟨_, h2, h3, h4, j, h5, h6⟩ := g5 f fd _ hf hg
  exact ⟨gs, gs[f], j, g1, hg, h2, h3, h4, h5, h6⟩

theorem aField_sound (hT : TabOk P T) {t f : Nat} {x : AV} {k : AV → Prop} (h : aField T t x f k) :
    ∃ c, k c ∧ ∀ (E : Env) (w : World) (vx : Value), VR E x vx → ∃ v, (Instr.field t vx f).run P w = .ok v w ∧ VR E c v := by
  unfold aField at h
  split at h
  · rename_i fs cs hk
    obtain ⟨fd, hf, h⟩ := h
    obtain ⟨c, hc, hs⟩ := aPart_sound hT h
    obtain ⟨gs, g, j, g1, g2, g3, g4, _⟩ := hT.field hk hf
    refine ⟨c, hc, fun E w vx hx => ?_⟩
    obtain ⟨us, rfl, hu⟩ := hx.of_agg
    obtain ⟨v, h1, h2⟩ := hs E w us hu
    refine ⟨v, ?_, h2⟩
    simp only [Instr.field, Sem.run_bind, run_underlying g1, Result.andThen_ok, g2, asAgg, Sem.run_pure, g3, g4]
    exact h1
  · exact h.elim

theorem drop_cp {E : Env} {cells : List AV} {a : Addr} {g : Nat → Value} (h1 : ∀ (j : Nat) c, cells[j]? = some c → E.F (a.add j) (g j)) (h2 : ∀ (j : Nat) c, cells[j]? = some c → VI E.F c (g j)) (n : Nat) :
    VR E (.cp (cells.drop n)) (.pointer (some (a.add n))) :=
  .cp _ _ (fun j => g (n + j)) (fun j c hc => by rw [List.getElem?_drop] at hc; rw [add_add]; exact h1 _ c hc) (fun j c hc => by rw [List.getElem?_drop] at hc; exact h2 _ c hc)

theorem aFieldAddr_sound (hT : TabOk P T) {t f : Nat} {x : AV} {k : AV → Prop} (h : aFieldAddr T t x f k) :
    ∃ c, k c ∧ ∀ (E : Env) (w : World) (vx : Value), VR E x vx → ∃ v, (Instr.fieldAt t vx f).run P w = .ok v w ∧ VR E c v := by
  unfold aFieldAddr at h
  split at h
  · rename_i fs cells hk
    obtain ⟨fd, hf, h⟩ := h
    obtain ⟨gs, g, j, g1, g2, g3, g4, g5, g6, g7⟩ := hT.field hk hf
    refine ⟨_, h, fun E w vx hx => ?_⟩
    cases hx with
    | cp cells a g' h1 h2 =>
    refine ⟨_, ?_, drop_cp h1 h2 fd.off⟩
    have hsz : j.size ≠ 0 := by rw [g7]; exact g5
    simp [Instr.fieldAt, run_underlying g1, g2, Instr.sureAddr, fieldPlace, sizeOf, typeInfo, g4, g6, g3, hsz]
  · rename_i fs b o hk
    obtain ⟨fd, hf, h⟩ := h
    obtain ⟨gs, g, j, g1, g2, g3, g4, g5, g6, g7⟩ := hT.field hk hf
    refine ⟨_, h, fun E w vx hx => ?_⟩
    cases hx with
    | ptr b off g' hk' hb =>
    refine ⟨.pointer (some ⟨g', o + fd.off, none⟩), ?_, .ptr b _ g' hk' hb⟩
    have hsz : j.size ≠ 0 := by rw [g7]; exact g5
    simp [Instr.fieldAt, run_underlying g1, g2, Instr.sureAddr, fieldPlace, sizeOf, typeInfo, g4, g6, g3, hsz, add_lit]
  · exact h.elim

theorem row_cp {E : Env} {s : Nat} {rows : List (List AV)} {x : Value} (hx : Src E s rows x) {i : Nat} {row : List AV} (hr : rows[i]? = some row) :
    ∃ ad cap, x = .slice (some ad) rows.length cap ∧ VR E (.cp row) (.pointer (some (ad.add (i * s)))) := by
  obtain ⟨a, cap, g, rfl, h0, h1, h2, _⟩ := hx
  have hi : i < rows.length := (List.getElem?_eq_some_iff.1 hr).1
  obtain ⟨ad, rfl⟩ := Option.isSome_iff_exists.1 (h0 (by omega))
  refine ⟨ad, cap, rfl, .cp row _ (fun j => g i j) (fun j c hc => ?_) (fun j c hc => h2 i row j c hr hc)⟩
  rw [add_add]
  exact h1 i row j c ad hr hc rfl

theorem aIndexAddr_sound (hT : TabOk P T) {t : Nat} {x i : AV} {k : AV → Prop} (h : aIndexAddr T t x i k) :
    ∃ c, k c ∧ ∀ (E : Env) (w : World) (vx vi : Value), VR E x vx → VR E i vi → ∃ v, (Instr.indexAt t vx vi).run P w = .ok v w ∧ VR E c v := by
  have sl : ∀ (e s : Nat) (rows : List (List AV)) (n : Int) (row : List AV), (T t).kd = .slice e → (T e).kd.isOther = false → s = (T e).size → 0 ≤ n → rows[n.toNat]? = some row →
      ∀ (E : Env) (w : World) (vx vi : Value) (kd : IntKind), Src E s rows vx → VR E (.int kd n) vi → ∃ v, (Instr.indexAt t vx vi).run P w = .ok v w ∧ VR E (.cp row) v := by
    intro e s rows n row hk hno hs h0 hr E w vx vi kd hx hi
    have hkd := hT.kd (t := t) (by rw [hk]; rfl)
    rw [hk] at hkd
    obtain ⟨ad, cap, rfl, hcp⟩ := row_cp hx hr
    cases hi
    refine ⟨_, ?_, hcp⟩
    have hlt : n.toNat < rows.length := (List.getElem?_eq_some_iff.1 hr).1
    have hlt' : n < rows.length := by omega
    simp only [kdOk] at hkd
    simp [Instr.indexAt, asIntOf, run_underlying hkd, h0, hlt', hT.size hno, hs]
  unfold aIndexAddr at h
  split at h
  · rename_i e s rows kd n hk
    obtain ⟨hno, hs, row, h0, hr, h⟩ := h
    exact ⟨_, h, fun E w vx vi hx hi => sl e s rows n row hk hno hs h0 hr E w vx vi kd (.of_sl hx) hi⟩
  · rename_i e _ _ s rows kd n hk
    obtain ⟨hno, hs, row, h0, hr, h⟩ := h
    exact ⟨_, h, fun E w vx vi hx hi => sl e s rows n row hk hno hs h0 hr E w vx vi kd (.of_ow hx) hi⟩
  · rename_i m e b o kd n hk
    obtain ⟨hno, h0, h1, h⟩ := h
    have hkd := hT.kd (t := t) (by rw [hk]; rfl)
    rw [hk] at hkd
    refine ⟨_, h, fun E w vx vi hx hi => ?_⟩
    cases hx with
    | ptr b off g hk' hb =>
    cases hi
    refine ⟨.pointer (some ⟨g, o + n.toNat * (T e).size, none⟩), ?_, .ptr b _ g hk' hb⟩
    simp [Instr.indexAt, asIntOf, run_underlying hkd.1, Instr.sureAddr, h0, h1, hT.size hno, add_lit]
  · rename_i m e cells kd n hk
    obtain ⟨hno, h0, h1, h⟩ := h
    have hkd := hT.kd (t := t) (by rw [hk]; rfl)
    rw [hk] at hkd
    refine ⟨_, h, fun E w vx vi hx hi => ?_⟩
    cases hx with
    | cp cells a g' g1 g2 =>
    cases hi
    refine ⟨_, ?_, drop_cp g1 g2 _⟩
    simp [Instr.indexAt, asIntOf, run_underlying hkd.1, Instr.sureAddr, h0, h1, hT.size hno]
  · exact h.elim

theorem aIndex_sound (hT : TabOk P T) {t : Nat} {x i : AV} {k : AV → Prop} (h : aIndex T t x i k) :
    ∃ c, k c ∧ ∀ (E : Env) (w : World) (vx vi : Value), VR E x vx → VR E i vi → ∃ v, (Instr.index t vx vi).run P w = .ok v w ∧ VR E c v := by
  unfold aIndex at h
  split at h
  · rename_i l kd n hk
    obtain ⟨c, h0, hc, h⟩ := h
    have hkd := hT.kd (t := t) (by rw [hk]; rfl)
    rw [hk] at hkd
    refine ⟨_, h, fun E w vx vi hx hi => ?_⟩
    cases hx; cases hi
    refine ⟨_, ?_, .int _ _⟩
    simp only [kdOk] at hkd
    have hb : (⟨l.toArray⟩ : ByteArray)[n.toNat]? = some c := by
      have hlt : n.toNat < l.length := (List.getElem?_eq_some_iff.1 hc).1
      have hlt2 : n.toNat < (⟨l.toArray⟩ : ByteArray).size := by rw [size_str]; exact hlt
      rw [getElem?_pos (⟨l.toArray⟩ : ByteArray) n.toNat hlt2]
      have := (List.getElem?_eq_some_iff.1 hc).2
      simpa [ByteArray.getElem_eq_getElem_data] using this
    simp [Instr.index, asIntOf, run_underlying hkd, h0, hb]
  · rename_i m e cs kd n hk
    obtain ⟨h0, h1, h⟩ := h
    have hkd := hT.kd (t := t) (by rw [hk]; rfl)
    rw [hk] at hkd
    have hno := h.1
    obtain ⟨c, hc, hs⟩ := aPart_sound hT h
    refine ⟨_, hc, fun E w vx vi hx hi => ?_⟩
    obtain ⟨us, rfl, hu⟩ := hx.of_agg
    cases hi
    obtain ⟨v, h2, h3⟩ := hs E w us hu
    refine ⟨v, ?_, h3⟩
    simp only [Instr.index, asIntOf, Sem.run_bind, Sem.run_pure, Result.andThen_ok, run_underlying hkd.1]
    rw [if_pos ⟨h0, h1⟩]
    simp only [Sem.run_bind, hT.size hno, Result.andThen_ok]
    exact h2
  · exact h.elim

theorem aLen_sound (hT : TabOk P T) {t ty : Nat} {x : AV} {k : AV → Prop} (h : aLen T t x k) :
    ∃ c, k c ∧ ∀ (E : Env) (w : World) (vx : Value), VR E x vx → ∃ v, (Builtin.len_ #[t] ty #[vx]).run P w = .ok v w ∧ VR E c v := by
  unfold aLen at h
  split at h
  · rename_i l hk
    have hkd := hT.kd (t := t) (by rw [hk]; rfl)
    rw [hk] at hkd
    simp only [kdOk] at hkd
    refine ⟨_, h, fun E w vx hx => ?_⟩
    cases hx
    exact ⟨_, by simp [Builtin.len_, run_underlying hkd, goInt, size_str], .int _ _⟩
  · rename_i e s rows hk
    have hkd := hT.kd (t := t) (by rw [hk]; rfl)
    rw [hk] at hkd
    simp only [kdOk] at hkd
    refine ⟨_, h, fun E w vx hx => ?_⟩
    obtain ⟨a, cap, g, rfl, _⟩ := Src.of_sl hx
    exact ⟨_, by simp [Builtin.len_, run_underlying hkd, goInt], .int _ _⟩
  · rename_i e _ _ s rows hk
    have hkd := hT.kd (t := t) (by rw [hk]; rfl)
    rw [hk] at hkd
    simp only [kdOk] at hkd
    refine ⟨_, h, fun E w vx hx => ?_⟩
    obtain ⟨a, cap, g, rfl, _⟩ := Src.of_ow hx
    exact ⟨_, by simp [Builtin.len_, run_underlying hkd, goInt], .int _ _⟩
  · rename_i e hk
    have hkd := hT.kd (t := t) (by rw [hk]; rfl)
    rw [hk] at hkd
    simp only [kdOk] at hkd
    refine ⟨_, h, fun E w vx hx => ?_⟩
    cases hx
    exact ⟨_, by simp [Builtin.len_, run_underlying hkd, goInt], .int _ _⟩
  · rename_i n e hk
    have hkd := hT.kd (t := t) (by rw [hk]; rfl)
    rw [hk] at hkd
    refine ⟨_, h, fun E w vx hx => ?_⟩
    exact ⟨_, by simp [Builtin.len_, run_underlying hkd.1, goInt], .int _ _⟩
  · exact h.elim

theorem aMins_sound (isMin : Bool) {E : Env} (w : World) : ∀ (r : List AV) (x c : AV) (vr : List Value) (vx : Value), aMins isMin x r = some c → VR E x vx → VRs E r vr →
    ∃ v, (vr.foldlM (if isMin then Builtin.min2 else Builtin.max2) vx).run P w = .ok v w ∧ VR E c v
  | [], x, c, vr, vx, h, hx, hr => by
    have : vr = [] := List.eq_nil_of_length_eq_zero hr.1
    subst this
    simp only [aMins, Option.some.injEq] at h
    subst h
    exact ⟨vx, by simp, hx⟩
  | y :: r, x, c, vr, vx, h, hx, hr => by
    match vr, hr with
    | vy :: vr, hr =>
    have hy : VR E y vy := hr.2 0 y vy rfl rfl
    have hr' : VRs E r vr := ⟨by simpa using hr.1, fun j d v x y => hr.2 (j + 1) d v (by simpa using x) (by simpa using y)⟩
    simp only [aMins] at h
    split at h
    · rename_i z hz
      obtain ⟨ka, a, kb, b, rfl, rfl, rfl⟩ : ∃ ka a kb b, x = .int ka a ∧ y = .int kb b ∧ z = .int ka (if isMin then (if b < a then b else a) else (if b > a then b else a)) := by
        cases x <;> cases y <;> simp only [aMin2] at hz <;> first | (cases hz; done) | skip
        injection hz with hz
        exact ⟨_, _, _, _, rfl, rfl, hz.symm⟩
      · cases hx; cases hy
        obtain ⟨v, h1, h2⟩ := aMins_sound isMin w r _ c vr (.int ka (if isMin then (if b < a then b else a) else (if b > a then b else a))) h (.int _ _) hr'
        refine ⟨v, ?_, h2⟩
        simp only [List.foldlM_cons, Sem.run_bind]
        cases isMin
        · simp only [Bool.false_eq_true, if_false, Builtin.max2, Sem.run_pure, Result.andThen_ok] at h1 ⊢
          exact h1
        · simp only [if_true, Builtin.min2, Sem.run_pure, Result.andThen_ok] at h1 ⊢
          exact h1
    · cases h

theorem aBuiltin_sound (hT : TabOk P T) {b : Builtin} {ts : Array TypeId} {xs : List AV} {k : AV → Prop} (h : aBuiltin T b ts.toList xs k) (ty : TypeId) (cs : Array Bool) :
    ∃ c, k c ∧ ∀ (E : Env) (w : World) (vs : Array Value), VRs E xs vs.toList → ∃ v, (builtin b ts ty cs vs).run P w = .ok (.value v) w ∧ VR E c v := by
  unfold aBuiltin at h
  split at h
  · rename_i t x hts
    have hts' : ts = #[t] := by cases ts; simp_all
    subst hts'
    obtain ⟨c, h1, h2⟩ := aLen_sound hT (ty := ty) h
    refine ⟨c, h1, fun E w vs hv => ?_⟩
    obtain ⟨l⟩ := vs
    match l, hv with
    | [v0], hv =>
      obtain ⟨v, h3, h4⟩ := h2 E w v0 (hv.2 0 x v0 rfl rfl)
      exact ⟨v, by simp [builtin, h3], h4⟩
    | [], hv => exact absurd hv.1 (by simp)
    | _ :: _ :: _, hv => exact absurd hv.1 (by simp)
  · rename_i x r
    obtain ⟨c, h1, h2⟩ := h
    refine ⟨c, h2, fun E w vs hv => ?_⟩
    obtain ⟨l⟩ := vs
    match l, hv with
    | [], hv => exact absurd hv.1 (by simp)
    | v0 :: vr, hv =>
      obtain ⟨v, h3, h4⟩ := aMins_sound (P := P) true w r x c vr v0 h1 (hv.2 0 x v0 rfl rfl) ⟨by simpa using hv.1, fun j d v x y => hv.2 (j + 1) d v (by simpa using x) (by simpa using y)⟩
      exact ⟨v, by simp only [if_true] at h3; simp [builtin, Builtin.min_, h3], h4⟩
  · rename_i x r
    obtain ⟨c, h1, h2⟩ := h
    refine ⟨c, h2, fun E w vs hv => ?_⟩
    obtain ⟨l⟩ := vs
    match l, hv with
    | [], hv => exact absurd hv.1 (by simp)
    | v0 :: vr, hv =>
      obtain ⟨v, h3, h4⟩ := aMins_sound (P := P) false w r x c vr v0 h1 (hv.2 0 x v0 rfl rfl) ⟨by simpa using hv.1, fun j d v x y => hv.2 (j + 1) d v (by simpa using x) (by simpa using y)⟩
      exact ⟨v, by simp only [Bool.false_eq_true, if_false] at h3; simp [builtin, Builtin.max_, h3], h4⟩
  · exact h.elim

/-! ### slices -/

theorem aBnd_none {d : Nat} {r : Int} (h : aBnd none d = some r) : r = d := by simp [aBnd] at h; exact h.symm

theorem bnd_run {E : Env} {x : AV} {v : Value} {r : Int} {d : Nat} (h : aBnd (some x) d = some r) (hv : VR E x v) (y : Nat) (h0 : 0 ≤ r) (h1 : r ≤ y) (code : BoundsCode) (w : World) :
    (Instr.sliceBound v y code).run P w = .ok r.toNat w := by
  cases x <;> simp only [aBnd] at h <;> first | (cases h; done) | skip
  injection h with h
  subst h
  cases hv
  simp [Instr.sliceBound, asIntOf, h0, h1]

def VRo (E : Env) : Option AV → Option Value → Prop
  | none, none => True
  | some c, some v => VR E c v
  | _, _ => False

theorem bounds_run {E : Env} {lo hi : Option AV} {vlo vhi : Option Value} (hlo : VRo E lo vlo) (hhi : VRo E hi vhi) {a b : Int} {len cap : Nat} (ha : aBnd lo 0 = some a) (hb : aBnd hi len = some b)
    (h0 : 0 ≤ a) (h1 : a ≤ b) (h2 : b ≤ len) (hc : len ≤ cap) (isS : Bool) (w : World) : (Instr.sliceBounds isS len cap vlo vhi none).run P w = .ok (a.toNat, b.toNat, cap) w := by
  cases lo with
  | none =>
    have := aBnd_none ha
    subst this
    cases vlo with
    | some _ => exact hlo.elim
    | none =>
    cases hi with
    | none =>
      have := aBnd_none hb
      subst this
      cases vhi with
      | some _ => exact hhi.elim
      | none => simp [Instr.sliceBounds]
    | some x =>
      cases vhi with
      | none => exact hhi.elim
      | some v =>
        have := bnd_run (P := P) hb hhi cap (by omega) (by omega) (if isS then .sliceAcap else .sliceAlen) w
        simp [Instr.sliceBounds, this]
  | some xl =>
    cases vlo with
    | none => exact hlo.elim
    | some vl =>
    cases hi with
    | none =>
      have := aBnd_none hb
      subst this
      cases vhi with
      | some _ => exact hhi.elim
      | none =>
        have := bnd_run (P := P) ha hlo len h0 (by omega) .sliceB w
        simp [Instr.sliceBounds, this]
    | some x =>
      cases vhi with
      | none => exact hhi.elim
      | some v =>
        have h3 := bnd_run (P := P) hb hhi cap (by omega) (by omega) (if isS then .sliceAcap else .sliceAlen) w
        have h4 := bnd_run (P := P) ha hlo b.toNat h0 (by omega) .sliceB w
        simp [Instr.sliceBounds, h3, h4]

theorem Src.cut {E : Env} {s : Nat} {rows : List (List AV)} {a : Option Addr} {n cap : Nat} (h : Src E s rows (.slice a n cap)) {i j : Nat} (hij : i ≤ j) (hj : j ≤ n) :
    VR E (.sl s ((rows.take j).drop i)) (.slice (if cap = i then a else a.map (·.add (i * s))) (j - i) (cap - i)) := by
  obtain ⟨a', cap', g, e, h0, h1, h2, hc⟩ := h
  injection e with e1 e2 e3
  subst e1; subst e2; subst e3
  have hlen : ((rows.take j).drop i).length = j - i := by simp; omega
  rw [← hlen]
  refine .sl s _ _ _ (fun x y => g (i + x) y) (fun hp => ?_) (fun x row y c ad hr hcell had => ?_) (fun x row y c hr hcell => ?_) (by rw [hlen]; omega)
  · rw [hlen] at hp
    have : a.isSome = true := h0 (by omega)
    split
    · exact this
    · obtain ⟨ad, rfl⟩ := Option.isSome_iff_exists.1 this; rfl
  · rw [List.getElem?_drop, List.getElem?_take] at hr
    split at hr
    · rename_i hlt
      have hcap : cap ≠ i := by omega
      rw [if_neg hcap] at had
      cases a with
      | none => cases had
      | some ad0 =>
        injection had with had
        subst had
        simp only
        rw [add_add, show i * s + (x * s + y) = (i + x) * s + y by rw [Nat.add_mul]; omega]
        exact h1 (i + x) row y c ad0 hr hcell rfl
    · cases hr
  · rw [List.getElem?_drop, List.getElem?_take] at hr
    split at hr
    · exact h2 _ row y c hr hcell
    · cases hr

theorem extract_str (l : List UInt8) (a b : Nat) : (⟨l.toArray⟩ : ByteArray).extract a b = ⟨((l.take b).drop a).toArray⟩ := by
  apply ByteArray.ext
  rw [ByteArray.data_extract]
  simp [List.extract_eq_take_drop, List.drop_take]

theorem run_emp_slice (w : World) {t e len cap : Nat} {a : Option Addr} (hkd : P.underlying t = some (.slice e)) {n : Nat} (hs : ∀ w, (sizeOf e).run P w = .ok n w) {E : Env} {hi mx : AV} {vhi vmx : Value} {ki km : IntKind}
    (h1 : VR E (.int ki 0) vhi) (h2 : VR E (.int km 0) vmx) : (Instr.slice t (.slice a len cap) none (some vhi) (some vmx)).run P w = .ok (.slice a 0 0) w := by
  cases h1; cases h2
  simp [Instr.slice, run_underlying hkd, Instr.sliceBounds, Instr.sliceBound, asIntOf, hs]

theorem aBnd_zero {hi : Option AV} (h : aBnd hi 1 = some 0) : ∃ k, hi = some (.int k 0) := by
  cases hi with
  | none => simp [aBnd] at h
  | some x => cases x <;> simp [aBnd] at h; subst h; exact ⟨_, rfl⟩

theorem aSlice_sound (hT : TabOk P T) {t : Nat} {x : AV} {lo hi mx : Option AV} {k : AV → Prop} (h : aSlice T t x lo hi mx k) :
    ∃ c, k c ∧ ∀ (E : Env) (w : World) (vx : Value) (vlo vhi vmx : Option Value), VR E x vx → VRo E lo vlo → VRo E hi vhi → VRo E mx vmx → ∃ v, (Instr.sliceAt t vx vlo vhi vmx).run P w = .ok v w ∧ VR E c v := by
  have sl : ∀ (e s : Nat) (rows : List (List AV)) (a b : Int), (T t).kd = .slice e → (T e).kd.isOther = false → s = (T e).size → aBnd lo 0 = some a → aBnd hi rows.length = some b → 0 ≤ a → a ≤ b → b ≤ rows.length →
      ∀ (E : Env) (w : World) (vx : Value) (vlo vhi : Option Value), Src E s rows vx → VRo E lo vlo → VRo E hi vhi → ∃ v, (Instr.sliceAt t vx vlo vhi none).run P w = .ok v w ∧ VR E (.sl s ((rows.take b.toNat).drop a.toNat)) v := by
    intro e s rows a b hk hno hs ha hb h0 h1 h2 E w vx vlo vhi hx hlo hhi
    have hkd := hT.kd (t := t) (by rw [hk]; rfl)
    rw [hk] at hkd
    simp only [kdOk] at hkd
    have hx' := hx
    obtain ⟨ad, cap, g, rfl, _, _, _, hc⟩ := hx
    have hr := bounds_run (P := P) hlo hhi ha hb h0 h1 h2 hc true w
    refine ⟨_, ?_, hx'.cut (by omega : a.toNat ≤ b.toNat) (by omega)⟩
    simp [Instr.sliceAt, Instr.slice, run_underlying hkd, hr, hT.size hno, hs]
  have em : ∀ (e : Nat) (m : Int) (km : IntKind), (T t).kd = .slice e → (T e).kd.isOther = false → lo = none → m = 0 → aBnd hi 1 = some 0 →
      ∀ (E : Env) (w : World) (a : Option Addr) (len cap : Nat) (vlo vhi vmx : Option Value), VRo E lo vlo → VRo E hi vhi → VRo E (some (.int km m)) vmx → ∃ v, (Instr.sliceAt t (.slice a len cap) vlo vhi vmx).run P w = .ok v w ∧ VR E .emp v := by
    intro e m km hk hno hlo0 hm hb E w a len cap vlo vhi vmx hlo hhi hmx
    have hkd := hT.kd (t := t) (by rw [hk]; rfl)
    rw [hk] at hkd
    simp only [kdOk] at hkd
    subst hlo0; subst hm
    obtain ⟨ki, rfl⟩ := aBnd_zero hb
    cases vlo with
    | some _ => exact hlo.elim
    | none =>
    cases vhi with
    | none => exact hhi.elim
    | some vhi =>
    cases vmx with
    | none => exact hmx.elim
    | some vmx =>
    refine ⟨.slice a 0 0, ?_, .emp a⟩
    have := run_emp_slice (P := P) w hkd (hT.size hno) (len := len) (cap := cap) (a := a) (hi := .emp) (mx := .emp) hhi hmx
    simp only [Instr.sliceAt, Sem.run_bind, run_underlying hkd, Result.andThen_ok]
    exact this
  unfold aSlice at h
  split at h
  · rename_i l hk
    obtain ⟨a, b, ha, hb, h0, h1, h2, h⟩ := h
    have hkd := hT.kd (t := t) (by rw [hk]; rfl)
    rw [hk] at hkd
    simp only [kdOk] at hkd
    refine ⟨_, h, fun E w vx vlo vhi vmx hx hlo hhi hmx => ?_⟩
    cases hx
    cases vmx with
    | some _ => exact hmx.elim
    | none =>
    have hr := bounds_run (P := P) hlo hhi ha hb h0 h1 h2 (Nat.le_refl _) false w
    refine ⟨_, ?_, .str _⟩
    simp [Instr.sliceAt, Instr.slice, run_underlying hkd, size_str, hr, extract_str]
  · rename_i e s rows hk
    obtain ⟨hno, hs, a, b, ha, hb, h0, h1, h2, h⟩ := h
    refine ⟨_, h, fun E w vx vlo vhi vmx hx hlo hhi hmx => ?_⟩
    cases vmx with
    | some _ => exact hmx.elim
    | none => exact sl e s rows a b hk hno hs ha hb h0 h1 h2 E w vx vlo vhi (.of_sl hx) hlo hhi
  · rename_i e _ _ s rows hk
    obtain ⟨hno, hs, a, b, ha, hb, h0, h1, h2, h⟩ := h
    refine ⟨_, h, fun E w vx vlo vhi vmx hx hlo hhi hmx => ?_⟩
    cases vmx with
    | some _ => exact hmx.elim
    | none => exact sl e s rows a b hk hno hs ha hb h0 h1 h2 E w vx vlo vhi (.of_ow hx) hlo hhi
  · rename_i e s rows km m hk
    obtain ⟨hno, h1, h2, h3, h⟩ := h
    refine ⟨_, h, fun E w vx vlo vhi vmx hx hlo hhi hmx => ?_⟩
    obtain ⟨a, cap, g, rfl, _⟩ := Src.of_sl hx
    exact em e m km hk hno h1 h2 h3 E w a _ cap vlo vhi vmx hlo hhi hmx
  · rename_i e _ _ s rows km m hk
    obtain ⟨hno, h1, h2, h3, h⟩ := h
    refine ⟨_, h, fun E w vx vlo vhi vmx hx hlo hhi hmx => ?_⟩
    obtain ⟨a, cap, g, rfl, _⟩ := Src.of_ow hx
    exact em e m km hk hno h1 h2 h3 E w a _ cap vlo vhi vmx hlo hhi hmx
  · rename_i e km m hk
    obtain ⟨hno, h1, h2, h3, h⟩ := h
    refine ⟨_, h, fun E w vx vlo vhi vmx hx hlo hhi hmx => ?_⟩
    cases hx with
    | emp a => exact em e m km hk hno h1 h2 h3 E w a _ _ vlo vhi vmx hlo hhi hmx
  · exact h.elim

theorem VRo_map {E : Env} {ρ : Operand → AV} {a : Act} (h : ∀ x, VR E (ρ x) (a.eval x)) (o : Option Operand) : VRo E (o.map ρ) (o.map a.eval) := by
  cases o with
  | none => trivial
  | some x => exact h x

theorem aval_sound (hT : TabOk P T) {ρ : Operand → AV} {o : Oper} {k : AV → Prop} (h : aval T ρ o.op k) :
    ∃ c, k c ∧ ∀ (E : Env) (a : Act) (w : World), (∀ x, VR E (ρ x) (a.eval x)) → ∃ v, (execOp a.eval o).run P w = .ok (.value v) w ∧ VR E c v := by
  have val : ∀ (c : AV) (E : Env) (w : World) (s : Sem Value), (∃ v, s.run P w = .ok v w ∧ VR E c v) → ∃ v, ((do pure (.value (← s))) : Sem Next).run P w = .ok (.value v) w ∧ VR E c v := by
    rintro c E w s ⟨v, h1, h2⟩
    exact ⟨v, by simp [h1], h2⟩
  unfold aval at h
  split at h
  · rename_i x ho
    exact ⟨_, h, fun E a w hρ => ⟨_, by simp [execOp, ho], hρ x⟩⟩
  · rename_i x ho
    exact ⟨_, h, fun E a w hρ => ⟨_, by simp [execOp, ho], hρ x⟩⟩
  · rename_i c x y ho
    split at h
    · rename_i t hc
      have hb : ∀ (E : Env) (a : Act), (∀ x, VR E (ρ x) (a.eval x)) → a.eval c = .bool t := fun E a hρ => by
        have := hρ c
        rw [hc] at this
        cases hv : a.eval c <;> rw [hv] at this <;> cases this
        rfl
      cases t
      · exact ⟨_, h.2 rfl, fun E a w hρ => ⟨a.eval y, by simp [execOp, ho, hb E a hρ, asBool], hρ y⟩⟩
      · exact ⟨_, h.1 rfl, fun E a w hρ => ⟨a.eval x, by simp [execOp, ho, hb E a hρ, asBool], hρ x⟩⟩
    · exact h.elim
  · rename_i t parts ho
    obtain ⟨c, h1, h2⟩ := aBuild_sound hT h
    refine ⟨c, h1, fun E a w hρ => ?_⟩
    simp only [execOp, ho]
    refine val c E w _ (h2 E w _ (by simp) (fun j p q hp hq => ?_))
    rw [List.getElem?_map] at hp
    rw [Array.getElem?_map, ← Array.getElem?_toList] at hq
    cases hx : parts.toList[j]? with
    | none => rw [hx] at hp; cases hp
    | some y =>
      rw [hx] at hp hq
      injection hp with hp; injection hq with hq
      subst hp; subst hq
      exact ⟨rfl, hρ _⟩
  · rename_i x ho
    have nc : ∀ (c : AV), ρ x = c → (∃ cs, c = .cp cs) ∨ (∃ b o, c = .ptr b o) ∨ (∃ f cs, c = .fn f cs) → ∀ (E : Env) (a : Act) (w : World), (∀ x, VR E (ρ x) (a.eval x)) → ∃ v, (execOp a.eval o).run P w = .ok (.value v) w ∧ VR E c v := by
      intro c hc hs E a w hρ
      have := hρ x
      rw [hc] at this
      refine ⟨a.eval x, ?_, this⟩
      simp only [execOp, ho]
      rcases hs with ⟨cs, rfl⟩ | ⟨b, o, rfl⟩ | ⟨f, cs, rfl⟩ <;> generalize a.eval x = vx at this <;> cases this <;> simp
    split at h
    · rename_i cs hc; exact ⟨_, h, nc _ hc (.inl ⟨_, rfl⟩)⟩
    · rename_i b o' hc; exact ⟨_, h, nc _ hc (.inr (.inl ⟨_, _, rfl⟩))⟩
    · rename_i f cs hc; exact ⟨_, h, nc _ hc (.inr (.inr ⟨_, _, rfl⟩))⟩
    · exact h.elim
  · rename_i op t x y yt ho
    obtain ⟨c, h1, h2⟩ := aBin_sound hT h x y
    refine ⟨c, h1, fun E a w hρ => ?_⟩
    simp only [execOp, ho]
    exact val c E w _ (h2 E w _ _ (hρ x) (hρ y))
  · rename_i op t x ho
    obtain ⟨c, h1, h2⟩ := aUn_sound (P := P) h
    refine ⟨c, h1, fun E a w hρ => ?_⟩
    simp only [execOp, ho]
    exact val c E w _ (h2 E w _ (hρ x))
  · rename_i src dst x ho
    obtain ⟨c, h1, h2⟩ := aConv_sound hT h
    refine ⟨c, h1, fun E a w hρ => ?_⟩
    simp only [execOp, ho]
    exact val c E w _ (h2 E w _ (hρ x))
  · rename_i f first captured ho
    obtain ⟨h1, h2⟩ := h
    subst h1
    refine ⟨_, h2, fun E a w hρ => ⟨.func (.func f) #[] (captured.map a.eval), by simp [execOp, ho, Instr.makeFunc], ?_⟩⟩
    have := map_VR hρ captured.toList
    refine .fn f _ _ (by simp) (fun j c v hc hv => this.2 j c v hc ?_)
    rw [← Array.getElem?_toList, Array.toList_map] at hv
    exact hv
  · rename_i t x f ho
    obtain ⟨c, h1, h2⟩ := aFieldAddr_sound hT h
    refine ⟨c, h1, fun E a w hρ => ?_⟩
    simp only [execOp, ho]
    exact val c E w _ (h2 E w _ (hρ x))
  · rename_i t x f ho
    obtain ⟨c, h1, h2⟩ := aField_sound hT h
    refine ⟨c, h1, fun E a w hρ => ?_⟩
    simp only [execOp, ho]
    exact val c E w _ (h2 E w _ (hρ x))
  · rename_i t x i ho
    obtain ⟨c, h1, h2⟩ := aIndexAddr_sound hT h
    refine ⟨c, h1, fun E a w hρ => ?_⟩
    simp only [execOp, ho]
    exact val c E w _ (h2 E w _ _ (hρ x) (hρ i))
  · rename_i t x i ho
    obtain ⟨c, h1, h2⟩ := aIndex_sound hT h
    refine ⟨c, h1, fun E a w hρ => ?_⟩
    simp only [execOp, ho]
    exact val c E w _ (h2 E w _ _ (hρ x) (hρ i))
  · rename_i t x lo hi mx ho
    obtain ⟨c, h1, h2⟩ := aSlice_sound hT h
    refine ⟨c, h1, fun E a w hρ => ?_⟩
    simp only [execOp, ho]
    exact val c E w _ (h2 E w _ _ _ _ (hρ x) (VRo_map hρ lo) (VRo_map hρ hi) (VRo_map hρ mx))
  · rename_i x i ho
    split at h
    · rename_i vs hc
      obtain ⟨c, h1, h2⟩ := h
      refine ⟨c, h2, fun E a w hρ => ?_⟩
      have := hρ x
      rw [hc] at this
      obtain ⟨us, h3, h4⟩ := this.of_tup
      obtain ⟨v, h5, h6⟩ := h4.get h1
      refine ⟨v, ?_, h6⟩
      have h5' : us[i]? = some v := by simpa using h5
      simp [execOp, ho, h3, Instr.extract, h5']
    · exact h.elim
  · rename_i b args ts ho
    obtain ⟨c, h1, h2⟩ := aBuiltin_sound hT h o.type (args.map fun | .const _ => true | _ => false)
    refine ⟨c, h1, fun E a w hρ => ?_⟩
    have := map_VR hρ args.toList
    obtain ⟨v, h3, h4⟩ := h2 E w (args.map a.eval) (by rw [Array.toList_map]; exact this)
    refine ⟨v, ?_, h4⟩
    simp only [execOp, ho, resolve, Sem.run_bind, Sem.run_pure, Result.andThen_ok, invoke]
    exact h3
  · exact h.elim

end Go.Ab
