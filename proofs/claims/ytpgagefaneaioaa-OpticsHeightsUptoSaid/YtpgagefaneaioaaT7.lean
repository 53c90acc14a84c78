/- The operations that look at values alone are right. -/
import Derived.Test.YtpgagefaneaioaaT6
namespace Go.Ab
open Go Go.RowKit
set_option linter.unusedVariables false
set_option linter.unusedSimpArgs false

variable {P : Program} {T : TT}

theorem aInt_sound {op : BinOp} {ka kb : IntKind} {a b : Int} {k : AV → Prop} (h : aInt op ka kb a b k) (t : Nat) :
    ∃ c, k c ∧ ∀ (E : Env) (w : World), ∃ v, (binOp op t (.int ka a) (.int kb b)).run P w = .ok v w ∧ VR E c v := by
  cases op <;> simp only [aInt] at h
  case shl =>
    refine ⟨_, h.2, fun E w => ⟨_, ?_, .int _ _⟩⟩
    simp [binOp, Op.shift, Int.not_lt.2 h.1]
  case shr =>
    refine ⟨_, h.2, fun E w => ⟨_, ?_, .int _ _⟩⟩
    simp [binOp, Op.shift, Int.not_lt.2 h.1]
  case quo =>
    obtain ⟨rfl, h1, h2⟩ := h
    refine ⟨_, h2, fun E w => ⟨_, ?_, .int _ _⟩⟩
    simp [binOp, Op.intDiv, h1]
  case rem =>
    obtain ⟨rfl, h1, h2⟩ := h
    refine ⟨_, h2, fun E w => ⟨_, ?_, .int _ _⟩⟩
    simp [binOp, Op.intDiv, h1]
  all_goals
    obtain ⟨rfl, h2⟩ := h
    refine ⟨_, h2, fun E w => ⟨_, ?_, by constructor⟩⟩
    simp [binOp, Op.intArith, Op.intCmp, Op.intBits, bits]

theorem bool_eql_run (w : World) (t : Nat) (a b : Bool) (h : P.underlying t = some .bool) : (binOp .eql t (.bool a) (.bool b)).run P w = .ok (.bool (a == b)) w := by
  simp only [binOp]
  simp [Op.equal, Op.maxDepth, run_equalIn_bool' w 9999 t a b h]
theorem bool_neq_run (w : World) (t : Nat) (a b : Bool) (h : P.underlying t = some .bool) : (binOp .neq t (.bool a) (.bool b)).run P w = .ok (.bool (a != b)) w := by
  simp only [binOp]
  simp [Op.equal, Op.maxDepth, run_equalIn_bool' w 9999 t a b h, bne]

theorem guard_one (w : World) (op : BinOp) (t : Nat) (x y : Operand) (u v : Value) (h : (∀ c, u ≠ .agg c) ∧ u ≠ .nilIface) : (eqGuard op t x y u v).run P w = .ok () w := by
  obtain ⟨h1, h2⟩ := h
  cases op <;> simp [eqGuard] <;> cases u <;> simp_all

theorem aBin_sound (hT : TabOk P T) {op : BinOp} {t : Nat} {x y : AV} {k : AV → Prop} (h : aBin T op t x y k) (ox oy : Operand) :
    ∃ c, k c ∧ ∀ (E : Env) (w : World) (vx vy : Value), VR E x vx → VR E y vy →
      ∃ v, ((do eqGuard op t ox oy vx vy; binOp op t vx vy) : Sem Value).run P w = .ok v w ∧ VR E c v := by
  unfold aBin at h
  split at h
  · rename_i ka a kb b
    obtain ⟨c, h1, h2⟩ := aInt_sound (P := P) h t
    refine ⟨c, h1, fun E w vx vy hx hy => ?_⟩
    cases hx; cases hy
    obtain ⟨v, h3, h4⟩ := h2 E w
    exact ⟨v, by rw [Sem.run_bind, guard_one w op t ox oy _ _ ⟨fun _ => by simp, by simp⟩]; exact h3, h4⟩
  · rename_i a b
    have hb : ∀ l : List UInt8, (⟨l.toArray⟩ : ByteArray).toList = l := fun l => by rw [ByteArray.toList_eq]
    cases op <;> simp only at h
    case add =>
      refine ⟨_, h.2, fun E w vx vy hx hy => ?_⟩
      cases hx; cases hy
      refine ⟨.string ⟨(a ++ b).toArray⟩, ?_, .str _⟩
      rw [Sem.run_bind, guard_one w _ t ox oy _ _ ⟨fun _ => by simp, by simp⟩]
      have hsz : ¬ ((a.length + b.length : Nat) : Int) > IntKind.i64.max := by
        have : IntKind.i64.max = 9223372036854775807 := rfl
        omega
      simp only [Result.andThen_ok, binOp, Op.stringOp]
      have e : ByteArray.size ⟨a.toArray⟩ = a.length ∧ ByteArray.size ⟨b.toArray⟩ = b.length := ⟨by simp [ByteArray.size], by simp [ByteArray.size]⟩
      rw [e.1, e.2, if_neg hsz]
      simp only [Sem.run_pure]
      congr 2
    all_goals first
      | exact h.elim
      | (refine ⟨_, h, fun E w vx vy hx hy => ?_⟩
         cases hx; cases hy
         refine ⟨_, ?_, .bool _⟩
         rw [Sem.run_bind, guard_one w _ t ox oy _ _ ⟨fun _ => by simp, by simp⟩]
         simp [binOp, Op.stringOp, hb, bne])
  · rename_i a b
    cases op <;> simp only at h
    case eql =>
      refine ⟨_, h.2, fun E w vx vy hx hy => ?_⟩
      cases hx; cases hy
      have hk := hT.kd (t := t) (by rw [h.1]; rfl)
      rw [h.1] at hk
      exact ⟨_, by rw [Sem.run_bind, guard_one w _ t ox oy _ _ ⟨fun _ => by simp, by simp⟩]; exact bool_eql_run w t a b hk, .bool _⟩
    case neq =>
      refine ⟨_, h.2, fun E w vx vy hx hy => ?_⟩
      cases hx; cases hy
      have hk := hT.kd (t := t) (by rw [h.1]; rfl)
      rw [h.1] at hk
      exact ⟨_, by rw [Sem.run_bind, guard_one w _ t ox oy _ _ ⟨fun _ => by simp, by simp⟩]; exact bool_neq_run w t a b hk, .bool _⟩
    all_goals exact h.elim
  · rename_i xs ys
    obtain ⟨hag, h⟩ := h
    have hg : P.eqGuardType P.depth t = false := by
      have hno : (T t).kd.isOther = false := by cases hk : (T t).kd <;> rw [hk] at hag <;> first | rfl | cases hag
      have := hT.kd hno
      cases hk : (T t).kd <;> rw [hk] at hag this <;> simp only [AKind.isAgg] at hag
      case st => obtain ⟨_, _, _, _, h4, _⟩ := this; exact h4
      case arr => exact this.2
      all_goals cases hag
    cases op <;> simp only at h
    case eql =>
      obtain ⟨b, h1, h2⟩ := h
      refine ⟨_, h2, fun E w vx vy hx hy => ?_⟩
      have := eqT_sound hT 10 t xs ys b h1 10000 vx vy (by omega) (fun _ => ⟨hx, hy⟩) (fun z => by rw [hag] at z; cases z) (fun z => by rw [hag] at z; cases z) w
      obtain ⟨us, rfl, _⟩ := hx.of_agg
      obtain ⟨zs, rfl, _⟩ := hy.of_agg
      exact ⟨.bool b, by rw [Sem.run_bind, run_eqGuard_agg w _ t ox oy us zs hg, Result.andThen_ok, run_eql_struct, this]; rfl, .bool _⟩
    case neq =>
      obtain ⟨b, h1, h2⟩ := h
      refine ⟨_, h2, fun E w vx vy hx hy => ?_⟩
      have := eqT_sound hT 10 t xs ys b h1 10000 vx vy (by omega) (fun _ => ⟨hx, hy⟩) (fun z => by rw [hag] at z; cases z) (fun z => by rw [hag] at z; cases z) w
      obtain ⟨us, rfl, _⟩ := hx.of_agg
      obtain ⟨zs, rfl, _⟩ := hy.of_agg
      exact ⟨.bool (!b), by rw [Sem.run_bind, run_eqGuard_agg w _ t ox oy us zs hg, Result.andThen_ok, run_neq_struct, this]; rfl, .bool _⟩
    all_goals exact h.elim
  · exact h.elim

theorem aUn_sound {op : UnOp} {x : AV} {k : AV → Prop} (h : aUn op x k) :
    ∃ c, k c ∧ ∀ (E : Env) (w : World) (vx : Value), VR E x vx → ∃ v, (Op.unary op vx).run P w = .ok v w ∧ VR E c v := by
  unfold aUn at h
  split at h
  · exact ⟨_, h, fun E w vx hx => by cases hx; exact ⟨_, by simp [Op.unary, Op.intArith], .int _ _⟩⟩
  · exact ⟨_, h, fun E w vx hx => by cases hx; exact ⟨_, by simp [Op.unary], .bool _⟩⟩
  · exact h.elim

theorem TabOk.under_int (hT : TabOk P T) {t : Nat} {k : IntKind} (h : (T t).kd = .int k) : P.underlying t = some (.int k) := by
  have := hT.kd (t := t) (by rw [h]; rfl)
  rw [h] at this; exact this

theorem TabOk.under_any (hT : TabOk P T) {t : Nat} (h : (T t).kd.isOther = false) : ∃ d, P.underlying t = some d := by
  have := hT.kd h
  cases hk : (T t).kd <;> rw [hk] at this h <;> simp only [kdOk, AKind.isOther] at this h
  case st => obtain ⟨gs, h1, _⟩ := this; exact ⟨_, h1⟩
  case arr => exact ⟨_, this.1⟩
  case fn => obtain ⟨a, b, c, h1⟩ := this; exact ⟨_, h1⟩
  case other => cases h
  all_goals exact ⟨_, this⟩

theorem aConv_sound (hT : TabOk P T) {src dst : Nat} {x : AV} {k : AV → Prop} (h : aConv T src dst x k) :
    ∃ c, k c ∧ ∀ (E : Env) (w : World) (vx : Value), VR E x vx → ∃ v, (convert src dst vx).run P w = .ok v w ∧ VR E c v := by
  unfold aConv at h
  split at h
  · rename_i kd k' n hk
    obtain ⟨d, hd⟩ := hT.under_any h.1
    have hdst := hT.under_int hk
    refine ⟨_, h.2, fun E w vx hx => ?_⟩
    cases hx
    refine ⟨_, ?_, .int _ _⟩
    simp only [convert, Sem.run_bind, run_underlying hd, run_underlying hdst, Result.andThen_ok]
    cases d <;> simp [Conv.intToInt]
  · rename_i l hk
    obtain ⟨d, hd⟩ := hT.under_any h.1
    have hdst := hT.kd (t := dst) (by rw [hk]; rfl)
    rw [hk] at hdst
    refine ⟨_, h.2, fun E w vx hx => ?_⟩
    cases hx
    refine ⟨_, ?_, .str _⟩
    simp only [convert, Sem.run_bind, run_underlying hd, run_underlying hdst, Result.andThen_ok]
    cases d <;> simp
  · exact h.elim

/-! ### build -/

theorem lay_length : ∀ (r : List AV) (off : Nat) (cs : List AV), (lay off r cs).length = cs.length
  | [], _, _ => rfl
  | c :: r, off, cs => by rw [lay, lay_length r]; simp

theorem VRs.set {E : Env} {cs : List AV} {vs : Array Value} (h : VRs E cs vs.toList) {c : AV} {u : Value} (hu : VR E c u) (i : Nat) : VRs E (cs.set i c) (vs.setIfInBounds i u).toList := by
  refine ⟨by simpa using h.1, fun j d v hd hv => ?_⟩
  rw [Array.toList_setIfInBounds] at hv
  rw [List.getElem?_set] at hd hv
  by_cases e : i = j
  · subst e
    rw [if_pos rfl] at hd hv
    split at hd
    · split at hv
      · injection hd with hd; injection hv with hv; subst hd; subst hv; exact hu
      · cases hv
    · cases hd
  · rw [if_neg e] at hd hv
    exact h.2 j d v hd hv

theorem lay_VRs {E : Env} (off : Nat) : ∀ (r : List AV) (us : List Value) (j0 : Nat) (cs : List AV) (vs : Array Value), VRs E r us → VRs E cs vs.toList →
    VRs E (lay (off + j0) r cs) ((us.zipIdx j0).foldl (fun cs (x : Value × Nat) => cs.setIfInBounds (off + x.2) x.1) vs).toList
  | [], us, j0, cs, vs, hr, hv => by
    have : us = [] := List.eq_nil_of_length_eq_zero hr.1
    subst this
    simpa [lay] using hv
  | c :: r, us, j0, cs, vs, hr, hv => by
    match us, hr with
    | u :: us, hr =>
    have hu : VR E c u := hr.2 0 c u rfl rfl
    have hr' : VRs E r us := ⟨by simpa using hr.1, fun j d v x y => hr.2 (j + 1) d v (by simpa using x) (by simpa using y)⟩
    simp only [lay, List.zipIdx_cons, List.foldl_cons]
    exact lay_VRs off r us (j0 + 1) _ _ hr' (hv.set hu _)

theorem aFill_sound {E : Env} (place : Nat → Option (Nat × Nat)) : ∀ (parts : List (Nat × AV)) (vparts : List (Nat × Value)) (cs out : List AV) (vs : Array Value), aFill place cs parts = some out →
    vparts.length = parts.length → (∀ (j : Nat) p q, parts[j]? = some p → vparts[j]? = some q → p.1 = q.1 ∧ VR E p.2 q.2) → VRs E cs vs.toList →
    ∃ us, Instr.fill place vs vparts = some us ∧ VRs E out us.toList
  | [], vparts, cs, out, vs, h, hl, _, hv => by
    have : vparts = [] := List.eq_nil_of_length_eq_zero hl
    subst this
    simp only [aFill, Option.some.injEq] at h
    subst h
    exact ⟨vs, rfl, hv⟩
  | (i, v) :: r, vparts, cs, out, vs, h, hl, hp, hv => by
    match vparts, hl with
    | (i', u) :: rq, hl =>
    obtain ⟨e1, e2⟩ := hp 0 _ _ rfl rfl
    simp only at e1 e2
    subst e1
    simp only [aFill] at h
    split at h
    · cases h
    · rename_i off size hpl
      split at h
      · rename_i hc
        obtain ⟨c1, c2, c3⟩ := hc
        have hcells : VRs E v.cells u.cells.toList := e2.cells (fun e => by subst e; cases c3)
        have hlen : u.cells.size = size := by rw [hcells.size]; exact c1
        have hvs : vs.size = cs.length := hv.size
        have hlay := lay_VRs (E := E) off v.cells u.cells.toList 0 cs vs hcells hv
        obtain ⟨us, h3, h4⟩ := aFill_sound place r rq _ out _ h (by simpa using hl) (fun j p q x y => hp (j + 1) p q (by simpa using x) (by simpa using y)) hlay
        refine ⟨us, ?_, h4⟩
        simp only [Instr.fill, hpl]
        rw [if_neg (by rw [hlen, hvs]; simp; omega)]
        rw [← h3]
        congr 1
        rw [← Array.foldl_toList, Array.toList_zipIdx]
      · cases h

theorem map_VR {E : Env} {a : Act} {ρ : Operand → AV} (hρ : ∀ x, VR E (ρ x) (a.eval x)) (l : List Operand) : VRs E (l.map ρ) (l.map a.eval) :=
  ⟨by simp, fun j c v hc hv => by
    rw [List.getElem?_map] at hc hv
    cases hx : l[j]? with
    | none => rw [hx] at hc; cases hc
    | some x =>
      rw [hx] at hc hv
      injection hc with hc; injection hv with hv
      subst hc; subst hv
      exact hρ x⟩

theorem zero_VRs (E : Env) (z : Value) : VRs E (z.cells.toList.map cvOne) z.cells.toList :=
  ⟨by simp, fun j c v hc hv => by
    rw [List.getElem?_map, hv] at hc
    injection hc with hc
    subst hc
    exact cvOne_VR E v⟩

theorem run_map {α β : Type} (f : α → β) (m : Sem α) (w : World) : (Functor.map f m).run P w = (m.run P w).andThen fun a w' => .ok (f a) w' := by
  show (m.bind fun a => .pure (f a)).run P w = _
  rw [show (m.bind fun a => Sem.pure (f a)) = (m >>= fun a => pure (f a)) from rfl, Sem.run_bind]
  rfl

theorem fields_mapM (hT : TabOk P T) (w : World) : ∀ (gs : List Field) (fs : List AFd), gs.length = fs.length →
    (∀ (i : Nat) f g, fs[i]? = some f → gs[i]? = some g → g.name ≠ "_" ∧ g.offset = f.off ∧ g.type = f.ty ∧ f.size ≠ 0 ∧ ∃ j, P.info? f.ty = some j ∧ j.size = f.size) →
    (gs.mapM (fun f => do pure (f.offset, ← sizeOf f.type) : Field → Sem (Nat × Nat))).run P w = .ok (fs.map fun f => (f.off, f.size)) w
  | [], fs, h, _ => by
    have : fs = [] := List.eq_nil_of_length_eq_zero h.symm
    subst this
    simp
  | g :: gs, fs, h, hh => by
    match fs, h with
    | f :: fs, h =>
    obtain ⟨_, h2, h3, _, j, h4, h5⟩ := hh 0 f g rfl rfl
    have ih := fields_mapM hT w gs fs (by simpa using h) (fun i f' g' x y => hh (i + 1) f' g' (by simpa using x) (by simpa using y))
    simp only [List.mapM_cons, Sem.run_bind, sizeOf, typeInfo, run_program, Result.andThen_ok, h3, h4, Sem.run_pure, h2, h5] at ih ⊢
    rw [ih]
    rfl

theorem aBuild_sound (hT : TabOk P T) {t : Nat} {parts : List (Nat × AV)} {k : AV → Prop} (h : aBuild T t parts k) :
    ∃ c, k c ∧ ∀ (E : Env) (w : World) (vparts : Array (Nat × Value)), vparts.size = parts.length → (∀ (j : Nat) p q, parts[j]? = some p → vparts[j]? = some q → p.1 = q.1 ∧ VR E p.2 q.2) →
      ∃ v, (Instr.build t vparts).run P w = .ok v w ∧ VR E c v := by
  unfold aBuild at h
  split at h
  · rename_i fs hk
    obtain ⟨cs, h1, h2⟩ := h
    refine ⟨_, h2, fun E w vparts hl hp => ?_⟩
    obtain ⟨i, z, i1, _, _, i4, _, i6, _⟩ := hT.info (t := t) (by rw [hk]; rfl)
    have hkd := hT.kd (t := t) (by rw [hk]; rfl)
    rw [hk] at hkd
    obtain ⟨gs, g1, g2, _, _, g5⟩ := hkd
    rw [i6] at h1
    obtain ⟨us, u1, u2⟩ := aFill_sound (E := E) (stPlace fs) parts vparts.toList _ cs z.cells h1 (by simpa using hl) (fun j p q x y => hp j p q x (by simpa using y)) (zero_VRs E z)
    refine ⟨.agg us, ?_, u2.agg⟩
    have hm := fields_mapM hT w gs.toList fs (by simpa using g2) (fun i f g x y => g5 i f g x (by simpa using y))
    have hm2 : (gs.mapM (fun f => do pure (f.offset, ← sizeOf f.type) : Field → Sem (Nat × Nat))).run P w = .ok (fs.map fun f => (f.off, f.size)).toArray w := by
      rw [← Array.toArray_toList (xs := gs), List.mapM_toArray, run_map, hm]
      rfl
    have hz : (zeroValue t).run P w = .ok z w := by simp [zeroValue, typeInfo, i1, i4]
    simp only [Instr.build, Sem.run_bind, hz, Result.andThen_ok, run_underlying g1, hm2]
    have hpl : (fun i => (fs.map fun f => (f.off, f.size)).toArray[i]?) = stPlace fs := by
      funext i; simp [stPlace]
    simp only [hpl, u1]
    rfl
  · rename_i n e hk
    obtain ⟨hne, cs, h1, h2⟩ := h
    refine ⟨_, h2, fun E w vparts hl hp => ?_⟩
    obtain ⟨i, z, i1, _, _, i4, _, i6, _⟩ := hT.info (t := t) (by rw [hk]; rfl)
    have hkd := hT.kd (t := t) (by rw [hk]; rfl)
    rw [hk] at hkd
    rw [i6] at h1
    obtain ⟨us, u1, u2⟩ := aFill_sound (E := E) _ parts vparts.toList _ cs z.cells h1 (by simpa using hl) (fun j p q x y => hp j p q x (by simpa using y)) (zero_VRs E z)
    refine ⟨.agg us, ?_, u2.agg⟩
    have hz : (zeroValue t).run P w = .ok z w := by simp [zeroValue, typeInfo, i1, i4]
    simp only [Instr.build, Sem.run_bind, hz, Result.andThen_ok, run_underlying hkd.1, hT.size hne, u1]
    rfl
  · exact h.elim

end Go.Ab
