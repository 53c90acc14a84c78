/- One operation, abstractly: what it does to an abstract state; and that it is so. -/
import Derived.Test.YtpgagefaneaioaaT8
namespace Go.Ab
open Go Go.RowKit
set_option linter.unusedVariables false
set_option linter.unusedSimpArgs false

variable {P : Program} {T : TT}

def FSt.ev (S : FSt) : Operand → AV
  | .tmp r => S.reg r
  | .const v => cv v
  | .global _ => .non
  | .func f => .fn f []

def tmpOf : Operand → Option Nat
  | .tmp t => some t
  | _ => none

def tmpsOf (op : Op) : List Nat := op.operands.toList.filterMap tmpOf

theorem SOk.ev {E : Env} {S : FSt} {a : Act} {w : World} (h : SOk E S a w) (x : Operand) : VR E (S.ev x) (a.eval x) := by
  cases x with
  | tmp r => exact h.reg r
  | const v => exact cv_VR E v
  | global g => exact .non _
  | func f => exact .fn f [] #[] rfl (fun j c v h => by simp at h)

theorem ev_congr {S S' : FSt} {op : Op} (h : ∀ r ∈ tmpsOf op, S'.reg r = S.reg r) {x : Operand} (hx : x ∈ op.operands.toList) : S'.ev x = S.ev x := by
  cases x with
  | tmp r => exact h r (List.mem_filterMap.2 ⟨_, hx, rfl⟩)
  | const v => rfl
  | global g => rfl
  | func f => rfl

theorem aval_congr {ρ ρ' : Operand → AV} {op : Op} {k : AV → Prop} (h : ∀ x ∈ op.operands.toList, ρ x = ρ' x) (hv : aval T ρ op k) : aval T ρ' op k := by
  have hm : ∀ l : List Operand, (∀ x ∈ l, ρ x = ρ' x) → l.map ρ = l.map ρ' := fun l hl => List.map_congr_left hl
  have ho : ∀ o : Option Operand, (∀ x, o = some x → ρ x = ρ' x) → o.map ρ = o.map ρ' := fun o hl => by
    cases o with
    | none => rfl
    | some x => simp [hl x rfl]
  unfold aval at hv ⊢
  split at hv <;> simp only [Op.operands] at h ⊢
  · rw [← h _ (by simp)]; exact hv
  · rw [← h _ (by simp)]; exact hv
  · rename_i c a b; rw [← h c (by simp), ← h a (by simp), ← h b (by simp)]; exact hv
  · rename_i t parts
    have : parts.toList.map (fun p => (p.1, ρ' p.2)) = parts.toList.map (fun p => (p.1, ρ p.2)) := List.map_congr_left fun p hp => by rw [h p.2 (by simp; exact ⟨p.1, by simpa using hp⟩)]
    rw [this]; exact hv
  · rename_i x; rw [← h x (by simp)]; exact hv
  · rename_i op t x y yt; rw [← h x (by simp), ← h y (by simp)]; exact hv
  · rename_i op t x; rw [← h x (by simp)]; exact hv
  · rename_i src dst x; rw [← h x (by simp)]; exact hv
  · rename_i f first captured; rw [← hm _ (fun x hx => h x (by simp; exact .inr (by simpa using hx)))]; exact hv
  · rename_i t x f; rw [← h x (by simp)]; exact hv
  · rename_i t x f; rw [← h x (by simp)]; exact hv
  · rename_i t x i; rw [← h x (by simp), ← h i (by simp)]; exact hv
  · rename_i t x i; rw [← h x (by simp), ← h i (by simp)]; exact hv
  · rename_i t x lo hi mx
    rw [← h x (by simp), ← ho lo (fun y hy => h y (by subst hy; simp)), ← ho hi (fun y hy => h y (by subst hy; simp)), ← ho mx (fun y hy => h y (by subst hy; simp))]; exact hv
  · rename_i x i; rw [← h x (by simp)]; exact hv
  · rename_i b args ts; rw [← hm _ (fun x hx => h x (by simp [Call.operands]; simpa using hx))]; exact hv
  · exact hv.elim

/-- One operation that is carried out: right from every state that agrees on what it looks at. -/
def Stp (Γ : Ctx) (P : Program) (o : Oper) (S : FSt) (rd : List (Nat × Nat)) (e : Eff) : Prop :=
  ∀ (S' : FSt) (a : Act) (w : World), S'.n = S.n → (∀ r ∈ tmpsOf o.op, S'.reg r = S.reg r) → (∀ c ∈ rd, S'.cell c.1 c.2 = S.cell c.1 c.2) → (∀ b, e.new b = true → S'.dom b = false) →
    (∀ b j, S.dom b = true → S.cell b j = .non → S'.cell b j = .non) → Rel Γ S' a w →
    ∀ (K : Act → World → Prop) (Q : Exit → Act → World → Prop), (∀ a' w', Rel Γ (S'.apply e) a' w' → K a' w') → o.wp P a w K Q

theorem wp_val {o : Oper} {a : Act} {w w' : World} {v : Value} {K : Act → World → Prop} {Q : Exit → Act → World → Prop} (h : (execOp a.eval o).run P w = .ok (.value v) w') (hK : K (a.put o.dst v) w') : o.wp P a w K Q := by
  unfold Oper.wp; rw [h]; exact hK
theorem wp_skp {o : Oper} {a : Act} {w w' : World} {K : Act → World → Prop} {Q : Exit → Act → World → Prop} (h : (execOp a.eval o).run P w = .ok .skip w') (hK : K (a.put o.dst undef) w') : o.wp P a w K Q := by
  unfold Oper.wp; rw [h]; exact hK

open Classical in
theorem stp_val (hT : TabOk P T) {Γ : Ctx} {o : Oper} {S : FSt} {k : AV → Prop} (h : aval T S.ev o.op k) : ∃ c, k c ∧ ∀ n, Stp Γ P o S [] ⟨o.dst, c, [], n, []⟩ := by
  let ρ : Operand → AV := fun x => if x ∈ o.op.operands.toList then S.ev x else .non
  have h' : aval T ρ o.op k := aval_congr (fun x hx => by simp only [ρ, hx, if_true]) h
  obtain ⟨c, h1, h2⟩ := aval_sound hT h'
  refine ⟨c, h1, fun n S' a w hn hr _ _ _ hR K Q hK => ?_⟩
  obtain ⟨E, hE, hS⟩ := hR
  obtain ⟨v, h3, h4⟩ := h2 E a w (fun x => by
    by_cases hx : x ∈ o.op.operands.toList
    · simp only [ρ, hx, if_true]; rw [← ev_congr hr hx]; exact hS.ev x
    · simp only [ρ, hx, if_false]; exact .non _)
  exact wp_val h3 (hK _ _ ⟨E, hE, hS.pure h4 n⟩)

/-! ### memory -/

def rdc (f : Nat → AV) : Nat → Nat → List AV
  | _, 0 => []
  | o, n + 1 => f o :: rdc f (o + 1) n

def ks (b : Nat) : Nat → Nat → List (Nat × Nat)
  | _, 0 => []
  | o, n + 1 => (b, o) :: ks b (o + 1) n

theorem rdc_length (f : Nat → AV) : ∀ n o, (rdc f o n).length = n
  | 0, _ => rfl
  | n + 1, o => by simp [rdc, rdc_length f n]
theorem rdc_get (f : Nat → AV) : ∀ n o i, i < n → (rdc f o n)[i]? = some (f (o + i))
  | n + 1, o, 0, _ => by simp [rdc]
  | n + 1, o, i + 1, h => by
    rw [rdc, List.getElem?_cons_succ, rdc_get f n (o + 1) i (by omega)]
    rw [show o + 1 + i = o + (i + 1) by omega]
theorem mem_ks (b : Nat) : ∀ n o i, i < n → (b, o + i) ∈ ks b o n
  | n + 1, o, 0, _ => by simp [ks]
  | n + 1, o, i + 1, h => by
    have := mem_ks b n (o + 1) i (by omega)
    rw [show o + 1 + i = o + (i + 1) by omega] at this
    exact List.mem_cons_of_mem _ this

def allB (p : AV → Bool) : List AV → Bool
  | [] => true
  | c :: r => p c && allB p r
theorem allB_mem {p : AV → Bool} : ∀ {l : List AV}, allB p l = true → ∀ c ∈ l, p c = true
  | c :: r, h, d, hd => by
    simp only [allB, Bool.and_eq_true] at h
    rcases List.mem_cons.1 hd with e | e
    · rw [e]; exact h.1
    · exact allB_mem h.2 d e

def allP (n : Nat) : Nat → List (Nat × AV) → Bool
  | _, [] => true
  | i, p :: r => decide (p.1 = i) && decide (p.2.cells.length = n) && p.2.known && allB AV.flat p.2.cells && allP n (i + 1) r

def aLoad (T : TT) (dst : Option Nat) (t : Nat) (S : FSt) (x : AV) (base : Nat) (k : Eff → List (Nat × Nat) → Prop) : Prop :=
  (T t).kd.isOther = false ∧
  match x with
  | .cp cells => if (T t).kd.isAgg then (T t).size ≤ cells.length ∧ k ⟨dst, .agg (cells.take (T t).size), [], base, []⟩ [] else ∃ c, cells[0]? = some c ∧ k ⟨dst, c, [], base, []⟩ []
  | .ptr b off => if (T t).kd.isAgg then allB AV.plain (rdc (S.cell b) off (T t).size) = true ∧ k ⟨dst, .agg (rdc (S.cell b) off (T t).size), [], base, []⟩ (ks b off (T t).size)
      else (S.cell b off).plain = true ∧ k ⟨dst, S.cell b off, [], base, []⟩ [(b, off)]
  | _ => False

theorem wp_load {o : Oper} {t : Nat} {x : Operand} (ho : o.op = .load t x) {a : Act} {w : World} {v : Value} {K : Act → World → Prop} {Q : Exit → Act → World → Prop}
    (h : (Instr.loadAt t (a.eval x)).run P w = .ok v w) (hK : K (a.put o.dst v) w) : o.wp P a w K Q :=
  wp_val (v := v) (w' := w) (by simp [execOp, ho, h]) hK

theorem run_loadVar_agg (hT : TabOk P T) {t : Nat} (hn : (T t).kd.isOther = false) (ha : (T t).kd.isAgg = true) {a : Addr} {w : World} {vs : List Value} (hl : vs.length = (T t).size)
    (h : ∀ (j : Nat) v, vs[j]? = some v → w.cell? (a.add j) = some v) : (loadVar t a).run P w = .ok (.agg vs.toArray) w := by
  have := run_loadCells_list (P := P) w a vs h
  rw [hl] at this
  simp [loadVar, hT.isAgg hn, ha, hT.size hn, this]
theorem run_loadVar_one (hT : TabOk P T) {t : Nat} (hn : (T t).kd.isOther = false) (ha : (T t).kd.isAgg = false) {a : Addr} {w : World} {v : Value}
    (h : w.cell? a = some v) : (loadVar t a).run P w = .ok v w := by
  simp [loadVar, hT.isAgg hn, ha, h]

theorem add_zero (a : Addr) : a.add 0 = a := by simp [Addr.add]

theorem stp_load (hT : TabOk P T) {Γ : Ctx} {o : Oper} {t : Nat} {x : Operand} (ho : o.op = .load t x) {S : FSt} {base : Nat} {k : Eff → List (Nat × Nat) → Prop} (h : aLoad T o.dst t S (S.ev x) base k) :
    ∃ e rd, k e rd ∧ Stp Γ P o S rd e := by
  obtain ⟨hno, h⟩ := h
  have hmem : x ∈ o.op.operands.toList := by rw [ho]; simp [Op.operands]
  split at h
  · rename_i cells hx
    cases hag : (T t).kd.isAgg with
    | true =>
      rw [hag, if_pos rfl] at h
      refine ⟨_, _, h.2, fun S' a w hn hr _ _ _ hR K Q hK => ?_⟩
      obtain ⟨E, hE, hS⟩ := hR
      have hv := hS.ev x
      rw [ev_congr hr hmem, hx] at hv
      generalize hax : a.eval x = vx at hv
      cases hv with
      | cp cells ad g h1 h2 =>
      let vs : List Value := (List.range (T t).size).map g
      have hvs : vs.length = (T t).size := by simp [vs]
      have hc : ∀ (j : Nat) v, vs[j]? = some v → ∃ c, cells[j]? = some c ∧ v = g j ∧ j < (T t).size := fun j v hj => by
        have hlt : j < (T t).size := by rw [← hvs]; exact (List.getElem?_eq_some_iff.1 hj).1
        simp only [vs, List.getElem?_map, List.getElem?_range hlt, Option.map_some, Option.some.injEq] at hj
        exact ⟨_, List.getElem?_eq_getElem (by omega), hj.symm, hlt⟩
      refine wp_load ho (v := .agg vs.toArray) ?_ (hK _ _ ⟨E, hE, hS.pure ?_ base⟩)
      · rw [hax]
        simp only [Instr.loadAt, Instr.sureAddr, Sem.run_bind, Sem.run_pure, Result.andThen_ok]
        exact run_loadVar_agg hT hno hag hvs (fun j v hj => by obtain ⟨c, e1, rfl, _⟩ := hc j v hj; exact (hE.F _ _ (h1 j c e1)).1)
      · refine VRs.agg ⟨by simp [hvs]; omega, fun j c v hj hv => ?_⟩
        rw [List.getElem?_take] at hj
        split at hj
        · obtain ⟨c', e1, rfl, _⟩ := hc j v (by simpa using hv)
          exact (h2 j c hj).vr
        · cases hj
    | false =>
      rw [hag, if_neg (by simp)] at h
      obtain ⟨c, hc, hk⟩ := h
      refine ⟨_, _, hk, fun S' a w hn hr _ _ _ hR K Q hK => ?_⟩
      obtain ⟨E, hE, hS⟩ := hR
      have hv := hS.ev x
      rw [ev_congr hr hmem, hx] at hv
      generalize hax : a.eval x = vx at hv
      cases hv with
      | cp cells ad g h1 h2 =>
      refine wp_load ho (v := g 0) ?_ (hK _ _ ⟨E, hE, hS.pure (h2 0 c hc).vr base⟩)
      rw [hax]
      simp only [Instr.loadAt, Instr.sureAddr, Sem.run_bind, Sem.run_pure, Result.andThen_ok]
      have := (hE.F _ _ (h1 0 c hc)).1
      rw [add_zero] at this
      exact run_loadVar_one hT hno hag this
  · rename_i b off hx
    cases hag : (T t).kd.isAgg with
    | true =>
      rw [hag, if_pos rfl] at h
      refine ⟨_, _, h.2, fun S' a w hn hr hrd _ _ hR K Q hK => ?_⟩
      obtain ⟨E, hE, hS⟩ := hR
      have hv := hS.ev x
      rw [ev_congr hr hmem, hx] at hv
      generalize hax : a.eval x = vx at hv
      cases hv with
      | ptr b off g hk hb =>
      have hcell : ∀ j, j < (T t).size → ∃ v, w.cell? ⟨g, off + j, none⟩ = some v ∧ VR E (S.cell b (off + j)) v := fun j hj => by
        have h1 := hS.cell b (off + j)
        rw [hrd (b, off + j) (mem_ks b _ off j hj)] at h1
        rw [CellOk.plain (allB_mem h.1 _ (List.mem_of_getElem? (rdc_get (S.cell b) _ off j hj)))] at h1
        obtain ⟨_, g', v, e1, e2, _, e3⟩ := h1
        rw [hb] at e1; injection e1 with e1; subst e1
        exact ⟨v, e2, e3⟩
      let vs : List Value := (List.range (T t).size).map fun j => (w.cell? ⟨g, off + j, none⟩).getD undef
      have hvs : vs.length = (T t).size := by simp [vs]
      have hget : ∀ (j : Nat) v, vs[j]? = some v → j < (T t).size ∧ w.cell? ⟨g, off + j, none⟩ = some v := fun j v hj => by
        have hlt : j < (T t).size := by rw [← hvs]; exact (List.getElem?_eq_some_iff.1 hj).1
        simp only [vs, List.getElem?_map, List.getElem?_range hlt, Option.map_some, Option.some.injEq] at hj
        obtain ⟨u, e1, _⟩ := hcell j hlt
        rw [e1] at hj
        simp only [Option.getD_some] at hj
        subst hj
        exact ⟨hlt, e1⟩
      refine wp_load ho (v := .agg vs.toArray) ?_ (hK _ _ ⟨E, hE, hS.pure ?_ base⟩)
      · rw [hax]
        simp only [Instr.loadAt, Instr.sureAddr, Sem.run_bind, Sem.run_pure, Result.andThen_ok]
        exact run_loadVar_agg hT hno hag hvs (fun j v hj => by rw [add_lit]; exact (hget j v hj).2)
      · refine VRs.agg ⟨by simp [hvs, rdc_length], fun j c v hj hv => ?_⟩
        obtain ⟨hlt, e1⟩ := hget j v (by simpa using hv)
        obtain ⟨u, e2, e3⟩ := hcell j hlt
        rw [rdc_get _ _ _ _ hlt] at hj
        injection hj with hj
        rw [e1] at e2; injection e2 with e2
        subst hj; subst e2
        exact e3
    | false =>
      rw [hag, if_neg (by simp)] at h
      refine ⟨_, _, h.2, fun S' a w hn hr hrd _ _ hR K Q hK => ?_⟩
      obtain ⟨E, hE, hS⟩ := hR
      have hv := hS.ev x
      rw [ev_congr hr hmem, hx] at hv
      generalize hax : a.eval x = vx at hv
      cases hv with
      | ptr b off g hk hb =>
      have h1 := hS.cell b off
      rw [hrd (b, off) (by simp), CellOk.plain h.1] at h1
      obtain ⟨_, g', v, e1, e2, _, e3⟩ := h1
      rw [hb] at e1; injection e1 with e1; subst e1
      refine wp_load ho (v := v) ?_ (hK _ _ ⟨E, hE, hS.pure e3 base⟩)
      rw [hax]
      simp only [Instr.loadAt, Instr.sureAddr, Sem.run_bind, Sem.run_pure, Result.andThen_ok]
      exact run_loadVar_one hT hno hag e2
  · exact h.elim

/-! ### stores, new blocks -/

def aStore (T : TT) (dst : Option Nat) (t : Nat) (S : FSt) (x v : AV) (base : Nat) (k : Eff → List (Nat × Nat) → Prop) : Prop :=
  (T t).kd.isOther = false ∧
  match x with
  | .ptr b off => v.known = true ∧ v.cells.length = (T t).size ∧ allB AV.one v.cells = true ∧ allB AV.plain (rdc (S.cell b) off v.cells.length) = true ∧
      k ⟨dst, .und, writes b off v.cells, base, []⟩ (ks b off v.cells.length)
  | _ => False

theorem known_ne {c : AV} (h : c.known = true) : c ≠ .non := fun e => by subst e; cases h

theorem stp_store (hT : TabOk P T) {Γ : Ctx} {o : Oper} {t : Nat} {x y : Operand} (ho : o.op = .store t x y) {S : FSt} {base : Nat} {k : Eff → List (Nat × Nat) → Prop} (h : aStore T o.dst t S (S.ev x) (S.ev y) base k) :
    ∃ e rd, k e rd ∧ Stp Γ P o S rd e := by
  obtain ⟨hno, h⟩ := h
  have hmx : x ∈ o.op.operands.toList := by rw [ho]; simp [Op.operands]
  have hmy : y ∈ o.op.operands.toList := by rw [ho]; simp [Op.operands]
  split at h
  · rename_i b off hx
    obtain ⟨hkn, hlen, hone, hold, hk⟩ := h
    refine ⟨_, _, hk, fun S' a w hn hr hrd _ _ hR K Q hK => ?_⟩
    obtain ⟨E, hE, hS⟩ := hR
    have hv := hS.ev x
    rw [ev_congr hr hmx, hx] at hv
    have hy := hS.ev y
    rw [ev_congr hr hmy] at hy
    generalize hax : a.eval x = vx at hv
    cases hv with
    | ptr b off g hkd hb =>
    have hcs := hy.cells (known_ne hkn)
    have hpl : ∀ i, i < (S.ev y).cells.length → (S'.cell b (off + i)).plain = true := fun i hi => by
      rw [hrd (b, off + i) (mem_ks b _ off i hi)]
      exact allB_mem hold _ (List.mem_of_getElem? (rdc_get (S.cell b) _ off i hi))
    obtain ⟨hE', hS'⟩ := hS.store hE hkd hb hcs (fun c hc => AV.one_plain (allB_mem hone c hc)) hpl o.dst base
    refine wp_skp ?_ (hK _ _ ⟨E, hE', hS'⟩)
    have hcell : ∀ i, i < (S.ev y).cells.length → ∃ u, w.cell? ⟨g, off + i, none⟩ = some u ∧ w.frozen? ⟨g, off + i, none⟩ = false := fun i hi => by
      have h1 := hS.cell b (off + i)
      rw [CellOk.plain (hpl i hi)] at h1
      obtain ⟨_, g', u, e1, e2, e3, _⟩ := h1
      rw [hb] at e1; injection e1 with e1; subst e1
      exact ⟨u, e2, e3⟩
    have hst := run_storeCells_cells (P := P) g off (a.eval y).cells.toList 0 w (fun j hj => by
        rw [hcs.1] at hj; obtain ⟨u, e1, _⟩ := hcell j hj; rw [Nat.add_zero, e1]; rfl) (fun j hj => by
        rw [hcs.1] at hj; obtain ⟨u, _, e1⟩ := hcell j hj; rw [Nat.add_zero, e1]) (fun v hv => by
        obtain ⟨j, hj⟩ := List.getElem?_of_mem hv
        have hjl : j < (S.ev y).cells.length := by rw [← hcs.1]; exact (List.getElem?_eq_some_iff.1 hj).1
        have hc := List.getElem?_eq_getElem hjl
        exact (hcs.2 j _ v hc hj).one (allB_mem hone _ (List.getElem_mem hjl)))
    have hsz : (a.eval y).cells.size = (T t).size := by rw [hcs.size]; exact hlen
    simp [execOp, ho, hax, Instr.storeAt, Instr.sureAddr, storeVar, hT.size hno, hsz, hst]
  · exact h.elim

theorem Eff.new_base (dst : Option Nat) (v : AV) (ws : List (Nat × Nat × AV)) (b : Nat) (cs : List AV) : (⟨dst, v, ws, b, [cs]⟩ : Eff).new b = true := by simp [Eff.new_one]

theorem cellable_cvOne (v : Value) : (cvOne v).cellable = true := by unfold cvOne; split <;> rfl

theorem stp_alloc (hT : TabOk P T) {Γ : Ctx} {o : Oper} {t : Nat} (ho : o.op = .alloc t) {S : FSt} (base : Nat) (hno : (T t).kd.isOther = false) : Stp Γ P o S [] ⟨o.dst, .ptr base 0, [], base, [(T t).zero]⟩ := by
  intro S' a w hn hr _ hf _ hR K Q hK
  obtain ⟨E, hE, hS⟩ := hR
  obtain ⟨i, z, i1, _, _, i4, i5, i6, i7, _⟩ := hT.info hno
  obtain ⟨hE', hS'⟩ := hS.box hE (hf base (Eff.new_base _ _ _ _ _)) (cs := (T t).zero) (vs := z.cells) (by rw [i6]; exact zero_VRs E z) (fun c hc => by rw [i6] at hc; obtain ⟨v, _, rfl⟩ := List.mem_map.1 hc; exact cellable_cvOne v) o.dst t
  refine wp_val ?_ (hK _ _ ⟨_, hE', hS'⟩)
  simp [execOp, ho, Instr.alloc, zeroValue, typeInfo, i1, i4, newVar, newRow]

theorem stp_box {Γ : Ctx} {o : Oper} {t : Nat} {x : Operand} (ho : o.op = .box t x) {S : FSt} (base : Nat) (hkn : (S.ev x).known = true) (hc : allB AV.cellable (S.ev x).cells = true) :
    Stp Γ P o S [] ⟨o.dst, .ptr base 0, [], base, [(S.ev x).cells]⟩ := by
  intro S' a w hn hr _ hf _ hR K Q hK
  obtain ⟨E, hE, hS⟩ := hR
  have hv := hS.ev x
  rw [ev_congr hr (by rw [ho]; simp [Op.operands])] at hv
  obtain ⟨hE', hS'⟩ := hS.box hE (hf base (Eff.new_base _ _ _ _ _)) (hv.cells (known_ne hkn)) (fun c h => allB_mem hc c h) o.dst t
  refine wp_val ?_ (hK _ _ ⟨_, hE', hS'⟩)
  simp [execOp, ho, Instr.box, newVar, newRow]

theorem stp_makeMap {Γ : Ctx} {o : Oper} {t : Nat} (ho : o.op = .makeMap t none) {S : FSt} (base : Nat) : Stp Γ P o S [] ⟨o.dst, .mp base, [], base, [[.mps fun _ => none]]⟩ := by
  intro S' a w hn hr _ hf _ hR K Q hK
  obtain ⟨E, hE, hS⟩ := hR
  obtain ⟨hE', hS'⟩ := hS.map hE (hf base (Eff.new_base _ _ _ _ _)) o.dst
  refine wp_val ?_ (hK _ _ ⟨_, hE', hS'⟩)
  simp [execOp, ho, Instr.makeMap]

end Go.Ab
