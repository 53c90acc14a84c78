/- Appends, literal slices and maps as operations. -/
import Derived.Test.YtpgagefaneaioaaT9
namespace Go.Ab
open Go Go.RowKit
set_option linter.unusedVariables false
set_option linter.unusedSimpArgs false

variable {P : Program} {T : TT}

/-- The elements of a slice that is appended. -/
def srcOf (s : Nat) : AV → Option (List (List AV))
  | .sl s' rows => if s' = s then some rows else none
  | .ow _ _ s' rows => if s' = s then some rows else none
  | .emp => some []
  | _ => none

theorem srcOf_sound {E : Env} {s : Nat} {x : AV} {rows : List (List AV)} {v : Value} (h : srcOf s x = some rows) (hv : VR E x v) : Src E s rows v := by
  cases x <;> simp only [srcOf] at h <;> first | (cases h; done) | skip
  case sl s' rows' =>
    split at h
    · rename_i e; subst e; injection h with h; subst h; exact .of_sl hv
    · cases h
  case ow t e s' rows' =>
    split at h
    · rename_i e; subst e; injection h with h; subst h; exact .of_ow hv
    · cases h
  case emp => injection h with h; subst h; exact .of_emp hv

def aAppend (T : TT) (dst : Option Nat) (t t' : Nat) (S : FSt) (x y : AV) (base : Nat) (k : Eff → List (Nat × Nat) → Prop) : Prop :=
  t' = t ∧
  match (T t).kd, x with
  | .slice e, .emp => (T e).kd.isOther = false ∧ 0 < (T e).size ∧ ∃ rows, srcOf (T e).size y = some rows ∧ Full (T e).size rows ∧ rows.length ≤ 1099511627776 ∧ rows.length * (T e).bytes ≤ 140737488355328 ∧
      k ⟨dst, .ow base e (T e).size rows, [], base, [[.tok rows.length]]⟩ []
  | .slice e, .ow b e' s' rows0 => (T e).kd.isOther = false ∧ 0 < (T e).size ∧ e' = e ∧ s' = (T e).size ∧ S.cell b 0 = .tok rows0.length ∧ ∃ rows, srcOf (T e).size y = some rows ∧ Full (T e).size rows0 ∧ Full (T e).size rows ∧
      rows0.length + rows.length ≤ 1099511627776 ∧ (rows0.length + rows.length) * (T e).bytes ≤ 140737488355328 ∧ k ⟨dst, .ow b e (T e).size (rows0 ++ rows), [(b, 0, .tok (rows0.length + rows.length))], base, []⟩ [(b, 0)]
  | _, _ => False

theorem wp_append {o : Oper} {x y : Operand} {t : Nat} (ho : o.op = .call { callee := .builtin .append, args := #[x, y], argTypes := #[t, t] }) {a : Act} {w w' : World} {v : Value} {K : Act → World → Prop} {Q : Exit → Act → World → Prop}
    (h : (Builtin.append_ #[t, t] o.type #[a.eval x, a.eval y]).run P w = .ok v w') (hK : K (a.put o.dst v) w') : o.wp P a w K Q :=
  wp_val (v := v) (w' := w') (by simp [execOp, ho, resolve, invoke, builtin, h]) hK

theorem stp_append (hT : TabOk P T) {Γ : Ctx} {o : Oper} {x y : Operand} {t t' : Nat} (ho : o.op = .call { callee := .builtin .append, args := #[x, y], argTypes := #[t, t'] }) {S : FSt} {base : Nat} {k : Eff → List (Nat × Nat) → Prop}
    (h : aAppend T o.dst t t' S (S.ev x) (S.ev y) base k) : ∃ e rd, k e rd ∧ Stp Γ P o S rd e := by
  obtain ⟨rfl, h⟩ := h
  have hmx : x ∈ o.op.operands.toList := by rw [ho]; simp [Op.operands, Call.operands]
  have hmy : y ∈ o.op.operands.toList := by rw [ho]; simp [Op.operands, Call.operands]
  split at h
  · rename_i e hk hx
    obtain ⟨hno, hs, rows, h1, h2, h3, h4, h5⟩ := h
    have hkd := hT.kd (t := t') (by rw [hk]; rfl)
    rw [hk] at hkd
    obtain ⟨i, z, i1, i2, i3, i4, i5, _⟩ := hT.info hno
    refine ⟨_, _, h5, fun S' a w hn hr hrd hf _ hR K Q hK => ?_⟩
    obtain ⟨E, hE, hS⟩ := hR
    have hvx := hS.ev x
    rw [ev_congr hr hmx, hx] at hvx
    have hvy := hS.ev y
    rw [ev_congr hr hmy] at hvy
    obtain ⟨v', w', hrun, hrel⟩ := hS.append_emp (P := P) hE (hf base (Eff.new_base _ _ _ _ _)) o.dst (ty := o.type) hkd i1 i4 i2 i5 i3 hs h2 (by omega) h4 hvx (srcOf_sound h1 hvy)
    exact wp_append ho hrun (hK _ _ hrel)
  · rename_i e b e' s' rows0 hk hx
    obtain ⟨hno, hs, rfl, rfl, hcur, rows, h1, h2, h2', h3, h4, h5⟩ := h
    have hkd := hT.kd (t := t') (by rw [hk]; rfl)
    rw [hk] at hkd
    obtain ⟨i, z, i1, i2, i3, i4, i5, _⟩ := hT.info hno
    refine ⟨_, _, h5, fun S' a w hn hr hrd hf _ hR K Q hK => ?_⟩
    obtain ⟨E, hE, hS⟩ := hR
    have hvx := hS.ev x
    rw [ev_congr hr hmx, hx] at hvx
    have hvy := hS.ev y
    rw [ev_congr hr hmy] at hvy
    obtain ⟨v', w', hrun, hrel⟩ := hS.append_tok (P := P) hE o.dst base (ty := o.type) hkd i1 i4 i2 i5 i3 hs h2 h2' (by omega) h4 hvx (by rw [hrd (b, 0) (by simp)]; exact hcur) (srcOf_sound h1 hvy)
    exact wp_append ho hrun (hK _ _ hrel)
  · exact h.elim

/-! ### A literal slice -/

theorem SOk.grow {Γ : Ctx} {E : Env} {S : FSt} {a : Act} {w : World} (h : SOk E S a w) (o : Obj) {dst : Option Nat} {c : AV} {v : Value} (hv : VR E c v) (n : Nat) :
    SOk E (S.apply ⟨dst, c, [], n, []⟩) (a.put dst v) (w.alloc o) := by
  refine h.step (Env.Le.refl E) (e := ⟨dst, c, [], n, []⟩) hv (fun b j => ?_) (fun b hb => ?_)
  · rw [apply_pure_cell]
    exact (h.cell b j).keep (Env.Le.refl E) (fun _ _ _ hl => heap_alloc_lt w o hl) (fun _ => rfl)
  · rw [apply_pure_dom] at hb; exact h.dom b hb

theorem lay_get : ∀ (r : List AV) (off : Nat) (cs : List AV) (k : Nat), off + r.length ≤ cs.length → (lay off r cs)[k]? = if off ≤ k ∧ k < off + r.length then r[k - off]? else cs[k]?
  | [], off, cs, k, _ => by rw [lay, if_neg (by simp)]
  | c :: r, off, cs, k, h => by
    rw [lay, lay_get r (off + 1) (cs.set off c) k (by simp at h ⊢; omega)]
    by_cases h1 : off + 1 ≤ k ∧ k < off + 1 + r.length
    · rw [if_pos h1, if_pos (by simp; omega), show k - off = (k - (off + 1)) + 1 by omega]
      simp
    · rw [if_neg h1]
      by_cases h2 : off = k
      · subst h2
        rw [if_pos (by simp), List.getElem?_set]
        simp at h ⊢
        omega
      · rw [if_neg (by simp; omega), List.getElem?_set, if_neg h2]

theorem aFill_rows (s : Nat) (hs : 0 < s) : ∀ (parts : List (Nat × AV)) (i0 : Nat) (cs : List AV), allP s i0 parts = true → (i0 + parts.length) * s ≤ cs.length →
    ∃ out, aFill (fun i => some (i * s, s)) cs parts = some out ∧ out.length = cs.length ∧ (∀ k, k < i0 * s → out[k]? = cs[k]?) ∧ ∀ i j p, parts[i]? = some p → j < s → out[(i0 + i) * s + j]? = p.2.cells[j]?
  | [], i0, cs, _, _ => ⟨cs, rfl, rfl, fun _ _ => rfl, fun i j p h => by simp at h⟩
  | (i, v) :: r, i0, cs, h, hl => by
    simp only [allP, Bool.and_eq_true, decide_eq_true_eq] at h
    obtain ⟨⟨⟨⟨h1, h2⟩, h3⟩, h4⟩, h5⟩ := h
    subst h1
    have hle : i * s + s ≤ cs.length := by
      have : (i + 1) * s ≤ (i + (r.length + 1)) * s := Nat.mul_le_mul_right _ (by omega)
      simp only [List.length_cons] at hl
      rw [Nat.add_mul, Nat.one_mul] at this
      omega
    obtain ⟨out, o1, o2, o3, o4⟩ := aFill_rows s hs r (i + 1) (lay (i * s) v.cells cs) h5 (by rw [lay_length]; simp only [List.length_cons] at hl; rw [show i + 1 + r.length = i + (r.length + 1) by omega]; exact hl)
    refine ⟨out, ?_, by rw [o2, lay_length], fun k hk => ?_, fun i' j p hp hj => ?_⟩
    · simp only [aFill]
      rw [if_pos ⟨h2, hle, h3⟩]
      exact o1
    · rw [o3 k (by rw [Nat.add_mul]; omega), lay_get _ _ _ _ (by omega), if_neg (by omega)]
    · cases i' with
      | zero =>
        simp only [List.getElem?_cons_zero, Option.some.injEq] at hp
        subst hp
        rw [Nat.add_zero, o3 _ (by rw [Nat.add_mul, Nat.one_mul]; omega), lay_get _ _ _ _ (by omega), if_pos (by omega), Nat.add_sub_cancel_left]
      | succ i' =>
        have := o4 i' j p (by simpa using hp) hj
        rw [show i + 1 + i' = i + (i' + 1) by omega] at this
        exact this

def aBuildSlice (T : TT) (dst : Option Nat) (t len : Nat) (parts : List (Nat × AV)) (base : Nat) (k : Eff → List (Nat × Nat) → Prop) : Prop :=
  match (T t).kd with
  | .slice e => (T e).kd.isOther = false ∧ 0 < (T e).size ∧
    if len = 0 then parts.length = 0 ∧ k ⟨dst, .emp, [], base, []⟩ []
    else len * (T e).size ≤ 1024 ∧ parts.length = len ∧ allP (T e).size 0 parts = true ∧ k ⟨dst, .ow base e (T e).size (parts.map fun p => p.2.cells.map AV.low), [], base, [[.tok len]]⟩ []
  | _ => False

theorem allP_get (s : Nat) : ∀ (parts : List (Nat × AV)) (i0 i : Nat) (p : Nat × AV), allP s i0 parts = true → parts[i]? = some p → p.2.cells.length = s ∧ ∀ c ∈ p.2.cells, c.flat = true
  | q :: r, i0, i, p, h, hp => by
    simp only [allP, Bool.and_eq_true, decide_eq_true_eq] at h
    obtain ⟨⟨⟨⟨h1, h2⟩, h3⟩, h4⟩, h5⟩ := h
    cases i with
    | zero =>
      simp only [List.getElem?_cons_zero, Option.some.injEq] at hp
      subst hp
      exact ⟨h2, fun c hc => allB_mem h4 c hc⟩
    | succ i => exact allP_get s r (i0 + 1) i p h5 (by simpa using hp)

theorem grownBy_alloc (w : World) (o : Obj) : w.grownBy (w.alloc o) none := World.grownBy_alloc w o none

theorem stp_buildSlice (hT : TabOk P T) {Γ : Ctx} {o : Oper} {t len : Nat} {parts : Array (Nat × Operand)} (ho : o.op = .buildSlice t len parts) {S : FSt} {base : Nat} {k : Eff → List (Nat × Nat) → Prop}
    (h : aBuildSlice T o.dst t len (parts.toList.map fun p => (p.1, S.ev p.2)) base k) : ∃ e rd, k e rd ∧ Stp Γ P o S rd e := by
  unfold aBuildSlice at h
  split at h
  · rename_i e hk
    obtain ⟨hno, hs, h⟩ := h
    have hkd := hT.kd (t := t) (by rw [hk]; rfl)
    rw [hk] at hkd
    simp only [kdOk] at hkd
    obtain ⟨i, z, i1, i2, _, i4, i5, i6, i7, _⟩ := hT.info hno
    split at h
    · rename_i hl0
      obtain ⟨hp0, hk'⟩ := h
      have hp : parts = #[] := by
        have : parts.toList = [] := List.eq_nil_of_length_eq_zero (by simpa using hp0)
        simpa using this
      subst hp; subst hl0
      refine ⟨_, _, hk', fun S' a w hn hr _ _ _ hR K Q hK => ?_⟩
      obtain ⟨E, hE, hS⟩ := hR
      refine wp_val (v := .slice (some ⟨w.heap.size, 0, none⟩) 0 0) (w' := w.alloc (.cells #[] e)) ?_ (hK _ _ ⟨E, hE.alloc _, hS.grow (Γ := Γ) _ (.emp _) base⟩)
      simp [execOp, ho, Instr.buildSlice, run_underlying hkd, hT.size hno, Instr.fill, newRow]
      have e0 : ∀ f : Nat → Value, Array.map f (Array.range 0) = #[] := fun f => Array.eq_empty_of_size_eq_zero (by simp)
      rw [e0]
    · rename_i hl0
      obtain ⟨hlen, hpl, hall, hk'⟩ := h
      refine ⟨_, _, hk', fun S' a w hn hr _ hf _ hR K Q hK => ?_⟩
      obtain ⟨E, hE, hS⟩ := hR
      -- the cells
      let s := (T e).size
      let ps := parts.toList.map fun p => (p.1, S.ev p.2)
      let zs : Array Value := (Array.range (len * s)).map (fun x => z.cells[x % z.cells.size]!)
      obtain ⟨out, o1, o2, _, o4⟩ := aFill_rows s hs ps 0 (zs.toList.map cvOne) hall (by simp [zs, ps] at hpl ⊢; rw [hpl]; omega)
      have hzs : VRs E (zs.toList.map cvOne) zs.toList := ⟨by simp, fun j c v hc hv => by
        rw [List.getElem?_map, hv] at hc; injection hc with hc; subst hc; exact cvOne_VR E v⟩
      obtain ⟨us, u1, u2⟩ := aFill_sound (E := E) (fun i => some (i * s, s)) ps (parts.map fun (i, x) => (i, a.eval x)).toList (zs.toList.map cvOne) out zs o1 (by simp [ps]) (fun j p q hp hq => by
          rw [List.getElem?_map] at hp
          rw [Array.toList_map, List.getElem?_map] at hq
          cases hx : parts.toList[j]? with
          | none => rw [hx] at hp; cases hp
          | some y =>
            rw [hx] at hp hq
            injection hp with hp; injection hq with hq
            subst hp; subst hq
            refine ⟨rfl, ?_⟩
            have := hS.ev y.2
            rwa [ev_congr hr (by rw [ho]; simp only [Op.operands]; simp; exact ⟨y.1, by simpa using List.mem_of_getElem? hx⟩)] at this) hzs
      have hus : us.size = len * s := by rw [u2.size, o2]; simp [zs]
      have hnp : ps.length = len := hpl
      have hcell : ∀ i' j', i' < len → j' < s → ∃ p c v, ps[i']? = some p ∧ p.2.cells[j']? = some c ∧ us[i' * s + j']? = some v ∧ VR E c v ∧ c.flat = true := fun i' j' hi' hj' => by
        have hp : ps[i']? = some (ps[i']'(by omega)) := List.getElem?_eq_getElem _
        obtain ⟨q1, q2⟩ := allP_get s ps 0 i' _ hall hp
        have hc : (ps[i']'(by omega)).2.cells[j']? = some ((ps[i']'(by omega)).2.cells[j']'(by omega)) := List.getElem?_eq_getElem _
        have ho4 := o4 i' j' _ hp hj'
        rw [Nat.zero_add, hc] at ho4
        obtain ⟨v, v1, v2⟩ := u2.get ho4
        exact ⟨_, _, v, hp, hc, by simpa using v1, v2, q2 _ (List.mem_of_getElem? hc)⟩
      let g : Nat → Nat → Value := fun i' j' => (us[i' * s + j']?).getD undef
      have hrl : (ps.map fun p => p.2.cells.map AV.low).length = len := by simp [hnp]
      have hflat : flat s len g = us.toList := by
        apply List.ext_getElem?
        intro k'
        by_cases hk' : k' < len * s
        · rw [flat_get hk']
          have e1 : us[k']? = some us[k'] := Array.getElem?_eq_getElem (by omega)
          rw [Array.getElem?_toList, e1]
          simp only [g]
          rw [Nat.div_add_mod' k' s, e1]
          rfl
        · rw [List.getElem?_eq_none (by rw [flat_length]; omega), List.getElem?_eq_none (by simp; omega)]
      have hrel := hS.newTok (Γ := Γ) hE (w' := w.alloc (.cells us e)) (t := base) (hf base (Eff.new_base _ _ _ _ _)) o.dst e s (rows := ps.map fun p => p.2.cells.map AV.low) hs
        (fun row hrow => by
          obtain ⟨p, hp, rfl⟩ := List.mem_map.1 hrow
          obtain ⟨i', hi'⟩ := List.getElem?_of_mem hp
          simpa using (allP_get s ps 0 i' p hall hi').1) (g := g)
        (fun i' j' hi' hj' => by
          rw [hrl] at hi'
          obtain ⟨p, c, v, _, _, e3, e4, e5⟩ := hcell i' j' hi' hj'
          simp only [g, e3, Option.getD_some]
          exact e4.one (by cases c <;> simp_all [AV.flat, AV.one]))
        (fun i' row j' c hrow hc => by
          have hi' : i' < len := by rw [← hrl]; exact (List.getElem?_eq_some_iff.1 hrow).1
          rw [List.getElem?_map] at hrow
          have hpi : ps[i']? = some (ps[i']'(by omega)) := List.getElem?_eq_getElem _
          rw [hpi] at hrow
          injection hrow with hrow
          subst hrow
          rw [List.getElem?_map] at hc
          have hj' : j' < s := by
            have := (allP_get s ps 0 i' _ hall hpi).1
            cases hx : (ps[i']'(by omega)).2.cells[j']? with
            | none => rw [hx] at hc; cases hc
            | some c0 => rw [← this]; exact (List.getElem?_eq_some_iff.1 hx).1
          obtain ⟨p, c0, v, e1, e2, e3, e4, e5⟩ := hcell i' j' hi' hj'
          rw [hpi] at e1
          injection e1 with e1
          subst e1
          rw [e2] at hc
          injection hc with hc
          subst hc
          simp only [g, e3, Option.getD_some]
          exact e4.vi e5)
        (cap := len) (by rw [hrl]; exact Nat.le_refl _) (grownBy_alloc w _) (by simp)
        (by
          rw [hrl, hflat]
          exact World.ownsRow_lit w us len hE.size (by unfold maxLen; have : len ≤ len * (T e).size := Nat.le_mul_of_pos_right _ hs; omega) hus)
        (fun k' hk' => by rw [hrl, hflat, World.cell?_alloc_new]; simp)
      rw [hrl] at hrel
      refine wp_val (w' := w.alloc (.cells us e)) ?_ (hK _ _ hrel)
      have hsz0 : ¬ (len * (T e).size > 2 ^ 24) := by omega
      have hne : ¬ (len * (T e).size = 0) := by
        have : 0 < len * (T e).size := Nat.mul_pos (by omega) hs
        omega
      have hz : (zeroValue e).run P w = .ok z w := by simp [zeroValue, typeInfo, i1, i4]
      have hu1 : Instr.fill (fun i => some (i * (T e).size, (T e).size)) zs ((parts.map fun (i, x) => (i, a.eval x)).toList) = some us := u1
      simp only [execOp, ho, Instr.buildSlice, Sem.run_bind, run_underlying hkd, Result.andThen_ok, hT.size hno, hsz0, hne, if_false, hz, Sem.run_pure]
      simp only [zs, s] at hu1
      rw [hu1]
      simp [newRow]
  · exact h.elim

/-! ### Maps with strings for keys -/

theorem findNow_none (l : List UInt8) : ∀ (es : List MapEntry) (i0 : Nat), (∀ e ∈ es, ∃ l' : List UInt8, e.key = .string ⟨l'.toArray⟩) → (∀ e ∈ es, e.key ≠ .string ⟨l.toArray⟩) →
    Instr.findNow .string (.string ⟨l.toArray⟩) es i0 = some none
  | [], _, _, _ => rfl
  | e :: es, i0, h1, h2 => by
    obtain ⟨l', hl'⟩ := h1 e (by simp)
    have hne : ((⟨l.toArray⟩ : ByteArray) == ⟨l'.toArray⟩) = false := by
      rw [beq_toListBytes, ByteArray.toList_eq, ByteArray.toList_eq]
      simp only [beq_eq_false_iff_ne, ne_eq]
      intro hc
      exact h2 e (by simp) (by rw [hl', show l' = l from by simpa using hc.symm])
    simp only [Instr.findNow, hl', Instr.sameNow, hne]
    exact findNow_none l es (i0 + 1) (fun e he => h1 e (by simp [he])) (fun e he => h2 e (by simp [he]))

theorem findNow_some (l : List UInt8) : ∀ (es : List MapEntry) (i0 i : Nat) (e : MapEntry), (∀ e ∈ es, ∃ l' : List UInt8, e.key = .string ⟨l'.toArray⟩) → es[i]? = some e → e.key = .string ⟨l.toArray⟩ →
    (∀ (j : Nat) (e' : MapEntry), j < i → es[j]? = some e' → e'.key ≠ .string ⟨l.toArray⟩) → Instr.findNow .string (.string ⟨l.toArray⟩) es i0 = some (some (i0 + i, e.val))
  | [], _, i, e, _, h, _, _ => by simp at h
  | d :: es, i0, 0, e, h1, h, hk, _ => by
    simp only [List.getElem?_cons_zero, Option.some.injEq] at h
    subst h
    have he : ((⟨l.toArray⟩ : ByteArray) == ⟨l.toArray⟩) = true := by rw [beq_toListBytes]; simp
    simp [Instr.findNow, hk, Instr.sameNow, he]
  | d :: es, i0, i + 1, e, h1, h, hk, hb => by
    obtain ⟨l', hl'⟩ := h1 d (by simp)
    have hne : ((⟨l.toArray⟩ : ByteArray) == ⟨l'.toArray⟩) = false := by
      rw [beq_toListBytes, ByteArray.toList_eq, ByteArray.toList_eq]
      simp only [beq_eq_false_iff_ne, ne_eq]
      intro hc
      exact hb 0 d (by omega) rfl (by rw [hl', show l' = l from by simpa using hc.symm])
    simp only [Instr.findNow, hl', Instr.sameNow, hne]
    rw [findNow_some l es (i0 + 1) i e (fun e he => h1 e (by simp [he])) (by simpa using h) hk (fun j e' hj he' => hb (j + 1) e' (by omega) (by simpa using he'))]
    rw [show i0 + 1 + i = i0 + (i + 1) by omega]

theorem run_checkKey_str (w : World) {kt : Nat} (h : P.underlying kt = some .string) (b : Bool) (s : ByteArray) : (Instr.checkKey b 10000 kt (.string s)).run P w = .ok () w := by
  rw [show (10000 : Nat) = 9999 + 1 from rfl]
  unfold Instr.checkKey
  rw [Sem.run_bind, run_underlying h]
  rfl

theorem run_findKey_str (w : World) {kt : Nat} (h : P.underlying kt = some .string) (v : Value) (es : List MapEntry) {r : Option (Nat × Value)} (hr : Instr.findNow .string v es 0 = some r) :
    (Instr.findKey kt v es).run P w = .ok r w := by
  simp [Instr.findKey, run_underlying h, hr]

def aLookup (T : TT) (dst : Option Nat) (t : Nat) (S : FSt) (m key : AV) (base : Nat) (k : Eff → List (Nat × Nat) → Prop) : Prop :=
  match (T t).kd, m, key with
  | .map kt et, .mp b, .str l => (T kt).kd = .str ∧ (T et).kd.isOther = false ∧
    match S.cell b 0 with
    | .mps f => (∀ c, f l = some c → k ⟨dst, c, [], base, []⟩ [(b, 0)]) ∧ (f l = none → (T et).kd.isAgg = false ∧ ∃ z, (T et).zero = [z] ∧ k ⟨dst, z, [], base, []⟩ [(b, 0)])
    | _ => False
  | _, _, _ => False

theorem stp_lookup (hT : TabOk P T) {Γ : Ctx} {o : Oper} {t : Nat} {x y : Operand} (ho : o.op = .lookup t x y false) {S : FSt} {base : Nat} {k : Eff → List (Nat × Nat) → Prop}
    (h : aLookup T o.dst t S (S.ev x) (S.ev y) base k) : ∃ e rd, k e rd ∧ Stp Γ P o S rd e := by
  have hmx : x ∈ o.op.operands.toList := by rw [ho]; simp [Op.operands]
  have hmy : y ∈ o.op.operands.toList := by rw [ho]; simp [Op.operands]
  unfold aLookup at h
  split at h
  · rename_i kt et b l hk hx hy
    obtain ⟨hkt, het, h⟩ := h
    have hkd := hT.kd (t := t) (by rw [hk]; rfl)
    rw [hk] at hkd
    have hks := hT.kd (t := kt) (by rw [hkt]; rfl)
    rw [hkt] at hks
    simp only [kdOk] at hkd hks
    split at h
    · rename_i f hf
      -- the run, whatever the state
      have main : ∀ (S' : FSt) (a : Act) (w : World), (∀ r ∈ tmpsOf o.op, S'.reg r = S.reg r) → (∀ c ∈ [(b, 0)], S'.cell c.1 c.2 = S.cell c.1 c.2) → ∀ E, EOk Γ E w → SOk E S' a w →
          ∃ es clock, (∀ w', w' = w → (Instr.lookup t (a.eval x) (a.eval y) false).run P w = ((Instr.findKey kt (.string ⟨l.toArray⟩) es).run P w).andThen fun r w1 => match r with
            | some (_, v) => .ok v w1
            | none => ((zeroValue et).run P w1)) ∧ MapOk E f es ∧ clock = 0 := by
        intro S' a w hr hrd E hE hS
        have hvx := hS.ev x
        rw [ev_congr hr hmx, hx] at hvx
        have hvy := hS.ev y
        rw [ev_congr hr hmy, hy] at hvy
        have hc := hS.cell b 0
        rw [hrd (b, 0) (by simp), hf] at hc
        obtain ⟨_, hkb, g, es, clock, hb, hg, hm⟩ := hc
        generalize hax : a.eval x = vx at hvx
        generalize hay : a.eval y = vy at hvy
        cases hvx with
        | mp b g' hk' hb' =>
        rw [hb] at hb'; injection hb' with hb'; subst hb'
        cases hvy
        refine ⟨es.toList, 0, fun w' hw' => ?_, hm, rfl⟩
        have hgo : (getObj g).run P w = .ok (.map es clock) w := by simp [getObj, Sem.run, hg]
        simp only [Instr.lookup, Sem.run_bind, run_underlying hkd, Result.andThen_ok, hgo, Sem.run_pure, run_checkKey_str w hks]
        generalize (Instr.findKey kt (.string ⟨l.toArray⟩) es.toList).run P w = r
        cases r with
        | halt x w1 => simp [Result.andThen]
        | ok r w1 =>
          cases r with
          | none => 
            simp only [Result.andThen_ok, Sem.run_bind]
            generalize (zeroValue et).run P w1 = r2
            cases r2 <;> simp [Result.andThen]
          | some p => simp
      cases hfl : f l with
      | some c =>
        refine ⟨_, _, h.1 c hfl, fun S' a w hn hr hrd _ _ hR K Q hK => ?_⟩
        obtain ⟨E, hE, hS⟩ := hR
        obtain ⟨es, _, hrun, hm, _⟩ := main S' a w hr hrd E hE hS
        obtain ⟨i, e, h1, h2, h3, h4⟩ := hm.2.2 l c hfl
        have := run_findKey_str (P := P) w hks _ _ (findNow_some l es 0 i e hm.1 h1 h2 h4)
        have hr2 := hrun w rfl
        rw [this] at hr2
        exact wp_val (v := e.val) (w' := w) (by simp [execOp, ho, hr2]) (hK _ _ ⟨E, hE, hS.pure h3.vr base⟩)
      | none =>
        obtain ⟨hag, z, hz, hkz⟩ := h.2 hfl
        refine ⟨_, _, hkz, fun S' a w hn hr hrd _ _ hR K Q hK => ?_⟩
        obtain ⟨E, hE, hS⟩ := hR
        obtain ⟨es, _, hrun, hm, _⟩ := main S' a w hr hrd E hE hS
        have := run_findKey_str (P := P) w hks _ _ (findNow_none l es 0 hm.1 (hm.2.1 l hfl))
        have hr2 := hrun w rfl
        rw [this] at hr2
        obtain ⟨i, zv, i1, _, _, i4, i5, i6, i7, _, i9⟩ := hT.info het
        have hzr : (zeroValue et).run P w = .ok zv w := by simp [zeroValue, typeInfo, i1, i4]
        have hr3 : (Instr.lookup t (a.eval x) (a.eval y) false).run P w = .ok zv w := by rw [hr2]; simp only [Result.andThen_ok]; exact hzr
        refine wp_val (v := zv) (w' := w) (by simp [execOp, ho, hr3]) (hK _ _ ⟨E, hE, hS.pure ?_ base⟩)
        rw [i6] at hz
        have hone := i9 hag
        have hcs : zv.cells = #[zv] := by cases zv <;> simp_all [Value.cells, Value.oneCell']
        rw [hcs] at hz
        simp only [List.map_cons, List.map_nil, List.cons.injEq, and_true] at hz
        rw [← hz]
        exact cvOne_VR E zv
    · exact h.elim
  · exact h.elim

theorem sameBits_str (n : Nat) (s : ByteArray) : Instr.sameBits n (.string s) (.string s) = true := by
  have he : (s == s) = true := by rw [beq_toListBytes]; simp
  cases n <;> simp [Instr.sameBits, he]

theorem str_inj {l l' : List UInt8} (h : Value.string ⟨l.toArray⟩ = .string ⟨l'.toArray⟩) : l = l' := by
  injection h with h
  have := congrArg (fun b : ByteArray => b.data.toList) h
  simpa using this

theorem MapOk.push {E : Env} {f : List UInt8 → Option AV} {es : Array MapEntry} (h : MapOk E f es.toList) {l : List UInt8} (hl : f l = none) {c : AV} {v : Value} (hv : VI E.F c v) (n : Nat) :
    MapOk E (fun x => if x = l then some c else f x) (es.push { key := .string ⟨l.toArray⟩, val := v, born := n }).toList := by
  rw [Array.toList_push]
  refine ⟨fun e he => ?_, fun x hx e he => ?_, fun x d hx => ?_⟩
  · rcases List.mem_append.1 he with he | he
    · exact h.1 e he
    · rw [List.mem_singleton.1 he]; exact ⟨l, rfl⟩
  · by_cases hxl : x = l
    · simp [hxl] at hx
    · simp only [hxl, if_false] at hx
      rcases List.mem_append.1 he with he | he
      · exact h.2.1 x hx e he
      · rw [List.mem_singleton.1 he]
        exact fun hc => hxl (str_inj hc).symm
  · by_cases hxl : x = l
    · subst hxl
      simp only [if_true, Option.some.injEq] at hx
      subst hx
      refine ⟨es.toList.length, { key := .string ⟨x.toArray⟩, val := v, born := n }, by simp, rfl, hv, fun j e' hj he' => ?_⟩
      rw [List.getElem?_append_left hj] at he'
      exact h.2.1 x hl e' (List.mem_of_getElem? he')
    · simp only [hxl, if_false] at hx
      obtain ⟨i, e, h1, h2, h3, h4⟩ := h.2.2 x d hx
      have hi : i < es.toList.length := (List.getElem?_eq_some_iff.1 h1).1
      refine ⟨i, e, by rw [List.getElem?_append_left hi]; exact h1, h2, h3, fun j e' hj he' => ?_⟩
      rw [List.getElem?_append_left (by omega)] at he'
      exact h4 j e' hj he'

theorem modify_get (es : Array MapEntry) (i : Nat) (g : MapEntry → MapEntry) (j : Nat) : (es.modify i g).toList[j]? = if i = j then (es.toList[j]?).map g else es.toList[j]? := by
  rw [Array.getElem?_toList, Array.getElem?_modify, Array.getElem?_toList]

theorem MapOk.modify {E : Env} {f : List UInt8 → Option AV} {es : Array MapEntry} (h : MapOk E f es.toList) {l : List UInt8} {i : Nat} {e0 : MapEntry} (hi : es.toList[i]? = some e0) (hk : e0.key = .string ⟨l.toArray⟩)
    (hfirst : ∀ (j : Nat) (e' : MapEntry), j < i → es.toList[j]? = some e' → e'.key ≠ .string ⟨l.toArray⟩) {c : AV} {v : Value} (hv : VI E.F c v) :
    MapOk E (fun x => if x = l then some c else f x) (es.modify i fun e => { e with key := .string ⟨l.toArray⟩, val := v }).toList := by
  have hkey : ∀ (j : Nat) (e' : MapEntry), (es.modify i fun e => { e with key := .string ⟨l.toArray⟩, val := v }).toList[j]? = some e' → ∃ d, es.toList[j]? = some d ∧ e'.key = d.key ∧ (j ≠ i → e' = d) ∧ (j = i → e'.val = v) := fun j e' he' => by
    rw [modify_get] at he'
    by_cases hj : i = j
    · subst hj
      rw [if_pos rfl, hi] at he'
      injection he' with he'
      subst he'
      exact ⟨e0, hi, hk.symm, fun x => absurd rfl x, fun _ => rfl⟩
    · rw [if_neg hj] at he'
      exact ⟨e', he', rfl, fun _ => rfl, fun x => absurd x.symm hj⟩
  refine ⟨fun e he => ?_, fun x hx e he => ?_, fun x d hx => ?_⟩
  · obtain ⟨j, hj⟩ := List.getElem?_of_mem he
    obtain ⟨d, h1, h2, _⟩ := hkey j e hj
    obtain ⟨l', h3⟩ := h.1 d (List.mem_of_getElem? h1)
    exact ⟨l', h2.trans h3⟩
  · obtain ⟨j, hj⟩ := List.getElem?_of_mem he
    obtain ⟨d, h1, h2, _⟩ := hkey j e hj
    by_cases hxl : x = l
    · simp [hxl] at hx
    · simp only [hxl, if_false] at hx
      rw [h2]
      exact h.2.1 x hx d (List.mem_of_getElem? h1)
  · by_cases hxl : x = l
    · subst hxl
      simp only [if_true, Option.some.injEq] at hx
      subst hx
      have hm : (es.modify i fun e => { e with key := .string ⟨x.toArray⟩, val := v }).toList[i]? = some { e0 with key := .string ⟨x.toArray⟩, val := v } := by rw [modify_get, if_pos rfl, hi]; rfl
      refine ⟨i, _, hm, rfl, hv, fun j e' hj he' => ?_⟩
      obtain ⟨d, h1, h2, _⟩ := hkey j e' he'
      rw [h2]
      exact hfirst j d hj h1
    · simp only [hxl, if_false] at hx
      obtain ⟨j, e, h1, h2, h3, h4⟩ := h.2.2 x d hx
      have hji : j ≠ i := fun e2 => by
        subst e2
        rw [hi] at h1
        injection h1 with h1
        subst h1
        rw [hk] at h2
        exact hxl (str_inj h2).symm
      refine ⟨j, e, by rw [modify_get, if_neg (Ne.symm hji)]; exact h1, h2, h3, fun j' e' hj' he' => ?_⟩
      obtain ⟨d', h5, h6, _⟩ := hkey j' e' he'
      rw [h6]
      exact h4 j' d' hj' h5

theorem SOk.setMap {Γ : Ctx} {E : Env} {S : FSt} {a : Act} {w : World} (h : SOk E S a w) (hE : EOk Γ E w) {b g : Nat} (hk : E.kd b = 1) (hg : E.bk b = some g) {es es' : Array MapEntry} {ck ck' : Nat} (hw : w.heap[g]? = some (.map es ck))
    {f' : List UInt8 → Option AV} (hm : MapOk E f' es'.toList) (dst : Option Nat) (n : Nat) :
    EOk Γ E { w with heap := w.heap.setIfInBounds g (.map es' ck') } ∧ SOk E (S.apply ⟨dst, .und, [(b, 0, .mps f')], n, []⟩) (a.put dst undef) { w with heap := w.heap.setIfInBounds g (.map es' ck') } := by
  have hlt : g < w.heap.size := (Array.getElem?_eq_some_iff.1 hw).1
  have hblk : ∀ x, x ≠ g → ({ w with heap := w.heap.setIfInBounds g (.map es' ck') } : World).heap[x]? = w.heap[x]? := fun x hx => by simp only; rw [Array.getElem?_setIfInBounds_ne (Ne.symm hx)]
  refine ⟨hE.turn hk hg rfl rfl rfl (by simp) hblk, h.step (Env.Le.refl E) (e := ⟨dst, .und, [(b, 0, .mps f')], n, []⟩) .und (fun x j => ?_) (fun x hx => ?_)⟩
  · have e1 : (S.apply ⟨dst, .und, [(b, 0, .mps f')], n, []⟩).cell x j = if x = b ∧ j = 0 then .mps f' else S.cell x j := by simp [FSt.apply, Eff.new_nil, wrs, upd]
    rw [e1]
    by_cases hx : x = b
    · subst hx
      by_cases hj : j = 0
      · subst hj
        simp only [and_self, if_true]
        exact ⟨rfl, hk, g, es', ck', hg, by simp only; rw [Array.getElem?_setIfInBounds_self_of_lt hlt], hm⟩
      · simp only [hj, and_false, if_false]
        have hc := h.cell x j
        by_cases hp : (S.cell x j).plain = true
        · rw [CellOk.plain hp] at hc
          obtain ⟨_, g', v, e2, e3, _⟩ := hc
          rw [hg] at e2; injection e2 with e2; subst e2
          simp [World.cell?, hw] at e3
        · cases hcell : S.cell x j <;> rw [hcell] at hp hc <;> simp [AV.plain] at hp
          case non => trivial
          case tok m => exact absurd hc.1 hj
          case mps f => exact absurd hc.1 hj
          case mpi f => exact hc.elim
    · simp only [hx, false_and, if_false]
      exact h.turn_other hE hk hg hblk hx j
  · rw [apply_pure_dom] at hx
    exact h.dom x hx

def aMapUpdate (T : TT) (dst : Option Nat) (t : Nat) (S : FSt) (m key v : AV) (base : Nat) (k : Eff → List (Nat × Nat) → Prop) : Prop :=
  match (T t).kd, m, key with
  | .map kt _, .mp b, .str l => (T kt).kd = .str ∧ v.flat = true ∧
    match S.cell b 0 with
    | .mps f => k ⟨dst, .und, [(b, 0, .mps fun x => if x = l then some v.low else f x)], base, []⟩ [(b, 0)]
    | _ => False
  | _, _, _ => False

theorem stp_mapUpdate (hT : TabOk P T) {Γ : Ctx} {o : Oper} {t : Nat} {x y z : Operand} (ho : o.op = .mapUpdate t x y z) {S : FSt} {base : Nat} {k : Eff → List (Nat × Nat) → Prop}
    (h : aMapUpdate T o.dst t S (S.ev x) (S.ev y) (S.ev z) base k) : ∃ e rd, k e rd ∧ Stp Γ P o S rd e := by
  have hmx : x ∈ o.op.operands.toList := by rw [ho]; simp [Op.operands]
  have hmy : y ∈ o.op.operands.toList := by rw [ho]; simp [Op.operands]
  have hmz : z ∈ o.op.operands.toList := by rw [ho]; simp [Op.operands]
  unfold aMapUpdate at h
  split at h
  · rename_i kt et b l hk hx hy
    obtain ⟨hkt, hv, h⟩ := h
    have hkd := hT.kd (t := t) (by rw [hk]; rfl)
    rw [hk] at hkd
    have hks := hT.kd (t := kt) (by rw [hkt]; rfl)
    rw [hkt] at hks
    simp only [kdOk] at hkd hks
    split at h
    · rename_i f hf
      refine ⟨_, _, h, fun S' a w hn hr hrd _ _ hR K Q hK => ?_⟩
      obtain ⟨E, hE, hS⟩ := hR
      have hvx := hS.ev x
      rw [ev_congr hr hmx, hx] at hvx
      have hvy := hS.ev y
      rw [ev_congr hr hmy, hy] at hvy
      have hvz := hS.ev z
      rw [ev_congr hr hmz] at hvz
      have hc := hS.cell b 0
      rw [hrd (b, 0) (by simp), hf] at hc
      obtain ⟨_, hkb, g, es, clock, hb, hg, hm⟩ := hc
      generalize hax : a.eval x = vx at hvx
      generalize hay : a.eval y = vy at hvy
      cases hvx with
      | mp b g' hk' hb' =>
      rw [hb] at hb'; injection hb' with hb'; subst hb'
      cases hvy
      have hgo : (getObj g).run P w = .ok (.map es clock) w := by simp [getObj, Sem.run, hg]
      have hso : ∀ o, (setObj g o).run P w = .ok () { w with heap := w.heap.setIfInBounds g o } := fun o => by simp [setObj, Sem.run, hg]
      cases hfl : f l with
      | some c0 =>
        obtain ⟨i, e, h1, h2, h3, h4⟩ := hm.2.2 l c0 hfl
        have hfk := run_findKey_str (P := P) w hks _ _ (findNow_some l es.toList 0 i e hm.1 h1 h2 h4)
        rw [Nat.zero_add] at hfk
        have hm' := hm.modify h1 h2 h4 (hvz.vi hv)
        obtain ⟨hE', hS'⟩ := hS.setMap hE hkb hb (ck' := clock) hg hm' o.dst base
        refine wp_skp ?_ (hK _ _ ⟨E, hE', hS'⟩)
        have hek : ((es[i]?).map (·.key)).getD (.string ⟨l.toArray⟩) = .string ⟨l.toArray⟩ := by
          have : es[i]? = some e := by simpa using h1
          simp [this, h2]
        simp only [execOp, ho, hax, hay, Instr.mapUpdate, Sem.run_bind, run_underlying hkd, Result.andThen_ok, hgo, run_checkKey_str w hks, hfk, hek, Instr.keyThatStays, sameBits_str, if_true, Sem.run_pure, hso]
      | none =>
        have hfk := run_findKey_str (P := P) w hks _ _ (findNow_none l es.toList 0 hm.1 (hm.2.1 l hfl))
        have hm' := hm.push hfl (hvz.vi hv) clock
        obtain ⟨hE', hS'⟩ := hS.setMap hE hkb hb (ck' := clock + 1) hg hm' o.dst base
        refine wp_skp ?_ (hK _ _ ⟨E, hE', hS'⟩)
        simp only [execOp, ho, hax, hay, Instr.mapUpdate, Sem.run_bind, run_underlying hkd, Result.andThen_ok, hgo, run_checkKey_str w hks, hfk, Sem.run_pure, hso]
    · exact h.elim
  · exact h.elim

end Go.Ab
