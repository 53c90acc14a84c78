/- The abstract machine: states as lists, one operation, a region, code; that what it shows is so of the model. -/
import Derived.Test.YtpgagefaneaioaaT14
namespace Go.Ab
open Go Go.RowKit
set_option linter.unusedVariables false
set_option linter.unusedSimpArgs false

variable {P : Program} {T : TT}

structure ASt where
  regs : List AV
  heap : List (List AV)

def ASt.view (s : ASt) : FSt where
  n := s.regs.length
  reg := nth s.regs
  cell := fun b j => nth (nthB s.heap b) j
  dom := fun b => decide (b < s.heap.length)

def setB : List (List AV) → Nat → Nat → AV → List (List AV)
  | [], _, _, _ => []
  | l :: r, 0, j, c => l.set j c :: r
  | l :: r, b + 1, j, c => l :: setB r b j c

def wrH : List (Nat × Nat × AV) → List (List AV) → List (List AV)
  | [], H => H
  | x :: r, H => wrH r (setB H x.1 x.2.1 x.2.2)

def setR : Option Nat → AV → List AV → List AV
  | none, _, l => l
  | some d, c, l => l.set d c

def ASt.apply (s : ASt) (e : Eff) : ASt := ⟨setR e.dst e.val s.regs, wrH e.ws s.heap ++ e.news⟩

theorem setB_length : ∀ (H : List (List AV)) (b j : Nat) (c : AV), (setB H b j c).length = H.length
  | [], _, _, _ => rfl
  | l :: r, 0, j, c => by simp [setB]
  | l :: r, b + 1, j, c => by simp [setB, setB_length r b j c]

theorem setB_get : ∀ (H : List (List AV)) (b j : Nat) (c : AV) (x : Nat), nthB (setB H b j c) x = if x = b then (nthB H x).set j c else nthB H x
  | [], b, j, c, x => by simp [setB, nthB]
  | l :: r, 0, j, c, 0 => by simp [setB, nthB]
  | l :: r, 0, j, c, x + 1 => by simp [setB, nthB]
  | l :: r, b + 1, j, c, 0 => by simp [setB, nthB]
  | l :: r, b + 1, j, c, x + 1 => by simp [setB, nthB, setB_get r b j c x]

theorem nth_set (l : List AV) (j : Nat) (c : AV) (i : Nat) : nth (l.set j c) i = if i = j ∧ j < l.length then c else nth l i := by
  rw [nth_eq, nth_eq, List.getElem?_set]
  by_cases h : j = i
  · subst h
    by_cases h2 : j < l.length
    · simp [h2]
    · simp [h2, List.getElem?_eq_none (Nat.le_of_not_lt h2)]
  · have h3 : ¬ i = j := fun e => h e.symm
    simp [h, h3]

theorem wrH_length : ∀ (ws : List (Nat × Nat × AV)) (H : List (List AV)), (wrH ws H).length = H.length
  | [], _ => rfl
  | x :: r, H => by rw [wrH, wrH_length r, setB_length]

theorem wrH_blk : ∀ (ws : List (Nat × Nat × AV)) (H : List (List AV)) (b : Nat), (nthB (wrH ws H) b).length = (nthB H b).length
  | [], _, _ => rfl
  | x :: r, H, b => by
    rw [wrH, wrH_blk r, setB_get]
    split <;> simp

theorem wrH_get : ∀ (ws : List (Nat × Nat × AV)) (H : List (List AV)) (f : Nat → Nat → AV), (∀ x ∈ ws, x.2.1 < (nthB H x.1).length) → (∀ b j, nth (nthB H b) j = f b j) → ∀ b j, nth (nthB (wrH ws H) b) j = wrs ws f b j
  | [], _, _, _, h => h
  | x :: r, H, f, hin, h => by
    intro b j
    rw [wrH, wrs]
    refine wrH_get r _ _ (fun y hy => ?_) (fun b j => ?_) b j
    · rw [setB_get]
      have := hin y (List.mem_cons_of_mem _ hy)
      split <;> simpa using this
    · rw [setB_get]
      unfold upd
      by_cases hb : b = x.1
      · subst hb
        simp only [if_true, true_and]
        rw [nth_set]
        have := hin x (by simp)
        by_cases hj : j = x.2.1
        · simp [hj, this]
        · simp [hj, h]
      · simp [hb, h]

theorem nthB_append : ∀ (H N : List (List AV)) (b : Nat), nthB (H ++ N) b = if b < H.length then nthB H b else nthB N (b - H.length)
  | [], N, b => by simp
  | l :: r, N, 0 => by simp [nthB]
  | l :: r, N, b + 1 => by
    simp only [List.cons_append, nthB, nthB_append r N b, List.length_cons, Nat.add_lt_add_iff_right, Nat.add_sub_add_right]

theorem getD_nthB : ∀ (L : List (List AV)) (i : Nat), L.getD i [] = nthB L i
  | [], _ => rfl
  | c :: L, 0 => rfl
  | c :: L, i + 1 => by simpa [nthB] using getD_nthB L i
theorem getD_nth : ∀ (L : List AV) (i : Nat), L.getD i .non = nth L i
  | [], _ => rfl
  | c :: L, 0 => rfl
  | c :: L, i + 1 => by simpa [nth] using getD_nth L i

/-- An effect that is in its place. -/
structure Fits (s : ASt) (e : Eff) : Prop where
  base : e.base = s.heap.length
  keep : ∀ x ∈ e.ws, s.view.cell x.1 x.2.1 ≠ .non ∧ x.2.2 ≠ .non

theorem nth_ne {l : List AV} {j : Nat} (h : nth l j ≠ .non) : j < l.length := Nat.lt_of_not_le fun hx => h (nth_ge hx)
theorem nthB_ne {H : List (List AV)} {b j : Nat} (h : nth (nthB H b) j ≠ .non) : b < H.length := Nat.lt_of_not_le fun hx => h (by rw [nthB_ge H b hx]; rfl)

theorem view_apply {s : ASt} {e : Eff} (h : Fits s e) : (s.apply e).view = s.view.apply e := by
  have hin : ∀ x ∈ e.ws, x.2.1 < (nthB s.heap x.1).length := fun x hx => nth_ne (h.keep x hx).1
  have hnew : ∀ b, e.new b = (decide (s.heap.length ≤ b) && decide (b < s.heap.length + e.news.length)) := fun b => by rw [Eff.new, h.base]
  refine fs_ext ?_ (fun r => ?_) (fun b j => ?_) (fun b => ?_)
  · simp only [ASt.view, ASt.apply, FSt.apply]
    cases e.dst <;> simp [setR]
  · simp only [ASt.view, ASt.apply, FSt.apply]
    cases hd : e.dst with
    | none => simp [setR]
    | some d =>
      simp only [setR, nth_set, Option.some.injEq]
      by_cases h1 : r = d
      · subst h1; simp
      · have : ¬ d = r := fun e' => h1 e'.symm
        simp [h1, this]
  · simp only [ASt.view, ASt.apply, FSt.apply, nthB_append, wrH_length, hnew]
    by_cases hb : b < s.heap.length
    · have : (decide (s.heap.length ≤ b) && decide (b < s.heap.length + e.news.length)) = false := by simp; omega
      simp only [hb, if_true, this, Bool.false_eq_true, if_false]
      exact wrH_get e.ws s.heap _ hin (fun _ _ => rfl) b j
    · simp only [hb, if_false]
      by_cases hb2 : b < s.heap.length + e.news.length
      · have : (decide (s.heap.length ≤ b) && decide (b < s.heap.length + e.news.length)) = true := by simp; omega
        simp only [this, if_true, h.base, getD_nthB, getD_nth]
      · have : (decide (s.heap.length ≤ b) && decide (b < s.heap.length + e.news.length)) = false := by simp; omega
        simp only [this, Bool.false_eq_true, if_false]
        rw [nthB_ge e.news _ (by omega)]
        have e1 : wrs e.ws (fun b j => nth (nthB s.heap b) j) b j = nth (nthB s.heap b) j := by
          refine wrs_miss _ _ _ _ ?_
          refine Classical.byContradiction fun hc => ?_
          obtain ⟨x, x1, x2⟩ := List.any_eq_true.1 (by simpa using hc : (e.ws.any fun x => x.1 == b && x.2.1 == j) = true)
          simp only [Bool.and_eq_true, beq_iff_eq] at x2
          have := nthB_ne (h.keep x x1).1
          omega
        rw [e1, nthB_ge s.heap b (by omega)]
  · simp only [ASt.view, ASt.apply, FSt.apply, hnew, List.length_append, wrH_length]
    by_cases h1 : b < s.heap.length
    · simp [h1]; omega
    · by_cases h2 : b < s.heap.length + e.news.length
      · simp [h2]; omega
      · simp [h1, h2]

/-! ### One operation -/

/-- What a call comes to, by what is known of the callee. -/
def CallC (P : Program) (s : ASt) (dst : Option Nat) (f : Nat) (acts : List AV) (k : Eff → List (Nat × Nat) → Prop) : Prop :=
  ∃ (m : Nat → Nat) (n : Nat) (H H' : List (List AV)) (args : List AV) (r : AV), Callable P f ∧ Meets P f H args r H' ∧ Args m n acts args ∧ Hand s.view m n s.heap.length H H' ∧
    (∀ b j, b < n → j < (nthB H' b).length → nth (nthB H' b) j ≠ .non) ∧ ∃ e, (e = callEff dst m n s.heap.length r H' ∨ (RoOk s.view m n s.heap.length H' ∧ e = roEff dst m n s.heap.length r H')) ∧ k e (keysOf m 0 n H)

def aop (P : Program) (T : TT) (o : Oper) (s : ASt) (k : Eff → List (Nat × Nat) → Prop) : Prop :=
  match o.op with
  | .load t a => aLoad T o.dst t s.view (s.view.ev a) s.heap.length k
  | .store t a v => aStore T o.dst t s.view (s.view.ev a) (s.view.ev v) s.heap.length k
  | .alloc t => (T t).kd.isOther = false ∧ k ⟨o.dst, .ptr s.heap.length 0, [], s.heap.length, [(T t).zero]⟩ []
  | .box t x => (s.view.ev x).known = true ∧ allB AV.cellable (s.view.ev x).cells = true ∧ k ⟨o.dst, .ptr s.heap.length 0, [], s.heap.length, [(s.view.ev x).cells]⟩ []
  | .buildSlice t len parts => aBuildSlice T o.dst t len (parts.toList.map fun p => (p.1, s.view.ev p.2)) s.heap.length k
  | .makeMap t none => k ⟨o.dst, .mp s.heap.length, [], s.heap.length, [[.mps fun _ => none]]⟩ []
  | .lookup t m key false => aLookup T o.dst t s.view (s.view.ev m) (s.view.ev key) s.heap.length k
  | .mapUpdate t m key v => aMapUpdate T o.dst t s.view (s.view.ev m) (s.view.ev key) (s.view.ev v) s.heap.length k
  | .call c => match c.callee with
    | .builtin .append => match c.args.toList, c.argTypes.toList with
      | [x, y], [t, t'] => aAppend T o.dst t t' s.view (s.view.ev x) (s.view.ev y) s.heap.length k
      | _, _ => False
    | .value fo => match s.view.ev fo with
      | .fn f caps => CallC P s o.dst f (c.args.toList.map s.view.ev ++ caps) k
      | _ => False
    | _ => aval T s.view.ev o.op fun c => k ⟨o.dst, c, [], s.heap.length, []⟩ []
  | op => aval T s.view.ev op fun c => k ⟨o.dst, c, [], s.heap.length, []⟩ []

def Fact (s : ASt) (o : Oper) (e : Eff) : Prop := Fits s e ∧ e.dst = o.dst

theorem Fact.pure (s : ASt) (o : Oper) (c : AV) : Fact s o ⟨o.dst, c, [], s.heap.length, []⟩ := ⟨⟨rfl, by simp⟩, rfl⟩
theorem Fact.new (s : ASt) (o : Oper) (c : AV) (N : List (List AV)) : Fact s o ⟨o.dst, c, [], s.heap.length, N⟩ := ⟨⟨rfl, by simp⟩, rfl⟩

theorem mem_writes (b : Nat) : ∀ (cs : List AV) (o : Nat) (x : Nat × Nat × AV), x ∈ writes b o cs → x.1 = b ∧ ∃ i, i < cs.length ∧ x.2.1 = o + i ∧ cs[i]? = some x.2.2
  | [], _, x, h => by simp [writes] at h
  | c :: r, o, x, h => by
    rw [writes] at h
    rcases List.mem_cons.1 h with h | h
    · subst h; exact ⟨rfl, 0, by simp, rfl, rfl⟩
    · obtain ⟨h1, i, h2, h3, h4⟩ := mem_writes b r (o + 1) x h
      exact ⟨h1, i + 1, by simp; omega, by omega, by simpa using h4⟩

theorem plain_ne {c : AV} (h : c.plain = true) : c ≠ .non := fun e => by subst e; cases h

theorem mem_backs (m m' : Nat → Nat) (H : List (List AV)) : ∀ (n b0 : Nat) (x : Nat × Nat × AV), x ∈ backs m m' b0 n H → ∃ b j, b0 ≤ b ∧ b < b0 + n ∧ j < (nthB H b).length ∧ x = (m b, j, ren m' (nth (nthB H b) j))
  | 0, _, x, h => by simp [backs] at h
  | n + 1, b0, x, h => by
    rw [backs] at h
    rcases List.mem_append.1 h with h | h
    · obtain ⟨h1, i, h2, h3, h4⟩ := mem_writes _ _ _ x h
      simp at h2
      refine ⟨b0, i, Nat.le_refl _, by omega, h2, ?_⟩
      rw [List.getElem?_map, nth_lt h2] at h4
      injection h4 with h4
      obtain ⟨x1, x2, x3⟩ := x
      simp only at h1 h3 h4
      subst h1; subst h4
      rw [h3, Nat.zero_add]
    · obtain ⟨b, j, h1, h2, h3⟩ := mem_backs m m' H n (b0 + 1) x h
      exact ⟨b, j, by omega, by omega, h3⟩

theorem ren_non {m : Nat → Nat} {c : AV} (h : c ≠ .non) : ren m c ≠ .non := by cases c <;> simp_all [ren]

theorem aop_sound (hT : TabOk P T) {Γ : Ctx} {o : Oper} {s : ASt} {k : Eff → List (Nat × Nat) → Prop} (h : aop P T o s k) : ∃ e rd, k e rd ∧ Stp Γ P o s.view rd e ∧ Fact s o e := by
  let k' : Eff → List (Nat × Nat) → Prop := fun e rd => k e rd ∧ Fact s o e
  have re : (∃ e rd, k' e rd ∧ Stp Γ P o s.view rd e) → ∃ e rd, k e rd ∧ Stp Γ P o s.view rd e ∧ Fact s o e := fun ⟨e, rd, h1, h2⟩ => ⟨e, rd, h1.1, h2, h1.2⟩
  have pv : aval T s.view.ev o.op (fun c => k ⟨o.dst, c, [], s.heap.length, []⟩ []) → ∃ e rd, k e rd ∧ Stp Γ P o s.view rd e ∧ Fact s o e := fun hv => by
    obtain ⟨c, h1, h2⟩ := stp_val (P := P) hT (Γ := Γ) hv
    exact ⟨_, _, h1, h2 _, Fact.pure s o c⟩
  unfold aop at h
  split at h
  · rename_i t a ho
    refine re (stp_load (P := P) hT ho (base := s.heap.length) (k := k') ?_)
    unfold aLoad at h ⊢
    obtain ⟨h0, h⟩ := h
    refine ⟨h0, ?_⟩
    split at h
    · split at h
      · rename_i hag; rw [if_pos hag]; exact ⟨h.1, h.2, Fact.pure s o _⟩
      · rename_i hag; rw [if_neg hag]; obtain ⟨c, h1, h2⟩ := h; exact ⟨c, h1, h2, Fact.pure s o _⟩
    · split at h
      · rename_i hag; rw [if_pos hag]; exact ⟨h.1, h.2, Fact.pure s o _⟩
      · rename_i hag; rw [if_neg hag]; exact ⟨h.1, h.2, Fact.pure s o _⟩
    · exact h.elim
  · rename_i t a v ho
    refine re (stp_store (P := P) hT ho (base := s.heap.length) (k := k') ?_)
    unfold aStore at h ⊢
    obtain ⟨h0, h⟩ := h
    refine ⟨h0, ?_⟩
    split at h
    · rename_i b off _
      obtain ⟨h1, h2, h3, h4, h5⟩ := h
      refine ⟨h1, h2, h3, h4, h5, ⟨rfl, fun x hx => ?_⟩, rfl⟩
      obtain ⟨x1, i, x2, x3, x4⟩ := mem_writes _ _ _ x hx
      rw [x1, x3]
      exact ⟨plain_ne (allB_mem h4 _ (List.mem_of_getElem? (rdc_get _ _ off i x2))), fun e => by have := allB_mem h3 _ (List.mem_of_getElem? x4); rw [e] at this; cases this⟩
    · exact h.elim
  · rename_i t ho
    exact ⟨_, _, h.2, stp_alloc hT ho _ h.1, Fact.new s o _ _⟩
  · rename_i t x ho
    exact ⟨_, _, h.2.2, stp_box ho _ h.1 h.2.1, Fact.new s o _ _⟩
  · rename_i t len parts ho
    refine re (stp_buildSlice (P := P) hT ho (base := s.heap.length) (k := k') ?_)
    unfold aBuildSlice at h ⊢
    split at h
    · obtain ⟨h0, h1, h⟩ := h
      refine ⟨h0, h1, ?_⟩
      split at h
      · rename_i hl; rw [if_pos hl]; exact ⟨h.1, h.2, Fact.pure s o _⟩
      · rename_i hl; rw [if_neg hl]; exact ⟨h.1, h.2.1, h.2.2.1, h.2.2.2, Fact.new s o _ _⟩
    · exact h.elim
  · rename_i t ho
    exact ⟨_, _, h, stp_makeMap ho _, Fact.new s o _ _⟩
  · rename_i t m key ho
    refine re (stp_lookup (P := P) hT ho (base := s.heap.length) (k := k') ?_)
    unfold aLookup at h ⊢
    split at h
    · obtain ⟨h0, h1, h⟩ := h
      refine ⟨h0, h1, ?_⟩
      split at h
      · exact ⟨fun c hc => ⟨h.1 c hc, Fact.pure s o _⟩, fun hn => by obtain ⟨h2, z, h3, h4⟩ := h.2 hn; exact ⟨h2, z, h3, h4, Fact.pure s o _⟩⟩
      · exact h.elim
    · exact h.elim
  · rename_i t m key v ho
    refine re (stp_mapUpdate (P := P) hT ho (base := s.heap.length) (k := k') ?_)
    unfold aMapUpdate at h ⊢
    split at h
    · obtain ⟨h0, h1, h⟩ := h
      refine ⟨h0, h1, ?_⟩
      split at h
      · rename_i f hf
        refine ⟨h, ⟨rfl, fun x hx => ?_⟩, rfl⟩
        rw [List.mem_singleton.1 hx]
        exact ⟨by rw [hf]; simp, by simp⟩
      · exact h.elim
    · exact h.elim
  · rename_i c ho
    split at h
    · rename_i hcal
      split at h
      · rename_i x y t t' hxy htt
        have ho' : o.op = .call { callee := .builtin .append, args := #[x, y], argTypes := #[t, t'] } := by
          rw [ho]
          obtain ⟨cal, as, ts⟩ := c
          simp only at hcal hxy htt
          subst hcal
          have h1 : as = #[x, y] := by rw [← Array.toArray_toList (xs := as), hxy]
          have h2 : ts = #[t, t'] := by rw [← Array.toArray_toList (xs := ts), htt]
          rw [h1, h2]
        refine re (stp_append (P := P) hT ho' (base := s.heap.length) (k := k') ?_)
        unfold aAppend at h ⊢
        obtain ⟨h0, h⟩ := h
        refine ⟨h0, ?_⟩
        split at h
        · obtain ⟨h1, h2, rows, h3, h4, h5, h6, h7⟩ := h
          exact ⟨h1, h2, rows, h3, h4, h5, h6, h7, Fact.new s o _ _⟩
        · obtain ⟨h1, h2, h3, h4, hcur, rows, h5, h6, h7, h8, h9, h10⟩ := h
          refine ⟨h1, h2, h3, h4, hcur, rows, h5, h6, h7, h8, h9, h10, ⟨rfl, fun x hx => ?_⟩, rfl⟩
          rw [List.mem_singleton.1 hx]
          exact ⟨by rw [hcur]; simp, by simp⟩
        · exact h.elim
      · exact h.elim
    · rename_i fo hcal
      split at h
      · rename_i f caps hf
        have ho' : o.op = .call { callee := .value fo, args := c.args, argTypes := c.argTypes } := by
          rw [ho]
          obtain ⟨cal, as, ts⟩ := c
          simp only at hcal
          subst hcal
          rfl
        obtain ⟨m, n, H, H', args, r, h1, h2, h3, h4, h5, e, he, h6⟩ := h
        rcases he with rfl | ⟨hro, rfl⟩
        · refine ⟨_, _, h6, stp_call ho' hf h1 h3 h2 h4, ⟨rfl, fun x hx => ?_⟩, rfl⟩
          obtain ⟨b, j, _, hb, hj, rfl⟩ := mem_backs _ _ _ _ _ x hx
          exact ⟨(h4.full b j (by omega) hj).1, ren_non (h5 b j (by omega) hj)⟩
        · exact ⟨_, _, h6, stp_call_ro ho' hf h1 h3 h2 h4 hro, ⟨rfl, fun x hx => by cases hx⟩, rfl⟩
      · exact h.elim
    · exact pv h
  · exact pv h

end Go.Ab
