/- Appends: onto an empty slice, onto a token; a literal slice. -/
import Derived.Test.YtpgagefaneaioaaT3
namespace Go.Ab
open Go Go.RowKit
set_option linter.unusedVariables false
set_option linter.unusedSimpArgs false

/-- A slice value whose elements are known and immutable. -/
def Src (E : Env) (s : Nat) (rows : List (List AV)) (x : Value) : Prop :=
  ∃ a cap, ∃ g : Nat → Nat → Value, x = .slice a rows.length cap ∧ (0 < rows.length → a.isSome = true) ∧
    (∀ (i : Nat) row (j : Nat) c ad, rows[i]? = some row → row[j]? = some c → a = some ad → E.F (ad.add (i * s + j)) (g i j)) ∧
    (∀ (i : Nat) row (j : Nat) c, rows[i]? = some row → row[j]? = some c → VI E.F c (g i j)) ∧ rows.length ≤ cap

theorem Src.of_sl {E : Env} {s : Nat} {rows : List (List AV)} {x : Value} (h : VR E (.sl s rows) x) : Src E s rows x := by
  cases h with
  | sl s rows a cap g h0 h1 h2 hc => exact ⟨a, cap, g, rfl, h0, h1, h2, hc⟩
theorem Src.of_ow {E : Env} {t e s : Nat} {rows : List (List AV)} {x : Value} (h : VR E (.ow t e s rows) x) : Src E s rows x := by
  cases h with
  | ow t e s rows a cap g h0 h1 h2 _ _ _ hc => exact ⟨a, cap, g, rfl, h0, h1, h2, hc⟩
theorem Src.of_emp {E : Env} {s : Nat} {x : Value} (h : VR E .emp x) : Src E s [] x := by
  cases h with
  | emp a => exact ⟨a, 0, fun _ _ => undef, rfl, by simp, by simp, by simp, by simp⟩
theorem Src.sl {E : Env} {s : Nat} {rows : List (List AV)} {x : Value} (h : Src E s rows x) : VR E (.sl s rows) x := by
  obtain ⟨a, cap, g, rfl, h0, h1, h2, hc⟩ := h
  exact .sl s rows a cap g h0 h1 h2 hc

/-- The cells of full rows, in one list. -/
def flat (s n : Nat) (g : Nat → Nat → Value) : List Value := (List.range (n * s)).map fun k => g (k / s) (k % s)

theorem flat_length (s n : Nat) (g : Nat → Nat → Value) : (flat s n g).length = n * s := by simp [flat]

theorem flat_get {s n : Nat} {g : Nat → Nat → Value} {k : Nat} (hk : k < n * s) : (flat s n g)[k]? = some (g (k / s) (k % s)) := by
  simp [flat, List.getElem?_map, List.getElem?_range hk]

theorem lt_of_row {s n i j : Nat} (hi : i < n) (hj : j < s) : i * s + j < n * s := by
  have : (i + 1) * s ≤ n * s := Nat.mul_le_mul_right s hi
  rw [Nat.add_mul, Nat.one_mul] at this
  omega

theorem flat_at {s n : Nat} {g : Nat → Nat → Value} {i j : Nat} (hi : i < n) (hj : j < s) : (flat s n g)[i * s + j]? = some (g i j) := by
  rw [flat_get (lt_of_row hi hj)]
  have h0 : 0 < s := by omega
  rw [Nat.mul_comm i s, Nat.mul_add_div h0, Nat.mul_add_mod, Nat.div_eq_of_lt hj, Nat.mod_eq_of_lt hj, Nat.add_zero]

theorem div_lt {s n k : Nat} (hk : k < n * s) : k / s < n := Nat.div_lt_of_lt_mul (by rw [Nat.mul_comm]; exact hk)
theorem mod_lt {s n k : Nat} (hk : k < n * s) : k % s < s := Nat.mod_lt _ (by
  rcases Nat.eq_zero_or_pos s with h | h
  · subst h; simp at hk
  · exact h)

def Full (s : Nat) (rows : List (List AV)) : Prop := ∀ row ∈ rows, row.length = s

theorem Full.cell {s : Nat} {rows : List (List AV)} (h : Full s rows) {i j : Nat} (hi : i < rows.length) (hj : j < s) : ∃ row c, rows[i]? = some row ∧ row[j]? = some c := by
  have h1 := h rows[i] (List.getElem_mem hi)
  exact ⟨rows[i], rows[i][j]'(by omega), List.getElem?_eq_getElem hi, List.getElem?_eq_getElem _⟩

section
variable {P : Program}

theorem run_append_zero (w : World) (t ty e : TypeId) (i : TypeInfo) (ht : P.underlying t = some (.slice e)) (hi : P.info? e = some i) (a b : Option Addr) (n c d : Nat) (hn : n ≤ c) :
    (Builtin.append_ #[t, t] ty #[.slice a n c, .slice b 0 d]).run P w = .ok (.slice a n c) w := by
  cases b with
  | none => cases a <;> simp [Builtin.append_, run_underlying ht, sizeOf, typeInfo, hi, Builtin.lenOf, Builtin.firstCells, hn, storeCells]
  | some b => cases a <;> simp [Builtin.append_, run_underlying ht, sizeOf, typeInfo, hi, Builtin.lenOf, Builtin.firstCells, loadCells, loadCellsFrom, hn, storeCells]

theorem run_append_fresh (w : World) (t ty e : TypeId) (i : TypeInfo) (z : Value) (ht : P.underlying t = some (.slice e)) (hi : P.info? e = some i) (hz : i.zero = some z)
    (b : Option Addr) (a : Addr) (n c : Nat) (news : List Value) (hl : news.length = n * i.size) (hnews : ∀ (j : Nat) v, news[j]? = some v → w.cell? (a.add j) = some v)
    (h0 : 0 < n) (h63 : (n : Int) ≤ 9223372036854775807) (h48 : n * i.bytes ≤ 281474976710656) :
    (Builtin.append_ #[t, t] ty #[.slice b 0 0, .slice (some a) n c]).run P w =
      .ok (.slice (some ⟨w.heap.size, 0, none⟩) n (grownCap w n 0 e)) (w.drew.alloc (.cells (news.toArray ++ Builtin.zeroCells z.cells (grownCap w n 0 e - n)) e)) := by
  cases b with
  | none => exact run_append_nil w t ty e i z ht hi hz a n c news hl hnews h0 h63 h48
  | some b =>
    have := run_append_grow w t ty e i z ht hi hz b 0 0 [] (by simp) (by simp) a n c news hl hnews (by omega) (by simpa using h63)
      (by rw [Nat.zero_add, nextslicecap_zero h0]; exact h48)
    simpa using this
end

/-- The environment behind an append: token t owns block g now; more immutable cells. -/
def Env.setTok (E : Env) (t : Nat) (g : Option Nat) (k : Tk) (F' : Addr → Value → Prop) : Env :=
  { F := fun a v => E.F a v ∨ F' a v, kd := fun x => if x = t then 2 else E.kd x, bk := fun x => if x = t then g else E.bk x, tk := fun x => if x = t then k else E.tk x }

theorem Env.setTok_le {E : Env} {t : Nat} {g : Option Nat} {k : Tk} {F' : Addr → Value → Prop} (h : E.kd t = 0 ∨ (E.kd t = 2 ∧ (E.tk t).n < k.n)) : E.Le (E.setTok t g k F') := by
  refine ⟨fun _ _ x => .inl x, fun x hx => ?_, fun x hx => ?_⟩
  · have : x ≠ t := fun e => by subst e; rcases h with h | h <;> omega
    simp [Env.setTok, this, hx]
  · by_cases e : x = t
    · subst e
      rcases h with h | h
      · omega
      · exact ⟨by simp [Env.setTok], .inr (by simpa [Env.setTok] using h.2)⟩
    · simp [Env.setTok, e, hx]

/-- The new environment is right, wherever the world behind holds what it says. -/
theorem EOk.setTok {Γ : Ctx} {E : Env} {w w' : World} (h : EOk Γ E w) {t : Nat} {g : Option Nat} {k : Tk} {F' : Addr → Value → Prop} {row : Option Nat}
    (hk : E.kd t = 0 ∨ (E.kd t = 2 ∧ (E.tk t).n < k.n)) (hgrow : w.grownBy w' row)
    (hrow : ∀ r, row = some r → E.kd t = 2 ∧ E.bk t = some r)
    (hF : ∀ a v, E.F a v ∨ F' a v → w'.cell? a = some v ∧ v.oneCell' = true)
    (hF' : ∀ a v, F' a v → g = some a.block)
    (hg : ∀ x, g = some x → Γ.w0.heap.size ≤ x ∧ (x = w.heap.size ∨ (E.kd t = 2 ∧ E.bk t = some x)))
    (htok : TOk Γ (E.setTok t g k F') w' t) : EOk Γ (E.setTok t g k F') w' where
  le := h.le.trans (Env.setTok_le hk)
  os := hgrow.os.trans h.os
  tape := hgrow.tape.trans h.tape
  output := hgrow.output.trans h.output
  size := Nat.le_trans h.size hgrow.size
  old := fun x hx hX => by
    rw [hgrow.block x (Nat.lt_of_lt_of_le hx h.size) (fun e => by
      obtain ⟨h1, h2⟩ := hrow x e.symm
      rcases (h.lt (by rw [h1]; decide) h2).2 with h3 | h3
      · omega
      · exact hX h3)]
    exact h.old x hx hX
  F := hF
  box := fun b hb => by
    have e : b ≠ t := fun e => by subst e; simp [Env.setTok] at hb
    have hb' : E.kd b = 1 := by simpa [Env.setTok, e] using hb
    obtain ⟨x, h1, h2, h3, h4⟩ := h.box b hb'
    refine ⟨x, by simpa [Env.setTok, e] using h1, Nat.lt_of_lt_of_le h2 hgrow.size, h3, fun a v hav hblk => ?_⟩
    rcases hav with hav | hav
    · exact h4 a v hav hblk
    · have := hF' a v hav
      rw [hblk] at this
      rcases (hg x this).2 with h5 | ⟨h5, h6⟩
      · omega
      · exact e (h.inj b t x (by rw [hb']; decide) (by rw [h5]; decide) h1 h6)
  tok := fun x hx => by
    by_cases e : x = t
    · subst e; exact htok
    · have hx' : E.kd x = 2 := by simpa [Env.setTok, e] using hx
      refine (h.tok x hx').keep (by simp [Env.setTok, e]) (by simp [Env.setTok, e]) (fun g' hg' hl => ?_) (fun g' a v hg' hav hblk => ?_)
      · refine hgrow.block g' hl (fun e' => ?_)
        obtain ⟨h1, h2⟩ := hrow g' e'.symm
        exact e (h.inj x t g' (by rw [hx']; decide) (by rw [h1]; decide) hg' h2)
      · rcases hav with hav | hav
        · exact hav
        · exfalso
          have := hF' a v hav
          rw [hblk] at this
          rcases (hg g' this).2 with h5 | ⟨h5, h6⟩
          · have := (h.lt (by rw [hx']; decide) hg').1; omega
          · exact e (h.inj x t g' (by rw [hx']; decide) (by rw [h5]; decide) hg' h6)
  hx := h.hx
  fnew := fun a v hx => by
    rcases hx with hx | hx
    · exact h.fnew a v hx
    · exact .inr (hg _ (hF' a v hx)).1
  kd3 := fun x => by
    by_cases e : x = t
    · exact .inr (.inr (by simp [Env.setTok, e]))
    · simp only [Env.setTok, e, if_false]; exact h.kd3 x
  inj := fun x y z hx hy hgx hgy => by
    have key : ∀ u, u ≠ t → E.kd u ≠ 0 → E.bk u = some z → g = some z → False := fun u hu hku hbu hgz => by
      rcases (hg z hgz).2 with h5 | ⟨h5, h6⟩
      · have := (h.lt hku hbu).1; omega
      · exact hu (h.inj u t z hku (by rw [h5]; decide) hbu h6)
    by_cases ex : x = t <;> by_cases ey : y = t
    · rw [ex, ey]
    · exfalso
      simp only [Env.setTok, ex, ey, if_true, if_false] at hx hy hgx hgy
      exact key y ey hy hgy hgx
    · exfalso
      simp only [Env.setTok, ex, ey, if_true, if_false] at hx hy hgx hgy
      exact key x ex hx hgx hgy
    · simp only [Env.setTok, ex, ey, if_false] at hx hy hgx hgy
      exact h.inj x y z hx hy hgx hgy

/-- The cells of the other blocks behind it. -/
theorem SOk.setTok_other {Γ : Ctx} {E : Env} {S : FSt} {a : Act} {w w' : World} (h : SOk E S a w) (hE : EOk Γ E w) {t : Nat} {g : Option Nat} {k : Tk} {F' : Addr → Value → Prop} {row : Option Nat}
    (hk : E.kd t = 0 ∨ (E.kd t = 2 ∧ (E.tk t).n < k.n)) (hgrow : w.grownBy w' row) (hrow : ∀ r, row = some r → E.kd t = 2 ∧ E.bk t = some r) {x : Nat} (hx : x ≠ t) (j : Nat) :
    CellOk (E.setTok t g k F') w' x j (S.cell x j) :=
  (h.cell x j).keep (Env.setTok_le hk) (fun g' hk' hg' hl => hgrow.block g' hl (fun e => by
    obtain ⟨h1, h2⟩ := hrow g' e.symm
    exact hx (hE.inj x t g' (by rw [hk']; decide) (by rw [h1]; decide) hg' h2))) (fun _ => by simp [Env.setTok, hx])

theorem grownBy_drew {w w' : World} {row : Option Nat} (h : w.drew.grownBy w' row) : w.grownBy w' row := ⟨h.os, h.tape, h.output, h.size, h.block⟩

/-- A fresh token: from a world that holds its cells in a new block (or has no elements and no block). -/
theorem SOk.newTok {Γ : Ctx} {E : Env} {S : FSt} {a : Act} {w w' : World} (h : SOk E S a w) (hE : EOk Γ E w) {t : Nat} (ht : S.dom t = false) (dst : Option Nat) (e s : Nat) {rows : List (List AV)} (hs : 0 < s) (hfull : Full s rows)
    {g : Nat → Nat → Value} (hone : ∀ (i j : Nat), i < rows.length → j < s → (g i j).oneCell' = true) (hv : ∀ (i : Nat) row (j : Nat) c, rows[i]? = some row → row[j]? = some c → VI E.F c (g i j))
    {cap : Nat} (hcap : rows.length ≤ cap) (hgrow : w.grownBy w' none) (hsize : w.heap.size < w'.heap.size)
    (hown : w'.ownsRow Γ.w0.heap.size e s (.slice (some ⟨w.heap.size, 0, none⟩) rows.length cap) rows.length (flat s rows.length g)) (hcell : ∀ k, k < rows.length * s → w'.cell? ⟨w.heap.size, k, none⟩ = (flat s rows.length g)[k]?) :
    Rel Γ (S.apply ⟨dst, .ow t e s rows, [], t, [[.tok rows.length]]⟩) (a.put dst (.slice (some ⟨w.heap.size, 0, none⟩) rows.length cap)) w' := by
  have hk0 : E.kd t = 0 := h.dom t ht
  let F' : Addr → Value → Prop := fun x v => ∃ i j, i < rows.length ∧ j < s ∧ x = ⟨w.heap.size, i * s + j, none⟩ ∧ v = g i j
  let E' := E.setTok t (some w.heap.size) ⟨rows.length, e, s, .slice (some ⟨w.heap.size, 0, none⟩) rows.length cap⟩ F'
  have hle : E.Le E' := Env.setTok_le (.inl hk0)
  have hFc : ∀ x v, E.F x v ∨ F' x v → w'.cell? x = some v ∧ v.oneCell' = true := fun x v hx => by
    rcases hx with hx | ⟨i, j, hi, hj, rfl, rfl⟩
    · refine ⟨?_, (hE.F x v hx).2⟩
      have h1 := (hE.F x v hx).1
      rw [World.cell?_of_block (hgrow.block x.block (World.block_lt_of_cell? w x h1) (by simp))]
      exact h1
    · exact ⟨by rw [hcell _ (lt_of_row hi hj), flat_at hi hj], hone i j hi hj⟩
  have htok : TOk Γ E' w' t := by
    refine .inr ⟨w.heap.size, cap, flat s rows.length g, by simp [E', Env.setTok], by simp [E', Env.setTok], by simpa [E', Env.setTok] using hown, fun x v hx hb => ?_⟩
    simp only [E', Env.setTok, if_true]
    rcases hx with hx | ⟨i, j, hi, hj, rfl, rfl⟩
    · have := World.block_lt_of_cell? w x (hE.F x v hx).1; omega
    · exact lt_of_row hi hj
  refine ⟨E', hE.setTok (.inl hk0) hgrow (by simp) hFc (fun x v hx => by obtain ⟨i, j, _, _, rfl, _⟩ := hx; rfl) (fun x hx => by injection hx with hx; subst hx; exact ⟨hE.size, .inl rfl⟩) htok, ?_⟩
  refine h.step hle (e := ⟨dst, .ow t e s rows, [], t, [[.tok rows.length]]⟩) ?_ (fun x j => ?_) (fun x hx => ?_)
  · refine .ow t e s rows _ cap g (by simp) (fun i row j c ad hi hj had => ?_) (fun i row j c hi hj => (hv i row j c hi hj).mono hle.F) (by simp [E', Env.setTok]) (by simp [E', Env.setTok]) (fun _ => by simp [E', Env.setTok]) hcap
    injection had with had
    subst had
    rw [add_lit, Nat.zero_add]
    have h1 : i < rows.length := (List.getElem?_eq_some_iff.1 hi).1
    have h2 : j < s := by rw [← hfull row (List.mem_of_getElem? hi)]; exact (List.getElem?_eq_some_iff.1 hj).1
    exact .inr ⟨i, j, h1, h2, rfl, rfl⟩
  · rw [apply_new_cell]
    by_cases hx : x = t
    · subst hx
      simp only [if_true]
      cases j with
      | zero => exact ⟨rfl, by simp [E', Env.setTok], by simp [E', Env.setTok]⟩
      | succ j => simp [List.getD, CellOk]
    · simp only [hx, if_false]
      exact h.setTok_other hE (.inl hk0) hgrow (by simp) hx j
  · rw [apply_new_dom, Bool.or_eq_false_iff] at hx
    have : x ≠ t := by simpa using hx.2
    simp [E', Env.setTok, this, h.dom x hx.1]

/-- A token without elements: whatever empty slice of no capacity. -/
theorem SOk.noTok {Γ : Ctx} {E : Env} {S : FSt} {a : Act} {w : World} (h : SOk E S a w) (hE : EOk Γ E w) {t : Nat} (ht : S.dom t = false) (dst : Option Nat) (e s : Nat) (b : Option Addr) :
    Rel Γ (S.apply ⟨dst, .ow t e s [], [], t, [[.tok 0]]⟩) (a.put dst (.slice b 0 0)) w := by
  have hk0 : E.kd t = 0 := h.dom t ht
  let E' := E.setTok t none ⟨0, e, s, .slice b 0 0⟩ fun _ _ => False
  have hle : E.Le E' := Env.setTok_le (.inl hk0)
  have hgrow : w.grownBy w none := ⟨rfl, rfl, rfl, Nat.le_refl _, fun _ _ _ => rfl⟩
  refine ⟨E', hE.setTok (.inl hk0) hgrow (by simp) (fun x v hx => hE.F x v (hx.resolve_right id)) (fun x v hx => hx.elim) (by simp) (.inl ⟨by simp [E', Env.setTok], by simp [E', Env.setTok], b, by simp [E', Env.setTok]⟩), ?_⟩
  refine h.step hle (e := ⟨dst, .ow t e s [], [], t, [[.tok 0]]⟩) ?_ (fun x j => ?_) (fun x hx => ?_)
  · exact .ow t e s [] b 0 (fun _ _ => undef) (by simp) (by simp) (by simp) (by simp [E', Env.setTok]) (by simp) (fun _ => by simp [E', Env.setTok]) (Nat.le_refl _)
  · rw [apply_new_cell]
    by_cases hx : x = t
    · subst hx
      simp only [if_true]
      cases j with
      | zero => exact ⟨rfl, by simp [E', Env.setTok], by simp [E', Env.setTok]⟩
      | succ j => simp [List.getD, CellOk]
    · simp only [hx, if_false]
      exact h.setTok_other hE (.inl hk0) hgrow (by simp) hx j
  · rw [apply_new_dom, Bool.or_eq_false_iff] at hx
    have : x ≠ t := by simpa using hx.2
    simp [E', Env.setTok, this, h.dom x hx.1]

/-- What an append of known elements onto an empty slice comes to: a fresh token. -/
theorem SOk.append_emp {P : Program} {Γ : Ctx} {E : Env} {S : FSt} {a : Act} {w : World} (h : SOk E S a w) (hE : EOk Γ E w) {t : Nat} (ht : S.dom t = false) (dst : Option Nat)
    {T ty e s bytes : Nat} {i : TypeInfo} {z : Value} (hT : P.underlying T = some (.slice e)) (hi : P.info? e = some i) (hz : i.zero = some z) (hsz : i.size = s) (hzs : z.cells.size = s) (hby : i.bytes = bytes) (hs : 0 < s)
    {rows : List (List AV)} (hfull : Full s rows) (hlen : rows.length ≤ 9223372036854775807) (hbytes : rows.length * bytes ≤ 140737488355328) {v x : Value} (hv : VR E .emp v) (hx : Src E s rows x) :
    ∃ v' w', (Builtin.append_ #[T, T] ty #[v, x]).run P w = .ok v' w' ∧ Rel Γ (S.apply ⟨dst, .ow t e s rows, [], t, [[.tok rows.length]]⟩) (a.put dst v') w' := by
  cases hv with
  | emp b =>
  obtain ⟨ax, cx, g, rfl, h0, h1, h2, _⟩ := hx
  rcases Nat.eq_zero_or_pos rows.length with hr | hr
  · have : rows = [] := List.eq_nil_of_length_eq_zero hr
    subst this
    exact ⟨_, _, run_append_zero w T ty e i hT hi b ax 0 0 cx (Nat.le_refl _), h.noTok hE ht dst e s b⟩
  · obtain ⟨ad, rfl⟩ := Option.isSome_iff_exists.1 (h0 hr)
    subst hsz; subst hby
    have hF : ∀ i' j', i' < rows.length → j' < i.size → E.F (ad.add (i' * i.size + j')) (g i' j') ∧ ∃ row c, rows[i']? = some row ∧ row[j']? = some c := fun i' j' hi' hj' => by
      obtain ⟨row, c, e1, e2⟩ := hfull.cell hi' hj'
      exact ⟨h1 i' row j' c ad e1 e2 rfl, row, c, e1, e2⟩
    have hnews : ∀ (k : Nat) u, (flat i.size rows.length g)[k]? = some u → w.cell? (ad.add k) = some u := fun k u hk => by
      have hlt : k < rows.length * i.size := by rw [← flat_length i.size rows.length g]; exact (List.getElem?_eq_some_iff.1 hk).1
      rw [flat_get hlt] at hk
      injection hk with hk
      subst hk
      have := (hE.F _ _ (hF (k / i.size) (k % i.size) (div_lt hlt) (mod_lt hlt)).1).1
      rwa [Nat.div_add_mod' k i.size] at this
    have hrun := run_append_fresh (P := P) w T ty e i z hT hi hz b ad rows.length cx (flat i.size rows.length g) (flat_length _ _ _) hnews hr (by omega) (by omega)
    refine ⟨_, _, hrun, ?_⟩
    have hcap : rows.length ≤ grownCap w rows.length 0 e ∧ grownCap w rows.length 0 e ≤ maxLen := by
      unfold grownCap Question.cut maxLen
      have : w.tape w.drawn (Question.appendCap rows.length 0 e) % (2 ^ 63 - rows.length) < 2 ^ 63 - rows.length := Nat.mod_lt _ (by omega)
      simp only
      omega
    refine h.newTok hE ht dst e i.size hs hfull (fun i' j' hi' hj' => (hE.F _ _ (hF i' j' hi' hj').1).2) h2 hcap.1 (grownBy_drew (World.grownBy_alloc w.drew _ none)) (by simp) ?_ (fun k hk => ?_)
    · refine ⟨flat_length _ _ _, .inr ⟨w.heap.size, _, _, rfl, hE.size, heap_alloc_new w.drew _, hcap.1, hcap.2, ?_, ?_⟩⟩
      · simp only [Array.size_append, List.size_toArray, flat_length, Builtin.zeroCells, Array.size_map, Array.size_range, hzs]
        rw [← Nat.add_mul]
        congr 1
        omega
      · rw [Array.toList_append]
        rw [List.take_append_of_le_length (by simp [flat_length]), List.take_of_length_le (by simp [flat_length])]
    · have : w.heap.size = w.drew.heap.size := rfl
      rw [this, World.cell?_alloc_new, Array.getElem?_append_left (by simpa [flat_length] using hk)]
      simp

theorem rows_append_get {rows more : List (List AV)} {i : Nat} {row : List AV} (h : (rows ++ more)[i]? = some row) : (i < rows.length ∧ rows[i]? = some row) ∨ (rows.length ≤ i ∧ more[i - rows.length]? = some row) := by
  rcases Nat.lt_or_ge i rows.length with hi | hi
  · rw [List.getElem?_append_left hi] at h; exact .inl ⟨hi, h⟩
  · rw [List.getElem?_append_right hi] at h; exact .inr ⟨hi, h⟩

theorem apply_tok_cell (S : FSt) (dst : Option Nat) (v : AV) (t n m x j : Nat) : (S.apply ⟨dst, v, [(t, 0, .tok m)], n, []⟩).cell x j = if x = t ∧ j = 0 then .tok m else S.cell x j := by
  simp [FSt.apply, Eff.new_nil, wrs, upd]

/-- What an append of known elements onto a token that is up to date comes to. -/
theorem SOk.append_tok {P : Program} {Γ : Ctx} {E : Env} {S : FSt} {a : Act} {w : World} (h : SOk E S a w) (hE : EOk Γ E w) {t : Nat} (dst : Option Nat) (nx : Nat)
    {T ty e s bytes : Nat} {i : TypeInfo} {z : Value} (hT : P.underlying T = some (.slice e)) (hi : P.info? e = some i) (hz : i.zero = some z) (hsz : i.size = s) (hzs : z.cells.size = s) (hby : i.bytes = bytes) (hs : 0 < s)
    {rows more : List (List AV)} (hfull0 : Full s rows) (hfull : Full s more) (hlen : rows.length + more.length ≤ 9223372036854775807) (hbytes : (rows.length + more.length) * bytes ≤ 140737488355328)
    {v x : Value} (hv : VR E (.ow t e s rows) v) (hcur : S.cell t 0 = .tok rows.length) (hx : Src E s more x) :
    ∃ v' w', (Builtin.append_ #[T, T] ty #[v, x]).run P w = .ok v' w' ∧ Rel Γ (S.apply ⟨dst, .ow t e s (rows ++ more), [(t, 0, .tok (rows.length + more.length))], nx, []⟩) (a.put dst v') w' := by
  obtain ⟨_, hkt, hnt⟩ : 0 = 0 ∧ E.kd t = 2 ∧ (E.tk t).n = rows.length := by have := h.cell t 0; rw [hcur] at this; exact this
  cases hv with
  | ow t e s rows a0 cap0 g0 h00 h01 h02 hk hn hv hc0 =>
  obtain ⟨he, hs', hvv⟩ := hv hnt.symm
  obtain ⟨ax, cx, g1, rfl, h10, h11, h12, _⟩ := hx
  rcases Nat.eq_zero_or_pos more.length with hr | hr
  · have : more = [] := List.eq_nil_of_length_eq_zero hr
    subst this
    refine ⟨_, _, run_append_zero w T ty e i hT hi a0 ax rows.length cap0 cx hc0, E, hE, ?_⟩
    refine h.step (Env.Le.refl E) (e := ⟨dst, .ow t e s (rows ++ []), [(t, 0, .tok (rows.length + 0))], nx, []⟩) ?_ (fun y j => ?_) (fun y hy => ?_)
    · rw [List.append_nil]; exact .ow t e s rows a0 cap0 g0 h00 h01 h02 hk hn (fun _ => ⟨he, hs', hvv⟩) hc0
    · rw [apply_tok_cell]
      split
      · rename_i hy; rw [hy.1, hy.2]; exact ⟨rfl, hk, hnt⟩
      · exact h.cell y j
    · rw [apply_pure_dom] at hy; exact h.dom y hy
  · obtain ⟨ad, rfl⟩ := Option.isSome_iff_exists.1 (h10 hr)
    subst hsz; subst hby
    -- what the source holds
    have hF1 : ∀ i' j', i' < more.length → j' < i.size → E.F (ad.add (i' * i.size + j')) (g1 i' j') := fun i' j' hi' hj' => by
      obtain ⟨row, c, e1, e2⟩ := hfull.cell hi' hj'
      exact h11 i' row j' c ad e1 e2 rfl
    have hnews : ∀ (k : Nat) u, (flat i.size more.length g1)[k]? = some u → w.cell? (ad.add k) = some u := fun k u hk => by
      have hlt : k < more.length * i.size := by rw [← flat_length i.size more.length g1]; exact (List.getElem?_eq_some_iff.1 hk).1
      rw [flat_get hlt] at hk
      injection hk with hk
      subst hk
      have := (hE.F _ _ (hF1 (k / i.size) (k % i.size) (div_lt hlt) (mod_lt hlt))).1
      rwa [Nat.div_add_mod' k i.size] at this
    have hone1 : ∀ u ∈ flat i.size more.length g1, u.oneCell' = true := fun u hu => by
      obtain ⟨k, hk⟩ := List.getElem?_of_mem hu
      have hlt : k < more.length * i.size := by rw [← flat_length i.size more.length g1]; exact (List.getElem?_eq_some_iff.1 hk).1
      rw [flat_get hlt] at hk
      injection hk with hk
      subst hk
      exact (hE.F _ _ (hF1 _ _ (div_lt hlt) (mod_lt hlt))).2
    -- the result's shape, one way for both: a value, a world, a block
    have main : ∀ (g' cap' : Nat) (w' : World) (row : Option Nat) (xs' : List Value), w.grownBy w' row → (∀ r, row = some r → E.kd t = 2 ∧ E.bk t = some r) →
        (Γ.w0.heap.size ≤ g' ∧ (g' = w.heap.size ∨ (E.kd t = 2 ∧ E.bk t = some g'))) →
        w'.ownsRow Γ.w0.heap.size e i.size (.slice (some ⟨g', 0, none⟩) (rows.length + more.length) cap') (rows.length + more.length) xs' →
        (∀ i' j', i' < rows.length → j' < i.size → xs'[i' * i.size + j']? = some (g0 i' j')) →
        (∀ i' j', i' < more.length → j' < i.size → xs'[rows.length * i.size + (i' * i.size + j')]? = some (g1 i' j')) →
        (∀ a v, E.F a v → w'.cell? a = some v) →
        (∀ a v, E.F a v → a.block = g' → a.off < rows.length * i.size) →
        Rel Γ (S.apply ⟨dst, .ow t e i.size (rows ++ more), [(t, 0, .tok (rows.length + more.length))], nx, []⟩) (a.put dst (.slice (some ⟨g', 0, none⟩) (rows.length + more.length) cap')) w' := by
      intro g' cap' w' row xs' hgrow hrow hg' hown hx0 hx1 hFw hFoff
      let G : Nat → Nat → Value := fun i' j' => if i' < rows.length then g0 i' j' else g1 (i' - rows.length) j'
      let F' : Addr → Value → Prop := fun y u => ∃ i' j', i' < rows.length + more.length ∧ j' < i.size ∧ y = ⟨g', i' * i.size + j', none⟩ ∧ u = G i' j'
      let E' := E.setTok t (some g') ⟨rows.length + more.length, e, i.size, .slice (some ⟨g', 0, none⟩) (rows.length + more.length) cap'⟩ F'
      have hkk : E.kd t = 0 ∨ (E.kd t = 2 ∧ (E.tk t).n < rows.length + more.length) := .inr ⟨hk, by omega⟩
      have hle : E.Le E' := Env.setTok_le hkk
      have hG : ∀ i' j', i' < rows.length + more.length → j' < i.size → xs'[i' * i.size + j']? = some (G i' j') := fun i' j' hi' hj' => by
        by_cases hlt : i' < rows.length
        · simp only [G, hlt, if_true]; exact hx0 i' j' hlt hj'
        · simp only [G, hlt, if_false]
          have := hx1 (i' - rows.length) j' (by omega) hj'
          rw [← this]
          congr 1
          rw [Nat.sub_mul]
          have : rows.length * i.size ≤ i' * i.size := Nat.mul_le_mul_right _ (by omega)
          omega
      have hGone : ∀ i' j', i' < rows.length + more.length → j' < i.size → (G i' j').oneCell' = true := fun i' j' hi' hj' => by
        by_cases hlt : i' < rows.length
        · simp only [G, hlt, if_true]
          obtain ⟨row0, c, e1, e2⟩ := hfull0.cell hlt hj'
          obtain ⟨a0', rfl⟩ := Option.isSome_iff_exists.1 (h00 (by omega))
          exact (hE.F _ _ (h01 i' row0 j' c a0' e1 e2 rfl)).2
        · simp only [G, hlt, if_false]
          exact (hE.F _ _ (hF1 (i' - rows.length) j' (by omega) hj')).2
      have hcell : ∀ k u, xs'[k]? = some u → w'.cell? ⟨g', k, none⟩ = some u := fun k u hk => by
        have := hown.cells (g := g') rfl k u hk
        rwa [add_lit, Nat.zero_add] at this
      refine ⟨E', hE.setTok hkk hgrow hrow (fun y u hy => ?_) (fun y u hy => by obtain ⟨_, _, _, _, rfl, _⟩ := hy; rfl) (fun y hy => by injection hy with hy; subst hy; exact hg') ?_, ?_⟩
      · rcases hy with hy | ⟨i', j', hi', hj', rfl, rfl⟩
        · exact ⟨hFw y u hy, (hE.F y u hy).2⟩
        · exact ⟨hcell _ _ (hG i' j' hi' hj'), hGone i' j' hi' hj'⟩
      · refine .inr ⟨g', cap', xs', by simp [E', Env.setTok], by simp [E', Env.setTok], by simpa [E', Env.setTok] using hown, fun y u hy hb => ?_⟩
        simp only [Env.setTok, if_true]
        rcases hy with hy | ⟨i', j', hi', hj', rfl, rfl⟩
        · have := hFoff y u hy hb
          have h2 : rows.length * i.size ≤ (rows.length + more.length) * i.size := Nat.mul_le_mul_right _ (by omega)
          omega
        · exact lt_of_row hi' hj'
      · refine h.step hle (e := ⟨dst, .ow t e i.size (rows ++ more), [(t, 0, .tok (rows.length + more.length))], nx, []⟩) ?_ (fun y j => ?_) (fun y hy => ?_)
        · rw [show rows.length + more.length = (rows ++ more).length by simp]
          refine .ow t e i.size (rows ++ more) (some ⟨g', 0, none⟩) cap' G (by simp) (fun i' row' j' c ad' hi' hj' had => ?_) (fun i' row' j' c hi' hj' => ?_) (by simp [E', Env.setTok]) (by simp [E', Env.setTok]) (fun _ => by simp [E', Env.setTok]) (by
            rcases hown.2 with ⟨h8, _⟩ | ⟨_, _, _, h8, _, _, h9, _⟩
            · cases h8
            · injection h8 with _ _ h8; subst h8; simpa using h9)
          · injection had with had
            subst had
            rw [add_lit, Nat.zero_add]
            have hi2 : i' < rows.length + more.length := by have := (List.getElem?_eq_some_iff.1 hi').1; simpa using this
            have hj2 : j' < i.size := by
              rcases rows_append_get hi' with ⟨_, hh⟩ | ⟨_, hh⟩
              · rw [← hfull0 row' (List.mem_of_getElem? hh)]; exact (List.getElem?_eq_some_iff.1 hj').1
              · rw [← hfull row' (List.mem_of_getElem? hh)]; exact (List.getElem?_eq_some_iff.1 hj').1
            exact .inr ⟨i', j', hi2, hj2, rfl, rfl⟩
          · rcases rows_append_get hi' with ⟨hlt, hh⟩ | ⟨hge, hh⟩
            · simp only [G, hlt, if_true]; exact (h02 i' row' j' c hh hj').mono hle.F
            · simp only [G, Nat.not_lt.2 hge, if_false]; exact (h12 _ row' j' c hh hj').mono hle.F
        · rw [apply_tok_cell]
          by_cases hy : y = t
          · subst hy
            by_cases hj : j = 0
            · subst hj
              simp only [and_self, if_true]
              exact ⟨rfl, by simp [E', Env.setTok], by simp [E', Env.setTok]⟩
            · simp only [hj, and_false, if_false]
              have hc := h.cell y j
              by_cases hp : (S.cell y j).plain = true
              · rw [CellOk.plain hp] at hc
                exact absurd hc.1 (by rw [hk]; decide)
              · cases hcell' : S.cell y j <;> rw [hcell'] at hp hc <;> simp [AV.plain] at hp
                case non => trivial
                case tok m => exact absurd hc.1 hj
                case mps f => exact absurd hc.1 hj
                case mpi f => exact hc.elim
          · simp only [hy, false_and, if_false]
            exact h.setTok_other hE hkk hgrow hrow hy j
        · rw [apply_pure_dom] at hy
          have : y ≠ t := fun e' => by subst e'; have := h.dom y hy; rw [hk] at this; cases this
          simp [E', Env.setTok, this, h.dom y hy]
    -- the three ways
    rcases hE.tok t hk with ⟨hb, h2, a', h3⟩ | ⟨g, cap, xs, hb, h2, h3, h4⟩
    · -- no block yet
      have hr0 : rows = [] := List.eq_nil_of_length_eq_zero (by omega)
      subst hr0
      rw [hvv] at h3
      injection h3 with h31 h32 h33
      subst h33
      have hrun := run_append_fresh (P := P) w T ty e i z hT hi hz a0 ad more.length cx (flat i.size more.length g1) (flat_length _ _ _) hnews hr (by simp at hlen; omega) (by simp at hbytes; omega)
      refine ⟨_, _, hrun, ?_⟩
      have hcap : more.length ≤ grownCap w more.length 0 e ∧ grownCap w more.length 0 e ≤ maxLen := by
        unfold grownCap Question.cut maxLen
        have : w.tape w.drawn (Question.appendCap more.length 0 e) % (2 ^ 63 - more.length) < 2 ^ 63 - more.length := Nat.mod_lt _ (by simp at hlen; omega)
        simp only
        omega
      have hown : (w.drew.alloc (.cells ((flat i.size more.length g1).toArray ++ Builtin.zeroCells z.cells (grownCap w more.length 0 e - more.length)) e)).ownsRow Γ.w0.heap.size e i.size
          (.slice (some ⟨w.heap.size, 0, none⟩) more.length (grownCap w more.length 0 e)) more.length (flat i.size more.length g1) := by
        refine ⟨flat_length _ _ _, .inr ⟨w.heap.size, _, _, rfl, hE.size, heap_alloc_new w.drew _, hcap.1, hcap.2, ?_, ?_⟩⟩
        · simp only [Array.size_append, List.size_toArray, flat_length, Builtin.zeroCells, Array.size_map, Array.size_range, hzs]
          rw [← Nat.add_mul]
          congr 1
          omega
        · rw [Array.toList_append]
          rw [List.take_append_of_le_length (by simp [flat_length]), List.take_of_length_le (by simp [flat_length])]
      have hm := main w.heap.size (grownCap w more.length 0 e) _ none (flat i.size more.length g1) (grownBy_drew (World.grownBy_alloc w.drew _ none)) (by simp) ⟨hE.size, .inl rfl⟩ (by simpa using hown)
        (fun i' j' hi' _ => by simp at hi') (fun i' j' hi' hj' => by simpa using flat_at hi' hj')
        (fun y u hy => by rw [World.cell?_alloc_lt w.drew _ y (World.block_lt_of_cell? w y (hE.F y u hy).1)]; exact (hE.F y u hy).1)
        (fun y u hy hyb => by have := World.block_lt_of_cell? w y (hE.F y u hy).1; omega)
      simpa using hm
    · rw [hnt, he, hs'] at h3
      rw [hnt, hs'] at h4
      obtain ⟨v', w', hrun, hown, hgrow, _, hblk⟩ := run_append_own_at (P := P) w Γ.w0.heap.size T ty e i z i.size i.bytes hT hi hz rfl rfl hzs hs (E.tk t).v rows.length xs h3 ad more.length cx (flat i.size more.length g1) (flat_length _ _ _) hnews hone1
        (by unfold maxLen; omega) hbytes hE.size
      rw [hvv] at hrun h2 hgrow hblk h3
      injection h2 with h21 h22 h23
      subst h21; subst h23
      -- where the row is made anew nothing old turns
      have hnew : v'.ownBlock ≠ some g → ∀ x, x < w.heap.size → w'.heap[x]? = w.heap[x]? := by
        intro hne
        obtain ⟨cur, hg1, hcs⟩ : ∃ cur, w.heap[g]? = some (.cells cur e (0, 0)) ∧ cur.size = cap0 * i.size := by
          rcases h3.2 with ⟨h5, _⟩ | ⟨g2, cap2, cur, h5, _, h6, _, _, h7, _⟩
          · cases h5
          · injection h5 with h51 _ h53
            injection h51 with h51
            injection h51 with h51
            subst h51; subst h53
            exact ⟨cur, h6, h7⟩
        by_cases hroom : rows.length + more.length ≤ cap0
        · exfalso
          have h6 := run_append_room (P := P) w T ty e i hT hi g rows.length cap0 cur hg1 ad more.length cx (flat i.size more.length g1) (flat_length _ _ _) hnews hone1 hroom (by
            rw [flat_length, hcs, ← Nat.add_mul]; exact Nat.mul_le_mul_right _ hroom)
          rw [h6] at hrun
          injection hrun with hv1 _
          rw [← hv1] at hne
          exact hne rfl
        · have hxs : ∀ (j : Nat) u, xs[j]? = some u → w.cell? ((⟨g, 0, none⟩ : Addr).add j) = some u := h3.cells (g := g) rfl
          have h6 := run_append_grow (P := P) w T ty e i z hT hi hz ⟨g, 0, none⟩ rows.length cap0 xs h3.1 hxs ad more.length cx (flat i.size more.length g1) (flat_length _ _ _) hnews (by omega) (by omega) (growslice_fits (by omega) hbytes)
          rw [h6] at hrun
          injection hrun with _ hw1
          intro x hx
          rw [← hw1]
          exact heap_alloc_lt w.drew _ hx
      refine ⟨v', w', hrun, ?_⟩
      obtain ⟨g', cap', hv'⟩ : ∃ g' cap', v' = .slice (some ⟨g', 0, none⟩) (rows.length + more.length) cap' := by
        rcases hown.2 with ⟨_, h0⟩ | ⟨g', cap', _, e', _⟩
        · omega
        · exact ⟨g', cap', e'⟩
      subst hv'
      have hxs0 : ∀ i' j', i' < rows.length → j' < i.size → xs[i' * i.size + j']? = some (g0 i' j') := fun i' j' hi' hj' => by
        obtain ⟨row0, c, e1, e2⟩ := hfull0.cell hi' hj'
        have h5 := (hE.F _ _ (h01 i' row0 j' c _ e1 e2 rfl)).1
        rw [add_lit, Nat.zero_add, h3.cellAt _ (lt_of_row hi' hj')] at h5
        exact h5
      refine main g' cap' w' (some g) (xs ++ flat i.size more.length g1) (by simpa [Value.ownBlock] using hgrow) (fun r hr => by injection hr with hr; subst hr; exact ⟨hk, hb⟩) ?_ hown ?_ ?_ ?_ ?_
      · simp only [Value.ownBlock, Option.some.injEq] at hblk
        rcases hblk with e' | e'
        · subst e'; exact ⟨(h3.lt g' rfl).1, .inr ⟨hk, hb⟩⟩
        · subst e'; exact ⟨hE.size, .inl rfl⟩
      · intro i' j' hi' hj'
        rw [List.getElem?_append_left (by rw [h3.1]; exact lt_of_row hi' hj')]
        exact hxs0 i' j' hi' hj'
      · intro i' j' hi' hj'
        rw [List.getElem?_append_right (by rw [h3.1]; omega), h3.1, Nat.add_sub_cancel_left]
        exact flat_at hi' hj'
      · intro y u hy
        have hy1 := (hE.F y u hy).1
        by_cases hyg : y.block = g
        · -- a cell of the row itself: it lies below what is written
          have hoff := h4 y u hy hyg
          have hspot : y.spot = none := by
            unfold World.cell? at hy1
            split at hy1
            · cases hsp : y.spot with
              | none => rfl
              | some _ => simp [hsp] at hy1
            · cases hy1
          have hy' : y = ⟨g, y.off, none⟩ := by
            clear hy hy1
            cases y
            simp only at hspot hyg
            rw [hspot, hyg]
          rw [hy', h3.cellAt _ hoff] at hy1
          simp only [Value.ownBlock, Option.some.injEq] at hblk
          rcases hblk with e' | e'
          · subst e'
            have h6 : (xs ++ flat i.size more.length g1)[y.off]? = some u := by rw [List.getElem?_append_left (by rw [h3.1]; exact hoff)]; exact hy1
            have := hown.cells (g := g') rfl y.off u h6
            rw [add_lit, Nat.zero_add] at this
            rw [hy']; exact this
          · -- the row lies in a new block: the old one is as it was
            have hne : g' ≠ g := fun e2 => by
              have := (hE.lt (by rw [hk]; decide) hb).1
              omega
            rw [World.cell?_of_block (hnew (by simp [Value.ownBlock]; exact hne) y.block (World.block_lt_of_cell? w y (hE.F y u hy).1))]
            exact (hE.F y u hy).1
        · rw [World.cell?_of_block (hgrow.block y.block (World.block_lt_of_cell? w y hy1) (by simp [Value.ownBlock]; exact hyg))]
          exact hy1
      · intro y u hy hyb
        simp only [Value.ownBlock, Option.some.injEq] at hblk
        rcases hblk with e' | e'
        · subst e'; exact h4 y u hy hyb
        · subst e'; have := World.block_lt_of_cell? w y (hE.F y u hy).1; omega
end Go.Ab
