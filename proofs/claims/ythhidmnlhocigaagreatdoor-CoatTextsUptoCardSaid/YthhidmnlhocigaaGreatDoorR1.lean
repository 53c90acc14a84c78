/- Arguments of plain types, read as data: what their values are, how much they hold. -/
import Derived.Test.YthhidmnlhocigaaGreatDoorUA
import Derived.Test.YthhidmnlhocigaaGreatDoorTB
import Derived.Test.YthhidmnlhocigaaGreatDoorRows
import Derived.DataReads
namespace Go.Ab
open Go Go.RowKit Go.Proofs.YthhidmnlhocigaaGreatDoor
set_option linter.unusedVariables false
set_option linter.unusedSimpArgs false

/-- Does this code tell of this type? -/
def codeB (P : Program) : Nat → TypeId → Ty → Bool
  | 0, _, _ => false
  | d + 1, t, τ => match P.underlying t with
    | some .bool => decide (τ = .bool)
    | some (.int k) => decide (τ = .int k)
    | some .string => decide (τ = .str)
    | some (.slice e) => (match τ with
      | .list a => codeB P d e a && decide (P.cellsOf e = a.size)
      | _ => false)
    | some (.struct fs) => decide (P.cellsOf t = τ.size) && fieldsB (codeB P d) P fs.toList τ 0
    | some (.array n e) => decide (P.cellsOf t = τ.size) && arrB (codeB P d) P e n τ 0
    | _ => false
where
  fieldsB (cb : TypeId → Ty → Bool) (P : Program) : List Field → Ty → Nat → Bool
    | [], _, _ => false
    | [f], τ, off => decide (f.offset = off) && decide (P.cellsOf f.type = τ.size) && cb f.type τ
    | f :: g :: r, τ, off => (match τ with
      | .pair a b => decide (f.offset = off) && decide (P.cellsOf f.type = a.size) && cb f.type a && fieldsB cb P (g :: r) b (off + a.size)
      | _ => false)
  arrB (cb : TypeId → Ty → Bool) (P : Program) (e : TypeId) : Nat → Ty → Nat → Bool
    | 0, _, _ => false
    | 1, τ, _ => decide (P.cellsOf e = τ.size) && cb e τ
    | n + 2, τ, i => (match τ with
      | .pair a b => decide (P.cellsOf e = a.size) && cb e a && arrB cb P e (n + 1) b (i + 1)
      | _ => false)

/-- How much a value holds, at least. -/
def bulkT : (τ : Ty) → τ.T → Nat
  | .int _, _ => 1
  | .bool, _ => 1
  | .str, l => l.length + 1
  | .unit, _ => 0
  | .pair a b, x => bulkT a x.1 + bulkT b x.2
  | .list a, xs => (xs.map (bulkT a)).sum + 1
/-- Its numbers are of their kinds. -/
def wfT : (τ : Ty) → τ.T → Prop
  | .int k, n => k.min ≤ n ∧ n ≤ k.max
  | .bool, _ => True
  | .str, _ => True
  | .unit, _ => True
  | .pair a b, x => wfT a x.1 ∧ wfT b x.2
  | .list a, xs => ∀ x ∈ xs, wfT a x

def VIs (F : Addr → Value → Prop) (cs : List AV) (vs : List Value) : Prop := vs.length = cs.length ∧ ∀ (j : Nat) c v, cs[j]? = some c → vs[j]? = some v → VI F c v
theorem VIs.one {F : Addr → Value → Prop} {c : AV} {v : Value} (h : VI F c v) : VIs F [c] [v] := ⟨rfl, fun j c' v' hc hv => by
  cases j with
  | zero => simp at hc hv; subst hc; subst hv; exact h
  | succ j => simp at hc⟩
theorem VIs.app {F : Addr → Value → Prop} {cs ds : List AV} {vs us : List Value} (h : VIs F cs vs) (k : VIs F ds us) : VIs F (cs ++ ds) (vs ++ us) := by
  refine ⟨by simp [h.1, k.1], fun j c v hc hv => ?_⟩
  by_cases hj : j < cs.length
  · rw [List.getElem?_append_left hj] at hc
    rw [List.getElem?_append_left (by rw [h.1]; exact hj)] at hv
    exact h.2 j c v hc hv
  · rw [List.getElem?_append_right (by omega)] at hc
    rw [List.getElem?_append_right (by rw [h.1]; omega), h.1] at hv
    exact k.2 _ c v hc hv

section
variable {H : Type} {enc : TypeId × Value → H} {P : Program} {w : World} {base : Nat} {sp : Nat → Bool} {held : Bool}

theorem bulk_agg (l : List (DataW H)) : Rows.uptoBulk (.agg l) = Rows.uptoBulkAll l + 1 := by simp only [Rows.uptoBulk]
theorem bulk_cons (x : DataW H) (l : List (DataW H)) : Rows.uptoBulkAll (x :: l) = Rows.uptoBulk x + Rows.uptoBulkAll l := by simp only [Rows.uptoBulkAll]
theorem bulk_slice (a b : List (DataW H)) : Rows.uptoBulk (.slice a b) = Rows.uptoBulkAll a + Rows.uptoBulkAll b + 1 := by simp only [Rows.uptoBulk]

/-- What is shown of a reading. -/
def Rd (w : World) (τ : Ty) (cs : List Value) (d : DataW H) : Prop := ∃ x : τ.T, VIs (envOf w).F (τ.enc x) cs ∧ bulkT τ x ≤ Rows.uptoBulk d ∧ wfT τ x
def RdL (w : World) (τ : Ty) (cs : List Value) (ds : List (DataW H)) : Prop := ∃ x : τ.T, VIs (envOf w).F (τ.enc x) cs ∧ bulkT τ x ≤ Rows.uptoBulkAll ds ∧ wfT τ x

theorem take_split (cs : List Value) (off a b : Nat) : (cs.drop off).take (a + b) = (cs.drop off).take a ++ (cs.drop (off + a)).take b := by
  rw [List.take_add, List.drop_drop]

theorem read_fields {cb : TypeId → Ty → Bool} {r : TypeId → List Value → Option (DataW H × List MemPlace)} (hr : ∀ t τ cs y, cb t τ = true → r t cs = some y → Rd w τ cs y.1) (cs : List Value) :
    ∀ (fs : List Field) (τ : Ty) (off : Nat) (ys : List (DataW H × List MemPlace)), codeB.fieldsB cb P fs τ off = true → ys.length = fs.length →
      (∀ (i : Nat) (f : Field), fs[i]? = some f → r f.type ((cs.drop f.offset).take (P.cellsOf f.type)) = ys[i]?) → RdL w τ ((cs.drop off).take τ.size) (ys.map (·.1))
  | [], _, _, _, h, _, _ => by cases h
  | [f], τ, off, [], h, hl, _ => by simp at hl
  | f :: g :: l, τ, off, [], h, hl, _ => by simp at hl
  | [f], τ, off, y :: z :: ys, h, hl, _ => by simp at hl
  | [f], τ, off, [y], h, hl, hm => by
    simp only [codeB.fieldsB, Bool.and_eq_true, decide_eq_true_eq] at h
    obtain ⟨⟨h1, h2⟩, h3⟩ := h
    have q := hm 0 f rfl
    rw [h1, h2] at q
    obtain ⟨x, w1, w2, w3⟩ := hr _ _ _ _ h3 q
    refine ⟨x, w1, ?_, w3⟩
    simp only [List.map_cons, List.map_nil, bulk_cons]
    omega
  | f :: g :: l, τ, off, y :: zs, h, hl, hm => by
    cases τ <;> simp only [codeB.fieldsB] at h <;> first | (cases h; done) | skip
    rename_i a b
    simp only [Bool.and_eq_true, decide_eq_true_eq] at h
    obtain ⟨⟨⟨h1, h2⟩, h3⟩, h4⟩ := h
    have q := hm 0 f rfl
    rw [h1, h2] at q
    obtain ⟨x, w1, w2, w3⟩ := hr _ _ _ _ h3 q
    obtain ⟨z, v1, v2, v3⟩ := read_fields hr cs (g :: l) b (off + a.size) zs h4 (by simpa using hl) (fun i f' hf => by simpa using hm (i + 1) f' (by simpa using hf))
    refine ⟨(x, z), ?_, ?_, w3, v3⟩
    · show VIs _ (a.enc x ++ b.enc z) ((cs.drop off).take (a.size + b.size))
      rw [take_split]
      exact w1.app v1
    · simp only [List.map_cons, bulk_cons, bulkT]
      omega

theorem read_arr {cb : TypeId → Ty → Bool} {r : List Value → Option (DataW H × List MemPlace)} {e : TypeId} (hr : ∀ τ cs y, cb e τ = true → r cs = some y → Rd w τ cs y.1) (cs : List Value) :
    ∀ (n : Nat) (τ : Ty) (i : Nat) (ys : List (DataW H × List MemPlace)), codeB.arrB cb P e n τ i = true → ((List.range' i n).mapM fun i => r ((cs.drop (i * P.cellsOf e)).take (P.cellsOf e))) = some ys →
      RdL w τ ((cs.drop (i * P.cellsOf e)).take τ.size) (ys.map (·.1))
  | 0, _, _, _, h, _ => by cases h
  | 1, τ, i, ys, h, hm => by
    simp only [codeB.arrB, Bool.and_eq_true, decide_eq_true_eq] at h
    obtain ⟨h2, h3⟩ := h
    simp only [List.range'_one, List.mapM_cons, List.mapM_nil, Option.pure_def, Option.bind_eq_bind, Option.bind_some] at hm
    rw [h2] at hm ⊢
    cases q : r ((cs.drop (i * τ.size)).take τ.size) with
    | none => rw [q] at hm; cases hm
    | some y =>
      rw [q] at hm
      injection hm with hm
      subst hm
      obtain ⟨x, w1, w2, w3⟩ := hr _ _ _ h3 q
      refine ⟨x, w1, ?_, w3⟩
      simp only [List.map_cons, List.map_nil, bulk_cons]
      omega
  | n + 2, τ, i, ys, h, hm => by
    cases τ <;> simp only [codeB.arrB] at h <;> first | (cases h; done) | skip
    rename_i a b
    simp only [Bool.and_eq_true, decide_eq_true_eq] at h
    obtain ⟨⟨h2, h3⟩, h4⟩ := h
    rw [List.range'_succ, List.mapM_cons] at hm
    simp only [Option.pure_def, Option.bind_eq_bind] at hm
    cases q : r ((cs.drop (i * P.cellsOf e)).take (P.cellsOf e)) with
    | none => rw [q] at hm; cases hm
    | some y =>
      rw [q] at hm
      simp only [Option.bind_some] at hm
      cases q2 : ((List.range' (i + 1) (n + 1)).mapM fun i => r ((cs.drop (i * P.cellsOf e)).take (P.cellsOf e))) with
      | none => rw [q2] at hm; cases hm
      | some zs =>
        rw [q2] at hm
        injection hm with hm
        subst hm
        obtain ⟨x, w1, w2, w3⟩ := hr _ _ _ h3 q
        obtain ⟨z, v1, v2, v3⟩ := read_arr hr cs (n + 1) b (i + 1) zs h4 q2
        refine ⟨(x, z), ?_, ?_, w3, v3⟩
        · show VIs _ (a.enc x ++ b.enc z) ((cs.drop (i * P.cellsOf e)).take (a.size + b.size))
          rw [take_split]
          rw [h2] at w1 v1 ⊢
          rw [show (i + 1) * a.size = i * a.size + a.size by rw [Nat.add_mul, Nat.one_mul]] at v1
          exact w1.app v1
        · simp only [List.map_cons, bulk_cons, bulkT]
          omega

theorem encOne {τ : Ty} : ∀ {x : τ.T} {c : AV}, c ∈ τ.enc x → c.one = true := by
  induction τ with
  | int k => intro x c hc; simp [Ty.enc] at hc; subst hc; rfl
  | bool => intro x c hc; simp [Ty.enc] at hc; subst hc; rfl
  | str => intro x c hc; simp [Ty.enc] at hc; subst hc; rfl
  | unit => intro x c hc; simp [Ty.enc] at hc
  | pair a b iha ihb =>
    intro x c hc
    rcases List.mem_append.1 hc with hc | hc
    · exact iha hc
    · exact ihb hc
  | list a _ => intro x c hc; simp [Ty.enc] at hc; subst hc; rfl

theorem mapM_get {α β : Type} {f : α → Option β} : ∀ {l : List α} {ys : List β}, l.mapM f = some ys → ys.length = l.length ∧ ∀ (i : Nat) a, l[i]? = some a → ∃ b, ys[i]? = some b ∧ f a = some b
  | [], ys, h => by
    simp at h; subst h; exact ⟨rfl, fun i a h => by simp at h⟩
  | a :: l, ys, h => by
    rw [List.mapM_cons] at h
    simp only [Option.pure_def, Option.bind_eq_bind] at h
    cases q : f a with
    | none => rw [q] at h; cases h
    | some b =>
      rw [q] at h
      simp only [Option.bind_some] at h
      cases q2 : l.mapM f with
      | none => rw [q2] at h; cases h
      | some bs =>
        rw [q2] at h
        injection h with h
        subst h
        obtain ⟨h1, h2⟩ := mapM_get q2
        refine ⟨by simp [h1], fun i c hc => ?_⟩
        cases i with
        | zero => simp at hc; subst hc; exact ⟨b, rfl, q⟩
        | succ i => exact h2 i c (by simpa using hc)

theorem bulk_all_mem {d : DataW H} : ∀ {l : List (DataW H)}, d ∈ l → Rows.uptoBulk d ≤ Rows.uptoBulkAll l
  | [], h => by cases h
  | x :: r, h => by
    rw [bulk_cons]
    rcases List.mem_cons.1 h with rfl | h
    · omega
    · have := bulk_all_mem h; omega
/-- A list of values, each of which is read. -/
theorem read_all {τ : Ty} {R : Nat → τ.T → Prop} : ∀ (ds : List (DataW H)), (∀ (i : Nat) d, ds[i]? = some d → ∃ x : τ.T, R i x ∧ bulkT τ x ≤ Rows.uptoBulk d ∧ wfT τ x) →
    ∃ xs : List τ.T, xs.length = ds.length ∧ (xs.map (bulkT τ)).sum ≤ Rows.uptoBulkAll ds ∧ (∀ x ∈ xs, wfT τ x) ∧ ∀ (i : Nat) x, xs[i]? = some x → R i x := by
  intro ds
  induction ds generalizing R with
  | nil => intro _; exact ⟨[], rfl, by simp, by simp, fun i x h => by simp at h⟩
  | cons d ds ih =>
    intro h
    obtain ⟨x, h1, h2, h3⟩ := h 0 d rfl
    obtain ⟨xs, k1, k2, k3, k4⟩ := ih (R := fun i => R (i + 1)) (fun i d' hd => h (i + 1) d' (by simpa using hd))
    refine ⟨x :: xs, by simp [k1], ?_, ?_, fun i y hy => ?_⟩
    · rw [bulk_cons]; simp only [List.map_cons, List.sum_cons]; omega
    · intro y hy
      rcases List.mem_cons.1 hy with rfl | hy
      · exact h3
      · exact k3 y hy
    · cases i with
      | zero => simp at hy; subst hy; exact h1
      | succ i => exact k4 i y (by simpa using hy)

theorem read_any : ∀ (n d : Nat) (t : TypeId) (τ : Ty) (cs : List Value) (y : DataW H × List MemPlace), codeB P d t τ = true → DataW.trod enc P w base sp held n t cs = some y → Rd w τ cs y.1
  | 0, _, _, _, _, _, _, h => by cases h
  | n + 1, 0, _, _, _, _, h, _ => by cases h
  | n + 1, d + 1, t, τ, cs, y, hc, h => by
    unfold codeB at hc
    split at hc
    · rename_i hu
      have hτ := of_decide_eq_true hc
      subst hτ
      obtain ⟨b, rfl, rfl⟩ := DataW.trod_bool hu h
      exact ⟨b, VIs.one (.bool _), by simp [bulkT, Rows.uptoBulk], trivial⟩
    · rename_i k hu
      have hτ := of_decide_eq_true hc
      subst hτ
      obtain ⟨m, rfl, rfl, hw⟩ := DataW.trod_int hu h
      simp only [Lit.wf, Bool.and_eq_true, decide_eq_true_eq] at hw
      exact ⟨m, VIs.one (.int _ _), by simp [bulkT, Rows.uptoBulk], hw⟩
    · rename_i hu
      have hτ := of_decide_eq_true hc
      subst hτ
      obtain ⟨s, rfl, rfl, hw⟩ := DataW.trod_string hu h
      exact ⟨s.data.toList, VIs.one (VI.str _), by simp [bulkT, Rows.uptoBulk], trivial⟩
    · rename_i e hu
      split at hc
      · rename_i a
        simp only [Bool.and_eq_true, decide_eq_true_eq] at hc
        obtain ⟨hc1, hc2⟩ := hc
        rcases DataW.trod_slice hu h with ⟨rfl, rfl⟩ | ⟨ad, len, cap, elems, rest, m, hm, rfl, rfl, h1, h2, h3, h4, h5, h6, h7⟩
        · refine ⟨[], ?_, by simp [bulkT, Rows.uptoBulk], by simp [wfT]⟩
          exact VIs.one (.sl a.size [] none 0 (fun _ _ => undef) (fun h => by simp at h) (fun i row j c ad h => by simp at h) (fun i row j c h => by simp at h) (Nat.le_refl _))
        · obtain rfl : m = n := by omega
          rw [hc2] at h5
          obtain ⟨xs, k1, k2, k3, k4⟩ := read_all (τ := a) (R := fun i x => ∃ row, w.cells? base (ad.add (i * a.size)) a.size = some row ∧ VIs (envOf w).F (a.enc x) row) (elems.map (·.1)) (fun i d' hd => by
            rw [List.getElem?_map] at hd
            cases q : elems[i]? with
            | none => rw [q] at hd; cases hd
            | some z =>
              rw [q] at hd
              injection hd with hd
              subst hd
              have hi : i < len := by rw [← h4]; exact (List.getElem?_eq_some_iff.1 q).1
              have := h5 i hi
              rw [q] at this
              cases q2 : w.cells? base (ad.add (i * a.size)) a.size with
              | none => rw [q2] at this; cases this
              | some row =>
                rw [q2] at this
                obtain ⟨x, w1, w2, w3⟩ := read_any m d e a row z hc1 this
                exact ⟨x, ⟨row, rfl, w1⟩, w2, w3⟩)
          refine ⟨xs, ?_, ?_, k3⟩
          · have hl : xs.length = len := by rw [k1, List.length_map, h4]
            have key : ∀ (i : Nat) row (j : Nat) c, (xs.map a.enc)[i]? = some row → row[j]? = some c → w.cell? (ad.add (i * a.size + j)) = some ((w.cell? (ad.add (i * a.size + j))).getD undef) ∧ VI (envOf w).F c ((w.cell? (ad.add (i * a.size + j))).getD undef) ∧ c.one = true := by
              intro i row j c hi hj
              rw [List.getElem?_map] at hi
              cases q : xs[i]? with
              | none => rw [q] at hi; cases hi
              | some x =>
                rw [q] at hi
                injection hi with hi
                subst hi
                obtain ⟨row', r1, r2⟩ := k4 i x q
                obtain ⟨_, r3, r4⟩ := World.cells?_some r1
                have hjl : j < a.size := by rw [← a.enc_length x]; exact (List.getElem?_eq_some_iff.1 hj).1
                have r5 := r4 j hjl
                rw [add_add] at r5
                cases q3 : row'[j]? with
                | none => rw [List.getElem?_eq_none_iff] at q3; omega
                | some v =>
                  rw [q3] at r5
                  rw [r5]
                  exact ⟨rfl, r2.2 j c v hj q3, encOne (List.mem_of_getElem? hj)⟩
            have := VI.sl (F := (envOf w).F) a.size (xs.map a.enc) (some ad) cap (fun i j => (w.cell? (ad.add (i * a.size + j))).getD undef) (fun _ => rfl)
              (fun i row j c ad' hi hj hd => by
                injection hd with hd
                subst hd
                obtain ⟨e1, e2, e3⟩ := key i row j c hi hj
                exact ⟨e1, (VI.vr (E := envOf w) e2).one e3⟩)
              (fun i row j c hi hj => (key i row j c hi hj).2.1) (by rw [List.length_map, hl]; exact h2)
            rw [List.length_map, hl] at this
            exact VIs.one this
          · simp only [bulkT, bulk_slice]
            omega
      · cases hc
    · rename_i fs hu
      obtain ⟨xs, m, hm, rfl, h1, h2, h3⟩ := DataW.trod_struct hu h
      obtain rfl : m = n := by omega
      simp only [Bool.and_eq_true, decide_eq_true_eq] at hc
      obtain ⟨hc0, hc⟩ := hc
      obtain ⟨x, w1, w2, w3⟩ := read_fields (cb := codeB P d) (r := DataW.trod enc P w base sp held m) (fun t τ cs y a b => read_any m d t τ cs y a b) cs fs.toList τ 0 xs hc (by simpa using h2) (fun i f hf => h3 i f (by simpa using hf))
      refine ⟨x, ?_, by rw [bulk_agg]; omega, w3⟩
      rw [List.drop_zero] at w1
      rwa [List.take_of_length_le (by omega)] at w1
    · rename_i k e hu
      simp only [Bool.and_eq_true, decide_eq_true_eq] at hc
      obtain ⟨hc0, hc⟩ := hc
      have hx : cs.length = P.cellsOf t ∧ ∃ xs, ((List.range k).mapM fun i => DataW.trod enc P w base sp held n e ((cs.drop (i * P.cellsOf e)).take (P.cellsOf e))) = some xs ∧ y = (.agg (xs.map (·.1)), xs.flatMap (·.2)) := by
        unfold DataW.trod at h
        rw [hu] at h
        split at h <;> first | (rename_i q; simp at q; done) | skip
        all_goals first | (cases h; done) | skip
        all_goals simp_all
        all_goals first
          | (obtain ⟨h1, xs, h2, h3⟩ := h; exact ⟨xs, h2, h3.symm⟩)
          | skip
      obtain ⟨h1, xs, h2, rfl⟩ := hx
      rw [List.range_eq_range'] at h2
      obtain ⟨x, w1, w2, w3⟩ := read_arr (cb := codeB P d) (r := DataW.trod enc P w base sp held n e) (e := e) (fun τ cs y a b => read_any n d e τ cs y a b) cs k τ 0 xs hc h2
      refine ⟨x, ?_, by rw [bulk_agg]; omega, w3⟩
      rw [Nat.zero_mul, List.drop_zero] at w1
      rwa [List.take_of_length_le (by omega)] at w1
    · cases hc

/-- A parameter of a plain type that is no struct and no array. -/
theorem read_one {t : TypeId} {τ : Ty} {v : Value} {d : DataW H} {ps : List MemPlace} (hc : codeB P 20 t τ = true) (h1 : ∀ x : τ.T, τ.enc x = [oneA τ x]) (hv : v.cells.toList = [v]) (h : DataW.Trod enc P w base sp held t v d ps) :
    ∃ x : τ.T, VR (envOf w) (oneS τ x).av v ∧ bulkT τ x ≤ Rows.uptoBulk d ∧ wfT τ x := by
  obtain ⟨n, hn⟩ := h
  obtain ⟨x, w1, w2, w3⟩ := read_any n 20 t τ _ _ hc hn
  refine ⟨x, ?_, w2, w3⟩
  rw [hv, h1] at w1
  rw [oneS_av]
  exact (w1.2 0 _ _ rfl rfl).vr
/-- A parameter that is a struct or an array. -/
theorem read_agg {t : TypeId} {τ : Ty} {cs : Array Value} {d : DataW H} {ps : List MemPlace} (hc : codeB P 20 t τ = true) (h : DataW.Trod enc P w base sp held t (.agg cs) d ps) :
    ∃ x : τ.T, VR (envOf w) (SV.agg (τ.svs x)).av (.agg cs) ∧ bulkT τ x ≤ Rows.uptoBulk d ∧ wfT τ x := by
  obtain ⟨n, hn⟩ := h
  obtain ⟨x, w1, w2, w3⟩ := read_any n 20 t τ _ _ hc hn
  refine ⟨x, ?_, w2, w3⟩
  show VR _ (.agg (avL (τ.svs x))) _
  rw [τ.svs_av]
  have w1' : VIs (envOf w).F (τ.enc x) cs.toList := w1
  exact .agg _ _ (by simpa using w1'.1) (fun j c v hc hv => (w1'.2 j c v hc (by rw [Array.getElem?_toList]; exact hv)).vr)

def plainT (P : Program) (t : TypeId) : Bool := match P.underlying t with
  | some .bool => true
  | some (.int _) => true
  | some .string => true
  | some (.slice _) => true
  | _ => false
def aggT (P : Program) (t : TypeId) : Bool := match P.underlying t with
  | some (.struct _) => true
  | some (.array _ _) => true
  | _ => false
def isOneT : Ty → Bool
  | .int _ => true
  | .bool => true
  | .str => true
  | .list _ => true
  | _ => false
theorem isOneT_enc {τ : Ty} (h : isOneT τ = true) (x : τ.T) : τ.enc x = [oneA τ x] := by cases τ <;> first | rfl | cases h
theorem plain_cells {r : Reach} {b : Nat} {t : TypeId} {v : Value} (h : plainT P t = true) (hv : Value.okWide P w r b t v) : v.cells.toList = [v] := by
  unfold plainT at h
  split at h
  · rename_i hu; obtain ⟨x, rfl⟩ := WideShapes.okWide_bool hu hv; rfl
  · rename_i k hu; obtain ⟨x, rfl⟩ := WideShapes.okWide_int hu hv; rfl
  · rename_i hu; obtain ⟨x, rfl⟩ := WideShapes.okWide_string hu hv; rfl
  · rename_i e hu; obtain ⟨x, y, z, rfl⟩ := WideShapes.okWide_slice hu hv; rfl
  · cases h
theorem agg_cells {r : Reach} {b : Nat} {t : TypeId} {v : Value} (h : aggT P t = true) (hv : Value.okWide P w r b t v) : ∃ cs, v = .agg cs := by
  unfold aggT at h
  unfold Value.okWide at hv
  split at h
  · rename_i fs hu; rw [hu] at hv; obtain ⟨cs, h1, _⟩ := hv; exact ⟨cs, h1⟩
  · rename_i m e hu; rw [hu] at hv; obtain ⟨cs, h1, _⟩ := hv; exact ⟨cs, h1⟩
  · cases h
def valB (P : Program) (t : TypeId) : VT → Bool
  | .one τ => codeB P 20 t τ && isOneT τ && plainT P t
  | .agg τ => codeB P 20 t τ && aggT P t
  | .err => false
/-- A parameter of a plain type. -/
theorem read_val {r : Reach} {b : Nat} {t : TypeId} {v : Value} {d : DataW H} {ps : List MemPlace} : ∀ (V : VT), valB P t V = true → Value.okWide P w r b t v → DataW.Trod enc P w base sp held t v d ps →
    ∃ x : V.ty.T, VR (envOf w) (V.sv x).av v ∧ bulkT V.ty x ≤ Rows.uptoBulk d ∧ wfT V.ty x
  | .one τ, hV, hv, h => by
    simp only [valB, Bool.and_eq_true] at hV
    obtain ⟨⟨h1, h2⟩, h3⟩ := hV
    exact read_one h1 (isOneT_enc h2) (plain_cells h3 hv) h
  | .agg τ, hV, hv, h => by
    simp only [valB, Bool.and_eq_true] at hV
    obtain ⟨h1, h3⟩ := hV
    obtain ⟨cs, rfl⟩ := agg_cells h3 hv
    exact read_agg h1 h
  | .err, hV, _, _ => by cases hV
theorem bulk_small {d : DataW H} {l : List (DataW H)} (h : d ∈ l) (hk : Rows.uptoSmall H l = true) : Rows.uptoBulk d ≤ 1048576 := by
  have h1 : Rows.uptoBulkAll l ≤ 1048576 := of_decide_eq_true hk
  have := bulk_all_mem h
  omega
theorem bulk_pos {τ : Ty} {x : τ.T} (h : 0 < τ.size) : 1 ≤ bulkT τ x := by
  induction τ with
  | int k => exact Nat.le_refl _
  | bool => exact Nat.le_refl _
  | str => simp [bulkT]
  | unit => cases h
  | pair a b iha ihb =>
    simp only [bulkT]
    simp only [Ty.size] at h
    by_cases ha : 0 < a.size
    · have := iha (x := x.1) ha; omega
    · have := ihb (x := x.2) (by omega); omega
  | list a _ => simp [bulkT]
theorem bulk_len {a : Ty} {xs : List a.T} (h : 0 < a.size) : xs.length ≤ bulkT (.list a) xs := by
  simp only [bulkT]
  induction xs with
  | nil => simp
  | cons x xs ih =>
    have := bulk_pos (x := x) h
    simp only [List.map_cons, List.sum_cons, List.length_cons]
    omega
end
end Go.Ab
