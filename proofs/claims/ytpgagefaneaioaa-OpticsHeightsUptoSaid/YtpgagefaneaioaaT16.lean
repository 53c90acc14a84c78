/- Regions and code, abstractly; loops; functions. -/
import Derived.Test.YtpgagefaneaioaaT15
namespace Go.Ab
open Go Go.RowKit
set_option linter.unusedVariables false
set_option linter.unusedSimpArgs false

variable {P : Program} {T : TT}

def skipEff (s : ASt) (o : Oper) : Eff := ⟨o.dst, .und, [], s.heap.length, []⟩

def more (dr : Bool) (fs : List Ft) (e : Eff) (rd : List (Nat × Nat)) : List Ft := if dr then fs ++ [ftOf e rd] else fs

def gDst (all : Array Oper) (g : Nat × Bool) : Option Nat := (all[g.1]?).bind (·.dst)

def aops (P : Program) (T : TT) (all : Array Oper) (dr : Bool) : List Oper → ASt → List Ft → (ASt → List Ft → Prop) → Prop
  | [], s, fs, K => K s fs
  | o :: rest, s, fs, K =>
    match o.guard with
    | none => aop P T o s fun e rd => aops P T all dr rest (s.apply e) (more dr fs e rd) K
    | some g => match gDst all g with
      | none => False
      | some d => match nth s.regs d with
        | .bool b => (b = g.2 → aop P T o ⟨s.regs.set d (.bool g.2), s.heap⟩ fun e rd => aops P T all dr rest (ASt.apply ⟨s.regs.set d (.bool g.2), s.heap⟩ e) (more dr fs e rd) K) ∧
            (b = (!g.2) → aops P T all dr rest (ASt.apply ⟨s.regs.set d (.bool (!g.2)), s.heap⟩ (skipEff ⟨s.regs.set d (.bool (!g.2)), s.heap⟩ o)) (more dr fs (skipEff ⟨s.regs.set d (.bool (!g.2)), s.heap⟩ o) []) K)
        | .und => aops P T all dr rest (s.apply (skipEff s o)) (more dr fs (skipEff s o) []) K
        | _ => False

theorem view_set {s : ASt} {d : Nat} {c : AV} (h : nth s.regs d = c) : (ASt.mk (s.regs.set d c) s.heap).view = s.view := by
  refine fs_ext (by simp [ASt.view]) (fun r => ?_) (fun _ _ => rfl) (fun _ => rfl)
  simp only [ASt.view, nth_set]
  split
  · rename_i hr; rw [hr.1, h]
  · rfl

/-- What is shown of the operations from number k on. -/
structure Part (Γ : Ctx) (P : Program) (all : Array Oper) (k : Nat) (S : Nat → FSt) (e : Nat → Eff) (rd : Nat → List (Nat × Nat)) : Prop where
  step : ∀ i, k ≤ i → i < all.size → Step1 Γ P all i (S i) (rd i) (e i)
  next : ∀ i, k ≤ i → i < all.size → S (i + 1) = (S i).apply (e i)
  fresh : ∀ i b, k ≤ i → i < all.size → (e i).new b = true → (S i).dom b = false
  keep : ∀ i, k ≤ i → i < all.size → ∀ x ∈ (e i).ws, (S i).cell x.1 x.2.1 ≠ .non ∧ x.2.2 ≠ .non
  dst : ∀ (i : Nat) o, k ≤ i → all[i]? = some o → (e i).dst = o.dst

theorem aops_sound (hT : TabOk P T) {Γ : Ctx} {all : Array Oper} {dr : Bool} : ∀ (rest : List Oper) (k : Nat) (s : ASt) (fs : List Ft) (K : ASt → List Ft → Prop), (∀ j, rest[j]? = all[k + j]?) → k + rest.length = all.size →
    aops P T all dr rest s fs K → ∃ S e rd s', Part Γ P all k S e rd ∧ S k = s.view ∧ S all.size = s'.view ∧ K s' (if dr then fs ++ (List.range' k rest.length).map (fun i => ftOf (e i) (rd i)) else fs)
  | [], k, s, fs, K, hl, hk, h => by
    simp only [List.length_nil, Nat.add_zero] at hk
    subst hk
    refine ⟨fun _ => s.view, fun _ => default', fun _ => [], s, ⟨fun i h1 h2 => by omega, fun i h1 h2 => by omega, fun i b h1 h2 => by omega, fun i h1 h2 => by omega, fun i o h1 h2 => ?_⟩, rfl, rfl, ?_⟩
    · have := (Array.getElem?_eq_some_iff.1 h2).1; omega
    · simp only [aops] at h
      simp only [List.length_nil, List.range'_zero, List.map_nil, List.append_nil, ite_self]
      exact h
  | o :: rest, k, s, fs, K, hl, hk, h => by
    have ho : all[k]? = some o := by simpa using (hl 0).symm
    have hl' : ∀ j, rest[j]? = all[k + 1 + j]? := fun j => by have := hl (j + 1); simpa [Nat.add_assoc, Nat.add_comm 1 j] using this
    have hk' : k + 1 + rest.length = all.size := by simp at hk; omega
    have hks : k < all.size := by omega
    -- one step ahead of what follows
    have step : ∀ (s0 : ASt) (e0 : Eff) (rd0 : List (Nat × Nat)), s0.view = s.view → Step1 Γ P all k s.view rd0 e0 → Fact s0 o e0 → aops P T all dr rest (s0.apply e0) (more dr fs e0 rd0) K →
        ∃ S e rd s', Part Γ P all k S e rd ∧ S k = s.view ∧ S all.size = s'.view ∧ K s' (if dr then fs ++ (List.range' k (o :: rest).length).map (fun i => ftOf (e i) (rd i)) else fs) := by
      intro s0 e0 rd0 hv h1 h2 h3
      obtain ⟨S, e, rd, s', hp, hS1, hSn, hK⟩ := aops_sound hT rest (k + 1) _ _ K hl' hk' h3
      have hvs : S (k + 1) = s.view.apply e0 := by rw [hS1, view_apply h2.1, hv]
      refine ⟨fun i => if i ≤ k then s.view else S i, fun i => if i = k then e0 else e i, fun i => if i = k then rd0 else rd i, s', ⟨fun i a b => ?_, fun i a b => ?_, fun i b a c => ?_, fun i a b => ?_, fun i o' a b => ?_⟩, by simp, ?_, ?_⟩
      · by_cases hi : i = k
        · subst hi; simpa using h1
        · have : ¬ i ≤ k := by omega
          simp only [hi, this, if_false]; exact hp.step i (by omega) b
      · by_cases hi : i = k
        · subst hi
          have : ¬ i + 1 ≤ i := by omega
          simp only [Nat.le_refl, if_true, this, if_false]; exact hvs
        · have h1 : ¬ i ≤ k := by omega
          have h2 : ¬ i + 1 ≤ k := by omega
          simp only [hi, h1, h2, if_false]; exact hp.next i (by omega) b
      · by_cases hi : i = k
        · subst hi
          simp only [Nat.le_refl, if_true]
          intro hb
          rw [← hv]
          simp only [Eff.new, h2.1.base, Bool.and_eq_true, decide_eq_true_eq] at hb
          simp only [ASt.view, decide_eq_false_iff_not]
          omega
        · have : ¬ i ≤ k := by omega
          simp only [hi, this, if_false]; exact hp.fresh i b (by omega) c
      · by_cases hi : i = k
        · subst hi
          simp only [Nat.le_refl, if_true]
          rw [← hv]; exact h2.1.keep
        · have : ¬ i ≤ k := by omega
          simp only [hi, this, if_false]; exact hp.keep i (by omega) b
      · by_cases hi : i = k
        · subst hi
          simp only [if_true]
          rw [ho] at b; injection b with b; subst b
          exact h2.2
        · simp only [hi, if_false]; exact hp.dst i o' (by omega) b
      · have : ¬ all.size ≤ k := by omega
        simp only [this, if_false]; exact hSn
      · cases dr with
        | false => simpa [more] using hK
        | true =>
          simp only [if_true, more] at hK ⊢
          rw [List.length_cons, List.range'_succ, List.map_cons]
          simp only [if_true]
          have e1 : (List.range' (k + 1) rest.length).map (fun i => ftOf (if i = k then e0 else e i) (if i = k then rd0 else rd i)) = (List.range' (k + 1) rest.length).map (fun i => ftOf (e i) (rd i)) := by
            refine List.map_congr_left fun i hi => ?_
            have := (List.mem_range'_1.1 hi).1
            have : ¬ i = k := by omega
            simp [this]
          rw [e1]
          simpa using hK
    simp only [aops] at h
    split at h
    · rename_i hg
      obtain ⟨e0, rd0, h1, h2, h3⟩ := aop_sound hT (Γ := Γ) h
      exact step s e0 rd0 rfl (h2.step1 ho (fun _ _ _ _ _ => wanted_none hg _)) h3 h1
    · rename_i g hg
      split at h
      · exact h.elim
      · rename_i d hd
        have hgt : gTmp all o = some d := by simp only [gTmp, hg, Option.bind_some]; exact hd
        have hdm : d ∈ nms all o := by simp [nms, hgt]
        split at h
        · rename_i b hb
          by_cases hbw : b = g.2
          · subst hbw
            have hv := view_set (s := s) hb
            obtain ⟨e0, rd0, h1, h2, h3⟩ := aop_sound hT (Γ := Γ) (h.1 rfl)
            rw [hv] at h2
            refine step _ e0 rd0 hv (h2.step1 ho (fun S' a w hr hR => ?_)) h3 h1
            obtain ⟨E, hE, hS⟩ := hR
            have := (yielded_of hS hd).1 g.2 (by rw [hr d hdm]; exact hb)
            simp [Region.wanted, hg, this]
          · have hbw' : b = !g.2 := by cases b <;> cases hg2 : g.2 <;> simp_all
            have hv := view_set (s := s) (c := .bool (!g.2)) (by rw [hb, hbw'])
            refine step _ _ _ hv (step1xskip ho (fun S' a w hr hR => ?_) _) (Fact.pure _ o _) (h.2 hbw')
            obtain ⟨E, hE, hS⟩ := hR
            have := (yielded_of hS hd).1 b (by rw [hr d hdm]; exact hb)
            simp [Region.wanted, hg, this, hbw]
        · rename_i hb
          refine step s _ _ rfl (step1xskip ho (fun S' a w hr hR => ?_) _) (Fact.pure _ o _) h
          obtain ⟨E, hE, hS⟩ := hR
          have := (yielded_of hS hd).2 (by rw [hr d hdm]; exact hb)
          simp [Region.wanted, hg, this]
        · exact h.elim
where
  default' : Eff := ⟨none, .non, [], 0, []⟩

/-- Behind a region. -/
def regK (all : Array Oper) (dr : Bool) (K : ASt → Prop) : ASt → List Ft → Prop := fun s fs => (dr = true → orderB all (masks all) fs = true) ∧ K s

theorem region_sound (hT : TabOk P T) (hm : P.follows .mixedOrders = true) {Γ : Ctx} {id : Nat} {all : Array Oper} {dr : Bool} {s : ASt} {K : ASt → Prop} (h : aops P T all dr all.toList s [] (regK all dr K))
    {Q : Exit → Act → World → Prop} {a : Act} {w : World} (hR : Rel Γ s.view a w) (hQ : ∀ s' a' w', K s' → Rel Γ s'.view a' w' → Q .normal a' w') : (Code.region id all dr).wp P Q a w := by
  obtain ⟨S, e, rd, s', hp, hS0, hSn, hd, hK⟩ := aops_sound hT (Γ := Γ) all.toList 0 s [] _ (by simp) (by simp) h
  have htr : Trace Γ P all S e rd := ⟨fun i hi => hp.step i (Nat.zero_le _) hi, fun i hi => hp.next i (Nat.zero_le _) hi, fun i b hi => hp.fresh i b (Nat.zero_le _) hi, fun i hi => hp.keep i (Nat.zero_le _) hi,
    fun b j hb => by
      rw [hS0] at hb ⊢
      simp only [ASt.view, decide_eq_false_iff_not] at hb ⊢
      rw [nthB_ge _ _ (by omega)]; rfl, fun i o ho => hp.dst i o (Nat.zero_le _) ho⟩
  rw [← hS0] at hR
  cases dr with
  | false => exact htr.plain hR (fun a' w' hR' => hQ s' a' w' hK (by rw [← hSn]; exact hR'))
  | true =>
    have hb := hd rfl
    have ho := orderB_sound (e := e) (rd := rd) (fun i hi => by
      simp only [if_true, List.nil_append, Array.length_toList, List.getElem?_map]
      rw [List.getElem?_range' hi]
      simp) htr.dst hb
    exact htr.draws ho hm hR (fun a' w' hR' => hQ s' a' w' hK (by rw [← hSn]; exact hR'))

/-! ### Weaker states -/

inductive Wk (g : Nat → Nat) (n : Nat) : AV → AV → Prop where
  | non (c : AV) : Wk g n c .non
  | und : Wk g n .und .und
  | flat (c : AV) (h : c.flat = true) : Wk g n c c.low
  | emp (s : Nat) : Wk g n .emp (.sl s [])
  | ptr (b b' o : Nat) (h : b' < n) (hb : b = g b') : Wk g n (.ptr b o) (.ptr b' o)
  | ow (t t' e s : Nat) (rows : List (List AV)) (h : t' < n) (hb : t = g t') : Wk g n (.ow t e s rows) (.ow t' e s rows)
  | mp (b b' : Nat) (h : b' < n) (hb : b = g b') : Wk g n (.mp b) (.mp b')
  | tok (k : Nat) : Wk g n (.tok k) (.tok k)
  | mps (f : List UInt8 → Option AV) : Wk g n (.mps f) (.mps f)
  | agg (cs ds : List AV) (hl : cs.length = ds.length) (h : ∀ (j : Nat) c d, cs[j]? = some c → ds[j]? = some d → Wk g n c d) : Wk g n (.agg cs) (.agg ds)
  | tup (cs ds : List AV) (hl : cs.length = ds.length) (h : ∀ (j : Nat) c d, cs[j]? = some c → ds[j]? = some d → Wk g n c d) : Wk g n (.tup cs) (.tup ds)
  | fn (f : Nat) (cs ds : List AV) (hl : cs.length = ds.length) (h : ∀ (j : Nat) c d, cs[j]? = some c → ds[j]? = some d → Wk g n c d) : Wk g n (.fn f cs) (.fn f ds)

def Env.pick (E : Env) (g : Nat → Nat) (n : Nat) : Env := { F := E.F, kd := fun b => if b < n then E.kd (g b) else 0, bk := fun b => E.bk (g b), tk := fun b => E.tk (g b) }

theorem Wk.vr {E : Env} {g : Nat → Nat} {n : Nat} {c d : AV} (h : Wk g n c d) : ∀ {v : Value}, VR E c v → VR (E.pick g n) d v := by
  induction h with
  | non c => exact fun _ => .non _
  | und => intro v hv; cases hv; exact .und
  | flat c h => intro v hv; exact (show VI (E.pick g n).F c.low v from hv.vi h).vr
  | emp s => intro v hv; exact (Src.of_emp (E := E.pick g n) (s := s) (by cases hv; exact .emp _)).sl
  | ptr b b' o h hb =>
    intro v hv
    cases hv with
    | ptr _ _ x hk hg => subst hb; exact .ptr _ _ x (by simp [Env.pick, h, hk]) hg
  | ow t t' e s rows h hb =>
    intro v hv
    cases hv with
    | ow _ _ _ _ a cap x h0 h1 h2 hk hn hv hc => subst hb; exact .ow _ _ _ _ a cap x h0 h1 h2 (by simp [Env.pick, h, hk]) hn hv hc
  | mp b b' h hb =>
    intro v hv
    cases hv with
    | mp _ x hk hg => subst hb; exact .mp _ x (by simp [Env.pick, h, hk]) hg
  | tok k => intro v hv; cases hv
  | mps f => intro v hv; cases hv
  | agg cs ds hl _ ih =>
    intro v hv
    obtain ⟨us, rfl, hu⟩ := hv.of_agg
    refine .agg ds us (by rw [hu.size]; exact hl) (fun j d u hd hu' => ?_)
    have hj : j < cs.length := by rw [hl]; exact (List.getElem?_eq_some_iff.1 hd).1
    exact ih j _ d (List.getElem?_eq_getElem hj) hd (hu.2 j _ u (List.getElem?_eq_getElem hj) (by simpa using hu'))
  | tup cs ds hl _ ih =>
    intro v hv
    obtain ⟨us, rfl, hu⟩ := hv.of_tup
    refine .tup ds us (by rw [hu.size]; exact hl) (fun j d u hd hu' => ?_)
    have hj : j < cs.length := by rw [hl]; exact (List.getElem?_eq_some_iff.1 hd).1
    exact ih j _ d (List.getElem?_eq_getElem hj) hd (hu.2 j _ u (List.getElem?_eq_getElem hj) (by simpa using hu'))
  | fn f cs ds hl _ ih =>
    intro v hv
    cases hv with
    | fn f cs us hl' hu =>
    refine .fn f ds us (by rw [hl']; exact hl) (fun j d u hd hu' => ?_)
    have hj : j < cs.length := by rw [hl]; exact (List.getElem?_eq_some_iff.1 hd).1
    exact ih j _ d (List.getElem?_eq_getElem hj) hd (hu j _ u (List.getElem?_eq_getElem hj) hu')

theorem Wk.cell {E : Env} {w : World} {g : Nat → Nat} {n b j : Nat} {c d : AV} (h : Wk g n c d) (hb : b < n) (hc : CellOk E w (g b) j c) : CellOk (E.pick g n) w b j d := by
  have pl : c.plain = true → d.plain = true → CellOk (E.pick g n) w b j d := fun h1 h2 => by
    rw [CellOk.plain h1] at hc
    rw [CellOk.plain h2]
    obtain ⟨hk, x, v, e1, e2, e3, e4⟩ := hc
    exact ⟨by simp [Env.pick, hb, hk], x, v, e1, e2, e3, h.vr e4⟩
  cases h with
  | non c => trivial
  | und => exact pl rfl rfl
  | flat c h => exact pl (by cases c <;> simp_all [AV.flat, AV.plain]) (by cases c <;> simp_all [AV.flat, AV.plain, AV.low])
  | emp s => exact pl rfl rfl
  | ptr => exact pl rfl rfl
  | ow => exact pl rfl rfl
  | mp => exact pl rfl rfl
  | tok k => exact ⟨hc.1, by simp [Env.pick, hb, hc.2.1], hc.2.2⟩
  | mps f =>
    obtain ⟨h1, h2, x, es, ck, h3, h4, h5⟩ := hc
    exact ⟨h1, by simp [Env.pick, hb, h2], x, es, ck, h3, h4, h5⟩
  | agg => exact pl rfl rfl
  | tup => exact pl rfl rfl
  | fn => exact pl rfl rfl

structure Pick (nx n : Nat) (g : Nat → Nat) : Prop where
  le : nx ≤ n
  old : ∀ b, b < nx → g b = b
  inj : ∀ x y, x < n → y < n → g x = g y → x = y

theorem EOk.pick {Γ : Ctx} {E : Env} {w : World} (h : EOk Γ E w) {g : Nat → Nat} {n : Nat} (hp : Pick Γ.nx n g) : EOk Γ (E.pick g n) w where
  le := by
    refine ⟨h.le.F, fun b hb => ?_, fun t ht => ?_⟩
    · have hb' := h.hx b (by rw [hb]; decide)
      obtain ⟨h1, h2⟩ := h.le.box b hb
      have hn : b < n := Nat.lt_of_lt_of_le hb' hp.le
      simp only [Env.pick, hn, if_true, hp.old b hb']
      exact ⟨h1, h2⟩
    · have hb' := h.hx t (by rw [ht]; decide)
      obtain ⟨h1, h2⟩ := h.le.tok t ht
      have hn : t < n := Nat.lt_of_lt_of_le hb' hp.le
      simp only [Env.pick, hn, if_true, hp.old t hb']
      exact ⟨h1, h2⟩
  os := h.os
  tape := h.tape
  output := h.output
  size := h.size
  old := h.old
  F := h.F
  box := fun b hb => by
    simp only [Env.pick] at hb ⊢
    split at hb
    · exact h.box (g b) hb
    · cases hb
  tok := fun t ht => by
    simp only [Env.pick] at ht
    split at ht
    · exact (h.tok (g t) ht)
    · cases ht
  fnew := h.fnew
  kd3 := fun b => by
    simp only [Env.pick]
    split
    · exact h.kd3 _
    · exact .inl rfl
  inj := fun b b' x hb hb' hx hx' => by
    simp only [Env.pick] at hb hb' hx hx'
    split at hb
    · split at hb'
      · exact hp.inj b b' (by assumption) (by assumption) (h.inj (g b) (g b') x hb hb' hx hx')
      · exact absurd rfl hb'
    · exact absurd rfl hb
  hx := h.hx

/-- The second state says less. -/
def Ent (nx : Nat) (s s' : ASt) : Prop := ∀ (Γ : Ctx) (a : Act) (w : World), Γ.nx = nx → Rel Γ s.view a w → Rel Γ s'.view a w

theorem Ent.refl (nx : Nat) (s : ASt) : Ent nx s s := fun _ _ _ _ h => h
theorem Ent.trans {nx : Nat} {s s' s'' : ASt} (h : Ent nx s s') (k : Ent nx s' s'') : Ent nx s s'' := fun Γ a w e hR => k Γ a w e (h Γ a w e hR)

def WkL (g : Nat → Nat) (n : Nat) : List AV → List AV → Prop
  | [], [] => True
  | c :: cs, d :: ds => Wk g n c d ∧ WkL g n cs ds
  | _, _ => False

def WkHs (g : Nat → Nat) (n : Nat) (H : List (List AV)) : List Nat → List (List AV) → Prop
  | [], [] => True
  | b :: bs, l :: ls => WkL g n (nthB H b) l ∧ WkHs g n H bs ls
  | _, _ => False

def nthN : List Nat → Nat → Nat
  | [], _ => 0
  | c :: _, 0 => c
  | _ :: r, n + 1 => nthN r n

theorem WkL.get {g : Nat → Nat} {n : Nat} : ∀ {cs ds : List AV}, WkL g n cs ds → cs.length = ds.length ∧ ∀ j, Wk g n (nth cs j) (nth ds j)
  | [], [], _ => ⟨rfl, fun j => .non _⟩
  | c :: cs, d :: ds, h => by
    obtain ⟨h1, h2⟩ := WkL.get h.2
    refine ⟨by simp [h1], fun j => ?_⟩
    cases j with
    | zero => exact h.1
    | succ j => exact h2 j
  | [], _ :: _, h => h.elim
  | _ :: _, [], h => h.elim

theorem WkHs.get {g : Nat → Nat} {n : Nat} {H : List (List AV)} : ∀ {bs : List Nat} {H' : List (List AV)}, WkHs g n H bs H' → bs.length = H'.length ∧ ∀ i, i < bs.length → WkL g n (nthB H (nthN bs i)) (nthB H' i)
  | [], [], _ => ⟨rfl, fun i h => by simp at h⟩
  | b :: bs, l :: ls, h => by
    obtain ⟨h1, h2⟩ := WkHs.get h.2
    refine ⟨by simp [h1], fun i hi => ?_⟩
    cases i with
    | zero => exact h.1
    | succ i => exact h2 i (by simpa using hi)
  | [], _ :: _, h => h.elim
  | _ :: _, [], h => h.elim

def distinct : List Nat → Bool
  | [] => true
  | b :: bs => !memN b bs && distinct bs

theorem mem_nthN : ∀ {l : List Nat} {i : Nat}, i < l.length → nthN l i ∈ l
  | c :: r, 0, _ => by simp [nthN]
  | c :: r, i + 1, h => List.mem_cons_of_mem _ (mem_nthN (l := r) (by simpa using h))

theorem distinct_inj : ∀ {l : List Nat}, distinct l = true → ∀ x y, x < l.length → y < l.length → nthN l x = nthN l y → x = y
  | [], _, x, y, h, _, _ => by simp at h
  | c :: r, h, 0, 0, _, _, _ => rfl
  | c :: r, h, 0, y + 1, _, hy, e => by
    simp only [distinct, Bool.and_eq_true, Bool.not_eq_true'] at h
    have := mem_nthN (l := r) (i := y) (by simpa using hy)
    simp only [nthN] at e
    rw [← e] at this
    have := memN_iff.2 this
    rw [h.1] at this; cases this
  | c :: r, h, x + 1, 0, hx, _, e => by
    simp only [distinct, Bool.and_eq_true, Bool.not_eq_true'] at h
    have := mem_nthN (l := r) (i := x) (by simpa using hx)
    simp only [nthN] at e
    rw [e] at this
    have := memN_iff.2 this
    rw [h.1] at this; cases this
  | c :: r, h, x + 1, y + 1, hx, hy, e => by
    simp only [distinct, Bool.and_eq_true] at h
    rw [distinct_inj h.2 x y (by simpa using hx) (by simpa using hy) e]

def isId : Nat → Nat → List Nat → Bool
  | _, 0, _ => true
  | i, n + 1, b :: bs => b == i && isId (i + 1) n bs
  | _, _ + 1, [] => false

theorem isId_get : ∀ (n i : Nat) (l : List Nat), isId i n l = true → n ≤ l.length ∧ ∀ b, b < n → nthN l b = i + b
  | 0, i, l, _ => ⟨Nat.zero_le _, fun b h => by omega⟩
  | n + 1, i, [], h => by simp [isId] at h
  | n + 1, i, c :: r, h => by
    simp only [isId, Bool.and_eq_true, beq_iff_eq] at h
    obtain ⟨h1, h2⟩ := isId_get n (i + 1) r h.2
    refine ⟨by simp; omega, fun b hb => ?_⟩
    cases b with
    | zero => simp [nthN, h.1]
    | succ b => simp only [nthN]; rw [h2 b (by omega)]; omega

/-- The blocks bs are kept, in this order. -/
structure Keeps (nx : Nat) (bs : List Nat) : Prop where
  id : isId 0 nx bs = true
  distinct : distinct bs = true

theorem Keeps.pick {nx : Nat} {bs : List Nat} (h : Keeps nx bs) : Pick nx bs.length (nthN bs) := by
  obtain ⟨h1, h2⟩ := isId_get nx 0 bs h.id
  exact ⟨h1, fun b hb => by rw [h2 b hb, Nat.zero_add], distinct_inj h.distinct⟩

theorem ent_of {nx : Nat} {s s' : ASt} (bs : List Nat) (hk : Keeps nx bs) (hr : WkL (nthN bs) bs.length s.regs s'.regs) (hh : WkHs (nthN bs) bs.length s.heap bs s'.heap) : Ent nx s s' := by
  intro Γ a w hn hR
  obtain ⟨E, hE, hS⟩ := hR
  subst hn
  obtain ⟨r1, r2⟩ := hr.get
  obtain ⟨h1, h2⟩ := hh.get
  refine ⟨E.pick (nthN bs) bs.length, hE.pick hk.pick, ⟨?_, hS.defers, fun r => (r2 r).vr (hS.reg r), fun b j => ?_, fun b hb => ?_⟩⟩
  · rw [hS.size]; exact r1
  · by_cases hb : b < bs.length
    · exact ((h2 b hb).get.2 j).cell hb (hS.cell (nthN bs b) j)
    · show CellOk _ _ _ _ (nth (nthB s'.heap b) j)
      rw [nthB_ge _ _ (by omega)]
      trivial
  · simp only [ASt.view, decide_eq_false_iff_not] at hb
    simp only [Env.pick]
    rw [if_neg (by omega)]

/-- An empty slice without capacity becomes a token. -/
theorem ent_tok {nx : Nat} {s : ASt} (r e sz : Nat) (hr : nth s.regs r = .emp) : Ent nx s ⟨s.regs.set r (.ow s.heap.length e sz []), s.heap ++ [[.tok 0]]⟩ := by
  intro Γ a w hn hR
  obtain ⟨E, hE, hS⟩ := hR
  have hv := hS.reg r
  simp only [ASt.view] at hv
  rw [hr] at hv
  have hrl : r < s.regs.length := nth_ne (by rw [hr]; simp)
  generalize hx : a.tmps.getD r undef = v at hv
  cases hv with
  | emp b =>
  have h1 := hS.noTok (Γ := Γ) hE (t := s.heap.length) (by simp [ASt.view]) (some r) e sz b
  have h2 : a.put (some r) (.slice b 0 0) = a := by
    cases a with
    | mk tmps defers =>
    simp only [Act.put]
    congr
    have hsz : r < tmps.size := by have := hS.size; simp only [ASt.view] at this; omega
    simp only [Array.getD_eq_getD_getElem?, Array.getElem?_eq_getElem hsz, Option.getD_some] at hx
    rw [← hx]
    refine Array.ext (by simp) (fun i h1 h2 => ?_)
    rw [Array.getElem_setIfInBounds]
    split
    · rename_i e; subst e; rfl
    · rfl
  rw [h2] at h1
  have h3 := view_apply (s := s) (e := ⟨some r, .ow s.heap.length e sz [], [], s.heap.length, [[.tok 0]]⟩) ⟨rfl, by simp⟩
  rw [← h3] at h1
  exact h1

/-! ### Code -/

inductive AEx where
  | nrm | ext (id : Nat) | ret

def AEx.ex : AEx → Exit
  | .nrm => .normal
  | .ext id => .exit id
  | .ret => .ret

def loopK (nx : Nat) (I : Nat → ASt → Prop) (n : Nat) (K : AEx → ASt → Prop) : AEx → ASt → Prop
  | .nrm, s => ∃ s' m, Ent nx s s' ∧ m < n ∧ I m s'
  | x, s => K x s

def seqK (f : ASt → Prop) (K : AEx → ASt → Prop) : AEx → ASt → Prop
  | .nrm, s => f s
  | x, s => K x s

def blkK (id : Nat) (K : AEx → ASt → Prop) : AEx → ASt → Prop
  | .ext id', s => if id' = id then K .nrm s else K (.ext id') s
  | x, s => K x s

def awp (P : Program) (T : TT) (nx : Nat) : Code → ASt → (AEx → ASt → Prop) → Prop
  | .skip, s, K => K .nrm s
  | .region _ ops dr, s, K => aops P T ops dr ops.toList s [] (regK ops dr (K .nrm))
  | .seq a b, s, K => awp P T nx a s (seqK (fun s' => awp P T nx b s' K) K)
  | .cond c a b, s, K => match s.view.ev c with
    | .bool t => (t = true → awp P T nx a s K) ∧ (t = false → awp P T nx b s K)
    | _ => False
  | .block id c, s, K => awp P T nx c s (blkK id K)
  | .loop c, s, K => ∃ I : Nat → ASt → Prop, (∃ s' n, Ent nx s s' ∧ I n s') ∧ ∀ n s, I n s → awp P T nx c s (loopK nx I n K)
  | .exit id, s, K => K (.ext id) s
  | .ret, s, K => K .ret s
  | .label _, s, K => K .nrm s
  | _, _, _ => False

theorem wp_loop_idx {c : Code} {Q : Exit → Act → World → Prop} {a : Act} {w : World} (J : Nat → Act → World → Prop) (n₀ : Nat) (h₀ : J n₀ a w)
    (round : ∀ n a w, J n a w → c.wp P (Exit.then (fun a' w' => ∃ m, m < n ∧ J m a' w') Q) a w) : (Code.loop c).wp P Q a w := by
  intro b k cs
  have key : ∀ n a w, J n a w → ∃ e a' w', Q e a' w' ∧ Arrives P (lone (b.at a (.code c :: .inLoop c :: k)) cs w) b k cs e a' w' := by
    intro n
    induction n using Nat.strongRecOn with
    | _ n ih =>
      intro a w hJ
      obtain ⟨e, a₁, w₁, hq, harr⟩ := round n a w hJ b (.inLoop c :: k) cs
      cases e with
      | normal =>
        obtain ⟨m, hlt, hJ₁⟩ := hq
        obtain ⟨e₂, a₂, w₂, hq₂, harr₂⟩ := ih m hlt a₁ w₁ hJ₁
        exact ⟨e₂, a₂, w₂, hq₂, .of_steps (Steps.trans harr (.one step_inLoop)) harr₂⟩
      | exit id => exact ⟨_, a₁, w₁, hq, .pass (x := .inLoop c) rfl (fun _ _ => .inl (by simp)) harr⟩
      | goto l => exact ⟨_, a₁, w₁, hq, .pass (x := .inLoop c) rfl (fun _ _ => .inl (by simp)) harr⟩
      | ret => exact ⟨_, a₁, w₁, hq, .pass (x := .inLoop c) rfl (fun _ _ => .inl (by simp)) harr⟩
      | panic ch => exact ⟨_, a₁, w₁, hq, .pass (x := .inLoop c) rfl (fun _ _ => .inl (by simp)) harr⟩
      | outgrown => exact ⟨_, a₁, w₁, hq, .pass (x := .inLoop c) rfl (fun _ _ => .inl (by simp)) harr⟩
  obtain ⟨e, a', w', hq, harr⟩ := key n₀ a w h₀
  exact ⟨e, a', w', hq, .of_steps (.one step_loop) harr⟩

theorem awp_sound (hT : TabOk P T) (hm : P.follows .mixedOrders = true) {Γ : Ctx} : ∀ (c : Code) (s : ASt) (K : AEx → ASt → Prop), awp P T Γ.nx c s K → ∀ (Q : Exit → Act → World → Prop) (a : Act) (w : World), Rel Γ s.view a w →
    (∀ x s' a' w', K x s' → Rel Γ s'.view a' w' → Q x.ex a' w') → c.wp P Q a w
  | .skip, s, K, h, Q, a, w, hR, hQ => wp_skip (hQ .nrm s a w h hR)
  | .region id ops dr, s, K, h, Q, a, w, hR, hQ => region_sound hT hm h hR (fun s' a' w' hK hR' => hQ .nrm s' a' w' hK hR')
  | .seq x y, s, K, h, Q, a, w, hR, hQ => by
    refine wp_seq (awp_sound hT hm x s _ h _ a w hR (fun e s' a' w' hK hR' => ?_))
    cases e with
    | nrm => exact awp_sound hT hm y s' K hK Q a' w' hR' hQ
    | ext id => exact hQ (.ext id) s' a' w' hK hR'
    | ret => exact hQ .ret s' a' w' hK hR'
  | .cond c x y, s, K, h, Q, a, w, hR, hQ => by
    simp only [awp] at h
    split at h
    · rename_i t ht
      obtain ⟨E, hE, hS⟩ := hR
      have hv := hS.ev c
      rw [ht] at hv
      have hb : a.eval c = .bool t := by
        generalize a.eval c = v at hv
        cases hv; rfl
      refine wp_cond hb ?_
      cases t with
      | true => exact awp_sound hT hm x s K (h.1 rfl) Q a w ⟨E, hE, hS⟩ hQ
      | false => exact awp_sound hT hm y s K (h.2 rfl) Q a w ⟨E, hE, hS⟩ hQ
    · exact h.elim
  | .block id c, s, K, h, Q, a, w, hR, hQ => by
    refine wp_block (awp_sound hT hm c s _ h _ a w hR (fun e s' a' w' hK hR' => ?_))
    cases e with
    | nrm => exact hQ .nrm s' a' w' hK hR'
    | ext id' =>
      simp only [blkK] at hK
      simp only [AEx.ex, Exit.inBlock]
      split at hK
      · rename_i e; rw [if_pos e]; exact hQ .nrm s' a' w' hK hR'
      · rename_i e; rw [if_neg e]; exact hQ (.ext id') s' a' w' hK hR'
    | ret => exact hQ .ret s' a' w' hK hR'
  | .loop c, s, K, h, Q, a, w, hR, hQ => by
    obtain ⟨I, ⟨s0, n0, he, hI⟩, hround⟩ := h
    refine wp_loop_idx (fun n a w => ∃ s, I n s ∧ Rel Γ s.view a w) n0 ⟨s0, hI, he Γ a w rfl hR⟩ (fun n a' w' hJ => ?_)
    obtain ⟨s1, hI1, hR1⟩ := hJ
    refine awp_sound hT hm c s1 _ (hround n s1 hI1) _ a' w' hR1 (fun e s' a2 w2 hK hR2 => ?_)
    cases e with
    | nrm =>
      obtain ⟨s2, m, he2, hlt, hI2⟩ := hK
      exact ⟨m, hlt, s2, hI2, he2 Γ a2 w2 rfl hR2⟩
    | ext id => exact hQ (.ext id) s' a2 w2 hK hR2
    | ret => exact hQ .ret s' a2 w2 hK hR2
  | .exit id, s, K, h, Q, a, w, hR, hQ => wp_exit (hQ (.ext id) s a w h hR)
  | .ret, s, K, h, Q, a, w, hR, hQ => wp_ret (hQ .ret s a w h hR)
  | .label l, s, K, h, Q, a, w, hR, hQ => wp_label (hQ .nrm s a w h hR)
  | .rangeFunc .., s, K, h, Q, a, w, hR, hQ => by simp [awp] at h
  | .scope _, s, K, h, Q, a, w, hR, hQ => by simp [awp] at h
  | .goto _, s, K, h, Q, a, w, hR, hQ => by simp [awp] at h
  | .refuse _, s, K, h, Q, a, w, hR, hQ => by simp [awp] at h

end Go.Ab
