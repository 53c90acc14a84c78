/- A region, abstractly: its operations one behind the other; the order that it draws; that it is right. -/
import Derived.Test.YtpgagefaneaioaaT13
namespace Go.Ab
open Go Go.RowKit
set_option linter.unusedVariables false
set_option linter.unusedSimpArgs false

variable {P : Program} {T : TT}

/-! ### Whatever order comes up -/

section
variable {Γ : Ctx} {all : Array Oper} {S : Nat → FSt} {e : Nat → Eff} {rd : Nat → List (Nat × Nat)} {B : Nat → Nat → Bool}

theorem all_listed (ho : Order all e rd B) {listed : Array Bool} (hsz : listed.size = all.size) (h : Region.ready .any all listed = []) : ∀ i, i < all.size → listed.getD i false = true := by
  intro i
  induction i using Nat.strongRecOn with
  | _ i ih =>
    intro hi
    refine Classical.byContradiction fun hc => ?_
    have hmem : i ∈ Region.ready .any all listed := by
      refine mem_ready.2 ⟨?_, all[i], Array.getElem?_eq_getElem hi, fun x hx hb => ?_⟩
      · have hlt : i < listed.size := by omega
        simp only [Array.getD_eq_getD_getElem?, Array.getElem?_eq_getElem hlt, Option.getD_some] at hc ⊢
        simpa using hc
      · have := ho.back i all[i] (Array.getElem?_eq_getElem hi) x hx hb
        exact ih x.on this (by omega)
    rw [h] at hmem
    cases hmem

theorem count_set : ∀ (l : List Bool) (i : Nat), l[i]? = some false → (l.set i true).count false + 1 = l.count false
  | [], i, h => by simp at h
  | b :: l, 0, h => by
    simp only [List.getElem?_cons_zero, Option.some.injEq] at h
    subst h
    simp
  | b :: l, i + 1, h => by
    have := count_set l i (by simpa using h)
    simp only [List.set_cons_succ, List.count_cons]
    omega

theorem Trace.any (h : Trace Γ P all S e rd) (ho : Order all e rd B) {Q : Exit → Act → World → Prop} (hQ : ∀ a w, Rel Γ (S all.size) a w → Q .normal a w) :
    ∀ (fuel : Nat) (listed : Array Bool) (a : Act) (w : World), listed.size = all.size → (∀ k i, k < all.size → listed.getD k false = true → B k i = true → listed.getD i false = true) → listed.toList.count false ≤ fuel →
      Rel Γ (at_ S e all.size fun k => listed.getD k false) a w → wpAny P .any all Q fuel listed a w := by
  have fin : ∀ (listed : Array Bool) (a : Act) (w : World), listed.size = all.size → Region.ready .any all listed = [] → Rel Γ (at_ S e all.size fun k => listed.getD k false) a w → Q .normal a w := by
    intro listed a w hsz hr hR
    refine hQ a w ?_
    have := all_listed ho hsz hr
    have e1 : at_ S e all.size (fun k => listed.getD k false) = S all.size := by
      rw [← SD_lex (S0 := S 0) (e := e) (n := all.size) (S := S) rfl h.next all.size (Nat.le_refl _)]
      exact SD_congr _ (fun x hx => this x hx)
    rw [← e1]; exact hR
  intro fuel
  induction fuel with
  | zero =>
    intro listed a w hsz hcl hc hR
    have hall : ∀ i, i < listed.size → listed.getD i false = true := fun i hi => by
      refine Classical.byContradiction fun hx => ?_
      have hf : listed.toList[i]? = some false := by
        rw [Array.getElem?_toList, Array.getElem?_eq_getElem hi]
        simp only [Array.getD_eq_getD_getElem?, Array.getElem?_eq_getElem hi, Option.getD_some] at hx
        simpa using hx
      have := List.count_pos_iff.2 (List.mem_of_getElem? hf)
      omega
    have hr : Region.ready .any all listed = [] := by
      refine List.eq_nil_iff_forall_not_mem.2 fun i hi => ?_
      obtain ⟨h1, o, h2, _⟩ := mem_ready.1 hi
      have hlt : i < listed.size := by rw [hsz]; exact (Array.getElem?_eq_some_iff.1 h2).1
      have h3 := hall i hlt
      simp only [Array.getD_eq_getD_getElem?, Array.getElem?_eq_getElem hlt, Option.getD_some] at h1 h3
      rw [h3] at h1; cases h1
    exact ⟨hr, fin listed a w hsz hr hR⟩
  | succ fuel ih =>
    intro listed a w hsz hcl hc hR
    refine ⟨fun hr => fin listed a w hsz hr hR, fun i hi => ?_⟩
    obtain ⟨h1, o, h2, h3⟩ := mem_ready.1 hi
    have hlt : i < listed.size := by rw [hsz]; exact (Array.getElem?_eq_some_iff.1 h2).1
    have h1' : listed.getD i false = false := by
      simp only [Array.getD_eq_getD_getElem?, Array.getElem?_eq_getElem hlt, Option.getD_some] at h1 ⊢
      exact h1
    have hset : ∀ k, (listed.setIfInBounds i true).getD k false = (listed.getD k false || decide (k = i)) := fun k => by
      simp only [Array.getD_eq_getD_getElem?]
      by_cases hk : i = k
      · subst hk; rw [Array.getElem?_setIfInBounds_self_of_lt hlt]; simp
      · rw [Array.getElem?_setIfInBounds_ne hk]
        have : ¬ k = i := fun e' => hk e'.symm
        simp [this]
    have hB : ∀ k, B i k = true → listed.getD k false = true := fun k hk => by
      obtain ⟨x, y1, y2, y3⟩ := ho.via i o k h2 hk
      have hx := h3 x y1 y2
      rcases y3 with y3 | y3
      · rw [← y3]; exact hx
      · exact hcl x.on k (Nat.lt_trans (ho.back i o h2 x y1 y2) (by omega)) hx y3
    refine h.come ho (D := fun k => listed.getD k false) hcl h2 h1' h3 hR (fun a' w' hR' => ih _ a' w' (by simpa using hsz) (fun k j hk hk1 hk2 => ?_) ?_ ?_)
    · rw [hset] at hk1 ⊢
      simp only [Bool.or_eq_true, decide_eq_true_eq] at hk1 ⊢
      rcases hk1 with hk1 | hk1
      · exact .inl (hcl k j hk hk1 hk2)
      · subst hk1; exact .inl (hB j hk2)
    · have := count_set listed.toList i (by rw [Array.getElem?_toList, Array.getElem?_eq_getElem hlt]; simp only [Array.getD_eq_getD_getElem?, Array.getElem?_eq_getElem hlt, Option.getD_some] at h1'; rw [h1'])
      rw [Array.toList_setIfInBounds]
      omega
    · have e1 : at_ S e all.size (fun k => (listed.setIfInBounds i true).getD k false) = at_ S e all.size (fun k => listed.getD k false || decide (k = i)) := SD_congr _ (fun k _ => hset k)
      rw [e1]; exact hR'

theorem Rel.drew {S : FSt} {a : Act} {w : World} (h : Rel Γ S a w) : Rel Γ S a { w with drawn := w.drawn + 1 } := by
  obtain ⟨E, hE, hS⟩ := h
  exact ⟨E, ⟨hE.le, hE.os, hE.tape, hE.output, hE.size, hE.old, hE.F, hE.box, hE.tok, hE.fnew, hE.kd3, hE.inj, hE.hx⟩, ⟨hS.size, hS.defers, hS.reg, hS.cell, hS.dom⟩⟩

theorem Trace.draws (h : Trace Γ P all S e rd) (ho : Order all e rd B) (hm : P.follows .mixedOrders = true) {id : Nat} {Q : Exit → Act → World → Prop} {a : Act} {w : World} (hR : Rel Γ (S 0) a w) (hQ : ∀ a w, Rel Γ (S all.size) a w → Q .normal a w) :
    (Code.region id all true).wp P Q a w := by
  refine wp_region_any hm (h.any ho hQ _ _ _ _ (by simp) (fun k i _ hk _ => ?_) ?_ ?_)
  · exfalso
    simp only [Array.getD_eq_getD_getElem?, Array.getElem?_replicate] at hk
    split at hk <;> simp at hk
  · simp
  · have e1 : at_ S e all.size (fun k => (Array.replicate all.size false).getD k false) = S 0 := by
      show SD (S 0) e (fun k => (Array.replicate all.size false).getD k false) all.size = S 0
      rw [SD_stop 0 all.size (Nat.zero_le _) (fun x _ _ => by
        show (Array.replicate all.size false).getD x false = false
        simp only [Array.getD_eq_getD_getElem?, Array.getElem?_replicate]
        split <;> rfl)]
      rfl
    rw [e1]; exact hR.drew

theorem Trace.plain (h : Trace Γ P all S e rd) {id : Nat} {Q : Exit → Act → World → Prop} {a : Act} {w : World} (hR : Rel Γ (S 0) a w) (hQ : ∀ a w, Rel Γ (S all.size) a w → Q .normal a w) :
    (Code.region id all false).wp P Q a w := by
  refine wp_region ?_
  have key : ∀ (m k : Nat) (a : Act) (w : World), k + m = all.size → Rel Γ (S k) a w → wpOps P all Q (List.range' k m) a w := by
    intro m
    induction m with
    | zero => intro k a w hk hR; simp only [Nat.add_zero] at hk; subst hk; exact hQ a w hR
    | succ m ih =>
      intro k a w hk hR
      rw [List.range'_succ, wpOps_cons]
      refine h.step k (by omega) (S k) a w rfl (fun _ _ _ _ => rfl) (fun _ _ => rfl) (fun b hb => h.fresh k b (by omega) hb) (fun b j _ hx => hx) hR _ Q (fun a' w' hR' => ih (k + 1) a' w' (by omega) ?_)
      rw [h.next k (by omega)]; exact hR'
  rw [List.range_eq_range']
  exact key all.size 0 a w (by omega) hR
end

/-! ### The order's test, by computation -/

structure Ft where
  rd : List (Nat × Nat)
  wr : List (Nat × Nat)
  base : Nat
  cnt : Nat

def ftOf (e : Eff) (rd : List (Nat × Nat)) : Ft := ⟨rd, e.ws.map fun x => (x.1, x.2.1), e.base, e.news.length⟩

def Ft.hits (f : Ft) (c : Nat × Nat) : Bool := (decide (f.base ≤ c.1) && decide (c.1 < f.base + f.cnt)) || f.wr.any fun x => x.1 == c.1 && x.2 == c.2

/-- Do two operations' writes meet? -/
def Ft.meet (f g : Ft) : Bool := (g.wr.any fun c => f.hits c) || (f.wr.any fun c => g.hits c) || (decide (f.base < g.base + g.cnt) && decide (g.base < f.base + f.cnt) && decide (0 < f.cnt) && decide (0 < g.cnt))

theorem ftOf_hits (e : Eff) (rd : List (Nat × Nat)) (b j : Nat) : (ftOf e rd).hits (b, j) = e.hits b j := by
  simp only [Ft.hits, ftOf, Eff.hits, Eff.new, List.any_map]
  rfl

def memN (n : Nat) : List Nat → Bool
  | [] => false
  | x :: r => x == n || memN n r
theorem memN_iff {n : Nat} : ∀ {l : List Nat}, memN n l = true ↔ n ∈ l
  | [] => by simp [memN]
  | x :: r => by
    rw [memN, Bool.or_eq_true, memN_iff (l := r), List.mem_cons, beq_iff_eq]
    exact ⟨fun h => h.imp Eq.symm id, fun h => h.imp Eq.symm id⟩

/-- An operation's names: what it writes, what it looks at. -/
structure Nm where
  dst : Option Nat
  nm : List Nat

def nmOf (all : Array Oper) (o : Oper) : Nm := ⟨o.dst, nms all o⟩

def apartB (p q : Nm) (f g : Ft) : Bool :=
  (match p.dst with | none => true | some d => !memN d q.nm && !(q.dst == some d)) &&
  (match q.dst with | none => true | some d => !memN d p.nm) &&
  (g.rd.all fun c => !f.hits c) && (f.rd.all fun c => !g.hits c) && !f.meet g

def edgeMask (ms : List Nat) (o : Oper) : Nat := o.after.toList.foldl (fun s x => if Region.binds .any x then s ||| 2 ^ x.on ||| ms.getD x.on 0 else s) 0

def pairsB (nm : List Nm) (fs : List Ft) (ms : List Nat) : Nat → Bool
  | 0 => true
  | j + 1 => pairsB nm fs ms j && (List.range j).all fun i => (ms.getD j 0).testBit i ||
      match nm[i]?, nm[j]?, fs[i]?, fs[j]? with
      | some p, some q, some f, some g => apartB p q f g
      | _, _, _, _ => false

def orderB (all : Array Oper) (ms : List Nat) (fs : List Ft) : Bool :=
  (all.toList.zipIdx.all fun (o, j) => (o.after.toList.all fun x => !Region.binds .any x || decide (x.on < j)) && decide (ms.getD j 0 = edgeMask ms o)) &&
  pairsB (all.toList.map (nmOf all)) fs ms all.size

/-- The masks that the model itself reckons. -/
def masks (all : Array Oper) : List Nat := (Region.before all).toList

theorem fold_testBit (ms : List Nat) (i : Nat) : ∀ (l : List Edge) (s : Nat), (l.foldl (fun s x => if Region.binds .any x then s ||| 2 ^ x.on ||| ms.getD x.on 0 else s) s).testBit i = true →
    s.testBit i = true ∨ ∃ x ∈ l, Region.binds .any x = true ∧ (x.on = i ∨ (ms.getD x.on 0).testBit i = true)
  | [], s, h => .inl h
  | x :: l, s, h => by
    rw [List.foldl_cons] at h
    rcases fold_testBit ms i l _ h with h1 | ⟨y, y1, y2, y3⟩
    · split at h1
      · rename_i hb
        rw [Nat.testBit_or, Nat.testBit_or, Bool.or_eq_true, Bool.or_eq_true] at h1
        rcases h1 with (h1 | h1) | h1
        · exact .inl h1
        · rw [Nat.testBit_two_pow] at h1
          exact .inr ⟨x, by simp, hb, .inl (by simpa using h1)⟩
        · exact .inr ⟨x, by simp, hb, .inr h1⟩
      · exact .inl h1
    · exact .inr ⟨y, List.mem_cons_of_mem _ y1, y2, y3⟩

theorem pairsB_get {nm : List Nm} {fs : List Ft} {ms : List Nat} : ∀ {n : Nat}, pairsB nm fs ms n = true → ∀ i j, i < j → j < n →
    (ms.getD j 0).testBit i = true ∨ ∃ p q f g, nm[i]? = some p ∧ nm[j]? = some q ∧ fs[i]? = some f ∧ fs[j]? = some g ∧ apartB p q f g = true
  | 0, _, i, j, _, h => by omega
  | n + 1, h, i, j, hij, hj => by
    simp only [pairsB, Bool.and_eq_true] at h
    rcases Nat.lt_or_ge j n with hlt | hge
    · exact pairsB_get h.1 i j hij hlt
    · have : j = n := by omega
      subst this
      have := List.all_eq_true.1 h.2 i (List.mem_range.2 hij)
      rw [Bool.or_eq_true] at this
      rcases this with h1 | h1
      · exact .inl h1
      · right
        split at h1
        · rename_i p q f g e1 e2 e3 e4
          exact ⟨p, q, f, g, e1, e2, e3, e4, h1⟩
        · cases h1

theorem apartB_sound {all : Array Oper} {e : Nat → Eff} {rd : Nat → List (Nat × Nat)} {i j : Nat} {oi oj : Oper} (hi : all[i]? = some oi) (hj : all[j]? = some oj) (di : (e i).dst = oi.dst) (dj : (e j).dst = oj.dst)
    (h : apartB (nmOf all oi) (nmOf all oj) (ftOf (e i) (rd i)) (ftOf (e j) (rd j)) = true) : Indep all e rd i j := by
  simp only [apartB, Bool.and_eq_true, Bool.not_eq_true'] at h
  obtain ⟨⟨⟨⟨h1, h2⟩, h3⟩, h4⟩, h5⟩ := h
  refine ⟨fun d o hd ho => ?_, fun d o hd ho => ?_, fun d hd hd' => ?_, fun c hc => ?_, fun c hc => ?_, fun b k hb => ?_⟩
  · rw [hj] at ho; injection ho with ho; subst ho
    rw [di] at hd
    simp only [nmOf, hd, Bool.and_eq_true, Bool.not_eq_true'] at h1
    intro hm
    have := memN_iff.2 hm
    rw [h1.1] at this; cases this
  · rw [hi] at ho; injection ho with ho; subst ho
    rw [dj] at hd
    simp only [nmOf, hd, Bool.not_eq_true'] at h2
    intro hm
    have := memN_iff.2 hm
    rw [h2] at this; cases this
  · rw [di] at hd
    rw [dj] at hd'
    simp [nmOf, hd, hd'] at h1
  · have := List.all_eq_true.1 h3 c hc
    rw [← ftOf_hits (e i) (rd i)]
    simpa using this
  · have := List.all_eq_true.1 h4 c hc
    rw [← ftOf_hits (e j) (rd j)]
    simpa using this
  · simp only [Ft.meet, Bool.or_eq_false_iff] at h5
    obtain ⟨⟨m1, m2⟩, m3⟩ := h5
    refine Classical.byContradiction fun hc => ?_
    have hc' : (e j).hits b k = true := by simpa using hc
    have key : ∀ (f g : Eff) (r r' : List (Nat × Nat)), ((ftOf f r).wr.any fun c => (ftOf g r').hits c) = false → (f.ws.any fun x => x.1 == b && x.2.1 == k) = true → g.hits b k = true → False := by
      intro f g r r' hz hx hg
      obtain ⟨x, x1, x2⟩ := List.any_eq_true.1 hx
      simp only [Bool.and_eq_true, beq_iff_eq] at x2
      have : (ftOf g r').hits (b, k) = false := by
        have := List.any_eq_false.1 hz (x.1, x.2.1) (by simp only [ftOf]; exact List.mem_map.2 ⟨x, x1, rfl⟩)
        rw [x2.1, x2.2] at this
        simpa using this
      rw [ftOf_hits, hg] at this; cases this
    have hb' := hb
    simp only [Eff.hits, Bool.or_eq_true] at hb
    rcases hb with hb | hb
    · have hc2 := hc'
      simp only [Eff.hits, Bool.or_eq_true] at hc2
      rcases hc2 with hc2 | hc2
      · -- both new
        simp only [Eff.new, Bool.and_eq_true, decide_eq_true_eq] at hb hc2
        exact absurd (by
          simp only [ftOf, Bool.and_eq_true]
          exact ⟨⟨⟨decide_eq_true (by omega), decide_eq_true (by omega)⟩, decide_eq_true (by omega)⟩, decide_eq_true (by omega)⟩) (Bool.eq_false_iff.1 m3)
      · exact key (e j) (e i) _ _ m1 hc2 hb'
    · exact key (e i) (e j) _ _ m2 hb hc'

theorem orderB_sound {all : Array Oper} {e : Nat → Eff} {rd : Nat → List (Nat × Nat)} {ms : List Nat} {fs : List Ft} (hf : ∀ i, i < all.size → fs[i]? = some (ftOf (e i) (rd i))) (hd : ∀ (i : Nat) o, all[i]? = some o → (e i).dst = o.dst)
    (h : orderB all ms fs = true) : Order all e rd (fun j i => (ms.getD j 0).testBit i) := by
  simp only [orderB, Bool.and_eq_true] at h
  obtain ⟨h1, h2⟩ := h
  have hz : ∀ (j : Nat) o, all[j]? = some o → (∀ x ∈ o.after, Region.binds .any x = true → x.on < j) ∧ ms.getD j 0 = edgeMask ms o := fun j o hj => by
    have hmem : (o, j) ∈ all.toList.zipIdx := by
      rw [List.mem_zipIdx_iff_getElem?]
      simpa using hj
    have := List.all_eq_true.1 h1 _ hmem
    simp only [Bool.and_eq_true, decide_eq_true_eq] at this
    refine ⟨fun x hx hb => ?_, this.2⟩
    have := List.all_eq_true.1 this.1 x (by simpa using hx)
    simp only [hb, Bool.not_true, Bool.false_or, decide_eq_true_eq] at this
    exact this
  refine ⟨fun j o hj => (hz j o hj).1, fun j o i hj hb => ?_, fun i j hij hj => ?_⟩
  · rw [(hz j o hj).2] at hb
    rcases fold_testBit ms i _ _ hb with h3 | ⟨x, x1, x2, x3⟩
    · simp at h3
    · exact ⟨x, by simpa using x1, x2, x3⟩
  · rcases pairsB_get h2 i j hij hj with h3 | ⟨p, q, f, g, e1, e2, e3, e4, e5⟩
    · exact .inl h3
    · right
      rw [List.getElem?_map] at e1 e2
      have hi : all[i]? = some (all[i]'(by omega)) := Array.getElem?_eq_getElem _
      have hj' : all[j]? = some all[j] := Array.getElem?_eq_getElem hj
      rw [Array.getElem?_toList, hi] at e1
      rw [Array.getElem?_toList, hj'] at e2
      injection e1 with e1; injection e2 with e2
      rw [hf i (by omega)] at e3
      rw [hf j hj] at e4
      injection e3 with e3; injection e4 with e4
      subst e1; subst e2; subst e3; subst e4
      exact apartB_sound hi hj' (hd i _ hi) (hd j _ hj') e5

end Go.Ab
