/- Calls that are handed blocks. -/
import Derived.Test.YtpgagefaneaioaaT24
namespace Go.Ab
open Go Go.RowKit
set_option linter.unusedVariables false
set_option linter.unusedSimpArgs false

variable {P : Program} {T : TT}

def ArgsL (m : Nat → Nat) (n : Nat) : List AV → List AV → Prop
  | [], [] => True
  | c :: cs, d :: ds => Arg m n c d ∧ ArgsL m n cs ds
  | _, _ => False
theorem ArgsL.args {m : Nat → Nat} {n : Nat} : ∀ {cs ds : List AV}, ArgsL m n cs ds → Args m n cs ds
  | [], [], _ => .nil
  | c :: cs, d :: ds, h => .cons h.1 (ArgsL.args h.2)
  | [], _ :: _, h => h.elim
  | _ :: _, [], h => h.elim
theorem ArgsL.len {m : Nat → Nat} {n : Nat} {cs ds : List AV} (h : ArgsL m n cs ds) : cs.length = ds.length := h.args.1

def notNon : AV → Bool
  | .non => false
  | _ => true
theorem notNon_ne {c : AV} (h : notNon c = true) : c ≠ .non := fun e => by subst e; cases h

/-- The blocks that are handed over: as they are, as the callee is told, as they come back. -/
def handL (m : Nat → Nat) (n : Nat) (Hs : List (List AV)) : List Nat → List (List AV) → List (List AV) → Prop
  | [], [], _ => True
  | b :: bs, d :: ds, l :: ls => (b < Hs.length ∧ 0 < (nthB Hs b).length ∧ allB AV.plain (nthB Hs b) = true ∧ l.length = (nthB Hs b).length ∧ allB notNon l = true) ∧ ArgsL m n (nthB Hs b) d ∧ handL m n Hs bs ds ls
  | _, _, _ => False

theorem handL.get {m : Nat → Nat} {n : Nat} {Hs : List (List AV)} : ∀ {bs : List Nat} {ds ls : List (List AV)}, handL m n Hs bs ds ls → bs.length = ds.length ∧ bs.length ≤ ls.length ∧
    ∀ i, i < bs.length → (nthN bs i < Hs.length ∧ 0 < (nthB Hs (nthN bs i)).length ∧ allB AV.plain (nthB Hs (nthN bs i)) = true ∧ (nthB ls i).length = (nthB Hs (nthN bs i)).length ∧ allB notNon (nthB ls i) = true) ∧ ArgsL m n (nthB Hs (nthN bs i)) (nthB ds i)
  | [], [], ls, _ => ⟨rfl, Nat.zero_le _, fun i h => by simp at h⟩
  | b :: bs, d :: ds, l :: ls, h => by
    obtain ⟨q1, q2, q3⟩ := handL.get h.2.2
    refine ⟨by simp [q1], by simp [q2], fun i hi => ?_⟩
    cases i with
    | zero => exact ⟨h.1, h.2.1⟩
    | succ i => exact q3 i (by simpa using hi)
  | [], _ :: _, _, h => by cases h
  | _ :: _, [], _, h => by cases h
  | _ :: _, _ :: _, [], h => by cases h

theorem allB_nth {p : AV → Bool} {l : List AV} (h : allB p l = true) {j : Nat} (hj : j < l.length) : p (nth l j) = true := allB_mem h _ (List.mem_of_getElem? (nth_lt hj))

theorem callMe {R : List AV} {Hs : List (List AV)} {dst : Option Nat} {f : Nat} {acts args : List AV} {r : AV} {k : Eff → List (Nat × Nat) → Prop} {H H' : List (List AV)} (m : List Nat) (hd : distinct m = true) (hc : Callable P f) (hm : Meets P f H args r H')
    (ha : ArgsL (nthN m) m.length acts args) (hh : handL (nthN m) m.length Hs m H H') (hk : ∃ e, (e = callEff dst (nthN m) m.length Hs.length r H' ∨ (RoOk (ASt.mk R Hs).view (nthN m) m.length Hs.length H' ∧ e = roEff dst (nthN m) m.length Hs.length r H')) ∧ k e (keysOf (nthN m) 0 m.length H)) : CallC P ⟨R, Hs⟩ dst f acts k := by
  obtain ⟨q1, q2, q3⟩ := hh.get
  refine ⟨nthN m, m.length, H, H', args, r, hc, hm, ha.args, ⟨q1.symm, q2, distinct_inj hd, fun x hx => by simpa [ASt.view] using (q3 x hx).1.1, fun b hb => by simpa [ASt.view] using hb, fun b j hb hj => ?_, fun b hb => ?_, fun b j hb hj => ?_, fun b j hb hj => ?_⟩, fun b j hb hj => ?_, hk⟩
  · obtain ⟨_, w2⟩ := q3 b hb
    have hl := w2.len
    exact w2.args.2 j _ _ (nth_lt (by omega)) (nth_lt hj)
  · obtain ⟨⟨w1, w2, w3, _⟩, _⟩ := q3 b hb
    have := allB_nth w3 w2
    exact ⟨plain_ne this, this⟩
  · obtain ⟨⟨_, _, _, w4, _⟩, _⟩ := q3 b hb
    exact nth_ge (by show (nthB Hs (nthN m b)).length ≤ j; omega)
  · obtain ⟨⟨_, _, w3, w4, _⟩, w6⟩ := q3 b hb
    have hl := w6.len
    exact ⟨plain_ne (allB_nth w3 (by omega)), by omega⟩
  · obtain ⟨⟨_, _, _, _, w5⟩, _⟩ := q3 b hb
    exact notNon_ne (allB_nth w5 hj)

theorem callM {R : List AV} {Hs : List (List AV)} {dst : Option Nat} {f : Nat} {acts args : List AV} {r : AV} {k : Eff → List (Nat × Nat) → Prop} {H H' : List (List AV)} (m : List Nat) (hd : distinct m = true) (hc : Callable P f) (hm : Meets P f H args r H')
    (ha : ArgsL (nthN m) m.length acts args) (hh : handL (nthN m) m.length Hs m H H') (hk : k (callEff dst (nthN m) m.length Hs.length r H') (keysOf (nthN m) 0 m.length H)) : CallC P ⟨R, Hs⟩ dst f acts k :=
  callMe m hd hc hm ha hh ⟨_, .inl rfl, hk⟩

/-- The ends of a function that was handed one block, or two, and hands them back alone. -/
theorem ends_rb {rs : List ResultVar} {r : AV} {R : List AV} {H H' : List (List AV)} {nx : Nat} (bs : List Nat) (hb : Keeps nx bs) (h : res T R H rs fun vs => Wk (nthN bs) bs.length (sing vs) r ∧ WkHs (nthN bs) bs.length H bs H') : ends T rs nx r H' .ret ⟨R, H⟩ := by
  have key : ∀ (rs : List ResultVar) (k k' : List AV → Prop), (∀ vs, k vs → k' vs) → resK T ⟨R, H⟩ rs k → resK T ⟨R, H⟩ rs k' := by
    intro rs
    induction rs with
    | nil => exact fun k k' hk h => hk _ h
    | cons x rs ih =>
      intro k k' hk h
      cases x with
      | tmp t => exact ih _ _ (fun vs => hk _) h
      | cell a t =>
        simp only [resK] at h ⊢
        refine ⟨h.1, ?_⟩
        obtain ⟨_, h⟩ := h
        split at h
        · split at h
          · rename_i hag; rw [if_pos hag]; exact ⟨h.1, ih _ _ (fun vs => hk _) h.2⟩
          · rename_i hag; rw [if_neg hag]; exact ⟨h.1, ih _ _ (fun vs => hk _) h.2⟩
        · exact h.elim
  exact key rs _ _ (fun vs hv => ⟨bs, hb, hv.1, hv.2⟩) h
theorem ends_r1 {rs : List ResultVar} {r : AV} {R : List AV} {H H' : List (List AV)} (h : res T R H rs fun vs => Wk (nthN [0]) 1 (sing vs) r ∧ WkHs (nthN [0]) 1 H [0] H') : ends T rs 1 r H' .ret ⟨R, H⟩ := ends_rb [0] ⟨rfl, rfl⟩ h
theorem ends_n1 {rs : List ResultVar} {r : AV} {R : List AV} {H H' : List (List AV)} (h : res T R H rs fun vs => Wk (nthN [0]) 1 (sing vs) r ∧ WkHs (nthN [0]) 1 H [0] H') : ends T rs 1 r H' .nrm ⟨R, H⟩ := ends_rb [0] ⟨rfl, rfl⟩ h
theorem ends_r2 {rs : List ResultVar} {r : AV} {R : List AV} {H H' : List (List AV)} (h : res T R H rs fun vs => Wk (nthN [0, 1]) 2 (sing vs) r ∧ WkHs (nthN [0, 1]) 2 H [0, 1] H') : ends T rs 2 r H' .ret ⟨R, H⟩ := ends_rb [0, 1] ⟨rfl, rfl⟩ h
theorem ends_n2 {rs : List ResultVar} {r : AV} {R : List AV} {H H' : List (List AV)} (h : res T R H rs fun vs => Wk (nthN [0, 1]) 2 (sing vs) r ∧ WkHs (nthN [0, 1]) 2 H [0, 1] H') : ends T rs 2 r H' .nrm ⟨R, H⟩ := ends_rb [0, 1] ⟨rfl, rfl⟩ h
theorem ends_r3 {rs : List ResultVar} {r : AV} {R : List AV} {H H' : List (List AV)} (h : res T R H rs fun vs => Wk (nthN [0, 1, 2]) 3 (sing vs) r ∧ WkHs (nthN [0, 1, 2]) 3 H [0, 1, 2] H') : ends T rs 3 r H' .ret ⟨R, H⟩ := ends_rb [0, 1, 2] ⟨rfl, rfl⟩ h
theorem ends_n3 {rs : List ResultVar} {r : AV} {R : List AV} {H H' : List (List AV)} (h : res T R H rs fun vs => Wk (nthN [0, 1, 2]) 3 (sing vs) r ∧ WkHs (nthN [0, 1, 2]) 3 H [0, 1, 2] H') : ends T rs 3 r H' .nrm ⟨R, H⟩ := ends_rb [0, 1, 2] ⟨rfl, rfl⟩ h

theorem argsL_nil {m : Nat → Nat} {n : Nat} : ArgsL m n [] [] := trivial
theorem argsL_cons {m : Nat → Nat} {n : Nat} {c d : AV} {cs ds : List AV} (h : Arg m n c d) (t : ArgsL m n cs ds) : ArgsL m n (c :: cs) (d :: ds) := ⟨h, t⟩
theorem arg_ptr {m : Nat → Nat} {n b b' o o' : Nat} (ho : o = o') (h : b' < n) (hb : b = m b') : Arg m n (.ptr b o) (.ptr b' o') := by subst ho; exact .ptr b b' o h hb
theorem arg_agg {m : Nat → Nat} {n : Nat} {cs ds : List AV} (h : ArgsL m n cs ds) : Arg m n (.agg cs) (.agg ds) := .aggs h.args
theorem arg_fn {m : Nat → Nat} {n f : Nat} {cs ds : List AV} (h : ArgsL m n cs ds) : Arg m n (.fn f cs) (.fn f ds) := .fns h.args
theorem arg_int' {m : Nat → Nat} {n : Nat} {k : IntKind} {x y : Int} (h : x = y) : Arg m n (.int k x) (.int k y) := by subst h; exact .flat (.int k x) rfl
theorem arg_bool' {m : Nat → Nat} {n : Nat} {x y : Bool} (h : x = y) : Arg m n (.bool x) (.bool y) := by subst h; exact .flat (.bool x) rfl
theorem arg_str' {m : Nat → Nat} {n : Nat} {x y : List UInt8} (h : x = y) : Arg m n (.str x) (.str y) := by subst h; exact .flat (.str x) rfl
theorem handL_nil {m : Nat → Nat} {n : Nat} {Hs ls : List (List AV)} : handL m n Hs [] [] ls := trivial
theorem handL_cons {m : Nat → Nat} {n b : Nat} {Hs : List (List AV)} {bs : List Nat} {d l : List AV} {ds ls : List (List AV)} (h : b < Hs.length ∧ 0 < (nthB Hs b).length ∧ allB AV.plain (nthB Hs b) = true ∧ l.length = (nthB Hs b).length ∧ allB notNon l = true)
    (h2 : ArgsL m n (nthB Hs b) d) (h3 : handL m n Hs bs ds ls) : handL m n Hs (b :: bs) (d :: ds) (l :: ls) := ⟨h, h2, h3⟩

/-- A block's content, for lemmas about calls. -/
def BlkIs (Hs : List (List AV)) (b : Nat) (l : List AV) : Prop := b < Hs.length ∧ nthB Hs b = l
theorem blk0 {l : List AV} {r : List (List AV)} : BlkIs (l :: r) 0 l := ⟨by simp, rfl⟩
theorem blk_succ {l a : List AV} {r : List (List AV)} {n : Nat} (h : BlkIs r n l) : BlkIs (a :: r) (n + 1) l := ⟨by have := h.1; simp; omega, h.2⟩
theorem blk1 {a l : List AV} {r : List (List AV)} : BlkIs (a :: l :: r) 1 l := blk_succ blk0
theorem blk2 {a b l : List AV} {r : List (List AV)} : BlkIs (a :: b :: l :: r) 2 l := blk_succ blk1
theorem blk3 {a b c l : List AV} {r : List (List AV)} : BlkIs (a :: b :: c :: l :: r) 3 l := blk_succ blk2
theorem blk4 {a b c d l : List AV} {r : List (List AV)} : BlkIs (a :: b :: c :: d :: l :: r) 4 l := blk_succ blk3
theorem blk5 {a b c d e l : List AV} {r : List (List AV)} : BlkIs (a :: b :: c :: d :: e :: l :: r) 5 l := blk_succ blk4

/-- A call that is handed one block and hands it back. -/
theorem call1b {R : List AV} {Hs : List (List AV)} {dst : Option Nat} {f b : Nat} {acts args : List AV} {r r' : AV} {k : Eff → List (Nat × Nat) → Prop} {d l l' l'' : List AV} (hc : Callable P f) (hm : Meets P f [d] args r [l']) (hb : BlkIs Hs b l)
    (ha : ArgsL (nthN [b]) 1 acts args) (hp : 0 < l.length ∧ allB AV.plain l = true ∧ l'.length = l.length ∧ allB notNon l' = true) (hl : ArgsL (nthN [b]) 1 l d) (hr : ren (newIds (nthN [b]) 1 Hs.length) r = r') (hl' : l'.map (ren (newIds (nthN [b]) 1 Hs.length)) = l'')
    (hk : k ⟨dst, r', writes b 0 l'', Hs.length, []⟩ (ks b 0 d.length)) : CallC P ⟨R, Hs⟩ dst f acts k := by
  obtain ⟨h1, h2⟩ := hb
  subst hr; subst hl'; subst h2
  refine callM [b] rfl hc hm ha (handL_cons ⟨h1, hp.1, hp.2.1, hp.2.2.1, hp.2.2.2⟩ hl handL_nil) ?_
  simpa [callEff, backs, keysOf, nthN, nthB] using hk

end Go.Ab
