/- From a contract to a law's call: the environment of the world's own cells; readings of arguments. -/
import Derived.Test.YtpgagefaneaioaaT22
import Derived.Below
import Derived.ChangeSame
import Derived.ChangeSlices
import Derived.ProofKit
namespace Go.Ab
open Go Go.RowKit Go.ChangeShapes Go.WideShapes Go.ChangeAt
set_option linter.unusedVariables false
set_option linter.unusedSimpArgs false

variable {P : Program}

def envOf (W : World) : Env := { F := fun a v => W.cell? a = some v ∧ v.oneCell' = true, kd := fun _ => 0, bk := fun _ => none, tk := fun _ => ⟨0, 0, 0, undef⟩ }

theorem envOf_ok (W : World) : EOk ⟨W, [], envOf W, 0⟩ (envOf W) W where
  le := Env.Le.refl _
  os := rfl
  tape := rfl
  output := rfl
  size := Nat.le_refl _
  old := fun _ _ _ => rfl
  F := fun _ _ h => h
  box := fun _ h => by cases h
  tok := fun _ h => by cases h
  fnew := fun _ _ h => .inl h
  kd3 := fun _ => .inl rfl
  inj := fun _ _ _ h => absurd rfl h
  hx := fun _ h => absurd rfl h

theorem law_calls {f : Nat} {args : List AV} {r : AV} {vs : Array Value} {W : World} (hm : Meets P f [] args r []) (hv : VRs (envOf W) args vs.toList) :
    Calls P f vs W fun e W' => ∃ v E, e = .returned v ∧ VR E r v ∧ Below W.heap.size W W' := by
  refine (hm W (envOf W) [] vs (envOf_ok W) ⟨fun b j => trivial, fun _ _ => rfl⟩ (fun b h => by cases h) hv).mono fun e W' ⟨v, E', he, hE, _, hr⟩ => ⟨v, E', he, hr, ?_⟩
  exact ⟨hE.os, hE.tape, hE.output, hE.size, fun k hk => hE.old k hk (by simp)⟩

theorem law_true {f : Nat} {args : List AV} {vs : Array Value} {W : World} (hm : Meets P f [] args (.bool true) []) (hv : VRs (envOf W) args vs.toList) :
    Calls P f vs W fun e W' => e = .returned (.bool true) ∧ Below W.heap.size W W' :=
  (law_calls hm hv).mono fun e W' ⟨v, E, he, hr, hb⟩ => by
    cases hr
    exact ⟨he, hb⟩

theorem read_ints {H : Type} {enc : TypeId × Value → H} {W : World} {t e : TypeId} {a : Option Addr} {len cap : Nat} {d : DataW H} {ps : List MemPlace} (ht : P.underlying t = some (.slice e)) (he : P.underlying e = some (.int .i64)) (hc : P.cellsOf e = 1)
    (h : DataW.Trod enc P W 0 (fun _ => true) true t (.slice a len cap) d ps) : ∃ xs : List Int, VR (envOf W) (.sl 1 (rowsOf xs)) (.slice a len cap) ∧ ((d = .nil ∧ xs = []) ∨ ∃ sp, d = .slice (lits .i64 xs) sp) ∧ ∀ n ∈ xs, (Lit.int .i64 n).wf = true := by
  obtain ⟨n, hn⟩ := h
  rcases open_ints ht he hc hn with ⟨h1, h2⟩ | ⟨a', len', cap', zs, h1, _, h3, _, h5, h6, h7, h8⟩
  · simp [Value.cells] at h1
    obtain ⟨rfl, rfl, rfl⟩ := h1
    simp only [Prod.mk.injEq] at h2
    exact ⟨[], (Src.of_emp (E := envOf W) (s := 1) (.emp none)).sl, .inl ⟨h2.1, rfl⟩, by simp⟩
  · simp [Value.cells] at h1
    obtain ⟨rfl, rfl, rfl⟩ := h1
    simp only [Prod.mk.injEq] at h6
    simp only [if_true] at h5
    have hl : (zs.take len).length = len := by rw [List.length_take]; omega
    refine ⟨zs.take len, ?_, .inr ⟨_, h6.1⟩, fun n hn => h8 n (List.mem_of_mem_take hn)⟩
    have hrow : ∀ (i : Nat) row (j : Nat) c, (rowsOf (zs.take len))[i]? = some row → row[j]? = some c → i < len ∧ j = 0 ∧ c = .int .i64 (zs.getD i 0) := fun i row j c hi hj => by
      rw [rowsOf_get] at hi
      cases hx : (zs.take len)[i]? with
      | none => rw [hx] at hi; cases hi
      | some x =>
        rw [hx] at hi
        injection hi with hi
        subst hi
        have hlt : i < len := by have := (List.getElem?_eq_some_iff.1 hx).1; omega
        rw [List.getElem?_take, if_pos hlt] at hx
        cases j with
        | zero =>
          rw [enc_int] at hj
          simp only [List.getElem?_cons_zero, Option.some.injEq] at hj
          exact ⟨hlt, rfl, by rw [← hj]; simp [List.getD, hx]⟩
        | succ j => simp [enc_int] at hj
    have := VR.sl (E := envOf W) 1 (rowsOf (zs.take len)) (some a') cap (fun i _ => .int .i64 (zs.getD i 0)) (fun _ => rfl)
      (fun i row j c ad hi hj hd => by
        obtain ⟨q1, rfl, rfl⟩ := hrow i row j c hi hj
        injection hd with hd
        subst hd
        rw [Nat.mul_one, Nat.add_zero]
        exact ⟨h7 i (by omega), rfl⟩)
      (fun i row j c hi hj => by
        obtain ⟨q1, rfl, rfl⟩ := hrow i row j c hi hj
        exact .int _ _)
      (by rw [rowsOf_length, hl]; exact h3)
    rwa [rowsOf_length, hl] at this

section
variable {H : Type} {enc : TypeId × Value → H}
theorem post_of_below {f : Func} {s : ChangeSpec} {apart fresh handsOn again : Bool} {W W' : World} {args : Array Value} {v : Value} {ds gs : List (DataW H)} {before pa pv : List MemPlace}
    (hW : DataW.Whole enc P f.params.toList s.vars apart W args.toList ds gs before)
    (hres : ∀ (b : Nat) (sp : Nat → Bool) (hd : Bool), DataW.TrodAll enc P W' b sp hd f.resultTypes.toList (v.resultList f.resultTypes.size) (s.fn H (ds ++ gs)).results [])
    (hargs : ∀ sp : Nat → Bool, (∀ p ∈ before, sp p.block = true) → DataW.TrodAll enc P W' 0 sp true f.params.toList args.toList (s.fn H (ds ++ gs)).args pa)
    (hvars : ∀ sp : Nat → Bool, (∀ p ∈ before, sp p.block = true) → DataW.TrodVars enc P W' sp s.vars (s.fn H (ds ++ gs)).vars pv)
    (hps : before = pa ++ pv) (hb : Below W.heap.size W W')
    (hok : ∀ (j : Nat) (t : TypeId) (r : Value), f.resultTypes[j]? = some t → (v.resultList f.resultTypes.size)[j]? = some r → Value.okWide P W' .any 0 t r) :
    s.post enc P f apart fresh handsOn again W args v W' := by
  have hlt : ∀ p ∈ before, p.block < W.heap.size := fun p hp => hW.lt p hp
  have hold : ∀ p ∈ before, (fun b => decide (b < W.heap.size)) p.block = true := fun p hp => by simpa using hlt p hp
  refine ⟨ds, gs, before, [], pa, pv, hW, hres _ _ _, hargs _ hold, hvars _ hold, World.keptBut_mono (fun p hp => ⟨hp, ?_⟩) (hb.frame (· ∈ before)), fun _ => ?_⟩
  · rw [hps, List.mem_append] at hp
    exact Or.inr hp
  · obtain ⟨_, _, _, _, _, hz, hn⟩ := hW
    refine ⟨hok, _, _, ([] ++ pa) ++ pv, ⟨[] ++ pa, pv, trodAll_append (hargs _ (fun _ _ => rfl)) (hres _ _ _), hvars _ (fun _ _ => rfl), rfl, ?_, ?_⟩, ?_⟩
    · intro b off hp
      have hin : MemPlace.cell b off ∈ before := by rw [hps]; simpa using hp
      rw [hb.frozen (hlt _ hin)]
      exact hz b off hin
    · intro ha
      have := hn ha
      rw [hps] at this
      simpa using this
    · intro p hp _
      rw [hps]
      simpa using hp
end

end Go.Ab
