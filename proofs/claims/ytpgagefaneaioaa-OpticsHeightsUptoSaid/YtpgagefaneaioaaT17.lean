/- From the code of a function to its contract. -/
import Derived.Test.YtpgagefaneaioaaT16
namespace Go.Ab
open Go Go.RowKit
set_option linter.unusedVariables false
set_option linter.unusedSimpArgs false

variable {P : Program} {T : TT}

def sing : List AV → AV
  | [c] => c
  | cs => .tup cs

/-- The results, by registers and blocks. -/
def resK (T : TT) (s : ASt) : List ResultVar → (List AV → Prop) → Prop
  | [], k => k []
  | .tmp t :: r, k => resK T s r fun vs => k (nth s.regs t :: vs)
  | .cell a t :: r, k => (T t).kd.isOther = false ∧ match nth s.regs a with
    | .ptr b o => if (T t).kd.isAgg then allB AV.plain (rdc (s.view.cell b) o (T t).size) = true ∧ resK T s r fun vs => k (.agg (rdc (s.view.cell b) o (T t).size) :: vs)
        else (s.view.cell b o).plain = true ∧ resK T s r fun vs => k (s.view.cell b o :: vs)
    | _ => False

/-- The end of a function: what is said of its result and of the blocks that it leaves. -/
def ends (T : TT) (rs : List ResultVar) (nx : Nat) (r : AV) (H' : List (List AV)) : AEx → ASt → Prop
  | .ext _, _ => False
  | _, s => resK T s rs fun vs => ∃ bs, Keeps nx bs ∧ Wk (nthN bs) bs.length (sing vs) r ∧ WkHs (nthN bs) bs.length s.heap bs H'

def resOne (tmps : Array Value) : ResultVar → Sem Value
  | .tmp t => pure (tmps.getD t undef)
  | .cell a t => do loadVar t (← asAddr (tmps.getD a undef))

theorem resK_sound (hT : TabOk P T) {Γ : Ctx} {E : Env} {s : ASt} {a : Act} {w : World} (hE : EOk Γ E w) (hS : SOk E s.view a w) : ∀ (rs : List ResultVar) (k : List AV → Prop), resK T s rs k →
    ∃ cs vs, k cs ∧ VRs E cs vs ∧ (rs.mapM (resOne a.tmps)).run P w = .ok vs w
  | [], k, h => ⟨[], [], h, VRs.nil, by simp⟩
  | .tmp t :: r, k, h => by
    obtain ⟨cs, vs, h1, h2, h3⟩ := resK_sound hT hE hS r _ h
    refine ⟨_, _, h1, VRs.cons (hS.reg t) h2, ?_⟩
    rw [List.mapM_cons, Sem.run_bind]
    simp only [resOne, Sem.run_pure, Result.andThen_ok, Sem.run_bind, h3]
  | .cell x t :: r, k, h => by
    obtain ⟨hno, h⟩ := h
    have hv := hS.reg x
    simp only [ASt.view] at hv
    split at h
    · rename_i b off hx
      rw [hx] at hv
      generalize hax : a.tmps.getD x undef = vx at hv
      cases hv with
      | ptr b off g hk hb =>
      cases hag : (T t).kd.isAgg with
      | true =>
        rw [hag, if_pos rfl] at h
        obtain ⟨cs, vs', h1, h2, h3⟩ := resK_sound hT hE hS r _ h.2
        have hcell : ∀ j, j < (T t).size → ∃ v, w.cell? ⟨g, off + j, none⟩ = some v ∧ VR E (s.view.cell b (off + j)) v := fun j hj => by
          have h1 := hS.cell b (off + j)
          rw [CellOk.plain (allB_mem h.1 _ (List.mem_of_getElem? (rdc_get (s.view.cell b) _ off j hj)))] at h1
          obtain ⟨_, g', v, e1, e2, _, e3⟩ := h1
          rw [hb] at e1; injection e1 with e1; subst e1
          exact ⟨v, e2, e3⟩
        let vs : List Value := (List.range (T t).size).map fun j => (w.cell? ⟨g, off + j, none⟩).getD undef
        have hvs : vs.length = (T t).size := by simp [vs]
        have hget : ∀ (j : Nat) v, vs[j]? = some v → j < (T t).size ∧ w.cell? ⟨g, off + j, none⟩ = some v := fun j v hj => by
          have hlt : j < (T t).size := by rw [← hvs]; exact (List.getElem?_eq_some_iff.1 hj).1
          simp only [vs, List.getElem?_map, List.getElem?_range hlt, Option.map_some, Option.some.injEq] at hj
          obtain ⟨u, e1, _⟩ := hcell j hlt
          rw [e1] at hj
          simp only [Option.getD_some] at hj
          subst hj
          exact ⟨hlt, e1⟩
        refine ⟨_, .agg vs.toArray :: vs', h1, VRs.cons (VRs.agg ⟨by simp [hvs, rdc_length], fun j c v hj hv => ?_⟩) h2, ?_⟩
        · obtain ⟨hlt, e1⟩ := hget j v (by simpa using hv)
          obtain ⟨u, e2, e3⟩ := hcell j hlt
          rw [rdc_get _ _ _ _ hlt] at hj
          injection hj with hj
          rw [e1] at e2; injection e2 with e2
          subst hj; subst e2
          exact e3
        · rw [List.mapM_cons, Sem.run_bind]
          simp only [resOne, hax, asAddr, Sem.run_bind, Sem.run_pure, Result.andThen_ok]
          rw [run_loadVar_agg hT hno hag hvs (fun j v hj => by rw [add_lit]; exact (hget j v hj).2)]
          simp only [Result.andThen_ok, Sem.run_bind, h3, Sem.run_pure]
      | false =>
        rw [hag, if_neg (by simp)] at h
        obtain ⟨cs, vs', h1, h2, h3⟩ := resK_sound hT hE hS r _ h.2
        have h4 := hS.cell b off
        rw [CellOk.plain h.1] at h4
        obtain ⟨_, g', v, e1, e2, _, e3⟩ := h4
        rw [hb] at e1; injection e1 with e1; subst e1
        refine ⟨_, v :: vs', h1, VRs.cons e3 h2, ?_⟩
        rw [List.mapM_cons, Sem.run_bind]
        simp only [resOne, hax, asAddr, Sem.run_bind, Sem.run_pure, Result.andThen_ok]
        rw [run_loadVar_one hT hno hag e2]
        simp only [Result.andThen_ok, Sem.run_bind, h3, Sem.run_pure]
    · exact h.elim

theorem run_results {fn : Func} {rs : List ResultVar} (hr : fn.results = rs.toArray) (tmps : Array Value) {w : World} {vs : List Value} (h : (rs.mapM (resOne tmps)).run P w = .ok vs w) :
    (results fn tmps).run P w = .ok (if h : vs.toArray.size = 1 then vs.toArray[0] else .tuple vs.toArray) w := by
  have e : results fn tmps = (fn.results.mapM (resOne tmps) >>= fun vs => pure (if h : vs.size = 1 then vs[0] else .tuple vs)) := by
    unfold results
    refine congrArg (fun f => (Array.mapM f fn.results >>= fun vs => pure (if h : vs.size = 1 then vs[0] else .tuple vs) : Sem Value)) ?_
    funext x; cases x <;> rfl
  rw [e, hr, List.mapM_toArray, Sem.run_bind]
  simp [h]

theorem VR.sing {E : Env} {cs : List AV} {vs : List Value} (h : VRs E cs vs) : VR E (sing cs) (if h : vs.toArray.size = 1 then vs.toArray[0] else .tuple vs.toArray) := by
  obtain ⟨h1, h2⟩ := h
  match cs, vs, h1 with
  | [], [], _ => exact .tup [] #[] rfl (fun j c v h => by simp at h)
  | [c], [v], _ => exact h2 0 c v rfl rfl
  | c :: d :: cs, v :: u :: vs, h1 =>
    have : ¬ (v :: u :: vs).toArray.size = 1 := by simp
    rw [dif_neg this]
    exact .tup _ _ (by simpa using h1) (fun j c v h k => h2 j c v h (by simpa using k))

theorem meets_of_awp (hT : TabOk P T) (hm : P.follows .mixedOrders = true) {f : Nat} {fn : Func} {code : Code} (hf : P.funcs[f]? = some fn) (hb : fn.body = some code) {rs : List ResultVar} (hr : fn.results = rs.toArray)
    {H H' : List (List AV)} {args : List AV} {r : AV} (h : awp P T H.length code ⟨args ++ List.replicate (fn.ntmps - args.length) .und, H⟩ (ends T rs H.length r H')) : Meets P f H args r H' := by
  intro w E X vs hE hH h1 hv
  have hsz : vs.size = args.length := by simpa using hv.1
  have hreg : VRs E (args ++ List.replicate (fn.ntmps - args.length) .und) (vs ++ Array.replicate (fn.ntmps - vs.size) undef).toList := by
    rw [Array.toList_append, Array.toList_replicate, hsz]
    refine hv.append ⟨by simp, fun j c v x y => ?_⟩
    rw [List.getElem?_replicate] at x y
    split at x
    · rename_i hj
      rw [if_pos hj] at y
      injection x with x; injection y with y
      subst x; subst y; exact .und
    · cases x
  have hRel : Rel ⟨w, X, E, H.length⟩ (ASt.mk (args ++ List.replicate (fn.ntmps - args.length) .und) H).view { tmps := vs ++ Array.replicate (fn.ntmps - vs.size) undef, defers := [] } w := by
    refine ⟨E, hE, ⟨by simpa [ASt.view] using hreg.1, rfl, fun r => ?_, hH.1, fun b hb => ?_⟩⟩
    · simp only [ASt.view]
      rw [nth_eq]
      cases hx : (args ++ List.replicate (fn.ntmps - args.length) AV.und)[r]? with
      | none => exact .non _
      | some c =>
        obtain ⟨v, y1, y2⟩ := hreg.get hx
        rw [Array.getElem?_toList] at y1
        simp only [Array.getD_eq_getD_getElem?, y1, Option.getD_some]
        exact y2
    · simp only [ASt.view, decide_eq_false_iff_not] at hb
      exact hH.2 b (by omega)
  refine calls_of_wp hf hb (awp_sound hT hm (Γ := ⟨w, X, E, H.length⟩) code _ _ h _ _ _ hRel (fun x s' a' w' hK hR => ?_))
  have fin : (resK T s' rs fun vs => ∃ bs, Keeps H.length bs ∧ Wk (nthN bs) bs.length (sing vs) r ∧ WkHs (nthN bs) bs.length s'.heap bs H') →
      a'.defers = [] ∧ ∃ v, (results fn a'.tmps).run P w' = .ok v w' ∧ ∃ v' E', Ending.returned v = .returned v' ∧ EOk ⟨w, X, E, H.length⟩ E' w' ∧ HOk E' w' H' ∧ VR E' r v' := by
    intro hres
    obtain ⟨E1, hE1, hS1⟩ := hR
    obtain ⟨cs, us, ⟨bs, hk, hw, hh⟩, q3, q4⟩ := resK_sound hT hE1 hS1 rs _ hres
    obtain ⟨q1, q2⟩ := hh.get
    refine ⟨hS1.defers, _, run_results hr _ q4, _, E1.pick (nthN bs) bs.length, rfl, hE1.pick hk.pick, ⟨fun b j => ?_, fun b hb => ?_⟩, hw.vr (VR.sing q3)⟩
    · by_cases hb : b < bs.length
      · exact ((q2 b hb).get.2 j).cell hb (hS1.cell (nthN bs b) j)
      · rw [nthB_ge _ _ (by omega)]
        trivial
    · simp only [Env.pick]
      rw [if_neg (by omega)]
  cases x with
  | nrm => exact fin hK
  | ret => exact fin hK
  | ext id => exact hK.elim

end Go.Ab
