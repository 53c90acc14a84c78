/- Two trees are equal if they are so with their loops' bodies struck, and their loops' bodies are. -/
import Derived.Test.YtlihngoejfmheaaUA
namespace Go.Ab
open Go

def kL {ρ : Type} : Tr ρ → Tr ρ
  | .br _ a _ => a
  | _ => .fail
def kR {ρ : Type} : Tr ρ → Tr ρ
  | .br _ _ a => a
  | _ => .fail
def kQ {ρ : Type} : Tr ρ → Tr ρ
  | .req _ a => a
  | _ => .fail
def kB {ρ : Type} (τ : Ty) (z : τ.T) : Tr ρ → Tr ρ
  | .bind τ' _ k => if h : τ' = τ then k (h ▸ z) else .fail
  | _ => .fail
def kI {ρ : Type} (σ : Ty) (q : σ.T) : Tr ρ → Tr (σ.T ⊕ ρ)
  | .iter σ' b _ => if h : σ' = σ then (match σ', h, b with | _, rfl, b => b q) else .fail
  | _ => .fail
def cutI : {ρ : Type} → Tr ρ → Tr ρ
  | _, .br c a b => .br c (cutI a) (cutI b)
  | _, .req c a => .req c (cutI a)
  | _, .bind τ c k => .bind τ c fun z => cutI (k z)
  | _, .iter σ _ x => .iter σ (fun _ => .fail) x
  | _, t => t
/-- The same under another name: the kernel then compares what they come to. -/
def cutJ : {ρ : Type} → Tr ρ → Tr ρ
  | _, .br c a b => .br c (cutJ a) (cutJ b)
  | _, .req c a => .req c (cutJ a)
  | _, .bind τ c k => .bind τ c fun z => cutJ (k z)
  | _, .iter σ _ x => .iter σ (fun _ => .fail) x
  | _, t => t
theorem cutJ_eq : {ρ : Type} → (t : Tr ρ) → cutJ t = cutI t
  | _, .br c a b => by simp only [cutJ, cutI, cutJ_eq]
  | _, .req c a => by simp only [cutJ, cutI, cutJ_eq]
  | _, .bind τ c k => by
    simp only [cutJ, cutI]
    congr 1
    funext z
    exact cutJ_eq (k z)
  | _, .iter σ _ x => rfl
  | _, .ret _ => rfl
  | _, .fail => rfl
  | _, .amb .. => rfl
def BodEq : {ρ : Type} → Tr ρ → Tr ρ → Prop
  | _, .br _ a b, t' => BodEq a (kL t') ∧ BodEq b (kR t')
  | _, .req _ a, t' => BodEq a (kQ t')
  | _, .bind τ _ k, t' => ∀ z : τ.T, BodEq (k z) (kB τ z t')
  | _, .iter σ b _, t' => ∀ q, kI σ q t' = b q
  | _, _, _ => True
theorem bod_eq : {ρ : Type} → (t t' : Tr ρ) → cutI t = cutI t' → BodEq t t' → t = t'
  | _, .br c a b, t', h, hb => by
    cases t' <;> simp only [cutI] at h <;> first | (cases h; done) | skip
    rename_i c' a' b'
    injection h with h0 h1 h2 h3
    subst h1
    rw [bod_eq a a' h2 hb.1, bod_eq b b' h3 hb.2]
  | _, .req c a, t', h, hb => by
    cases t' <;> simp only [cutI] at h <;> first | (cases h; done) | skip
    rename_i c' a'
    injection h with h0 h1 h2
    subst h1
    rw [bod_eq a a' h2 hb]
  | _, .bind τ c k, t', h, hb => by
    cases t' <;> simp only [cutI] at h <;> first | (cases h; done) | skip
    rename_i τ' c' k'
    injection h with h0 h1 h2 h3
    subst h1
    have h2 := eq_of_heq h2
    have h3 := eq_of_heq h3
    subst h2
    congr 1
    funext z
    have hz := hb z
    simp only [kB, dif_pos] at hz
    exact bod_eq (k z) (k' z) (congrFun h3 z) hz
  | _, .iter σ b x, t', h, hb => by
    cases t' <;> simp only [cutI] at h <;> first | (cases h; done) | skip
    rename_i σ' b' x'
    injection h with h0 h1 h2 h3
    subst h1
    have h3 := eq_of_heq h3
    subst h3
    congr 1
    funext q
    have := hb q
    simp only [kI, dif_pos] at this
    exact this.symm
  | _, .ret r, t', h, _ => by cases t' <;> simp only [cutI] at h <;> first | (cases h; done) | exact h
  | _, .fail, t', h, _ => by cases t' <;> simp only [cutI] at h <;> first | (cases h; done) | rfl
  | _, .amb q g t e, t', h, _ => by cases t' <;> simp only [cutI] at h <;> first | (cases h; done) | exact h
end Go.Ab
