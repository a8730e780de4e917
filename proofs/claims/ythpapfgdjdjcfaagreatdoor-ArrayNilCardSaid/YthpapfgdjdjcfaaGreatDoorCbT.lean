/- All functions at once: a table of evaluators, deep to a bound. -/
import Derived.Test.YthpapfgdjdjcfaaGreatDoorCbS
set_option linter.unusedVariables false
set_option linter.unusedSimpArgs false
namespace Go.Cb
open Go.RowKit

/-- Calls, 'd' deep. -/
def phi (P : Program) (N : Nat) (tab : Tr (Nat × An)) (over : Calls') : Nat → Calls'
  | 0 => over
  | d + 1 => fun f => match over f with
    | some φ => some φ
    | none => match tab.get f with
      | some (ar, an) => some (evFn P (phi P N tab over d) N f ar an)
      | none => none

def enteredAll (P : Program) : List Nat → Bool
  | [] => true
  | f :: fs => entered P f && enteredAll P fs

def Tr.keysIn {α : Type} (t : Tr α) (l : List Nat) : Prop := ∀ k v, t.get k = some v → k ∈ l

theorem enteredAll_spec {P : Program} : ∀ {l : List Nat}, enteredAll P l = true → ∀ f ∈ l, entered P f = true
  | [], _, f, hf => by cases hf
  | g :: gs, h, f, hf => by
    simp only [enteredAll, Bool.and_eq_true] at h
    rcases List.mem_cons.1 hf with rfl | hf
    · exact h.1
    · exact enteredAll_spec h.2 f hf

theorem phi_good {P : Program} {W0 : World} {N : Nat} {tab : Tr (Nat × An)} {over : Calls'} (hm : P.follows .mixedOrders = true) (ho : AllGood P W0 over) (he : ∀ f x, tab.get f = some x → entered P f = true) : ∀ d, AllGood P W0 (phi P N tab over d)
  | 0 => ho
  | d + 1 => by
    intro f φ hf
    unfold phi at hf
    cases hov : over f with
    | some ψ => simp only [hov] at hf; cases hf; exact ho f _ hov
    | none =>
      cases ht : tab.get f with
      | none => simp only [hov, ht] at hf; cases hf
      | some x =>
        obtain ⟨ar, an⟩ := x
        simp only [hov, ht] at hf
        cases hf
        exact ⟨fun args w => entered_spec (he f _ ht) args w, evFn_sound (phi_good hm ho he d) hm⟩
end Go.Cb
