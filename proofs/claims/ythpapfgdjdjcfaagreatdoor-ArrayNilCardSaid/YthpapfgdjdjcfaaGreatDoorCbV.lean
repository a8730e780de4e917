/- How what is known of single functions is put together, and functions that only compute. -/
import Derived.Test.YthpapfgdjdjcfaaGreatDoorCbU
set_option linter.unusedVariables false
set_option linter.unusedSimpArgs false
namespace Go.Cb
open Go.RowKit

section
variable {P : Program} {W0 : World}

theorem AllGood.none : AllGood P W0 (fun _ => none) := by intro f φ h; cases h

theorem AllGood.cond {Ψ : Calls'} {i : Nat} {φ : List V → M V} (h : Good P W0 i φ) (k : AllGood P W0 Ψ) : AllGood P W0 (fun f => cond (Nat.beq f i) (some φ) (Ψ f)) := by
  intro f ψ hf
  cases hb : Nat.beq f i with
  | true => simp only [hb, cond_true] at hf; cases hf; rw [Nat.eq_of_beq_eq_true hb]; exact h
  | false => simp only [hb, cond_false] at hf; exact k f ψ hf

/-- A printed function. -/
theorem good_of_eq {tab : Calls'} {N f ar : Nat} {an : An} {F : List V → M V} (hm : P.follows .mixedOrders = true) (he : entered P f = true) (hE : evFn P tab N f ar an = F) (ht : AllGood P W0 tab) : Good P W0 f F :=
  ⟨fun args w => entered_spec he args w, hE ▸ evFn_sound ht hm⟩

theorem Sim.below {μ : Mu} {h : H} {w w' : World} (s : Sim W0 μ h w) (hb : Below w.heap.size w w') : Sim W0 μ h w' :=
  ⟨s.lt, fun i L hi => Nat.lt_of_lt_of_le (s.blk i L hi) hb.size, fun i L o hi ho => (s.ob i L o hi ho).of_block (hb.block _ (s.blk i L hi)), s.inj, s.bel.trans (hb.mono s.size)⟩

/-- A function that only computes. -/
theorem sound_pure {f : FuncId} {φ : List V → M V} (hφ : ∀ args h v h', φ args h = some (v, h') → h' = h ∧ ∀ μ w (cargs : Array Value), Sim W0 μ h w → VRs μ args cargs.toList →
    Calls P f cargs w fun e w' => ∃ c, e = .returned c ∧ VR μ v c ∧ Below w.heap.size w w') : Sound P W0 f φ := by
  intro args h v h' hr μ w cargs s ha
  obtain ⟨rfl, hc⟩ := hφ args h v h' hr
  refine (hc μ w cargs s ha).mono fun e w' he => ?_
  obtain ⟨c, rfl, hv, hb⟩ := he
  exact ⟨c, μ, rfl, hv, fun _ _ => rfl, s.below hb, Nat.le_refl _⟩

/-- At the start nothing is known of memory. -/
def hNil : H := { next := 0, tab := .e }
theorem sim_nil (W : World) : Sim W (fun _ => Option.none) hNil W :=
  ⟨fun i L h => (by cases h), fun i L h => (by cases h), fun i L o h => (by cases h), fun i j L L' o o' h => (by cases h), Below.refl _ _⟩
end
end Go.Cb
