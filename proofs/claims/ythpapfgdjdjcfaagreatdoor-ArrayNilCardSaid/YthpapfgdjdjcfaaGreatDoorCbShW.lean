/- A part of the proof. -/
import Derived.Test.YthpapfgdjdjcfaaGreatDoorCbZ
import Derived.Test.YthpapfgdjdjcfaaGreatDoorProg
import Derived.WalkKit
import Derived.ProofKit
set_option linter.unusedVariables false
set_option linter.unusedSimpArgs false
namespace Go.Cb.Sh
open Go.Cb Go.RowKit Go.Proofs

def nibAt (i : Nat) : Nat := Nat.land (Nat.shiftRight nibs (Nat.mul 32 i)) 4294967295

theorem bits_and15 (y : Nat) (hy : y < 4294967296) : bits .and .u32 (y : Int) 15 = ((Nat.land y 15 : Nat) : Int) := by
  show IntKind.u32.wrap ((BitVec.ofInt 32 (y : Int) &&& BitVec.ofInt 32 15).toNat) = _
  have h1 : (BitVec.ofInt 32 (y : Int)).toNat = y := by simp [BitVec.toNat_ofInt]; omega
  have h2 : (BitVec.ofInt 32 (15 : Int)).toNat = 15 := by decide
  rw [BitVec.toNat_and, h1, h2]
  have : y &&& 15 ≤ 15 := Nat.and_le_right
  rw [w32u (by omega) (by omega)]
  rfl
theorem bits_xor_step (y : Nat) (hy : y < 4294967296) : bits .xor .u32 ((y : Int) / 16) (nibAt (Nat.land y 15) : Int) = ((step1 y : Nat) : Int) := by
  have hn : nibAt (Nat.land y 15) < 4294967296 := by
    show (_ &&& 4294967295) < _
    exact Nat.lt_of_le_of_lt Nat.and_le_right (by omega)
  have e : ((y : Int) / 16) = ((Nat.shiftRight y 4 : Nat) : Int) := by
    show _ = ((y >>> 4 : Nat) : Int)
    rw [Nat.shiftRight_eq_div_pow]; omega
  have h4 : Nat.shiftRight y 4 < 4294967296 := by
    show y >>> 4 < _
    rw [Nat.shiftRight_eq_div_pow]; omega
  rw [e]
  have := xor32 (Nat.shiftRight y 4) (nibAt (Nat.land y 15)) h4 hn .o none
  have e2 : binR .xor .o none (.i .u32 (Nat.shiftRight y 4 : Nat)) (.i .u32 (nibAt (Nat.land y 15) : Nat)) = some (.i .u32 (bits .xor .u32 (Nat.shiftRight y 4 : Nat) (nibAt (Nat.land y 15) : Nat))) := rfl
  rw [e2] at this
  simp only [Option.some.injEq, V.i.injEq, true_and] at this
  rw [this]
  rfl

set_option maxHeartbeats 1000000 in
theorem crcStep_walk (c : Nat) (w : World) (hc : c < 4294967296) (hcell : ∀ i, i < 16 → w.cell? ⟨0, i, none⟩ = some (.int .u32 (nibAt i))) :
    Calls Tryz.prog 291 #[.int .u32 c] w fun e w' => e = .returned (.int .u32 (step1 (step1 c))) ∧ w' = w := by
  go_enter Tryz.func291, Tryz.ntmps291
  have HC : Hid (∀ i, i < 16 → w.cell? ⟨0, i, none⟩ = some (.int .u32 (nibAt i))) := hcell
  clear hcell
  go_wp2
  go_loop [3, 0] (fun i x => ∃ k y : Nat, k ≤ 2 ∧ y < 4294967296 ∧ i = .int .i64 k ∧ x = .int .u32 y ∧ Hid ((k = 0 ∧ y = c) ∨ (k = 1 ∧ y = step1 c) ∨ (k = 2 ∧ y = step1 (step1 c)))) (fun i _ => 2 - (intOf i).toNat)
  case atStart => exact ⟨0, c, by omega, hc, rfl, rfl, .inl ⟨rfl, rfl⟩⟩
  case round =>
    obtain ⟨k, y, hk, hy, rfl, rfl, hrel⟩ := hrel
    by_cases hlt : k < 2
    · have hj : bits .and .u32 (y : Int) 15 = ((Nat.land y 15 : Nat) : Int) := bits_and15 y hy
      have hx := bits_xor_step y hy
      have h16 : Nat.land y 15 < 16 := by
        have : y &&& 15 ≤ 15 := Nat.and_le_right
        show y &&& 15 < 16
        omega
      have hcj := HC.out _ h16
      have hs := step1_lt y hy
      have hfin : Hid (step1 y = step1 y) := rfl
      obtain ⟨s, hse⟩ : ∃ s, step1 y = s := ⟨_, rfl⟩
      rw [hse] at hx hs
      have HS : Hid (step1 y = s) := hse
      clear hse hfin
      generalize nibAt (Nat.land y 15) = z at hcj hx
      generalize Nat.land y 15 = j at hj hcj h16
      go_wp2
      go_round
      case rel =>
        refine ⟨k + 1, s, by omega, hs, by go_num, rfl, ?_⟩
        have h := hrel.out
        have hs' := HS.out
        show _ ∨ _ ∨ _
        rcases h with ⟨rfl, rfl⟩ | ⟨rfl, rfl⟩ | ⟨rfl, _⟩
        · exact .inr (.inl ⟨rfl, hs'.symm⟩)
        · exact .inr (.inr ⟨rfl, hs'.symm⟩)
        · omega
      case measure => simp [intOf]; omega
    · have hy2 : y = step1 (step1 c) := by
        rcases hrel.out with ⟨h, _⟩ | ⟨h, _⟩ | ⟨_, h⟩
        · omega
        · omega
        · exact h
      have HY : Hid (y = step1 (step1 c)) := hy2
      clear hy2
      go_wp2
      go_ret
      exact ⟨by first | rfl | (rw [HY.out]; rfl), rfl⟩
end Go.Cb.Sh
