/- A part of the proof. -/
import Derived.Test.YthpapfgdjdjcfaaGreatDoorCbShL
import Derived.WalkKit
import Derived.OwnWalkIn
import Derived.LoopNIn
import Derived.Deep.LoopGhost
import Derived.WalkSpells
set_option linter.unusedVariables false
set_option linter.unusedSimpArgs false
namespace Go.Proofs
open Go.RowKit Go.Maps Go.Sort Go.Shelf

set_option maxHeartbeats 1000000 in
set_option maxRecDepth 100000 in
theorem Tryz.values_walk (F : Fence) (n : Nat) (hf : F.fn 304) (hro : F.round = none) (hn : 1 ≤ n) (b off g a c : Nat) (xs : List Int) (l : Nat) (J : List Int → World → Prop) (W : World)
    (hN : xs.length ≤ maxLen)
    (hcell : ∀ s W1, J s W1 → W1.cell? ⟨b, off, none⟩ = some (.slice (some ⟨g, a, none⟩) xs.length c))
    (hxs : ∀ s W1, J s W1 → ∀ k (hk : k < xs.length), W1.cell? ⟨g, a + k, none⟩ = some (.int .i64 (xs[k]'hk)))
    (hY : ∀ pre x W1, J pre W1 → pre.length < xs.length → YieldAt F (n - 1) Tryz.prog l #[encZ x] W1 fun e W' => e = .returned (.bool true) ∧ J (pre ++ [x]) W')
    (h0 : J [] W) :
    CallsIn F n Tryz.prog 304 #[.func (.yield l) #[] #[], .pointer (some ⟨b, off, none⟩)] W fun e W' => (∃ v, e = .returned v) ∧ J xs W' := by
  have c0 := hcell [] W h0
  unfold maxLen at hN
  have HC : Hid (∀ s W1, J s W1 → W1.cell? ⟨b, off, none⟩ = some (.slice (some ⟨g, a, none⟩) xs.length c)) := hcell
  have HX : Hid (∀ s W1, J s W1 → ∀ k (hk : k < xs.length), W1.cell? ⟨g, a + k, none⟩ = some (.int .i64 (xs[k]'hk))) := hxs
  have HY : Hid (∀ pre x W1, J pre W1 → pre.length < xs.length → YieldAt F (n - 1) Tryz.prog l #[encZ x] W1 fun e W' => e = .returned (.bool true) ∧ J (pre ++ [x]) W') := hY
  clear hcell hxs hY
  refine callsIn_of_wp Tryz.func304 rfl hf ?_ hro
  simp only [Tryz.ntmps304, List.size_toArray, List.length_cons, List.length_nil, Nat.reduceAdd, Nat.reduceSub, Array.replicate_succ, Array.replicate_zero, List.push_toArray, List.append_toArray, List.nil_append, List.cons_append]
  gi_wp2_with fail
  gi_loopw [7] (fun i wr => ∃ k : Nat, k ≤ xs.length ∧ i = .int .i64 k ∧ J (xs.take k) wr) (fun i _ => xs.length - (RowKit.intOf i).toNat)
  case atStart => exact ⟨0, Nat.zero_le _, rfl, by simpa using h0⟩
  case round =>
    obtain ⟨k, hk, rfl, hJ⟩ := hrel
    by_cases hlt : k < xs.length
    · have hc := HX.out _ _ hJ k hlt
      have hy := HY.out (xs.take k) (xs[k]) wr hJ (by simp; omega)
      have HT : Hid (xs.take k ++ [xs[k]] = xs.take (k + 1)) := by
        show _ = _
        rw [List.take_succ_eq_append_getElem hlt]
      generalize xs[k] = x at hc hy HT
      obtain ⟨fn, tmps, assign, body, hy, hR⟩ := hy
      have HR : Hid (RoundIn F (n - 1) Tryz.prog l fn tmps assign body wr fun e W' => e = .returned (.bool true) ∧ J (xs.take k ++ [x]) W') := hR
      have HJ : Hid (J (xs.take k) wr) := hJ
      clear hR hJ c0 h0
      gi_wp2
      refine HR.out.mono ?_
      rintro e W3 ⟨rfl, hJ3⟩
      have hJ4 : Hid (J (xs.take (k + 1)) W3) := by
        show J _ W3
        rw [← HT.out]; exact hJ3
      clear hJ3 HJ HT HR
      gi_wp2
      go_roundw
      case rel => exact ⟨k + 1, by omega, by go_num, hJ4.out⟩
      case measure => simp [RowKit.intOf]; omega
    · have HJ : Hid (J xs wr) := by
        show J xs wr
        rwa [List.take_of_length_le (by omega)] at hJ
      clear hJ
      gi_wp2
      go_end0
      exact ⟨⟨_, rfl⟩, HJ.out⟩
end Go.Proofs
namespace Go.Proofs
open Go.RowKit Go.Maps Go.Sort Go.Shelf

set_option maxHeartbeats 1000000 in
set_option maxRecDepth 100000 in
/-- slices.AppendSeq of nothing and the values of a slice: they are copied. -/
theorem Tryz.appendSeq_values (b off g a c : Nat) (xs : List Int) (w : World) (hb : b < w.heap.size) (hg : g < w.heap.size) (hN : xs.length ≤ 1048576)
    (hcell : w.cell? ⟨b, off, none⟩ = some (.slice (some ⟨g, a, none⟩) xs.length c)) (hxs : ∀ k (hk : k < xs.length), w.cell? ⟨g, a + k, none⟩ = some (.int .i64 (xs[k]'hk))) :
    Calls Tryz.prog 310 #[.slice none 0 0, .func (.func 304) #[] #[.pointer (some ⟨b, off, none⟩)]] w fun e w' =>
      ∃ v, e = .returned v ∧ w'.ownsRow w.heap.size (Tryz.laysAp_ren.t 26) 1 v xs.length (xs.map encZ) ∧ (v = .slice none 0 0 ↔ xs = []) ∧ Below w.heap.size w w' := by
  refine (callsIn_wide (n := 5)).1 ?_
  have L := Tryz.laysAp
  have eg : ∀ args w, (callFunc 304 args).run Tryz.prog w = .ok (.enter 304 args) w := enters_of Tryz.func304 (by kernel_rfl) rfl
  obtain ⟨ρ, hρ⟩ : ∃ ρ, Tryz.laysAp_ren = ρ := ⟨_, rfl⟩
  have e11 : ρ.f 11 = 310 := by rw [← hρ]; kernel_rfl
  rw [hρ] at L ⊢
  rw [← e11]
  clear hρ
  have mixed := L.mixed; have t0 := L.t0; have a0 := L.a0; have z0 := L.z0; have v0 := L.v0; have t24 := L.t24; have a24 := L.a24; have z24 := L.z24; have v24 := L.v24; have t26 := L.t26; have a26 := L.a26; have z26 := L.z26; have v26 := L.v26; have t28 := L.t28; have a28 := L.a28; have z28 := L.z28; have v28 := L.v28
  have hne : ρ.t 24 ≠ ρ.t 26 := fun e => by have h := L.t24; rw [e, L.t26] at h; cases h
  have u0 := run_underlying L.t0; have u24 := run_underlying L.t24; have u26 := run_underlying L.t26; have u28 := run_underlying L.t28
  obtain ⟨_, _, FG⟩ := L.f11
  have HC : Hid (w.cell? ⟨b, off, none⟩ = some (.slice (some ⟨g, a, none⟩) xs.length c)) := hcell
  have HX : Hid (∀ k (hk : k < xs.length), w.cell? ⟨g, a + k, none⟩ = some (.int .i64 (xs[k]'hk))) := hxs
  clear hcell hxs e11
  refine callsIn_of_wp_marks FG rfl trivial ?_ rfl
  simp only [SlBodyZ.n11_ntmps ρ, List.size_toArray, List.length_cons, List.length_nil, Nat.reduceAdd, Nat.reduceSub, Array.replicate_succ, Array.replicate_zero, List.push_toArray, List.append_toArray, List.nil_append, List.cons_append]
  gi_wp2
  refine wpIn_rangeFunc ?_
  intro fn hfn
  generalize hsv : (Value.func (.func 304) #[] #[.pointer (some ⟨b, off, none⟩)]) = sv
  obtain ⟨A, hA⟩ : ∃ A, w.alloc (.cells #[.slice none 0 0] (ρ.t 24)) = A := ⟨_, rfl⟩
  have sA : A.heap.size = w.heap.size + 1 := by rw [← hA]; simp
  have vA : A.heap[w.heap.size]? = some (.cells #[.slice none 0 0] (ρ.t 24) (0, 0)) := by rw [← hA]; exact World.alloc_heap_new w _
  have bA : Below w.heap.size w A := by rw [← hA]; exact (Below.refl _ w).alloc (Nat.le_refl _) _
  rw [hA]
  obtain ⟨B, hB⟩ : ∃ B, (A.alloc (.deferred (some []))).alloc (.loop (AnyZI.apRec ρ fn sv w.heap.size A.heap.size .ready none)) = B := ⟨_, rfl⟩
  have keep : ∀ k, k < A.heap.size → B.heap[k]? = A.heap[k]? := fun k hk => by
    rw [← hB]; exact (Below.heap_alloc _ _ k (by simp; omega)).trans (Below.heap_alloc _ _ k hk)
  have bB : Below w.heap.size w B := by rw [← hB]; exact (bA.alloc bA.size _).alloc (by have := bA.size; simp; omega) _
  have sB : B.heap.size = A.heap.size + 2 := by rw [← hB]; simp
  have start : AnyZI.ApAt ρ w fn sv w.heap.size (A.heap.size + 1) A.heap.size [] B :=
    ⟨⟨_, (keep w.heap.size (by omega)).trans vA, ⟨rfl, .inl ⟨rfl, rfl⟩⟩, by simp⟩,
     by rw [← hB]; have := World.alloc_heap_new (A.alloc (.deferred (some []))) (.loop (AnyZI.apRec ρ fn sv w.heap.size A.heap.size .ready none)); rwa [World.size_alloc] at this,
     by rw [← hB]; exact (Below.heap_alloc _ _ _ (by simp)).trans (World.alloc_heap_new A _), bB⟩
  have Hh : Hid (sv = Value.func (.func 304) #[] #[.pointer (some ⟨b, off, none⟩)]) := hsv.symm
  refine ⟨A.heap.size + 1, [{ target := .collected A.heap.size, args := #[] }], B, { target := .fn (.func 304) #[.pointer (some ⟨b, off, none⟩)], args := #[.func (.yield (A.heap.size + 1)) #[] #[]] }, B, 304,
    #[.func (.yield (A.heap.size + 1)) #[] #[]] ++ #[.pointer (some ⟨b, off, none⟩)], B, ?_, ?_, ?_, ?_, fun _ => by omega, ?_⟩
  · rw [← hB]; exact run_enterLoop_outer _ _ _ _ _
  · rw [Hh.out]; simp [resolve, go_sem]
  · intro f' hf'; trivial
  · simp [invoke, go_sem, eg]
  · have hb' : b < w.heap.size := hb
    have walk := Tryz.values_walk Fence.wide 4 trivial rfl (by omega) b off g a c xs (A.heap.size + 1) (AnyZI.ApAt ρ w fn sv w.heap.size (A.heap.size + 1) A.heap.size) B (by unfold maxLen; omega)
      (fun s W1 h => (h.below.cell (p := ⟨b, off, none⟩) hb).trans HC.out) (fun s W1 h k hk => (h.below.cell (p := ⟨g, a + k, none⟩) hg).trans (HX.out k hk))
      (fun pre x W1 h hl => by
        have := AnyZI.apYield { L with } Fence.wide 3 w fn hfn sv w.heap.size (A.heap.size + 1) A.heap.size (by omega) (by omega) (by omega) (Nat.le_refl _) (by omega) xs.length (by unfold maxLen; omega) (by omega) pre x W1 h hl
        obtain ⟨fn', tmps, assign, body, g1, g2⟩ := this
        exact ⟨fn', tmps, assign, body, g1, g2.mono fun e W' h => ⟨h.1, h.2.1⟩⟩) start
    refine walk.mono ?_
    rintro e W2 ⟨⟨v0, rfl⟩, h2⟩
    obtain ⟨v, hv, hrow, hnil⟩ := h2.box
    have hend := run_endLoop (P := Tryz.prog) h2.L (by simp [AnyZI.apRec])
    obtain ⟨W3, hW3⟩ : ∃ W3, W2.putObj (A.heap.size + 1) (.loop { AnyZI.apRec ρ fn sv w.heap.size A.heap.size .ready none with state := .exhausted }) = W3 := ⟨_, rfl⟩
    rw [hW3] at hend
    have g3 : W2.grownBy W3 (some (A.heap.size + 1)) := by rw [← hW3]; exact grownBy_putObj_a _ _ _
    have v3 : W3.heap[w.heap.size]? = some (.cells #[v] (ρ.t 24) (0, 0)) := by rw [← hW3]; exact (World.putObj_heap_other (by omega)).trans hv
    have k3 : W3.heap[A.heap.size]? = some (.deferred (some [])) := by rw [← hW3]; exact (World.putObj_heap_other (by omega)).trans h2.K
    have r3 := hrow.kept g3 (ownsRow_ne_a hrow h2.L (fun cur e => by first | cases e | exact hne (Obj.cells.inj e).2.1))
    have b3 : Below w.heap.size w W3 := h2.below.grown g3 h2.below.size (fun k e => by cases e; omega)
    obtain ⟨hc3, hf3⟩ := cell_of_box_a v3
    clear hW3
    refine ⟨none, W3, hend, ?_⟩
    gi_wp2
    rw [← sA]
    refine ⟨by simp, .inl ⟨_, _, rfl, run_takeDeferred k3, ?_⟩⟩
    exact ⟨_, results_tmp rfl _ _ _, v, rfl, r3.kept (grownBy_putObj_a _ _ _) (ownsRow_ne_a r3 k3 (fun cur e => by first | cases e | exact hne (Obj.cells.inj e).2.1)), hnil, b3.grown (grownBy_putObj_a _ _ _) b3.size (fun k e => by cases e; omega)⟩
end Go.Proofs
