/- corbellaw17.ArrayNil answers true at every input: the row, and the card. -/
import Derived.Test.YthpapfgdjdjcfaaGreatDoorCbShN
import Derived.Test.YthpapfgdjdjcfaaGreatDoorCbShF
set_option linter.unusedVariables false
set_option linter.unusedSimpArgs false
namespace Go.Cb.Sh
open Go.Cb Go.RowKit Go.Proofs

theorem zsEq : ((List.range 16).all fun i => (([0, 274646895, 549293790, 820201905, 1098587580, 1361435347, 1640403810, 1905808397, 2197175160, 2460548119, 2722870694, 2987750089, 3280807620, 3553878443, 3811616794, 4084100981] : List Int).getD i 0) == ((nibAt i : Nat) : Int)) = true := by kernel_rfl

/-- The row's condition lays the table of sums. -/
theorem start_of_laid {rest : List (String × DataW Unit)} {W : World} (h : laidMet Tryz.prog (("corbel/crc.nibbles", Lib.tabData .u32 [0, 274646895, 549293790, 820201905, 1098587580, 1361435347, 1640403810, 1905808397, 2197175160, 2460548119, 2722870694, 2987750089, 3280807620, 3553878443, 3811616794, 4084100981]) :: rest) W) : Start W := by
  have hg : Tryz.prog.globalNamed "corbel/crc.nibbles" = some 0 := by kernel_rfl
  have hT := Lib.tabIs_of_head hg (show (Tryz.prog.globals[0]?).map (·.type) = some 382 by kernel_rfl) (show Tryz.prog.underlying 382 = some (.array 16 335) by kernel_rfl) (show Tryz.prog.underlying 335 = some (.int .u32) by kernel_rfl) (by kernel_rfl) (by kernel_rfl) h
  have key : ∀ i, i < 16 → W.cell? ⟨0, i, none⟩ = some (.int .u32 (nibAt i)) := by
    intro i hi
    have h1 := hT.cell hg i (by simpa using hi)
    have h2 := List.all_eq_true.1 zsEq i (List.mem_range.2 hi)
    rw [h1, eq_of_beq h2]
  refine ⟨?_, key⟩
  have h0 := key 0 (by omega)
  unfold World.cell? at h0
  rcases Nat.lt_or_ge 0 W.heap.size with h | h
  · exact h
  · rw [show W.heap[(⟨0, 0, none⟩ : Addr).block]? = none from Array.getElem?_eq_none h] at h0
    cases h0

theorem arrayNil_calls (kind z : Int) (W : World) (hW : Start W) : Calls Tryz.prog 3 #[.int .i64 kind, .int .i64 z] W fun e w' => e = .returned (.bool true) ∧ Below W.heap.size W w' := by
  obtain ⟨h', hr⟩ := yes_some (nil_true kind z)
  have g := (G_corbellaw17_ArrayNil W hW 100000 (Ph 20) (Ph_good W hW 20)).2
  refine (g _ _ _ _ hr (fun _ => none) W #[.int .i64 kind, .int .i64 z] (sim_nil W) (VRs.cons (by simp [VR]) (VRs.cons (by simp [VR]) VRs.nil))).mono ?_
  rintro e w' ⟨c, μ', rfl, hv, _, hs, _⟩
  simp only [VR] at hv
  exact ⟨by rw [hv], hs.bel⟩
end Go.Cb.Sh

namespace Go.Proofs.YthpapfgdjdjcfaaGreatDoor
open Go.ChangeShapes Go.WideShapes Go.ChangeAt Go.RowKit

theorem own : ownKnob Tryz.prog.godebug = none := by kernel_rfl

section
variable {H : Type} {enc : TypeId × Value → H} {P : Program}
/-- The row's end, where old memory is as it was. -/
theorem post_low {f : Func} {s : ChangeSpec} {W W' : World} {args : Array Value} {v : Value} {ds gs : List (DataW H)} {before : List MemPlace}
    (hW : DataW.Whole enc P f.params.toList s.vars false W args.toList ds gs before)
    (hres : ∀ (b : Nat) (sp : Nat → Bool) (hd : Bool), DataW.TrodAll enc P W' b sp hd f.resultTypes.toList (v.resultList f.resultTypes.size) (s.fn H (ds ++ gs)).results [])
    (hargs : ∀ sp : Nat → Bool, (∀ p ∈ before, sp p.block = true) → DataW.TrodAll enc P W' 0 sp true f.params.toList args.toList (s.fn H (ds ++ gs)).args before)
    (hvars : ∀ sp : Nat → Bool, DataW.TrodVars enc P W' sp s.vars (s.fn H (ds ++ gs)).vars [])
    (hb : Below W.heap.size W W') : s.post enc P f false true false false W args v W' := by
  have hlt : ∀ p ∈ before, p.block < W.heap.size := fun p hp => hW.lt p hp
  exact ⟨ds, gs, before, [], before, [], hW, hres _ _ _, hargs _ fun p hp => by simpa using hlt p hp, hvars _, World.keptBut_mono (fun p hp => ⟨hp, Or.inr (Or.inl hp)⟩) (hb.frame (· ∈ before)), fun h => by cases h⟩
end

set_option maxRecDepth 100000 in
theorem arrayNil_lifted (os : Os) (started : os.Started) (H : Type) (enc : TypeId × Value → H) :
    ReturnsInHanded {} Tryz.checked os 3 .any (fun w args => (Rows.arrayNilSpec.pre enc Tryz.prog Tryz.f3 Rows.arrayNilRow.domain false w args ∧ laidMetH Tryz.prog Rows.arrayNilRow.laid w) ∧ sizedMet enc Tryz.prog Tryz.f3 (OpenSpec.ofChange Rows.arrayNilSpec) false w args)
      (Rows.arrayNilSpec.post enc Tryz.prog Tryz.f3 false true false false) := by
  refine returnsInHanded_of_change_and (C := Tryz.checked) (X := fun w _ => laidMetH Tryz.prog Rows.arrayNilRow.laid w) (fun _ _ _ hh h => h.of_heap hh) own started (by kernel_rfl) Tryz.func3
    (ChangeSpec.witness_shaped (enc := enc) (C := Tryz.checked) (os := os) (X := fun w _ => laidMetH Tryz.prog Rows.arrayNilRow.laid w) false (World.laidAll Tryz.prog os Rows.arrayNilRow.laid) #[.int .i64 0, .int .i64 0] 8 (World.laidAll_os _ _ _)
      (World.shaped_of_ZipB (by kernel_rfl) (by kernel_rfl)) (by kernel_rfl) (by kernel_rfl) (by kernel_rfl)
      (by rw [MakeChecks.laidMetH_plain _ _ _ (by kernel_rfl)]; exact laidMet_laidAll _ (by kernel_rfl) (by kernel_rfl))) ?_
  intro W base args ds gs before hval0 hW _ _ hL _
  have hval : ∀ (j : Nat) t v, Tryz.f3.params[j]? = some t → args[j]? = some v → Value.okWide Tryz.prog W .any base t v := hval0
  have hW' := hW
  obtain ⟨p, q, hA0, hV, rfl, _, _⟩ := hW
  have hA : DataW.TrodAll enc Tryz.prog W 0 (fun _ => true) true Tryz.f3.params.toList args.toList ds p := hA0
  rw [Tryz.params3] at hA hval
  obtain ⟨v0, v1, d0, d1, p0, p1, rfl, rfl, rfl, h0, h1⟩ := trodAll_two hA
  obtain ⟨rfl, rfl⟩ := trodVars_none hV
  obtain ⟨x, rfl, rfl, rfl, wx⟩ := open_int Tryz.underlying3 (hval 0 3 v0 rfl rfl) h0
  obtain ⟨y, rfl, rfl, rfl, wy⟩ := open_int Tryz.underlying3 (hval 1 3 v1 rfl rfl) h1
  simp only [List.append_nil] at hW'
  rw [MakeChecks.laidMetH_plain _ _ _ (by kernel_rfl)] at hL
  refine (Go.Cb.Sh.arrayNil_calls x y W (Go.Cb.Sh.start_of_laid hL)).mono fun e W' ⟨he, hb⟩ => ?_
  subst he
  exact ⟨_, rfl, post_low hW' (fun _ _ _ => trodAll_mk1 (shut_bool Tryz.underlying4 _)) (fun sp _ => trodAll_mk2 (shut_int Tryz.underlying3 wx) (shut_int Tryz.underlying3 wy)) (fun _ => rfl) hb⟩

theorem arrayNil_holds : Rows.ArrayNilSaid :=
  OpenClaim.holds_of_wide 3 Tryz.f3 rfl rfl rfl rfl rfl rfl rfl ⟨rfl, rfl, rfl, rfl, rfl⟩ rfl rfl rfl rfl rfl (by kernel_rfl) Tryz.func3 arrayNil_facts
    (of_decide_eq_true (by kernel_rfl)) (by unfold Func.isWrapper; rw [if_neg (of_decide_eq_false (by kernel_rfl))]; exact ⟨rfl, rfl⟩)
    (fun os started H enc _ => arrayNil_lifted os started H enc)
theorem arrayNil_card : Rows.ArrayNilCardSaid :=
  Claim7.holds_tied_plain_at .later [] [.data, .data, .pinned] true (true, "ad52b9e727a7238da44213dbca2ff164ed65595c9a0bb107bd01fab538b6e627") false arrayNil_holds (fun _ h => by cases h) (by as_aux_lemma => kernel_rfl) (fun _ h => by cases h) arrayNil_row_tie rfl ⟨rfl, rfl⟩ (by as_aux_lemma => kernel_rfl) rfl
    (fun f fn hf hfn => by
      obtain rfl : f = 3 := Option.some.inj ((show Tryz.prog.funcNamed "corbel/corbellaw17.ArrayNil" = some 3 by kernel_rfl).symm.trans hf) |>.symm
      obtain rfl : fn = Tryz.f3 := (Option.some.inj (Tryz.func3.symm.trans hfn)).symm
      exact ⟨by kernel_rfl, fun j t ht => by
        rw [Tryz.params3] at ht
        have hm : t ∈ [3, 3] := by simpa using Array.mem_of_getElem? ht
        have hall : ([3, 3].all fun u => !Tryz.prog.wantsStandIn u) = true := by kernel_rfl
        exact (show Tryz.prog.wantsStandIn t = false by simpa using List.all_eq_true.1 hall t hm)⟩)
    (by as_aux_lemma => kernel_rfl)
#print axioms arrayNil_card
end Go.Proofs.YthpapfgdjdjcfaaGreatDoor
