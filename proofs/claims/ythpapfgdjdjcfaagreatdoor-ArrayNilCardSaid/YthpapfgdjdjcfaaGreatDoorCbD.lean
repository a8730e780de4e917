/- The quiet operations: the model's come to the same. -/
import Derived.Test.YthpapfgdjdjcfaaGreatDoorCbC
set_option linter.unusedVariables false
set_option linter.unusedSimpArgs false
namespace Go.Cb
open Go.RowKit
section
variable {P : Program} {μ : Mu}

theorem optA_spec {tm : Operand → Option V} {ρ : Operand → Value} (hρ : ∀ x v, tm x = some v → VR μ v (ρ x)) {x : Option Operand} {r : Option V} (h : optA tm x = some r) :
    (∀ v, r = some v → ∃ c, x.map ρ = some c ∧ VR μ v c) ∧ (r = none → x.map ρ = none) := by
  cases x with
  | none => cases h; exact ⟨by simp, by simp⟩
  | some x =>
    simp only [optA] at h
    split at h <;> first | (cases h; done) | skip
    rename_i v hv
    cases h
    exact ⟨fun u hu => by cases hu; exact ⟨_, rfl, hρ _ _ hv⟩, by simp⟩

theorem avals_args {tm : Operand → Option V} {ρ : Operand → Value} (hρ : ∀ x v, tm x = some v → VR μ v (ρ x)) {xs : Array Operand} {l : List V} (h : avals tm xs.toList = some l) :
    ∃ m, xs.map ρ = ⟨m⟩ ∧ VRs μ l m := ⟨xs.toList.map ρ, by apply Array.ext'; simp, avals_spec hρ h⟩

theorem run_value {s : Sem Value} {u : Value} {w w' : World} (h : s.run P w = .ok u w') : (do pure (Next.value (← s)) : Sem Next).run P w = .ok (.value u) w' := by
  simp only [Sem.run_bind, h, Result.andThen_ok, Sem.run_pure]

theorem pureOp_sound {o : Oper} {tm : Operand → Option V} {ρ : Operand → Value} {v : V} (hρ : ∀ x v, tm x = some v → VR μ v (ρ x)) (h : pureOp P tm o.op = some v) :
    ∃ u, VR μ v u ∧ ∀ w, (execOp ρ o).run P w = .ok (.value u) w := by
  obtain ⟨dst, op, type, pos, after, guard⟩ := o
  simp only at h
  cases op <;> simp only [pureOp] at h <;> first | (cases h; done) | skip
  case move x => exact ⟨_, hρ _ _ h, fun w => rfl⟩
  case assign x => exact ⟨_, hρ _ _ h, fun w => rfl⟩
  case pick c a b =>
    split at h <;> first | (cases h; done) | skip
    · rename_i hc
      have hc := hρ _ _ hc
      simp only [VR] at hc
      exact ⟨_, hρ _ _ h, fun w => by simp [execOp, hc, asBool]⟩
    · rename_i hc
      have hc := hρ _ _ hc
      simp only [VR] at hc
      exact ⟨_, hρ _ _ h, fun w => by simp [execOp, hc, asBool]⟩
  case nilCheck x =>
    split at h <;> first | (cases h; done) | skip
    · rename_i hc
      have hc := hρ _ _ hc
      cases h
      have hc' := hc
      simp only [VR] at hc
      obtain ⟨L, hL, e⟩ := hc
      exact ⟨_, hc', fun w => by simp [execOp, e]⟩
    · rename_i hc
      have hc := hρ _ _ hc
      cases h
      have hc' := hc
      simp only [VR] at hc
      obtain ⟨l1, l2, e, _⟩ := hc
      exact ⟨_, hc', fun w => by simp [execOp, e]⟩
  case binOp op t x y ty =>
    split at h <;> first | (cases h; done) | skip
    rename_i a b ha hb
    have hx := hρ _ _ ha
    have hy := hρ _ _ hb
    obtain ⟨u, hu, hr⟩ := binV_sound h hx hy
    refine ⟨u, hu, fun w => ?_⟩
    have hg := eqGuard_sound (P := P) (t := t) (op := op) hx hy (fun e => by subst e; exact binV_ni h) (fun xs ys e1 e2 => by subst e1; subst e2; exact binV_flat h) x y w
    show (do pure (Next.value (← (do eqGuard op t x y (ρ x) (ρ y); binOp op t (ρ x) (ρ y)))) : Sem Next).run P w = _
    exact run_value (by simp only [Sem.run_bind, hg, Result.andThen_ok, hr w])
  case unOp op t x =>
    split at h <;> first | (cases h; done) | skip
    rename_i a ha
    obtain ⟨u, hu, hr⟩ := unV_sound (P := P) h (hρ _ _ ha)
    exact ⟨u, hu, fun w => run_value (hr w)⟩
  case convert s d x =>
    split at h <;> first | (cases h; done) | skip
    rename_i a ha
    obtain ⟨u, hu, hr⟩ := convV_sound (P := P) h (hρ _ _ ha)
    exact ⟨u, hu, fun w => run_value (hr w)⟩
  case slice t x lo hi mx =>
    split at h <;> first | (cases h; done) | skip
    rename_i a ha
    split at h <;> first | (cases h; done) | skip
    rename_i l hh m e1 e2 e3
    obtain ⟨a1, a2⟩ := optA_spec hρ e1
    obtain ⟨b1, b2⟩ := optA_spec hρ e2
    obtain ⟨c1, c2⟩ := optA_spec hρ e3
    obtain ⟨u, hu, hr⟩ := sliceV_sound (P := P) h (hρ _ _ ha) a1 a2 b1 b2 c1 c2
    exact ⟨u, hu, fun w => run_value (hr w)⟩
  case fieldAddr t x f =>
    split at h <;> first | (cases h; done) | skip
    rename_i a ha
    obtain ⟨u, hu, hr⟩ := fieldAddrV_sound (P := P) h (hρ _ _ ha)
    exact ⟨u, hu, fun w => run_value (hr w)⟩
  case field t x f =>
    split at h <;> first | (cases h; done) | skip
    rename_i a ha
    obtain ⟨u, hu, hr⟩ := fieldV_sound (P := P) h (hρ _ _ ha)
    exact ⟨u, hu, fun w => run_value (hr w)⟩
  case indexAddr t x i =>
    split at h <;> first | (cases h; done) | skip
    rename_i a b ha hb
    obtain ⟨u, hu, hr⟩ := indexAddrV_sound (P := P) h (hρ _ _ ha) (hρ _ _ hb)
    exact ⟨u, hu, fun w => run_value (hr w)⟩
  case index t x i =>
    split at h <;> first | (cases h; done) | skip
    rename_i a b ha hb
    obtain ⟨u, hu, hr⟩ := indexV_sound (P := P) h (hρ _ _ ha) (hρ _ _ hb)
    exact ⟨u, hu, fun w => run_value (hr w)⟩
  case extract x i =>
    split at h <;> first | (cases h; done) | skip
    rename_i vs hv
    have hx := hρ _ _ hv
    simp only [VR] at hx
    obtain ⟨l, e, hl⟩ := hx
    obtain ⟨c, hc, hr⟩ := hl.get h
    exact ⟨c, hr, fun w => run_value (by simp [Instr.extract, e, hc])⟩
  case build t ps =>
    split at h <;> first | (cases h; done) | skip
    rename_i l hl
    obtain ⟨u, hu, hr⟩ := buildV_sound (P := P) hρ hl h
    exact ⟨u, hu, fun w => run_value (hr w)⟩
  case makeFunc fn fs cs =>
    split at h <;> first | (cases h; done) | skip
    rename_i n l m e1 e2 e3
    cases h
    cases fn <;> simp only [fnOf] at e1 <;> first | (cases e1; done) | skip
    cases e1
    obtain ⟨l1, h1, r1⟩ := avals_args hρ e2
    obtain ⟨l2, h2, r2⟩ := avals_args hρ e3
    exact ⟨.func (.func n) ⟨l1⟩ ⟨l2⟩, by simp only [VR]; exact ⟨l1, l2, rfl, r1, r2⟩, fun w => run_value (by simp [Instr.makeFunc, h1, h2])⟩
  case call c =>
    obtain ⟨callee, args, argTypes⟩ := c
    cases callee <;> first | (cases h; done) | skip
    rename_i b
    simp only at h
    cases b <;> simp only [pureB] at h <;> first | (cases h; done) | skip
    case len =>
      split at h <;> first | (cases h; done) | skip
      rename_i x t hx ht
      split at h <;> first | (cases h; done) | skip
      rename_i a ha
      have e0 : argTypes[0]? = some t := toList_get (by rw [ht]; rfl)
      have e1 : args.map ρ = #[ρ x] := by apply Array.ext'; simp [hx]
      obtain ⟨u, hu, hr⟩ := lenV_sound (P := P) (tt := type) h (hρ _ _ ha) e0
      refine ⟨u, hu, fun w => ?_⟩
      have := run_value (P := P) (hr w)
      simp only [execOp, resolve, e1, Sem.run_bind, Sem.run_pure, Result.andThen_ok, invoke, builtin]
      simpa using this
    case max =>
      split at h <;> first | (cases h; done) | skip
      rename_i l hl
      obtain ⟨m, hm, hr⟩ := avals_args hρ hl
      cases l with
      | nil => cases h
      | cons v0 l =>
        simp only [VRs] at hr
        obtain ⟨c0, cs0, rfl, h0, hr⟩ := hr
        cases v0 <;> simp only [foldInts] at h <;> first | (cases h; done) | skip
        simp only [VR] at h0; subst h0
        obtain ⟨u, hu, hrun⟩ := foldI_max (P := P) h hr
        refine ⟨u, hu, fun w => ?_⟩
        have := run_value (P := P) (hrun w)
        simp only [execOp, resolve, hm, Sem.run_bind, Sem.run_pure, Result.andThen_ok, invoke, builtin, Builtin.max_]
        simpa using this
    case min =>
      split at h <;> first | (cases h; done) | skip
      rename_i l hl
      obtain ⟨m, hm, hr⟩ := avals_args hρ hl
      cases l with
      | nil => cases h
      | cons v0 l =>
        simp only [VRs] at hr
        obtain ⟨c0, cs0, rfl, h0, hr⟩ := hr
        cases v0 <;> simp only [foldInts] at h <;> first | (cases h; done) | skip
        simp only [VR] at h0; subst h0
        obtain ⟨u, hu, hrun⟩ := foldI_min (P := P) h hr
        refine ⟨u, hu, fun w => ?_⟩
        have := run_value (P := P) (hrun w)
        simp only [execOp, resolve, hm, Sem.run_bind, Sem.run_pure, Result.andThen_ok, invoke, builtin, Builtin.min_]
        simpa using this
end
end Go.Cb
