/- Functions: what their text comes to is what a call comes to. -/
import Derived.Test.YthpapfgdjdjcfaaGreatDoorCbR
set_option linter.unusedVariables false
set_option linter.unusedSimpArgs false
namespace Go.Cb
open Go.RowKit

def resK (P : Program) : List ResultVar → Tr V → (List V → M V) → M V
  | [], _, k => k []
  | .tmp t :: rs, tm, k => optM (tm.get t) fun v => resK P rs tm fun vs => k (v :: vs)
  | .cell a ty :: rs, tm, k => match shapeOf P ty, tm.get a with
    | some (ag, n), some x => rdM (ld ag n x) fun v => resK P rs tm fun vs => k (v :: vs)
    | _, _ => failM

def pack : List V → M V
  | [v] => pureM v
  | vs => pureM (.t vs)

def ofFrom : Nat → Nat → List Nat
  | _, 0 => []
  | i, n + 1 => i :: ofFrom (i + 1) n

/-- A function. -/
def evFn (P : Program) (Φ : Calls') (N : Nat) (f arity : Nat) (an : An) (args : List V) : M V := match P.funcs[f]? with
  | some fn => match fn.body with
    | some c => cond (Nat.ble arity fn.ntmps) (ofL (ofFrom 0 arity) args .e fun tm => evC P Φ fn.ntmps N an c tm (fun tm => resK P fn.results.toList tm pack) (fun _ _ => failM) (fun tm => resK P fn.results.toList tm pack)) failM
    | none => failM
  | none => failM

def entered (P : Program) (f : Nat) : Bool := match P.funcs[f]? with
  | some fn => !(fn.name == "runtime.NumGoroutine") && fn.body.isSome
  | none => false

section
variable {P : Program} {W0 : World} {Φ : Calls'} {N : Nat}

theorem entered_spec {f : Nat} (h : entered P f = true) (args : Array Value) (w : World) : (callFunc f args).run P w = .ok (.enter f args) w := by
  unfold entered at h
  cases hf : P.funcs[f]? with
  | none => rw [hf] at h; cases h
  | some fn =>
    simp only [hf, Bool.and_eq_true, Bool.not_eq_true'] at h
    have hb : ¬ fn.body = none := by
      intro hb; rw [hb] at h; simp at h
    have hn : ¬ fn.name = "runtime.NumGoroutine" := by
      intro hn; rw [hn] at h; simp at h
    simp [callFunc, go_sem, hf, hb, hn]

theorem ofFrom_inv {α : Type} {k : Tr V → M α} {h : H} {r : α × H} : ∀ {n i : Nat} {vs : List V} {tm : Tr V}, ofL (ofFrom i n) vs tm k h = some r →
    vs.length = n ∧ ∃ tm', (∀ t v, tm'.get t = some v → tm.get t = some v ∨ (i ≤ t ∧ vs[t - i]? = some v)) ∧ k tm' h = some r
  | 0, i, vs, tm, e => by
    obtain ⟨rfl, e⟩ := unn_inv e
    exact ⟨rfl, tm, fun t v h => .inl h, e⟩
  | n + 1, i, vs, tm, e => by
    obtain ⟨v, us, rfl, e⟩ := unc_inv e
    obtain ⟨h1, tm', h2, h3⟩ := ofFrom_inv (n := n) e
    refine ⟨by simp [h1], tm', fun t u hu => ?_, h3⟩
    rcases h2 t u hu with h4 | ⟨h4, h5⟩
    · by_cases et : t = i
      · subst et; rw [Tr.get_set_same] at h4; cases h4; exact .inr ⟨Nat.le_refl _, by simp⟩
      · rw [Tr.get_set_ne _ _ et] at h4; exact .inl h4
    · refine .inr ⟨by omega, ?_⟩
      have : t - i = (t - (i + 1)) + 1 := by omega
      rw [this]; simpa using h5

def resOne (tmps : Array Value) : ResultVar → Sem Value
  | .tmp t => pure (tmps.getD t undef)
  | .cell a t => do loadVar t (← asAddr (tmps.getD a undef))

theorem resK_sound {μ : Mu} {w : World} {tm : Tr V} {a : Act} : ∀ {rs : List ResultVar} {k : List V → M V} {h : H} {r : V × H}, Sim W0 μ h w → FR μ tm a → resK P rs tm k h = some r →
    ∃ vs l, k vs h = some r ∧ VRs μ vs l ∧ (rs.mapM (resOne a.tmps)).run P w = .ok l w
  | [], k, h, r, s, f, e => ⟨[], [], e, VRs.nil, by simp⟩
  | .tmp t :: rs, k, h, r, s, f, e => by
    unfold resK at e
    cases ht : tm.get t with
    | none => simp only [ht, optM] at e; cases e
    | some v =>
      simp only [ht, optM] at e
      obtain ⟨vs, l, h1, h2, h3⟩ := resK_sound s f e
      refine ⟨v :: vs, a.tmps.getD t undef :: l, h1, VRs.cons (f t v ht) h2, ?_⟩
      simp only [List.mapM_cons, resOne, Sem.run_bind, Sem.run_pure, Result.andThen_ok, h3]
  | .cell ad ty :: rs, k, h, r, s, f, e => by
    unfold resK at e
    cases hs : shapeOf P ty with
    | none => simp only [hs] at e; cases e
    | some q =>
      obtain ⟨ag, n⟩ := q
      cases ht : tm.get ad with
      | none => simp only [hs, ht] at e; cases e
      | some x =>
        simp only [hs, ht, rdM] at e
        cases hl : ld ag n x h with
        | none => simp only [hl] at e; cases e
        | some v =>
          simp only [hl] at e
          obtain ⟨vs, l, h1, h2, h3⟩ := resK_sound s f e
          obtain ⟨u, hu, hrun⟩ := ld_sound hs s hl (f ad x ht)
          refine ⟨v :: vs, u :: l, h1, VRs.cons hu h2, ?_⟩
          have hx := f ad x ht
          cases x <;> simp only [ld] at hl <;> first | (cases hl; done) | skip
          simp only [VR] at hx
          obtain ⟨L, _, hc⟩ := hx
          rw [hc] at hrun
          simp only [Instr.loadAt, Instr.sureAddr, Sem.run_bind, Sem.run_pure, Result.andThen_ok] at hrun
          simp only [List.mapM_cons, resOne, asAddr, hc, Sem.run_bind, Sem.run_pure, Result.andThen_ok, hrun, h3]

def packC : List Value → Value
  | [v] => v
  | l => .tuple ⟨l⟩

theorem results_run {fn : Func} {tmps : Array Value} {w : World} {l : List Value} (h : (fn.results.toList.mapM (resOne tmps)).run P w = .ok l w) : (results fn tmps).run P w = .ok (packC l) w := by
  have he : results fn tmps = (do
      let vs ← fn.results.mapM (resOne tmps)
      pure (if h : vs.size = 1 then vs[0] else .tuple vs)) := by
    unfold results
    congr 1
  rw [he, Array.mapM_eq_mapM_toList]
  simp only [Sem.run_bind, Sem.run_map, h, Result.andThen_ok, Sem.run_pure]
  match l with
  | [] => rfl
  | [v] => rfl
  | v :: u :: l => rfl

theorem pack_sound {μ : Mu} {vs : List V} {l : List Value} {h : H} {v : V} {h' : H} (e : pack vs h = some (v, h')) (hl : VRs μ vs l) : h' = h ∧ VR μ v (packC l) := by
  match vs, hl, e with
  | [], hl, e => simp only [VRs] at hl; subst hl; cases e; exact ⟨rfl, by simp [packC, VR, VRs]⟩
  | [x], hl, e =>
    simp only [VRs] at hl
    obtain ⟨c, cs, rfl, h1, rfl⟩ := hl
    cases e; exact ⟨rfl, h1⟩
  | x :: y :: xs, hl, e =>
    have hl' := hl
    simp only [VRs] at hl
    obtain ⟨c, cs, rfl, h1, c2, cs2, rfl, h2, h3⟩ := hl
    cases e
    exact ⟨rfl, by simp only [packC, VR]; exact ⟨_, rfl, hl'⟩⟩

theorem evFn_sound (hΦ : AllGood P W0 Φ) (hm : P.follows .mixedOrders = true) {f arity : Nat} {an : An} : Sound P W0 f (evFn P Φ N f arity an) := by
  intro args h v h' e μ w cargs s hargs
  unfold evFn at e
  cases hf : P.funcs[f]? with
  | none => simp only [hf] at e; cases e
  | some fn =>
  cases hb : fn.body with
  | none => simp only [hf, hb] at e; cases e
  | some c =>
  simp only [hf, hb] at e
  cases hle : Nat.ble arity fn.ntmps with
  | false => rw [hle] at e; cases e
  | true =>
  rw [hle] at e
  simp only [cond_true] at e
  obtain ⟨hlen, tm, ht, e⟩ := ofFrom_inv e
  have hle' := Nat.le_of_ble_eq_true hle
  have hcl : cargs.size = arity := by rw [← hlen, ← hargs.length]; simp
  have st : St W0 fn.ntmps μ h w tm { tmps := cargs ++ Array.replicate (fn.ntmps - cargs.size) undef, defers := [] } := by
    refine ⟨s, fun t u hu => ?_, by simp; omega, rfl⟩
    rcases ht t u hu with h1 | ⟨_, h1⟩
    · cases h1
    · obtain ⟨c, hc, hv⟩ := hargs.get h1
      have hc' : cargs[t]? = some c := by simpa using hc
      have hlt : t < cargs.size := (Array.getElem?_eq_some_iff.1 hc').1
      rw [Array.getD_eq_getD_getElem?, Array.getElem?_append_left hlt, hc']
      exact hv
  have fin : ∀ tm' h1 μ' a' w', resK P fn.results.toList tm' pack h1 = some (v, h') → Later μ h μ' h1 → St W0 fn.ntmps μ' h1 w' tm' a' →
      a'.defers = [] ∧ ∃ u, (results fn a'.tmps).run P w' = .ok u w' ∧ ∃ c μ', Ending.returned u = .returned c ∧ VR μ' v c ∧ (∀ i, i < h.next → μ' i = μ i) ∧ Sim W0 μ' h' w' ∧ h.next ≤ h'.next := by
    intro tm' h1 μ' a' w' hres lt st'
    obtain ⟨vs, l, h2, h3, h4⟩ := resK_sound st'.sim st'.fr hres
    obtain ⟨rfl, h5⟩ := pack_sound h2 h3
    exact ⟨st'.defers, _, results_run h4, _, μ', rfl, h5, lt.1, st'.sim, lt.2⟩
  exact calls_of_wp hf hb (evC_sound hΦ hm an c tm _ _ _ (v, h') μ h w _ _ st e ⟨fun tm' h1 μ' a' w' g1 g2 g3 => fin _ _ _ _ _ g1 g2 g3, fun id tm' h1 μ' a' w' g1 => (by cases g1), fun tm' h1 μ' a' w' g1 g2 g3 => fin _ _ _ _ _ g1 g2 g3⟩)
end
end Go.Cb
