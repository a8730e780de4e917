/- The evaluator is right: operations, and regions in the order of the text. -/
import Derived.Test.YthpapfgdjdjcfaaGreatDoorCbM
set_option linter.unusedVariables false
set_option linter.unusedSimpArgs false
namespace Go.Cb
open Go.RowKit

/-- What a function comes to, whatever the world: 'φ' on the abstract machine. -/
def Sound (P : Program) (W0 : World) (f : FuncId) (φ : List V → M V) : Prop :=
  ∀ args h v h', φ args h = some (v, h') → ∀ μ w (cargs : Array Value), Sim W0 μ h w → VRs μ args cargs.toList →
    Calls P f cargs w fun e w' => ∃ c μ', e = .returned c ∧ VR μ' v c ∧ (∀ i, i < h.next → μ' i = μ i) ∧ Sim W0 μ' h' w' ∧ h.next ≤ h'.next

/-- .. of a function that is entered when it is called. -/
def Good (P : Program) (W0 : World) (f : FuncId) (φ : List V → M V) : Prop :=
  (∀ args w, (callFunc f args).run P w = .ok (.enter f args) w) ∧ Sound P W0 f φ

def AllGood (P : Program) (W0 : World) (Φ : Calls') : Prop := ∀ f φ, Φ f = some φ → Good P W0 f φ

section
variable {P : Program} {W0 : World} {Φ : Calls'} {μ : Mu} {h : H} {w : World} {tm : Tr V} {a : Act}

theorem callOp_sound (hΦ : AllGood P W0 Φ) (s : Sim W0 μ h w) {o : Oper} {ρ : Operand → Option V} (hρ : ∀ x v, ρ x = some v → VR μ v (a.eval x)) {v : V} {h' : H} (hr : callOp Φ ρ o.op h = some (v, h')) {next : Act → World → Prop} {Q : Exit → Act → World → Prop}
    (hk : ∀ u w' μ', VR μ' v u → (∀ i, i < h.next → μ' i = μ i) → Sim W0 μ' h' w' → h.next ≤ h'.next → next (a.put o.dst u) w') : o.wp P a w next Q := by
  obtain ⟨dst, op, type, pos, after, guard⟩ := o
  simp only at hr hk
  cases op <;> simp only [callOp] at hr <;> first | (cases hr; done) | skip
  rename_i c
  obtain ⟨callee, args, argTypes⟩ := c
  cases callee <;> first | (cases hr; done) | skip
  rename_i fo
  simp only at hr
  cases hf : ρ fo with
  | none => simp only [hf] at hr; cases hr
  | some f =>
  cases hl : avals ρ args.toList with
  | none => simp only [hf, hl] at hr; cases hr
  | some l =>
  simp only [hf, hl] at hr
  cases f <;> simp only [callF] at hr <;> first | (cases hr; done) | skip
  rename_i n fs cs
  cases hφ : Φ n with
  | none => simp only [hφ] at hr; cases hr
  | some φ =>
  simp only [hφ] at hr
  obtain ⟨henter, hsound⟩ := hΦ n φ hφ
  have hfv := hρ _ _ hf
  simp only [VR] at hfv
  obtain ⟨l1, l2, hfe, h1, h2⟩ := hfv
  obtain ⟨m, hm, h3⟩ := avals_args hρ hl
  have hargs : VRs μ (fs ++ (l ++ cs)) ((⟨l1⟩ ++ ⟨m⟩ ++ ⟨l2⟩ : Array Value)).toList := by
    have : ((⟨l1⟩ ++ ⟨m⟩ ++ ⟨l2⟩ : Array Value)).toList = l1 ++ (m ++ l2) := by simp
    rw [this]
    exact h1.append (h3.append h2)
  have hcall := hsound _ _ _ _ hr μ w (⟨l1⟩ ++ ⟨m⟩ ++ ⟨l2⟩) s hargs
  unfold Oper.wp
  have hrun : (execOp a.eval { dst, op := .call { callee := .value fo, args, argTypes }, type, pos, after, guard }).run P w = .ok (.enter n (⟨l1⟩ ++ ⟨m⟩ ++ ⟨l2⟩)) w := by
    simp only [execOp, resolve, hm, hfe, Deferred.ofValue, Sem.run_bind, Sem.run_pure, Result.andThen_ok, invoke]
    exact henter _ _
  rw [hrun]
  simp only [Oper.upon]
  refine hcall.mono fun e w' he => ?_
  obtain ⟨c, μ', rfl, hv, hold, hs, hle⟩ := he
  exact hk c w' μ' hv hold hs hle

theorem opM_sound (hΦ : AllGood P W0 Φ) (s : Sim W0 μ h w) {o : Oper} {ρ : Operand → Option V} (hρ : ∀ x v, ρ x = some v → VR μ v (a.eval x)) {v : V} {h' : H} (hr : opM P Φ ρ o.op h = some (v, h')) {next : Act → World → Prop} {Q : Exit → Act → World → Prop}
    (kk : ∀ u w' μ', VR μ' v u → (∀ i, i < h.next → μ' i = μ i) → Sim W0 μ' h' w' → h.next ≤ h'.next → next (a.put o.dst u) w') : o.wp P a w next Q := by
  unfold opM at hr
  have quiet : pureOp P ρ o.op = some v → h' = h → o.wp P a w next Q := by
    intro hp e
    subst e
    obtain ⟨u, hu, hrun⟩ := pureOp_sound hρ hp
    unfold Oper.wp
    rw [hrun w]
    exact kk u w μ hu (fun _ _ => rfl) s (Nat.le_refl _)
  cases hk : kindOf P o.op <;> simp only [hk] at hr
  · cases hp : pureOp P ρ o.op with
    | none => rw [hp] at hr; cases hr
    | some u => rw [hp] at hr; cases hr; exact quiet hp rfl
  · cases hp : pureOp P ρ o.op with
    | none => rw [hp] at hr; cases hr
    | some u => rw [hp] at hr; cases hr; exact quiet hp rfl
  · cases hp : readOp P ρ o.op h with
    | none => rw [hp] at hr; cases hr
    | some u =>
      rw [hp] at hr; cases hr
      obtain ⟨u, hu, hrun⟩ := readOp_sound s hρ hp
      unfold Oper.wp
      rw [hrun]
      exact kk u w μ hu (fun _ _ => rfl) s (Nat.le_refl _)
  · cases hp : allocOp P ρ o.op with
    | none => rw [hp] at hr; cases hr
    | some q =>
      obtain ⟨ob, mk⟩ := q
      rw [hp] at hr; cases hr
      obtain ⟨obj, c, n, hrun, hor⟩ := allocOp_sound (W0 := W0) (w := w) hρ hp s.size
      have hi : μ h.next = none := by
        cases hm : μ h.next with
        | none => rfl
        | some L => exact absurd (s.lt _ _ hm) (Nat.lt_irrefl _)
      obtain ⟨h1, h2⟩ := hor h.next hi
      unfold Oper.wp
      rw [hrun]
      exact kk c _ _ h2 (fun i hi => put_old hi) ((s.new ob).alloc hi (by simp) (H.get_new_same _ _) h1) (by simp)
  · obtain ⟨u, w', μ', hrun, hv, hold, hs, hle⟩ := effOp_sound s hρ hr
    unfold Oper.wp
    rcases hrun with hrun | ⟨hrun, rfl⟩
    · rw [hrun]; exact kk u w' μ' hv hold hs hle
    · rw [hrun]; exact kk undef w' μ' hv hold hs hle
  · exact callOp_sound hΦ s hρ hr kk

/-- One operation of a region. -/
def wpOne (P : Program) (ops : Array Oper) (Q : Exit → Act → World → Prop) (o : Oper) (K : Act → World → Prop) (a : Act) (w : World) : Prop :=
  if Region.wanted o (yielded ops a.tmps) then o.wp P a w K Q ∨ (o.asks P a w ∧ LetsOut Q) else K (a.put o.dst undef) w

theorem boolV_spec {v : Option V} {x : Option Bool} {μ : Mu} {c : Option Value} (h : boolV v = some x) (hv : ∀ u, v = some u → VR μ u (c.getD undef)) : c.bind (fun | .bool b => some b | _ => none) = x := by
  cases v with
  | none => cases h
  | some u =>
    have := hv u rfl
    cases u <;> simp only [boolV] at h <;> first | (cases h; done) | skip
    case b y =>
      cases h
      simp only [VR] at this
      cases c with
      | none => cases this
      | some c => simp only [Option.getD_some] at this; subst this; rfl
    case t vs =>
      cases vs with
      | cons y ys => cases h
      | nil =>
        cases h
        simp only [VR, VRs] at this
        obtain ⟨l, h1, rfl⟩ := this
        cases c with
        | none => rfl
        | some c => simp only [Option.getD_some] at h1; subst h1; rfl

theorem yielded_eq {ops : List Oper} {tmps : Array Value} {j : Nat} {o : Oper} {d : Tmp} (ho : ops[j]? = some o) (hd : o.dst = some d) : yielded ops.toArray tmps j = (tmps[d]?).bind (fun | .bool b => some b | _ => none) := by
  unfold yielded
  simp only [List.getElem?_toArray, ho, Option.bind_some, hd]
  cases tmps[d]? with
  | none => rfl
  | some c => cases c <;> rfl

theorem guardV_spec {ops : List Oper} {j : Nat} {x : Option Bool} (hf : FR μ tm a) (hg : guardV ops tm j = some x) : yielded ops.toArray a.tmps j = x := by
  unfold guardV at hg
  cases ho : ops[j]? with
  | none => simp only [ho] at hg; cases hg
  | some o =>
  cases hd : o.dst with
  | none => simp only [ho, hd] at hg; cases hg
  | some d =>
  simp only [ho, hd] at hg
  rw [yielded_eq ho hd]
  exact boolV_spec hg fun u hu => by have := hf d u hu; rwa [Array.getD_eq_getD_getElem?] at this

theorem wanted_eq {o : Oper} {f : Nat → Option Bool} {j : Nat} {want : Bool} (hg : o.guard = some (j, want)) : Region.wanted o f = okB (f j) want := by
  simp only [Region.wanted, hg]
  cases f j with
  | none => cases want <;> rfl
  | some x => cases x <;> cases want <;> rfl

theorem bindM_inv {β α : Type} {m : M β} {k : β → M α} {h : H} {r : α × H} (hr : bindM m k h = some r) : ∃ v h', m h = some (v, h') ∧ k v h' = some r := by
  unfold bindM at hr
  cases hm : m h with
  | none => rw [hm] at hr; cases hr
  | some q => obtain ⟨v, h'⟩ := q; rw [hm] at hr; exact ⟨v, h', rfl, hr⟩

theorem evOne_sound (hΦ : AllGood P W0 Φ) {α : Type} {ops : List Oper} {o : Oper} {k : V → M α} {r : α × H} (s : Sim W0 μ h w) (hf : FR μ tm a) (hr : evOne P Φ ops o tm k h = some r) {next : Act → World → Prop} {Q : Exit → Act → World → Prop}
    (hk : ∀ v h' u w' μ', k v h' = some r → VR μ' v u → (∀ i, i < h.next → μ' i = μ i) → Sim W0 μ' h' w' → h.next ≤ h'.next → next (a.put o.dst u) w') : wpOne P ops.toArray Q o next a w := by
  unfold wpOne
  cases hg : o.guard with
  | none =>
    simp only [evOne, hg] at hr
    rw [evOp_eq] at hr
    obtain ⟨v, h', hm, hkv⟩ := bindM_inv hr
    have hw : Region.wanted o (yielded ops.toArray a.tmps) = true := by simp [Region.wanted, hg]
    rw [if_pos hw]
    exact .inl (opM_sound hΦ s (fun x v hx => hf.aval hx) hm fun u w' μ' h1 h2 h3 h4 => hk v h' u w' μ' hkv h1 h2 h3 h4)
  | some g =>
    obtain ⟨j, want⟩ := g
    simp only [evOne, hg] at hr
    obtain ⟨v, h', hm, hkv⟩ := bindM_inv hr
    cases hgv : guardV ops tm j with
    | none => simp only [hgv, gdM] at hm; cases hm
    | some x =>
    simp only [hgv, gdM] at hm
    have hy := guardV_spec hf hgv
    cases hx : okB x want with
    | true =>
      rw [hx] at hm
      simp only [cond_true] at hm
      have hw : Region.wanted o (yielded ops.toArray a.tmps) = true := by
        rw [wanted_eq hg, hy, hx] <;> simp
      rw [if_pos hw]
      exact .inl (opM_sound hΦ s (fun x v hx => hf.aval hx) hm fun u w' μ' h1 h2 h3 h4 => hk v h' u w' μ' hkv h1 h2 h3 h4)
    | false =>
      rw [hx] at hm
      simp only [cond_false] at hm
      cases hm
      have hw : ¬ Region.wanted o (yielded ops.toArray a.tmps) = true := by
        rw [wanted_eq hg, hy, hx] <;> simp
      rw [if_neg hw]
      exact hk _ _ undef w μ hkv (by simp [VR, VRs, undef]) (fun _ _ => rfl) s (Nat.le_refl _)

theorem putT_FR {nt : Nat} {d : Option Tmp} {v : V} {u : Value} (hf : FR μ tm a) (hs : a.tmps.size = nt) (hv : VR μ v u) : FR μ (putT nt tm d v) (a.put d u) := by
  cases d with
  | none => exact hf
  | some d =>
    unfold putT
    cases hb : Nat.blt d nt with
    | true =>
      have : d < nt := by rw [Nat.blt_eq] at hb; exact hb
      simp only [hb, cond_true]
      exact hf.put d hv (by rw [hs]; exact this)
    | false =>
      have : ¬ d < nt := by intro hlt; rw [← Nat.blt_eq] at hlt; rw [hlt] at hb; cases hb
      intro t x hx
      simp only [hb, cond_false] at hx
      have hft := hf t x hx
      have hne : a.tmps.setIfInBounds d u = a.tmps := by
        apply Array.ext'
        simp
        rw [List.set_eq_of_length_le]
        simp only [Array.length_toList, hs]; exact Nat.le_of_not_lt this
      simpa [Act.put, hne] using hft

theorem put_size {d : Option Tmp} {u : Value} : (a.put d u).tmps.size = a.tmps.size := by cases d <;> simp [Act.put]
theorem put_defers' {d : Option Tmp} {u : Value} : (a.put d u).defers = a.defers := by cases d <;> rfl

/-- A state of a frame. -/
structure St (W0 : World) (nt : Nat) (μ : Mu) (h : H) (w : World) (tm : Tr V) (a : Act) : Prop where
  sim : Sim W0 μ h w
  fr : FR μ tm a
  size : a.tmps.size = nt
  defers : a.defers = []

theorem ext_trans {μ1 μ2 μ3 : Mu} {n1 n2 : Nat} (h1 : ∀ i, i < n1 → μ2 i = μ1 i) (h2 : ∀ i, i < n2 → μ3 i = μ2 i) (hle : n1 ≤ n2) : ∀ i, i < n1 → μ3 i = μ1 i :=
  fun i hi => (h2 i (by omega)).trans (h1 i hi)

theorem Sim.le_of (s : Sim W0 μ h w) {μ' : Mu} (hx : ∀ i, i < h.next → μ' i = μ i) : μ.le μ' := fun i L hi => by rw [hx i (s.lt i L hi)]; exact hi

theorem St.step {nt : Nat} {h' : H} {w' : World} {μ' : Mu} {d : Option Tmp} {v : V} {u : Value} (st : St W0 nt μ h w tm a) (hv : VR μ' v u) (hx : ∀ i, i < h.next → μ' i = μ i) (hs : Sim W0 μ' h' w') : St W0 nt μ' h' w' (putT nt tm d v) (a.put d u) :=
  ⟨hs, putT_FR (st.fr.mono (st.sim.le_of hx)) st.size hv, by rw [put_size]; exact st.size, by rw [put_defers']; exact st.defers⟩

/-- Operations in the order of the text. -/
theorem evOps_sound (hΦ : AllGood P W0 Φ) {α : Type} {nt : Nat} {ops : List Oper} {k : Tr V → M α} {r : α × H} {Q : Exit → Act → World → Prop} : ∀ (os : List Oper) (i0 : Nat) (μ : Mu) (h : H) (w : World) (tm : Tr V) (a : Act),
    (∀ j, os[j]? = ops[i0 + j]?) → St W0 nt μ h w tm a → evOps P Φ nt ops os tm k h = some r →
    (∀ tm' h' μ' a' w', k tm' h' = some r → (∀ i, i < h.next → μ' i = μ i) → h.next ≤ h'.next → St W0 nt μ' h' w' tm' a' → Q .normal a' w') →
    wpOps P ops.toArray Q (List.range' i0 os.length) a w
  | [], i0, μ, h, w, tm, a, _, st, hr, hk => by
    exact hk tm h μ a w hr (fun _ _ => rfl) (Nat.le_refl _) st
  | o :: os, i0, μ, h, w, tm, a, hos, st, hr, hk => by
    have h0 : ops[i0]? = some o := by simpa using (hos 0).symm
    rw [List.length_cons, List.range'_succ]
    simp only [wpOps, List.getElem?_toArray, h0]
    unfold evOps at hr
    have := evOne_sound (next := wpOps P ops.toArray Q (List.range' (i0 + 1) os.length)) (Q := Q) hΦ st.sim st.fr hr (fun v h' u w' μ' hkv hv hx hs hle => by
      refine evOps_sound hΦ os (i0 + 1) μ' h' w' _ _ (fun j => by have := hos (j + 1); simpa [Nat.add_assoc, Nat.add_comm 1 j] using this) (st.step hv hx hs) hkv ?_
      intro tm' h'' μ'' a' w'' h1 h2 h3 h4
      exact hk tm' h'' μ'' a' w'' h1 (ext_trans hx h2 hle) (Nat.le_trans hle h3) h4)
    exact this

theorem region_sound (hΦ : AllGood P W0 Φ) {α : Type} {nt id : Nat} {ops : List Oper} {k : Tr V → M α} {r : α × H} {Q : Exit → Act → World → Prop}
    (st : St W0 nt μ h w tm a) (hr : evOps P Φ nt ops ops tm k h = some r)
    (hk : ∀ tm' h' μ' a' w', k tm' h' = some r → (∀ i, i < h.next → μ' i = μ i) → h.next ≤ h'.next → St W0 nt μ' h' w' tm' a' → Q .normal a' w') :
    (Code.region id ops.toArray false).wp P Q a w := by
  refine wp_region ?_
  have := evOps_sound hΦ (Q := Q) ops 0 μ h w tm a (fun j => by simp) st hr hk
  simpa [List.range_eq_range'] using this
end
end Go.Cb
