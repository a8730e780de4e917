/- The evaluator: code, and functions. -/
import Derived.Test.YthpapfgdjdjcfaaGreatDoorCbQ
set_option linter.unusedVariables false
set_option linter.unusedSimpArgs false
namespace Go.Cb
open Go.RowKit

/-- How a piece of code ends, with the values that live on. -/
inductive LR where
  | nx (vs : List V)
  | ex (id : Nat) (vs : List V)
  | rt (vs : List V)

def unc {α : Type} (vs : List V) (k : V → List V → M α) : M α := match vs with
  | v :: vs => k v vs
  | [] => failM
def unn {α : Type} (vs : List V) (k : M α) : M α := match vs with
  | [] => k
  | _ => failM

def getL : List Nat → Tr V → Option (List V)
  | [], _ => some []
  | l :: ls, tm => match tm.get l, getL ls tm with
    | some v, some vs => some (v :: vs)
    | _, _ => none

def ofL {α : Type} : List Nat → List V → Tr V → (Tr V → M α) → M α
  | [], vs, tm, k => unn vs (k tm)
  | l :: ls, vs, tm, k => unc vs fun v vs => ofL ls vs (tm.set l v) k

def exL {α : Type} (id : Nat) (vs : List V) (ek : Nat → Tr V → M α) : List (Nat × List Nat) → M α
  | [] => failM
  | (i, ls) :: rest => cond (Nat.beq id i) (ofL ls vs .e (ek i)) (exL id vs ek rest)

def outN (ls : List Nat) (tm : Tr V) : M LR := match getL ls tm with
  | some vs => pureM (.nx vs)
  | none => failM
def outR (ls : List Nat) (tm : Tr V) : M LR := match getL ls tm with
  | some vs => pureM (.rt vs)
  | none => failM
def outX : List (Nat × List Nat) → Nat → Tr V → M LR
  | [], _, _ => failM
  | (i, ls) :: rest, id, tm => cond (Nat.beq id i) (match getL ls tm with
    | some vs => pureM (.ex i vs)
    | none => failM) (outX rest id tm)

/-- Where a piece of code goes on. -/
def lrM {α : Type} (m : M LR) (fn : List V → M α) (fe : Nat → List V → M α) (fr : List V → M α) : M α := bindM m fun
  | .nx vs => fn vs
  | .ex id vs => fe id vs
  | .rt vs => fr vs

def loopM : Nat → (List V → M LR) → List V → M LR
  | 0, _, _ => failM
  | n + 1, body, vs => lrM (body vs) (loopM n body) (fun id vs => pureM (.ex id vs)) (fun vs => pureM (.rt vs))

/-- Where the frame is cut down to what lives, and how loops run. -/
inductive An where
  | n
  | one (a : An)
  | two (a b : An)
  | cut (ls : List Nat) (xs : List (Nat × List Nat)) (rs : List Nat) (a : An)
  | loop (ls : List Nat) (xs : List (Nat × List Nat)) (rs : List Nat) (a : An)

/-- A piece of code. -/
def evC (P : Program) (Φ : Calls') (nt N : Nat) : An → Code → {α : Type} → Tr V → (Tr V → M α) → (Nat → Tr V → M α) → (Tr V → M α) → M α
  | .cut ls xs rs a, c, _, tm, nk, ek, rk =>
    lrM (evC P Φ nt N a c tm (outN ls) (outX xs) (outR rs)) (fun vs => ofL ls vs .e nk) (fun id vs => exL id vs ek xs) (fun vs => ofL rs vs .e rk)
  | .loop ls xs rs a, .loop body, _, tm, _, ek, rk => match getL ls tm with
    | some vs => lrM (loopM N (fun vs => ofL ls vs .e fun tm => evC P Φ nt N a body tm (outN ls) (outX xs) (outR rs)) vs) (fun _ => failM) (fun id vs => exL id vs ek xs) (fun vs => ofL rs vs .e rk)
    | none => failM
  | .two a b, .seq x y, _, tm, nk, ek, rk => evC P Φ nt N a x tm (fun tm => evC P Φ nt N b y tm nk ek rk) ek rk
  | .two a b, .cond c x y, _, tm, nk, ek, rk => iteM (aval tm c) (evC P Φ nt N a x tm nk ek rk) (evC P Φ nt N b y tm nk ek rk)
  | .one a, .block id body, _, tm, nk, ek, rk => evC P Φ nt N a body tm nk (fun i tm => cond (Nat.beq i id) (nk tm) (ek i tm)) rk
  | .n, .skip, _, tm, nk, _, _ => nk tm
  | .n, .label _, _, tm, nk, _, _ => nk tm
  | .n, .exit id, _, tm, _, ek, _ => ek id tm
  | .n, .ret, _, tm, _, _, rk => rk tm
  | .n, .region _ ops false, _, tm, nk, _, _ => evOps P Φ nt ops.toList ops.toList tm nk
  | .n, .region _ ops true, _, tm, nk, _, _ =>
    cond (drawOK P ops.toList (befores ops.toList) (order P ops.toList)) (evDraw P Φ nt ops.toList (befores ops.toList) (order P ops.toList) [] tm nk) failM
  | _, _, _, _, _, _, _ => failM

theorem lrM_inv {α : Type} {m : M LR} {fn : List V → M α} {fe : Nat → List V → M α} {fr : List V → M α} {h : H} {r : α × H} (e : lrM m fn fe fr h = some r) :
    ∃ q h', m h = some (q, h') ∧ match q with
      | .nx vs => fn vs h' = some r
      | .ex id vs => fe id vs h' = some r
      | .rt vs => fr vs h' = some r := by
  obtain ⟨q, h', h1, h2⟩ := bindM_inv e
  refine ⟨q, h', h1, ?_⟩
  cases q <;> exact h2

theorem unc_inv {α : Type} {vs : List V} {k : V → List V → M α} {h : H} {r : α × H} (e : unc vs k h = some r) : ∃ v us, vs = v :: us ∧ k v us h = some r := by
  cases vs with
  | nil => cases e
  | cons v us => exact ⟨v, us, rfl, e⟩

theorem unn_inv {α : Type} {vs : List V} {k : M α} {h : H} {r : α × H} (e : unn vs k h = some r) : vs = [] ∧ k h = some r := by
  cases vs with
  | nil => exact ⟨rfl, e⟩
  | cons v us => cases e

/-- The values come back into slots. -/
theorem ofL_inv {α : Type} {k : Tr V → M α} {h : H} {r : α × H} {src : Tr V} : ∀ {ls : List Nat} {vs : List V} {tm : Tr V}, getL ls src = some vs → (∀ t v, tm.get t = some v → src.get t = some v) → ofL ls vs tm k h = some r →
    ∃ tm', (∀ t v, tm'.get t = some v → src.get t = some v) ∧ k tm' h = some r
  | [], vs, tm, _, ht, e => by
    obtain ⟨_, e⟩ := unn_inv e
    exact ⟨tm, ht, e⟩
  | l :: ls, vs, tm, hg, ht, e => by
    obtain ⟨v, us, rfl, e⟩ := unc_inv e
    unfold getL at hg
    cases h1 : src.get l with
    | none => simp only [h1] at hg; cases hg
    | some x =>
      cases h2 : getL ls src with
      | none => simp only [h1, h2] at hg; cases hg
      | some xs =>
        simp only [h1, h2, Option.some.injEq, List.cons.injEq] at hg
        obtain ⟨rfl, rfl⟩ := hg
        refine ofL_inv (ls := ls) (vs := xs) h2 (fun t u hu => ?_) e
        by_cases et : t = l
        · subst et; rw [Tr.get_set_same] at hu; rw [h1]; exact hu
        · rw [Tr.get_set_ne _ _ et] at hu; exact ht t u hu

theorem outN_inv {ls : List Nat} {tm : Tr V} {h : H} {r : LR × H} (e : outN ls tm h = some r) : ∃ vs, getL ls tm = some vs ∧ r = (.nx vs, h) := by
  unfold outN at e
  cases hg : getL ls tm with
  | none => rw [hg] at e; cases e
  | some vs => rw [hg] at e; cases e; exact ⟨vs, rfl, rfl⟩

theorem outR_inv {ls : List Nat} {tm : Tr V} {h : H} {r : LR × H} (e : outR ls tm h = some r) : ∃ vs, getL ls tm = some vs ∧ r = (.rt vs, h) := by
  unfold outR at e
  cases hg : getL ls tm with
  | none => rw [hg] at e; cases e
  | some vs => rw [hg] at e; cases e; exact ⟨vs, rfl, rfl⟩

/-- The lists that belong to an exit. -/
def xsGet (xs : List (Nat × List Nat)) (id : Nat) : Option (List Nat) := match xs with
  | [] => none
  | (i, ls) :: rest => if id = i then some ls else xsGet rest id

theorem outX_inv {id : Nat} {tm : Tr V} {h : H} {r : LR × H} : ∀ {xs : List (Nat × List Nat)}, outX xs id tm h = some r → ∃ ls vs, xsGet xs id = some ls ∧ getL ls tm = some vs ∧ r = (.ex id vs, h)
  | [], e => by cases e
  | (i, ls) :: rest, e => by
    unfold outX at e
    unfold xsGet
    cases hb : Nat.beq id i with
    | true =>
      have := Nat.eq_of_beq_eq_true hb
      subst this
      rw [hb] at e
      simp only [cond_true] at e
      cases hg : getL ls tm with
      | none => rw [hg] at e; cases e
      | some vs => rw [hg] at e; cases e; exact ⟨ls, vs, by simp, hg, rfl⟩
    | false =>
      have := Nat.ne_of_beq_eq_false hb
      rw [hb] at e
      obtain ⟨ls', vs, h1, h2⟩ := outX_inv (xs := rest) e
      exact ⟨ls', vs, by rw [if_neg this]; exact h1, h2⟩

theorem exL_inv {α : Type} {id : Nat} {vs : List V} {ek : Nat → Tr V → M α} {h : H} {r : α × H} : ∀ {xs : List (Nat × List Nat)} {ls : List Nat}, xsGet xs id = some ls → exL id vs ek xs h = some r → ofL ls vs .e (ek id) h = some r
  | [], ls, hx, e => by cases e
  | (i, ls') :: rest, ls, hx, e => by
    unfold exL at e
    unfold xsGet at hx
    cases hb : Nat.beq id i with
    | true =>
      have := Nat.eq_of_beq_eq_true hb
      subst this
      rw [hb] at e
      simp only [if_true, Option.some.injEq] at hx
      subst hx
      exact e
    | false =>
      have := Nat.ne_of_beq_eq_false hb
      rw [hb] at e
      rw [if_neg this] at hx
      exact exL_inv hx e

section
variable {P : Program} {W0 : World} {Φ : Calls'} {nt N : Nat}

/-- Later: more blocks, the old ones where they were. -/
def Later (μ : Mu) (h : H) (μ' : Mu) (h' : H) : Prop := (∀ i, i < h.next → μ' i = μ i) ∧ h.next ≤ h'.next

theorem Later.refl (μ : Mu) (h : H) : Later μ h μ h := ⟨fun _ _ => rfl, Nat.le_refl _⟩
theorem Later.trans {μ1 μ2 μ3 : Mu} {h1 h2 h3 : H} (x : Later μ1 h1 μ2 h2) (y : Later μ2 h2 μ3 h3) : Later μ1 h1 μ3 h3 := ⟨ext_trans x.1 y.1 x.2, Nat.le_trans x.2 y.2⟩

/-- What is owed where a piece of code ends. -/
structure Owed (P : Program) (W0 : World) (nt : Nat) {α : Type} (r : α × H) (μ : Mu) (h : H) (nk : Tr V → M α) (ek : Nat → Tr V → M α) (rk : Tr V → M α) (Q : Exit → Act → World → Prop) : Prop where
  nk : ∀ tm' h' μ' a' w', nk tm' h' = some r → Later μ h μ' h' → St W0 nt μ' h' w' tm' a' → Q .normal a' w'
  ek : ∀ id tm' h' μ' a' w', ek id tm' h' = some r → Later μ h μ' h' → St W0 nt μ' h' w' tm' a' → Q (.exit id) a' w'
  rk : ∀ tm' h' μ' a' w', rk tm' h' = some r → Later μ h μ' h' → St W0 nt μ' h' w' tm' a' → Q .ret a' w'

theorem St.less {μ : Mu} {h : H} {w : World} {tm tm' : Tr V} {a : Act} (s : St W0 nt μ h w tm a) (ht : ∀ t v, tm'.get t = some v → tm.get t = some v) : St W0 nt μ h w tm' a :=
  ⟨s.sim, fun t v hv => s.fr t v (ht t v hv), s.size, s.defers⟩

theorem evC_sound (hΦ : AllGood P W0 Φ) (hm : P.follows .mixedOrders = true) : ∀ (an : An) (c : Code) {α : Type} (tm : Tr V) (nk : Tr V → M α) (ek : Nat → Tr V → M α) (rk : Tr V → M α) (r : α × H) (μ : Mu) (h : H) (w : World) (a : Act) (Q : Exit → Act → World → Prop),
    St W0 nt μ h w tm a → evC P Φ nt N an c tm nk ek rk h = some r → Owed P W0 nt r μ h nk ek rk Q → c.wp P Q a w := by
  intro an
  have leaf : ∀ (an : An) (c : Code) {α : Type} (tm : Tr V) (nk : Tr V → M α) (ek : Nat → Tr V → M α) (rk : Tr V → M α) (r : α × H) (μ : Mu) (h : H) (w : World) (a : Act) (Q : Exit → Act → World → Prop),
    an = .n → St W0 nt μ h w tm a → evC P Φ nt N an c tm nk ek rk h = some r → Owed P W0 nt r μ h nk ek rk Q → c.wp P Q a w := by
    intro an c α tm nk ek rk r μ h w a Q han st hr ow
    subst han
    cases c <;> try (unfold evC at hr; cases hr; done)
    case skip => exact wp_skip (ow.nk _ _ _ _ _ hr (.refl _ _) st)
    case label => exact wp_label (ow.nk _ _ _ _ _ hr (.refl _ _) st)
    case exit id => exact wp_exit (ow.ek _ _ _ _ _ _ hr (.refl _ _) st)
    case ret => exact wp_ret (ow.rk _ _ _ _ _ hr (.refl _ _) st)
    case region id ops draw =>
      cases draw with
      | false => exact region_sound (ops := ops.toList) hΦ st hr fun tm' h' μ' a' w' h1 h2 h3 h4 => ow.nk _ _ _ _ _ h1 ⟨h2, h3⟩ h4
      | true =>
        unfold evC at hr
        cases hd : drawOK P ops.toList (befores ops.toList) (order P ops.toList) with
        | false => rw [hd] at hr; cases hr
        | true =>
          rw [hd] at hr
          exact drawRegion_sound (ops := ops.toList) hΦ hm hd st hr fun tm' h' μ' a' w' h1 h2 h3 h4 => ow.nk _ _ _ _ _ h1 ⟨h2, h3⟩ h4
  induction an with
  | n => intro c α tm nk ek rk r μ h w a Q st hr ow; exact leaf .n c tm nk ek rk r μ h w a Q rfl st hr ow
  | one x ih =>
    intro c α tm nk ek rk r μ h w a Q st hr ow
    cases c <;> try (unfold evC at hr; cases hr; done)
    case block id body =>
      unfold evC at hr
      refine wp_block (ih body tm nk _ rk r μ h w a _ st hr ⟨ow.nk, fun i tm' h' μ' a' w' h1 h2 h3 => ?_, ow.rk⟩)
      simp only [Exit.inBlock]
      cases hb : Nat.beq i id with
      | true =>
        rw [hb] at h1
        rw [if_pos (Nat.eq_of_beq_eq_true hb)]
        exact ow.nk _ _ _ _ _ h1 h2 h3
      | false =>
        rw [hb] at h1
        rw [if_neg (Nat.ne_of_beq_eq_false hb)]
        exact ow.ek _ _ _ _ _ _ h1 h2 h3
  | two x y ihx ihy =>
    intro c α tm nk ek rk r μ h w a Q st hr ow
    cases c <;> try (unfold evC at hr; cases hr; done)
    case seq c1 c2 =>
      unfold evC at hr
      refine wp_seq (ihx c1 tm _ ek rk r μ h w a _ st hr ⟨fun tm' h' μ' a' w' h1 h2 h3 => ?_, ow.ek, ow.rk⟩)
      exact ihy c2 tm' nk ek rk r μ' h' w' a' Q h3 h1 ⟨fun _ _ _ _ _ g1 g2 g3 => ow.nk _ _ _ _ _ g1 (h2.trans g2) g3, fun _ _ _ _ _ _ g1 g2 g3 => ow.ek _ _ _ _ _ _ g1 (h2.trans g2) g3, fun _ _ _ _ _ g1 g2 g3 => ow.rk _ _ _ _ _ g1 (h2.trans g2) g3⟩
    case cond cc c1 c2 =>
      unfold evC at hr
      cases hc : aval tm cc with
      | none => simp only [hc, iteM] at hr; cases hr
      | some v =>
        have hv := st.fr.aval hc
        simp only [hc] at hr
        cases v <;> simp only [iteM] at hr <;> first | (cases hr; done) | skip
        rename_i b
        simp only [VR] at hv
        cases b with
        | true => exact wp_cond_true hv (ihx c1 tm nk ek rk r μ h w a Q st hr ow)
        | false => exact wp_cond_false hv (ihy c2 tm nk ek rk r μ h w a Q st hr ow)
  | cut ls xs rs x ih =>
    intro c α tm nk ek rk r μ h w a Q st hr ow
    have hr' : lrM (evC P Φ nt N x c tm (outN ls) (outX xs) (outR rs)) (fun vs => ofL ls vs .e nk) (fun id vs => exL id vs ek xs) (fun vs => ofL rs vs .e rk) h = some r := by
      unfold evC at hr; exact hr
    obtain ⟨q, h1, hq, hout⟩ := lrM_inv hr'
    refine ih c tm (outN ls) (outX xs) (outR rs) (q, h1) μ h w a Q st hq ⟨fun tm' h' μ' a' w' g1 g2 g3 => ?_, fun id tm' h' μ' a' w' g1 g2 g3 => ?_, fun tm' h' μ' a' w' g1 g2 g3 => ?_⟩
    · obtain ⟨vs, hg, e⟩ := outN_inv g1
      cases e
      obtain ⟨tm2, ht, hk⟩ := ofL_inv hg (fun t v h => by cases h) hout
      exact ow.nk _ _ _ _ _ hk g2 (g3.less ht)
    · obtain ⟨ls', vs, hx, hg, e⟩ := outX_inv g1
      cases e
      obtain ⟨tm2, ht, hk⟩ := ofL_inv hg (fun t v h => by cases h) (exL_inv hx hout)
      exact ow.ek _ _ _ _ _ _ hk g2 (g3.less ht)
    · obtain ⟨vs, hg, e⟩ := outR_inv g1
      cases e
      obtain ⟨tm2, ht, hk⟩ := ofL_inv hg (fun t v h => by cases h) hout
      exact ow.rk _ _ _ _ _ hk g2 (g3.less ht)
  | loop ls xs rs x ih =>
    intro c α tm nk ek rk r μ h w a Q st hr ow
    cases c <;> try (unfold evC at hr; cases hr; done)
    case loop body =>
      unfold evC at hr
      cases hg : getL ls tm with
      | none => rw [hg] at hr; cases hr
      | some vs =>
        rw [hg] at hr
        simp only at hr
        obtain ⟨q, h1, hq, hout⟩ := lrM_inv hr
        have ow' : ∀ id tm' h' μ' a' w', outX xs id tm' h' = some (q, h1) → Later μ h μ' h' → St W0 nt μ' h' w' tm' a' → Q (.exit id) a' w' := by
          intro id tm' h' μ' a' w' g1 g2 g3
          obtain ⟨ls', us, hx, hg, e⟩ := outX_inv g1
          cases e
          obtain ⟨tm2, ht, hk⟩ := ofL_inv hg (fun t v h => by cases h) (exL_inv hx hout)
          exact ow.ek _ _ _ _ _ _ hk g2 (g3.less ht)
        have ow'' : ∀ tm' h' μ' a' w', outR rs tm' h' = some (q, h1) → Later μ h μ' h' → St W0 nt μ' h' w' tm' a' → Q .ret a' w' := by
          intro tm' h' μ' a' w' g1 g2 g3
          obtain ⟨us, hg, e⟩ := outR_inv g1
          cases e
          obtain ⟨tm2, ht, hk⟩ := ofL_inv hg (fun t v h => by cases h) hout
          exact ow.rk _ _ _ _ _ hk g2 (g3.less ht)
        have key : ∀ (n : Nat) (vs : List V) (tm : Tr V) (h2 : H) (μ2 : Mu) (w2 : World) (a2 : Act), getL ls tm = some vs → St W0 nt μ2 h2 w2 tm a2 → Later μ h μ2 h2 →
            loopM n (fun vs => ofL ls vs .e fun tm => evC P Φ nt N x body tm (outN ls) (outX xs) (outR rs)) vs h2 = some (q, h1) → Code.rounds P body Q n a2 w2 := by
          intro n
          induction n with
          | zero => intro vs tm h2 μ2 w2 a2 _ _ _ e; cases e
          | succ n ihn =>
            intro vs tm h2 μ2 w2 a2 hg2 st2 lt2 e
            obtain ⟨q2, h3, hq2, hout2⟩ := lrM_inv e
            obtain ⟨tm3, ht3, hk3⟩ := ofL_inv hg2 (fun t v h => by cases h) hq2
            rw [rounds_succ]
            refine ih body tm3 (outN ls) (outX xs) (outR rs) (q2, h3) μ2 h2 w2 a2 _ (st2.less ht3) hk3 ⟨fun tm' h' μ' a' w' g1 g2 g3 => ?_, fun id tm' h' μ' a' w' g1 g2 g3 => ?_, fun tm' h' μ' a' w' g1 g2 g3 => ?_⟩
            · obtain ⟨us, hgu, e2⟩ := outN_inv g1
              cases e2
              exact ihn us tm' _ μ' w' a' hgu g3 (lt2.trans g2) hout2
            · obtain ⟨ls', us, hx, hgu, e2⟩ := outX_inv g1
              cases e2
              cases hout2
              exact ow' id tm' _ μ' a' w' g1 (lt2.trans g2) g3
            · obtain ⟨us, hgu, e2⟩ := outR_inv g1
              cases e2
              cases hout2
              exact ow'' tm' _ μ' a' w' g1 (lt2.trans g2) g3
        exact wp_loop_rounds N (key N vs tm h μ w a hg st (.refl _ _) hq)
end
end Go.Cb
