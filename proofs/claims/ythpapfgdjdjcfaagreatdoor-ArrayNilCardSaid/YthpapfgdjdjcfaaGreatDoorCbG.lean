/- Maps: lookups and updates, on the abstract heap, and that the model does the same. -/
import Derived.Test.YthpapfgdjdjcfaaGreatDoorCbF
set_option linter.unusedVariables false
set_option linter.unusedSimpArgs false
namespace Go.Cb
open Go.RowKit

/-- The kinds of keys. -/
inductive KK where
  | one (k : FK)
  | flat (ks : List FK)

def keyKind (P : Program) (t : TypeId) : Option KK :=
  match fkOf P t with
  | some k => some (.one k)
  | none => match flat P t with
    | some ks => some (.flat ks)
    | none => none

def keyEq : KK → V → V → Option Bool
  | .one k, x, y => eqOne k x y
  | .flat ks, .g xs, .g ys => eqAll ks xs ys
  | _, _, _ => none

/-- Where a key stands in a map. -/
def findV (K : KK) (k : V) : List (V × V × Nat) → Nat → Option (Option Nat)
  | [], _ => some none
  | e :: es, i => match keyEq K k e.1 with
    | some true => some (some i)
    | some false => findV K k es (i + 1)
    | none => none

/-- A value that can be a key of the kind. -/
def keyOk : KK → V → Bool
  | .one .b, .b _ | .one .i, .i _ _ | .one .s, .s _ => true
  | .flat _, .g _ => true
  | _, _ => false

section
variable {P : Program} {μ : Mu}

theorem VR.g_inv {xs : List V} {c : Value} (h : VR μ (.g xs) c) : ∃ l, c = .agg ⟨l⟩ ∧ VRs μ xs l := by
  simp only [VR] at h
  obtain ⟨l, h1, h2, _⟩ := h
  exact ⟨l, h1, h2⟩

theorem keyEq_sound {t : TypeId} {K : KK} {x y : V} {r : Bool} {c d : Value} (hK : keyKind P t = some K) (h : keyEq K x y = some r) (hx : VR μ x c) (hy : VR μ y d) (n : Nat) (w : World) :
    (Op.equalIn (n + 2) t c d).run P w = .ok r w := by
  unfold keyKind at hK
  split at hK
  · rename_i k hk
    cases hK
    exact eqOne_sound h hx hy hk (n + 1) w
  · split at hK
    · rename_i ks hks
      cases hK
      unfold keyEq at h
      split at h
      · rename_i e; cases e
      · rename_i e; cases e
        exact eqStruct_sound hks h hx hy n w
      · cases h
    · cases hK

theorem checkFields {n : Nat} {l : List Value} {e : Bool} (w : World) : ∀ (fs : List Field) (q : Nat) (ks : List FK), flatFields P fs q = some ks → (∀ j, q ≤ j → j < q + fs.length → ∃ c, l[j]? = some c) →
    (forIn fs PUnit.unit (fun f _ => (do
      if f.name ≠ "_" then Instr.checkKey e (n + 1) f.type (← part f.type ⟨l⟩ f.offset)
      pure (ForInStep.yield PUnit.unit) : Sem (ForInStep PUnit)))).run P w = .ok PUnit.unit w
  | [], q, ks, h, _ => by simp
  | f :: fs, q, ks, h, hl => by
    simp only [flatFields] at h
    cases hc : ((f.name != "_") && (f.offset == q)) with
    | false => rw [hc] at h; cases h
    | true =>
      rw [hc] at h
      simp only [cond_true] at h
      simp only [Bool.and_eq_true, bne_iff_ne, ne_eq, beq_iff_eq] at hc
      obtain ⟨hname, hoff⟩ := hc
      split at h <;> first | (cases h; done) | skip
      rename_i k ks' hk hks
      cases h
      obtain ⟨c, hc⟩ := hl q (Nat.le_refl _) (by simp)
      have hp := part_one (P := P) hk (cs := ⟨l⟩) (n := f.offset) (c := c) (by rw [hoff]; simpa using hc) w
      have hrest := checkFields (n := n) (l := l) (e := e) w fs (q + 1) ks' hks (fun j h1 h2 => hl j (by omega) (by simp; omega))
      rw [List.forIn_cons]
      have hck : (Instr.checkKey e (n + 1) f.type c).run P w = .ok () w := by
        unfold fkOf at hk
        split at hk <;> first | (cases hk; done) | skip
        all_goals
          rename_i hu
          simp [Instr.checkKey, run_underlying hu]
      simp only [hname, ne_eq, not_false_eq_true, if_true, Sem.run_bind, hp, Result.andThen_ok, hck, Sem.run_pure]
      exact hrest

theorem flat_length {t : TypeId} {ks : List FK} (h : flat P t = some ks) : ∃ fs, P.underlying t = some (.struct fs) ∧ flatFields P fs.toList 0 = some ks := by
  unfold flat at h
  split at h <;> first | (cases h; done) | skip
  rename_i fs hu
  refine ⟨fs, hu, ?_⟩
  cases hs : (!P.stoodInHeld t && !P.eqGuardType P.depth t) with
  | false => rw [hs] at h; cases h
  | true => rw [hs] at h; exact h

theorem flatFields_length : ∀ {fs : List Field} {q : Nat} {ks : List FK}, flatFields P fs q = some ks → ks.length = fs.length
  | [], q, ks, h => by cases h; rfl
  | f :: fs, q, ks, h => by
    simp only [flatFields] at h
    cases hc : ((f.name != "_") && (f.offset == q)) with
    | false => rw [hc] at h; cases h
    | true =>
      rw [hc] at h
      simp only [cond_true] at h
      split at h <;> first | (cases h; done) | skip
      rename_i hks
      cases h
      simp [flatFields_length hks]

/-- A key that is one of its kind is let by. -/
theorem checkKey_run {t : TypeId} {K : KK} {x : V} {c : Value} {e : Bool} (hK : keyKind P t = some K) (hk : keyOk K x = true) (hlen : ∀ ks xs, K = .flat ks → x = .g xs → ks.length ≤ xs.length) (hx : VR μ x c) (n : Nat) (w : World) :
    (Instr.checkKey e (n + 2) t c).run P w = .ok () w := by
  unfold keyKind at hK
  split at hK
  · rename_i k hk'
    cases hK
    unfold fkOf at hk'
    split at hk' <;> first | (cases hk'; done) | skip
    all_goals
      rename_i hu
      cases hk'
      cases x <;> simp only [keyOk] at hk <;> first | (cases hk; done) | skip
      simp only [VR] at hx
      subst hx
      simp [Instr.checkKey, run_underlying hu]
  · split at hK
    · rename_i ks hks
      cases hK
      cases x <;> simp only [keyOk] at hk <;> first | (cases hk; done) | skip
      rename_i xs
      obtain ⟨l, rfl, hl⟩ := VR.g_inv hx
      obtain ⟨fs, hu, hff⟩ := flat_length hks
      have h1 := flatFields_length hff
      have h2 := hlen ks xs rfl rfl
      have h3 := hl.length
      have := checkFields (P := P) (n := n) (l := l) (e := e) w fs.toList 0 ks hff (fun j _ hj => ⟨l[j]'(by simp at hj h1; omega), List.getElem?_eq_getElem _⟩)
      rw [Instr.checkKey]
      simp only [Sem.run_bind, run_underlying hu, Result.andThen_ok]
      simp at this ⊢
      rw [this]
      rfl
    · cases hK

theorem sameNow_eq {K : TypeDesc} {k : FK} {x y : V} {r : Bool} {c d : Value} {t : TypeId} (hu : P.underlying t = some K) (hk : fkOf P t = some k) (h : eqOne k x y = some r) (hx : VR μ x c) (hy : VR μ y d) : Instr.sameNow K c d = some r := by
  unfold fkOf at hk
  rw [hu] at hk
  unfold eqOne at h
  split at hk <;> first | (cases hk; done) | skip
  all_goals
    rename_i e
    cases e
    cases hk
    split at h <;> first | (cases h; done) | skip
    all_goals first
      | (rename_i e; cases e; done)
      | skip
  · rename_i e; cases e; cases h; simp only [VR] at hx hy; subst hx; subst hy; rfl
  · rename_i k a k' b e
    by_cases hkk : k = k'
    · simp only [hkk, decide_true, cond_true] at h
      cases h; simp only [VR] at hx hy; subst hx; subst hy; simp [Instr.sameNow, hkk]
    · simp [hkk] at h
  · rename_i e; cases e; cases h; simp only [VR] at hx hy; subst hx; subst hy; simp [Instr.sameNow, bytes_beq]

theorem MR.get {es : List (V × V × Nat)} {l : List MapEntry} (h : MR μ es l) : es.length = l.length ∧ ∀ (i : Nat) k v n, es[i]? = some (k, v, n) → ∃ e, l[i]? = some e ∧ VR μ k e.key ∧ VR μ v e.val ∧ e.born = n := by
  induction es generalizing l with
  | nil => simp only [MR] at h; subst h; exact ⟨rfl, fun i k v n hi => by simp at hi⟩
  | cons a es ih =>
    obtain ⟨k, v, n⟩ := a
    simp only [MR] at h
    obtain ⟨e, rest, rfl, h1, h2, h3, h4⟩ := h
    obtain ⟨l1, l2⟩ := ih h4
    refine ⟨by simp [l1], fun i k' v' n' hi => ?_⟩
    cases i with
    | zero => simp at hi; obtain ⟨rfl, rfl, rfl⟩ := hi; exact ⟨e, rfl, h1, h2, h3⟩
    | succ i => simp at hi; simpa using l2 i k' v' n' hi

/-- Finding a key: the model finds it at the same place. -/
theorem findV_now {t : TypeId} {k : FK} {K : TypeDesc} (hu : P.underlying t = some K) (hk : fkOf P t = some k) {x : V} {c : Value} (hx : VR μ x c) :
    ∀ (es : List (V × V × Nat)) (l : List MapEntry) (i : Nat) (r : Option Nat), MR μ es l → findV (.one k) x es i = some r →
      Instr.findNow K c l i = some (r.map fun j => (j, ((l[j - i]?).map (·.val)).getD undef)) ∧ ∀ j, r = some j → i ≤ j ∧ j - i < l.length
  | [], l, i, r, hl, h => by
    simp only [MR] at hl; subst hl
    cases h
    exact ⟨rfl, by simp⟩
  | (k', v', n') :: es, l, i, r, hl, h => by
    simp only [MR] at hl
    obtain ⟨e, rest, rfl, h1, h2, h3, h4⟩ := hl
    simp only [findV, keyEq] at h
    split at h
    · rename_i he
      cases h
      have := sameNow_eq hu hk he hx h1
      refine ⟨by simp [Instr.findNow, this], fun j hj => by cases hj; exact ⟨Nat.le_refl _, by simp⟩⟩
    · rename_i he
      have := sameNow_eq hu hk he hx h1
      obtain ⟨a, b⟩ := findV_now hu hk hx es rest (i + 1) r h4 h
      refine ⟨?_, fun j hj => ?_⟩
      · simp only [Instr.findNow, this, a]
        cases r with
        | none => rfl
        | some j =>
          have := (b j rfl).1
          have e1 : j - i = (j - (i + 1)) + 1 := by omega
          simp [e1]
      · have := b j hj
        simp; omega
    · cases h

theorem findV_asking {t : TypeId} {K : KK} (hK : keyKind P t = some K) {x : V} {c : Value} (hx : VR μ x c) (w : World) :
    ∀ (es : List (V × V × Nat)) (l : List MapEntry) (i : Nat) (r : Option Nat), MR μ es l → findV K x es i = some r →
      (Instr.findAsking t c l i).run P w = .ok (r.map fun j => (j, ((l[j - i]?).map (·.val)).getD undef)) w ∧ ∀ j, r = some j → i ≤ j ∧ j - i < l.length
  | [], l, i, r, hl, h => by
    simp only [MR] at hl; subst hl
    cases h
    exact ⟨rfl, by simp⟩
  | (k', v', n') :: es, l, i, r, hl, h => by
    simp only [MR] at hl
    obtain ⟨e, rest, rfl, h1, h2, h3, h4⟩ := hl
    simp only [findV] at h
    split at h
    · rename_i he
      cases h
      have := keyEq_sound hK he hx h1 9998 w
      refine ⟨by simp [Instr.findAsking, Op.equal, Op.maxDepth, this], fun j hj => by cases hj; exact ⟨Nat.le_refl _, by simp⟩⟩
    · rename_i he
      have := keyEq_sound hK he hx h1 9998 w
      obtain ⟨a, b⟩ := findV_asking hK hx w es rest (i + 1) r h4 h
      refine ⟨?_, fun j hj => ?_⟩
      · simp only [Instr.findAsking, Sem.run_bind, Op.equal, Op.maxDepth, this, Result.andThen_ok]
        simp only [Bool.false_eq_true, if_false, a]
        cases r with
        | none => rfl
        | some j =>
          have := (b j rfl).1
          have e1 : j - i = (j - (i + 1)) + 1 := by omega
          simp [e1]
      · have := b j hj
        simp; omega
    · cases h

theorem findKey_run {t : TypeId} {K : KK} (hK : keyKind P t = some K) {x : V} {c : Value} (hx : VR μ x c) (w : World) {es : List (V × V × Nat)} {l : List MapEntry} {r : Option Nat} (hl : MR μ es l) (h : findV K x es 0 = some r) :
    (Instr.findKey t c l).run P w = .ok (r.map fun j => (j, ((l[j]?).map (·.val)).getD undef)) w ∧ ∀ j, r = some j → j < l.length := by
  obtain ⟨a, b⟩ := findV_asking hK hx w es l 0 r hl h
  refine ⟨?_, fun j hj => (b j hj).2⟩
  unfold keyKind at hK
  split at hK
  · rename_i k hk
    cases hK
    have hu : ∃ D, P.underlying t = some D := by
      unfold fkOf at hk
      cases hu : P.underlying t with
      | none => rw [hu] at hk; cases hk
      | some D => exact ⟨D, rfl⟩
    obtain ⟨D, hu⟩ := hu
    obtain ⟨a', _⟩ := findV_now hu hk hx es l 0 r hl h
    simp [Instr.findKey, run_underlying hu, a']
  · split at hK
    · rename_i ks hks
      cases hK
      obtain ⟨fs, hu, _⟩ := flat_length hks
      cases l with
      | nil =>
        have hr : r = none := by
          cases r with
          | none => rfl
          | some j => exact absurd (b j rfl).2 (by simp)
        subst hr
        simp [Instr.findKey, run_underlying hu, Instr.findNow]
      | cons e rest =>
        have : Instr.findNow (.struct fs) c (e :: rest) 0 = none := by simp [Instr.findNow, Instr.sameNow]
        simp only [Instr.findKey, Sem.run_bind, run_underlying hu, Result.andThen_ok, this, a, Nat.sub_zero]
    · cases hK
end
end Go.Cb
