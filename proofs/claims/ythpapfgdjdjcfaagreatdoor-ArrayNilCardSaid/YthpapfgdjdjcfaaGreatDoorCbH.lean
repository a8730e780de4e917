/- The operations that read, and those that write maps and cells: on the abstract heap, and that the model does the same. -/
import Derived.Test.YthpapfgdjdjcfaaGreatDoorCbG
set_option linter.unusedVariables false
set_option linter.unusedSimpArgs false
namespace Go.Cb
open Go.RowKit

/-- The bytes of cells. -/
def bytesOf : List V → Option (List UInt8)
  | [] => some []
  | .i .u8 n :: vs => match bytesOf vs with
    | some l => some (UInt8.ofNat n.toNat :: l)
    | none => none
  | _ => none

def isMap (P : Program) (t : TypeId) : Bool := match P.underlying t with | some (.map _ _) => true | _ => false
def isSlice (P : Program) (t : TypeId) : Bool := match P.underlying t with | some (.slice _) => true | _ => false
def isByteSlice (P : Program) (t : TypeId) : Bool := match P.underlying t with | some (.slice e) => (match P.underlying e with | some (.int .u8) => true | _ => false) | _ => false
def isStr (P : Program) (t : TypeId) : Bool := match P.underlying t with | some .string => true | _ => false

/-- The entries of a map, and its clock. -/
def entries (h : H) (m : V) : Option (List (V × V × Nat)) :=
  match m with
  | .mn => some []
  | .m id => match h.get id with
    | some (.m es _) => some es
    | _ => none
  | _ => none

def keyLen : KK → V → Bool
  | .flat ks, .g xs => decide (ks.length ≤ xs.length)
  | _, _ => true

def zeroV (P : Program) (t : TypeId) : Option V :=
  match P.info? t with
  | some i => match i.zero with
    | some z => ofValue z
    | none => none
  | none => none

def lkR (K : KK) (z : V) (ok : Bool) (m k : V) (h : H) : Option V := match entries h m with
  | some es => cond (keyOk K k && keyLen K k) (match findV K k es 0 with
    | some (some j) => match es[j]? with
      | some e => some (cond ok (.t [e.2.1, .b true]) e.2.1)
      | none => none
    | some none => some (cond ok (.t [z, .b false]) z)
    | none => none) none
  | none => none

def lookupV (P : Program) (t : TypeId) (m k : V) (ok : Bool) (h : H) : Option V :=
  match P.underlying t with
  | some (.map kt et) => match keyKind P kt with
    | some K => match zeroV P et with
      | some z => lkR K z ok m k h
      | none => none
    | none => none
  | _ => none

def bytesV (x : V) (h : H) : Option V :=
  match x with
  | .ns => some (.s [])
  | .sl id off len _ _ sz => cond (Nat.beq sz 1) (match rdCells h id off len with
    | some vs => match bytesOf vs with
      | some l => some (.s l)
      | none => none
    | none => none) none
  | _ => none

/-- The operations that read. -/
def readOp (P : Program) (ρ : Operand → Option V) (op : Op) (h : H) : Option V :=
  match op with
  | .load t x => match shapeOf P t, ρ x with
    | some (a, n), some v => ld a n v h
    | _, _ => none
  | .lookup t m k ok => match ρ m, ρ k with
    | some m, some k => lookupV P t m k ok h
    | _, _ => none
  | .convert s d x => match ρ x with
    | some v => cond (isByteSlice P s && isStr P d) (bytesV v h) none
    | none => none
  | .call c => match c.callee with
    | .builtin .len => match c.args.toList, c.argTypes.toList with
      | [x], [t] => match ρ x with
        | some m => cond (isMap P t) (match entries h m with
          | some es => some (.i .i64 es.length)
          | none => none) none
        | none => none
      | _, _ => none
    | _ => none
  | _ => none

section
variable {P : Program} {μ : Mu} {W0 : World} {h : H} {w : World}

theorem entries_spec (s : Sim W0 μ h w) {m : V} {c : Value} {es : List (V × V × Nat)} (he : entries h m = some es) (hm : VR μ m c) :
    (c = .map none ∧ es = []) ∨ ∃ r ents clk, c = .map (some r) ∧ w.heap[r]? = some (.map ents clk) ∧ MR μ es ents.toList := by
  unfold entries at he
  split at he <;> first | (cases he; done) | skip
  · cases he; simp only [VR] at hm; exact .inl ⟨hm, rfl⟩
  · rename_i id
    split at he <;> first | (cases he; done) | skip
    rename_i clk hg
    cases he
    simp only [VR] at hm
    obtain ⟨L, hL, rfl⟩ := hm
    obtain ⟨ents, h1, h2, _⟩ := s.ob id L _ hL hg
    exact .inr ⟨_, ents, clk, rfl, h1, h2⟩

theorem zeroV_run {t : TypeId} {z : V} (h : zeroV P t = some z) : ∃ c, VR μ z c ∧ ∀ w, (zeroValue t).run P w = .ok c w := by
  unfold zeroV at h
  split at h <;> first | (cases h; done) | skip
  rename_i i hi
  split at h <;> first | (cases h; done) | skip
  rename_i c hc
  exact ⟨c, ofValue_spec h, fun w => by simp [zeroValue, typeInfo, hi, hc]⟩

theorem lookupV_sound (s : Sim W0 μ h w) {t : TypeId} {m k v : V} {ok : Bool} {cm ck : Value} (hr : lookupV P t m k ok h = some v) (hm : VR μ m cm) (hk : VR μ k ck) :
    ∃ u, VR μ v u ∧ (Instr.lookup t cm ck ok).run P w = .ok u w := by
  unfold lookupV at hr
  split at hr <;> first | (cases hr; done) | skip
  rename_i kt et hu
  split at hr <;> first | (cases hr; done) | skip
  rename_i K hK
  split at hr <;> first | (cases hr; done) | skip
  rename_i z hz
  unfold lkR at hr
  split at hr <;> first | (cases hr; done) | skip
  rename_i es he
  cases hc : (keyOk K k && keyLen K k) with
  | false => rw [hc] at hr; cases hr
  | true =>
    rw [hc] at hr
    simp only [cond_true] at hr
    simp only [Bool.and_eq_true] at hc
    obtain ⟨hko, hkl⟩ := hc
    obtain ⟨zc, hzr, hzrun⟩ := zeroV_run (P := P) (μ := μ) hz
    have hchk : ∀ e, (Instr.checkKey e 10000 kt ck).run P w = .ok () w := fun e => checkKey_run (P := P) hK hko (fun ks xs h1 h2 => by subst h1; subst h2; simpa [keyLen] using hkl) hk 9998 w
    have main : ∀ (l : Array MapEntry), MR μ es l.toList → ∃ u, VR μ v u ∧ ∃ r, (Instr.findKey kt ck l.toList).run P w = .ok r w ∧
        ((∃ j c, r = some (j, c) ∧ u = if ok then Value.tuple #[c, .bool true] else c) ∨ (r = none ∧ u = if ok then Value.tuple #[zc, .bool false] else zc)) := by
      intro l hl
      cases hf : findV K k es 0 with
      | none => rw [hf] at hr; cases hr
      | some r =>
        rw [hf] at hr
        obtain ⟨a, b⟩ := findKey_run (P := P) hK hk w hl hf
        cases r with
        | none =>
          cases hr
          refine ⟨_, ?_, none, a, .inr ⟨rfl, rfl⟩⟩
          cases ok with
          | false => exact hzr
          | true => simp only [cond_true, VR, VRs]; exact ⟨_, rfl, _, _, rfl, hzr, _, _, rfl, rfl, rfl⟩
        | some j =>
          obtain ⟨hlen, hget⟩ := hl.get
          simp only at hr
          cases hes : es[j]? with
          | none => rw [hes] at hr; cases hr
          | some e =>
            obtain ⟨ke, ve, ne⟩ := e
            rw [hes] at hr
            obtain ⟨me, h1, h2, h3, h4⟩ := hget j _ _ _ hes
            simp only [Option.map_some, h1, Option.getD_some] at a
            cases hr
            refine ⟨_, ?_, _, a, .inl ⟨_, _, rfl, rfl⟩⟩
            cases ok with
            | false => exact h3
            | true => simp only [cond_true, VR, VRs]; exact ⟨_, rfl, _, _, rfl, h3, _, _, rfl, rfl, rfl⟩
    rcases entries_spec s he hm with ⟨rfl, rfl⟩ | ⟨r, ents, clk, rfl, hg, hl⟩
    · obtain ⟨u, hu1, r, hf, hu2⟩ := main #[] (by simp [MR])
      refine ⟨u, hu1, ?_⟩
      unfold Instr.lookup
      simp only [Sem.run_bind, run_underlying hu, Result.andThen_ok, Sem.run_pure, hchk, hf]
      rcases hu2 with ⟨j, c, rfl, rfl⟩ | ⟨rfl, rfl⟩
      · simp
      · simp [hzrun w]
    · obtain ⟨u, hu1, r', hf, hu2⟩ := main ents hl
      refine ⟨u, hu1, ?_⟩
      have hgo : (getObj r).run P w = .ok (.map ents clk) w := by simp [getObj, Sem.run, hg]
      unfold Instr.lookup
      simp only [Sem.run_bind, run_underlying hu, Result.andThen_ok, Sem.run_pure, hgo, hchk, hf]
      rcases hu2 with ⟨j, c, rfl, rfl⟩ | ⟨rfl, rfl⟩
      · simp
      · simp [hzrun w]

theorem bytes_loop (g : Value → ByteArray → Sem (ForInStep ByteArray)) (hg : ∀ n s, g (.int .u8 n) s = pure (ForInStep.yield (s.push (UInt8.ofNat n.toNat)))) : ∀ (vs : List V) (l : List Value) (bs : List UInt8) (acc : ByteArray), bytesOf vs = some bs → VRs μ vs l → ∀ w,
    (forIn l acc g).run P w = .ok ⟨⟨acc.data.toList ++ bs⟩⟩ w
  | [], l, bs, acc, hb, hl, w => by
    simp only [VRs] at hl; subst hl
    cases hb
    simp
  | v :: vs, l, bs, acc, hb, hl, w => by
    simp only [VRs] at hl
    obtain ⟨c, cs, rfl, hc, hl⟩ := hl
    unfold bytesOf at hb
    split at hb <;> first | (cases hb; done) | skip
    · rename_i e; cases e
    · rename_i n vs' e
      cases e
      split at hb <;> first | (cases hb; done) | skip
      rename_i bs' hbs
      cases hb
      simp only [VR] at hc; subst hc
      rw [List.forIn_cons, hg]
      simp only [Sem.run_bind, Sem.run_pure, Result.andThen_ok]
      rw [bytes_loop g hg vs cs bs' _ hbs hl w]
      simp

theorem bytesV_sound (s : Sim W0 μ h w) {x v : V} {c : Value} (hr : bytesV x h = some v) (hx : VR μ x c) : ∃ u, VR μ v u ∧ (Conv.bytesToString c).run P w = .ok u w := by
  unfold bytesV at hr
  split at hr <;> first | (cases hr; done) | skip
  · cases hr
    simp only [VR] at hx; subst hx
    exact ⟨.string .empty, by simp only [VR]; rfl, by simp [Conv.bytesToString]⟩
  · rename_i id off len cap ex sz
    cases hsz : Nat.beq sz 1 with
    | false => rw [hsz] at hr; cases hr
    | true =>
      rw [hsz] at hr
      obtain rfl := Nat.eq_of_beq_eq_true hsz
      simp only [cond_true] at hr
      split at hr <;> first | (cases hr; done) | skip
      rename_i vs hrd
      split at hr <;> first | (cases hr; done) | skip
      rename_i bs hb
      cases hr
      simp only [VR] at hx
      obtain ⟨L, ca, cc, hL, rfl, hok⟩ := hx
      obtain ⟨ho, hlen, l, hl, hcells⟩ := rdCells_spec s hL hrd
      have hload : (loadCells ⟨L.blk, ca, none⟩ len).run P w = .ok ⟨l⟩ w := by
        by_cases h0 : len = 0
        · subst h0
          have : l = [] := by have := hl.length; rw [hlen] at this; exact List.eq_nil_of_length_eq_zero this
          subst this
          simp [loadCells, loadCellsFrom]
        · have hca := (hok.2.2.2.2 (by have := hok.1; omega)).1
          subst hca
          have := run_loadCells_list (P := P) w ⟨L.blk, L.base + off, none⟩ l (fun j c hc => by rw [add_pos]; exact hcells j c hc)
          rw [hl.length, hlen] at this
          exact this
      refine ⟨.string ⟨⟨bs⟩⟩, by simp only [VR], ?_⟩
      unfold Conv.bytesToString
      simp only [Sem.run_bind, hload, Result.andThen_ok]
      simp
      rw [bytes_loop (P := P) _ (fun _ _ => rfl) vs l bs ByteArray.empty hb hl w]
      rfl
end
end Go.Cb
