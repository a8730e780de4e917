/- The operations that touch no memory: what they come to on abstract values, and that the model's come to the same. -/
import Derived.Test.YthpapfgdjdjcfaaGreatDoorCbA
import Derived.Tactics
import Derived.Laws.Strings
import Derived.Laws.Entries
import Derived.ChangeKeysEq
set_option linter.unusedVariables false
set_option linter.unusedSimpArgs false
namespace Go.Cb
open Go.RowKit

/-- A constant of the code. -/
def ofScalar : Value → Option V
  | .bool x => some (.b x)
  | .int k n => some (.i k n)
  | .string s => some (.s s.data.toList)
  | .pointer none => some .pn
  | .slice none 0 0 => some .ns
  | .map none => some .mn
  | .nilFunc => some .nf
  | .nilIface => some .ni
  | _ => none

def ofScalars : List Value → Option (List V)
  | [] => some []
  | c :: cs => match ofScalar c, ofScalars cs with
    | some v, some vs => some (v :: vs)
    | _, _ => none

def ofValue : Value → Option V
  | .agg cs => (ofScalars cs.toList).map .g
  | .tuple cs => cond (cs.toList.isEmpty) (some (.t [])) none
  | c => ofScalar c

theorem ofScalar_spec {μ : Mu} {c : Value} {v : V} (h : ofScalar c = some v) : VR μ v c ∧ v.one = true := by
  unfold ofScalar at h
  split at h <;> first | (cases h; done) | (cases h; exact ⟨by simp [VR], rfl⟩) | skip

theorem ofScalars_spec {μ : Mu} : ∀ {cs : List Value} {vs : List V}, ofScalars cs = some vs → VRs μ vs cs ∧ vs.all V.one = true
  | [], vs, h => by cases h; exact ⟨VRs.nil, rfl⟩
  | c :: cs, vs, h => by
    simp only [ofScalars] at h
    split at h
    · rename_i v ws h1 h2
      cases h
      obtain ⟨a, b⟩ := ofScalar_spec (μ := μ) h1
      obtain ⟨a', b'⟩ := ofScalars_spec (μ := μ) h2
      exact ⟨VRs.cons a a', by simp [b, b']⟩
    · cases h

theorem ofValue_spec {μ : Mu} {c : Value} {v : V} (h : ofValue c = some v) : VR μ v c := by
  unfold ofValue at h
  split at h
  · rename_i cs
    cases hs : ofScalars cs.toList with
    | none => rw [hs] at h; cases h
    | some vs =>
      rw [hs] at h; cases h
      obtain ⟨a, b⟩ := ofScalars_spec (μ := μ) hs
      simp only [VR]
      exact ⟨cs.toList, rfl, a, b⟩
  · rename_i cs
    cases hs : cs.toList.isEmpty with
    | false => rw [hs] at h; cases h
    | true =>
      rw [hs] at h; cases h
      simp only [VR, VRs]
      exact ⟨cs.toList, rfl, List.isEmpty_iff.1 hs⟩
  · exact (ofScalar_spec h).1

/-- An operand in a frame. -/
def aval (tm : Tr V) : Operand → Option V
  | .tmp t => tm.get t
  | .const c => ofValue c
  | .global _ => none
  | .func f => some (.f f [] [])

/-- What is known of the frame's slots. -/
def FR (μ : Mu) (tm : Tr V) (a : Act) : Prop := ∀ t v, tm.get t = some v → VR μ v (a.tmps.getD t undef)

theorem FR.mono {μ μ' : Mu} {tm : Tr V} {a : Act} (h : μ.le μ') (f : FR μ tm a) : FR μ' tm a := fun t v hv => VR.mono h _ _ (f t v hv)

theorem FR.aval {μ : Mu} {tm : Tr V} {a : Act} (f : FR μ tm a) {x : Operand} {v : V} (h : aval tm x = some v) : VR μ v (a.eval x) := by
  cases x with
  | tmp t => exact f t v h
  | const c => exact ofValue_spec h
  | global g => cases h
  | func f => cases h; simp only [Act.eval, VR, VRs]; exact ⟨[], [], rfl, rfl, rfl⟩

theorem FR.put {μ : Mu} {tm : Tr V} {a : Act} (f : FR μ tm a) (d : Nat) {v : V} {c : Value} (h : VR μ v c) (hd : d < a.tmps.size) : FR μ (tm.set d v) (a.put (some d) c) := by
  intro t u hu
  by_cases e : t = d
  · subst e
    rw [Tr.get_set_same] at hu; cases hu
    simpa [Act.put, hd] using h
  · rw [Tr.get_set_ne _ _ e] at hu
    have := f t u hu
    simpa [Act.put, Array.getElem?_setIfInBounds_ne (Ne.symm e)] using this

/-- The arithmetic of one kind. -/
def intBin (op : BinOp) (k : IntKind) (x y : Int) : Option V :=
  match op with
  | .add => some (.i k (k.wrap (x + y)))
  | .sub => some (.i k (k.wrap (x - y)))
  | .mul => some (.i k (k.wrap (x * y)))
  | .quo => cond (decide (y = 0)) none (some (.i k (k.wrap (x.tdiv y))))
  | .rem => cond (decide (y = 0)) none (some (.i k (x.tmod y)))
  | .and => some (.i k (k.wrap (BitVec.ofInt k.bits x &&& BitVec.ofInt k.bits y).toNat))
  | .or => some (.i k (k.wrap (BitVec.ofInt k.bits x ||| BitVec.ofInt k.bits y).toNat))
  | .xor => some (.i k (k.wrap (BitVec.ofInt k.bits x ^^^ BitVec.ofInt k.bits y).toNat))
  | .andNot => some (.i k (k.wrap (BitVec.ofInt k.bits x &&& ~~~ BitVec.ofInt k.bits y).toNat))
  | .eql => some (.b (x == y))
  | .neq => some (.b (x != y))
  | .lss => some (.b (decide (x < y)))
  | .leq => some (.b (decide (x ≤ y)))
  | .gtr => some (.b (decide (x > y)))
  | .geq => some (.b (decide (x ≥ y)))
  | _ => none

def shiftBin (op : BinOp) (k : IntKind) (x y : Int) : Option V :=
  cond (decide (y < 0)) none (match op with
    | .shl => some (.i k (k.wrap (x * 2 ^ (min y.toNat k.bits))))
    | .shr => some (.i k (x.fdiv (2 ^ (min y.toNat k.bits))))
    | _ => none)

def longest : Nat := 9223372036854775807

def strBin (op : BinOp) (x y : List UInt8) : Option V :=
  match op with
  | .add => cond (decide (x.length + y.length ≤ longest)) (some (.s (x ++ y))) none
  | .eql => some (.b (x == y))
  | .neq => some (.b (!(x == y)))
  | _ => none

/-- The kinds of plain one-cell fields. -/
inductive FK where
  | b | i | s

def fkOf (P : Program) (t : TypeId) : Option FK :=
  match P.underlying t with
  | some .bool => some .b
  | some (.int _) => some .i
  | some .string => some .s
  | _ => none

/-- Two one-cell values that are compared by what they are. -/
def eqOne : FK → V → V → Option Bool
  | .b, .b x, .b y => some (x == y)
  | .i, .i k x, .i k' y => cond (decide (k = k')) (some (x == y)) none
  | .s, .s x, .s y => some (x == y)
  | _, _, _ => none

def eqAll : List FK → List V → List V → Option Bool
  | [], [], [] => some true
  | k :: ks, x :: xs, y :: ys => match eqOne k x y with
    | some true => eqAll ks xs ys
    | some false => some false
    | none => none
  | _, _, _ => none

/-- A struct type whose fields are plain one-cell values, one behind the other. -/
def flatFields (P : Program) : List Field → Nat → Option (List FK)
  | [], _ => some []
  | f :: fs, n => cond ((f.name != "_") && (f.offset == n)) (match fkOf P f.type, flatFields P fs (n + 1) with | some k, some ks => some (k :: ks) | _, _ => none) none

def flat (P : Program) (t : TypeId) : Option (List FK) :=
  match P.underlying t with
  | some (.struct fs) => cond (!P.stoodInHeld t && !P.eqGuardType P.depth t) (flatFields P fs.toList 0) none
  | _ => none

/-- What '==' asks of a type. -/
inductive UK where
  | b | p | l | f | o

def ukOf (P : Program) (t : TypeId) : UK := match P.underlying t with
  | some .bool => .b
  | some (.pointer _) => .p
  | some (.slice _) => .l
  | some (.struct _) => .f
  | _ => .o

def eqU (u : UK) (fl : Option (List FK)) (x y : V) : Option Bool :=
  match u with
  | .b => match x, y with
    | .b x, .b y => some (x == y)
    | _, _ => none
  | .p => match x, y with
    | .pn, .pn => some true
    | .pn, .p _ _ => some false
    | .p _ _, .pn => some false
    | _, _ => none
  | .l => match x, y with
    | .ns, .ns => some true
    | .ns, .sl .. => some false
    | .sl .., .ns => some false
    | _, _ => none
  | .f => match x, y with
    | .g xs, .g ys => match fl with
      | some ks => eqAll ks xs ys
      | none => none
    | _, _ => none
  | .o => none

def eqV (P : Program) (t : TypeId) (x y : V) : Option Bool := eqU (ukOf P t) (flat P t) x y

def binR (op : BinOp) (u : UK) (fl : Option (List FK)) (x y : V) : Option V :=
  match x, y with
  | .i k a, .i k' b => match op with
    | .shl => shiftBin .shl k a b
    | .shr => shiftBin .shr k a b
    | op => cond (decide (k = k')) (intBin op k a b) none
  | .s a, .s b => strBin op a b
  | x, y => match op with
    | .eql => (eqU u fl x y).map .b
    | .neq => (eqU u fl x y).map fun r => .b (!r)
    | _ => none

def binV (P : Program) (op : BinOp) (t : TypeId) (x y : V) : Option V := binR op (ukOf P t) (flat P t) x y

def unV (op : UnOp) (x : V) : Option V :=
  match op, x with
  | .neg, .i k n => some (.i k (k.wrap (0 - n)))
  | .xor, .i k n => intBin .xor k (cond k.signed (-1) k.max) n
  | .not, .b x => some (.b (!x))
  | _, _ => none

def convV (P : Program) (s d : TypeId) (x : V) : Option V :=
  match P.underlying s, P.underlying d, x with
  | some (.int _), some (.int k), .i _ n => some (.i k (k.wrap n))
  | some .string, some .string, .s l => some (.s l)
  | _, _, _ => none


/-! ### The model does the same -/
section
variable {P : Program} {μ : Mu}

theorem runs_sizeOf {t : TypeId} {i : TypeInfo} (h : P.info? t = some i) (w : World) : (sizeOf t).run P w = .ok i.size w := by
  simp [sizeOf, typeInfo, h]

theorem runs_typeInfo {t : TypeId} {i : TypeInfo} (h : P.info? t = some i) (w : World) : (typeInfo t).run P w = .ok i w := by
  simp [typeInfo, h]

theorem VR.i_inv {k : IntKind} {n : Int} {c : Value} (h : VR μ (.i k n) c) : c = .int k n := by simpa only [VR] using h

theorem intBin_sound {op : BinOp} {k : IntKind} {x y : Int} {v : V} (hs : op ≠ .shl) (hr : op ≠ .shr) (h : intBin op k x y = some v) (t : TypeId) :
    ∃ c, VR μ v c ∧ ∀ w, (binOp op t (.int k x) (.int k y)).run P w = .ok c w := by
  cases op <;> first | exact absurd rfl hs | exact absurd rfl hr | skip
  all_goals simp only [intBin] at h
  case quo =>
    by_cases hy : y = 0
    · simp [hy] at h
    · simp only [hy, decide_false, cond_false] at h
      cases h
      exact ⟨_, by simp only [VR]; rfl, fun w => by simp [binOp, Op.intDiv, hy]⟩
  case rem =>
    by_cases hy : y = 0
    · simp [hy] at h
    · simp only [hy, decide_false, cond_false] at h
      cases h
      exact ⟨_, by simp only [VR]; rfl, fun w => by simp [binOp, Op.intDiv, hy]⟩
  all_goals first | (cases h; done) | (cases h; exact ⟨_, by simp only [VR]; rfl, fun w => by simp [binOp, Op.intArith, Op.intBits, Op.intCmp]⟩)

theorem shiftBin_sound {op : BinOp} {k k' : IntKind} {x y : Int} {v : V} (hs : op = .shl ∨ op = .shr) (h : shiftBin op k x y = some v) (t : TypeId) :
    ∃ c, VR μ v c ∧ ∀ w, (binOp op t (.int k x) (.int k' y)).run P w = .ok c w := by
  by_cases hy : y < 0
  · simp [shiftBin, hy] at h
  · rcases hs with rfl | rfl
    · simp only [shiftBin, hy, decide_false, cond_false] at h
      cases h
      exact ⟨_, by simp only [VR]; rfl, fun w => by simp [binOp, Op.shift, hy]⟩
    · simp only [shiftBin, hy, decide_false, cond_false] at h
      cases h
      exact ⟨_, by simp only [VR]; rfl, fun w => by simp [binOp, Op.shift, hy]⟩

theorem bytes_append (x y : List UInt8) : (⟨⟨x⟩⟩ : ByteArray) ++ ⟨⟨y⟩⟩ = ⟨⟨x ++ y⟩⟩ := by
  apply ByteArray.ext
  simp

theorem strBin_sound {op : BinOp} {x y : List UInt8} {v : V} (h : strBin op x y = some v) (t : TypeId) :
    ∃ c, VR μ v c ∧ ∀ w, (binOp op t (.string ⟨⟨x⟩⟩) (.string ⟨⟨y⟩⟩)).run P w = .ok c w := by
  cases op <;> simp only [strBin] at h <;> first | (cases h; done) | skip
  case add =>
    by_cases hl : x.length + y.length ≤ longest
    · simp only [hl, decide_true, cond_true] at h
      cases h
      refine ⟨_, by simp only [VR]; rfl, fun w => ?_⟩
      have hsz : ∀ l : List UInt8, (⟨⟨l⟩⟩ : ByteArray).size = l.length := fun l => rfl
      simp [binOp, Op.stringOp, hsz, bytes_append]
      unfold longest at hl; omega
    · simp [hl] at h
  all_goals (cases h; exact ⟨_, by simp only [VR]; rfl, fun w => by simp [binOp, Op.stringOp]⟩)

theorem bytes_beq (x y : List UInt8) : ((⟨⟨x⟩⟩ : ByteArray) == ⟨⟨y⟩⟩) = (x == y) := by
  show ((⟨x⟩ : Array UInt8) == ⟨y⟩) = (x == y)
  rw [Bool.eq_iff_iff]
  simp

theorem eqOne_sound {k : FK} {x y : V} {r : Bool} {c d : Value} (h : eqOne k x y = some r) (hx : VR μ x c) (hy : VR μ y d) {t : TypeId} (hk : fkOf P t = some k) (n : Nat) (w : World) :
    (Op.equalIn (n + 1) t c d).run P w = .ok r w := by
  unfold fkOf at hk
  unfold eqOne at h
  split at hk <;> first | (cases hk; done) | skip
  all_goals
    rename_i hu
    cases hk
    split at h <;> first | (cases h; done) | skip
  · rename_i e; cases e
    cases h
    simp only [VR] at hx hy
    subst hx; subst hy
    simp [Op.equalIn, run_underlying hu]
  · rename_i e; cases e
  · rename_i e; cases e
  · rename_i e; cases e
  · rename_i k x k' y e
    by_cases e : k = k'
    · simp only [e, decide_true, cond_true] at h
      cases h
      simp only [VR] at hx hy
      subst hx; subst hy
      simp [Op.equalIn, run_underlying hu, e]
    · simp [e] at h
  · rename_i e; cases e
  · rename_i e; cases e
  · rename_i e; cases e
  · rename_i e; cases e
    cases h
    simp only [VR] at hx hy
    subst hx; subst hy
    simp [Op.equalIn, run_underlying hu, bytes_beq]

theorem part_one {t : TypeId} {k : FK} (hk : fkOf P t = some k) {cs : Array Value} {n : Nat} {c : Value} (hc : cs[n]? = some c) (w : World) : (part t cs n).run P w = .ok c w := by
  unfold fkOf at hk
  split at hk <;> first | (cases hk; done) | skip
  all_goals
    rename_i hu
    simp [part, isAgg, run_underlying hu, hc]

def eqBody (n : Nat) (l m : Array Value) (f : Field) (_s : Option Bool × PUnit) : Sem (ForInStep (Option Bool × PUnit)) :=
  if f.name = "_" then pure (ForInStep.yield (none, ()))
  else do
    let a ← part f.type l f.offset
    let b ← part f.type m f.offset
    let r ← Op.equalIn (n + 1) f.type a b
    if r = false then pure (ForInStep.done (some false, ())) else pure (ForInStep.yield (none, ()))

theorem eqLoop {l m : Array Value} {n : Nat} (w : World) : ∀ (fs : List Field) (q : Nat) (ks : List FK) (xs ys : List V) (r : Bool), flatFields P fs q = some ks → eqAll ks xs ys = some r →
    (∀ j v, xs[j]? = some v → ∃ c, l[q + j]? = some c ∧ VR μ v c) → (∀ j v, ys[j]? = some v → ∃ c, m[q + j]? = some c ∧ VR μ v c) →
    (forIn fs ((none, ()) : Option Bool × PUnit) (eqBody n l m)).run P w = .ok (cond r none (some false), ()) w
  | [], q, ks, xs, ys, r, hf, h, _, _ => by
    cases hf
    have hr : r = true := by
      cases xs <;> cases ys <;> simp [eqAll] at h
      exact h
    subst hr
    simp
  | f :: fs, q, ks, xs, ys, r, hf, h, hx, hy => by
    simp only [flatFields] at hf
    cases hc : ((f.name != "_") && (f.offset == q)) with
    | false => rw [hc] at hf; cases hf
    | true =>
      rw [hc] at hf
      simp only [cond_true] at hf
      simp only [Bool.and_eq_true, bne_iff_ne, ne_eq, beq_iff_eq] at hc
      obtain ⟨hname, hoff⟩ := hc
      split at hf <;> first | (cases hf; done) | skip
      rename_i k ks' hk hks
      cases hf
      cases xs with
      | nil => simp [eqAll] at h
      | cons x xs =>
        cases ys with
        | nil => simp [eqAll] at h
        | cons y ys =>
          obtain ⟨c, hc, hxc⟩ := hx 0 x rfl
          obtain ⟨d, hd, hyd⟩ := hy 0 y rfl
          rw [Nat.add_zero] at hc hd
          rw [List.forIn_cons]
          have hp1 := part_one (P := P) hk (cs := l) (n := f.offset) (c := c) (by rw [hoff]; exact hc) w
          have hp2 := part_one (P := P) hk (cs := m) (n := f.offset) (c := d) (by rw [hoff]; exact hd) w
          simp only [eqAll] at h
          have hrest := fun r h => eqLoop (l := l) (m := m) (n := n) w fs (q + 1) ks' xs ys r hks h (fun j v hv => by
            obtain ⟨c, h1, h2⟩ := hx (j + 1) v (by simpa using hv)
            exact ⟨c, by rw [← h1]; congr 1; omega, h2⟩) (fun j v hv => by
            obtain ⟨c, h1, h2⟩ := hy (j + 1) v (by simpa using hv)
            exact ⟨c, by rw [← h1]; congr 1; omega, h2⟩)
          cases he : eqOne k x y with
          | none => rw [he] at h; cases h
          | some b =>
            rw [he] at h
            have heq := eqOne_sound (P := P) he hxc hyd hk n w
            cases b with
            | false =>
              cases h
              simp [eqBody, hname, hp1, hp2, heq]
            | true =>
              have := hrest r h
              simp [eqBody, hname, hp1, hp2, heq]
              exact this

theorem eqStruct_sound {t : TypeId} {xs ys : List V} {r : Bool} {c d : Value} {ks : List FK} (hf : flat P t = some ks) (h : eqAll ks xs ys = some r) (hx : VR μ (.g xs) c) (hy : VR μ (.g ys) d) (n : Nat) (w : World) :
    (Op.equalIn (n + 2) t c d).run P w = .ok r w := by
  simp only [VR] at hx hy
  obtain ⟨l, rfl, hl, _⟩ := hx
  obtain ⟨m, rfl, hm, _⟩ := hy
  unfold flat at hf
  split at hf <;> first | (cases hf; done) | skip
  rename_i fs hu
  have hst : P.stoodInHeld t = false := by
    cases hs : P.stoodInHeld t with
    | false => rfl
    | true => simp [hs] at hf
  have hff : flatFields P fs.toList 0 = some ks := by
    cases hs : (!P.stoodInHeld t && !P.eqGuardType P.depth t) with
    | false => rw [hs] at hf; cases hf
    | true => rw [hs] at hf; exact hf
  have hloop := eqLoop (P := P) (μ := μ) (l := ⟨l⟩) (m := ⟨m⟩) (n := n) w fs.toList 0 ks xs ys r hff h (fun j v hv => by simpa using hl.get hv) (fun j v hv => by simpa using hm.get hv)
  rw [Op.equalIn]
  simp only [Sem.run_bind, run_underlying hu, Result.andThen_ok, run_program, hst]
  simp
  rw [← Array.forIn_toList]
  unfold eqBody at hloop
  rw [hloop]
  cases r <;> simp

section
variable {t : TypeId} (n : Nat) (w : World)
theorem equalIn_bool (h : P.underlying t = some .bool) (a b : Bool) : (Op.equalIn (n + 1) t (.bool a) (.bool b)).run P w = .ok (a == b) w := by
  simp [Op.equalIn, run_underlying h]
theorem equalIn_ptr1 {e : TypeId} (h : P.underlying t = some (.pointer e)) (b : Option Addr) : (Op.equalIn (n + 1) t (.pointer none) (.pointer b)).run P w = .ok b.isNone w := by
  simp [Op.equalIn, run_underlying h]
theorem equalIn_ptr2 {e : TypeId} (h : P.underlying t = some (.pointer e)) (a : Addr) : (Op.equalIn (n + 1) t (.pointer (some a)) (.pointer none)).run P w = .ok false w := by
  simp [Op.equalIn, run_underlying h]
theorem equalIn_sl1 {e : TypeId} (h : P.underlying t = some (.slice e)) (b : Option Addr) (l c l' c' : Nat) : (Op.equalIn (n + 1) t (.slice none l c) (.slice b l' c')).run P w = .ok b.isNone w := by
  simp [Op.equalIn, run_underlying h]
theorem equalIn_sl2 {e : TypeId} (h : P.underlying t = some (.slice e)) (a : Addr) (l c l' c' : Nat) : (Op.equalIn (n + 1) t (.slice (some a) l c) (.slice none l' c')).run P w = .ok false w := by
  simp [Op.equalIn, run_underlying h]
end

def eqV0 (P : Program) (t : TypeId) (x y : V) : Option Bool :=
  match x with
  | .b x => match y with
    | .b y => match P.underlying t with | some .bool => some (x == y) | _ => none
    | _ => none
  | .pn => match P.underlying t with
    | some (.pointer _) => match y with | .pn => some true | .p _ _ => some false | _ => none
    | _ => none
  | .p _ _ => match P.underlying t with
    | some (.pointer _) => match y with | .pn => some false | _ => none
    | _ => none
  | .ns => match P.underlying t with
    | some (.slice _) => match y with | .ns => some true | .sl .. => some false | _ => none
    | _ => none
  | .sl .. => match P.underlying t with
    | some (.slice _) => match y with | .ns => some false | _ => none
    | _ => none
  | .g xs => match y with
    | .g ys => match flat P t with
      | some ks => eqAll ks xs ys
      | none => none
    | _ => none
  | _ => none

theorem eqV0_of {t : TypeId} {x y : V} {r : Bool} (h : eqV P t x y = some r) : eqV0 P t x y = some r := by
  unfold eqV ukOf at h
  unfold eqV0
  cases hu : P.underlying t with
  | none => simp only [hu, eqU] at h; cases h
  | some d =>
    cases d <;> simp only [hu, eqU] at h <;> first | (cases h; done) | skip
    all_goals
      cases x <;> simp only [] at h ⊢ <;> first | (cases h; done) | skip
    all_goals
      cases y <;> simp only [hu] at h ⊢ <;> first | (cases h; done) | exact h | skip

theorem eqV_sound {t : TypeId} {x y : V} {r : Bool} {c d : Value} (h : eqV P t x y = some r) (hx : VR μ x c) (hy : VR μ y d) (n : Nat) (w : World) :
    (Op.equalIn (n + 2) t c d).run P w = .ok r w := by
  replace h := eqV0_of h
  unfold eqV0 at h
  split at h
  · split at h <;> first | (cases h; done) | skip
    split at h <;> first | (cases h; done) | skip
    rename_i hu
    simp only [VR] at hx hy
    subst hx; subst hy
    rw [equalIn_bool _ _ hu]
    simpa using h
  · split at h <;> first | (cases h; done) | skip
    rename_i hu
    simp only [VR] at hx
    subst hx
    split at h <;> first | (cases h; done) | skip
    · cases h; simp only [VR] at hy; subst hy; exact equalIn_ptr1 _ _ hu _
    · cases h; simp only [VR] at hy; obtain ⟨L, _, rfl⟩ := hy; exact equalIn_ptr1 _ _ hu _
  · split at h <;> first | (cases h; done) | skip
    rename_i hu
    simp only [VR] at hx
    obtain ⟨L, _, rfl⟩ := hx
    split at h <;> first | (cases h; done) | skip
    cases h; simp only [VR] at hy; subst hy; exact equalIn_ptr2 _ _ hu _
  · split at h <;> first | (cases h; done) | skip
    rename_i hu
    simp only [VR] at hx
    subst hx
    split at h <;> first | (cases h; done) | skip
    · cases h; simp only [VR] at hy; subst hy; exact equalIn_sl1 _ _ hu _ _ _ _ _
    · cases h; simp only [VR] at hy; obtain ⟨L, ca, cc, _, rfl, _⟩ := hy; exact equalIn_sl1 _ _ hu _ _ _ _ _
  · split at h <;> first | (cases h; done) | skip
    rename_i hu
    simp only [VR] at hx
    obtain ⟨L, ca, cc, _, rfl, _⟩ := hx
    split at h <;> first | (cases h; done) | skip
    cases h; simp only [VR] at hy; subst hy; exact equalIn_sl2 _ _ hu _ _ _ _ _
  · split at h <;> first | (cases h; done) | skip
    split at h <;> first | (cases h; done) | skip
    rename_i ks hk
    exact eqStruct_sound hk h hx hy n w
  · cases h

theorem VR.not_iface {x : V} {c : Value} (h : VR μ x c) (hn : x ≠ .ni) : c ≠ .nilIface := by
  cases x <;> simp only [VR] at h
  case ni => exact absurd rfl hn
  case ie => obtain ⟨u, rfl, _⟩ := h; simp
  case g => obtain ⟨l, rfl, _⟩ := h; simp
  case t => obtain ⟨l, rfl, _⟩ := h; simp
  case f => obtain ⟨l, l', rfl, _⟩ := h; simp
  case p => obtain ⟨_, _, rfl⟩ := h; simp
  case m => obtain ⟨_, _, rfl⟩ := h; simp
  case sl => obtain ⟨_, _, _, _, rfl, _⟩ := h; simp
  all_goals (subst h; simp)

theorem VR.agg_inv {x : V} {cs : Array Value} (h : VR μ x (.agg cs)) : ∃ xs, x = .g xs := by
  cases x <;> simp only [VR] at h
  case g xs => exact ⟨xs, rfl⟩
  case ie => obtain ⟨u, h, _⟩ := h; cases h
  case t => obtain ⟨l, h, _⟩ := h; cases h
  case f => obtain ⟨l, l', h, _⟩ := h; cases h
  case p => obtain ⟨_, _, h⟩ := h; cases h
  case m => obtain ⟨_, _, h⟩ := h; cases h
  case sl => obtain ⟨_, _, _, _, h, _⟩ := h; cases h
  all_goals cases h

theorem VR.int_inv {x : V} {k : IntKind} {n : Int} (h : VR μ x (.int k n)) : x = .i k n := by
  cases x <;> simp only [VR] at h
  case i => cases h; rfl
  case ie => obtain ⟨u, h, _⟩ := h; cases h
  case t => obtain ⟨l, h, _⟩ := h; cases h
  case g => obtain ⟨l, h, _⟩ := h; cases h
  case f => obtain ⟨l, l', h, _⟩ := h; cases h
  case p => obtain ⟨_, _, h⟩ := h; cases h
  case m => obtain ⟨_, _, h⟩ := h; cases h
  case sl => obtain ⟨_, _, _, _, h, _⟩ := h; cases h
  all_goals cases h

theorem VR.string_inv {x : V} {b : ByteArray} (h : VR μ x (.string b)) : x = .s b.data.toList := by
  cases x <;> simp only [VR] at h
  case s => cases h; rfl
  case ie => obtain ⟨u, h, _⟩ := h; cases h
  case t => obtain ⟨l, h, _⟩ := h; cases h
  case g => obtain ⟨l, h, _⟩ := h; cases h
  case f => obtain ⟨l, l', h, _⟩ := h; cases h
  case p => obtain ⟨_, _, h⟩ := h; cases h
  case m => obtain ⟨_, _, h⟩ := h; cases h
  case sl => obtain ⟨_, _, _, _, h, _⟩ := h; cases h
  all_goals cases h

theorem VR.no_float {x : V} {k : FloatKind} {n : Nat} (h : VR μ x (.float k n)) : False := by
  cases x <;> simp only [VR] at h
  case ie => obtain ⟨u, h, _⟩ := h; cases h
  case t => obtain ⟨l, h, _⟩ := h; cases h
  case g => obtain ⟨l, h, _⟩ := h; cases h
  case f => obtain ⟨l, l', h, _⟩ := h; cases h
  case p => obtain ⟨_, _, h⟩ := h; cases h
  case m => obtain ⟨_, _, h⟩ := h; cases h
  case sl => obtain ⟨_, _, _, _, h, _⟩ := h; cases h
  all_goals cases h

theorem VR.no_complex {x : V} {k : FloatKind} {n m : Nat} (h : VR μ x (.complex k n m)) : False := by
  cases x <;> simp only [VR] at h
  case ie => obtain ⟨u, h, _⟩ := h; cases h
  case t => obtain ⟨l, h, _⟩ := h; cases h
  case g => obtain ⟨l, h, _⟩ := h; cases h
  case f => obtain ⟨l, l', h, _⟩ := h; cases h
  case p => obtain ⟨_, _, h⟩ := h; cases h
  case m => obtain ⟨_, _, h⟩ := h; cases h
  case sl => obtain ⟨_, _, _, _, h, _⟩ := h; cases h
  all_goals cases h

/-- What the guard of '==' asks is quiet. -/
theorem eqGuard_run {t : TypeId} {op : BinOp} {c d : Value} (hc : c ≠ .nilIface) (ha : ∀ xs ys, c = .agg xs → d = .agg ys → P.eqGuardType P.depth t = false) (ox oy : Operand) (w : World) :
    (eqGuard op t ox oy c d).run P w = .ok () w := by
  unfold eqGuard
  cases op <;> first | (simp; done) | skip
  all_goals
    simp
    split
    · exact absurd rfl hc
    · simp [ha _ _ rfl rfl]
    · simp

theorem eqGuard_sound {t : TypeId} {x y : V} {op : BinOp} {c d : Value} (hx : VR μ x c) (hy : VR μ y d) (hn : x ≠ .ni)
    (hf : ∀ xs ys, x = .g xs → y = .g ys → ∃ ks, flat P t = some ks) (ox oy : Operand) (w : World) :
    (eqGuard op t ox oy c d).run P w = .ok () w := by
  refine eqGuard_run (VR.not_iface hx hn) (fun cs ds h1 h2 => ?_) ox oy w
  subst h1; subst h2
  obtain ⟨xs, rfl⟩ := VR.agg_inv hx
  obtain ⟨ys, rfl⟩ := VR.agg_inv hy
  obtain ⟨ks, hk⟩ := hf _ _ rfl rfl
  unfold flat at hk
  split at hk <;> first | (cases hk; done) | skip
  cases hs : (!P.stoodInHeld t && !P.eqGuardType P.depth t) with
  | false => rw [hs] at hk; cases hk
  | true =>
    simp only [Bool.and_eq_true, Bool.not_eq_true'] at hs
    exact hs.2

theorem binV_ni {t : TypeId} {op : BinOp} {v y : V} (h : binV P op t .ni y = some v) : False := by
  unfold binV binR at h
  rw [show eqU (ukOf P t) (flat P t) = eqV P t from rfl] at h
  simp only at h
  have : eqV P t .ni y = none := by
    cases he : eqV P t .ni y with
    | none => rfl
    | some r => have := eqV0_of he; simp [eqV0] at this
  split at h
  · rw [this] at h; cases h
  · rw [this] at h; cases h
  · cases h

theorem binV_flat {t : TypeId} {op : BinOp} {v : V} {xs ys : List V} (h : binV P op t (.g xs) (.g ys) = some v) : ∃ ks, flat P t = some ks := by
  unfold binV binR at h
  rw [show eqU (ukOf P t) (flat P t) = eqV P t from rfl] at h
  simp only at h
  cases hf : flat P t with
  | some ks => exact ⟨ks, rfl⟩
  | none =>
    have : eqV P t (.g xs) (.g ys) = none := by
      cases he : eqV P t (.g xs) (.g ys) with
      | none => rfl
      | some r => have := eqV0_of he; simp [eqV0, hf] at this
    split at h
    · rw [this] at h; cases h
    · rw [this] at h; cases h
    · cases h

theorem binOp_eql {t : TypeId} {x y : V} {c d : Value} (hx : VR μ x c) (hy : VR μ y d) (h1 : ∀ k a k' b, ¬ (x = .i k a ∧ y = .i k' b)) (h2 : ∀ a b, ¬ (x = .s a ∧ y = .s b)) :
    binOp .eql t c d = (do pure (.bool (← Op.equal t c d))) ∧ binOp .neq t c d = (do pure (.bool (!(← Op.equal t c d)))) := by
  cases c <;> first
    | exact absurd hx (fun h => VR.no_float h)
    | exact absurd hx (fun h => VR.no_complex h)
    | skip
  all_goals
    cases d <;> first
      | exact ⟨rfl, rfl⟩
      | exact absurd ⟨VR.int_inv hx, VR.int_inv hy⟩ (h1 _ _ _ _)
      | exact absurd ⟨VR.string_inv hx, VR.string_inv hy⟩ (h2 _ _)

theorem binV_sound {t : TypeId} {x y : V} {v : V} {op : BinOp} {c d : Value} (h : binV P op t x y = some v) (hx : VR μ x c) (hy : VR μ y d) :
    ∃ u, VR μ v u ∧ ∀ w, (binOp op t c d).run P w = .ok u w := by
  unfold binV binR at h
  rw [show eqU (ukOf P t) (flat P t) = eqV P t from rfl] at h
  split at h
  · simp only [VR] at hx hy; subst hx; subst hy
    split at h
    · exact shiftBin_sound (.inl rfl) h t
    · exact shiftBin_sound (.inr rfl) h t
    · rename_i k a k' b _ hs hr
      by_cases e : k = k'
      · subst e
        simp only [decide_true, cond_true] at h
        exact intBin_sound (fun e => hs e) (fun e => hr e) h t
      · simp [e] at h
  · simp only [VR] at hx hy; subst hx; subst hy
    exact strBin_sound h t
  · rename_i n1 n2
    obtain ⟨e1, e2⟩ := binOp_eql (t := t) hx hy (fun k a k' b he => n1 _ _ _ _ he.1 he.2) (fun a b he => n2 _ _ he.1 he.2)
    split at h
    · cases hr : eqV P t x y with
      | none => rw [hr] at h; cases h
      | some r =>
        rw [hr] at h; cases h
        refine ⟨.bool r, by simp [VR], fun w => ?_⟩
        rw [e1]
        simp [Op.equal, Op.maxDepth, eqV_sound hr hx hy 9998 w]
    · cases hr : eqV P t x y with
      | none => rw [hr] at h; cases h
      | some r =>
        rw [hr] at h; cases h
        refine ⟨.bool (!r), by simp [VR], fun w => ?_⟩
        rw [e2]
        simp [Op.equal, Op.maxDepth, eqV_sound hr hx hy 9998 w]
    · cases h
end
end Go.Cb
