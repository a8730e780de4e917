/- The operations that touch no memory, all together: what they come to on abstract values, and that the model's come to the same. -/
import Derived.Test.YthpapfgdjdjcfaaGreatDoorCbB
set_option linter.unusedVariables false
set_option linter.unusedSimpArgs false
namespace Go.Cb
open Go.RowKit

def avals (ρ : Operand → Option V) : List Operand → Option (List V)
  | [] => some []
  | x :: xs => match ρ x, avals ρ xs with
    | some v, some vs => some (v :: vs)
    | _, _ => none

/-- The cells of a type, and whether its values are aggregates. -/
def shapeOf (P : Program) (t : TypeId) : Option (Bool × Nat) :=
  match P.underlying t, P.info? t with
  | some (.struct _), some i => some (true, i.size)
  | some (.array _ _), some i => some (true, i.size)
  | some _, some i => some (false, i.size)
  | _, _ => none

/-- A part of an aggregate. -/
def partV (agg : Bool) (n : Nat) (cs : List V) (off : Nat) : Option V :=
  cond agg (cond (decide (off + n ≤ cs.length)) (some (.g ((cs.drop off).take n))) none) cs[off]?

/-- Parts laid into cells. -/
def fillV (place : Nat → Option (Nat × Nat)) (cells : List V) : List (Nat × V) → Option (List V)
  | [] => some cells
  | (i, v) :: rest =>
    match place i with
    | none => none
    | some (off, size) =>
      cond (decide (v.cells.length = size ∧ off + size ≤ cells.length) && v.cells.all V.one) (fillV place (cells.take off ++ v.cells ++ cells.drop (off + size)) rest) none

def pairs (ρ : Operand → Option V) : List (Nat × Operand) → Option (List (Nat × V))
  | [] => some []
  | (i, x) :: xs => match ρ x, pairs ρ xs with
    | some v, some vs => some ((i, v) :: vs)
    | _, _ => none

def zeroCells (P : Program) (t : TypeId) : Option (List V) :=
  match P.info? t with
  | some i => match i.zero with
    | some z => ofScalars z.cells.toList
    | none => none
  | none => none

def places (P : Program) : List Field → Option (List (Nat × Nat))
  | [] => some []
  | f :: fs => match P.info? f.type, places P fs with
    | some i, some l => some ((f.offset, i.size) :: l)
    | _, _ => none

def buildV (P : Program) (t : TypeId) (ps : List (Nat × V)) : Option V :=
  match P.underlying t, zeroCells P t with
  | some (.struct fs), some z => match places P fs.toList with
    | some l => (fillV (fun i => l[i]?) z ps).map .g
    | none => none
  | some (.array _ e), some z => match P.info? e with
    | some i => (fillV (fun k => some (k * i.size, i.size)) z ps).map .g
    | none => none
  | _, _ => none

def fieldAddrV (P : Program) (t : TypeId) (x : V) (f : Nat) : Option V :=
  match P.underlying t with
  | some (.struct fs) => match fs.toList[f]? with
    | some fl => match P.info? fl.type with
      | some i => cond (Nat.beq i.size 0) none (match x with | .p id off => some (.p id (off + fl.offset)) | _ => none)
      | none => none
    | none => none
  | _ => none

def fieldV (P : Program) (t : TypeId) (x : V) (f : Nat) : Option V :=
  match P.underlying t with
  | some (.struct fs) => match fs.toList[f]? with
    | some fl => match shapeOf P fl.type with
      | some (a, n) => match x with | .g cs => partV a n cs fl.offset | _ => none
      | none => none
    | none => none
  | _ => none

def indexAddrV (P : Program) (t : TypeId) (x i : V) : Option V :=
  match P.underlying t with
  | some (.array len e) => match P.info? e with
    | some inf => match x, i with
      | .p id off, .i _ k => cond (decide (0 ≤ k ∧ k < (len : Int))) (some (.p id (off + k.toNat * inf.size))) none
      | _, _ => none
    | none => none
  | some (.slice e) => match P.info? e with
    | some inf => match x, i with
      | .sl id off len _ _ sz, .i _ k => cond (decide (0 ≤ k ∧ k < (len : Int)) && Nat.beq sz inf.size) (some (.p id (off + k.toNat * inf.size))) none
      | _, _ => none
    | none => none
  | _ => none

def indexV (P : Program) (t : TypeId) (x i : V) : Option V :=
  match P.underlying t with
  | some (.array len e) => match shapeOf P e with
    | some (a, n) => match x, i with
      | .g cs, .i _ k => cond (decide (0 ≤ k ∧ k < (len : Int))) (partV a n cs (k.toNat * n)) none
      | _, _ => none
    | none => none
  | some .string => match x, i with
    | .s l, .i _ k => cond (decide (0 ≤ k)) (match l[k.toNat]? with | some b => some (.i .u8 b.toNat) | none => none) none
    | _, _ => none
  | _ => none

/-- The bounds of a slice expression. -/
def boundsV (len cap : Nat) (lo hi : Option V) : Option (Nat × Nat) :=
  match hi with
  | none => match lo with
    | none => some (0, len)
    | some (.i _ l) => cond (decide (0 ≤ l ∧ l ≤ (len : Int))) (some (l.toNat, len)) none
    | _ => none
  | some (.i _ h) => cond (decide (0 ≤ h ∧ h ≤ (cap : Int))) (match lo with
    | none => some (0, h.toNat)
    | some (.i _ l) => cond (decide (0 ≤ l ∧ l ≤ h)) (some (l.toNat, h.toNat)) none
    | _ => none) none
  | _ => none

def sliceV (P : Program) (t : TypeId) (x : V) (lo hi : Option V) (mx : Option V) : Option V :=
  match P.underlying t with
  | some .string => match x, mx with
    | .s s, none => match boundsV s.length s.length lo hi with
      | some (l, h) => some (.s ((s.drop l).take (h - l)))
      | none => none
    | _, _ => none
  | some (.slice e) => match P.info? e with
    | some inf => match x with
      | .sl id off len cap ex sz => cond (Nat.beq sz inf.size) (match mx with
        | none => match boundsV len cap lo hi with
          | some (l, h) => some (.sl id (off + l * sz) (h - l) (cap - l) ex sz)
          | none => none
        | some (.i _ m) => cond (decide (0 ≤ m ∧ m ≤ (cap : Int))) (match hi with
          | none => none
          | some hi => match boundsV len m.toNat lo (some hi) with
            | some (l, h) => some (.sl id (off + l * sz) (h - l) (m.toNat - l) true sz)
            | none => none) none
        | _ => none) none
      | .ns => match mx with
        | none => match boundsV 0 0 lo hi with
          | some _ => some .ns
          | none => none
        | _ => none
      | _ => none
    | none => none
  | _ => none

def lenV (P : Program) (t : TypeId) (x : V) : Option V :=
  match P.underlying t with
  | some .string => match x with | .s l => some (.i .i64 l.length) | _ => none
  | some (.slice _) => match x with | .sl _ _ len _ _ _ => some (.i .i64 len) | .ns => some (.i .i64 0) | _ => none
  | some (.array n _) => some (.i .i64 n)
  | _ => none

def foldI (f : Int → Int → Int) (k : IntKind) : Int → List V → Option V
  | x, [] => some (.i k x)
  | x, .i k' y :: rest => cond (decide (k = k')) (foldI f k (f x y) rest) none
  | _, _ => none

def foldInts (f : Int → Int → Int) : List V → Option V
  | .i k x :: rest => foldI f k x rest
  | _ => none

/-- An operand that may be left out. -/
def optA (ρ : Operand → Option V) : Option Operand → Option (Option V)
  | none => some none
  | some x => match ρ x with
    | some v => some (some v)
    | none => none

def maxI (x y : Int) : Int := if y > x then y else x
def minI (x y : Int) : Int := if y < x then y else x

def fnOf : Fn → Option Nat
  | .func n => some n
  | _ => none

/-- The quiet builtins. -/
def pureB (P : Program) (ρ : Operand → Option V) (b : Builtin) (args : List Operand) (ts : List TypeId) : Option V :=
  match b with
  | .len => match args, ts with
    | [x], [t] => match ρ x with
      | some a => lenV P t a
      | none => none
    | _, _ => none
  | .max => match avals ρ args with
    | some l => foldInts maxI l
    | none => none
  | .min => match avals ρ args with
    | some l => foldInts minI l
    | none => none
  | _ => none

/-- The quiet operations. -/
def pureOp (P : Program) (ρ : Operand → Option V) : Op → Option V
  | .move x | .assign x => ρ x
  | .pick c a b => match ρ c with
    | some (.b true) => ρ a
    | some (.b false) => ρ b
    | _ => none
  | .nilCheck x => match ρ x with
    | some (.p id off) => some (.p id off)
    | some (.f n fs cs) => some (.f n fs cs)
    | _ => none
  | .binOp op t x y _ => match ρ x, ρ y with
    | some a, some b => binV P op t a b
    | _, _ => none
  | .unOp op _ x => match ρ x with
    | some a => unV op a
    | none => none
  | .convert s d x => match ρ x with
    | some a => convV P s d a
    | none => none
  | .slice t x lo hi mx => match ρ x with
    | some a => match optA ρ lo, optA ρ hi, optA ρ mx with
      | some l, some h, some m => sliceV P t a l h m
      | _, _, _ => none
    | none => none
  | .fieldAddr t x f => match ρ x with
    | some a => fieldAddrV P t a f
    | none => none
  | .field t x f => match ρ x with
    | some a => fieldV P t a f
    | none => none
  | .indexAddr t x i => match ρ x, ρ i with
    | some a, some b => indexAddrV P t a b
    | _, _ => none
  | .index t x i => match ρ x, ρ i with
    | some a, some b => indexV P t a b
    | _, _ => none
  | .extract x i => match ρ x with
    | some (.t vs) => vs[i]?
    | _ => none
  | .build t ps => match pairs ρ ps.toList with
    | some l => buildV P t l
    | none => none
  | .makeFunc fn fs cs => match fnOf fn, avals ρ fs.toList, avals ρ cs.toList with
    | some n, some l, some m => some (.f n l m)
    | _, _, _ => none
  | .call c => match c.callee with
    | .builtin b => pureB P ρ b c.args.toList c.argTypes.toList
    | _ => none
  | _ => none

section
variable {P : Program} {μ : Mu}

theorem unV_sound {op : UnOp} {x v : V} {c : Value} (h : unV op x = some v) (hx : VR μ x c) : ∃ u, VR μ v u ∧ ∀ w, (Op.unary op c).run P w = .ok u w := by
  unfold unV at h
  split at h
  · cases h; simp only [VR] at hx; subst hx
    exact ⟨_, by simp only [VR]; rfl, fun w => by simp [Op.unary, Op.intArith]⟩
  · rename_i k n
    simp only [VR] at hx; subst hx
    cases h
    refine ⟨_, by simp only [VR]; rfl, fun w => ?_⟩
    cases hk : k.signed <;> simp [Op.unary, Op.intBits, hk]
  · cases h; simp only [VR] at hx; subst hx
    exact ⟨_, by simp only [VR]; rfl, fun w => by simp [Op.unary]⟩
  · cases h

theorem convV_sound {s d : TypeId} {x v : V} {c : Value} (h : convV P s d x = some v) (hx : VR μ x c) : ∃ u, VR μ v u ∧ ∀ w, (convert s d c).run P w = .ok u w := by
  unfold convV at h
  split at h
  · rename_i hs hd
    cases h; simp only [VR] at hx; subst hx
    exact ⟨_, by simp only [VR]; rfl, fun w => by simp [convert, run_underlying hs, run_underlying hd, Conv.intToInt]⟩
  · rename_i hs hd
    cases h; simp only [VR] at hx; subst hx
    exact ⟨_, by simp only [VR]; rfl, fun w => by simp [convert, run_underlying hs, run_underlying hd]⟩
  · cases h

theorem shapeOf_run {t : TypeId} {a : Bool} {n : Nat} (h : shapeOf P t = some (a, n)) (w : World) : (isAgg t).run P w = .ok a w ∧ (sizeOf t).run P w = .ok n w := by
  unfold shapeOf at h
  split at h
  · rename_i hu hi; cases h; exact ⟨by simp [isAgg, run_underlying hu], runs_sizeOf hi w⟩
  · rename_i hu hi; cases h; exact ⟨by simp [isAgg, run_underlying hu], runs_sizeOf hi w⟩
  · rename_i d i h1 h2 hu hi
    cases h
    refine ⟨?_, runs_sizeOf hi w⟩
    unfold isAgg
    simp only [Sem.run_bind, run_underlying hu, Result.andThen_ok]
    cases d <;> first | rfl | exact absurd hi (h1 _ _ hu) | exact absurd hi (h2 _ _ _ hu)
  · cases h

theorem partV_sound {t : TypeId} {a : Bool} {n : Nat} {cs : List V} {l : List Value} {off : Nat} {v : V} (hs : shapeOf P t = some (a, n)) (h : partV a n cs off = some v) (hl : VRs μ cs l) (ho : cs.all V.one = true) :
    ∃ u, VR μ v u ∧ ∀ w, (part t ⟨l⟩ off).run P w = .ok u w := by
  unfold partV at h
  cases a with
  | true =>
    simp only [cond_true] at h
    by_cases hle : off + n ≤ cs.length
    · simp only [hle, decide_true, cond_true] at h
      cases h
      refine ⟨.agg ⟨(l.drop off).take n⟩, ?_, fun w => ?_⟩
      · simp only [VR]
        refine ⟨_, rfl, VRs.of_get (by simp [hl.length]) fun k v hv => ?_, ?_⟩
        · rw [List.getElem?_take] at hv ⊢
          split at hv
          · rename_i hk
            rw [List.getElem?_drop] at hv ⊢
            simpa [hk] using hl.get hv
          · cases hv
        · rw [List.all_eq_true] at ho ⊢
          exact fun x hx => ho x (List.mem_of_mem_drop (List.mem_of_mem_take hx))
      · obtain ⟨h1, h2⟩ := shapeOf_run hs w
        simp [part, h1, h2]
    · simp [hle] at h
  | false =>
    simp only [cond_false] at h
    obtain ⟨c, hc, hv⟩ := hl.get h
    refine ⟨c, hv, fun w => ?_⟩
    obtain ⟨h1, _⟩ := shapeOf_run hs w
    simp [part, h1, hc]

theorem pairs_spec {tm : Operand → Option V} {ρ : Operand → Value} (hρ : ∀ x v, tm x = some v → VR μ v (ρ x)) :
    ∀ {ps : List (Nat × Operand)} {l : List (Nat × V)}, pairs tm ps = some l → ∃ m : List (Nat × Value), ps.map (fun p => (p.1, ρ p.2)) = m ∧ l.length = m.length ∧ ∀ (k i : Nat) (v : V), l[k]? = some (i, v) → ∃ c, m[k]? = some (i, c) ∧ VR μ v c
  | [], l, h => by cases h; exact ⟨[], rfl, rfl, fun k i v hk => by simp at hk⟩
  | (i, x) :: ps, l, h => by
    simp only [pairs] at h
    split at h <;> first | (cases h; done) | skip
    rename_i v vs hv hvs
    cases h
    obtain ⟨m, h1, h2, h3⟩ := pairs_spec hρ hvs
    refine ⟨(i, ρ x) :: m, by simp [h1], by simp [h2], fun k j u hk => ?_⟩
    cases k with
    | zero => simp at hk; obtain ⟨rfl, rfl⟩ := hk; exact ⟨_, rfl, hρ _ _ hv⟩
    | succ k => simp at hk; simpa using h3 k j u hk

theorem avals_spec {tm : Operand → Option V} {ρ : Operand → Value} (hρ : ∀ x v, tm x = some v → VR μ v (ρ x)) :
    ∀ {xs : List Operand} {l : List V}, avals tm xs = some l → VRs μ l (xs.map ρ)
  | [], l, h => by cases h; exact VRs.nil
  | x :: xs, l, h => by
    simp only [avals] at h
    split at h <;> first | (cases h; done) | skip
    rename_i v vs hv hvs
    cases h
    exact VRs.cons (hρ _ _ hv) (avals_spec hρ hvs)

theorem foldl_set (l : List Value) : ∀ (cs : List Value) (off k : Nat), off + k + l.length ≤ cs.length →
    (l.zipIdx k).foldl (fun (cs : Array Value) (x : Value × Nat) => cs.setIfInBounds (off + x.2) x.1) (⟨cs⟩ : Array Value) = ⟨cs.take (off + k) ++ l ++ cs.drop (off + k + l.length)⟩ := by
  induction l with
  | nil => intro cs off k h; simp
  | cons x l ih =>
    intro cs off k h
    simp only [List.length_cons] at h
    have hlt : off + k < cs.length := by omega
    rw [List.zipIdx_cons, List.foldl_cons]
    have e : (⟨cs⟩ : Array Value).setIfInBounds (off + k) x = ⟨cs.set (off + k) x⟩ := by
      apply Array.ext'; simp
    simp only [e]
    rw [ih (cs.set (off + k) x) off (k + 1) (by simp; omega)]
    congr 1
    have h1 : (cs.set (off + k) x).take (off + (k + 1)) = cs.take (off + k) ++ [x] := by
      rw [← Nat.add_assoc, List.take_succ_eq_append_getElem (by simpa using hlt)]
      simp [List.take_set_of_le]
    have h2 : (cs.set (off + k) x).drop (off + (k + 1) + l.length) = cs.drop (off + k + (l.length + 1)) := by
      rw [List.drop_set_of_lt (by omega)]
      congr 1; omega
    rw [h1, h2]
    simp

theorem fillV_spec {pl : Nat → Option (Nat × Nat)} : ∀ {l : List (Nat × V)} {m : List (Nat × Value)} {z z' : List V} {cs : List Value}, fillV pl z l = some z' → VRs μ z cs → z.all V.one = true → l.length = m.length →
    (∀ (k i : Nat) (v : V), l[k]? = some (i, v) → ∃ c, m[k]? = some (i, c) ∧ VR μ v c) → ∃ cs', Instr.fill pl ⟨cs⟩ m = some ⟨cs'⟩ ∧ VRs μ z' cs' ∧ z'.all V.one = true
  | [], m, z, z', cs, h, hz, ho, hl, _ => by
    cases m with
    | nil => cases h; exact ⟨cs, rfl, hz, ho⟩
    | cons => simp at hl
  | (i, v) :: l, m, z, z', cs, h, hz, ho, hl, hm => by
    cases m with
    | nil => simp at hl
    | cons mm m =>
      obtain ⟨c, hc, hv⟩ := hm 0 i v rfl
      simp at hc
      subst hc
      simp only [fillV] at h
      split at h <;> first | (cases h; done) | skip
      rename_i off size hp
      cases hcond : (decide (v.cells.length = size ∧ off + size ≤ z.length) && v.cells.all V.one) with
      | false => rw [hcond] at h; cases h
      | true =>
        rw [hcond] at h
        simp only [cond_true] at h
        simp only [Bool.and_eq_true, decide_eq_true_eq] at hcond
        obtain ⟨⟨hsz, hle⟩, hone⟩ := hcond
        have ht : ∀ vs, v ≠ .t vs := by
          rintro vs rfl
          simp [V.cells, V.one] at hone
        obtain ⟨hcells, _⟩ := VR.cells hv ht
        have hlen := hcells.length
        have hzl := hz.length
        have hcsz : c.cells.size = size := by
          rw [← hsz, ← hlen]; simp
        simp only [Instr.fill, hp]
        have hn : ¬ ((decide (c.cells.size ≠ size) || decide (off + c.cells.size > (⟨cs⟩ : Array Value).size)) = true) := by
          simp only [List.size_toArray, Bool.or_eq_true, decide_eq_true_eq]
          omega
        rw [if_neg hn]
        have hf := foldl_set c.cells.toList cs off 0 (by simp; omega)
        have e2 : (Array.foldl (fun (cs : Array Value) (x : Value × Nat) => cs.setIfInBounds (off + x.snd) x.fst) (⟨cs⟩ : Array Value) c.cells.zipIdx) = ⟨cs.take off ++ c.cells.toList ++ cs.drop (off + size)⟩ := by
          rw [← Array.foldl_toList, Array.toList_zipIdx]
          rw [Nat.add_zero] at hf
          rw [hf]
          simp [hcsz]
        rw [e2]
        refine fillV_spec (z := z.take off ++ v.cells ++ z.drop (off + size)) h (VRs.append (VRs.append ?_ hcells) ?_) ?_ (by simpa using hl) (fun k j u hk => by simpa using hm (k + 1) j u (by simpa using hk))
        · refine VRs.of_get (by simp [hzl]) fun k u hk => ?_
          rw [List.getElem?_take] at hk ⊢
          split at hk
          · rename_i hk'; simpa [hk'] using hz.get hk
          · cases hk
        · refine VRs.of_get (by simp [hzl]) fun k u hk => ?_
          rw [List.getElem?_drop] at hk ⊢
          exact hz.get hk
        · simp only [List.all_append, Bool.and_eq_true]
          refine ⟨⟨?_, hone⟩, ?_⟩
          · rw [List.all_eq_true] at ho ⊢; exact fun x hx => ho x (List.mem_of_mem_take hx)
          · rw [List.all_eq_true] at ho ⊢; exact fun x hx => ho x (List.mem_of_mem_drop hx)

theorem zeroCells_run {t : TypeId} {z : List V} (h : zeroCells P t = some z) : ∃ c : Value, (∀ w, (zeroValue t).run P w = .ok c w) ∧ VRs μ z c.cells.toList ∧ z.all V.one = true := by
  unfold zeroCells at h
  split at h <;> first | (cases h; done) | skip
  rename_i i hi
  split at h <;> first | (cases h; done) | skip
  rename_i c hc
  obtain ⟨h1, h2⟩ := ofScalars_spec (μ := μ) h
  exact ⟨c, fun w => by simp [zeroValue, typeInfo, hi, hc], h1, h2⟩

theorem places_run : ∀ {fs : List Field} {l : List (Nat × Nat)}, places P fs = some l → ∀ w, (fs.mapM fun f => do pure (f.offset, ← sizeOf f.type) : Sem (List (Nat × Nat))).run P w = .ok l w
  | [], l, h, w => by cases h; rfl
  | f :: fs, l, h, w => by
    simp only [places] at h
    split at h <;> first | (cases h; done) | skip
    rename_i i l' hi hl
    cases h
    have := places_run hl w
    rw [List.mapM_cons]
    simp only [Sem.run_bind, runs_sizeOf hi, Result.andThen_ok, Sem.run_pure, this]

theorem buildV_sound {t : TypeId} {tm : Operand → Option V} {ρ : Operand → Value} (hρ : ∀ x v, tm x = some v → VR μ v (ρ x)) {ps : Array (Nat × Operand)} {l : List (Nat × V)} {v : V} (hp : pairs tm ps.toList = some l) (h : buildV P t l = some v) :
    ∃ u, VR μ v u ∧ ∀ w, (Instr.build t (ps.map fun (i, x) => (i, ρ x))).run P w = .ok u w := by
  obtain ⟨m, hm, hlen, hrel⟩ := pairs_spec hρ hp
  have em : (ps.map fun (i, x) => (i, ρ x)).toList = m := by rw [← hm]; simp
  unfold buildV at h
  split at h
  · rename_i fs z hu hz
    split at h <;> first | (cases h; done) | skip
    rename_i pl hpl
    obtain ⟨c, hc, hcv, hone⟩ := zeroCells_run (μ := μ) hz
    cases hf : fillV (fun i => pl[i]?) z l with
    | none => rw [hf] at h; cases h
    | some z' =>
      rw [hf] at h; cases h
      obtain ⟨cs', h1, h2, h3⟩ := fillV_spec hf hcv hone hlen hrel
      refine ⟨.agg ⟨cs'⟩, by simp only [VR]; exact ⟨cs', rfl, h2, h3⟩, fun w => ?_⟩
      have hpr := places_run hpl w
      have e1 : ((fs.mapM fun f => do pure (f.offset, ← sizeOf f.type)) : Sem (Array (Nat × Nat))).run P w = .ok pl.toArray w := by
        rw [Array.mapM_eq_mapM_toList]
        simp only [Sem.run_map, hpr, Result.andThen_ok]
      unfold Instr.build
      simp only [Sem.run_bind, hc w, Result.andThen_ok, run_underlying hu, e1, em]
      have e3 : (fun (i : Nat) => (pl.toArray)[i]?) = fun (i : Nat) => pl[i]? := by funext i; simp
      simp only [e3]
      have e4 : (⟨c.cells.toList⟩ : Array Value) = c.cells := by simp
      rw [e4] at h1
      rw [h1]
      rfl
  · rename_i e z hu hz
    split at h <;> first | (cases h; done) | skip
    rename_i inf hi
    obtain ⟨c, hc, hcv, hone⟩ := zeroCells_run (μ := μ) hz
    cases hf : fillV (fun k => some (k * inf.size, inf.size)) z l with
    | none => rw [hf] at h; cases h
    | some z' =>
      rw [hf] at h; cases h
      obtain ⟨cs', h1, h2, h3⟩ := fillV_spec hf hcv hone hlen hrel
      refine ⟨.agg ⟨cs'⟩, by simp only [VR]; exact ⟨cs', rfl, h2, h3⟩, fun w => ?_⟩
      unfold Instr.build
      have e4 : (⟨c.cells.toList⟩ : Array Value) = c.cells := by simp
      rw [e4] at h1
      simp only [Sem.run_bind, hc w, Result.andThen_ok, run_underlying hu, runs_sizeOf hi, em]
      rw [h1]
      rfl
  · cases h

theorem toList_get {α : Type} {a : Array α} {i : Nat} {x : α} (h : a.toList[i]? = some x) : a[i]? = some x := by simpa using h

theorem add_pos {b o n : Nat} : (⟨b, o, none⟩ : Addr).add n = ⟨b, o + n, none⟩ := by
  unfold Addr.add
  split
  · rename_i h; subst h; rfl
  · rfl

theorem fieldAddrV_sound {t : TypeId} {x v : V} {c : Value} {f : Nat} (h : fieldAddrV P t x f = some v) (hx : VR μ x c) : ∃ u, VR μ v u ∧ ∀ w, (Instr.fieldAt t c f).run P w = .ok u w := by
  unfold fieldAddrV at h
  split at h <;> first | (cases h; done) | skip
  rename_i fs hu
  split at h <;> first | (cases h; done) | skip
  rename_i fl hfl
  split at h <;> first | (cases h; done) | skip
  rename_i i hi
  cases hz : Nat.beq i.size 0 with
  | true => rw [hz] at h; cases h
  | false =>
    rw [hz] at h
    simp only [cond_false] at h
    split at h <;> first | (cases h; done) | skip
    cases h
    simp only [VR] at hx
    obtain ⟨L, hL, rfl⟩ := hx
    refine ⟨_, by simp only [VR]; exact ⟨L, hL, rfl⟩, fun w => ?_⟩
    have hne : i.size ≠ 0 := fun e => by rw [e] at hz; cases hz
    simp [Instr.fieldAt, run_underlying hu, toList_get hfl, Instr.sureAddr, fieldPlace, runs_sizeOf hi, hne, add_pos, Nat.add_assoc]

theorem fieldV_sound {t : TypeId} {x v : V} {c : Value} {f : Nat} (h : fieldV P t x f = some v) (hx : VR μ x c) : ∃ u, VR μ v u ∧ ∀ w, (Instr.field t c f).run P w = .ok u w := by
  unfold fieldV at h
  split at h <;> first | (cases h; done) | skip
  rename_i fs hu
  split at h <;> first | (cases h; done) | skip
  rename_i fl hfl
  split at h <;> first | (cases h; done) | skip
  rename_i a n hs
  split at h <;> first | (cases h; done) | skip
  simp only [VR] at hx
  obtain ⟨l, rfl, hl, ho⟩ := hx
  obtain ⟨u, hu', hr⟩ := partV_sound hs h hl ho
  exact ⟨u, hu', fun w => by simp [Instr.field, run_underlying hu, toList_get hfl, asAgg, hr w]⟩

theorem indexAddrV_sound {t : TypeId} {x i v : V} {c d : Value} (h : indexAddrV P t x i = some v) (hx : VR μ x c) (hi : VR μ i d) : ∃ u, VR μ v u ∧ ∀ w, (Instr.indexAt t c d).run P w = .ok u w := by
  unfold indexAddrV at h
  split at h <;> first | (cases h; done) | skip
  · rename_i len e hu
    split at h <;> first | (cases h; done) | skip
    rename_i inf he
    split at h <;> first | (cases h; done) | skip
    rename_i id off k kk
    by_cases hk : 0 ≤ kk ∧ kk < (len : Int)
    · simp only [hk, and_self, decide_true, cond_true] at h
      cases h
      simp only [VR] at hx hi
      obtain ⟨L, hL, rfl⟩ := hx
      subst hi
      refine ⟨_, by simp only [VR]; exact ⟨L, hL, rfl⟩, fun w => ?_⟩
      simp [Instr.indexAt, asIntOf, run_underlying hu, Instr.sureAddr, runs_sizeOf he, hk, add_pos, Nat.add_assoc]
    · simp [hk] at h
  · rename_i e hu
    split at h <;> first | (cases h; done) | skip
    rename_i inf he
    split at h <;> first | (cases h; done) | skip
    rename_i id off len cap ex sz k kk
    cases hc : (decide (0 ≤ kk ∧ kk < (len : Int)) && Nat.beq sz inf.size) with
    | false => rw [hc] at h; cases h
    | true =>
      rw [hc] at h
      simp only [cond_true] at h
      cases h
      simp only [Bool.and_eq_true, decide_eq_true_eq] at hc
      obtain ⟨hk, hsz⟩ := hc
      have hsz := Nat.eq_of_beq_eq_true hsz
      simp only [VR] at hx hi
      obtain ⟨L, ca, cc, hL, rfl, hok⟩ := hx
      subst hi
      have hcc : 0 < cc := by have := hok.1; omega
      obtain ⟨hca, _⟩ := hok.2.2.2.2 hcc
      refine ⟨_, by simp only [VR]; exact ⟨L, hL, rfl⟩, fun w => ?_⟩
      simp [Instr.indexAt, asIntOf, run_underlying hu, runs_sizeOf he, hk, add_pos, hca, Nat.add_assoc]

theorem indexV_sound {t : TypeId} {x i v : V} {c d : Value} (h : indexV P t x i = some v) (hx : VR μ x c) (hi : VR μ i d) : ∃ u, VR μ v u ∧ ∀ w, (Instr.index t c d).run P w = .ok u w := by
  unfold indexV at h
  split at h <;> first | (cases h; done) | skip
  · rename_i len e hu
    split at h <;> first | (cases h; done) | skip
    rename_i a n hs
    split at h <;> first | (cases h; done) | skip
    rename_i cs k kk
    by_cases hk : 0 ≤ kk ∧ kk < (len : Int)
    · simp only [hk, and_self, decide_true, cond_true] at h
      simp only [VR] at hx hi
      obtain ⟨l, rfl, hl, ho⟩ := hx
      subst hi
      obtain ⟨u, hu', hr⟩ := partV_sound hs h hl ho
      refine ⟨u, hu', fun w => ?_⟩
      simp [Instr.index, asIntOf, run_underlying hu, hk, (shapeOf_run hs w).2, hr w]
    · simp [hk] at h
  · rename_i hu
    split at h <;> first | (cases h; done) | skip
    rename_i l k kk
    by_cases hk : 0 ≤ kk
    · simp only [hk, decide_true, cond_true] at h
      split at h <;> first | (cases h; done) | skip
      rename_i b hb
      cases h
      simp only [VR] at hx hi
      subst hx; subst hi
      refine ⟨_, by simp only [VR]; rfl, fun w => ?_⟩
      have hb' : (⟨⟨l⟩⟩ : ByteArray)[kk.toNat]? = some b := by
        have hlt := (List.getElem?_eq_some_iff.1 hb)
        obtain ⟨hlt, he⟩ := hlt
        have : kk.toNat < (⟨⟨l⟩⟩ : ByteArray).size := hlt
        rw [getElem?_pos (⟨⟨l⟩⟩ : ByteArray) kk.toNat this]
        congr 1
      simp [Instr.index, asIntOf, run_underlying hu, hk, hb']
    · simp [hk] at h

theorem lenV_sound {t : TypeId} {x v : V} {c : Value} {tt : TypeId} {rest : Array TypeId} (h : lenV P t x = some v) (hx : VR μ x c) (h0 : rest[0]? = some t) : ∃ u, VR μ v u ∧ ∀ w, (Builtin.len_ rest tt #[c]).run P w = .ok u w := by
  unfold lenV at h
  split at h
  · rename_i hu
    split at h <;> first | (cases h; done) | skip
    cases h
    simp only [VR] at hx; subst hx
    exact ⟨_, by simp only [VR]; rfl, fun w => by simp [Builtin.len_, h0, run_underlying hu, goInt]; rfl⟩
  · rename_i e hu
    split at h <;> first | (cases h; done) | skip
    · cases h
      simp only [VR] at hx
      obtain ⟨L, ca, cc, hL, rfl, hok⟩ := hx
      exact ⟨_, by simp only [VR]; rfl, fun w => by simp [Builtin.len_, h0, run_underlying hu, goInt]⟩
    · cases h
      simp only [VR] at hx; subst hx
      exact ⟨_, by simp only [VR]; rfl, fun w => by simp [Builtin.len_, h0, run_underlying hu, goInt]⟩
  · rename_i n e hu
    cases h
    exact ⟨_, by simp only [VR]; rfl, fun w => by simp [Builtin.len_, h0, run_underlying hu, goInt]⟩
  · cases h

theorem foldI_max {k : IntKind} : ∀ {l : List V} {x : Int} {v : V} {cs : List Value}, foldI maxI k x l = some v → VRs μ l cs → ∃ u, VR μ v u ∧ ∀ w, (cs.foldlM Builtin.max2 (.int k x)).run P w = .ok u w
  | [], x, v, cs, h, hl => by
    simp only [VRs] at hl; subst hl
    cases h
    exact ⟨.int k x, by simp [VR], fun w => rfl⟩
  | y :: l, x, v, cs, h, hl => by
    cases y <;> simp only [foldI] at h <;> first | (cases h; done) | skip
    rename_i k' y
    by_cases hk : k = k'
    · subst hk
      simp only [decide_true, cond_true] at h
      simp only [VRs] at hl
      obtain ⟨c, cs', rfl, hc, hl⟩ := hl
      simp only [VR] at hc; subst hc
      obtain ⟨u, hu, hr⟩ := foldI_max h hl
      refine ⟨u, hu, fun w => ?_⟩
      have := hr w
      unfold maxI at this
      simp [List.foldlM_cons, Builtin.max2, this]
    · simp [hk] at h

theorem foldI_min {k : IntKind} : ∀ {l : List V} {x : Int} {v : V} {cs : List Value}, foldI minI k x l = some v → VRs μ l cs → ∃ u, VR μ v u ∧ ∀ w, (cs.foldlM Builtin.min2 (.int k x)).run P w = .ok u w
  | [], x, v, cs, h, hl => by
    simp only [VRs] at hl; subst hl
    cases h
    exact ⟨.int k x, by simp [VR], fun w => rfl⟩
  | y :: l, x, v, cs, h, hl => by
    cases y <;> simp only [foldI] at h <;> first | (cases h; done) | skip
    rename_i k' y
    by_cases hk : k = k'
    · subst hk
      simp only [decide_true, cond_true] at h
      simp only [VRs] at hl
      obtain ⟨c, cs', rfl, hc, hl⟩ := hl
      simp only [VR] at hc; subst hc
      obtain ⟨u, hu, hr⟩ := foldI_min h hl
      refine ⟨u, hu, fun w => ?_⟩
      have := hr w
      unfold minI at this
      simp [List.foldlM_cons, Builtin.min2, this]
    · simp [hk] at h

theorem bounds_run {isSlice : Bool} {len cap cap' : Nat} {lo hi : Option V} {l h : Nat} {clo chi : Option Value} (hb : boundsV len cap lo hi = some (l, h)) (hcap : cap ≤ cap') (hlen : len ≤ cap)
    (hlo : ∀ v, lo = some v → ∃ c, clo = some c ∧ VR μ v c) (hlo0 : lo = none → clo = none) (hhi : ∀ v, hi = some v → ∃ c, chi = some c ∧ VR μ v c) (hhi0 : hi = none → chi = none) :
    l ≤ h ∧ h ≤ cap ∧ ∀ w, (Instr.sliceBounds isSlice len cap' clo chi none).run P w = .ok (l, h, cap') w := by
  unfold boundsV at hb
  split at hb
  · rw [hhi0 rfl]
    split at hb
    · rw [hlo0 rfl]
      cases hb
      exact ⟨Nat.zero_le _, hlen, fun w => by simp [Instr.sliceBounds]⟩
    · rename_i k l'
      obtain ⟨c, rfl, hc⟩ := hlo _ rfl
      simp only [VR] at hc; subst hc
      by_cases hl : 0 ≤ l' ∧ l' ≤ (len : Int)
      · simp only [hl, and_self, decide_true, cond_true] at hb
        cases hb
        exact ⟨by omega, hlen, fun w => by simp [Instr.sliceBounds, Instr.sliceBound, asIntOf, hl]⟩
      · simp [hl] at hb
    · cases hb
  · rename_i k h'
    obtain ⟨c, rfl, hc⟩ := hhi _ rfl
    simp only [VR] at hc; subst hc
    by_cases hh : 0 ≤ h' ∧ h' ≤ (cap : Int)
    · simp only [hh, and_self, decide_true, cond_true] at hb
      have hh2 : 0 ≤ h' ∧ h' ≤ (cap' : Int) := by omega
      split at hb
      · rw [hlo0 rfl]
        cases hb
        exact ⟨Nat.zero_le _, by omega, fun w => by simp [Instr.sliceBounds, Instr.sliceBound, asIntOf, hh2]⟩
      · rename_i k' l'
        obtain ⟨c, rfl, hc⟩ := hlo _ rfl
        simp only [VR] at hc; subst hc
        by_cases hl : 0 ≤ l' ∧ l' ≤ h'
        · simp only [hl, and_self, decide_true, cond_true] at hb
          cases hb
          have hl2 : 0 ≤ l' ∧ l' ≤ ((h'.toNat : Nat) : Int) := by omega
          refine ⟨by omega, by omega, fun w => by simp [Instr.sliceBounds, Instr.sliceBound, asIntOf, hh2]; simp [hl2.1]; omega⟩
        · simp [hl] at hb
      · cases hb
    · simp [hh] at hb
  · cases hb

theorem bounds3_run {len cap cap' : Nat} {m : Int} {k : IntKind} {lo : Option V} {hi : V} {l h : Nat} {clo : Option Value} {chi : Value} (hm : 0 ≤ m ∧ m ≤ (cap : Int)) (hb : boundsV len m.toNat lo (some hi) = some (l, h)) (hcap : cap ≤ cap')
    (hlo : ∀ v, lo = some v → ∃ c, clo = some c ∧ VR μ v c) (hlo0 : lo = none → clo = none) (hhi : VR μ hi chi) :
    l ≤ h ∧ h ≤ m.toNat ∧ ∀ w, (Instr.sliceBounds true len cap' clo (some chi) (some (.int k m))).run P w = .ok (l, h, m.toNat) w := by
  unfold boundsV at hb
  split at hb
  · rename_i e; cases e
  · rename_i k h' e
    cases e
    simp only [VR] at hhi; subst hhi
    have hm2 : 0 ≤ m ∧ m ≤ (cap' : Int) := by omega
    by_cases hh : 0 ≤ h' ∧ h' ≤ ((m.toNat : Nat) : Int)
    · have hh3 : h' ≤ m := by omega
      simp only [hh, and_self, decide_true, cond_true] at hb
      split at hb
      · rw [hlo0 rfl]
        cases hb
        exact ⟨Nat.zero_le _, by omega, fun w => by simp [Instr.sliceBounds, Instr.sliceBound, asIntOf, hm2, hh.1]; omega⟩
      · rename_i k' l'
        obtain ⟨c, rfl, hc⟩ := hlo _ rfl
        simp only [VR] at hc; subst hc
        by_cases hl : 0 ≤ l' ∧ l' ≤ h'
        · simp only [hl, and_self, decide_true, cond_true] at hb
          cases hb
          have c1 : h' ≤ max m 0 := by omega
          have c2 : l' ≤ max h' 0 := by omega
          refine ⟨by omega, by omega, fun w => by simp [Instr.sliceBounds, Instr.sliceBound, asIntOf, hm2, hh.1, hl.1, c1, c2]⟩
        · simp [hl] at hb
      · cases hb
    · rw [decide_eq_false hh] at hb; cases hb
  · cases hb

/-- A slice made shorter stands for the model's. -/
theorem slOk_sub {L : Loc} {off len cap : Nat} {ex : Bool} {sz ca cc l h m : Nat} {ex' : Bool} (hok : slOk L off len cap ex sz ca cc) (h1 : l ≤ h) (h2 : h ≤ m) (_h3 : m ≤ cap) (m' : Nat) (hm1 : m' ≤ cc) (hm2 : m ≤ m') (he : ex' = true → m' = m) :
    slOk L (off + l * sz) (h - l) (m - l) ex' sz (if m' = l then ca else ca + l * sz) (m' - l) := by
  obtain ⟨a1, a2, a3, a4, a5⟩ := hok
  refine ⟨by omega, by omega, by omega, fun e => by rw [he e], fun hpos => ?_⟩
  have hne : m' ≠ l := by omega
  obtain ⟨b1, b2⟩ := a5 (by omega)
  rw [if_neg hne, b1]
  refine ⟨by omega, ?_⟩
  have : l * sz + (m' - l) * sz = m' * sz := by rw [← Nat.add_mul]; congr 1; omega
  have : m' * sz ≤ cc * sz := Nat.mul_le_mul_right _ hm1
  omega

theorem sliceV_sound {t : TypeId} {x v : V} {c : Value} {lo hi mx : Option V} {clo chi cmx : Option Value} (h : sliceV P t x lo hi mx = some v) (hx : VR μ x c)
    (hlo : ∀ v, lo = some v → ∃ c, clo = some c ∧ VR μ v c) (hlo0 : lo = none → clo = none) (hhi : ∀ v, hi = some v → ∃ c, chi = some c ∧ VR μ v c) (hhi0 : hi = none → chi = none)
    (hmx : ∀ v, mx = some v → ∃ c, cmx = some c ∧ VR μ v c) (hmx0 : mx = none → cmx = none) : ∃ u, VR μ v u ∧ ∀ w, (Instr.sliceAt t c clo chi cmx).run P w = .ok u w := by
  unfold sliceV at h
  split at h
  · -- strings
    rename_i hu
    split at h <;> first | (cases h; done) | skip
    rename_i s
    split at h <;> first | (cases h; done) | skip
    rename_i l hh hb
    cases h
    rw [hmx0 rfl]
    simp only [VR] at hx; subst hx
    obtain ⟨h1, h2, hr⟩ := bounds_run (P := P) (isSlice := false) hb (Nat.le_refl s.length) (Nat.le_refl _) hlo hlo0 hhi hhi0
    refine ⟨.string ((⟨⟨s⟩⟩ : ByteArray).extract l hh), ?_, fun w => ?_⟩
    · simp only [VR]
      congr 1
      apply ByteArray.ext
      apply Array.ext'
      simp [List.extract_eq_take_drop]
    · have hsz : (⟨⟨s⟩⟩ : ByteArray).size = s.length := rfl
      have := hr w
      simp only [Instr.sliceAt, Instr.slice, Sem.run_bind, run_underlying hu, Result.andThen_ok, hsz]
      simp [this]
  · -- slices
    rename_i e hu
    split at h <;> first | (cases h; done) | skip
    rename_i inf he
    split at h <;> first | (cases h; done) | skip
    · rename_i id off len cap ex sz
      cases hsz : Nat.beq sz inf.size with
      | false => rw [hsz] at h; cases h
      | true =>
        rw [hsz] at h
        have hsz := Nat.eq_of_beq_eq_true hsz
        simp only [cond_true] at h
        simp only [VR] at hx
        obtain ⟨L, ca, cc, hL, rfl, hok⟩ := hx
        split at h
        · split at h <;> first | (cases h; done) | skip
          rename_i l hh hb
          cases h
          rw [hmx0 rfl]
          obtain ⟨h1, h2, hr⟩ := bounds_run (P := P) (isSlice := true) hb hok.2.1 hok.2.2.1 hlo hlo0 hhi hhi0
          refine ⟨.slice (some ⟨L.blk, if cc = l then ca else ca + l * sz, none⟩) (hh - l) (cc - l), ?_, fun w => ?_⟩
          · simp only [VR]
            exact ⟨L, _, cc - l, hL, rfl, slOk_sub hok h1 h2 (Nat.le_refl _) cc (Nat.le_refl _) hok.2.1 (fun e => hok.2.2.2.1 e)⟩
          · have := hr w
            simp only [Instr.sliceAt, Instr.slice, Sem.run_bind, run_underlying hu, Result.andThen_ok]
            simp only [this, Result.andThen_ok, runs_sizeOf he, Sem.run_pure, ← hsz]
            congr 2
            split
            · rfl
            · simp [add_pos]
        · rename_i k m
          by_cases hm : 0 ≤ m ∧ m ≤ (cap : Int)
          · rw [decide_eq_true hm] at h
            simp only [cond_true] at h
            split at h <;> first | (cases h; done) | skip
            rename_i hi'
            split at h <;> first | (cases h; done) | skip
            rename_i l hh hb
            cases h
            obtain ⟨cm, rfl, hcm⟩ := hmx _ rfl
            simp only [VR] at hcm; subst hcm
            obtain ⟨ch, rfl, hch⟩ := hhi _ rfl
            obtain ⟨h1, h2, hr⟩ := bounds3_run (P := P) (k := k) hm hb hok.2.1 hlo hlo0 hch
            refine ⟨.slice (some ⟨L.blk, if m.toNat = l then ca else ca + l * sz, none⟩) (hh - l) (m.toNat - l), ?_, fun w => ?_⟩
            · simp only [VR]
              refine ⟨L, _, m.toNat - l, hL, rfl, slOk_sub hok h1 h2 (by omega) m.toNat (by have := hok.2.1; omega) (Nat.le_refl _) (fun _ => rfl)⟩
            · have := hr w
              simp only [Instr.sliceAt, Instr.slice, Sem.run_bind, run_underlying hu, Result.andThen_ok]
              simp only [this, Result.andThen_ok, runs_sizeOf he, Sem.run_pure, ← hsz]
              congr 2
              split
              · rfl
              · simp [add_pos]
          · rw [decide_eq_false hm] at h; cases h
        · cases h
    · -- nil
      split at h <;> first | (cases h; done) | skip
      split at h <;> first | (cases h; done) | skip
      rename_i b hb
      obtain ⟨l, hh⟩ := b
      cases h
      rw [hmx0 rfl]
      simp only [VR] at hx; subst hx
      obtain ⟨h1, h2, hr⟩ := bounds_run (P := P) (isSlice := true) hb (Nat.le_refl 0) (Nat.le_refl _) hlo hlo0 hhi hhi0
      refine ⟨.slice none 0 0, by simp [VR], fun w => ?_⟩
      have := hr w
      obtain rfl : hh = 0 := by omega
      obtain rfl : l = 0 := by omega
      simp only [Instr.sliceAt, Instr.slice, Sem.run_bind, run_underlying hu, Result.andThen_ok]
      simp [this, runs_sizeOf he]
  · cases h
end
end Go.Cb
