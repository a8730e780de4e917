/- The evaluator: what a piece of code comes to on the abstract machine. -/
import Derived.Test.YthpapfgdjdjcfaaGreatDoorCbL
import Derived.LoopN
set_option linter.unusedVariables false
set_option linter.unusedSimpArgs false
namespace Go.Cb
open Go.RowKit

abbrev M (α : Type) := H → Option (α × H)
def failM {α : Type} : M α := fun _ => none
def pureM {α : Type} (a : α) : M α := fun h => some (a, h)
def bindM {β α : Type} (m : M β) (k : β → M α) : M α := fun h => match m h with
  | some (v, h') => k v h'
  | none => none
def optM {α : Type} (o : Option V) (k : V → M α) : M α := match o with
  | some v => k v
  | none => failM
def rdM {α : Type} (m : H → Option V) (k : V → M α) : M α := fun h => match m h with
  | some v => k v h
  | none => none
def alM {α : Type} (a : Option (Ob × (Nat → V))) (k : V → M α) : M α := fun h => match a with
  | some (o, mk) => k (mk h.next) (h.new o)
  | none => none
def iteM {α : Type} (c : Option V) (a b : M α) : M α := match c with
  | some (.b true) => a
  | some (.b false) => b
  | _ => failM
/-- An operation under a guard. -/
def okB : Option Bool → Bool → Bool
  | some x, w => x == w
  | none, _ => false
def gdM (g : Option (Option Bool)) (want : Bool) (m : M V) : M V := match g with
  | some x => cond (okB x want) m (pureM (.t []))
  | none => failM
/-- A check. -/
def chkM {α : Type} (c : H → Bool) (k : M α) : M α := fun h => cond (c h) (k h) none

/-- What the functions that are called come to. -/
abbrev Calls' := Nat → Option (List V → M V)

inductive Kd where
  | mv | pure | read | alloc | eff | call

def kindOf (P : Program) : Op → Kd
  | .move _ | .assign _ => .mv
  | .load .. | .lookup .. => .read
  | .convert s _ _ => cond (isSlice P s) .read .pure
  | .alloc _ | .box .. | .buildSlice .. | .makeSlice .. | .makeMap .. => .alloc
  | .store .. | .mapUpdate .. | .mapEntry .. | .entryStore .. | .range .. | .next .. => .eff
  | .call c => match c.callee with
    | .builtin b => match b with
      | .len => match c.argTypes.toList with
        | [t] => cond (isMap P t) .read .pure
        | _ => .pure
      | .max | .min => .pure
      | _ => .eff
    | _ => .call
  | _ => .pure

def callF (Φ : Calls') (f : V) (args : List V) : M V := match f with
  | .f n fs cs => match Φ n with
    | some φ => φ (fs ++ (args ++ cs))
    | none => failM
  | _ => failM

def callOp (Φ : Calls') (ρ : Operand → Option V) : Op → M V
  | .call c => match c.callee with
    | .value f => match ρ f, avals ρ c.args.toList with
      | some f, some l => callF Φ f l
      | _, _ => failM
    | _ => failM
  | _ => failM

/-- Any operation. -/
def opM (P : Program) (Φ : Calls') (ρ : Operand → Option V) (op : Op) : M V :=
  match kindOf P op with
  | .mv | .pure => fun h => match pureOp P ρ op with
    | some v => some (v, h)
    | none => none
  | .read => fun h => match readOp P ρ op h with
    | some v => some (v, h)
    | none => none
  | .alloc => fun h => match allocOp P ρ op with
    | some (o, mk) => some (mk h.next, h.new o)
    | none => none
  | .eff => effOp P ρ op
  | .call => callOp Φ ρ op

/-- Any operation, and what comes behind it. -/
def evOp {α : Type} (P : Program) (Φ : Calls') (ρ : Operand → Option V) (op : Op) (k : V → M α) : M α :=
  match kindOf P op with
  | .mv => match pureOp P ρ op with
    | some v => k v
    | none => failM
  | .pure => optM (pureOp P ρ op) k
  | .read => rdM (readOp P ρ op) k
  | .alloc => alM (allocOp P ρ op) k
  | .eff => bindM (effOp P ρ op) k
  | .call => bindM (callOp Φ ρ op) k

theorem evOp_eq {α : Type} (P : Program) (Φ : Calls') (ρ : Operand → Option V) (op : Op) (k : V → M α) : evOp P Φ ρ op k = bindM (opM P Φ ρ op) k := by
  unfold evOp opM
  cases kindOf P op <;> simp only
  · funext h; simp only [bindM]; cases pureOp P ρ op <;> rfl
  · funext h; simp only [bindM, optM]; cases pureOp P ρ op <;> rfl
  · funext h; simp only [bindM, rdM]; cases readOp P ρ op h <;> rfl
  · funext h; simp only [bindM, alM]; cases allocOp P ρ op <;> rfl

def putT (nt : Nat) (tm : Tr V) (d : Option Tmp) (v : V) : Tr V := match d with
  | some d => cond (Nat.blt d nt) (tm.set d v) tm
  | none => tm

def boolV : Option V → Option (Option Bool)
  | some (.b x) => some (some x)
  | some (.t []) => some none
  | _ => none

def guardV (ops : List Oper) (tm : Tr V) (j : Nat) : Option (Option Bool) := match ops[j]? with
  | some o => match o.dst with
    | some d => boolV (tm.get d)
    | none => none
  | none => none

/-- One operation in a frame. -/
def evOne {α : Type} (P : Program) (Φ : Calls') (ops : List Oper) (o : Oper) (tm : Tr V) (k : V → M α) : M α :=
  match o.guard with
  | none => evOp P Φ (aval tm) o.op k
  | some (j, want) => bindM (gdM (guardV ops tm j) want (opM P Φ (aval tm) o.op)) k

/-- Operations in the order of the text. -/
def evOps {α : Type} (P : Program) (Φ : Calls') (nt : Nat) (ops : List Oper) : List Oper → Tr V → (Tr V → M α) → M α
  | [], tm, k => k tm
  | o :: os, tm, k => evOne P Φ ops o tm fun v => evOps P Φ nt ops os (putT nt tm o.dst v) k

/-! ### Regions that draw their order -/

def bindsE (e : Edge) : Bool := match e.ground with
  | .textOnly _ | .gcOnly _ => false
  | _ => true

/-- Which operations come before each. -/
def befores (ops : List Oper) : List Nat :=
  ops.foldl (fun acc o => acc ++ [o.after.toList.foldl (fun s e => cond (bindsE e) (s ||| 2 ^ e.on ||| acc.getD e.on 0) s) 0]) []

def isEff (P : Program) (op : Op) : Bool := match kindOf P op with | .eff | .call => true | _ => false
def isTouch (P : Program) (op : Op) : Bool := match kindOf P op with | .read | .alloc => true | _ => false

/-- The next operation: one that has no effect, if there is one. -/
def nextOp (P : Program) (ops : List Oper) (done : Nat) : List (Nat × Oper) → Option Nat → Option Nat
  | [], eff => eff
  | (i, o) :: rest, eff => cond (Nat.testBit done i || !(o.after.toList.all fun e => !bindsE e || Nat.testBit done e.on)) (nextOp P ops done rest eff)
      (cond (isEff P o.op) (nextOp P ops done rest (match eff with | none => some i | some j => some j)) (some i))

def canon (P : Program) (ops : List Oper) (idx : List (Nat × Oper)) : Nat → Nat → List Nat
  | 0, _ => []
  | f + 1, done => match nextOp P ops done idx none with
    | some i => i :: canon P ops idx f (done ||| 2 ^ i)
    | none => []

def order (P : Program) (ops : List Oper) : List Nat := canon P ops ((List.range ops.length).zip ops) ops.length 0

mutual
def V.beq : V → V → Bool
  | .b x, .b y => x == y
  | .i k x, .i k' y => decide (k = k') && decide (x = y)
  | .s x, .s y => x == y
  | .pn, .pn => true
  | .p x1 x2, .p y1 y2 => Nat.beq x1 y1 && Nat.beq x2 y2
  | .ns, .ns => true
  | .sl x1 x2 x3 x4 x5 x6, .sl y1 y2 y3 y4 y5 y6 => Nat.beq x1 y1 && Nat.beq x2 y2 && Nat.beq x3 y3 && Nat.beq x4 y4 && (x5 == y5) && Nat.beq x6 y6
  | .mn, .mn => true
  | .m x, .m y => Nat.beq x y
  | .nf, .nf => true
  | .ni, .ni => true
  | .ie n x, .ie n' y => Nat.beq n n' && V.beq x y
  | .f x1 x2 x3, .f y1 y2 y3 => Nat.beq x1 y1 && V.beqs x2 y2 && V.beqs x3 y3
  | .g x, .g y => V.beqs x y
  | .t x, .t y => V.beqs x y
  | _, _ => false
def V.beqs : List V → List V → Bool
  | [], [] => true
  | x :: xs, y :: ys => V.beq x y && V.beqs xs ys
  | _, _ => false
end

mutual
theorem V.eq_of_beq : ∀ {x y : V}, V.beq x y = true → x = y
  | .b x, y, h => by cases y <;> simp [V.beq] at h; rw [h]
  | .i k x, y, h => by cases y <;> simp [V.beq] at h; rw [h.1, h.2]
  | .s x, y, h => by cases y <;> simp [V.beq] at h; rw [h]
  | .pn, y, h => by cases y <;> simp [V.beq] at h; rfl
  | .p x1 x2, y, h => by cases y <;> simp [V.beq] at h; rw [h.1, h.2]
  | .ns, y, h => by cases y <;> simp [V.beq] at h; rfl
  | .sl x1 x2 x3 x4 x5 x6, y, h => by cases y <;> simp [V.beq] at h; obtain ⟨⟨⟨⟨⟨rfl, rfl⟩, rfl⟩, rfl⟩, rfl⟩, rfl⟩ := h; rfl
  | .mn, y, h => by cases y <;> simp [V.beq] at h; rfl
  | .m x, y, h => by cases y <;> simp [V.beq] at h; rw [h]
  | .nf, y, h => by cases y <;> simp [V.beq] at h; rfl
  | .ni, y, h => by cases y <;> simp [V.beq] at h; rfl
  | .ie n x, y, h => by cases y <;> simp [V.beq] at h; rw [h.1, V.eq_of_beq h.2]
  | .f x1 x2 x3, y, h => by cases y <;> simp [V.beq] at h; rw [h.1.1, V.eq_of_beqs h.1.2, V.eq_of_beqs h.2]
  | .g x, y, h => by cases y <;> simp [V.beq] at h; rw [V.eq_of_beqs h]
  | .t x, y, h => by cases y <;> simp [V.beq] at h; rw [V.eq_of_beqs h]
theorem V.eq_of_beqs : ∀ {x y : List V}, V.beqs x y = true → x = y
  | [], y, h => by cases y <;> simp [V.beqs] at h; rfl
  | x :: xs, y, h => by cases y <;> simp [V.beqs] at h; rw [V.eq_of_beq h.1, V.eq_of_beqs h.2]
end

mutual
theorem V.beq_self : ∀ (x : V), V.beq x x = true
  | .b x => by simp [V.beq]
  | .i k x => by simp [V.beq]
  | .s x => by simp [V.beq]
  | .pn | .ns | .mn | .nf | .ni => rfl
  | .ie n x => by simp [V.beq, V.beq_self x]
  | .p x1 x2 => by simp [V.beq]
  | .sl x1 x2 x3 x4 x5 x6 => by simp [V.beq]
  | .m x => by simp [V.beq]
  | .f x1 x2 x3 => by simp [V.beq, V.beqs_self x2, V.beqs_self x3]
  | .g x => by simp [V.beq, V.beqs_self x]
  | .t x => by simp [V.beq, V.beqs_self x]
theorem V.beqs_self : ∀ (x : List V), V.beqs x x = true
  | [] => rfl
  | x :: xs => by simp [V.beqs, V.beq_self x, V.beqs_self xs]
end

def tgB : Option (Nat × Bool) → Option (Nat × Bool) → Bool
  | none, none => true
  | some (a, x), some (b, y) => Nat.beq a b && (x == y)
  | _, _ => false

theorem tgB_eq {a b : Option (Nat × Bool)} (h : tgB a b = true) : a = b := by
  unfold tgB at h
  split at h
  · rfl
  · simp only [Bool.and_eq_true, beq_iff_eq] at h; rw [Nat.eq_of_beq_eq_true h.1, h.2]
  · cases h

def Ob.beq : Option Ob → Option Ob → Bool
  | some (.c r t a), some (.c r' t' b) => (r == r') && tgB t t' && V.beqs a b
  | some (.m [] n), some (.m [] n') => Nat.beq n n'
  | _, _ => false

theorem Ob.eq_of_beq {x y : Option Ob} (h : Ob.beq x y = true) : x = y := by
  unfold Ob.beq at h
  split at h
  · simp only [Bool.and_eq_true, beq_iff_eq] at h; rw [h.1.1, tgB_eq h.1.2, V.eq_of_beqs h.2]
  · rw [Nat.eq_of_beq_eq_true h]
  · cases h

/-- A check that what was read, or made, is as it was. -/
def checkOf (P : Program) (ops : List Oper) (tm : Tr V) (o : Oper) (v : V) : H → Bool :=
  match o.guard with
  | none => go
  | some (j, want) => match guardV ops tm j with
    | some x => cond (okB x want) go (fun _ => true)
    | none => fun _ => false
where
  go : H → Bool := match kindOf P o.op with
    | .read => fun h => match readOp P (aval tm) o.op h with
      | some u => V.beq u v
      | none => false
    | .alloc => match allocOp P (aval tm) o.op with
      | some (ob, _) => fun h => match v with
        | .p i _ => Ob.beq (h.get i) (some ob)
        | .sl i _ _ _ _ _ => Ob.beq (h.get i) (some ob)
        | .m i => Ob.beq (h.get i) (some ob)
        | _ => false
      | none => fun _ => false
    | _ => fun _ => true

/-- The checks that are owed behind an operation with an effect: of all that needn't come before it. -/
def checks {α : Type} (before : Nat) : List (Nat × (H → Bool)) → M α → M α
  | [], k => k
  | (i, c) :: rest, k => cond (Nat.testBit before i) (checks before rest k) (chkM c (checks before rest k))

/-- Operations in the order of the list. -/
def evDraw {α : Type} (P : Program) (Φ : Calls') (nt : Nat) (ops : List Oper) (bf : List Nat) : List Nat → List (Nat × (H → Bool)) → Tr V → (Tr V → M α) → M α
  | [], _, tm, k => k tm
  | i :: rest, pend, tm, k => match ops[i]? with
    | none => failM
    | some o => evOne P Φ ops o tm fun v =>
        cond (isEff P o.op)
          (checks (bf.getD i 0) pend (evDraw P Φ nt ops bf rest pend (putT nt tm o.dst v) k))
          (evDraw P Φ nt ops bf rest (cond (isTouch P o.op) ((i, checkOf P ops tm o v) :: pend) pend) (putT nt tm o.dst v) k)

def looks (ops : List Oper) (o : Oper) : List Nat :=
  (o.op.operands.toList.filterMap fun | .tmp t => some t | _ => none) ++
  (match o.guard with
   | some (g, _) => match ops[g]? with
     | some x => x.dst.toList
     | none => []
   | none => [])

def allB {α : Type} (p : α → Bool) : List α → Bool
  | [] => true
  | x :: xs => cond (p x) (allB p xs) false

def memB (i : Nat) : List Nat → Bool
  | [] => false
  | x :: xs => cond (Nat.beq i x) true (memB i xs)

def pairB (p : Nat → Nat → Bool) : List Nat → Bool
  | [] => true
  | x :: xs => cond (allB (p x) xs) (pairB p xs) false

def predB (ops : List Oper) (pre : List Nat) (i : Nat) : Bool := match ops[i]? with
  | some o => o.after.toList.all fun e => !bindsE e || memB e.on pre
  | none => false

def predsB (ops : List Oper) : List Nat → List Nat → Bool
  | _, [] => true
  | pre, i :: rest => cond (predB ops pre i) (predsB ops (i :: pre) rest) false

def stepB (bf : List Nat) (o : Oper) : Nat := o.after.toList.foldl (fun s e => cond (bindsE e) (s ||| 2 ^ e.on ||| bf.getD e.on 0) s) 0

/-- 'i' comes before 'j' in the list. -/
def pairOK (P : Program) (ops : List Oper) (bf : List Nat) (i j : Nat) : Bool :=
  match ops[i]?, ops[j]? with
  | some o, some o' =>
    let b := Nat.testBit (bf.getD j 0) i
    !Nat.beq i j && !Nat.testBit (bf.getD i 0) j && cond (isEff P o.op) b true &&
    (match o.dst with
      | some d => cond (memB d (looks ops o')) b true && (match o'.dst with | some d' => !Nat.beq d d' | none => true)
      | none => true) &&
    (match o'.dst with
      | some d => cond (memB d (looks ops o)) b true
      | none => true)
  | _, _ => false

def selfOK (ops : List Oper) (o : Oper) : Bool := match o.dst with
  | some d => !memB d (looks ops o)
  | none => true

/-- May the list stand for every order? -/
def drawOK (P : Program) (ops : List Oper) (bf : List Nat) (ord : List Nat) : Bool :=
  allB (fun i => memB i ord) (List.range ops.length) && allB (fun i => Nat.blt i ops.length) ord && pairB (pairOK P ops bf) ord &&
  allB (selfOK ops) ops && predsB ops [] ord && allB (fun (j, o) => Nat.beq (bf.getD j 0) (stepB bf o)) ((List.range ops.length).zip ops) && Nat.beq ord.length ops.length
end Go.Cb
