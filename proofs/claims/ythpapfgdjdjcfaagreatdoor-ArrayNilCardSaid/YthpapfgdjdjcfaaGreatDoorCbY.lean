/- Small laws of the abstract machine's words. -/
import Derived.Test.YthpapfgdjdjcfaaGreatDoorCbX
set_option linter.unusedVariables false
set_option linter.unusedSimpArgs false
namespace Go.Cb
open Go.RowKit

theorem w64 {x : Int} (h0 : -9223372036854775808 ≤ x) (h1 : x ≤ 9223372036854775807) : IntKind.i64.wrap x = x := by
  simp [IntKind.wrap, IntKind.signed, IntKind.bits]; omega
theorem w32u {x : Int} (h0 : 0 ≤ x) (h1 : x < 4294967296) : IntKind.u32.wrap x = x := by
  simp [IntKind.wrap, IntKind.signed, IntKind.bits]; omega
theorem w8u {x : Int} (h0 : 0 ≤ x) (h1 : x < 256) : IntKind.u8.wrap x = x := by
  simp [IntKind.wrap, IntKind.signed, IntKind.bits]; omega

theorem lt64 (a b : Int) (u : UK) (fl : Option (List FK)) : binR .lss u fl (.i .i64 a) (.i .i64 b) = some (.b (decide (a < b))) := rfl
theorem add64 (a b : Int) (u : UK) (fl : Option (List FK)) : binR .add u fl (.i .i64 a) (.i .i64 b) = some (.i .i64 (IntKind.i64.wrap (a + b))) := rfl
theorem xor32 (a b : Nat) (ha : a < 4294967296) (hb : b < 4294967296) (u : UK) (fl : Option (List FK)) : binR .xor u fl (.i .u32 a) (.i .u32 b) = some (.i .u32 (Nat.xor a b)) := by
  show some (V.i .u32 (IntKind.u32.wrap ((BitVec.ofInt 32 a ^^^ BitVec.ofInt 32 b).toNat))) = _
  have h1 : (BitVec.ofInt 32 (a : Int)).toNat = a := by simp [BitVec.toNat_ofInt]; omega
  have h2 : (BitVec.ofInt 32 (b : Int)).toNat = b := by simp [BitVec.toNat_ofInt]; omega
  rw [BitVec.toNat_xor, h1, h2]
  have : a ^^^ b < 2 ^ 32 := Nat.xor_lt_two_pow (by omega) (by omega)
  rw [w32u (by omega) (by omega)]
  rfl

@[simp] theorem unc_cons {α : Type} (v : V) (vs : List V) (k : V → List V → M α) : unc (v :: vs) k = k v vs := rfl
@[simp] theorem unn_nil {α : Type} (k : M α) : unn [] k = k := rfl
@[simp] theorem optM_some {α : Type} (v : V) (k : V → M α) : optM (some v) k = k v := rfl
@[simp] theorem iteM_true {α : Type} (a b : M α) : iteM (some (.b true)) a b = a := rfl
@[simp] theorem iteM_false {α : Type} (a b : M α) : iteM (some (.b false)) a b = b := rfl
theorem pureM_run {α : Type} (a : α) (h : H) : pureM a h = some (a, h) := rfl
theorem bindM_run {α β : Type} {m : M β} {k : β → M α} {h h' : H} {v : β} (e : m h = some (v, h')) : bindM m k h = k v h' := by simp only [bindM, e]
theorem lrM_nx {α : Type} {m : M LR} {fn : List V → M α} {fe : Nat → List V → M α} {fr : List V → M α} {h h' : H} {vs : List V} (e : m h = some (.nx vs, h')) : lrM m fn fe fr h = fn vs h' := by simp only [lrM, bindM, e]
theorem lrM_ex {α : Type} {m : M LR} {fn : List V → M α} {fe : Nat → List V → M α} {fr : List V → M α} {h h' : H} {i : Nat} {vs : List V} (e : m h = some (.ex i vs, h')) : lrM m fn fe fr h = fe i vs h' := by simp only [lrM, bindM, e]
theorem lrM_rt {α : Type} {m : M LR} {fn : List V → M α} {fe : Nat → List V → M α} {fr : List V → M α} {h h' : H} {vs : List V} (e : m h = some (.rt vs, h')) : lrM m fn fe fr h = fr vs h' := by simp only [lrM, bindM, e]
theorem loopM_nx {n : Nat} {body : List V → M LR} {vs vs' : List V} {h h' : H} (e : body vs h = some (.nx vs', h')) : loopM (n + 1) body vs h = loopM n body vs' h' := by
  rw [loopM]; exact lrM_nx e
theorem loopM_ex {n i : Nat} {body : List V → M LR} {vs vs' : List V} {h h' : H} (e : body vs h = some (.ex i vs', h')) : loopM (n + 1) body vs h = some (.ex i vs', h') := by
  rw [loopM]; exact lrM_ex e
theorem rdM_some {α : Type} {m : H → Option V} {k : V → M α} {h : H} {v : V} (e : m h = some v) : rdM m k h = k v h := by simp only [rdM, e]

theorem gdM_b (x w : Bool) (m : M V) : gdM (boolV (some (.b x))) w m = cond (x == w) m (pureM (.t [])) := rfl
theorem bindM_pure {α β : Type} (v : β) (k : β → M α) : bindM (pureM v) k = k v := rfl
theorem bindM_pMs {α : Type} (v : V) (k : V → M α) : bindM (pM (some v)) k = k v := rfl
theorem pickR_t (a b : V) : pickR (.b true) a b = some a := rfl
theorem pickR_f (a b : V) : pickR (.b false) a b = some b := rfl
theorem gt64 (a b : Int) (u : UK) (fl : Option (List FK)) : binR .gtr u fl (.i .i64 a) (.i .i64 b) = some (.b (decide (a > b))) := rfl
theorem ge64 (a b : Int) (u : UK) (fl : Option (List FK)) : binR .geq u fl (.i .i64 a) (.i .i64 b) = some (.b (decide (a ≥ b))) := rfl
theorem le64 (a b : Int) (u : UK) (fl : Option (List FK)) : binR .leq u fl (.i .i64 a) (.i .i64 b) = some (.b (decide (a ≤ b))) := rfl
theorem eq64 (a b : Int) (u : UK) (fl : Option (List FK)) : binR .eql u fl (.i .i64 a) (.i .i64 b) = some (.b (a == b)) := rfl
theorem ne64 (a b : Int) (u : UK) (fl : Option (List FK)) : binR .neq u fl (.i .i64 a) (.i .i64 b) = some (.b (a != b)) := rfl
theorem sub64 (a b : Int) (u : UK) (fl : Option (List FK)) : binR .sub u fl (.i .i64 a) (.i .i64 b) = some (.i .i64 (IntKind.i64.wrap (a - b))) := rfl
theorem mul64 (a b : Int) (u : UK) (fl : Option (List FK)) : binR .mul u fl (.i .i64 a) (.i .i64 b) = some (.i .i64 (IntKind.i64.wrap (a * b))) := rfl
theorem alM_run {α : Type} (o : Ob) (mk : Nat → V) (k : V → M α) (h : H) : alM (some (o, mk)) k h = k (mk h.next) (h.new o) := rfl

theorem cells_one {v : V} (h : v.one = true) : v.cells = [v] := by cases v <;> first | rfl | cases h
theorem wrCells_run {h : H} {id off : Nat} {tg : Option (Nat × Bool)} {cs vs : List V} (hg : h.get id = some (.c false tg cs)) (hle : off + vs.length ≤ cs.length) (ho : vs.all V.one = true) :
    wrCells h id off vs = some (h.set id (.c false tg (cs.take off ++ vs ++ cs.drop (off + vs.length)))) := by
  simp only [wrCells, hg]
  rw [decide_eq_true hle, ho]
  rfl
theorem stR1 {h : H} {id off : Nat} {tg : Option (Nat × Bool)} {cs : List V} {v : V} (hg : h.get id = some (.c false tg cs)) (hle : off < cs.length) (ho : v.one = true) :
    stR 1 (.p id off) v h = some (.t [], h.set id (.c false tg (cs.set off v))) := by
  have e := wrCells_run (vs := [v]) hg hle (by simp [ho])
  simp only [stR, cells_one ho, e]
  have : cs.take off ++ [v] ++ cs.drop (off + [v].length) = cs.set off v := by
    rw [List.set_eq_take_append_cons_drop, if_pos hle]
    simp
  rw [this]
  rfl

/-! ### Sums -/
def nibs : Nat := 0xf36e6f75e330a81ad3d3e1abc38d26c4b21572c9a24bb5a692a8fc1782f63b787198540d61c693625125dad3417b1dbc30e349b120bd8ede105ec76f00000000
def step1 (c : Nat) : Nat := Nat.xor (Nat.shiftRight c 4) (Nat.land (Nat.shiftRight nibs (Nat.mul 32 (Nat.land c 15))) 4294967295)
def crcB : List UInt8 → Nat → Nat
  | [], c => c
  | b :: l, c => crcB l (step1 (step1 (Nat.xor c b.toNat)))
def crcP : List (List UInt8) → Nat → Nat
  | [], c => c
  | l :: ls, c => crcP ls (crcB l c)

def crcStepM (args : List V) : M V := fun h => match args with
  | [.i .u32 (.ofNat c)] => cond (Nat.blt c 4294967296) (some (.i .u32 (Int.ofNat (step1 (step1 c))), h)) none
  | _ => none

def maxB : List (List UInt8) → Bool
  | [] => true
  | l :: ls => cond (Nat.ble l.length 65536) (maxB ls) false

def crcSumM (args : List V) : M V := fun h => match args with
  | [.ns] => some (.i .u32 0, h)
  | [.sl id off len _ _ 1] => match rdCells h id off len with
    | some vs => match strsOf vs with
      | some ls => cond (maxB ls && Nat.ble len 65536) (some (.i .u32 (Int.ofNat (Nat.xor (crcP ls 4294967295) 4294967295)), h)) none
      | none => none
    | none => none
  | _ => none

/-! ### Numbers as bytes -/
def putB (n : Nat) : Nat → List UInt8
  | 0 => []
  | w + 1 => UInt8.ofNat (Nat.shiftRight n (8 * w)) :: putB n w
def putM (args : List V) : M V := fun h => match args with
  | [.i .i64 (.ofNat n), .i .i64 (.ofNat w)] => cond (Nat.blt 0 w && Nat.ble w 7 && Nat.blt n 9223372036854775808) (cond (Nat.beq (Nat.shiftRight n (8 * w)) 0) (some (.s (putB n w), h)) (some (.s [], h))) none
  | _ => none
def getB : List UInt8 → Nat → Nat
  | [], n => n
  | b :: l, n => getB l (n * 256 + b.toNat)
def getM (args : List V) : M V := fun h => match args with
  | [.s l] => cond (Nat.blt 0 l.length && Nat.ble l.length 7) (some (.t [.i .i64 (Int.ofNat (getB l 0)), .b true], h)) (some (.t [.i .i64 0, .b false], h))
  | _ => none

theorem step1_lt (c : Nat) (h : c < 4294967296) : step1 c < 4294967296 := by
  have h1 : Nat.shiftRight c 4 < 2 ^ 32 := by
    show c >>> 4 < _
    rw [Nat.shiftRight_eq_div_pow]; omega
  have h2 : Nat.land (Nat.shiftRight nibs (Nat.mul 32 (Nat.land c 15))) 4294967295 < 2 ^ 32 := by
    show (_ &&& 4294967295) < _
    exact Nat.lt_of_le_of_lt Nat.and_le_right (by omega)
  exact Nat.xor_lt_two_pow h1 h2
theorem crcB_lt : ∀ (l : List UInt8) (c : Nat), c < 4294967296 → crcB l c < 4294967296
  | [], c, h => h
  | b :: l, c, h => crcB_lt l _ (step1_lt _ (step1_lt _ (Nat.xor_lt_two_pow (n := 32) h (by have := b.toNat_lt; omega))))
end Go.Cb
