/- The operations with what is static worked out: the words of the printed functions. -/
import Derived.Test.YthpapfgdjdjcfaaGreatDoorCbT
set_option linter.unusedVariables false
set_option linter.unusedSimpArgs false
namespace Go.Cb
open Go.RowKit

def nilR (x : V) : Option V := match x with
  | .p id off => some (.p id off)
  | .f n fs cs => some (.f n fs cs)
  | _ => none
def pickR (c a b : V) : Option V := match c with
  | .b true => some a
  | .b false => some b
  | _ => none
def faR (o : Nat) (x : V) : Option V := match x with
  | .p id off => some (.p id (off + o))
  | _ => none
def fdR (ag : Bool) (n off : Nat) (x : V) : Option V := match x with
  | .g cs => partV ag n cs off
  | _ => none
def iaA (len sz : Nat) (x i : V) : Option V := match x, i with
  | .p id off, .i _ k => cond (decide (0 ≤ k ∧ k < (len : Int))) (some (.p id (off + k.toNat * sz))) none
  | _, _ => none
def iaL (esz : Nat) (x i : V) : Option V := match x, i with
  | .sl id off len _ _ sz, .i _ k => cond (decide (0 ≤ k ∧ k < (len : Int)) && Nat.beq sz esz) (some (.p id (off + k.toNat * esz))) none
  | _, _ => none
def ixA (len : Nat) (ag : Bool) (n : Nat) (x i : V) : Option V := match x, i with
  | .g cs, .i _ k => cond (decide (0 ≤ k ∧ k < (len : Int))) (partV ag n cs (k.toNat * n)) none
  | _, _ => none
def ixS (x i : V) : Option V := match x, i with
  | .s l, .i _ k => cond (decide (0 ≤ k)) (match l[k.toNat]? with | some b => some (.i .u8 b.toNat) | none => none) none
  | _, _ => none
def slS (x : V) (lo hi mx : Option V) : Option V := match x, mx with
  | .s s, none => match boundsV s.length s.length lo hi with
    | some (l, h) => some (.s ((s.drop l).take (h - l)))
    | none => none
  | _, _ => none
def slL (esz : Nat) (x : V) (lo hi mx : Option V) : Option V := match x with
  | .sl id off len cap ex sz => cond (Nat.beq sz esz) (match mx with
    | none => match boundsV len cap lo hi with
      | some (l, h) => some (.sl id (off + l * sz) (h - l) (cap - l) ex sz)
      | none => none
    | some (.i _ m) => cond (decide (0 ≤ m ∧ m ≤ (cap : Int))) (match hi with
      | none => none
      | some hi => match boundsV len m.toNat lo (some hi) with
        | some (l, h) => some (.sl id (off + l * sz) (h - l) (m.toNat - l) true sz)
        | none => none) none
    | _ => none) none
  | .ns => match mx with
    | none => match boundsV 0 0 lo hi with
      | some _ => some .ns
      | none => none
    | _ => none
  | _ => none
def lnS (x : V) : Option V := match x with | .s l => some (.i .i64 l.length) | _ => none
def lnL (x : V) : Option V := match x with | .sl _ _ len _ _ _ => some (.i .i64 len) | .ns => some (.i .i64 0) | _ => none
def cvI (k : IntKind) (x : V) : Option V := match x with | .i _ n => some (.i k (k.wrap n)) | _ => none
def cvS (x : V) : Option V := match x with | .s l => some (.s l) | _ => none
def exR (i : Nat) (x : V) : Option V := match x with | .t vs => vs[i]? | _ => none
def bdR (pl : List (Nat × Nat)) (z : List V) (ps : List (Nat × V)) : Option V := (fillV (fun i => pl[i]?) z ps).map .g
def bdA (sz : Nat) (z : List V) (ps : List (Nat × V)) : Option V := (fillV (fun k => some (k * sz, sz)) z ps).map .g

def lnM (m : V) (h : H) : Option V := match entries h m with
  | some es => some (.i .i64 es.length)
  | none => none

abbrev Al := Option (Ob × (Nat → V))
def alR (t : Nat) (z : List V) : Al := some (.c false (some (t, true)) z, fun i => .p i 0)
def boxR (v : V) : Al := cond (v.cells.all V.one) (some (.c false none v.cells, fun i => .p i 0)) none
def bsR (len sz : Nat) (cs : List V) (l : List (Nat × V)) : Al := match fillV (fun i => some (i * sz, sz)) cs l with
  | some cs => some (.c false none cs, fun i => .sl i 0 len len true sz)
  | none => none
def bs0 (sz : Nat) : Al := some (.c false none [], fun i => .sl i 0 0 0 true sz)
def mkR (sz bytes : Nat) (z : List V) (n m : V) : Al := match n, m with
  | .i _ n, .i _ m => cond (decide (0 ≤ n ∧ n ≤ m ∧ m * bytes ≤ 281474976710656 ∧ m ≤ 281474976710656) && true && true)
      (some (.c false none (zeros z (m.toNat * sz)), fun i => .sl i 0 n.toNat m.toNat true sz)) none
  | _, _ => none
def mmR : Al := some (.m [] 0, fun i => .m i)

def stR (n : Nat) (a v : V) : M V := fun h => match a with
  | .p id off => cond (Nat.beq v.cells.length n) (match wrCells h id off v.cells with
    | some h' => some (.t [], h')
    | none => none) none
  | _ => none
def muR (K : KK) (m k v : V) : M V := fun h => match mpR K m k h with
  | some (_, id, es, clk, some j) => match es[j]? with
    | some e => some (.t [], h.set id (.m (es.set j (k, v, e.2.2)) clk))
    | none => none
  | some (_, id, es, clk, none) => some (.t [], h.set id (.m (es ++ [(k, v, clk)]) (clk + 1)))
  | none => none
def meR (K : KK) (z : V) (m k : V) : M V := fun h => match mpR K m k h with
  | some (_, id, es, clk, some j) => match es[j]? with
    | some e => some (.t [e.2.1, .i .i64 e.2.2], h.set id (.m (es.set j (k, e.2.1, e.2.2)) clk))
    | none => none
  | some (_, id, es, clk, none) => some (.t [z, .i .i64 clk], h.set id (.m (es ++ [(k, z, clk)]) (clk + 1)))
  | none => none
def esR (m s v : V) : M V := fun h => entryStoreV m s v h
def srL (sz : Nat) (x : V) (h : H) : Option (List V × Nat) := match x with
  | .ns => some ([], 0)
  | .sl id off len _ _ sz' => cond (Nat.beq sz sz') (match rdCells h id off (len * sz) with
    | some l => some (l, len)
    | none => none) none
  | _ => none
def srS (x : V) (_ : H) : Option (List V × Nat) := match x with
  | .s l => some (l.map fun b => .i .u8 b.toNat, l.length)
  | _ => none
def apR (e esz bytes : Nat) (src : H → Option (List V × Nat)) (s : V) : M V := fun h => match src h with
  | some (ys, n) => match s with
    | .ns => cond (Nat.beq n 0 && ys.isEmpty) (some (.ns, h)) (cond (decide (n * bytes ≤ roomy ∧ n ≤ roomy ∧ 0 < n) && Nat.beq ys.length (n * esz) && true)
        (some (.sl h.next 0 n n false esz, h.new (.c false (some (e, false)) ys))) none)
    | .sl id off len cap ex sz => cond (Nat.beq sz esz && Nat.beq ys.length (n * esz))
        (cond (decide (len + n ≤ cap)) (match wrCells h id (off + len * sz) ys with
          | some h' => some (.sl id off (len + n) cap ex sz, h')
          | none => none)
        (match rdCells h id off (len * sz), h.get id with
          | some xs, some (.c ro tg _) => cond (decide ((len + n) * bytes ≤ roomy ∧ len + n ≤ roomy) && true)
              (cond ex (some (.sl h.next 0 (len + n) (len + n) false sz, h.new (.c false (some (e, false)) (xs ++ ys))))
                (cond ro none (some (.sl h.next 0 (len + n) (len + n) false sz, (h.set id .x).new (.c false (apTg e off tg) (xs ++ ys)))))) none
          | _, _ => none)) none
    | _ => none
  | none => none
def fsL (sz m : Nat) (x : V) (h : H) : Option (List V) := match x with
  | .ns => cond (Nat.beq m 0) (some []) none
  | .sl id off len _ _ sz' => cond (Nat.beq sz sz' && decide (m ≤ len)) (rdCells h id off (m * sz)) none
  | _ => none
def fsS (sz m : Nat) (x : V) (_ : H) : Option (List V) := match x with
  | .s l => cond (Nat.beq sz 1) (some ((l.take m).map fun b => .i .u8 b.toNat)) none
  | _ => none
def cpR (esz : Nat) (src : Nat → Nat → V → H → Option (List V)) (d x : V) : M V := fun h => match lenOfV x with
  | some n => match d with
    | .ns => some (.i .i64 0, h)
    | .sl id off len _ _ sz => cond (Nat.beq sz esz && !(Nat.beq len 0)) (match src sz (min n len) x h with
      | some ys => match wrCells h id off ys with
        | some h' => some (.i .i64 (min n len : Nat), h')
        | none => none
      | none => none) (cond (Nat.beq len 0) (some (.i .i64 0, h)) none)
    | _ => none
  | none => none
def clM (x : V) : M V := fun h => match x with
  | .mn => some (.t [], h)
  | .m id => match h.get id with
    | some (.m _ clk) => some (.t [], h.set id (.m [] clk))
    | _ => none
  | _ => none

def clL (esz : Nat) (z : List V) (x : V) : M V := fun h => match x with
  | .sl id off len _ _ sz => cond (Nat.beq len 0) (some (.t [], h)) (cond (Nat.beq sz esz && Nat.beq z.length sz && !(Nat.beq sz 0)) (match wrCells h id off (zeros z (len * sz)) with
    | some h' => some (.t [], h')
    | none => none) none)
  | .ns => some (.t [], h)
  | _ => none

def rgR (x : V) : M V := fun h => match x with
  | .m id => match h.get id with
    | some (.m _ _) => some (.p h.next 0, h.new (.w id))
    | _ => none
  | _ => none
def nxR (it : V) : M V := fun h => nextV it false h

/-- An operation behind a guard. -/
def pM (o : Option V) : M V := fun h => match o with
  | some v => some (v, h)
  | none => none
def rM (r : H → Option V) : M V := fun h => match r h with
  | some v => some (v, h)
  | none => none
def aM (q : Al) : M V := fun h => match q with
  | some (o, mk) => some (mk h.next, h.new o)
  | none => none

/-- What is checked behind an effect. -/
def ckR (r : H → Option V) (v : V) : H → Bool := fun h => match r h with
  | some u => V.beq u v
  | none => false
def ckA (q : Al) (v : V) : H → Bool := match q with
  | some (ob, _) => fun h => match v with
    | .p i _ => Ob.beq (h.get i) (some ob)
    | .sl i _ _ _ _ _ => Ob.beq (h.get i) (some ob)
    | .m i => Ob.beq (h.get i) (some ob)
    | _ => false
  | none => fun _ => false
end Go.Cb
