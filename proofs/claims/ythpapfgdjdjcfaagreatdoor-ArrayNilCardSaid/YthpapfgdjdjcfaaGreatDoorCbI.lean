/- The operations that write maps and cells: on the abstract heap, and that the model does the same. -/
import Derived.Test.YthpapfgdjdjcfaaGreatDoorCbH
set_option linter.unusedVariables false
set_option linter.unusedSimpArgs false
namespace Go.Cb
open Go.RowKit

/-- What an operation that writes hands back, and the heap behind it. -/
abbrev Res := Option (V × H)

def stV (P : Program) (t : TypeId) (a v : V) (h : H) : Res :=
  match P.info? t, a with
  | some i, .p id off => cond (Nat.beq v.cells.length i.size) (match wrCells h id off v.cells with
    | some h' => some (.t [], h')
    | none => none) none
  | _, _ => none

def mpR (K : KK) (m k : V) (h : H) : Option (KK × Nat × List (V × V × Nat) × Nat × Option Nat) := match m with
  | .m id => match h.get id with
    | some (.m es clk) => cond (keyOk K k && keyLen K k) (match findV K k es 0 with
      | some r => some (K, id, es, clk, r)
      | none => none) none
    | _ => none
  | _ => none

/-- A map that may be written: its entries, its clock, what is asked of keys. -/
def mapV (P : Program) (t : TypeId) (m k : V) (h : H) : Option (KK × Nat × List (V × V × Nat) × Nat × Option Nat) :=
  match P.underlying t with
  | some (.map kt _) => match keyKind P kt with
    | some K => mpR K m k h
    | none => none
  | _ => none

def mapUpV (P : Program) (t : TypeId) (m k v : V) (h : H) : Res :=
  match mapV P t m k h with
  | some (_, id, es, clk, some j) => match es[j]? with
    | some e => some (.t [], h.set id (.m (es.set j (k, v, e.2.2)) clk))
    | none => none
  | some (_, id, es, clk, none) => some (.t [], h.set id (.m (es ++ [(k, v, clk)]) (clk + 1)))
  | none => none

def elemOf (P : Program) (t : TypeId) : TypeId := match P.underlying t with | some (.map _ e) => e | some (.slice e) => e | _ => 0

def mapEntryV (P : Program) (t : TypeId) (m k : V) (h : H) : Res :=
  match mapV P t m k h with
  | some (_, id, es, clk, some j) => match es[j]? with
    | some e => some (.t [e.2.1, .i .i64 e.2.2], h.set id (.m (es.set j (k, e.2.1, e.2.2)) clk))
    | none => none
  | some (_, id, es, clk, none) => match zeroV P (elemOf P t) with
    | some z => some (.t [z, .i .i64 clk], h.set id (.m (es ++ [(k, z, clk)]) (clk + 1)))
    | none => none
  | none => none

def entryStoreV (m s v : V) (h : H) : Res :=
  match m, s with
  | .m id, .i _ n => match h.get id with
    | some (.m es clk) => match es.findIdx? (fun e => decide ((e.2.2 : Int) = n)) with
      | some j => match es[j]? with
        | some e => some (.t [], h.set id (.m (es.set j (e.1, v, e.2.2)) clk))
        | none => none
      | none => none
    | _ => none
  | _, _ => none

/-- What is appended, and how many elements that are. -/
def source (P : Program) (t : TypeId) (sz : Nat) (x : V) (h : H) : Option (List V × Nat) :=
  match P.underlying t, x with
  | some (.slice _), .ns => some ([], 0)
  | some (.slice _), .sl id off len _ _ sz' => cond (Nat.beq sz sz') (match rdCells h id off (len * sz) with
    | some l => some (l, len)
    | none => none) none
  | some .string, .s l => cond (Nat.beq sz 1) (some (l.map fun b => .i .u8 b.toNat, l.length)) none
  | _, _ => none

def roomy : Nat := 70368744177664

/-- A nought of the type has the type's cells. -/
def zeroFits (P : Program) (e : TypeId) : Bool :=
  match zeroCells P e, P.info? e with
  | some z, some i => Nat.beq z.length i.size && decide (i.bytes ≤ 65536)
  | _, _ => false

/-- The mark of a row that was appended to, in place or not. -/
def apTg (e off : Nat) (tg : Option (Nat × Bool)) : Option (Nat × Bool) := match tg with
  | some (t, _) => cond (Nat.beq t e && Nat.beq off 0) (some (e, false)) none
  | none => none

def appendV (P : Program) (ts tx : TypeId) (s x : V) (h : H) : Res :=
  match P.underlying ts with
  | some (.slice e) => match P.info? e with
    | some inf => match source P tx inf.size x h with
      | some (ys, n) => match s with
        | .ns => cond (Nat.beq n 0 && ys.isEmpty) (some (.ns, h)) (cond (decide (n * inf.bytes ≤ roomy ∧ n ≤ roomy ∧ 0 < n) && Nat.beq ys.length (n * inf.size) && zeroFits P e)
            (some (.sl h.next 0 n n false inf.size, h.new (.c false (some (e, false)) ys))) none)
        | .sl id off len cap ex sz => cond (Nat.beq sz inf.size && Nat.beq ys.length (n * inf.size))
            (cond (decide (len + n ≤ cap)) (match wrCells h id (off + len * sz) ys with
              | some h' => some (.sl id off (len + n) cap ex sz, h')
              | none => none)
            (match rdCells h id off (len * sz), h.get id with
              | some xs, some (.c ro tg _) => cond (decide ((len + n) * inf.bytes ≤ roomy ∧ len + n ≤ roomy) && zeroFits P e)
                  (cond ex (some (.sl h.next 0 (len + n) (len + n) false sz, h.new (.c false (some (e, false)) (xs ++ ys))))
                    (cond ro none (some (.sl h.next 0 (len + n) (len + n) false sz, (h.set id .x).new (.c false (apTg e off tg) (xs ++ ys)))))) none
              | _, _ => none)) none
        | _ => none
      | none => none
    | none => none
  | _ => none

/-- The first elements of what is copied. -/
def firstV (P : Program) (t : TypeId) (sz m : Nat) (x : V) (h : H) : Option (List V) :=
  match P.underlying t, x with
  | some (.slice _), .ns => cond (Nat.beq m 0) (some []) none
  | some (.slice _), .sl id off len _ _ sz' => cond (Nat.beq sz sz' && decide (m ≤ len)) (rdCells h id off (m * sz)) none
  | some .string, .s l => cond (Nat.beq sz 1) (some ((l.take m).map fun b => .i .u8 b.toNat)) none
  | _, _ => none

def lenOfV (x : V) : Option Nat :=
  match x with
  | .ns => some 0
  | .sl _ _ len _ _ _ => some len
  | .s l => some l.length
  | _ => none

def copyV (P : Program) (ts tx : TypeId) (d x : V) (h : H) : Res :=
  match P.underlying ts with
  | some (.slice e) => match P.info? e with
    | some inf => match lenOfV x with
      | some n => match d with
        | .ns => some (.i .i64 0, h)
        | .sl id off len _ _ sz => cond (Nat.beq sz inf.size && !(Nat.beq len 0)) (match firstV P tx sz (min n len) x h with
          | some ys => match wrCells h id off ys with
            | some h' => some (.i .i64 (min n len : Nat), h')
            | none => none
          | none => none) (cond (Nat.beq len 0) (some (.i .i64 0, h)) none)
        | _ => none
      | none => none
    | none => none
  | _ => none

def clearV (P : Program) (t : TypeId) (x : V) (h : H) : Res :=
  match P.underlying t, x with
  | some (.map _ _), .mn => some (.t [], h)
  | some (.map _ _), .m id => match h.get id with
    | some (.m _ clk) => some (.t [], h.set id (.m [] clk))
    | _ => none
  | some (.slice e), .sl id off len _ _ sz => cond (Nat.beq len 0) (some (.t [], h)) (match zeroCells P e, P.info? e with
    | some z, some inf => cond (Nat.beq sz inf.size && Nat.beq z.length sz && !(Nat.beq sz 0)) (match wrCells h id off (zeros z (len * sz)) with
      | some h' => some (.t [], h')
      | none => none) none
    | _, _ => none)
  | some (.slice _), .ns => some (.t [], h)
  | _, _ => none

/-- A walk over a map. -/
def rangeV (P : Program) (t : TypeId) (x : V) (h : H) : Res :=
  match P.underlying t, x with
  | some (.map _ _), .m id => match h.get id with
    | some (.m _ _) => some (.p h.next 0, h.new (.w id))
    | _ => none
  | _, _ => none

/-- A step over a map that holds nothing. -/
def nextV (it : V) (isString : Bool) (h : H) : Res :=
  match isString, it with
  | false, .p i 0 => match h.get i with
    | some (.w id) => match h.get id with
      | some (.m [] _) => some (.t [.b false], h)
      | _ => none
    | _ => none
  | _, _ => none

/-- The operations that write. -/
def effOp (P : Program) (ρ : Operand → Option V) (op : Op) (h : H) : Res :=
  match op with
  | .store t a x => match ρ a, ρ x with
    | some a, some x => stV P t a x h
    | _, _ => none
  | .mapUpdate t m k x => match ρ m, ρ k, ρ x with
    | some m, some k, some x => mapUpV P t m k x h
    | _, _, _ => none
  | .mapEntry t m k => match ρ m, ρ k with
    | some m, some k => mapEntryV P t m k h
    | _, _ => none
  | .entryStore _ m s x => match ρ m, ρ s, ρ x with
    | some m, some s, some x => entryStoreV m s x h
    | _, _, _ => none
  | .range t x => match ρ x with
    | some x => rangeV P t x h
    | none => none
  | .next it s => match ρ it with
    | some it => nextV it s h
    | none => none
  | .call c => match c.callee with
    | .builtin .append => match c.args.toList, c.argTypes.toList with
      | [a, b], [t, u] => match ρ a, ρ b with
        | some a, some b => appendV P t u a b h
        | _, _ => none
      | _, _ => none
    | .builtin .copy => match c.args.toList, c.argTypes.toList with
      | [a, b], [t, u] => match ρ a, ρ b with
        | some a, some b => copyV P t u a b h
        | _, _ => none
      | _, _ => none
    | .builtin .clear => match c.args.toList, c.argTypes.toList with
      | [a], [t] => match ρ a with
        | some a => clearV P t a h
        | _ => none
      | _, _ => none
    | _ => none
  | _ => none

section
variable {P : Program} {μ : Mu} {W0 : World} {h : H} {w : World}

theorem readOp_sound (s : Sim W0 μ h w) {o : Oper} {tm : Operand → Option V} {ρ : Operand → Value} {v : V} (hρ : ∀ x v, tm x = some v → VR μ v (ρ x)) (hr : readOp P tm o.op h = some v) :
    ∃ u, VR μ v u ∧ (execOp ρ o).run P w = .ok (.value u) w := by
  obtain ⟨dst, op, type, pos, after, guard⟩ := o
  simp only at hr
  cases op <;> simp only [readOp] at hr <;> first | (cases hr; done) | skip
  case load t x =>
    split at hr <;> first | (cases hr; done) | skip
    rename_i a n x' hs hx
    obtain ⟨u, hu, hrun⟩ := ld_sound hs s hr (hρ _ _ hx)
    exact ⟨u, hu, run_value hrun⟩
  case lookup t m k ok =>
    split at hr <;> first | (cases hr; done) | skip
    rename_i m' k' hm hk
    obtain ⟨u, hu, hrun⟩ := lookupV_sound s hr (hρ _ _ hm) (hρ _ _ hk)
    exact ⟨u, hu, run_value hrun⟩
  case convert sT d x =>
    split at hr <;> first | (cases hr; done) | skip
    rename_i x' hx
    cases hc : (isByteSlice P sT && isStr P d) with
    | false => rw [hc] at hr; cases hr
    | true =>
      rw [hc] at hr
      simp only [cond_true] at hr
      obtain ⟨u, hu, hrun⟩ := bytesV_sound (P := P) s hr (hρ _ _ hx)
      refine ⟨u, hu, run_value ?_⟩
      simp only [Bool.and_eq_true] at hc
      obtain ⟨h1, h2⟩ := hc
      unfold isByteSlice at h1
      unfold isStr at h2
      split at h1 <;> first | (cases h1; done) | skip
      rename_i e hu1
      split at h1 <;> first | (cases h1; done) | skip
      rename_i hu2
      split at h2 <;> first | (cases h2; done) | skip
      rename_i hu3
      have hv := hρ _ _ hx
      unfold convert
      simp only [Sem.run_bind, run_underlying hu1, run_underlying hu3, Result.andThen_ok]
      unfold bytesV at hr
      split at hr <;> first | (cases hr; done) | skip
      · simp only [VR] at hv
        rw [hv] at hrun ⊢
        simp only [Sem.run_bind, run_underlying hu2, Result.andThen_ok]
        exact hrun
      · simp only [VR] at hv
        obtain ⟨L, ca, cc, hL, e, hok⟩ := hv
        rw [e] at hrun ⊢
        simp only [Sem.run_bind, run_underlying hu2, Result.andThen_ok]
        exact hrun
  case call c =>
    obtain ⟨callee, args, argTypes⟩ := c
    cases callee <;> first | (cases hr; done) | skip
    rename_i b
    cases b <;> first | (cases hr; done) | skip
    simp only at hr
    split at hr <;> first | (cases hr; done) | skip
    rename_i x t hx ht
    split at hr <;> first | (cases hr; done) | skip
    rename_i m hm
    cases hi : isMap P t with
    | false => rw [hi] at hr; cases hr
    | true =>
      rw [hi] at hr
      simp only [cond_true] at hr
      split at hr <;> first | (cases hr; done) | skip
      rename_i es he
      cases hr
      have e0 : argTypes[0]? = some t := toList_get (by rw [ht]; rfl)
      have e1 : args.map ρ = #[ρ x] := by apply Array.ext'; simp [hx]
      unfold isMap at hi
      split at hi <;> first | (cases hi; done) | skip
      rename_i kt et hu
      have hlen : (Builtin.len_ argTypes type #[ρ x]).run P w = .ok (.int .i64 es.length) w := by
        rcases entries_spec s he (hρ _ _ hm) with ⟨e, rfl⟩ | ⟨r, ents, clk, e, hg, hl⟩
        · rw [e]; simp [Builtin.len_, e0, run_underlying hu, goInt]
        · rw [e]
          have hgo : (getObj r).run P w = .ok (.map ents clk) w := by simp [getObj, Sem.run, hg]
          have := hl.get.1
          simp [Builtin.len_, e0, run_underlying hu, goInt, hgo, this]
      refine ⟨.int .i64 es.length, by simp [VR], ?_⟩
      have := run_value (P := P) hlen
      simp only [execOp, resolve, e1, Sem.run_bind, Sem.run_pure, Result.andThen_ok, invoke, builtin]
      simpa using this
end
end Go.Cb
