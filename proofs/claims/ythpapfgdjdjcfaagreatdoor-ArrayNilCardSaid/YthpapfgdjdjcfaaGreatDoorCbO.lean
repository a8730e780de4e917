/- What an operation comes to hangs on its operands alone, and a reading on the blocks that it reads. -/
import Derived.Test.YthpapfgdjdjcfaaGreatDoorCbN
set_option linter.unusedVariables false
set_option linter.unusedSimpArgs false
namespace Go.Cb
open Go.RowKit

section
variable {P : Program} {ρ ρ' : Operand → Option V}

theorem avals_congr : ∀ {l : List Operand}, (∀ x ∈ l, ρ x = ρ' x) → avals ρ l = avals ρ' l
  | [], _ => rfl
  | x :: xs, h => by
    simp only [avals, h x (by simp), avals_congr (l := xs) fun y hy => h y (by simp [hy])]

theorem pairs_congr : ∀ {l : List (Nat × Operand)}, (∀ x ∈ l.map (·.2), ρ x = ρ' x) → pairs ρ l = pairs ρ' l
  | [], _ => rfl
  | (i, x) :: xs, h => by
    simp only [pairs, h x (by simp), pairs_congr (l := xs) fun y hy => h y (by simp at hy ⊢; exact .inr hy)]

theorem callArgs {c : Call} (h : ∀ x ∈ c.operands, ρ x = ρ' x) : ∀ x ∈ c.args.toList, ρ x = ρ' x := fun x hx => h x (by simp [Call.operands] ; right; simpa using hx)


theorem pureOp_congr {op : Op} (h : ∀ x ∈ op.operands, ρ x = ρ' x) : pureOp P ρ op = pureOp P ρ' op := by
  cases op <;> simp only [Op.operands] at h <;> simp only [pureOp]
  case build t ps => rw [pairs_congr fun x hx => h x (by simpa using hx)]
  case makeFunc fn fs cs => rw [avals_congr fun x hx => h x (by simp at hx ⊢; exact .inl hx), avals_congr (l := cs.toList) fun x hx => h x (by simp at hx ⊢; exact .inr hx)]
  case slice t x lo hi mx => cases lo <;> cases hi <;> cases mx <;> simp_all [optA]
  case call c =>
    have ha := callArgs h
    cases hc : c.callee <;> simp only
    rename_i b
    cases b <;> simp only [pureB]
    case len => (generalize c.args.toList = l at ha ⊢; generalize c.argTypes.toList = ts; rcases l with _ | ⟨x, _ | ⟨y, _ | ⟨z, l⟩⟩⟩ <;> rcases ts with _ | ⟨t1, _ | ⟨t2, _ | ⟨t3, ts⟩⟩⟩ <;> first | rfl | (simp_all; done))
    all_goals rw [avals_congr ha]
  all_goals (first | rfl | (simp_all; done))

theorem readOp_congr {op : Op} {h : H} (hh : ∀ x ∈ op.operands, ρ x = ρ' x) : readOp P ρ op h = readOp P ρ' op h := by
  cases op <;> simp only [Op.operands] at hh <;> simp only [readOp]
  case call c =>
    have ha := callArgs hh
    cases hc : c.callee <;> try simp only
    rename_i b
    cases b <;> try simp only
    case len => (generalize c.args.toList = l at ha ⊢; generalize c.argTypes.toList = ts; rcases l with _ | ⟨x, _ | ⟨y, _ | ⟨z, l⟩⟩⟩ <;> rcases ts with _ | ⟨t1, _ | ⟨t2, _ | ⟨t3, ts⟩⟩⟩ <;> first | rfl | (simp_all; done))
  all_goals (first | rfl | (simp_all; done))

theorem allocOp_congr {op : Op} (h : ∀ x ∈ op.operands, ρ x = ρ' x) : allocOp P ρ op = allocOp P ρ' op := by
  cases op <;> simp only [Op.operands] at h <;> simp only [allocOp]
  case buildSlice t n ps => rw [pairs_congr fun x hx => h x (by simpa using hx)]
  case makeMap t r => cases r <;> simp_all
  all_goals (first | rfl | (simp_all; done))

theorem effOp_congr {op : Op} (h : ∀ x ∈ op.operands, ρ x = ρ' x) : effOp P ρ op = effOp P ρ' op := by
  funext hh
  cases op <;> simp only [Op.operands] at h <;> simp only [effOp]
  case call c =>
    have ha := callArgs h
    cases hc : c.callee <;> try simp only
    rename_i b
    cases b <;> try simp only
    all_goals (first | rfl | (generalize c.args.toList = l at ha ⊢; generalize c.argTypes.toList = ts; rcases l with _ | ⟨x, _ | ⟨y, _ | ⟨z, l⟩⟩⟩ <;> rcases ts with _ | ⟨t1, _ | ⟨t2, _ | ⟨t3, ts⟩⟩⟩ <;> first | rfl | (simp_all; done)))
  all_goals (first | rfl | (simp_all; done))

theorem callOp_congr {Φ : Calls'} {op : Op} (h : ∀ x ∈ op.operands, ρ x = ρ' x) : callOp Φ ρ op = callOp Φ ρ' op := by
  cases op <;> simp only [Op.operands] at h <;> simp only [callOp]
  case call c =>
    rw [avals_congr (callArgs h)]
    cases hc : c.callee <;> simp only
    rename_i f
    rw [h f (by simp [Call.operands, hc])]

theorem opM_congr {Φ : Calls'} {op : Op} (h : ∀ x ∈ op.operands, ρ x = ρ' x) : opM P Φ ρ op = opM P Φ ρ' op := by
  unfold opM
  rw [pureOp_congr h, allocOp_congr h, effOp_congr h, callOp_congr h]
  cases kindOf P op <;> simp only
  funext hh
  rw [readOp_congr h]

/-! ### More blocks -/

def H.sub (h h' : H) : Prop := ∀ i o, h.get i = some o → h'.get i = some o

theorem H.sub_new (h : H) (o : Ob) : h.sub (h.new o) := fun _ _ e => H.get_new_old e

theorem rdCells_sub {h h' : H} (hs : h.sub h') {id off n : Nat} {l : List V} (e : rdCells h id off n = some l) : rdCells h' id off n = some l := by
  unfold rdCells at *
  cases ho : h.get id with
  | none => rw [ho] at e; cases e
  | some o => rw [ho] at e; rw [hs _ _ ho]; exact e

theorem rdCell_sub {h h' : H} (hs : h.sub h') {id off : Nat} {v : V} (e : rdCell h id off = some v) : rdCell h' id off = some v := by
  unfold rdCell at *
  cases ho : h.get id with
  | none => rw [ho] at e; cases e
  | some o => rw [ho] at e; rw [hs _ _ ho]; exact e

theorem entries_sub {h h' : H} (hs : h.sub h') {m : V} {l : List (V × V × Nat)} (e : entries h m = some l) : entries h' m = some l := by
  cases m <;> simp only [entries] at e ⊢ <;> first | exact e | skip
  rename_i id
  cases ho : h.get id with
  | none => rw [ho] at e; cases e
  | some o => rw [ho] at e; rw [hs _ _ ho]; exact e

theorem readOp_sub {h h' : H} (hs : h.sub h') {op : Op} {v : V} (e : readOp P ρ op h = some v) : readOp P ρ op h' = some v := by
  cases op <;> simp only [readOp] at e ⊢ <;> first | (cases e; done) | skip
  case load t x =>
    cases h1 : shapeOf P t with
    | none => simp only [h1] at e; cases e
    | some q =>
      obtain ⟨a, n⟩ := q
      cases h2 : ρ x with
      | none => simp only [h1, h2] at e; cases e
      | some u =>
        simp only [h1, h2] at e ⊢
        cases u <;> simp only [ld] at e ⊢ <;> first | exact e | skip
        rename_i id off
        cases a
        · exact rdCell_sub hs e
        · simp only [cond_true] at e ⊢
          cases hr : rdCells h id off n with
          | none => rw [hr] at e; cases e
          | some l => rw [hr] at e; rw [rdCells_sub hs hr]; exact e
  case lookup t m k ok =>
    cases h1 : ρ m with
    | none => simp only [h1] at e; cases e
    | some u =>
      cases h2 : ρ k with
      | none => simp only [h1, h2] at e; cases e
      | some q =>
        simp only [h1, h2] at e ⊢
        unfold lookupV lkR at *
        cases he : entries h u with
        | none =>
          rw [he] at e
          exfalso
          split at e <;> first | (cases e; done) | skip
          split at e <;> first | (cases e; done) | skip
          split at e <;> first | (cases e; done) | skip
        | some es => rw [he] at e; rw [entries_sub hs he]; exact e
  case convert s d x =>
    cases h1 : ρ x with
    | none => simp only [h1] at e; cases e
    | some u =>
      simp only [h1] at e ⊢
      cases hb : (isByteSlice P s && isStr P d) with
      | false => rw [hb] at e; cases e
      | true =>
        rw [hb] at e
        simp only [cond_true] at e ⊢
        cases u <;> simp only [bytesV] at e ⊢ <;> first | exact e | skip
        rename_i id off len cap ex sz
        cases hz : Nat.beq sz 1 with
        | false => rw [hz] at e; cases e
        | true =>
          rw [hz] at e
          simp only [cond_true] at e ⊢
          cases hr : rdCells h id off len with
          | none => rw [hr] at e; cases e
          | some l => rw [hr] at e; rw [rdCells_sub hs hr]; exact e
  case call c =>
    cases hc : c.callee <;> simp only [hc] at e ⊢ <;> first | (cases e; done) | skip
    rename_i b
    cases b <;> simp only at e ⊢ <;> first | (cases e; done) | skip
    generalize c.args.toList = l at e ⊢
    generalize c.argTypes.toList = ts at e ⊢
    rcases l with _ | ⟨x, _ | ⟨y, l⟩⟩ <;> first | (cases e; done) | skip
    rcases ts with _ | ⟨t1, _ | ⟨t2, ts⟩⟩ <;> first | (cases e; done) | skip
    simp only at e ⊢
    cases h1 : ρ x with
    | none => simp only [h1] at e; cases e
    | some u =>
      simp only [h1] at e ⊢
      cases hm : isMap P t1 with
      | false => rw [hm] at e; cases e
      | true =>
        rw [hm] at e
        simp only [cond_true] at e ⊢
        cases he : entries h u with
        | none => rw [he] at e; cases e
        | some es => rw [he] at e; rw [entries_sub hs he]; exact e
end
end Go.Cb
