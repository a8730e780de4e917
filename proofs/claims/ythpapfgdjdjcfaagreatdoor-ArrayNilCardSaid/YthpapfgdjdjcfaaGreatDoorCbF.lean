/- New blocks: on the abstract heap, and that the model makes the same. -/
import Derived.Test.YthpapfgdjdjcfaaGreatDoorCbE
set_option linter.unusedVariables false
set_option linter.unusedSimpArgs false
namespace Go.Cb
open Go.RowKit

/-- So many cells, all noughts. -/
def zeros (z : List V) (n : Nat) : List V := (List.range n).map fun i => z.getD (i % z.length) .pn

/-- The new block of an operation, and what is handed back for its number. -/
def allocOp (P : Program) (ρ : Operand → Option V) : Op → Option (Ob × (Nat → V))
  | .alloc t => match zeroCells P t with
    | some z => some (.c false (some (t, true)) z, fun i => .p i 0)
    | none => none
  | .box _ x => match ρ x with
    | some v => cond (v.cells.all V.one) (some (.c false none v.cells, fun i => .p i 0)) none
    | none => none
  | .buildSlice t len ps => match P.underlying t with
    | some (.slice e) => match P.info? e, zeroCells P e, pairs ρ ps.toList with
      | some inf, some z, some l => cond (decide (len * inf.size ≤ 16777216) && Nat.beq z.length inf.size && !(Nat.beq (len * inf.size) 0))
        (match fillV (fun i => some (i * inf.size, inf.size)) (zeros z (len * inf.size)) l with
        | some cs => some (.c false none cs, fun i => .sl i 0 len len true inf.size)
        | none => none)
        (cond (Nat.beq len 0 && l.isEmpty) (some (.c false none [], fun i => .sl i 0 0 0 true inf.size)) none)
      | _, _, _ => none
    | _ => none
  | .makeSlice t l c => match P.underlying t, ρ l, ρ c with
    | some (.slice e), some (.i _ n), some (.i _ m) => match P.info? e, zeroCells P e with
      | some inf, some z => cond (decide (0 ≤ n ∧ n ≤ m ∧ m * inf.bytes ≤ 281474976710656 ∧ m ≤ 281474976710656) && Nat.beq z.length inf.size && !(Nat.beq inf.size 0))
        (some (.c false none (zeros z (m.toNat * inf.size)), fun i => .sl i 0 n.toNat m.toNat true inf.size)) none
      | _, _ => none
    | _, _, _ => none
  | .makeMap t none => match P.underlying t with
    | some (.map _ _) => some (.m [] 0, fun i => .m i)
    | _ => none
  | _ => none

section
variable {P : Program} {μ : Mu} {W0 : World} {h : H} {w : World}

theorem alloc_heap (w : World) (ob : Obj) : (w.alloc ob).heap[w.heap.size]? = some ob := by
  show (w.heap.push ob)[w.heap.size]? = _
  simp

/-- A new row. -/
theorem or_row {i : Nat} {cs : List V} {l : List Value} {t : TypeId} {tg : Option (Nat × Bool)} (htg : ∀ e x, tg = some (e, x) → t = e) (hlow : W0.heap.size ≤ w.heap.size) (hi : μ i = none) (hl : VRs μ cs l) (ho : cs.all V.one = true) :
    OR (μ.put i ⟨w.heap.size, 0, cs.length⟩) W0.heap.size ⟨w.heap.size, 0, cs.length⟩ (w.alloc (.cells ⟨l⟩ t)) (.c false tg cs) := by
  have hll := hl.length
  refine ⟨⟨l⟩, t, (0, 0), alloc_heap w _, by simp; omega, Nat.le_refl _, fun k v hv => ?_, fun _ => ⟨hlow, rfl⟩, fun e x he => ⟨htg e x he, rfl, fun _ => by simpa using hll⟩⟩
  rw [List.all_eq_true] at ho
  refine ⟨ho v (List.mem_of_getElem? hv), ?_⟩
  obtain ⟨c, hc, hr⟩ := hl.get hv
  exact ⟨c, by simpa using hc, VR.mono (Mu.le_put hi) _ _ hr⟩

theorem zeros_rel {z : List V} {l : List Value} (hz : VRs μ z l) (ho : z.all V.one = true) (hne : z ≠ []) (n : Nat) :
    VRs μ (zeros z n) ((List.range n).map fun i => l.getD (i % l.length) undef) ∧ (zeros z n).all V.one = true := by
  have hll := hz.length
  have hpos : 0 < z.length := List.length_pos_iff.2 hne
  have key : ∀ i : Nat, ∃ v c, z[i % z.length]? = some v ∧ l[i % l.length]? = some c ∧ VR μ v c := by
    intro i
    have hlt : i % z.length < z.length := Nat.mod_lt _ hpos
    obtain ⟨c, hc, hr⟩ := hz.get (List.getElem?_eq_getElem hlt)
    exact ⟨_, c, List.getElem?_eq_getElem hlt, by rw [hll]; exact hc, hr⟩
  constructor
  · refine VRs.of_get (by simp [zeros]) fun k v hv => ?_
    simp only [zeros, List.getElem?_map] at hv ⊢
    cases hr : (List.range n)[k]? with
    | none => rw [hr] at hv; cases hv
    | some j =>
      rw [hr] at hv
      obtain ⟨v', c, h1, h2, h3⟩ := key j
      simp only [Option.map_some, Option.some.injEq] at hv ⊢
      refine ⟨_, rfl, ?_⟩
      rw [← hv, List.getD_eq_getElem?_getD, List.getD_eq_getElem?_getD, h1, h2]
      exact h3
  · rw [List.all_eq_true]
    intro v hv
    simp only [zeros, List.mem_map] at hv
    obtain ⟨i, _, rfl⟩ := hv
    obtain ⟨v', c, h1, _, _⟩ := key i
    rw [List.getD_eq_getElem?_getD, h1]
    rw [List.all_eq_true] at ho
    exact ho _ (List.mem_of_getElem? h1)

theorem map_range_zero (f : Nat → Value) : (Array.range 0).map f = ⟨[]⟩ := by apply Array.ext'; simp

theorem map_range_get (zs : Array Value) (n : Nat) (hz : 0 < zs.size) : (Array.range n).map (zs[· % zs.size]!) = ⟨(List.range n).map fun i => zs.toList.getD (i % zs.toList.length) undef⟩ := by
  apply Array.ext'
  simp only [Array.toList_map, Array.toList_range]
  apply List.map_congr_left
  intro i _
  have hlt : i % zs.size < zs.size := Nat.mod_lt _ hz
  simp [getElem!_pos, hlt]

theorem fillV_length {pl : Nat → Option (Nat × Nat)} : ∀ {l : List (Nat × V)} {z z' : List V}, fillV pl z l = some z' → z'.length = z.length
  | [], z, z', h => by cases h; rfl
  | (i, v) :: l, z, z', h => by
    simp only [fillV] at h
    split at h <;> first | (cases h; done) | skip
    rename_i off size hp
    cases hcond : (decide (v.cells.length = size ∧ off + size ≤ z.length) && v.cells.all V.one) with
    | false => rw [hcond] at h; cases h
    | true =>
      rw [hcond] at h
      simp only [cond_true] at h
      simp only [Bool.and_eq_true, decide_eq_true_eq] at hcond
      rw [fillV_length h]
      simp; omega

theorem allocOp_sound {o : Oper} {tm : Operand → Option V} {ρ : Operand → Value} {ob : Ob} {mk : Nat → V} (hρ : ∀ x v, tm x = some v → VR μ v (ρ x)) (h : allocOp P tm o.op = some (ob, mk)) (hlow : W0.heap.size ≤ w.heap.size) :
    ∃ obj c n, (execOp ρ o).run P w = .ok (.value c) (w.alloc obj) ∧ ∀ i, μ i = none → OR (μ.put i ⟨w.heap.size, 0, n⟩) W0.heap.size ⟨w.heap.size, 0, n⟩ (w.alloc obj) ob ∧ VR (μ.put i ⟨w.heap.size, 0, n⟩) (mk i) c := by
  obtain ⟨dst, op, type, pos, after, guard⟩ := o
  simp only at h
  cases op <;> simp only [allocOp] at h <;> first | (cases h; done) | skip
  case alloc t =>
    split at h <;> first | (cases h; done) | skip
    rename_i z hz
    cases h
    obtain ⟨c, hc, hcv, hone⟩ := zeroCells_run (μ := μ) hz
    refine ⟨.cells c.cells t, .pointer (some ⟨w.heap.size, 0, none⟩), z.length, ?_, fun i hi => ⟨?_, ?_⟩⟩
    · simp [execOp, Instr.alloc, hc w, newVar, newRow]
    · have := or_row (w := w) (t := t) (tg := some (t, true)) (by rintro e x ⟨⟩; rfl) hlow hi hcv hone
      simpa using this
    · simp only [VR]; exact ⟨_, Mu.put_same _ _ _, rfl⟩
  case box t x =>
    split at h <;> first | (cases h; done) | skip
    rename_i v hv
    cases ho : v.cells.all V.one with
    | false => rw [ho] at h; cases h
    | true =>
      rw [ho] at h
      cases h
      have ht : ∀ vs, v ≠ .t vs := by rintro vs rfl; simp [V.cells, V.one] at ho
      obtain ⟨hl, _⟩ := VR.cells (hρ _ _ hv) ht
      refine ⟨.cells (ρ x).cells t, .pointer (some ⟨w.heap.size, 0, none⟩), v.cells.length, ?_, fun i hi => ⟨?_, ?_⟩⟩
      · simp [execOp, Instr.box, newVar, newRow]
      · have := or_row (w := w) (t := t) (tg := none) (by rintro e x ⟨⟩) hlow hi hl ho
        simpa using this
      · simp only [VR]; exact ⟨_, Mu.put_same _ _ _, rfl⟩
  case makeMap t r =>
    cases r with
    | some _ => cases h
    | none =>
      simp only at h
      split at h <;> first | (cases h; done) | skip
      cases h
      refine ⟨.map #[] 0, .map (some w.heap.size), 0, ?_, fun i hi => ⟨?_, ?_⟩⟩
      · simp [execOp, Instr.makeMap]
      · exact ⟨#[], alloc_heap w _, by simp [MR], hlow⟩
      · simp only [VR]; exact ⟨_, Mu.put_same _ _ _, rfl⟩
  case makeSlice t l c =>
    split at h <;> first | (cases h; done) | skip
    rename_i e k n k' m hu hl hc
    split at h <;> first | (cases h; done) | skip
    rename_i inf z hi hz
    cases hcnd : (decide (0 ≤ n ∧ n ≤ m ∧ m * inf.bytes ≤ 281474976710656 ∧ m ≤ 281474976710656) && Nat.beq z.length inf.size && !(Nat.beq inf.size 0)) with
    | false => rw [hcnd] at h; cases h
    | true =>
      rw [hcnd] at h
      cases h
      simp only [Bool.and_eq_true, decide_eq_true_eq, Bool.not_eq_true'] at hcnd
      obtain ⟨⟨⟨h0, hnm, hby, hm⟩, hzs⟩, hs0⟩ := hcnd
      have hzs := Nat.eq_of_beq_eq_true hzs
      have hs0 : inf.size ≠ 0 := fun e => by rw [e] at hs0; cases hs0
      have hl := hρ _ _ hl
      have hc := hρ _ _ hc
      simp only [VR] at hl hc
      obtain ⟨zc, hzc, hzv, hone⟩ := zeroCells_run (μ := μ) hz
      have hzl := hzv.length
      obtain ⟨r1, r2⟩ := zeros_rel (μ := μ) hzv hone (by rintro rfl; simp at hzs; omega) (m.toNat * inf.size)
      have hw1 : IntKind.i64.wrap n = n := by simp [IntKind.wrap, IntKind.signed, IntKind.bits]; omega
      have hw2 : IntKind.i64.wrap m = m := by simp [IntKind.wrap, IntKind.signed, IntKind.bits]; omega
      have hzsz : zc.cells.size = inf.size := by rw [← hzs, ← hzl]; simp
      have hmr := map_range_get zc.cells (m.toNat * inf.size) (by omega)
      have hlen : (zeros z (m.toNat * inf.size)).length = m.toNat * inf.size := by simp [zeros]
      refine ⟨.cells ⟨(List.range (m.toNat * inf.size)).map fun i => zc.cells.toList.getD (i % zc.cells.toList.length) undef⟩ e, .slice (some ⟨w.heap.size, 0, none⟩) n.toNat m.toNat, m.toNat * inf.size, ?_, fun i hi => ⟨?_, ?_⟩⟩
      · refine run_value ?_
        have e1 : ¬ ((inf.bytes : Int) * m > 281474976710656) := by rw [Int.mul_comm]; omega
        have e2 : ¬ ((inf.bytes : Int) * n > 281474976710656) := by
          have : n * (inf.bytes : Int) ≤ m * inf.bytes := Int.mul_le_mul_of_nonneg_right hnm (by omega)
          rw [Int.mul_comm]; omega
        have e3 : ¬ m < 0 := by omega
        have e4 : ¬ n < 0 := by omega
        have e5 : ¬ m < n := by omega
        unfold Instr.makeSlice
        simp only [Sem.run_bind, run_underlying hu, Result.andThen_ok, hl, hc, asInt, asIntOf, Sem.run_pure, runs_typeInfo hi, hw1, hw2]
        have e6 : ((decide (m < 0) || decide ((inf.bytes : Int) * m > 2 ^ 48)) || decide (n < 0) || decide (n > m)) = false := by
          simp [e1, e3, e4, e5]
        simp only [e6]
        simp [runs_sizeOf hi]
        by_cases hz0 : m.toNat * inf.size = 0
        · simp only [hz0, if_true, map_range_zero]; simp [newRow]
        · simp [hz0, newRow, hzc]
          rw [hmr]
          simp
      · have := or_row (w := w) (t := e) (tg := none) (by rintro e x ⟨⟩) hlow hi r1 r2
        rw [hlen] at this
        exact this
      · simp only [VR]
        refine ⟨_, 0, m.toNat, Mu.put_same _ _ _, rfl, by omega, Nat.le_refl _, by omega, fun _ => rfl, fun _ => ⟨rfl, by simp⟩⟩
  case buildSlice t len ps =>
    split at h <;> first | (cases h; done) | skip
    rename_i e hu
    split at h <;> first | (cases h; done) | skip
    rename_i inf z l hi hz hl
    obtain ⟨m, hm, hlen, hrel⟩ := pairs_spec hρ hl
    have em : (ps.map fun (i, x) => (i, ρ x)).toList = m := by rw [← hm]; simp
    obtain ⟨zc, hzc, hzv, hone⟩ := zeroCells_run (μ := μ) hz
    have hzl := hzv.length
    cases hcnd : (decide (len * inf.size ≤ 16777216) && Nat.beq z.length inf.size && !(Nat.beq (len * inf.size) 0)) with
    | false =>
      rw [hcnd] at h
      simp only [cond_false] at h
      cases hc2 : (Nat.beq len 0 && l.isEmpty) with
      | false => rw [hc2] at h; cases h
      | true =>
        rw [hc2] at h
        cases h
        simp only [Bool.and_eq_true, List.isEmpty_iff] at hc2
        obtain ⟨h0, rfl⟩ := hc2
        obtain rfl := Nat.eq_of_beq_eq_true h0
        obtain rfl : m = [] := by cases m with | nil => rfl | cons => simp at hlen
        refine ⟨.cells ⟨[]⟩ e, .slice (some ⟨w.heap.size, 0, none⟩) 0 0, 0, ?_, fun i hi => ⟨?_, ?_⟩⟩
        · refine run_value ?_
          unfold Instr.buildSlice
          simp only [Sem.run_bind, run_underlying hu, Result.andThen_ok, runs_sizeOf hi, em]
          simp only [Nat.zero_mul, if_true, map_range_zero]
          simp [Instr.fill, newRow]
        · exact or_row (w := w) (t := e) (tg := none) (by rintro e x ⟨⟩) hlow hi VRs.nil rfl
        · simp only [VR]
          exact ⟨_, 0, 0, Mu.put_same _ _ _, rfl, Nat.le_refl _, Nat.le_refl _, Nat.le_refl _, fun _ => rfl, fun h => by omega⟩
    | true =>
      rw [hcnd] at h
      simp only [cond_true] at h
      simp only [Bool.and_eq_true, decide_eq_true_eq, Bool.not_eq_true'] at hcnd
      obtain ⟨⟨hle, hzs⟩, hs0⟩ := hcnd
      have hzs := Nat.eq_of_beq_eq_true hzs
      have hs0 : len * inf.size ≠ 0 := fun e => by rw [e] at hs0; cases hs0
      have hsp : inf.size ≠ 0 := by rintro e; rw [e] at hs0; simp at hs0
      split at h <;> first | (cases h; done) | skip
      rename_i cs hf
      cases h
      obtain ⟨r1, r2⟩ := zeros_rel (μ := μ) hzv hone (by rintro rfl; simp at hzs; omega) (len * inf.size)
      obtain ⟨cs', h1, h2, h3⟩ := fillV_spec hf r1 r2 hlen hrel
      have hzsz : zc.cells.size = inf.size := by rw [← hzs, ← hzl]; simp
      have hmr := map_range_get zc.cells (len * inf.size) (by omega)
      have hcl : cs.length = len * inf.size := by rw [fillV_length hf]; simp [zeros]
      refine ⟨.cells ⟨cs'⟩ e, .slice (some ⟨w.heap.size, 0, none⟩) len len, cs.length, ?_, fun i hi => ⟨or_row (w := w) (t := e) (tg := none) (by rintro e x ⟨⟩) hlow hi h2 h3, ?_⟩⟩
      · refine run_value ?_
        unfold Instr.buildSlice
        have e1 : ¬ (len * inf.size > 2 ^ 24) := by omega
        simp only [Sem.run_bind, run_underlying hu, Result.andThen_ok, runs_sizeOf hi, em]
        simp only [e1, if_false, hs0, Sem.run_bind, hzc w, Result.andThen_ok, Sem.run_pure, hmr, h1]
        simp [newRow]
      · simp only [VR]
        exact ⟨_, 0, len, Mu.put_same _ _ _, rfl, Nat.le_refl _, Nat.le_refl _, Nat.le_refl _, fun _ => rfl, fun _ => ⟨rfl, by rw [hcl]; simp⟩⟩
end
end Go.Cb
