/- A part of the proof. -/
import Derived.Test.YthpapfgdjdjcfaaGreatDoorCbShB1
set_option linter.unusedVariables false
set_option linter.unusedSimpArgs false
namespace Go.Cb.ShB
open Go.Cb

abbrev innerB (N : Nat) (Φ : Calls') : List V → M LR := fun vs =>
            unc vs fun v10 vs =>
            unc vs fun v11 vs =>
            unc vs fun v12 vs =>
            unc vs fun v13 vs =>
            unc vs fun v14 vs =>
            unc vs fun v15 vs =>
            unc vs fun v16 vs =>
            unn vs <|
            optM (binR .lss .o none v16 v15) fun v17 =>
            iteM (some v17) (
              optM (ixS v11 v16) fun v18 =>
              optM (cvI .u32 v18) fun v19 =>
              optM (binR .xor .o none v10 v19) fun v20 =>
              bindM (F_crc_step N Φ [v20]) fun v21 =>
              optM (binR .add .o none v16 (.i .i64 1)) fun v22 =>
              pureM (.nx [v21, v11, v12, v13, v14, v15, v22])
            ) (
              pureM (.ex 2 [v10, v12, v13, v14])
            )

theorem inner (N : Nat) (Φ : Calls') (l : List UInt8) (x3 x4 x5 : V) (h : H) (hl : l.length ≤ 65536) : ∀ (n k c : Nat), c < 4294967296 → k + n = l.length → ∀ m, n < m →
    loopM m (innerB N Φ) [.i .u32 c, .s l, x3, x4, x5, .i .i64 l.length, .i .i64 k] h = some (.ex 2 [.i .u32 (crcB (l.drop k) c : Nat), x3, x4, x5], h) := by
  intro n
  induction n with
  | zero =>
    intro k c hc hk m hm
    obtain ⟨m, rfl⟩ : ∃ m', m = m' + 1 := ⟨m - 1, by omega⟩
    have e1 : decide ((k : Int) < (l.length : Int)) = false := by simp; omega
    refine loopM_ex ?_
    simp only [innerB, unc_cons, unn_nil, lt64, optM_some, e1, iteM_false, pureM_run]
    rw [List.drop_of_length_le (by omega)]
    rfl
  | succ n ih =>
    intro k c hc hk m hm
    obtain ⟨m, rfl⟩ : ∃ m', m = m' + 1 := ⟨m - 1, by omega⟩
    have hlt : k < l.length := by omega
    have e1 : decide ((k : Int) < (l.length : Int)) = true := by simp; omega
    have hb := (l[k]).toNat_lt
    have hx : Nat.xor c (l[k]).toNat < 4294967296 := Nat.xor_lt_two_pow (n := 32) hc (by omega)
    have e2 : ixS (.s l) (.i .i64 k) = some (.i .u8 (l[k]).toNat) := by
      simp [ixS, List.getElem?_eq_getElem hlt]
    have e3 : cvI .u32 (.i .u8 (l[k]).toNat) = some (.i .u32 (l[k]).toNat) := by
      simp only [cvI]; rw [w32u (by omega) (by omega)]
    have e4 : F_crc_step N Φ [.i .u32 (Nat.xor c (l[k]).toNat)] h = some (.i .u32 (step1 (step1 (Nat.xor c (l[k]).toNat)) : Nat), h) := by
      show cond (Nat.blt (Nat.xor c (l[k]).toNat) 4294967296) (some (V.i .u32 (Int.ofNat (step1 (step1 (Nat.xor c (l[k]).toNat)))), h)) none = _
      rw [show Nat.blt (Nat.xor c (l[k]).toNat) 4294967296 = true from by rw [Nat.blt_eq]; exact hx]; rfl
    have e5 : IntKind.i64.wrap ((k : Int) + 1) = ((k + 1 : Nat) : Int) := by rw [w64 (by omega) (by omega)]; rfl
    have hbody : innerB N Φ [.i .u32 c, .s l, x3, x4, x5, .i .i64 l.length, .i .i64 k] h = some (.nx [.i .u32 (step1 (step1 (Nat.xor c (l[k]).toNat)) : Nat), .s l, x3, x4, x5, .i .i64 l.length, .i .i64 (k + 1 : Nat)], h) := by
      simp only [innerB, unc_cons, unn_nil, lt64, optM_some, e1, iteM_true, e2, e3, xor32 c (l[k]).toNat hc (by omega)]
      rw [bindM_run e4]
      simp only [add64, optM_some, e5, pureM_run]
    rw [loopM_nx hbody, ih (k + 1) _ (step1_lt _ (step1_lt _ hx)) (by omega) m (by omega)]
    rw [List.drop_eq_getElem_cons hlt]
    rfl

abbrev outerB (N : Nat) (Φ : Calls') : List V → M LR := fun vs =>
      unc vs fun v2 vs =>
      unc vs fun v3 vs =>
      unc vs fun v4 vs =>
      unc vs fun v5 vs =>
      unn vs <|
      optM (binR .lss .o none v5 v4) fun v6 =>
      iteM (some v6) (
        optM (iaL 1 v3 v5) fun v7 =>
        rdM (ld false 1 v7) fun v8 =>
        optM (lnS v8) fun v9 =>
        lrM (
          loopM N (innerB N Φ) [v2, v8, v3, v4, v5, v9, (.i .i64 0)])
        (fun vs =>
          failM)
        (fun id vs =>
          cond (Nat.beq id 2) (
            unc vs fun v23 vs =>
            unc vs fun v24 vs =>
            unc vs fun v25 vs =>
            unc vs fun v26 vs =>
            unn vs <|
            optM (binR .add .o none v26 (.i .i64 1)) fun v27 =>
            pureM (.nx [v23, v24, v25, v27])
          ) <|
          failM)
        (fun vs =>
          unc vs fun v28 vs =>
          unn vs <|
          pureM (.rt [v28])
        )
      ) (
        pureM (.ex 0 [v2])
      )

theorem strsOf_get : ∀ {vs : List V} {ls : List (List UInt8)}, strsOf vs = some ls → vs.length = ls.length ∧ ∀ (k : Nat) (hk : k < ls.length), vs[k]? = some (V.s ls[k])
  | [], ls, h => by cases h; exact ⟨rfl, fun k hk => absurd hk (Nat.not_lt_zero _)⟩
  | v :: vs, ls, h => by
    unfold strsOf at h
    split at h <;> first | (cases h; done) | skip
    · rename_i e; cases e
    · rename_i l vs' e
      cases e
      split at h <;> first | (cases h; done) | skip
      rename_i ls' hl
      cases h
      obtain ⟨h1, h2⟩ := strsOf_get hl
      refine ⟨by simp [h1], fun k hk => ?_⟩
      cases k with
      | zero => rfl
      | succ k => simpa using h2 k (by simpa using hk)

theorem maxB_get : ∀ {ls : List (List UInt8)}, maxB ls = true → ∀ (k : Nat) (hk : k < ls.length), (ls[k]).length ≤ 65536
  | [], _, k, hk => absurd hk (Nat.not_lt_zero _)
  | l :: ls, h, k, hk => by
    unfold maxB at h
    cases hb : Nat.ble l.length 65536 with
    | false => rw [hb] at h; cases h
    | true =>
      rw [hb] at h
      cases k with
      | zero => exact Nat.le_of_ble_eq_true hb
      | succ k => exact maxB_get (ls := ls) h k (by simpa using hk)

theorem rdCells_cell {h : H} {id off n : Nat} {vs : List V} (hr : rdCells h id off n = some vs) (k : Nat) {v : V} (hk : vs[k]? = some v) : rdCell h id (off + k) = some v := by
  unfold rdCells at hr
  split at hr <;> first | (cases hr; done) | skip
  rename_i ro tg cs hg
  cases hc : decide (off + n ≤ cs.length) with
  | false => rw [hc] at hr; cases hr
  | true =>
    rw [hc] at hr
    cases hr
    rw [List.getElem?_take] at hk
    split at hk
    · rw [List.getElem?_drop] at hk
      simp [rdCell, hg, hk]
    · cases hk

theorem outer (N : Nat) (Φ : Calls') (id off len cap : Nat) (ex : Bool) (ls : List (List UInt8)) (h : H) {vs : List V} (hr : rdCells h id off len = some vs) (hs : strsOf vs = some ls) (hb : maxB ls = true) (hlen : len ≤ 65536) (hvl : vs.length = len) (hN : 65537 < N) :
    ∀ (n k c : Nat), c < 4294967296 → k + n = len → ∀ m, n < m →
    loopM m (outerB N Φ) [.i .u32 c, .sl id off len cap ex 1, .i .i64 len, .i .i64 k] h = some (.ex 0 [.i .u32 (crcP (ls.drop k) c : Nat)], h) := by
  obtain ⟨g1, g2⟩ := strsOf_get hs
  intro n
  induction n with
  | zero =>
    intro k c hc hk m hm
    obtain ⟨m, rfl⟩ : ∃ m', m = m' + 1 := ⟨m - 1, by omega⟩
    have e1 : decide ((k : Int) < (len : Int)) = false := by simp; omega
    refine loopM_ex ?_
    simp only [outerB, unc_cons, unn_nil, lt64, optM_some, e1, iteM_false, pureM_run]
    rw [List.drop_of_length_le (by omega)]
    rfl
  | succ n ih =>
    intro k c hc hk m hm
    obtain ⟨m, rfl⟩ : ∃ m', m = m' + 1 := ⟨m - 1, by omega⟩
    have hlt : k < len := by omega
    have hkl : k < ls.length := by omega
    have e1 : decide ((k : Int) < (len : Int)) = true := by simp; omega
    have e2 : iaL 1 (.sl id off len cap ex 1) (.i .i64 k) = some (.p id (off + k)) := by
      have : decide (0 ≤ (k : Int) ∧ (k : Int) < (len : Int)) = true := by simp; omega
      simp only [iaL, this]; simp
    have e3 : ld false 1 (.p id (off + k)) h = some (.s ls[k]) := by
      show rdCell h id (off + k) = _
      exact rdCells_cell hr k (g2 k hkl)
    have hbl := maxB_get hb k hkl
    have e4 := inner N Φ ls[k] (.sl id off len cap ex 1) (.i .i64 len) (.i .i64 k) h hbl ls[k].length 0 c hc (by omega) N (by omega)
    rw [Int.natCast_zero] at e4
    have e5 : IntKind.i64.wrap ((k : Int) + 1) = ((k + 1 : Nat) : Int) := by rw [w64 (by omega) (by omega)]; rfl
    have hbody : outerB N Φ [.i .u32 c, .sl id off len cap ex 1, .i .i64 len, .i .i64 k] h = some (.nx [.i .u32 (crcB ls[k] c : Nat), .sl id off len cap ex 1, .i .i64 len, .i .i64 (k + 1 : Nat)], h) := by
      simp only [outerB, unc_cons, unn_nil, lt64, optM_some, e1, iteM_true, e2]
      rw [rdM_some e3]
      simp only [lnS, optM_some]
      rw [lrM_ex e4]
      simp only [Nat.beq_eq_true_eq, unc_cons, unn_nil, add64, optM_some, e5, pureM_run]
      rfl
    rw [loopM_nx hbody, ih (k + 1) _ (crcB_lt _ _ hc) (by omega) m (by omega)]
    rw [List.drop_eq_getElem_cons hkl]
    rfl

/-- What the printed function comes to. -/
theorem crcSum_run (N : Nat) (Φ : Calls') (hN : 65537 < N) {args : List V} {h : H} {r : V × H} (hr : crcSumM args h = some r) : F_crc_Sum N Φ args h = some r := by
  unfold crcSumM at hr
  split at hr <;> first | (cases hr; done) | skip
  · cases hr
    obtain ⟨N, rfl⟩ : ∃ m, N = m + 1 := ⟨N - 1, by omega⟩
    rfl
  · rename_i id off len cap ex
    split at hr <;> first | (cases hr; done) | skip
    rename_i vs hrd
    split at hr <;> first | (cases hr; done) | skip
    rename_i ls hls
    cases hc : (maxB ls && Nat.ble len 65536) with
    | false => rw [hc] at hr; cases hr
    | true =>
    rw [hc] at hr
    cases hr
    simp only [Bool.and_eq_true, Nat.ble_eq] at hc
    have hvl : vs.length = len := by
      unfold rdCells at hrd
      split at hrd <;> first | (cases hrd; done) | skip
      rename_i ro tg cs hg
      cases hd : decide (off + len ≤ cs.length) with
      | false => rw [hd] at hrd; cases hrd
      | true =>
        rw [hd] at hrd; cases hrd
        have := of_decide_eq_true hd
        simp; omega
    have e := outer N Φ id off len cap ex ls h hrd hls hc.1 hc.2 hvl hN len 0 4294967295 (by omega) (by omega) N (by omega)
    have hcl : ∀ (ls : List (List UInt8)) (c : Nat), c < 4294967296 → crcP ls c < 4294967296 := by
      intro ls
      induction ls with
      | nil => intro c hc; exact hc
      | cons l ls ih => intro c hc; exact ih _ (crcB_lt l c hc)
    have e2 : unV .xor (.i .u32 (crcP ls 4294967295 : Nat)) = some (.i .u32 (Nat.xor (crcP ls 4294967295) 4294967295 : Nat)) := by
      have := xor32 4294967295 (crcP ls 4294967295) (by omega) (hcl _ _ (by omega)) .o none
      show binR .xor .o none (.i .u32 (4294967295 : Nat)) (.i .u32 (crcP ls 4294967295 : Nat)) = _
      rw [this]
      congr 3
      exact Nat.xor_comm _ _
    unfold F_crc_Sum
    rw [Int.natCast_zero] at e
    simp only [unc_cons, unn_nil, lnL, optM_some]
    refine Eq.trans (lrM_ex e) ?_
    simp only [List.drop_zero]
    simp only [show Nat.beq 0 0 = true from rfl, cond_true, unc_cons, unn_nil, e2, optM_some, pureM_run]
    rfl


/-! ### Numbers -/
theorem or64 (a b : Nat) (ha : a < 9223372036854775808) (hb : b < 9223372036854775808) (u : UK) (fl : Option (List FK)) : binR .or u fl (.i .i64 a) (.i .i64 b) = some (.i .i64 (a ||| b : Nat)) := by
  show some (V.i .i64 (IntKind.i64.wrap ((BitVec.ofInt 64 a ||| BitVec.ofInt 64 b).toNat))) = _
  have h1 : (BitVec.ofInt 64 (a : Int)).toNat = a := by simp [BitVec.toNat_ofInt]; omega
  have h2 : (BitVec.ofInt 64 (b : Int)).toNat = b := by simp [BitVec.toNat_ofInt]; omega
  rw [BitVec.toNat_or, h1, h2]
  have : a ||| b < 2 ^ 63 := Nat.or_lt_two_pow (by omega) (by omega)
  rw [w64 (by omega) (by omega)]

theorem shl8 (n : Nat) (hn : n < 2 ^ 48) (u : UK) (fl : Option (List FK)) : binR .shl u fl (.i .i64 n) (.i .u64 8) = some (.i .i64 (n * 256 : Nat)) := by
  show some (V.i .i64 (IntKind.i64.wrap ((n : Int) * 2 ^ 8))) = _
  rw [w64 (by omega) (by omega)]
  congr 2

abbrev getBody : List V → M LR := fun vs =>
        unc vs fun v8 vs =>
        unc vs fun v9 vs =>
        unc vs fun v10 vs =>
        unc vs fun v11 vs =>
        unn vs <|
        optM (binR .lss .o none v11 v10) fun v12 =>
        iteM (some v12) (
          optM (binR .shl .o none v9 (.i .u64 8)) fun v13 =>
          optM (ixS v8 v11) fun v14 =>
          optM (cvI .i64 v14) fun v15 =>
          optM (binR .or .o none v13 v15) fun v16 =>
          optM (binR .add .o none v11 (.i .i64 1)) fun v17 =>
          pureM (.nx [v8, v16, v10, v17])
        ) (
          pureM (.ex 0 [v9])
        )

theorem get_loop (l : List UInt8) (h : H) (hl : l.length ≤ 7) : ∀ (m k c : Nat), c < 2 ^ (8 * k) → k + m = l.length → ∀ N, m < N →
    loopM N getBody [.s l, .i .i64 c, .i .i64 l.length, .i .i64 k] h = some (.ex 0 [.i .i64 (getB (l.drop k) c : Nat)], h) := by
  intro m
  induction m with
  | zero =>
    intro k c hc hk N hN
    obtain ⟨N, rfl⟩ : ∃ n, N = n + 1 := ⟨N - 1, by omega⟩
    have e1 : decide ((k : Int) < (l.length : Int)) = false := by simp; omega
    refine loopM_ex ?_
    simp only [getBody, unc_cons, unn_nil, lt64, optM_some, e1, iteM_false, pureM_run]
    rw [List.drop_of_length_le (by omega)]
    rfl
  | succ m ih =>
    intro k c hc hk N hN
    obtain ⟨N, rfl⟩ : ∃ n, N = n + 1 := ⟨N - 1, by omega⟩
    have hlt : k < l.length := by omega
    have hpow : 2 ^ (8 * k) ≤ 2 ^ 48 := Nat.pow_le_pow_right (by omega) (by omega)
    have e1 : decide ((k : Int) < (l.length : Int)) = true := by simp; omega
    have hb := (l[k]).toNat_lt
    have e2 : ixS (.s l) (.i .i64 k) = some (.i .u8 (l[k]).toNat) := by
      simp [ixS, List.getElem?_eq_getElem hlt]
    have e3 : cvI .i64 (.i .u8 (l[k]).toNat) = some (.i .i64 (l[k]).toNat) := by
      simp only [cvI]; rw [w64 (by omega) (by omega)]
    have hor : c * 256 ||| (l[k]).toNat = c * 256 + (l[k]).toNat := by
      have := Nat.two_pow_add_eq_or_of_lt (i := 8) (b := (l[k]).toNat) (by omega) c
      rw [Nat.mul_comm, show (2 : Nat) ^ 8 = 256 from rfl] at this
      exact this.symm
    have e5 : IntKind.i64.wrap ((k : Int) + 1) = ((k + 1 : Nat) : Int) := by rw [w64 (by omega) (by omega)]; rfl
    have hbody : getBody [.s l, .i .i64 c, .i .i64 l.length, .i .i64 k] h = some (.nx [.s l, .i .i64 (c * 256 + (l[k]).toNat : Nat), .i .i64 l.length, .i .i64 (k + 1 : Nat)], h) := by
      simp only [getBody, unc_cons, unn_nil, lt64, optM_some, e1, iteM_true, shl8 c (by omega), e2, e3, or64 (c * 256) (l[k]).toNat (by omega) (by omega), hor, add64, e5, pureM_run]
    have hc2 : c * 256 + (l[k]).toNat < 2 ^ (8 * (k + 1)) := by
      have : 2 ^ (8 * (k + 1)) = 2 ^ (8 * k) * 256 := by rw [Nat.mul_add, Nat.pow_add]
      omega
    rw [loopM_nx hbody, ih (k + 1) _ hc2 (by omega) N (by omega)]
    rw [List.drop_eq_getElem_cons hlt]
    rfl

theorem get_run (N : Nat) (Φ : Calls') (hN : 100 < N) {args : List V} {h : H} {r : V × H} (hr : getM args h = some r) : F_nums_Get N Φ args h = some r := by
  unfold getM at hr
  split at hr <;> first | (cases hr; done) | skip
  rename_i l
  have e0 : lnS (.s l) = some (.i .i64 l.length) := rfl
  cases hc : (Nat.blt 0 l.length && Nat.ble l.length 7) with
  | false =>
    rw [hc] at hr
    cases hr
    unfold F_nums_Get
    simp only [unc_cons, unn_nil, e0, optM_some]
    rw [show binR .lss .o none (.i .i64 l.length) (.i .i64 1) = some (.b (decide ((l.length : Int) < 1))) from rfl]
    simp only [optM_some, boolV]
    by_cases h1 : l.length < 1
    · have d1 : decide ((l.length : Int) < 1) = true := by simp; omega
      rw [d1]
      rfl
    · have d1 : decide ((l.length : Int) < 1) = false := by simp; omega
      have d2 : decide ((l.length : Int) > 7) = true := by
        have : ¬ (l.length ≤ 7) := by
          intro h7
          have : (Nat.blt 0 l.length && Nat.ble l.length 7) = true := by rw [Bool.and_eq_true, Nat.blt_eq, Nat.ble_eq]; exact ⟨by omega, h7⟩
          rw [hc] at this; cases this
        simp; omega
      rw [d1]
      show iteM (some (.b (decide ((l.length : Int) > 7)))) _ _ h = _
      rw [d2]
      rfl
  | true =>
    rw [hc] at hr
    cases hr
    simp only [Bool.and_eq_true, Nat.blt_eq, Nat.ble_eq] at hc
    have d1 : decide ((l.length : Int) < 1) = false := by simp; omega
    have d2 : decide ((l.length : Int) > 7) = false := by simp; omega
    have e := get_loop l h hc.2 l.length 0 0 (by simp) (by omega) N (by omega)
    unfold F_nums_Get
    simp only [unc_cons, unn_nil, e0, optM_some]
    rw [show binR .lss .o none (.i .i64 l.length) (.i .i64 1) = some (.b (decide ((l.length : Int) < 1))) from rfl]
    simp only [optM_some, boolV]
    rw [d1]
    show iteM (some (.b (decide ((l.length : Int) > 7)))) _ _ h = _
    rw [d2, iteM_false]
    rw [Int.natCast_zero] at e
    refine Eq.trans (lrM_ex e) ?_
    simp only [List.drop_zero, show Nat.beq 0 0 = true from rfl, cond_true, unc_cons, unn_nil, pureM_run]
    rfl

theorem shrN (n s : Nat) (hs : s ≤ 64) (hn : n < 9223372036854775808) (u : UK) (fl : Option (List FK)) : binR .shr u fl (.i .i64 n) (.i .i64 s) = some (.i .i64 (Nat.shiftRight n s : Nat)) := by
  show shiftBin .shr .i64 n s = _
  have h0 : ¬ ((s : Int) < 0) := by omega
  simp only [shiftBin, h0, decide_false, cond_false]
  have hm : min (s : Int).toNat IntKind.i64.bits = s := by simp [IntKind.bits]; omega
  rw [hm]
  congr 2
  show Int.fdiv (n : Int) (2 ^ s) = ((n >>> s : Nat) : Int)
  rw [Nat.shiftRight_eq_div_pow, Int.fdiv_eq_ediv_of_nonneg _ (Int.le_of_lt (Int.pow_pos (by omega)))]
  rw [Int.natCast_ediv]
  congr 1

theorem wrap8 (x : Nat) : IntKind.u8.wrap (x : Int) = ((x % 256 : Nat) : Int) := by
  simp [IntKind.wrap, IntKind.signed, IntKind.bits]

abbrev putBody : List V → M LR := fun vs =>
        unc vs fun v16 vs =>
        unc vs fun v17 vs =>
        unc vs fun v18 vs =>
        unc vs fun v19 vs =>
        unc vs fun v20 vs =>
        unn vs <|
        optM (binR .lss .o none v20 v19) fun v21 =>
        iteM (some v21) (
          optM (binR .sub .o none v17 (.i .i64 1)) fun v22 =>
          optM (binR .sub .o none v22 v20) fun v23 =>
          optM (binR .mul .o none (.i .i64 8) v23) fun v24 =>
          optM (binR .shr .o none v16 v24) fun v25 =>
          optM (cvI .u8 v25) fun v26 =>
          optM (iaL 1 v18 v20) fun v27 =>
          bindM (stR 1 v27 v26) fun _ =>
          optM (binR .add .o none v20 (.i .i64 1)) fun v29 =>
          pureM (.nx [v16, v17, v18, v19, v29])
        ) (
          pureM (.ex 0 [v18])
        )


def byteAt (n w j : Nat) : V := .i .u8 ((Nat.shiftRight n (8 * (w - 1 - j)) % 256 : Nat) : Int)

theorem put_loop (n w id : Nat) (hn : n < 9223372036854775808) (hw : w ≤ 7) : ∀ (m i : Nat) (hh : H) (cs : List V), hh.get id = some (.c false none cs) → cs.length = w → (∀ j, j < i → cs[j]? = some (byteAt n w j)) → i + m = w → ∀ N, m < N →
    ∃ h' cs', loopM N putBody [.i .i64 n, .i .i64 w, .sl id 0 w w true 1, .i .i64 w, .i .i64 i] hh = some (.ex 0 [.sl id 0 w w true 1], h') ∧ h'.get id = some (.c false none cs') ∧ cs'.length = w ∧ (∀ j, j < w → cs'[j]? = some (byteAt n w j)) ∧ ∀ j, j ≠ id → h'.get j = hh.get j := by
  intro m
  induction m with
  | zero =>
    intro i hh cs hg hl hd hi N hN
    obtain ⟨N, rfl⟩ : ∃ n, N = n + 1 := ⟨N - 1, by omega⟩
    have e1 : decide ((i : Int) < (w : Int)) = false := by simp; omega
    refine ⟨hh, cs, loopM_ex ?_, hg, hl, fun j hj => hd j (by omega), fun _ _ => rfl⟩
    simp only [putBody, unc_cons, unn_nil, lt64, optM_some, e1, iteM_false, pureM_run]
  | succ m ih =>
    intro i hh cs hg hl hd hi N hN
    obtain ⟨N, rfl⟩ : ∃ n, N = n + 1 := ⟨N - 1, by omega⟩
    have hlt : i < w := by omega
    have e1 : decide ((i : Int) < (w : Int)) = true := by simp; omega
    have a1 : IntKind.i64.wrap ((w : Int) - 1) = ((w - 1 : Nat) : Int) := by rw [w64 (by omega) (by omega)]; omega
    have a2 : IntKind.i64.wrap (((w - 1 : Nat) : Int) - (i : Int)) = ((w - 1 - i : Nat) : Int) := by rw [w64 (by omega) (by omega)]; omega
    have a3 : IntKind.i64.wrap (8 * ((w - 1 - i : Nat) : Int)) = ((8 * (w - 1 - i) : Nat) : Int) := by rw [w64 (by omega) (by omega)]; omega
    have a4 : cvI .u8 (.i .i64 (Nat.shiftRight n (8 * (w - 1 - i)) : Nat)) = some (byteAt n w i) := by
      simp only [cvI, wrap8]; rfl
    have a5 : iaL 1 (.sl id 0 w w true 1) (.i .i64 i) = some (.p id i) := by
      have : decide (0 ≤ (i : Int) ∧ (i : Int) < (w : Int)) = true := by simp; omega
      simp only [iaL, this]; simp
    have a6 : IntKind.i64.wrap ((i : Int) + 1) = ((i + 1 : Nat) : Int) := by rw [w64 (by omega) (by omega)]; rfl
    have hcs : (cs.set i (byteAt n w i)).length = w := by simp; omega
    have a7 : stR 1 (.p id i) (byteAt n w i) hh = some (.t [], hh.set id (.c false none (cs.set i (byteAt n w i)))) := stR1 hg (by omega) rfl
    have hbody : putBody [.i .i64 n, .i .i64 w, .sl id 0 w w true 1, .i .i64 w, .i .i64 i] hh = some (.nx [.i .i64 n, .i .i64 w, .sl id 0 w w true 1, .i .i64 w, .i .i64 (i + 1 : Nat)], hh.set id (.c false none (cs.set i (byteAt n w i)))) := by
      simp only [putBody, unc_cons, unn_nil, lt64, optM_some, e1, iteM_true, sub64, a1, a2, mul64, a3, shrN n (8 * (w - 1 - i)) (by omega) hn, a4, a5]
      rw [bindM_run a7]
      simp only [add64, optM_some, a6, pureM_run]
    obtain ⟨h', cs', g1, g2, g3, g4, g5⟩ := ih (i + 1) (hh.set id (.c false none (cs.set i (byteAt n w i)))) _ (H.get_set_same hg) hcs (fun j hj => by
      rw [List.getElem?_set]
      split
      · rename_i e
        subst e
        rw [if_pos (by omega)]
      · exact hd j (by omega)) (by omega) N (by omega)
    refine ⟨h', cs', ?_, g2, g3, g4, fun j hj => by rw [g5 j hj, H.get_set_ne _ _ hj]⟩
    rw [loopM_nx hbody]
    exact g1

theorem putB_get (n : Nat) : ∀ (w j : Nat), j < w → (putB n w)[j]? = some (UInt8.ofNat (Nat.shiftRight n (8 * (w - 1 - j))))
  | 0, j, h => absurd h (Nat.not_lt_zero _)
  | w + 1, j, h => by
    cases j with
    | zero => simp [putB]
    | succ j =>
      simp only [putB, List.getElem?_cons_succ]
      rw [putB_get n w j (by omega)]
      rw [show w - 1 - j = w + 1 - 1 - (j + 1) by omega]
theorem putB_length (n : Nat) : ∀ w, (putB n w).length = w
  | 0 => rfl
  | w + 1 => by simp [putB, putB_length n w]

theorem bytesOf_put (n w : Nat) {cs : List V} (hl : cs.length = w) (hc : ∀ j, j < w → cs[j]? = some (byteAt n w j)) : bytesOf cs = some (putB n w) := by
  have key : ∀ (k : Nat) (cs : List V) (l : List UInt8), cs.length = k → l.length = k → (∀ j, j < k → ∃ x : Nat, cs[j]? = some (.i .u8 (x % 256 : Nat)) ∧ l[j]? = some (UInt8.ofNat x)) → bytesOf cs = some l := by
    intro k
    induction k with
    | zero =>
      intro cs l h1 h2 _
      rw [List.eq_nil_of_length_eq_zero h1, List.eq_nil_of_length_eq_zero h2]
      rfl
    | succ k ih =>
      intro cs l h1 h2 h
      match cs, l, h1, h2 with
      | c :: cs, b :: l, h1, h2 =>
        obtain ⟨x, hx1, hx2⟩ := h 0 (by omega)
        simp only [List.getElem?_cons_zero, Option.some.injEq] at hx1 hx2
        subst hx1; subst hx2
        have := ih cs l (by simpa using h1) (by simpa using h2) (fun j hj => by simpa using h (j + 1) (by omega))
        simp only [bytesOf, this]
        congr 2
        rw [Int.toNat_natCast]
        apply UInt8.toNat.inj
        simp
  refine key w cs (putB n w) hl (putB_length n w) fun j hj => ⟨_, hc j hj, putB_get n w j hj⟩

theorem put_run (N : Nat) (Φ : Calls') (hN : 100 < N) {args : List V} {h : H} {v : V} {h' : H} (hr : putM args h = some (v, h')) : h' = h ∧ v.bare = true ∧ ∃ h2, F_nums_Put N Φ args h = some (v, h2) ∧ ∀ i, i < h.next → h2.get i = h.get i := by
  unfold putM at hr
  split at hr <;> first | (cases hr; done) | skip
  rename_i n w
  cases hc : (Nat.blt 0 w && Nat.ble w 7 && Nat.blt n 9223372036854775808) with
  | false => rw [hc] at hr; cases hr
  | true =>
  rw [hc] at hr
  simp only [cond_true] at hr
  simp only [Bool.and_eq_true, Nat.blt_eq, Nat.ble_eq] at hc
  obtain ⟨⟨hw0, hw⟩, hn⟩ := hc
  have d1 : decide ((w : Int) < 1) = false := by simp; omega
  have d2 : decide ((w : Int) > 7) = false := by simp; omega
  have d3 : decide ((n : Int) < 0) = false := by simp
  have a3 : IntKind.i64.wrap (8 * (w : Int)) = ((8 * w : Nat) : Int) := by rw [w64 (by omega) (by omega)]; omega
  have d1' : decide ((Int.ofNat w) < 1) = false := d1
  have d2' : decide ((Int.ofNat w) > 7) = false := d2
  have d3' : decide ((Int.ofNat n) < 0) = false := d3
  have a3' : IntKind.i64.wrap (8 * (Int.ofNat w)) = ((8 * w : Nat) : Int) := a3
  have hshr : binR .shr .o none (.i .i64 (Int.ofNat n)) (.i .i64 ((8 * w : Nat) : Int)) = some (.i .i64 (Nat.shiftRight n (8 * w) : Nat)) := shrN n (8 * w) (by omega) hn .o none
  have start : F_nums_Put N Φ [.i .i64 (Int.ofNat n), .i .i64 (Int.ofNat w)] h = iteM (some (.b (((Nat.shiftRight n (8 * w) : Nat) : Int) != 0))) (pureM (.s [])) (
    alM (mkR 1 1 [(.i .u8 0)] (.i .i64 (Int.ofNat w)) (.i .i64 (Int.ofNat w))) fun v14 =>
    optM (lnL v14) fun v15 =>
    lrM (loopM N putBody [.i .i64 (Int.ofNat n), .i .i64 (Int.ofNat w), v14, v15, (.i .i64 0)])
    (fun _ => failM)
    (fun id vs => cond (Nat.beq id 0) (unc vs fun v30 vs => unn vs <| rdM (bytesV v30) fun v31 => pureM v31) <| failM)
    (fun vs => unc vs fun v32 vs => unn vs <| pureM v32)) h := by
    unfold F_nums_Put
    simp only [unc_cons, unn_nil, lt64, gt64, optM_some, gdM_b, bindM_pure, bindM_pMs, pickR_t, pickR_f, d1', d2', d3', beq_self_eq_true, cond_true, mul64, a3', hshr, ne64]
  by_cases hz : Nat.shiftRight n (8 * w) = 0
  · have hb : Nat.beq (Nat.shiftRight n (8 * w)) 0 = true := by rw [hz]; rfl
    rw [hb] at hr
    cases hr
    refine ⟨rfl, rfl, ?_⟩
    rw [start, hz]
    have hmk : mkR 1 1 [(.i .u8 0)] (.i .i64 (Int.ofNat w)) (.i .i64 (Int.ofNat w)) = some (.c false none (zeros [(.i .u8 0)] (w * 1)), fun i => .sl i 0 w w true 1) := by
      have : decide (0 ≤ (Int.ofNat w) ∧ (Int.ofNat w) ≤ (Int.ofNat w) ∧ (Int.ofNat w) * (1 : Nat) ≤ 281474976710656 ∧ (Int.ofNat w) ≤ 281474976710656) = true := by
        simp; omega
      simp only [mkR, this]
      rfl
    rw [show (((0 : Nat) : Int) != 0) = false from rfl, iteM_false, hmk]
    obtain ⟨h', cs', g1, g2, g3, g4, g5⟩ := put_loop n w h.next hn hw w 0 (h.new (.c false none (zeros [(.i .u8 0)] (w * 1)))) _ (H.get_new_same _ _) (by simp [zeros]) (fun j hj => absurd hj (Nat.not_lt_zero _)) (by omega) N (by omega)
    refine ⟨h', ?_, fun i hi => by rw [g5 i (by omega), H.get_new_ne _ _ (by omega)]⟩
    rw [Int.natCast_zero] at g1
    rw [alM_run]
    refine Eq.trans (lrM_ex g1) ?_
    have hrd : rdCells h' h.next 0 w = some cs' := by
      simp only [rdCells, g2, Nat.zero_add, g3, Nat.le_refl, decide_true, cond_true, List.drop_zero]
      rw [List.take_of_length_le (by omega)]
    have hbv : bytesV (.sl h.next 0 w w true 1) h' = some (.s (putB n w)) := by
      simp only [bytesV, hrd, bytesOf_put n w g3 g4]
      rfl
    simp only [show Nat.beq 0 0 = true from rfl, cond_true, unc_cons, unn_nil]
    rw [rdM_some hbv]
    rfl
  · have hb : Nat.beq (Nat.shiftRight n (8 * w)) 0 = false := by
      cases h : Nat.beq (Nat.shiftRight n (8 * w)) 0 with
      | false => rfl
      | true => exact absurd (Nat.eq_of_beq_eq_true h) hz
    rw [hb] at hr
    cases hr
    refine ⟨rfl, rfl, _, ?_, fun _ _ => rfl⟩
    rw [start]
    have : (((Nat.shiftRight n (8 * w) : Nat) : Int) != 0) = true := by
      rw [bne_iff_ne]; intro e; exact hz (Int.ofNat.inj e)
    rw [this]
    rfl
end Go.Cb.ShB
