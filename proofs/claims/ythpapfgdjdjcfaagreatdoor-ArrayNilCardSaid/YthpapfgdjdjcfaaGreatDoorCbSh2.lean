/- PRINTED BY PROGRAM: functions as the abstract machine runs them. -/
import Derived.Test.YthpapfgdjdjcfaaGreatDoorCbSh1
set_option linter.unusedVariables false
set_option linter.unusedSimpArgs false
namespace Go.Cb.Sh
open Go.Cb

/-- (*slices.xorshift).Next -/
def tab_slices_xorshift_Next (N : Nat) (Φ : Calls') : Calls' := fun f => Φ f
def F_slices_xorshift_Next (N : Nat) (Φ : Calls') : List V → M V := fun args =>
 unc args fun a0 args =>
 unn args <|
 optM (nilR a0) fun v1 =>
 rdM (ld false 1 v1) fun v2 =>
 optM (nilR a0) fun v3 =>
 rdM (ld false 1 v3) fun v4 =>
 optM (binR .shl .o none v4 (.i .u64 13)) fun v5 =>
 optM (binR .xor .o none v2 v5) fun v6 =>
 optM (nilR a0) fun v7 =>
 bindM (stR 1 v7 v6) fun v8 =>
 optM (nilR a0) fun v9 =>
 rdM (ld false 1 v9) fun v10 =>
 optM (nilR a0) fun v11 =>
 rdM (ld false 1 v11) fun v12 =>
 optM (binR .shr .o none v12 (.i .u64 7)) fun v13 =>
 optM (binR .xor .o none v10 v13) fun v14 =>
 optM (nilR a0) fun v15 =>
 bindM (stR 1 v15 v14) fun v16 =>
 optM (nilR a0) fun v17 =>
 rdM (ld false 1 v17) fun v18 =>
 optM (nilR a0) fun v19 =>
 rdM (ld false 1 v19) fun v20 =>
 optM (binR .shl .o none v20 (.i .u64 17)) fun v21 =>
 optM (binR .xor .o none v18 v21) fun v22 =>
 optM (nilR a0) fun v23 =>
 bindM (stR 1 v23 v22) fun v24 =>
 optM (nilR a0) fun v25 =>
 rdM (ld false 1 v25) fun v26 =>
 pureM v26
def an_slices_xorshift_Next : An := (.two .n (.two .n (.two .n (.two .n (.two .n .n)))))

/-- slices.breakPatternsOrdered[int] -/
def tab_slices_breakPatternsOrdered_int (N : Nat) (Φ : Calls') : Calls' := fun f => cond (Nat.beq f id_slices_nextPowerOfTwo) (some (F_slices_nextPowerOfTwo N Φ)) (cond (Nat.beq f id_slices_xorshift_Next) (some (F_slices_xorshift_Next N Φ)) (Φ f))
def F_slices_breakPatternsOrdered_int (N : Nat) (Φ : Calls') : List V → M V := fun args =>
 unc args fun a0 args =>
 unc args fun a1 args =>
 unc args fun a2 args =>
 unn args <|
 optM (binR .sub .o none a2 a1) fun v1 =>
 optM (binR .geq .o none v1 (.i .i64 8)) fun v2 =>
 iteM (some v2) (
 optM (cvI .u64 v1) fun v3 =>
 alM (alR 406 [(.i .u64 0)]) fun v4 =>
 bindM (stR 1 v4 v3) fun v5 =>
 bindM (F_slices_nextPowerOfTwo N Φ [v1]) fun v6 =>
 optM (binR .quo .o none v1 (.i .i64 4)) fun v7 =>
 optM (binR .mul .o none v7 (.i .i64 2)) fun v8 =>
 optM (binR .add .o none a1 v8) fun v9 =>
 optM (binR .sub .o none v9 (.i .i64 1)) fun v10 =>
 lrM (
 loopM N (fun vs =>
 unc vs fun v11 vs =>
 unc vs fun v12 vs =>
 unc vs fun v13 vs =>
 unc vs fun v14 vs =>
 unc vs fun v15 vs =>
 unc vs fun v16 vs =>
 unn vs <|
 optM (binR .quo .o none v13 (.i .i64 4)) fun v17 =>
 optM (binR .mul .o none v17 (.i .i64 2)) fun v18 =>
 optM (binR .add .o none v12 v18) fun v19 =>
 optM (binR .add .o none v19 (.i .i64 1)) fun v20 =>
 optM (binR .leq .o none v16 v20) fun v21 =>
 iteM (some v21) (
 bindM (F_slices_xorshift_Next N Φ [v14]) fun v22 =>
 optM (binR .sub .o none v15 (.i .u64 1)) fun v23 =>
 optM (binR .and .o none v22 v23) fun v24 =>
 optM (cvI .i64 v24) fun v25 =>
 lrM (
 optM (binR .geq .o none v25 v13) fun v26 =>
 iteM (some v26) (
 optM (binR .sub .o none v25 v13) fun v27 =>
 pureM (.nx [v11, v12, v13, v14, v15, v16, v27])
 ) (
 pureM (.nx [v11, v12, v13, v14, v15, v16, v25])
 )
 )
 (fun vs =>
 unc vs fun v28 vs =>
 unc vs fun v29 vs =>
 unc vs fun v30 vs =>
 unc vs fun v31 vs =>
 unc vs fun v32 vs =>
 unc vs fun v33 vs =>
 unc vs fun v34 vs =>
 unn vs <|
 optM (binR .add .o none v29 v34) fun v35 =>
 optM (binR .add .o none v29 v34) fun v36 =>
 optM (iaL 1 v28 v36) fun v37 =>
 rdM (ld false 1 v37) fun v38 =>
 optM (iaL 1 v28 v33) fun v39 =>
 rdM (ld false 1 v39) fun v40 =>
 optM (iaL 1 v28 v33) fun v41 =>
 bindM (stR 1 v41 v38) fun v42 =>
 optM (iaL 1 v28 v35) fun v43 =>
 bindM (stR 1 v43 v40) fun v44 =>
 optM (binR .add .o none v33 (.i .i64 1)) fun v45 =>
 pureM (.nx [v28, v29, v30, v31, v32, v45])
 )
 (fun id vs =>
 failM)
 (fun vs =>
 unn vs <|
 pureM (.rt [])
 )
 ) (
 pureM (.ex 0 [])
 )
 ) [a0, a1, v1, v4, v6, v10])
 (fun vs =>
 failM)
 (fun id vs =>
 cond (Nat.beq id 0) (
 unn vs <|
 pureM (.t [])
 ) <|
 failM)
 (fun vs =>
 unn vs <|
 pureM (.t [])
 )
 ) (
 pureM (.t [])
 )
def an_slices_breakPatternsOrdered_int : An := (.two .n (.two .n (.two (.two .n (.two .n (.two .n (.one (.loop [0, 1, 6, 7, 8, 9] [(0, [])] [] (.two (.two .n (.two .n .n)) (.two (.one (.two .n (.two (.cut [0, 1, 6, 7, 8, 9, 10] [] [] (.two .n (.two .n .n))) .n))) .n))))))) .n)))

/-- slices.order2Ordered[int] -/
def tab_slices_order2Ordered_int (N : Nat) (Φ : Calls') : Calls' := fun f => cond (Nat.beq f id_cmp_Less_int) (some (F_cmp_Less_int N Φ)) (Φ f)
def F_slices_order2Ordered_int (N : Nat) (Φ : Calls') : List V → M V := fun args =>
 unc args fun a0 args =>
 unc args fun a1 args =>
 unc args fun a2 args =>
 unc args fun a3 args =>
 unn args <|
 optM (iaL 1 a0 a2) fun v1 =>
 rdM (ld false 1 v1) fun v2 =>
 optM (iaL 1 a0 a1) fun v3 =>
 rdM (ld false 1 v3) fun v4 =>
 bindM (F_cmp_Less_int N Φ [v2, v4]) fun v5 =>
 iteM (some v5) (
 optM (nilR a3) fun v6 =>
 rdM (ld false 1 v6) fun v7 =>
 optM (binR .add .o none v7 (.i .i64 1)) fun v8 =>
 optM (nilR a3) fun v9 =>
 bindM (stR 1 v9 v8) fun v10 =>
 pureM (.t [a2, a1])
 ) (
 pureM (.t [a1, a2])
 )
def an_slices_order2Ordered_int : An := (.two .n (.two (.two .n (.two (.two .n (.two .n .n)) .n)) (.two .n .n)))

/-- slices.medianOrdered[int] -/
def tab_slices_medianOrdered_int (N : Nat) (Φ : Calls') : Calls' := fun f => cond (Nat.beq f id_slices_order2Ordered_int) (some (F_slices_order2Ordered_int N Φ)) (Φ f)
def F_slices_medianOrdered_int (N : Nat) (Φ : Calls') : List V → M V := fun args =>
 unc args fun a0 args =>
 unc args fun a1 args =>
 unc args fun a2 args =>
 unc args fun a3 args =>
 unc args fun a4 args =>
 unn args <|
 bindM (F_slices_order2Ordered_int N Φ [a0, a1, a2, a4]) fun v1 =>
 optM (exR 0 v1) fun v2 =>
 optM (exR 1 v1) fun v3 =>
 bindM (F_slices_order2Ordered_int N Φ [a0, v3, a3, a4]) fun v4 =>
 optM (exR 0 v4) fun v5 =>
 optM (exR 1 v4) fun v6 =>
 bindM (F_slices_order2Ordered_int N Φ [a0, v2, v5, a4]) fun v7 =>
 optM (exR 0 v7) fun v8 =>
 optM (exR 1 v7) fun v9 =>
 pureM v9
def an_slices_medianOrdered_int : An := (.two .n (.two .n (.two .n (.two .n (.two .n .n)))))

/-- slices.medianAdjacentOrdered[int] -/
def tab_slices_medianAdjacentOrdered_int (N : Nat) (Φ : Calls') : Calls' := fun f => cond (Nat.beq f id_slices_medianOrdered_int) (some (F_slices_medianOrdered_int N Φ)) (Φ f)
def F_slices_medianAdjacentOrdered_int (N : Nat) (Φ : Calls') : List V → M V := fun args =>
 unc args fun a0 args =>
 unc args fun a1 args =>
 unc args fun a2 args =>
 unn args <|
 optM (binR .sub .o none a1 (.i .i64 1)) fun v1 =>
 optM (binR .add .o none a1 (.i .i64 1)) fun v2 =>
 bindM (F_slices_medianOrdered_int N Φ [a0, v1, a1, v2, a2]) fun v3 =>
 pureM v3
def an_slices_medianAdjacentOrdered_int : An := (.two .n (.two .n .n))

/-- slices.choosePivotOrdered[int] -/
def tab_slices_choosePivotOrdered_int (N : Nat) (Φ : Calls') : Calls' := fun f => cond (Nat.beq f id_slices_medianAdjacentOrdered_int) (some (F_slices_medianAdjacentOrdered_int N Φ)) (cond (Nat.beq f id_slices_medianOrdered_int) (some (F_slices_medianOrdered_int N Φ)) (Φ f))
def F_slices_choosePivotOrdered_int (N : Nat) (Φ : Calls') : List V → M V := fun args =>
 unc args fun a0 args =>
 unc args fun a1 args =>
 unc args fun a2 args =>
 unn args <|
 optM (binR .sub .o none a2 a1) fun v1 =>
 alM (alR 3 [(.i .i64 0)]) fun v2 =>
 optM (binR .quo .o none v1 (.i .i64 4)) fun v3 =>
 optM (binR .mul .o none v3 (.i .i64 1)) fun v4 =>
 optM (binR .add .o none a1 v4) fun v5 =>
 optM (binR .quo .o none v1 (.i .i64 4)) fun v6 =>
 optM (binR .mul .o none v6 (.i .i64 2)) fun v7 =>
 optM (binR .add .o none a1 v7) fun v8 =>
 optM (binR .quo .o none v1 (.i .i64 4)) fun v9 =>
 optM (binR .mul .o none v9 (.i .i64 3)) fun v10 =>
 optM (binR .add .o none a1 v10) fun v11 =>
 lrM (
 optM (binR .geq .o none v1 (.i .i64 8)) fun v12 =>
 iteM (some v12) (
 lrM (
 optM (binR .geq .o none v1 (.i .i64 50)) fun v13 =>
 iteM (some v13) (
 bindM (F_slices_medianAdjacentOrdered_int N Φ [a0, v5, v2]) fun v14 =>
 bindM (F_slices_medianAdjacentOrdered_int N Φ [a0, v8, v2]) fun v15 =>
 bindM (F_slices_medianAdjacentOrdered_int N Φ [a0, v11, v2]) fun v16 =>
 pureM (.nx [a0, v2, v14, v15, v16])
 ) (
 pureM (.nx [a0, v2, v5, v8, v11])
 )
 )
 (fun vs =>
 unc vs fun v17 vs =>
 unc vs fun v18 vs =>
 unc vs fun v19 vs =>
 unc vs fun v20 vs =>
 unc vs fun v21 vs =>
 unn vs <|
 bindM (F_slices_medianOrdered_int N Φ [v17, v19, v20, v21, v18]) fun v22 =>
 pureM (.nx [v18, v22])
 )
 (fun id vs =>
 failM)
 (fun vs =>
 unc vs fun v23 vs =>
 unc vs fun v24 vs =>
 unn vs <|
 pureM (.rt [v23, v24])
 )
 ) (
 pureM (.nx [v2, v8])
 )
 )
 (fun vs =>
 unc vs fun v25 vs =>
 unc vs fun v26 vs =>
 unn vs <|
 rdM (ld false 1 v25) fun v27 =>
 optM (binR .eql .o none v27 (.i .i64 0)) fun v28 =>
 iteM (some v28) (
 pureM (.t [v26, (.i .i64 1)])
 ) (
 optM (binR .eql .o none v27 (.i .i64 12)) fun v29 =>
 iteM (some v29) (
 pureM (.t [v26, (.i .i64 2)])
 ) (
 pureM (.t [v26, (.i .i64 0)])
 )
 )
 )
 (fun id vs =>
 failM)
 (fun vs =>
 unc vs fun v30 vs =>
 unc vs fun v31 vs =>
 unn vs <|
 pureM (.t [v30, v31])
 )
def an_slices_choosePivotOrdered_int : An := (.two .n (.two .n (.two .n (.two .n (.two .n (.two .n (.two (.cut [9, 11] [] [6, 7] (.two .n (.two (.two (.cut [0, 9, 10, 11, 12] [] [6, 7] (.two .n (.two (.two .n (.two .n .n)) .n))) .n) .n))) (.two .n (.one (.two .n (.two (.two .n .n) (.two .n (.two (.two .n .n) (.two .n .n))))))))))))))

/-- slices.reverseRangeOrdered[int] -/
def tab_slices_reverseRangeOrdered_int (N : Nat) (Φ : Calls') : Calls' := fun f => Φ f
def F_slices_reverseRangeOrdered_int (N : Nat) (Φ : Calls') : List V → M V := fun args =>
 unc args fun a0 args =>
 unc args fun a1 args =>
 unc args fun a2 args =>
 unn args <|
 optM (binR .sub .o none a2 (.i .i64 1)) fun v1 =>
 lrM (
 loopM N (fun vs =>
 unc vs fun v2 vs =>
 unc vs fun v3 vs =>
 unc vs fun v4 vs =>
 unn vs <|
 optM (binR .lss .o none v3 v4) fun v5 =>
 iteM (some v5) (
 optM (iaL 1 v2 v4) fun v6 =>
 rdM (ld false 1 v6) fun v7 =>
 optM (iaL 1 v2 v3) fun v8 =>
 rdM (ld false 1 v8) fun v9 =>
 optM (iaL 1 v2 v3) fun v10 =>
 bindM (stR 1 v10 v7) fun v11 =>
 optM (iaL 1 v2 v4) fun v12 =>
 bindM (stR 1 v12 v9) fun v13 =>
 optM (binR .add .o none v3 (.i .i64 1)) fun v14 =>
 optM (binR .sub .o none v4 (.i .i64 1)) fun v15 =>
 pureM (.nx [v2, v14, v15])
 ) (
 pureM (.ex 0 [])
 )
 ) [a0, a1, v1])
 (fun vs =>
 failM)
 (fun id vs =>
 cond (Nat.beq id 0) (
 unn vs <|
 pureM (.t [])
 ) <|
 failM)
 (fun vs =>
 unn vs <|
 pureM (.t [])
 )
def an_slices_reverseRangeOrdered_int : An := (.two .n (.two .n (.one (.loop [0, 6, 7] [(0, [])] [] (.two (.two .n (.two .n .n)) (.one (.two .n (.two .n .n))))))))

/-- slices.partialInsertionSortOrdered[int] -/
def tab_slices_partialInsertionSortOrdered_int (N : Nat) (Φ : Calls') : Calls' := fun f => cond (Nat.beq f id_cmp_Less_int) (some (F_cmp_Less_int N Φ)) (Φ f)
def F_slices_partialInsertionSortOrdered_int (N : Nat) (Φ : Calls') : List V → M V := fun args =>
 unc args fun a0 args =>
 unc args fun a1 args =>
 unc args fun a2 args =>
 unn args <|
 optM (binR .add .o none a1 (.i .i64 1)) fun v1 =>
 lrM (
 loopM N (fun vs =>
 unc vs fun v2 vs =>
 unc vs fun v3 vs =>
 unc vs fun v4 vs =>
 unc vs fun v5 vs =>
 unc vs fun v6 vs =>
 unn vs <|
 optM (binR .lss .o none v6 (.i .i64 5)) fun v7 =>
 iteM (some v7) (
 lrM (
 lrM (
 loopM N (fun vs =>
 unc vs fun v8 vs =>
 unc vs fun v9 vs =>
 unc vs fun v10 vs =>
 unc vs fun v11 vs =>
 unc vs fun v12 vs =>
 unn vs <|
 optM (binR .lss .o none v11 v10) fun v13 =>
 bindM (gdM (boolV (some v13)) true (pM (some v8))) fun v14 =>
 bindM (gdM (boolV (some v13)) true (pM (some v11))) fun v15 =>
 bindM (gdM (boolV (some v13)) true (pM (iaL 1 v14 v15))) fun v16 =>
 bindM (gdM (boolV (some v13)) true (rM (ld false 1 v16))) fun v17 =>
 bindM (gdM (boolV (some v13)) true (pM (some v8))) fun v18 =>
 bindM (gdM (boolV (some v13)) true (pM (some v11))) fun v19 =>
 bindM (gdM (boolV (some v13)) true (pM (binR .sub .o none v19 (.i .i64 1)))) fun v20 =>
 bindM (gdM (boolV (some v13)) true (pM (iaL 1 v18 v20))) fun v21 =>
 bindM (gdM (boolV (some v13)) true (rM (ld false 1 v21))) fun v22 =>
 bindM (gdM (boolV (some v13)) true (F_cmp_Less_int N Φ [v17, v22])) fun v23 =>
 bindM (gdM (boolV (some v13)) true (pM (unV .not v23))) fun v24 =>
 optM (pickR v13 v24 (.b false)) fun v25 =>
 iteM (some v25) (
 optM (binR .add .o none v11 (.i .i64 1)) fun v26 =>
 pureM (.nx [v8, v9, v10, v26, v12])
 ) (
 pureM (.ex 2 [v8, v9, v10, v11, v12])
 )
 ) [v2, v3, v4, v5, v6])
 (fun vs =>
 failM)
 (fun id vs =>
 cond (Nat.beq id 2) (
 unc vs fun v27 vs =>
 unc vs fun v28 vs =>
 unc vs fun v29 vs =>
 unc vs fun v30 vs =>
 unc vs fun v31 vs =>
 unn vs <|
 optM (binR .eql .o none v30 v29) fun v32 =>
 iteM (some v32) (
 pureM (.rt [(.b true)])
 ) (
 optM (binR .sub .o none v29 v28) fun v33 =>
 optM (binR .lss .o none v33 (.i .i64 50)) fun v34 =>
 iteM (some v34) (
 pureM (.rt [(.b false)])
 ) (
 optM (binR .sub .o none v30 (.i .i64 1)) fun v35 =>
 optM (binR .sub .o none v30 (.i .i64 1)) fun v36 =>
 optM (iaL 1 v27 v36) fun v37 =>
 rdM (ld false 1 v37) fun v38 =>
 optM (iaL 1 v27 v30) fun v39 =>
 rdM (ld false 1 v39) fun v40 =>
 optM (iaL 1 v27 v30) fun v41 =>
 bindM (stR 1 v41 v38) fun v42 =>
 optM (iaL 1 v27 v35) fun v43 =>
 bindM (stR 1 v43 v40) fun v44 =>
 lrM (
 optM (binR .sub .o none v30 v28) fun v45 =>
 optM (binR .geq .o none v45 (.i .i64 2)) fun v46 =>
 iteM (some v46) (
 optM (binR .sub .o none v30 (.i .i64 1)) fun v47 =>
 lrM (
 loopM N (fun vs =>
 unc vs fun v48 vs =>
 unc vs fun v49 vs =>
 unc vs fun v50 vs =>
 unc vs fun v51 vs =>
 unc vs fun v52 vs =>
 unc vs fun v53 vs =>
 unn vs <|
 optM (binR .geq .o none v53 (.i .i64 1)) fun v54 =>
 iteM (some v54) (
 optM (iaL 1 v48 v53) fun v55 =>
 rdM (ld false 1 v55) fun v56 =>
 optM (binR .sub .o none v53 (.i .i64 1)) fun v57 =>
 optM (iaL 1 v48 v57) fun v58 =>
 rdM (ld false 1 v58) fun v59 =>
 bindM (F_cmp_Less_int N Φ [v56, v59]) fun v60 =>
 optM (unV .not v60) fun v61 =>
 iteM (some v61) (
 pureM (.ex 4 [v48, v49, v50, v51, v52])
 ) (
 optM (binR .sub .o none v53 (.i .i64 1)) fun v62 =>
 optM (binR .sub .o none v53 (.i .i64 1)) fun v63 =>
 optM (iaL 1 v48 v63) fun v64 =>
 rdM (ld false 1 v64) fun v65 =>
 optM (iaL 1 v48 v53) fun v66 =>
 rdM (ld false 1 v66) fun v67 =>
 optM (iaL 1 v48 v53) fun v68 =>
 bindM (stR 1 v68 v65) fun v69 =>
 optM (iaL 1 v48 v62) fun v70 =>
 bindM (stR 1 v70 v67) fun v71 =>
 optM (binR .sub .o none v53 (.i .i64 1)) fun v72 =>
 pureM (.nx [v48, v49, v50, v51, v52, v72])
 )
 ) (
 pureM (.ex 4 [v48, v49, v50, v51, v52])
 )
 ) [v27, v28, v29, v30, v31, v47])
 (fun vs =>
 failM)
 (fun id vs =>
 cond (Nat.beq id 4) (
 unc vs fun v73 vs =>
 unc vs fun v74 vs =>
 unc vs fun v75 vs =>
 unc vs fun v76 vs =>
 unc vs fun v77 vs =>
 unn vs <|
 pureM (.nx [v73, v74, v75, v76, v77])
 ) <|
 failM)
 (fun vs =>
 unc vs fun v78 vs =>
 unn vs <|
 pureM (.rt [v78])
 )
 ) (
 pureM (.nx [v27, v28, v29, v30, v31])
 )
 )
 (fun vs =>
 unc vs fun v79 vs =>
 unc vs fun v80 vs =>
 unc vs fun v81 vs =>
 unc vs fun v82 vs =>
 unc vs fun v83 vs =>
 unn vs <|
 optM (binR .sub .o none v81 v82) fun v84 =>
 optM (binR .geq .o none v84 (.i .i64 2)) fun v85 =>
 iteM (some v85) (
 optM (binR .add .o none v82 (.i .i64 1)) fun v86 =>
 lrM (
 loopM N (fun vs =>
 unc vs fun v87 vs =>
 unc vs fun v88 vs =>
 unc vs fun v89 vs =>
 unc vs fun v90 vs =>
 unc vs fun v91 vs =>
 unc vs fun v92 vs =>
 unn vs <|
 optM (binR .lss .o none v92 v89) fun v93 =>
 iteM (some v93) (
 optM (iaL 1 v87 v92) fun v94 =>
 rdM (ld false 1 v94) fun v95 =>
 optM (binR .sub .o none v92 (.i .i64 1)) fun v96 =>
 optM (iaL 1 v87 v96) fun v97 =>
 rdM (ld false 1 v97) fun v98 =>
 bindM (F_cmp_Less_int N Φ [v95, v98]) fun v99 =>
 optM (unV .not v99) fun v100 =>
 iteM (some v100) (
 pureM (.ex 6 [v87, v88, v89, v90, v91])
 ) (
 optM (binR .sub .o none v92 (.i .i64 1)) fun v101 =>
 optM (binR .sub .o none v92 (.i .i64 1)) fun v102 =>
 optM (iaL 1 v87 v102) fun v103 =>
 rdM (ld false 1 v103) fun v104 =>
 optM (iaL 1 v87 v92) fun v105 =>
 rdM (ld false 1 v105) fun v106 =>
 optM (iaL 1 v87 v92) fun v107 =>
 bindM (stR 1 v107 v104) fun v108 =>
 optM (iaL 1 v87 v101) fun v109 =>
 bindM (stR 1 v109 v106) fun v110 =>
 optM (binR .add .o none v92 (.i .i64 1)) fun v111 =>
 pureM (.nx [v87, v88, v89, v90, v91, v111])
 )
 ) (
 pureM (.ex 6 [v87, v88, v89, v90, v91])
 )
 ) [v79, v80, v81, v82, v83, v86])
 (fun vs =>
 failM)
 (fun id vs =>
 cond (Nat.beq id 6) (
 unc vs fun v112 vs =>
 unc vs fun v113 vs =>
 unc vs fun v114 vs =>
 unc vs fun v115 vs =>
 unc vs fun v116 vs =>
 unn vs <|
 pureM (.nx [v112, v113, v114, v115, v116])
 ) <|
 failM)
 (fun vs =>
 unc vs fun v117 vs =>
 unn vs <|
 pureM (.rt [v117])
 )
 ) (
 pureM (.nx [v79, v80, v81, v82, v83])
 )
 )
 (fun id vs =>
 failM)
 (fun vs =>
 unc vs fun v118 vs =>
 unn vs <|
 pureM (.rt [v118])
 )
 )
 )
 ) <|
 failM)
 (fun vs =>
 unc vs fun v119 vs =>
 unn vs <|
 pureM (.rt [v119])
 )
 )
 (fun vs =>
 unc vs fun v120 vs =>
 unc vs fun v121 vs =>
 unc vs fun v122 vs =>
 unc vs fun v123 vs =>
 unc vs fun v124 vs =>
 unn vs <|
 optM (binR .add .o none v124 (.i .i64 1)) fun v125 =>
 pureM (.nx [v120, v121, v122, v123, v125])
 )
 (fun id vs =>
 failM)
 (fun vs =>
 unc vs fun v126 vs =>
 unn vs <|
 pureM (.rt [v126])
 )
 ) (
 pureM (.ex 0 [])
 )
 ) [a0, a1, a2, v1, (.i .i64 0)])
 (fun vs =>
 failM)
 (fun id vs =>
 cond (Nat.beq id 0) (
 unn vs <|
 pureM (.b false)
 ) <|
 failM)
 (fun vs =>
 unc vs fun v127 vs =>
 unn vs <|
 pureM v127
 )
def an_slices_partialInsertionSortOrdered_int : An := (.two .n (.two .n (.two (.two .n (.one (.loop [0, 1, 2, 7, 8] [(0, [])] [6] (.two (.two .n (.two .n .n)) (.two (.cut [0, 1, 2, 7, 8] [] [6] (.one (.two (.one (.loop [0, 1, 2, 7, 8] [(2, [0, 1, 2, 7, 8])] [6] (.two (.two .n (.two .n .n)) (.one .n)))) (.two (.two .n (.two (.two .n .n) .n)) (.two (.two .n (.two (.two .n .n) .n)) (.two .n (.two (.cut [0, 1, 2, 7, 8] [] [6] (.two .n (.two (.two .n (.one (.loop [0, 1, 2, 7, 8, 9] [(4, [0, 1, 2, 7, 8])] [6] (.two (.two .n (.two .n .n)) (.two (.one (.two (.two .n (.two .n .n)) .n)) .n))))) .n))) (.two .n (.two (.two .n (.one (.loop [0, 1, 2, 7, 8, 10] [(6, [0, 1, 2, 7, 8])] [6] (.two (.two .n (.two .n .n)) (.two (.one (.two (.two .n (.two .n .n)) .n)) .n))))) .n))))))))) .n))))) (.two .n .n))))

/-- slices.partitionEqualOrdered[int] -/
def tab_slices_partitionEqualOrdered_int (N : Nat) (Φ : Calls') : Calls' := fun f => cond (Nat.beq f id_cmp_Less_int) (some (F_cmp_Less_int N Φ)) (Φ f)
def F_slices_partitionEqualOrdered_int (N : Nat) (Φ : Calls') : List V → M V := fun args =>
 unc args fun a0 args =>
 unc args fun a1 args =>
 unc args fun a2 args =>
 unc args fun a3 args =>
 unn args <|
 optM (iaL 1 a0 a3) fun v1 =>
 rdM (ld false 1 v1) fun v2 =>
 optM (iaL 1 a0 a1) fun v3 =>
 rdM (ld false 1 v3) fun v4 =>
 optM (iaL 1 a0 a1) fun v5 =>
 bindM (stR 1 v5 v2) fun v6 =>
 optM (iaL 1 a0 a3) fun v7 =>
 bindM (stR 1 v7 v4) fun v8 =>
 optM (binR .add .o none a1 (.i .i64 1)) fun v9 =>
 optM (binR .sub .o none a2 (.i .i64 1)) fun v10 =>
 lrM (
 loopM N (fun vs =>
 unc vs fun v11 vs =>
 unc vs fun v12 vs =>
 unc vs fun v13 vs =>
 unc vs fun v14 vs =>
 unn vs <|
 lrM (
 loopM N (fun vs =>
 unc vs fun v15 vs =>
 unc vs fun v16 vs =>
 unc vs fun v17 vs =>
 unc vs fun v18 vs =>
 unn vs <|
 optM (binR .leq .o none v17 v18) fun v19 =>
 bindM (gdM (boolV (some v19)) true (pM (some v15))) fun v20 =>
 bindM (gdM (boolV (some v19)) true (pM (some v16))) fun v21 =>
 bindM (gdM (boolV (some v19)) true (pM (iaL 1 v20 v21))) fun v22 =>
 bindM (gdM (boolV (some v19)) true (rM (ld false 1 v22))) fun v23 =>
 bindM (gdM (boolV (some v19)) true (pM (some v15))) fun v24 =>
 bindM (gdM (boolV (some v19)) true (pM (some v17))) fun v25 =>
 bindM (gdM (boolV (some v19)) true (pM (iaL 1 v24 v25))) fun v26 =>
 bindM (gdM (boolV (some v19)) true (rM (ld false 1 v26))) fun v27 =>
 bindM (gdM (boolV (some v19)) true (F_cmp_Less_int N Φ [v23, v27])) fun v28 =>
 bindM (gdM (boolV (some v19)) true (pM (unV .not v28))) fun v29 =>
 optM (pickR v19 v29 (.b false)) fun v30 =>
 iteM (some v30) (
 optM (binR .add .o none v17 (.i .i64 1)) fun v31 =>
 pureM (.nx [v15, v16, v31, v18])
 ) (
 pureM (.ex 2 [v15, v16, v17, v18])
 )
 ) [v11, v12, v13, v14])
 (fun vs =>
 failM)
 (fun id vs =>
 cond (Nat.beq id 2) (
 unc vs fun v32 vs =>
 unc vs fun v33 vs =>
 unc vs fun v34 vs =>
 unc vs fun v35 vs =>
 unn vs <|
 lrM (
 loopM N (fun vs =>
 unc vs fun v36 vs =>
 unc vs fun v37 vs =>
 unc vs fun v38 vs =>
 unc vs fun v39 vs =>
 unn vs <|
 optM (binR .leq .o none v38 v39) fun v40 =>
 bindM (gdM (boolV (some v40)) true (pM (some v36))) fun v41 =>
 bindM (gdM (boolV (some v40)) true (pM (some v37))) fun v42 =>
 bindM (gdM (boolV (some v40)) true (pM (iaL 1 v41 v42))) fun v43 =>
 bindM (gdM (boolV (some v40)) true (rM (ld false 1 v43))) fun v44 =>
 bindM (gdM (boolV (some v40)) true (pM (some v36))) fun v45 =>
 bindM (gdM (boolV (some v40)) true (pM (some v39))) fun v46 =>
 bindM (gdM (boolV (some v40)) true (pM (iaL 1 v45 v46))) fun v47 =>
 bindM (gdM (boolV (some v40)) true (rM (ld false 1 v47))) fun v48 =>
 bindM (gdM (boolV (some v40)) true (F_cmp_Less_int N Φ [v44, v48])) fun v49 =>
 optM (pickR v40 v49 (.b false)) fun v50 =>
 iteM (some v50) (
 optM (binR .sub .o none v39 (.i .i64 1)) fun v51 =>
 pureM (.nx [v36, v37, v38, v51])
 ) (
 pureM (.ex 4 [v36, v37, v38, v39])
 )
 ) [v32, v33, v34, v35])
 (fun vs =>
 failM)
 (fun id vs =>
 cond (Nat.beq id 4) (
 unc vs fun v52 vs =>
 unc vs fun v53 vs =>
 unc vs fun v54 vs =>
 unc vs fun v55 vs =>
 unn vs <|
 optM (binR .gtr .o none v54 v55) fun v56 =>
 iteM (some v56) (
 pureM (.ex 0 [v54])
 ) (
 optM (iaL 1 v52 v55) fun v57 =>
 rdM (ld false 1 v57) fun v58 =>
 optM (iaL 1 v52 v54) fun v59 =>
 rdM (ld false 1 v59) fun v60 =>
 optM (iaL 1 v52 v54) fun v61 =>
 bindM (stR 1 v61 v58) fun v62 =>
 optM (iaL 1 v52 v55) fun v63 =>
 bindM (stR 1 v63 v60) fun v64 =>
 optM (binR .add .o none v54 (.i .i64 1)) fun v65 =>
 optM (binR .sub .o none v55 (.i .i64 1)) fun v66 =>
 pureM (.nx [v52, v53, v65, v66])
 )
 ) <|
 failM)
 (fun vs =>
 unc vs fun v67 vs =>
 unn vs <|
 pureM (.rt [v67])
 )
 ) <|
 failM)
 (fun vs =>
 unc vs fun v68 vs =>
 unn vs <|
 pureM (.rt [v68])
 )
 ) [a0, a1, v9, v10])
 (fun vs =>
 failM)
 (fun id vs =>
 cond (Nat.beq id 0) (
 unc vs fun v69 vs =>
 unn vs <|
 pureM v69
 ) <|
 failM)
 (fun vs =>
 unc vs fun v70 vs =>
 unn vs <|
 pureM v70
 )
def an_slices_partitionEqualOrdered_int : An := (.two .n (.two .n (.two .n (.two (.one (.loop [0, 1, 9, 10] [(0, [9])] [8] (.one (.two (.one (.loop [0, 1, 9, 10] [(2, [0, 1, 9, 10])] [8] (.two (.two .n (.two .n .n)) (.one .n)))) (.two (.one (.loop [0, 1, 9, 10] [(4, [0, 1, 9, 10])] [8] (.two (.two .n (.two .n .n)) (.one .n)))) (.two (.two .n (.two .n .n)) (.two .n (.two .n .n)))))))) (.two .n .n)))))

/-- slices.partitionOrdered[int] -/
def tab_slices_partitionOrdered_int (N : Nat) (Φ : Calls') : Calls' := fun f => cond (Nat.beq f id_cmp_Less_int) (some (F_cmp_Less_int N Φ)) (Φ f)
def F_slices_partitionOrdered_int (N : Nat) (Φ : Calls') : List V → M V := fun args =>
 unc args fun a0 args =>
 unc args fun a1 args =>
 unc args fun a2 args =>
 unc args fun a3 args =>
 unn args <|
 optM (iaL 1 a0 a3) fun v1 =>
 rdM (ld false 1 v1) fun v2 =>
 optM (iaL 1 a0 a1) fun v3 =>
 rdM (ld false 1 v3) fun v4 =>
 optM (iaL 1 a0 a1) fun v5 =>
 bindM (stR 1 v5 v2) fun v6 =>
 optM (iaL 1 a0 a3) fun v7 =>
 bindM (stR 1 v7 v4) fun v8 =>
 optM (binR .add .o none a1 (.i .i64 1)) fun v9 =>
 optM (binR .sub .o none a2 (.i .i64 1)) fun v10 =>
 lrM (
 loopM N (fun vs =>
 unc vs fun v11 vs =>
 unc vs fun v12 vs =>
 unc vs fun v13 vs =>
 unc vs fun v14 vs =>
 unn vs <|
 optM (binR .leq .o none v13 v14) fun v15 =>
 bindM (gdM (boolV (some v15)) true (pM (some v11))) fun v16 =>
 bindM (gdM (boolV (some v15)) true (pM (some v13))) fun v17 =>
 bindM (gdM (boolV (some v15)) true (pM (iaL 1 v16 v17))) fun v18 =>
 bindM (gdM (boolV (some v15)) true (rM (ld false 1 v18))) fun v19 =>
 bindM (gdM (boolV (some v15)) true (pM (some v11))) fun v20 =>
 bindM (gdM (boolV (some v15)) true (pM (some v12))) fun v21 =>
 bindM (gdM (boolV (some v15)) true (pM (iaL 1 v20 v21))) fun v22 =>
 bindM (gdM (boolV (some v15)) true (rM (ld false 1 v22))) fun v23 =>
 bindM (gdM (boolV (some v15)) true (F_cmp_Less_int N Φ [v19, v23])) fun v24 =>
 optM (pickR v15 v24 (.b false)) fun v25 =>
 iteM (some v25) (
 optM (binR .add .o none v13 (.i .i64 1)) fun v26 =>
 pureM (.nx [v11, v12, v26, v14])
 ) (
 pureM (.ex 0 [v11, v12, v13, v14])
 )
 ) [a0, a1, v9, v10])
 (fun vs =>
 failM)
 (fun id vs =>
 cond (Nat.beq id 0) (
 unc vs fun v27 vs =>
 unc vs fun v28 vs =>
 unc vs fun v29 vs =>
 unc vs fun v30 vs =>
 unn vs <|
 lrM (
 loopM N (fun vs =>
 unc vs fun v31 vs =>
 unc vs fun v32 vs =>
 unc vs fun v33 vs =>
 unc vs fun v34 vs =>
 unn vs <|
 optM (binR .leq .o none v33 v34) fun v35 =>
 bindM (gdM (boolV (some v35)) true (pM (some v31))) fun v36 =>
 bindM (gdM (boolV (some v35)) true (pM (some v34))) fun v37 =>
 bindM (gdM (boolV (some v35)) true (pM (iaL 1 v36 v37))) fun v38 =>
 bindM (gdM (boolV (some v35)) true (rM (ld false 1 v38))) fun v39 =>
 bindM (gdM (boolV (some v35)) true (pM (some v31))) fun v40 =>
 bindM (gdM (boolV (some v35)) true (pM (some v32))) fun v41 =>
 bindM (gdM (boolV (some v35)) true (pM (iaL 1 v40 v41))) fun v42 =>
 bindM (gdM (boolV (some v35)) true (rM (ld false 1 v42))) fun v43 =>
 bindM (gdM (boolV (some v35)) true (F_cmp_Less_int N Φ [v39, v43])) fun v44 =>
 bindM (gdM (boolV (some v35)) true (pM (unV .not v44))) fun v45 =>
 optM (pickR v35 v45 (.b false)) fun v46 =>
 iteM (some v46) (
 optM (binR .sub .o none v34 (.i .i64 1)) fun v47 =>
 pureM (.nx [v31, v32, v33, v47])
 ) (
 pureM (.ex 2 [v31, v32, v33, v34])
 )
 ) [v27, v28, v29, v30])
 (fun vs =>
 failM)
 (fun id vs =>
 cond (Nat.beq id 2) (
 unc vs fun v48 vs =>
 unc vs fun v49 vs =>
 unc vs fun v50 vs =>
 unc vs fun v51 vs =>
 unn vs <|
 optM (binR .gtr .o none v50 v51) fun v52 =>
 iteM (some v52) (
 optM (iaL 1 v48 v49) fun v53 =>
 rdM (ld false 1 v53) fun v54 =>
 optM (iaL 1 v48 v51) fun v55 =>
 rdM (ld false 1 v55) fun v56 =>
 optM (iaL 1 v48 v51) fun v57 =>
 bindM (stR 1 v57 v54) fun v58 =>
 optM (iaL 1 v48 v49) fun v59 =>
 bindM (stR 1 v59 v56) fun v60 =>
 pureM (.t [v51, (.b true)])
 ) (
 optM (iaL 1 v48 v51) fun v61 =>
 rdM (ld false 1 v61) fun v62 =>
 optM (iaL 1 v48 v50) fun v63 =>
 rdM (ld false 1 v63) fun v64 =>
 optM (iaL 1 v48 v50) fun v65 =>
 bindM (stR 1 v65 v62) fun v66 =>
 optM (iaL 1 v48 v51) fun v67 =>
 bindM (stR 1 v67 v64) fun v68 =>
 optM (binR .add .o none v50 (.i .i64 1)) fun v69 =>
 optM (binR .sub .o none v51 (.i .i64 1)) fun v70 =>
 lrM (
 loopM N (fun vs =>
 unc vs fun v71 vs =>
 unc vs fun v72 vs =>
 unc vs fun v73 vs =>
 unc vs fun v74 vs =>
 unn vs <|
 lrM (
 loopM N (fun vs =>
 unc vs fun v75 vs =>
 unc vs fun v76 vs =>
 unc vs fun v77 vs =>
 unc vs fun v78 vs =>
 unn vs <|
 optM (binR .leq .o none v77 v78) fun v79 =>
 bindM (gdM (boolV (some v79)) true (pM (some v75))) fun v80 =>
 bindM (gdM (boolV (some v79)) true (pM (some v77))) fun v81 =>
 bindM (gdM (boolV (some v79)) true (pM (iaL 1 v80 v81))) fun v82 =>
 bindM (gdM (boolV (some v79)) true (rM (ld false 1 v82))) fun v83 =>
 bindM (gdM (boolV (some v79)) true (pM (some v75))) fun v84 =>
 bindM (gdM (boolV (some v79)) true (pM (some v76))) fun v85 =>
 bindM (gdM (boolV (some v79)) true (pM (iaL 1 v84 v85))) fun v86 =>
 bindM (gdM (boolV (some v79)) true (rM (ld false 1 v86))) fun v87 =>
 bindM (gdM (boolV (some v79)) true (F_cmp_Less_int N Φ [v83, v87])) fun v88 =>
 optM (pickR v79 v88 (.b false)) fun v89 =>
 iteM (some v89) (
 optM (binR .add .o none v77 (.i .i64 1)) fun v90 =>
 pureM (.nx [v75, v76, v90, v78])
 ) (
 pureM (.ex 6 [v75, v76, v77, v78])
 )
 ) [v71, v72, v73, v74])
 (fun vs =>
 failM)
 (fun id vs =>
 cond (Nat.beq id 6) (
 unc vs fun v91 vs =>
 unc vs fun v92 vs =>
 unc vs fun v93 vs =>
 unc vs fun v94 vs =>
 unn vs <|
 lrM (
 loopM N (fun vs =>
 unc vs fun v95 vs =>
 unc vs fun v96 vs =>
 unc vs fun v97 vs =>
 unc vs fun v98 vs =>
 unn vs <|
 optM (binR .leq .o none v97 v98) fun v99 =>
 bindM (gdM (boolV (some v99)) true (pM (some v95))) fun v100 =>
 bindM (gdM (boolV (some v99)) true (pM (some v98))) fun v101 =>
 bindM (gdM (boolV (some v99)) true (pM (iaL 1 v100 v101))) fun v102 =>
 bindM (gdM (boolV (some v99)) true (rM (ld false 1 v102))) fun v103 =>
 bindM (gdM (boolV (some v99)) true (pM (some v95))) fun v104 =>
 bindM (gdM (boolV (some v99)) true (pM (some v96))) fun v105 =>
 bindM (gdM (boolV (some v99)) true (pM (iaL 1 v104 v105))) fun v106 =>
 bindM (gdM (boolV (some v99)) true (rM (ld false 1 v106))) fun v107 =>
 bindM (gdM (boolV (some v99)) true (F_cmp_Less_int N Φ [v103, v107])) fun v108 =>
 bindM (gdM (boolV (some v99)) true (pM (unV .not v108))) fun v109 =>
 optM (pickR v99 v109 (.b false)) fun v110 =>
 iteM (some v110) (
 optM (binR .sub .o none v98 (.i .i64 1)) fun v111 =>
 pureM (.nx [v95, v96, v97, v111])
 ) (
 pureM (.ex 8 [v95, v96, v97, v98])
 )
 ) [v91, v92, v93, v94])
 (fun vs =>
 failM)
 (fun id vs =>
 cond (Nat.beq id 8) (
 unc vs fun v112 vs =>
 unc vs fun v113 vs =>
 unc vs fun v114 vs =>
 unc vs fun v115 vs =>
 unn vs <|
 optM (binR .gtr .o none v114 v115) fun v116 =>
 iteM (some v116) (
 pureM (.ex 4 [v112, v113, v115])
 ) (
 optM (iaL 1 v112 v115) fun v117 =>
 rdM (ld false 1 v117) fun v118 =>
 optM (iaL 1 v112 v114) fun v119 =>
 rdM (ld false 1 v119) fun v120 =>
 optM (iaL 1 v112 v114) fun v121 =>
 bindM (stR 1 v121 v118) fun v122 =>
 optM (iaL 1 v112 v115) fun v123 =>
 bindM (stR 1 v123 v120) fun v124 =>
 optM (binR .add .o none v114 (.i .i64 1)) fun v125 =>
 optM (binR .sub .o none v115 (.i .i64 1)) fun v126 =>
 pureM (.nx [v112, v113, v125, v126])
 )
 ) <|
 failM)
 (fun vs =>
 unc vs fun v127 vs =>
 unc vs fun v128 vs =>
 unn vs <|
 pureM (.rt [v127, v128])
 )
 ) <|
 failM)
 (fun vs =>
 unc vs fun v129 vs =>
 unc vs fun v130 vs =>
 unn vs <|
 pureM (.rt [v129, v130])
 )
 ) [v48, v49, v69, v70])
 (fun vs =>
 failM)
 (fun id vs =>
 cond (Nat.beq id 4) (
 unc vs fun v131 vs =>
 unc vs fun v132 vs =>
 unc vs fun v133 vs =>
 unn vs <|
 optM (iaL 1 v131 v132) fun v134 =>
 rdM (ld false 1 v134) fun v135 =>
 optM (iaL 1 v131 v133) fun v136 =>
 rdM (ld false 1 v136) fun v137 =>
 optM (iaL 1 v131 v133) fun v138 =>
 bindM (stR 1 v138 v135) fun v139 =>
 optM (iaL 1 v131 v132) fun v140 =>
 bindM (stR 1 v140 v137) fun v141 =>
 pureM (.t [v133, (.b false)])
 ) <|
 failM)
 (fun vs =>
 unc vs fun v142 vs =>
 unc vs fun v143 vs =>
 unn vs <|
 pureM (.t [v142, v143])
 )
 )
 ) <|
 failM)
 (fun vs =>
 unc vs fun v144 vs =>
 unc vs fun v145 vs =>
 unn vs <|
 pureM (.t [v144, v145])
 )
 ) <|
 failM)
 (fun vs =>
 unc vs fun v146 vs =>
 unc vs fun v147 vs =>
 unn vs <|
 pureM (.t [v146, v147])
 )
def an_slices_partitionOrdered_int : An := (.two .n (.two .n (.two .n (.two (.one (.loop [0, 1, 10, 11] [(0, [0, 1, 10, 11])] [8, 9] (.two (.two .n (.two .n .n)) (.one .n)))) (.two (.one (.loop [0, 1, 10, 11] [(2, [0, 1, 10, 11])] [8, 9] (.two (.two .n (.two .n .n)) (.one .n)))) (.two (.two .n (.two (.two .n (.two .n .n)) .n)) (.two .n (.two .n (.two .n (.two (.one (.loop [0, 1, 10, 11] [(4, [0, 1, 11])] [8, 9] (.one (.two (.one (.loop [0, 1, 10, 11] [(6, [0, 1, 10, 11])] [8, 9] (.two (.two .n (.two .n .n)) (.one .n)))) (.two (.one (.loop [0, 1, 10, 11] [(8, [0, 1, 10, 11])] [8, 9] (.two (.two .n (.two .n .n)) (.one .n)))) (.two (.two .n (.two .n .n)) (.two .n (.two .n .n)))))))) (.two .n (.two .n .n))))))))))))

/-- slices.pdqsortOrdered[int] -/
def tab_slices_pdqsortOrdered_int (N : Nat) (Φ : Calls') : Calls' := fun f => cond (Nat.beq f id_slices_insertionSortOrdered_int) (some (F_slices_insertionSortOrdered_int N Φ)) (cond (Nat.beq f id_slices_heapSortOrdered_int) (some (F_slices_heapSortOrdered_int N Φ)) (cond (Nat.beq f id_slices_breakPatternsOrdered_int) (some (F_slices_breakPatternsOrdered_int N Φ)) (cond (Nat.beq f id_slices_choosePivotOrdered_int) (some (F_slices_choosePivotOrdered_int N Φ)) (cond (Nat.beq f id_slices_reverseRangeOrdered_int) (some (F_slices_reverseRangeOrdered_int N Φ)) (cond (Nat.beq f id_slices_partialInsertionSortOrdered_int) (some (F_slices_partialInsertionSortOrdered_int N Φ)) (cond (Nat.beq f id_cmp_Less_int) (some (F_cmp_Less_int N Φ)) (cond (Nat.beq f id_slices_partitionEqualOrdered_int) (some (F_slices_partitionEqualOrdered_int N Φ)) (cond (Nat.beq f id_slices_partitionOrdered_int) (some (F_slices_partitionOrdered_int N Φ)) (Φ f)))))))))
def F_slices_pdqsortOrdered_int (N : Nat) (Φ : Calls') : List V → M V := fun args =>
 unc args fun a0 args =>
 unc args fun a1 args =>
 unc args fun a2 args =>
 unc args fun a3 args =>
 unn args <|
 lrM (
 loopM N (fun vs =>
 unc vs fun v1 vs =>
 unc vs fun v2 vs =>
 unc vs fun v3 vs =>
 unc vs fun v4 vs =>
 unc vs fun v5 vs =>
 unc vs fun v6 vs =>
 unn vs <|
 optM (binR .sub .o none v3 v2) fun v7 =>
 optM (binR .leq .o none v7 (.i .i64 12)) fun v8 =>
 iteM (some v8) (
 bindM (F_slices_insertionSortOrdered_int N Φ [v1, v2, v3]) fun v9 =>
 pureM (.rt [])
 ) (
 optM (binR .eql .o none v4 (.i .i64 0)) fun v10 =>
 iteM (some v10) (
 bindM (F_slices_heapSortOrdered_int N Φ [v1, v2, v3]) fun v11 =>
 pureM (.rt [])
 ) (
 lrM (
 optM (unV .not v5) fun v12 =>
 iteM (some v12) (
 bindM (F_slices_breakPatternsOrdered_int N Φ [v1, v2, v3]) fun v13 =>
 optM (binR .sub .o none v4 (.i .i64 1)) fun v14 =>
 pureM (.nx [v1, v2, v3, v14, v5, v6, v7])
 ) (
 pureM (.nx [v1, v2, v3, v4, v5, v6, v7])
 )
 )
 (fun vs =>
 unc vs fun v15 vs =>
 unc vs fun v16 vs =>
 unc vs fun v17 vs =>
 unc vs fun v18 vs =>
 unc vs fun v19 vs =>
 unc vs fun v20 vs =>
 unc vs fun v21 vs =>
 unn vs <|
 bindM (F_slices_choosePivotOrdered_int N Φ [v15, v16, v17]) fun v22 =>
 optM (exR 0 v22) fun v23 =>
 optM (exR 1 v22) fun v24 =>
 lrM (
 optM (binR .eql .o none v24 (.i .i64 2)) fun v25 =>
 iteM (some v25) (
 bindM (F_slices_reverseRangeOrdered_int N Φ [v15, v16, v17]) fun v26 =>
 optM (binR .sub .o none v17 (.i .i64 1)) fun v27 =>
 optM (binR .sub .o none v23 v16) fun v28 =>
 optM (binR .sub .o none v27 v28) fun v29 =>
 pureM (.nx [v15, v16, v17, v18, v19, v20, v21, v29, (.i .i64 1)])
 ) (
 pureM (.nx [v15, v16, v17, v18, v19, v20, v21, v23, v24])
 )
 )
 (fun vs =>
 unc vs fun v30 vs =>
 unc vs fun v31 vs =>
 unc vs fun v32 vs =>
 unc vs fun v33 vs =>
 unc vs fun v34 vs =>
 unc vs fun v35 vs =>
 unc vs fun v36 vs =>
 unc vs fun v37 vs =>
 unc vs fun v38 vs =>
 unn vs <|
 lrM (
 bindM (gdM (boolV (some v34)) true (pM (some v35))) fun v39 =>
 optM (pickR v34 v39 (.b false)) fun v40 =>
 bindM (gdM (boolV (some v40)) true (pM (some v38))) fun v41 =>
 bindM (gdM (boolV (some v40)) true (pM (binR .eql .o none v41 (.i .i64 1)))) fun v42 =>
 optM (pickR v40 v42 (.b false)) fun v43 =>
 iteM (some v43) (
 bindM (F_slices_partialInsertionSortOrdered_int N Φ [v30, v31, v32]) fun v44 =>
 iteM (some v44) (
 pureM (.rt [])
 ) (
 pureM (.nx [v30, v31, v32, v33, v34, v35, v36, v37])
 )
 ) (
 pureM (.nx [v30, v31, v32, v33, v34, v35, v36, v37])
 )
 )
 (fun vs =>
 unc vs fun v45 vs =>
 unc vs fun v46 vs =>
 unc vs fun v47 vs =>
 unc vs fun v48 vs =>
 unc vs fun v49 vs =>
 unc vs fun v50 vs =>
 unc vs fun v51 vs =>
 unc vs fun v52 vs =>
 unn vs <|
 optM (binR .gtr .o none v46 (.i .i64 0)) fun v53 =>
 bindM (gdM (boolV (some v53)) true (pM (some v45))) fun v54 =>
 bindM (gdM (boolV (some v53)) true (pM (some v46))) fun v55 =>
 bindM (gdM (boolV (some v53)) true (pM (binR .sub .o none v55 (.i .i64 1)))) fun v56 =>
 bindM (gdM (boolV (some v53)) true (pM (iaL 1 v54 v56))) fun v57 =>
 bindM (gdM (boolV (some v53)) true (rM (ld false 1 v57))) fun v58 =>
 bindM (gdM (boolV (some v53)) true (pM (some v45))) fun v59 =>
 bindM (gdM (boolV (some v53)) true (pM (some v52))) fun v60 =>
 bindM (gdM (boolV (some v53)) true (pM (iaL 1 v59 v60))) fun v61 =>
 bindM (gdM (boolV (some v53)) true (rM (ld false 1 v61))) fun v62 =>
 bindM (gdM (boolV (some v53)) true (F_cmp_Less_int N Φ [v58, v62])) fun v63 =>
 bindM (gdM (boolV (some v53)) true (pM (unV .not v63))) fun v64 =>
 optM (pickR v53 v64 (.b false)) fun v65 =>
 iteM (some v65) (
 bindM (F_slices_partitionEqualOrdered_int N Φ [v45, v46, v47, v52]) fun v66 =>
 pureM (.nx [v45, v66, v47, v48, v49, v50])
 ) (
 bindM (F_slices_partitionOrdered_int N Φ [v45, v46, v47, v52]) fun v67 =>
 optM (exR 0 v67) fun v68 =>
 optM (exR 1 v67) fun v69 =>
 optM (binR .sub .o none v68 v46) fun v70 =>
 optM (binR .sub .o none v47 v68) fun v71 =>
 optM (binR .quo .o none v51 (.i .i64 8)) fun v72 =>
 optM (binR .lss .o none v70 v71) fun v73 =>
 iteM (some v73) (
 optM (binR .geq .o none v70 v72) fun v74 =>
 bindM (callF (tab_slices_pdqsortOrdered_int N Φ) (.f 311 [] []) [v45, v46, v68, v48]) fun v75 =>
 optM (binR .add .o none v68 (.i .i64 1)) fun v76 =>
 pureM (.nx [v45, v76, v47, v48, v74, v69])
 ) (
 optM (binR .geq .o none v71 v72) fun v77 =>
 optM (binR .add .o none v68 (.i .i64 1)) fun v78 =>
 bindM (callF (tab_slices_pdqsortOrdered_int N Φ) (.f 311 [] []) [v45, v78, v47, v48]) fun v79 =>
 pureM (.nx [v45, v46, v68, v48, v77, v69])
 )
 )
 )
 (fun id vs =>
 failM)
 (fun vs =>
 unn vs <|
 pureM (.rt [])
 )
 )
 (fun id vs =>
 failM)
 (fun vs =>
 unn vs <|
 pureM (.rt [])
 )
 )
 (fun id vs =>
 failM)
 (fun vs =>
 unn vs <|
 pureM (.rt [])
 )
 )
 )
 ) [a0, a1, a2, a3, (.b true), (.b true)])
 (fun vs =>
 failM)
 (fun id vs =>
 failM)
 (fun vs =>
 unn vs <|
 pureM (.t [])
 )
def an_slices_pdqsortOrdered_int : An := (.two .n (.two .n (.one (.loop [0, 1, 2, 3, 8, 9] [] [] (.one (.two .n (.two (.two .n (.two (.two .n .n) .n)) (.two (.two .n (.two (.two .n .n) .n)) (.two (.cut [0, 1, 2, 3, 8, 9, 10] [] [] (.two .n (.two (.two .n .n) .n))) (.two .n (.two (.cut [0, 1, 2, 3, 8, 9, 10, 11, 12] [] [] (.two .n (.two (.two .n (.two .n .n)) .n))) (.two (.cut [0, 1, 2, 3, 8, 9, 10, 11] [] [] (.two .n (.two (.two .n (.two .n .n)) .n))) (.two (.two .n (.two (.two .n (.two .n .n)) .n)) (.two .n (.two .n (.two .n (.two .n (.two .n (.two (.two .n (.two .n .n)) (.two .n (.two .n .n)))))))))))))))))))))

/-- slices.Sort[[]int,int] -/
def tab_slices_Sort_int_int (N : Nat) (Φ : Calls') : Calls' := fun f => cond (Nat.beq f id_math_bits_Len) (some (F_math_bits_Len N Φ)) (cond (Nat.beq f id_slices_pdqsortOrdered_int) (some (F_slices_pdqsortOrdered_int N Φ)) (Φ f))
def F_slices_Sort_int_int (N : Nat) (Φ : Calls') : List V → M V := fun args =>
 unc args fun a0 args =>
 unn args <|
 optM (lnL a0) fun v1 =>
 optM (cvI .u64 v1) fun v2 =>
 bindM (F_math_bits_Len N Φ [v2]) fun v3 =>
 bindM (F_slices_pdqsortOrdered_int N Φ [a0, (.i .i64 0), v1, v3]) fun v4 =>
 pureM (.t [])
def an_slices_Sort_int_int : An := (.two .n .n)

/-- slices.Sorted[int] -/
def tab_slices_Sorted_int (N : Nat) (Φ : Calls') : Calls' := fun f => cond (Nat.beq f id_slices_Collect_int) (some (F_slices_Collect_int N Φ)) (cond (Nat.beq f id_slices_Sort_int_int) (some (F_slices_Sort_int_int N Φ)) (Φ f))
def F_slices_Sorted_int (N : Nat) (Φ : Calls') : List V → M V := fun args =>
 unc args fun a0 args =>
 unn args <|
 bindM (F_slices_Collect_int N Φ [a0]) fun v1 =>
 bindM (F_slices_Sort_int_int N Φ [v1]) fun v2 =>
 pureM v1
def an_slices_Sorted_int : An := (.two .n (.two .n (.two .n (.two .n .n))))

/-- slices.Values[[]int,int]$1 -/
def tab_slices_Values_int_int_1 (N : Nat) (Φ : Calls') : Calls' := fun f => Φ f
def F_slices_Values_int_int_1 (N : Nat) (Φ : Calls') : List V → M V := fun args =>
 unc args fun a0 args =>
 unc args fun a1 args =>
 unn args <|
 rdM (ld false 1 a1) fun v1 =>
 optM (lnL v1) fun v2 =>
 lrM (
 loopM N (fun vs =>
 unc vs fun v3 vs =>
 unc vs fun v4 vs =>
 unc vs fun v5 vs =>
 unc vs fun v6 vs =>
 unn vs <|
 optM (binR .lss .o none v6 v5) fun v7 =>
 iteM (some v7) (
 optM (iaL 1 v4 v6) fun v8 =>
 rdM (ld false 1 v8) fun v9 =>
 bindM (callF (tab_slices_Values_int_int_1 N Φ) v3 [v9]) fun v10 =>
 optM (unV .not v10) fun v11 =>
 iteM (some v11) (
 pureM (.rt [])
 ) (
 optM (binR .add .o none v6 (.i .i64 1)) fun v12 =>
 pureM (.nx [v3, v4, v5, v12])
 )
 ) (
 pureM (.ex 0 [])
 )
 ) [a0, v1, v2, (.i .i64 0)])
 (fun vs =>
 failM)
 (fun id vs =>
 cond (Nat.beq id 0) (
 unn vs <|
 pureM (.t [])
 ) <|
 failM)
 (fun vs =>
 unn vs <|
 pureM (.t [])
 )
def an_slices_Values_int_int_1 : An := (.two .n (.one (.loop [0, 5, 6, 7] [(0, [])] [] (.two .n (.two (.two .n .n) (.two (.one (.two .n (.two .n (.two .n .n)))) .n))))))

/-- slices.Values[[]int,int] -/
def tab_slices_Values_int_int (N : Nat) (Φ : Calls') : Calls' := fun f => Φ f
def F_slices_Values_int_int (N : Nat) (Φ : Calls') : List V → M V := fun args =>
 unc args fun a0 args =>
 unn args <|
 alM (boxR a0) fun v1 =>
 pureM (.f id_slices_Values_int_int_1 [] [v1])
def an_slices_Values_int_int : An := (.two .n (.two .n .n))

/-- slices.Compact[[]int,int] -/
def tab_slices_Compact_int_int (N : Nat) (Φ : Calls') : Calls' := fun f => Φ f
def F_slices_Compact_int_int (N : Nat) (Φ : Calls') : List V → M V := fun args =>
 unc args fun a0 args =>
 unn args <|
 optM (lnL a0) fun v1 =>
 optM (binR .lss .o none v1 (.i .i64 2)) fun v2 =>
 iteM (some v2) (
 pureM a0
 ) (
 lrM (
 loopM N (fun vs =>
 unc vs fun v3 vs =>
 unc vs fun v4 vs =>
 unn vs <|
 optM (lnL v3) fun v5 =>
 optM (binR .lss .o none v4 v5) fun v6 =>
 iteM (some v6) (
 optM (iaL 1 v3 v4) fun v7 =>
 rdM (ld false 1 v7) fun v8 =>
 optM (binR .sub .o none v4 (.i .i64 1)) fun v9 =>
 optM (iaL 1 v3 v9) fun v10 =>
 rdM (ld false 1 v10) fun v11 =>
 optM (binR .eql .o none v8 v11) fun v12 =>
 iteM (some v12) (
 optM (slL 1 v3 (some v4) none none) fun v13 =>
 lrM (
 loopM N (fun vs =>
 unc vs fun v14 vs =>
 unc vs fun v15 vs =>
 unc vs fun v16 vs =>
 unc vs fun v17 vs =>
 unn vs <|
 optM (lnL v16) fun v18 =>
 optM (binR .lss .o none v17 v18) fun v19 =>
 iteM (some v19) (
 lrM (
 optM (iaL 1 v16 v17) fun v20 =>
 rdM (ld false 1 v20) fun v21 =>
 optM (binR .sub .o none v17 (.i .i64 1)) fun v22 =>
 optM (iaL 1 v16 v22) fun v23 =>
 rdM (ld false 1 v23) fun v24 =>
 optM (binR .neq .o none v21 v24) fun v25 =>
 iteM (some v25) (
 optM (iaL 1 v16 v17) fun v26 =>
 rdM (ld false 1 v26) fun v27 =>
 optM (iaL 1 v14 v15) fun v28 =>
 bindM (stR 1 v28 v27) fun v29 =>
 optM (binR .add .o none v15 (.i .i64 1)) fun v30 =>
 pureM (.nx [v14, v30, v16, v17])
 ) (
 pureM (.nx [v14, v15, v16, v17])
 )
 )
 (fun vs =>
 unc vs fun v31 vs =>
 unc vs fun v32 vs =>
 unc vs fun v33 vs =>
 unc vs fun v34 vs =>
 unn vs <|
 optM (binR .add .o none v34 (.i .i64 1)) fun v35 =>
 pureM (.nx [v31, v32, v33, v35])
 )
 (fun id vs =>
 failM)
 (fun vs =>
 unc vs fun v36 vs =>
 unn vs <|
 pureM (.rt [v36])
 )
 ) (
 pureM (.ex 2 [v14, v15])
 )
 ) [v3, v4, v13, (.i .i64 1)])
 (fun vs =>
 failM)
 (fun id vs =>
 cond (Nat.beq id 2) (
 unc vs fun v37 vs =>
 unc vs fun v38 vs =>
 unn vs <|
 optM (slL 1 v37 (some v38) none none) fun v39 =>
 bindM (clL 1 [(.i .i64 0)] v39) fun v40 =>
 optM (slL 1 v37 none (some v38) none) fun v41 =>
 pureM (.rt [v41])
 ) <|
 failM)
 (fun vs =>
 unc vs fun v42 vs =>
 unn vs <|
 pureM (.rt [v42])
 )
 ) (
 optM (binR .add .o none v4 (.i .i64 1)) fun v43 =>
 pureM (.nx [v3, v43])
 )
 ) (
 pureM (.ex 0 [v3])
 )
 ) [a0, (.i .i64 1)])
 (fun vs =>
 failM)
 (fun id vs =>
 cond (Nat.beq id 0) (
 unc vs fun v44 vs =>
 unn vs <|
 pureM v44
 ) <|
 failM)
 (fun vs =>
 unc vs fun v45 vs =>
 unn vs <|
 pureM v45
 )
 )
def an_slices_Compact_int_int : An := (.two .n (.two (.two .n (.two (.two .n .n) .n)) (.two (.two .n (.one (.loop [0, 3] [(0, [0])] [2] (.two (.two .n (.two .n .n)) (.two (.one (.two .n (.two (.two .n (.two (.two .n (.one (.loop [0, 3, 4, 5] [(2, [0, 3])] [2] (.two (.two .n (.two .n .n)) (.two (.cut [0, 3, 4, 5] [] [2] (.one (.two .n (.two (.two .n .n) .n)))) .n))))) (.two .n (.two .n .n)))) .n))) .n))))) (.two .n .n))))

/-- corbel/book.twice -/
def tab_book_twice (N : Nat) (Φ : Calls') : Calls' := fun f => cond (Nat.beq f id_slices_Clone_int_int) (some (F_slices_Clone_int_int N Φ)) (cond (Nat.beq f id_slices_Sorted_int) (some (F_slices_Sorted_int N Φ)) (cond (Nat.beq f id_slices_Values_int_int) (some (F_slices_Values_int_int N Φ)) (cond (Nat.beq f id_slices_Compact_int_int) (some (F_slices_Compact_int_int N Φ)) (Φ f))))
def F_book_twice (N : Nat) (Φ : Calls') : List V → M V := fun args =>
 unc args fun a0 args =>
 unn args <|
 bindM (F_slices_Values_int_int N Φ [a0]) fun v1 =>
 bindM (F_slices_Sorted_int N Φ [v1]) fun v2 =>
 bindM (F_slices_Clone_int_int N Φ [v2]) fun v3 =>
 bindM (F_slices_Compact_int_int N Φ [v3]) fun v4 =>
 optM (lnL v4) fun v5 =>
 optM (lnL v2) fun v6 =>
 optM (binR .lss .o none v5 v6) fun v7 =>
 pureM v7
def an_book_twice : An := (.two .n (.two .n (.two .n .n)))

/-- slices.Max[[]int,int] -/
def tab_slices_Max_int_int (N : Nat) (Φ : Calls') : Calls' := fun f => Φ f
def F_slices_Max_int_int (N : Nat) (Φ : Calls') : List V → M V := fun args =>
 unc args fun a0 args =>
 unn args <|
 lrM (
 optM (lnL a0) fun v1 =>
 optM (binR .lss .o none v1 (.i .i64 1)) fun v2 =>
 iteM (some v2) (
 failM -- makeIface
 ) (
 pureM (.nx [a0])
 )
 )
 (fun vs =>
 unc vs fun v3 vs =>
 unn vs <|
 optM (iaL 1 v3 (.i .i64 0)) fun v4 =>
 rdM (ld false 1 v4) fun v5 =>
 lrM (
 loopM N (fun vs =>
 unc vs fun v6 vs =>
 unc vs fun v7 vs =>
 unc vs fun v8 vs =>
 unn vs <|
 optM (lnL v6) fun v9 =>
 optM (binR .lss .o none v8 v9) fun v10 =>
 iteM (some v10) (
 optM (iaL 1 v6 v8) fun v11 =>
 rdM (ld false 1 v11) fun v12 =>
 optM (foldInts maxI [v7, v12]) fun v13 =>
 optM (binR .add .o none v8 (.i .i64 1)) fun v14 =>
 pureM (.nx [v6, v13, v14])
 ) (
 pureM (.ex 0 [v7])
 )
 ) [v3, v5, (.i .i64 1)])
 (fun vs =>
 failM)
 (fun id vs =>
 cond (Nat.beq id 0) (
 unc vs fun v15 vs =>
 unn vs <|
 pureM v15
 ) <|
 failM)
 (fun vs =>
 unc vs fun v16 vs =>
 unn vs <|
 pureM v16
 )
 )
 (fun id vs =>
 failM)
 (fun vs =>
 unc vs fun v17 vs =>
 unn vs <|
 pureM v17
 )
def an_slices_Max_int_int : An := (.two .n (.two (.cut [0] [] [2] (.two .n (.two .n .n))) (.two .n (.two (.two .n (.one (.loop [0, 3, 4] [(0, [3])] [2] (.two (.two .n (.two .n .n)) (.two (.one .n) .n))))) (.two .n .n)))))

/-- (corbel/book.Book).can -/
def tab_book_Book_can (N : Nat) (Φ : Calls') : Calls' := fun f => cond (Nat.beq f id_book_twice) (some (F_book_twice N Φ)) (cond (Nat.beq f id_slices_Max_int_int) (some (F_slices_Max_int_int N Φ)) (Φ f))
def F_book_Book_can (N : Nat) (Φ : Calls') : List V → M V := fun args =>
 unc args fun a0 args =>
 unc args fun a1 args =>
 unn args <|
 alM (boxR a0) fun v1 =>
 alM (boxR a1) fun v2 =>
 optM (faR 1 v1) fun v3 =>
 rdM (ld false 1 v3) fun v4 =>
 optM (lnL v4) fun v5 =>
 lrM (
 loopM N (fun vs =>
 unc vs fun v6 vs =>
 unc vs fun v7 vs =>
 unc vs fun v8 vs =>
 unc vs fun v9 vs =>
 unc vs fun v10 vs =>
 unc vs fun v11 vs =>
 unn vs <|
 optM (binR .lss .o none v11 v10) fun v12 =>
 iteM (some v12) (
 optM (iaL 3 v9 v11) fun v13 =>
 rdM (ld true 3 v13) fun v14 =>
 alM (alR 134 [(.i .i64 0), (.i .i64 0), (.i .i64 0)]) fun v15 =>
 bindM (stR 3 v15 v14) fun v16 =>
 optM (faR 0 v15) fun v17 =>
 rdM (ld false 1 v17) fun v18 =>
 optM (binR .lss .o none v18 (.i .i64 2)) fun v19 =>
 bindM (gdM (boolV (some v19)) false (pM (faR 0 v15))) fun v20 =>
 bindM (gdM (boolV (some v19)) false (rM (ld false 1 v20))) fun v21 =>
 bindM (gdM (boolV (some v19)) false (pM (faR 1 v7))) fun v22 =>
 bindM (gdM (boolV (some v19)) false (rM (ld false 1 v22))) fun v23 =>
 bindM (gdM (boolV (some v19)) false (pM (binR .geq .o none v21 v23))) fun v24 =>
 optM (pickR v19 (.b true) v24) fun v25 =>
 bindM (gdM (boolV (some v25)) false (pM (faR 2 v15))) fun v26 =>
 bindM (gdM (boolV (some v25)) false (rM (ld false 1 v26))) fun v27 =>
 bindM (gdM (boolV (some v25)) false (pM (binR .gtr .o none v27 (.i .i64 2)))) fun v28 =>
 optM (pickR v25 (.b true) v28) fun v29 =>
 iteM (some v29) (
 pureM (.rt [(.b false)])
 ) (
 optM (faR 0 v15) fun v30 =>
 rdM (ld false 1 v30) fun v31 =>
 alM (bsR 1 1 (zeros [(.i .i64 0)] 1) [(0, v31)]) fun v32 =>
 bindM (apR 3 1 8 (srL 1 v32) v8) fun v33 =>
 optM (binR .add .o none v11 (.i .i64 1)) fun v34 =>
 pureM (.nx [v6, v7, v33, v9, v10, v34])
 )
 ) (
 pureM (.ex 0 [v6, v7, v8])
 )
 ) [v1, v2, .ns, v4, v5, (.i .i64 0)])
 (fun vs =>
 failM)
 (fun id vs =>
 cond (Nat.beq id 0) (
 unc vs fun v35 vs =>
 unc vs fun v36 vs =>
 unc vs fun v37 vs =>
 unn vs <|
 bindM (F_book_twice N Φ [v37]) fun v38 =>
 bindM (gdM (boolV (some v38)) false (pM (faR 2 v35))) fun v39 =>
 bindM (gdM (boolV (some v38)) false (rM (ld false 1 v39))) fun v40 =>
 bindM (gdM (boolV (some v38)) false (F_book_twice N Φ [v40])) fun v41 =>
 optM (pickR v38 (.b true) v41) fun v42 =>
 bindM (gdM (boolV (some v42)) false (pM (faR 2 v35))) fun v43 =>
 bindM (gdM (boolV (some v42)) false (rM (ld false 1 v43))) fun v44 =>
 bindM (gdM (boolV (some v42)) false (pM (faR 0 v36))) fun v45 =>
 bindM (gdM (boolV (some v42)) false (rM (ld false 1 v45))) fun v46 =>
 bindM (gdM (boolV (some v42)) false (F_slices_Max_int_int N Φ [v44])) fun v47 =>
 chkM (match boolV (some v42) with | some x => cond (okB x false) (ckR (ld false 1 v45) v46) (fun _ => true) | none => fun _ => false) <|
 bindM (gdM (boolV (some v42)) false (pM (binR .gtr .o none v47 v46))) fun v48 =>
 optM (pickR v42 (.b true) v48) fun v49 =>
 iteM (some v49) (
 pureM (.b false)
 ) (
 optM (faR 3 v35) fun v50 =>
 rdM (ld false 1 v50) fun v51 =>
 optM (faR 0 v36) fun v52 =>
 rdM (ld false 1 v52) fun v53 =>
 optM (binR .lss .o none v51 v53) fun v54 =>
 bindM (gdM (boolV (some v54)) true (pM (faR 4 v35))) fun v55 =>
 bindM (gdM (boolV (some v54)) true (rM (ld false 1 v55))) fun v56 =>
 bindM (gdM (boolV (some v54)) true (pM (faR 1 v36))) fun v57 =>
 bindM (gdM (boolV (some v54)) true (rM (ld false 1 v57))) fun v58 =>
 bindM (gdM (boolV (some v54)) true (pM (binR .leq .o none v56 v58))) fun v59 =>
 optM (pickR v54 v59 (.b false)) fun v60 =>
 pureM v60
 )
 ) <|
 failM)
 (fun vs =>
 unc vs fun v61 vs =>
 unn vs <|
 pureM v61
 )
def an_book_Book_can : An := (.two .n (.two .n (.two (.two .n (.one (.loop [2, 3, 5, 9, 10, 11] [(0, [2, 3, 5])] [4] (.two .n (.two (.two .n .n) (.two (.one (.two .n (.two (.two .n (.two (.two .n .n) .n)) .n))) .n)))))) (.two (.two .n (.two (.two .n .n) .n)) (.two .n .n)))))

/-- corbel/book.Read -/
def tab_book_Read (N : Nat) (Φ : Calls') : Calls' := fun f => cond (Nat.beq f id_book_Book_Note) (some (F_book_Book_Note N Φ)) (cond (Nat.beq f id_geom_Good) (some (F_geom_Good N Φ)) (cond (Nat.beq f id_book_New) (some (F_book_New N Φ)) (cond (Nat.beq f id_book_newest) (some (F_book_newest N Φ)) (cond (Nat.beq f id_book_Book_can) (some (F_book_Book_can N Φ)) (Φ f)))))
def F_book_Read (N : Nat) (Φ : Calls') : List V → M V := fun args =>
 unc args fun a0 args =>
 unc args fun a1 args =>
 unn args <|
 alM (boxR a0) fun v1 =>
 alM (alR 66 [(.i .i64 0), .ns, .ns, (.i .i64 0), (.i .i64 0)]) fun v2 =>
 rdM (ld true 5 v1) fun v3 =>
 bindM (F_geom_Good N Φ [v3]) fun v4 =>
 optM (unV .not v4) fun v5 =>
 iteM (some v5) (
 optM (bdR [(0, 1), (1, 1), (2, 1), (3, 1), (4, 1)] [(.i .i64 0), .ns, .ns, (.i .i64 0), (.i .i64 0)] []) fun v6 =>
 bindM (stR 5 v2 v6) fun v7 =>
 rdM (ld true 5 v2) fun v8 =>
 pureM (.t [v8, (.i .i64 1)])
 ) (
 bindM (F_book_newest N Φ [a1]) fun v9 =>
 optM (exR 0 v9) fun v10 =>
 optM (exR 1 v9) fun v11 =>
 rdM (ld true 5 v1) fun v12 =>
 bindM (F_book_New N Φ [v12]) fun v13 =>
 alM (alR 66 [(.i .i64 0), .ns, .ns, (.i .i64 0), (.i .i64 0)]) fun v14 =>
 bindM (stR 5 v14 v13) fun v15 =>
 optM (bdR [(0, 1), (1, 1)] [(.i .i64 0), (.i .i64 0)] [(0, (.i .i64 6))]) fun v16 =>
 alM (bsR 1 2 (zeros [(.i .i64 0), (.i .i64 0)] 2) [(0, v16)]) fun v17 =>
 optM (faR 1 v14) fun v18 =>
 rdM (ld false 1 v18) fun v19 =>
 optM (lnL v19) fun v20 =>
 lrM (
 loopM N (fun vs =>
 unc vs fun v21 vs =>
 unc vs fun v22 vs =>
 unc vs fun v23 vs =>
 unc vs fun v24 vs =>
 unc vs fun v25 vs =>
 unc vs fun v26 vs =>
 unc vs fun v27 vs =>
 unc vs fun v28 vs =>
 unn vs <|
 optM (binR .lss .o none v28 v27) fun v29 =>
 iteM (some v29) (
 optM (bdR [(0, 1), (1, 1)] [(.i .i64 0), (.i .i64 0)] [(0, (.i .i64 3)), (1, v28)]) fun v30 =>
 alM (bsR 1 2 (zeros [(.i .i64 0), (.i .i64 0)] 2) [(0, v30)]) fun v31 =>
 bindM (apR 247 2 16 (srL 2 v31) v26) fun v32 =>
 optM (binR .add .o none v28 (.i .i64 1)) fun v33 =>
 pureM (.nx [v21, v22, v23, v24, v25, v32, v27, v33])
 ) (
 pureM (.ex 0 [v21, v22, v23, v24, v25, v26])
 )
 ) [v1, v2, v10, v11, v14, v17, v20, (.i .i64 0)])
 (fun vs =>
 failM)
 (fun id vs =>
 cond (Nat.beq id 0) (
 unc vs fun v34 vs =>
 unc vs fun v35 vs =>
 unc vs fun v36 vs =>
 unc vs fun v37 vs =>
 unc vs fun v38 vs =>
 unc vs fun v39 vs =>
 unn vs <|
 optM (faR 2 v38) fun v40 =>
 rdM (ld false 1 v40) fun v41 =>
 optM (lnL v41) fun v42 =>
 lrM (
 loopM N (fun vs =>
 unc vs fun v43 vs =>
 unc vs fun v44 vs =>
 unc vs fun v45 vs =>
 unc vs fun v46 vs =>
 unc vs fun v47 vs =>
 unc vs fun v48 vs =>
 unc vs fun v49 vs =>
 unc vs fun v50 vs =>
 unn vs <|
 optM (binR .lss .o none v50 v49) fun v51 =>
 iteM (some v51) (
 optM (bdR [(0, 1), (1, 1)] [(.i .i64 0), (.i .i64 0)] [(0, (.i .i64 5)), (1, v50)]) fun v52 =>
 alM (bsR 1 2 (zeros [(.i .i64 0), (.i .i64 0)] 2) [(0, v52)]) fun v53 =>
 bindM (apR 247 2 16 (srL 2 v53) v48) fun v54 =>
 optM (binR .add .o none v50 (.i .i64 1)) fun v55 =>
 pureM (.nx [v43, v44, v45, v46, v47, v54, v49, v55])
 ) (
 pureM (.ex 2 [v43, v44, v45, v46, v47, v48])
 )
 ) [v34, v35, v36, v37, v38, v39, v42, (.i .i64 0)])
 (fun vs =>
 failM)
 (fun id vs =>
 cond (Nat.beq id 2) (
 unc vs fun v56 vs =>
 unc vs fun v57 vs =>
 unc vs fun v58 vs =>
 unc vs fun v59 vs =>
 unc vs fun v60 vs =>
 unc vs fun v61 vs =>
 unn vs <|
 optM (lnL v61) fun v62 =>
 lrM (
 loopM N (fun vs =>
 unc vs fun v63 vs =>
 unc vs fun v64 vs =>
 unc vs fun v65 vs =>
 unc vs fun v66 vs =>
 unc vs fun v67 vs =>
 unc vs fun v68 vs =>
 unc vs fun v69 vs =>
 unc vs fun v70 vs =>
 unn vs <|
 optM (binR .lss .o none v70 v69) fun v71 =>
 iteM (some v71) (
 optM (iaL 2 v68 v70) fun v72 =>
 rdM (ld true 2 v72) fun v73 =>
 alM (alR 247 [(.i .i64 0), (.i .i64 0)]) fun v74 =>
 bindM (stR 2 v74 v73) fun v75 =>
 rdM (ld true 2 v74) fun v76 =>
 rdM (lkR (.flat [.i, .i]) (.g [(.i .i64 0), (.i .i64 0), (.i .i64 0), (.i .i64 0), (.i .i64 0), (.i .i64 0), (.s [])]) true v65 v76) fun v77 =>
 optM (exR 0 v77) fun v78 =>
 optM (exR 1 v77) fun v79 =>
 alM (alR 157 [(.i .i64 0), (.i .i64 0), (.i .i64 0), (.i .i64 0), (.i .i64 0), (.i .i64 0), (.s [])]) fun v80 =>
 bindM (stR 7 v80 v78) fun v81 =>
 optM (unV .not v79) fun v82 =>
 iteM (some v82) (
 optM (bdR [(0, 1), (1, 1), (2, 1), (3, 1), (4, 1)] [(.i .i64 0), .ns, .ns, (.i .i64 0), (.i .i64 0)] []) fun v83 =>
 bindM (stR 5 v64 v83) fun v84 =>
 pureM (.rt [v64, (.i .i64 9)])
 ) (
 rdM (ld true 5 v67) fun v85 =>
 rdM (ld true 7 v80) fun v86 =>
 bindM (F_book_Book_Note N Φ [v85, v86]) fun v87 =>
 bindM (stR 5 v67 v87) fun v88 =>
 optM (binR .add .o none v70 (.i .i64 1)) fun v89 =>
 pureM (.nx [v63, v64, v65, v66, v67, v68, v69, v89])
 )
 ) (
 pureM (.ex 4 [v63, v64, v65, v66, v67])
 )
 ) [v56, v57, v58, v59, v60, v61, v62, (.i .i64 0)])
 (fun vs =>
 failM)
 (fun id vs =>
 cond (Nat.beq id 4) (
 unc vs fun v90 vs =>
 unc vs fun v91 vs =>
 unc vs fun v92 vs =>
 unc vs fun v93 vs =>
 unc vs fun v94 vs =>
 unn vs <|
 optM (faR 0 v94) fun v95 =>
 bindM (stR 1 v95 v93) fun v96 =>
 rdM (ld true 5 v94) fun v97 =>
 rdM (ld true 5 v90) fun v98 =>
 bindM (F_book_Book_can N Φ [v97, v98]) fun v99 =>
 optM (unV .not v99) fun v100 =>
 bindM (gdM (boolV (some v100)) false (pM (some v92))) fun v101 =>
 bindM (gdM (boolV (some v100)) false (pM (bdR [(0, 1), (1, 1)] [(.i .i64 0), (.i .i64 0)] [(0, (.i .i64 6))]))) fun v102 =>
 bindM (gdM (boolV (some v100)) false (rM (lkR (.flat [.i, .i]) (.g [(.i .i64 0), (.i .i64 0), (.i .i64 0), (.i .i64 0), (.i .i64 0), (.i .i64 0), (.s [])]) false v101 v102))) fun v103 =>
 bindM (gdM (boolV (some v100)) false (pM (fdR false 1 2 v103))) fun v104 =>
 bindM (gdM (boolV (some v100)) false (pM (binR .eql .o none v104 (.i .i64 65535)))) fun v105 =>
 bindM (gdM (boolV (some v100)) false (pM (some v105))) fun v106 =>
 bindM (gdM (boolV (some v106)) true (pM (faR 4 v94))) fun v107 =>
 bindM (gdM (boolV (some v106)) true (rM (ld false 1 v107))) fun v108 =>
 bindM (gdM (boolV (some v106)) true (pM (binR .neq .o none v108 (.i .i64 0)))) fun v109 =>
 bindM (gdM (boolV (some v100)) false (pM (pickR v106 v109 (.b false)))) fun v110 =>
 optM (pickR v100 (.b true) v110) fun v111 =>
 iteM (some v111) (
 optM (bdR [(0, 1), (1, 1), (2, 1), (3, 1), (4, 1)] [(.i .i64 0), .ns, .ns, (.i .i64 0), (.i .i64 0)] []) fun v112 =>
 bindM (stR 5 v91 v112) fun v113 =>
 rdM (ld true 5 v91) fun v114 =>
 pureM (.t [v114, (.i .i64 9)])
 ) (
 rdM (ld true 5 v94) fun v115 =>
 bindM (stR 5 v91 v115) fun v116 =>
 rdM (ld true 5 v91) fun v117 =>
 pureM (.t [v117, (.i .i64 0)])
 )
 ) <|
 failM)
 (fun vs =>
 unc vs fun v118 vs =>
 unc vs fun v119 vs =>
 unn vs <|
 rdM (ld true 5 v118) fun v120 =>
 pureM (.t [v120, v119])
 )
 ) <|
 failM)
 (fun vs =>
 unc vs fun v121 vs =>
 unc vs fun v122 vs =>
 unn vs <|
 rdM (ld true 5 v121) fun v123 =>
 pureM (.t [v123, v122])
 )
 ) <|
 failM)
 (fun vs =>
 unc vs fun v124 vs =>
 unc vs fun v125 vs =>
 unn vs <|
 rdM (ld true 5 v124) fun v126 =>
 pureM (.t [v126, v125])
 )
 )
def an_book_Read : An := (.two .n (.two (.two .n (.two (.two .n .n) .n)) (.two .n (.two .n (.two .n (.two (.two .n (.one (.loop [2, 4, 6, 7, 8, 9, 31, 32] [(0, [2, 4, 6, 7, 8, 9])] [4, 5] (.two .n (.two (.two .n .n) (.two (.one (.two .n .n)) .n)))))) (.two (.two .n (.one (.loop [2, 4, 6, 7, 8, 9, 43, 44] [(2, [2, 4, 6, 7, 8, 9])] [4, 5] (.two .n (.two (.two .n .n) (.two (.one (.two .n .n)) .n)))))) (.two (.two .n (.one (.loop [2, 4, 6, 7, 8, 53, 54, 55] [(4, [2, 4, 6, 7, 8])] [4, 5] (.two .n (.two (.two .n .n) (.two (.one (.two .n (.two .n (.two (.two .n (.two (.two .n .n) .n)) .n)))) .n)))))) (.two .n (.two (.two .n (.two (.two .n .n) .n)) (.two .n .n)))))))))))

/-- (*corbel/array.Array).learn -/
def tab_array_Array_learn (N : Nat) (Φ : Calls') : Calls' := fun f => cond (Nat.beq f id_rig_Rig_Dead) (some (F_rig_Rig_Dead N Φ)) (cond (Nat.beq f id_rig_Rig_Drives) (some (F_rig_Rig_Drives N Φ)) (cond (Nat.beq f id_mlog_Open) (some (F_mlog_Open N Φ)) (cond (Nat.beq f id_book_Read) (some (F_book_Read N Φ)) (Φ f))))
def F_array_Array_learn (N : Nat) (Φ : Calls') : List V → M V := fun args =>
 unc args fun a0 args =>
 unc args fun a1 args =>
 unn args <|
 optM (nilR a0) fun v1 =>
 optM (faR 0 v1) fun v2 =>
 rdM (ld false 1 v2) fun v3 =>
 bindM (F_rig_Rig_Drives N Φ [v3]) fun v4 =>
 lrM (
 loopM N (fun vs =>
 unc vs fun v5 vs =>
 unc vs fun v6 vs =>
 unc vs fun v7 vs =>
 unc vs fun v8 vs =>
 unc vs fun v9 vs =>
 unn vs <|
 optM (binR .lss .o none v9 v8) fun v10 =>
 iteM (some v10) (
 lrM (
 optM (nilR v5) fun v11 =>
 optM (faR 0 v11) fun v12 =>
 rdM (ld false 1 v12) fun v13 =>
 bindM (F_rig_Rig_Dead N Φ [v13, v9]) fun v14 =>
 iteM (some v14) (
 pureM (.nx [v5, v6, v7, v8, v9])
 ) (
 optM (nilR v5) fun v15 =>
 optM (faR 0 v15) fun v16 =>
 rdM (ld false 1 v16) fun v17 =>
 bindM (F_mlog_Open N Φ [v17, v9]) fun v18 =>
 optM (exR 0 v18) fun v19 =>
 optM (exR 1 v18) fun v20 =>
 optM (exR 2 v18) fun v21 =>
 optM (binR .eql .o none v21 (.i .i64 13)) fun v22 =>
 iteM (some v22) (
 pureM (.nx [v5, v6, v7, v8, v9])
 ) (
 optM (binR .neq .o none v21 (.i .i64 0)) fun v23 =>
 iteM (some v23) (
 pureM (.rt [v21])
 ) (
 optM (nilR v5) fun v24 =>
 optM (faR 11 v24) fun v25 =>
 rdM (ld false 1 v25) fun v26 =>
 bindM (meR (.one .i) .pn v26 v9) fun v27 =>
 optM (exR 1 v27) fun v28 =>
 bindM (esR v26 v28 v19) fun v29 =>
 bindM (muR (.one .i) v6 v9 v20) fun v30 =>
 alM (bsR 1 1 (zeros [.ns] 1) [(0, v20)]) fun v31 =>
 bindM (apR 147 1 24 (srL 1 v31) v7) fun v32 =>
 pureM (.nx [v5, v6, v32, v8, v9])
 )
 )
 )
 )
 (fun vs =>
 unc vs fun v33 vs =>
 unc vs fun v34 vs =>
 unc vs fun v35 vs =>
 unc vs fun v36 vs =>
 unc vs fun v37 vs =>
 unn vs <|
 optM (binR .add .o none v37 (.i .i64 1)) fun v38 =>
 pureM (.nx [v33, v34, v35, v36, v38])
 )
 (fun id vs =>
 failM)
 (fun vs =>
 unc vs fun v39 vs =>
 unn vs <|
 pureM (.rt [v39])
 )
 ) (
 pureM (.ex 0 [v5, v7])
 )
 ) [a0, a1, .ns, v4, (.i .i64 0)])
 (fun vs =>
 failM)
 (fun id vs =>
 cond (Nat.beq id 0) (
 unc vs fun v40 vs =>
 unc vs fun v41 vs =>
 unn vs <|
 optM (lnL v41) fun v42 =>
 optM (binR .eql .o none v42 (.i .i64 0)) fun v43 =>
 iteM (some v43) (
 pureM (.i .i64 13)
 ) (
 optM (nilR v40) fun v44 =>
 optM (faR 1 v44) fun v45 =>
 rdM (ld true 5 v45) fun v46 =>
 bindM (F_book_Read N Φ [v46, v41]) fun v47 =>
 optM (exR 0 v47) fun v48 =>
 optM (exR 1 v47) fun v49 =>
 optM (nilR v40) fun v50 =>
 optM (faR 6 v50) fun v51 =>
 bindM (stR 5 v51 v48) fun v52 =>
 pureM v49
 )
 ) <|
 failM)
 (fun vs =>
 unc vs fun v53 vs =>
 unn vs <|
 pureM v53
 )
def an_array_Array_learn : An := (.two .n (.two .n (.two (.two .n (.one (.loop [0, 1, 5, 15, 16] [(0, [0, 5])] [4] (.two .n (.two (.two .n .n) (.two (.cut [0, 1, 5, 15, 16] [] [4] (.one (.two .n (.two (.two .n (.two .n .n)) (.two .n (.two (.two .n (.two .n .n)) (.two (.two .n (.two (.two .n .n) .n)) (.two .n .n)))))))) .n)))))) (.two (.two .n (.two (.two .n .n) .n)) (.two .n (.two .n (.two .n .n)))))))

/-- (*corbel/array.Array).muster -/
def tab_array_Array_muster (N : Nat) (Φ : Calls') : Calls' := fun f => cond (Nat.beq f id_rig_Rig_Dead) (some (F_rig_Rig_Dead N Φ)) (cond (Nat.beq f id_array_Array_met) (some (F_array_Array_met N Φ)) (Φ f))
def F_array_Array_muster (N : Nat) (Φ : Calls') : List V → M V := fun args =>
 unc args fun a0 args =>
 unn args <|
 optM (nilR a0) fun v1 =>
 optM (faR 6 v1) fun v2 =>
 optM (faR 2 v2) fun v3 =>
 rdM (ld false 1 v3) fun v4 =>
 optM (lnL v4) fun v5 =>
 lrM (
 loopM N (fun vs =>
 unc vs fun v6 vs =>
 unc vs fun v7 vs =>
 unc vs fun v8 vs =>
 unc vs fun v9 vs =>
 unn vs <|
 optM (binR .lss .o none v9 v8) fun v10 =>
 iteM (some v10) (
 lrM (
 optM (iaL 1 v7 v9) fun v11 =>
 rdM (ld false 1 v11) fun v12 =>
 optM (nilR v6) fun v13 =>
 optM (faR 0 v13) fun v14 =>
 rdM (ld false 1 v14) fun v15 =>
 bindM (F_rig_Rig_Dead N Φ [v15, v12]) fun v16 =>
 iteM (some v16) (
 bindM (F_array_Array_met N Φ [v6, v9, (.i .i64 7)]) fun v17 =>
 optM (binR .neq .o none v17 (.i .i64 0)) fun v18 =>
 iteM (some v18) (
 pureM (.rt [v17])
 ) (
 pureM (.nx [v6, v7, v8, v9])
 )
 ) (
 pureM (.nx [v6, v7, v8, v9])
 )
 )
 (fun vs =>
 unc vs fun v19 vs =>
 unc vs fun v20 vs =>
 unc vs fun v21 vs =>
 unc vs fun v22 vs =>
 unn vs <|
 optM (binR .add .o none v22 (.i .i64 1)) fun v23 =>
 pureM (.nx [v19, v20, v21, v23])
 )
 (fun id vs =>
 failM)
 (fun vs =>
 unc vs fun v24 vs =>
 unn vs <|
 pureM (.rt [v24])
 )
 ) (
 pureM (.ex 0 [v6])
 )
 ) [a0, v4, v5, (.i .i64 0)])
 (fun vs =>
 failM)
 (fun id vs =>
 cond (Nat.beq id 0) (
 unc vs fun v25 vs =>
 unn vs <|
 optM (nilR v25) fun v26 =>
 optM (faR 6 v26) fun v27 =>
 optM (faR 2 v27) fun v28 =>
 rdM (ld false 1 v28) fun v29 =>
 optM (lnL v29) fun v30 =>
 lrM (
 loopM N (fun vs =>
 unc vs fun v31 vs =>
 unc vs fun v32 vs =>
 unc vs fun v33 vs =>
 unc vs fun v34 vs =>
 unn vs <|
 optM (binR .lss .o none v34 v33) fun v35 =>
 iteM (some v35) (
 optM (iaL 1 v32 v34) fun v36 =>
 rdM (ld false 1 v36) fun v37 =>
 optM (nilR v31) fun v38 =>
 optM (faR 0 v38) fun v39 =>
 rdM (ld false 1 v39) fun v40 =>
 bindM (F_rig_Rig_Dead N Φ [v40, v37]) fun v41 =>
 optM (unV .not v41) fun v42 =>
 bindM (gdM (boolV (some v42)) true (pM (some v31))) fun v43 =>
 bindM (gdM (boolV (some v42)) true (pM (nilR v43))) fun v44 =>
 bindM (gdM (boolV (some v42)) true (pM (faR 11 v44))) fun v45 =>
 bindM (gdM (boolV (some v42)) true (rM (ld false 1 v45))) fun v46 =>
 bindM (gdM (boolV (some v42)) true (pM (some v37))) fun v47 =>
 bindM (gdM (boolV (some v42)) true (rM (lkR (.one .i) .pn false v46 v47))) fun v48 =>
 bindM (gdM (boolV (some v42)) true (pM (binR .eql .p none v48 .pn))) fun v49 =>
 optM (pickR v42 v49 (.b false)) fun v50 =>
 iteM (some v50) (
 pureM (.rt [(.i .i64 9)])
 ) (
 optM (binR .add .o none v34 (.i .i64 1)) fun v51 =>
 pureM (.nx [v31, v32, v33, v51])
 )
 ) (
 pureM (.ex 2 [])
 )
 ) [v25, v29, v30, (.i .i64 0)])
 (fun vs =>
 failM)
 (fun id vs =>
 cond (Nat.beq id 2) (
 unn vs <|
 pureM (.i .i64 0)
 ) <|
 failM)
 (fun vs =>
 unc vs fun v52 vs =>
 unn vs <|
 pureM v52
 )
 ) <|
 failM)
 (fun vs =>
 unc vs fun v53 vs =>
 unn vs <|
 pureM v53
 )
def an_array_Array_muster : An := (.two .n (.two (.two .n (.one (.loop [0, 12, 13, 14] [(0, [0])] [2] (.two .n (.two (.two .n .n) (.two (.cut [0, 12, 13, 14] [] [2] (.one (.two .n (.two .n (.two (.two .n (.two .n (.two (.two .n .n) .n))) .n))))) .n)))))) (.two (.two .n (.one (.loop [0, 36, 37, 38] [(2, [])] [2] (.two .n (.two (.two .n .n) (.two (.one (.two .n (.two .n (.two (.two .n .n) .n)))) .n)))))) (.two .n .n))))

/-- corbel/notes.Of -/
def tab_notes_Of (N : Nat) (Φ : Calls') : Calls' := fun f => Φ f
def F_notes_Of (N : Nat) (Φ : Calls') : List V → M V := fun args =>
 unc args fun a0 args =>
 unc args fun a1 args =>
 unc args fun a2 args =>
 unn args <|
 alM (mmR) fun v1 =>
 optM (lnL a0) fun v2 =>
 lrM (
 loopM N (fun vs =>
 unc vs fun v3 vs =>
 unc vs fun v4 vs =>
 unc vs fun v5 vs =>
 unc vs fun v6 vs =>
 unc vs fun v7 vs =>
 unc vs fun v8 vs =>
 unn vs <|
 optM (binR .lss .o none v8 v7) fun v9 =>
 iteM (some v9) (
 lrM (
 optM (iaL 7 v6 v8) fun v10 =>
 rdM (ld true 7 v10) fun v11 =>
 alM (alR 157 [(.i .i64 0), (.i .i64 0), (.i .i64 0), (.i .i64 0), (.i .i64 0), (.i .i64 0), (.s [])]) fun v12 =>
 bindM (stR 7 v12 v11) fun v13 =>
 optM (faR 0 v12) fun v14 =>
 rdM (ld false 1 v14) fun v15 =>
 optM (binR .eql .o none v15 (.i .i64 4)) fun v16 =>
 iteM (some v16) (
 optM (faR 2 v12) fun v17 =>
 rdM (ld false 1 v17) fun v18 =>
 optM (faR 4 v12) fun v19 =>
 rdM (ld false 1 v19) fun v20 =>
 optM (bdR [(0, 1), (1, 1)] [(.i .i64 0), (.i .i64 0)] [(0, v18), (1, v20)]) fun v21 =>
 alM (alR 252 [(.i .i64 0), (.i .i64 0)]) fun v22 =>
 bindM (stR 2 v22 v21) fun v23 =>
 rdM (ld true 2 v22) fun v24 =>
 optM (faR 3 v12) fun v25 =>
 rdM (ld false 1 v25) fun v26 =>
 optM (faR 5 v12) fun v27 =>
 rdM (ld false 1 v27) fun v28 =>
 optM (faR 6 v12) fun v29 =>
 rdM (ld false 1 v29) fun v30 =>
 optM (bdR [(0, 1), (1, 1), (2, 1)] [(.i .i64 0), (.i .i64 0), (.s [])] [(0, v26), (1, v28), (2, v30)]) fun v31 =>
 alM (bsR 1 3 (zeros [(.i .i64 0), (.i .i64 0), (.s [])] 3) [(0, v31)]) fun v32 =>
 bindM (meR (.flat [.i, .i]) .ns v5 v24) fun v33 =>
 optM (exR 0 v33) fun v34 =>
 bindM (apR 180 3 32 (srL 3 v32) v34) fun v35 =>
 optM (exR 1 v33) fun v36 =>
 bindM (esR v5 v36 v35) fun v37 =>
 pureM (.nx [v3, v4, v5, v6, v7, v8])
 ) (
 pureM (.nx [v3, v4, v5, v6, v7, v8])
 )
 )
 (fun vs =>
 unc vs fun v38 vs =>
 unc vs fun v39 vs =>
 unc vs fun v40 vs =>
 unc vs fun v41 vs =>
 unc vs fun v42 vs =>
 unc vs fun v43 vs =>
 unn vs <|
 optM (binR .add .o none v43 (.i .i64 1)) fun v44 =>
 pureM (.nx [v38, v39, v40, v41, v42, v44])
 )
 (fun id vs =>
 failM)
 (fun vs =>
 unc vs fun v45 vs =>
 unn vs <|
 pureM (.rt [v45])
 )
 ) (
 pureM (.ex 0 [v3, v4, v5])
 )
 ) [a1, a2, v1, a0, v2, (.i .i64 0)])
 (fun vs =>
 failM)
 (fun id vs =>
 cond (Nat.beq id 0) (
 unc vs fun v46 vs =>
 unc vs fun v47 vs =>
 unc vs fun v48 vs =>
 unn vs <|
 optM (bdR [(0, 1), (1, 1)] [(.i .i64 0), (.i .i64 0)] [(0, v46), (1, v47)]) fun v49 =>
 rdM (lkR (.flat [.i, .i]) .ns false v48 v49) fun v50 =>
 pureM v50
 ) <|
 failM)
 (fun vs =>
 unc vs fun v51 vs =>
 unn vs <|
 pureM v51
 )
def an_notes_Of : An := (.two .n (.two .n (.two (.two .n (.one (.loop [1, 2, 7, 12, 13, 14] [(0, [1, 2, 7])] [6] (.two .n (.two (.two .n .n) (.two (.cut [1, 2, 7, 12, 13, 14] [] [6] (.one (.two .n (.two .n (.two (.two .n .n) .n))))) .n)))))) (.two .n .n))))

/-- slices.IndexFunc[[]int,int] -/
def tab_slices_IndexFunc_int_int (N : Nat) (Φ : Calls') : Calls' := fun f => Φ f
def F_slices_IndexFunc_int_int (N : Nat) (Φ : Calls') : List V → M V := fun args =>
 unc args fun a0 args =>
 unc args fun a1 args =>
 unn args <|
 optM (lnL a0) fun v1 =>
 lrM (
 loopM N (fun vs =>
 unc vs fun v2 vs =>
 unc vs fun v3 vs =>
 unc vs fun v4 vs =>
 unc vs fun v5 vs =>
 unn vs <|
 optM (binR .lss .o none v5 v4) fun v6 =>
 iteM (some v6) (
 optM (iaL 1 v2 v5) fun v7 =>
 rdM (ld false 1 v7) fun v8 =>
 bindM (callF (tab_slices_IndexFunc_int_int N Φ) v3 [v8]) fun v9 =>
 iteM (some v9) (
 pureM (.rt [v5])
 ) (
 optM (binR .add .o none v5 (.i .i64 1)) fun v10 =>
 pureM (.nx [v2, v3, v4, v10])
 )
 ) (
 pureM (.ex 0 [])
 )
 ) [a0, a1, v1, (.i .i64 0)])
 (fun vs =>
 failM)
 (fun id vs =>
 cond (Nat.beq id 0) (
 unn vs <|
 pureM (.i .i64 (-1))
 ) <|
 failM)
 (fun vs =>
 unc vs fun v11 vs =>
 unn vs <|
 pureM v11
 )
def an_slices_IndexFunc_int_int : An := (.two .n (.two (.two .n (.one (.loop [0, 1, 7, 8] [(0, [])] [4] (.two .n (.two (.two .n .n) (.two (.one (.two .n (.two .n (.two (.two .n .n) .n)))) .n)))))) (.two .n .n)))

/-- slices.ContainsFunc[[]int,int] -/
def tab_slices_ContainsFunc_int_int (N : Nat) (Φ : Calls') : Calls' := fun f => cond (Nat.beq f id_slices_IndexFunc_int_int) (some (F_slices_IndexFunc_int_int N Φ)) (Φ f)
def F_slices_ContainsFunc_int_int (N : Nat) (Φ : Calls') : List V → M V := fun args =>
 unc args fun a0 args =>
 unc args fun a1 args =>
 unn args <|
 bindM (F_slices_IndexFunc_int_int N Φ [a0, a1]) fun v1 =>
 optM (binR .geq .o none v1 (.i .i64 0)) fun v2 =>
 pureM v2
def an_slices_ContainsFunc_int_int : An := (.two .n (.two .n .n))

/-- (corbel/tail.View).can$1 -/
def tab_tail_View_can_1 (N : Nat) (Φ : Calls') : Calls' := fun f => Φ f
def F_tail_View_can_1 (N : Nat) (Φ : Calls') : List V → M V := fun args =>
 unc args fun a0 args =>
 unc args fun a1 args =>
 unn args <|
 optM (binR .lss .o none a0 (.i .i64 0)) fun v1 =>
 bindM (gdM (boolV (some v1)) false (pM (some a0))) fun v2 =>
 bindM (gdM (boolV (some v1)) false (pM (faR 2 a1))) fun v3 =>
 bindM (gdM (boolV (some v1)) false (rM (ld false 1 v3))) fun v4 =>
 bindM (gdM (boolV (some v1)) false (pM (binR .gtr .o none v2 v4))) fun v5 =>
 optM (pickR v1 (.b true) v5) fun v6 =>
 pureM v6
def an_tail_View_can_1 : An := (.two .n (.two .n .n))

/-- (corbel/tail.View).can -/
def tab_tail_View_can (N : Nat) (Φ : Calls') : Calls' := fun f => cond (Nat.beq f id_geom_Good) (some (F_geom_Good N Φ)) (cond (Nat.beq f id_slices_ContainsFunc_int_int) (some (F_slices_ContainsFunc_int_int N Φ)) (Φ f))
def F_tail_View_can (N : Nat) (Φ : Calls') : List V → M V := fun args =>
 unc args fun a0 args =>
 unc args fun a1 args =>
 unn args <|
 alM (boxR a0) fun v1 =>
 alM (boxR a1) fun v2 =>
 rdM (ld true 5 v2) fun v3 =>
 bindM (F_geom_Good N Φ [v3]) fun v4 =>
 bindM (gdM (boolV (some v4)) true (pM (faR 0 v1))) fun v5 =>
 bindM (gdM (boolV (some v4)) true (rM (ld false 1 v5))) fun v6 =>
 bindM (gdM (boolV (some v4)) true (pM (lnL v6))) fun v7 =>
 bindM (gdM (boolV (some v4)) true (pM (faR 0 v2))) fun v8 =>
 bindM (gdM (boolV (some v4)) true (rM (ld false 1 v8))) fun v9 =>
 bindM (gdM (boolV (some v4)) true (pM (binR .eql .o none v7 v9))) fun v10 =>
 optM (pickR v4 v10 (.b false)) fun v11 =>
 bindM (gdM (boolV (some v11)) true (pM (faR 1 v1))) fun v12 =>
 bindM (gdM (boolV (some v11)) true (rM (ld false 1 v12))) fun v13 =>
 bindM (gdM (boolV (some v11)) true (pM (binR .geq .o none v13 (.i .i64 (-1))))) fun v14 =>
 optM (pickR v11 v14 (.b false)) fun v15 =>
 bindM (gdM (boolV (some v15)) true (pM (faR 1 v1))) fun v16 =>
 bindM (gdM (boolV (some v15)) true (rM (ld false 1 v16))) fun v17 =>
 bindM (gdM (boolV (some v15)) true (pM (faR 0 v2))) fun v18 =>
 bindM (gdM (boolV (some v15)) true (rM (ld false 1 v18))) fun v19 =>
 bindM (gdM (boolV (some v15)) true (pM (binR .lss .o none v17 v19))) fun v20 =>
 optM (pickR v15 v20 (.b false)) fun v21 =>
 bindM (gdM (boolV (some v21)) true (pM (faR 0 v1))) fun v22 =>
 bindM (gdM (boolV (some v21)) true (rM (ld false 1 v22))) fun v23 =>
 bindM (gdM (boolV (some v21)) true (pM (some (.f id_tail_View_can_1 [] [v2])))) fun v24 =>
 bindM (gdM (boolV (some v21)) true (F_slices_ContainsFunc_int_int N Φ [v23, v24])) fun v25 =>
 bindM (gdM (boolV (some v21)) true (pM (unV .not v25))) fun v26 =>
 optM (pickR v21 v26 (.b false)) fun v27 =>
 pureM v27
def an_tail_View_can : An := (.two .n (.two .n .n))

/-- (corbel/tail.spot).slot -/
def tab_tail_spot_slot (N : Nat) (Φ : Calls') : Calls' := fun f => cond (Nat.beq f id_geom_Parity) (some (F_geom_Parity N Φ)) (Φ f)
def F_tail_spot_slot (N : Nat) (Φ : Calls') : List V → M V := fun args =>
 unc args fun a0 args =>
 unc args fun a1 args =>
 unn args <|
 alM (boxR a0) fun v1 =>
 optM (faR 3 v1) fun v2 =>
 rdM (ld true 5 v2) fun v3 =>
 optM (faR 8 v1) fun v4 =>
 rdM (ld false 1 v4) fun v5 =>
 optM (faR 9 v1) fun v6 =>
 rdM (ld false 1 v6) fun v7 =>
 optM (faR 3 v1) fun v8 =>
 optM (faR 0 v8) fun v9 =>
 rdM (ld false 1 v9) fun v10 =>
 bindM (F_geom_Parity N Φ [v3, v5, v7]) fun v11 =>
 chkM (ckR (ld false 1 v9) v10) <|
 optM (binR .add .o none v11 (.i .i64 1)) fun v12 =>
 optM (binR .add .o none v12 a1) fun v13 =>
 optM (binR .rem .o none v13 v10) fun v14 =>
 pureM v14
def an_tail_spot_slot : An := (.two .n (.two .n .n))

/-- (corbel/tail.View).has -/
def tab_tail_View_has (N : Nat) (Φ : Calls') : Calls' := fun f => Φ f
def F_tail_View_has (N : Nat) (Φ : Calls') : List V → M V := fun args =>
 unc args fun a0 args =>
 unc args fun a1 args =>
 unc args fun a2 args =>
 unn args <|
 alM (boxR a0) fun v1 =>
 optM (faR 1 v1) fun v2 =>
 rdM (ld false 1 v2) fun v3 =>
 optM (binR .neq .o none a1 v3) fun v4 =>
 bindM (gdM (boolV (some v4)) true (pM (faR 0 v1))) fun v5 =>
 bindM (gdM (boolV (some v4)) true (rM (ld false 1 v5))) fun v6 =>
 bindM (gdM (boolV (some v4)) true (pM (some a1))) fun v7 =>
 bindM (gdM (boolV (some v4)) true (pM (iaL 1 v6 v7))) fun v8 =>
 bindM (gdM (boolV (some v4)) true (rM (ld false 1 v8))) fun v9 =>
 bindM (gdM (boolV (some v4)) true (pM (some a2))) fun v10 =>
 bindM (gdM (boolV (some v4)) true (pM (binR .gtr .o none v9 v10))) fun v11 =>
 optM (pickR v4 v11 (.b false)) fun v12 =>
 pureM v12
def an_tail_View_has : An := (.two .n (.two .n .n))

/-- (corbel/tail.spot).others -/
def tab_tail_spot_others (N : Nat) (Φ : Calls') : Calls' := fun f => cond (Nat.beq f id_tail_spot_slot) (some (F_tail_spot_slot N Φ)) (cond (Nat.beq f id_tail_View_has) (some (F_tail_View_has N Φ)) (Φ f))
def F_tail_spot_others (N : Nat) (Φ : Calls') : List V → M V := fun args =>
 unc args fun a0 args =>
 unc args fun a1 args =>
 unc args fun a2 args =>
 unn args <|
 alM (boxR a0) fun v1 =>
 lrM (
 loopM N (fun vs =>
 unc vs fun v2 vs =>
 unc vs fun v3 vs =>
 unc vs fun v4 vs =>
 unn vs <|
 optM (binR .lss .o none v4 v2) fun v5 =>
 iteM (some v5) (
 optM (faR 10 v3) fun v6 =>
 rdM (ld false 1 v6) fun v7 =>
 optM (binR .neq .o none v4 v7) fun v8 =>
 bindM (gdM (boolV (some v8)) true (pM (faR 0 v3))) fun v9 =>
 bindM (gdM (boolV (some v8)) true (rM (ld true 3 v9))) fun v10 =>
 bindM (gdM (boolV (some v8)) true (rM (ld true 11 v3))) fun v11 =>
 bindM (gdM (boolV (some v8)) true (pM (some v4))) fun v12 =>
 bindM (gdM (boolV (some v8)) true (pM (faR 9 v3))) fun v13 =>
 bindM (gdM (boolV (some v8)) true (rM (ld false 1 v13))) fun v14 =>
 bindM (gdM (boolV (some v8)) true (F_tail_spot_slot N Φ [v11, v12])) fun v15 =>
 chkM (match boolV (some v8) with | some x => cond (okB x true) (ckR (ld false 1 v13) v14) (fun _ => true) | none => fun _ => false) <|
 chkM (match boolV (some v8) with | some x => cond (okB x true) (ckR (ld true 3 v9) v10) (fun _ => true) | none => fun _ => false) <|
 bindM (gdM (boolV (some v8)) true (F_tail_View_has N Φ [v10, v15, v14])) fun v16 =>
 bindM (gdM (boolV (some v8)) true (pM (unV .not v16))) fun v17 =>
 optM (pickR v8 v17 (.b false)) fun v18 =>
 iteM (some v18) (
 pureM (.rt [(.b false)])
 ) (
 optM (binR .add .o none v4 (.i .i64 1)) fun v19 =>
 pureM (.nx [v2, v3, v19])
 )
 ) (
 pureM (.ex 0 [])
 )
 ) [a2, v1, a1])
 (fun vs =>
 failM)
 (fun id vs =>
 cond (Nat.beq id 0) (
 unn vs <|
 pureM (.b true)
 ) <|
 failM)
 (fun vs =>
 unc vs fun v20 vs =>
 unn vs <|
 pureM v20
 )
def an_tail_spot_others : An := (.two .n (.two (.two .n (.one (.loop [2, 3, 7] [(0, [])] [6] (.two (.two .n (.two .n .n)) (.two (.one (.two .n (.two (.two .n .n) .n))) .n))))) (.two .n .n)))

/-- (corbel/tail.spot).source -/
def tab_tail_spot_source (N : Nat) (Φ : Calls') : Calls' := fun f => cond (Nat.beq f id_tail_spot_slot) (some (F_tail_spot_slot N Φ)) (cond (Nat.beq f id_tail_View_has) (some (F_tail_View_has N Φ)) (cond (Nat.beq f id_tail_spot_others) (some (F_tail_spot_others N Φ)) (Φ f)))
def F_tail_spot_source (N : Nat) (Φ : Calls') : List V → M V := fun args =>
 unc args fun a0 args =>
 unn args <|
 alM (boxR a0) fun v1 =>
 optM (faR 3 v1) fun v2 =>
 optM (faR 0 v2) fun v3 =>
 rdM (ld false 1 v3) fun v4 =>
 optM (binR .sub .o none v4 (.i .i64 1)) fun v5 =>
 rdM (ld true 11 v1) fun v6 =>
 optM (faR 10 v1) fun v7 =>
 rdM (ld false 1 v7) fun v8 =>
 bindM (F_tail_spot_slot N Φ [v6, v8]) fun v9 =>
 optM (faR 0 v1) fun v10 =>
 rdM (ld true 3 v10) fun v11 =>
 optM (faR 9 v1) fun v12 =>
 rdM (ld false 1 v12) fun v13 =>
 bindM (F_tail_View_has N Φ [v11, v9, v13]) fun v14 =>
 iteM (some v14) (
 pureM (.t [(.i .i64 1), (.i .i64 0)])
 ) (
 optM (faR 0 v1) fun v15 =>
 optM (faR 1 v15) fun v16 =>
 rdM (ld false 1 v16) fun v17 =>
 optM (binR .neq .o none v9 v17) fun v18 =>
 iteM (some v18) (
 pureM (.t [(.i .i64 0), (.i .i64 0)])
 ) (
 rdM (ld true 11 v1) fun v19 =>
 bindM (F_tail_spot_others N Φ [v19, (.i .i64 (-1)), v5]) fun v20 =>
 iteM (some v20) (
 pureM (.t [(.i .i64 2), (.i .i64 0)])
 ) (
 optM (faR 0 v1) fun v21 =>
 optM (faR 2 v21) fun v22 =>
 rdM (ld false 1 v22) fun v23 =>
 optM (lnL v23) fun v24 =>
 optM (binR .sub .o none v24 (.i .i64 1)) fun v25 =>
 lrM (
 loopM N (fun vs =>
 unc vs fun v26 vs =>
 unc vs fun v27 vs =>
 unc vs fun v28 vs =>
 unn vs <|
 optM (binR .geq .o none v28 (.i .i64 0)) fun v29 =>
 iteM (some v29) (
 optM (faR 0 v26) fun v30 =>
 optM (faR 2 v30) fun v31 =>
 rdM (ld false 1 v31) fun v32 =>
 optM (iaL 2 v32 v28) fun v33 =>
 rdM (ld true 2 v33) fun v34 =>
 alM (alR 182 [(.i .i64 0), (.i .i64 0)]) fun v35 =>
 bindM (stR 2 v35 v34) fun v36 =>
 optM (faR 0 v35) fun v37 =>
 rdM (ld false 1 v37) fun v38 =>
 optM (faR 9 v26) fun v39 =>
 rdM (ld false 1 v39) fun v40 =>
 optM (binR .eql .o none v38 v40) fun v41 =>
 bindM (gdM (boolV (some v41)) true (pM (faR 1 v35))) fun v42 =>
 bindM (gdM (boolV (some v41)) true (rM (ld false 1 v42))) fun v43 =>
 bindM (gdM (boolV (some v41)) true (pM (faR 10 v26))) fun v44 =>
 bindM (gdM (boolV (some v41)) true (rM (ld false 1 v44))) fun v45 =>
 bindM (gdM (boolV (some v41)) true (pM (binR .gtr .o none v43 v45))) fun v46 =>
 optM (pickR v41 v46 (.b false)) fun v47 =>
 bindM (gdM (boolV (some v47)) true (pM (faR 1 v35))) fun v48 =>
 bindM (gdM (boolV (some v47)) true (rM (ld false 1 v48))) fun v49 =>
 bindM (gdM (boolV (some v47)) true (pM (some v27))) fun v50 =>
 bindM (gdM (boolV (some v47)) true (pM (binR .leq .o none v49 v50))) fun v51 =>
 optM (pickR v47 v51 (.b false)) fun v52 =>
 bindM (gdM (boolV (some v52)) true (rM (ld true 11 v26))) fun v53 =>
 bindM (gdM (boolV (some v52)) true (pM (faR 1 v35))) fun v54 =>
 bindM (gdM (boolV (some v52)) true (rM (ld false 1 v54))) fun v55 =>
 bindM (gdM (boolV (some v52)) true (F_tail_spot_others N Φ [v53, (.i .i64 0), v55])) fun v56 =>
 optM (pickR v52 v56 (.b false)) fun v57 =>
 iteM (some v57) (
 pureM (.rt [(.i .i64 3), v28])
 ) (
 optM (binR .sub .o none v28 (.i .i64 1)) fun v58 =>
 pureM (.nx [v26, v27, v58])
 )
 ) (
 pureM (.ex 1 [])
 )
 ) [v1, v5, v25])
 (fun vs =>
 failM)
 (fun id vs =>
 cond (Nat.beq id 1) (
 unn vs <|
 pureM (.t [(.i .i64 0), (.i .i64 0)])
 ) <|
 failM)
 (fun vs =>
 unc vs fun v59 vs =>
 unc vs fun v60 vs =>
 unn vs <|
 pureM (.t [v59, v60])
 )
 )
 )
 )
def an_tail_spot_source : An := (.two .n (.two .n (.two (.two .n (.one (.two .n (.two (.two .n .n) (.two .n (.two (.two .n .n) (.two .n (.two (.two .n .n) .n)))))))) (.two (.two .n (.one (.loop [1, 4, 6] [(1, [])] [2, 3] (.two (.two .n (.two .n .n)) (.two (.one (.two .n (.two .n (.two (.two .n .n) .n)))) .n))))) (.two .n .n)))))

/-- corbel/tail.Source -/
def tab_tail_Source (N : Nat) (Φ : Calls') : Calls' := fun f => cond (Nat.beq f id_geom_Place) (some (F_geom_Place N Φ)) (cond (Nat.beq f id_tail_View_can) (some (F_tail_View_can N Φ)) (cond (Nat.beq f id_tail_spot_source) (some (F_tail_spot_source N Φ)) (Φ f)))
def F_tail_Source (N : Nat) (Φ : Calls') : List V → M V := fun args =>
 unc args fun a0 args =>
 unc args fun a1 args =>
 unc args fun a2 args =>
 unc args fun a3 args =>
 unn args <|
 alM (boxR a0) fun v1 =>
 alM (boxR a2) fun v2 =>
 rdM (ld true 3 v2) fun v3 =>
 rdM (ld true 5 v1) fun v4 =>
 bindM (F_tail_View_can N Φ [v3, v4]) fun v5 =>
 optM (unV .not v5) fun v6 =>
 iteM (some v6) (
 pureM (.t [(.i .i64 0), (.i .i64 0)])
 ) (
 rdM (ld true 5 v1) fun v7 =>
 bindM (F_geom_Place N Φ [v7, a1, a3]) fun v8 =>
 optM (exR 0 v8) fun v9 =>
 optM (exR 1 v8) fun v10 =>
 optM (exR 2 v8) fun v11 =>
 optM (unV .not v11) fun v12 =>
 iteM (some v12) (
 pureM (.t [(.i .i64 0), (.i .i64 0)])
 ) (
 rdM (ld true 3 v2) fun v13 =>
 rdM (ld true 5 v1) fun v14 =>
 optM (faR 0 v1) fun v15 =>
 rdM (ld false 1 v15) fun v16 =>
 optM (binR .sub .o none v16 (.i .i64 1)) fun v17 =>
 optM (binR .rem .o none a3 v17) fun v18 =>
 optM (bdR [(0, 3), (3, 5), (8, 1), (9, 1), (10, 1)] [.ns, (.i .i64 0), .ns, (.i .i64 0), (.i .i64 0), (.i .i64 0), (.i .i64 0), (.i .i64 0), (.i .i64 0), (.i .i64 0), (.i .i64 0)] [(0, v13), (1, v14), (2, a1), (3, v9), (4, v18)]) fun v19 =>
 bindM (F_tail_spot_source N Φ [v19]) fun v20 =>
 optM (exR 0 v20) fun v21 =>
 optM (exR 1 v20) fun v22 =>
 pureM (.t [v21, v22])
 )
 )
def an_tail_Source : An := (.two .n (.two (.two .n (.two (.two .n .n) .n)) (.two .n (.two (.two .n (.two (.two .n .n) .n)) (.two .n .n)))))

/-- corbel/tail.Length -/
def tab_tail_Length (N : Nat) (Φ : Calls') : Calls' := fun f => cond (Nat.beq f id_geom_Capacity) (some (F_geom_Capacity N Φ)) (cond (Nat.beq f id_tail_Source) (some (F_tail_Source N Φ)) (Φ f))
def F_tail_Length (N : Nat) (Φ : Calls') : List V → M V := fun args =>
 unc args fun a0 args =>
 unc args fun a1 args =>
 unc args fun a2 args =>
 unn args <|
 alM (boxR a0) fun v1 =>
 alM (boxR a2) fun v2 =>
 lrM (
 loopM N (fun vs =>
 unc vs fun v3 vs =>
 unc vs fun v4 vs =>
 unc vs fun v5 vs =>
 unc vs fun v6 vs =>
 unn vs <|
 rdM (ld true 5 v4) fun v7 =>
 bindM (F_geom_Capacity N Φ [v7]) fun v8 =>
 optM (binR .lss .o none v6 v8) fun v9 =>
 iteM (some v9) (
 rdM (ld true 5 v4) fun v10 =>
 rdM (ld true 3 v5) fun v11 =>
 bindM (F_tail_Source N Φ [v10, v3, v11, v6]) fun v12 =>
 optM (exR 0 v12) fun v13 =>
 optM (exR 1 v12) fun v14 =>
 optM (binR .eql .o none v13 (.i .i64 0)) fun v15 =>
 iteM (some v15) (
 pureM (.ex 0 [v6])
 ) (
 optM (binR .add .o none v6 (.i .i64 1)) fun v16 =>
 pureM (.nx [v3, v4, v5, v16])
 )
 ) (
 pureM (.ex 0 [v6])
 )
 ) [a1, v1, v2, (.i .i64 0)])
 (fun vs =>
 failM)
 (fun id vs =>
 cond (Nat.beq id 0) (
 unc vs fun v17 vs =>
 unn vs <|
 pureM v17
 ) <|
 failM)
 (fun vs =>
 unc vs fun v18 vs =>
 unn vs <|
 pureM v18
 )
def an_tail_Length : An := (.two .n (.two .n (.two (.one (.loop [1, 3, 5, 7] [(0, [7])] [6] (.two (.two .n (.two .n .n)) (.one (.two (.two .n (.two .n (.two .n .n))) .n))))) (.two .n .n))))

/-- (*corbel/array.Array).tell -/
def tab_array_Array_tell (N : Nat) (Φ : Calls') : Calls' := fun f => cond (Nat.beq f id_array_Array_wide) (some (F_array_Array_wide N Φ)) (cond (Nat.beq f id_geom_Place) (some (F_geom_Place N Φ)) (cond (Nat.beq f id_array_Array_get) (some (F_array_Array_get N Φ)) (cond (Nat.beq f id_array_Array_restore) (some (F_array_Array_restore N Φ)) (cond (Nat.beq f id_tail_Source) (some (F_tail_Source N Φ)) (cond (Nat.beq f id_stripe_Restore) (some (F_stripe_Restore N Φ)) (Φ f))))))
def F_array_Array_tell (N : Nat) (Φ : Calls') : List V → M V := fun args =>
 unc args fun a0 args =>
 unc args fun a1 args =>
 unc args fun a2 args =>
 unc args fun a3 args =>
 unn args <|
 alM (boxR a3) fun v1 =>
 optM (nilR a0) fun v2 =>
 optM (faR 6 v2) fun v3 =>
 optM (faR 1 v3) fun v4 =>
 rdM (ld false 1 v4) fun v5 =>
 optM (iaL 3 v5 a1) fun v6 =>
 optM (faR 0 v6) fun v7 =>
 rdM (ld false 1 v7) fun v8 =>
 optM (nilR a0) fun v9 =>
 optM (faR 1 v9) fun v10 =>
 rdM (ld true 5 v10) fun v11 =>
 bindM (F_geom_Place N Φ [v11, a1, a2]) fun v12 =>
 optM (exR 0 v12) fun v13 =>
 optM (exR 1 v12) fun v14 =>
 optM (exR 2 v12) fun v15 =>
 optM (nilR a0) fun v16 =>
 optM (faR 1 v16) fun v17 =>
 rdM (ld true 5 v17) fun v18 =>
 optM (faR 0 v1) fun v19 =>
 rdM (ld true 3 v19) fun v20 =>
 bindM (F_tail_Source N Φ [v18, a1, v20, a2]) fun v21 =>
 optM (exR 0 v21) fun v22 =>
 optM (exR 1 v21) fun v23 =>
 optM (binR .eql .o none v22 (.i .i64 1)) fun v24 =>
 iteM (some v24) (
 bindM (F_array_Array_get N Φ [a0, v14, v8, v13]) fun v25 =>
 optM (exR 0 v25) fun v26 =>
 optM (exR 1 v25) fun v27 =>
 optM (exR 2 v25) fun v28 =>
 pureM (.t [v26, v28])
 ) (
 optM (binR .eql .o none v22 (.i .i64 2)) fun v29 =>
 iteM (some v29) (
 bindM (F_array_Array_restore N Φ [a0, v8, v13, v14]) fun v30 =>
 optM (exR 0 v30) fun v31 =>
 optM (exR 1 v30) fun v32 =>
 pureM (.t [v31, v32])
 ) (
 bindM (F_array_Array_wide N Φ [a0]) fun v33 =>
 optM (binR .mul .o none v13 v33) fun v34 =>
 optM (faR 4 v1) fun v35 =>
 rdM (ld false 1 v35) fun v36 =>
 optM (iaL 3 v36 v23) fun v37 =>
 optM (faR 1 v37) fun v38 =>
 rdM (ld false 1 v38) fun v39 =>
 lrM (
 loopM N (fun vs =>
 unc vs fun v40 vs =>
 unc vs fun v41 vs =>
 unc vs fun v42 vs =>
 unc vs fun v43 vs =>
 unc vs fun v44 vs =>
 unc vs fun v45 vs =>
 unc vs fun v46 vs =>
 unc vs fun v47 vs =>
 unc vs fun v48 vs =>
 unc vs fun v49 vs =>
 unc vs fun v50 vs =>
 unn vs <|
 optM (binR .lss .o none v50 v49) fun v51 =>
 iteM (some v51) (
 optM (nilR v40) fun v52 =>
 optM (faR 1 v52) fun v53 =>
 rdM (ld true 5 v53) fun v54 =>
 optM (binR .add .o none v47 v50) fun v55 =>
 bindM (F_geom_Place N Φ [v54, v41, v55]) fun v56 =>
 optM (exR 0 v56) fun v57 =>
 optM (exR 1 v56) fun v58 =>
 optM (exR 2 v56) fun v59 =>
 bindM (F_array_Array_get N Φ [v40, v58, v44, v45]) fun v60 =>
 optM (exR 0 v60) fun v61 =>
 optM (exR 1 v60) fun v62 =>
 optM (exR 2 v60) fun v63 =>
 optM (binR .neq .o none v63 (.i .i64 0)) fun v64 =>
 iteM (some v64) (
 pureM (.rt [(.s []), v63])
 ) (
 alM (bsR 1 1 (zeros [(.s [])] 1) [(0, v61)]) fun v65 =>
 bindM (apR 9 1 16 (srL 1 v65) v48) fun v66 =>
 optM (binR .add .o none v50 (.i .i64 1)) fun v67 =>
 pureM (.nx [v40, v41, v42, v43, v44, v45, v46, v47, v66, v49, v67])
 )
 ) (
 pureM (.ex 1 [v42, v43, v46, v47, v48])
 )
 ) [a0, a1, a2, v1, v8, v13, v23, v34, .ns, v39, (.i .i64 0)])
 (fun vs =>
 failM)
 (fun id vs =>
 cond (Nat.beq id 1) (
 unc vs fun v68 vs =>
 unc vs fun v69 vs =>
 unc vs fun v70 vs =>
 unc vs fun v71 vs =>
 unc vs fun v72 vs =>
 unn vs <|
 optM (faR 4 v69) fun v73 =>
 rdM (ld false 1 v73) fun v74 =>
 optM (iaL 3 v74 v70) fun v75 =>
 optM (faR 2 v75) fun v76 =>
 rdM (ld false 1 v76) fun v77 =>
 optM (binR .sub .o none v68 v71) fun v78 =>
 bindM (F_stripe_Restore N Φ [v77, v72, v78]) fun v79 =>
 optM (exR 0 v79) fun v80 =>
 optM (exR 1 v79) fun v81 =>
 pureM (.t [v80, v81])
 ) <|
 failM)
 (fun vs =>
 unc vs fun v82 vs =>
 unc vs fun v83 vs =>
 unn vs <|
 pureM (.t [v82, v83])
 )
 )
 )
def an_array_Array_tell : An := (.two .n (.two .n (.two .n (.two .n (.two (.two .n (.one (.two .n (.two (.two .n (.two .n .n)) (.two .n (.two (.two .n .n) .n)))))) (.two .n (.two .n (.two (.two .n (.one (.loop [0, 1, 2, 7, 10, 11, 15, 19, 20, 92, 93] [(1, [2, 7, 15, 19, 20])] [8, 9] (.two .n (.two (.two .n .n) (.two (.one (.two .n (.two .n (.two .n (.two (.two .n (.two (.two .n .n) .n)) .n))))) .n)))))) (.two .n .n)))))))))

/-- (*corbel/array.Array).keep -/
def tab_array_Array_keep (N : Nat) (Φ : Calls') : Calls' := fun f => cond (Nat.beq f id_array_Array_has) (some (F_array_Array_has N Φ)) (cond (Nat.beq f id_array_Array_wide) (some (F_array_Array_wide N Φ)) (cond (Nat.beq f id_array_Array_tell) (some (F_array_Array_tell N Φ)) (cond (Nat.beq f id_geom_Parity) (some (F_geom_Parity N Φ)) (cond (Nat.beq f id_xor_Add) (some (F_xor_Add N Φ)) (Φ f)))))
def F_array_Array_keep (N : Nat) (Φ : Calls') : List V → M V := fun args =>
 unc args fun a0 args =>
 unc args fun a1 args =>
 unc args fun a2 args =>
 unc args fun a3 args =>
 unn args <|
 alM (boxR a3) fun v1 =>
 optM (binR .lss .o none a2 (.i .i64 0)) fun v2 =>
 iteM (some v2) (
 pureM (.i .i64 0)
 ) (
 optM (nilR a0) fun v3 =>
 optM (faR 1 v3) fun v4 =>
 rdM (ld true 5 v4) fun v5 =>
 bindM (F_geom_Parity N Φ [v5, a1, a2]) fun v6 =>
 optM (nilR a0) fun v7 =>
 optM (faR 6 v7) fun v8 =>
 optM (faR 1 v8) fun v9 =>
 rdM (ld false 1 v9) fun v10 =>
 optM (iaL 3 v10 a1) fun v11 =>
 optM (faR 0 v11) fun v12 =>
 rdM (ld false 1 v12) fun v13 =>
 bindM (F_array_Array_has N Φ [a0, v6, v13]) fun v14 =>
 optM (unV .not v14) fun v15 =>
 bindM (gdM (boolV (some v15)) false (pM (faR 0 v1))) fun v16 =>
 bindM (gdM (boolV (some v15)) false (pM (faR 0 v16))) fun v17 =>
 bindM (gdM (boolV (some v15)) false (rM (ld false 1 v17))) fun v18 =>
 bindM (gdM (boolV (some v15)) false (pM (some v6))) fun v19 =>
 bindM (gdM (boolV (some v15)) false (pM (iaL 1 v18 v19))) fun v20 =>
 bindM (gdM (boolV (some v15)) false (rM (ld false 1 v20))) fun v21 =>
 bindM (gdM (boolV (some v15)) false (pM (some a2))) fun v22 =>
 bindM (gdM (boolV (some v15)) false (pM (binR .gtr .o none v21 v22))) fun v23 =>
 optM (pickR v15 (.b true) v23) fun v24 =>
 iteM (some v24) (
 pureM (.i .i64 0)
 ) (
 bindM (F_array_Array_wide N Φ [a0]) fun v25 =>
 optM (binR .mul .o none a2 v25) fun v26 =>
 lrM (
 loopM N (fun vs =>
 unc vs fun v27 vs =>
 unc vs fun v28 vs =>
 unc vs fun v29 vs =>
 unc vs fun v30 vs =>
 unc vs fun v31 vs =>
 unc vs fun v32 vs =>
 unn vs <|
 optM (binR .add .o none v29 (.i .i64 1)) fun v33 =>
 bindM (F_array_Array_wide N Φ [v27]) fun v34 =>
 optM (binR .mul .o none v33 v34) fun v35 =>
 optM (binR .lss .o none v32 v35) fun v36 =>
 iteM (some v36) (
 rdM (ld true 5 v30) fun v37 =>
 bindM (F_array_Array_tell N Φ [v27, v28, v32, v37]) fun v38 =>
 optM (exR 0 v38) fun v39 =>
 optM (exR 1 v38) fun v40 =>
 optM (binR .neq .o none v40 (.i .i64 0)) fun v41 =>
 iteM (some v41) (
 pureM (.rt [v40])
 ) (
 bindM (F_xor_Add N Φ [v31, v39]) fun v42 =>
 optM (binR .add .o none v32 (.i .i64 1)) fun v43 =>
 pureM (.nx [v27, v28, v29, v30, v42, v43])
 )
 ) (
 pureM (.ex 0 [v27, v28, v29, v31])
 )
 ) [a0, a1, a2, v1, (.s []), v26])
 (fun vs =>
 failM)
 (fun id vs =>
 cond (Nat.beq id 0) (
 unc vs fun v44 vs =>
 unc vs fun v45 vs =>
 unc vs fun v46 vs =>
 unc vs fun v47 vs =>
 unn vs <|
 optM (nilR v44) fun v48 =>
 optM (faR 14 v48) fun v49 =>
 rdM (ld false 1 v49) fun v50 =>
 bindM (F_array_Array_wide N Φ [v44]) fun v51 =>
 chkM (ckR (ld false 1 v49) v50) <|
 optM (bdR [(0, 1), (1, 1), (2, 1)] [(.i .i64 0), (.i .i64 0), (.s [])] [(0, v46), (1, v51), (2, v47)]) fun v52 =>
 bindM (muR (.one .i) v50 v45 v52) fun v53 =>
 pureM (.i .i64 0)
 ) <|
 failM)
 (fun vs =>
 unc vs fun v54 vs =>
 unn vs <|
 pureM v54
 )
 )
 )
def an_array_Array_keep : An := (.two .n (.two (.two .n (.two (.two .n .n) .n)) (.two (.two .n (.two .n (.two (.two .n .n) .n))) (.two .n (.two (.two .n (.one (.loop [0, 1, 2, 7, 10, 11] [(0, [0, 1, 2, 10])] [8] (.two (.two .n (.two .n .n)) (.two (.one (.two .n (.two (.two .n (.two (.two .n .n) .n)) .n))) .n))))) (.two .n (.two .n .n)))))))

/-- (*corbel/array.Array).recover -/
def tab_array_Array_recover (N : Nat) (Φ : Calls') : Calls' := fun f => cond (Nat.beq f id_stripe_Row_Add) (some (F_stripe_Row_Add N Φ)) (cond (Nat.beq f id_array_Array_begin) (some (F_array_Array_begin N Φ)) (cond (Nat.beq f id_array_Array_has) (some (F_array_Array_has N Φ)) (cond (Nat.beq f id_rig_Rig_Zone) (some (F_rig_Rig_Zone N Φ)) (cond (Nat.beq f id_notes_Of) (some (F_notes_Of N Φ)) (cond (Nat.beq f id_tail_Length) (some (F_tail_Length N Φ)) (cond (Nat.beq f id_array_Array_wide) (some (F_array_Array_wide N Φ)) (cond (Nat.beq f id_array_Array_keep) (some (F_array_Array_keep N Φ)) (cond (Nat.beq f id_array_Array_tell) (some (F_array_Array_tell N Φ)) (Φ f)))))))))
def F_array_Array_recover (N : Nat) (Φ : Calls') : List V → M V := fun args =>
 unc args fun a0 args =>
 unc args fun a1 args =>
 unc args fun a2 args =>
 unn args <|
 alM (alR 89 [.ns, (.i .i64 0), .ns, (.i .i64 0), .ns]) fun v1 =>
 optM (nilR a0) fun v2 =>
 optM (faR 6 v2) fun v3 =>
 optM (faR 1 v3) fun v4 =>
 rdM (ld false 1 v4) fun v5 =>
 optM (iaL 3 v5 a1) fun v6 =>
 rdM (ld true 3 v6) fun v7 =>
 alM (alR 134 [(.i .i64 0), (.i .i64 0), (.i .i64 0)]) fun v8 =>
 bindM (stR 3 v8 v7) fun v9 =>
 optM (bdR [(0, 1), (1, 1), (2, 1)] [.ns, (.i .i64 0), .ns] [(1, (.i .i64 (-1)))]) fun v10 =>
 optM (bdR [(0, 3), (3, 1), (4, 1)] [.ns, (.i .i64 0), .ns, (.i .i64 0), .ns] [(0, v10)]) fun v11 =>
 alM (alR 89 [.ns, (.i .i64 0), .ns, (.i .i64 0), .ns]) fun v12 =>
 bindM (stR 5 v12 v11) fun v13 =>
 optM (nilR a0) fun v14 =>
 optM (faR 6 v14) fun v15 =>
 optM (faR 2 v15) fun v16 =>
 rdM (ld false 1 v16) fun v17 =>
 optM (lnL v17) fun v18 =>
 lrM (
 loopM N (fun vs =>
 unc vs fun v19 vs =>
 unc vs fun v20 vs =>
 unc vs fun v21 vs =>
 unc vs fun v22 vs =>
 unc vs fun v23 vs =>
 unc vs fun v24 vs =>
 unc vs fun v25 vs =>
 unc vs fun v26 vs =>
 unc vs fun v27 vs =>
 unn vs <|
 optM (binR .lss .o none v27 v26) fun v28 =>
 iteM (some v28) (
 optM (iaL 1 v25 v27) fun v29 =>
 rdM (ld false 1 v29) fun v30 =>
 lrM (
 optM (faR 0 v23) fun v31 =>
 rdM (ld false 1 v31) fun v32 =>
 bindM (F_array_Array_has N Φ [v19, v27, v32]) fun v33 =>
 iteM (some v33) (
 optM (nilR v19) fun v34 =>
 optM (faR 0 v34) fun v35 =>
 rdM (ld false 1 v35) fun v36 =>
 optM (faR 0 v23) fun v37 =>
 rdM (ld false 1 v37) fun v38 =>
 alM (alR 30 [(.i .i64 0), (.i .i64 0)]) fun v39 =>
 bindM (F_rig_Rig_Zone N Φ [v36, v30, v38]) fun v40 =>
 chkM (ckA (alR 30 [(.i .i64 0), (.i .i64 0)]) v39) <|
 optM (exR 0 v40) fun v41 =>
 optM (exR 1 v40) fun v42 =>
 bindM (stR 2 v39 v41) fun v43 =>
 optM (faR 1 v39) fun v44 =>
 rdM (ld false 1 v44) fun v45 =>
 rdM (lkR (.one .i) .ns false v21 v30) fun v46 =>
 optM (faR 1 v23) fun v47 =>
 rdM (ld false 1 v47) fun v48 =>
 bindM (F_notes_Of N Φ [v46, v20, v48]) fun v49 =>
 optM (lnL v49) fun v50 =>
 lrM (
 loopM N (fun vs =>
 unc vs fun v51 vs =>
 unc vs fun v52 vs =>
 unc vs fun v53 vs =>
 unc vs fun v54 vs =>
 unc vs fun v55 vs =>
 unc vs fun v56 vs =>
 unc vs fun v57 vs =>
 unc vs fun v58 vs =>
 unc vs fun v59 vs =>
 unc vs fun v60 vs =>
 unc vs fun v61 vs =>
 unc vs fun v62 vs =>
 unc vs fun v63 vs =>
 unn vs <|
 optM (binR .lss .o none v63 v62) fun v64 =>
 iteM (some v64) (
 optM (iaL 3 v61 v63) fun v65 =>
 rdM (ld true 3 v65) fun v66 =>
 alM (alR 180 [(.i .i64 0), (.i .i64 0), (.s [])]) fun v67 =>
 bindM (stR 3 v67 v66) fun v68 =>
 optM (faR 4 v56) fun v69 =>
 rdM (ld false 1 v69) fun v70 =>
 rdM (ld true 3 v67) fun v71 =>
 alM (bsR 1 3 (zeros [(.i .i64 0), (.i .i64 0), (.s [])] 3) [(0, v71)]) fun v72 =>
 bindM (apR 180 3 32 (srL 3 v72) v70) fun v73 =>
 optM (faR 4 v56) fun v74 =>
 bindM (stR 1 v74 v73) fun v75 =>
 optM (faR 0 v56) fun v76 =>
 optM (faR 2 v76) fun v77 =>
 rdM (ld false 1 v77) fun v78 =>
 optM (faR 0 v67) fun v79 =>
 rdM (ld false 1 v79) fun v80 =>
 optM (faR 1 v67) fun v81 =>
 rdM (ld false 1 v81) fun v82 =>
 optM (bdR [(0, 1), (1, 1)] [(.i .i64 0), (.i .i64 0)] [(0, v80), (1, v82)]) fun v83 =>
 alM (bsR 1 2 (zeros [(.i .i64 0), (.i .i64 0)] 2) [(0, v83)]) fun v84 =>
 bindM (apR 182 2 16 (srL 2 v84) v78) fun v85 =>
 optM (faR 0 v56) fun v86 =>
 optM (faR 2 v86) fun v87 =>
 bindM (stR 1 v87 v85) fun v88 =>
 optM (binR .add .o none v63 (.i .i64 1)) fun v89 =>
 pureM (.nx [v51, v52, v53, v54, v55, v56, v57, v58, v59, v60, v61, v62, v89])
 ) (
 pureM (.ex 2 [v51, v52, v53, v54, v55, v56, v57, v58, v59, v60])
 )
 ) [v19, v20, v21, v22, v23, v24, v45, v25, v26, v27, v49, v50, (.i .i64 0)])
 (fun vs =>
 failM)
 (fun id vs =>
 cond (Nat.beq id 2) (
 unc vs fun v90 vs =>
 unc vs fun v91 vs =>
 unc vs fun v92 vs =>
 unc vs fun v93 vs =>
 unc vs fun v94 vs =>
 unc vs fun v95 vs =>
 unc vs fun v96 vs =>
 unc vs fun v97 vs =>
 unc vs fun v98 vs =>
 unc vs fun v99 vs =>
 unn vs <|
 pureM (.nx [v90, v91, v92, v93, v94, v95, v96, v97, v98, v99])
 ) <|
 failM)
 (fun vs =>
 unc vs fun v100 vs =>
 unc vs fun v101 vs =>
 unn vs <|
 pureM (.rt [v100, v101])
 )
 ) (
 optM (faR 0 v24) fun v102 =>
 optM (faR 1 v102) fun v103 =>
 bindM (stR 1 v103 v27) fun v104 =>
 pureM (.nx [v19, v20, v21, v22, v23, v24, (.i .i64 0), v25, v26, v27])
 )
 )
 (fun vs =>
 unc vs fun v105 vs =>
 unc vs fun v106 vs =>
 unc vs fun v107 vs =>
 unc vs fun v108 vs =>
 unc vs fun v109 vs =>
 unc vs fun v110 vs =>
 unc vs fun v111 vs =>
 unc vs fun v112 vs =>
 unc vs fun v113 vs =>
 unc vs fun v114 vs =>
 unn vs <|
 optM (faR 0 v110) fun v115 =>
 optM (faR 0 v115) fun v116 =>
 rdM (ld false 1 v116) fun v117 =>
 alM (bsR 1 1 (zeros [(.i .i64 0)] 1) [(0, v111)]) fun v118 =>
 bindM (apR 3 1 8 (srL 1 v118) v117) fun v119 =>
 optM (faR 0 v110) fun v120 =>
 optM (faR 0 v120) fun v121 =>
 bindM (stR 1 v121 v119) fun v122 =>
 optM (binR .add .o none v114 (.i .i64 1)) fun v123 =>
 pureM (.nx [v105, v106, v107, v108, v109, v110, v112, v113, v123])
 )
 (fun id vs =>
 failM)
 (fun vs =>
 unc vs fun v124 vs =>
 unc vs fun v125 vs =>
 unn vs <|
 pureM (.rt [v124, v125])
 )
 ) (
 pureM (.ex 0 [v19, v20, v22, v23, v24])
 )
 ) [a0, a1, a2, v1, v8, v12, v17, v18, (.i .i64 0)])
 (fun vs =>
 failM)
 (fun id vs =>
 cond (Nat.beq id 0) (
 unc vs fun v126 vs =>
 unc vs fun v127 vs =>
 unc vs fun v128 vs =>
 unc vs fun v129 vs =>
 unc vs fun v130 vs =>
 unn vs <|
 lrM (
 optM (faR 2 v129) fun v131 =>
 rdM (ld false 1 v131) fun v132 =>
 optM (binR .neq .o none v132 (.i .i64 1)) fun v133 =>
 iteM (some v133) (
 optM (nilR v126) fun v134 =>
 optM (faR 1 v134) fun v135 =>
 rdM (ld true 5 v135) fun v136 =>
 optM (faR 0 v130) fun v137 =>
 rdM (ld true 3 v137) fun v138 =>
 bindM (F_tail_Length N Φ [v136, v127, v138]) fun v139 =>
 optM (faR 3 v130) fun v140 =>
 bindM (stR 1 v140 v139) fun v141 =>
 pureM (.nx [v126, v127, v128, v130])
 ) (
 pureM (.nx [v126, v127, v128, v130])
 )
 )
 (fun vs =>
 unc vs fun v142 vs =>
 unc vs fun v143 vs =>
 unc vs fun v144 vs =>
 unc vs fun v145 vs =>
 unn vs <|
 optM (faR 3 v145) fun v146 =>
 rdM (ld false 1 v146) fun v147 =>
 bindM (F_array_Array_wide N Φ [v142]) fun v148 =>
 chkM (ckR (ld false 1 v146) v147) <|
 optM (binR .quo .o none v147 v148) fun v149 =>
 optM (binR .sub .o none v149 (.i .i64 1)) fun v150 =>
 rdM (ld true 5 v145) fun v151 =>
 bindM (F_array_Array_keep N Φ [v142, v143, v150, v151]) fun v152 =>
 optM (binR .neq .o none v152 (.i .i64 0)) fun v153 =>
 iteM (some v153) (
 optM (bdR [(0, 3), (3, 1), (4, 1)] [.ns, (.i .i64 0), .ns, (.i .i64 0), .ns] []) fun v154 =>
 bindM (stR 5 v144 v154) fun v155 =>
 rdM (ld true 5 v144) fun v156 =>
 pureM (.t [v156, v152])
 ) (
 bindM (F_array_Array_begin N Φ [v142, v149]) fun v157 =>
 alM (alR 141 [(.i .i64 0), (.i .i64 0), .ns]) fun v158 =>
 bindM (stR 3 v158 v157) fun v159 =>
 bindM (F_array_Array_wide N Φ [v142]) fun v160 =>
 optM (binR .mul .o none v149 v160) fun v161 =>
 lrM (
 loopM N (fun vs =>
 unc vs fun v162 vs =>
 unc vs fun v163 vs =>
 unc vs fun v164 vs =>
 unc vs fun v165 vs =>
 unc vs fun v166 vs =>
 unc vs fun v167 vs =>
 unn vs <|
 optM (faR 3 v165) fun v168 =>
 rdM (ld false 1 v168) fun v169 =>
 optM (binR .lss .o none v167 v169) fun v170 =>
 iteM (some v170) (
 rdM (ld true 5 v165) fun v171 =>
 bindM (F_array_Array_tell N Φ [v162, v163, v167, v171]) fun v172 =>
 optM (exR 0 v172) fun v173 =>
 optM (exR 1 v172) fun v174 =>
 optM (binR .neq .o none v174 (.i .i64 0)) fun v175 =>
 iteM (some v175) (
 optM (bdR [(0, 3), (3, 1), (4, 1)] [.ns, (.i .i64 0), .ns, (.i .i64 0), .ns] []) fun v176 =>
 bindM (stR 5 v164 v176) fun v177 =>
 pureM (.rt [v164, v174])
 ) (
 optM (faR 1 v166) fun v178 =>
 rdM (ld true 2 v178) fun v179 =>
 bindM (F_stripe_Row_Add N Φ [v179, v173]) fun v180 =>
 optM (exR 0 v180) fun v181 =>
 optM (exR 1 v180) fun v182 =>
 optM (faR 1 v166) fun v183 =>
 bindM (stR 2 v183 v181) fun v184 =>
 optM (binR .add .o none v167 (.i .i64 1)) fun v185 =>
 pureM (.nx [v162, v163, v164, v165, v166, v185])
 )
 ) (
 pureM (.ex 4 [v162, v163, v164, v165, v166])
 )
 ) [v142, v143, v144, v145, v158, v161])
 (fun vs =>
 failM)
 (fun id vs =>
 cond (Nat.beq id 4) (
 unc vs fun v186 vs =>
 unc vs fun v187 vs =>
 unc vs fun v188 vs =>
 unc vs fun v189 vs =>
 unc vs fun v190 vs =>
 unn vs <|
 optM (nilR v186) fun v191 =>
 optM (faR 13 v191) fun v192 =>
 rdM (ld false 1 v192) fun v193 =>
 rdM (ld true 3 v190) fun v194 =>
 optM (iaL 3 v193 v187) fun v195 =>
 bindM (stR 3 v195 v194) fun v196 =>
 rdM (ld true 5 v189) fun v197 =>
 bindM (stR 5 v188 v197) fun v198 =>
 rdM (ld true 5 v188) fun v199 =>
 pureM (.t [v199, (.i .i64 0)])
 ) <|
 failM)
 (fun vs =>
 unc vs fun v200 vs =>
 unc vs fun v201 vs =>
 unn vs <|
 rdM (ld true 5 v200) fun v202 =>
 pureM (.t [v202, v201])
 )
 )
 )
 (fun id vs =>
 failM)
 (fun vs =>
 unc vs fun v203 vs =>
 unc vs fun v204 vs =>
 unn vs <|
 rdM (ld true 5 v203) fun v205 =>
 pureM (.t [v205, v204])
 )
 ) <|
 failM)
 (fun vs =>
 unc vs fun v206 vs =>
 unc vs fun v207 vs =>
 unn vs <|
 rdM (ld true 5 v206) fun v208 =>
 pureM (.t [v208, v207])
 )
def an_array_Array_recover : An := (.two .n (.two .n (.two .n (.two (.two .n (.one (.loop [0, 1, 2, 6, 8, 9, 37, 38, 39] [(0, [0, 1, 6, 8, 9])] [6, 7] (.two .n (.two (.two .n .n) (.two (.one (.two .n (.two .n (.two (.cut [0, 1, 2, 6, 8, 9, 12, 37, 38, 39] [] [6, 7] (.two .n (.two (.two .n (.two .n (.two .n (.one (.loop [0, 1, 2, 6, 8, 9, 12, 37, 38, 39, 68, 69, 70] [(2, [0, 1, 2, 6, 8, 9, 12, 37, 38, 39])] [6, 7] (.two .n (.two (.two .n .n) (.two (.one (.two .n (.two .n .n))) .n)))))))) .n))) .n)))) .n)))))) (.two (.cut [0, 1, 6, 9] [] [6, 7] (.two .n (.two .n .n))) (.two .n (.two (.two .n (.two .n (.two (.two .n .n) .n))) (.two .n (.two (.two .n (.one (.loop [0, 1, 6, 9, 19, 20] [(4, [0, 1, 6, 9, 19])] [6, 7] (.two (.two .n (.two .n .n)) (.two (.one (.two .n (.two (.two .n (.two (.two .n .n) .n)) .n))) .n))))) (.two .n (.two .n .n)))))))))))

/-- (*corbel/array.Array).mend$1 -/
def tab_array_Array_mend_1 (N : Nat) (Φ : Calls') : Calls' := fun f => cond (Nat.beq f id_array_Array_clear) (some (F_array_Array_clear N Φ)) (Φ f)
def F_array_Array_mend_1 (N : Nat) (Φ : Calls') : List V → M V := fun args =>
 unc args fun a0 args =>
 unc args fun a1 args =>
 unn args <|
 rdM (ld false 1 a0) fun v1 =>
 optM (faR 0 a1) fun v2 =>
 rdM (ld false 1 v2) fun v3 =>
 bindM (F_array_Array_clear N Φ [v1, v3]) fun v4 =>
 pureM v4
def an_array_Array_mend_1 : An := (.two .n (.two .n .n))

/-- (*corbel/array.Array).mend$2 -/
def tab_array_Array_mend_2 (N : Nat) (Φ : Calls') : Calls' := fun f => cond (Nat.beq f id_array_Array_set) (some (F_array_Array_set N Φ)) (Φ f)
def F_array_Array_mend_2 (N : Nat) (Φ : Calls') : List V → M V := fun args =>
 unc args fun a0 args =>
 unc args fun a1 args =>
 unc args fun a2 args =>
 unn args <|
 rdM (ld false 1 a0) fun v1 =>
 rdM (ld false 1 a1) fun v2 =>
 optM (faR 0 a2) fun v3 =>
 rdM (ld false 1 v3) fun v4 =>
 optM (faR 1 a2) fun v5 =>
 rdM (ld false 1 v5) fun v6 =>
 optM (bdR [(0, 1), (1, 1), (2, 1)] [(.i .i64 0), (.i .i64 0), (.i .i64 0)] [(0, v4), (1, v6)]) fun v7 =>
 bindM (F_array_Array_set N Φ [v1, v2, v7]) fun v8 =>
 pureM v8
def an_array_Array_mend_2 : An := (.two .n (.two .n .n))

/-- corbel/geom.Back -/
def tab_geom_Back (N : Nat) (Φ : Calls') : Calls' := fun f => cond (Nat.beq f id_geom_Parity) (some (F_geom_Parity N Φ)) (cond (Nat.beq f id_geom_within) (some (F_geom_within N Φ)) (Φ f))
def F_geom_Back (N : Nat) (Φ : Calls') : List V → M V := fun args =>
 unc args fun a0 args =>
 unc args fun a1 args =>
 unc args fun a2 args =>
 unc args fun a3 args =>
 unn args <|
 alM (boxR a0) fun v1 =>
 rdM (ld true 5 v1) fun v2 =>
 bindM (F_geom_Parity N Φ [v2, a1, a2]) fun v3 =>
 optM (binR .lss .o none v3 (.i .i64 0)) fun v4 =>
 bindM (gdM (boolV (some v4)) false (pM (some v3))) fun v5 =>
 bindM (gdM (boolV (some v4)) false (pM (some a3))) fun v6 =>
 bindM (gdM (boolV (some v4)) false (pM (binR .eql .o none v5 v6))) fun v7 =>
 optM (pickR v4 (.b true) v7) fun v8 =>
 bindM (gdM (boolV (some v8)) false (pM (some a3))) fun v9 =>
 bindM (gdM (boolV (some v8)) false (pM (faR 0 v1))) fun v10 =>
 bindM (gdM (boolV (some v8)) false (rM (ld false 1 v10))) fun v11 =>
 bindM (gdM (boolV (some v8)) false (pM (binR .sub .o none v11 (.i .i64 1)))) fun v12 =>
 bindM (gdM (boolV (some v8)) false (F_geom_within N Φ [v9, (.i .i64 0), v12])) fun v13 =>
 bindM (gdM (boolV (some v8)) false (pM (unV .not v13))) fun v14 =>
 optM (pickR v8 (.b true) v14) fun v15 =>
 iteM (some v15) (
 pureM (.t [(.i .i64 0), (.b false)])
 ) (
 optM (faR 0 v1) fun v16 =>
 rdM (ld false 1 v16) fun v17 =>
 optM (binR .sub .o none v17 (.i .i64 1)) fun v18 =>
 optM (binR .mul .o none a2 v18) fun v19 =>
 optM (binR .sub .o none a3 v3) fun v20 =>
 optM (binR .sub .o none v20 (.i .i64 1)) fun v21 =>
 optM (faR 0 v1) fun v22 =>
 rdM (ld false 1 v22) fun v23 =>
 optM (binR .add .o none v21 v23) fun v24 =>
 optM (faR 0 v1) fun v25 =>
 rdM (ld false 1 v25) fun v26 =>
 optM (binR .rem .o none v24 v26) fun v27 =>
 optM (binR .add .o none v19 v27) fun v28 =>
 pureM (.t [v28, (.b true)])
 )
def an_geom_Back : An := (.two .n (.two .n (.two (.two .n (.two (.two .n .n) .n)) (.two .n .n))))

/-- corbel/plan.Lengths -/
def tab_plan_Lengths (N : Nat) (Φ : Calls') : Calls' := fun f => cond (Nat.beq f id_geom_Good) (some (F_geom_Good N Φ)) (cond (Nat.beq f id_geom_Zones) (some (F_geom_Zones N Φ)) (cond (Nat.beq f id_geom_Capacity) (some (F_geom_Capacity N Φ)) (cond (Nat.beq f id_geom_Back) (some (F_geom_Back N Φ)) (Φ f))))
def F_plan_Lengths (N : Nat) (Φ : Calls') : List V → M V := fun args =>
 unc args fun a0 args =>
 unc args fun a1 args =>
 unc args fun a2 args =>
 unn args <|
 alM (boxR a0) fun v1 =>
 rdM (ld true 5 v1) fun v2 =>
 bindM (F_geom_Good N Φ [v2]) fun v3 =>
 optM (unV .not v3) fun v4 =>
 bindM (gdM (boolV (some v4)) false (pM (some a1))) fun v5 =>
 bindM (gdM (boolV (some v4)) false (pM (binR .lss .o none v5 (.i .i64 0)))) fun v6 =>
 optM (pickR v4 (.b true) v6) fun v7 =>
 bindM (gdM (boolV (some v7)) false (pM (some a1))) fun v8 =>
 bindM (gdM (boolV (some v7)) false (rM (ld true 5 v1))) fun v9 =>
 bindM (gdM (boolV (some v7)) false (F_geom_Zones N Φ [v9])) fun v10 =>
 bindM (gdM (boolV (some v7)) false (pM (binR .geq .o none v8 v10))) fun v11 =>
 optM (pickR v7 (.b true) v11) fun v12 =>
 bindM (gdM (boolV (some v12)) false (pM (some a2))) fun v13 =>
 bindM (gdM (boolV (some v12)) false (pM (binR .lss .o none v13 (.i .i64 0)))) fun v14 =>
 optM (pickR v12 (.b true) v14) fun v15 =>
 bindM (gdM (boolV (some v15)) false (pM (some a2))) fun v16 =>
 bindM (gdM (boolV (some v15)) false (rM (ld true 5 v1))) fun v17 =>
 bindM (gdM (boolV (some v15)) false (F_geom_Capacity N Φ [v17])) fun v18 =>
 bindM (gdM (boolV (some v15)) false (pM (binR .gtr .o none v16 v18))) fun v19 =>
 optM (pickR v15 (.b true) v19) fun v20 =>
 iteM (some v20) (
 pureM .ns
 ) (
 optM (faR 0 v1) fun v21 =>
 rdM (ld false 1 v21) fun v22 =>
 alM (mkR 1 8 [(.i .i64 0)] v22 v22) fun v23 =>
 optM (faR 0 v1) fun v24 =>
 rdM (ld false 1 v24) fun v25 =>
 optM (binR .sub .o none v25 (.i .i64 1)) fun v26 =>
 optM (binR .quo .o none a2 v26) fun v27 =>
 optM (lnL v23) fun v28 =>
 lrM (
 loopM N (fun vs =>
 unc vs fun v29 vs =>
 unc vs fun v30 vs =>
 unc vs fun v31 vs =>
 unc vs fun v32 vs =>
 unc vs fun v33 vs =>
 unc vs fun v34 vs =>
 unc vs fun v35 vs =>
 unn vs <|
 optM (binR .lss .o none v35 v34) fun v36 =>
 iteM (some v36) (
 lrM (
 optM (iaL 1 v32 v35) fun v37 =>
 bindM (stR 1 v37 v33) fun v38 =>
 rdM (ld true 5 v31) fun v39 =>
 bindM (F_geom_Back N Φ [v39, v29, v33, v35]) fun v40 =>
 optM (exR 0 v40) fun v41 =>
 optM (exR 1 v40) fun v42 =>
 bindM (gdM (boolV (some v42)) true (pM (some v41))) fun v43 =>
 bindM (gdM (boolV (some v42)) true (pM (some v30))) fun v44 =>
 bindM (gdM (boolV (some v42)) true (pM (binR .lss .o none v43 v44))) fun v45 =>
 optM (pickR v42 v45 (.b false)) fun v46 =>
 iteM (some v46) (
 optM (iaL 1 v32 v35) fun v47 =>
 rdM (ld false 1 v47) fun v48 =>
 optM (binR .add .o none v48 (.i .i64 1)) fun v49 =>
 optM (iaL 1 v32 v35) fun v50 =>
 bindM (stR 1 v50 v49) fun v51 =>
 pureM (.nx [v29, v30, v31, v32, v33, v34, v35])
 ) (
 pureM (.nx [v29, v30, v31, v32, v33, v34, v35])
 )
 )
 (fun vs =>
 unc vs fun v52 vs =>
 unc vs fun v53 vs =>
 unc vs fun v54 vs =>
 unc vs fun v55 vs =>
 unc vs fun v56 vs =>
 unc vs fun v57 vs =>
 unc vs fun v58 vs =>
 unn vs <|
 optM (binR .add .o none v58 (.i .i64 1)) fun v59 =>
 pureM (.nx [v52, v53, v54, v55, v56, v57, v59])
 )
 (fun id vs =>
 failM)
 (fun vs =>
 unc vs fun v60 vs =>
 unn vs <|
 pureM (.rt [v60])
 )
 ) (
 pureM (.ex 0 [v32])
 )
 ) [a1, a2, v1, v23, v27, v28, (.i .i64 0)])
 (fun vs =>
 failM)
 (fun id vs =>
 cond (Nat.beq id 0) (
 unc vs fun v61 vs =>
 unn vs <|
 pureM v61
 ) <|
 failM)
 (fun vs =>
 unc vs fun v62 vs =>
 unn vs <|
 pureM v62
 )
 )
def an_plan_Lengths : An := (.two .n (.two (.two .n (.two (.two .n .n) .n)) (.two .n (.two .n (.two (.two .n (.one (.loop [1, 2, 3, 7, 8, 44, 45] [(0, [7])] [6] (.two .n (.two (.two .n .n) (.two (.cut [1, 2, 3, 7, 8, 44, 45] [] [6] (.one (.two .n (.two .n (.two .n (.two .n (.two .n .n))))))) .n)))))) (.two .n .n))))))

/-- corbel/mend.Decide$1 -/
def tab_mend_Decide_1 (N : Nat) (Φ : Calls') : Calls' := fun f => Φ f
def F_mend_Decide_1 (N : Nat) (Φ : Calls') : List V → M V := fun args =>
 unc args fun a0 args =>
 unc args fun a1 args =>
 unn args <|
 optM (binR .lss .o none a0 (.i .i64 0)) fun v1 =>
 bindM (gdM (boolV (some v1)) false (pM (some a0))) fun v2 =>
 bindM (gdM (boolV (some v1)) false (pM (faR 2 a1))) fun v3 =>
 bindM (gdM (boolV (some v1)) false (rM (ld false 1 v3))) fun v4 =>
 bindM (gdM (boolV (some v1)) false (pM (binR .gtr .o none v2 v4))) fun v5 =>
 optM (pickR v1 (.b true) v5) fun v6 =>
 pureM v6
def an_mend_Decide_1 : An := (.two .n (.two .n .n))

/-- corbel/mend.Decide -/
def tab_mend_Decide (N : Nat) (Φ : Calls') : Calls' := fun f => cond (Nat.beq f id_geom_Parity) (some (F_geom_Parity N Φ)) (cond (Nat.beq f id_plan_Lengths) (some (F_plan_Lengths N Φ)) (cond (Nat.beq f id_slices_ContainsFunc_int_int) (some (F_slices_ContainsFunc_int_int N Φ)) (Φ f)))
def F_mend_Decide (N : Nat) (Φ : Calls') : List V → M V := fun args =>
 unc args fun a0 args =>
 unc args fun a1 args =>
 unc args fun a2 args =>
 unc args fun a3 args =>
 unc args fun a4 args =>
 unn args <|
 alM (boxR a0) fun v1 =>
 alM (alR 259 [(.i .i64 0), (.i .i64 0), (.i .i64 0)]) fun v2 =>
 rdM (ld true 5 v1) fun v3 =>
 bindM (F_plan_Lengths N Φ [v3, a1, a2]) fun v4 =>
 optM (binR .eql .l none v4 .ns) fun v5 =>
 bindM (gdM (boolV (some v5)) false (pM (some a3))) fun v6 =>
 bindM (gdM (boolV (some v5)) false (pM (lnL v6))) fun v7 =>
 bindM (gdM (boolV (some v5)) false (pM (faR 0 v1))) fun v8 =>
 bindM (gdM (boolV (some v5)) false (rM (ld false 1 v8))) fun v9 =>
 bindM (gdM (boolV (some v5)) false (pM (binR .neq .o none v7 v9))) fun v10 =>
 optM (pickR v5 (.b true) v10) fun v11 =>
 bindM (gdM (boolV (some v11)) false (pM (some a4))) fun v12 =>
 bindM (gdM (boolV (some v11)) false (pM (binR .lss .o none v12 (.i .i64 (-1))))) fun v13 =>
 optM (pickR v11 (.b true) v13) fun v14 =>
 bindM (gdM (boolV (some v14)) false (pM (some a4))) fun v15 =>
 bindM (gdM (boolV (some v14)) false (pM (faR 0 v1))) fun v16 =>
 bindM (gdM (boolV (some v14)) false (rM (ld false 1 v16))) fun v17 =>
 bindM (gdM (boolV (some v14)) false (pM (binR .geq .o none v15 v17))) fun v18 =>
 optM (pickR v14 (.b true) v18) fun v19 =>
 bindM (gdM (boolV (some v19)) false (pM (some a3))) fun v20 =>
 bindM (gdM (boolV (some v19)) false (pM (some (.f id_mend_Decide_1 [] [v1])))) fun v21 =>
 bindM (gdM (boolV (some v19)) false (F_slices_ContainsFunc_int_int N Φ [v20, v21])) fun v22 =>
 optM (pickR v19 (.b true) v22) fun v23 =>
 iteM (some v23) (
 optM (bdR [(0, 1), (1, 1), (2, 1)] [(.i .i64 0), (.i .i64 0), (.i .i64 0)] []) fun v24 =>
 bindM (stR 3 v2 v24) fun v25 =>
 rdM (ld true 3 v2) fun v26 =>
 pureM (.t [v26, (.i .i64 1)])
 ) (
 optM (lnL a3) fun v27 =>
 lrM (
 loopM N (fun vs =>
 unc vs fun v28 vs =>
 unc vs fun v29 vs =>
 unc vs fun v30 vs =>
 unc vs fun v31 vs =>
 unc vs fun v32 vs =>
 unc vs fun v33 vs =>
 unc vs fun v34 vs =>
 unc vs fun v35 vs =>
 unc vs fun v36 vs =>
 unc vs fun v37 vs =>
 unc vs fun v38 vs =>
 unc vs fun v39 vs =>
 unn vs <|
 optM (binR .lss .o none v39 v38) fun v40 =>
 iteM (some v40) (
 lrM (
 optM (iaL 1 v37 v39) fun v41 =>
 rdM (ld false 1 v41) fun v42 =>
 optM (binR .eql .o none v39 v31) fun v43 =>
 iteM (some v43) (
 pureM (.nx [v28, v29, v30, v31, v32, v33, v34, v35, v36, v37, v38, v39])
 ) (
 optM (iaL 1 v34 v39) fun v44 =>
 rdM (ld false 1 v44) fun v45 =>
 optM (binR .gtr .o none v42 v45) fun v46 =>
 iteM (some v46) (
 alM (bsR 1 1 (zeros [(.i .i64 0)] 1) [(0, v39)]) fun v47 =>
 bindM (apR 3 1 8 (srL 1 v47) v35) fun v48 =>
 pureM (.nx [v28, v29, v30, v31, v32, v33, v34, v48, v36, v37, v38, v39])
 ) (
 optM (iaL 1 v34 v39) fun v49 =>
 rdM (ld false 1 v49) fun v50 =>
 optM (binR .lss .o none v42 v50) fun v51 =>
 iteM (some v51) (
 alM (bsR 1 1 (zeros [(.i .i64 0)] 1) [(0, v39)]) fun v52 =>
 bindM (apR 3 1 8 (srL 1 v52) v36) fun v53 =>
 pureM (.nx [v28, v29, v30, v31, v32, v33, v34, v35, v53, v37, v38, v39])
 ) (
 pureM (.nx [v28, v29, v30, v31, v32, v33, v34, v35, v36, v37, v38, v39])
 )
 )
 )
 )
 (fun vs =>
 unc vs fun v54 vs =>
 unc vs fun v55 vs =>
 unc vs fun v56 vs =>
 unc vs fun v57 vs =>
 unc vs fun v58 vs =>
 unc vs fun v59 vs =>
 unc vs fun v60 vs =>
 unc vs fun v61 vs =>
 unc vs fun v62 vs =>
 unc vs fun v63 vs =>
 unc vs fun v64 vs =>
 unc vs fun v65 vs =>
 unn vs <|
 optM (binR .add .o none v65 (.i .i64 1)) fun v66 =>
 pureM (.nx [v54, v55, v56, v57, v58, v59, v60, v61, v62, v63, v64, v66])
 )
 (fun id vs =>
 failM)
 (fun vs =>
 unc vs fun v67 vs =>
 unc vs fun v68 vs =>
 unn vs <|
 pureM (.rt [v67, v68])
 )
 ) (
 pureM (.ex 0 [v28, v29, v30, v32, v33, v34, v35, v36])
 )
 ) [a1, a2, a3, a4, v1, v2, v4, .ns, .ns, a3, v27, (.i .i64 0)])
 (fun vs =>
 failM)
 (fun id vs =>
 cond (Nat.beq id 0) (
 unc vs fun v69 vs =>
 unc vs fun v70 vs =>
 unc vs fun v71 vs =>
 unc vs fun v72 vs =>
 unc vs fun v73 vs =>
 unc vs fun v74 vs =>
 unc vs fun v75 vs =>
 unc vs fun v76 vs =>
 unn vs <|
 optM (faR 0 v72) fun v77 =>
 rdM (ld false 1 v77) fun v78 =>
 optM (binR .sub .o none v78 (.i .i64 1)) fun v79 =>
 optM (binR .quo .o none v70 v79) fun v80 =>
 optM (binR .sub .o none v80 (.i .i64 1)) fun v81 =>
 optM (lnL v75) fun v82 =>
 optM (lnL v76) fun v83 =>
 optM (binR .add .o none v82 v83) fun v84 =>
 optM (binR .eql .o none v84 (.i .i64 0)) fun v85 =>
 iteM (some v85) (
 optM (bdR [(0, 1), (1, 1), (2, 1)] [(.i .i64 0), (.i .i64 0), (.i .i64 0)] []) fun v86 =>
 bindM (stR 3 v73 v86) fun v87 =>
 rdM (ld true 3 v73) fun v88 =>
 pureM (.t [v88, (.i .i64 0)])
 ) (
 optM (binR .eql .o none v70 (.i .i64 0)) fun v89 =>
 iteM (some v89) (
 optM (bdR [(0, 1), (1, 1), (2, 1)] [(.i .i64 0), (.i .i64 0), (.i .i64 0)] [(0, (.i .i64 3))]) fun v90 =>
 bindM (stR 3 v73 v90) fun v91 =>
 rdM (ld true 3 v73) fun v92 =>
 pureM (.t [v92, (.i .i64 0)])
 ) (
 optM (lnL v75) fun v93 =>
 optM (binR .eql .o none v93 (.i .i64 0)) fun v94 =>
 bindM (gdM (boolV (some v94)) true (pM (some v76))) fun v95 =>
 bindM (gdM (boolV (some v94)) true (pM (lnL v95))) fun v96 =>
 bindM (gdM (boolV (some v94)) true (pM (binR .eql .o none v96 (.i .i64 1)))) fun v97 =>
 optM (pickR v94 v97 (.b false)) fun v98 =>
 bindM (gdM (boolV (some v98)) true (pM (some v81))) fun v99 =>
 bindM (gdM (boolV (some v98)) true (pM (binR .geq .o none v99 (.i .i64 0)))) fun v100 =>
 optM (pickR v98 v100 (.b false)) fun v101 =>
 bindM (gdM (boolV (some v101)) true (pM (some v76))) fun v102 =>
 bindM (gdM (boolV (some v101)) true (pM (iaL 1 v102 (.i .i64 0)))) fun v103 =>
 bindM (gdM (boolV (some v101)) true (rM (ld false 1 v103))) fun v104 =>
 bindM (gdM (boolV (some v101)) true (rM (ld true 5 v72))) fun v105 =>
 bindM (gdM (boolV (some v101)) true (pM (some v69))) fun v106 =>
 bindM (gdM (boolV (some v101)) true (pM (some v81))) fun v107 =>
 bindM (gdM (boolV (some v101)) true (F_geom_Parity N Φ [v105, v106, v107])) fun v108 =>
 chkM (match boolV (some v101) with | some x => cond (okB x true) (ckR (ld false 1 v103) v104) (fun _ => true) | none => fun _ => false) <|
 bindM (gdM (boolV (some v101)) true (pM (binR .eql .o none v104 v108))) fun v109 =>
 optM (pickR v101 v109 (.b false)) fun v110 =>
 bindM (gdM (boolV (some v110)) true (pM (some v71))) fun v111 =>
 bindM (gdM (boolV (some v110)) true (pM (some v76))) fun v112 =>
 bindM (gdM (boolV (some v110)) true (pM (iaL 1 v112 (.i .i64 0)))) fun v113 =>
 bindM (gdM (boolV (some v110)) true (rM (ld false 1 v113))) fun v114 =>
 bindM (gdM (boolV (some v110)) true (pM (iaL 1 v111 v114))) fun v115 =>
 bindM (gdM (boolV (some v110)) true (rM (ld false 1 v115))) fun v116 =>
 bindM (gdM (boolV (some v110)) true (pM (some v74))) fun v117 =>
 bindM (gdM (boolV (some v110)) true (pM (some v76))) fun v118 =>
 bindM (gdM (boolV (some v110)) true (pM (iaL 1 v118 (.i .i64 0)))) fun v119 =>
 bindM (gdM (boolV (some v110)) true (rM (ld false 1 v119))) fun v120 =>
 bindM (gdM (boolV (some v110)) true (pM (iaL 1 v117 v120))) fun v121 =>
 bindM (gdM (boolV (some v110)) true (rM (ld false 1 v121))) fun v122 =>
 bindM (gdM (boolV (some v110)) true (pM (binR .sub .o none v122 (.i .i64 1)))) fun v123 =>
 bindM (gdM (boolV (some v110)) true (pM (binR .eql .o none v116 v123))) fun v124 =>
 optM (pickR v110 v124 (.b false)) fun v125 =>
 iteM (some v125) (
 optM (iaL 1 v76 (.i .i64 0)) fun v126 =>
 rdM (ld false 1 v126) fun v127 =>
 optM (bdR [(0, 1), (1, 1), (2, 1)] [(.i .i64 0), (.i .i64 0), (.i .i64 0)] [(0, (.i .i64 1)), (1, v127), (2, v81)]) fun v128 =>
 bindM (stR 3 v73 v128) fun v129 =>
 rdM (ld true 3 v73) fun v130 =>
 pureM (.t [v130, (.i .i64 0)])
 ) (
 optM (bdR [(0, 1), (1, 1), (2, 1)] [(.i .i64 0), (.i .i64 0), (.i .i64 0)] [(0, (.i .i64 2))]) fun v131 =>
 bindM (stR 3 v73 v131) fun v132 =>
 rdM (ld true 3 v73) fun v133 =>
 pureM (.t [v133, (.i .i64 0)])
 )
 )
 )
 ) <|
 failM)
 (fun vs =>
 unc vs fun v134 vs =>
 unc vs fun v135 vs =>
 unn vs <|
 rdM (ld true 3 v134) fun v136 =>
 pureM (.t [v136, v135])
 )
 )
def an_mend_Decide : An := (.two .n (.two .n (.two (.two .n (.two (.two .n .n) .n)) (.two .n (.two (.two .n (.one (.loop [1, 2, 3, 4, 5, 10, 12, 13, 14, 47, 48, 49] [(0, [1, 2, 3, 5, 10, 12, 13, 14])] [10, 11] (.two .n (.two (.two .n .n) (.two (.cut [1, 2, 3, 4, 5, 10, 12, 13, 14, 47, 48, 49] [] [10, 11] (.one (.two .n (.one (.two .n (.two .n (.two .n (.two .n (.two .n (.two .n .n)))))))))) .n)))))) (.two .n (.two (.one (.two .n (.two (.two .n .n) (.two .n (.two (.two .n .n) (.two .n (.two (.two .n .n) .n))))))) (.two .n .n))))))))

/-- slices.IndexFunc[[]corbel/book.Zone,corbel/book.Zone] -/
def tab_slices_IndexFunc_book_Zone_book_Zone (N : Nat) (Φ : Calls') : Calls' := fun f => Φ f
def F_slices_IndexFunc_book_Zone_book_Zone (N : Nat) (Φ : Calls') : List V → M V := fun args =>
 unc args fun a0 args =>
 unc args fun a1 args =>
 unn args <|
 optM (lnL a0) fun v1 =>
 lrM (
 loopM N (fun vs =>
 unc vs fun v2 vs =>
 unc vs fun v3 vs =>
 unc vs fun v4 vs =>
 unc vs fun v5 vs =>
 unn vs <|
 optM (binR .lss .o none v5 v4) fun v6 =>
 iteM (some v6) (
 optM (iaL 3 v2 v5) fun v7 =>
 rdM (ld true 3 v7) fun v8 =>
 bindM (callF (tab_slices_IndexFunc_book_Zone_book_Zone N Φ) v3 [v8]) fun v9 =>
 iteM (some v9) (
 pureM (.rt [v5])
 ) (
 optM (binR .add .o none v5 (.i .i64 1)) fun v10 =>
 pureM (.nx [v2, v3, v4, v10])
 )
 ) (
 pureM (.ex 0 [])
 )
 ) [a0, a1, v1, (.i .i64 0)])
 (fun vs =>
 failM)
 (fun id vs =>
 cond (Nat.beq id 0) (
 unn vs <|
 pureM (.i .i64 (-1))
 ) <|
 failM)
 (fun vs =>
 unc vs fun v11 vs =>
 unn vs <|
 pureM v11
 )
def an_slices_IndexFunc_book_Zone_book_Zone : An := (.two .n (.two (.two .n (.one (.loop [0, 1, 7, 8] [(0, [])] [4] (.two .n (.two (.two .n .n) (.two (.one (.two .n (.two .n (.two (.two .n .n) .n)))) .n)))))) (.two .n .n)))

/-- slices.ContainsFunc[[]corbel/book.Zone,corbel/book.Zone] -/
def tab_slices_ContainsFunc_book_Zone_book_Zone (N : Nat) (Φ : Calls') : Calls' := fun f => cond (Nat.beq f id_slices_IndexFunc_book_Zone_book_Zone) (some (F_slices_IndexFunc_book_Zone_book_Zone N Φ)) (Φ f)
def F_slices_ContainsFunc_book_Zone_book_Zone (N : Nat) (Φ : Calls') : List V → M V := fun args =>
 unc args fun a0 args =>
 unc args fun a1 args =>
 unn args <|
 bindM (F_slices_IndexFunc_book_Zone_book_Zone N Φ [a0, a1]) fun v1 =>
 optM (binR .geq .o none v1 (.i .i64 0)) fun v2 =>
 pureM v2
def an_slices_ContainsFunc_book_Zone_book_Zone : An := (.two .n (.two .n .n))

/-- (corbel/book.Book).Free$1 -/
def tab_book_Book_Free_1 (N : Nat) (Φ : Calls') : Calls' := fun f => Φ f
def F_book_Book_Free_1 (N : Nat) (Φ : Calls') : List V → M V := fun args =>
 unc args fun a0 args =>
 unc args fun a1 args =>
 unn args <|
 alM (boxR a0) fun v1 =>
 optM (faR 0 v1) fun v2 =>
 rdM (ld false 1 v2) fun v3 =>
 rdM (ld false 1 a1) fun v4 =>
 optM (binR .eql .o none v3 v4) fun v5 =>
 pureM v5
def an_book_Book_Free_1 : An := (.two .n (.two .n .n))

/-- (corbel/book.Book).Free -/
def tab_book_Book_Free (N : Nat) (Φ : Calls') : Calls' := fun f => cond (Nat.beq f id_slices_ContainsFunc_book_Zone_book_Zone) (some (F_slices_ContainsFunc_book_Zone_book_Zone N Φ)) (Φ f)
def F_book_Book_Free (N : Nat) (Φ : Calls') : List V → M V := fun args =>
 unc args fun a0 args =>
 unc args fun a1 args =>
 unn args <|
 alM (boxR a0) fun v1 =>
 alM (boxR a1) fun v2 =>
 alM (alR 3 [(.i .i64 0)]) fun v3 =>
 bindM (stR 1 v3 (.i .i64 2)) fun v4 =>
 lrM (
 loopM N (fun vs =>
 unc vs fun v5 vs =>
 unc vs fun v6 vs =>
 unc vs fun v7 vs =>
 unn vs <|
 rdM (ld false 1 v7) fun v8 =>
 optM (faR 1 v6) fun v9 =>
 rdM (ld false 1 v9) fun v10 =>
 optM (binR .lss .o none v8 v10) fun v11 =>
 iteM (some v11) (
 optM (faR 1 v5) fun v12 =>
 rdM (ld false 1 v12) fun v13 =>
 bindM (F_slices_ContainsFunc_book_Zone_book_Zone N Φ [v13, (.f id_book_Book_Free_1 [] [v7])]) fun v14 =>
 optM (unV .not v14) fun v15 =>
 iteM (some v15) (
 rdM (ld false 1 v7) fun v16 =>
 pureM (.rt [v16])
 ) (
 rdM (ld false 1 v7) fun v17 =>
 alM (alR 3 [(.i .i64 0)]) fun v18 =>
 bindM (stR 1 v18 v17) fun v19 =>
 rdM (ld false 1 v18) fun v20 =>
 optM (binR .add .o none v20 (.i .i64 1)) fun v21 =>
 bindM (stR 1 v18 v21) fun v22 =>
 pureM (.nx [v5, v6, v18])
 )
 ) (
 pureM (.ex 0 [])
 )
 ) [v1, v2, v3])
 (fun vs =>
 failM)
 (fun id vs =>
 cond (Nat.beq id 0) (
 unn vs <|
 pureM (.i .i64 (-1))
 ) <|
 failM)
 (fun vs =>
 unc vs fun v23 vs =>
 unn vs <|
 pureM v23
 )
def an_book_Book_Free : An := (.two .n (.two (.two .n (.one (.loop [2, 3, 5] [(0, [])] [4] (.two (.two .n (.two .n .n)) (.two (.one (.two .n (.two (.two .n .n) .n))) (.two (.two .n .n) .n)))))) (.two .n .n)))

/-- (*corbel/array.Array).move$1 -/
def tab_array_Array_move_1 (N : Nat) (Φ : Calls') : Calls' := fun f => cond (Nat.beq f id_array_Array_clear) (some (F_array_Array_clear N Φ)) (Φ f)
def F_array_Array_move_1 (N : Nat) (Φ : Calls') : List V → M V := fun args =>
 unc args fun a0 args =>
 unc args fun a1 args =>
 unn args <|
 rdM (ld false 1 a0) fun v1 =>
 optM (faR 0 a1) fun v2 =>
 rdM (ld false 1 v2) fun v3 =>
 bindM (F_array_Array_clear N Φ [v1, v3]) fun v4 =>
 pureM v4
def an_array_Array_move_1 : An := (.two .n (.two .n .n))

/-- (*corbel/array.Array).copy -/
def tab_array_Array_copy (N : Nat) (Φ : Calls') : Calls' := fun f => cond (Nat.beq f id_plan_Write) (some (F_plan_Write N Φ)) (cond (Nat.beq f id_array_Array_lay) (some (F_array_Array_lay N Φ)) (cond (Nat.beq f id_array_Array_tell) (some (F_array_Array_tell N Φ)) (cond (Nat.beq f id_xor_Add) (some (F_xor_Add N Φ)) (Φ f))))
def F_array_Array_copy (N : Nat) (Φ : Calls') : List V → M V := fun args =>
 unc args fun a0 args =>
 unc args fun a1 args =>
 unc args fun a2 args =>
 unc args fun a3 args =>
 unn args <|
 alM (boxR a2) fun v1 =>
 optM (faR 3 v1) fun v2 =>
 rdM (ld false 1 v2) fun v3 =>
 optM (binR .eql .o none v3 (.i .i64 0)) fun v4 =>
 iteM (some v4) (
 pureM (.i .i64 0)
 ) (
 optM (nilR a0) fun v5 =>
 optM (faR 1 v5) fun v6 =>
 rdM (ld true 5 v6) fun v7 =>
 optM (faR 3 v1) fun v8 =>
 rdM (ld false 1 v8) fun v9 =>
 bindM (F_plan_Write N Φ [v7, a1, (.i .i64 0), v9]) fun v10 =>
 optM (exR 0 v10) fun v11 =>
 optM (exR 1 v10) fun v12 =>
 optM (binR .neq .o none v12 (.i .i64 0)) fun v13 =>
 iteM (some v13) (
 pureM v12
 ) (
 optM (lnL v11) fun v14 =>
 lrM (
 loopM N (fun vs =>
 unc vs fun v15 vs =>
 unc vs fun v16 vs =>
 unc vs fun v17 vs =>
 unc vs fun v18 vs =>
 unc vs fun v19 vs =>
 unc vs fun v20 vs =>
 unc vs fun v21 vs =>
 unc vs fun v22 vs =>
 unn vs <|
 optM (binR .lss .o none v22 v21) fun v23 =>
 iteM (some v23) (
 lrM (
 optM (iaL 5 v20 v22) fun v24 =>
 rdM (ld true 5 v24) fun v25 =>
 alM (alR 136 [(.i .i64 0), (.i .i64 0), (.i .i64 0), (.i .i64 0), (.i .i64 0)]) fun v26 =>
 bindM (stR 5 v26 v25) fun v27 =>
 optM (faR 0 v26) fun v28 =>
 rdM (ld false 1 v28) fun v29 =>
 optM (binR .eql .o none v29 (.i .i64 1)) fun v30 =>
 iteM (some v30) (
 optM (faR 3 v26) fun v31 =>
 rdM (ld false 1 v31) fun v32 =>
 rdM (ld true 5 v18) fun v33 =>
 bindM (F_array_Array_tell N Φ [v15, v16, v32, v33]) fun v34 =>
 optM (exR 0 v34) fun v35 =>
 optM (exR 1 v34) fun v36 =>
 optM (binR .neq .o none v36 (.i .i64 0)) fun v37 =>
 iteM (some v37) (
 pureM (.rt [v36])
 ) (
 bindM (F_xor_Add N Φ [v19, v35]) fun v38 =>
 optM (faR 1 v26) fun v39 =>
 rdM (ld false 1 v39) fun v40 =>
 bindM (F_array_Array_lay N Φ [v15, v40, v17, v35]) fun v41 =>
 optM (binR .neq .o none v41 (.i .i64 0)) fun v42 =>
 iteM (some v42) (
 pureM (.rt [v41])
 ) (
 pureM (.nx [v15, v16, v17, v18, v38, v20, v21, v22])
 )
 )
 ) (
 optM (binR .eql .o none v29 (.i .i64 2)) fun v43 =>
 iteM (some v43) (
 optM (faR 1 v26) fun v44 =>
 rdM (ld false 1 v44) fun v45 =>
 bindM (F_array_Array_lay N Φ [v15, v45, v17, v19]) fun v46 =>
 optM (binR .neq .o none v46 (.i .i64 0)) fun v47 =>
 iteM (some v47) (
 pureM (.rt [v46])
 ) (
 pureM (.nx [v15, v16, v17, v18, (.s []), v20, v21, v22])
 )
 ) (
 pureM (.nx [v15, v16, v17, v18, v19, v20, v21, v22])
 )
 )
 )
 (fun vs =>
 unc vs fun v48 vs =>
 unc vs fun v49 vs =>
 unc vs fun v50 vs =>
 unc vs fun v51 vs =>
 unc vs fun v52 vs =>
 unc vs fun v53 vs =>
 unc vs fun v54 vs =>
 unc vs fun v55 vs =>
 unn vs <|
 optM (binR .add .o none v55 (.i .i64 1)) fun v56 =>
 pureM (.nx [v48, v49, v50, v51, v52, v53, v54, v56])
 )
 (fun id vs =>
 failM)
 (fun vs =>
 unc vs fun v57 vs =>
 unn vs <|
 pureM (.rt [v57])
 )
 ) (
 pureM (.ex 0 [])
 )
 ) [a0, a1, a3, v1, (.s []), v11, v14, (.i .i64 0)])
 (fun vs =>
 failM)
 (fun id vs =>
 cond (Nat.beq id 0) (
 unn vs <|
 pureM (.i .i64 0)
 ) <|
 failM)
 (fun vs =>
 unc vs fun v58 vs =>
 unn vs <|
 pureM v58
 )
 )
 )
def an_array_Array_copy : An := (.two .n (.two (.two .n (.two (.two .n .n) .n)) (.two .n (.two (.two .n (.two (.two .n .n) .n)) (.two .n (.two (.two .n (.one (.loop [0, 1, 3, 6, 11, 34, 35, 36] [(0, [])] [8] (.two .n (.two (.two .n .n) (.two (.cut [0, 1, 3, 6, 11, 34, 35, 36] [] [8] (.one (.two .n (.two .n (.one (.two .n (.two (.two .n (.two (.two .n (.two (.two .n .n) .n)) (.two .n (.two .n (.two .n (.two (.two .n .n) .n)))))) (.two .n (.two (.two (.two .n (.two .n (.two (.two .n .n) .n))) .n) .n))))))))) .n)))))) (.two .n .n)))))))

/-- (*corbel/array.Array).move$2 -/
def tab_array_Array_move_2 (N : Nat) (Φ : Calls') : Calls' := fun f => cond (Nat.beq f id_array_Array_copy) (some (F_array_Array_copy N Φ)) (Φ f)
def F_array_Array_move_2 (N : Nat) (Φ : Calls') : List V → M V := fun args =>
 unc args fun a0 args =>
 unc args fun a1 args =>
 unc args fun a2 args =>
 unc args fun a3 args =>
 unn args <|
 rdM (ld false 1 a0) fun v1 =>
 rdM (ld false 1 a1) fun v2 =>
 rdM (ld true 5 a2) fun v3 =>
 optM (faR 0 a3) fun v4 =>
 rdM (ld false 1 v4) fun v5 =>
 bindM (F_array_Array_copy N Φ [v1, v2, v3, v5]) fun v6 =>
 pureM v6
def an_array_Array_move_2 : An := (.two .n (.two .n .n))

/-- (*corbel/array.Array).foretell -/
def tab_array_Array_foretell (N : Nat) (Φ : Calls') : Calls' := fun f => cond (Nat.beq f id_array_Array_has) (some (F_array_Array_has N Φ)) (cond (Nat.beq f id_geom_Parity) (some (F_geom_Parity N Φ)) (cond (Nat.beq f id_array_Array_note) (some (F_array_Array_note N Φ)) (cond (Nat.beq f id_stripe_Row_Count) (some (F_stripe_Row_Count N Φ)) (cond (Nat.beq f id_array_Array_noted) (some (F_array_Array_noted N Φ)) (cond (Nat.beq f id_array_line_note) (some (F_array_line_note N Φ)) (Φ f))))))
def F_array_Array_foretell (N : Nat) (Φ : Calls') : List V → M V := fun args =>
 unc args fun a0 args =>
 unc args fun a1 args =>
 unc args fun a2 args =>
 unn args <|
 alM (boxR a2) fun v1 =>
 optM (nilR a0) fun v2 =>
 optM (faR 13 v2) fun v3 =>
 rdM (ld false 1 v3) fun v4 =>
 optM (iaL 3 v4 a1) fun v5 =>
 rdM (ld true 3 v5) fun v6 =>
 alM (alR 141 [(.i .i64 0), (.i .i64 0), .ns]) fun v7 =>
 bindM (stR 3 v7 v6) fun v8 =>
 optM (nilR a0) fun v9 =>
 optM (faR 1 v9) fun v10 =>
 rdM (ld true 5 v10) fun v11 =>
 optM (faR 0 v7) fun v12 =>
 rdM (ld false 1 v12) fun v13 =>
 bindM (F_geom_Parity N Φ [v11, a1, v13]) fun v14 =>
 optM (faR 1 v7) fun v15 =>
 rdM (ld true 2 v15) fun v16 =>
 bindM (F_stripe_Row_Count N Φ [v16]) fun v17 =>
 optM (binR .eql .o none v17 (.i .i64 0)) fun v18 =>
 bindM (gdM (boolV (some v18)) false (pM (some a0))) fun v19 =>
 bindM (gdM (boolV (some v18)) false (pM (some v14))) fun v20 =>
 bindM (gdM (boolV (some v18)) false (pM (faR 0 v1))) fun v21 =>
 bindM (gdM (boolV (some v18)) false (rM (ld false 1 v21))) fun v22 =>
 bindM (gdM (boolV (some v18)) false (F_array_Array_has N Φ [v19, v20, v22])) fun v23 =>
 bindM (gdM (boolV (some v18)) false (pM (unV .not v23))) fun v24 =>
 optM (pickR v18 (.b true) v24) fun v25 =>
 iteM (some v25) (
 pureM (.i .i64 0)
 ) (
 optM (faR 1 v1) fun v26 =>
 rdM (ld false 1 v26) fun v27 =>
 rdM (ld true 3 v7) fun v28 =>
 bindM (F_array_line_note N Φ [v28]) fun v29 =>
 chkM (ckR (ld false 1 v26) v27) <|
 bindM (F_array_Array_noted N Φ [a0, a1, v27, v29]) fun v30 =>
 bindM (F_array_Array_note N Φ [a0, v14, v30]) fun v31 =>
 pureM v31
 )
def an_array_Array_foretell : An := (.two .n (.two .n (.two .n (.two (.two .n (.two (.two .n .n) .n)) (.two .n .n)))))

/-- (*corbel/array.Array).move$3 -/
def tab_array_Array_move_3 (N : Nat) (Φ : Calls') : Calls' := fun f => cond (Nat.beq f id_array_Array_foretell) (some (F_array_Array_foretell N Φ)) (Φ f)
def F_array_Array_move_3 (N : Nat) (Φ : Calls') : List V → M V := fun args =>
 unc args fun a0 args =>
 unc args fun a1 args =>
 unc args fun a2 args =>
 unn args <|
 rdM (ld false 1 a0) fun v1 =>
 rdM (ld false 1 a1) fun v2 =>
 rdM (ld true 3 a2) fun v3 =>
 bindM (F_array_Array_foretell N Φ [v1, v2, v3]) fun v4 =>
 pureM v4
def an_array_Array_move_3 : An := (.two .n (.two .n .n))

/-- (*corbel/array.Array).move$4 -/
def tab_array_Array_move_4 (N : Nat) (Φ : Calls') : Calls' := fun f => cond (Nat.beq f id_array_Array_set) (some (F_array_Array_set N Φ)) (Φ f)
def F_array_Array_move_4 (N : Nat) (Φ : Calls') : List V → M V := fun args =>
 unc args fun a0 args =>
 unc args fun a1 args =>
 unc args fun a2 args =>
 unn args <|
 rdM (ld false 1 a0) fun v1 =>
 rdM (ld false 1 a1) fun v2 =>
 rdM (ld true 3 a2) fun v3 =>
 bindM (F_array_Array_set N Φ [v1, v2, v3]) fun v4 =>
 pureM v4
def an_array_Array_move_4 : An := (.two .n (.two .n .n))

/-- (*corbel/array.Array).move$5 -/
def tab_array_Array_move_5 (N : Nat) (Φ : Calls') : Calls' := fun f => cond (Nat.beq f id_array_Array_clear) (some (F_array_Array_clear N Φ)) (Φ f)
def F_array_Array_move_5 (N : Nat) (Φ : Calls') : List V → M V := fun args =>
 unc args fun a0 args =>
 unc args fun a1 args =>
 unn args <|
 rdM (ld false 1 a0) fun v1 =>
 optM (faR 0 a1) fun v2 =>
 rdM (ld false 1 v2) fun v3 =>
 bindM (F_array_Array_clear N Φ [v1, v3]) fun v4 =>
 pureM v4
def an_array_Array_move_5 : An := (.two .n (.two .n .n))

/-- (*corbel/array.Array).move -/
def tab_array_Array_move (N : Nat) (Φ : Calls') : Calls' := fun f => cond (Nat.beq f id_array_run) (some (F_array_run N Φ)) (cond (Nat.beq f id_book_Book_Free) (some (F_book_Book_Free N Φ)) (Φ f))
def F_array_Array_move (N : Nat) (Φ : Calls') : List V → M V := fun args =>
 unc args fun a0 args =>
 unc args fun a1 args =>
 unc args fun a2 args =>
 unn args <|
 alM (boxR a0) fun v1 =>
 alM (boxR a1) fun v2 =>
 alM (boxR a2) fun v3 =>
 rdM (ld false 1 v1) fun v4 =>
 optM (nilR v4) fun v5 =>
 optM (faR 6 v5) fun v6 =>
 optM (faR 1 v6) fun v7 =>
 rdM (ld false 1 v7) fun v8 =>
 rdM (ld false 1 v2) fun v9 =>
 optM (iaL 3 v8 v9) fun v10 =>
 rdM (ld true 3 v10) fun v11 =>
 alM (alR 134 [(.i .i64 0), (.i .i64 0), (.i .i64 0)]) fun v12 =>
 bindM (stR 3 v12 v11) fun v13 =>
 rdM (ld false 1 v1) fun v14 =>
 optM (nilR v14) fun v15 =>
 optM (faR 6 v15) fun v16 =>
 rdM (ld true 5 v16) fun v17 =>
 rdM (ld false 1 v1) fun v18 =>
 optM (nilR v18) fun v19 =>
 optM (faR 1 v19) fun v20 =>
 rdM (ld true 5 v20) fun v21 =>
 optM (faR 1 v12) fun v22 =>
 rdM (ld false 1 v22) fun v23 =>
 optM (binR .add .o none v23 (.i .i64 1)) fun v24 =>
 optM (faR 2 v12) fun v25 =>
 rdM (ld false 1 v25) fun v26 =>
 alM (alR 134 [(.i .i64 0), (.i .i64 0), (.i .i64 0)]) fun v27 =>
 bindM (F_book_Book_Free N Φ [v17, v21]) fun v28 =>
 chkM (ckA (alR 134 [(.i .i64 0), (.i .i64 0), (.i .i64 0)]) v27) <|
 chkM (ckR (ld false 1 v25) v26) <|
 chkM (ckR (ld false 1 v22) v23) <|
 optM (bdR [(0, 1), (1, 1), (2, 1)] [(.i .i64 0), (.i .i64 0), (.i .i64 0)] [(0, v28), (1, v24), (2, v26)]) fun v29 =>
 bindM (stR 3 v27 v29) fun v30 =>
 rdM (ld false 1 v1) fun v31 =>
 rdM (ld false 1 v1) fun v32 =>
 rdM (ld false 1 v1) fun v33 =>
 alM (bsR 8 1 (zeros [.nf] 8) [(0, (.f id_array_Array_move_1 [] [v1, v27])), (1, (.f id_array_Array_move_2 [] [v1, v2, v3, v27])), (2, (.f id_array_Array_flush [v31] [])), (3, (.f id_array_Array_move_3 [] [v1, v2, v27])), (4, (.f id_array_Array_flush [v32] [])), (5, (.f id_array_Array_move_4 [] [v1, v2, v27])), (6, (.f id_array_Array_flush [v33] [])), (7, (.f id_array_Array_move_5 [] [v1, v12]))]) fun v34 =>
 bindM (F_array_run N Φ [v34]) fun v35 =>
 pureM v35
def an_array_Array_move : An := (.two .n (.two .n (.two .n (.two .n .n))))

/-- (*corbel/array.Array).mend -/
def tab_array_Array_mend (N : Nat) (Φ : Calls') : Calls' := fun f => cond (Nat.beq f id_array_Array_lay) (some (F_array_Array_lay N Φ)) (cond (Nat.beq f id_array_Array_empty) (some (F_array_Array_empty N Φ)) (cond (Nat.beq f id_array_run) (some (F_array_run N Φ)) (cond (Nat.beq f id_array_Array_wide) (some (F_array_Array_wide N Φ)) (cond (Nat.beq f id_array_Array_tell) (some (F_array_Array_tell N Φ)) (cond (Nat.beq f id_xor_Add) (some (F_xor_Add N Φ)) (cond (Nat.beq f id_mend_Decide) (some (F_mend_Decide N Φ)) (cond (Nat.beq f id_array_Array_move) (some (F_array_Array_move N Φ)) (Φ f))))))))
def F_array_Array_mend (N : Nat) (Φ : Calls') : List V → M V := fun args =>
 unc args fun a0 args =>
 unc args fun a1 args =>
 unc args fun a2 args =>
 unn args <|
 alM (boxR a0) fun v1 =>
 alM (boxR a1) fun v2 =>
 alM (boxR a2) fun v3 =>
 rdM (ld false 1 v1) fun v4 =>
 optM (nilR v4) fun v5 =>
 optM (faR 6 v5) fun v6 =>
 optM (faR 1 v6) fun v7 =>
 rdM (ld false 1 v7) fun v8 =>
 rdM (ld false 1 v2) fun v9 =>
 optM (iaL 3 v8 v9) fun v10 =>
 rdM (ld true 3 v10) fun v11 =>
 alM (alR 134 [(.i .i64 0), (.i .i64 0), (.i .i64 0)]) fun v12 =>
 bindM (stR 3 v12 v11) fun v13 =>
 optM (faR 2 v12) fun v14 =>
 rdM (ld false 1 v14) fun v15 =>
 optM (binR .eql .o none v15 (.i .i64 1)) fun v16 =>
 iteM (some v16) (
 alM (bsR 2 1 (zeros [.nf] 2) [(0, (.f id_array_Array_mend_1 [] [v1, v12])), (1, (.f id_array_Array_mend_2 [] [v1, v2, v12]))]) fun v17 =>
 bindM (F_array_run N Φ [v17]) fun v18 =>
 pureM v18
 ) (
 rdM (ld false 1 v1) fun v19 =>
 optM (nilR v19) fun v20 =>
 optM (faR 1 v20) fun v21 =>
 rdM (ld true 5 v21) fun v22 =>
 rdM (ld false 1 v2) fun v23 =>
 optM (faR 3 v3) fun v24 =>
 rdM (ld false 1 v24) fun v25 =>
 optM (faR 0 v3) fun v26 =>
 optM (faR 0 v26) fun v27 =>
 rdM (ld false 1 v27) fun v28 =>
 optM (faR 0 v3) fun v29 =>
 optM (faR 1 v29) fun v30 =>
 rdM (ld false 1 v30) fun v31 =>
 alM (alR 259 [(.i .i64 0), (.i .i64 0), (.i .i64 0)]) fun v32 =>
 bindM (F_mend_Decide N Φ [v22, v23, v25, v28, v31]) fun v33 =>
 chkM (ckA (alR 259 [(.i .i64 0), (.i .i64 0), (.i .i64 0)]) v32) <|
 optM (exR 0 v33) fun v34 =>
 optM (exR 1 v33) fun v35 =>
 bindM (stR 3 v32 v34) fun v36 =>
 optM (binR .neq .o none v35 (.i .i64 0)) fun v37 =>
 iteM (some v37) (
 pureM v35
 ) (
 optM (faR 0 v32) fun v38 =>
 rdM (ld false 1 v38) fun v39 =>
 optM (binR .eql .o none v39 (.i .i64 3)) fun v40 =>
 iteM (some v40) (
 rdM (ld false 1 v1) fun v41 =>
 rdM (ld false 1 v2) fun v42 =>
 optM (faR 0 v12) fun v43 =>
 rdM (ld false 1 v43) fun v44 =>
 optM (faR 1 v12) fun v45 =>
 rdM (ld false 1 v45) fun v46 =>
 optM (binR .add .o none v46 (.i .i64 1)) fun v47 =>
 optM (bdR [(0, 1), (1, 1), (2, 1)] [(.i .i64 0), (.i .i64 0), (.i .i64 0)] [(0, v44), (1, v47), (2, (.i .i64 1))]) fun v48 =>
 bindM (F_array_Array_empty N Φ [v41, v42, v48]) fun v49 =>
 pureM v49
 ) (
 optM (binR .eql .o none v39 (.i .i64 1)) fun v50 =>
 iteM (some v50) (
 optM (faR 2 v32) fun v51 =>
 rdM (ld false 1 v51) fun v52 =>
 rdM (ld false 1 v1) fun v53 =>
 bindM (F_array_Array_wide N Φ [v53]) fun v54 =>
 chkM (ckR (ld false 1 v51) v52) <|
 optM (binR .mul .o none v52 v54) fun v55 =>
 lrM (
 loopM N (fun vs =>
 unc vs fun v56 vs =>
 unc vs fun v57 vs =>
 unc vs fun v58 vs =>
 unc vs fun v59 vs =>
 unc vs fun v60 vs =>
 unc vs fun v61 vs =>
 unc vs fun v62 vs =>
 unn vs <|
 optM (faR 2 v60) fun v63 =>
 rdM (ld false 1 v63) fun v64 =>
 optM (binR .add .o none v64 (.i .i64 1)) fun v65 =>
 rdM (ld false 1 v56) fun v66 =>
 bindM (F_array_Array_wide N Φ [v66]) fun v67 =>
 chkM (ckR (ld false 1 v63) v64) <|
 optM (binR .mul .o none v65 v67) fun v68 =>
 optM (binR .lss .o none v62 v68) fun v69 =>
 iteM (some v69) (
 rdM (ld false 1 v56) fun v70 =>
 rdM (ld false 1 v57) fun v71 =>
 rdM (ld true 5 v58) fun v72 =>
 bindM (F_array_Array_tell N Φ [v70, v71, v62, v72]) fun v73 =>
 optM (exR 0 v73) fun v74 =>
 optM (exR 1 v73) fun v75 =>
 optM (binR .neq .o none v75 (.i .i64 0)) fun v76 =>
 iteM (some v76) (
 pureM (.rt [v75])
 ) (
 bindM (F_xor_Add N Φ [v61, v74]) fun v77 =>
 optM (binR .add .o none v62 (.i .i64 1)) fun v78 =>
 pureM (.nx [v56, v57, v58, v59, v60, v77, v78])
 )
 ) (
 pureM (.ex 1 [v56, v59, v60, v61])
 )
 ) [v1, v2, v3, v12, v32, (.s []), v55])
 (fun vs =>
 failM)
 (fun id vs =>
 cond (Nat.beq id 1) (
 unc vs fun v79 vs =>
 unc vs fun v80 vs =>
 unc vs fun v81 vs =>
 unc vs fun v82 vs =>
 unn vs <|
 rdM (ld false 1 v79) fun v83 =>
 optM (faR 1 v81) fun v84 =>
 rdM (ld false 1 v84) fun v85 =>
 optM (faR 0 v80) fun v86 =>
 rdM (ld false 1 v86) fun v87 =>
 bindM (F_array_Array_lay N Φ [v83, v85, v87, v82]) fun v88 =>
 pureM v88
 ) <|
 failM)
 (fun vs =>
 unc vs fun v89 vs =>
 unn vs <|
 pureM v89
 )
 ) (
 optM (binR .eql .o none v39 (.i .i64 2)) fun v90 =>
 iteM (some v90) (
 rdM (ld false 1 v1) fun v91 =>
 rdM (ld false 1 v2) fun v92 =>
 rdM (ld true 5 v3) fun v93 =>
 bindM (F_array_Array_move N Φ [v91, v92, v93]) fun v94 =>
 pureM v94
 ) (
 pureM (.i .i64 0)
 )
 )
 )
 )
 )
def an_array_Array_mend : An := (.two .n (.two .n (.two (.two .n (.two (.two .n .n) .n)) (.two .n (.two (.two .n (.two (.two .n .n) .n)) (.two (.two .n (.one (.two .n (.two (.two .n .n) (.two .n (.two (.two .n (.two (.two .n (.one (.loop [3, 4, 5, 7, 8, 10, 11] [(1, [3, 7, 8, 10])] [6] (.two (.two .n (.two .n .n)) (.two (.one (.two .n (.two (.two .n (.two (.two .n .n) .n)) .n))) .n))))) (.two .n .n))) (.two .n (.two (.two .n .n) .n)))))))) (.two .n .n)))))))

/-- corbel/array.Limits -/
def tab_array_Limits (N : Nat) (Φ : Calls') : Calls' := fun f => cond (Nat.beq f id_array_Good) (some (F_array_Good N Φ)) (cond (Nat.beq f id_geom_Zones) (some (F_geom_Zones N Φ)) (Φ f))
def F_array_Limits (N : Nat) (Φ : Calls') : List V → M V := fun args =>
 unc args fun a0 args =>
 unn args <|
 alM (boxR a0) fun v1 =>
 rdM (ld true 5 v1) fun v2 =>
 bindM (F_array_Good N Φ [v2]) fun v3 =>
 optM (unV .not v3) fun v4 =>
 iteM (some v4) (
 pureM (.t [(.i .i64 0), (.i .i64 0)])
 ) (
 rdM (ld true 5 v1) fun v5 =>
 optM (faR 4 v1) fun v6 =>
 rdM (ld false 1 v6) fun v7 =>
 optM (binR .sub .o none v7 (.i .i64 3)) fun v8 =>
 bindM (F_geom_Zones N Φ [v5]) fun v9 =>
 chkM (ckR (ld false 1 v6) v7) <|
 optM (foldInts minI [v9, v8]) fun v10 =>
 optM (faR 3 v1) fun v11 =>
 rdM (ld false 1 v11) fun v12 =>
 optM (foldInts minI [v12, v10]) fun v13 =>
 pureM (.t [v13, v10])
 )
def an_array_Limits : An := (.two .n (.two (.two .n (.two (.two .n .n) .n)) (.two .n (.two .n .n))))

/-- corbel/zone.New -/
def tab_zone_New (N : Nat) (Φ : Calls') : Calls' := fun f => Φ f
def F_zone_New (N : Nat) (Φ : Calls') : List V → M V := fun args =>
 unc args fun a0 args =>
 unc args fun a1 args =>
 unc args fun a2 args =>
 unc args fun a3 args =>
 unn args <|
 optM (binR .lss .o none a0 (.i .i64 1)) fun v1 =>
 bindM (gdM (boolV (some v1)) false (pM (some a0))) fun v2 =>
 bindM (gdM (boolV (some v1)) false (pM (binR .gtr .o none v2 (.i .i64 64)))) fun v3 =>
 optM (pickR v1 (.b true) v3) fun v4 =>
 bindM (gdM (boolV (some v4)) false (pM (some a1))) fun v5 =>
 bindM (gdM (boolV (some v4)) false (pM (binR .lss .o none v5 (.i .i64 1)))) fun v6 =>
 optM (pickR v4 (.b true) v6) fun v7 =>
 bindM (gdM (boolV (some v7)) false (pM (some a1))) fun v8 =>
 bindM (gdM (boolV (some v7)) false (pM (binR .gtr .o none v8 (.i .i64 4096)))) fun v9 =>
 optM (pickR v7 (.b true) v9) fun v10 =>
 bindM (gdM (boolV (some v10)) false (pM (some a2))) fun v11 =>
 bindM (gdM (boolV (some v10)) false (pM (binR .lss .o none v11 (.i .i64 1)))) fun v12 =>
 optM (pickR v10 (.b true) v12) fun v13 =>
 bindM (gdM (boolV (some v13)) false (pM (some a2))) fun v14 =>
 bindM (gdM (boolV (some v13)) false (pM (some a3))) fun v15 =>
 bindM (gdM (boolV (some v13)) false (pM (binR .gtr .o none v14 v15))) fun v16 =>
 optM (pickR v13 (.b true) v16) fun v17 =>
 bindM (gdM (boolV (some v17)) false (pM (some a3))) fun v18 =>
 bindM (gdM (boolV (some v17)) false (pM (some a0))) fun v19 =>
 bindM (gdM (boolV (some v17)) false (pM (binR .gtr .o none v18 v19))) fun v20 =>
 optM (pickR v17 (.b true) v20) fun v21 =>
 iteM (some v21) (
 pureM (.t [.pn, (.i .i64 1)])
 ) (
 alM (mkR 2 16 [(.i .i64 0), (.i .i64 0)] a0 a0) fun v22 =>
 optM (bdR [(0, 1), (1, 1), (2, 1), (3, 1)] [.ns, (.i .i64 0), (.i .i64 0), (.i .i64 0)] [(0, v22), (1, a1), (2, a2), (3, a3)]) fun v23 =>
 alM (boxR v23) fun v24 =>
 pureM (.t [v24, (.i .i64 0)])
 )
def an_zone_New : An := (.two .n (.two (.two .n (.two (.two .n .n) .n)) (.two .n .n)))

/-- (*corbel/array.Array).state -/
def tab_array_Array_state (N : Nat) (Φ : Calls') : Calls' := fun f => cond (Nat.beq f id_zone_Machine_Do) (some (F_zone_Machine_Do N Φ)) (cond (Nat.beq f id_array_Array_shut) (some (F_array_Array_shut N Φ)) (Φ f))
def F_array_Array_state (N : Nat) (Φ : Calls') : List V → M V := fun args =>
 unc args fun a0 args =>
 unc args fun a1 args =>
 unc args fun a2 args =>
 unn args <|
 lrM (
 optM (binR .gtr .o none a2 (.i .i64 0)) fun v1 =>
 iteM (some v1) (
 optM (nilR a0) fun v2 =>
 optM (faR 12 v2) fun v3 =>
 rdM (ld false 1 v3) fun v4 =>
 optM (bdR [(0, 1), (1, 1), (2, 1), (3, 1)] [(.i .i64 0), (.i .i64 0), (.i .i64 0), (.i .i64 0)] [(0, (.i .i64 2)), (1, a1), (3, a2)]) fun v5 =>
 bindM (F_zone_Machine_Do N Φ [v4, v5]) fun v6 =>
 optM (exR 0 v6) fun v7 =>
 optM (exR 1 v6) fun v8 =>
 optM (binR .neq .o none v8 (.i .i64 0)) fun v9 =>
 iteM (some v9) (
 pureM (.rt [v8])
 ) (
 pureM (.nx [a0, a1])
 )
 ) (
 pureM (.nx [a0, a1])
 )
 )
 (fun vs =>
 unc vs fun v10 vs =>
 unc vs fun v11 vs =>
 unn vs <|
 optM (nilR v10) fun v12 =>
 optM (faR 6 v12) fun v13 =>
 optM (faR 1 v13) fun v14 =>
 rdM (ld false 1 v14) fun v15 =>
 optM (iaL 3 v15 v11) fun v16 =>
 rdM (ld true 3 v16) fun v17 =>
 alM (alR 134 [(.i .i64 0), (.i .i64 0), (.i .i64 0)]) fun v18 =>
 bindM (stR 3 v18 v17) fun v19 =>
 optM (faR 2 v18) fun v20 =>
 rdM (ld false 1 v20) fun v21 =>
 optM (binR .neq .o none v21 (.i .i64 2)) fun v22 =>
 iteM (some v22) (
 pureM (.i .i64 0)
 ) (
 optM (nilR v10) fun v23 =>
 optM (faR 12 v23) fun v24 =>
 rdM (ld false 1 v24) fun v25 =>
 optM (bdR [(0, 1), (1, 1), (2, 1), (3, 1)] [(.i .i64 0), (.i .i64 0), (.i .i64 0), (.i .i64 0)] [(0, (.i .i64 4)), (1, v11)]) fun v26 =>
 bindM (F_zone_Machine_Do N Φ [v25, v26]) fun v27 =>
 optM (exR 0 v27) fun v28 =>
 optM (exR 1 v27) fun v29 =>
 optM (binR .neq .o none v29 (.i .i64 0)) fun v30 =>
 iteM (some v30) (
 pureM v29
 ) (
 optM (faR 0 v18) fun v31 =>
 rdM (ld false 1 v31) fun v32 =>
 bindM (F_array_Array_shut N Φ [v10, v32]) fun v33 =>
 pureM v33
 )
 )
 )
 (fun id vs =>
 failM)
 (fun vs =>
 unc vs fun v34 vs =>
 unn vs <|
 pureM v34
 )
def an_array_Array_state : An := (.two .n (.two (.cut [0, 1] [] [6] (.two .n (.two (.two .n (.two .n (.two (.two .n .n) .n))) .n))) (.two .n (.two (.two .n (.two (.two .n .n) .n)) (.two (.two .n (.two .n (.two (.two .n .n) .n))) (.two .n .n))))))

/-- (*corbel/array.Array).states -/
def tab_array_Array_states (N : Nat) (Φ : Calls') : Calls' := fun f => cond (Nat.beq f id_geom_Capacity) (some (F_geom_Capacity N Φ)) (cond (Nat.beq f id_array_Limits) (some (F_array_Limits N Φ)) (cond (Nat.beq f id_zone_New) (some (F_zone_New N Φ)) (cond (Nat.beq f id_array_Array_state) (some (F_array_Array_state N Φ)) (cond (Nat.beq f id_zone_Machine_Lost) (some (F_zone_Machine_Lost N Φ)) (Φ f)))))
def F_array_Array_states (N : Nat) (Φ : Calls') : List V → M V := fun args =>
 unc args fun a0 args =>
 unc args fun a1 args =>
 unn args <|
 optM (nilR a0) fun v1 =>
 optM (faR 1 v1) fun v2 =>
 rdM (ld true 5 v2) fun v3 =>
 bindM (F_array_Limits N Φ [v3]) fun v4 =>
 optM (exR 0 v4) fun v5 =>
 optM (exR 1 v4) fun v6 =>
 optM (lnL a1) fun v7 =>
 optM (nilR a0) fun v8 =>
 optM (faR 1 v8) fun v9 =>
 rdM (ld true 5 v9) fun v10 =>
 bindM (F_geom_Capacity N Φ [v10]) fun v11 =>
 bindM (F_zone_New N Φ [v7, v11, v5, v6]) fun v12 =>
 optM (exR 0 v12) fun v13 =>
 optM (exR 1 v12) fun v14 =>
 optM (binR .neq .o none v14 (.i .i64 0)) fun v15 =>
 iteM (some v15) (
 pureM v14
 ) (
 optM (nilR a0) fun v16 =>
 optM (faR 12 v16) fun v17 =>
 bindM (stR 1 v17 v13) fun v18 =>
 alM (bsR 2 1 (zeros [(.b false)] 2) [(0, (.b false)), (1, (.b true))]) fun v19 =>
 optM (lnL v19) fun v20 =>
 lrM (
 loopM N (fun vs =>
 unc vs fun v21 vs =>
 unc vs fun v22 vs =>
 unc vs fun v23 vs =>
 unc vs fun v24 vs =>
 unc vs fun v25 vs =>
 unc vs fun v26 vs =>
 unn vs <|
 optM (binR .lss .o none v26 v25) fun v27 =>
 iteM (some v27) (
 optM (iaL 1 v24 v26) fun v28 =>
 rdM (ld false 1 v28) fun v29 =>
 optM (lnL v22) fun v30 =>
 lrM (
 loopM N (fun vs =>
 unc vs fun v31 vs =>
 unc vs fun v32 vs =>
 unc vs fun v33 vs =>
 unc vs fun v34 vs =>
 unc vs fun v35 vs =>
 unc vs fun v36 vs =>
 unc vs fun v37 vs =>
 unc vs fun v38 vs =>
 unc vs fun v39 vs =>
 unc vs fun v40 vs =>
 unn vs <|
 optM (binR .lss .o none v40 v39) fun v41 =>
 iteM (some v41) (
 lrM (
 optM (iaL 5 v38 v40) fun v42 =>
 rdM (ld true 5 v42) fun v43 =>
 alM (alR 89 [.ns, (.i .i64 0), .ns, (.i .i64 0), .ns]) fun v44 =>
 bindM (stR 5 v44 v43) fun v45 =>
 optM (nilR v31) fun v46 =>
 optM (faR 6 v46) fun v47 =>
 optM (faR 1 v47) fun v48 =>
 rdM (ld false 1 v48) fun v49 =>
 optM (iaL 3 v49 v40) fun v50 =>
 optM (faR 2 v50) fun v51 =>
 rdM (ld false 1 v51) fun v52 =>
 optM (binR .eql .o none v52 (.i .i64 2)) fun v53 =>
 bindM (gdM (boolV (some v53)) false (pM (faR 3 v44))) fun v54 =>
 bindM (gdM (boolV (some v53)) false (rM (ld false 1 v54))) fun v55 =>
 bindM (gdM (boolV (some v53)) false (pM (some v31))) fun v56 =>
 bindM (gdM (boolV (some v53)) false (pM (nilR v56))) fun v57 =>
 bindM (gdM (boolV (some v53)) false (pM (faR 1 v57))) fun v58 =>
 bindM (gdM (boolV (some v53)) false (rM (ld true 5 v58))) fun v59 =>
 bindM (gdM (boolV (some v53)) false (F_geom_Capacity N Φ [v59])) fun v60 =>
 chkM (match boolV (some v53) with | some x => cond (okB x false) (ckR (ld false 1 v54) v55) (fun _ => true) | none => fun _ => false) <|
 bindM (gdM (boolV (some v53)) false (pM (binR .eql .o none v55 v60))) fun v61 =>
 optM (pickR v53 (.b true) v61) fun v62 =>
 optM (binR .eql .b none v62 v34) fun v63 =>
 iteM (some v63) (
 pureM (.nx [v31, v32, v33, v34, v35, v36, v37, v38, v39, v40])
 ) (
 optM (faR 3 v44) fun v64 =>
 rdM (ld false 1 v64) fun v65 =>
 bindM (F_array_Array_state N Φ [v31, v40, v65]) fun v66 =>
 optM (binR .neq .o none v66 (.i .i64 0)) fun v67 =>
 iteM (some v67) (
 pureM (.rt [v66])
 ) (
 pureM (.nx [v31, v32, v33, v34, v35, v36, v37, v38, v39, v40])
 )
 )
 )
 (fun vs =>
 unc vs fun v68 vs =>
 unc vs fun v69 vs =>
 unc vs fun v70 vs =>
 unc vs fun v71 vs =>
 unc vs fun v72 vs =>
 unc vs fun v73 vs =>
 unc vs fun v74 vs =>
 unc vs fun v75 vs =>
 unc vs fun v76 vs =>
 unc vs fun v77 vs =>
 unn vs <|
 optM (binR .add .o none v77 (.i .i64 1)) fun v78 =>
 pureM (.nx [v68, v69, v70, v71, v72, v73, v74, v75, v76, v78])
 )
 (fun id vs =>
 failM)
 (fun vs =>
 unc vs fun v79 vs =>
 unn vs <|
 pureM (.rt [v79])
 )
 ) (
 pureM (.ex 2 [v31, v32, v33, v35, v36, v37])
 )
 ) [v21, v22, v23, v29, v24, v25, v26, v22, v30, (.i .i64 0)])
 (fun vs =>
 failM)
 (fun id vs =>
 cond (Nat.beq id 2) (
 unc vs fun v80 vs =>
 unc vs fun v81 vs =>
 unc vs fun v82 vs =>
 unc vs fun v83 vs =>
 unc vs fun v84 vs =>
 unc vs fun v85 vs =>
 unn vs <|
 optM (binR .add .o none v85 (.i .i64 1)) fun v86 =>
 pureM (.nx [v80, v81, v82, v83, v84, v86])
 ) <|
 failM)
 (fun vs =>
 unc vs fun v87 vs =>
 unn vs <|
 pureM (.rt [v87])
 )
 ) (
 pureM (.ex 0 [v23])
 )
 ) [a0, a1, v13, v19, v20, (.i .i64 0)])
 (fun vs =>
 failM)
 (fun id vs =>
 cond (Nat.beq id 0) (
 unc vs fun v88 vs =>
 unn vs <|
 bindM (F_zone_Machine_Lost N Φ [v88, .ns]) fun v89 =>
 pureM (.i .i64 0)
 ) <|
 failM)
 (fun vs =>
 unc vs fun v90 vs =>
 unn vs <|
 pureM v90
 )
 )
def an_array_Array_states : An := (.two .n (.two .n (.two .n (.two (.two .n (.two (.two .n .n) .n)) (.two .n (.two (.two .n (.one (.loop [0, 1, 7, 43, 44, 45] [(0, [7])] [4] (.two .n (.two (.two .n .n) (.two (.one (.two .n (.two .n (.one (.loop [0, 1, 7, 10, 43, 44, 45, 49, 50, 51] [(2, [0, 1, 7, 43, 44, 45])] [4] (.two .n (.two (.two .n .n) (.two (.cut [0, 1, 7, 10, 43, 44, 45, 49, 50, 51] [] [4] (.one (.two .n (.two .n (.two (.two .n (.two .n .n)) (.two .n (.two .n (.two (.two .n .n) .n)))))))) .n)))))))) .n)))))) (.two .n (.two .n .n))))))))

/-- (*corbel/array.Array).settle -/
def tab_array_Array_settle (N : Nat) (Φ : Calls') : Calls' := fun f => cond (Nat.beq f id_array_Array_flush) (some (F_array_Array_flush N Φ)) (cond (Nat.beq f id_array_Array_each) (some (F_array_Array_each N Φ)) (cond (Nat.beq f id_array_Array_mend) (some (F_array_Array_mend N Φ)) (cond (Nat.beq f id_array_Array_states) (some (F_array_Array_states N Φ)) (Φ f))))
def F_array_Array_settle (N : Nat) (Φ : Calls') : List V → M V := fun args =>
 unc args fun a0 args =>
 unc args fun a1 args =>
 unn args <|
 bindM (F_array_Array_each N Φ [a0, (.f id_array_Array_roll [a0] [])]) fun v1 =>
 optM (binR .neq .o none v1 (.i .i64 0)) fun v2 =>
 iteM (some v2) (
 pureM v1
 ) (
 optM (lnL a1) fun v3 =>
 lrM (
 loopM N (fun vs =>
 unc vs fun v4 vs =>
 unc vs fun v5 vs =>
 unc vs fun v6 vs =>
 unc vs fun v7 vs =>
 unc vs fun v8 vs =>
 unn vs <|
 optM (binR .lss .o none v8 v7) fun v9 =>
 iteM (some v9) (
 optM (iaL 5 v6 v8) fun v10 =>
 rdM (ld true 5 v10) fun v11 =>
 alM (alR 89 [.ns, (.i .i64 0), .ns, (.i .i64 0), .ns]) fun v12 =>
 bindM (stR 5 v12 v11) fun v13 =>
 rdM (ld true 5 v12) fun v14 =>
 bindM (F_array_Array_mend N Φ [v4, v8, v14]) fun v15 =>
 optM (binR .neq .o none v15 (.i .i64 0)) fun v16 =>
 iteM (some v16) (
 pureM (.rt [v15])
 ) (
 optM (binR .add .o none v8 (.i .i64 1)) fun v17 =>
 pureM (.nx [v4, v5, v6, v7, v17])
 )
 ) (
 pureM (.ex 0 [v4, v5])
 )
 ) [a0, a1, a1, v3, (.i .i64 0)])
 (fun vs =>
 failM)
 (fun id vs =>
 cond (Nat.beq id 0) (
 unc vs fun v18 vs =>
 unc vs fun v19 vs =>
 unn vs <|
 bindM (F_array_Array_flush N Φ [v18]) fun v20 =>
 optM (binR .neq .o none v20 (.i .i64 0)) fun v21 =>
 iteM (some v21) (
 pureM v20
 ) (
 optM (nilR v18) fun v22 =>
 optM (faR 14 v22) fun v23 =>
 rdM (ld false 1 v23) fun v24 =>
 bindM (clM v24) fun v25 =>
 bindM (F_array_Array_states N Φ [v18, v19]) fun v26 =>
 pureM v26
 )
 ) <|
 failM)
 (fun vs =>
 unc vs fun v27 vs =>
 unn vs <|
 pureM v27
 )
 )
def an_array_Array_settle : An := (.two .n (.two (.two .n (.two .n (.two (.two .n .n) .n))) (.two (.two .n (.one (.loop [0, 1, 17, 18, 19] [(0, [0, 1])] [4] (.two .n (.two (.two .n .n) (.two (.one (.two .n (.two .n (.two .n (.two (.two .n .n) .n))))) .n)))))) (.two (.two .n (.two .n (.two (.two .n .n) .n))) (.two .n (.two .n .n))))))

/-- corbel/array.Open -/
def tab_array_Open (N : Nat) (Φ : Calls') : Calls' := fun f => cond (Nat.beq f id_array_fits) (some (F_array_fits N Φ)) (cond (Nat.beq f id_rig_Rig_Off) (some (F_rig_Rig_Off N Φ)) (cond (Nat.beq f id_array_Array_learn) (some (F_array_Array_learn N Φ)) (cond (Nat.beq f id_array_Array_muster) (some (F_array_Array_muster N Φ)) (cond (Nat.beq f id_array_Array_recover) (some (F_array_Array_recover N Φ)) (cond (Nat.beq f id_array_Array_settle) (some (F_array_Array_settle N Φ)) (Φ f))))))
def F_array_Open (N : Nat) (Φ : Calls') : List V → M V := fun args =>
 unc args fun a0 args =>
 unc args fun a1 args =>
 unn args <|
 alM (boxR a1) fun v1 =>
 rdM (ld true 5 v1) fun v2 =>
 bindM (F_array_fits N Φ [a0, v2]) fun v3 =>
 optM (unV .not v3) fun v4 =>
 iteM (some v4) (
 pureM (.t [.pn, (.i .i64 1)])
 ) (
 bindM (F_rig_Rig_Off N Φ [a0]) fun v5 =>
 iteM (some v5) (
 pureM (.t [.pn, (.i .i64 6)])
 ) (
 rdM (ld true 5 v1) fun v6 =>
 alM (mmR) fun v7 =>
 alM (mmR) fun v8 =>
 optM (bdR [(0, 1), (1, 5), (6, 5), (11, 1), (12, 1), (13, 1), (14, 1), (15, 1), (16, 1), (17, 1)] [.pn, (.i .i64 0), (.i .i64 0), (.i .i64 0), (.i .i64 0), (.i .i64 0), (.i .i64 0), .ns, .ns, (.i .i64 0), (.i .i64 0), .mn, .pn, .ns, .mn, (.i .i64 0), (.b false), (.b false)] [(0, a0), (1, v6), (3, v7), (6, v8), (7, (.i .i64 (-1)))]) fun v9 =>
 alM (boxR v9) fun v10 =>
 alM (mmR) fun v11 =>
 bindM (F_array_Array_learn N Φ [v10, v11]) fun v12 =>
 optM (binR .neq .o none v12 (.i .i64 0)) fun v13 =>
 iteM (some v13) (
 pureM (.t [.pn, v12])
 ) (
 bindM (F_array_Array_muster N Φ [v10]) fun v14 =>
 optM (binR .neq .o none v14 (.i .i64 0)) fun v15 =>
 iteM (some v15) (
 pureM (.t [.pn, v14])
 ) (
 optM (nilR v10) fun v16 =>
 optM (faR 6 v16) fun v17 =>
 optM (faR 1 v17) fun v18 =>
 rdM (ld false 1 v18) fun v19 =>
 optM (lnL v19) fun v20 =>
 alM (mkR 5 88 [.ns, (.i .i64 0), .ns, (.i .i64 0), .ns] v20 v20) fun v21 =>
 optM (lnL v21) fun v22 =>
 alM (mkR 3 40 [(.i .i64 0), (.i .i64 0), .ns] v22 v22) fun v23 =>
 optM (nilR v10) fun v24 =>
 optM (faR 13 v24) fun v25 =>
 bindM (stR 1 v25 v23) fun v26 =>
 optM (lnL v21) fun v27 =>
 lrM (
 loopM N (fun vs =>
 unc vs fun v28 vs =>
 unc vs fun v29 vs =>
 unc vs fun v30 vs =>
 unc vs fun v31 vs =>
 unc vs fun v32 vs =>
 unn vs <|
 optM (binR .lss .o none v32 v31) fun v33 =>
 iteM (some v33) (
 bindM (F_array_Array_recover N Φ [v28, v32, v29]) fun v34 =>
 optM (exR 0 v34) fun v35 =>
 optM (exR 1 v34) fun v36 =>
 optM (iaL 5 v30 v32) fun v37 =>
 bindM (stR 5 v37 v35) fun v38 =>
 optM (binR .neq .o none v36 (.i .i64 0)) fun v39 =>
 iteM (some v39) (
 pureM (.rt [.pn, v36])
 ) (
 optM (binR .add .o none v32 (.i .i64 1)) fun v40 =>
 pureM (.nx [v28, v29, v30, v31, v40])
 )
 ) (
 pureM (.ex 0 [v28, v30])
 )
 ) [v10, v11, v21, v27, (.i .i64 0)])
 (fun vs =>
 failM)
 (fun id vs =>
 cond (Nat.beq id 0) (
 unc vs fun v41 vs =>
 unc vs fun v42 vs =>
 unn vs <|
 bindM (F_array_Array_settle N Φ [v41, v42]) fun v43 =>
 optM (binR .neq .o none v43 (.i .i64 0)) fun v44 =>
 iteM (some v44) (
 pureM (.t [.pn, v43])
 ) (
 pureM (.t [v41, (.i .i64 0)])
 )
 ) <|
 failM)
 (fun vs =>
 unc vs fun v45 vs =>
 unc vs fun v46 vs =>
 unn vs <|
 pureM (.t [v45, v46])
 )
 )
 )
 )
 )
def an_array_Open : An := (.two .n (.two (.two .n (.two (.two .n .n) .n)) (.two (.two .n (.two (.two .n .n) .n)) (.two .n (.two .n (.two (.two .n (.two .n (.two (.two .n .n) .n))) (.two (.two .n (.two .n (.two (.two .n .n) .n))) (.two .n (.two .n (.two (.two .n (.one (.loop [6, 7, 10, 52, 53] [(0, [6, 10])] [4, 5] (.two .n (.two (.two .n .n) (.two (.one (.two .n (.two .n (.two .n (.two .n (.two (.two .n .n) .n)))))) .n)))))) (.two (.two .n (.two .n (.two (.two .n .n) .n))) (.two .n .n))))))))))))

/-- corbel/drive.New -/
def tab_drive_New (N : Nat) (Φ : Calls') : Calls' := fun f => cond (Nat.beq f id_zone_New) (some (F_zone_New N Φ)) (Φ f)
def F_drive_New (N : Nat) (Φ : Calls') : List V → M V := fun args =>
 unc args fun a0 args =>
 unc args fun a1 args =>
 unc args fun a2 args =>
 unc args fun a3 args =>
 unn args <|
 bindM (F_zone_New N Φ [a0, a1, a2, a3]) fun v1 =>
 optM (exR 0 v1) fun v2 =>
 optM (exR 1 v1) fun v3 =>
 optM (binR .neq .o none v3 (.i .i64 0)) fun v4 =>
 iteM (some v4) (
 pureM (.t [.pn, v3])
 ) (
 alM (mkR 1 24 [.ns] a0 a0) fun v5 =>
 alM (mkR 1 8 [(.i .i64 0)] a0 a0) fun v6 =>
 optM (bdR [(0, 1), (1, 1), (2, 1), (3, 1)] [.pn, .ns, .ns, (.b false)] [(0, v2), (1, v5), (2, v6), (3, (.b false))]) fun v7 =>
 alM (boxR v7) fun v8 =>
 pureM (.t [v8, (.i .i64 0)])
 )
def an_drive_New : An := (.two .n (.two .n (.two (.two .n (.two (.two .n .n) .n)) (.two .n .n))))

/-- corbel/rig.New -/
def tab_rig_New (N : Nat) (Φ : Calls') : Calls' := fun f => cond (Nat.beq f id_geom_Good) (some (F_geom_Good N Φ)) (cond (Nat.beq f id_drive_New) (some (F_drive_New N Φ)) (Φ f))
def F_rig_New (N : Nat) (Φ : Calls') : List V → M V := fun args =>
 unc args fun a0 args =>
 unc args fun a1 args =>
 unn args <|
 alM (boxR a0) fun v1 =>
 rdM (ld true 5 v1) fun v2 =>
 bindM (F_geom_Good N Φ [v2]) fun v3 =>
 optM (unV .not v3) fun v4 =>
 bindM (gdM (boolV (some v4)) false (pM (some a1))) fun v5 =>
 bindM (gdM (boolV (some v4)) false (pM (binR .lss .o none v5 (.i .i64 1)))) fun v6 =>
 optM (pickR v4 (.b true) v6) fun v7 =>
 bindM (gdM (boolV (some v7)) false (pM (some a1))) fun v8 =>
 bindM (gdM (boolV (some v7)) false (pM (binR .gtr .o none v8 (.i .i64 17)))) fun v9 =>
 optM (pickR v7 (.b true) v9) fun v10 =>
 iteM (some v10) (
 pureM (.t [.pn, (.i .i64 1)])
 ) (
 optM (faR 2 v1) fun v11 =>
 rdM (ld false 1 v11) fun v12 =>
 optM (bdR [(0, 1), (1, 1), (2, 1), (3, 1), (4, 1)] [.ns, (.i .i64 0), .pn, (.b false), (.i .i64 0)] [(1, v12)]) fun v13 =>
 alM (boxR v13) fun v14 =>
 lrM (
 loopM N (fun vs =>
 unc vs fun v15 vs =>
 unc vs fun v16 vs =>
 unc vs fun v17 vs =>
 unc vs fun v18 vs =>
 unn vs <|
 optM (binR .lss .o none v18 v17) fun v19 =>
 iteM (some v19) (
 optM (faR 1 v15) fun v20 =>
 rdM (ld false 1 v20) fun v21 =>
 optM (faR 2 v15) fun v22 =>
 rdM (ld false 1 v22) fun v23 =>
 optM (faR 3 v15) fun v24 =>
 rdM (ld false 1 v24) fun v25 =>
 optM (faR 4 v15) fun v26 =>
 rdM (ld false 1 v26) fun v27 =>
 bindM (F_drive_New N Φ [v21, v23, v25, v27]) fun v28 =>
 optM (exR 0 v28) fun v29 =>
 optM (exR 1 v28) fun v30 =>
 optM (binR .neq .o none v30 (.i .i64 0)) fun v31 =>
 iteM (some v31) (
 pureM (.rt [.pn, v30])
 ) (
 optM (nilR v16) fun v32 =>
 optM (faR 0 v32) fun v33 =>
 rdM (ld false 1 v33) fun v34 =>
 alM (bsR 1 1 (zeros [.pn] 1) [(0, v29)]) fun v35 =>
 bindM (apR 188 1 8 (srL 1 v35) v34) fun v36 =>
 optM (nilR v16) fun v37 =>
 optM (faR 0 v37) fun v38 =>
 bindM (stR 1 v38 v36) fun v39 =>
 optM (binR .add .o none v18 (.i .i64 1)) fun v40 =>
 pureM (.nx [v15, v16, v17, v40])
 )
 ) (
 pureM (.ex 0 [v16])
 )
 ) [v1, v14, a1, (.i .i64 0)])
 (fun vs =>
 failM)
 (fun id vs =>
 cond (Nat.beq id 0) (
 unc vs fun v41 vs =>
 unn vs <|
 pureM (.t [v41, (.i .i64 0)])
 ) <|
 failM)
 (fun vs =>
 unc vs fun v42 vs =>
 unc vs fun v43 vs =>
 unn vs <|
 pureM (.t [v42, v43])
 )
 )
def an_rig_New : An := (.two .n (.two (.two .n (.two (.two .n .n) .n)) (.two .n (.two (.two .n (.one (.loop [2, 6, 24, 25] [(0, [6])] [4, 5] (.two .n (.two (.two .n .n) (.two (.one (.two .n (.two (.two .n (.two (.two .n .n) .n)) .n))) .n)))))) (.two .n .n)))))

/-- corbel/mlog.Format -/
def tab_mlog_Format (N : Nat) (Φ : Calls') : Calls' := fun f => cond (Nat.beq f id_mlog_Log_ready) (some (F_mlog_Log_ready N Φ)) (cond (Nat.beq f id_rig_Rig_Do) (some (F_rig_Rig_Do N Φ)) (cond (Nat.beq f id_mlog_Log_lay) (some (F_mlog_Log_lay N Φ)) (Φ f)))
def F_mlog_Format (N : Nat) (Φ : Calls') : List V → M V := fun args =>
 unc args fun a0 args =>
 unc args fun a1 args =>
 unc args fun a2 args =>
 unn args <|
 optM (binR .eql .p none a0 .pn) fun v1 =>
 iteM (some v1) (
 pureM (.t [.pn, (.i .i64 1)])
 ) (
 optM (bdR [(0, 1), (1, 1), (2, 1), (3, 1), (4, 1), (5, 1)] [.pn, (.i .i64 0), (.i .i64 0), (.i .i64 0), (.i .i64 0), (.b false)] [(0, a0), (1, a1)]) fun v2 =>
 alM (boxR v2) fun v3 =>
 bindM (F_mlog_Log_ready N Φ [v3, (.i .i64 0), (.i .i64 1), a2]) fun v4 =>
 optM (exR 0 v4) fun v5 =>
 optM (exR 1 v4) fun v6 =>
 optM (binR .neq .o none v6 (.i .i64 0)) fun v7 =>
 iteM (some v7) (
 pureM (.t [.pn, v6])
 ) (
 optM (bdR [(0, 1), (1, 1), (2, 1), (3, 1)] [(.i .i64 0), (.i .i64 0), (.i .i64 0), (.i .i64 0)] [(0, (.i .i64 3)), (1, (.i .i64 1))]) fun v8 =>
 bindM (F_rig_Rig_Do N Φ [a0, a1, v8, (.s [])]) fun v9 =>
 optM (exR 0 v9) fun v10 =>
 optM (exR 1 v9) fun v11 =>
 optM (exR 2 v9) fun v12 =>
 optM (binR .neq .o none v12 (.i .i64 0)) fun v13 =>
 iteM (some v13) (
 pureM (.t [.pn, v12])
 ) (
 bindM (F_mlog_Log_lay N Φ [v3, (.i .i64 0), (.i .i64 1), v5]) fun v14 =>
 optM (binR .neq .o none v14 (.i .i64 0)) fun v15 =>
 iteM (some v15) (
 pureM (.t [.pn, v14])
 ) (
 pureM (.t [v3, (.i .i64 0)])
 )
 )
 )
 )
def an_mlog_Format : An := (.two .n (.two (.two .n (.two (.two .n .n) .n)) (.two .n (.two .n (.two (.two .n (.two (.two .n .n) .n)) (.two (.two .n (.two .n (.two (.two .n .n) .n))) (.two (.two .n (.two .n (.two (.two .n .n) .n))) (.two .n .n))))))))

/-- corbel/array.wipe -/
def tab_array_wipe (N : Nat) (Φ : Calls') : Calls' := fun f => cond (Nat.beq f id_rig_Rig_Do) (some (F_rig_Rig_Do N Φ)) (Φ f)
def F_array_wipe (N : Nat) (Φ : Calls') : List V → M V := fun args =>
 unc args fun a0 args =>
 unc args fun a1 args =>
 unc args fun a2 args =>
 unn args <|
 lrM (
 loopM N (fun vs =>
 unc vs fun v1 vs =>
 unc vs fun v2 vs =>
 unc vs fun v3 vs =>
 unc vs fun v4 vs =>
 unn vs <|
 optM (binR .lss .o none v4 v3) fun v5 =>
 iteM (some v5) (
 optM (bdR [(0, 1), (1, 1), (2, 1), (3, 1)] [(.i .i64 0), (.i .i64 0), (.i .i64 0), (.i .i64 0)] [(0, (.i .i64 3)), (1, v4)]) fun v6 =>
 bindM (F_rig_Rig_Do N Φ [v1, v2, v6, (.s [])]) fun v7 =>
 optM (exR 0 v7) fun v8 =>
 optM (exR 1 v7) fun v9 =>
 optM (exR 2 v7) fun v10 =>
 optM (binR .neq .o none v10 (.i .i64 0)) fun v11 =>
 iteM (some v11) (
 pureM (.rt [v10])
 ) (
 optM (binR .add .o none v4 (.i .i64 1)) fun v12 =>
 pureM (.nx [v1, v2, v3, v12])
 )
 ) (
 pureM (.ex 0 [])
 )
 ) [a0, a1, a2, (.i .i64 0)])
 (fun vs =>
 failM)
 (fun id vs =>
 cond (Nat.beq id 0) (
 unn vs <|
 pureM (.i .i64 0)
 ) <|
 failM)
 (fun vs =>
 unc vs fun v13 vs =>
 unn vs <|
 pureM v13
 )
def an_array_wipe : An := (.two .n (.two (.two .n (.one (.loop [0, 1, 11, 12] [(0, [])] [6] (.two .n (.two (.two .n .n) (.two (.one (.two .n (.two .n (.two .n (.two (.two .n .n) .n))))) .n)))))) (.two .n .n)))

/-- corbel/array.Format -/
def tab_array_Format (N : Nat) (Φ : Calls') : Calls' := fun f => cond (Nat.beq f id_array_fits) (some (F_array_fits N Φ)) (cond (Nat.beq f id_book_Book_Records) (some (F_book_Book_Records N Φ)) (cond (Nat.beq f id_mlog_Format) (some (F_mlog_Format N Φ)) (cond (Nat.beq f id_rig_Rig_Drives) (some (F_rig_Rig_Drives N Φ)) (cond (Nat.beq f id_book_New) (some (F_book_New N Φ)) (cond (Nat.beq f id_array_wipe) (some (F_array_wipe N Φ)) (Φ f))))))
def F_array_Format (N : Nat) (Φ : Calls') : List V → M V := fun args =>
 unc args fun a0 args =>
 unc args fun a1 args =>
 unn args <|
 alM (boxR a1) fun v1 =>
 rdM (ld true 5 v1) fun v2 =>
 bindM (F_array_fits N Φ [a0, v2]) fun v3 =>
 optM (unV .not v3) fun v4 =>
 iteM (some v4) (
 pureM (.i .i64 1)
 ) (
 rdM (ld true 5 v1) fun v5 =>
 bindM (F_book_New N Φ [v5]) fun v6 =>
 bindM (F_book_Book_Records N Φ [v6]) fun v7 =>
 optM (exR 0 v7) fun v8 =>
 optM (exR 1 v7) fun v9 =>
 alM (alR 66 [(.i .i64 0), .ns, .ns, (.i .i64 0), (.i .i64 0)]) fun v10 =>
 bindM (stR 5 v10 v9) fun v11 =>
 bindM (F_rig_Rig_Drives N Φ [a0]) fun v12 =>
 lrM (
 loopM N (fun vs =>
 unc vs fun v13 vs =>
 unc vs fun v14 vs =>
 unc vs fun v15 vs =>
 unc vs fun v16 vs =>
 unc vs fun v17 vs =>
 unn vs <|
 optM (binR .lss .o none v17 v16) fun v18 =>
 iteM (some v18) (
 optM (faR 1 v14) fun v19 =>
 rdM (ld false 1 v19) fun v20 =>
 bindM (F_array_wipe N Φ [v13, v17, v20]) fun v21 =>
 optM (binR .neq .o none v21 (.i .i64 0)) fun v22 =>
 bindM (gdM (boolV (some v22)) true (pM (some v17))) fun v23 =>
 bindM (gdM (boolV (some v22)) true (pM (faR 0 v14))) fun v24 =>
 bindM (gdM (boolV (some v22)) true (rM (ld false 1 v24))) fun v25 =>
 bindM (gdM (boolV (some v22)) true (pM (binR .lss .o none v23 v25))) fun v26 =>
 bindM (gdM (boolV (some v22)) true (pM (some v26))) fun v27 =>
 bindM (gdM (boolV (some v27)) false (pM (some v21))) fun v28 =>
 bindM (gdM (boolV (some v27)) false (pM (binR .neq .o none v28 (.i .i64 7)))) fun v29 =>
 bindM (gdM (boolV (some v22)) true (pM (pickR v27 (.b true) v29))) fun v30 =>
 optM (pickR v22 v30 (.b false)) fun v31 =>
 iteM (some v31) (
 pureM (.rt [v21])
 ) (
 optM (binR .add .o none v17 (.i .i64 1)) fun v32 =>
 pureM (.nx [v13, v14, v15, v16, v32])
 )
 ) (
 pureM (.ex 0 [v13, v14, v15])
 )
 ) [a0, v1, v8, v12, (.i .i64 0)])
 (fun vs =>
 failM)
 (fun id vs =>
 cond (Nat.beq id 0) (
 unc vs fun v33 vs =>
 unc vs fun v34 vs =>
 unc vs fun v35 vs =>
 unn vs <|
 optM (faR 0 v34) fun v36 =>
 rdM (ld false 1 v36) fun v37 =>
 lrM (
 loopM N (fun vs =>
 unc vs fun v38 vs =>
 unc vs fun v39 vs =>
 unc vs fun v40 vs =>
 unc vs fun v41 vs =>
 unn vs <|
 optM (binR .lss .o none v41 v40) fun v42 =>
 iteM (some v42) (
 bindM (F_mlog_Format N Φ [v38, v41, v39]) fun v43 =>
 optM (exR 0 v43) fun v44 =>
 optM (exR 1 v43) fun v45 =>
 optM (binR .neq .o none v45 (.i .i64 0)) fun v46 =>
 iteM (some v46) (
 pureM (.rt [v45])
 ) (
 optM (binR .add .o none v41 (.i .i64 1)) fun v47 =>
 pureM (.nx [v38, v39, v40, v47])
 )
 ) (
 pureM (.ex 2 [])
 )
 ) [v33, v35, v37, (.i .i64 0)])
 (fun vs =>
 failM)
 (fun id vs =>
 cond (Nat.beq id 2) (
 unn vs <|
 pureM (.i .i64 0)
 ) <|
 failM)
 (fun vs =>
 unc vs fun v48 vs =>
 unn vs <|
 pureM v48
 )
 ) <|
 failM)
 (fun vs =>
 unc vs fun v49 vs =>
 unn vs <|
 pureM v49
 )
 )
def an_array_Format : An := (.two .n (.two (.two .n (.two (.two .n .n) .n)) (.two .n (.two (.two .n (.one (.loop [0, 3, 5, 23, 24] [(0, [0, 3, 5])] [4] (.two .n (.two (.two .n .n) (.two (.one (.two .n (.two .n (.two .n (.two (.two .n .n) .n))))) .n)))))) (.two (.two .n (.one (.loop [0, 5, 47, 48] [(2, [])] [4] (.two .n (.two (.two .n .n) (.two (.one (.two .n (.two .n (.two .n (.two (.two .n .n) .n))))) .n)))))) (.two .n .n))))))

/-- corbel/corbellaw17.made -/
def tab_corbellaw17_made (N : Nat) (Φ : Calls') : Calls' := fun f => cond (Nat.beq f id_array_Open) (some (F_array_Open N Φ)) (cond (Nat.beq f id_rig_New) (some (F_rig_New N Φ)) (cond (Nat.beq f id_array_Format) (some (F_array_Format N Φ)) (Φ f)))
def F_corbellaw17_made (N : Nat) (Φ : Calls') : List V → M V := fun args =>
 unc args fun a0 args =>
 unn args <|
 alM (boxR a0) fun v1 =>
 rdM (ld true 5 v1) fun v2 =>
 optM (faR 0 v1) fun v3 =>
 rdM (ld false 1 v3) fun v4 =>
 optM (binR .add .o none v4 (.i .i64 1)) fun v5 =>
 bindM (F_rig_New N Φ [v2, v5]) fun v6 =>
 optM (exR 0 v6) fun v7 =>
 optM (exR 1 v6) fun v8 =>
 optM (binR .neq .o none v8 (.i .i64 0)) fun v9 =>
 iteM (some v9) (
 pureM (.t [.pn, .pn, (.b false)])
 ) (
 rdM (ld true 5 v1) fun v10 =>
 bindM (F_array_Format N Φ [v7, v10]) fun v11 =>
 optM (binR .neq .o none v11 (.i .i64 0)) fun v12 =>
 iteM (some v12) (
 pureM (.t [.pn, .pn, (.b false)])
 ) (
 rdM (ld true 5 v1) fun v13 =>
 bindM (F_array_Open N Φ [v7, v13]) fun v14 =>
 optM (exR 0 v14) fun v15 =>
 optM (exR 1 v14) fun v16 =>
 optM (binR .eql .o none v16 (.i .i64 0)) fun v17 =>
 bindM (gdM (boolV (some v17)) true (pM (some v15))) fun v18 =>
 bindM (gdM (boolV (some v17)) true (pM (binR .neq .p none v18 .pn))) fun v19 =>
 optM (pickR v17 v19 (.b false)) fun v20 =>
 pureM (.t [v7, v15, v20])
 )
 )
def an_corbellaw17_made : An := (.two .n (.two .n (.two (.two .n (.two (.two .n .n) .n)) (.two (.two .n (.two (.two .n .n) .n)) (.two .n (.two .n .n))))))

/-- corbel/corbellaw17.speaks -/
def tab_corbellaw17_speaks (N : Nat) (Φ : Calls') : Calls' := fun f => cond (Nat.beq f id_array_Array_Do) (some (F_array_Array_Do N Φ)) (cond (Nat.beq f id_corbellaw17_geometry) (some (F_corbellaw17_geometry N Φ)) (cond (Nat.beq f id_array_Array_Status) (some (F_array_Array_Status N Φ)) (cond (Nat.beq f id_corbellaw17_made) (some (F_corbellaw17_made N Φ)) (Φ f))))
def F_corbellaw17_speaks (N : Nat) (Φ : Calls') : List V → M V := fun args =>
 unn args <|
 optM (bdA 1 [(.i .i64 0), (.i .i64 0), (.i .i64 0)] []) fun v1 =>
 bindM (F_corbellaw17_geometry N Φ [v1]) fun v2 =>
 alM (alR 38 [(.i .i64 0), (.i .i64 0), (.i .i64 0), (.i .i64 0), (.i .i64 0)]) fun v3 =>
 bindM (stR 5 v3 v2) fun v4 =>
 rdM (ld true 5 v3) fun v5 =>
 bindM (F_corbellaw17_made N Φ [v5]) fun v6 =>
 optM (exR 0 v6) fun v7 =>
 optM (exR 1 v6) fun v8 =>
 optM (exR 2 v6) fun v9 =>
 optM (unV .not v9) fun v10 =>
 iteM (some v10) (
 pureM (.b false)
 ) (
 alM (mkR 1 1 [(.i .u8 0)] (.i .i64 64) (.i .i64 64)) fun v11 =>
 rdM (bytesV v11) fun v12 =>
 optM (bdR [(0, 1), (1, 1), (2, 1), (3, 1)] [(.i .i64 0), (.i .i64 0), (.i .i64 0), (.i .i64 0)] [(0, (.i .i64 2)), (1, (.i .i64 1)), (3, (.i .i64 1))]) fun v13 =>
 bindM (F_array_Array_Do N Φ [v8, v13, v12]) fun v14 =>
 optM (exR 0 v14) fun v15 =>
 optM (exR 1 v14) fun v16 =>
 optM (exR 2 v14) fun v17 =>
 optM (bdR [(0, 1), (1, 1), (2, 1), (3, 1)] [(.i .i64 0), (.i .i64 0), (.i .i64 0), (.i .i64 0)] [(0, (.i .i64 7)), (1, (.i .i64 1)), (3, (.i .i64 1))]) fun v18 =>
 bindM (F_array_Array_Do N Φ [v8, v18, (.s [])]) fun v19 =>
 optM (exR 0 v19) fun v20 =>
 optM (exR 1 v19) fun v21 =>
 optM (exR 2 v19) fun v22 =>
 optM (binR .eql .o none v17 (.i .i64 0)) fun v23 =>
 bindM (gdM (boolV (some v23)) true (pM (some v16))) fun v24 =>
 bindM (gdM (boolV (some v23)) true (pM (binR .eql .o none v24 (.i .i64 0)))) fun v25 =>
 optM (pickR v23 v25 (.b false)) fun v26 =>
 bindM (gdM (boolV (some v26)) true (pM (some v22))) fun v27 =>
 bindM (gdM (boolV (some v26)) true (pM (binR .eql .o none v27 (.i .i64 0)))) fun v28 =>
 optM (pickR v26 v28 (.b false)) fun v29 =>
 bindM (gdM (boolV (some v29)) true (pM (some v20))) fun v30 =>
 bindM (gdM (boolV (some v29)) true (pM (some v12))) fun v31 =>
 bindM (gdM (boolV (some v29)) true (pM (binR .eql .o none v30 v31))) fun v32 =>
 optM (pickR v29 v32 (.b false)) fun v33 =>
 bindM (gdM (boolV (some v33)) true (pM (some v8))) fun v34 =>
 bindM (gdM (boolV (some v33)) true (F_array_Array_Status N Φ [v34])) fun v35 =>
 bindM (gdM (boolV (some v33)) true (pM (bdR [(0, 1), (1, 1), (2, 1)] [(.i .i64 0), (.i .i64 0), (.b false)] [(0, (.i .i64 (-1))), (1, (.i .i64 (-1)))]))) fun v36 =>
 bindM (gdM (boolV (some v33)) true (pM (binR .eql .f (some [.i, .i, .b]) v35 v36))) fun v37 =>
 optM (pickR v33 v37 (.b false)) fun v38 =>
 pureM v38
 )
def an_corbellaw17_speaks : An := (.two .n (.two .n (.two .n (.two (.two .n (.two (.two .n .n) .n)) (.two .n (.two .n (.two .n (.two .n .n))))))))

/-- (*corbel/array.Array).Zone -/
def tab_array_Array_Zone (N : Nat) (Φ : Calls') : Calls' := fun f => cond (Nat.beq f id_zone_Machine_Get) (some (F_zone_Machine_Get N Φ)) (Φ f)
def F_array_Array_Zone (N : Nat) (Φ : Calls') : List V → M V := fun args =>
 unc args fun a0 args =>
 unc args fun a1 args =>
 unn args <|
 alM (alR 30 [(.i .i64 0), (.i .i64 0)]) fun v1 =>
 optM (binR .eql .p none a0 .pn) fun v2 =>
 iteM (some v2) (
 optM (bdR [(0, 1), (1, 1)] [(.i .i64 0), (.i .i64 0)] []) fun v3 =>
 bindM (stR 2 v1 v3) fun v4 =>
 rdM (ld true 2 v1) fun v5 =>
 pureM (.t [v5, (.b false)])
 ) (
 optM (nilR a0) fun v6 =>
 optM (faR 12 v6) fun v7 =>
 rdM (ld false 1 v7) fun v8 =>
 bindM (F_zone_Machine_Get N Φ [v8, a1]) fun v9 =>
 optM (exR 0 v9) fun v10 =>
 optM (exR 1 v9) fun v11 =>
 bindM (stR 2 v1 v10) fun v12 =>
 rdM (ld true 2 v1) fun v13 =>
 pureM (.t [v13, v11])
 )
def an_array_Array_Zone : An := (.two .n (.two (.two .n (.two (.two .n .n) .n)) (.two .n .n)))

/-- slices.Index[[]int,int] -/
def tab_slices_Index_int_int (N : Nat) (Φ : Calls') : Calls' := fun f => Φ f
def F_slices_Index_int_int (N : Nat) (Φ : Calls') : List V → M V := fun args =>
 unc args fun a0 args =>
 unc args fun a1 args =>
 unn args <|
 optM (lnL a0) fun v1 =>
 lrM (
 loopM N (fun vs =>
 unc vs fun v2 vs =>
 unc vs fun v3 vs =>
 unc vs fun v4 vs =>
 unc vs fun v5 vs =>
 unn vs <|
 optM (binR .lss .o none v5 v4) fun v6 =>
 iteM (some v6) (
 optM (iaL 1 v2 v5) fun v7 =>
 rdM (ld false 1 v7) fun v8 =>
 optM (binR .eql .o none v3 v8) fun v9 =>
 iteM (some v9) (
 pureM (.rt [v5])
 ) (
 optM (binR .add .o none v5 (.i .i64 1)) fun v10 =>
 pureM (.nx [v2, v3, v4, v10])
 )
 ) (
 pureM (.ex 0 [])
 )
 ) [a0, a1, v1, (.i .i64 0)])
 (fun vs =>
 failM)
 (fun id vs =>
 cond (Nat.beq id 0) (
 unn vs <|
 pureM (.i .i64 (-1))
 ) <|
 failM)
 (fun vs =>
 unc vs fun v11 vs =>
 unn vs <|
 pureM v11
 )
def an_slices_Index_int_int : An := (.two .n (.two (.two .n (.one (.loop [0, 1, 7, 8] [(0, [])] [4] (.two .n (.two (.two .n .n) (.two (.one (.two .n (.two .n (.two (.two .n .n) .n)))) .n)))))) (.two .n .n)))

/-- slices.Contains[[]int,int] -/
def tab_slices_Contains_int_int (N : Nat) (Φ : Calls') : Calls' := fun f => cond (Nat.beq f id_slices_Index_int_int) (some (F_slices_Index_int_int N Φ)) (Φ f)
def F_slices_Contains_int_int (N : Nat) (Φ : Calls') : List V → M V := fun args =>
 unc args fun a0 args =>
 unc args fun a1 args =>
 unn args <|
 bindM (F_slices_Index_int_int N Φ [a0, a1]) fun v1 =>
 optM (binR .geq .o none v1 (.i .i64 0)) fun v2 =>
 pureM v2
def an_slices_Contains_int_int : An := (.two .n (.two .n .n))

/-- corbel/rebuild.say -/
def tab_rebuild_say (N : Nat) (Φ : Calls') : Calls' := fun f => cond (Nat.beq f id_book_Book_Note) (some (F_book_Book_Note N Φ)) (Φ f)
def F_rebuild_say (N : Nat) (Φ : Calls') : List V → M V := fun args =>
 unc args fun a0 args =>
 unc args fun a1 args =>
 unn args <|
 alM (boxR a0) fun v1 =>
 alM (alR 66 [(.i .i64 0), .ns, .ns, (.i .i64 0), (.i .i64 0)]) fun v2 =>
 optM (lnL a1) fun v3 =>
 lrM (
 loopM N (fun vs =>
 unc vs fun v4 vs =>
 unc vs fun v5 vs =>
 unc vs fun v6 vs =>
 unc vs fun v7 vs =>
 unc vs fun v8 vs =>
 unn vs <|
 optM (binR .lss .o none v8 v7) fun v9 =>
 iteM (some v9) (
 optM (faR 0 v5) fun v10 =>
 rdM (ld false 1 v10) fun v11 =>
 optM (binR .add .o none v11 (.i .i64 1)) fun v12 =>
 optM (iaL 7 v4 v8) fun v13 =>
 optM (faR 1 v13) fun v14 =>
 bindM (stR 1 v14 v12) fun v15 =>
 rdM (ld true 5 v5) fun v16 =>
 optM (iaL 7 v4 v8) fun v17 =>
 rdM (ld true 7 v17) fun v18 =>
 bindM (F_book_Book_Note N Φ [v16, v18]) fun v19 =>
 bindM (stR 5 v5 v19) fun v20 =>
 optM (binR .add .o none v8 (.i .i64 1)) fun v21 =>
 pureM (.nx [v4, v5, v6, v7, v21])
 ) (
 pureM (.ex 0 [v4, v5, v6])
 )
 ) [a1, v1, v2, v3, (.i .i64 0)])
 (fun vs =>
 failM)
 (fun id vs =>
 cond (Nat.beq id 0) (
 unc vs fun v22 vs =>
 unc vs fun v23 vs =>
 unc vs fun v24 vs =>
 unn vs <|
 rdM (ld true 5 v23) fun v25 =>
 bindM (stR 5 v24 v25) fun v26 =>
 rdM (ld true 5 v24) fun v27 =>
 pureM (.t [v22, v27])
 ) <|
 failM)
 (fun vs =>
 unc vs fun v28 vs =>
 unc vs fun v29 vs =>
 unn vs <|
 rdM (ld true 5 v29) fun v30 =>
 pureM (.t [v28, v30])
 )
def an_rebuild_say : An := (.two .n (.two (.two .n (.one (.loop [1, 2, 5, 8, 9] [(0, [1, 2, 5])] [4, 5] (.two .n (.two (.two .n .n) (.two (.one (.two .n (.two .n .n))) .n)))))) (.two .n .n)))

/-- corbel/rebuild.Begin -/
def tab_rebuild_Begin (N : Nat) (Φ : Calls') : Calls' := fun f => cond (Nat.beq f id_geom_Good) (some (F_geom_Good N Φ)) (cond (Nat.beq f id_slices_Contains_int_int) (some (F_slices_Contains_int_int N Φ)) (cond (Nat.beq f id_rebuild_say) (some (F_rebuild_say N Φ)) (Φ f)))
def F_rebuild_Begin (N : Nat) (Φ : Calls') : List V → M V := fun args =>
 unc args fun a0 args =>
 unc args fun a1 args =>
 unc args fun a2 args =>
 unn args <|
 alM (boxR a0) fun v1 =>
 alM (boxR a1) fun v2 =>
 alM (alR 66 [(.i .i64 0), .ns, .ns, (.i .i64 0), (.i .i64 0)]) fun v3 =>
 rdM (ld true 5 v1) fun v4 =>
 bindM (F_geom_Good N Φ [v4]) fun v5 =>
 optM (unV .not v5) fun v6 =>
 bindM (gdM (boolV (some v6)) false (pM (faR 2 v2))) fun v7 =>
 bindM (gdM (boolV (some v6)) false (rM (ld false 1 v7))) fun v8 =>
 bindM (gdM (boolV (some v6)) false (pM (lnL v8))) fun v9 =>
 bindM (gdM (boolV (some v6)) false (pM (faR 0 v1))) fun v10 =>
 bindM (gdM (boolV (some v6)) false (rM (ld false 1 v10))) fun v11 =>
 bindM (gdM (boolV (some v6)) false (pM (binR .neq .o none v9 v11))) fun v12 =>
 optM (pickR v6 (.b true) v12) fun v13 =>
 bindM (gdM (boolV (some v13)) false (pM (some a2))) fun v14 =>
 bindM (gdM (boolV (some v13)) false (pM (binR .lss .o none v14 (.i .i64 0)))) fun v15 =>
 optM (pickR v13 (.b true) v15) fun v16 =>
 bindM (gdM (boolV (some v16)) false (pM (some a2))) fun v17 =>
 bindM (gdM (boolV (some v16)) false (pM (faR 0 v1))) fun v18 =>
 bindM (gdM (boolV (some v16)) false (rM (ld false 1 v18))) fun v19 =>
 bindM (gdM (boolV (some v16)) false (pM (binR .geq .o none v17 v19))) fun v20 =>
 optM (pickR v16 (.b true) v20) fun v21 =>
 iteM (some v21) (
 optM (bdR [(0, 1), (1, 1), (2, 1), (3, 1), (4, 1)] [(.i .i64 0), .ns, .ns, (.i .i64 0), (.i .i64 0)] []) fun v22 =>
 bindM (stR 5 v3 v22) fun v23 =>
 rdM (ld true 5 v3) fun v24 =>
 pureM (.t [.ns, v24, (.i .i64 1)])
 ) (
 optM (faR 3 v2) fun v25 =>
 rdM (ld false 1 v25) fun v26 =>
 optM (binR .geq .o none v26 (.i .i64 0)) fun v27 =>
 bindM (gdM (boolV (some v27)) true (pM (faR 3 v2))) fun v28 =>
 bindM (gdM (boolV (some v27)) true (rM (ld false 1 v28))) fun v29 =>
 bindM (gdM (boolV (some v27)) true (pM (some a2))) fun v30 =>
 bindM (gdM (boolV (some v27)) true (pM (binR .neq .o none v29 v30))) fun v31 =>
 bindM (gdM (boolV (some v27)) true (pM (some v31))) fun v32 =>
 bindM (gdM (boolV (some v32)) false (pM (faR 2 v2))) fun v33 =>
 bindM (gdM (boolV (some v32)) false (rM (ld false 1 v33))) fun v34 =>
 bindM (gdM (boolV (some v32)) false (pM (some a2))) fun v35 =>
 bindM (gdM (boolV (some v32)) false (pM (iaL 1 v34 v35))) fun v36 =>
 bindM (gdM (boolV (some v32)) false (rM (ld false 1 v36))) fun v37 =>
 bindM (gdM (boolV (some v32)) false (pM (faR 0 v1))) fun v38 =>
 bindM (gdM (boolV (some v32)) false (rM (ld false 1 v38))) fun v39 =>
 bindM (gdM (boolV (some v32)) false (pM (binR .eql .o none v37 v39))) fun v40 =>
 bindM (gdM (boolV (some v27)) true (pM (pickR v32 (.b true) v40))) fun v41 =>
 optM (pickR v27 v41 (.b false)) fun v42 =>
 iteM (some v42) (
 optM (bdR [(0, 1), (1, 1), (2, 1), (3, 1), (4, 1)] [(.i .i64 0), .ns, .ns, (.i .i64 0), (.i .i64 0)] []) fun v43 =>
 bindM (stR 5 v3 v43) fun v44 =>
 rdM (ld true 5 v3) fun v45 =>
 pureM (.t [.ns, v45, (.i .i64 3)])
 ) (
 optM (faR 2 v2) fun v46 =>
 rdM (ld false 1 v46) fun v47 =>
 optM (faR 0 v1) fun v48 =>
 rdM (ld false 1 v48) fun v49 =>
 bindM (F_slices_Contains_int_int N Φ [v47, v49]) fun v50 =>
 iteM (some v50) (
 optM (bdR [(0, 1), (1, 1), (2, 1), (3, 1), (4, 1)] [(.i .i64 0), .ns, .ns, (.i .i64 0), (.i .i64 0)] []) fun v51 =>
 bindM (stR 5 v3 v51) fun v52 =>
 rdM (ld true 5 v3) fun v53 =>
 pureM (.t [.ns, v53, (.i .i64 13)])
 ) (
 rdM (ld true 5 v2) fun v54 =>
 optM (bdR [(0, 1), (1, 1), (2, 1), (3, 1), (4, 1), (5, 1), (6, 1)] [(.i .i64 0), (.i .i64 0), (.i .i64 0), (.i .i64 0), (.i .i64 0), (.i .i64 0), (.s [])] [(0, (.i .i64 6)), (2, a2), (3, (.i .i64 2))]) fun v55 =>
 optM (faR 0 v1) fun v56 =>
 rdM (ld false 1 v56) fun v57 =>
 optM (bdR [(0, 1), (1, 1), (2, 1), (3, 1), (4, 1), (5, 1), (6, 1)] [(.i .i64 0), (.i .i64 0), (.i .i64 0), (.i .i64 0), (.i .i64 0), (.i .i64 0), (.s [])] [(0, (.i .i64 5)), (2, a2), (3, v57)]) fun v58 =>
 alM (bsR 2 7 (zeros [(.i .i64 0), (.i .i64 0), (.i .i64 0), (.i .i64 0), (.i .i64 0), (.i .i64 0), (.s [])] 14) [(0, v55), (1, v58)]) fun v59 =>
 bindM (F_rebuild_say N Φ [v54, v59]) fun v60 =>
 optM (exR 0 v60) fun v61 =>
 optM (exR 1 v60) fun v62 =>
 bindM (stR 5 v2 v62) fun v63 =>
 rdM (ld true 5 v2) fun v64 =>
 bindM (stR 5 v3 v64) fun v65 =>
 rdM (ld true 5 v3) fun v66 =>
 pureM (.t [v61, v66, (.i .i64 0)])
 )
 )
 )
def an_rebuild_Begin : An := (.two .n (.two (.one (.two .n (.two (.two .n .n) (.two .n (.two (.two .n .n) (.two .n (.two (.two .n .n) .n))))))) (.two .n (.two .n .n))))

/-- (*corbel/array.Array).enlist$1 -/
def tab_array_Array_enlist_1 (N : Nat) (Φ : Calls') : Calls' := fun f => cond (Nat.beq f id_array_Array_say) (some (F_array_Array_say N Φ)) (Φ f)
def F_array_Array_enlist_1 (N : Nat) (Φ : Calls') : List V → M V := fun args =>
 unc args fun a0 args =>
 unc args fun a1 args =>
 unn args <|
 rdM (ld false 1 a0) fun v1 =>
 rdM (ld false 1 a1) fun v2 =>
 bindM (F_array_Array_say N Φ [v1, v2]) fun v3 =>
 pureM v3
def an_array_Array_enlist_1 : An := (.two .n (.two .n .n))

/-- (*corbel/array.Array).enlist -/
def tab_array_Array_enlist (N : Nat) (Φ : Calls') : Calls' := fun f => cond (Nat.beq f id_array_Array_flush) (some (F_array_Array_flush N Φ)) (cond (Nat.beq f id_array_run) (some (F_array_run N Φ)) (cond (Nat.beq f id_rebuild_Begin) (some (F_rebuild_Begin N Φ)) (cond (Nat.beq f id_rig_Rig_Dead) (some (F_rig_Rig_Dead N Φ)) (cond (Nat.beq f id_book_Book_Records) (some (F_book_Book_Records N Φ)) (cond (Nat.beq f id_mlog_Format) (some (F_mlog_Format N Φ)) (cond (Nat.beq f id_array_Array_met) (some (F_array_Array_met N Φ)) (cond (Nat.beq f id_book_Book_Note) (some (F_book_Book_Note N Φ)) (Φ f))))))))
def F_array_Array_enlist (N : Nat) (Φ : Calls') : List V → M V := fun args =>
 unc args fun a0 args =>
 unc args fun a1 args =>
 unn args <|
 alM (boxR a0) fun v1 =>
 rdM (ld false 1 v1) fun v2 =>
 optM (nilR v2) fun v3 =>
 optM (faR 1 v3) fun v4 =>
 rdM (ld true 5 v4) fun v5 =>
 rdM (ld false 1 v1) fun v6 =>
 optM (nilR v6) fun v7 =>
 optM (faR 6 v7) fun v8 =>
 rdM (ld true 5 v8) fun v9 =>
 alM (alR 147 [.ns]) fun v10 =>
 alM (alR 66 [(.i .i64 0), .ns, .ns, (.i .i64 0), (.i .i64 0)]) fun v11 =>
 bindM (F_rebuild_Begin N Φ [v5, v9, a1]) fun v12 =>
 chkM (ckA (alR 66 [(.i .i64 0), .ns, .ns, (.i .i64 0), (.i .i64 0)]) v11) <|
 chkM (ckA (alR 147 [.ns]) v10) <|
 optM (exR 0 v12) fun v13 =>
 optM (exR 1 v12) fun v14 =>
 optM (exR 2 v12) fun v15 =>
 bindM (stR 1 v10 v13) fun v16 =>
 bindM (stR 5 v11 v14) fun v17 =>
 rdM (ld false 1 v1) fun v18 =>
 optM (nilR v18) fun v19 =>
 optM (faR 1 v19) fun v20 =>
 optM (faR 0 v20) fun v21 =>
 rdM (ld false 1 v21) fun v22 =>
 optM (binR .neq .o none v15 (.i .i64 0)) fun v23 =>
 bindM (gdM (boolV (some v23)) false (rM (ld false 1 v1))) fun v24 =>
 bindM (gdM (boolV (some v23)) false (pM (nilR v24))) fun v25 =>
 bindM (gdM (boolV (some v23)) false (pM (faR 0 v25))) fun v26 =>
 bindM (gdM (boolV (some v23)) false (rM (ld false 1 v26))) fun v27 =>
 bindM (gdM (boolV (some v23)) false (pM (some v22))) fun v28 =>
 bindM (gdM (boolV (some v23)) false (F_rig_Rig_Dead N Φ [v27, v28])) fun v29 =>
 optM (pickR v23 (.b true) v29) fun v30 =>
 iteM (some v30) (
 pureM (.i .i64 13)
 ) (
 rdM (ld false 1 v1) fun v31 =>
 bindM (F_array_Array_flush N Φ [v31]) fun v32 =>
 optM (binR .neq .o none v32 (.i .i64 0)) fun v33 =>
 iteM (some v33) (
 pureM v32
 ) (
 rdM (ld false 1 v1) fun v34 =>
 optM (nilR v34) fun v35 =>
 optM (faR 1 v35) fun v36 =>
 optM (faR 0 v36) fun v37 =>
 rdM (ld false 1 v37) fun v38 =>
 rdM (ld false 1 v1) fun v39 =>
 optM (nilR v39) fun v40 =>
 optM (faR 6 v40) fun v41 =>
 rdM (ld true 5 v41) fun v42 =>
 bindM (F_book_Book_Records N Φ [v42]) fun v43 =>
 optM (exR 0 v43) fun v44 =>
 optM (exR 1 v43) fun v45 =>
 alM (alR 66 [(.i .i64 0), .ns, .ns, (.i .i64 0), (.i .i64 0)]) fun v46 =>
 bindM (stR 5 v46 v45) fun v47 =>
 rdM (ld false 1 v1) fun v48 =>
 optM (nilR v48) fun v49 =>
 optM (faR 0 v49) fun v50 =>
 rdM (ld false 1 v50) fun v51 =>
 bindM (F_mlog_Format N Φ [v51, v38, v44]) fun v52 =>
 optM (exR 0 v52) fun v53 =>
 optM (exR 1 v52) fun v54 =>
 optM (binR .eql .o none v54 (.i .i64 7)) fun v55 =>
 iteM (some v55) (
 pureM (.i .i64 13)
 ) (
 optM (binR .neq .o none v54 (.i .i64 0)) fun v56 =>
 iteM (some v56) (
 rdM (ld false 1 v1) fun v57 =>
 bindM (F_array_Array_met N Φ [v57, a1, v54]) fun v58 =>
 pureM v58
 ) (
 rdM (ld false 1 v1) fun v59 =>
 optM (nilR v59) fun v60 =>
 optM (faR 11 v60) fun v61 =>
 rdM (ld false 1 v61) fun v62 =>
 bindM (muR (.one .i) v62 v38 v53) fun v63 =>
 rdM (ld false 1 v1) fun v64 =>
 optM (nilR v64) fun v65 =>
 optM (faR 6 v65) fun v66 =>
 rdM (ld true 5 v66) fun v67 =>
 bindM (F_book_Book_Records N Φ [v67]) fun v68 =>
 optM (exR 0 v68) fun v69 =>
 optM (exR 1 v68) fun v70 =>
 alM (alR 66 [(.i .i64 0), .ns, .ns, (.i .i64 0), (.i .i64 0)]) fun v71 =>
 bindM (stR 5 v71 v70) fun v72 =>
 rdM (ld false 1 v10) fun v73 =>
 optM (lnL v73) fun v74 =>
 lrM (
 loopM N (fun vs =>
 unc vs fun v75 vs =>
 unc vs fun v76 vs =>
 unc vs fun v77 vs =>
 unc vs fun v78 vs =>
 unc vs fun v79 vs =>
 unc vs fun v80 vs =>
 unn vs <|
 optM (binR .lss .o none v80 v79) fun v81 =>
 iteM (some v81) (
 rdM (ld false 1 v76) fun v82 =>
 optM (faR 0 v78) fun v83 =>
 rdM (ld false 1 v83) fun v84 =>
 optM (binR .add .o none v84 (.i .i64 1)) fun v85 =>
 optM (binR .add .o none v85 v80) fun v86 =>
 optM (iaL 7 v82 v80) fun v87 =>
 optM (faR 1 v87) fun v88 =>
 bindM (stR 1 v88 v86) fun v89 =>
 rdM (ld true 5 v78) fun v90 =>
 rdM (ld false 1 v76) fun v91 =>
 optM (iaL 7 v91 v80) fun v92 =>
 rdM (ld true 7 v92) fun v93 =>
 bindM (F_book_Book_Note N Φ [v90, v93]) fun v94 =>
 bindM (stR 5 v78 v94) fun v95 =>
 optM (binR .add .o none v80 (.i .i64 1)) fun v96 =>
 pureM (.nx [v75, v76, v77, v78, v79, v96])
 ) (
 pureM (.ex 0 [v75, v76, v77, v78])
 )
 ) [v1, v10, v11, v71, v74, (.i .i64 0)])
 (fun vs =>
 failM)
 (fun id vs =>
 cond (Nat.beq id 0) (
 unc vs fun v97 vs =>
 unc vs fun v98 vs =>
 unc vs fun v99 vs =>
 unc vs fun v100 vs =>
 unn vs <|
 rdM (ld true 5 v100) fun v101 =>
 bindM (stR 5 v99 v101) fun v102 =>
 rdM (ld false 1 v97) fun v103 =>
 rdM (ld false 1 v97) fun v104 =>
 rdM (ld true 5 v99) fun v105 =>
 optM (nilR v103) fun v106 =>
 optM (faR 6 v106) fun v107 =>
 bindM (stR 5 v107 v105) fun v108 =>
 chkM (ckR (ld false 1 v97) v104) <|
 optM (nilR v104) fun v109 =>
 optM (faR 15 v109) fun v110 =>
 bindM (stR 1 v110 (.i .i64 (-1))) fun v111 =>
 rdM (ld false 1 v97) fun v112 =>
 alM (bsR 2 1 (zeros [.nf] 2) [(0, (.f id_array_Array_enlist_1 [] [v97, v98])), (1, (.f id_array_Array_flush [v112] []))]) fun v113 =>
 bindM (F_array_run N Φ [v113]) fun v114 =>
 pureM v114
 ) <|
 failM)
 (fun vs =>
 unc vs fun v115 vs =>
 unn vs <|
 pureM v115
 )
 )
 )
 )
 )
def an_array_Array_enlist : An := (.two .n (.two .n (.two (.two .n (.two .n (.two (.two .n .n) .n))) (.two (.two .n (.two .n (.two (.two .n .n) .n))) (.two .n (.two .n (.two .n (.two (.two .n (.two (.two .n .n) .n)) (.two (.two .n (.two (.two .n .n) .n)) (.two .n (.two .n (.two (.two .n (.one (.loop [2, 5, 6, 15, 97, 98] [(0, [2, 5, 6, 15])] [4] (.two .n (.two (.two .n .n) (.two (.one (.two .n (.two .n .n))) .n)))))) (.two .n (.two .n (.two .n .n)))))))))))))))

/-- corbel/rebuild.Next$1 -/
def tab_rebuild_Next_1 (N : Nat) (Φ : Calls') : Calls' := fun f => Φ f
def F_rebuild_Next_1 (N : Nat) (Φ : Calls') : List V → M V := fun args =>
 unc args fun a0 args =>
 unc args fun a1 args =>
 unn args <|
 alM (boxR a0) fun v1 =>
 optM (faR 0 v1) fun v2 =>
 rdM (ld false 1 v2) fun v3 =>
 rdM (ld false 1 a1) fun v4 =>
 optM (binR .eql .o none v3 v4) fun v5 =>
 pureM v5
def an_rebuild_Next_1 : An := (.two .n (.two .n .n))

/-- corbel/rebuild.Next -/
def tab_rebuild_Next (N : Nat) (Φ : Calls') : Calls' := fun f => cond (Nat.beq f id_slices_IndexFunc_book_Zone_book_Zone) (some (F_slices_IndexFunc_book_Zone_book_Zone N Φ)) (Φ f)
def F_rebuild_Next (N : Nat) (Φ : Calls') : List V → M V := fun args =>
 unc args fun a0 args =>
 unc args fun a1 args =>
 unn args <|
 alM (boxR a0) fun v1 =>
 alM (boxR a1) fun v2 =>
 optM (faR 3 v2) fun v3 =>
 rdM (ld false 1 v3) fun v4 =>
 optM (binR .lss .o none v4 (.i .i64 0)) fun v5 =>
 bindM (gdM (boolV (some v5)) false (pM (faR 4 v2))) fun v6 =>
 bindM (gdM (boolV (some v5)) false (rM (ld false 1 v6))) fun v7 =>
 bindM (gdM (boolV (some v5)) false (pM (faR 1 v1))) fun v8 =>
 bindM (gdM (boolV (some v5)) false (rM (ld false 1 v8))) fun v9 =>
 bindM (gdM (boolV (some v5)) false (pM (binR .geq .o none v7 v9))) fun v10 =>
 optM (pickR v5 (.b true) v10) fun v11 =>
 iteM (some v11) (
 pureM (.t [(.i .i64 0), (.i .i64 0), (.b false)])
 ) (
 optM (faR 4 v2) fun v12 =>
 rdM (ld false 1 v12) fun v13 =>
 optM (foldInts maxI [v13, (.i .i64 2)]) fun v14 =>
 alM (alR 3 [(.i .i64 0)]) fun v15 =>
 bindM (stR 1 v15 v14) fun v16 =>
 rdM (ld false 1 v15) fun v17 =>
 optM (faR 1 v2) fun v18 =>
 rdM (ld false 1 v18) fun v19 =>
 bindM (F_slices_IndexFunc_book_Zone_book_Zone N Φ [v19, (.f id_rebuild_Next_1 [] [v15])]) fun v20 =>
 chkM (ckR (ld false 1 v15) v17) <|
 pureM (.t [v17, v20, (.b true)])
 )
def an_rebuild_Next : An := (.two .n (.two (.two .n (.two (.two .n .n) .n)) (.two .n (.two .n .n))))

/-- corbel/rebuild.Tasks -/
def tab_rebuild_Tasks (N : Nat) (Φ : Calls') : Calls' := fun f => cond (Nat.beq f id_plan_Lengths) (some (F_plan_Lengths N Φ)) (cond (Nat.beq f id_geom_Back) (some (F_geom_Back N Φ)) (Φ f))
def F_rebuild_Tasks (N : Nat) (Φ : Calls') : List V → M V := fun args =>
 unc args fun a0 args =>
 unc args fun a1 args =>
 unc args fun a2 args =>
 unc args fun a3 args =>
 unn args <|
 alM (boxR a0) fun v1 =>
 rdM (ld true 5 v1) fun v2 =>
 bindM (F_plan_Lengths N Φ [v2, a1, a2]) fun v3 =>
 optM (binR .lss .o none a3 (.i .i64 0)) fun v4 =>
 bindM (gdM (boolV (some v4)) false (pM (some a3))) fun v5 =>
 bindM (gdM (boolV (some v4)) false (pM (some v3))) fun v6 =>
 bindM (gdM (boolV (some v4)) false (pM (lnL v6))) fun v7 =>
 bindM (gdM (boolV (some v4)) false (pM (binR .geq .o none v5 v7))) fun v8 =>
 optM (pickR v4 (.b true) v8) fun v9 =>
 iteM (some v9) (
 pureM .ns
 ) (
 optM (iaL 1 v3 a3) fun v10 =>
 rdM (ld false 1 v10) fun v11 =>
 lrM (
 loopM N (fun vs =>
 unc vs fun v12 vs =>
 unc vs fun v13 vs =>
 unc vs fun v14 vs =>
 unc vs fun v15 vs =>
 unc vs fun v16 vs =>
 unc vs fun v17 vs =>
 unn vs <|
 optM (binR .lss .o none v17 v16) fun v18 =>
 iteM (some v18) (
 rdM (ld true 5 v14) fun v19 =>
 bindM (F_geom_Back N Φ [v19, v12, v17, v13]) fun v20 =>
 optM (exR 0 v20) fun v21 =>
 optM (exR 1 v20) fun v22 =>
 optM (unV .not v22) fun v23 =>
 optM (bdR [(0, 1), (1, 1), (2, 1)] [(.i .i64 0), (.b false), (.i .i64 0)] [(0, v17), (1, v23), (2, v21)]) fun v24 =>
 alM (bsR 1 3 (zeros [(.i .i64 0), (.b false), (.i .i64 0)] 3) [(0, v24)]) fun v25 =>
 bindM (apR 237 3 24 (srL 3 v25) v15) fun v26 =>
 optM (binR .add .o none v17 (.i .i64 1)) fun v27 =>
 pureM (.nx [v12, v13, v14, v26, v16, v27])
 ) (
 pureM (.ex 0 [v15])
 )
 ) [a1, a3, v1, .ns, v11, (.i .i64 0)])
 (fun vs =>
 failM)
 (fun id vs =>
 cond (Nat.beq id 0) (
 unc vs fun v28 vs =>
 unn vs <|
 pureM v28
 ) <|
 failM)
 (fun vs =>
 unc vs fun v29 vs =>
 unn vs <|
 pureM v29
 )
 )
def an_rebuild_Tasks : An := (.two .n (.two .n (.two (.two .n (.two (.two .n .n) .n)) (.two .n (.two (.two .n (.one (.loop [1, 3, 4, 10, 29, 30] [(0, [10])] [8] (.two .n (.two (.two .n .n) (.two (.one (.two .n (.two .n .n))) .n)))))) (.two .n .n))))))

/-- (*corbel/array.Array).wanted -/
def tab_array_Array_wanted (N : Nat) (Φ : Calls') : Calls' := fun f => cond (Nat.beq f id_array_Array_block) (some (F_array_Array_block N Φ)) (cond (Nat.beq f id_array_Array_wide) (some (F_array_Array_wide N Φ)) (cond (Nat.beq f id_xor_Add) (some (F_xor_Add N Φ)) (Φ f)))
def F_array_Array_wanted (N : Nat) (Φ : Calls') : List V → M V := fun args =>
 unc args fun a0 args =>
 unc args fun a1 args =>
 unc args fun a2 args =>
 unn args <|
 alM (boxR a2) fun v1 =>
 optM (faR 1 v1) fun v2 =>
 rdM (ld false 1 v2) fun v3 =>
 optM (unV .not v3) fun v4 =>
 iteM (some v4) (
 optM (faR 2 v1) fun v5 =>
 rdM (ld false 1 v5) fun v6 =>
 bindM (F_array_Array_block N Φ [a0, a1, v6]) fun v7 =>
 optM (exR 0 v7) fun v8 =>
 optM (exR 1 v7) fun v9 =>
 pureM (.t [v8, v9])
 ) (
 optM (faR 0 v1) fun v10 =>
 rdM (ld false 1 v10) fun v11 =>
 bindM (F_array_Array_wide N Φ [a0]) fun v12 =>
 chkM (ckR (ld false 1 v10) v11) <|
 optM (binR .mul .o none v11 v12) fun v13 =>
 lrM (
 loopM N (fun vs =>
 unc vs fun v14 vs =>
 unc vs fun v15 vs =>
 unc vs fun v16 vs =>
 unc vs fun v17 vs =>
 unc vs fun v18 vs =>
 unn vs <|
 optM (faR 0 v16) fun v19 =>
 rdM (ld false 1 v19) fun v20 =>
 optM (binR .add .o none v20 (.i .i64 1)) fun v21 =>
 bindM (F_array_Array_wide N Φ [v14]) fun v22 =>
 chkM (ckR (ld false 1 v19) v20) <|
 optM (binR .mul .o none v21 v22) fun v23 =>
 optM (binR .lss .o none v18 v23) fun v24 =>
 iteM (some v24) (
 bindM (F_array_Array_block N Φ [v14, v15, v18]) fun v25 =>
 optM (exR 0 v25) fun v26 =>
 optM (exR 1 v25) fun v27 =>
 optM (binR .neq .o none v27 (.i .i64 0)) fun v28 =>
 iteM (some v28) (
 pureM (.rt [(.s []), v27])
 ) (
 bindM (F_xor_Add N Φ [v17, v26]) fun v29 =>
 optM (binR .add .o none v18 (.i .i64 1)) fun v30 =>
 pureM (.nx [v14, v15, v16, v29, v30])
 )
 ) (
 pureM (.ex 0 [v17])
 )
 ) [a0, a1, v1, (.s []), v13])
 (fun vs =>
 failM)
 (fun id vs =>
 cond (Nat.beq id 0) (
 unc vs fun v31 vs =>
 unn vs <|
 pureM (.t [v31, (.i .i64 0)])
 ) <|
 failM)
 (fun vs =>
 unc vs fun v32 vs =>
 unc vs fun v33 vs =>
 unn vs <|
 pureM (.t [v32, v33])
 )
 )
def an_array_Array_wanted : An := (.two .n (.two (.two .n (.two (.two .n .n) .n)) (.two .n (.two (.two .n (.one (.loop [0, 1, 5, 8, 9] [(0, [8])] [6, 7] (.two (.two .n (.two .n .n)) (.two (.one (.two .n (.two (.two .n (.two (.two .n .n) .n)) .n))) .n))))) (.two .n .n)))))

/-- (*corbel/array.Array).fill -/
def tab_array_Array_fill (N : Nat) (Φ : Calls') : Calls' := fun f => cond (Nat.beq f id_zone_Machine_Get) (some (F_zone_Machine_Get N Φ)) (cond (Nat.beq f id_array_Array_alive) (some (F_array_Array_alive N Φ)) (cond (Nat.beq f id_array_Array_do) (some (F_array_Array_do N Φ)) (cond (Nat.beq f id_geom_Parity) (some (F_geom_Parity N Φ)) (cond (Nat.beq f id_array_Array_note) (some (F_array_Array_note N Φ)) (cond (Nat.beq f id_array_Array_remarked) (some (F_array_Array_remarked N Φ)) (cond (Nat.beq f id_rebuild_Tasks) (some (F_rebuild_Tasks N Φ)) (cond (Nat.beq f id_array_Array_wanted) (some (F_array_Array_wanted N Φ)) (cond (Nat.beq f id_stripe_Row_Count) (some (F_stripe_Row_Count N Φ)) (Φ f)))))))))
def F_array_Array_fill (N : Nat) (Φ : Calls') : List V → M V := fun args =>
 unc args fun a0 args =>
 unc args fun a1 args =>
 unc args fun a2 args =>
 unc args fun a3 args =>
 unn args <|
 optM (nilR a0) fun v1 =>
 optM (faR 12 v1) fun v2 =>
 rdM (ld false 1 v2) fun v3 =>
 bindM (F_zone_Machine_Get N Φ [v3, a3]) fun v4 =>
 optM (exR 0 v4) fun v5 =>
 optM (exR 1 v4) fun v6 =>
 alM (alR 30 [(.i .i64 0), (.i .i64 0)]) fun v7 =>
 bindM (stR 2 v7 v5) fun v8 =>
 optM (nilR a0) fun v9 =>
 optM (faR 1 v9) fun v10 =>
 rdM (ld true 5 v10) fun v11 =>
 optM (faR 1 v7) fun v12 =>
 rdM (ld false 1 v12) fun v13 =>
 bindM (F_rebuild_Tasks N Φ [v11, a3, v13, a1]) fun v14 =>
 optM (lnL v14) fun v15 =>
 lrM (
 loopM N (fun vs =>
 unc vs fun v16 vs =>
 unc vs fun v17 vs =>
 unc vs fun v18 vs =>
 unc vs fun v19 vs =>
 unc vs fun v20 vs =>
 unc vs fun v21 vs =>
 unc vs fun v22 vs =>
 unc vs fun v23 vs =>
 unn vs <|
 optM (binR .lss .o none v23 v22) fun v24 =>
 iteM (some v24) (
 optM (iaL 3 v21 v23) fun v25 =>
 rdM (ld true 3 v25) fun v26 =>
 alM (alR 237 [(.i .i64 0), (.b false), (.i .i64 0)]) fun v27 =>
 bindM (stR 3 v27 v26) fun v28 =>
 rdM (ld true 3 v27) fun v29 =>
 bindM (F_array_Array_wanted N Φ [v16, v19, v29]) fun v30 =>
 optM (exR 0 v30) fun v31 =>
 optM (exR 1 v30) fun v32 =>
 optM (binR .neq .o none v32 (.i .i64 0)) fun v33 =>
 iteM (some v33) (
 pureM (.rt [v32])
 ) (
 optM (binR .add .o none v20 v31) fun v34 =>
 optM (binR .add .o none v23 (.i .i64 1)) fun v35 =>
 pureM (.nx [v16, v17, v18, v19, v34, v21, v22, v35])
 )
 ) (
 pureM (.ex 0 [v16, v17, v18, v19, v20])
 )
 ) [a0, a1, a2, a3, (.s []), v14, v15, (.i .i64 0)])
 (fun vs =>
 failM)
 (fun id vs =>
 cond (Nat.beq id 0) (
 unc vs fun v36 vs =>
 unc vs fun v37 vs =>
 unc vs fun v38 vs =>
 unc vs fun v39 vs =>
 unc vs fun v40 vs =>
 unn vs <|
 lrM (
 optM (binR .neq .o none v40 (.s [])) fun v41 =>
 iteM (some v41) (
 optM (lnS v40) fun v42 =>
 optM (binR .quo .o none v42 (.i .i64 64)) fun v43 =>
 optM (bdR [(0, 1), (1, 1), (2, 1), (3, 1)] [(.i .i64 0), (.i .i64 0), (.i .i64 0), (.i .i64 0)] [(0, (.i .i64 2)), (1, v38), (3, v43)]) fun v44 =>
 bindM (F_array_Array_do N Φ [v36, v37, v44, v40]) fun v45 =>
 optM (exR 0 v45) fun v46 =>
 optM (exR 1 v45) fun v47 =>
 optM (exR 2 v45) fun v48 =>
 optM (binR .neq .o none v48 (.i .i64 0)) fun v49 =>
 bindM (gdM (boolV (some v49)) false (pM (some v36))) fun v50 =>
 bindM (gdM (boolV (some v49)) false (pM (some v37))) fun v51 =>
 bindM (gdM (boolV (some v49)) false (F_array_Array_alive N Φ [v50, v51])) fun v52 =>
 bindM (gdM (boolV (some v49)) false (pM (unV .not v52))) fun v53 =>
 optM (pickR v49 (.b true) v53) fun v54 =>
 iteM (some v54) (
 pureM (.rt [v48])
 ) (
 optM (nilR v36) fun v55 =>
 optM (faR 6 v55) fun v56 =>
 optM (faR 1 v56) fun v57 =>
 rdM (ld false 1 v57) fun v58 =>
 optM (iaL 3 v58 v39) fun v59 =>
 optM (faR 2 v59) fun v60 =>
 rdM (ld false 1 v60) fun v61 =>
 optM (binR .eql .o none v61 (.i .i64 2)) fun v62 =>
 iteM (some v62) (
 optM (bdR [(0, 1), (1, 1), (2, 1), (3, 1)] [(.i .i64 0), (.i .i64 0), (.i .i64 0), (.i .i64 0)] [(0, (.i .i64 4)), (1, v38)]) fun v63 =>
 bindM (F_array_Array_do N Φ [v36, v37, v63, (.s [])]) fun v64 =>
 optM (exR 0 v64) fun v65 =>
 optM (exR 1 v64) fun v66 =>
 optM (exR 2 v64) fun v67 =>
 optM (binR .neq .o none v67 (.i .i64 0)) fun v68 =>
 bindM (gdM (boolV (some v68)) false (pM (some v36))) fun v69 =>
 bindM (gdM (boolV (some v68)) false (pM (some v37))) fun v70 =>
 bindM (gdM (boolV (some v68)) false (F_array_Array_alive N Φ [v69, v70])) fun v71 =>
 bindM (gdM (boolV (some v68)) false (pM (unV .not v71))) fun v72 =>
 optM (pickR v68 (.b true) v72) fun v73 =>
 iteM (some v73) (
 pureM (.rt [v67])
 ) (
 pureM (.nx [v36, v37, v39])
 )
 ) (
 pureM (.nx [v36, v37, v39])
 )
 )
 ) (
 pureM (.nx [v36, v37, v39])
 )
 )
 (fun vs =>
 unc vs fun v74 vs =>
 unc vs fun v75 vs =>
 unc vs fun v76 vs =>
 unn vs <|
 optM (nilR v74) fun v77 =>
 optM (faR 13 v77) fun v78 =>
 rdM (ld false 1 v78) fun v79 =>
 optM (iaL 3 v79 v76) fun v80 =>
 rdM (ld true 3 v80) fun v81 =>
 alM (alR 141 [(.i .i64 0), (.i .i64 0), .ns]) fun v82 =>
 bindM (stR 3 v82 v81) fun v83 =>
 optM (faR 1 v82) fun v84 =>
 rdM (ld true 2 v84) fun v85 =>
 bindM (F_stripe_Row_Count N Φ [v85]) fun v86 =>
 optM (binR .gtr .o none v86 (.i .i64 0)) fun v87 =>
 bindM (gdM (boolV (some v87)) true (pM (some v74))) fun v88 =>
 bindM (gdM (boolV (some v87)) true (pM (nilR v88))) fun v89 =>
 bindM (gdM (boolV (some v87)) true (pM (faR 1 v89))) fun v90 =>
 bindM (gdM (boolV (some v87)) true (rM (ld true 5 v90))) fun v91 =>
 bindM (gdM (boolV (some v87)) true (pM (some v76))) fun v92 =>
 bindM (gdM (boolV (some v87)) true (pM (faR 0 v82))) fun v93 =>
 bindM (gdM (boolV (some v87)) true (rM (ld false 1 v93))) fun v94 =>
 bindM (gdM (boolV (some v87)) true (pM (some v75))) fun v95 =>
 bindM (gdM (boolV (some v87)) true (F_geom_Parity N Φ [v91, v92, v94])) fun v96 =>
 bindM (gdM (boolV (some v87)) true (pM (binR .eql .o none v96 v95))) fun v97 =>
 optM (pickR v87 v97 (.b false)) fun v98 =>
 iteM (some v98) (
 bindM (F_array_Array_remarked N Φ [v74, v76]) fun v99 =>
 bindM (F_array_Array_note N Φ [v74, v75, v99]) fun v100 =>
 pureM v100
 ) (
 pureM (.i .i64 0)
 )
 )
 (fun id vs =>
 failM)
 (fun vs =>
 unc vs fun v101 vs =>
 unn vs <|
 pureM v101
 )
 ) <|
 failM)
 (fun vs =>
 unc vs fun v102 vs =>
 unn vs <|
 pureM v102
 )
def an_array_Array_fill : An := (.two .n (.two .n (.two .n (.two (.two .n (.one (.loop [0, 1, 2, 3, 11, 40, 41, 42] [(0, [0, 1, 2, 3, 11])] [8] (.two .n (.two (.two .n .n) (.two (.one (.two .n (.two .n (.two (.two .n (.two (.two .n .n) .n)) .n)))) .n)))))) (.two (.cut [0, 1, 3] [] [8] (.two .n (.two (.two (.two .n (.two .n (.two (.two .n .n) .n))) (.two .n (.two (.two .n (.two .n (.two (.two .n .n) .n))) .n))) .n))) (.two (.two .n (.two .n (.two (.two .n .n) .n))) (.two .n .n)))))))

/-- corbel/rebuild.Advance -/
def tab_rebuild_Advance (N : Nat) (Φ : Calls') : Calls' := fun f => cond (Nat.beq f id_rebuild_Next) (some (F_rebuild_Next N Φ)) (cond (Nat.beq f id_rebuild_say) (some (F_rebuild_say N Φ)) (Φ f))
def F_rebuild_Advance (N : Nat) (Φ : Calls') : List V → M V := fun args =>
 unc args fun a0 args =>
 unc args fun a1 args =>
 unn args <|
 alM (boxR a0) fun v1 =>
 alM (boxR a1) fun v2 =>
 alM (alR 157 [(.i .i64 0), (.i .i64 0), (.i .i64 0), (.i .i64 0), (.i .i64 0), (.i .i64 0), (.s [])]) fun v3 =>
 alM (alR 66 [(.i .i64 0), .ns, .ns, (.i .i64 0), (.i .i64 0)]) fun v4 =>
 optM (faR 3 v2) fun v5 =>
 rdM (ld false 1 v5) fun v6 =>
 optM (binR .lss .o none v6 (.i .i64 0)) fun v7 =>
 iteM (some v7) (
 optM (bdR [(0, 1), (1, 1), (2, 1), (3, 1), (4, 1), (5, 1), (6, 1)] [(.i .i64 0), (.i .i64 0), (.i .i64 0), (.i .i64 0), (.i .i64 0), (.i .i64 0), (.s [])] []) fun v8 =>
 optM (bdR [(0, 1), (1, 1), (2, 1), (3, 1), (4, 1)] [(.i .i64 0), .ns, .ns, (.i .i64 0), (.i .i64 0)] []) fun v9 =>
 bindM (stR 7 v3 v8) fun v10 =>
 bindM (stR 5 v4 v9) fun v11 =>
 rdM (ld true 7 v3) fun v12 =>
 rdM (ld true 5 v4) fun v13 =>
 pureM (.t [v12, v13, (.i .i64 3)])
 ) (
 optM (bdR [(0, 1), (1, 1), (2, 1), (3, 1), (4, 1), (5, 1), (6, 1)] [(.i .i64 0), (.i .i64 0), (.i .i64 0), (.i .i64 0), (.i .i64 0), (.i .i64 0), (.s [])] [(0, (.i .i64 6)), (2, (.i .i64 65535))]) fun v14 =>
 alM (alR 157 [(.i .i64 0), (.i .i64 0), (.i .i64 0), (.i .i64 0), (.i .i64 0), (.i .i64 0), (.s [])]) fun v15 =>
 bindM (stR 7 v15 v14) fun v16 =>
 lrM (
 rdM (ld true 5 v1) fun v17 =>
 rdM (ld true 5 v2) fun v18 =>
 bindM (F_rebuild_Next N Φ [v17, v18]) fun v19 =>
 optM (exR 0 v19) fun v20 =>
 optM (exR 1 v19) fun v21 =>
 optM (exR 2 v19) fun v22 =>
 bindM (gdM (boolV (some v22)) true (pM (some v20))) fun v23 =>
 bindM (gdM (boolV (some v22)) true (pM (binR .add .o none v23 (.i .i64 1)))) fun v24 =>
 bindM (gdM (boolV (some v22)) true (pM (faR 1 v1))) fun v25 =>
 bindM (gdM (boolV (some v22)) true (rM (ld false 1 v25))) fun v26 =>
 bindM (gdM (boolV (some v22)) true (pM (binR .lss .o none v24 v26))) fun v27 =>
 optM (pickR v22 v27 (.b false)) fun v28 =>
 iteM (some v28) (
 optM (faR 3 v2) fun v29 =>
 rdM (ld false 1 v29) fun v30 =>
 optM (binR .add .o none v20 (.i .i64 1)) fun v31 =>
 optM (faR 2 v15) fun v32 =>
 bindM (stR 1 v32 v30) fun v33 =>
 optM (faR 3 v15) fun v34 =>
 bindM (stR 1 v34 v31) fun v35 =>
 pureM (.nx [v2, v3, v4, v15])
 ) (
 pureM (.nx [v2, v3, v4, v15])
 )
 )
 (fun vs =>
 unc vs fun v36 vs =>
 unc vs fun v37 vs =>
 unc vs fun v38 vs =>
 unc vs fun v39 vs =>
 unn vs <|
 rdM (ld true 5 v36) fun v40 =>
 rdM (ld true 7 v39) fun v41 =>
 alM (bsR 1 7 (zeros [(.i .i64 0), (.i .i64 0), (.i .i64 0), (.i .i64 0), (.i .i64 0), (.i .i64 0), (.s [])] 7) [(0, v41)]) fun v42 =>
 bindM (F_rebuild_say N Φ [v40, v42]) fun v43 =>
 optM (exR 0 v43) fun v44 =>
 optM (exR 1 v43) fun v45 =>
 bindM (stR 5 v36 v45) fun v46 =>
 optM (iaL 7 v44 (.i .i64 0)) fun v47 =>
 rdM (ld true 7 v47) fun v48 =>
 rdM (ld true 5 v36) fun v49 =>
 bindM (stR 7 v37 v48) fun v50 =>
 chkM (ckR (ld true 5 v36) v49) <|
 bindM (stR 5 v38 v49) fun v51 =>
 rdM (ld true 7 v37) fun v52 =>
 rdM (ld true 5 v38) fun v53 =>
 pureM (.t [v52, v53, (.i .i64 0)])
 )
 (fun id vs =>
 failM)
 (fun vs =>
 unc vs fun v54 vs =>
 unc vs fun v55 vs =>
 unc vs fun v56 vs =>
 unn vs <|
 rdM (ld true 7 v54) fun v57 =>
 rdM (ld true 5 v55) fun v58 =>
 pureM (.t [v57, v58, v56])
 )
 )
def an_rebuild_Advance : An := (.two .n (.two (.two .n (.two (.two .n .n) .n)) (.two .n (.two (.cut [3, 4, 5, 7] [] [4, 5, 6] (.two .n (.two .n (.two .n .n)))) (.two .n (.two .n .n))))))

/-- (*corbel/array.Array).step$1 -/
def tab_array_Array_step_1 (N : Nat) (Φ : Calls') : Calls' := fun f => cond (Nat.beq f id_array_Array_say) (some (F_array_Array_say N Φ)) (Φ f)
def F_array_Array_step_1 (N : Nat) (Φ : Calls') : List V → M V := fun args =>
 unc args fun a0 args =>
 unc args fun a1 args =>
 unn args <|
 rdM (ld false 1 a0) fun v1 =>
 rdM (ld true 7 a1) fun v2 =>
 alM (bsR 1 7 (zeros [(.i .i64 0), (.i .i64 0), (.i .i64 0), (.i .i64 0), (.i .i64 0), (.i .i64 0), (.s [])] 7) [(0, v2)]) fun v3 =>
 bindM (F_array_Array_say N Φ [v1, v3]) fun v4 =>
 pureM v4
def an_array_Array_step_1 : An := (.two .n (.two .n .n))

/-- (*corbel/array.Array).step -/
def tab_array_Array_step (N : Nat) (Φ : Calls') : Calls' := fun f => cond (Nat.beq f id_array_Array_alive) (some (F_array_Array_alive N Φ)) (cond (Nat.beq f id_array_Array_flush) (some (F_array_Array_flush N Φ)) (cond (Nat.beq f id_array_run) (some (F_array_run N Φ)) (cond (Nat.beq f id_rebuild_Next) (some (F_rebuild_Next N Φ)) (cond (Nat.beq f id_array_Array_do) (some (F_array_Array_do N Φ)) (cond (Nat.beq f id_array_Array_fill) (some (F_array_Array_fill N Φ)) (cond (Nat.beq f id_rebuild_Advance) (some (F_rebuild_Advance N Φ)) (Φ f)))))))
def F_array_Array_step (N : Nat) (Φ : Calls') : List V → M V := fun args =>
 unc args fun a0 args =>
 unc args fun a1 args =>
 unn args <|
 alM (boxR a0) fun v1 =>
 rdM (ld false 1 v1) fun v2 =>
 optM (nilR v2) fun v3 =>
 optM (faR 1 v3) fun v4 =>
 rdM (ld true 5 v4) fun v5 =>
 rdM (ld false 1 v1) fun v6 =>
 optM (nilR v6) fun v7 =>
 optM (faR 6 v7) fun v8 =>
 rdM (ld true 5 v8) fun v9 =>
 bindM (F_rebuild_Next N Φ [v5, v9]) fun v10 =>
 optM (exR 0 v10) fun v11 =>
 optM (exR 1 v10) fun v12 =>
 optM (exR 2 v10) fun v13 =>
 lrM (
 iteM (some v13) (
 rdM (ld false 1 v1) fun v14 =>
 optM (bdR [(0, 1), (1, 1), (2, 1), (3, 1)] [(.i .i64 0), (.i .i64 0), (.i .i64 0), (.i .i64 0)] [(0, (.i .i64 3)), (1, v11)]) fun v15 =>
 bindM (F_array_Array_do N Φ [v14, a1, v15, (.s [])]) fun v16 =>
 optM (exR 0 v16) fun v17 =>
 optM (exR 1 v16) fun v18 =>
 optM (exR 2 v16) fun v19 =>
 optM (binR .neq .o none v19 (.i .i64 0)) fun v20 =>
 bindM (gdM (boolV (some v20)) false (rM (ld false 1 v1))) fun v21 =>
 bindM (gdM (boolV (some v20)) false (pM (some a1))) fun v22 =>
 bindM (gdM (boolV (some v20)) false (F_array_Array_alive N Φ [v21, v22])) fun v23 =>
 bindM (gdM (boolV (some v20)) false (pM (unV .not v23))) fun v24 =>
 optM (pickR v20 (.b true) v24) fun v25 =>
 iteM (some v25) (
 pureM (.rt [v19])
 ) (
 lrM (
 optM (binR .geq .o none v12 (.i .i64 0)) fun v26 =>
 iteM (some v26) (
 rdM (ld false 1 v1) fun v27 =>
 bindM (F_array_Array_fill N Φ [v27, a1, v11, v12]) fun v28 =>
 optM (binR .neq .o none v28 (.i .i64 0)) fun v29 =>
 bindM (gdM (boolV (some v29)) false (rM (ld false 1 v1))) fun v30 =>
 bindM (gdM (boolV (some v29)) false (pM (some a1))) fun v31 =>
 bindM (gdM (boolV (some v29)) false (F_array_Array_alive N Φ [v30, v31])) fun v32 =>
 bindM (gdM (boolV (some v29)) false (pM (unV .not v32))) fun v33 =>
 optM (pickR v29 (.b true) v33) fun v34 =>
 iteM (some v34) (
 pureM (.rt [v28])
 ) (
 pureM (.nx [a1, v1])
 )
 ) (
 pureM (.nx [a1, v1])
 )
 )
 (fun vs =>
 unc vs fun v35 vs =>
 unc vs fun v36 vs =>
 unn vs <|
 rdM (ld false 1 v36) fun v37 =>
 bindM (F_array_Array_flush N Φ [v37]) fun v38 =>
 optM (binR .neq .o none v38 (.i .i64 0)) fun v39 =>
 bindM (gdM (boolV (some v39)) false (rM (ld false 1 v36))) fun v40 =>
 bindM (gdM (boolV (some v39)) false (pM (some v35))) fun v41 =>
 bindM (gdM (boolV (some v39)) false (F_array_Array_alive N Φ [v40, v41])) fun v42 =>
 bindM (gdM (boolV (some v39)) false (pM (unV .not v42))) fun v43 =>
 optM (pickR v39 (.b true) v43) fun v44 =>
 iteM (some v44) (
 pureM (.rt [v38])
 ) (
 pureM (.nx [v36])
 )
 )
 (fun id vs =>
 failM)
 (fun vs =>
 unc vs fun v45 vs =>
 unn vs <|
 pureM (.rt [v45])
 )
 )
 ) (
 pureM (.nx [v1])
 )
 )
 (fun vs =>
 unc vs fun v46 vs =>
 unn vs <|
 rdM (ld false 1 v46) fun v47 =>
 optM (nilR v47) fun v48 =>
 optM (faR 1 v48) fun v49 =>
 rdM (ld true 5 v49) fun v50 =>
 rdM (ld false 1 v46) fun v51 =>
 optM (nilR v51) fun v52 =>
 optM (faR 6 v52) fun v53 =>
 rdM (ld true 5 v53) fun v54 =>
 alM (alR 157 [(.i .i64 0), (.i .i64 0), (.i .i64 0), (.i .i64 0), (.i .i64 0), (.i .i64 0), (.s [])]) fun v55 =>
 alM (alR 66 [(.i .i64 0), .ns, .ns, (.i .i64 0), (.i .i64 0)]) fun v56 =>
 bindM (F_rebuild_Advance N Φ [v50, v54]) fun v57 =>
 chkM (ckA (alR 66 [(.i .i64 0), .ns, .ns, (.i .i64 0), (.i .i64 0)]) v56) <|
 chkM (ckA (alR 157 [(.i .i64 0), (.i .i64 0), (.i .i64 0), (.i .i64 0), (.i .i64 0), (.i .i64 0), (.s [])]) v55) <|
 optM (exR 0 v57) fun v58 =>
 optM (exR 1 v57) fun v59 =>
 optM (exR 2 v57) fun v60 =>
 bindM (stR 7 v55 v58) fun v61 =>
 bindM (stR 5 v56 v59) fun v62 =>
 optM (binR .neq .o none v60 (.i .i64 0)) fun v63 =>
 iteM (some v63) (
 pureM v60
 ) (
 rdM (ld false 1 v46) fun v64 =>
 rdM (ld true 5 v56) fun v65 =>
 optM (nilR v64) fun v66 =>
 optM (faR 6 v66) fun v67 =>
 bindM (stR 5 v67 v65) fun v68 =>
 rdM (ld false 1 v46) fun v69 =>
 alM (bsR 2 1 (zeros [.nf] 2) [(0, (.f id_array_Array_step_1 [] [v46, v55])), (1, (.f id_array_Array_flush [v69] []))]) fun v70 =>
 bindM (F_array_run N Φ [v70]) fun v71 =>
 pureM v71
 )
 )
 (fun id vs =>
 failM)
 (fun vs =>
 unc vs fun v72 vs =>
 unn vs <|
 pureM v72
 )
def an_array_Array_step : An := (.two .n (.two .n (.two (.cut [2] [] [4] (.two .n (.two (.two (.two .n (.two .n (.two (.two .n .n) .n))) (.two (.cut [1, 2] [] [4] (.two .n (.two (.two .n (.two .n (.two (.two .n .n) .n))) .n))) (.two .n (.two .n (.two (.two .n .n) .n))))) .n))) (.two .n (.two (.two .n (.two (.two .n .n) .n)) (.two .n (.two .n .n)))))))

/-- (*corbel/array.Array).Rebuild -/
def tab_array_Array_Rebuild (N : Nat) (Φ : Calls') : Calls' := fun f => cond (Nat.beq f id_array_Array_ready) (some (F_array_Array_ready N Φ)) (cond (Nat.beq f id_array_Array_alive) (some (F_array_Array_alive N Φ)) (cond (Nat.beq f id_array_Array_enlist) (some (F_array_Array_enlist N Φ)) (cond (Nat.beq f id_array_Array_step) (some (F_array_Array_step N Φ)) (Φ f))))
def F_array_Array_Rebuild (N : Nat) (Φ : Calls') : List V → M V := fun args =>
 unc args fun a0 args =>
 unn args <|
 bindM (F_array_Array_ready N Φ [a0]) fun v1 =>
 optM (binR .neq .o none v1 (.i .i64 0)) fun v2 =>
 iteM (some v2) (
 pureM (.t [(.b false), v1])
 ) (
 optM (nilR a0) fun v3 =>
 optM (faR 6 v3) fun v4 =>
 optM (faR 3 v4) fun v5 =>
 rdM (ld false 1 v5) fun v6 =>
 lrM (
 optM (binR .lss .o none v6 (.i .i64 0)) fun v7 =>
 iteM (some v7) (
 optM (nilR a0) fun v8 =>
 optM (faR 15 v8) fun v9 =>
 rdM (ld false 1 v9) fun v10 =>
 pureM (.nx [a0, v10])
 ) (
 pureM (.nx [a0, v6])
 )
 )
 (fun vs =>
 unc vs fun v11 vs =>
 unc vs fun v12 vs =>
 unn vs <|
 lrM (
 optM (binR .lss .o none v12 (.i .i64 0)) fun v13 =>
 iteM (some v13) (
 pureM (.rt [(.b true), (.i .i64 0)])
 ) (
 bindM (F_array_Array_alive N Φ [v11, v12]) fun v14 =>
 optM (unV .not v14) fun v15 =>
 iteM (some v15) (
 bindM (F_array_Array_enlist N Φ [v11, v12]) fun v16 =>
 pureM (.nx [v11, v16])
 ) (
 bindM (F_array_Array_step N Φ [v11, v12]) fun v17 =>
 pureM (.nx [v11, v17])
 )
 )
 )
 (fun vs =>
 unc vs fun v18 vs =>
 unc vs fun v19 vs =>
 unn vs <|
 optM (binR .neq .o none v19 (.i .i64 0)) fun v20 =>
 iteM (some v20) (
 pureM (.t [(.b false), v19])
 ) (
 optM (nilR v18) fun v21 =>
 optM (faR 6 v21) fun v22 =>
 optM (faR 3 v22) fun v23 =>
 rdM (ld false 1 v23) fun v24 =>
 optM (binR .lss .o none v24 (.i .i64 0)) fun v25 =>
 bindM (gdM (boolV (some v25)) true (pM (some v18))) fun v26 =>
 bindM (gdM (boolV (some v25)) true (pM (nilR v26))) fun v27 =>
 bindM (gdM (boolV (some v25)) true (pM (faR 15 v27))) fun v28 =>
 bindM (gdM (boolV (some v25)) true (rM (ld false 1 v28))) fun v29 =>
 bindM (gdM (boolV (some v25)) true (pM (binR .lss .o none v29 (.i .i64 0)))) fun v30 =>
 optM (pickR v25 v30 (.b false)) fun v31 =>
 pureM (.t [v31, (.i .i64 0)])
 )
 )
 (fun id vs =>
 failM)
 (fun vs =>
 unc vs fun v32 vs =>
 unc vs fun v33 vs =>
 unn vs <|
 pureM (.t [v32, v33])
 )
 )
 (fun id vs =>
 failM)
 (fun vs =>
 unc vs fun v34 vs =>
 unc vs fun v35 vs =>
 unn vs <|
 pureM (.t [v34, v35])
 )
 )
def an_array_Array_Rebuild : An := (.two .n (.two (.two .n (.two .n (.two (.two .n .n) .n))) (.two .n (.two (.cut [0, 5] [] [2, 3] (.two .n (.two .n .n))) (.two .n (.two (.cut [0, 6] [] [2, 3] (.one (.two .n (.two (.two .n .n) (.two .n (.two .n .n)))))) (.two (.two .n (.two (.two .n .n) .n)) (.two .n .n))))))))

/-- (*corbel/array.Array).Flush -/
def tab_array_Array_Flush (N : Nat) (Φ : Calls') : Calls' := fun f => cond (Nat.beq f id_array_Array_ready) (some (F_array_Array_ready N Φ)) (cond (Nat.beq f id_array_Array_flush) (some (F_array_Array_flush N Φ)) (Φ f))
def F_array_Array_Flush (N : Nat) (Φ : Calls') : List V → M V := fun args =>
 unc args fun a0 args =>
 unn args <|
 bindM (F_array_Array_ready N Φ [a0]) fun v1 =>
 optM (binR .neq .o none v1 (.i .i64 0)) fun v2 =>
 iteM (some v2) (
 pureM v1
 ) (
 bindM (F_array_Array_flush N Φ [a0]) fun v3 =>
 pureM v3
 )
def an_array_Array_Flush : An := (.two .n (.two (.two .n (.two .n (.two (.two .n .n) .n))) (.two .n .n)))

/-- corbel/corbellaw17.ArrayNil -/
def tab_corbellaw17_ArrayNil (N : Nat) (Φ : Calls') : Calls' := fun f => cond (Nat.beq f id_corbellaw17_speaks) (some (F_corbellaw17_speaks N Φ)) (cond (Nat.beq f id_array_Array_Do) (some (F_array_Array_Do N Φ)) (cond (Nat.beq f id_array_Array_Zone) (some (F_array_Array_Zone N Φ)) (cond (Nat.beq f id_array_Array_Rebuild) (some (F_array_Array_Rebuild N Φ)) (cond (Nat.beq f id_array_Open) (some (F_array_Open N Φ)) (cond (Nat.beq f id_corbellaw17_geometry) (some (F_corbellaw17_geometry N Φ)) (cond (Nat.beq f id_array_Array_Flush) (some (F_array_Array_Flush N Φ)) (cond (Nat.beq f id_array_Array_Status) (some (F_array_Array_Status N Φ)) (Φ f))))))))
def F_corbellaw17_ArrayNil (N : Nat) (Φ : Calls') : List V → M V := fun args =>
 unc args fun a0 args =>
 unc args fun a1 args =>
 unn args <|
 bindM (F_corbellaw17_speaks N Φ []) fun v1 =>
 optM (unV .not v1) fun v2 =>
 iteM (some v2) (
 pureM (.b false)
 ) (
 optM (bdR [(0, 1), (1, 1), (2, 1), (3, 1)] [(.i .i64 0), (.i .i64 0), (.i .i64 0), (.i .i64 0)] [(0, a0), (1, a1)]) fun v3 =>
 bindM (F_array_Array_Do N Φ [.pn, v3, (.s [])]) fun v4 =>
 optM (exR 0 v4) fun v5 =>
 optM (exR 1 v4) fun v6 =>
 optM (exR 2 v4) fun v7 =>
 bindM (F_array_Array_Zone N Φ [.pn, a1]) fun v8 =>
 optM (exR 0 v8) fun v9 =>
 optM (exR 1 v8) fun v10 =>
 alM (alR 30 [(.i .i64 0), (.i .i64 0)]) fun v11 =>
 bindM (stR 2 v11 v9) fun v12 =>
 bindM (F_array_Array_Rebuild N Φ [.pn]) fun v13 =>
 optM (exR 0 v13) fun v14 =>
 optM (exR 1 v13) fun v15 =>
 optM (bdA 1 [(.i .i64 0), (.i .i64 0), (.i .i64 0)] []) fun v16 =>
 bindM (F_corbellaw17_geometry N Φ [v16]) fun v17 =>
 bindM (F_array_Open N Φ [.pn, v17]) fun v18 =>
 optM (exR 0 v18) fun v19 =>
 optM (exR 1 v18) fun v20 =>
 optM (binR .eql .o none v5 (.s [])) fun v21 =>
 bindM (gdM (boolV (some v21)) true (pM (some v6))) fun v22 =>
 bindM (gdM (boolV (some v21)) true (pM (binR .eql .o none v22 (.i .i64 0)))) fun v23 =>
 optM (pickR v21 v23 (.b false)) fun v24 =>
 bindM (gdM (boolV (some v24)) true (pM (some v7))) fun v25 =>
 bindM (gdM (boolV (some v24)) true (pM (binR .eql .o none v25 (.i .i64 1)))) fun v26 =>
 optM (pickR v24 v26 (.b false)) fun v27 =>
 bindM (gdM (boolV (some v27)) true (rM (ld true 2 v11))) fun v28 =>
 bindM (gdM (boolV (some v27)) true (pM (bdR [(0, 1), (1, 1)] [(.i .i64 0), (.i .i64 0)] []))) fun v29 =>
 bindM (gdM (boolV (some v27)) true (pM (binR .eql .f (some [.i, .i]) v28 v29))) fun v30 =>
 optM (pickR v27 v30 (.b false)) fun v31 =>
 bindM (gdM (boolV (some v31)) true (pM (some v10))) fun v32 =>
 bindM (gdM (boolV (some v31)) true (pM (unV .not v32))) fun v33 =>
 optM (pickR v31 v33 (.b false)) fun v34 =>
 bindM (gdM (boolV (some v34)) true (pM (some v14))) fun v35 =>
 bindM (gdM (boolV (some v34)) true (pM (unV .not v35))) fun v36 =>
 optM (pickR v34 v36 (.b false)) fun v37 =>
 bindM (gdM (boolV (some v37)) true (pM (some v15))) fun v38 =>
 bindM (gdM (boolV (some v37)) true (pM (binR .eql .o none v38 (.i .i64 1)))) fun v39 =>
 optM (pickR v37 v39 (.b false)) fun v40 =>
 bindM (gdM (boolV (some v40)) true (pM (some .pn))) fun v41 =>
 bindM (gdM (boolV (some v40)) true (F_array_Array_Flush N Φ [v41])) fun v42 =>
 bindM (gdM (boolV (some v40)) true (pM (binR .eql .o none v42 (.i .i64 1)))) fun v43 =>
 optM (pickR v40 v43 (.b false)) fun v44 =>
 bindM (gdM (boolV (some v44)) true (pM (some .pn))) fun v45 =>
 bindM (gdM (boolV (some v44)) true (F_array_Array_Status N Φ [v45])) fun v46 =>
 bindM (gdM (boolV (some v44)) true (pM (bdR [(0, 1), (1, 1), (2, 1)] [(.i .i64 0), (.i .i64 0), (.b false)] [(0, (.i .i64 (-1))), (1, (.i .i64 (-1)))]))) fun v47 =>
 bindM (gdM (boolV (some v44)) true (pM (binR .eql .f (some [.i, .i, .b]) v46 v47))) fun v48 =>
 optM (pickR v44 v48 (.b false)) fun v49 =>
 bindM (gdM (boolV (some v49)) true (pM (some v19))) fun v50 =>
 bindM (gdM (boolV (some v49)) true (pM (binR .eql .p none v50 .pn))) fun v51 =>
 optM (pickR v49 v51 (.b false)) fun v52 =>
 bindM (gdM (boolV (some v52)) true (pM (some v20))) fun v53 =>
 bindM (gdM (boolV (some v52)) true (pM (binR .eql .o none v53 (.i .i64 1)))) fun v54 =>
 optM (pickR v52 v54 (.b false)) fun v55 =>
 pureM v55
 )
def an_corbellaw17_ArrayNil : An := (.two .n (.two (.two .n (.two (.two .n .n) .n)) (.two .n (.two .n (.two .n (.two .n (.two .n (.two .n .n))))))))

/-- corbel/corbellaw22.geometry -/
def tab_corbellaw22_geometry (N : Nat) (Φ : Calls') : Calls' := fun f => Φ f
def F_corbellaw22_geometry (N : Nat) (Φ : Calls') : List V → M V := fun args =>
 unc args fun a0 args =>
 unn args <|
 alM (boxR a0) fun v1 =>
 alM (alR 38 [(.i .i64 0), (.i .i64 0), (.i .i64 0), (.i .i64 0), (.i .i64 0)]) fun v2 =>
 optM (iaA 3 1 v1 (.i .i64 0)) fun v3 =>
 rdM (ld false 1 v3) fun v4 =>
 optM (binR .and .o none v4 (.i .i64 1)) fun v5 =>
 optM (binR .add .o none (.i .i64 3) v5) fun v6 =>
 optM (iaA 3 1 v1 (.i .i64 1)) fun v7 =>
 rdM (ld false 1 v7) fun v8 =>
 optM (binR .and .o none v8 (.i .i64 1)) fun v9 =>
 optM (binR .add .o none (.i .i64 6) v9) fun v10 =>
 optM (iaA 3 1 v1 (.i .i64 2)) fun v11 =>
 rdM (ld false 1 v11) fun v12 =>
 optM (binR .and .o none v12 (.i .i64 1)) fun v13 =>
 optM (binR .add .o none (.i .i64 1) v13) fun v14 =>
 optM (iaA 3 1 v1 (.i .i64 2)) fun v15 =>
 rdM (ld false 1 v15) fun v16 =>
 optM (binR .and .o none v16 (.i .i64 3)) fun v17 =>
 optM (binR .add .o none (.i .i64 4) v17) fun v18 =>
 optM (foldInts minI [v18, (.i .i64 6)]) fun v19 =>
 optM (bdR [(0, 1), (1, 1), (2, 1), (3, 1), (4, 1)] [(.i .i64 0), (.i .i64 0), (.i .i64 0), (.i .i64 0), (.i .i64 0)] [(0, v6), (1, v10), (3, v14), (4, v19), (2, (.i .i64 27))]) fun v20 =>
 bindM (stR 5 v2 v20) fun v21 =>
 rdM (ld true 5 v2) fun v22 =>
 pureM v22
def an_corbellaw22_geometry : An := (.two .n (.two .n .n))

/-- corbel/volume.Format -/
def tab_volume_Format (N : Nat) (Φ : Calls') : Calls' := fun f => cond (Nat.beq f id_array_Format) (some (F_array_Format N Φ)) (Φ f)
def F_volume_Format (N : Nat) (Φ : Calls') : List V → M V := fun args =>
 unc args fun a0 args =>
 unc args fun a1 args =>
 unn args <|
 alM (boxR a1) fun v1 =>
 rdM (ld true 5 v1) fun v2 =>
 bindM (F_array_Format N Φ [a0, v2]) fun v3 =>
 pureM v3
def an_volume_Format : An := (.two .n (.two .n .n))

/-- (*corbel/lmap.Map).Add -/
def tab_lmap_Map_Add (N : Nat) (Φ : Calls') : Calls' := fun f => Φ f
def F_lmap_Map_Add (N : Nat) (Φ : Calls') : List V → M V := fun args =>
 unc args fun a0 args =>
 unc args fun a1 args =>
 unc args fun a2 args =>
 unc args fun a3 args =>
 unn args <|
 alM (boxR a3) fun v1 =>
 optM (binR .eql .p none a0 .pn) fun v2 =>
 iteM (some v2) (
 pureM (.t [])
 ) (
 optM (nilR a0) fun v3 =>
 optM (faR 1 v3) fun v4 =>
 rdM (ld false 1 v4) fun v5 =>
 optM (faR 0 v1) fun v6 =>
 rdM (ld false 1 v6) fun v7 =>
 optM (foldInts maxI [v5, v7]) fun v8 =>
 optM (nilR a0) fun v9 =>
 optM (faR 1 v9) fun v10 =>
 bindM (stR 1 v10 v8) fun v11 =>
 optM (faR 1 v1) fun v12 =>
 rdM (ld false 1 v12) fun v13 =>
 optM (lnL v13) fun v14 =>
 lrM (
 loopM N (fun vs =>
 unc vs fun v15 vs =>
 unc vs fun v16 vs =>
 unc vs fun v17 vs =>
 unc vs fun v18 vs =>
 unc vs fun v19 vs =>
 unc vs fun v20 vs =>
 unc vs fun v21 vs =>
 unn vs <|
 optM (binR .lss .o none v21 v20) fun v22 =>
 iteM (some v22) (
 lrM (
 optM (iaL 2 v19 v21) fun v23 =>
 rdM (ld true 2 v23) fun v24 =>
 alM (alR 105 [(.i .i64 0), (.b false)]) fun v25 =>
 bindM (stR 2 v25 v24) fun v26 =>
 optM (nilR v15) fun v27 =>
 optM (faR 0 v27) fun v28 =>
 rdM (ld false 1 v28) fun v29 =>
 optM (faR 0 v25) fun v30 =>
 rdM (ld false 1 v30) fun v31 =>
 rdM (lkR (.one .i) (.g [(.i .i64 0), (.i .i64 0), (.i .i64 0), (.i .i64 0), (.b false)]) true v29 v31) fun v32 =>
 optM (exR 0 v32) fun v33 =>
 optM (exR 1 v32) fun v34 =>
 alM (alR 196 [(.i .i64 0), (.i .i64 0), (.i .i64 0), (.i .i64 0), (.b false)]) fun v35 =>
 bindM (stR 5 v35 v33) fun v36 =>
 bindM (gdM (boolV (some v34)) true (pM (faR 3 v35))) fun v37 =>
 bindM (gdM (boolV (some v34)) true (rM (ld false 1 v37))) fun v38 =>
 bindM (gdM (boolV (some v34)) true (pM (faR 0 v18))) fun v39 =>
 bindM (gdM (boolV (some v34)) true (rM (ld false 1 v39))) fun v40 =>
 bindM (gdM (boolV (some v34)) true (pM (binR .gtr .o none v38 v40))) fun v41 =>
 optM (pickR v34 v41 (.b false)) fun v42 =>
 iteM (some v42) (
 pureM (.nx [v15, v16, v17, v18, v19, v20, v21])
 ) (
 optM (nilR v15) fun v43 =>
 optM (faR 0 v43) fun v44 =>
 rdM (ld false 1 v44) fun v45 =>
 optM (faR 0 v25) fun v46 =>
 rdM (ld false 1 v46) fun v47 =>
 optM (bdR [(0, 1), (1, 1), (2, 1)] [(.i .i64 0), (.i .i64 0), (.i .i64 0)] [(0, v16), (1, v17), (2, v21)]) fun v48 =>
 optM (faR 0 v18) fun v49 =>
 rdM (ld false 1 v49) fun v50 =>
 optM (faR 1 v25) fun v51 =>
 rdM (ld false 1 v51) fun v52 =>
 optM (bdR [(0, 3), (3, 1), (4, 1)] [(.i .i64 0), (.i .i64 0), (.i .i64 0), (.i .i64 0), (.b false)] [(0, v48), (1, v50), (2, v52)]) fun v53 =>
 bindM (muR (.one .i) v45 v47 v53) fun v54 =>
 pureM (.nx [v15, v16, v17, v18, v19, v20, v21])
 )
 )
 (fun vs =>
 unc vs fun v55 vs =>
 unc vs fun v56 vs =>
 unc vs fun v57 vs =>
 unc vs fun v58 vs =>
 unc vs fun v59 vs =>
 unc vs fun v60 vs =>
 unc vs fun v61 vs =>
 unn vs <|
 optM (binR .add .o none v61 (.i .i64 1)) fun v62 =>
 pureM (.nx [v55, v56, v57, v58, v59, v60, v62])
 )
 (fun id vs =>
 failM)
 (fun vs =>
 unn vs <|
 pureM (.rt [])
 )
 ) (
 pureM (.ex 0 [])
 )
 ) [a0, a1, a2, v1, v13, v14, (.i .i64 0)])
 (fun vs =>
 failM)
 (fun id vs =>
 cond (Nat.beq id 0) (
 unn vs <|
 pureM (.t [])
 ) <|
 failM)
 (fun vs =>
 unn vs <|
 pureM (.t [])
 )
 )
def an_lmap_Map_Add : An := (.two .n (.two (.two .n (.two .n .n)) (.two .n (.two .n (.one (.loop [0, 1, 2, 7, 25, 26, 27] [(0, [])] [] (.two .n (.two (.two .n .n) (.two (.cut [0, 1, 2, 7, 25, 26, 27] [] [] (.one (.two .n (.two (.two .n (.two .n (.two .n .n))) .n)))) .n)))))))))

/-- (*corbel/volume.Volume).add -/
def tab_volume_Volume_add (N : Nat) (Φ : Calls') : Calls' := fun f => cond (Nat.beq f id_lmap_Map_Add) (some (F_lmap_Map_Add N Φ)) (Φ f)
def F_volume_Volume_add (N : Nat) (Φ : Calls') : List V → M V := fun args =>
 unc args fun a0 args =>
 unc args fun a1 args =>
 unc args fun a2 args =>
 unc args fun a3 args =>
 unn args <|
 alM (boxR a3) fun v1 =>
 optM (nilR a0) fun v2 =>
 optM (faR 6 v2) fun v3 =>
 rdM (ld false 1 v3) fun v4 =>
 rdM (ld true 3 v1) fun v5 =>
 bindM (F_lmap_Map_Add N Φ [v4, a1, a2, v5]) fun v6 =>
 optM (binR .add .o none a2 (.i .i64 1)) fun v7 =>
 optM (faR 1 v1) fun v8 =>
 rdM (ld false 1 v8) fun v9 =>
 optM (lnL v9) fun v10 =>
 lrM (
 loopM N (fun vs =>
 unc vs fun v11 vs =>
 unc vs fun v12 vs =>
 unc vs fun v13 vs =>
 unc vs fun v14 vs =>
 unc vs fun v15 vs =>
 unc vs fun v16 vs =>
 unc vs fun v17 vs =>
 unn vs <|
 optM (binR .lss .o none v17 v16) fun v18 =>
 iteM (some v18) (
 lrM (
 optM (iaL 2 v15 v17) fun v19 =>
 rdM (ld true 2 v19) fun v20 =>
 alM (alR 105 [(.i .i64 0), (.b false)]) fun v21 =>
 bindM (stR 2 v21 v20) fun v22 =>
 optM (nilR v11) fun v23 =>
 optM (faR 7 v23) fun v24 =>
 rdM (ld false 1 v24) fun v25 =>
 optM (bdR [(0, 1), (1, 1), (2, 1)] [(.i .i64 0), (.i .i64 0), (.i .i64 0)] [(0, v12), (1, v13), (2, v17)]) fun v26 =>
 bindM (muR (.flat [.i, .i, .i]) v25 v26 v14) fun v27 =>
 optM (faR 1 v21) fun v28 =>
 rdM (ld false 1 v28) fun v29 =>
 optM (unV .not v29) fun v30 =>
 iteM (some v30) (
 optM (binR .add .o none v14 (.i .i64 1)) fun v31 =>
 pureM (.nx [v11, v12, v13, v31, v15, v16, v17])
 ) (
 pureM (.nx [v11, v12, v13, v14, v15, v16, v17])
 )
 )
 (fun vs =>
 unc vs fun v32 vs =>
 unc vs fun v33 vs =>
 unc vs fun v34 vs =>
 unc vs fun v35 vs =>
 unc vs fun v36 vs =>
 unc vs fun v37 vs =>
 unc vs fun v38 vs =>
 unn vs <|
 optM (binR .add .o none v38 (.i .i64 1)) fun v39 =>
 pureM (.nx [v32, v33, v34, v35, v36, v37, v39])
 )
 (fun id vs =>
 failM)
 (fun vs =>
 unn vs <|
 pureM (.rt [])
 )
 ) (
 pureM (.ex 0 [])
 )
 ) [a0, a1, a2, v7, v9, v10, (.i .i64 0)])
 (fun vs =>
 failM)
 (fun id vs =>
 cond (Nat.beq id 0) (
 unn vs <|
 pureM (.t [])
 ) <|
 failM)
 (fun vs =>
 unn vs <|
 pureM (.t [])
 )
def an_volume_Volume_add : An := (.two .n (.two .n (.two .n (.two .n (.one (.loop [0, 1, 2, 8, 22, 23, 24] [(0, [])] [] (.two .n (.two (.two .n .n) (.two (.cut [0, 1, 2, 8, 22, 23, 24] [] [] (.one (.two .n (.two .n (.two .n (.two .n .n)))))) .n)))))))))

/-- corbel/lmap.New -/
def tab_lmap_New (N : Nat) (Φ : Calls') : Calls' := fun f => Φ f
def F_lmap_New (N : Nat) (Φ : Calls') : List V → M V := fun args =>
 unn args <|
 alM (mmR) fun v1 =>
 optM (bdR [(0, 1), (1, 1)] [.mn, (.i .i64 0)] [(0, v1)]) fun v2 =>
 alM (boxR v2) fun v3 =>
 pureM v3
def an_lmap_New : An := (.two .n (.two .n .n))

/-- (corbel/group.Entry).wants -/
def tab_group_Entry_wants (N : Nat) (Φ : Calls') : Calls' := fun f => Φ f
def F_group_Entry_wants (N : Nat) (Φ : Calls') : List V → M V := fun args =>
 unc args fun a0 args =>
 unn args <|
 alM (boxR a0) fun v1 =>
 optM (faR 1 v1) fun v2 =>
 rdM (ld false 1 v2) fun v3 =>
 iteM (some v3) (
 pureM (.i .i64 0)
 ) (
 pureM (.i .i64 64)
 )
def an_group_Entry_wants : An := (.two .n (.two (.two .n (.two (.two .n .n) .n)) (.two .n .n)))

/-- corbel/group.Blocks -/
def tab_group_Blocks (N : Nat) (Φ : Calls') : Calls' := fun f => cond (Nat.beq f id_group_Entry_wants) (some (F_group_Entry_wants N Φ)) (Φ f)
def F_group_Blocks (N : Nat) (Φ : Calls') : List V → M V := fun args =>
 unc args fun a0 args =>
 unn args <|
 optM (lnL a0) fun v1 =>
 lrM (
 loopM N (fun vs =>
 unc vs fun v2 vs =>
 unc vs fun v3 vs =>
 unc vs fun v4 vs =>
 unc vs fun v5 vs =>
 unn vs <|
 optM (binR .lss .o none v5 v4) fun v6 =>
 iteM (some v6) (
 optM (iaL 2 v3 v5) fun v7 =>
 rdM (ld true 2 v7) fun v8 =>
 alM (alR 105 [(.i .i64 0), (.b false)]) fun v9 =>
 bindM (stR 2 v9 v8) fun v10 =>
 rdM (ld true 2 v9) fun v11 =>
 bindM (F_group_Entry_wants N Φ [v11]) fun v12 =>
 optM (binR .quo .o none v12 (.i .i64 64)) fun v13 =>
 optM (binR .add .o none v2 v13) fun v14 =>
 optM (binR .add .o none v5 (.i .i64 1)) fun v15 =>
 pureM (.nx [v14, v3, v4, v15])
 ) (
 pureM (.ex 0 [v2])
 )
 ) [(.i .i64 1), a0, v1, (.i .i64 0)])
 (fun vs =>
 failM)
 (fun id vs =>
 cond (Nat.beq id 0) (
 unc vs fun v16 vs =>
 unn vs <|
 pureM v16
 ) <|
 failM)
 (fun vs =>
 unc vs fun v17 vs =>
 unn vs <|
 pureM v17
 )
def an_group_Blocks : An := (.two .n (.two .n (.two (.two .n (.one (.loop [3, 6, 7, 8] [(0, [3])] [2] (.two .n (.two (.two .n .n) (.two (.one (.two .n .n)) .n)))))) (.two .n .n))))

/-- (corbel/group.Group).right -/
def tab_group_Group_right (N : Nat) (Φ : Calls') : Calls' := fun f => cond (Nat.beq f id_group_Entry_wants) (some (F_group_Entry_wants N Φ)) (Φ f)
def F_group_Group_right (N : Nat) (Φ : Calls') : List V → M V := fun args =>
 unc args fun a0 args =>
 unn args <|
 alM (boxR a0) fun v1 =>
 optM (faR 0 v1) fun v2 =>
 rdM (ld false 1 v2) fun v3 =>
 optM (binR .lss .o none v3 (.i .i64 0)) fun v4 =>
 bindM (gdM (boolV (some v4)) false (pM (faR 0 v1))) fun v5 =>
 bindM (gdM (boolV (some v4)) false (rM (ld false 1 v5))) fun v6 =>
 bindM (gdM (boolV (some v4)) false (pM (binR .gtr .o none v6 (.i .i64 1099511627776)))) fun v7 =>
 optM (pickR v4 (.b true) v7) fun v8 =>
 bindM (gdM (boolV (some v8)) false (pM (faR 1 v1))) fun v9 =>
 bindM (gdM (boolV (some v8)) false (rM (ld false 1 v9))) fun v10 =>
 bindM (gdM (boolV (some v8)) false (pM (lnL v10))) fun v11 =>
 bindM (gdM (boolV (some v8)) false (pM (binR .lss .o none v11 (.i .i64 1)))) fun v12 =>
 optM (pickR v8 (.b true) v12) fun v13 =>
 bindM (gdM (boolV (some v13)) false (pM (faR 1 v1))) fun v14 =>
 bindM (gdM (boolV (some v13)) false (rM (ld false 1 v14))) fun v15 =>
 bindM (gdM (boolV (some v13)) false (pM (lnL v15))) fun v16 =>
 bindM (gdM (boolV (some v13)) false (pM (binR .gtr .o none v16 (.i .i64 6)))) fun v17 =>
 optM (pickR v13 (.b true) v17) fun v18 =>
 bindM (gdM (boolV (some v18)) false (pM (faR 2 v1))) fun v19 =>
 bindM (gdM (boolV (some v18)) false (rM (ld false 1 v19))) fun v20 =>
 bindM (gdM (boolV (some v18)) false (pM (lnL v20))) fun v21 =>
 bindM (gdM (boolV (some v18)) false (pM (faR 1 v1))) fun v22 =>
 bindM (gdM (boolV (some v18)) false (rM (ld false 1 v22))) fun v23 =>
 bindM (gdM (boolV (some v18)) false (pM (lnL v23))) fun v24 =>
 bindM (gdM (boolV (some v18)) false (pM (binR .neq .o none v21 v24))) fun v25 =>
 optM (pickR v18 (.b true) v25) fun v26 =>
 iteM (some v26) (
 pureM (.b false)
 ) (
 optM (faR 1 v1) fun v27 =>
 rdM (ld false 1 v27) fun v28 =>
 optM (lnL v28) fun v29 =>
 lrM (
 loopM N (fun vs =>
 unc vs fun v30 vs =>
 unc vs fun v31 vs =>
 unc vs fun v32 vs =>
 unc vs fun v33 vs =>
 unn vs <|
 optM (binR .lss .o none v33 v32) fun v34 =>
 iteM (some v34) (
 optM (iaL 2 v31 v33) fun v35 =>
 rdM (ld true 2 v35) fun v36 =>
 alM (alR 105 [(.i .i64 0), (.b false)]) fun v37 =>
 bindM (stR 2 v37 v36) fun v38 =>
 optM (faR 0 v37) fun v39 =>
 rdM (ld false 1 v39) fun v40 =>
 optM (binR .lss .o none v40 (.i .i64 0)) fun v41 =>
 bindM (gdM (boolV (some v41)) false (pM (faR 0 v37))) fun v42 =>
 bindM (gdM (boolV (some v41)) false (rM (ld false 1 v42))) fun v43 =>
 bindM (gdM (boolV (some v41)) false (pM (binR .geq .o none v43 (.i .i64 2147483648)))) fun v44 =>
 optM (pickR v41 (.b true) v44) fun v45 =>
 bindM (gdM (boolV (some v45)) false (pM (faR 2 v30))) fun v46 =>
 bindM (gdM (boolV (some v45)) false (rM (ld false 1 v46))) fun v47 =>
 bindM (gdM (boolV (some v45)) false (pM (some v33))) fun v48 =>
 bindM (gdM (boolV (some v45)) false (pM (iaL 1 v47 v48))) fun v49 =>
 bindM (gdM (boolV (some v45)) false (rM (ld false 1 v49))) fun v50 =>
 bindM (gdM (boolV (some v45)) false (pM (lnS v50))) fun v51 =>
 bindM (gdM (boolV (some v45)) false (rM (ld true 2 v37))) fun v52 =>
 bindM (gdM (boolV (some v45)) false (F_group_Entry_wants N Φ [v52])) fun v53 =>
 chkM (match boolV (some v45) with | some x => cond (okB x false) (ckR (ld false 1 v49) v50) (fun _ => true) | none => fun _ => false) <|
 chkM (match boolV (some v45) with | some x => cond (okB x false) (ckR (ld false 1 v46) v47) (fun _ => true) | none => fun _ => false) <|
 bindM (gdM (boolV (some v45)) false (pM (binR .neq .o none v51 v53))) fun v54 =>
 optM (pickR v45 (.b true) v54) fun v55 =>
 iteM (some v55) (
 pureM (.rt [(.b false)])
 ) (
 optM (binR .add .o none v33 (.i .i64 1)) fun v56 =>
 pureM (.nx [v30, v31, v32, v56])
 )
 ) (
 pureM (.ex 0 [])
 )
 ) [v1, v28, v29, (.i .i64 0)])
 (fun vs =>
 failM)
 (fun id vs =>
 cond (Nat.beq id 0) (
 unn vs <|
 pureM (.b true)
 ) <|
 failM)
 (fun vs =>
 unc vs fun v57 vs =>
 unn vs <|
 pureM v57
 )
 )
def an_group_Group_right : An := (.two .n (.two (.two .n (.two (.two .n .n) .n)) (.two (.two .n (.one (.loop [1, 35, 36, 37] [(0, [])] [2] (.two .n (.two (.two .n .n) (.two (.one (.two .n (.two .n (.two (.two .n .n) .n)))) .n)))))) (.two .n .n))))

/-- corbel/group.Decode -/
def tab_group_Decode (N : Nat) (Φ : Calls') : Calls' := fun f => cond (Nat.beq f id_group_Blocks) (some (F_group_Blocks N Φ)) (cond (Nat.beq f id_group_Entry_wants) (some (F_group_Entry_wants N Φ)) (cond (Nat.beq f id_group_Group_right) (some (F_group_Group_right N Φ)) (cond (Nat.beq f id_crc_Sum) (some (F_crc_Sum N Φ)) (cond (Nat.beq f id_xor_Empty) (some (F_xor_Empty N Φ)) (cond (Nat.beq f id_nums_Get) (some (F_nums_Get N Φ)) (Φ f))))))
def F_group_Decode (N : Nat) (Φ : Calls') : List V → M V := fun args =>
 unc args fun a0 args =>
 unn args <|
 alM (alR 278 [(.i .i64 0), .ns, .ns]) fun v1 =>
 optM (binR .eql .o none a0 (.s [])) fun v2 =>
 iteM (some v2) (
 optM (bdR [(0, 1), (1, 1), (2, 1)] [(.i .i64 0), .ns, .ns] []) fun v3 =>
 bindM (stR 3 v1 v3) fun v4 =>
 rdM (ld true 3 v1) fun v5 =>
 pureM (.t [v5, (.i .i64 0), (.i .i64 13)])
 ) (
 optM (lnS a0) fun v6 =>
 optM (binR .lss .o none v6 (.i .i64 64)) fun v7 =>
 bindM (gdM (boolV (some v7)) false (pM (some a0))) fun v8 =>
 bindM (gdM (boolV (some v7)) false (pM (slS v8 none (some (.i .i64 2)) none))) fun v9 =>
 bindM (gdM (boolV (some v7)) false (pM (binR .neq .o none v9 (.s [67, 71])))) fun v10 =>
 optM (pickR v7 (.b true) v10) fun v11 =>
 iteM (some v11) (
 optM (bdR [(0, 1), (1, 1), (2, 1)] [(.i .i64 0), .ns, .ns] []) fun v12 =>
 bindM (stR 3 v1 v12) fun v13 =>
 rdM (ld true 3 v1) fun v14 =>
 pureM (.t [v14, (.i .i64 0), (.i .i64 10)])
 ) (
 alM (alR 278 [(.i .i64 0), .ns, .ns]) fun v15 =>
 optM (slS a0 (some (.i .i64 2)) (some (.i .i64 8)) none) fun v16 =>
 bindM (F_nums_Get N Φ [v16]) fun v17 =>
 optM (exR 0 v17) fun v18 =>
 optM (exR 1 v17) fun v19 =>
 optM (faR 0 v15) fun v20 =>
 bindM (stR 1 v20 v18) fun v21 =>
 optM (ixS a0 (.i .i64 8)) fun v22 =>
 optM (cvI .i64 v22) fun v23 =>
 optM (binR .mul .o none (.i .i64 4) v23) fun v24 =>
 optM (binR .add .o none (.i .i64 9) v24) fun v25 =>
 optM (binR .lss .o none v23 (.i .i64 1)) fun v26 =>
 bindM (gdM (boolV (some v26)) false (pM (some v23))) fun v27 =>
 bindM (gdM (boolV (some v26)) false (pM (binR .gtr .o none v27 (.i .i64 6)))) fun v28 =>
 optM (pickR v26 (.b true) v28) fun v29 =>
 bindM (gdM (boolV (some v29)) false (pM (some a0))) fun v30 =>
 bindM (gdM (boolV (some v29)) false (pM (some v25))) fun v31 =>
 bindM (gdM (boolV (some v29)) false (pM (binR .add .o none v31 (.i .i64 4)))) fun v32 =>
 bindM (gdM (boolV (some v29)) false (pM (slS v30 (some v32) (some (.i .i64 64)) none))) fun v33 =>
 bindM (gdM (boolV (some v29)) false (F_xor_Empty N Φ [v33])) fun v34 =>
 bindM (gdM (boolV (some v29)) false (pM (unV .not v34))) fun v35 =>
 optM (pickR v29 (.b true) v35) fun v36 =>
 iteM (some v36) (
 optM (bdR [(0, 1), (1, 1), (2, 1)] [(.i .i64 0), .ns, .ns] []) fun v37 =>
 bindM (stR 3 v1 v37) fun v38 =>
 rdM (ld true 3 v1) fun v39 =>
 pureM (.t [v39, (.i .i64 0), (.i .i64 10)])
 ) (
 lrM (
 loopM N (fun vs =>
 unc vs fun v40 vs =>
 unc vs fun v41 vs =>
 unc vs fun v42 vs =>
 unc vs fun v43 vs =>
 unc vs fun v44 vs =>
 unn vs <|
 optM (binR .lss .o none v44 v43) fun v45 =>
 iteM (some v45) (
 optM (binR .add .o none v44 (.i .i64 4)) fun v46 =>
 optM (slS v40 (some v44) (some v46) none) fun v47 =>
 bindM (F_nums_Get N Φ [v47]) fun v48 =>
 optM (exR 0 v48) fun v49 =>
 optM (exR 1 v48) fun v50 =>
 optM (faR 1 v42) fun v51 =>
 rdM (ld false 1 v51) fun v52 =>
 optM (binR .andNot .o none v49 (.i .i64 2147483648)) fun v53 =>
 optM (binR .and .o none v49 (.i .i64 2147483648)) fun v54 =>
 optM (binR .neq .o none v54 (.i .i64 0)) fun v55 =>
 optM (bdR [(0, 1), (1, 1)] [(.i .i64 0), (.b false)] [(0, v53), (1, v55)]) fun v56 =>
 alM (bsR 1 2 (zeros [(.i .i64 0), (.b false)] 2) [(0, v56)]) fun v57 =>
 bindM (apR 105 2 16 (srL 2 v57) v52) fun v58 =>
 optM (faR 1 v42) fun v59 =>
 bindM (stR 1 v59 v58) fun v60 =>
 optM (binR .add .o none v44 (.i .i64 4)) fun v61 =>
 pureM (.nx [v40, v41, v42, v43, v61])
 ) (
 pureM (.ex 0 [v40, v41, v42, v43])
 )
 ) [a0, v1, v15, v25, (.i .i64 9)])
 (fun vs =>
 failM)
 (fun id vs =>
 cond (Nat.beq id 0) (
 unc vs fun v62 vs =>
 unc vs fun v63 vs =>
 unc vs fun v64 vs =>
 unc vs fun v65 vs =>
 unn vs <|
 optM (faR 1 v64) fun v66 =>
 rdM (ld false 1 v66) fun v67 =>
 bindM (F_group_Blocks N Φ [v67]) fun v68 =>
 optM (lnS v62) fun v69 =>
 optM (binR .mul .o none v68 (.i .i64 64)) fun v70 =>
 optM (binR .lss .o none v69 v70) fun v71 =>
 iteM (some v71) (
 optM (bdR [(0, 1), (1, 1), (2, 1)] [(.i .i64 0), .ns, .ns] []) fun v72 =>
 bindM (stR 3 v63 v72) fun v73 =>
 rdM (ld true 3 v63) fun v74 =>
 pureM (.t [v74, (.i .i64 0), (.i .i64 10)])
 ) (
 optM (binR .mul .o none v68 (.i .i64 64)) fun v75 =>
 optM (slS v62 (some (.i .i64 64)) (some v75) none) fun v76 =>
 optM (faR 1 v64) fun v77 =>
 rdM (ld false 1 v77) fun v78 =>
 optM (lnL v78) fun v79 =>
 lrM (
 loopM N (fun vs =>
 unc vs fun v80 vs =>
 unc vs fun v81 vs =>
 unc vs fun v82 vs =>
 unc vs fun v83 vs =>
 unc vs fun v84 vs =>
 unc vs fun v85 vs =>
 unc vs fun v86 vs =>
 unc vs fun v87 vs =>
 unc vs fun v88 vs =>
 unn vs <|
 optM (binR .lss .o none v88 v87) fun v89 =>
 iteM (some v89) (
 optM (iaL 2 v86 v88) fun v90 =>
 rdM (ld true 2 v90) fun v91 =>
 alM (alR 105 [(.i .i64 0), (.b false)]) fun v92 =>
 bindM (stR 2 v92 v91) fun v93 =>
 optM (faR 2 v82) fun v94 =>
 rdM (ld false 1 v94) fun v95 =>
 rdM (ld true 2 v92) fun v96 =>
 bindM (F_group_Entry_wants N Φ [v96]) fun v97 =>
 chkM (ckR (ld false 1 v94) v95) <|
 optM (slS v85 none (some v97) none) fun v98 =>
 alM (bsR 1 1 (zeros [(.s [])] 1) [(0, v98)]) fun v99 =>
 bindM (apR 9 1 16 (srL 1 v99) v95) fun v100 =>
 optM (faR 2 v82) fun v101 =>
 bindM (stR 1 v101 v100) fun v102 =>
 rdM (ld true 2 v92) fun v103 =>
 bindM (F_group_Entry_wants N Φ [v103]) fun v104 =>
 optM (slS v85 (some v104) none none) fun v105 =>
 optM (binR .add .o none v88 (.i .i64 1)) fun v106 =>
 pureM (.nx [v80, v81, v82, v83, v84, v105, v86, v87, v106])
 ) (
 pureM (.ex 2 [v80, v81, v82, v83, v84])
 )
 ) [v62, v63, v64, v65, v68, v76, v78, v79, (.i .i64 0)])
 (fun vs =>
 failM)
 (fun id vs =>
 cond (Nat.beq id 2) (
 unc vs fun v107 vs =>
 unc vs fun v108 vs =>
 unc vs fun v109 vs =>
 unc vs fun v110 vs =>
 unc vs fun v111 vs =>
 unn vs <|
 rdM (ld true 3 v109) fun v112 =>
 bindM (F_group_Group_right N Φ [v112]) fun v113 =>
 optM (unV .not v113) fun v114 =>
 iteM (some v114) (
 optM (bdR [(0, 1), (1, 1), (2, 1)] [(.i .i64 0), .ns, .ns] []) fun v115 =>
 bindM (stR 3 v108 v115) fun v116 =>
 rdM (ld true 3 v108) fun v117 =>
 pureM (.t [v117, (.i .i64 0), (.i .i64 10)])
 ) (
 optM (binR .add .o none v110 (.i .i64 4)) fun v118 =>
 optM (slS v107 (some v110) (some v118) none) fun v119 =>
 bindM (F_nums_Get N Φ [v119]) fun v120 =>
 optM (exR 0 v120) fun v121 =>
 optM (exR 1 v120) fun v122 =>
 optM (cvI .u32 v121) fun v123 =>
 optM (slS v107 none (some v110) none) fun v124 =>
 optM (binR .mul .o none v111 (.i .i64 64)) fun v125 =>
 optM (slS v107 (some (.i .i64 64)) (some v125) none) fun v126 =>
 alM (bsR 2 1 (zeros [(.s [])] 2) [(0, v124), (1, v126)]) fun v127 =>
 bindM (F_crc_Sum N Φ [v127]) fun v128 =>
 optM (binR .neq .o none v123 v128) fun v129 =>
 iteM (some v129) (
 optM (bdR [(0, 1), (1, 1), (2, 1)] [(.i .i64 0), .ns, .ns] []) fun v130 =>
 bindM (stR 3 v108 v130) fun v131 =>
 rdM (ld true 3 v108) fun v132 =>
 pureM (.t [v132, (.i .i64 0), (.i .i64 11)])
 ) (
 rdM (ld true 3 v109) fun v133 =>
 bindM (stR 3 v108 v133) fun v134 =>
 rdM (ld true 3 v108) fun v135 =>
 pureM (.t [v135, v111, (.i .i64 0)])
 )
 )
 ) <|
 failM)
 (fun vs =>
 unc vs fun v136 vs =>
 unc vs fun v137 vs =>
 unc vs fun v138 vs =>
 unn vs <|
 rdM (ld true 3 v136) fun v139 =>
 pureM (.t [v139, v137, v138])
 )
 )
 ) <|
 failM)
 (fun vs =>
 unc vs fun v140 vs =>
 unc vs fun v141 vs =>
 unc vs fun v142 vs =>
 unn vs <|
 rdM (ld true 3 v140) fun v143 =>
 pureM (.t [v143, v141, v142])
 )
 )
 )
 )
def an_group_Decode : An := (.two .n (.two (.two .n (.two (.two .n .n) .n)) (.two (.two .n (.two (.two .n .n) .n)) (.two .n (.two .n (.two .n (.two .n (.two (.two .n (.two (.two .n .n) .n)) (.two (.two .n (.one (.loop [0, 2, 5, 7, 8] [(0, [0, 2, 5, 7])] [2, 3, 4] (.two (.two .n (.two .n .n)) (.two (.one (.two .n .n)) .n))))) (.two .n (.two (.two .n (.two (.two .n .n) .n)) (.two .n (.two (.two .n (.one (.loop [0, 2, 5, 7, 11, 12, 96, 97, 98] [(2, [0, 2, 5, 7, 11])] [2, 3, 4] (.two .n (.two (.two .n .n) (.two (.one (.two .n (.two .n .n))) .n)))))) (.two (.two .n (.two (.two .n .n) .n)) (.two (.two .n (.two .n (.two (.two .n .n) .n))) (.two .n .n))))))))))))))))

/-- corbel/group.Scan -/
def tab_group_Scan (N : Nat) (Φ : Calls') : Calls' := fun f => cond (Nat.beq f id_group_Decode) (some (F_group_Decode N Φ)) (Φ f)
def F_group_Scan (N : Nat) (Φ : Calls') : List V → M V := fun args =>
 unc args fun a0 args =>
 unn args <|
 lrM (
 loopM N (fun vs =>
 unc vs fun v1 vs =>
 unc vs fun v2 vs =>
 unc vs fun v3 vs =>
 unc vs fun v4 vs =>
 unn vs <|
 optM (binR .mul .o none v4 (.i .i64 64)) fun v5 =>
 optM (slS v1 (some v5) none none) fun v6 =>
 bindM (F_group_Decode N Φ [v6]) fun v7 =>
 optM (exR 0 v7) fun v8 =>
 optM (exR 1 v7) fun v9 =>
 optM (exR 2 v7) fun v10 =>
 alM (alR 278 [(.i .i64 0), .ns, .ns]) fun v11 =>
 bindM (stR 3 v11 v8) fun v12 =>
 optM (binR .neq .o none v10 (.i .i64 0)) fun v13 =>
 iteM (some v13) (
 pureM (.rt [v2, v3])
 ) (
 rdM (ld true 3 v11) fun v14 =>
 alM (bsR 1 3 (zeros [(.i .i64 0), .ns, .ns] 3) [(0, v14)]) fun v15 =>
 bindM (apR 278 3 56 (srL 3 v15) v2) fun v16 =>
 alM (bsR 1 1 (zeros [(.i .i64 0)] 1) [(0, v4)]) fun v17 =>
 bindM (apR 3 1 8 (srL 1 v17) v3) fun v18 =>
 optM (binR .add .o none v4 v9) fun v19 =>
 pureM (.nx [v1, v16, v18, v19])
 )
 ) [a0, .ns, .ns, (.i .i64 0)])
 (fun vs =>
 failM)
 (fun id vs =>
 failM)
 (fun vs =>
 unc vs fun v20 vs =>
 unc vs fun v21 vs =>
 unn vs <|
 pureM (.t [v20, v21])
 )
def an_group_Scan : An := (.two .n (.two .n (.two .n (.two .n (.one (.loop [0, 4, 5, 6] [] [2, 3] (.one (.two .n (.two (.two .n (.two (.two .n .n) .n)) (.two .n .n))))))))))

/-- (*corbel/volume.Volume).scan -/
def tab_volume_Volume_scan (N : Nat) (Φ : Calls') : Calls' := fun f => cond (Nat.beq f id_array_Array_Do) (some (F_array_Array_Do N Φ)) (cond (Nat.beq f id_array_Array_Zone) (some (F_array_Array_Zone N Φ)) (cond (Nat.beq f id_geom_Zones) (some (F_geom_Zones N Φ)) (cond (Nat.beq f id_volume_Volume_add) (some (F_volume_Volume_add N Φ)) (cond (Nat.beq f id_lmap_New) (some (F_lmap_New N Φ)) (cond (Nat.beq f id_group_Scan) (some (F_group_Scan N Φ)) (Φ f))))))
def F_volume_Volume_scan (N : Nat) (Φ : Calls') : List V → M V := fun args =>
 unc args fun a0 args =>
 unn args <|
 bindM (F_lmap_New N Φ []) fun v1 =>
 alM (mmR) fun v2 =>
 optM (nilR a0) fun v3 =>
 optM (faR 6 v3) fun v4 =>
 bindM (stR 1 v4 v1) fun v5 =>
 optM (nilR a0) fun v6 =>
 optM (faR 7 v6) fun v7 =>
 bindM (stR 1 v7 v2) fun v8 =>
 optM (nilR a0) fun v9 =>
 optM (faR 8 v9) fun v10 =>
 bindM (stR 1 v10 (.i .i64 (-1))) fun v11 =>
 optM (nilR a0) fun v12 =>
 optM (faR 1 v12) fun v13 =>
 rdM (ld true 5 v13) fun v14 =>
 bindM (F_geom_Zones N Φ [v14]) fun v15 =>
 lrM (
 loopM N (fun vs =>
 unc vs fun v16 vs =>
 unc vs fun v17 vs =>
 unc vs fun v18 vs =>
 unc vs fun v19 vs =>
 unc vs fun v20 vs =>
 unn vs <|
 optM (binR .lss .o none v20 v19) fun v21 =>
 iteM (some v21) (
 lrM (
 optM (nilR v16) fun v22 =>
 optM (faR 0 v22) fun v23 =>
 rdM (ld false 1 v23) fun v24 =>
 bindM (F_array_Array_Zone N Φ [v24, v20]) fun v25 =>
 optM (exR 0 v25) fun v26 =>
 optM (exR 1 v25) fun v27 =>
 alM (alR 30 [(.i .i64 0), (.i .i64 0)]) fun v28 =>
 bindM (stR 2 v28 v26) fun v29 =>
 optM (faR 1 v28) fun v30 =>
 rdM (ld false 1 v30) fun v31 =>
 optM (binR .eql .o none v31 (.i .i64 0)) fun v32 =>
 iteM (some v32) (
 pureM (.nx [v16, v17, v18, v19, v20])
 ) (
 optM (nilR v16) fun v33 =>
 optM (faR 0 v33) fun v34 =>
 rdM (ld false 1 v34) fun v35 =>
 optM (faR 1 v28) fun v36 =>
 rdM (ld false 1 v36) fun v37 =>
 optM (bdR [(0, 1), (1, 1), (2, 1), (3, 1)] [(.i .i64 0), (.i .i64 0), (.i .i64 0), (.i .i64 0)] [(0, (.i .i64 7)), (1, v20), (3, v37)]) fun v38 =>
 bindM (F_array_Array_Do N Φ [v35, v38, (.s [])]) fun v39 =>
 optM (exR 0 v39) fun v40 =>
 optM (exR 1 v39) fun v41 =>
 optM (exR 2 v39) fun v42 =>
 optM (binR .neq .o none v42 (.i .i64 0)) fun v43 =>
 iteM (some v43) (
 pureM (.rt [(.i .i64 0), v42])
 ) (
 bindM (F_group_Scan N Φ [v40]) fun v44 =>
 optM (exR 0 v44) fun v45 =>
 optM (exR 1 v44) fun v46 =>
 optM (lnL v45) fun v47 =>
 lrM (
 loopM N (fun vs =>
 unc vs fun v48 vs =>
 unc vs fun v49 vs =>
 unc vs fun v50 vs =>
 unc vs fun v51 vs =>
 unc vs fun v52 vs =>
 unc vs fun v53 vs =>
 unc vs fun v54 vs =>
 unc vs fun v55 vs =>
 unc vs fun v56 vs =>
 unc vs fun v57 vs =>
 unc vs fun v58 vs =>
 unn vs <|
 optM (binR .lss .o none v58 v57) fun v59 =>
 iteM (some v59) (
 optM (iaL 3 v56 v58) fun v60 =>
 rdM (ld true 3 v60) fun v61 =>
 alM (alR 278 [(.i .i64 0), .ns, .ns]) fun v62 =>
 bindM (stR 3 v62 v61) fun v63 =>
 optM (faR 0 v62) fun v64 =>
 rdM (ld false 1 v64) fun v65 =>
 optM (foldInts minI [v53, v65]) fun v66 =>
 optM (iaL 1 v52 v58) fun v67 =>
 rdM (ld false 1 v67) fun v68 =>
 rdM (ld true 3 v62) fun v69 =>
 bindM (F_volume_Volume_add N Φ [v48, v51, v68, v69]) fun v70 =>
 optM (binR .add .o none v58 (.i .i64 1)) fun v71 =>
 pureM (.nx [v48, v49, v50, v51, v52, v66, v54, v55, v56, v57, v71])
 ) (
 pureM (.ex 2 [v48, v49, v50, v51, v53, v54, v55])
 )
 ) [v16, v17, v18, v20, v46, (.i .i64 4611686018427387904), v19, v20, v45, v47, (.i .i64 0)])
 (fun vs =>
 failM)
 (fun id vs =>
 cond (Nat.beq id 2) (
 unc vs fun v72 vs =>
 unc vs fun v73 vs =>
 unc vs fun v74 vs =>
 unc vs fun v75 vs =>
 unc vs fun v76 vs =>
 unc vs fun v77 vs =>
 unc vs fun v78 vs =>
 unn vs <|
 optM (binR .gtr .o none v76 v74) fun v79 =>
 iteM (some v79) (
 pureM (.nx [v72, v75, v76, v77, v78])
 ) (
 pureM (.nx [v72, v73, v74, v77, v78])
 )
 ) <|
 failM)
 (fun vs =>
 unc vs fun v80 vs =>
 unc vs fun v81 vs =>
 unn vs <|
 pureM (.rt [v80, v81])
 )
 )
 )
 )
 (fun vs =>
 unc vs fun v82 vs =>
 unc vs fun v83 vs =>
 unc vs fun v84 vs =>
 unc vs fun v85 vs =>
 unc vs fun v86 vs =>
 unn vs <|
 optM (binR .add .o none v86 (.i .i64 1)) fun v87 =>
 pureM (.nx [v82, v83, v84, v85, v87])
 )
 (fun id vs =>
 failM)
 (fun vs =>
 unc vs fun v88 vs =>
 unc vs fun v89 vs =>
 unn vs <|
 pureM (.rt [v88, v89])
 )
 ) (
 pureM (.ex 0 [v17])
 )
 ) [a0, (.i .i64 0), (.i .i64 (-1)), v15, (.i .i64 0)])
 (fun vs =>
 failM)
 (fun id vs =>
 cond (Nat.beq id 0) (
 unc vs fun v90 vs =>
 unn vs <|
 pureM (.t [v90, (.i .i64 0)])
 ) <|
 failM)
 (fun vs =>
 unc vs fun v91 vs =>
 unc vs fun v92 vs =>
 unn vs <|
 pureM (.t [v91, v92])
 )
def an_volume_Volume_scan : An := (.two .n (.two .n (.two .n (.two (.two .n (.one (.loop [0, 4, 5, 32, 33] [(0, [4])] [2, 3] (.two .n (.two (.two .n .n) (.two (.cut [0, 4, 5, 32, 33] [] [2, 3] (.one (.two .n (.two .n (.two (.two .n (.two .n .n)) (.two .n (.two (.two .n (.two (.two .n .n) .n)) (.two .n (.two .n (.two (.two .n (.one (.loop [0, 4, 5, 6, 13, 14, 32, 33, 69, 70, 71] [(2, [0, 4, 5, 6, 14, 32, 33])] [2, 3] (.two .n (.two (.two .n .n) (.two (.one (.two .n (.two .n .n))) .n)))))) (.two .n (.two .n .n)))))))))))) .n)))))) (.two .n .n)))))

/-- corbel/pick.numbered -/
def tab_pick_numbered (N : Nat) (Φ : Calls') : Calls' := fun f => Φ f
def F_pick_numbered (N : Nat) (Φ : Calls') : List V → M V := fun args =>
 unc args fun a0 args =>
 unc args fun a1 args =>
 unn args <|
 optM (lnL a0) fun v1 =>
 lrM (
 loopM N (fun vs =>
 unc vs fun v2 vs =>
 unc vs fun v3 vs =>
 unc vs fun v4 vs =>
 unc vs fun v5 vs =>
 unc vs fun v6 vs =>
 unn vs <|
 optM (binR .lss .o none v6 v5) fun v7 =>
 iteM (some v7) (
 lrM (
 optM (iaL 3 v4 v6) fun v8 =>
 rdM (ld true 3 v8) fun v9 =>
 alM (alR 326 [(.i .i64 0), (.i .i64 0), (.b false)]) fun v10 =>
 bindM (stR 3 v10 v9) fun v11 =>
 rdM (ld true 3 v10) fun v12 =>
 bindM (callF (tab_pick_numbered N Φ) v2 [v12]) fun v13 =>
 iteM (some v13) (
 alM (bsR 1 1 (zeros [(.i .i64 0)] 1) [(0, v6)]) fun v14 =>
 bindM (apR 3 1 8 (srL 1 v14) v3) fun v15 =>
 pureM (.nx [v2, v15, v4, v5, v6])
 ) (
 pureM (.nx [v2, v3, v4, v5, v6])
 )
 )
 (fun vs =>
 unc vs fun v16 vs =>
 unc vs fun v17 vs =>
 unc vs fun v18 vs =>
 unc vs fun v19 vs =>
 unc vs fun v20 vs =>
 unn vs <|
 optM (binR .add .o none v20 (.i .i64 1)) fun v21 =>
 pureM (.nx [v16, v17, v18, v19, v21])
 )
 (fun id vs =>
 failM)
 (fun vs =>
 unc vs fun v22 vs =>
 unn vs <|
 pureM (.rt [v22])
 )
 ) (
 pureM (.ex 0 [v3])
 )
 ) [a1, .ns, a0, v1, (.i .i64 0)])
 (fun vs =>
 failM)
 (fun id vs =>
 cond (Nat.beq id 0) (
 unc vs fun v23 vs =>
 unn vs <|
 pureM v23
 ) <|
 failM)
 (fun vs =>
 unc vs fun v24 vs =>
 unn vs <|
 pureM v24
 )
def an_pick_numbered : An := (.two .n (.two .n (.two (.two .n (.one (.loop [1, 5, 8, 9, 10] [(0, [5])] [4] (.two .n (.two (.two .n .n) (.two (.cut [1, 5, 8, 9, 10] [] [4] (.one (.two .n (.two .n (.two .n .n))))) .n)))))) (.two .n .n))))

end Go.Cb.Sh
