/- PRINTED BY PROGRAM: functions as the abstract machine runs them. -/
import Derived.Test.YthpapfgdjdjcfaaGreatDoorCbShBI
set_option linter.unusedVariables false
set_option linter.unusedSimpArgs false
namespace Go.Cb.ShB
open Go.Cb

/-- corbel/crc.Sum -/
def tab_crc_Sum (N : Nat) (Φ : Calls') : Calls' := fun f => cond (Nat.beq f id_crc_step) (some (F_crc_step N Φ)) (Φ f)
def F_crc_Sum (N : Nat) (Φ : Calls') : List V → M V := fun args =>
 unc args fun a0 args =>
 unn args <|
 optM (lnL a0) fun v1 =>
 lrM (
 loopM N (fun vs =>
 unc vs fun v2 vs =>
 unc vs fun v3 vs =>
 unc vs fun v4 vs =>
 unc vs fun v5 vs =>
 unn vs <|
 optM (binR .lss .o none v5 v4) fun v6 =>
 iteM (some v6) (
 optM (iaL 1 v3 v5) fun v7 =>
 rdM (ld false 1 v7) fun v8 =>
 optM (lnS v8) fun v9 =>
 lrM (
 loopM N (fun vs =>
 unc vs fun v10 vs =>
 unc vs fun v11 vs =>
 unc vs fun v12 vs =>
 unc vs fun v13 vs =>
 unc vs fun v14 vs =>
 unc vs fun v15 vs =>
 unc vs fun v16 vs =>
 unn vs <|
 optM (binR .lss .o none v16 v15) fun v17 =>
 iteM (some v17) (
 optM (ixS v11 v16) fun v18 =>
 optM (cvI .u32 v18) fun v19 =>
 optM (binR .xor .o none v10 v19) fun v20 =>
 bindM (F_crc_step N Φ [v20]) fun v21 =>
 optM (binR .add .o none v16 (.i .i64 1)) fun v22 =>
 pureM (.nx [v21, v11, v12, v13, v14, v15, v22])
 ) (
 pureM (.ex 2 [v10, v12, v13, v14])
 )
 ) [v2, v8, v3, v4, v5, v9, (.i .i64 0)])
 (fun vs =>
 failM)
 (fun id vs =>
 cond (Nat.beq id 2) (
 unc vs fun v23 vs =>
 unc vs fun v24 vs =>
 unc vs fun v25 vs =>
 unc vs fun v26 vs =>
 unn vs <|
 optM (binR .add .o none v26 (.i .i64 1)) fun v27 =>
 pureM (.nx [v23, v24, v25, v27])
 ) <|
 failM)
 (fun vs =>
 unc vs fun v28 vs =>
 unn vs <|
 pureM (.rt [v28])
 )
 ) (
 pureM (.ex 0 [v2])
 )
 ) [(.i .u32 4294967295), a0, v1, (.i .i64 0)])
 (fun vs =>
 failM)
 (fun id vs =>
 cond (Nat.beq id 0) (
 unc vs fun v29 vs =>
 unn vs <|
 optM (unV .xor v29) fun v30 =>
 pureM v30
 ) <|
 failM)
 (fun vs =>
 unc vs fun v31 vs =>
 unn vs <|
 pureM v31
 )
def an_crc_Sum : An := (.two .n (.two .n (.two (.two .n (.one (.loop [3, 7, 8, 9] [(0, [3])] [2] (.two .n (.two (.two .n .n) (.two (.one (.two .n (.two .n (.one (.loop [3, 5, 7, 8, 9, 14, 15] [(2, [3, 7, 8, 9])] [2] (.two .n (.two (.two .n .n) (.two (.one (.two .n .n)) .n)))))))) .n)))))) (.two .n .n))))

/-- corbel/nums.Put -/
def tab_nums_Put (N : Nat) (Φ : Calls') : Calls' := fun f => Φ f
def F_nums_Put (N : Nat) (Φ : Calls') : List V → M V := fun args =>
 unc args fun a0 args =>
 unc args fun a1 args =>
 unn args <|
 optM (binR .lss .o none a1 (.i .i64 1)) fun v1 =>
 bindM (gdM (boolV (some v1)) false (pM (some a1))) fun v2 =>
 bindM (gdM (boolV (some v1)) false (pM (binR .gtr .o none v2 (.i .i64 7)))) fun v3 =>
 optM (pickR v1 (.b true) v3) fun v4 =>
 bindM (gdM (boolV (some v4)) false (pM (some a0))) fun v5 =>
 bindM (gdM (boolV (some v4)) false (pM (binR .lss .o none v5 (.i .i64 0)))) fun v6 =>
 optM (pickR v4 (.b true) v6) fun v7 =>
 bindM (gdM (boolV (some v7)) false (pM (some a0))) fun v8 =>
 bindM (gdM (boolV (some v7)) false (pM (some a1))) fun v9 =>
 bindM (gdM (boolV (some v7)) false (pM (binR .mul .o none (.i .i64 8) v9))) fun v10 =>
 bindM (gdM (boolV (some v7)) false (pM (binR .shr .o none v8 v10))) fun v11 =>
 bindM (gdM (boolV (some v7)) false (pM (binR .neq .o none v11 (.i .i64 0)))) fun v12 =>
 optM (pickR v7 (.b true) v12) fun v13 =>
 iteM (some v13) (
 pureM (.s [])
 ) (
 alM (mkR 1 1 [(.i .u8 0)] a1 a1) fun v14 =>
 optM (lnL v14) fun v15 =>
 lrM (
 loopM N (fun vs =>
 unc vs fun v16 vs =>
 unc vs fun v17 vs =>
 unc vs fun v18 vs =>
 unc vs fun v19 vs =>
 unc vs fun v20 vs =>
 unn vs <|
 optM (binR .lss .o none v20 v19) fun v21 =>
 iteM (some v21) (
 optM (binR .sub .o none v17 (.i .i64 1)) fun v22 =>
 optM (binR .sub .o none v22 v20) fun v23 =>
 optM (binR .mul .o none (.i .i64 8) v23) fun v24 =>
 optM (binR .shr .o none v16 v24) fun v25 =>
 optM (cvI .u8 v25) fun v26 =>
 optM (iaL 1 v18 v20) fun v27 =>
 bindM (stR 1 v27 v26) fun v28 =>
 optM (binR .add .o none v20 (.i .i64 1)) fun v29 =>
 pureM (.nx [v16, v17, v18, v19, v29])
 ) (
 pureM (.ex 0 [v18])
 )
 ) [a0, a1, v14, v15, (.i .i64 0)])
 (fun vs =>
 failM)
 (fun id vs =>
 cond (Nat.beq id 0) (
 unc vs fun v30 vs =>
 unn vs <|
 rdM (bytesV v30) fun v31 =>
 pureM v31
 ) <|
 failM)
 (fun vs =>
 unc vs fun v32 vs =>
 unn vs <|
 pureM v32
 )
 )
def an_nums_Put : An := (.two .n (.two (.two .n (.two (.two .n .n) .n)) (.two .n (.two (.two .n (.one (.loop [0, 1, 5, 27, 28] [(0, [5])] [4] (.two .n (.two (.two .n .n) (.two (.one (.two .n .n)) .n)))))) (.two .n .n)))))

/-- corbel/nums.Get -/
def tab_nums_Get (N : Nat) (Φ : Calls') : Calls' := fun f => Φ f
def F_nums_Get (N : Nat) (Φ : Calls') : List V → M V := fun args =>
 unc args fun a0 args =>
 unn args <|
 optM (lnS a0) fun v1 =>
 optM (binR .lss .o none v1 (.i .i64 1)) fun v2 =>
 bindM (gdM (boolV (some v2)) false (pM (some a0))) fun v3 =>
 bindM (gdM (boolV (some v2)) false (pM (lnS v3))) fun v4 =>
 bindM (gdM (boolV (some v2)) false (pM (binR .gtr .o none v4 (.i .i64 7)))) fun v5 =>
 optM (pickR v2 (.b true) v5) fun v6 =>
 iteM (some v6) (
 pureM (.t [(.i .i64 0), (.b false)])
 ) (
 optM (lnS a0) fun v7 =>
 lrM (
 loopM N (fun vs =>
 unc vs fun v8 vs =>
 unc vs fun v9 vs =>
 unc vs fun v10 vs =>
 unc vs fun v11 vs =>
 unn vs <|
 optM (binR .lss .o none v11 v10) fun v12 =>
 iteM (some v12) (
 optM (binR .shl .o none v9 (.i .u64 8)) fun v13 =>
 optM (ixS v8 v11) fun v14 =>
 optM (cvI .i64 v14) fun v15 =>
 optM (binR .or .o none v13 v15) fun v16 =>
 optM (binR .add .o none v11 (.i .i64 1)) fun v17 =>
 pureM (.nx [v8, v16, v10, v17])
 ) (
 pureM (.ex 0 [v9])
 )
 ) [a0, (.i .i64 0), v7, (.i .i64 0)])
 (fun vs =>
 failM)
 (fun id vs =>
 cond (Nat.beq id 0) (
 unc vs fun v18 vs =>
 unn vs <|
 pureM (.t [v18, (.b true)])
 ) <|
 failM)
 (fun vs =>
 unc vs fun v19 vs =>
 unc vs fun v20 vs =>
 unn vs <|
 pureM (.t [v19, v20])
 )
 )
def an_nums_Get : An := (.two .n (.two (.two .n (.two (.two .n .n) .n)) (.two .n (.two (.two .n (.one (.loop [0, 4, 15, 16] [(0, [4])] [2, 3] (.two .n (.two (.two .n .n) (.two (.one (.two .n .n)) .n)))))) (.two .n .n)))))

end Go.Cb.ShB
