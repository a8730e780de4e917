/- PRINTED BY PROGRAM: functions as the abstract machine runs them. -/
import Derived.Test.YthpapfgdjdjcfaaGreatDoorCbShI
set_option linter.unusedVariables false
set_option linter.unusedSimpArgs false
namespace Go.Cb.Sh
open Go.Cb

/-- (*corbel/rig.Rig).Off -/
def tab_rig_Rig_Off (N : Nat) (Φ : Calls') : Calls' := fun f => Φ f
def F_rig_Rig_Off (N : Nat) (Φ : Calls') : List V → M V := fun args =>
 unc args fun a0 args =>
 unn args <|
 optM (binR .neq .p none a0 .pn) fun v1 =>
 bindM (gdM (boolV (some v1)) true (pM (some a0))) fun v2 =>
 bindM (gdM (boolV (some v1)) true (pM (nilR v2))) fun v3 =>
 bindM (gdM (boolV (some v1)) true (pM (faR 3 v3))) fun v4 =>
 bindM (gdM (boolV (some v1)) true (rM (ld false 1 v4))) fun v5 =>
 optM (pickR v1 v5 (.b false)) fun v6 =>
 pureM v6
def an_rig_Rig_Off : An := (.two .n (.two .n .n))

/-- (*corbel/array.Array).ready -/
def tab_array_Array_ready (N : Nat) (Φ : Calls') : Calls' := fun f => cond (Nat.beq f id_rig_Rig_Off) (some (F_rig_Rig_Off N Φ)) (Φ f)
def F_array_Array_ready (N : Nat) (Φ : Calls') : List V → M V := fun args =>
 unc args fun a0 args =>
 unn args <|
 optM (binR .eql .p none a0 .pn) fun v1 =>
 iteM (some v1) (
 pureM (.i .i64 1)
 ) (
 optM (nilR a0) fun v2 =>
 optM (faR 17 v2) fun v3 =>
 rdM (ld false 1 v3) fun v4 =>
 bindM (gdM (boolV (some v4)) false (pM (some a0))) fun v5 =>
 bindM (gdM (boolV (some v4)) false (pM (nilR v5))) fun v6 =>
 bindM (gdM (boolV (some v4)) false (pM (faR 0 v6))) fun v7 =>
 bindM (gdM (boolV (some v4)) false (rM (ld false 1 v7))) fun v8 =>
 bindM (gdM (boolV (some v4)) false (F_rig_Rig_Off N Φ [v8])) fun v9 =>
 optM (pickR v4 (.b true) v9) fun v10 =>
 iteM (some v10) (
 optM (nilR a0) fun v11 =>
 optM (faR 17 v11) fun v12 =>
 bindM (stR 1 v12 (.b true)) fun v13 =>
 pureM (.i .i64 6)
 ) (
 optM (nilR a0) fun v14 =>
 optM (faR 16 v14) fun v15 =>
 rdM (ld false 1 v15) fun v16 =>
 iteM (some v16) (
 pureM (.i .i64 8)
 ) (
 pureM (.i .i64 0)
 )
 )
 )
def an_array_Array_ready : An := (.two .n (.two (.one (.two .n (.two (.two .n .n) (.two .n (.two (.two .n (.two .n .n)) (.two .n (.two (.two .n .n) .n))))))) (.two .n .n)))

/-- corbel/array.writes -/
def tab_array_writes (N : Nat) (Φ : Calls') : Calls' := fun f => Φ f
def F_array_writes (N : Nat) (Φ : Calls') : List V → M V := fun args =>
 unc args fun a0 args =>
 unn args <|
 alM (boxR a0) fun v1 =>
 optM (faR 0 v1) fun v2 =>
 rdM (ld false 1 v2) fun v3 =>
 optM (binR .eql .o none v3 (.i .i64 1)) fun v4 =>
 bindM (gdM (boolV (some v4)) false (pM (faR 0 v1))) fun v5 =>
 bindM (gdM (boolV (some v4)) false (rM (ld false 1 v5))) fun v6 =>
 bindM (gdM (boolV (some v4)) false (pM (binR .eql .o none v6 (.i .i64 2)))) fun v7 =>
 optM (pickR v4 (.b true) v7) fun v8 =>
 pureM v8
def an_array_writes : An := (.two .n (.two .n .n))

/-- corbel/array.holds -/
def tab_array_holds (N : Nat) (Φ : Calls') : Calls' := fun f => cond (Nat.beq f id_array_writes) (some (F_array_writes N Φ)) (Φ f)
def F_array_holds (N : Nat) (Φ : Calls') : List V → M V := fun args =>
 unc args fun a0 args =>
 unc args fun a1 args =>
 unn args <|
 alM (boxR a0) fun v1 =>
 rdM (ld true 4 v1) fun v2 =>
 bindM (F_array_writes N Φ [v2]) fun v3 =>
 optM (unV .not v3) fun v4 =>
 bindM (gdM (boolV (some v4)) false (pM (faR 3 v1))) fun v5 =>
 bindM (gdM (boolV (some v4)) false (rM (ld false 1 v5))) fun v6 =>
 bindM (gdM (boolV (some v4)) false (pM (binR .lss .o none v6 (.i .i64 0)))) fun v7 =>
 optM (pickR v4 (.b true) v7) fun v8 =>
 iteM (some v8) (
 optM (binR .eql .o none a1 (.s [])) fun v9 =>
 pureM v9
 ) (
 optM (lnS a1) fun v10 =>
 optM (binR .rem .o none v10 (.i .i64 64)) fun v11 =>
 optM (binR .eql .o none v11 (.i .i64 0)) fun v12 =>
 bindM (gdM (boolV (some v12)) true (pM (some a1))) fun v13 =>
 bindM (gdM (boolV (some v12)) true (pM (lnS v13))) fun v14 =>
 bindM (gdM (boolV (some v12)) true (pM (binR .quo .o none v14 (.i .i64 64)))) fun v15 =>
 bindM (gdM (boolV (some v12)) true (pM (faR 3 v1))) fun v16 =>
 bindM (gdM (boolV (some v12)) true (rM (ld false 1 v16))) fun v17 =>
 bindM (gdM (boolV (some v12)) true (pM (binR .eql .o none v15 v17))) fun v18 =>
 optM (pickR v12 v18 (.b false)) fun v19 =>
 pureM v19
 )
def an_array_holds : An := (.two .n (.two (.two .n (.two (.two .n .n) .n)) (.two .n .n)))

/-- (*corbel/zone.Machine).Get -/
def tab_zone_Machine_Get (N : Nat) (Φ : Calls') : Calls' := fun f => Φ f
def F_zone_Machine_Get (N : Nat) (Φ : Calls') : List V → M V := fun args =>
 unc args fun a0 args =>
 unc args fun a1 args =>
 unn args <|
 alM (alR 30 [(.i .i64 0), (.i .i64 0)]) fun v1 =>
 optM (binR .eql .p none a0 .pn) fun v2 =>
 bindM (gdM (boolV (some v2)) false (pM (some a1))) fun v3 =>
 bindM (gdM (boolV (some v2)) false (pM (binR .lss .o none v3 (.i .i64 0)))) fun v4 =>
 optM (pickR v2 (.b true) v4) fun v5 =>
 bindM (gdM (boolV (some v5)) false (pM (some a1))) fun v6 =>
 bindM (gdM (boolV (some v5)) false (pM (some a0))) fun v7 =>
 bindM (gdM (boolV (some v5)) false (pM (nilR v7))) fun v8 =>
 bindM (gdM (boolV (some v5)) false (pM (faR 0 v8))) fun v9 =>
 bindM (gdM (boolV (some v5)) false (rM (ld false 1 v9))) fun v10 =>
 bindM (gdM (boolV (some v5)) false (pM (lnL v10))) fun v11 =>
 bindM (gdM (boolV (some v5)) false (pM (binR .geq .o none v6 v11))) fun v12 =>
 optM (pickR v5 (.b true) v12) fun v13 =>
 iteM (some v13) (
 optM (bdR [(0, 1), (1, 1)] [(.i .i64 0), (.i .i64 0)] []) fun v14 =>
 bindM (stR 2 v1 v14) fun v15 =>
 rdM (ld true 2 v1) fun v16 =>
 pureM (.t [v16, (.b false)])
 ) (
 optM (nilR a0) fun v17 =>
 optM (faR 0 v17) fun v18 =>
 rdM (ld false 1 v18) fun v19 =>
 optM (iaL 2 v19 a1) fun v20 =>
 rdM (ld true 2 v20) fun v21 =>
 bindM (stR 2 v1 v21) fun v22 =>
 rdM (ld true 2 v1) fun v23 =>
 pureM (.t [v23, (.b true)])
 )
def an_zone_Machine_Get : An := (.two .n (.two (.two .n (.two (.two .n .n) .n)) (.two .n .n)))

/-- corbel/zone.span -/
def tab_zone_span (N : Nat) (Φ : Calls') : Calls' := fun f => Φ f
def F_zone_span (N : Nat) (Φ : Calls') : List V → M V := fun args =>
 unc args fun a0 args =>
 unc args fun a1 args =>
 unc args fun a2 args =>
 unn args <|
 optM (binR .geq .o none a0 (.i .i64 0)) fun v1 =>
 bindM (gdM (boolV (some v1)) true (pM (some a1))) fun v2 =>
 bindM (gdM (boolV (some v1)) true (pM (binR .geq .o none v2 (.i .i64 1)))) fun v3 =>
 optM (pickR v1 v3 (.b false)) fun v4 =>
 bindM (gdM (boolV (some v4)) true (pM (some a0))) fun v5 =>
 bindM (gdM (boolV (some v4)) true (pM (some a2))) fun v6 =>
 bindM (gdM (boolV (some v4)) true (pM (binR .leq .o none v5 v6))) fun v7 =>
 optM (pickR v4 v7 (.b false)) fun v8 =>
 bindM (gdM (boolV (some v8)) true (pM (some a1))) fun v9 =>
 bindM (gdM (boolV (some v8)) true (pM (some a2))) fun v10 =>
 bindM (gdM (boolV (some v8)) true (pM (some a0))) fun v11 =>
 bindM (gdM (boolV (some v8)) true (pM (binR .sub .o none v10 v11))) fun v12 =>
 bindM (gdM (boolV (some v8)) true (pM (binR .leq .o none v9 v12))) fun v13 =>
 optM (pickR v8 v13 (.b false)) fun v14 =>
 pureM v14
def an_zone_span : An := (.two .n (.two .n .n))

/-- corbel/zone.opened -/
def tab_zone_opened (N : Nat) (Φ : Calls') : Calls' := fun f => Φ f
def F_zone_opened (N : Nat) (Φ : Calls') : List V → M V := fun args =>
 unc args fun a0 args =>
 unn args <|
 optM (binR .eql .o none a0 (.i .i64 1)) fun v1 =>
 bindM (gdM (boolV (some v1)) false (pM (some a0))) fun v2 =>
 bindM (gdM (boolV (some v1)) false (pM (binR .eql .o none v2 (.i .i64 2)))) fun v3 =>
 optM (pickR v1 (.b true) v3) fun v4 =>
 pureM v4
def an_zone_opened : An := (.two .n (.two .n .n))

/-- (*corbel/zone.Machine).Counts -/
def tab_zone_Machine_Counts (N : Nat) (Φ : Calls') : Calls' := fun f => cond (Nat.beq f id_zone_opened) (some (F_zone_opened N Φ)) (Φ f)
def F_zone_Machine_Counts (N : Nat) (Φ : Calls') : List V → M V := fun args =>
 unc args fun a0 args =>
 unn args <|
 optM (binR .eql .p none a0 .pn) fun v1 =>
 iteM (some v1) (
 pureM (.t [(.i .i64 0), (.i .i64 0)])
 ) (
 optM (nilR a0) fun v2 =>
 optM (faR 0 v2) fun v3 =>
 rdM (ld false 1 v3) fun v4 =>
 optM (lnL v4) fun v5 =>
 lrM (
 loopM N (fun vs =>
 unc vs fun v6 vs =>
 unc vs fun v7 vs =>
 unc vs fun v8 vs =>
 unc vs fun v9 vs =>
 unc vs fun v10 vs =>
 unn vs <|
 optM (binR .lss .o none v10 v9) fun v11 =>
 iteM (some v11) (
 lrM (
 optM (iaL 2 v8 v10) fun v12 =>
 rdM (ld true 2 v12) fun v13 =>
 alM (alR 30 [(.i .i64 0), (.i .i64 0)]) fun v14 =>
 bindM (stR 2 v14 v13) fun v15 =>
 lrM (
 optM (faR 0 v14) fun v16 =>
 rdM (ld false 1 v16) fun v17 =>
 bindM (F_zone_opened N Φ [v17]) fun v18 =>
 iteM (some v18) (
 optM (binR .add .o none v6 (.i .i64 1)) fun v19 =>
 pureM (.nx [v19, v7, v14, v8, v9, v10])
 ) (
 pureM (.nx [v6, v7, v14, v8, v9, v10])
 )
 )
 (fun vs =>
 unc vs fun v20 vs =>
 unc vs fun v21 vs =>
 unc vs fun v22 vs =>
 unc vs fun v23 vs =>
 unc vs fun v24 vs =>
 unc vs fun v25 vs =>
 unn vs <|
 optM (faR 0 v22) fun v26 =>
 rdM (ld false 1 v26) fun v27 =>
 bindM (F_zone_opened N Φ [v27]) fun v28 =>
 bindM (gdM (boolV (some v28)) false (pM (faR 0 v22))) fun v29 =>
 bindM (gdM (boolV (some v28)) false (rM (ld false 1 v29))) fun v30 =>
 bindM (gdM (boolV (some v28)) false (pM (binR .eql .o none v30 (.i .i64 3)))) fun v31 =>
 optM (pickR v28 (.b true) v31) fun v32 =>
 iteM (some v32) (
 optM (binR .add .o none v21 (.i .i64 1)) fun v33 =>
 pureM (.nx [v20, v33, v23, v24, v25])
 ) (
 pureM (.nx [v20, v21, v23, v24, v25])
 )
 )
 (fun id vs =>
 failM)
 (fun vs =>
 unc vs fun v34 vs =>
 unc vs fun v35 vs =>
 unn vs <|
 pureM (.rt [v34, v35])
 )
 )
 (fun vs =>
 unc vs fun v36 vs =>
 unc vs fun v37 vs =>
 unc vs fun v38 vs =>
 unc vs fun v39 vs =>
 unc vs fun v40 vs =>
 unn vs <|
 optM (binR .add .o none v40 (.i .i64 1)) fun v41 =>
 pureM (.nx [v36, v37, v38, v39, v41])
 )
 (fun id vs =>
 failM)
 (fun vs =>
 unc vs fun v42 vs =>
 unc vs fun v43 vs =>
 unn vs <|
 pureM (.rt [v42, v43])
 )
 ) (
 pureM (.ex 0 [v6, v7])
 )
 ) [(.i .i64 0), (.i .i64 0), v4, v5, (.i .i64 0)])
 (fun vs =>
 failM)
 (fun id vs =>
 cond (Nat.beq id 0) (
 unc vs fun v44 vs =>
 unc vs fun v45 vs =>
 unn vs <|
 pureM (.t [v44, v45])
 ) <|
 failM)
 (fun vs =>
 unc vs fun v46 vs =>
 unc vs fun v47 vs =>
 unn vs <|
 pureM (.t [v46, v47])
 )
 )
def an_zone_Machine_Counts : An := (.two .n (.two .n (.two (.two .n (.two (.two .n .n) .n)) (.two (.two .n (.one (.loop [4, 5, 13, 14, 15] [(0, [4, 5])] [2, 3] (.two .n (.two (.two .n .n) (.two (.cut [4, 5, 13, 14, 15] [] [2, 3] (.one (.two .n (.two (.cut [4, 5, 7, 13, 14, 15] [] [2, 3] (.two .n (.two .n .n))) (.two .n (.two .n .n)))))) .n)))))) (.two .n .n)))))

/-- slices.IndexFunc[[]corbel/zone.Zone,corbel/zone.Zone] -/
def tab_slices_IndexFunc_zone_Zone_zone_Zone (N : Nat) (Φ : Calls') : Calls' := fun f => Φ f
def F_slices_IndexFunc_zone_Zone_zone_Zone (N : Nat) (Φ : Calls') : List V → M V := fun args =>
 unc args fun a0 args =>
 unc args fun a1 args =>
 unn args <|
 optM (lnL a0) fun v1 =>
 lrM (
 loopM N (fun vs =>
 unc vs fun v2 vs =>
 unc vs fun v3 vs =>
 unc vs fun v4 vs =>
 unc vs fun v5 vs =>
 unn vs <|
 optM (binR .lss .o none v5 v4) fun v6 =>
 iteM (some v6) (
 optM (iaL 2 v2 v5) fun v7 =>
 rdM (ld true 2 v7) fun v8 =>
 bindM (callF (tab_slices_IndexFunc_zone_Zone_zone_Zone N Φ) v3 [v8]) fun v9 =>
 iteM (some v9) (
 pureM (.rt [v5])
 ) (
 optM (binR .add .o none v5 (.i .i64 1)) fun v10 =>
 pureM (.nx [v2, v3, v4, v10])
 )
 ) (
 pureM (.ex 0 [])
 )
 ) [a0, a1, v1, (.i .i64 0)])
 (fun vs =>
 failM)
 (fun id vs =>
 cond (Nat.beq id 0) (
 unn vs <|
 pureM (.i .i64 (-1))
 ) <|
 failM)
 (fun vs =>
 unc vs fun v11 vs =>
 unn vs <|
 pureM v11
 )
def an_slices_IndexFunc_zone_Zone_zone_Zone : An := (.two .n (.two (.two .n (.one (.loop [0, 1, 7, 8] [(0, [])] [4] (.two .n (.two (.two .n .n) (.two (.one (.two .n (.two .n (.two (.two .n .n) .n)))) .n)))))) (.two .n .n)))

/-- (*corbel/zone.Machine).enter$1 -/
def tab_zone_Machine_enter_1 (N : Nat) (Φ : Calls') : Calls' := fun f => Φ f
def F_zone_Machine_enter_1 (N : Nat) (Φ : Calls') : List V → M V := fun args =>
 unc args fun a0 args =>
 unn args <|
 alM (boxR a0) fun v1 =>
 optM (faR 0 v1) fun v2 =>
 rdM (ld false 1 v2) fun v3 =>
 optM (binR .eql .o none v3 (.i .i64 1)) fun v4 =>
 pureM v4
def an_zone_Machine_enter_1 : An := (.two .n (.two .n .n))

/-- (*corbel/zone.Machine).enter -/
def tab_zone_Machine_enter (N : Nat) (Φ : Calls') : Calls' := fun f => cond (Nat.beq f id_zone_opened) (some (F_zone_opened N Φ)) (cond (Nat.beq f id_zone_Machine_Counts) (some (F_zone_Machine_Counts N Φ)) (cond (Nat.beq f id_slices_IndexFunc_zone_Zone_zone_Zone) (some (F_slices_IndexFunc_zone_Zone_zone_Zone N Φ)) (Φ f)))
def F_zone_Machine_enter (N : Nat) (Φ : Calls') : List V → M V := fun args =>
 unc args fun a0 args =>
 unc args fun a1 args =>
 unc args fun a2 args =>
 unn args <|
 optM (nilR a1) fun v1 =>
 optM (faR 0 v1) fun v2 =>
 rdM (ld false 1 v2) fun v3 =>
 bindM (F_zone_opened N Φ [v3]) fun v4 =>
 iteM (some v4) (
 optM (nilR a1) fun v5 =>
 optM (faR 0 v5) fun v6 =>
 rdM (ld false 1 v6) fun v7 =>
 optM (foldInts maxI [v7, a2]) fun v8 =>
 optM (nilR a1) fun v9 =>
 optM (faR 0 v9) fun v10 =>
 bindM (stR 1 v10 v8) fun v11 =>
 pureM (.i .i64 0)
 ) (
 bindM (F_zone_Machine_Counts N Φ [a0]) fun v12 =>
 optM (exR 0 v12) fun v13 =>
 optM (exR 1 v12) fun v14 =>
 optM (nilR a1) fun v15 =>
 optM (faR 0 v15) fun v16 =>
 rdM (ld false 1 v16) fun v17 =>
 optM (binR .eql .o none v17 (.i .i64 0)) fun v18 =>
 bindM (gdM (boolV (some v18)) true (pM (some v14))) fun v19 =>
 bindM (gdM (boolV (some v18)) true (pM (some a0))) fun v20 =>
 bindM (gdM (boolV (some v18)) true (pM (nilR v20))) fun v21 =>
 bindM (gdM (boolV (some v18)) true (pM (faR 3 v21))) fun v22 =>
 bindM (gdM (boolV (some v18)) true (rM (ld false 1 v22))) fun v23 =>
 bindM (gdM (boolV (some v18)) true (pM (binR .geq .o none v19 v23))) fun v24 =>
 optM (pickR v18 v24 (.b false)) fun v25 =>
 iteM (some v25) (
 pureM (.i .i64 5)
 ) (
 lrM (
 optM (nilR a0) fun v26 =>
 optM (faR 2 v26) fun v27 =>
 rdM (ld false 1 v27) fun v28 =>
 optM (binR .geq .o none v13 v28) fun v29 =>
 iteM (some v29) (
 optM (nilR a0) fun v30 =>
 optM (faR 0 v30) fun v31 =>
 rdM (ld false 1 v31) fun v32 =>
 bindM (F_slices_IndexFunc_zone_Zone_zone_Zone N Φ [v32, (.f id_zone_Machine_enter_1 [] [])]) fun v33 =>
 optM (binR .lss .o none v33 (.i .i64 0)) fun v34 =>
 iteM (some v34) (
 pureM (.rt [(.i .i64 5)])
 ) (
 optM (nilR a0) fun v35 =>
 optM (faR 0 v35) fun v36 =>
 rdM (ld false 1 v36) fun v37 =>
 optM (iaL 2 v37 v33) fun v38 =>
 optM (faR 0 v38) fun v39 =>
 bindM (stR 1 v39 (.i .i64 3)) fun v40 =>
 pureM (.nx [a1, a2])
 )
 ) (
 pureM (.nx [a1, a2])
 )
 )
 (fun vs =>
 unc vs fun v41 vs =>
 unc vs fun v42 vs =>
 unn vs <|
 optM (nilR v41) fun v43 =>
 optM (faR 0 v43) fun v44 =>
 bindM (stR 1 v44 v42) fun v45 =>
 pureM (.i .i64 0)
 )
 (fun id vs =>
 failM)
 (fun vs =>
 unc vs fun v46 vs =>
 unn vs <|
 pureM v46
 )
 )
 )
def an_zone_Machine_enter : An := (.two .n (.two (.two .n (.two (.two .n (.two .n .n)) .n)) (.two .n (.two (.two .n (.two (.two .n .n) .n)) (.two (.cut [1, 2] [] [6] (.two .n (.two (.two .n (.two (.two .n (.two (.two .n .n) .n)) .n)) .n))) (.two .n (.two .n .n)))))))

/-- (*corbel/zone.Machine).grow -/
def tab_zone_Machine_grow (N : Nat) (Φ : Calls') : Calls' := fun f => cond (Nat.beq f id_zone_Machine_enter) (some (F_zone_Machine_enter N Φ)) (Φ f)
def F_zone_Machine_grow (N : Nat) (Φ : Calls') : List V → M V := fun args =>
 unc args fun a0 args =>
 unc args fun a1 args =>
 unc args fun a2 args =>
 unn args <|
 bindM (F_zone_Machine_enter N Φ [a0, a1, (.i .i64 1)]) fun v1 =>
 optM (binR .neq .o none v1 (.i .i64 0)) fun v2 =>
 iteM (some v2) (
 pureM (.t [(.i .i64 0), v1])
 ) (
 optM (nilR a1) fun v3 =>
 optM (faR 1 v3) fun v4 =>
 rdM (ld false 1 v4) fun v5 =>
 optM (nilR a1) fun v6 =>
 optM (faR 1 v6) fun v7 =>
 rdM (ld false 1 v7) fun v8 =>
 optM (binR .add .o none v8 a2) fun v9 =>
 optM (nilR a1) fun v10 =>
 optM (faR 1 v10) fun v11 =>
 bindM (stR 1 v11 v9) fun v12 =>
 lrM (
 optM (nilR a1) fun v13 =>
 optM (faR 1 v13) fun v14 =>
 rdM (ld false 1 v14) fun v15 =>
 optM (nilR a0) fun v16 =>
 optM (faR 1 v16) fun v17 =>
 rdM (ld false 1 v17) fun v18 =>
 optM (binR .eql .o none v15 v18) fun v19 =>
 iteM (some v19) (
 optM (nilR a1) fun v20 =>
 optM (faR 0 v20) fun v21 =>
 bindM (stR 1 v21 (.i .i64 4)) fun v22 =>
 pureM (.nx [v5])
 ) (
 pureM (.nx [v5])
 )
 )
 (fun vs =>
 unc vs fun v23 vs =>
 unn vs <|
 pureM (.t [v23, (.i .i64 0)])
 )
 (fun id vs =>
 failM)
 (fun vs =>
 unc vs fun v24 vs =>
 unc vs fun v25 vs =>
 unn vs <|
 pureM (.t [v24, v25])
 )
 )
def an_zone_Machine_grow : An := (.two .n (.two (.two .n (.two .n (.two (.two .n .n) .n))) (.two .n (.two .n (.two (.cut [9] [] [6, 7] (.two .n (.two .n .n))) (.two .n .n))))))

/-- (*corbel/zone.Machine).write -/
def tab_zone_Machine_write (N : Nat) (Φ : Calls') : Calls' := fun f => cond (Nat.beq f id_zone_span) (some (F_zone_span N Φ)) (cond (Nat.beq f id_zone_Machine_grow) (some (F_zone_Machine_grow N Φ)) (Φ f))
def F_zone_Machine_write (N : Nat) (Φ : Calls') : List V → M V := fun args =>
 unc args fun a0 args =>
 unc args fun a1 args =>
 unc args fun a2 args =>
 unn args <|
 alM (boxR a2) fun v1 =>
 optM (faR 2 v1) fun v2 =>
 rdM (ld false 1 v2) fun v3 =>
 optM (faR 3 v1) fun v4 =>
 rdM (ld false 1 v4) fun v5 =>
 optM (nilR a0) fun v6 =>
 optM (faR 1 v6) fun v7 =>
 rdM (ld false 1 v7) fun v8 =>
 bindM (F_zone_span N Φ [v3, v5, v8]) fun v9 =>
 optM (unV .not v9) fun v10 =>
 iteM (some v10) (
 pureM (.t [(.i .i64 0), (.i .i64 2)])
 ) (
 optM (nilR a1) fun v11 =>
 optM (faR 0 v11) fun v12 =>
 rdM (ld false 1 v12) fun v13 =>
 optM (binR .eql .o none v13 (.i .i64 4)) fun v14 =>
 iteM (some v14) (
 pureM (.t [(.i .i64 0), (.i .i64 4)])
 ) (
 optM (faR 2 v1) fun v15 =>
 rdM (ld false 1 v15) fun v16 =>
 optM (nilR a1) fun v17 =>
 optM (faR 1 v17) fun v18 =>
 rdM (ld false 1 v18) fun v19 =>
 optM (binR .neq .o none v16 v19) fun v20 =>
 iteM (some v20) (
 pureM (.t [(.i .i64 0), (.i .i64 3)])
 ) (
 optM (faR 3 v1) fun v21 =>
 rdM (ld false 1 v21) fun v22 =>
 bindM (F_zone_Machine_grow N Φ [a0, a1, v22]) fun v23 =>
 optM (exR 0 v23) fun v24 =>
 optM (exR 1 v23) fun v25 =>
 pureM (.t [v24, v25])
 )
 )
 )
def an_zone_Machine_write : An := (.two .n (.two (.one (.two .n (.two (.two .n .n) (.two .n (.two (.two .n .n) (.two .n (.two (.two .n .n) .n))))))) (.two .n .n)))

/-- (*corbel/zone.Machine).append -/
def tab_zone_Machine_append (N : Nat) (Φ : Calls') : Calls' := fun f => cond (Nat.beq f id_zone_span) (some (F_zone_span N Φ)) (cond (Nat.beq f id_zone_Machine_grow) (some (F_zone_Machine_grow N Φ)) (Φ f))
def F_zone_Machine_append (N : Nat) (Φ : Calls') : List V → M V := fun args =>
 unc args fun a0 args =>
 unc args fun a1 args =>
 unc args fun a2 args =>
 unn args <|
 alM (boxR a2) fun v1 =>
 optM (faR 3 v1) fun v2 =>
 rdM (ld false 1 v2) fun v3 =>
 optM (nilR a0) fun v4 =>
 optM (faR 1 v4) fun v5 =>
 rdM (ld false 1 v5) fun v6 =>
 bindM (F_zone_span N Φ [(.i .i64 0), v3, v6]) fun v7 =>
 optM (unV .not v7) fun v8 =>
 iteM (some v8) (
 pureM (.t [(.i .i64 0), (.i .i64 2)])
 ) (
 optM (nilR a1) fun v9 =>
 optM (faR 0 v9) fun v10 =>
 rdM (ld false 1 v10) fun v11 =>
 optM (binR .eql .o none v11 (.i .i64 4)) fun v12 =>
 iteM (some v12) (
 pureM (.t [(.i .i64 0), (.i .i64 4)])
 ) (
 optM (nilR a1) fun v13 =>
 optM (faR 1 v13) fun v14 =>
 rdM (ld false 1 v14) fun v15 =>
 optM (faR 3 v1) fun v16 =>
 rdM (ld false 1 v16) fun v17 =>
 optM (nilR a0) fun v18 =>
 optM (faR 1 v18) fun v19 =>
 rdM (ld false 1 v19) fun v20 =>
 bindM (F_zone_span N Φ [v15, v17, v20]) fun v21 =>
 optM (unV .not v21) fun v22 =>
 iteM (some v22) (
 pureM (.t [(.i .i64 0), (.i .i64 2)])
 ) (
 optM (faR 3 v1) fun v23 =>
 rdM (ld false 1 v23) fun v24 =>
 bindM (F_zone_Machine_grow N Φ [a0, a1, v24]) fun v25 =>
 optM (exR 0 v25) fun v26 =>
 optM (exR 1 v25) fun v27 =>
 pureM (.t [v26, v27])
 )
 )
 )
def an_zone_Machine_append : An := (.two .n (.two (.one (.two .n (.two (.two .n .n) (.two .n (.two (.two .n .n) (.two .n (.two (.two .n .n) .n))))))) (.two .n .n)))

/-- (*corbel/zone.Machine).reset -/
def tab_zone_Machine_reset (N : Nat) (Φ : Calls') : Calls' := fun f => Φ f
def F_zone_Machine_reset (N : Nat) (Φ : Calls') : List V → M V := fun args =>
 unc args fun a0 args =>
 unc args fun a1 args =>
 unc args fun a2 args =>
 unn args <|
 alM (boxR a2) fun v1 =>
 optM (bdR [(0, 1), (1, 1)] [(.i .i64 0), (.i .i64 0)] []) fun v2 =>
 optM (nilR a1) fun v3 =>
 bindM (stR 2 v3 v2) fun v4 =>
 pureM (.t [(.i .i64 0), (.i .i64 0)])
def an_zone_Machine_reset : An := (.two .n (.two .n (.two .n .n)))

/-- (*corbel/zone.Machine).finish -/
def tab_zone_Machine_finish (N : Nat) (Φ : Calls') : Calls' := fun f => Φ f
def F_zone_Machine_finish (N : Nat) (Φ : Calls') : List V → M V := fun args =>
 unc args fun a0 args =>
 unc args fun a1 args =>
 unc args fun a2 args =>
 unn args <|
 alM (boxR a2) fun v1 =>
 optM (nilR a1) fun v2 =>
 optM (faR 0 v2) fun v3 =>
 bindM (stR 1 v3 (.i .i64 4)) fun v4 =>
 pureM (.t [(.i .i64 0), (.i .i64 0)])
def an_zone_Machine_finish : An := (.two .n (.two .n (.two .n .n)))

/-- (*corbel/zone.Machine).explicit -/
def tab_zone_Machine_explicit (N : Nat) (Φ : Calls') : Calls' := fun f => cond (Nat.beq f id_zone_Machine_enter) (some (F_zone_Machine_enter N Φ)) (Φ f)
def F_zone_Machine_explicit (N : Nat) (Φ : Calls') : List V → M V := fun args =>
 unc args fun a0 args =>
 unc args fun a1 args =>
 unc args fun a2 args =>
 unn args <|
 alM (boxR a2) fun v1 =>
 optM (nilR a1) fun v2 =>
 optM (faR 0 v2) fun v3 =>
 rdM (ld false 1 v3) fun v4 =>
 optM (binR .eql .o none v4 (.i .i64 4)) fun v5 =>
 iteM (some v5) (
 pureM (.t [(.i .i64 0), (.i .i64 4)])
 ) (
 bindM (F_zone_Machine_enter N Φ [a0, a1, (.i .i64 2)]) fun v6 =>
 pureM (.t [(.i .i64 0), v6])
 )
def an_zone_Machine_explicit : An := (.two .n (.two (.two .n (.two (.two .n .n) .n)) (.two .n .n)))

/-- corbel/zone.rest -/
def tab_zone_rest (N : Nat) (Φ : Calls') : Calls' := fun f => Φ f
def F_zone_rest (N : Nat) (Φ : Calls') : List V → M V := fun args =>
 unc args fun a0 args =>
 unn args <|
 optM (binR .eql .o none a0 (.i .i64 0)) fun v1 =>
 iteM (some v1) (
 pureM (.i .i64 0)
 ) (
 pureM (.i .i64 3)
 )
def an_zone_rest : An := (.two .n (.two (.two .n (.two (.two .n .n) .n)) (.two .n .n)))

/-- (*corbel/zone.Machine).shut -/
def tab_zone_Machine_shut (N : Nat) (Φ : Calls') : Calls' := fun f => cond (Nat.beq f id_zone_opened) (some (F_zone_opened N Φ)) (cond (Nat.beq f id_zone_rest) (some (F_zone_rest N Φ)) (Φ f))
def F_zone_Machine_shut (N : Nat) (Φ : Calls') : List V → M V := fun args =>
 unc args fun a0 args =>
 unc args fun a1 args =>
 unc args fun a2 args =>
 unn args <|
 alM (boxR a2) fun v1 =>
 lrM (
 optM (nilR a1) fun v2 =>
 optM (faR 0 v2) fun v3 =>
 rdM (ld false 1 v3) fun v4 =>
 bindM (F_zone_opened N Φ [v4]) fun v5 =>
 iteM (some v5) (
 optM (nilR a1) fun v6 =>
 optM (faR 1 v6) fun v7 =>
 rdM (ld false 1 v7) fun v8 =>
 bindM (F_zone_rest N Φ [v8]) fun v9 =>
 optM (nilR a1) fun v10 =>
 optM (faR 0 v10) fun v11 =>
 bindM (stR 1 v11 v9) fun v12 =>
 pureM (.nx [])
 ) (
 optM (nilR a1) fun v13 =>
 optM (faR 0 v13) fun v14 =>
 rdM (ld false 1 v14) fun v15 =>
 optM (binR .neq .o none v15 (.i .i64 3)) fun v16 =>
 iteM (some v16) (
 pureM (.rt [(.i .i64 0), (.i .i64 3)])
 ) (
 pureM (.nx [])
 )
 )
 )
 (fun vs =>
 unn vs <|
 pureM (.t [(.i .i64 0), (.i .i64 0)])
 )
 (fun id vs =>
 failM)
 (fun vs =>
 unc vs fun v17 vs =>
 unc vs fun v18 vs =>
 unn vs <|
 pureM (.t [v17, v18])
 )
def an_zone_Machine_shut : An := (.two .n (.two (.cut [] [] [6, 7] (.one (.two .n (.two .n (.two .n (.two (.two .n .n) .n)))))) (.two .n .n)))

/-- (*corbel/zone.Machine).read -/
def tab_zone_Machine_read (N : Nat) (Φ : Calls') : Calls' := fun f => cond (Nat.beq f id_zone_span) (some (F_zone_span N Φ)) (Φ f)
def F_zone_Machine_read (N : Nat) (Φ : Calls') : List V → M V := fun args =>
 unc args fun a0 args =>
 unc args fun a1 args =>
 unc args fun a2 args =>
 unn args <|
 alM (boxR a2) fun v1 =>
 optM (faR 2 v1) fun v2 =>
 rdM (ld false 1 v2) fun v3 =>
 optM (faR 3 v1) fun v4 =>
 rdM (ld false 1 v4) fun v5 =>
 optM (nilR a1) fun v6 =>
 optM (faR 1 v6) fun v7 =>
 rdM (ld false 1 v7) fun v8 =>
 bindM (F_zone_span N Φ [v3, v5, v8]) fun v9 =>
 optM (unV .not v9) fun v10 =>
 iteM (some v10) (
 pureM (.t [(.i .i64 0), (.i .i64 2)])
 ) (
 optM (faR 2 v1) fun v11 =>
 rdM (ld false 1 v11) fun v12 =>
 pureM (.t [v12, (.i .i64 0)])
 )
def an_zone_Machine_read : An := (.two .n (.two (.two .n (.two (.two .n .n) .n)) (.two .n .n)))

/-- corbel/zone.verbs -/
def tab_zone_verbs (N : Nat) (Φ : Calls') : Calls' := fun f => Φ f
def F_zone_verbs (N : Nat) (Φ : Calls') : List V → M V := fun args =>
 unn args <|
 alM (alR 127 [.nf, .nf, .nf, .nf, .nf, .nf, .nf, .nf]) fun v1 =>
 optM (bdA 1 [.nf, .nf, .nf, .nf, .nf, .nf, .nf, .nf] [(1, (.f id_zone_Machine_write [] [])), (2, (.f id_zone_Machine_append [] [])), (3, (.f id_zone_Machine_reset [] [])), (4, (.f id_zone_Machine_finish [] [])), (5, (.f id_zone_Machine_explicit [] [])), (6, (.f id_zone_Machine_shut [] [])), (7, (.f id_zone_Machine_read [] []))]) fun v2 =>
 bindM (stR 8 v1 v2) fun v3 =>
 rdM (ld true 8 v1) fun v4 =>
 pureM v4
def an_zone_verbs : An := (.two .n (.two .n .n))

/-- (*corbel/zone.Machine).Do -/
def tab_zone_Machine_Do (N : Nat) (Φ : Calls') : Calls' := fun f => cond (Nat.beq f id_zone_verbs) (some (F_zone_verbs N Φ)) (Φ f)
def F_zone_Machine_Do (N : Nat) (Φ : Calls') : List V → M V := fun args =>
 unc args fun a0 args =>
 unc args fun a1 args =>
 unn args <|
 alM (boxR a1) fun v1 =>
 optM (binR .eql .p none a0 .pn) fun v2 =>
 bindM (gdM (boolV (some v2)) false (pM (faR 0 v1))) fun v3 =>
 bindM (gdM (boolV (some v2)) false (rM (ld false 1 v3))) fun v4 =>
 bindM (gdM (boolV (some v2)) false (pM (binR .lss .o none v4 (.i .i64 1)))) fun v5 =>
 optM (pickR v2 (.b true) v5) fun v6 =>
 bindM (gdM (boolV (some v6)) false (pM (faR 0 v1))) fun v7 =>
 bindM (gdM (boolV (some v6)) false (rM (ld false 1 v7))) fun v8 =>
 bindM (gdM (boolV (some v6)) false (pM (binR .gtr .o none v8 (.i .i64 7)))) fun v9 =>
 optM (pickR v6 (.b true) v9) fun v10 =>
 iteM (some v10) (
 pureM (.t [(.i .i64 0), (.i .i64 1)])
 ) (
 optM (faR 1 v1) fun v11 =>
 rdM (ld false 1 v11) fun v12 =>
 optM (binR .lss .o none v12 (.i .i64 0)) fun v13 =>
 bindM (gdM (boolV (some v13)) false (pM (faR 1 v1))) fun v14 =>
 bindM (gdM (boolV (some v13)) false (rM (ld false 1 v14))) fun v15 =>
 bindM (gdM (boolV (some v13)) false (pM (some a0))) fun v16 =>
 bindM (gdM (boolV (some v13)) false (pM (nilR v16))) fun v17 =>
 bindM (gdM (boolV (some v13)) false (pM (faR 0 v17))) fun v18 =>
 bindM (gdM (boolV (some v13)) false (rM (ld false 1 v18))) fun v19 =>
 bindM (gdM (boolV (some v13)) false (pM (lnL v19))) fun v20 =>
 bindM (gdM (boolV (some v13)) false (pM (binR .geq .o none v15 v20))) fun v21 =>
 optM (pickR v13 (.b true) v21) fun v22 =>
 iteM (some v22) (
 pureM (.t [(.i .i64 0), (.i .i64 2)])
 ) (
 optM (faR 0 v1) fun v23 =>
 rdM (ld false 1 v23) fun v24 =>
 optM (nilR a0) fun v25 =>
 optM (faR 0 v25) fun v26 =>
 rdM (ld false 1 v26) fun v27 =>
 optM (faR 1 v1) fun v28 =>
 rdM (ld false 1 v28) fun v29 =>
 optM (iaL 2 v27 v29) fun v30 =>
 rdM (ld true 4 v1) fun v31 =>
 bindM (F_zone_verbs N Φ []) fun v32 =>
 chkM (ckR (ld true 4 v1) v31) <|
 chkM (ckR (ld false 1 v28) v29) <|
 chkM (ckR (ld false 1 v26) v27) <|
 chkM (ckR (ld false 1 v23) v24) <|
 optM (ixA 8 false 1 v32 v24) fun v33 =>
 bindM (callF (tab_zone_Machine_Do N Φ) v33 [a0, v30, v31]) fun v34 =>
 optM (exR 0 v34) fun v35 =>
 optM (exR 1 v34) fun v36 =>
 pureM (.t [v35, v36])
 )
 )
def an_zone_Machine_Do : An := (.two .n (.two (.two .n (.two (.two .n .n) .n)) (.two (.two .n (.two (.two .n .n) .n)) (.two .n .n))))

/-- corbel/geom.within -/
def tab_geom_within (N : Nat) (Φ : Calls') : Calls' := fun f => Φ f
def F_geom_within (N : Nat) (Φ : Calls') : List V → M V := fun args =>
 unc args fun a0 args =>
 unc args fun a1 args =>
 unc args fun a2 args =>
 unn args <|
 optM (binR .leq .o none a1 a0) fun v1 =>
 bindM (gdM (boolV (some v1)) true (pM (some a0))) fun v2 =>
 bindM (gdM (boolV (some v1)) true (pM (some a2))) fun v3 =>
 bindM (gdM (boolV (some v1)) true (pM (binR .leq .o none v2 v3))) fun v4 =>
 optM (pickR v1 v4 (.b false)) fun v5 =>
 pureM v5
def an_geom_within : An := (.two .n (.two .n .n))

/-- corbel/geom.Good -/
def tab_geom_Good (N : Nat) (Φ : Calls') : Calls' := fun f => cond (Nat.beq f id_geom_within) (some (F_geom_within N Φ)) (Φ f)
def F_geom_Good (N : Nat) (Φ : Calls') : List V → M V := fun args =>
 unc args fun a0 args =>
 unn args <|
 alM (boxR a0) fun v1 =>
 optM (faR 0 v1) fun v2 =>
 rdM (ld false 1 v2) fun v3 =>
 bindM (F_geom_within N Φ [v3, (.i .i64 3), (.i .i64 16)]) fun v4 =>
 bindM (gdM (boolV (some v4)) true (pM (faR 1 v1))) fun v5 =>
 bindM (gdM (boolV (some v4)) true (rM (ld false 1 v5))) fun v6 =>
 bindM (gdM (boolV (some v4)) true (F_geom_within N Φ [v6, (.i .i64 5), (.i .i64 64)])) fun v7 =>
 optM (pickR v4 v7 (.b false)) fun v8 =>
 bindM (gdM (boolV (some v8)) true (pM (faR 2 v1))) fun v9 =>
 bindM (gdM (boolV (some v8)) true (rM (ld false 1 v9))) fun v10 =>
 bindM (gdM (boolV (some v8)) true (F_geom_within N Φ [v10, (.i .i64 4), (.i .i64 256)])) fun v11 =>
 optM (pickR v8 v11 (.b false)) fun v12 =>
 bindM (gdM (boolV (some v12)) true (pM (faR 3 v1))) fun v13 =>
 bindM (gdM (boolV (some v12)) true (rM (ld false 1 v13))) fun v14 =>
 bindM (gdM (boolV (some v12)) true (pM (faR 4 v1))) fun v15 =>
 bindM (gdM (boolV (some v12)) true (rM (ld false 1 v15))) fun v16 =>
 bindM (gdM (boolV (some v12)) true (F_geom_within N Φ [v14, (.i .i64 1), v16])) fun v17 =>
 optM (pickR v12 v17 (.b false)) fun v18 =>
 bindM (gdM (boolV (some v18)) true (pM (faR 4 v1))) fun v19 =>
 bindM (gdM (boolV (some v18)) true (rM (ld false 1 v19))) fun v20 =>
 bindM (gdM (boolV (some v18)) true (pM (faR 1 v1))) fun v21 =>
 bindM (gdM (boolV (some v18)) true (rM (ld false 1 v21))) fun v22 =>
 bindM (gdM (boolV (some v18)) true (pM (binR .leq .o none v20 v22))) fun v23 =>
 optM (pickR v18 v23 (.b false)) fun v24 =>
 pureM v24
def an_geom_Good : An := (.two .n (.two .n .n))

/-- corbel/geom.Zones -/
def tab_geom_Zones (N : Nat) (Φ : Calls') : Calls' := fun f => cond (Nat.beq f id_geom_Good) (some (F_geom_Good N Φ)) (Φ f)
def F_geom_Zones (N : Nat) (Φ : Calls') : List V → M V := fun args =>
 unc args fun a0 args =>
 unn args <|
 alM (boxR a0) fun v1 =>
 rdM (ld true 5 v1) fun v2 =>
 bindM (F_geom_Good N Φ [v2]) fun v3 =>
 optM (unV .not v3) fun v4 =>
 iteM (some v4) (
 pureM (.i .i64 0)
 ) (
 optM (faR 1 v1) fun v5 =>
 rdM (ld false 1 v5) fun v6 =>
 optM (binR .sub .o none v6 (.i .i64 2)) fun v7 =>
 optM (binR .sub .o none v7 (.i .i64 1)) fun v8 =>
 pureM v8
 )
def an_geom_Zones : An := (.two .n (.two (.two .n (.two (.two .n .n) .n)) (.two .n .n)))

/-- corbel/geom.Capacity -/
def tab_geom_Capacity (N : Nat) (Φ : Calls') : Calls' := fun f => cond (Nat.beq f id_geom_Good) (some (F_geom_Good N Φ)) (Φ f)
def F_geom_Capacity (N : Nat) (Φ : Calls') : List V → M V := fun args =>
 unc args fun a0 args =>
 unn args <|
 alM (boxR a0) fun v1 =>
 rdM (ld true 5 v1) fun v2 =>
 bindM (F_geom_Good N Φ [v2]) fun v3 =>
 optM (unV .not v3) fun v4 =>
 iteM (some v4) (
 pureM (.i .i64 0)
 ) (
 optM (faR 0 v1) fun v5 =>
 rdM (ld false 1 v5) fun v6 =>
 optM (binR .sub .o none v6 (.i .i64 1)) fun v7 =>
 optM (faR 2 v1) fun v8 =>
 rdM (ld false 1 v8) fun v9 =>
 optM (binR .mul .o none v7 v9) fun v10 =>
 pureM v10
 )
def an_geom_Capacity : An := (.two .n (.two (.two .n (.two (.two .n .n) .n)) (.two .n .n)))

/-- corbel/stripe.Pieces -/
def tab_stripe_Pieces (N : Nat) (Φ : Calls') : Calls' := fun f => Φ f
def F_stripe_Pieces (N : Nat) (Φ : Calls') : List V → M V := fun args =>
 unc args fun a0 args =>
 unc args fun a1 args =>
 unc args fun a2 args =>
 unn args <|
 optM (binR .lss .o none a0 (.i .i64 1)) fun v1 =>
 bindM (gdM (boolV (some v1)) false (pM (some a1))) fun v2 =>
 bindM (gdM (boolV (some v1)) false (pM (binR .lss .o none v2 (.i .i64 0)))) fun v3 =>
 optM (pickR v1 (.b true) v3) fun v4 =>
 bindM (gdM (boolV (some v4)) false (pM (some a2))) fun v5 =>
 bindM (gdM (boolV (some v4)) false (pM (binR .lss .o none v5 (.i .i64 1)))) fun v6 =>
 optM (pickR v4 (.b true) v6) fun v7 =>
 bindM (gdM (boolV (some v7)) false (pM (some a1))) fun v8 =>
 bindM (gdM (boolV (some v7)) false (pM (binR .gtr .o none v8 (.i .i64 1099511627776)))) fun v9 =>
 optM (pickR v7 (.b true) v9) fun v10 =>
 bindM (gdM (boolV (some v10)) false (pM (some a2))) fun v11 =>
 bindM (gdM (boolV (some v10)) false (pM (some a1))) fun v12 =>
 bindM (gdM (boolV (some v10)) false (pM (binR .sub .o none (.i .i64 1099511627776) v12))) fun v13 =>
 bindM (gdM (boolV (some v10)) false (pM (binR .gtr .o none v11 v13))) fun v14 =>
 optM (pickR v10 (.b true) v14) fun v15 =>
 iteM (some v15) (
 pureM .ns
 ) (
 lrM (
 loopM N (fun vs =>
 unc vs fun v16 vs =>
 unc vs fun v17 vs =>
 unc vs fun v18 vs =>
 unc vs fun v19 vs =>
 unn vs <|
 optM (binR .gtr .o none v18 (.i .i64 0)) fun v20 =>
 iteM (some v20) (
 optM (binR .quo .o none v17 v16) fun v21 =>
 optM (binR .rem .o none v17 v16) fun v22 =>
 optM (bdR [(0, 1), (1, 1), (2, 1)] [(.i .i64 0), (.i .i64 0), (.i .i64 0)] [(0, v21), (1, v22), (2, (.i .i64 0))]) fun v23 =>
 alM (alR 209 [(.i .i64 0), (.i .i64 0), (.i .i64 0)]) fun v24 =>
 bindM (stR 3 v24 v23) fun v25 =>
 optM (faR 1 v24) fun v26 =>
 rdM (ld false 1 v26) fun v27 =>
 optM (binR .sub .o none v16 v27) fun v28 =>
 optM (foldInts minI [v18, v28]) fun v29 =>
 optM (faR 2 v24) fun v30 =>
 bindM (stR 1 v30 v29) fun v31 =>
 rdM (ld true 3 v24) fun v32 =>
 alM (bsR 1 3 (zeros [(.i .i64 0), (.i .i64 0), (.i .i64 0)] 3) [(0, v32)]) fun v33 =>
 bindM (apR 209 3 24 (srL 3 v33) v19) fun v34 =>
 optM (faR 2 v24) fun v35 =>
 rdM (ld false 1 v35) fun v36 =>
 optM (binR .add .o none v17 v36) fun v37 =>
 optM (faR 2 v24) fun v38 =>
 rdM (ld false 1 v38) fun v39 =>
 optM (binR .sub .o none v18 v39) fun v40 =>
 pureM (.nx [v16, v37, v40, v34])
 ) (
 pureM (.ex 0 [v19])
 )
 ) [a0, a1, a2, .ns])
 (fun vs =>
 failM)
 (fun id vs =>
 cond (Nat.beq id 0) (
 unc vs fun v41 vs =>
 unn vs <|
 pureM v41
 ) <|
 failM)
 (fun vs =>
 unc vs fun v42 vs =>
 unn vs <|
 pureM v42
 )
 )
def an_stripe_Pieces : An := (.two .n (.two (.two .n (.two (.two .n .n) .n)) (.two .n (.two (.one (.loop [0, 1, 2, 7] [(0, [7])] [6] (.two (.two .n (.two .n .n)) (.one (.two .n (.two .n (.two .n .n))))))) (.two .n .n)))))

/-- corbel/geom.there -/
def tab_geom_there (N : Nat) (Φ : Calls') : Calls' := fun f => cond (Nat.beq f id_geom_Zones) (some (F_geom_Zones N Φ)) (cond (Nat.beq f id_geom_within) (some (F_geom_within N Φ)) (Φ f))
def F_geom_there (N : Nat) (Φ : Calls') : List V → M V := fun args =>
 unc args fun a0 args =>
 unc args fun a1 args =>
 unc args fun a2 args =>
 unn args <|
 alM (boxR a0) fun v1 =>
 rdM (ld true 5 v1) fun v2 =>
 bindM (F_geom_Zones N Φ [v2]) fun v3 =>
 optM (binR .sub .o none v3 (.i .i64 1)) fun v4 =>
 bindM (F_geom_within N Φ [a1, (.i .i64 0), v4]) fun v5 =>
 bindM (gdM (boolV (some v5)) true (pM (some a2))) fun v6 =>
 bindM (gdM (boolV (some v5)) true (pM (faR 2 v1))) fun v7 =>
 bindM (gdM (boolV (some v5)) true (rM (ld false 1 v7))) fun v8 =>
 bindM (gdM (boolV (some v5)) true (pM (binR .sub .o none v8 (.i .i64 1)))) fun v9 =>
 bindM (gdM (boolV (some v5)) true (F_geom_within N Φ [v6, (.i .i64 0), v9])) fun v10 =>
 optM (pickR v5 v10 (.b false)) fun v11 =>
 pureM v11
def an_geom_there : An := (.two .n (.two .n .n))

/-- corbel/geom.Parity -/
def tab_geom_Parity (N : Nat) (Φ : Calls') : Calls' := fun f => cond (Nat.beq f id_geom_there) (some (F_geom_there N Φ)) (Φ f)
def F_geom_Parity (N : Nat) (Φ : Calls') : List V → M V := fun args =>
 unc args fun a0 args =>
 unc args fun a1 args =>
 unc args fun a2 args =>
 unn args <|
 alM (boxR a0) fun v1 =>
 rdM (ld true 5 v1) fun v2 =>
 bindM (F_geom_there N Φ [v2, a1, a2]) fun v3 =>
 optM (unV .not v3) fun v4 =>
 iteM (some v4) (
 pureM (.i .i64 (-1))
 ) (
 optM (binR .add .o none a1 a2) fun v5 =>
 optM (faR 0 v1) fun v6 =>
 rdM (ld false 1 v6) fun v7 =>
 optM (binR .rem .o none v5 v7) fun v8 =>
 pureM v8
 )
def an_geom_Parity : An := (.two .n (.two (.two .n (.two (.two .n .n) .n)) (.two .n .n)))

/-- corbel/geom.Place -/
def tab_geom_Place (N : Nat) (Φ : Calls') : Calls' := fun f => cond (Nat.beq f id_geom_Capacity) (some (F_geom_Capacity N Φ)) (cond (Nat.beq f id_geom_Parity) (some (F_geom_Parity N Φ)) (cond (Nat.beq f id_geom_within) (some (F_geom_within N Φ)) (cond (Nat.beq f id_geom_there) (some (F_geom_there N Φ)) (Φ f))))
def F_geom_Place (N : Nat) (Φ : Calls') : List V → M V := fun args =>
 unc args fun a0 args =>
 unc args fun a1 args =>
 unc args fun a2 args =>
 unn args <|
 alM (boxR a0) fun v1 =>
 rdM (ld true 5 v1) fun v2 =>
 bindM (F_geom_there N Φ [v2, a1, (.i .i64 0)]) fun v3 =>
 optM (unV .not v3) fun v4 =>
 bindM (gdM (boolV (some v4)) false (pM (some a2))) fun v5 =>
 bindM (gdM (boolV (some v4)) false (rM (ld true 5 v1))) fun v6 =>
 bindM (gdM (boolV (some v4)) false (F_geom_Capacity N Φ [v6])) fun v7 =>
 bindM (gdM (boolV (some v4)) false (pM (binR .sub .o none v7 (.i .i64 1)))) fun v8 =>
 bindM (gdM (boolV (some v4)) false (F_geom_within N Φ [v5, (.i .i64 0), v8])) fun v9 =>
 bindM (gdM (boolV (some v4)) false (pM (unV .not v9))) fun v10 =>
 optM (pickR v4 (.b true) v10) fun v11 =>
 iteM (some v11) (
 pureM (.t [(.i .i64 0), (.i .i64 0), (.b false)])
 ) (
 optM (faR 0 v1) fun v12 =>
 rdM (ld false 1 v12) fun v13 =>
 optM (binR .sub .o none v13 (.i .i64 1)) fun v14 =>
 optM (binR .quo .o none a2 v14) fun v15 =>
 optM (faR 0 v1) fun v16 =>
 rdM (ld false 1 v16) fun v17 =>
 optM (binR .sub .o none v17 (.i .i64 1)) fun v18 =>
 optM (binR .rem .o none a2 v18) fun v19 =>
 rdM (ld true 5 v1) fun v20 =>
 optM (faR 0 v1) fun v21 =>
 rdM (ld false 1 v21) fun v22 =>
 bindM (F_geom_Parity N Φ [v20, a1, v15]) fun v23 =>
 chkM (ckR (ld false 1 v21) v22) <|
 optM (binR .add .o none v23 (.i .i64 1)) fun v24 =>
 optM (binR .add .o none v24 v19) fun v25 =>
 optM (binR .rem .o none v25 v22) fun v26 =>
 pureM (.t [v15, v26, (.b true)])
 )
def an_geom_Place : An := (.two .n (.two (.two .n (.two (.two .n .n) .n)) (.two .n (.two .n .n))))

/-- corbel/plan.Write -/
def tab_plan_Write (N : Nat) (Φ : Calls') : Calls' := fun f => cond (Nat.beq f id_geom_Good) (some (F_geom_Good N Φ)) (cond (Nat.beq f id_geom_Zones) (some (F_geom_Zones N Φ)) (cond (Nat.beq f id_geom_Capacity) (some (F_geom_Capacity N Φ)) (cond (Nat.beq f id_stripe_Pieces) (some (F_stripe_Pieces N Φ)) (cond (Nat.beq f id_geom_Place) (some (F_geom_Place N Φ)) (cond (Nat.beq f id_geom_Parity) (some (F_geom_Parity N Φ)) (Φ f))))))
def F_plan_Write (N : Nat) (Φ : Calls') : List V → M V := fun args =>
 unc args fun a0 args =>
 unc args fun a1 args =>
 unc args fun a2 args =>
 unc args fun a3 args =>
 unn args <|
 alM (boxR a0) fun v1 =>
 rdM (ld true 5 v1) fun v2 =>
 bindM (F_geom_Good N Φ [v2]) fun v3 =>
 optM (unV .not v3) fun v4 =>
 iteM (some v4) (
 pureM (.t [.ns, (.i .i64 1)])
 ) (
 optM (binR .lss .o none a1 (.i .i64 0)) fun v5 =>
 bindM (gdM (boolV (some v5)) false (pM (some a1))) fun v6 =>
 bindM (gdM (boolV (some v5)) false (rM (ld true 5 v1))) fun v7 =>
 bindM (gdM (boolV (some v5)) false (F_geom_Zones N Φ [v7])) fun v8 =>
 bindM (gdM (boolV (some v5)) false (pM (binR .geq .o none v6 v8))) fun v9 =>
 optM (pickR v5 (.b true) v9) fun v10 =>
 bindM (gdM (boolV (some v10)) false (pM (some a2))) fun v11 =>
 bindM (gdM (boolV (some v10)) false (pM (binR .lss .o none v11 (.i .i64 0)))) fun v12 =>
 optM (pickR v10 (.b true) v12) fun v13 =>
 bindM (gdM (boolV (some v13)) false (pM (some a3))) fun v14 =>
 bindM (gdM (boolV (some v13)) false (pM (binR .lss .o none v14 (.i .i64 1)))) fun v15 =>
 optM (pickR v13 (.b true) v15) fun v16 =>
 bindM (gdM (boolV (some v16)) false (pM (some a2))) fun v17 =>
 bindM (gdM (boolV (some v16)) false (rM (ld true 5 v1))) fun v18 =>
 bindM (gdM (boolV (some v16)) false (F_geom_Capacity N Φ [v18])) fun v19 =>
 bindM (gdM (boolV (some v16)) false (pM (binR .gtr .o none v17 v19))) fun v20 =>
 optM (pickR v16 (.b true) v20) fun v21 =>
 bindM (gdM (boolV (some v21)) false (pM (some a3))) fun v22 =>
 bindM (gdM (boolV (some v21)) false (rM (ld true 5 v1))) fun v23 =>
 bindM (gdM (boolV (some v21)) false (F_geom_Capacity N Φ [v23])) fun v24 =>
 bindM (gdM (boolV (some v21)) false (pM (some a2))) fun v25 =>
 bindM (gdM (boolV (some v21)) false (pM (binR .sub .o none v24 v25))) fun v26 =>
 bindM (gdM (boolV (some v21)) false (pM (binR .gtr .o none v22 v26))) fun v27 =>
 optM (pickR v21 (.b true) v27) fun v28 =>
 iteM (some v28) (
 pureM (.t [.ns, (.i .i64 2)])
 ) (
 optM (faR 0 v1) fun v29 =>
 rdM (ld false 1 v29) fun v30 =>
 optM (binR .sub .o none v30 (.i .i64 1)) fun v31 =>
 bindM (F_stripe_Pieces N Φ [v31, a2, a3]) fun v32 =>
 optM (lnL v32) fun v33 =>
 lrM (
 loopM N (fun vs =>
 unc vs fun v34 vs =>
 unc vs fun v35 vs =>
 unc vs fun v36 vs =>
 unc vs fun v37 vs =>
 unc vs fun v38 vs =>
 unc vs fun v39 vs =>
 unc vs fun v40 vs =>
 unn vs <|
 optM (binR .lss .o none v40 v39) fun v41 =>
 iteM (some v41) (
 optM (iaL 3 v38 v40) fun v42 =>
 rdM (ld true 3 v42) fun v43 =>
 alM (alR 209 [(.i .i64 0), (.i .i64 0), (.i .i64 0)]) fun v44 =>
 bindM (stR 3 v44 v43) fun v45 =>
 optM (faR 0 v44) fun v46 =>
 rdM (ld false 1 v46) fun v47 =>
 optM (binR .mul .o none v47 v37) fun v48 =>
 optM (faR 1 v44) fun v49 =>
 rdM (ld false 1 v49) fun v50 =>
 optM (binR .add .o none v48 v50) fun v51 =>
 lrM (
 loopM N (fun vs =>
 unc vs fun v52 vs =>
 unc vs fun v53 vs =>
 unc vs fun v54 vs =>
 unc vs fun v55 vs =>
 unc vs fun v56 vs =>
 unc vs fun v57 vs =>
 unc vs fun v58 vs =>
 unc vs fun v59 vs =>
 unc vs fun v60 vs =>
 unc vs fun v61 vs =>
 unn vs <|
 optM (faR 2 v56) fun v62 =>
 rdM (ld false 1 v62) fun v63 =>
 optM (binR .add .o none v57 v63) fun v64 =>
 optM (binR .lss .o none v58 v64) fun v65 =>
 iteM (some v65) (
 rdM (ld true 5 v53) fun v66 =>
 bindM (F_geom_Place N Φ [v66, v52, v58]) fun v67 =>
 optM (exR 0 v67) fun v68 =>
 optM (exR 1 v67) fun v69 =>
 optM (exR 2 v67) fun v70 =>
 optM (bdR [(0, 1), (1, 1), (2, 1), (3, 1), (4, 1)] [(.i .i64 0), (.i .i64 0), (.i .i64 0), (.i .i64 0), (.i .i64 0)] [(0, (.i .i64 1)), (1, v69), (2, v68), (3, v58)]) fun v71 =>
 alM (bsR 1 5 (zeros [(.i .i64 0), (.i .i64 0), (.i .i64 0), (.i .i64 0), (.i .i64 0)] 5) [(0, v71)]) fun v72 =>
 bindM (apR 136 5 40 (srL 5 v72) v54) fun v73 =>
 optM (binR .add .o none v58 (.i .i64 1)) fun v74 =>
 pureM (.nx [v52, v53, v73, v55, v56, v57, v74, v59, v60, v61])
 ) (
 pureM (.ex 2 [v52, v53, v54, v55, v56, v59, v60, v61])
 )
 ) [v34, v35, v36, v37, v44, v51, v51, v38, v39, v40])
 (fun vs =>
 failM)
 (fun id vs =>
 cond (Nat.beq id 2) (
 unc vs fun v75 vs =>
 unc vs fun v76 vs =>
 unc vs fun v77 vs =>
 unc vs fun v78 vs =>
 unc vs fun v79 vs =>
 unc vs fun v80 vs =>
 unc vs fun v81 vs =>
 unc vs fun v82 vs =>
 unn vs <|
 rdM (ld true 5 v76) fun v83 =>
 optM (faR 0 v79) fun v84 =>
 rdM (ld false 1 v84) fun v85 =>
 optM (faR 0 v79) fun v86 =>
 rdM (ld false 1 v86) fun v87 =>
 alM (alR 136 [(.i .i64 0), (.i .i64 0), (.i .i64 0), (.i .i64 0), (.i .i64 0)]) fun v88 =>
 bindM (F_geom_Parity N Φ [v83, v75, v85]) fun v89 =>
 chkM (ckA (alR 136 [(.i .i64 0), (.i .i64 0), (.i .i64 0), (.i .i64 0), (.i .i64 0)]) v88) <|
 chkM (ckR (ld false 1 v86) v87) <|
 optM (bdR [(0, 1), (1, 1), (2, 1), (3, 1), (4, 1)] [(.i .i64 0), (.i .i64 0), (.i .i64 0), (.i .i64 0), (.i .i64 0)] [(0, (.i .i64 2)), (1, v89), (2, v87)]) fun v90 =>
 bindM (stR 5 v88 v90) fun v91 =>
 lrM (
 optM (faR 1 v79) fun v92 =>
 rdM (ld false 1 v92) fun v93 =>
 optM (faR 2 v79) fun v94 =>
 rdM (ld false 1 v94) fun v95 =>
 optM (binR .add .o none v93 v95) fun v96 =>
 optM (binR .lss .o none v96 v78) fun v97 =>
 iteM (some v97) (
 optM (faR 0 v88) fun v98 =>
 bindM (stR 1 v98 (.i .i64 3)) fun v99 =>
 optM (faR 4 v88) fun v100 =>
 bindM (stR 1 v100 v96) fun v101 =>
 pureM (.nx [v75, v76, v77, v78, v88, v80, v81, v82])
 ) (
 pureM (.nx [v75, v76, v77, v78, v88, v80, v81, v82])
 )
 )
 (fun vs =>
 unc vs fun v102 vs =>
 unc vs fun v103 vs =>
 unc vs fun v104 vs =>
 unc vs fun v105 vs =>
 unc vs fun v106 vs =>
 unc vs fun v107 vs =>
 unc vs fun v108 vs =>
 unc vs fun v109 vs =>
 unn vs <|
 rdM (ld true 5 v106) fun v110 =>
 alM (bsR 1 5 (zeros [(.i .i64 0), (.i .i64 0), (.i .i64 0), (.i .i64 0), (.i .i64 0)] 5) [(0, v110)]) fun v111 =>
 bindM (apR 136 5 40 (srL 5 v111) v104) fun v112 =>
 optM (binR .add .o none v109 (.i .i64 1)) fun v113 =>
 pureM (.nx [v102, v103, v112, v105, v107, v108, v113])
 )
 (fun id vs =>
 failM)
 (fun vs =>
 unc vs fun v114 vs =>
 unc vs fun v115 vs =>
 unn vs <|
 pureM (.rt [v114, v115])
 )
 ) <|
 failM)
 (fun vs =>
 unc vs fun v116 vs =>
 unc vs fun v117 vs =>
 unn vs <|
 pureM (.rt [v116, v117])
 )
 ) (
 pureM (.ex 0 [v36])
 )
 ) [a1, v1, .ns, v31, v32, v33, (.i .i64 0)])
 (fun vs =>
 failM)
 (fun id vs =>
 cond (Nat.beq id 0) (
 unc vs fun v118 vs =>
 unn vs <|
 pureM (.t [v118, (.i .i64 0)])
 ) <|
 failM)
 (fun vs =>
 unc vs fun v119 vs =>
 unc vs fun v120 vs =>
 unn vs <|
 pureM (.t [v119, v120])
 )
 )
 )
def an_plan_Write : An := (.two .n (.two (.two .n (.two (.two .n .n) .n)) (.two (.two .n (.two (.two .n .n) .n)) (.two .n (.two .n (.two (.two .n (.one (.loop [1, 4, 10, 11, 60, 61, 62] [(0, [10])] [8, 9] (.two .n (.two (.two .n .n) (.two (.one (.two .n (.two .n (.two (.two .n (.one (.loop [1, 4, 10, 11, 13, 14, 15, 60, 61, 62] [(2, [1, 4, 10, 11, 13, 60, 61, 62])] [8, 9] (.two (.two .n (.two .n .n)) (.two (.one (.two .n .n)) .n))))) (.two .n (.two (.cut [1, 4, 10, 11, 19, 60, 61, 62] [] [8, 9] (.two .n (.two .n (.two .n .n)))) .n)))))) .n)))))) (.two .n .n)))))))

/-- (corbel/stripe.Row).Full -/
def tab_stripe_Row_Full (N : Nat) (Φ : Calls') : Calls' := fun f => Φ f
def F_stripe_Row_Full (N : Nat) (Φ : Calls') : List V → M V := fun args =>
 unc args fun a0 args =>
 unn args <|
 alM (boxR a0) fun v1 =>
 optM (faR 1 v1) fun v2 =>
 rdM (ld false 1 v2) fun v3 =>
 optM (lnL v3) fun v4 =>
 optM (faR 0 v1) fun v5 =>
 rdM (ld false 1 v5) fun v6 =>
 optM (binR .eql .o none v4 v6) fun v7 =>
 pureM v7
def an_stripe_Row_Full : An := (.two .n (.two .n .n))

/-- slices.Clone[[]string,string] -/
def tab_slices_Clone_string_string (N : Nat) (Φ : Calls') : Calls' := fun f => Φ f
def F_slices_Clone_string_string (N : Nat) (Φ : Calls') : List V → M V := fun args =>
 unc args fun a0 args =>
 unn args <|
 optM (binR .eql .l none a0 .ns) fun v1 =>
 iteM (some v1) (
 pureM .ns
 ) (
 alM (bs0 1) fun v2 =>
 bindM (apR 9 1 16 (srL 1 a0) v2) fun v3 =>
 pureM v3
 )
def an_slices_Clone_string_string : An := (.two .n (.two (.two .n (.two (.two .n .n) .n)) (.two .n .n)))

/-- (corbel/stripe.Row).Add -/
def tab_stripe_Row_Add (N : Nat) (Φ : Calls') : Calls' := fun f => cond (Nat.beq f id_stripe_Row_Full) (some (F_stripe_Row_Full N Φ)) (cond (Nat.beq f id_slices_Clone_string_string) (some (F_slices_Clone_string_string N Φ)) (Φ f))
def F_stripe_Row_Add (N : Nat) (Φ : Calls') : List V → M V := fun args =>
 unc args fun a0 args =>
 unc args fun a1 args =>
 unn args <|
 alM (boxR a0) fun v1 =>
 alM (alR 139 [(.i .i64 0), .ns]) fun v2 =>
 optM (lnS a1) fun v3 =>
 optM (binR .neq .o none v3 (.i .i64 64)) fun v4 =>
 iteM (some v4) (
 optM (bdR [(0, 1), (1, 1)] [(.i .i64 0), .ns] []) fun v5 =>
 bindM (stR 2 v2 v5) fun v6 =>
 rdM (ld true 2 v2) fun v7 =>
 pureM (.t [v7, (.i .i64 1)])
 ) (
 rdM (ld true 2 v1) fun v8 =>
 bindM (F_stripe_Row_Full N Φ [v8]) fun v9 =>
 iteM (some v9) (
 optM (bdR [(0, 1), (1, 1)] [(.i .i64 0), .ns] []) fun v10 =>
 bindM (stR 2 v2 v10) fun v11 =>
 rdM (ld true 2 v2) fun v12 =>
 pureM (.t [v12, (.i .i64 4)])
 ) (
 optM (faR 1 v1) fun v13 =>
 rdM (ld false 1 v13) fun v14 =>
 bindM (F_slices_Clone_string_string N Φ [v14]) fun v15 =>
 alM (bsR 1 1 (zeros [(.s [])] 1) [(0, a1)]) fun v16 =>
 bindM (apR 9 1 16 (srL 1 v16) v15) fun v17 =>
 optM (faR 1 v1) fun v18 =>
 bindM (stR 1 v18 v17) fun v19 =>
 rdM (ld true 2 v1) fun v20 =>
 bindM (stR 2 v2 v20) fun v21 =>
 rdM (ld true 2 v2) fun v22 =>
 pureM (.t [v22, (.i .i64 0)])
 )
 )
def an_stripe_Row_Add : An := (.two .n (.two (.one (.two .n (.two (.two .n .n) (.two .n (.two (.two .n .n) .n))))) (.two .n (.two .n .n))))

/-- (*corbel/array.Array).met -/
def tab_array_Array_met (N : Nat) (Φ : Calls') : Calls' := fun f => Φ f
def F_array_Array_met (N : Nat) (Φ : Calls') : List V → M V := fun args =>
 unc args fun a0 args =>
 unc args fun a1 args =>
 unc args fun a2 args =>
 unn args <|
 optM (binR .eql .o none a2 (.i .i64 6)) fun v1 =>
 iteM (some v1) (
 optM (nilR a0) fun v2 =>
 optM (faR 17 v2) fun v3 =>
 bindM (stR 1 v3 (.b true)) fun v4 =>
 pureM a2
 ) (
 optM (binR .neq .o none a2 (.i .i64 7)) fun v5 =>
 iteM (some v5) (
 pureM a2
 ) (
 optM (nilR a0) fun v6 =>
 optM (faR 15 v6) fun v7 =>
 rdM (ld false 1 v7) fun v8 =>
 optM (binR .geq .o none v8 (.i .i64 0)) fun v9 =>
 bindM (gdM (boolV (some v9)) true (pM (some a0))) fun v10 =>
 bindM (gdM (boolV (some v9)) true (pM (nilR v10))) fun v11 =>
 bindM (gdM (boolV (some v9)) true (pM (faR 15 v11))) fun v12 =>
 bindM (gdM (boolV (some v9)) true (rM (ld false 1 v12))) fun v13 =>
 bindM (gdM (boolV (some v9)) true (pM (some a1))) fun v14 =>
 bindM (gdM (boolV (some v9)) true (pM (binR .neq .o none v13 v14))) fun v15 =>
 optM (pickR v9 v15 (.b false)) fun v16 =>
 bindM (gdM (boolV (some v16)) false (pM (some a0))) fun v17 =>
 bindM (gdM (boolV (some v16)) false (pM (nilR v17))) fun v18 =>
 bindM (gdM (boolV (some v16)) false (pM (faR 6 v18))) fun v19 =>
 bindM (gdM (boolV (some v16)) false (pM (faR 3 v19))) fun v20 =>
 bindM (gdM (boolV (some v16)) false (rM (ld false 1 v20))) fun v21 =>
 bindM (gdM (boolV (some v16)) false (pM (binR .geq .o none v21 (.i .i64 0)))) fun v22 =>
 bindM (gdM (boolV (some v16)) false (pM (some v22))) fun v23 =>
 bindM (gdM (boolV (some v23)) true (pM (some a0))) fun v24 =>
 bindM (gdM (boolV (some v23)) true (pM (nilR v24))) fun v25 =>
 bindM (gdM (boolV (some v23)) true (pM (faR 6 v25))) fun v26 =>
 bindM (gdM (boolV (some v23)) true (pM (faR 3 v26))) fun v27 =>
 bindM (gdM (boolV (some v23)) true (rM (ld false 1 v27))) fun v28 =>
 bindM (gdM (boolV (some v23)) true (pM (some a1))) fun v29 =>
 bindM (gdM (boolV (some v23)) true (pM (binR .neq .o none v28 v29))) fun v30 =>
 bindM (gdM (boolV (some v16)) false (pM (pickR v23 v30 (.b false)))) fun v31 =>
 optM (pickR v16 (.b true) v31) fun v32 =>
 iteM (some v32) (
 optM (nilR a0) fun v33 =>
 optM (faR 15 v33) fun v34 =>
 bindM (stR 1 v34 a1) fun v35 =>
 optM (nilR a0) fun v36 =>
 optM (faR 16 v36) fun v37 =>
 bindM (stR 1 v37 (.b true)) fun v38 =>
 pureM (.i .i64 8)
 ) (
 optM (nilR a0) fun v39 =>
 optM (faR 15 v39) fun v40 =>
 bindM (stR 1 v40 a1) fun v41 =>
 pureM (.i .i64 0)
 )
 )
 )
def an_array_Array_met : An := (.two .n (.two (.one (.two .n (.two .n (.two .n (.two (.two .n .n) (.two .n (.two (.two .n (.two .n .n)) (.two .n (.two .n .n))))))))) (.two .n .n)))

/-- (*corbel/rig.Rig).at -/
def tab_rig_Rig_at (N : Nat) (Φ : Calls') : Calls' := fun f => Φ f
def F_rig_Rig_at (N : Nat) (Φ : Calls') : List V → M V := fun args =>
 unc args fun a0 args =>
 unc args fun a1 args =>
 unn args <|
 optM (binR .eql .p none a0 .pn) fun v1 =>
 bindM (gdM (boolV (some v1)) false (pM (some a1))) fun v2 =>
 bindM (gdM (boolV (some v1)) false (pM (binR .lss .o none v2 (.i .i64 0)))) fun v3 =>
 optM (pickR v1 (.b true) v3) fun v4 =>
 bindM (gdM (boolV (some v4)) false (pM (some a1))) fun v5 =>
 bindM (gdM (boolV (some v4)) false (pM (some a0))) fun v6 =>
 bindM (gdM (boolV (some v4)) false (pM (nilR v6))) fun v7 =>
 bindM (gdM (boolV (some v4)) false (pM (faR 0 v7))) fun v8 =>
 bindM (gdM (boolV (some v4)) false (rM (ld false 1 v8))) fun v9 =>
 bindM (gdM (boolV (some v4)) false (pM (lnL v9))) fun v10 =>
 bindM (gdM (boolV (some v4)) false (pM (binR .geq .o none v5 v10))) fun v11 =>
 optM (pickR v4 (.b true) v11) fun v12 =>
 iteM (some v12) (
 pureM .pn
 ) (
 optM (nilR a0) fun v13 =>
 optM (faR 0 v13) fun v14 =>
 rdM (ld false 1 v14) fun v15 =>
 optM (iaL 1 v15 a1) fun v16 =>
 rdM (ld false 1 v16) fun v17 =>
 pureM v17
 )
def an_rig_Rig_at : An := (.two .n (.two (.two .n (.two (.two .n .n) .n)) (.two .n .n)))

/-- (*corbel/drive.Drive).Dead -/
def tab_drive_Drive_Dead (N : Nat) (Φ : Calls') : Calls' := fun f => Φ f
def F_drive_Drive_Dead (N : Nat) (Φ : Calls') : List V → M V := fun args =>
 unc args fun a0 args =>
 unn args <|
 optM (binR .neq .p none a0 .pn) fun v1 =>
 bindM (gdM (boolV (some v1)) true (pM (some a0))) fun v2 =>
 bindM (gdM (boolV (some v1)) true (pM (nilR v2))) fun v3 =>
 bindM (gdM (boolV (some v1)) true (pM (faR 3 v3))) fun v4 =>
 bindM (gdM (boolV (some v1)) true (rM (ld false 1 v4))) fun v5 =>
 optM (pickR v1 v5 (.b false)) fun v6 =>
 pureM v6
def an_drive_Drive_Dead : An := (.two .n (.two .n .n))

/-- slices.Clone[[]int,int] -/
def tab_slices_Clone_int_int (N : Nat) (Φ : Calls') : Calls' := fun f => Φ f
def F_slices_Clone_int_int (N : Nat) (Φ : Calls') : List V → M V := fun args =>
 unc args fun a0 args =>
 unn args <|
 optM (binR .eql .l none a0 .ns) fun v1 =>
 iteM (some v1) (
 pureM .ns
 ) (
 alM (bs0 1) fun v2 =>
 bindM (apR 3 1 8 (srL 1 a0) v2) fun v3 =>
 pureM v3
 )
def an_slices_Clone_int_int : An := (.two .n (.two (.two .n (.two (.two .n .n) .n)) (.two .n .n)))

/-- (*corbel/zone.Machine).Lost -/
def tab_zone_Machine_Lost (N : Nat) (Φ : Calls') : Calls' := fun f => cond (Nat.beq f id_zone_rest) (some (F_zone_rest N Φ)) (Φ f)
def F_zone_Machine_Lost (N : Nat) (Φ : Calls') : List V → M V := fun args =>
 unc args fun a0 args =>
 unc args fun a1 args =>
 unn args <|
 optM (binR .eql .p none a0 .pn) fun v1 =>
 iteM (some v1) (
 pureM (.t [])
 ) (
 optM (nilR a0) fun v2 =>
 optM (faR 0 v2) fun v3 =>
 rdM (ld false 1 v3) fun v4 =>
 optM (lnL v4) fun v5 =>
 lrM (
 loopM N (fun vs =>
 unc vs fun v6 vs =>
 unc vs fun v7 vs =>
 unc vs fun v8 vs =>
 unc vs fun v9 vs =>
 unn vs <|
 optM (binR .lss .o none v9 v8) fun v10 =>
 iteM (some v10) (
 lrM (
 optM (nilR v6) fun v11 =>
 optM (faR 0 v11) fun v12 =>
 rdM (ld false 1 v12) fun v13 =>
 optM (iaL 2 v13 v9) fun v14 =>
 optM (lnL v7) fun v15 =>
 optM (binR .lss .o none v9 v15) fun v16 =>
 bindM (gdM (boolV (some v16)) true (pM (some v7))) fun v17 =>
 bindM (gdM (boolV (some v16)) true (pM (some v9))) fun v18 =>
 bindM (gdM (boolV (some v16)) true (pM (iaL 1 v17 v18))) fun v19 =>
 bindM (gdM (boolV (some v16)) true (rM (ld false 1 v19))) fun v20 =>
 bindM (gdM (boolV (some v16)) true (pM (binR .geq .o none v20 (.i .i64 0)))) fun v21 =>
 optM (pickR v16 v21 (.b false)) fun v22 =>
 bindM (gdM (boolV (some v22)) true (pM (some v7))) fun v23 =>
 bindM (gdM (boolV (some v22)) true (pM (some v9))) fun v24 =>
 bindM (gdM (boolV (some v22)) true (pM (iaL 1 v23 v24))) fun v25 =>
 bindM (gdM (boolV (some v22)) true (rM (ld false 1 v25))) fun v26 =>
 bindM (gdM (boolV (some v22)) true (pM (some v14))) fun v27 =>
 bindM (gdM (boolV (some v22)) true (pM (nilR v27))) fun v28 =>
 bindM (gdM (boolV (some v22)) true (pM (faR 1 v28))) fun v29 =>
 bindM (gdM (boolV (some v22)) true (rM (ld false 1 v29))) fun v30 =>
 bindM (gdM (boolV (some v22)) true (pM (binR .lss .o none v26 v30))) fun v31 =>
 optM (pickR v22 v31 (.b false)) fun v32 =>
 lrM (
 iteM (some v32) (
 optM (iaL 1 v7 v9) fun v33 =>
 rdM (ld false 1 v33) fun v34 =>
 optM (nilR v14) fun v35 =>
 optM (faR 1 v35) fun v36 =>
 bindM (stR 1 v36 v34) fun v37 =>
 pureM (.nx [v6, v7, v14, v32, v8, v9])
 ) (
 pureM (.nx [v6, v7, v14, v32, v8, v9])
 )
 )
 (fun vs =>
 unc vs fun v38 vs =>
 unc vs fun v39 vs =>
 unc vs fun v40 vs =>
 unc vs fun v41 vs =>
 unc vs fun v42 vs =>
 unc vs fun v43 vs =>
 unn vs <|
 optM (nilR v40) fun v44 =>
 optM (faR 0 v44) fun v45 =>
 rdM (ld false 1 v45) fun v46 =>
 optM (binR .neq .o none v46 (.i .i64 4)) fun v47 =>
 bindM (gdM (boolV (some v47)) false (pM (some v41))) fun v48 =>
 optM (pickR v47 (.b true) v48) fun v49 =>
 iteM (some v49) (
 optM (nilR v40) fun v50 =>
 optM (faR 1 v50) fun v51 =>
 rdM (ld false 1 v51) fun v52 =>
 bindM (F_zone_rest N Φ [v52]) fun v53 =>
 optM (nilR v40) fun v54 =>
 optM (faR 0 v54) fun v55 =>
 bindM (stR 1 v55 v53) fun v56 =>
 pureM (.nx [v38, v39, v42, v43])
 ) (
 pureM (.nx [v38, v39, v42, v43])
 )
 )
 (fun id vs =>
 failM)
 (fun vs =>
 unn vs <|
 pureM (.rt [])
 )
 )
 (fun vs =>
 unc vs fun v57 vs =>
 unc vs fun v58 vs =>
 unc vs fun v59 vs =>
 unc vs fun v60 vs =>
 unn vs <|
 optM (binR .add .o none v60 (.i .i64 1)) fun v61 =>
 pureM (.nx [v57, v58, v59, v61])
 )
 (fun id vs =>
 failM)
 (fun vs =>
 unn vs <|
 pureM (.rt [])
 )
 ) (
 pureM (.ex 0 [])
 )
 ) [a0, a1, v5, (.i .i64 0)])
 (fun vs =>
 failM)
 (fun id vs =>
 cond (Nat.beq id 0) (
 unn vs <|
 pureM (.t [])
 ) <|
 failM)
 (fun vs =>
 unn vs <|
 pureM (.t [])
 )
 )
def an_zone_Machine_Lost : An := (.two (.two .n (.two .n .n)) (.two .n (.one (.loop [0, 1, 13, 14] [(0, [])] [] (.two .n (.two (.two .n .n) (.two (.cut [0, 1, 13, 14] [] [] (.one (.two .n (.two .n (.two .n (.two (.cut [0, 1, 5, 6, 13, 14] [] [] (.two .n (.two .n .n))) (.two .n (.two .n .n)))))))) .n)))))))

/-- (*corbel/drive.Drive).length -/
def tab_drive_Drive_length (N : Nat) (Φ : Calls') : Calls' := fun f => Φ f
def F_drive_Drive_length (N : Nat) (Φ : Calls') : List V → M V := fun args =>
 unc args fun a0 args =>
 unc args fun a1 args =>
 unn args <|
 optM (nilR a0) fun v1 =>
 optM (faR 1 v1) fun v2 =>
 rdM (ld false 1 v2) fun v3 =>
 optM (iaL 1 v3 a1) fun v4 =>
 rdM (ld false 1 v4) fun v5 =>
 optM (lnL v5) fun v6 =>
 optM (binR .quo .o none v6 (.i .i64 64)) fun v7 =>
 pureM v7
def an_drive_Drive_length : An := (.two .n (.two .n .n))

/-- corbel/drive.rest -/
def tab_drive_rest (N : Nat) (Φ : Calls') : Calls' := fun f => Φ f
def F_drive_rest (N : Nat) (Φ : Calls') : List V → M V := fun args =>
 unc args fun a0 args =>
 unc args fun a1 args =>
 unn args <|
 lrM (
 optM (binR .lss .o none a0 (.i .i64 0)) fun v1 =>
 iteM (some v1) (
 optM (binR .add .o none a0 (.i .i64 1)) fun v2 =>
 optM (unV .neg v2) fun v3 =>
 pureM (.nx [v3, a1])
 ) (
 pureM (.nx [a0, a1])
 )
 )
 (fun vs =>
 unc vs fun v4 vs =>
 unc vs fun v5 vs =>
 unn vs <|
 optM (binR .rem .o none v4 v5) fun v6 =>
 pureM v6
 )
 (fun id vs =>
 failM)
 (fun vs =>
 unc vs fun v7 vs =>
 unn vs <|
 pureM v7
 )
def an_drive_rest : An := (.two .n (.two (.cut [0, 1] [] [4] (.two .n (.two .n .n))) (.two .n .n)))

/-- (*corbel/drive.Drive).Lose -/
def tab_drive_Drive_Lose (N : Nat) (Φ : Calls') : Calls' := fun f => cond (Nat.beq f id_zone_Machine_Lost) (some (F_zone_Machine_Lost N Φ)) (cond (Nat.beq f id_drive_Drive_length) (some (F_drive_Drive_length N Φ)) (cond (Nat.beq f id_drive_rest) (some (F_drive_rest N Φ)) (Φ f)))
def F_drive_Drive_Lose (N : Nat) (Φ : Calls') : List V → M V := fun args =>
 unc args fun a0 args =>
 unc args fun a1 args =>
 unn args <|
 optM (binR .eql .p none a0 .pn) fun v1 =>
 iteM (some v1) (
 pureM (.t [])
 ) (
 optM (nilR a0) fun v2 =>
 optM (faR 2 v2) fun v3 =>
 rdM (ld false 1 v3) fun v4 =>
 optM (lnL v4) fun v5 =>
 alM (mkR 1 8 [(.i .i64 0)] v5 v5) fun v6 =>
 optM (lnL v6) fun v7 =>
 lrM (
 loopM N (fun vs =>
 unc vs fun v8 vs =>
 unc vs fun v9 vs =>
 unc vs fun v10 vs =>
 unc vs fun v11 vs =>
 unc vs fun v12 vs =>
 unn vs <|
 optM (binR .lss .o none v12 v11) fun v13 =>
 iteM (some v13) (
 optM (nilR v8) fun v14 =>
 optM (faR 2 v14) fun v15 =>
 rdM (ld false 1 v15) fun v16 =>
 optM (iaL 1 v16 v12) fun v17 =>
 rdM (ld false 1 v17) fun v18 =>
 optM (iaL 1 v10 v12) fun v19 =>
 bindM (stR 1 v19 v18) fun v20 =>
 lrM (
 optM (lnL v9) fun v21 =>
 optM (binR .gtr .o none v21 (.i .i64 0)) fun v22 =>
 iteM (some v22) (
 optM (iaL 1 v10 v12) fun v23 =>
 rdM (ld false 1 v23) fun v24 =>
 optM (lnL v9) fun v25 =>
 optM (binR .rem .o none v12 v25) fun v26 =>
 optM (iaL 1 v9 v26) fun v27 =>
 rdM (ld false 1 v27) fun v28 =>
 optM (nilR v8) fun v29 =>
 optM (faR 2 v29) fun v30 =>
 rdM (ld false 1 v30) fun v31 =>
 optM (iaL 1 v31 v12) fun v32 =>
 rdM (ld false 1 v32) fun v33 =>
 bindM (F_drive_Drive_length N Φ [v8, v12]) fun v34 =>
 chkM (ckR (ld false 1 v32) v33) <|
 chkM (ckR (ld false 1 v30) v31) <|
 chkM (ckR (ld false 1 v27) v28) <|
 chkM (ckR (ld false 1 v23) v24) <|
 optM (binR .sub .o none v34 v33) fun v35 =>
 optM (binR .add .o none v35 (.i .i64 1)) fun v36 =>
 bindM (F_drive_rest N Φ [v28, v36]) fun v37 =>
 chkM (ckR (ld false 1 v23) v24) <|
 optM (binR .add .o none v24 v37) fun v38 =>
 optM (iaL 1 v10 v12) fun v39 =>
 bindM (stR 1 v39 v38) fun v40 =>
 pureM (.nx [v8, v9, v10, v12, v11, v12])
 ) (
 pureM (.nx [v8, v9, v10, v12, v11, v12])
 )
 )
 (fun vs =>
 unc vs fun v41 vs =>
 unc vs fun v42 vs =>
 unc vs fun v43 vs =>
 unc vs fun v44 vs =>
 unc vs fun v45 vs =>
 unc vs fun v46 vs =>
 unn vs <|
 optM (nilR v41) fun v47 =>
 optM (faR 1 v47) fun v48 =>
 rdM (ld false 1 v48) fun v49 =>
 optM (nilR v41) fun v50 =>
 optM (faR 1 v50) fun v51 =>
 rdM (ld false 1 v51) fun v52 =>
 optM (iaL 1 v52 v44) fun v53 =>
 rdM (ld false 1 v53) fun v54 =>
 optM (iaL 1 v43 v44) fun v55 =>
 rdM (ld false 1 v55) fun v56 =>
 optM (binR .mul .o none v56 (.i .i64 64)) fun v57 =>
 optM (slL 1 v54 none (some v57) none) fun v58 =>
 optM (iaL 1 v49 v44) fun v59 =>
 bindM (stR 1 v59 v58) fun v60 =>
 optM (nilR v41) fun v61 =>
 optM (faR 2 v61) fun v62 =>
 rdM (ld false 1 v62) fun v63 =>
 optM (iaL 1 v43 v44) fun v64 =>
 rdM (ld false 1 v64) fun v65 =>
 optM (iaL 1 v63 v44) fun v66 =>
 bindM (stR 1 v66 v65) fun v67 =>
 optM (binR .add .o none v46 (.i .i64 1)) fun v68 =>
 pureM (.nx [v41, v42, v43, v45, v68])
 )
 (fun id vs =>
 failM)
 (fun vs =>
 unn vs <|
 pureM (.rt [])
 )
 ) (
 pureM (.ex 0 [v8, v10])
 )
 ) [a0, a1, v6, v7, (.i .i64 0)])
 (fun vs =>
 failM)
 (fun id vs =>
 cond (Nat.beq id 0) (
 unc vs fun v69 vs =>
 unc vs fun v70 vs =>
 unn vs <|
 optM (nilR v69) fun v71 =>
 optM (faR 0 v71) fun v72 =>
 rdM (ld false 1 v72) fun v73 =>
 bindM (F_zone_Machine_Lost N Φ [v73, v70]) fun v74 =>
 pureM (.t [])
 ) <|
 failM)
 (fun vs =>
 unn vs <|
 pureM (.t [])
 )
 )
def an_drive_Drive_Lose : An := (.two (.two .n (.two .n .n)) (.two .n (.two (.two .n (.one (.loop [0, 1, 4, 15, 16] [(0, [0, 4])] [] (.two .n (.two (.two .n .n) (.two (.one (.two .n (.two .n (.two (.cut [0, 1, 4, 5, 15, 16] [] [] (.two .n (.two .n .n))) (.two .n .n))))) .n)))))) .n)))

/-- (*corbel/rig.Rig).fail -/
def tab_rig_Rig_fail (N : Nat) (Φ : Calls') : Calls' := fun f => cond (Nat.beq f id_slices_Clone_int_int) (some (F_slices_Clone_int_int N Φ)) (cond (Nat.beq f id_drive_Drive_Lose) (some (F_drive_Drive_Lose N Φ)) (Φ f))
def F_rig_Rig_fail (N : Nat) (Φ : Calls') : List V → M V := fun args =>
 unc args fun a0 args =>
 unc args fun a1 args =>
 unn args <|
 optM (nilR a0) fun v1 =>
 optM (faR 0 v1) fun v2 =>
 rdM (ld false 1 v2) fun v3 =>
 optM (lnL v3) fun v4 =>
 lrM (
 loopM N (fun vs =>
 unc vs fun v5 vs =>
 unc vs fun v6 vs =>
 unc vs fun v7 vs =>
 unc vs fun v8 vs =>
 unc vs fun v9 vs =>
 unn vs <|
 optM (binR .lss .o none v9 v8) fun v10 =>
 iteM (some v10) (
 optM (iaL 1 v7 v9) fun v11 =>
 rdM (ld false 1 v11) fun v12 =>
 lrM (
 optM (lnL v6) fun v13 =>
 optM (binR .gtr .o none v13 (.i .i64 0)) fun v14 =>
 iteM (some v14) (
 optM (lnL v6) fun v15 =>
 optM (binR .rem .o none v9 v15) fun v16 =>
 optM (slL 1 v6 (some v16) none none) fun v17 =>
 optM (slL 1 v6 none (some v16) none) fun v18 =>
 bindM (F_slices_Clone_int_int N Φ [v17]) fun v19 =>
 bindM (apR 3 1 8 (srL 1 v18) v19) fun v20 =>
 pureM (.nx [v5, v6, v12, v20, v7, v8, v9])
 ) (
 pureM (.nx [v5, v6, v12, v6, v7, v8, v9])
 )
 )
 (fun vs =>
 unc vs fun v21 vs =>
 unc vs fun v22 vs =>
 unc vs fun v23 vs =>
 unc vs fun v24 vs =>
 unc vs fun v25 vs =>
 unc vs fun v26 vs =>
 unc vs fun v27 vs =>
 unn vs <|
 bindM (F_drive_Drive_Lose N Φ [v23, v24]) fun v28 =>
 optM (binR .add .o none v27 (.i .i64 1)) fun v29 =>
 pureM (.nx [v21, v22, v25, v26, v29])
 )
 (fun id vs =>
 failM)
 (fun vs =>
 unn vs <|
 pureM (.rt [])
 )
 ) (
 pureM (.ex 0 [v5])
 )
 ) [a0, a1, v3, v4, (.i .i64 0)])
 (fun vs =>
 failM)
 (fun id vs =>
 cond (Nat.beq id 0) (
 unc vs fun v30 vs =>
 unn vs <|
 optM (nilR v30) fun v31 =>
 optM (faR 3 v31) fun v32 =>
 bindM (stR 1 v32 (.b true)) fun v33 =>
 optM (nilR v30) fun v34 =>
 optM (faR 2 v34) fun v35 =>
 bindM (stR 1 v35 .pn) fun v36 =>
 pureM (.t [])
 ) <|
 failM)
 (fun vs =>
 unn vs <|
 pureM (.t [])
 )
def an_rig_Rig_fail : An := (.two (.two .n (.one (.loop [0, 1, 11, 12, 13] [(0, [0])] [] (.two .n (.two (.two .n .n) (.two (.one (.two .n (.two .n (.two (.cut [0, 1, 5, 6, 11, 12, 13] [] [] (.two .n (.two (.two .n .n) .n))) .n)))) .n)))))) .n)

/-- (*corbel/rig.Rig).step -/
def tab_rig_Rig_step (N : Nat) (Φ : Calls') : Calls' := fun f => cond (Nat.beq f id_rig_Rig_fail) (some (F_rig_Rig_fail N Φ)) (Φ f)
def F_rig_Rig_step (N : Nat) (Φ : Calls') : List V → M V := fun args =>
 unc args fun a0 args =>
 unn args <|
 lrM (
 optM (nilR a0) fun v1 =>
 optM (faR 2 v1) fun v2 =>
 rdM (ld false 1 v2) fun v3 =>
 optM (binR .neq .p none v3 .pn) fun v4 =>
 iteM (some v4) (
 optM (nilR a0) fun v5 =>
 optM (faR 2 v5) fun v6 =>
 rdM (ld false 1 v6) fun v7 =>
 optM (nilR v7) fun v8 =>
 optM (faR 0 v8) fun v9 =>
 rdM (ld false 1 v9) fun v10 =>
 optM (binR .sub .o none v10 (.i .i64 1)) fun v11 =>
 optM (nilR v7) fun v12 =>
 optM (faR 0 v12) fun v13 =>
 bindM (stR 1 v13 v11) fun v14 =>
 optM (nilR a0) fun v15 =>
 optM (faR 2 v15) fun v16 =>
 rdM (ld false 1 v16) fun v17 =>
 optM (nilR v17) fun v18 =>
 optM (faR 0 v18) fun v19 =>
 rdM (ld false 1 v19) fun v20 =>
 optM (binR .eql .o none v20 (.i .i64 0)) fun v21 =>
 iteM (some v21) (
 optM (nilR a0) fun v22 =>
 optM (faR 2 v22) fun v23 =>
 rdM (ld false 1 v23) fun v24 =>
 optM (nilR v24) fun v25 =>
 optM (faR 1 v25) fun v26 =>
 rdM (ld false 1 v26) fun v27 =>
 bindM (F_rig_Rig_fail N Φ [a0, v27]) fun v28 =>
 pureM (.rt [(.i .i64 6)])
 ) (
 pureM (.nx [a0])
 )
 ) (
 pureM (.nx [a0])
 )
 )
 (fun vs =>
 unc vs fun v29 vs =>
 unn vs <|
 optM (nilR v29) fun v30 =>
 optM (faR 4 v30) fun v31 =>
 rdM (ld false 1 v31) fun v32 =>
 optM (binR .add .o none v32 (.i .i64 1)) fun v33 =>
 optM (nilR v29) fun v34 =>
 optM (faR 4 v34) fun v35 =>
 bindM (stR 1 v35 v33) fun v36 =>
 pureM (.i .i64 0)
 )
 (fun id vs =>
 failM)
 (fun vs =>
 unc vs fun v37 vs =>
 unn vs <|
 pureM v37
 )
def an_rig_Rig_step : An := (.two .n (.two (.cut [0] [] [2] (.two .n (.two (.two .n (.two .n (.two (.two .n (.two .n .n)) .n))) .n))) (.two .n (.two .n .n))))

/-- (*corbel/rig.Rig).reach -/
def tab_rig_Rig_reach (N : Nat) (Φ : Calls') : Calls' := fun f => cond (Nat.beq f id_rig_Rig_at) (some (F_rig_Rig_at N Φ)) (cond (Nat.beq f id_drive_Drive_Dead) (some (F_drive_Drive_Dead N Φ)) (cond (Nat.beq f id_rig_Rig_step) (some (F_rig_Rig_step N Φ)) (Φ f)))
def F_rig_Rig_reach (N : Nat) (Φ : Calls') : List V → M V := fun args =>
 unc args fun a0 args =>
 unc args fun a1 args =>
 unc args fun a2 args =>
 unn args <|
 bindM (F_rig_Rig_at N Φ [a0, a1]) fun v1 =>
 optM (binR .eql .p none v1 .pn) fun v2 =>
 iteM (some v2) (
 pureM (.t [.pn, (.i .i64 1)])
 ) (
 optM (nilR a0) fun v3 =>
 optM (faR 3 v3) fun v4 =>
 rdM (ld false 1 v4) fun v5 =>
 iteM (some v5) (
 pureM (.t [.pn, (.i .i64 6)])
 ) (
 bindM (F_drive_Drive_Dead N Φ [v1]) fun v6 =>
 iteM (some v6) (
 pureM (.t [.pn, (.i .i64 7)])
 ) (
 iteM (some a2) (
 bindM (F_rig_Rig_step N Φ [a0]) fun v7 =>
 pureM (.t [v1, v7])
 ) (
 pureM (.t [v1, (.i .i64 0)])
 )
 )
 )
 )
def an_rig_Rig_reach : An := (.two .n (.two .n (.two (.one (.two .n (.two (.two .n .n) (.two .n (.two (.two .n .n) (.two .n (.two (.two .n .n) (.two .n (.two (.two .n .n) .n))))))))) (.two .n .n))))

/-- (*corbel/drive.Drive).alive -/
def tab_drive_Drive_alive (N : Nat) (Φ : Calls') : Calls' := fun f => Φ f
def F_drive_Drive_alive (N : Nat) (Φ : Calls') : List V → M V := fun args =>
 unc args fun a0 args =>
 unn args <|
 optM (binR .eql .p none a0 .pn) fun v1 =>
 iteM (some v1) (
 pureM (.i .i64 1)
 ) (
 optM (nilR a0) fun v2 =>
 optM (faR 3 v2) fun v3 =>
 rdM (ld false 1 v3) fun v4 =>
 iteM (some v4) (
 pureM (.i .i64 7)
 ) (
 pureM (.i .i64 0)
 )
 )
def an_drive_Drive_alive : An := (.two .n (.two (.one (.two .n (.two (.two .n .n) (.two .n (.two (.two .n .n) .n))))) (.two .n .n)))

/-- corbel/drive.writes -/
def tab_drive_writes (N : Nat) (Φ : Calls') : Calls' := fun f => Φ f
def F_drive_writes (N : Nat) (Φ : Calls') : List V → M V := fun args =>
 unc args fun a0 args =>
 unn args <|
 alM (boxR a0) fun v1 =>
 optM (faR 0 v1) fun v2 =>
 rdM (ld false 1 v2) fun v3 =>
 optM (binR .eql .o none v3 (.i .i64 1)) fun v4 =>
 bindM (gdM (boolV (some v4)) false (pM (faR 0 v1))) fun v5 =>
 bindM (gdM (boolV (some v4)) false (rM (ld false 1 v5))) fun v6 =>
 bindM (gdM (boolV (some v4)) false (pM (binR .eql .o none v6 (.i .i64 2)))) fun v7 =>
 optM (pickR v4 (.b true) v7) fun v8 =>
 pureM v8
def an_drive_writes : An := (.two .n (.two .n .n))

/-- corbel/drive.fits -/
def tab_drive_fits (N : Nat) (Φ : Calls') : Calls' := fun f => cond (Nat.beq f id_drive_writes) (some (F_drive_writes N Φ)) (Φ f)
def F_drive_fits (N : Nat) (Φ : Calls') : List V → M V := fun args =>
 unc args fun a0 args =>
 unc args fun a1 args =>
 unn args <|
 alM (boxR a0) fun v1 =>
 rdM (ld true 4 v1) fun v2 =>
 bindM (F_drive_writes N Φ [v2]) fun v3 =>
 optM (unV .not v3) fun v4 =>
 bindM (gdM (boolV (some v4)) false (pM (faR 3 v1))) fun v5 =>
 bindM (gdM (boolV (some v4)) false (rM (ld false 1 v5))) fun v6 =>
 bindM (gdM (boolV (some v4)) false (pM (binR .lss .o none v6 (.i .i64 0)))) fun v7 =>
 optM (pickR v4 (.b true) v7) fun v8 =>
 iteM (some v8) (
 optM (binR .eql .o none a1 (.s [])) fun v9 =>
 pureM v9
 ) (
 optM (lnS a1) fun v10 =>
 optM (binR .rem .o none v10 (.i .i64 64)) fun v11 =>
 optM (binR .eql .o none v11 (.i .i64 0)) fun v12 =>
 bindM (gdM (boolV (some v12)) true (pM (some a1))) fun v13 =>
 bindM (gdM (boolV (some v12)) true (pM (lnS v13))) fun v14 =>
 bindM (gdM (boolV (some v12)) true (pM (binR .quo .o none v14 (.i .i64 64)))) fun v15 =>
 bindM (gdM (boolV (some v12)) true (pM (faR 3 v1))) fun v16 =>
 bindM (gdM (boolV (some v12)) true (rM (ld false 1 v16))) fun v17 =>
 bindM (gdM (boolV (some v12)) true (pM (binR .eql .o none v15 v17))) fun v18 =>
 optM (pickR v12 v18 (.b false)) fun v19 =>
 pureM v19
 )
def an_drive_fits : An := (.two .n (.two (.two .n (.two (.two .n .n) .n)) (.two .n .n)))

/-- (*corbel/drive.Drive).Do -/
def tab_drive_Drive_Do (N : Nat) (Φ : Calls') : Calls' := fun f => cond (Nat.beq f id_zone_Machine_Do) (some (F_zone_Machine_Do N Φ)) (cond (Nat.beq f id_drive_Drive_alive) (some (F_drive_Drive_alive N Φ)) (cond (Nat.beq f id_drive_Drive_length) (some (F_drive_Drive_length N Φ)) (cond (Nat.beq f id_drive_fits) (some (F_drive_fits N Φ)) (Φ f))))
def F_drive_Drive_Do (N : Nat) (Φ : Calls') : List V → M V := fun args =>
 unc args fun a0 args =>
 unc args fun a1 args =>
 unc args fun a2 args =>
 unn args <|
 alM (boxR a1) fun v1 =>
 bindM (F_drive_Drive_alive N Φ [a0]) fun v2 =>
 optM (binR .neq .o none v2 (.i .i64 0)) fun v3 =>
 iteM (some v3) (
 pureM (.t [(.s []), (.i .i64 0), v2])
 ) (
 rdM (ld true 4 v1) fun v4 =>
 bindM (F_drive_fits N Φ [v4, a2]) fun v5 =>
 optM (unV .not v5) fun v6 =>
 iteM (some v6) (
 pureM (.t [(.s []), (.i .i64 0), (.i .i64 1)])
 ) (
 optM (nilR a0) fun v7 =>
 optM (faR 0 v7) fun v8 =>
 rdM (ld false 1 v8) fun v9 =>
 rdM (ld true 4 v1) fun v10 =>
 bindM (F_zone_Machine_Do N Φ [v9, v10]) fun v11 =>
 optM (exR 0 v11) fun v12 =>
 optM (exR 1 v11) fun v13 =>
 optM (binR .neq .o none v13 (.i .i64 0)) fun v14 =>
 iteM (some v14) (
 pureM (.t [(.s []), (.i .i64 0), v13])
 ) (
 lrM (
 optM (faR 0 v1) fun v15 =>
 rdM (ld false 1 v15) fun v16 =>
 lrM (
 optM (binR .eql .o none v16 (.i .i64 1)) fun v17 =>
 iteM (some v17) (
 pureM (.nx [a0, a2, v1, v12, v16, v17])
 ) (
 optM (binR .eql .o none v16 (.i .i64 2)) fun v18 =>
 pureM (.nx [a0, a2, v1, v12, v16, v18])
 )
 )
 (fun vs =>
 unc vs fun v19 vs =>
 unc vs fun v20 vs =>
 unc vs fun v21 vs =>
 unc vs fun v22 vs =>
 unc vs fun v23 vs =>
 unc vs fun v24 vs =>
 unn vs <|
 iteM (some v24) (
 optM (nilR v19) fun v25 =>
 optM (faR 1 v25) fun v26 =>
 rdM (ld false 1 v26) fun v27 =>
 optM (faR 1 v21) fun v28 =>
 rdM (ld false 1 v28) fun v29 =>
 optM (nilR v19) fun v30 =>
 optM (faR 1 v30) fun v31 =>
 rdM (ld false 1 v31) fun v32 =>
 optM (faR 1 v21) fun v33 =>
 rdM (ld false 1 v33) fun v34 =>
 optM (iaL 1 v32 v34) fun v35 =>
 rdM (ld false 1 v35) fun v36 =>
 bindM (apR 5 1 1 (srS v20) v36) fun v37 =>
 chkM (ckR (ld false 1 v28) v29) <|
 chkM (ckR (ld false 1 v26) v27) <|
 optM (iaL 1 v27 v29) fun v38 =>
 bindM (stR 1 v38 v37) fun v39 =>
 pureM (.nx [v22])
 ) (
 optM (binR .eql .o none v23 (.i .i64 7)) fun v40 =>
 iteM (some v40) (
 optM (nilR v19) fun v41 =>
 optM (faR 1 v41) fun v42 =>
 rdM (ld false 1 v42) fun v43 =>
 optM (faR 1 v21) fun v44 =>
 rdM (ld false 1 v44) fun v45 =>
 optM (iaL 1 v43 v45) fun v46 =>
 rdM (ld false 1 v46) fun v47 =>
 optM (binR .mul .o none v22 (.i .i64 64)) fun v48 =>
 optM (faR 3 v21) fun v49 =>
 rdM (ld false 1 v49) fun v50 =>
 optM (binR .add .o none v22 v50) fun v51 =>
 optM (binR .mul .o none v51 (.i .i64 64)) fun v52 =>
 optM (slL 1 v47 (some v48) (some v52) none) fun v53 =>
 rdM (bytesV v53) fun v54 =>
 pureM (.rt [v54, v22, (.i .i64 0)])
 ) (
 optM (binR .eql .o none v23 (.i .i64 3)) fun v55 =>
 iteM (some v55) (
 optM (nilR v19) fun v56 =>
 optM (faR 1 v56) fun v57 =>
 rdM (ld false 1 v57) fun v58 =>
 optM (faR 1 v21) fun v59 =>
 rdM (ld false 1 v59) fun v60 =>
 optM (nilR v19) fun v61 =>
 optM (faR 2 v61) fun v62 =>
 rdM (ld false 1 v62) fun v63 =>
 optM (faR 1 v21) fun v64 =>
 rdM (ld false 1 v64) fun v65 =>
 optM (iaL 1 v58 v60) fun v66 =>
 bindM (stR 1 v66 .ns) fun v67 =>
 chkM (ckR (ld false 1 v64) v65) <|
 optM (iaL 1 v63 v65) fun v68 =>
 bindM (stR 1 v68 (.i .i64 0)) fun v69 =>
 pureM (.nx [v22])
 ) (
 optM (binR .eql .o none v23 (.i .i64 4)) fun v70 =>
 iteM (some v70) (
 optM (nilR v19) fun v71 =>
 optM (faR 2 v71) fun v72 =>
 rdM (ld false 1 v72) fun v73 =>
 optM (faR 1 v21) fun v74 =>
 rdM (ld false 1 v74) fun v75 =>
 optM (faR 1 v21) fun v76 =>
 rdM (ld false 1 v76) fun v77 =>
 bindM (F_drive_Drive_length N Φ [v19, v77]) fun v78 =>
 chkM (ckR (ld false 1 v74) v75) <|
 chkM (ckR (ld false 1 v72) v73) <|
 optM (iaL 1 v73 v75) fun v79 =>
 bindM (stR 1 v79 v78) fun v80 =>
 pureM (.nx [v22])
 ) (
 pureM (.nx [v22])
 )
 )
 )
 )
 )
 (fun id vs =>
 failM)
 (fun vs =>
 unc vs fun v81 vs =>
 unc vs fun v82 vs =>
 unc vs fun v83 vs =>
 unn vs <|
 pureM (.rt [v81, v82, v83])
 )
 )
 (fun vs =>
 unc vs fun v84 vs =>
 unn vs <|
 pureM (.t [(.s []), v84, (.i .i64 0)])
 )
 (fun id vs =>
 failM)
 (fun vs =>
 unc vs fun v85 vs =>
 unc vs fun v86 vs =>
 unc vs fun v87 vs =>
 unn vs <|
 pureM (.t [v85, v86, v87])
 )
 )
 )
 )
def an_drive_Drive_Do : An := (.two .n (.two (.two .n (.two .n (.two (.two .n .n) .n))) (.two (.two .n (.two (.two .n .n) .n)) (.two .n (.two (.two .n (.two (.two .n .n) .n)) (.two (.cut [10] [] [6, 7, 8] (.two .n (.one (.two (.cut [0, 2, 4, 10, 34, 35] [] [6, 7, 8] (.two .n (.two .n .n))) (.two .n (.two .n (.two (.two .n .n) (.two .n (.two .n (.two .n (.two .n .n))))))))))) (.two .n .n)))))))

/-- (*corbel/rig.Rig).Do -/
def tab_rig_Rig_Do (N : Nat) (Φ : Calls') : Calls' := fun f => cond (Nat.beq f id_rig_Rig_reach) (some (F_rig_Rig_reach N Φ)) (cond (Nat.beq f id_drive_Drive_Do) (some (F_drive_Drive_Do N Φ)) (Φ f))
def F_rig_Rig_Do (N : Nat) (Φ : Calls') : List V → M V := fun args =>
 unc args fun a0 args =>
 unc args fun a1 args =>
 unc args fun a2 args =>
 unc args fun a3 args =>
 unn args <|
 alM (boxR a2) fun v1 =>
 optM (faR 0 v1) fun v2 =>
 rdM (ld false 1 v2) fun v3 =>
 optM (binR .neq .o none v3 (.i .i64 7)) fun v4 =>
 bindM (F_rig_Rig_reach N Φ [a0, a1, v4]) fun v5 =>
 optM (exR 0 v5) fun v6 =>
 optM (exR 1 v5) fun v7 =>
 optM (binR .neq .o none v7 (.i .i64 0)) fun v8 =>
 iteM (some v8) (
 pureM (.t [(.s []), (.i .i64 0), v7])
 ) (
 rdM (ld true 4 v1) fun v9 =>
 bindM (F_drive_Drive_Do N Φ [v6, v9, a3]) fun v10 =>
 optM (exR 0 v10) fun v11 =>
 optM (exR 1 v10) fun v12 =>
 optM (exR 2 v10) fun v13 =>
 pureM (.t [v11, v12, v13])
 )
def an_rig_Rig_Do : An := (.two .n (.two .n (.two (.two .n (.two (.two .n .n) .n)) (.two .n .n))))

/-- (*corbel/array.Array).do -/
def tab_array_Array_do (N : Nat) (Φ : Calls') : Calls' := fun f => cond (Nat.beq f id_array_Array_met) (some (F_array_Array_met N Φ)) (cond (Nat.beq f id_rig_Rig_Do) (some (F_rig_Rig_Do N Φ)) (Φ f))
def F_array_Array_do (N : Nat) (Φ : Calls') : List V → M V := fun args =>
 unc args fun a0 args =>
 unc args fun a1 args =>
 unc args fun a2 args =>
 unc args fun a3 args =>
 unn args <|
 alM (boxR a2) fun v1 =>
 optM (nilR a0) fun v2 =>
 optM (faR 0 v2) fun v3 =>
 rdM (ld false 1 v3) fun v4 =>
 optM (nilR a0) fun v5 =>
 optM (faR 6 v5) fun v6 =>
 optM (faR 2 v6) fun v7 =>
 rdM (ld false 1 v7) fun v8 =>
 optM (iaL 1 v8 a1) fun v9 =>
 rdM (ld false 1 v9) fun v10 =>
 rdM (ld true 4 v1) fun v11 =>
 bindM (F_rig_Rig_Do N Φ [v4, v10, v11, a3]) fun v12 =>
 optM (exR 0 v12) fun v13 =>
 optM (exR 1 v12) fun v14 =>
 optM (exR 2 v12) fun v15 =>
 optM (binR .eql .o none v15 (.i .i64 0)) fun v16 =>
 iteM (some v16) (
 pureM (.t [v13, (.b true), (.i .i64 0)])
 ) (
 bindM (F_array_Array_met N Φ [a0, a1, v15]) fun v17 =>
 pureM (.t [(.s []), (.b false), v17])
 )
def an_array_Array_do : An := (.two .n (.two .n (.two (.two .n (.two (.two .n .n) .n)) (.two .n .n))))

/-- (*corbel/array.Array).alive -/
def tab_array_Array_alive (N : Nat) (Φ : Calls') : Calls' := fun f => Φ f
def F_array_Array_alive (N : Nat) (Φ : Calls') : List V → M V := fun args =>
 unc args fun a0 args =>
 unc args fun a1 args =>
 unn args <|
 optM (nilR a0) fun v1 =>
 optM (faR 15 v1) fun v2 =>
 rdM (ld false 1 v2) fun v3 =>
 optM (binR .neq .o none a1 v3) fun v4 =>
 pureM v4
def an_array_Array_alive : An := (.two .n (.two .n .n))

/-- (corbel/book.Book).Has -/
def tab_book_Book_Has (N : Nat) (Φ : Calls') : Calls' := fun f => Φ f
def F_book_Book_Has (N : Nat) (Φ : Calls') : List V → M V := fun args =>
 unc args fun a0 args =>
 unc args fun a1 args =>
 unc args fun a2 args =>
 unn args <|
 alM (boxR a0) fun v1 =>
 optM (binR .geq .o none a1 (.i .i64 0)) fun v2 =>
 bindM (gdM (boolV (some v2)) true (pM (some a1))) fun v3 =>
 bindM (gdM (boolV (some v2)) true (pM (faR 2 v1))) fun v4 =>
 bindM (gdM (boolV (some v2)) true (rM (ld false 1 v4))) fun v5 =>
 bindM (gdM (boolV (some v2)) true (pM (lnL v5))) fun v6 =>
 bindM (gdM (boolV (some v2)) true (pM (binR .lss .o none v3 v6))) fun v7 =>
 optM (pickR v2 v7 (.b false)) fun v8 =>
 bindM (gdM (boolV (some v8)) true (pM (some a1))) fun v9 =>
 bindM (gdM (boolV (some v8)) true (pM (faR 3 v1))) fun v10 =>
 bindM (gdM (boolV (some v8)) true (rM (ld false 1 v10))) fun v11 =>
 bindM (gdM (boolV (some v8)) true (pM (binR .neq .o none v9 v11))) fun v12 =>
 bindM (gdM (boolV (some v8)) true (pM (some v12))) fun v13 =>
 bindM (gdM (boolV (some v13)) false (pM (some a2))) fun v14 =>
 bindM (gdM (boolV (some v13)) false (pM (faR 4 v1))) fun v15 =>
 bindM (gdM (boolV (some v13)) false (rM (ld false 1 v15))) fun v16 =>
 bindM (gdM (boolV (some v13)) false (pM (binR .lss .o none v14 v16))) fun v17 =>
 bindM (gdM (boolV (some v8)) true (pM (pickR v13 (.b true) v17))) fun v18 =>
 optM (pickR v8 v18 (.b false)) fun v19 =>
 pureM v19
def an_book_Book_Has : An := (.two .n (.two .n .n))

/-- (*corbel/array.Array).has -/
def tab_array_Array_has (N : Nat) (Φ : Calls') : Calls' := fun f => cond (Nat.beq f id_array_Array_alive) (some (F_array_Array_alive N Φ)) (cond (Nat.beq f id_book_Book_Has) (some (F_book_Book_Has N Φ)) (Φ f))
def F_array_Array_has (N : Nat) (Φ : Calls') : List V → M V := fun args =>
 unc args fun a0 args =>
 unc args fun a1 args =>
 unc args fun a2 args =>
 unn args <|
 bindM (F_array_Array_alive N Φ [a0, a1]) fun v1 =>
 bindM (gdM (boolV (some v1)) true (pM (some a0))) fun v2 =>
 bindM (gdM (boolV (some v1)) true (pM (nilR v2))) fun v3 =>
 bindM (gdM (boolV (some v1)) true (pM (faR 6 v3))) fun v4 =>
 bindM (gdM (boolV (some v1)) true (rM (ld true 5 v4))) fun v5 =>
 bindM (gdM (boolV (some v1)) true (pM (some a1))) fun v6 =>
 bindM (gdM (boolV (some v1)) true (pM (some a2))) fun v7 =>
 bindM (gdM (boolV (some v1)) true (F_book_Book_Has N Φ [v5, v6, v7])) fun v8 =>
 optM (pickR v1 v8 (.b false)) fun v9 =>
 pureM v9
def an_array_Array_has : An := (.two .n (.two .n .n))

/-- (*corbel/array.Array).lay -/
def tab_array_Array_lay (N : Nat) (Φ : Calls') : Calls' := fun f => cond (Nat.beq f id_array_Array_do) (some (F_array_Array_do N Φ)) (cond (Nat.beq f id_array_Array_has) (some (F_array_Array_has N Φ)) (Φ f))
def F_array_Array_lay (N : Nat) (Φ : Calls') : List V → M V := fun args =>
 unc args fun a0 args =>
 unc args fun a1 args =>
 unc args fun a2 args =>
 unc args fun a3 args =>
 unn args <|
 bindM (F_array_Array_has N Φ [a0, a1, a2]) fun v1 =>
 optM (unV .not v1) fun v2 =>
 iteM (some v2) (
 pureM (.i .i64 0)
 ) (
 optM (lnS a3) fun v3 =>
 optM (binR .quo .o none v3 (.i .i64 64)) fun v4 =>
 optM (bdR [(0, 1), (1, 1), (2, 1), (3, 1)] [(.i .i64 0), (.i .i64 0), (.i .i64 0), (.i .i64 0)] [(0, (.i .i64 2)), (1, a2), (3, v4)]) fun v5 =>
 bindM (F_array_Array_do N Φ [a0, a1, v5, a3]) fun v6 =>
 optM (exR 0 v6) fun v7 =>
 optM (exR 1 v6) fun v8 =>
 optM (exR 2 v6) fun v9 =>
 pureM v9
 )
def an_array_Array_lay : An := (.two .n (.two (.two .n (.two (.two .n .n) .n)) (.two .n (.two .n .n))))

/-- corbel/xor.Zero -/
def tab_xor_Zero (N : Nat) (Φ : Calls') : Calls' := fun f => cond (Nat.beq f id_strings_Repeat) (some (F_strings_Repeat N Φ)) (Φ f)
def F_xor_Zero (N : Nat) (Φ : Calls') : List V → M V := fun args =>
 unc args fun a0 args =>
 unn args <|
 optM (binR .lss .o none a0 (.i .i64 0)) fun v1 =>
 bindM (gdM (boolV (some v1)) false (pM (some a0))) fun v2 =>
 bindM (gdM (boolV (some v1)) false (pM (binR .gtr .o none v2 (.i .i64 65536)))) fun v3 =>
 optM (pickR v1 (.b true) v3) fun v4 =>
 iteM (some v4) (
 pureM (.s [])
 ) (
 bindM (F_strings_Repeat N Φ [(.s [0]), a0]) fun v5 =>
 pureM v5
 )
def an_xor_Zero : An := (.two .n (.two (.two .n (.two (.two .n .n) .n)) (.two .n .n)))

/-- corbel/xor.load -/
def tab_xor_load (N : Nat) (Φ : Calls') : Calls' := fun f => Φ f
def F_xor_load (N : Nat) (Φ : Calls') : List V → M V := fun args =>
 unc args fun a0 args =>
 unc args fun a1 args =>
 unn args <|
 lrM (
 loopM N (fun vs =>
 unc vs fun v1 vs =>
 unc vs fun v2 vs =>
 unc vs fun v3 vs =>
 unc vs fun v4 vs =>
 unn vs <|
 optM (binR .lss .o none v4 (.i .i64 8)) fun v5 =>
 iteM (some v5) (
 optM (binR .add .o none v2 v4) fun v6 =>
 optM (ixS v1 v6) fun v7 =>
 optM (cvI .u64 v7) fun v8 =>
 optM (binR .mul .o none (.i .i64 8) v4) fun v9 =>
 optM (binR .shl .o none v8 v9) fun v10 =>
 optM (binR .or .o none v3 v10) fun v11 =>
 optM (binR .add .o none v4 (.i .i64 1)) fun v12 =>
 pureM (.nx [v1, v2, v11, v12])
 ) (
 pureM (.ex 0 [v3])
 )
 ) [a0, a1, (.i .u64 0), (.i .i64 0)])
 (fun vs =>
 failM)
 (fun id vs =>
 cond (Nat.beq id 0) (
 unc vs fun v13 vs =>
 unn vs <|
 pureM v13
 ) <|
 failM)
 (fun vs =>
 unc vs fun v14 vs =>
 unn vs <|
 pureM v14
 )
def an_xor_load : An := (.two .n (.two .n (.two (.two .n (.one (.loop [0, 1, 5, 7] [(0, [5])] [4] (.two .n (.two (.two .n .n) (.two (.one (.two .n .n)) .n)))))) (.two .n .n))))

/-- corbel/xor.store -/
def tab_xor_store (N : Nat) (Φ : Calls') : Calls' := fun f => Φ f
def F_xor_store (N : Nat) (Φ : Calls') : List V → M V := fun args =>
 unc args fun a0 args =>
 unc args fun a1 args =>
 unc args fun a2 args =>
 unn args <|
 lrM (
 loopM N (fun vs =>
 unc vs fun v1 vs =>
 unc vs fun v2 vs =>
 unc vs fun v3 vs =>
 unc vs fun v4 vs =>
 unn vs <|
 optM (binR .lss .o none v4 (.i .i64 8)) fun v5 =>
 iteM (some v5) (
 optM (binR .add .o none v2 v4) fun v6 =>
 optM (iaL 1 v1 v6) fun v7 =>
 rdM (ld false 1 v7) fun v8 =>
 optM (binR .mul .o none (.i .i64 8) v4) fun v9 =>
 optM (binR .shr .o none v3 v9) fun v10 =>
 optM (cvI .u8 v10) fun v11 =>
 optM (binR .xor .o none v8 v11) fun v12 =>
 optM (iaL 1 v1 v6) fun v13 =>
 bindM (stR 1 v13 v12) fun v14 =>
 optM (binR .add .o none v4 (.i .i64 1)) fun v15 =>
 pureM (.nx [v1, v2, v3, v15])
 ) (
 pureM (.ex 0 [])
 )
 ) [a0, a1, a2, (.i .i64 0)])
 (fun vs =>
 failM)
 (fun id vs =>
 cond (Nat.beq id 0) (
 unn vs <|
 pureM (.t [])
 ) <|
 failM)
 (fun vs =>
 unn vs <|
 pureM (.t [])
 )
def an_xor_store : An := (.two .n (.one (.loop [0, 1, 2, 7] [(0, [])] [] (.two .n (.two (.two .n .n) (.two (.one (.two .n .n)) .n))))))

/-- corbel/xor.lay -/
def tab_xor_lay (N : Nat) (Φ : Calls') : Calls' := fun f => cond (Nat.beq f id_xor_load) (some (F_xor_load N Φ)) (cond (Nat.beq f id_xor_store) (some (F_xor_store N Φ)) (Φ f))
def F_xor_lay (N : Nat) (Φ : Calls') : List V → M V := fun args =>
 unc args fun a0 args =>
 unc args fun a1 args =>
 unn args <|
 lrM (
 loopM N (fun vs =>
 unc vs fun v1 vs =>
 unc vs fun v2 vs =>
 unc vs fun v3 vs =>
 unn vs <|
 optM (binR .add .o none v3 (.i .i64 8)) fun v4 =>
 optM (lnS v2) fun v5 =>
 optM (binR .leq .o none v4 v5) fun v6 =>
 iteM (some v6) (
 lrM (
 bindM (F_xor_load N Φ [v2, v3]) fun v7 =>
 optM (binR .neq .o none v7 (.i .u64 0)) fun v8 =>
 iteM (some v8) (
 bindM (F_xor_load N Φ [v2, v3]) fun v9 =>
 bindM (F_xor_store N Φ [v1, v3, v9]) fun v10 =>
 pureM (.nx [v1, v2, v3])
 ) (
 pureM (.nx [v1, v2, v3])
 )
 )
 (fun vs =>
 unc vs fun v11 vs =>
 unc vs fun v12 vs =>
 unc vs fun v13 vs =>
 unn vs <|
 optM (binR .add .o none v13 (.i .i64 8)) fun v14 =>
 pureM (.nx [v11, v12, v14])
 )
 (fun id vs =>
 failM)
 (fun vs =>
 unn vs <|
 pureM (.rt [])
 )
 ) (
 pureM (.ex 0 [v1, v2, v3])
 )
 ) [a0, a1, (.i .i64 0)])
 (fun vs =>
 failM)
 (fun id vs =>
 cond (Nat.beq id 0) (
 unc vs fun v15 vs =>
 unc vs fun v16 vs =>
 unc vs fun v17 vs =>
 unn vs <|
 lrM (
 loopM N (fun vs =>
 unc vs fun v18 vs =>
 unc vs fun v19 vs =>
 unc vs fun v20 vs =>
 unn vs <|
 optM (lnS v19) fun v21 =>
 optM (binR .lss .o none v20 v21) fun v22 =>
 iteM (some v22) (
 optM (iaL 1 v18 v20) fun v23 =>
 rdM (ld false 1 v23) fun v24 =>
 optM (ixS v19 v20) fun v25 =>
 optM (binR .xor .o none v24 v25) fun v26 =>
 optM (iaL 1 v18 v20) fun v27 =>
 bindM (stR 1 v27 v26) fun v28 =>
 optM (binR .add .o none v20 (.i .i64 1)) fun v29 =>
 pureM (.nx [v18, v19, v29])
 ) (
 pureM (.ex 2 [])
 )
 ) [v15, v16, v17])
 (fun vs =>
 failM)
 (fun id vs =>
 cond (Nat.beq id 2) (
 unn vs <|
 pureM (.t [])
 ) <|
 failM)
 (fun vs =>
 unn vs <|
 pureM (.t [])
 )
 ) <|
 failM)
 (fun vs =>
 unn vs <|
 pureM (.t [])
 )
def an_xor_lay : An := (.two .n (.two (.one (.loop [0, 1, 4] [(0, [0, 1, 4])] [] (.two (.two .n (.two .n .n)) (.two (.cut [0, 1, 4] [] [] (.one (.two .n (.two .n .n)))) .n)))) (.one (.loop [0, 1, 4] [(2, [])] [] (.two (.two .n (.two .n .n)) (.two (.one .n) .n))))))

/-- corbel/xor.Fold -/
def tab_xor_Fold (N : Nat) (Φ : Calls') : Calls' := fun f => cond (Nat.beq f id_xor_lay) (some (F_xor_lay N Φ)) (Φ f)
def F_xor_Fold (N : Nat) (Φ : Calls') : List V → M V := fun args =>
 unc args fun a0 args =>
 unn args <|
 optM (lnL a0) fun v1 =>
 lrM (
 loopM N (fun vs =>
 unc vs fun v2 vs =>
 unc vs fun v3 vs =>
 unc vs fun v4 vs =>
 unc vs fun v5 vs =>
 unc vs fun v6 vs =>
 unn vs <|
 optM (binR .lss .o none v6 v5) fun v7 =>
 iteM (some v7) (
 optM (iaL 1 v4 v6) fun v8 =>
 rdM (ld false 1 v8) fun v9 =>
 optM (lnS v9) fun v10 =>
 optM (foldInts maxI [v3, v10]) fun v11 =>
 optM (binR .add .o none v6 (.i .i64 1)) fun v12 =>
 pureM (.nx [v2, v11, v4, v5, v12])
 ) (
 pureM (.ex 0 [v2, v3])
 )
 ) [a0, (.i .i64 0), a0, v1, (.i .i64 0)])
 (fun vs =>
 failM)
 (fun id vs =>
 cond (Nat.beq id 0) (
 unc vs fun v13 vs =>
 unc vs fun v14 vs =>
 unn vs <|
 alM (mkR 1 1 [(.i .u8 0)] v14 v14) fun v15 =>
 optM (lnL v13) fun v16 =>
 lrM (
 loopM N (fun vs =>
 unc vs fun v17 vs =>
 unc vs fun v18 vs =>
 unc vs fun v19 vs =>
 unc vs fun v20 vs =>
 unn vs <|
 optM (binR .lss .o none v20 v19) fun v21 =>
 iteM (some v21) (
 optM (iaL 1 v18 v20) fun v22 =>
 rdM (ld false 1 v22) fun v23 =>
 bindM (F_xor_lay N Φ [v17, v23]) fun v24 =>
 optM (binR .add .o none v20 (.i .i64 1)) fun v25 =>
 pureM (.nx [v17, v18, v19, v25])
 ) (
 pureM (.ex 2 [v17])
 )
 ) [v15, v13, v16, (.i .i64 0)])
 (fun vs =>
 failM)
 (fun id vs =>
 cond (Nat.beq id 2) (
 unc vs fun v26 vs =>
 unn vs <|
 rdM (bytesV v26) fun v27 =>
 pureM v27
 ) <|
 failM)
 (fun vs =>
 unc vs fun v28 vs =>
 unn vs <|
 pureM v28
 )
 ) <|
 failM)
 (fun vs =>
 unc vs fun v29 vs =>
 unn vs <|
 pureM v29
 )
def an_xor_Fold : An := (.two .n (.two .n (.two (.two .n (.one (.loop [0, 3, 9, 10, 11] [(0, [0, 3])] [2] (.two .n (.two (.two .n .n) (.two (.one (.two .n .n)) .n)))))) (.two .n (.two (.two .n (.one (.loop [6, 22, 23, 24] [(2, [6])] [2] (.two .n (.two (.two .n .n) (.two (.one (.two .n .n)) .n)))))) (.two .n .n))))))

/-- corbel/xor.Add -/
def tab_xor_Add (N : Nat) (Φ : Calls') : Calls' := fun f => cond (Nat.beq f id_xor_Fold) (some (F_xor_Fold N Φ)) (Φ f)
def F_xor_Add (N : Nat) (Φ : Calls') : List V → M V := fun args =>
 unc args fun a0 args =>
 unc args fun a1 args =>
 unn args <|
 alM (bsR 2 1 (zeros [(.s [])] 2) [(0, a0), (1, a1)]) fun v1 =>
 bindM (F_xor_Fold N Φ [v1]) fun v2 =>
 pureM v2
def an_xor_Add : An := (.two .n (.two .n .n))

/-- (corbel/stripe.Row).Parity -/
def tab_stripe_Row_Parity (N : Nat) (Φ : Calls') : Calls' := fun f => cond (Nat.beq f id_xor_Zero) (some (F_xor_Zero N Φ)) (cond (Nat.beq f id_xor_Add) (some (F_xor_Add N Φ)) (cond (Nat.beq f id_xor_Fold) (some (F_xor_Fold N Φ)) (Φ f)))
def F_stripe_Row_Parity (N : Nat) (Φ : Calls') : List V → M V := fun args =>
 unc args fun a0 args =>
 unn args <|
 alM (boxR a0) fun v1 =>
 optM (faR 1 v1) fun v2 =>
 rdM (ld false 1 v2) fun v3 =>
 bindM (F_xor_Zero N Φ [(.i .i64 64)]) fun v4 =>
 chkM (ckR (ld false 1 v2) v3) <|
 bindM (F_xor_Fold N Φ [v3]) fun v5 =>
 bindM (F_xor_Add N Φ [v4, v5]) fun v6 =>
 pureM v6
def an_stripe_Row_Parity : An := (.two .n (.two .n .n))

/-- (*corbel/array.Array).wide -/
def tab_array_Array_wide (N : Nat) (Φ : Calls') : Calls' := fun f => Φ f
def F_array_Array_wide (N : Nat) (Φ : Calls') : List V → M V := fun args =>
 unc args fun a0 args =>
 unn args <|
 optM (nilR a0) fun v1 =>
 optM (faR 1 v1) fun v2 =>
 optM (faR 0 v2) fun v3 =>
 rdM (ld false 1 v3) fun v4 =>
 optM (binR .sub .o none v4 (.i .i64 1)) fun v5 =>
 pureM v5
def an_array_Array_wide : An := (.two .n (.two .n .n))

/-- corbel/stripe.New -/
def tab_stripe_New (N : Nat) (Φ : Calls') : Calls' := fun f => Φ f
def F_stripe_New (N : Nat) (Φ : Calls') : List V → M V := fun args =>
 unc args fun a0 args =>
 unn args <|
 alM (alR 139 [(.i .i64 0), .ns]) fun v1 =>
 optM (binR .lss .o none a0 (.i .i64 2)) fun v2 =>
 bindM (gdM (boolV (some v2)) false (pM (some a0))) fun v3 =>
 bindM (gdM (boolV (some v2)) false (pM (binR .gtr .o none v3 (.i .i64 15)))) fun v4 =>
 optM (pickR v2 (.b true) v4) fun v5 =>
 iteM (some v5) (
 optM (bdR [(0, 1), (1, 1)] [(.i .i64 0), .ns] []) fun v6 =>
 bindM (stR 2 v1 v6) fun v7 =>
 rdM (ld true 2 v1) fun v8 =>
 pureM (.t [v8, (.i .i64 1)])
 ) (
 optM (bdR [(0, 1), (1, 1)] [(.i .i64 0), .ns] [(0, a0)]) fun v9 =>
 bindM (stR 2 v1 v9) fun v10 =>
 rdM (ld true 2 v1) fun v11 =>
 pureM (.t [v11, (.i .i64 0)])
 )
def an_stripe_New : An := (.two .n (.two (.two .n (.two (.two .n .n) .n)) (.two .n .n)))

/-- (*corbel/array.Array).begin -/
def tab_array_Array_begin (N : Nat) (Φ : Calls') : Calls' := fun f => cond (Nat.beq f id_array_Array_wide) (some (F_array_Array_wide N Φ)) (cond (Nat.beq f id_stripe_New) (some (F_stripe_New N Φ)) (Φ f))
def F_array_Array_begin (N : Nat) (Φ : Calls') : List V → M V := fun args =>
 unc args fun a0 args =>
 unc args fun a1 args =>
 unn args <|
 alM (alR 141 [(.i .i64 0), (.i .i64 0), .ns]) fun v1 =>
 bindM (F_array_Array_wide N Φ [a0]) fun v2 =>
 bindM (F_stripe_New N Φ [v2]) fun v3 =>
 optM (exR 0 v3) fun v4 =>
 optM (exR 1 v3) fun v5 =>
 alM (alR 139 [(.i .i64 0), .ns]) fun v6 =>
 bindM (stR 2 v6 v4) fun v7 =>
 rdM (ld true 2 v6) fun v8 =>
 optM (bdR [(0, 1), (1, 2)] [(.i .i64 0), (.i .i64 0), .ns] [(0, a1), (1, v8)]) fun v9 =>
 bindM (stR 3 v1 v9) fun v10 =>
 rdM (ld true 3 v1) fun v11 =>
 pureM v11
def an_array_Array_begin : An := (.two .n (.two .n (.two .n .n)))

/-- (*corbel/array.Array).each -/
def tab_array_Array_each (N : Nat) (Φ : Calls') : Calls' := fun f => cond (Nat.beq f id_array_Array_alive) (some (F_array_Array_alive N Φ)) (Φ f)
def F_array_Array_each (N : Nat) (Φ : Calls') : List V → M V := fun args =>
 unc args fun a0 args =>
 unc args fun a1 args =>
 unn args <|
 optM (nilR a0) fun v1 =>
 optM (faR 1 v1) fun v2 =>
 optM (faR 0 v2) fun v3 =>
 rdM (ld false 1 v3) fun v4 =>
 lrM (
 loopM N (fun vs =>
 unc vs fun v5 vs =>
 unc vs fun v6 vs =>
 unc vs fun v7 vs =>
 unc vs fun v8 vs =>
 unn vs <|
 optM (binR .lss .o none v8 v7) fun v9 =>
 iteM (some v9) (
 lrM (
 bindM (F_array_Array_alive N Φ [v5, v8]) fun v10 =>
 optM (unV .not v10) fun v11 =>
 iteM (some v11) (
 pureM (.nx [v5, v6, v7, v8])
 ) (
 bindM (callF (tab_array_Array_each N Φ) v6 [v8]) fun v12 =>
 optM (binR .neq .o none v12 (.i .i64 0)) fun v13 =>
 iteM (some v13) (
 pureM (.rt [v12])
 ) (
 pureM (.nx [v5, v6, v7, v8])
 )
 )
 )
 (fun vs =>
 unc vs fun v14 vs =>
 unc vs fun v15 vs =>
 unc vs fun v16 vs =>
 unc vs fun v17 vs =>
 unn vs <|
 optM (binR .add .o none v17 (.i .i64 1)) fun v18 =>
 pureM (.nx [v14, v15, v16, v18])
 )
 (fun id vs =>
 failM)
 (fun vs =>
 unc vs fun v19 vs =>
 unn vs <|
 pureM (.rt [v19])
 )
 ) (
 pureM (.ex 0 [])
 )
 ) [a0, a1, v4, (.i .i64 0)])
 (fun vs =>
 failM)
 (fun id vs =>
 cond (Nat.beq id 0) (
 unn vs <|
 pureM (.i .i64 0)
 ) <|
 failM)
 (fun vs =>
 unc vs fun v20 vs =>
 unn vs <|
 pureM v20
 )
def an_array_Array_each : An := (.two .n (.two (.two .n (.one (.loop [0, 1, 11, 12] [(0, [])] [4] (.two .n (.two (.two .n .n) (.two (.cut [0, 1, 11, 12] [] [4] (.one (.two .n (.two (.two .n (.two .n .n)) (.two .n (.two .n (.two (.two .n .n) .n))))))) .n)))))) (.two .n .n)))

/-- (*corbel/drive.Drive).Flush -/
def tab_drive_Drive_Flush (N : Nat) (Φ : Calls') : Calls' := fun f => cond (Nat.beq f id_drive_Drive_alive) (some (F_drive_Drive_alive N Φ)) (cond (Nat.beq f id_drive_Drive_length) (some (F_drive_Drive_length N Φ)) (Φ f))
def F_drive_Drive_Flush (N : Nat) (Φ : Calls') : List V → M V := fun args =>
 unc args fun a0 args =>
 unn args <|
 bindM (F_drive_Drive_alive N Φ [a0]) fun v1 =>
 optM (binR .neq .o none v1 (.i .i64 0)) fun v2 =>
 iteM (some v2) (
 pureM v1
 ) (
 optM (nilR a0) fun v3 =>
 optM (faR 2 v3) fun v4 =>
 rdM (ld false 1 v4) fun v5 =>
 optM (lnL v5) fun v6 =>
 lrM (
 loopM N (fun vs =>
 unc vs fun v7 vs =>
 unc vs fun v8 vs =>
 unc vs fun v9 vs =>
 unn vs <|
 optM (binR .lss .o none v9 v8) fun v10 =>
 iteM (some v10) (
 optM (nilR v7) fun v11 =>
 optM (faR 2 v11) fun v12 =>
 rdM (ld false 1 v12) fun v13 =>
 bindM (F_drive_Drive_length N Φ [v7, v9]) fun v14 =>
 chkM (ckR (ld false 1 v12) v13) <|
 optM (iaL 1 v13 v9) fun v15 =>
 bindM (stR 1 v15 v14) fun v16 =>
 optM (binR .add .o none v9 (.i .i64 1)) fun v17 =>
 pureM (.nx [v7, v8, v17])
 ) (
 pureM (.ex 0 [])
 )
 ) [a0, v6, (.i .i64 0)])
 (fun vs =>
 failM)
 (fun id vs =>
 cond (Nat.beq id 0) (
 unn vs <|
 pureM (.i .i64 0)
 ) <|
 failM)
 (fun vs =>
 unc vs fun v18 vs =>
 unn vs <|
 pureM v18
 )
 )
def an_drive_Drive_Flush : An := (.two .n (.two (.two .n (.two .n (.two (.two .n .n) .n))) (.two (.two .n (.one (.loop [0, 14, 15] [(0, [])] [2] (.two .n (.two (.two .n .n) (.two (.one (.two .n .n)) .n)))))) (.two .n .n))))

/-- (*corbel/rig.Rig).Flush -/
def tab_rig_Rig_Flush (N : Nat) (Φ : Calls') : Calls' := fun f => cond (Nat.beq f id_rig_Rig_reach) (some (F_rig_Rig_reach N Φ)) (cond (Nat.beq f id_drive_Drive_Flush) (some (F_drive_Drive_Flush N Φ)) (Φ f))
def F_rig_Rig_Flush (N : Nat) (Φ : Calls') : List V → M V := fun args =>
 unc args fun a0 args =>
 unc args fun a1 args =>
 unn args <|
 bindM (F_rig_Rig_reach N Φ [a0, a1, (.b true)]) fun v1 =>
 optM (exR 0 v1) fun v2 =>
 optM (exR 1 v1) fun v3 =>
 optM (binR .neq .o none v3 (.i .i64 0)) fun v4 =>
 iteM (some v4) (
 pureM v3
 ) (
 bindM (F_drive_Drive_Flush N Φ [v2]) fun v5 =>
 pureM v5
 )
def an_rig_Rig_Flush : An := (.two .n (.two .n (.two (.two .n (.two (.two .n .n) .n)) (.two .n .n))))

/-- (*corbel/array.Array).flush$1 -/
def tab_array_Array_flush_1 (N : Nat) (Φ : Calls') : Calls' := fun f => cond (Nat.beq f id_array_Array_met) (some (F_array_Array_met N Φ)) (cond (Nat.beq f id_rig_Rig_Flush) (some (F_rig_Rig_Flush N Φ)) (Φ f))
def F_array_Array_flush_1 (N : Nat) (Φ : Calls') : List V → M V := fun args =>
 unc args fun a0 args =>
 unc args fun a1 args =>
 unn args <|
 rdM (ld false 1 a1) fun v1 =>
 optM (nilR v1) fun v2 =>
 optM (faR 0 v2) fun v3 =>
 rdM (ld false 1 v3) fun v4 =>
 rdM (ld false 1 a1) fun v5 =>
 optM (nilR v5) fun v6 =>
 optM (faR 6 v6) fun v7 =>
 optM (faR 2 v7) fun v8 =>
 rdM (ld false 1 v8) fun v9 =>
 optM (iaL 1 v9 a0) fun v10 =>
 rdM (ld false 1 v10) fun v11 =>
 bindM (F_rig_Rig_Flush N Φ [v4, v11]) fun v12 =>
 optM (binR .neq .o none v12 (.i .i64 0)) fun v13 =>
 iteM (some v13) (
 rdM (ld false 1 a1) fun v14 =>
 bindM (F_array_Array_met N Φ [v14, a0, v12]) fun v15 =>
 pureM v15
 ) (
 pureM (.i .i64 0)
 )
def an_array_Array_flush_1 : An := (.two .n (.two (.two .n (.two .n (.two (.two .n .n) .n))) (.two .n .n)))

/-- (*corbel/array.Array).flush -/
def tab_array_Array_flush (N : Nat) (Φ : Calls') : Calls' := fun f => cond (Nat.beq f id_array_Array_each) (some (F_array_Array_each N Φ)) (Φ f)
def F_array_Array_flush (N : Nat) (Φ : Calls') : List V → M V := fun args =>
 unc args fun a0 args =>
 unn args <|
 alM (boxR a0) fun v1 =>
 rdM (ld false 1 v1) fun v2 =>
 bindM (F_array_Array_each N Φ [v2, (.f id_array_Array_flush_1 [] [v1])]) fun v3 =>
 pureM v3
def an_array_Array_flush : An := (.two .n (.two .n .n))

/-- (corbel/book.Book).Records$1 -/
def tab_book_Book_Records_1 (N : Nat) (Φ : Calls') : Calls' := fun f => Φ f
def F_book_Book_Records_1 (N : Nat) (Φ : Calls') : List V → M V := fun args =>
 unc args fun a0 args =>
 unc args fun a1 args =>
 unc args fun a2 args =>
 unn args <|
 alM (boxR a0) fun v1 =>
 optM (faR 0 a1) fun v2 =>
 rdM (ld false 1 v2) fun v3 =>
 optM (binR .add .o none v3 (.i .i64 1)) fun v4 =>
 optM (faR 0 a1) fun v5 =>
 bindM (stR 1 v5 v4) fun v6 =>
 optM (faR 0 a1) fun v7 =>
 rdM (ld false 1 v7) fun v8 =>
 optM (faR 1 v1) fun v9 =>
 bindM (stR 1 v9 v8) fun v10 =>
 rdM (ld false 1 a2) fun v11 =>
 rdM (ld true 7 v1) fun v12 =>
 alM (bsR 1 7 (zeros [(.i .i64 0), (.i .i64 0), (.i .i64 0), (.i .i64 0), (.i .i64 0), (.i .i64 0), (.s [])] 7) [(0, v12)]) fun v13 =>
 bindM (apR 157 7 64 (srL 7 v13) v11) fun v14 =>
 bindM (stR 1 a2 v14) fun v15 =>
 pureM (.t [])
def an_book_Book_Records_1 : An := (.two .n (.two .n (.two .n .n)))

/-- (corbel/book.Book).Records -/
def tab_book_Book_Records (N : Nat) (Φ : Calls') : Calls' := fun f => Φ f
def F_book_Book_Records (N : Nat) (Φ : Calls') : List V → M V := fun args =>
 unc args fun a0 args =>
 unn args <|
 alM (boxR a0) fun v1 =>
 alM (alR 66 [(.i .i64 0), .ns, .ns, (.i .i64 0), (.i .i64 0)]) fun v2 =>
 alM (alR 147 [.ns]) fun v3 =>
 optM (faR 2 v1) fun v4 =>
 rdM (ld false 1 v4) fun v5 =>
 optM (lnL v5) fun v6 =>
 lrM (
 loopM N (fun vs =>
 unc vs fun v7 vs =>
 unc vs fun v8 vs =>
 unc vs fun v9 vs =>
 unc vs fun v10 vs =>
 unc vs fun v11 vs =>
 unc vs fun v12 vs =>
 unc vs fun v13 vs =>
 unn vs <|
 optM (binR .lss .o none v13 v12) fun v14 =>
 iteM (some v14) (
 optM (iaL 1 v11 v13) fun v15 =>
 rdM (ld false 1 v15) fun v16 =>
 optM (bdR [(0, 1), (1, 1), (2, 1), (3, 1), (4, 1), (5, 1), (6, 1)] [(.i .i64 0), (.i .i64 0), (.i .i64 0), (.i .i64 0), (.i .i64 0), (.i .i64 0), (.s [])] [(0, (.i .i64 5)), (2, v13), (3, v16)]) fun v17 =>
 bindM (callF (tab_book_Book_Records N Φ) v10 [v17]) fun v18 =>
 optM (binR .add .o none v13 (.i .i64 1)) fun v19 =>
 pureM (.nx [v7, v8, v9, v10, v11, v12, v19])
 ) (
 pureM (.ex 0 [v7, v8, v9, v10])
 )
 ) [v1, v2, v3, (.f id_book_Book_Records_1 [] [v1, v3]), v5, v6, (.i .i64 0)])
 (fun vs =>
 failM)
 (fun id vs =>
 cond (Nat.beq id 0) (
 unc vs fun v20 vs =>
 unc vs fun v21 vs =>
 unc vs fun v22 vs =>
 unc vs fun v23 vs =>
 unn vs <|
 optM (faR 1 v20) fun v24 =>
 rdM (ld false 1 v24) fun v25 =>
 optM (lnL v25) fun v26 =>
 lrM (
 loopM N (fun vs =>
 unc vs fun v27 vs =>
 unc vs fun v28 vs =>
 unc vs fun v29 vs =>
 unc vs fun v30 vs =>
 unc vs fun v31 vs =>
 unc vs fun v32 vs =>
 unc vs fun v33 vs =>
 unn vs <|
 optM (binR .lss .o none v33 v32) fun v34 =>
 iteM (some v34) (
 optM (iaL 3 v31 v33) fun v35 =>
 rdM (ld true 3 v35) fun v36 =>
 alM (alR 134 [(.i .i64 0), (.i .i64 0), (.i .i64 0)]) fun v37 =>
 bindM (stR 3 v37 v36) fun v38 =>
 optM (faR 0 v37) fun v39 =>
 rdM (ld false 1 v39) fun v40 =>
 optM (faR 1 v37) fun v41 =>
 rdM (ld false 1 v41) fun v42 =>
 optM (faR 2 v37) fun v43 =>
 rdM (ld false 1 v43) fun v44 =>
 optM (bdR [(0, 1), (1, 1), (2, 1), (3, 1), (4, 1), (5, 1), (6, 1)] [(.i .i64 0), (.i .i64 0), (.i .i64 0), (.i .i64 0), (.i .i64 0), (.i .i64 0), (.s [])] [(0, (.i .i64 3)), (2, v33), (3, v40), (4, v42), (5, v44)]) fun v45 =>
 bindM (callF (tab_book_Book_Records N Φ) v30 [v45]) fun v46 =>
 optM (binR .add .o none v33 (.i .i64 1)) fun v47 =>
 pureM (.nx [v27, v28, v29, v30, v31, v32, v47])
 ) (
 pureM (.ex 2 [v27, v28, v29, v30])
 )
 ) [v20, v21, v22, v23, v25, v26, (.i .i64 0)])
 (fun vs =>
 failM)
 (fun id vs =>
 cond (Nat.beq id 2) (
 unc vs fun v48 vs =>
 unc vs fun v49 vs =>
 unc vs fun v50 vs =>
 unc vs fun v51 vs =>
 unn vs <|
 optM (faR 3 v48) fun v52 =>
 rdM (ld false 1 v52) fun v53 =>
 lrM (
 optM (binR .lss .o none v53 (.i .i64 0)) fun v54 =>
 iteM (some v54) (
 pureM (.nx [v48, v49, v50, v51, (.i .i64 65535)])
 ) (
 pureM (.nx [v48, v49, v50, v51, v53])
 )
 )
 (fun vs =>
 unc vs fun v55 vs =>
 unc vs fun v56 vs =>
 unc vs fun v57 vs =>
 unc vs fun v58 vs =>
 unc vs fun v59 vs =>
 unn vs <|
 optM (faR 4 v55) fun v60 =>
 rdM (ld false 1 v60) fun v61 =>
 optM (bdR [(0, 1), (1, 1), (2, 1), (3, 1), (4, 1), (5, 1), (6, 1)] [(.i .i64 0), (.i .i64 0), (.i .i64 0), (.i .i64 0), (.i .i64 0), (.i .i64 0), (.s [])] [(0, (.i .i64 6)), (2, v59), (3, v61)]) fun v62 =>
 bindM (callF (tab_book_Book_Records N Φ) v58 [v62]) fun v63 =>
 rdM (ld false 1 v57) fun v64 =>
 rdM (ld true 5 v55) fun v65 =>
 bindM (stR 5 v56 v65) fun v66 =>
 rdM (ld true 5 v56) fun v67 =>
 pureM (.t [v64, v67])
 )
 (fun id vs =>
 failM)
 (fun vs =>
 unc vs fun v68 vs =>
 unc vs fun v69 vs =>
 unn vs <|
 rdM (ld true 5 v69) fun v70 =>
 pureM (.t [v68, v70])
 )
 ) <|
 failM)
 (fun vs =>
 unc vs fun v71 vs =>
 unc vs fun v72 vs =>
 unn vs <|
 rdM (ld true 5 v72) fun v73 =>
 pureM (.t [v71, v73])
 )
 ) <|
 failM)
 (fun vs =>
 unc vs fun v74 vs =>
 unc vs fun v75 vs =>
 unn vs <|
 rdM (ld true 5 v75) fun v76 =>
 pureM (.t [v74, v76])
 )
def an_book_Book_Records : An := (.two .n (.two .n (.two .n (.two (.two .n (.one (.loop [1, 3, 4, 5, 13, 14, 15] [(0, [1, 3, 4, 5])] [2, 3] (.two .n (.two (.two .n .n) (.two (.one (.two .n .n)) .n)))))) (.two (.two .n (.one (.loop [1, 3, 4, 5, 27, 28, 29] [(2, [1, 3, 4, 5])] [2, 3] (.two .n (.two (.two .n .n) (.two (.one (.two .n .n)) .n)))))) (.two .n (.two (.cut [1, 3, 4, 5, 10] [] [2, 3] (.two .n (.two .n .n))) (.two .n (.two .n .n)))))))))

/-- corbel/record.fields$1 -/
def tab_record_fields_1 (N : Nat) (Φ : Calls') : Calls' := fun f => Φ f
def F_record_fields_1 (N : Nat) (Φ : Calls') : List V → M V := fun args =>
 unc args fun a0 args =>
 unn args <|
 optM (nilR a0) fun v1 =>
 optM (faR 0 v1) fun v2 =>
 pureM v2
def an_record_fields_1 : An := (.two .n (.two .n .n))

/-- corbel/record.fields$2 -/
def tab_record_fields_2 (N : Nat) (Φ : Calls') : Calls' := fun f => Φ f
def F_record_fields_2 (N : Nat) (Φ : Calls') : List V → M V := fun args =>
 unc args fun a0 args =>
 unn args <|
 optM (nilR a0) fun v1 =>
 optM (faR 1 v1) fun v2 =>
 pureM v2
def an_record_fields_2 : An := (.two .n (.two .n .n))

/-- corbel/record.fields$3 -/
def tab_record_fields_3 (N : Nat) (Φ : Calls') : Calls' := fun f => Φ f
def F_record_fields_3 (N : Nat) (Φ : Calls') : List V → M V := fun args =>
 unc args fun a0 args =>
 unn args <|
 optM (nilR a0) fun v1 =>
 optM (faR 2 v1) fun v2 =>
 pureM v2
def an_record_fields_3 : An := (.two .n (.two .n .n))

/-- corbel/record.fields$4 -/
def tab_record_fields_4 (N : Nat) (Φ : Calls') : Calls' := fun f => Φ f
def F_record_fields_4 (N : Nat) (Φ : Calls') : List V → M V := fun args =>
 unc args fun a0 args =>
 unn args <|
 optM (nilR a0) fun v1 =>
 optM (faR 3 v1) fun v2 =>
 pureM v2
def an_record_fields_4 : An := (.two .n (.two .n .n))

/-- corbel/record.fields$5 -/
def tab_record_fields_5 (N : Nat) (Φ : Calls') : Calls' := fun f => Φ f
def F_record_fields_5 (N : Nat) (Φ : Calls') : List V → M V := fun args =>
 unc args fun a0 args =>
 unn args <|
 optM (nilR a0) fun v1 =>
 optM (faR 4 v1) fun v2 =>
 pureM v2
def an_record_fields_5 : An := (.two .n (.two .n .n))

/-- corbel/record.fields$6 -/
def tab_record_fields_6 (N : Nat) (Φ : Calls') : Calls' := fun f => Φ f
def F_record_fields_6 (N : Nat) (Φ : Calls') : List V → M V := fun args =>
 unc args fun a0 args =>
 unn args <|
 optM (nilR a0) fun v1 =>
 optM (faR 5 v1) fun v2 =>
 pureM v2
def an_record_fields_6 : An := (.two .n (.two .n .n))

/-- corbel/record.fields -/
def tab_record_fields (N : Nat) (Φ : Calls') : Calls' := fun f => Φ f
def F_record_fields (N : Nat) (Φ : Calls') : List V → M V := fun args =>
 unn args <|
 optM (bdR [(0, 1), (1, 1), (2, 1), (3, 1)] [(.i .i64 0), (.i .i64 0), (.i .i64 0), .nf] [(0, (.i .i64 2)), (1, (.i .i64 1)), (2, (.i .i64 6)), (3, (.f id_record_fields_1 [] []))]) fun v1 =>
 optM (bdR [(0, 1), (1, 1), (2, 1), (3, 1)] [(.i .i64 0), (.i .i64 0), (.i .i64 0), .nf] [(0, (.i .i64 3)), (1, (.i .i64 6)), (2, (.i .i64 1099511627776)), (3, (.f id_record_fields_2 [] []))]) fun v2 =>
 optM (bdR [(0, 1), (1, 1), (2, 1), (3, 1)] [(.i .i64 0), (.i .i64 0), (.i .i64 0), .nf] [(0, (.i .i64 9)), (1, (.i .i64 2)), (2, (.i .i64 65535)), (3, (.f id_record_fields_3 [] []))]) fun v3 =>
 optM (bdR [(0, 1), (1, 1), (2, 1), (3, 1)] [(.i .i64 0), (.i .i64 0), (.i .i64 0), .nf] [(0, (.i .i64 11)), (1, (.i .i64 2)), (2, (.i .i64 65535)), (3, (.f id_record_fields_4 [] []))]) fun v4 =>
 optM (bdR [(0, 1), (1, 1), (2, 1), (3, 1)] [(.i .i64 0), (.i .i64 0), (.i .i64 0), .nf] [(0, (.i .i64 13)), (1, (.i .i64 6)), (2, (.i .i64 1099511627776)), (3, (.f id_record_fields_5 [] []))]) fun v5 =>
 optM (bdR [(0, 1), (1, 1), (2, 1), (3, 1)] [(.i .i64 0), (.i .i64 0), (.i .i64 0), .nf] [(0, (.i .i64 19)), (1, (.i .i64 2)), (2, (.i .i64 65535)), (3, (.f id_record_fields_6 [] []))]) fun v6 =>
 alM (bsR 6 4 (zeros [(.i .i64 0), (.i .i64 0), (.i .i64 0), .nf] 24) [(0, v1), (1, v2), (2, v3), (3, v4), (4, v5), (5, v6)]) fun v7 =>
 pureM v7
def an_record_fields : An := (.two .n (.two .n .n))

/-- corbel/record.right -/
def tab_record_right (N : Nat) (Φ : Calls') : Calls' := fun f => cond (Nat.beq f id_record_fields) (some (F_record_fields N Φ)) (Φ f)
def F_record_right (N : Nat) (Φ : Calls') : List V → M V := fun args =>
 unc args fun a0 args =>
 unn args <|
 bindM (F_record_fields N Φ []) fun v1 =>
 optM (lnL v1) fun v2 =>
 lrM (
 loopM N (fun vs =>
 unc vs fun v3 vs =>
 unc vs fun v4 vs =>
 unc vs fun v5 vs =>
 unc vs fun v6 vs =>
 unn vs <|
 optM (binR .lss .o none v6 v5) fun v7 =>
 iteM (some v7) (
 optM (iaL 4 v4 v6) fun v8 =>
 rdM (ld true 4 v8) fun v9 =>
 alM (alR 354 [(.i .i64 0), (.i .i64 0), (.i .i64 0), .nf]) fun v10 =>
 bindM (stR 4 v10 v9) fun v11 =>
 optM (faR 3 v10) fun v12 =>
 rdM (ld false 1 v12) fun v13 =>
 bindM (callF (tab_record_right N Φ) v13 [v3]) fun v14 =>
 optM (nilR v14) fun v15 =>
 rdM (ld false 1 v15) fun v16 =>
 optM (binR .lss .o none v16 (.i .i64 0)) fun v17 =>
 bindM (gdM (boolV (some v17)) false (pM (some v16))) fun v18 =>
 bindM (gdM (boolV (some v17)) false (pM (faR 2 v10))) fun v19 =>
 bindM (gdM (boolV (some v17)) false (rM (ld false 1 v19))) fun v20 =>
 bindM (gdM (boolV (some v17)) false (pM (binR .gtr .o none v18 v20))) fun v21 =>
 optM (pickR v17 (.b true) v21) fun v22 =>
 iteM (some v22) (
 pureM (.rt [(.b false)])
 ) (
 optM (binR .add .o none v6 (.i .i64 1)) fun v23 =>
 pureM (.nx [v3, v4, v5, v23])
 )
 ) (
 pureM (.ex 0 [v3])
 )
 ) [a0, v1, v2, (.i .i64 0)])
 (fun vs =>
 failM)
 (fun id vs =>
 cond (Nat.beq id 0) (
 unc vs fun v24 vs =>
 unn vs <|
 optM (nilR v24) fun v25 =>
 optM (faR 0 v25) fun v26 =>
 rdM (ld false 1 v26) fun v27 =>
 optM (binR .geq .o none v27 (.i .i64 1)) fun v28 =>
 pureM v28
 ) <|
 failM)
 (fun vs =>
 unc vs fun v29 vs =>
 unn vs <|
 pureM v29
 )
def an_record_right : An := (.two .n (.two (.two .n (.one (.loop [0, 6, 7, 8] [(0, [0])] [2] (.two .n (.two (.two .n .n) (.two (.one (.two .n (.two .n (.two .n (.two (.two .n .n) .n))))) .n)))))) (.two .n .n)))

/-- corbel/record.Blocks -/
def tab_record_Blocks (N : Nat) (Φ : Calls') : Calls' := fun f => Φ f
def F_record_Blocks (N : Nat) (Φ : Calls') : List V → M V := fun args =>
 unc args fun a0 args =>
 unn args <|
 optM (binR .lss .o none a0 (.i .i64 1)) fun v1 =>
 bindM (gdM (boolV (some v1)) false (pM (some a0))) fun v2 =>
 bindM (gdM (boolV (some v1)) false (pM (binR .gtr .o none v2 (.i .i64 6)))) fun v3 =>
 optM (pickR v1 (.b true) v3) fun v4 =>
 iteM (some v4) (
 pureM (.i .i64 0)
 ) (
 optM (binR .eql .o none a0 (.i .i64 4)) fun v5 =>
 iteM (some v5) (
 pureM (.i .i64 2)
 ) (
 pureM (.i .i64 1)
 )
 )
def an_record_Blocks : An := (.two .n (.two (.one (.two .n (.two (.two .n .n) (.two .n (.two (.two .n .n) .n))))) (.two .n .n)))

/-- corbel/record.Encode -/
def tab_record_Encode (N : Nat) (Φ : Calls') : Calls' := fun f => cond (Nat.beq f id_xor_Zero) (some (F_xor_Zero N Φ)) (cond (Nat.beq f id_nums_Put) (some (F_nums_Put N Φ)) (cond (Nat.beq f id_crc_Sum) (some (F_crc_Sum N Φ)) (cond (Nat.beq f id_record_right) (some (F_record_right N Φ)) (cond (Nat.beq f id_record_Blocks) (some (F_record_Blocks N Φ)) (cond (Nat.beq f id_record_fields) (some (F_record_fields N Φ)) (Φ f))))))
def F_record_Encode (N : Nat) (Φ : Calls') : List V → M V := fun args =>
 unc args fun a0 args =>
 unn args <|
 alM (boxR a0) fun v1 =>
 bindM (F_record_right N Φ [v1]) fun v2 =>
 optM (unV .not v2) fun v3 =>
 bindM (gdM (boolV (some v3)) false (pM (faR 6 v1))) fun v4 =>
 bindM (gdM (boolV (some v3)) false (rM (ld false 1 v4))) fun v5 =>
 bindM (gdM (boolV (some v3)) false (pM (lnS v5))) fun v6 =>
 bindM (gdM (boolV (some v3)) false (pM (faR 0 v1))) fun v7 =>
 bindM (gdM (boolV (some v3)) false (rM (ld false 1 v7))) fun v8 =>
 bindM (gdM (boolV (some v3)) false (F_record_Blocks N Φ [v8])) fun v9 =>
 chkM (match boolV (some v3) with | some x => cond (okB x false) (ckR (ld false 1 v4) v5) (fun _ => true) | none => fun _ => false) <|
 bindM (gdM (boolV (some v3)) false (pM (binR .sub .o none v9 (.i .i64 1)))) fun v10 =>
 bindM (gdM (boolV (some v3)) false (pM (binR .mul .o none v10 (.i .i64 64)))) fun v11 =>
 bindM (gdM (boolV (some v3)) false (pM (binR .neq .o none v6 v11))) fun v12 =>
 optM (pickR v3 (.b true) v12) fun v13 =>
 iteM (some v13) (
 pureM (.t [(.s []), (.i .i64 1)])
 ) (
 bindM (F_record_fields N Φ []) fun v14 =>
 optM (lnL v14) fun v15 =>
 lrM (
 loopM N (fun vs =>
 unc vs fun v16 vs =>
 unc vs fun v17 vs =>
 unc vs fun v18 vs =>
 unc vs fun v19 vs =>
 unc vs fun v20 vs =>
 unn vs <|
 optM (binR .lss .o none v20 v19) fun v21 =>
 iteM (some v21) (
 optM (iaL 4 v18 v20) fun v22 =>
 rdM (ld true 4 v22) fun v23 =>
 alM (alR 354 [(.i .i64 0), (.i .i64 0), (.i .i64 0), .nf]) fun v24 =>
 bindM (stR 4 v24 v23) fun v25 =>
 optM (faR 3 v24) fun v26 =>
 rdM (ld false 1 v26) fun v27 =>
 optM (faR 1 v24) fun v28 =>
 rdM (ld false 1 v28) fun v29 =>
 bindM (callF (tab_record_Encode N Φ) v27 [v16]) fun v30 =>
 chkM (ckR (ld false 1 v28) v29) <|
 optM (nilR v30) fun v31 =>
 rdM (ld false 1 v31) fun v32 =>
 bindM (F_nums_Put N Φ [v32, v29]) fun v33 =>
 optM (binR .add .o none v17 v33) fun v34 =>
 optM (binR .add .o none v20 (.i .i64 1)) fun v35 =>
 pureM (.nx [v16, v34, v18, v19, v35])
 ) (
 pureM (.ex 0 [v16, v17])
 )
 ) [v1, (.s [67, 66]), v14, v15, (.i .i64 0)])
 (fun vs =>
 failM)
 (fun id vs =>
 cond (Nat.beq id 0) (
 unc vs fun v36 vs =>
 unc vs fun v37 vs =>
 unn vs <|
 optM (faR 6 v36) fun v38 =>
 rdM (ld false 1 v38) fun v39 =>
 alM (bsR 2 1 (zeros [(.s [])] 2) [(0, v37), (1, v39)]) fun v40 =>
 bindM (F_crc_Sum N Φ [v40]) fun v41 =>
 optM (cvI .i64 v41) fun v42 =>
 bindM (F_nums_Put N Φ [v42, (.i .i64 4)]) fun v43 =>
 optM (binR .add .o none v37 v43) fun v44 =>
 optM (faR 6 v36) fun v45 =>
 rdM (ld false 1 v45) fun v46 =>
 bindM (F_xor_Zero N Φ [(.i .i64 39)]) fun v47 =>
 chkM (ckR (ld false 1 v45) v46) <|
 optM (binR .add .o none v44 v47) fun v48 =>
 optM (binR .add .o none v48 v46) fun v49 =>
 pureM (.t [v49, (.i .i64 0)])
 ) <|
 failM)
 (fun vs =>
 unc vs fun v50 vs =>
 unc vs fun v51 vs =>
 unn vs <|
 pureM (.t [v50, v51])
 )
 )
def an_record_Encode : An := (.two .n (.two (.two .n (.two (.two .n .n) .n)) (.two .n (.two (.two .n (.one (.loop [1, 4, 20, 21, 22] [(0, [1, 4])] [2, 3] (.two .n (.two (.two .n .n) (.two (.one (.two .n .n)) .n)))))) (.two .n (.two .n .n))))))

/-- corbel/mlog.encode -/
def tab_mlog_encode (N : Nat) (Φ : Calls') : Calls' := fun f => cond (Nat.beq f id_record_Encode) (some (F_record_Encode N Φ)) (Φ f)
def F_mlog_encode (N : Nat) (Φ : Calls') : List V → M V := fun args =>
 unc args fun a0 args =>
 unn args <|
 optM (lnL a0) fun v1 =>
 lrM (
 loopM N (fun vs =>
 unc vs fun v2 vs =>
 unc vs fun v3 vs =>
 unc vs fun v4 vs =>
 unc vs fun v5 vs =>
 unn vs <|
 optM (binR .lss .o none v5 v4) fun v6 =>
 iteM (some v6) (
 optM (iaL 7 v3 v5) fun v7 =>
 rdM (ld true 7 v7) fun v8 =>
 alM (alR 157 [(.i .i64 0), (.i .i64 0), (.i .i64 0), (.i .i64 0), (.i .i64 0), (.i .i64 0), (.s [])]) fun v9 =>
 bindM (stR 7 v9 v8) fun v10 =>
 optM (faR 0 v9) fun v11 =>
 rdM (ld false 1 v11) fun v12 =>
 optM (binR .eql .o none v12 (.i .i64 1)) fun v13 =>
 bindM (gdM (boolV (some v13)) false (pM (faR 0 v9))) fun v14 =>
 bindM (gdM (boolV (some v13)) false (rM (ld false 1 v14))) fun v15 =>
 bindM (gdM (boolV (some v13)) false (pM (binR .eql .o none v15 (.i .i64 2)))) fun v16 =>
 optM (pickR v13 (.b true) v16) fun v17 =>
 iteM (some v17) (
 pureM (.rt [(.s []), (.i .i64 1)])
 ) (
 rdM (ld true 7 v9) fun v18 =>
 bindM (F_record_Encode N Φ [v18]) fun v19 =>
 optM (exR 0 v19) fun v20 =>
 optM (exR 1 v19) fun v21 =>
 optM (binR .neq .o none v21 (.i .i64 0)) fun v22 =>
 iteM (some v22) (
 pureM (.rt [(.s []), v21])
 ) (
 optM (binR .add .o none v2 v20) fun v23 =>
 optM (binR .add .o none v5 (.i .i64 1)) fun v24 =>
 pureM (.nx [v23, v3, v4, v24])
 )
 )
 ) (
 pureM (.ex 0 [v2])
 )
 ) [(.s []), a0, v1, (.i .i64 0)])
 (fun vs =>
 failM)
 (fun id vs =>
 cond (Nat.beq id 0) (
 unc vs fun v25 vs =>
 unn vs <|
 pureM (.t [v25, (.i .i64 0)])
 ) <|
 failM)
 (fun vs =>
 unc vs fun v26 vs =>
 unc vs fun v27 vs =>
 unn vs <|
 pureM (.t [v26, v27])
 )
def an_mlog_encode : An := (.two .n (.two .n (.two (.two .n (.one (.loop [4, 9, 10, 11] [(0, [4])] [2, 3] (.two .n (.two (.two .n .n) (.two (.one (.two .n (.two (.two .n (.two (.two .n .n) .n)) (.two .n (.two (.two .n (.two (.two .n .n) .n)) .n))))) .n)))))) (.two .n .n))))

/-- (*corbel/rig.Rig).Blocks -/
def tab_rig_Rig_Blocks (N : Nat) (Φ : Calls') : Calls' := fun f => Φ f
def F_rig_Rig_Blocks (N : Nat) (Φ : Calls') : List V → M V := fun args =>
 unc args fun a0 args =>
 unn args <|
 optM (binR .eql .p none a0 .pn) fun v1 =>
 iteM (some v1) (
 pureM (.i .i64 0)
 ) (
 optM (nilR a0) fun v2 =>
 optM (faR 1 v2) fun v3 =>
 rdM (ld false 1 v3) fun v4 =>
 pureM v4
 )
def an_rig_Rig_Blocks : An := (.two .n (.two (.two .n (.two (.two .n .n) .n)) (.two .n .n)))

/-- (*corbel/mlog.Log).size -/
def tab_mlog_Log_size (N : Nat) (Φ : Calls') : Calls' := fun f => cond (Nat.beq f id_rig_Rig_Blocks) (some (F_rig_Rig_Blocks N Φ)) (Φ f)
def F_mlog_Log_size (N : Nat) (Φ : Calls') : List V → M V := fun args =>
 unc args fun a0 args =>
 unn args <|
 optM (nilR a0) fun v1 =>
 optM (faR 0 v1) fun v2 =>
 rdM (ld false 1 v2) fun v3 =>
 bindM (F_rig_Rig_Blocks N Φ [v3]) fun v4 =>
 pureM v4
def an_mlog_Log_size : An := (.two .n (.two .n .n))

/-- (*corbel/mlog.Log).ready -/
def tab_mlog_Log_ready (N : Nat) (Φ : Calls') : Calls' := fun f => cond (Nat.beq f id_mlog_encode) (some (F_mlog_encode N Φ)) (cond (Nat.beq f id_record_Encode) (some (F_record_Encode N Φ)) (cond (Nat.beq f id_mlog_Log_size) (some (F_mlog_Log_size N Φ)) (Φ f)))
def F_mlog_Log_ready (N : Nat) (Φ : Calls') : List V → M V := fun args =>
 unc args fun a0 args =>
 unc args fun a1 args =>
 unc args fun a2 args =>
 unc args fun a3 args =>
 unn args <|
 bindM (F_mlog_encode N Φ [a3]) fun v1 =>
 optM (exR 0 v1) fun v2 =>
 optM (exR 1 v1) fun v3 =>
 optM (binR .neq .o none v3 (.i .i64 0)) fun v4 =>
 iteM (some v4) (
 pureM (.t [(.s []), v3])
 ) (
 optM (bdR [(0, 1), (1, 1), (2, 1), (3, 1), (4, 1), (5, 1), (6, 1)] [(.i .i64 0), (.i .i64 0), (.i .i64 0), (.i .i64 0), (.i .i64 0), (.i .i64 0), (.s [])] [(0, (.i .i64 1)), (4, a2)]) fun v5 =>
 bindM (F_record_Encode N Φ [v5]) fun v6 =>
 optM (exR 0 v6) fun v7 =>
 optM (exR 1 v6) fun v8 =>
 optM (bdR [(0, 1), (1, 1), (2, 1), (3, 1), (4, 1), (5, 1), (6, 1)] [(.i .i64 0), (.i .i64 0), (.i .i64 0), (.i .i64 0), (.i .i64 0), (.i .i64 0), (.s [])] [(0, (.i .i64 2)), (4, a2)]) fun v9 =>
 bindM (F_record_Encode N Φ [v9]) fun v10 =>
 optM (exR 0 v10) fun v11 =>
 optM (exR 1 v10) fun v12 =>
 optM (binR .add .o none v7 v2) fun v13 =>
 optM (binR .add .o none v13 v11) fun v14 =>
 optM (lnS v14) fun v15 =>
 optM (binR .quo .o none v15 (.i .i64 64)) fun v16 =>
 bindM (F_mlog_Log_size N Φ [a0]) fun v17 =>
 optM (binR .gtr .o none v16 v17) fun v18 =>
 iteM (some v18) (
 pureM (.t [(.s []), (.i .i64 4)])
 ) (
 pureM (.t [v14, (.i .i64 0)])
 )
 )
def an_mlog_Log_ready : An := (.two .n (.two .n (.two (.two .n (.two (.two .n .n) .n)) (.two .n (.two .n (.two .n (.two (.two .n (.two (.two .n .n) .n)) (.two .n .n))))))))

/-- (*corbel/mlog.Log).lay -/
def tab_mlog_Log_lay (N : Nat) (Φ : Calls') : Calls' := fun f => cond (Nat.beq f id_rig_Rig_Flush) (some (F_rig_Rig_Flush N Φ)) (cond (Nat.beq f id_rig_Rig_Do) (some (F_rig_Rig_Do N Φ)) (cond (Nat.beq f id_mlog_Log_size) (some (F_mlog_Log_size N Φ)) (Φ f)))
def F_mlog_Log_lay (N : Nat) (Φ : Calls') : List V → M V := fun args =>
 unc args fun a0 args =>
 unc args fun a1 args =>
 unc args fun a2 args =>
 unc args fun a3 args =>
 unn args <|
 optM (nilR a0) fun v1 =>
 optM (faR 0 v1) fun v2 =>
 rdM (ld false 1 v2) fun v3 =>
 optM (nilR a0) fun v4 =>
 optM (faR 1 v4) fun v5 =>
 rdM (ld false 1 v5) fun v6 =>
 optM (bdR [(0, 1), (1, 1), (2, 1), (3, 1)] [(.i .i64 0), (.i .i64 0), (.i .i64 0), (.i .i64 0)] [(0, (.i .i64 3)), (1, a1)]) fun v7 =>
 bindM (F_rig_Rig_Do N Φ [v3, v6, v7, (.s [])]) fun v8 =>
 optM (exR 0 v8) fun v9 =>
 optM (exR 1 v8) fun v10 =>
 optM (exR 2 v8) fun v11 =>
 optM (binR .neq .o none v11 (.i .i64 0)) fun v12 =>
 iteM (some v12) (
 pureM v11
 ) (
 optM (lnS a3) fun v13 =>
 optM (binR .quo .o none v13 (.i .i64 64)) fun v14 =>
 optM (nilR a0) fun v15 =>
 optM (faR 0 v15) fun v16 =>
 rdM (ld false 1 v16) fun v17 =>
 optM (nilR a0) fun v18 =>
 optM (faR 1 v18) fun v19 =>
 rdM (ld false 1 v19) fun v20 =>
 optM (bdR [(0, 1), (1, 1), (2, 1), (3, 1)] [(.i .i64 0), (.i .i64 0), (.i .i64 0), (.i .i64 0)] [(0, (.i .i64 2)), (1, a1), (3, v14)]) fun v21 =>
 bindM (F_rig_Rig_Do N Φ [v17, v20, v21, a3]) fun v22 =>
 optM (exR 0 v22) fun v23 =>
 optM (exR 1 v22) fun v24 =>
 optM (exR 2 v22) fun v25 =>
 optM (binR .neq .o none v25 (.i .i64 0)) fun v26 =>
 iteM (some v26) (
 pureM v25
 ) (
 optM (nilR a0) fun v27 =>
 optM (faR 0 v27) fun v28 =>
 rdM (ld false 1 v28) fun v29 =>
 optM (nilR a0) fun v30 =>
 optM (faR 1 v30) fun v31 =>
 rdM (ld false 1 v31) fun v32 =>
 bindM (F_rig_Rig_Flush N Φ [v29, v32]) fun v33 =>
 optM (binR .neq .o none v33 (.i .i64 0)) fun v34 =>
 iteM (some v34) (
 pureM v33
 ) (
 bindM (F_mlog_Log_size N Φ [a0]) fun v35 =>
 optM (binR .sub .o none v35 v14) fun v36 =>
 optM (nilR a0) fun v37 =>
 optM (faR 2 v37) fun v38 =>
 bindM (stR 1 v38 a1) fun v39 =>
 optM (nilR a0) fun v40 =>
 optM (faR 3 v40) fun v41 =>
 bindM (stR 1 v41 a2) fun v42 =>
 optM (nilR a0) fun v43 =>
 optM (faR 4 v43) fun v44 =>
 bindM (stR 1 v44 v36) fun v45 =>
 optM (nilR a0) fun v46 =>
 optM (faR 5 v46) fun v47 =>
 bindM (stR 1 v47 (.b false)) fun v48 =>
 pureM (.i .i64 0)
 )
 )
 )
def an_mlog_Log_lay : An := (.two .n (.two (.two .n (.two .n (.two (.two .n .n) .n))) (.two .n (.two (.two .n (.two .n (.two (.two .n .n) .n))) (.two (.two .n (.two .n (.two (.two .n .n) .n))) (.two .n (.two .n .n)))))))

/-- (*corbel/mlog.Log).begin -/
def tab_mlog_Log_begin (N : Nat) (Φ : Calls') : Calls' := fun f => cond (Nat.beq f id_mlog_Log_ready) (some (F_mlog_Log_ready N Φ)) (cond (Nat.beq f id_mlog_Log_lay) (some (F_mlog_Log_lay N Φ)) (Φ f))
def F_mlog_Log_begin (N : Nat) (Φ : Calls') : List V → M V := fun args =>
 unc args fun a0 args =>
 unc args fun a1 args =>
 unc args fun a2 args =>
 unc args fun a3 args =>
 unn args <|
 bindM (F_mlog_Log_ready N Φ [a0, a1, a2, a3]) fun v1 =>
 optM (exR 0 v1) fun v2 =>
 optM (exR 1 v1) fun v3 =>
 lrM (
 optM (binR .eql .o none v3 (.i .i64 0)) fun v4 =>
 iteM (some v4) (
 bindM (F_mlog_Log_lay N Φ [a0, a1, a2, v2]) fun v5 =>
 pureM (.nx [v5])
 ) (
 pureM (.nx [v3])
 )
 )
 (fun vs =>
 unc vs fun v6 vs =>
 unn vs <|
 pureM v6
 )
 (fun id vs =>
 failM)
 (fun vs =>
 unc vs fun v7 vs =>
 unn vs <|
 pureM v7
 )
def an_mlog_Log_begin : An := (.two .n (.two .n (.two (.cut [10] [] [8] (.two .n (.two .n .n))) (.two .n .n))))

/-- (*corbel/mlog.Log).Roll -/
def tab_mlog_Log_Roll (N : Nat) (Φ : Calls') : Calls' := fun f => cond (Nat.beq f id_mlog_Log_begin) (some (F_mlog_Log_begin N Φ)) (Φ f)
def F_mlog_Log_Roll (N : Nat) (Φ : Calls') : List V → M V := fun args =>
 unc args fun a0 args =>
 unc args fun a1 args =>
 unn args <|
 optM (binR .eql .p none a0 .pn) fun v1 =>
 iteM (some v1) (
 pureM (.i .i64 1)
 ) (
 optM (nilR a0) fun v2 =>
 optM (faR 3 v2) fun v3 =>
 rdM (ld false 1 v3) fun v4 =>
 optM (binR .geq .o none v4 (.i .i64 1099511627776)) fun v5 =>
 iteM (some v5) (
 pureM (.i .i64 4)
 ) (
 optM (nilR a0) fun v6 =>
 optM (faR 2 v6) fun v7 =>
 rdM (ld false 1 v7) fun v8 =>
 optM (binR .sub .o none (.i .i64 1) v8) fun v9 =>
 optM (nilR a0) fun v10 =>
 optM (faR 3 v10) fun v11 =>
 rdM (ld false 1 v11) fun v12 =>
 optM (binR .add .o none v12 (.i .i64 1)) fun v13 =>
 bindM (F_mlog_Log_begin N Φ [a0, v9, v13, a1]) fun v14 =>
 pureM v14
 )
 )
def an_mlog_Log_Roll : An := (.two .n (.two (.one (.two .n (.two (.two .n .n) (.two .n (.two (.two .n .n) .n))))) (.two .n .n)))

/-- corbel/notes.Make -/
def tab_notes_Make (N : Nat) (Φ : Calls') : Calls' := fun f => cond (Nat.beq f id_record_Encode) (some (F_record_Encode N Φ)) (Φ f)
def F_notes_Make (N : Nat) (Φ : Calls') : List V → M V := fun args =>
 unc args fun a0 args =>
 unc args fun a1 args =>
 unc args fun a2 args =>
 unc args fun a3 args =>
 unn args <|
 alM (boxR a3) fun v1 =>
 alM (alR 157 [(.i .i64 0), (.i .i64 0), (.i .i64 0), (.i .i64 0), (.i .i64 0), (.i .i64 0), (.s [])]) fun v2 =>
 optM (faR 0 v1) fun v3 =>
 rdM (ld false 1 v3) fun v4 =>
 optM (faR 1 v1) fun v5 =>
 rdM (ld false 1 v5) fun v6 =>
 optM (faR 2 v1) fun v7 =>
 rdM (ld false 1 v7) fun v8 =>
 optM (bdR [(0, 1), (1, 1), (2, 1), (3, 1), (4, 1), (5, 1), (6, 1)] [(.i .i64 0), (.i .i64 0), (.i .i64 0), (.i .i64 0), (.i .i64 0), (.i .i64 0), (.s [])] [(0, (.i .i64 4)), (1, a0), (2, a1), (3, v4), (4, a2), (5, v6), (6, v8)]) fun v9 =>
 alM (alR 157 [(.i .i64 0), (.i .i64 0), (.i .i64 0), (.i .i64 0), (.i .i64 0), (.i .i64 0), (.s [])]) fun v10 =>
 bindM (stR 7 v10 v9) fun v11 =>
 rdM (ld true 7 v10) fun v12 =>
 bindM (F_record_Encode N Φ [v12]) fun v13 =>
 optM (exR 0 v13) fun v14 =>
 optM (exR 1 v13) fun v15 =>
 optM (binR .neq .o none v15 (.i .i64 0)) fun v16 =>
 iteM (some v16) (
 optM (bdR [(0, 1), (1, 1), (2, 1), (3, 1), (4, 1), (5, 1), (6, 1)] [(.i .i64 0), (.i .i64 0), (.i .i64 0), (.i .i64 0), (.i .i64 0), (.i .i64 0), (.s [])] []) fun v17 =>
 bindM (stR 7 v2 v17) fun v18 =>
 rdM (ld true 7 v2) fun v19 =>
 pureM (.t [v19, v15])
 ) (
 rdM (ld true 7 v10) fun v20 =>
 bindM (stR 7 v2 v20) fun v21 =>
 rdM (ld true 7 v2) fun v22 =>
 pureM (.t [v22, (.i .i64 0)])
 )
def an_notes_Make : An := (.two .n (.two .n (.two (.two .n (.two .n (.two (.two .n .n) .n))) (.two .n .n))))

/-- (*corbel/array.Array).noted -/
def tab_array_Array_noted (N : Nat) (Φ : Calls') : Calls' := fun f => cond (Nat.beq f id_notes_Make) (some (F_notes_Make N Φ)) (Φ f)
def F_array_Array_noted (N : Nat) (Φ : Calls') : List V → M V := fun args =>
 unc args fun a0 args =>
 unc args fun a1 args =>
 unc args fun a2 args =>
 unc args fun a3 args =>
 unn args <|
 alM (boxR a3) fun v1 =>
 alM (alR 157 [(.i .i64 0), (.i .i64 0), (.i .i64 0), (.i .i64 0), (.i .i64 0), (.i .i64 0), (.s [])]) fun v2 =>
 optM (nilR a0) fun v3 =>
 optM (faR 6 v3) fun v4 =>
 optM (faR 0 v4) fun v5 =>
 rdM (ld false 1 v5) fun v6 =>
 optM (binR .add .o none v6 (.i .i64 1)) fun v7 =>
 optM (nilR a0) fun v8 =>
 optM (faR 6 v8) fun v9 =>
 optM (faR 0 v9) fun v10 =>
 bindM (stR 1 v10 v7) fun v11 =>
 optM (nilR a0) fun v12 =>
 optM (faR 6 v12) fun v13 =>
 optM (faR 0 v13) fun v14 =>
 rdM (ld false 1 v14) fun v15 =>
 rdM (ld true 3 v1) fun v16 =>
 alM (alR 157 [(.i .i64 0), (.i .i64 0), (.i .i64 0), (.i .i64 0), (.i .i64 0), (.i .i64 0), (.s [])]) fun v17 =>
 bindM (F_notes_Make N Φ [v15, a1, a2, v16]) fun v18 =>
 chkM (ckA (alR 157 [(.i .i64 0), (.i .i64 0), (.i .i64 0), (.i .i64 0), (.i .i64 0), (.i .i64 0), (.s [])]) v17) <|
 optM (exR 0 v18) fun v19 =>
 optM (exR 1 v18) fun v20 =>
 bindM (stR 7 v17 v19) fun v21 =>
 rdM (ld true 7 v17) fun v22 =>
 bindM (stR 7 v2 v22) fun v23 =>
 rdM (ld true 7 v2) fun v24 =>
 pureM v24
def an_array_Array_noted : An := (.two .n (.two .n (.two .n (.two .n .n))))

/-- (corbel/stripe.Row).Count -/
def tab_stripe_Row_Count (N : Nat) (Φ : Calls') : Calls' := fun f => Φ f
def F_stripe_Row_Count (N : Nat) (Φ : Calls') : List V → M V := fun args =>
 unc args fun a0 args =>
 unn args <|
 alM (boxR a0) fun v1 =>
 optM (faR 1 v1) fun v2 =>
 rdM (ld false 1 v2) fun v3 =>
 optM (lnL v3) fun v4 =>
 pureM v4
def an_stripe_Row_Count : An := (.two .n (.two .n .n))

/-- (corbel/array.line).note -/
def tab_array_line_note (N : Nat) (Φ : Calls') : Calls' := fun f => cond (Nat.beq f id_stripe_Row_Parity) (some (F_stripe_Row_Parity N Φ)) (cond (Nat.beq f id_stripe_Row_Count) (some (F_stripe_Row_Count N Φ)) (Φ f))
def F_array_line_note (N : Nat) (Φ : Calls') : List V → M V := fun args =>
 unc args fun a0 args =>
 unn args <|
 alM (boxR a0) fun v1 =>
 alM (alR 180 [(.i .i64 0), (.i .i64 0), (.s [])]) fun v2 =>
 optM (faR 0 v1) fun v3 =>
 rdM (ld false 1 v3) fun v4 =>
 optM (faR 1 v1) fun v5 =>
 rdM (ld true 2 v5) fun v6 =>
 optM (faR 1 v1) fun v7 =>
 rdM (ld true 2 v7) fun v8 =>
 bindM (F_stripe_Row_Count N Φ [v6]) fun v9 =>
 chkM (ckR (ld true 2 v7) v8) <|
 chkM (ckR (ld false 1 v3) v4) <|
 bindM (F_stripe_Row_Parity N Φ [v8]) fun v10 =>
 chkM (ckR (ld false 1 v3) v4) <|
 optM (bdR [(0, 1), (1, 1), (2, 1)] [(.i .i64 0), (.i .i64 0), (.s [])] [(0, v4), (1, v9), (2, v10)]) fun v11 =>
 bindM (stR 3 v2 v11) fun v12 =>
 rdM (ld true 3 v2) fun v13 =>
 pureM v13
def an_array_line_note : An := (.two .n (.two .n .n))

/-- (*corbel/array.Array).remarked -/
def tab_array_Array_remarked (N : Nat) (Φ : Calls') : Calls' := fun f => cond (Nat.beq f id_array_Array_noted) (some (F_array_Array_noted N Φ)) (cond (Nat.beq f id_array_line_note) (some (F_array_line_note N Φ)) (Φ f))
def F_array_Array_remarked (N : Nat) (Φ : Calls') : List V → M V := fun args =>
 unc args fun a0 args =>
 unc args fun a1 args =>
 unn args <|
 alM (alR 157 [(.i .i64 0), (.i .i64 0), (.i .i64 0), (.i .i64 0), (.i .i64 0), (.i .i64 0), (.s [])]) fun v1 =>
 optM (nilR a0) fun v2 =>
 optM (faR 6 v2) fun v3 =>
 optM (faR 1 v3) fun v4 =>
 rdM (ld false 1 v4) fun v5 =>
 optM (iaL 3 v5 a1) fun v6 =>
 optM (faR 1 v6) fun v7 =>
 rdM (ld false 1 v7) fun v8 =>
 optM (nilR a0) fun v9 =>
 optM (faR 13 v9) fun v10 =>
 rdM (ld false 1 v10) fun v11 =>
 optM (iaL 3 v11 a1) fun v12 =>
 rdM (ld true 3 v12) fun v13 =>
 bindM (F_array_line_note N Φ [v13]) fun v14 =>
 chkM (ckR (ld false 1 v7) v8) <|
 chkM (ckR (ld false 1 v4) v5) <|
 bindM (F_array_Array_noted N Φ [a0, a1, v8, v14]) fun v15 =>
 bindM (stR 7 v1 v15) fun v16 =>
 rdM (ld true 7 v1) fun v17 =>
 pureM v17
def an_array_Array_remarked : An := (.two .n (.two .n .n))

/-- (*corbel/array.Array).notes -/
def tab_array_Array_notes (N : Nat) (Φ : Calls') : Calls' := fun f => cond (Nat.beq f id_array_Array_has) (some (F_array_Array_has N Φ)) (cond (Nat.beq f id_geom_Parity) (some (F_geom_Parity N Φ)) (cond (Nat.beq f id_array_Array_remarked) (some (F_array_Array_remarked N Φ)) (cond (Nat.beq f id_stripe_Row_Count) (some (F_stripe_Row_Count N Φ)) (cond (Nat.beq f id_array_Array_noted) (some (F_array_Array_noted N Φ)) (Φ f)))))
def F_array_Array_notes (N : Nat) (Φ : Calls') : List V → M V := fun args =>
 unc args fun a0 args =>
 unc args fun a1 args =>
 unn args <|
 optM (nilR a0) fun v1 =>
 optM (faR 13 v1) fun v2 =>
 rdM (ld false 1 v2) fun v3 =>
 optM (lnL v3) fun v4 =>
 lrM (
 loopM N (fun vs =>
 unc vs fun v5 vs =>
 unc vs fun v6 vs =>
 unc vs fun v7 vs =>
 unc vs fun v8 vs =>
 unc vs fun v9 vs =>
 unc vs fun v10 vs =>
 unn vs <|
 optM (binR .lss .o none v10 v9) fun v11 =>
 iteM (some v11) (
 lrM (
 optM (iaL 3 v8 v10) fun v12 =>
 rdM (ld true 3 v12) fun v13 =>
 alM (alR 141 [(.i .i64 0), (.i .i64 0), .ns]) fun v14 =>
 bindM (stR 3 v14 v13) fun v15 =>
 optM (nilR v5) fun v16 =>
 optM (faR 6 v16) fun v17 =>
 optM (faR 1 v17) fun v18 =>
 rdM (ld false 1 v18) fun v19 =>
 optM (iaL 3 v19 v10) fun v20 =>
 optM (faR 0 v20) fun v21 =>
 rdM (ld false 1 v21) fun v22 =>
 bindM (F_array_Array_has N Φ [v5, v6, v22]) fun v23 =>
 optM (unV .not v23) fun v24 =>
 iteM (some v24) (
 pureM (.nx [v5, v6, v7, v8, v9, v10])
 ) (
 lrM (
 optM (nilR v5) fun v25 =>
 optM (faR 14 v25) fun v26 =>
 rdM (ld false 1 v26) fun v27 =>
 rdM (lkR (.one .i) (.g [(.i .i64 0), (.i .i64 0), (.s [])]) true v27 v10) fun v28 =>
 optM (exR 0 v28) fun v29 =>
 optM (exR 1 v28) fun v30 =>
 alM (alR 180 [(.i .i64 0), (.i .i64 0), (.s [])]) fun v31 =>
 bindM (stR 3 v31 v29) fun v32 =>
 bindM (gdM (boolV (some v30)) true (pM (some v5))) fun v33 =>
 bindM (gdM (boolV (some v30)) true (pM (nilR v33))) fun v34 =>
 bindM (gdM (boolV (some v30)) true (pM (faR 1 v34))) fun v35 =>
 bindM (gdM (boolV (some v30)) true (rM (ld true 5 v35))) fun v36 =>
 bindM (gdM (boolV (some v30)) true (pM (some v10))) fun v37 =>
 bindM (gdM (boolV (some v30)) true (pM (faR 0 v31))) fun v38 =>
 bindM (gdM (boolV (some v30)) true (rM (ld false 1 v38))) fun v39 =>
 bindM (gdM (boolV (some v30)) true (pM (some v6))) fun v40 =>
 bindM (gdM (boolV (some v30)) true (F_geom_Parity N Φ [v36, v37, v39])) fun v41 =>
 bindM (gdM (boolV (some v30)) true (pM (binR .eql .o none v41 v40))) fun v42 =>
 optM (pickR v30 v42 (.b false)) fun v43 =>
 iteM (some v43) (
 optM (nilR v5) fun v44 =>
 optM (faR 6 v44) fun v45 =>
 optM (faR 1 v45) fun v46 =>
 rdM (ld false 1 v46) fun v47 =>
 optM (iaL 3 v47 v10) fun v48 =>
 optM (faR 1 v48) fun v49 =>
 rdM (ld false 1 v49) fun v50 =>
 rdM (ld true 3 v31) fun v51 =>
 bindM (F_array_Array_noted N Φ [v5, v10, v50, v51]) fun v52 =>
 alM (bsR 1 7 (zeros [(.i .i64 0), (.i .i64 0), (.i .i64 0), (.i .i64 0), (.i .i64 0), (.i .i64 0), (.s [])] 7) [(0, v52)]) fun v53 =>
 bindM (apR 157 7 64 (srL 7 v53) v7) fun v54 =>
 pureM (.nx [v5, v6, v54, v10, v14, v8, v9, v10])
 ) (
 pureM (.nx [v5, v6, v7, v10, v14, v8, v9, v10])
 )
 )
 (fun vs =>
 unc vs fun v55 vs =>
 unc vs fun v56 vs =>
 unc vs fun v57 vs =>
 unc vs fun v58 vs =>
 unc vs fun v59 vs =>
 unc vs fun v60 vs =>
 unc vs fun v61 vs =>
 unc vs fun v62 vs =>
 unn vs <|
 optM (faR 1 v59) fun v63 =>
 rdM (ld true 2 v63) fun v64 =>
 bindM (F_stripe_Row_Count N Φ [v64]) fun v65 =>
 optM (binR .gtr .o none v65 (.i .i64 0)) fun v66 =>
 bindM (gdM (boolV (some v66)) true (pM (some v55))) fun v67 =>
 bindM (gdM (boolV (some v66)) true (pM (nilR v67))) fun v68 =>
 bindM (gdM (boolV (some v66)) true (pM (faR 1 v68))) fun v69 =>
 bindM (gdM (boolV (some v66)) true (rM (ld true 5 v69))) fun v70 =>
 bindM (gdM (boolV (some v66)) true (pM (some v58))) fun v71 =>
 bindM (gdM (boolV (some v66)) true (pM (faR 0 v59))) fun v72 =>
 bindM (gdM (boolV (some v66)) true (rM (ld false 1 v72))) fun v73 =>
 bindM (gdM (boolV (some v66)) true (pM (some v56))) fun v74 =>
 bindM (gdM (boolV (some v66)) true (F_geom_Parity N Φ [v70, v71, v73])) fun v75 =>
 bindM (gdM (boolV (some v66)) true (pM (binR .eql .o none v75 v74))) fun v76 =>
 optM (pickR v66 v76 (.b false)) fun v77 =>
 iteM (some v77) (
 bindM (F_array_Array_remarked N Φ [v55, v58]) fun v78 =>
 alM (bsR 1 7 (zeros [(.i .i64 0), (.i .i64 0), (.i .i64 0), (.i .i64 0), (.i .i64 0), (.i .i64 0), (.s [])] 7) [(0, v78)]) fun v79 =>
 bindM (apR 157 7 64 (srL 7 v79) v57) fun v80 =>
 pureM (.nx [v55, v56, v80, v60, v61, v62])
 ) (
 pureM (.nx [v55, v56, v57, v60, v61, v62])
 )
 )
 (fun id vs =>
 failM)
 (fun vs =>
 unc vs fun v81 vs =>
 unn vs <|
 pureM (.rt [v81])
 )
 )
 )
 (fun vs =>
 unc vs fun v82 vs =>
 unc vs fun v83 vs =>
 unc vs fun v84 vs =>
 unc vs fun v85 vs =>
 unc vs fun v86 vs =>
 unc vs fun v87 vs =>
 unn vs <|
 optM (binR .add .o none v87 (.i .i64 1)) fun v88 =>
 pureM (.nx [v82, v83, v84, v85, v86, v88])
 )
 (fun id vs =>
 failM)
 (fun vs =>
 unc vs fun v89 vs =>
 unn vs <|
 pureM (.rt [v89])
 )
 ) (
 pureM (.ex 0 [v7])
 )
 ) [a0, a1, .ns, v3, v4, (.i .i64 0)])
 (fun vs =>
 failM)
 (fun id vs =>
 cond (Nat.beq id 0) (
 unc vs fun v90 vs =>
 unn vs <|
 pureM v90
 ) <|
 failM)
 (fun vs =>
 unc vs fun v91 vs =>
 unn vs <|
 pureM v91
 )
def an_array_Array_notes : An := (.two .n (.two .n (.two (.two .n (.one (.loop [0, 1, 5, 13, 14, 15] [(0, [5])] [4] (.two .n (.two (.two .n .n) (.two (.cut [0, 1, 5, 13, 14, 15] [] [4] (.one (.two .n (.two (.two .n (.two .n .n)) (.two (.cut [0, 1, 5, 6, 7, 13, 14, 15] [] [4] (.two .n (.two .n (.two .n .n)))) (.two .n (.two .n .n))))))) .n)))))) (.two .n .n))))

/-- (*corbel/array.Array).roll -/
def tab_array_Array_roll (N : Nat) (Φ : Calls') : Calls' := fun f => cond (Nat.beq f id_array_Array_alive) (some (F_array_Array_alive N Φ)) (cond (Nat.beq f id_array_Array_flush) (some (F_array_Array_flush N Φ)) (cond (Nat.beq f id_book_Book_Records) (some (F_book_Book_Records N Φ)) (cond (Nat.beq f id_array_Array_met) (some (F_array_Array_met N Φ)) (cond (Nat.beq f id_mlog_Log_Roll) (some (F_mlog_Log_Roll N Φ)) (cond (Nat.beq f id_array_Array_notes) (some (F_array_Array_notes N Φ)) (Φ f))))))
def F_array_Array_roll (N : Nat) (Φ : Calls') : List V → M V := fun args =>
 unc args fun a0 args =>
 unc args fun a1 args =>
 unn args <|
 bindM (F_array_Array_flush N Φ [a0]) fun v1 =>
 optM (binR .neq .o none v1 (.i .i64 0)) fun v2 =>
 bindM (gdM (boolV (some v2)) false (pM (some a0))) fun v3 =>
 bindM (gdM (boolV (some v2)) false (pM (some a1))) fun v4 =>
 bindM (gdM (boolV (some v2)) false (F_array_Array_alive N Φ [v3, v4])) fun v5 =>
 bindM (gdM (boolV (some v2)) false (pM (unV .not v5))) fun v6 =>
 optM (pickR v2 (.b true) v6) fun v7 =>
 iteM (some v7) (
 pureM v1
 ) (
 optM (nilR a0) fun v8 =>
 optM (faR 6 v8) fun v9 =>
 rdM (ld true 5 v9) fun v10 =>
 bindM (F_book_Book_Records N Φ [v10]) fun v11 =>
 optM (exR 0 v11) fun v12 =>
 optM (exR 1 v11) fun v13 =>
 alM (alR 66 [(.i .i64 0), .ns, .ns, (.i .i64 0), (.i .i64 0)]) fun v14 =>
 bindM (stR 5 v14 v13) fun v15 =>
 rdM (ld true 5 v14) fun v16 =>
 optM (nilR a0) fun v17 =>
 optM (faR 6 v17) fun v18 =>
 bindM (stR 5 v18 v16) fun v19 =>
 optM (nilR a0) fun v20 =>
 optM (faR 11 v20) fun v21 =>
 rdM (ld false 1 v21) fun v22 =>
 optM (nilR a0) fun v23 =>
 optM (faR 6 v23) fun v24 =>
 optM (faR 2 v24) fun v25 =>
 rdM (ld false 1 v25) fun v26 =>
 optM (iaL 1 v26 a1) fun v27 =>
 rdM (ld false 1 v27) fun v28 =>
 rdM (lkR (.one .i) .pn false v22 v28) fun v29 =>
 bindM (F_array_Array_notes N Φ [a0, a1]) fun v30 =>
 chkM (ckR (lkR (.one .i) .pn false v22 v28) v29) <|
 chkM (ckR (ld false 1 v27) v28) <|
 chkM (ckR (ld false 1 v25) v26) <|
 chkM (ckR (ld false 1 v21) v22) <|
 bindM (apR 157 7 64 (srL 7 v30) v12) fun v31 =>
 chkM (ckR (lkR (.one .i) .pn false v22 v28) v29) <|
 chkM (ckR (ld false 1 v27) v28) <|
 chkM (ckR (ld false 1 v25) v26) <|
 chkM (ckR (ld false 1 v21) v22) <|
 bindM (F_mlog_Log_Roll N Φ [v29, v31]) fun v32 =>
 optM (binR .neq .o none v32 (.i .i64 0)) fun v33 =>
 iteM (some v33) (
 bindM (F_array_Array_met N Φ [a0, a1, v32]) fun v34 =>
 pureM v34
 ) (
 pureM (.i .i64 0)
 )
 )
def an_array_Array_roll : An := (.two .n (.two (.two .n (.two .n (.two (.two .n .n) .n))) (.two .n (.two .n (.two (.two .n (.two .n (.two (.two .n .n) .n))) (.two .n .n))))))

/-- (*corbel/mlog.Log).Left -/
def tab_mlog_Log_Left (N : Nat) (Φ : Calls') : Calls' := fun f => Φ f
def F_mlog_Log_Left (N : Nat) (Φ : Calls') : List V → M V := fun args =>
 unc args fun a0 args =>
 unn args <|
 optM (binR .eql .p none a0 .pn) fun v1 =>
 bindM (gdM (boolV (some v1)) false (pM (some a0))) fun v2 =>
 bindM (gdM (boolV (some v1)) false (pM (nilR v2))) fun v3 =>
 bindM (gdM (boolV (some v1)) false (pM (faR 5 v3))) fun v4 =>
 bindM (gdM (boolV (some v1)) false (rM (ld false 1 v4))) fun v5 =>
 optM (pickR v1 (.b true) v5) fun v6 =>
 iteM (some v6) (
 pureM (.i .i64 0)
 ) (
 optM (nilR a0) fun v7 =>
 optM (faR 4 v7) fun v8 =>
 rdM (ld false 1 v8) fun v9 =>
 pureM v9
 )
def an_mlog_Log_Left : An := (.two .n (.two (.two .n (.two (.two .n .n) .n)) (.two .n .n)))

/-- (*corbel/mlog.Log).Append -/
def tab_mlog_Log_Append (N : Nat) (Φ : Calls') : Calls' := fun f => cond (Nat.beq f id_rig_Rig_Do) (some (F_rig_Rig_Do N Φ)) (cond (Nat.beq f id_mlog_encode) (some (F_mlog_encode N Φ)) (cond (Nat.beq f id_mlog_Log_Left) (some (F_mlog_Log_Left N Φ)) (Φ f)))
def F_mlog_Log_Append (N : Nat) (Φ : Calls') : List V → M V := fun args =>
 unc args fun a0 args =>
 unc args fun a1 args =>
 unn args <|
 alM (boxR a1) fun v1 =>
 optM (binR .eql .p none a0 .pn) fun v2 =>
 iteM (some v2) (
 pureM (.i .i64 1)
 ) (
 rdM (ld true 7 v1) fun v3 =>
 alM (bsR 1 7 (zeros [(.i .i64 0), (.i .i64 0), (.i .i64 0), (.i .i64 0), (.i .i64 0), (.i .i64 0), (.s [])] 7) [(0, v3)]) fun v4 =>
 bindM (F_mlog_encode N Φ [v4]) fun v5 =>
 optM (exR 0 v5) fun v6 =>
 optM (exR 1 v5) fun v7 =>
 optM (binR .neq .o none v7 (.i .i64 0)) fun v8 =>
 iteM (some v8) (
 pureM v7
 ) (
 optM (lnS v6) fun v9 =>
 optM (binR .quo .o none v9 (.i .i64 64)) fun v10 =>
 bindM (F_mlog_Log_Left N Φ [a0]) fun v11 =>
 optM (binR .gtr .o none v10 v11) fun v12 =>
 iteM (some v12) (
 pureM (.i .i64 4)
 ) (
 optM (nilR a0) fun v13 =>
 optM (faR 0 v13) fun v14 =>
 rdM (ld false 1 v14) fun v15 =>
 optM (nilR a0) fun v16 =>
 optM (faR 1 v16) fun v17 =>
 rdM (ld false 1 v17) fun v18 =>
 optM (nilR a0) fun v19 =>
 optM (faR 2 v19) fun v20 =>
 rdM (ld false 1 v20) fun v21 =>
 optM (bdR [(0, 1), (1, 1), (2, 1), (3, 1)] [(.i .i64 0), (.i .i64 0), (.i .i64 0), (.i .i64 0)] [(0, (.i .i64 2)), (1, v21), (3, v10)]) fun v22 =>
 bindM (F_rig_Rig_Do N Φ [v15, v18, v22, v6]) fun v23 =>
 optM (exR 0 v23) fun v24 =>
 optM (exR 1 v23) fun v25 =>
 optM (exR 2 v23) fun v26 =>
 optM (binR .neq .o none v26 (.i .i64 0)) fun v27 =>
 iteM (some v27) (
 pureM v26
 ) (
 optM (nilR a0) fun v28 =>
 optM (faR 4 v28) fun v29 =>
 rdM (ld false 1 v29) fun v30 =>
 optM (binR .sub .o none v30 v10) fun v31 =>
 optM (nilR a0) fun v32 =>
 optM (faR 4 v32) fun v33 =>
 bindM (stR 1 v33 v31) fun v34 =>
 pureM (.i .i64 0)
 )
 )
 )
 )
def an_mlog_Log_Append : An := (.two .n (.two (.two .n (.two (.two .n .n) .n)) (.two .n (.two (.two .n (.two (.two .n .n) .n)) (.two .n (.two (.two .n (.two (.two .n .n) .n)) (.two (.two .n (.two .n (.two (.two .n .n) .n))) (.two .n (.two .n .n)))))))))

/-- (*corbel/array.Array).note -/
def tab_array_Array_note (N : Nat) (Φ : Calls') : Calls' := fun f => cond (Nat.beq f id_array_Array_alive) (some (F_array_Array_alive N Φ)) (cond (Nat.beq f id_array_Array_met) (some (F_array_Array_met N Φ)) (cond (Nat.beq f id_array_Array_roll) (some (F_array_Array_roll N Φ)) (cond (Nat.beq f id_mlog_Log_Append) (some (F_mlog_Log_Append N Φ)) (Φ f))))
def F_array_Array_note (N : Nat) (Φ : Calls') : List V → M V := fun args =>
 unc args fun a0 args =>
 unc args fun a1 args =>
 unc args fun a2 args =>
 unn args <|
 alM (boxR a2) fun v1 =>
 optM (nilR a0) fun v2 =>
 optM (faR 11 v2) fun v3 =>
 rdM (ld false 1 v3) fun v4 =>
 optM (nilR a0) fun v5 =>
 optM (faR 6 v5) fun v6 =>
 optM (faR 2 v6) fun v7 =>
 rdM (ld false 1 v7) fun v8 =>
 optM (iaL 1 v8 a1) fun v9 =>
 rdM (ld false 1 v9) fun v10 =>
 rdM (lkR (.one .i) .pn false v4 v10) fun v11 =>
 rdM (ld true 7 v1) fun v12 =>
 bindM (F_mlog_Log_Append N Φ [v11, v12]) fun v13 =>
 lrM (
 optM (binR .eql .o none v13 (.i .i64 4)) fun v14 =>
 iteM (some v14) (
 bindM (F_array_Array_roll N Φ [a0, a1]) fun v15 =>
 optM (binR .neq .o none v15 (.i .i64 0)) fun v16 =>
 bindM (gdM (boolV (some v16)) false (pM (some a0))) fun v17 =>
 bindM (gdM (boolV (some v16)) false (pM (some a1))) fun v18 =>
 bindM (gdM (boolV (some v16)) false (F_array_Array_alive N Φ [v17, v18])) fun v19 =>
 bindM (gdM (boolV (some v16)) false (pM (unV .not v19))) fun v20 =>
 optM (pickR v16 (.b true) v20) fun v21 =>
 iteM (some v21) (
 pureM (.rt [v15])
 ) (
 rdM (ld true 7 v1) fun v22 =>
 bindM (F_mlog_Log_Append N Φ [v11, v22]) fun v23 =>
 pureM (.nx [a0, a1, v23])
 )
 ) (
 pureM (.nx [a0, a1, v13])
 )
 )
 (fun vs =>
 unc vs fun v24 vs =>
 unc vs fun v25 vs =>
 unc vs fun v26 vs =>
 unn vs <|
 optM (binR .neq .o none v26 (.i .i64 0)) fun v27 =>
 iteM (some v27) (
 bindM (F_array_Array_met N Φ [v24, v25, v26]) fun v28 =>
 pureM v28
 ) (
 pureM (.i .i64 0)
 )
 )
 (fun id vs =>
 failM)
 (fun vs =>
 unc vs fun v29 vs =>
 unn vs <|
 pureM v29
 )
def an_array_Array_note : An := (.two .n (.two .n (.two .n (.two (.cut [0, 1, 8] [] [6] (.two .n (.two (.two (.two .n (.two .n (.two (.two .n .n) .n))) .n) .n))) (.two (.two .n (.two (.two .n .n) .n)) (.two .n .n))))))

/-- (*corbel/array.Array).remark -/
def tab_array_Array_remark (N : Nat) (Φ : Calls') : Calls' := fun f => cond (Nat.beq f id_array_Array_has) (some (F_array_Array_has N Φ)) (cond (Nat.beq f id_array_Array_note) (some (F_array_Array_note N Φ)) (cond (Nat.beq f id_array_Array_remarked) (some (F_array_Array_remarked N Φ)) (Φ f)))
def F_array_Array_remark (N : Nat) (Φ : Calls') : List V → M V := fun args =>
 unc args fun a0 args =>
 unc args fun a1 args =>
 unc args fun a2 args =>
 unn args <|
 optM (nilR a0) fun v1 =>
 optM (faR 6 v1) fun v2 =>
 optM (faR 1 v2) fun v3 =>
 rdM (ld false 1 v3) fun v4 =>
 optM (iaL 3 v4 a1) fun v5 =>
 optM (faR 0 v5) fun v6 =>
 rdM (ld false 1 v6) fun v7 =>
 bindM (F_array_Array_has N Φ [a0, a2, v7]) fun v8 =>
 optM (unV .not v8) fun v9 =>
 iteM (some v9) (
 pureM (.i .i64 0)
 ) (
 bindM (F_array_Array_remarked N Φ [a0, a1]) fun v10 =>
 bindM (F_array_Array_note N Φ [a0, a2, v10]) fun v11 =>
 pureM v11
 )
def an_array_Array_remark : An := (.two .n (.two (.two .n (.two (.two .n .n) .n)) (.two .n .n)))

/-- (*corbel/array.Array).write -/
def tab_array_Array_write (N : Nat) (Φ : Calls') : Calls' := fun f => cond (Nat.beq f id_plan_Write) (some (F_plan_Write N Φ)) (cond (Nat.beq f id_stripe_Row_Add) (some (F_stripe_Row_Add N Φ)) (cond (Nat.beq f id_array_Array_lay) (some (F_array_Array_lay N Φ)) (cond (Nat.beq f id_stripe_Row_Parity) (some (F_stripe_Row_Parity N Φ)) (cond (Nat.beq f id_array_Array_begin) (some (F_array_Array_begin N Φ)) (cond (Nat.beq f id_array_Array_remark) (some (F_array_Array_remark N Φ)) (Φ f))))))
def F_array_Array_write (N : Nat) (Φ : Calls') : List V → M V := fun args =>
 unc args fun a0 args =>
 unc args fun a1 args =>
 unc args fun a2 args =>
 unc args fun a3 args =>
 unn args <|
 optM (nilR a0) fun v1 =>
 optM (faR 1 v1) fun v2 =>
 rdM (ld true 5 v2) fun v3 =>
 optM (lnS a3) fun v4 =>
 optM (binR .quo .o none v4 (.i .i64 64)) fun v5 =>
 bindM (F_plan_Write N Φ [v3, a1, a2, v5]) fun v6 =>
 optM (exR 0 v6) fun v7 =>
 optM (exR 1 v6) fun v8 =>
 optM (binR .neq .o none v8 (.i .i64 0)) fun v9 =>
 iteM (some v9) (
 pureM v8
 ) (
 optM (nilR a0) fun v10 =>
 optM (faR 6 v10) fun v11 =>
 optM (faR 1 v11) fun v12 =>
 rdM (ld false 1 v12) fun v13 =>
 optM (iaL 3 v13 a1) fun v14 =>
 optM (faR 0 v14) fun v15 =>
 rdM (ld false 1 v15) fun v16 =>
 optM (lnL v7) fun v17 =>
 lrM (
 loopM N (fun vs =>
 unc vs fun v18 vs =>
 unc vs fun v19 vs =>
 unc vs fun v20 vs =>
 unc vs fun v21 vs =>
 unc vs fun v22 vs =>
 unc vs fun v23 vs =>
 unc vs fun v24 vs =>
 unc vs fun v25 vs =>
 unn vs <|
 optM (binR .lss .o none v25 v24) fun v26 =>
 iteM (some v26) (
 optM (iaL 5 v23 v25) fun v27 =>
 rdM (ld true 5 v27) fun v28 =>
 alM (alR 136 [(.i .i64 0), (.i .i64 0), (.i .i64 0), (.i .i64 0), (.i .i64 0)]) fun v29 =>
 bindM (stR 5 v29 v28) fun v30 =>
 optM (nilR v18) fun v31 =>
 optM (faR 13 v31) fun v32 =>
 rdM (ld false 1 v32) fun v33 =>
 optM (iaL 3 v33 v19) fun v34 =>
 lrM (
 optM (faR 0 v29) fun v35 =>
 rdM (ld false 1 v35) fun v36 =>
 optM (binR .eql .o none v36 (.i .i64 1)) fun v37 =>
 iteM (some v37) (
 optM (slS v20 none (some (.i .i64 64)) none) fun v38 =>
 optM (slS v20 (some (.i .i64 64)) none none) fun v39 =>
 optM (nilR v34) fun v40 =>
 optM (faR 1 v40) fun v41 =>
 rdM (ld true 2 v41) fun v42 =>
 bindM (F_stripe_Row_Add N Φ [v42, v38]) fun v43 =>
 optM (exR 0 v43) fun v44 =>
 optM (exR 1 v43) fun v45 =>
 optM (nilR v34) fun v46 =>
 optM (faR 1 v46) fun v47 =>
 bindM (stR 2 v47 v44) fun v48 =>
 optM (faR 1 v29) fun v49 =>
 rdM (ld false 1 v49) fun v50 =>
 bindM (F_array_Array_lay N Φ [v18, v50, v22, v38]) fun v51 =>
 pureM (.nx [v18, v19, v39, v51, v22, v23, v24, v25])
 ) (
 optM (binR .eql .o none v36 (.i .i64 2)) fun v52 =>
 iteM (some v52) (
 optM (nilR v34) fun v53 =>
 optM (faR 1 v53) fun v54 =>
 rdM (ld true 2 v54) fun v55 =>
 bindM (F_stripe_Row_Parity N Φ [v55]) fun v56 =>
 optM (faR 2 v29) fun v57 =>
 rdM (ld false 1 v57) fun v58 =>
 optM (binR .add .o none v58 (.i .i64 1)) fun v59 =>
 bindM (F_array_Array_begin N Φ [v18, v59]) fun v60 =>
 optM (nilR v34) fun v61 =>
 bindM (stR 3 v61 v60) fun v62 =>
 optM (faR 1 v29) fun v63 =>
 rdM (ld false 1 v63) fun v64 =>
 bindM (F_array_Array_lay N Φ [v18, v64, v22, v56]) fun v65 =>
 pureM (.nx [v18, v19, v20, v65, v22, v23, v24, v25])
 ) (
 optM (binR .eql .o none v36 (.i .i64 3)) fun v66 =>
 iteM (some v66) (
 optM (faR 1 v29) fun v67 =>
 rdM (ld false 1 v67) fun v68 =>
 bindM (F_array_Array_remark N Φ [v18, v19, v68]) fun v69 =>
 pureM (.nx [v18, v19, v20, v69, v22, v23, v24, v25])
 ) (
 pureM (.nx [v18, v19, v20, v21, v22, v23, v24, v25])
 )
 )
 )
 )
 (fun vs =>
 unc vs fun v70 vs =>
 unc vs fun v71 vs =>
 unc vs fun v72 vs =>
 unc vs fun v73 vs =>
 unc vs fun v74 vs =>
 unc vs fun v75 vs =>
 unc vs fun v76 vs =>
 unc vs fun v77 vs =>
 unn vs <|
 optM (binR .neq .o none v73 (.i .i64 0)) fun v78 =>
 iteM (some v78) (
 pureM (.rt [v73])
 ) (
 optM (binR .add .o none v77 (.i .i64 1)) fun v79 =>
 pureM (.nx [v70, v71, v72, v73, v74, v75, v76, v79])
 )
 )
 (fun id vs =>
 failM)
 (fun vs =>
 unc vs fun v80 vs =>
 unn vs <|
 pureM (.rt [v80])
 )
 ) (
 pureM (.ex 0 [])
 )
 ) [a0, a1, a3, v8, v16, v7, v17, (.i .i64 0)])
 (fun vs =>
 failM)
 (fun id vs =>
 cond (Nat.beq id 0) (
 unn vs <|
 pureM (.i .i64 0)
 ) <|
 failM)
 (fun vs =>
 unc vs fun v81 vs =>
 unn vs <|
 pureM v81
 )
 )
def an_array_Array_write : An := (.two .n (.two .n (.two (.two .n (.two (.two .n .n) .n)) (.two .n (.two (.two .n (.one (.loop [0, 1, 3, 10, 11, 42, 43, 44] [(0, [])] [8] (.two .n (.two (.two .n .n) (.two (.one (.two .n (.two .n (.two (.cut [0, 1, 3, 10, 11, 42, 43, 44] [] [8] (.two .n (.one (.two .n (.two (.two .n (.two .n (.two .n .n))) (.two .n (.two (.two .n (.two .n .n)) (.two .n (.two .n .n))))))))) (.two .n (.two (.two .n .n) .n)))))) .n)))))) (.two .n .n))))))

/-- (*strings.Builder).WriteString -/
def tab_strings_Builder_WriteString (N : Nat) (Φ : Calls') : Calls' := fun f => cond (Nat.beq f id_strings_Builder_copyCheck) (some (F_strings_Builder_copyCheck N Φ)) (Φ f)
def F_strings_Builder_WriteString (N : Nat) (Φ : Calls') : List V → M V := fun args =>
 unc args fun a0 args =>
 unc args fun a1 args =>
 unn args <|
 bindM (F_strings_Builder_copyCheck N Φ [a0]) fun v1 =>
 optM (nilR a0) fun v2 =>
 optM (faR 1 v2) fun v3 =>
 rdM (ld false 1 v3) fun v4 =>
 bindM (apR 5 1 1 (srS a1) v4) fun v5 =>
 optM (nilR a0) fun v6 =>
 optM (faR 1 v6) fun v7 =>
 bindM (stR 1 v7 v5) fun v8 =>
 optM (lnS a1) fun v9 =>
 pureM (.t [v9, .ni])
def an_strings_Builder_WriteString : An := (.two .n (.two .n (.two .n (.two .n .n))))

/-- (*corbel/array.Array).get -/
def tab_array_Array_get (N : Nat) (Φ : Calls') : Calls' := fun f => cond (Nat.beq f id_array_Array_do) (some (F_array_Array_do N Φ)) (cond (Nat.beq f id_array_Array_has) (some (F_array_Array_has N Φ)) (Φ f))
def F_array_Array_get (N : Nat) (Φ : Calls') : List V → M V := fun args =>
 unc args fun a0 args =>
 unc args fun a1 args =>
 unc args fun a2 args =>
 unc args fun a3 args =>
 unn args <|
 bindM (F_array_Array_has N Φ [a0, a1, a2]) fun v1 =>
 optM (unV .not v1) fun v2 =>
 iteM (some v2) (
 pureM (.t [(.s []), (.b false), (.i .i64 0)])
 ) (
 optM (bdR [(0, 1), (1, 1), (2, 1), (3, 1)] [(.i .i64 0), (.i .i64 0), (.i .i64 0), (.i .i64 0)] [(0, (.i .i64 7)), (1, a2), (2, a3), (3, (.i .i64 1))]) fun v3 =>
 bindM (F_array_Array_do N Φ [a0, a1, v3, (.s [])]) fun v4 =>
 optM (exR 0 v4) fun v5 =>
 optM (exR 1 v4) fun v6 =>
 optM (exR 2 v4) fun v7 =>
 pureM (.t [v5, v6, v7])
 )
def an_array_Array_get : An := (.two .n (.two (.two .n (.two (.two .n .n) .n)) (.two .n .n)))

/-- corbel/stripe.get[string] -/
def tab_stripe_get_string (N : Nat) (Φ : Calls') : Calls' := fun f => Φ f
def F_stripe_get_string (N : Nat) (Φ : Calls') : List V → M V := fun args =>
 unc args fun a0 args =>
 unc args fun a1 args =>
 unn args <|
 optM (binR .lss .o none a1 (.i .i64 0)) fun v1 =>
 bindM (gdM (boolV (some v1)) false (pM (some a1))) fun v2 =>
 bindM (gdM (boolV (some v1)) false (pM (some a0))) fun v3 =>
 bindM (gdM (boolV (some v1)) false (pM (lnL v3))) fun v4 =>
 bindM (gdM (boolV (some v1)) false (pM (binR .geq .o none v2 v4))) fun v5 =>
 optM (pickR v1 (.b true) v5) fun v6 =>
 iteM (some v6) (
 pureM (.t [(.s []), (.b false)])
 ) (
 optM (iaL 1 a0 a1) fun v7 =>
 rdM (ld false 1 v7) fun v8 =>
 pureM (.t [v8, (.b true)])
 )
def an_stripe_get_string : An := (.two .n (.two (.two .n (.two (.two .n .n) .n)) (.two .n .n)))

/-- (corbel/stripe.Row).Block -/
def tab_stripe_Row_Block (N : Nat) (Φ : Calls') : Calls' := fun f => cond (Nat.beq f id_stripe_get_string) (some (F_stripe_get_string N Φ)) (Φ f)
def F_stripe_Row_Block (N : Nat) (Φ : Calls') : List V → M V := fun args =>
 unc args fun a0 args =>
 unc args fun a1 args =>
 unn args <|
 alM (boxR a0) fun v1 =>
 optM (faR 1 v1) fun v2 =>
 rdM (ld false 1 v2) fun v3 =>
 bindM (F_stripe_get_string N Φ [v3, a1]) fun v4 =>
 optM (exR 0 v4) fun v5 =>
 optM (exR 1 v4) fun v6 =>
 pureM (.t [v5, v6])
def an_stripe_Row_Block : An := (.two .n (.two .n .n))

/-- slices.Delete[[]string,string] -/
def tab_slices_Delete_string_string (N : Nat) (Φ : Calls') : Calls' := fun f => Φ f
def F_slices_Delete_string_string (N : Nat) (Φ : Calls') : List V → M V := fun args =>
 unc args fun a0 args =>
 unc args fun a1 args =>
 unc args fun a2 args =>
 unn args <|
 optM (lnL a0) fun v1 =>
 optM (slL 1 a0 (some a1) (some a2) (some v1)) fun v2 =>
 optM (binR .eql .o none a1 a2) fun v3 =>
 iteM (some v3) (
 pureM a0
 ) (
 optM (lnL a0) fun v4 =>
 optM (slL 1 a0 none (some a1) none) fun v5 =>
 optM (slL 1 a0 (some a2) none none) fun v6 =>
 bindM (apR 9 1 16 (srL 1 v6) v5) fun v7 =>
 optM (lnL v7) fun v8 =>
 optM (slL 1 v7 (some v8) (some v4) none) fun v9 =>
 bindM (clL 1 [(.s [])] v9) fun v10 =>
 pureM v7
 )
def an_slices_Delete_string_string : An := (.two .n (.two .n (.two (.two .n (.two (.two .n .n) .n)) (.two .n (.two .n (.two .n (.two .n .n)))))))

/-- slices.IndexFunc[[]string,string] -/
def tab_slices_IndexFunc_string_string (N : Nat) (Φ : Calls') : Calls' := fun f => Φ f
def F_slices_IndexFunc_string_string (N : Nat) (Φ : Calls') : List V → M V := fun args =>
 unc args fun a0 args =>
 unc args fun a1 args =>
 unn args <|
 optM (lnL a0) fun v1 =>
 lrM (
 loopM N (fun vs =>
 unc vs fun v2 vs =>
 unc vs fun v3 vs =>
 unc vs fun v4 vs =>
 unc vs fun v5 vs =>
 unn vs <|
 optM (binR .lss .o none v5 v4) fun v6 =>
 iteM (some v6) (
 optM (iaL 1 v2 v5) fun v7 =>
 rdM (ld false 1 v7) fun v8 =>
 bindM (callF (tab_slices_IndexFunc_string_string N Φ) v3 [v8]) fun v9 =>
 iteM (some v9) (
 pureM (.rt [v5])
 ) (
 optM (binR .add .o none v5 (.i .i64 1)) fun v10 =>
 pureM (.nx [v2, v3, v4, v10])
 )
 ) (
 pureM (.ex 0 [])
 )
 ) [a0, a1, v1, (.i .i64 0)])
 (fun vs =>
 failM)
 (fun id vs =>
 cond (Nat.beq id 0) (
 unn vs <|
 pureM (.i .i64 (-1))
 ) <|
 failM)
 (fun vs =>
 unc vs fun v11 vs =>
 unn vs <|
 pureM v11
 )
def an_slices_IndexFunc_string_string : An := (.two .n (.two (.two .n (.one (.loop [0, 1, 7, 8] [(0, [])] [4] (.two .n (.two (.two .n .n) (.two (.one (.two .n (.two .n (.two (.two .n .n) .n)))) .n)))))) (.two .n .n)))

/-- slices.ContainsFunc[[]string,string] -/
def tab_slices_ContainsFunc_string_string (N : Nat) (Φ : Calls') : Calls' := fun f => cond (Nat.beq f id_slices_IndexFunc_string_string) (some (F_slices_IndexFunc_string_string N Φ)) (Φ f)
def F_slices_ContainsFunc_string_string (N : Nat) (Φ : Calls') : List V → M V := fun args =>
 unc args fun a0 args =>
 unc args fun a1 args =>
 unn args <|
 bindM (F_slices_IndexFunc_string_string N Φ [a0, a1]) fun v1 =>
 optM (binR .geq .o none v1 (.i .i64 0)) fun v2 =>
 pureM v2
def an_slices_ContainsFunc_string_string : An := (.two .n (.two .n .n))

/-- corbel/stripe.Restore$1 -/
def tab_stripe_Restore_1 (N : Nat) (Φ : Calls') : Calls' := fun f => Φ f
def F_stripe_Restore_1 (N : Nat) (Φ : Calls') : List V → M V := fun args =>
 unc args fun a0 args =>
 unn args <|
 optM (lnS a0) fun v1 =>
 optM (binR .neq .o none v1 (.i .i64 64)) fun v2 =>
 pureM v2
def an_stripe_Restore_1 : An := (.two .n (.two .n .n))

/-- corbel/xor.Missing -/
def tab_xor_Missing (N : Nat) (Φ : Calls') : Calls' := fun f => cond (Nat.beq f id_xor_Add) (some (F_xor_Add N Φ)) (cond (Nat.beq f id_xor_Fold) (some (F_xor_Fold N Φ)) (Φ f))
def F_xor_Missing (N : Nat) (Φ : Calls') : List V → M V := fun args =>
 unc args fun a0 args =>
 unc args fun a1 args =>
 unn args <|
 bindM (F_xor_Fold N Φ [a1]) fun v1 =>
 bindM (F_xor_Add N Φ [a0, v1]) fun v2 =>
 pureM v2
def an_xor_Missing : An := (.two .n (.two .n .n))

/-- corbel/stripe.Restore -/
def tab_stripe_Restore (N : Nat) (Φ : Calls') : Calls' := fun f => cond (Nat.beq f id_slices_Clone_string_string) (some (F_slices_Clone_string_string N Φ)) (cond (Nat.beq f id_stripe_get_string) (some (F_stripe_get_string N Φ)) (cond (Nat.beq f id_slices_Delete_string_string) (some (F_slices_Delete_string_string N Φ)) (cond (Nat.beq f id_slices_ContainsFunc_string_string) (some (F_slices_ContainsFunc_string_string N Φ)) (cond (Nat.beq f id_xor_Missing) (some (F_xor_Missing N Φ)) (Φ f)))))
def F_stripe_Restore (N : Nat) (Φ : Calls') : List V → M V := fun args =>
 unc args fun a0 args =>
 unc args fun a1 args =>
 unc args fun a2 args =>
 unn args <|
 bindM (F_stripe_get_string N Φ [a1, a2]) fun v1 =>
 optM (exR 0 v1) fun v2 =>
 optM (exR 1 v1) fun v3 =>
 optM (unV .not v3) fun v4 =>
 bindM (gdM (boolV (some v4)) false (pM (some a0))) fun v5 =>
 bindM (gdM (boolV (some v4)) false (pM (lnS v5))) fun v6 =>
 bindM (gdM (boolV (some v4)) false (pM (binR .neq .o none v6 (.i .i64 64)))) fun v7 =>
 optM (pickR v4 (.b true) v7) fun v8 =>
 iteM (some v8) (
 pureM (.t [(.s []), (.i .i64 1)])
 ) (
 bindM (F_slices_Clone_string_string N Φ [a1]) fun v9 =>
 optM (binR .add .o none a2 (.i .i64 1)) fun v10 =>
 bindM (F_slices_Delete_string_string N Φ [v9, a2, v10]) fun v11 =>
 bindM (F_slices_ContainsFunc_string_string N Φ [v11, (.f id_stripe_Restore_1 [] [])]) fun v12 =>
 iteM (some v12) (
 pureM (.t [(.s []), (.i .i64 1)])
 ) (
 bindM (F_xor_Missing N Φ [a0, v11]) fun v13 =>
 pureM (.t [v13, (.i .i64 0)])
 )
 )
def an_stripe_Restore : An := (.two .n (.two (.two .n (.two .n (.two (.two .n .n) .n))) (.two .n (.two (.two .n (.two (.two .n .n) .n)) (.two .n .n)))))

/-- (*corbel/array.Array).restore -/
def tab_array_Array_restore (N : Nat) (Φ : Calls') : Calls' := fun f => cond (Nat.beq f id_array_Array_get) (some (F_array_Array_get N Φ)) (cond (Nat.beq f id_stripe_Restore) (some (F_stripe_Restore N Φ)) (Φ f))
def F_array_Array_restore (N : Nat) (Φ : Calls') : List V → M V := fun args =>
 unc args fun a0 args =>
 unc args fun a1 args =>
 unc args fun a2 args =>
 unc args fun a3 args =>
 unn args <|
 optM (nilR a0) fun v1 =>
 optM (faR 1 v1) fun v2 =>
 optM (faR 0 v2) fun v3 =>
 rdM (ld false 1 v3) fun v4 =>
 alM (mkR 1 16 [(.s [])] v4 v4) fun v5 =>
 optM (lnL v5) fun v6 =>
 lrM (
 loopM N (fun vs =>
 unc vs fun v7 vs =>
 unc vs fun v8 vs =>
 unc vs fun v9 vs =>
 unc vs fun v10 vs =>
 unc vs fun v11 vs =>
 unc vs fun v12 vs =>
 unc vs fun v13 vs =>
 unn vs <|
 optM (binR .lss .o none v13 v12) fun v14 =>
 iteM (some v14) (
 lrM (
 optM (binR .eql .o none v13 v10) fun v15 =>
 iteM (some v15) (
 pureM (.nx [v7, v8, v9, v10, v11, v12, v13])
 ) (
 bindM (F_array_Array_get N Φ [v7, v13, v8, v9]) fun v16 =>
 optM (exR 0 v16) fun v17 =>
 optM (exR 1 v16) fun v18 =>
 optM (exR 2 v16) fun v19 =>
 optM (binR .neq .o none v19 (.i .i64 0)) fun v20 =>
 iteM (some v20) (
 pureM (.rt [(.s []), v19])
 ) (
 optM (unV .not v18) fun v21 =>
 iteM (some v21) (
 optM (nilR v7) fun v22 =>
 optM (faR 16 v22) fun v23 =>
 bindM (stR 1 v23 (.b true)) fun v24 =>
 pureM (.rt [(.s []), (.i .i64 8)])
 ) (
 optM (iaL 1 v11 v13) fun v25 =>
 bindM (stR 1 v25 v17) fun v26 =>
 pureM (.nx [v7, v8, v9, v10, v11, v12, v13])
 )
 )
 )
 )
 (fun vs =>
 unc vs fun v27 vs =>
 unc vs fun v28 vs =>
 unc vs fun v29 vs =>
 unc vs fun v30 vs =>
 unc vs fun v31 vs =>
 unc vs fun v32 vs =>
 unc vs fun v33 vs =>
 unn vs <|
 optM (binR .add .o none v33 (.i .i64 1)) fun v34 =>
 pureM (.nx [v27, v28, v29, v30, v31, v32, v34])
 )
 (fun id vs =>
 failM)
 (fun vs =>
 unc vs fun v35 vs =>
 unc vs fun v36 vs =>
 unn vs <|
 pureM (.rt [v35, v36])
 )
 ) (
 pureM (.ex 0 [v10, v11])
 )
 ) [a0, a1, a2, a3, v5, v6, (.i .i64 0)])
 (fun vs =>
 failM)
 (fun id vs =>
 cond (Nat.beq id 0) (
 unc vs fun v37 vs =>
 unc vs fun v38 vs =>
 unn vs <|
 optM (binR .add .o none v37 (.i .i64 1)) fun v39 =>
 optM (lnL v38) fun v40 =>
 optM (binR .rem .o none v39 v40) fun v41 =>
 optM (iaL 1 v38 v41) fun v42 =>
 rdM (ld false 1 v42) fun v43 =>
 optM (iaL 1 v38 v41) fun v44 =>
 bindM (stR 1 v44 (.s [])) fun v45 =>
 alM (bsR 1 1 (zeros [(.s [])] 1) [(0, (.s []))]) fun v46 =>
 optM (lnL v38) fun v47 =>
 lrM (
 loopM N (fun vs =>
 unc vs fun v48 vs =>
 unc vs fun v49 vs =>
 unc vs fun v50 vs =>
 unc vs fun v51 vs =>
 unc vs fun v52 vs =>
 unc vs fun v53 vs =>
 unc vs fun v54 vs =>
 unn vs <|
 optM (binR .lss .o none v54 v53) fun v55 =>
 iteM (some v55) (
 lrM (
 optM (iaL 1 v52 v54) fun v56 =>
 rdM (ld false 1 v56) fun v57 =>
 optM (binR .neq .o none v54 v48) fun v58 =>
 bindM (gdM (boolV (some v58)) true (pM (some v54))) fun v59 =>
 bindM (gdM (boolV (some v58)) true (pM (some v49))) fun v60 =>
 bindM (gdM (boolV (some v58)) true (pM (binR .neq .o none v59 v60))) fun v61 =>
 optM (pickR v58 v61 (.b false)) fun v62 =>
 iteM (some v62) (
 alM (bsR 1 1 (zeros [(.s [])] 1) [(0, v57)]) fun v63 =>
 bindM (apR 9 1 16 (srL 1 v63) v51) fun v64 =>
 pureM (.nx [v48, v49, v50, v64, v52, v53, v54])
 ) (
 pureM (.nx [v48, v49, v50, v51, v52, v53, v54])
 )
 )
 (fun vs =>
 unc vs fun v65 vs =>
 unc vs fun v66 vs =>
 unc vs fun v67 vs =>
 unc vs fun v68 vs =>
 unc vs fun v69 vs =>
 unc vs fun v70 vs =>
 unc vs fun v71 vs =>
 unn vs <|
 optM (binR .add .o none v71 (.i .i64 1)) fun v72 =>
 pureM (.nx [v65, v66, v67, v68, v69, v70, v72])
 )
 (fun id vs =>
 failM)
 (fun vs =>
 unc vs fun v73 vs =>
 unc vs fun v74 vs =>
 unn vs <|
 pureM (.rt [v73, v74])
 )
 ) (
 pureM (.ex 2 [v50, v51])
 )
 ) [v37, v41, v43, v46, v38, v47, (.i .i64 0)])
 (fun vs =>
 failM)
 (fun id vs =>
 cond (Nat.beq id 2) (
 unc vs fun v75 vs =>
 unc vs fun v76 vs =>
 unn vs <|
 bindM (F_stripe_Restore N Φ [v75, v76, (.i .i64 0)]) fun v77 =>
 optM (exR 0 v77) fun v78 =>
 optM (exR 1 v77) fun v79 =>
 pureM (.t [v78, v79])
 ) <|
 failM)
 (fun vs =>
 unc vs fun v80 vs =>
 unc vs fun v81 vs =>
 unn vs <|
 pureM (.t [v80, v81])
 )
 ) <|
 failM)
 (fun vs =>
 unc vs fun v82 vs =>
 unc vs fun v83 vs =>
 unn vs <|
 pureM (.t [v82, v83])
 )
def an_array_Array_restore : An := (.two .n (.two .n (.two (.two .n (.one (.loop [0, 1, 2, 3, 10, 27, 28] [(0, [3, 10])] [8, 9] (.two .n (.two (.two .n .n) (.two (.cut [0, 1, 2, 3, 10, 27, 28] [] [8, 9] (.one (.two .n (.two (.two .n (.two .n .n)) (.two .n (.two (.two .n (.two (.two .n .n) .n)) (.two (.two .n (.two (.two .n (.two .n .n)) .n)) .n))))))) .n)))))) (.two .n (.two .n (.two .n (.two .n (.two (.two .n (.one (.loop [3, 15, 16, 17, 69, 70, 71] [(2, [16, 17])] [8, 9] (.two .n (.two (.two .n .n) (.two (.cut [3, 15, 16, 17, 69, 70, 71] [] [8, 9] (.one (.two .n (.two .n (.two .n .n))))) .n)))))) (.two .n .n)))))))))

/-- (*corbel/array.Array).block -/
def tab_array_Array_block (N : Nat) (Φ : Calls') : Calls' := fun f => cond (Nat.beq f id_array_Array_wide) (some (F_array_Array_wide N Φ)) (cond (Nat.beq f id_geom_Place) (some (F_geom_Place N Φ)) (cond (Nat.beq f id_array_Array_get) (some (F_array_Array_get N Φ)) (cond (Nat.beq f id_stripe_Row_Block) (some (F_stripe_Row_Block N Φ)) (cond (Nat.beq f id_array_Array_restore) (some (F_array_Array_restore N Φ)) (Φ f)))))
def F_array_Array_block (N : Nat) (Φ : Calls') : List V → M V := fun args =>
 unc args fun a0 args =>
 unc args fun a1 args =>
 unc args fun a2 args =>
 unn args <|
 optM (nilR a0) fun v1 =>
 optM (faR 6 v1) fun v2 =>
 optM (faR 1 v2) fun v3 =>
 rdM (ld false 1 v3) fun v4 =>
 optM (iaL 3 v4 a1) fun v5 =>
 optM (faR 0 v5) fun v6 =>
 rdM (ld false 1 v6) fun v7 =>
 optM (nilR a0) fun v8 =>
 optM (faR 1 v8) fun v9 =>
 rdM (ld true 5 v9) fun v10 =>
 bindM (F_geom_Place N Φ [v10, a1, a2]) fun v11 =>
 optM (exR 0 v11) fun v12 =>
 optM (exR 1 v11) fun v13 =>
 optM (exR 2 v11) fun v14 =>
 bindM (F_array_Array_get N Φ [a0, v13, v7, v12]) fun v15 =>
 optM (exR 0 v15) fun v16 =>
 optM (exR 1 v15) fun v17 =>
 optM (exR 2 v15) fun v18 =>
 bindM (gdM (boolV (some v17)) false (pM (some v18))) fun v19 =>
 bindM (gdM (boolV (some v17)) false (pM (binR .neq .o none v19 (.i .i64 0)))) fun v20 =>
 optM (pickR v17 (.b true) v20) fun v21 =>
 iteM (some v21) (
 pureM (.t [v16, v18])
 ) (
 optM (nilR a0) fun v22 =>
 optM (faR 13 v22) fun v23 =>
 rdM (ld false 1 v23) fun v24 =>
 optM (iaL 3 v24 a1) fun v25 =>
 rdM (ld true 3 v25) fun v26 =>
 alM (alR 141 [(.i .i64 0), (.i .i64 0), .ns]) fun v27 =>
 bindM (stR 3 v27 v26) fun v28 =>
 optM (faR 0 v27) fun v29 =>
 rdM (ld false 1 v29) fun v30 =>
 optM (binR .eql .o none v12 v30) fun v31 =>
 iteM (some v31) (
 optM (faR 1 v27) fun v32 =>
 rdM (ld true 2 v32) fun v33 =>
 bindM (F_array_Array_wide N Φ [a0]) fun v34 =>
 chkM (ckR (ld true 2 v32) v33) <|
 optM (binR .rem .o none a2 v34) fun v35 =>
 bindM (F_stripe_Row_Block N Φ [v33, v35]) fun v36 =>
 optM (exR 0 v36) fun v37 =>
 optM (exR 1 v36) fun v38 =>
 pureM (.t [v37, (.i .i64 0)])
 ) (
 bindM (F_array_Array_restore N Φ [a0, v7, v12, v13]) fun v39 =>
 optM (exR 0 v39) fun v40 =>
 optM (exR 1 v39) fun v41 =>
 pureM (.t [v40, v41])
 )
 )
def an_array_Array_block : An := (.two .n (.two .n (.two .n (.two (.two .n (.two .n (.two (.two .n .n) .n))) (.two (.two .n (.two .n (.two (.two .n (.two .n .n)) .n))) (.two .n .n))))))

/-- (*corbel/array.Array).read -/
def tab_array_Array_read (N : Nat) (Φ : Calls') : Calls' := fun f => cond (Nat.beq f id_strings_Builder_WriteString) (some (F_strings_Builder_WriteString N Φ)) (cond (Nat.beq f id_strings_Builder_String) (some (F_strings_Builder_String N Φ)) (cond (Nat.beq f id_array_Array_block) (some (F_array_Array_block N Φ)) (Φ f)))
def F_array_Array_read (N : Nat) (Φ : Calls') : List V → M V := fun args =>
 unc args fun a0 args =>
 unc args fun a1 args =>
 unc args fun a2 args =>
 unc args fun a3 args =>
 unn args <|
 alM (alR 109 [.pn, .ns]) fun v1 =>
 lrM (
 loopM N (fun vs =>
 unc vs fun v2 vs =>
 unc vs fun v3 vs =>
 unc vs fun v4 vs =>
 unc vs fun v5 vs =>
 unc vs fun v6 vs =>
 unc vs fun v7 vs =>
 unn vs <|
 optM (binR .add .o none v4 v5) fun v8 =>
 optM (binR .lss .o none v7 v8) fun v9 =>
 iteM (some v9) (
 bindM (F_array_Array_block N Φ [v2, v3, v7]) fun v10 =>
 optM (exR 0 v10) fun v11 =>
 optM (exR 1 v10) fun v12 =>
 optM (binR .neq .o none v12 (.i .i64 0)) fun v13 =>
 iteM (some v13) (
 pureM (.rt [(.s []), v12])
 ) (
 bindM (F_strings_Builder_WriteString N Φ [v6, v11]) fun v14 =>
 optM (binR .add .o none v7 (.i .i64 1)) fun v15 =>
 pureM (.nx [v2, v3, v4, v5, v6, v15])
 )
 ) (
 pureM (.ex 0 [v6])
 )
 ) [a0, a1, a2, a3, v1, a2])
 (fun vs =>
 failM)
 (fun id vs =>
 cond (Nat.beq id 0) (
 unc vs fun v16 vs =>
 unn vs <|
 bindM (F_strings_Builder_String N Φ [v16]) fun v17 =>
 pureM (.t [v17, (.i .i64 0)])
 ) <|
 failM)
 (fun vs =>
 unc vs fun v18 vs =>
 unc vs fun v19 vs =>
 unn vs <|
 pureM (.t [v18, v19])
 )
def an_array_Array_read : An := (.two .n (.two .n (.two (.two .n (.one (.loop [0, 1, 2, 3, 10, 11] [(0, [10])] [8, 9] (.two (.two .n (.two .n .n)) (.two (.one (.two .n (.two (.two .n (.two (.two .n .n) .n)) .n))) .n))))) (.two .n .n))))

/-- corbel/array.run -/
def tab_array_run (N : Nat) (Φ : Calls') : Calls' := fun f => Φ f
def F_array_run (N : Nat) (Φ : Calls') : List V → M V := fun args =>
 unc args fun a0 args =>
 unn args <|
 optM (lnL a0) fun v1 =>
 lrM (
 loopM N (fun vs =>
 unc vs fun v2 vs =>
 unc vs fun v3 vs =>
 unc vs fun v4 vs =>
 unn vs <|
 optM (binR .lss .o none v4 v3) fun v5 =>
 iteM (some v5) (
 optM (iaL 1 v2 v4) fun v6 =>
 rdM (ld false 1 v6) fun v7 =>
 bindM (callF (tab_array_run N Φ) v7 []) fun v8 =>
 optM (binR .neq .o none v8 (.i .i64 0)) fun v9 =>
 iteM (some v9) (
 pureM (.rt [v8])
 ) (
 optM (binR .add .o none v4 (.i .i64 1)) fun v10 =>
 pureM (.nx [v2, v3, v10])
 )
 ) (
 pureM (.ex 0 [])
 )
 ) [a0, v1, (.i .i64 0)])
 (fun vs =>
 failM)
 (fun id vs =>
 cond (Nat.beq id 0) (
 unn vs <|
 pureM (.i .i64 0)
 ) <|
 failM)
 (fun vs =>
 unc vs fun v11 vs =>
 unn vs <|
 pureM v11
 )
def an_array_run : An := (.two .n (.two (.two .n (.one (.loop [6, 7, 8] [(0, [])] [2] (.two .n (.two (.two .n .n) (.two (.one (.two .n (.two .n (.two .n (.two (.two .n .n) .n))))) .n)))))) (.two .n .n)))

/-- slices.Clone[[]corbel/book.Zone,corbel/book.Zone] -/
def tab_slices_Clone_book_Zone_book_Zone (N : Nat) (Φ : Calls') : Calls' := fun f => Φ f
def F_slices_Clone_book_Zone_book_Zone (N : Nat) (Φ : Calls') : List V → M V := fun args =>
 unc args fun a0 args =>
 unn args <|
 optM (binR .eql .l none a0 .ns) fun v1 =>
 iteM (some v1) (
 pureM .ns
 ) (
 alM (bs0 3) fun v2 =>
 bindM (apR 134 3 24 (srL 3 a0) v2) fun v3 =>
 pureM v3
 )
def an_slices_Clone_book_Zone_book_Zone : An := (.two .n (.two (.two .n (.two (.two .n .n) .n)) (.two .n .n)))

/-- (corbel/book.Book).Note -/
def tab_book_Book_Note (N : Nat) (Φ : Calls') : Calls' := fun f => cond (Nat.beq f id_slices_Clone_book_Zone_book_Zone) (some (F_slices_Clone_book_Zone_book_Zone N Φ)) (cond (Nat.beq f id_slices_Clone_int_int) (some (F_slices_Clone_int_int N Φ)) (Φ f))
def F_book_Book_Note (N : Nat) (Φ : Calls') : List V → M V := fun args =>
 unc args fun a0 args =>
 unc args fun a1 args =>
 unn args <|
 alM (boxR a0) fun v1 =>
 alM (boxR a1) fun v2 =>
 alM (alR 66 [(.i .i64 0), .ns, .ns, (.i .i64 0), (.i .i64 0)]) fun v3 =>
 optM (faR 1 v1) fun v4 =>
 rdM (ld false 1 v4) fun v5 =>
 optM (faR 2 v1) fun v6 =>
 rdM (ld false 1 v6) fun v7 =>
 bindM (F_slices_Clone_book_Zone_book_Zone N Φ [v5]) fun v8 =>
 chkM (ckR (ld false 1 v6) v7) <|
 optM (faR 1 v1) fun v9 =>
 bindM (F_slices_Clone_int_int N Φ [v7]) fun v10 =>
 bindM (stR 1 v9 v8) fun v11 =>
 optM (faR 2 v1) fun v12 =>
 bindM (stR 1 v12 v10) fun v13 =>
 optM (faR 0 v1) fun v14 =>
 rdM (ld false 1 v14) fun v15 =>
 optM (faR 1 v2) fun v16 =>
 rdM (ld false 1 v16) fun v17 =>
 optM (foldInts maxI [v15, v17]) fun v18 =>
 optM (faR 0 v1) fun v19 =>
 bindM (stR 1 v19 v18) fun v20 =>
 lrM (
 optM (faR 0 v2) fun v21 =>
 rdM (ld false 1 v21) fun v22 =>
 optM (binR .eql .o none v22 (.i .i64 3)) fun v23 =>
 bindM (gdM (boolV (some v23)) true (pM (faR 2 v2))) fun v24 =>
 bindM (gdM (boolV (some v23)) true (rM (ld false 1 v24))) fun v25 =>
 bindM (gdM (boolV (some v23)) true (pM (binR .geq .o none v25 (.i .i64 0)))) fun v26 =>
 optM (pickR v23 v26 (.b false)) fun v27 =>
 bindM (gdM (boolV (some v27)) true (pM (faR 2 v2))) fun v28 =>
 bindM (gdM (boolV (some v27)) true (rM (ld false 1 v28))) fun v29 =>
 bindM (gdM (boolV (some v27)) true (pM (faR 1 v1))) fun v30 =>
 bindM (gdM (boolV (some v27)) true (rM (ld false 1 v30))) fun v31 =>
 bindM (gdM (boolV (some v27)) true (pM (lnL v31))) fun v32 =>
 bindM (gdM (boolV (some v27)) true (pM (binR .lss .o none v29 v32))) fun v33 =>
 optM (pickR v27 v33 (.b false)) fun v34 =>
 iteM (some v34) (
 optM (faR 1 v1) fun v35 =>
 rdM (ld false 1 v35) fun v36 =>
 optM (faR 2 v2) fun v37 =>
 rdM (ld false 1 v37) fun v38 =>
 optM (faR 3 v2) fun v39 =>
 rdM (ld false 1 v39) fun v40 =>
 optM (faR 4 v2) fun v41 =>
 rdM (ld false 1 v41) fun v42 =>
 optM (faR 5 v2) fun v43 =>
 rdM (ld false 1 v43) fun v44 =>
 optM (bdR [(0, 1), (1, 1), (2, 1)] [(.i .i64 0), (.i .i64 0), (.i .i64 0)] [(0, v40), (1, v42), (2, v44)]) fun v45 =>
 optM (iaL 3 v36 v38) fun v46 =>
 bindM (stR 3 v46 v45) fun v47 =>
 pureM (.nx [v1, v3])
 ) (
 optM (faR 0 v2) fun v48 =>
 rdM (ld false 1 v48) fun v49 =>
 optM (binR .eql .o none v49 (.i .i64 5)) fun v50 =>
 bindM (gdM (boolV (some v50)) true (pM (faR 2 v2))) fun v51 =>
 bindM (gdM (boolV (some v50)) true (rM (ld false 1 v51))) fun v52 =>
 bindM (gdM (boolV (some v50)) true (pM (binR .geq .o none v52 (.i .i64 0)))) fun v53 =>
 optM (pickR v50 v53 (.b false)) fun v54 =>
 bindM (gdM (boolV (some v54)) true (pM (faR 2 v2))) fun v55 =>
 bindM (gdM (boolV (some v54)) true (rM (ld false 1 v55))) fun v56 =>
 bindM (gdM (boolV (some v54)) true (pM (faR 2 v1))) fun v57 =>
 bindM (gdM (boolV (some v54)) true (rM (ld false 1 v57))) fun v58 =>
 bindM (gdM (boolV (some v54)) true (pM (lnL v58))) fun v59 =>
 bindM (gdM (boolV (some v54)) true (pM (binR .lss .o none v56 v59))) fun v60 =>
 optM (pickR v54 v60 (.b false)) fun v61 =>
 iteM (some v61) (
 optM (faR 2 v1) fun v62 =>
 rdM (ld false 1 v62) fun v63 =>
 optM (faR 2 v2) fun v64 =>
 rdM (ld false 1 v64) fun v65 =>
 optM (faR 3 v2) fun v66 =>
 rdM (ld false 1 v66) fun v67 =>
 optM (iaL 1 v63 v65) fun v68 =>
 bindM (stR 1 v68 v67) fun v69 =>
 pureM (.nx [v1, v3])
 ) (
 optM (faR 0 v2) fun v70 =>
 rdM (ld false 1 v70) fun v71 =>
 optM (binR .eql .o none v71 (.i .i64 6)) fun v72 =>
 iteM (some v72) (
 optM (faR 2 v2) fun v73 =>
 rdM (ld false 1 v73) fun v74 =>
 optM (faR 3 v2) fun v75 =>
 rdM (ld false 1 v75) fun v76 =>
 optM (faR 3 v1) fun v77 =>
 bindM (stR 1 v77 v74) fun v78 =>
 chkM (ckR (ld false 1 v75) v76) <|
 optM (faR 4 v1) fun v79 =>
 bindM (stR 1 v79 v76) fun v80 =>
 optM (faR 2 v2) fun v81 =>
 rdM (ld false 1 v81) fun v82 =>
 optM (binR .eql .o none v82 (.i .i64 65535)) fun v83 =>
 iteM (some v83) (
 optM (faR 3 v1) fun v84 =>
 bindM (stR 1 v84 (.i .i64 (-1))) fun v85 =>
 pureM (.nx [v1, v3])
 ) (
 pureM (.nx [v1, v3])
 )
 ) (
 pureM (.nx [v1, v3])
 )
 )
 )
 )
 (fun vs =>
 unc vs fun v86 vs =>
 unc vs fun v87 vs =>
 unn vs <|
 rdM (ld true 5 v86) fun v88 =>
 bindM (stR 5 v87 v88) fun v89 =>
 rdM (ld true 5 v87) fun v90 =>
 pureM v90
 )
 (fun id vs =>
 failM)
 (fun vs =>
 unc vs fun v91 vs =>
 unn vs <|
 rdM (ld true 5 v91) fun v92 =>
 pureM v92
 )
def an_book_Book_Note : An := (.two .n (.two .n (.two .n (.two (.cut [2, 4] [] [4] (.one (.two .n (.two .n (.two .n (.two .n (.two .n (.two (.two .n (.two .n (.two .n .n))) .n)))))))) (.two .n .n)))))

/-- (*corbel/array.Array).say$1 -/
def tab_array_Array_say_1 (N : Nat) (Φ : Calls') : Calls' := fun f => cond (Nat.beq f id_array_Array_alive) (some (F_array_Array_alive N Φ)) (cond (Nat.beq f id_array_Array_note) (some (F_array_Array_note N Φ)) (Φ f))
def F_array_Array_say_1 (N : Nat) (Φ : Calls') : List V → M V := fun args =>
 unc args fun a0 args =>
 unc args fun a1 args =>
 unc args fun a2 args =>
 unn args <|
 rdM (ld false 1 a1) fun v1 =>
 optM (lnL v1) fun v2 =>
 lrM (
 loopM N (fun vs =>
 unc vs fun v3 vs =>
 unc vs fun v4 vs =>
 unc vs fun v5 vs =>
 unc vs fun v6 vs =>
 unc vs fun v7 vs =>
 unn vs <|
 optM (binR .lss .o none v7 v6) fun v8 =>
 iteM (some v8) (
 optM (iaL 7 v5 v7) fun v9 =>
 rdM (ld true 7 v9) fun v10 =>
 alM (alR 157 [(.i .i64 0), (.i .i64 0), (.i .i64 0), (.i .i64 0), (.i .i64 0), (.i .i64 0), (.s [])]) fun v11 =>
 bindM (stR 7 v11 v10) fun v12 =>
 rdM (ld false 1 v4) fun v13 =>
 rdM (ld true 7 v11) fun v14 =>
 bindM (F_array_Array_note N Φ [v13, v3, v14]) fun v15 =>
 optM (binR .neq .o none v15 (.i .i64 0)) fun v16 =>
 bindM (gdM (boolV (some v16)) false (rM (ld false 1 v4))) fun v17 =>
 bindM (gdM (boolV (some v16)) false (pM (some v3))) fun v18 =>
 bindM (gdM (boolV (some v16)) false (F_array_Array_alive N Φ [v17, v18])) fun v19 =>
 bindM (gdM (boolV (some v16)) false (pM (unV .not v19))) fun v20 =>
 optM (pickR v16 (.b true) v20) fun v21 =>
 iteM (some v21) (
 pureM (.rt [v15])
 ) (
 optM (binR .add .o none v7 (.i .i64 1)) fun v22 =>
 pureM (.nx [v3, v4, v5, v6, v22])
 )
 ) (
 pureM (.ex 0 [])
 )
 ) [a0, a2, v1, v2, (.i .i64 0)])
 (fun vs =>
 failM)
 (fun id vs =>
 cond (Nat.beq id 0) (
 unn vs <|
 pureM (.i .i64 0)
 ) <|
 failM)
 (fun vs =>
 unc vs fun v23 vs =>
 unn vs <|
 pureM v23
 )
def an_array_Array_say_1 : An := (.two .n (.two (.two .n (.one (.loop [0, 2, 8, 9, 10] [(0, [])] [4] (.two .n (.two (.two .n .n) (.two (.one (.two .n (.two .n (.two .n (.two (.two .n .n) .n))))) .n)))))) (.two .n .n)))

/-- (*corbel/array.Array).say -/
def tab_array_Array_say (N : Nat) (Φ : Calls') : Calls' := fun f => cond (Nat.beq f id_array_Array_each) (some (F_array_Array_each N Φ)) (Φ f)
def F_array_Array_say (N : Nat) (Φ : Calls') : List V → M V := fun args =>
 unc args fun a0 args =>
 unc args fun a1 args =>
 unn args <|
 alM (boxR a0) fun v1 =>
 alM (boxR a1) fun v2 =>
 rdM (ld false 1 v1) fun v3 =>
 bindM (F_array_Array_each N Φ [v3, (.f id_array_Array_say_1 [] [v2, v1])]) fun v4 =>
 pureM v4
def an_array_Array_say : An := (.two .n (.two .n .n))

/-- (*corbel/array.Array).set -/
def tab_array_Array_set (N : Nat) (Φ : Calls') : Calls' := fun f => cond (Nat.beq f id_book_Book_Note) (some (F_book_Book_Note N Φ)) (cond (Nat.beq f id_array_Array_say) (some (F_array_Array_say N Φ)) (Φ f))
def F_array_Array_set (N : Nat) (Φ : Calls') : List V → M V := fun args =>
 unc args fun a0 args =>
 unc args fun a1 args =>
 unc args fun a2 args =>
 unn args <|
 alM (boxR a2) fun v1 =>
 optM (nilR a0) fun v2 =>
 optM (faR 6 v2) fun v3 =>
 optM (faR 0 v3) fun v4 =>
 rdM (ld false 1 v4) fun v5 =>
 optM (binR .add .o none v5 (.i .i64 1)) fun v6 =>
 optM (faR 0 v1) fun v7 =>
 rdM (ld false 1 v7) fun v8 =>
 optM (faR 1 v1) fun v9 =>
 rdM (ld false 1 v9) fun v10 =>
 optM (faR 2 v1) fun v11 =>
 rdM (ld false 1 v11) fun v12 =>
 optM (bdR [(0, 1), (1, 1), (2, 1), (3, 1), (4, 1), (5, 1), (6, 1)] [(.i .i64 0), (.i .i64 0), (.i .i64 0), (.i .i64 0), (.i .i64 0), (.i .i64 0), (.s [])] [(0, (.i .i64 3)), (1, v6), (2, a1), (3, v8), (4, v10), (5, v12)]) fun v13 =>
 alM (alR 157 [(.i .i64 0), (.i .i64 0), (.i .i64 0), (.i .i64 0), (.i .i64 0), (.i .i64 0), (.s [])]) fun v14 =>
 bindM (stR 7 v14 v13) fun v15 =>
 optM (nilR a0) fun v16 =>
 optM (faR 6 v16) fun v17 =>
 rdM (ld true 5 v17) fun v18 =>
 rdM (ld true 7 v14) fun v19 =>
 bindM (F_book_Book_Note N Φ [v18, v19]) fun v20 =>
 optM (nilR a0) fun v21 =>
 optM (faR 6 v21) fun v22 =>
 bindM (stR 5 v22 v20) fun v23 =>
 rdM (ld true 7 v14) fun v24 =>
 alM (bsR 1 7 (zeros [(.i .i64 0), (.i .i64 0), (.i .i64 0), (.i .i64 0), (.i .i64 0), (.i .i64 0), (.s [])] 7) [(0, v24)]) fun v25 =>
 bindM (F_array_Array_say N Φ [a0, v25]) fun v26 =>
 pureM v26
def an_array_Array_set : An := (.two .n (.two .n (.two .n (.two .n .n))))

/-- (*corbel/array.Array).empty$1 -/
def tab_array_Array_empty_1 (N : Nat) (Φ : Calls') : Calls' := fun f => cond (Nat.beq f id_array_Array_set) (some (F_array_Array_set N Φ)) (Φ f)
def F_array_Array_empty_1 (N : Nat) (Φ : Calls') : List V → M V := fun args =>
 unc args fun a0 args =>
 unc args fun a1 args =>
 unc args fun a2 args =>
 unn args <|
 rdM (ld false 1 a0) fun v1 =>
 rdM (ld false 1 a1) fun v2 =>
 rdM (ld true 3 a2) fun v3 =>
 bindM (F_array_Array_set N Φ [v1, v2, v3]) fun v4 =>
 pureM v4
def an_array_Array_empty_1 : An := (.two .n (.two .n .n))

/-- (*corbel/array.Array).clear$1 -/
def tab_array_Array_clear_1 (N : Nat) (Φ : Calls') : Calls' := fun f => cond (Nat.beq f id_array_Array_do) (some (F_array_Array_do N Φ)) (Φ f)
def F_array_Array_clear_1 (N : Nat) (Φ : Calls') : List V → M V := fun args =>
 unc args fun a0 args =>
 unc args fun a1 args =>
 unc args fun a2 args =>
 unn args <|
 rdM (ld false 1 a1) fun v1 =>
 rdM (ld false 1 a2) fun v2 =>
 optM (bdR [(0, 1), (1, 1), (2, 1), (3, 1)] [(.i .i64 0), (.i .i64 0), (.i .i64 0), (.i .i64 0)] [(0, (.i .i64 3)), (1, v2)]) fun v3 =>
 bindM (F_array_Array_do N Φ [v1, a0, v3, (.s [])]) fun v4 =>
 optM (exR 0 v4) fun v5 =>
 optM (exR 1 v4) fun v6 =>
 optM (exR 2 v4) fun v7 =>
 pureM v7
def an_array_Array_clear_1 : An := (.two .n (.two .n (.two .n .n)))

/-- (*corbel/array.Array).clear -/
def tab_array_Array_clear (N : Nat) (Φ : Calls') : Calls' := fun f => cond (Nat.beq f id_array_Array_each) (some (F_array_Array_each N Φ)) (Φ f)
def F_array_Array_clear (N : Nat) (Φ : Calls') : List V → M V := fun args =>
 unc args fun a0 args =>
 unc args fun a1 args =>
 unn args <|
 alM (boxR a0) fun v1 =>
 alM (boxR a1) fun v2 =>
 rdM (ld false 1 v1) fun v3 =>
 bindM (F_array_Array_each N Φ [v3, (.f id_array_Array_clear_1 [] [v1, v2])]) fun v4 =>
 pureM v4
def an_array_Array_clear : An := (.two .n (.two .n .n))

/-- (*corbel/array.Array).empty$2 -/
def tab_array_Array_empty_2 (N : Nat) (Φ : Calls') : Calls' := fun f => cond (Nat.beq f id_array_Array_clear) (some (F_array_Array_clear N Φ)) (Φ f)
def F_array_Array_empty_2 (N : Nat) (Φ : Calls') : List V → M V := fun args =>
 unc args fun a0 args =>
 unc args fun a1 args =>
 unn args <|
 rdM (ld false 1 a0) fun v1 =>
 optM (faR 0 a1) fun v2 =>
 rdM (ld false 1 v2) fun v3 =>
 bindM (F_array_Array_clear N Φ [v1, v3]) fun v4 =>
 pureM v4
def an_array_Array_empty_2 : An := (.two .n (.two .n .n))

/-- (*corbel/array.Array).empty$3 -/
def tab_array_Array_empty_3 (N : Nat) (Φ : Calls') : Calls' := fun f => cond (Nat.beq f id_array_Array_set) (some (F_array_Array_set N Φ)) (Φ f)
def F_array_Array_empty_3 (N : Nat) (Φ : Calls') : List V → M V := fun args =>
 unc args fun a0 args =>
 unc args fun a1 args =>
 unc args fun a2 args =>
 unn args <|
 rdM (ld false 1 a0) fun v1 =>
 rdM (ld false 1 a1) fun v2 =>
 optM (faR 0 a2) fun v3 =>
 rdM (ld false 1 v3) fun v4 =>
 optM (faR 1 a2) fun v5 =>
 rdM (ld false 1 v5) fun v6 =>
 optM (bdR [(0, 1), (1, 1), (2, 1)] [(.i .i64 0), (.i .i64 0), (.i .i64 0)] [(0, v4), (1, v6)]) fun v7 =>
 bindM (F_array_Array_set N Φ [v1, v2, v7]) fun v8 =>
 pureM v8
def an_array_Array_empty_3 : An := (.two .n (.two .n .n))

/-- (*corbel/array.Array).empty -/
def tab_array_Array_empty (N : Nat) (Φ : Calls') : Calls' := fun f => cond (Nat.beq f id_array_run) (some (F_array_run N Φ)) (Φ f)
def F_array_Array_empty (N : Nat) (Φ : Calls') : List V → M V := fun args =>
 unc args fun a0 args =>
 unc args fun a1 args =>
 unc args fun a2 args =>
 unn args <|
 alM (boxR a0) fun v1 =>
 alM (boxR a1) fun v2 =>
 alM (boxR a2) fun v3 =>
 rdM (ld false 1 v1) fun v4 =>
 alM (bsR 4 1 (zeros [.nf] 4) [(0, (.f id_array_Array_empty_1 [] [v1, v2, v3])), (1, (.f id_array_Array_flush [v4] [])), (2, (.f id_array_Array_empty_2 [] [v1, v3])), (3, (.f id_array_Array_empty_3 [] [v1, v2, v3]))]) fun v5 =>
 bindM (F_array_run N Φ [v5]) fun v6 =>
 pureM v6
def an_array_Array_empty : An := (.two .n (.two .n .n))

/-- (*corbel/array.Array).reset -/
def tab_array_Array_reset (N : Nat) (Φ : Calls') : Calls' := fun f => cond (Nat.beq f id_array_Array_begin) (some (F_array_Array_begin N Φ)) (cond (Nat.beq f id_array_Array_empty) (some (F_array_Array_empty N Φ)) (Φ f))
def F_array_Array_reset (N : Nat) (Φ : Calls') : List V → M V := fun args =>
 unc args fun a0 args =>
 unc args fun a1 args =>
 unc args fun a2 args =>
 unn args <|
 alM (boxR a2) fun v1 =>
 optM (nilR a0) fun v2 =>
 optM (faR 6 v2) fun v3 =>
 optM (faR 1 v3) fun v4 =>
 rdM (ld false 1 v4) fun v5 =>
 optM (iaL 3 v5 a1) fun v6 =>
 rdM (ld true 3 v6) fun v7 =>
 alM (alR 134 [(.i .i64 0), (.i .i64 0), (.i .i64 0)]) fun v8 =>
 bindM (stR 3 v8 v7) fun v9 =>
 optM (faR 1 v1) fun v10 =>
 rdM (ld false 1 v10) fun v11 =>
 optM (binR .eql .o none v11 (.i .i64 0)) fun v12 =>
 bindM (gdM (boolV (some v12)) true (pM (faR 2 v8))) fun v13 =>
 bindM (gdM (boolV (some v12)) true (rM (ld false 1 v13))) fun v14 =>
 bindM (gdM (boolV (some v12)) true (pM (binR .eql .o none v14 (.i .i64 0)))) fun v15 =>
 optM (pickR v12 v15 (.b false)) fun v16 =>
 iteM (some v16) (
 pureM (.i .i64 0)
 ) (
 optM (nilR a0) fun v17 =>
 optM (faR 13 v17) fun v18 =>
 rdM (ld false 1 v18) fun v19 =>
 bindM (F_array_Array_begin N Φ [a0, (.i .i64 0)]) fun v20 =>
 chkM (ckR (ld false 1 v18) v19) <|
 optM (iaL 3 v19 a1) fun v21 =>
 bindM (stR 3 v21 v20) fun v22 =>
 optM (faR 0 v8) fun v23 =>
 rdM (ld false 1 v23) fun v24 =>
 optM (faR 1 v8) fun v25 =>
 rdM (ld false 1 v25) fun v26 =>
 optM (binR .add .o none v26 (.i .i64 1)) fun v27 =>
 optM (bdR [(0, 1), (1, 1), (2, 1)] [(.i .i64 0), (.i .i64 0), (.i .i64 0)] [(0, v24), (1, v27), (2, (.i .i64 1))]) fun v28 =>
 bindM (F_array_Array_empty N Φ [a0, a1, v28]) fun v29 =>
 pureM v29
 )
def an_array_Array_reset : An := (.two .n (.two .n (.two (.two .n (.two (.two .n .n) .n)) (.two .n (.two .n .n)))))

/-- (*corbel/array.Array).finish$1 -/
def tab_array_Array_finish_1 (N : Nat) (Φ : Calls') : Calls' := fun f => cond (Nat.beq f id_array_Array_set) (some (F_array_Array_set N Φ)) (Φ f)
def F_array_Array_finish_1 (N : Nat) (Φ : Calls') : List V → M V := fun args =>
 unc args fun a0 args =>
 unc args fun a1 args =>
 unc args fun a2 args =>
 unn args <|
 rdM (ld false 1 a0) fun v1 =>
 rdM (ld false 1 a1) fun v2 =>
 rdM (ld true 3 a2) fun v3 =>
 bindM (F_array_Array_set N Φ [v1, v2, v3]) fun v4 =>
 pureM v4
def an_array_Array_finish_1 : An := (.two .n (.two .n .n))

/-- (*corbel/drive.Drive).Zone -/
def tab_drive_Drive_Zone (N : Nat) (Φ : Calls') : Calls' := fun f => cond (Nat.beq f id_zone_Machine_Get) (some (F_zone_Machine_Get N Φ)) (Φ f)
def F_drive_Drive_Zone (N : Nat) (Φ : Calls') : List V → M V := fun args =>
 unc args fun a0 args =>
 unc args fun a1 args =>
 unn args <|
 alM (alR 30 [(.i .i64 0), (.i .i64 0)]) fun v1 =>
 optM (binR .eql .p none a0 .pn) fun v2 =>
 iteM (some v2) (
 optM (bdR [(0, 1), (1, 1)] [(.i .i64 0), (.i .i64 0)] []) fun v3 =>
 bindM (stR 2 v1 v3) fun v4 =>
 rdM (ld true 2 v1) fun v5 =>
 pureM (.t [v5, (.b false)])
 ) (
 optM (nilR a0) fun v6 =>
 optM (faR 0 v6) fun v7 =>
 rdM (ld false 1 v7) fun v8 =>
 bindM (F_zone_Machine_Get N Φ [v8, a1]) fun v9 =>
 optM (exR 0 v9) fun v10 =>
 optM (exR 1 v9) fun v11 =>
 bindM (stR 2 v1 v10) fun v12 =>
 rdM (ld true 2 v1) fun v13 =>
 pureM (.t [v13, v11])
 )
def an_drive_Drive_Zone : An := (.two .n (.two (.two .n (.two (.two .n .n) .n)) (.two .n .n)))

/-- (*corbel/rig.Rig).Zone -/
def tab_rig_Rig_Zone (N : Nat) (Φ : Calls') : Calls' := fun f => cond (Nat.beq f id_rig_Rig_at) (some (F_rig_Rig_at N Φ)) (cond (Nat.beq f id_drive_Drive_Zone) (some (F_drive_Drive_Zone N Φ)) (Φ f))
def F_rig_Rig_Zone (N : Nat) (Φ : Calls') : List V → M V := fun args =>
 unc args fun a0 args =>
 unc args fun a1 args =>
 unc args fun a2 args =>
 unn args <|
 alM (alR 30 [(.i .i64 0), (.i .i64 0)]) fun v1 =>
 bindM (F_rig_Rig_at N Φ [a0, a1]) fun v2 =>
 bindM (F_drive_Drive_Zone N Φ [v2, a2]) fun v3 =>
 optM (exR 0 v3) fun v4 =>
 optM (exR 1 v3) fun v5 =>
 bindM (stR 2 v1 v4) fun v6 =>
 rdM (ld true 2 v1) fun v7 =>
 pureM (.t [v7, v5])
def an_rig_Rig_Zone : An := (.two .n (.two .n .n))

/-- (*corbel/array.Array).shut$1 -/
def tab_array_Array_shut_1 (N : Nat) (Φ : Calls') : Calls' := fun f => cond (Nat.beq f id_array_Array_do) (some (F_array_Array_do N Φ)) (cond (Nat.beq f id_array_Array_has) (some (F_array_Array_has N Φ)) (cond (Nat.beq f id_rig_Rig_Zone) (some (F_rig_Rig_Zone N Φ)) (Φ f)))
def F_array_Array_shut_1 (N : Nat) (Φ : Calls') : List V → M V := fun args =>
 unc args fun a0 args =>
 unc args fun a1 args =>
 unc args fun a2 args =>
 unn args <|
 rdM (ld false 1 a1) fun v1 =>
 optM (nilR v1) fun v2 =>
 optM (faR 0 v2) fun v3 =>
 rdM (ld false 1 v3) fun v4 =>
 rdM (ld false 1 a1) fun v5 =>
 optM (nilR v5) fun v6 =>
 optM (faR 6 v6) fun v7 =>
 optM (faR 2 v7) fun v8 =>
 rdM (ld false 1 v8) fun v9 =>
 optM (iaL 1 v9 a0) fun v10 =>
 rdM (ld false 1 v10) fun v11 =>
 rdM (ld false 1 a2) fun v12 =>
 alM (alR 30 [(.i .i64 0), (.i .i64 0)]) fun v13 =>
 bindM (F_rig_Rig_Zone N Φ [v4, v11, v12]) fun v14 =>
 chkM (ckA (alR 30 [(.i .i64 0), (.i .i64 0)]) v13) <|
 optM (exR 0 v14) fun v15 =>
 optM (exR 1 v14) fun v16 =>
 bindM (stR 2 v13 v15) fun v17 =>
 optM (unV .not v16) fun v18 =>
 bindM (gdM (boolV (some v18)) false (pM (faR 1 v13))) fun v19 =>
 bindM (gdM (boolV (some v18)) false (rM (ld false 1 v19))) fun v20 =>
 bindM (gdM (boolV (some v18)) false (pM (binR .eql .o none v20 (.i .i64 0)))) fun v21 =>
 optM (pickR v18 (.b true) v21) fun v22 =>
 bindM (gdM (boolV (some v22)) false (rM (ld false 1 a1))) fun v23 =>
 bindM (gdM (boolV (some v22)) false (pM (some a0))) fun v24 =>
 bindM (gdM (boolV (some v22)) false (rM (ld false 1 a2))) fun v25 =>
 bindM (gdM (boolV (some v22)) false (F_array_Array_has N Φ [v23, v24, v25])) fun v26 =>
 bindM (gdM (boolV (some v22)) false (pM (unV .not v26))) fun v27 =>
 optM (pickR v22 (.b true) v27) fun v28 =>
 iteM (some v28) (
 pureM (.i .i64 0)
 ) (
 rdM (ld false 1 a1) fun v29 =>
 rdM (ld false 1 a2) fun v30 =>
 optM (bdR [(0, 1), (1, 1), (2, 1), (3, 1)] [(.i .i64 0), (.i .i64 0), (.i .i64 0), (.i .i64 0)] [(0, (.i .i64 4)), (1, v30)]) fun v31 =>
 bindM (F_array_Array_do N Φ [v29, a0, v31, (.s [])]) fun v32 =>
 optM (exR 0 v32) fun v33 =>
 optM (exR 1 v32) fun v34 =>
 optM (exR 2 v32) fun v35 =>
 pureM v35
 )
def an_array_Array_shut_1 : An := (.two .n (.two (.two .n (.two .n (.two (.two .n .n) .n))) (.two .n (.two .n .n))))

/-- (*corbel/array.Array).shut -/
def tab_array_Array_shut (N : Nat) (Φ : Calls') : Calls' := fun f => cond (Nat.beq f id_array_Array_each) (some (F_array_Array_each N Φ)) (Φ f)
def F_array_Array_shut (N : Nat) (Φ : Calls') : List V → M V := fun args =>
 unc args fun a0 args =>
 unc args fun a1 args =>
 unn args <|
 alM (boxR a0) fun v1 =>
 alM (boxR a1) fun v2 =>
 rdM (ld false 1 v1) fun v3 =>
 bindM (F_array_Array_each N Φ [v3, (.f id_array_Array_shut_1 [] [v1, v2])]) fun v4 =>
 pureM v4
def an_array_Array_shut : An := (.two .n (.two .n .n))

/-- (*corbel/array.Array).finish$2 -/
def tab_array_Array_finish_2 (N : Nat) (Φ : Calls') : Calls' := fun f => cond (Nat.beq f id_array_Array_shut) (some (F_array_Array_shut N Φ)) (Φ f)
def F_array_Array_finish_2 (N : Nat) (Φ : Calls') : List V → M V := fun args =>
 unc args fun a0 args =>
 unc args fun a1 args =>
 unn args <|
 rdM (ld false 1 a0) fun v1 =>
 optM (faR 0 a1) fun v2 =>
 rdM (ld false 1 v2) fun v3 =>
 bindM (F_array_Array_shut N Φ [v1, v3]) fun v4 =>
 pureM v4
def an_array_Array_finish_2 : An := (.two .n (.two .n .n))

/-- (*corbel/array.Array).finish -/
def tab_array_Array_finish (N : Nat) (Φ : Calls') : Calls' := fun f => cond (Nat.beq f id_array_run) (some (F_array_run N Φ)) (Φ f)
def F_array_Array_finish (N : Nat) (Φ : Calls') : List V → M V := fun args =>
 unc args fun a0 args =>
 unc args fun a1 args =>
 unc args fun a2 args =>
 unn args <|
 alM (boxR a0) fun v1 =>
 alM (boxR a1) fun v2 =>
 alM (boxR a2) fun v3 =>
 optM (faR 0 v3) fun v4 =>
 rdM (ld false 1 v4) fun v5 =>
 optM (binR .eql .o none v5 (.i .i64 4)) fun v6 =>
 iteM (some v6) (
 pureM (.i .i64 0)
 ) (
 rdM (ld false 1 v1) fun v7 =>
 optM (nilR v7) fun v8 =>
 optM (faR 6 v8) fun v9 =>
 optM (faR 1 v9) fun v10 =>
 rdM (ld false 1 v10) fun v11 =>
 rdM (ld false 1 v2) fun v12 =>
 optM (iaL 3 v11 v12) fun v13 =>
 rdM (ld true 3 v13) fun v14 =>
 alM (alR 134 [(.i .i64 0), (.i .i64 0), (.i .i64 0)]) fun v15 =>
 bindM (stR 3 v15 v14) fun v16 =>
 optM (faR 2 v15) fun v17 =>
 bindM (stR 1 v17 (.i .i64 2)) fun v18 =>
 rdM (ld false 1 v1) fun v19 =>
 rdM (ld false 1 v1) fun v20 =>
 alM (bsR 4 1 (zeros [.nf] 4) [(0, (.f id_array_Array_flush [v19] [])), (1, (.f id_array_Array_finish_1 [] [v1, v2, v15])), (2, (.f id_array_Array_flush [v20] [])), (3, (.f id_array_Array_finish_2 [] [v1, v15]))]) fun v21 =>
 bindM (F_array_run N Φ [v21]) fun v22 =>
 pureM v22
 )
def an_array_Array_finish : An := (.two .n (.two (.two .n (.two (.two .n .n) .n)) (.two .n (.two .n (.two .n .n)))))

/-- (*corbel/array.Array).Do -/
def tab_array_Array_Do (N : Nat) (Φ : Calls') : Calls' := fun f => cond (Nat.beq f id_array_Array_ready) (some (F_array_Array_ready N Φ)) (cond (Nat.beq f id_array_holds) (some (F_array_holds N Φ)) (cond (Nat.beq f id_zone_Machine_Get) (some (F_zone_Machine_Get N Φ)) (cond (Nat.beq f id_zone_Machine_Do) (some (F_zone_Machine_Do N Φ)) (cond (Nat.beq f id_array_Array_write) (some (F_array_Array_write N Φ)) (cond (Nat.beq f id_array_Array_read) (some (F_array_Array_read N Φ)) (cond (Nat.beq f id_array_Array_reset) (some (F_array_Array_reset N Φ)) (cond (Nat.beq f id_array_Array_finish) (some (F_array_Array_finish N Φ)) (Φ f))))))))
def F_array_Array_Do (N : Nat) (Φ : Calls') : List V → M V := fun args =>
 unc args fun a0 args =>
 unc args fun a1 args =>
 unc args fun a2 args =>
 unn args <|
 alM (boxR a1) fun v1 =>
 bindM (F_array_Array_ready N Φ [a0]) fun v2 =>
 optM (binR .neq .o none v2 (.i .i64 0)) fun v3 =>
 iteM (some v3) (
 pureM (.t [(.s []), (.i .i64 0), v2])
 ) (
 rdM (ld true 4 v1) fun v4 =>
 bindM (F_array_holds N Φ [v4, a2]) fun v5 =>
 optM (unV .not v5) fun v6 =>
 iteM (some v6) (
 pureM (.t [(.s []), (.i .i64 0), (.i .i64 1)])
 ) (
 optM (nilR a0) fun v7 =>
 optM (faR 12 v7) fun v8 =>
 rdM (ld false 1 v8) fun v9 =>
 optM (faR 1 v1) fun v10 =>
 rdM (ld false 1 v10) fun v11 =>
 alM (alR 30 [(.i .i64 0), (.i .i64 0)]) fun v12 =>
 bindM (F_zone_Machine_Get N Φ [v9, v11]) fun v13 =>
 chkM (ckA (alR 30 [(.i .i64 0), (.i .i64 0)]) v12) <|
 optM (exR 0 v13) fun v14 =>
 optM (exR 1 v13) fun v15 =>
 bindM (stR 2 v12 v14) fun v16 =>
 optM (nilR a0) fun v17 =>
 optM (faR 12 v17) fun v18 =>
 rdM (ld false 1 v18) fun v19 =>
 rdM (ld true 4 v1) fun v20 =>
 bindM (F_zone_Machine_Do N Φ [v19, v20]) fun v21 =>
 optM (exR 0 v21) fun v22 =>
 optM (exR 1 v21) fun v23 =>
 optM (binR .neq .o none v23 (.i .i64 0)) fun v24 =>
 iteM (some v24) (
 pureM (.t [(.s []), (.i .i64 0), v23])
 ) (
 lrM (
 optM (faR 0 v1) fun v25 =>
 rdM (ld false 1 v25) fun v26 =>
 lrM (
 optM (binR .eql .o none v26 (.i .i64 1)) fun v27 =>
 iteM (some v27) (
 pureM (.nx [a0, a2, v1, v12, v22, v23, (.s []), v26, v27])
 ) (
 optM (binR .eql .o none v26 (.i .i64 2)) fun v28 =>
 pureM (.nx [a0, a2, v1, v12, v22, v23, (.s []), v26, v28])
 )
 )
 (fun vs =>
 unc vs fun v29 vs =>
 unc vs fun v30 vs =>
 unc vs fun v31 vs =>
 unc vs fun v32 vs =>
 unc vs fun v33 vs =>
 unc vs fun v34 vs =>
 unc vs fun v35 vs =>
 unc vs fun v36 vs =>
 unc vs fun v37 vs =>
 unn vs <|
 iteM (some v37) (
 optM (faR 1 v31) fun v38 =>
 rdM (ld false 1 v38) fun v39 =>
 bindM (F_array_Array_write N Φ [v29, v39, v33, v30]) fun v40 =>
 pureM (.nx [v33, v40, v35])
 ) (
 optM (binR .eql .o none v36 (.i .i64 7)) fun v41 =>
 iteM (some v41) (
 optM (faR 1 v31) fun v42 =>
 rdM (ld false 1 v42) fun v43 =>
 optM (faR 3 v31) fun v44 =>
 rdM (ld false 1 v44) fun v45 =>
 bindM (F_array_Array_read N Φ [v29, v43, v33, v45]) fun v46 =>
 optM (exR 0 v46) fun v47 =>
 optM (exR 1 v46) fun v48 =>
 pureM (.nx [v33, v48, v47])
 ) (
 optM (binR .eql .o none v36 (.i .i64 3)) fun v49 =>
 iteM (some v49) (
 optM (faR 1 v31) fun v50 =>
 rdM (ld false 1 v50) fun v51 =>
 rdM (ld true 2 v32) fun v52 =>
 bindM (F_array_Array_reset N Φ [v29, v51, v52]) fun v53 =>
 pureM (.nx [v33, v53, v35])
 ) (
 optM (binR .eql .o none v36 (.i .i64 4)) fun v54 =>
 iteM (some v54) (
 optM (faR 1 v31) fun v55 =>
 rdM (ld false 1 v55) fun v56 =>
 rdM (ld true 2 v32) fun v57 =>
 bindM (F_array_Array_finish N Φ [v29, v56, v57]) fun v58 =>
 pureM (.nx [v33, v58, v35])
 ) (
 pureM (.nx [v33, v34, v35])
 )
 )
 )
 )
 )
 (fun id vs =>
 failM)
 (fun vs =>
 unc vs fun v59 vs =>
 unc vs fun v60 vs =>
 unc vs fun v61 vs =>
 unn vs <|
 pureM (.rt [v59, v60, v61])
 )
 )
 (fun vs =>
 unc vs fun v62 vs =>
 unc vs fun v63 vs =>
 unc vs fun v64 vs =>
 unn vs <|
 optM (binR .neq .o none v63 (.i .i64 0)) fun v65 =>
 iteM (some v65) (
 pureM (.t [(.s []), (.i .i64 0), v63])
 ) (
 pureM (.t [v64, v62, (.i .i64 0)])
 )
 )
 (fun id vs =>
 failM)
 (fun vs =>
 unc vs fun v66 vs =>
 unc vs fun v67 vs =>
 unc vs fun v68 vs =>
 unn vs <|
 pureM (.t [v66, v67, v68])
 )
 )
 )
 )
def an_array_Array_Do : An := (.two .n (.two (.two .n (.two .n (.two (.two .n .n) .n))) (.two (.two .n (.two (.two .n .n) .n)) (.two .n (.two .n (.two (.two .n (.two (.two .n .n) .n)) (.two .n (.two (.cut [12, 13, 14] [] [6, 7, 8] (.two .n (.one (.two (.cut [0, 2, 4, 10, 12, 13, 14, 47, 48] [] [6, 7, 8] (.two .n (.two .n .n))) (.two .n (.two .n (.two .n (.two .n (.two .n (.two .n (.two .n .n))))))))))) (.two (.two .n (.two (.two .n .n) .n)) (.two .n .n))))))))))

/-- corbel/corbellaw17.geometry -/
def tab_corbellaw17_geometry (N : Nat) (Φ : Calls') : Calls' := fun f => Φ f
def F_corbellaw17_geometry (N : Nat) (Φ : Calls') : List V → M V := fun args =>
 unc args fun a0 args =>
 unn args <|
 alM (boxR a0) fun v1 =>
 alM (alR 38 [(.i .i64 0), (.i .i64 0), (.i .i64 0), (.i .i64 0), (.i .i64 0)]) fun v2 =>
 optM (iaA 3 1 v1 (.i .i64 0)) fun v3 =>
 rdM (ld false 1 v3) fun v4 =>
 optM (binR .and .o none v4 (.i .i64 1)) fun v5 =>
 optM (binR .add .o none (.i .i64 3) v5) fun v6 =>
 optM (iaA 3 1 v1 (.i .i64 1)) fun v7 =>
 rdM (ld false 1 v7) fun v8 =>
 optM (binR .and .o none v8 (.i .i64 1)) fun v9 =>
 optM (binR .add .o none (.i .i64 6) v9) fun v10 =>
 optM (iaA 3 1 v1 (.i .i64 2)) fun v11 =>
 rdM (ld false 1 v11) fun v12 =>
 optM (binR .and .o none v12 (.i .i64 1)) fun v13 =>
 optM (binR .add .o none (.i .i64 1) v13) fun v14 =>
 optM (iaA 3 1 v1 (.i .i64 2)) fun v15 =>
 rdM (ld false 1 v15) fun v16 =>
 optM (binR .and .o none v16 (.i .i64 3)) fun v17 =>
 optM (binR .add .o none (.i .i64 4) v17) fun v18 =>
 optM (bdR [(0, 1), (1, 1), (2, 1), (3, 1), (4, 1)] [(.i .i64 0), (.i .i64 0), (.i .i64 0), (.i .i64 0), (.i .i64 0)] [(0, v6), (1, v10), (3, v14), (4, v18), (2, (.i .i64 27))]) fun v19 =>
 alM (alR 38 [(.i .i64 0), (.i .i64 0), (.i .i64 0), (.i .i64 0), (.i .i64 0)]) fun v20 =>
 bindM (stR 5 v20 v19) fun v21 =>
 lrM (
 optM (faR 4 v20) fun v22 =>
 rdM (ld false 1 v22) fun v23 =>
 optM (binR .gtr .o none v23 (.i .i64 6)) fun v24 =>
 iteM (some v24) (
 optM (faR 4 v20) fun v25 =>
 bindM (stR 1 v25 (.i .i64 6)) fun v26 =>
 pureM (.nx [v2, v20])
 ) (
 pureM (.nx [v2, v20])
 )
 )
 (fun vs =>
 unc vs fun v27 vs =>
 unc vs fun v28 vs =>
 unn vs <|
 rdM (ld true 5 v28) fun v29 =>
 bindM (stR 5 v27 v29) fun v30 =>
 rdM (ld true 5 v27) fun v31 =>
 pureM v31
 )
 (fun id vs =>
 failM)
 (fun vs =>
 unc vs fun v32 vs =>
 unn vs <|
 rdM (ld true 5 v32) fun v33 =>
 pureM v33
 )
def an_corbellaw17_geometry : An := (.two .n (.two .n (.two (.cut [2, 3] [] [2] (.two .n (.two .n .n))) (.two .n .n))))

/-- (*corbel/array.Array).Status -/
def tab_array_Array_Status (N : Nat) (Φ : Calls') : Calls' := fun f => Φ f
def F_array_Array_Status (N : Nat) (Φ : Calls') : List V → M V := fun args =>
 unc args fun a0 args =>
 unn args <|
 alM (alR 43 [(.i .i64 0), (.i .i64 0), (.b false)]) fun v1 =>
 optM (binR .eql .p none a0 .pn) fun v2 =>
 iteM (some v2) (
 optM (bdR [(0, 1), (1, 1), (2, 1)] [(.i .i64 0), (.i .i64 0), (.b false)] [(0, (.i .i64 (-1))), (1, (.i .i64 (-1)))]) fun v3 =>
 bindM (stR 3 v1 v3) fun v4 =>
 rdM (ld true 3 v1) fun v5 =>
 pureM v5
 ) (
 optM (nilR a0) fun v6 =>
 optM (faR 15 v6) fun v7 =>
 rdM (ld false 1 v7) fun v8 =>
 optM (nilR a0) fun v9 =>
 optM (faR 6 v9) fun v10 =>
 optM (faR 3 v10) fun v11 =>
 rdM (ld false 1 v11) fun v12 =>
 optM (nilR a0) fun v13 =>
 optM (faR 16 v13) fun v14 =>
 rdM (ld false 1 v14) fun v15 =>
 optM (bdR [(0, 1), (1, 1), (2, 1)] [(.i .i64 0), (.i .i64 0), (.b false)] [(0, v8), (1, v12), (2, v15)]) fun v16 =>
 bindM (stR 3 v1 v16) fun v17 =>
 rdM (ld true 3 v1) fun v18 =>
 pureM v18
 )
def an_array_Array_Status : An := (.two .n (.two (.two .n (.two (.two .n .n) .n)) (.two .n .n)))

/-- corbel/array.Good -/
def tab_array_Good (N : Nat) (Φ : Calls') : Calls' := fun f => cond (Nat.beq f id_geom_Good) (some (F_geom_Good N Φ)) (cond (Nat.beq f id_geom_Zones) (some (F_geom_Zones N Φ)) (Φ f))
def F_array_Good (N : Nat) (Φ : Calls') : List V → M V := fun args =>
 unc args fun a0 args =>
 unn args <|
 alM (boxR a0) fun v1 =>
 rdM (ld true 5 v1) fun v2 =>
 bindM (F_geom_Good N Φ [v2]) fun v3 =>
 optM (unV .not v3) fun v4 =>
 bindM (gdM (boolV (some v4)) false (pM (faR 4 v1))) fun v5 =>
 bindM (gdM (boolV (some v4)) false (rM (ld false 1 v5))) fun v6 =>
 bindM (gdM (boolV (some v4)) false (pM (binR .leq .o none v6 (.i .i64 3)))) fun v7 =>
 optM (pickR v4 (.b true) v7) fun v8 =>
 iteM (some v8) (
 pureM (.b false)
 ) (
 optM (faR 2 v1) fun v9 =>
 rdM (ld false 1 v9) fun v10 =>
 optM (faR 0 v1) fun v11 =>
 rdM (ld false 1 v11) fun v12 =>
 optM (binR .add .o none (.i .i64 11) v12) fun v13 =>
 rdM (ld true 5 v1) fun v14 =>
 bindM (F_geom_Zones N Φ [v14]) fun v15 =>
 chkM (ckR (ld false 1 v11) v12) <|
 chkM (ckR (ld false 1 v9) v10) <|
 optM (binR .mul .o none (.i .i64 3) v15) fun v16 =>
 optM (binR .add .o none v13 v16) fun v17 =>
 optM (binR .geq .o none v10 v17) fun v18 =>
 pureM v18
 )
def an_array_Good : An := (.two .n (.two (.two .n (.two (.two .n .n) .n)) (.two .n .n)))

/-- (*corbel/rig.Rig).Drives -/
def tab_rig_Rig_Drives (N : Nat) (Φ : Calls') : Calls' := fun f => Φ f
def F_rig_Rig_Drives (N : Nat) (Φ : Calls') : List V → M V := fun args =>
 unc args fun a0 args =>
 unn args <|
 optM (binR .eql .p none a0 .pn) fun v1 =>
 iteM (some v1) (
 pureM (.i .i64 0)
 ) (
 optM (nilR a0) fun v2 =>
 optM (faR 0 v2) fun v3 =>
 rdM (ld false 1 v3) fun v4 =>
 optM (lnL v4) fun v5 =>
 pureM v5
 )
def an_rig_Rig_Drives : An := (.two .n (.two (.two .n (.two (.two .n .n) .n)) (.two .n .n)))

/-- corbel/array.fits -/
def tab_array_fits (N : Nat) (Φ : Calls') : Calls' := fun f => cond (Nat.beq f id_array_Good) (some (F_array_Good N Φ)) (cond (Nat.beq f id_rig_Rig_Drives) (some (F_rig_Rig_Drives N Φ)) (cond (Nat.beq f id_rig_Rig_Blocks) (some (F_rig_Rig_Blocks N Φ)) (Φ f)))
def F_array_fits (N : Nat) (Φ : Calls') : List V → M V := fun args =>
 unc args fun a0 args =>
 unc args fun a1 args =>
 unn args <|
 alM (boxR a1) fun v1 =>
 optM (binR .neq .p none a0 .pn) fun v2 =>
 bindM (gdM (boolV (some v2)) true (rM (ld true 5 v1))) fun v3 =>
 bindM (gdM (boolV (some v2)) true (F_array_Good N Φ [v3])) fun v4 =>
 optM (pickR v2 v4 (.b false)) fun v5 =>
 bindM (gdM (boolV (some v5)) true (pM (some a0))) fun v6 =>
 bindM (gdM (boolV (some v5)) true (pM (faR 0 v1))) fun v7 =>
 bindM (gdM (boolV (some v5)) true (rM (ld false 1 v7))) fun v8 =>
 bindM (gdM (boolV (some v5)) true (pM (binR .add .o none v8 (.i .i64 1)))) fun v9 =>
 bindM (gdM (boolV (some v5)) true (F_rig_Rig_Drives N Φ [v6])) fun v10 =>
 chkM (match boolV (some v5) with | some x => cond (okB x true) (ckR (ld false 1 v7) v8) (fun _ => true) | none => fun _ => false) <|
 bindM (gdM (boolV (some v5)) true (pM (binR .eql .o none v10 v9))) fun v11 =>
 optM (pickR v5 v11 (.b false)) fun v12 =>
 bindM (gdM (boolV (some v12)) true (pM (some a0))) fun v13 =>
 bindM (gdM (boolV (some v12)) true (pM (faR 2 v1))) fun v14 =>
 bindM (gdM (boolV (some v12)) true (rM (ld false 1 v14))) fun v15 =>
 bindM (gdM (boolV (some v12)) true (F_rig_Rig_Blocks N Φ [v13])) fun v16 =>
 chkM (match boolV (some v12) with | some x => cond (okB x true) (ckR (ld false 1 v14) v15) (fun _ => true) | none => fun _ => false) <|
 bindM (gdM (boolV (some v12)) true (pM (binR .eql .o none v16 v15))) fun v17 =>
 optM (pickR v12 v17 (.b false)) fun v18 =>
 pureM v18
def an_array_fits : An := (.two .n (.two .n .n))

/-- (*corbel/rig.Rig).Dead -/
def tab_rig_Rig_Dead (N : Nat) (Φ : Calls') : Calls' := fun f => cond (Nat.beq f id_rig_Rig_at) (some (F_rig_Rig_at N Φ)) (cond (Nat.beq f id_drive_Drive_Dead) (some (F_drive_Drive_Dead N Φ)) (Φ f))
def F_rig_Rig_Dead (N : Nat) (Φ : Calls') : List V → M V := fun args =>
 unc args fun a0 args =>
 unc args fun a1 args =>
 unn args <|
 bindM (F_rig_Rig_at N Φ [a0, a1]) fun v1 =>
 optM (binR .eql .p none v1 .pn) fun v2 =>
 bindM (gdM (boolV (some v2)) false (pM (some v1))) fun v3 =>
 bindM (gdM (boolV (some v2)) false (F_drive_Drive_Dead N Φ [v3])) fun v4 =>
 optM (pickR v2 (.b true) v4) fun v5 =>
 pureM v5
def an_rig_Rig_Dead : An := (.two .n (.two .n (.two .n .n)))

/-- corbel/xor.Empty -/
def tab_xor_Empty (N : Nat) (Φ : Calls') : Calls' := fun f => cond (Nat.beq f id_strings_Trim) (some (F_strings_Trim N Φ)) (Φ f)
def F_xor_Empty (N : Nat) (Φ : Calls') : List V → M V := fun args =>
 unc args fun a0 args =>
 unn args <|
 bindM (F_strings_Trim N Φ [a0, (.s [0])]) fun v1 =>
 optM (binR .eql .o none v1 (.s [])) fun v2 =>
 pureM v2
def an_xor_Empty : An := (.two .n (.two .n .n))

/-- corbel/record.Decode -/
def tab_record_Decode (N : Nat) (Φ : Calls') : Calls' := fun f => cond (Nat.beq f id_crc_Sum) (some (F_crc_Sum N Φ)) (cond (Nat.beq f id_record_right) (some (F_record_right N Φ)) (cond (Nat.beq f id_record_Blocks) (some (F_record_Blocks N Φ)) (cond (Nat.beq f id_record_fields) (some (F_record_fields N Φ)) (cond (Nat.beq f id_xor_Empty) (some (F_xor_Empty N Φ)) (cond (Nat.beq f id_nums_Get) (some (F_nums_Get N Φ)) (Φ f))))))
def F_record_Decode (N : Nat) (Φ : Calls') : List V → M V := fun args =>
 unc args fun a0 args =>
 unn args <|
 alM (alR 157 [(.i .i64 0), (.i .i64 0), (.i .i64 0), (.i .i64 0), (.i .i64 0), (.i .i64 0), (.s [])]) fun v1 =>
 optM (binR .eql .o none a0 (.s [])) fun v2 =>
 iteM (some v2) (
 optM (bdR [(0, 1), (1, 1), (2, 1), (3, 1), (4, 1), (5, 1), (6, 1)] [(.i .i64 0), (.i .i64 0), (.i .i64 0), (.i .i64 0), (.i .i64 0), (.i .i64 0), (.s [])] []) fun v3 =>
 bindM (stR 7 v1 v3) fun v4 =>
 rdM (ld true 7 v1) fun v5 =>
 pureM (.t [v5, (.i .i64 0), (.i .i64 13)])
 ) (
 optM (lnS a0) fun v6 =>
 optM (binR .lss .o none v6 (.i .i64 64)) fun v7 =>
 bindM (gdM (boolV (some v7)) false (pM (some a0))) fun v8 =>
 bindM (gdM (boolV (some v7)) false (pM (slS v8 none (some (.i .i64 2)) none))) fun v9 =>
 bindM (gdM (boolV (some v7)) false (pM (binR .neq .o none v9 (.s [67, 66])))) fun v10 =>
 optM (pickR v7 (.b true) v10) fun v11 =>
 bindM (gdM (boolV (some v11)) false (pM (some a0))) fun v12 =>
 bindM (gdM (boolV (some v11)) false (pM (slS v12 (some (.i .i64 25)) (some (.i .i64 64)) none))) fun v13 =>
 bindM (gdM (boolV (some v11)) false (F_xor_Empty N Φ [v13])) fun v14 =>
 bindM (gdM (boolV (some v11)) false (pM (unV .not v14))) fun v15 =>
 optM (pickR v11 (.b true) v15) fun v16 =>
 iteM (some v16) (
 optM (bdR [(0, 1), (1, 1), (2, 1), (3, 1), (4, 1), (5, 1), (6, 1)] [(.i .i64 0), (.i .i64 0), (.i .i64 0), (.i .i64 0), (.i .i64 0), (.i .i64 0), (.s [])] []) fun v17 =>
 bindM (stR 7 v1 v17) fun v18 =>
 rdM (ld true 7 v1) fun v19 =>
 pureM (.t [v19, (.i .i64 0), (.i .i64 10)])
 ) (
 alM (alR 157 [(.i .i64 0), (.i .i64 0), (.i .i64 0), (.i .i64 0), (.i .i64 0), (.i .i64 0), (.s [])]) fun v20 =>
 bindM (F_record_fields N Φ []) fun v21 =>
 optM (lnL v21) fun v22 =>
 lrM (
 loopM N (fun vs =>
 unc vs fun v23 vs =>
 unc vs fun v24 vs =>
 unc vs fun v25 vs =>
 unc vs fun v26 vs =>
 unc vs fun v27 vs =>
 unc vs fun v28 vs =>
 unn vs <|
 optM (binR .lss .o none v28 v27) fun v29 =>
 iteM (some v29) (
 optM (iaL 4 v26 v28) fun v30 =>
 rdM (ld true 4 v30) fun v31 =>
 alM (alR 354 [(.i .i64 0), (.i .i64 0), (.i .i64 0), .nf]) fun v32 =>
 bindM (stR 4 v32 v31) fun v33 =>
 optM (faR 3 v32) fun v34 =>
 rdM (ld false 1 v34) fun v35 =>
 optM (faR 0 v32) fun v36 =>
 rdM (ld false 1 v36) fun v37 =>
 optM (faR 0 v32) fun v38 =>
 rdM (ld false 1 v38) fun v39 =>
 optM (faR 1 v32) fun v40 =>
 rdM (ld false 1 v40) fun v41 =>
 optM (binR .add .o none v39 v41) fun v42 =>
 optM (slS v23 (some v37) (some v42) none) fun v43 =>
 bindM (callF (tab_record_Decode N Φ) v35 [v25]) fun v44 =>
 chkM (ckR (ld false 1 v40) v41) <|
 chkM (ckR (ld false 1 v38) v39) <|
 chkM (ckR (ld false 1 v36) v37) <|
 bindM (F_nums_Get N Φ [v43]) fun v45 =>
 optM (exR 0 v45) fun v46 =>
 optM (exR 1 v45) fun v47 =>
 optM (nilR v44) fun v48 =>
 bindM (stR 1 v48 v46) fun v49 =>
 optM (binR .add .o none v28 (.i .i64 1)) fun v50 =>
 pureM (.nx [v23, v24, v25, v26, v27, v50])
 ) (
 pureM (.ex 0 [v23, v24, v25])
 )
 ) [a0, v1, v20, v21, v22, (.i .i64 0)])
 (fun vs =>
 failM)
 (fun id vs =>
 cond (Nat.beq id 0) (
 unc vs fun v51 vs =>
 unc vs fun v52 vs =>
 unc vs fun v53 vs =>
 unn vs <|
 optM (faR 0 v53) fun v54 =>
 rdM (ld false 1 v54) fun v55 =>
 bindM (F_record_Blocks N Φ [v55]) fun v56 =>
 bindM (F_record_right N Φ [v53]) fun v57 =>
 optM (unV .not v57) fun v58 =>
 bindM (gdM (boolV (some v58)) false (pM (some v51))) fun v59 =>
 bindM (gdM (boolV (some v58)) false (pM (lnS v59))) fun v60 =>
 bindM (gdM (boolV (some v58)) false (pM (some v56))) fun v61 =>
 bindM (gdM (boolV (some v58)) false (pM (binR .mul .o none v61 (.i .i64 64)))) fun v62 =>
 bindM (gdM (boolV (some v58)) false (pM (binR .lss .o none v60 v62))) fun v63 =>
 optM (pickR v58 (.b true) v63) fun v64 =>
 iteM (some v64) (
 optM (bdR [(0, 1), (1, 1), (2, 1), (3, 1), (4, 1), (5, 1), (6, 1)] [(.i .i64 0), (.i .i64 0), (.i .i64 0), (.i .i64 0), (.i .i64 0), (.i .i64 0), (.s [])] []) fun v65 =>
 bindM (stR 7 v52 v65) fun v66 =>
 rdM (ld true 7 v52) fun v67 =>
 pureM (.t [v67, (.i .i64 0), (.i .i64 10)])
 ) (
 optM (binR .mul .o none v56 (.i .i64 64)) fun v68 =>
 optM (slS v51 (some (.i .i64 64)) (some v68) none) fun v69 =>
 optM (faR 6 v53) fun v70 =>
 bindM (stR 1 v70 v69) fun v71 =>
 optM (slS v51 (some (.i .i64 21)) (some (.i .i64 25)) none) fun v72 =>
 bindM (F_nums_Get N Φ [v72]) fun v73 =>
 optM (exR 0 v73) fun v74 =>
 optM (exR 1 v73) fun v75 =>
 optM (cvI .u32 v74) fun v76 =>
 optM (slS v51 none (some (.i .i64 21)) none) fun v77 =>
 optM (faR 6 v53) fun v78 =>
 rdM (ld false 1 v78) fun v79 =>
 alM (bsR 2 1 (zeros [(.s [])] 2) [(0, v77), (1, v79)]) fun v80 =>
 bindM (F_crc_Sum N Φ [v80]) fun v81 =>
 optM (binR .neq .o none v76 v81) fun v82 =>
 iteM (some v82) (
 optM (bdR [(0, 1), (1, 1), (2, 1), (3, 1), (4, 1), (5, 1), (6, 1)] [(.i .i64 0), (.i .i64 0), (.i .i64 0), (.i .i64 0), (.i .i64 0), (.i .i64 0), (.s [])] []) fun v83 =>
 bindM (stR 7 v52 v83) fun v84 =>
 rdM (ld true 7 v52) fun v85 =>
 pureM (.t [v85, (.i .i64 0), (.i .i64 11)])
 ) (
 rdM (ld true 7 v53) fun v86 =>
 bindM (stR 7 v52 v86) fun v87 =>
 rdM (ld true 7 v52) fun v88 =>
 pureM (.t [v88, v56, (.i .i64 0)])
 )
 )
 ) <|
 failM)
 (fun vs =>
 unc vs fun v89 vs =>
 unc vs fun v90 vs =>
 unc vs fun v91 vs =>
 unn vs <|
 rdM (ld true 7 v89) fun v92 =>
 pureM (.t [v92, v90, v91])
 )
 )
 )
def an_record_Decode : An := (.two .n (.two (.two .n (.two (.two .n .n) .n)) (.two (.two .n (.two (.two .n .n) .n)) (.two .n (.two (.two .n (.one (.loop [0, 2, 5, 29, 30, 31] [(0, [0, 2, 5])] [2, 3, 4] (.two .n (.two (.two .n .n) (.two (.one (.two .n .n)) .n)))))) (.two .n (.two (.two .n (.two (.two .n .n) .n)) (.two .n (.two (.two .n (.two .n (.two (.two .n .n) .n))) (.two .n .n))))))))))

/-- corbel/record.Scan -/
def tab_record_Scan (N : Nat) (Φ : Calls') : Calls' := fun f => cond (Nat.beq f id_record_Decode) (some (F_record_Decode N Φ)) (Φ f)
def F_record_Scan (N : Nat) (Φ : Calls') : List V → M V := fun args =>
 unc args fun a0 args =>
 unn args <|
 lrM (
 loopM N (fun vs =>
 unc vs fun v1 vs =>
 unc vs fun v2 vs =>
 unc vs fun v3 vs =>
 unn vs <|
 optM (binR .mul .o none v3 (.i .i64 64)) fun v4 =>
 optM (slS v1 (some v4) none none) fun v5 =>
 bindM (F_record_Decode N Φ [v5]) fun v6 =>
 optM (exR 0 v6) fun v7 =>
 optM (exR 1 v6) fun v8 =>
 optM (exR 2 v6) fun v9 =>
 alM (alR 157 [(.i .i64 0), (.i .i64 0), (.i .i64 0), (.i .i64 0), (.i .i64 0), (.i .i64 0), (.s [])]) fun v10 =>
 bindM (stR 7 v10 v7) fun v11 =>
 optM (binR .neq .o none v9 (.i .i64 0)) fun v12 =>
 iteM (some v12) (
 pureM (.rt [v2, v3])
 ) (
 rdM (ld true 7 v10) fun v13 =>
 alM (bsR 1 7 (zeros [(.i .i64 0), (.i .i64 0), (.i .i64 0), (.i .i64 0), (.i .i64 0), (.i .i64 0), (.s [])] 7) [(0, v13)]) fun v14 =>
 bindM (apR 157 7 64 (srL 7 v14) v2) fun v15 =>
 optM (binR .add .o none v3 v8) fun v16 =>
 pureM (.nx [v1, v15, v16])
 )
 ) [a0, .ns, (.i .i64 0)])
 (fun vs =>
 failM)
 (fun id vs =>
 failM)
 (fun vs =>
 unc vs fun v17 vs =>
 unc vs fun v18 vs =>
 unn vs <|
 pureM (.t [v17, v18])
 )
def an_record_Scan : An := (.two .n (.two .n (.two .n (.one (.loop [0, 4, 5] [] [2, 3] (.one (.two .n (.two (.two .n (.two (.two .n .n) .n)) .n))))))))

/-- slices.IndexFunc[[]corbel/record.Record,corbel/record.Record] -/
def tab_slices_IndexFunc_record_Record_record_Record (N : Nat) (Φ : Calls') : Calls' := fun f => Φ f
def F_slices_IndexFunc_record_Record_record_Record (N : Nat) (Φ : Calls') : List V → M V := fun args =>
 unc args fun a0 args =>
 unc args fun a1 args =>
 unn args <|
 optM (lnL a0) fun v1 =>
 lrM (
 loopM N (fun vs =>
 unc vs fun v2 vs =>
 unc vs fun v3 vs =>
 unc vs fun v4 vs =>
 unc vs fun v5 vs =>
 unn vs <|
 optM (binR .lss .o none v5 v4) fun v6 =>
 iteM (some v6) (
 optM (iaL 7 v2 v5) fun v7 =>
 rdM (ld true 7 v7) fun v8 =>
 bindM (callF (tab_slices_IndexFunc_record_Record_record_Record N Φ) v3 [v8]) fun v9 =>
 iteM (some v9) (
 pureM (.rt [v5])
 ) (
 optM (binR .add .o none v5 (.i .i64 1)) fun v10 =>
 pureM (.nx [v2, v3, v4, v10])
 )
 ) (
 pureM (.ex 0 [])
 )
 ) [a0, a1, v1, (.i .i64 0)])
 (fun vs =>
 failM)
 (fun id vs =>
 cond (Nat.beq id 0) (
 unn vs <|
 pureM (.i .i64 (-1))
 ) <|
 failM)
 (fun vs =>
 unc vs fun v11 vs =>
 unn vs <|
 pureM v11
 )
def an_slices_IndexFunc_record_Record_record_Record : An := (.two .n (.two (.two .n (.one (.loop [0, 1, 7, 8] [(0, [])] [4] (.two .n (.two (.two .n .n) (.two (.one (.two .n (.two .n (.two (.two .n .n) .n)))) .n)))))) (.two .n .n)))

/-- slices.ContainsFunc[[]corbel/record.Record,corbel/record.Record] -/
def tab_slices_ContainsFunc_record_Record_record_Record (N : Nat) (Φ : Calls') : Calls' := fun f => cond (Nat.beq f id_slices_IndexFunc_record_Record_record_Record) (some (F_slices_IndexFunc_record_Record_record_Record N Φ)) (Φ f)
def F_slices_ContainsFunc_record_Record_record_Record (N : Nat) (Φ : Calls') : List V → M V := fun args =>
 unc args fun a0 args =>
 unc args fun a1 args =>
 unn args <|
 bindM (F_slices_IndexFunc_record_Record_record_Record N Φ [a0, a1]) fun v1 =>
 optM (binR .geq .o none v1 (.i .i64 0)) fun v2 =>
 pureM v2
def an_slices_ContainsFunc_record_Record_record_Record : An := (.two .n (.two .n .n))

/-- corbel/mlog.look$1 -/
def tab_mlog_look_1 (N : Nat) (Φ : Calls') : Calls' := fun f => Φ f
def F_mlog_look_1 (N : Nat) (Φ : Calls') : List V → M V := fun args =>
 unc args fun a0 args =>
 unc args fun a1 args =>
 unn args <|
 alM (boxR a0) fun v1 =>
 optM (faR 0 v1) fun v2 =>
 rdM (ld false 1 v2) fun v3 =>
 optM (binR .eql .o none v3 (.i .i64 2)) fun v4 =>
 bindM (gdM (boolV (some v4)) true (pM (faR 4 v1))) fun v5 =>
 bindM (gdM (boolV (some v4)) true (rM (ld false 1 v5))) fun v6 =>
 bindM (gdM (boolV (some v4)) true (pM (faR 1 a1))) fun v7 =>
 bindM (gdM (boolV (some v4)) true (rM (ld false 1 v7))) fun v8 =>
 bindM (gdM (boolV (some v4)) true (pM (binR .eql .o none v6 v8))) fun v9 =>
 optM (pickR v4 v9 (.b false)) fun v10 =>
 pureM v10
def an_mlog_look_1 : An := (.two .n (.two .n .n))

/-- slices.DeleteFunc[[]corbel/record.Record,corbel/record.Record] -/
def tab_slices_DeleteFunc_record_Record_record_Record (N : Nat) (Φ : Calls') : Calls' := fun f => cond (Nat.beq f id_slices_IndexFunc_record_Record_record_Record) (some (F_slices_IndexFunc_record_Record_record_Record N Φ)) (Φ f)
def F_slices_DeleteFunc_record_Record_record_Record (N : Nat) (Φ : Calls') : List V → M V := fun args =>
 unc args fun a0 args =>
 unc args fun a1 args =>
 unn args <|
 bindM (F_slices_IndexFunc_record_Record_record_Record N Φ [a0, a1]) fun v1 =>
 optM (binR .eql .o none v1 (.i .i64 (-1))) fun v2 =>
 iteM (some v2) (
 pureM a0
 ) (
 optM (binR .add .o none v1 (.i .i64 1)) fun v3 =>
 lrM (
 loopM N (fun vs =>
 unc vs fun v4 vs =>
 unc vs fun v5 vs =>
 unc vs fun v6 vs =>
 unc vs fun v7 vs =>
 unn vs <|
 optM (lnL v4) fun v8 =>
 optM (binR .lss .o none v7 v8) fun v9 =>
 iteM (some v9) (
 lrM (
 optM (iaL 7 v4 v7) fun v10 =>
 rdM (ld true 7 v10) fun v11 =>
 alM (alR 157 [(.i .i64 0), (.i .i64 0), (.i .i64 0), (.i .i64 0), (.i .i64 0), (.i .i64 0), (.s [])]) fun v12 =>
 bindM (stR 7 v12 v11) fun v13 =>
 rdM (ld true 7 v12) fun v14 =>
 bindM (callF (tab_slices_DeleteFunc_record_Record_record_Record N Φ) v5 [v14]) fun v15 =>
 optM (unV .not v15) fun v16 =>
 iteM (some v16) (
 rdM (ld true 7 v12) fun v17 =>
 optM (iaL 7 v4 v6) fun v18 =>
 bindM (stR 7 v18 v17) fun v19 =>
 optM (binR .add .o none v6 (.i .i64 1)) fun v20 =>
 pureM (.nx [v4, v5, v20, v7])
 ) (
 pureM (.nx [v4, v5, v6, v7])
 )
 )
 (fun vs =>
 unc vs fun v21 vs =>
 unc vs fun v22 vs =>
 unc vs fun v23 vs =>
 unc vs fun v24 vs =>
 unn vs <|
 optM (binR .add .o none v24 (.i .i64 1)) fun v25 =>
 pureM (.nx [v21, v22, v23, v25])
 )
 (fun id vs =>
 failM)
 (fun vs =>
 unc vs fun v26 vs =>
 unn vs <|
 pureM (.rt [v26])
 )
 ) (
 pureM (.ex 0 [v4, v6])
 )
 ) [a0, a1, v1, v3])
 (fun vs =>
 failM)
 (fun id vs =>
 cond (Nat.beq id 0) (
 unc vs fun v27 vs =>
 unc vs fun v28 vs =>
 unn vs <|
 optM (slL 7 v27 (some v28) none none) fun v29 =>
 bindM (clL 7 [(.i .i64 0), (.i .i64 0), (.i .i64 0), (.i .i64 0), (.i .i64 0), (.i .i64 0), (.s [])] v29) fun v30 =>
 optM (slL 7 v27 none (some v28) none) fun v31 =>
 pureM v31
 ) <|
 failM)
 (fun vs =>
 unc vs fun v32 vs =>
 unn vs <|
 pureM v32
 )
 )
def an_slices_DeleteFunc_record_Record_record_Record : An := (.two .n (.two .n (.two (.two .n (.two (.two .n .n) .n)) (.two (.two .n (.one (.loop [0, 1, 5, 6] [(0, [0, 5])] [4] (.two (.two .n (.two .n .n)) (.two (.cut [0, 1, 5, 6] [] [4] (.one (.two .n (.two .n (.two (.two .n .n) .n))))) .n))))) (.two .n (.two .n .n))))))

/-- corbel/mlog.look$2 -/
def tab_mlog_look_2 (N : Nat) (Φ : Calls') : Calls' := fun f => Φ f
def F_mlog_look_2 (N : Nat) (Φ : Calls') : List V → M V := fun args =>
 unc args fun a0 args =>
 unn args <|
 alM (boxR a0) fun v1 =>
 optM (faR 0 v1) fun v2 =>
 rdM (ld false 1 v2) fun v3 =>
 optM (binR .eql .o none v3 (.i .i64 1)) fun v4 =>
 bindM (gdM (boolV (some v4)) false (pM (faR 0 v1))) fun v5 =>
 bindM (gdM (boolV (some v4)) false (rM (ld false 1 v5))) fun v6 =>
 bindM (gdM (boolV (some v4)) false (pM (binR .eql .o none v6 (.i .i64 2)))) fun v7 =>
 optM (pickR v4 (.b true) v7) fun v8 =>
 pureM v8
def an_mlog_look_2 : An := (.two .n (.two .n .n))

/-- corbel/mlog.look -/
def tab_mlog_look (N : Nat) (Φ : Calls') : Calls' := fun f => cond (Nat.beq f id_rig_Rig_Blocks) (some (F_rig_Rig_Blocks N Φ)) (cond (Nat.beq f id_rig_Rig_Zone) (some (F_rig_Rig_Zone N Φ)) (cond (Nat.beq f id_rig_Rig_Do) (some (F_rig_Rig_Do N Φ)) (cond (Nat.beq f id_record_Scan) (some (F_record_Scan N Φ)) (cond (Nat.beq f id_slices_ContainsFunc_record_Record_record_Record) (some (F_slices_ContainsFunc_record_Record_record_Record N Φ)) (cond (Nat.beq f id_slices_DeleteFunc_record_Record_record_Record) (some (F_slices_DeleteFunc_record_Record_record_Record N Φ)) (Φ f))))))
def F_mlog_look (N : Nat) (Φ : Calls') : List V → M V := fun args =>
 unc args fun a0 args =>
 unc args fun a1 args =>
 unc args fun a2 args =>
 unn args <|
 alM (alR 240 [(.b false), (.i .i64 0), .ns, (.i .i64 0), (.b false)]) fun v1 =>
 bindM (F_rig_Rig_Zone N Φ [a0, a1, a2]) fun v2 =>
 optM (exR 0 v2) fun v3 =>
 optM (exR 1 v2) fun v4 =>
 alM (alR 30 [(.i .i64 0), (.i .i64 0)]) fun v5 =>
 bindM (stR 2 v5 v3) fun v6 =>
 optM (unV .not v4) fun v7 =>
 iteM (some v7) (
 optM (bdR [(0, 1), (1, 1), (2, 1), (3, 1), (4, 1)] [(.b false), (.i .i64 0), .ns, (.i .i64 0), (.b false)] []) fun v8 =>
 bindM (stR 5 v1 v8) fun v9 =>
 rdM (ld true 5 v1) fun v10 =>
 pureM (.t [v10, (.i .i64 1)])
 ) (
 lrM (
 optM (faR 1 v5) fun v11 =>
 rdM (ld false 1 v11) fun v12 =>
 optM (binR .gtr .o none v12 (.i .i64 0)) fun v13 =>
 iteM (some v13) (
 optM (faR 1 v5) fun v14 =>
 rdM (ld false 1 v14) fun v15 =>
 optM (bdR [(0, 1), (1, 1), (2, 1), (3, 1)] [(.i .i64 0), (.i .i64 0), (.i .i64 0), (.i .i64 0)] [(0, (.i .i64 7)), (1, a2), (3, v15)]) fun v16 =>
 bindM (F_rig_Rig_Do N Φ [a0, a1, v16, (.s [])]) fun v17 =>
 optM (exR 0 v17) fun v18 =>
 optM (exR 1 v17) fun v19 =>
 optM (exR 2 v17) fun v20 =>
 optM (binR .neq .o none v20 (.i .i64 0)) fun v21 =>
 iteM (some v21) (
 optM (bdR [(0, 1), (1, 1), (2, 1), (3, 1), (4, 1)] [(.b false), (.i .i64 0), .ns, (.i .i64 0), (.b false)] []) fun v22 =>
 bindM (stR 5 v1 v22) fun v23 =>
 pureM (.rt [v1, v20])
 ) (
 pureM (.nx [a0, v1, v5, v18])
 )
 ) (
 pureM (.nx [a0, v1, v5, (.s [])])
 )
 )
 (fun vs =>
 unc vs fun v24 vs =>
 unc vs fun v25 vs =>
 unc vs fun v26 vs =>
 unc vs fun v27 vs =>
 unn vs <|
 bindM (F_record_Scan N Φ [v27]) fun v28 =>
 optM (exR 0 v28) fun v29 =>
 optM (exR 1 v28) fun v30 =>
 optM (faR 1 v26) fun v31 =>
 rdM (ld false 1 v31) fun v32 =>
 optM (faR 1 v26) fun v33 =>
 rdM (ld false 1 v33) fun v34 =>
 optM (binR .lss .o none v30 v34) fun v35 =>
 alM (alR 240 [(.b false), (.i .i64 0), .ns, (.i .i64 0), (.b false)]) fun v36 =>
 bindM (F_rig_Rig_Blocks N Φ [v24]) fun v37 =>
 chkM (ckA (alR 240 [(.b false), (.i .i64 0), .ns, (.i .i64 0), (.b false)]) v36) <|
 chkM (ckR (ld false 1 v33) v34) <|
 chkM (ckR (ld false 1 v31) v32) <|
 optM (binR .sub .o none v37 v32) fun v38 =>
 optM (bdR [(0, 1), (1, 1), (2, 1), (3, 1), (4, 1)] [(.b false), (.i .i64 0), .ns, (.i .i64 0), (.b false)] [(3, v38), (4, v35)]) fun v39 =>
 bindM (stR 5 v36 v39) fun v40 =>
 optM (lnL v29) fun v41 =>
 optM (binR .eql .o none v41 (.i .i64 0)) fun v42 =>
 bindM (gdM (boolV (some v42)) false (pM (some v29))) fun v43 =>
 bindM (gdM (boolV (some v42)) false (pM (iaL 7 v43 (.i .i64 0)))) fun v44 =>
 bindM (gdM (boolV (some v42)) false (pM (faR 0 v44))) fun v45 =>
 bindM (gdM (boolV (some v42)) false (rM (ld false 1 v45))) fun v46 =>
 bindM (gdM (boolV (some v42)) false (pM (binR .neq .o none v46 (.i .i64 1)))) fun v47 =>
 optM (pickR v42 (.b true) v47) fun v48 =>
 iteM (some v48) (
 rdM (ld true 5 v36) fun v49 =>
 bindM (stR 5 v25 v49) fun v50 =>
 rdM (ld true 5 v25) fun v51 =>
 pureM (.t [v51, (.i .i64 0)])
 ) (
 optM (iaL 7 v29 (.i .i64 0)) fun v52 =>
 optM (faR 4 v52) fun v53 =>
 rdM (ld false 1 v53) fun v54 =>
 optM (faR 1 v36) fun v55 =>
 bindM (stR 1 v55 v54) fun v56 =>
 bindM (F_slices_ContainsFunc_record_Record_record_Record N Φ [v29, (.f id_mlog_look_1 [] [v36])]) fun v57 =>
 optM (faR 0 v36) fun v58 =>
 bindM (stR 1 v58 v57) fun v59 =>
 bindM (F_slices_DeleteFunc_record_Record_record_Record N Φ [v29, (.f id_mlog_look_2 [] [])]) fun v60 =>
 optM (faR 2 v36) fun v61 =>
 bindM (stR 1 v61 v60) fun v62 =>
 rdM (ld true 5 v36) fun v63 =>
 bindM (stR 5 v25 v63) fun v64 =>
 rdM (ld true 5 v25) fun v65 =>
 pureM (.t [v65, (.i .i64 0)])
 )
 )
 (fun id vs =>
 failM)
 (fun vs =>
 unc vs fun v66 vs =>
 unc vs fun v67 vs =>
 unn vs <|
 rdM (ld true 5 v66) fun v68 =>
 pureM (.t [v68, v67])
 )
 )
def an_mlog_look : An := (.two .n (.two .n (.two (.two .n (.two (.two .n .n) .n)) (.two .n (.two (.cut [0, 6, 8, 10] [] [6, 7] (.two .n (.two (.two .n (.two .n (.two .n (.two (.two .n .n) .n)))) .n))) (.two .n (.two .n (.two (.two .n (.two (.two .n .n) .n)) (.two .n (.two .n (.two .n (.two .n .n))))))))))))

/-- corbel/mlog.Open -/
def tab_mlog_Open (N : Nat) (Φ : Calls') : Calls' := fun f => cond (Nat.beq f id_mlog_look) (some (F_mlog_look N Φ)) (Φ f)
def F_mlog_Open (N : Nat) (Φ : Calls') : List V → M V := fun args =>
 unc args fun a0 args =>
 unc args fun a1 args =>
 unn args <|
 optM (binR .eql .p none a0 .pn) fun v1 =>
 iteM (some v1) (
 pureM (.t [.pn, .ns, (.i .i64 1)])
 ) (
 alM (alR 240 [(.b false), (.i .i64 0), .ns, (.i .i64 0), (.b false)]) fun v2 =>
 lrM (
 loopM N (fun vs =>
 unc vs fun v3 vs =>
 unc vs fun v4 vs =>
 unc vs fun v5 vs =>
 unc vs fun v6 vs =>
 unc vs fun v7 vs =>
 unn vs <|
 optM (binR .lss .o none v7 (.i .i64 2)) fun v8 =>
 iteM (some v8) (
 lrM (
 bindM (F_mlog_look N Φ [v3, v4, v7]) fun v9 =>
 optM (exR 0 v9) fun v10 =>
 optM (exR 1 v9) fun v11 =>
 alM (alR 240 [(.b false), (.i .i64 0), .ns, (.i .i64 0), (.b false)]) fun v12 =>
 bindM (stR 5 v12 v10) fun v13 =>
 optM (binR .neq .o none v11 (.i .i64 0)) fun v14 =>
 iteM (some v14) (
 pureM (.rt [.pn, .ns, v11])
 ) (
 optM (faR 0 v12) fun v15 =>
 rdM (ld false 1 v15) fun v16 =>
 bindM (gdM (boolV (some v16)) true (pM (some v6))) fun v17 =>
 bindM (gdM (boolV (some v16)) true (pM (binR .lss .o none v17 (.i .i64 0)))) fun v18 =>
 bindM (gdM (boolV (some v16)) true (pM (some v18))) fun v19 =>
 bindM (gdM (boolV (some v19)) false (pM (faR 1 v12))) fun v20 =>
 bindM (gdM (boolV (some v19)) false (rM (ld false 1 v20))) fun v21 =>
 bindM (gdM (boolV (some v19)) false (pM (faR 1 v5))) fun v22 =>
 bindM (gdM (boolV (some v19)) false (rM (ld false 1 v22))) fun v23 =>
 bindM (gdM (boolV (some v19)) false (pM (binR .gtr .o none v21 v23))) fun v24 =>
 bindM (gdM (boolV (some v16)) true (pM (pickR v19 (.b true) v24))) fun v25 =>
 optM (pickR v16 v25 (.b false)) fun v26 =>
 iteM (some v26) (
 rdM (ld true 5 v12) fun v27 =>
 bindM (stR 5 v5 v27) fun v28 =>
 pureM (.nx [v3, v4, v5, v7, v7])
 ) (
 pureM (.nx [v3, v4, v5, v6, v7])
 )
 )
 )
 (fun vs =>
 unc vs fun v29 vs =>
 unc vs fun v30 vs =>
 unc vs fun v31 vs =>
 unc vs fun v32 vs =>
 unc vs fun v33 vs =>
 unn vs <|
 optM (binR .add .o none v33 (.i .i64 1)) fun v34 =>
 pureM (.nx [v29, v30, v31, v32, v34])
 )
 (fun id vs =>
 failM)
 (fun vs =>
 unc vs fun v35 vs =>
 unc vs fun v36 vs =>
 unc vs fun v37 vs =>
 unn vs <|
 pureM (.rt [v35, v36, v37])
 )
 ) (
 pureM (.ex 0 [v3, v4, v5, v6])
 )
 ) [a0, a1, v2, (.i .i64 (-1)), (.i .i64 0)])
 (fun vs =>
 failM)
 (fun id vs =>
 cond (Nat.beq id 0) (
 unc vs fun v38 vs =>
 unc vs fun v39 vs =>
 unc vs fun v40 vs =>
 unc vs fun v41 vs =>
 unn vs <|
 optM (binR .lss .o none v41 (.i .i64 0)) fun v42 =>
 iteM (some v42) (
 pureM (.t [.pn, .ns, (.i .i64 13)])
 ) (
 optM (faR 1 v40) fun v43 =>
 rdM (ld false 1 v43) fun v44 =>
 optM (faR 3 v40) fun v45 =>
 rdM (ld false 1 v45) fun v46 =>
 optM (faR 4 v40) fun v47 =>
 rdM (ld false 1 v47) fun v48 =>
 optM (bdR [(0, 1), (1, 1), (2, 1), (3, 1), (4, 1), (5, 1)] [.pn, (.i .i64 0), (.i .i64 0), (.i .i64 0), (.i .i64 0), (.b false)] [(0, v38), (1, v39), (2, v41), (3, v44), (4, v46), (5, v48)]) fun v49 =>
 alM (boxR v49) fun v50 =>
 optM (faR 2 v40) fun v51 =>
 rdM (ld false 1 v51) fun v52 =>
 pureM (.t [v50, v52, (.i .i64 0)])
 )
 ) <|
 failM)
 (fun vs =>
 unc vs fun v53 vs =>
 unc vs fun v54 vs =>
 unc vs fun v55 vs =>
 unn vs <|
 pureM (.t [v53, v54, v55])
 )
 )
def an_mlog_Open : An := (.two .n (.two (.two .n (.two (.two .n .n) .n)) (.two .n (.two .n (.two (.two .n (.one (.loop [0, 1, 7, 8, 14] [(0, [0, 1, 7, 8])] [4, 5, 6] (.two .n (.two (.two .n .n) (.two (.cut [0, 1, 7, 8, 14] [] [4, 5, 6] (.one (.two .n (.two .n (.two (.two .n (.two (.two .n .n) .n)) (.two .n (.two .n .n))))))) .n)))))) (.two (.two .n (.two (.two .n .n) .n)) (.two .n .n)))))))

/-- corbel/book.New -/
def tab_book_New (N : Nat) (Φ : Calls') : Calls' := fun f => cond (Nat.beq f id_geom_Good) (some (F_geom_Good N Φ)) (cond (Nat.beq f id_geom_Zones) (some (F_geom_Zones N Φ)) (Φ f))
def F_book_New (N : Nat) (Φ : Calls') : List V → M V := fun args =>
 unc args fun a0 args =>
 unn args <|
 alM (boxR a0) fun v1 =>
 alM (alR 66 [(.i .i64 0), .ns, .ns, (.i .i64 0), (.i .i64 0)]) fun v2 =>
 optM (bdR [(0, 1), (1, 1), (2, 1), (3, 1), (4, 1)] [(.i .i64 0), .ns, .ns, (.i .i64 0), (.i .i64 0)] [(3, (.i .i64 (-1)))]) fun v3 =>
 alM (alR 66 [(.i .i64 0), .ns, .ns, (.i .i64 0), (.i .i64 0)]) fun v4 =>
 bindM (stR 5 v4 v3) fun v5 =>
 rdM (ld true 5 v1) fun v6 =>
 bindM (F_geom_Zones N Φ [v6]) fun v7 =>
 lrM (
 loopM N (fun vs =>
 unc vs fun v8 vs =>
 unc vs fun v9 vs =>
 unc vs fun v10 vs =>
 unc vs fun v11 vs =>
 unc vs fun v12 vs =>
 unn vs <|
 optM (binR .lss .o none v12 v11) fun v13 =>
 iteM (some v13) (
 optM (faR 1 v10) fun v14 =>
 rdM (ld false 1 v14) fun v15 =>
 optM (binR .add .o none v12 (.i .i64 2)) fun v16 =>
 optM (bdR [(0, 1), (1, 1), (2, 1)] [(.i .i64 0), (.i .i64 0), (.i .i64 0)] [(0, v16), (1, (.i .i64 1))]) fun v17 =>
 alM (bsR 1 3 (zeros [(.i .i64 0), (.i .i64 0), (.i .i64 0)] 3) [(0, v17)]) fun v18 =>
 bindM (apR 134 3 24 (srL 3 v18) v15) fun v19 =>
 optM (faR 1 v10) fun v20 =>
 bindM (stR 1 v20 v19) fun v21 =>
 optM (binR .add .o none v12 (.i .i64 1)) fun v22 =>
 pureM (.nx [v8, v9, v10, v11, v22])
 ) (
 pureM (.ex 0 [v8, v9, v10])
 )
 ) [v1, v2, v4, v7, (.i .i64 0)])
 (fun vs =>
 failM)
 (fun id vs =>
 cond (Nat.beq id 0) (
 unc vs fun v23 vs =>
 unc vs fun v24 vs =>
 unc vs fun v25 vs =>
 unn vs <|
 lrM (
 rdM (ld true 5 v23) fun v26 =>
 bindM (F_geom_Good N Φ [v26]) fun v27 =>
 iteM (some v27) (
 optM (faR 0 v23) fun v28 =>
 rdM (ld false 1 v28) fun v29 =>
 lrM (
 loopM N (fun vs =>
 unc vs fun v30 vs =>
 unc vs fun v31 vs =>
 unc vs fun v32 vs =>
 unc vs fun v33 vs =>
 unn vs <|
 optM (binR .lss .o none v33 v32) fun v34 =>
 iteM (some v34) (
 optM (faR 2 v31) fun v35 =>
 rdM (ld false 1 v35) fun v36 =>
 alM (bsR 1 1 (zeros [(.i .i64 0)] 1) [(0, v33)]) fun v37 =>
 bindM (apR 3 1 8 (srL 1 v37) v36) fun v38 =>
 optM (faR 2 v31) fun v39 =>
 bindM (stR 1 v39 v38) fun v40 =>
 optM (binR .add .o none v33 (.i .i64 1)) fun v41 =>
 pureM (.nx [v30, v31, v32, v41])
 ) (
 pureM (.ex 2 [v30, v31])
 )
 ) [v24, v25, v29, (.i .i64 0)])
 (fun vs =>
 failM)
 (fun id vs =>
 cond (Nat.beq id 2) (
 unc vs fun v42 vs =>
 unc vs fun v43 vs =>
 unn vs <|
 pureM (.nx [v42, v43])
 ) <|
 failM)
 (fun vs =>
 unc vs fun v44 vs =>
 unn vs <|
 pureM (.rt [v44])
 )
 ) (
 pureM (.nx [v24, v25])
 )
 )
 (fun vs =>
 unc vs fun v45 vs =>
 unc vs fun v46 vs =>
 unn vs <|
 rdM (ld true 5 v46) fun v47 =>
 bindM (stR 5 v45 v47) fun v48 =>
 rdM (ld true 5 v45) fun v49 =>
 pureM v49
 )
 (fun id vs =>
 failM)
 (fun vs =>
 unc vs fun v50 vs =>
 unn vs <|
 rdM (ld true 5 v50) fun v51 =>
 pureM v51
 )
 ) <|
 failM)
 (fun vs =>
 unc vs fun v52 vs =>
 unn vs <|
 rdM (ld true 5 v52) fun v53 =>
 pureM v53
 )
def an_book_New : An := (.two .n (.two .n (.two (.two .n (.one (.loop [1, 2, 3, 8, 9] [(0, [1, 2, 3])] [2] (.two .n (.two (.two .n .n) (.two (.one (.two .n .n)) .n)))))) (.two (.cut [2, 3] [] [2] (.two .n (.two (.two .n (.one (.loop [2, 3, 24, 25] [(2, [2, 3])] [2] (.two .n (.two (.two .n .n) (.two (.one (.two .n .n)) .n)))))) .n))) (.two .n .n)))))

/-- corbel/book.of -/
def tab_book_of (N : Nat) (Φ : Calls') : Calls' := fun f => Φ f
def F_book_of (N : Nat) (Φ : Calls') : List V → M V := fun args =>
 unc args fun a0 args =>
 unn args <|
 alM (boxR a0) fun v1 =>
 alM (alR 247 [(.i .i64 0), (.i .i64 0)]) fun v2 =>
 optM (faR 0 v1) fun v3 =>
 rdM (ld false 1 v3) fun v4 =>
 optM (binR .eql .o none v4 (.i .i64 6)) fun v5 =>
 iteM (some v5) (
 optM (faR 0 v1) fun v6 =>
 rdM (ld false 1 v6) fun v7 =>
 optM (bdR [(0, 1), (1, 1)] [(.i .i64 0), (.i .i64 0)] [(0, v7)]) fun v8 =>
 bindM (stR 2 v2 v8) fun v9 =>
 rdM (ld true 2 v2) fun v10 =>
 pureM v10
 ) (
 optM (faR 0 v1) fun v11 =>
 rdM (ld false 1 v11) fun v12 =>
 optM (faR 2 v1) fun v13 =>
 rdM (ld false 1 v13) fun v14 =>
 optM (bdR [(0, 1), (1, 1)] [(.i .i64 0), (.i .i64 0)] [(0, v12), (1, v14)]) fun v15 =>
 bindM (stR 2 v2 v15) fun v16 =>
 rdM (ld true 2 v2) fun v17 =>
 pureM v17
 )
def an_book_of : An := (.two .n (.two (.two .n (.two (.two .n .n) .n)) (.two .n .n)))

/-- corbel/book.newest -/
def tab_book_newest (N : Nat) (Φ : Calls') : Calls' := fun f => cond (Nat.beq f id_book_of) (some (F_book_of N Φ)) (Φ f)
def F_book_newest (N : Nat) (Φ : Calls') : List V → M V := fun args =>
 unc args fun a0 args =>
 unn args <|
 alM (mmR) fun v1 =>
 optM (lnL a0) fun v2 =>
 lrM (
 loopM N (fun vs =>
 unc vs fun v3 vs =>
 unc vs fun v4 vs =>
 unc vs fun v5 vs =>
 unc vs fun v6 vs =>
 unc vs fun v7 vs =>
 unn vs <|
 optM (binR .lss .o none v7 v6) fun v8 =>
 iteM (some v8) (
 optM (iaL 1 v5 v7) fun v9 =>
 rdM (ld false 1 v9) fun v10 =>
 optM (lnL v10) fun v11 =>
 lrM (
 loopM N (fun vs =>
 unc vs fun v12 vs =>
 unc vs fun v13 vs =>
 unc vs fun v14 vs =>
 unc vs fun v15 vs =>
 unc vs fun v16 vs =>
 unc vs fun v17 vs =>
 unc vs fun v18 vs =>
 unc vs fun v19 vs =>
 unn vs <|
 optM (binR .lss .o none v19 v18) fun v20 =>
 iteM (some v20) (
 lrM (
 optM (iaL 7 v17 v19) fun v21 =>
 rdM (ld true 7 v21) fun v22 =>
 alM (alR 157 [(.i .i64 0), (.i .i64 0), (.i .i64 0), (.i .i64 0), (.i .i64 0), (.i .i64 0), (.s [])]) fun v23 =>
 bindM (stR 7 v23 v22) fun v24 =>
 optM (faR 1 v23) fun v25 =>
 rdM (ld false 1 v25) fun v26 =>
 optM (foldInts maxI [v13, v26]) fun v27 =>
 rdM (ld true 7 v23) fun v28 =>
 bindM (F_book_of N Φ [v28]) fun v29 =>
 rdM (lkR (.flat [.i, .i]) (.g [(.i .i64 0), (.i .i64 0), (.i .i64 0), (.i .i64 0), (.i .i64 0), (.i .i64 0), (.s [])]) true v12 v29) fun v30 =>
 optM (exR 0 v30) fun v31 =>
 optM (exR 1 v30) fun v32 =>
 alM (alR 157 [(.i .i64 0), (.i .i64 0), (.i .i64 0), (.i .i64 0), (.i .i64 0), (.i .i64 0), (.s [])]) fun v33 =>
 bindM (stR 7 v33 v31) fun v34 =>
 optM (unV .not v32) fun v35 =>
 bindM (gdM (boolV (some v35)) false (pM (faR 1 v23))) fun v36 =>
 bindM (gdM (boolV (some v35)) false (rM (ld false 1 v36))) fun v37 =>
 bindM (gdM (boolV (some v35)) false (pM (faR 1 v33))) fun v38 =>
 bindM (gdM (boolV (some v35)) false (rM (ld false 1 v38))) fun v39 =>
 bindM (gdM (boolV (some v35)) false (pM (binR .gtr .o none v37 v39))) fun v40 =>
 optM (pickR v35 (.b true) v40) fun v41 =>
 iteM (some v41) (
 rdM (ld true 7 v23) fun v42 =>
 rdM (ld true 7 v23) fun v43 =>
 bindM (F_book_of N Φ [v42]) fun v44 =>
 chkM (ckR (ld true 7 v23) v43) <|
 bindM (muR (.flat [.i, .i]) v12 v44 v43) fun v45 =>
 pureM (.nx [v12, v27, v14, v15, v16, v17, v18, v19])
 ) (
 pureM (.nx [v12, v27, v14, v15, v16, v17, v18, v19])
 )
 )
 (fun vs =>
 unc vs fun v46 vs =>
 unc vs fun v47 vs =>
 unc vs fun v48 vs =>
 unc vs fun v49 vs =>
 unc vs fun v50 vs =>
 unc vs fun v51 vs =>
 unc vs fun v52 vs =>
 unc vs fun v53 vs =>
 unn vs <|
 optM (binR .add .o none v53 (.i .i64 1)) fun v54 =>
 pureM (.nx [v46, v47, v48, v49, v50, v51, v52, v54])
 )
 (fun id vs =>
 failM)
 (fun vs =>
 unc vs fun v55 vs =>
 unc vs fun v56 vs =>
 unn vs <|
 pureM (.rt [v55, v56])
 )
 ) (
 pureM (.ex 2 [v12, v13, v14, v15, v16])
 )
 ) [v3, v4, v5, v6, v7, v10, v11, (.i .i64 0)])
 (fun vs =>
 failM)
 (fun id vs =>
 cond (Nat.beq id 2) (
 unc vs fun v57 vs =>
 unc vs fun v58 vs =>
 unc vs fun v59 vs =>
 unc vs fun v60 vs =>
 unc vs fun v61 vs =>
 unn vs <|
 optM (binR .add .o none v61 (.i .i64 1)) fun v62 =>
 pureM (.nx [v57, v58, v59, v60, v62])
 ) <|
 failM)
 (fun vs =>
 unc vs fun v63 vs =>
 unc vs fun v64 vs =>
 unn vs <|
 pureM (.rt [v63, v64])
 )
 ) (
 pureM (.ex 0 [v3, v4])
 )
 ) [v1, (.i .i64 0), a0, v2, (.i .i64 0)])
 (fun vs =>
 failM)
 (fun id vs =>
 cond (Nat.beq id 0) (
 unc vs fun v65 vs =>
 unc vs fun v66 vs =>
 unn vs <|
 pureM (.t [v65, v66])
 ) <|
 failM)
 (fun vs =>
 unc vs fun v67 vs =>
 unc vs fun v68 vs =>
 unn vs <|
 pureM (.t [v67, v68])
 )
def an_book_newest : An := (.two .n (.two .n (.two .n (.two (.two .n (.one (.loop [4, 5, 13, 14, 15] [(0, [4, 5])] [2, 3] (.two .n (.two (.two .n .n) (.two (.one (.two .n (.two .n (.one (.loop [4, 5, 13, 14, 15, 19, 20, 21] [(2, [4, 5, 13, 14, 15])] [2, 3] (.two .n (.two (.two .n .n) (.two (.cut [4, 5, 13, 14, 15, 19, 20, 21] [] [2, 3] (.one (.two .n (.two .n (.two .n (.two .n (.two .n .n))))))) .n)))))))) .n)))))) (.two .n .n)))))

/-- slices.Collect[int] -/
def tab_slices_Collect_int (N : Nat) (Φ : Calls') : Calls' := fun f => cond (Nat.beq f id_slices_AppendSeq_int_int) (some (F_slices_AppendSeq_int_int N Φ)) (Φ f)
def F_slices_Collect_int (N : Nat) (Φ : Calls') : List V → M V := fun args =>
 unc args fun a0 args =>
 unn args <|
 bindM (F_slices_AppendSeq_int_int N Φ [.ns, a0]) fun v1 =>
 pureM v1
def an_slices_Collect_int : An := (.two .n (.two .n .n))

/-- math/bits.Len32 -/
def tab_math_bits_Len32 (N : Nat) (Φ : Calls') : Calls' := fun f => Φ f
def F_math_bits_Len32 (N : Nat) (Φ : Calls') : List V → M V := fun args =>
 unc args fun a0 args =>
 unn args <|
 lrM (
 optM (binR .geq .o none a0 (.i .u32 65536)) fun v1 =>
 iteM (some v1) (
 optM (binR .shr .o none a0 (.i .u64 16)) fun v2 =>
 pureM (.nx [v2, (.i .i64 16)])
 ) (
 pureM (.nx [a0, (.i .i64 0)])
 )
 )
 (fun vs =>
 unc vs fun v3 vs =>
 unc vs fun v4 vs =>
 unn vs <|
 lrM (
 optM (binR .geq .o none v3 (.i .u32 256)) fun v5 =>
 iteM (some v5) (
 optM (binR .shr .o none v3 (.i .u64 8)) fun v6 =>
 optM (binR .add .o none v4 (.i .i64 8)) fun v7 =>
 pureM (.nx [v6, v7])
 ) (
 pureM (.nx [v3, v4])
 )
 )
 (fun vs =>
 unc vs fun v8 vs =>
 unc vs fun v9 vs =>
 unn vs <|
 optM (cvI .u8 v8) fun v10 =>
 optM (ixS (.s [0, 1, 2, 2, 3, 3, 3, 3, 4, 4, 4, 4, 4, 4, 4, 4, 5, 5, 5, 5, 5, 5, 5, 5, 5, 5, 5, 5, 5, 5, 5, 5, 6, 6, 6, 6, 6, 6, 6, 6, 6, 6, 6, 6, 6, 6, 6, 6, 6, 6, 6, 6, 6, 6, 6, 6, 6, 6, 6, 6, 6, 6, 6, 6, 7, 7, 7, 7, 7, 7, 7, 7, 7, 7, 7, 7, 7, 7, 7, 7, 7, 7, 7, 7, 7, 7, 7, 7, 7, 7, 7, 7, 7, 7, 7, 7, 7, 7, 7, 7, 7, 7, 7, 7, 7, 7, 7, 7, 7, 7, 7, 7, 7, 7, 7, 7, 7, 7, 7, 7, 7, 7, 7, 7, 7, 7, 7, 7, 8, 8, 8, 8, 8, 8, 8, 8, 8, 8, 8, 8, 8, 8, 8, 8, 8, 8, 8, 8, 8, 8, 8, 8, 8, 8, 8, 8, 8, 8, 8, 8, 8, 8, 8, 8, 8, 8, 8, 8, 8, 8, 8, 8, 8, 8, 8, 8, 8, 8, 8, 8, 8, 8, 8, 8, 8, 8, 8, 8, 8, 8, 8, 8, 8, 8, 8, 8, 8, 8, 8, 8, 8, 8, 8, 8, 8, 8, 8, 8, 8, 8, 8, 8, 8, 8, 8, 8, 8, 8, 8, 8, 8, 8, 8, 8, 8, 8, 8, 8, 8, 8, 8, 8, 8, 8, 8, 8, 8, 8, 8, 8, 8, 8, 8, 8, 8, 8, 8, 8, 8, 8, 8, 8, 8, 8, 8, 8]) v10) fun v11 =>
 optM (cvI .i64 v11) fun v12 =>
 optM (binR .add .o none v9 v12) fun v13 =>
 pureM v13
 )
 (fun id vs =>
 failM)
 (fun vs =>
 unc vs fun v14 vs =>
 unn vs <|
 pureM v14
 )
 )
 (fun id vs =>
 failM)
 (fun vs =>
 unc vs fun v15 vs =>
 unn vs <|
 pureM v15
 )
def an_math_bits_Len32 : An := (.two .n (.two (.cut [0, 2] [] [2] (.two .n (.two (.two .n .n) .n))) (.two (.cut [0, 2] [] [2] (.two .n (.two (.two .n .n) .n))) (.two .n .n))))

/-- math/bits.Len64 -/
def tab_math_bits_Len64 (N : Nat) (Φ : Calls') : Calls' := fun f => Φ f
def F_math_bits_Len64 (N : Nat) (Φ : Calls') : List V → M V := fun args =>
 unc args fun a0 args =>
 unn args <|
 lrM (
 optM (binR .geq .o none a0 (.i .u64 4294967296)) fun v1 =>
 iteM (some v1) (
 optM (binR .shr .o none a0 (.i .u64 32)) fun v2 =>
 pureM (.nx [v2, (.i .i64 32)])
 ) (
 pureM (.nx [a0, (.i .i64 0)])
 )
 )
 (fun vs =>
 unc vs fun v3 vs =>
 unc vs fun v4 vs =>
 unn vs <|
 lrM (
 optM (binR .geq .o none v3 (.i .u64 65536)) fun v5 =>
 iteM (some v5) (
 optM (binR .shr .o none v3 (.i .u64 16)) fun v6 =>
 optM (binR .add .o none v4 (.i .i64 16)) fun v7 =>
 pureM (.nx [v6, v7])
 ) (
 pureM (.nx [v3, v4])
 )
 )
 (fun vs =>
 unc vs fun v8 vs =>
 unc vs fun v9 vs =>
 unn vs <|
 lrM (
 optM (binR .geq .o none v8 (.i .u64 256)) fun v10 =>
 iteM (some v10) (
 optM (binR .shr .o none v8 (.i .u64 8)) fun v11 =>
 optM (binR .add .o none v9 (.i .i64 8)) fun v12 =>
 pureM (.nx [v11, v12])
 ) (
 pureM (.nx [v8, v9])
 )
 )
 (fun vs =>
 unc vs fun v13 vs =>
 unc vs fun v14 vs =>
 unn vs <|
 optM (cvI .u8 v13) fun v15 =>
 optM (ixS (.s [0, 1, 2, 2, 3, 3, 3, 3, 4, 4, 4, 4, 4, 4, 4, 4, 5, 5, 5, 5, 5, 5, 5, 5, 5, 5, 5, 5, 5, 5, 5, 5, 6, 6, 6, 6, 6, 6, 6, 6, 6, 6, 6, 6, 6, 6, 6, 6, 6, 6, 6, 6, 6, 6, 6, 6, 6, 6, 6, 6, 6, 6, 6, 6, 7, 7, 7, 7, 7, 7, 7, 7, 7, 7, 7, 7, 7, 7, 7, 7, 7, 7, 7, 7, 7, 7, 7, 7, 7, 7, 7, 7, 7, 7, 7, 7, 7, 7, 7, 7, 7, 7, 7, 7, 7, 7, 7, 7, 7, 7, 7, 7, 7, 7, 7, 7, 7, 7, 7, 7, 7, 7, 7, 7, 7, 7, 7, 7, 8, 8, 8, 8, 8, 8, 8, 8, 8, 8, 8, 8, 8, 8, 8, 8, 8, 8, 8, 8, 8, 8, 8, 8, 8, 8, 8, 8, 8, 8, 8, 8, 8, 8, 8, 8, 8, 8, 8, 8, 8, 8, 8, 8, 8, 8, 8, 8, 8, 8, 8, 8, 8, 8, 8, 8, 8, 8, 8, 8, 8, 8, 8, 8, 8, 8, 8, 8, 8, 8, 8, 8, 8, 8, 8, 8, 8, 8, 8, 8, 8, 8, 8, 8, 8, 8, 8, 8, 8, 8, 8, 8, 8, 8, 8, 8, 8, 8, 8, 8, 8, 8, 8, 8, 8, 8, 8, 8, 8, 8, 8, 8, 8, 8, 8, 8, 8, 8, 8, 8, 8, 8, 8, 8, 8, 8, 8, 8]) v15) fun v16 =>
 optM (cvI .i64 v16) fun v17 =>
 optM (binR .add .o none v14 v17) fun v18 =>
 pureM v18
 )
 (fun id vs =>
 failM)
 (fun vs =>
 unc vs fun v19 vs =>
 unn vs <|
 pureM v19
 )
 )
 (fun id vs =>
 failM)
 (fun vs =>
 unc vs fun v20 vs =>
 unn vs <|
 pureM v20
 )
 )
 (fun id vs =>
 failM)
 (fun vs =>
 unc vs fun v21 vs =>
 unn vs <|
 pureM v21
 )
def an_math_bits_Len64 : An := (.two .n (.two (.cut [0, 2] [] [2] (.two .n (.two (.two .n .n) .n))) (.two (.cut [0, 2] [] [2] (.two .n (.two (.two .n .n) .n))) (.two (.cut [0, 2] [] [2] (.two .n (.two (.two .n .n) .n))) (.two .n .n)))))

/-- math/bits.Len -/
def tab_math_bits_Len (N : Nat) (Φ : Calls') : Calls' := fun f => cond (Nat.beq f id_math_bits_Len32) (some (F_math_bits_Len32 N Φ)) (cond (Nat.beq f id_math_bits_Len64) (some (F_math_bits_Len64 N Φ)) (Φ f))
def F_math_bits_Len (N : Nat) (Φ : Calls') : List V → M V := fun args =>
 unc args fun a0 args =>
 unn args <|
 iteM (some (.b false)) (
 optM (cvI .u32 a0) fun v1 =>
 bindM (F_math_bits_Len32 N Φ [v1]) fun v2 =>
 pureM v2
 ) (
 bindM (F_math_bits_Len64 N Φ [a0]) fun v3 =>
 pureM v3
 )
def an_math_bits_Len : An := (.two .n (.two (.two (.two .n .n) .n) (.two .n .n)))

/-- cmp.isNaN[int] -/
def tab_cmp_isNaN_int (N : Nat) (Φ : Calls') : Calls' := fun f => Φ f
def F_cmp_isNaN_int (N : Nat) (Φ : Calls') : List V → M V := fun args =>
 unc args fun a0 args =>
 unn args <|
 optM (binR .neq .o none a0 a0) fun v1 =>
 pureM v1
def an_cmp_isNaN_int : An := (.two .n (.two .n .n))

/-- cmp.Less[int] -/
def tab_cmp_Less_int (N : Nat) (Φ : Calls') : Calls' := fun f => cond (Nat.beq f id_cmp_isNaN_int) (some (F_cmp_isNaN_int N Φ)) (Φ f)
def F_cmp_Less_int (N : Nat) (Φ : Calls') : List V → M V := fun args =>
 unc args fun a0 args =>
 unc args fun a1 args =>
 unn args <|
 bindM (F_cmp_isNaN_int N Φ [a0]) fun v1 =>
 bindM (gdM (boolV (some v1)) true (pM (some a1))) fun v2 =>
 bindM (gdM (boolV (some v1)) true (F_cmp_isNaN_int N Φ [v2])) fun v3 =>
 bindM (gdM (boolV (some v1)) true (pM (unV .not v3))) fun v4 =>
 optM (pickR v1 v4 (.b false)) fun v5 =>
 bindM (gdM (boolV (some v5)) false (pM (some a0))) fun v6 =>
 bindM (gdM (boolV (some v5)) false (pM (some a1))) fun v7 =>
 bindM (gdM (boolV (some v5)) false (pM (binR .lss .o none v6 v7))) fun v8 =>
 optM (pickR v5 (.b true) v8) fun v9 =>
 pureM v9
def an_cmp_Less_int : An := (.two .n (.two .n .n))

/-- slices.insertionSortOrdered[int] -/
def tab_slices_insertionSortOrdered_int (N : Nat) (Φ : Calls') : Calls' := fun f => cond (Nat.beq f id_cmp_Less_int) (some (F_cmp_Less_int N Φ)) (Φ f)
def F_slices_insertionSortOrdered_int (N : Nat) (Φ : Calls') : List V → M V := fun args =>
 unc args fun a0 args =>
 unc args fun a1 args =>
 unc args fun a2 args =>
 unn args <|
 optM (binR .add .o none a1 (.i .i64 1)) fun v1 =>
 lrM (
 loopM N (fun vs =>
 unc vs fun v2 vs =>
 unc vs fun v3 vs =>
 unc vs fun v4 vs =>
 unc vs fun v5 vs =>
 unn vs <|
 optM (binR .lss .o none v5 v4) fun v6 =>
 iteM (some v6) (
 lrM (
 loopM N (fun vs =>
 unc vs fun v7 vs =>
 unc vs fun v8 vs =>
 unc vs fun v9 vs =>
 unc vs fun v10 vs =>
 unc vs fun v11 vs =>
 unn vs <|
 optM (binR .gtr .o none v11 v8) fun v12 =>
 bindM (gdM (boolV (some v12)) true (pM (some v7))) fun v13 =>
 bindM (gdM (boolV (some v12)) true (pM (some v11))) fun v14 =>
 bindM (gdM (boolV (some v12)) true (pM (iaL 1 v13 v14))) fun v15 =>
 bindM (gdM (boolV (some v12)) true (rM (ld false 1 v15))) fun v16 =>
 bindM (gdM (boolV (some v12)) true (pM (some v7))) fun v17 =>
 bindM (gdM (boolV (some v12)) true (pM (some v11))) fun v18 =>
 bindM (gdM (boolV (some v12)) true (pM (binR .sub .o none v18 (.i .i64 1)))) fun v19 =>
 bindM (gdM (boolV (some v12)) true (pM (iaL 1 v17 v19))) fun v20 =>
 bindM (gdM (boolV (some v12)) true (rM (ld false 1 v20))) fun v21 =>
 bindM (gdM (boolV (some v12)) true (F_cmp_Less_int N Φ [v16, v21])) fun v22 =>
 optM (pickR v12 v22 (.b false)) fun v23 =>
 iteM (some v23) (
 optM (binR .sub .o none v11 (.i .i64 1)) fun v24 =>
 optM (binR .sub .o none v11 (.i .i64 1)) fun v25 =>
 optM (iaL 1 v7 v25) fun v26 =>
 rdM (ld false 1 v26) fun v27 =>
 optM (iaL 1 v7 v11) fun v28 =>
 rdM (ld false 1 v28) fun v29 =>
 optM (iaL 1 v7 v11) fun v30 =>
 bindM (stR 1 v30 v27) fun v31 =>
 optM (iaL 1 v7 v24) fun v32 =>
 bindM (stR 1 v32 v29) fun v33 =>
 optM (binR .sub .o none v11 (.i .i64 1)) fun v34 =>
 pureM (.nx [v7, v8, v9, v10, v34])
 ) (
 pureM (.ex 2 [v7, v8, v9, v10])
 )
 ) [v2, v3, v4, v5, v5])
 (fun vs =>
 failM)
 (fun id vs =>
 cond (Nat.beq id 2) (
 unc vs fun v35 vs =>
 unc vs fun v36 vs =>
 unc vs fun v37 vs =>
 unc vs fun v38 vs =>
 unn vs <|
 optM (binR .add .o none v38 (.i .i64 1)) fun v39 =>
 pureM (.nx [v35, v36, v37, v39])
 ) <|
 failM)
 (fun vs =>
 unn vs <|
 pureM (.rt [])
 )
 ) (
 pureM (.ex 0 [])
 )
 ) [a0, a1, a2, v1])
 (fun vs =>
 failM)
 (fun id vs =>
 cond (Nat.beq id 0) (
 unn vs <|
 pureM (.t [])
 ) <|
 failM)
 (fun vs =>
 unn vs <|
 pureM (.t [])
 )
def an_slices_insertionSortOrdered_int : An := (.two .n (.one (.loop [0, 1, 2, 6] [(0, [])] [] (.two (.two .n (.two .n .n)) (.two (.one (.two .n (.one (.loop [0, 1, 2, 6, 7] [(2, [0, 1, 2, 6])] [] (.two (.two .n (.two .n .n)) (.two (.one .n) .n)))))) .n)))))

/-- slices.siftDownOrdered[int] -/
def tab_slices_siftDownOrdered_int (N : Nat) (Φ : Calls') : Calls' := fun f => cond (Nat.beq f id_cmp_Less_int) (some (F_cmp_Less_int N Φ)) (Φ f)
def F_slices_siftDownOrdered_int (N : Nat) (Φ : Calls') : List V → M V := fun args =>
 unc args fun a0 args =>
 unc args fun a1 args =>
 unc args fun a2 args =>
 unc args fun a3 args =>
 unn args <|
 lrM (
 loopM N (fun vs =>
 unc vs fun v1 vs =>
 unc vs fun v2 vs =>
 unc vs fun v3 vs =>
 unc vs fun v4 vs =>
 unn vs <|
 optM (binR .mul .o none (.i .i64 2) v4) fun v5 =>
 optM (binR .add .o none v5 (.i .i64 1)) fun v6 =>
 optM (binR .geq .o none v6 v2) fun v7 =>
 iteM (some v7) (
 pureM (.ex 0 [])
 ) (
 lrM (
 optM (binR .add .o none v6 (.i .i64 1)) fun v8 =>
 optM (binR .lss .o none v8 v2) fun v9 =>
 bindM (gdM (boolV (some v9)) true (pM (some v1))) fun v10 =>
 bindM (gdM (boolV (some v9)) true (pM (some v3))) fun v11 =>
 bindM (gdM (boolV (some v9)) true (pM (some v6))) fun v12 =>
 bindM (gdM (boolV (some v9)) true (pM (binR .add .o none v11 v12))) fun v13 =>
 bindM (gdM (boolV (some v9)) true (pM (iaL 1 v10 v13))) fun v14 =>
 bindM (gdM (boolV (some v9)) true (rM (ld false 1 v14))) fun v15 =>
 bindM (gdM (boolV (some v9)) true (pM (some v1))) fun v16 =>
 bindM (gdM (boolV (some v9)) true (pM (some v3))) fun v17 =>
 bindM (gdM (boolV (some v9)) true (pM (some v6))) fun v18 =>
 bindM (gdM (boolV (some v9)) true (pM (binR .add .o none v17 v18))) fun v19 =>
 bindM (gdM (boolV (some v9)) true (pM (binR .add .o none v19 (.i .i64 1)))) fun v20 =>
 bindM (gdM (boolV (some v9)) true (pM (iaL 1 v16 v20))) fun v21 =>
 bindM (gdM (boolV (some v9)) true (rM (ld false 1 v21))) fun v22 =>
 bindM (gdM (boolV (some v9)) true (F_cmp_Less_int N Φ [v15, v22])) fun v23 =>
 optM (pickR v9 v23 (.b false)) fun v24 =>
 iteM (some v24) (
 optM (binR .add .o none v6 (.i .i64 1)) fun v25 =>
 pureM (.nx [v1, v2, v3, v4, v25])
 ) (
 pureM (.nx [v1, v2, v3, v4, v6])
 )
 )
 (fun vs =>
 unc vs fun v26 vs =>
 unc vs fun v27 vs =>
 unc vs fun v28 vs =>
 unc vs fun v29 vs =>
 unc vs fun v30 vs =>
 unn vs <|
 optM (binR .add .o none v28 v29) fun v31 =>
 optM (iaL 1 v26 v31) fun v32 =>
 rdM (ld false 1 v32) fun v33 =>
 optM (binR .add .o none v28 v30) fun v34 =>
 optM (iaL 1 v26 v34) fun v35 =>
 rdM (ld false 1 v35) fun v36 =>
 bindM (F_cmp_Less_int N Φ [v33, v36]) fun v37 =>
 optM (unV .not v37) fun v38 =>
 iteM (some v38) (
 pureM (.rt [])
 ) (
 optM (binR .add .o none v28 v29) fun v39 =>
 optM (binR .add .o none v28 v30) fun v40 =>
 optM (binR .add .o none v28 v30) fun v41 =>
 optM (iaL 1 v26 v41) fun v42 =>
 rdM (ld false 1 v42) fun v43 =>
 optM (binR .add .o none v28 v29) fun v44 =>
 optM (iaL 1 v26 v44) fun v45 =>
 rdM (ld false 1 v45) fun v46 =>
 optM (iaL 1 v26 v39) fun v47 =>
 bindM (stR 1 v47 v43) fun v48 =>
 optM (iaL 1 v26 v40) fun v49 =>
 bindM (stR 1 v49 v46) fun v50 =>
 pureM (.nx [v26, v27, v28, v30])
 )
 )
 (fun id vs =>
 failM)
 (fun vs =>
 unn vs <|
 pureM (.rt [])
 )
 )
 ) [a0, a2, a3, a1])
 (fun vs =>
 failM)
 (fun id vs =>
 cond (Nat.beq id 0) (
 unn vs <|
 pureM (.t [])
 ) <|
 failM)
 (fun vs =>
 unn vs <|
 pureM (.t [])
 )
def an_slices_siftDownOrdered_int : An := (.two .n (.one (.loop [0, 2, 3, 8] [(0, [])] [] (.one (.two .n (.two (.two .n (.two .n .n)) (.two (.cut [0, 2, 3, 8, 9] [] [] (.two .n (.two .n .n))) (.two (.two .n (.two .n .n)) (.two .n .n)))))))))

/-- slices.heapSortOrdered[int] -/
def tab_slices_heapSortOrdered_int (N : Nat) (Φ : Calls') : Calls' := fun f => cond (Nat.beq f id_slices_siftDownOrdered_int) (some (F_slices_siftDownOrdered_int N Φ)) (Φ f)
def F_slices_heapSortOrdered_int (N : Nat) (Φ : Calls') : List V → M V := fun args =>
 unc args fun a0 args =>
 unc args fun a1 args =>
 unc args fun a2 args =>
 unn args <|
 optM (binR .sub .o none a2 a1) fun v1 =>
 optM (binR .sub .o none v1 (.i .i64 1)) fun v2 =>
 optM (binR .quo .o none v2 (.i .i64 2)) fun v3 =>
 lrM (
 loopM N (fun vs =>
 unc vs fun v4 vs =>
 unc vs fun v5 vs =>
 unc vs fun v6 vs =>
 unc vs fun v7 vs =>
 unc vs fun v8 vs =>
 unn vs <|
 optM (binR .geq .o none v8 (.i .i64 0)) fun v9 =>
 iteM (some v9) (
 bindM (F_slices_siftDownOrdered_int N Φ [v4, v8, v7, v5]) fun v10 =>
 optM (binR .sub .o none v8 (.i .i64 1)) fun v11 =>
 pureM (.nx [v4, v5, v6, v7, v11])
 ) (
 pureM (.ex 0 [v4, v5, v6, v7])
 )
 ) [a0, a1, (.i .i64 0), v1, v3])
 (fun vs =>
 failM)
 (fun id vs =>
 cond (Nat.beq id 0) (
 unc vs fun v12 vs =>
 unc vs fun v13 vs =>
 unc vs fun v14 vs =>
 unc vs fun v15 vs =>
 unn vs <|
 optM (binR .sub .o none v15 (.i .i64 1)) fun v16 =>
 lrM (
 loopM N (fun vs =>
 unc vs fun v17 vs =>
 unc vs fun v18 vs =>
 unc vs fun v19 vs =>
 unc vs fun v20 vs =>
 unn vs <|
 optM (binR .geq .o none v20 (.i .i64 0)) fun v21 =>
 iteM (some v21) (
 optM (binR .add .o none v18 v20) fun v22 =>
 optM (binR .add .o none v18 v20) fun v23 =>
 optM (iaL 1 v17 v23) fun v24 =>
 rdM (ld false 1 v24) fun v25 =>
 optM (iaL 1 v17 v18) fun v26 =>
 rdM (ld false 1 v26) fun v27 =>
 optM (iaL 1 v17 v18) fun v28 =>
 bindM (stR 1 v28 v25) fun v29 =>
 optM (iaL 1 v17 v22) fun v30 =>
 bindM (stR 1 v30 v27) fun v31 =>
 bindM (F_slices_siftDownOrdered_int N Φ [v17, v19, v20, v18]) fun v32 =>
 optM (binR .sub .o none v20 (.i .i64 1)) fun v33 =>
 pureM (.nx [v17, v18, v19, v33])
 ) (
 pureM (.ex 2 [])
 )
 ) [v12, v13, v14, v16])
 (fun vs =>
 failM)
 (fun id vs =>
 cond (Nat.beq id 2) (
 unn vs <|
 pureM (.t [])
 ) <|
 failM)
 (fun vs =>
 unn vs <|
 pureM (.t [])
 )
 ) <|
 failM)
 (fun vs =>
 unn vs <|
 pureM (.t [])
 )
def an_slices_heapSortOrdered_int : An := (.two .n (.two .n (.two .n (.two (.two .n (.one (.loop [0, 6, 7, 8, 9] [(0, [0, 6, 7, 8])] [] (.two (.two .n (.two .n .n)) (.two (.one .n) .n))))) (.two .n (.one (.loop [0, 6, 7, 10] [(2, [])] [] (.two (.two .n (.two .n .n)) (.two (.one (.two .n .n)) .n)))))))))

/-- slices.nextPowerOfTwo -/
def tab_slices_nextPowerOfTwo (N : Nat) (Φ : Calls') : Calls' := fun f => cond (Nat.beq f id_math_bits_Len) (some (F_math_bits_Len N Φ)) (Φ f)
def F_slices_nextPowerOfTwo (N : Nat) (Φ : Calls') : List V → M V := fun args =>
 unc args fun a0 args =>
 unn args <|
 optM (cvI .u64 a0) fun v1 =>
 bindM (F_math_bits_Len N Φ [v1]) fun v2 =>
 optM (binR .shl .o none (.i .u64 1) v2) fun v3 =>
 pureM v3
def an_slices_nextPowerOfTwo : An := (.two .n (.two .n .n))

end Go.Cb.Sh
