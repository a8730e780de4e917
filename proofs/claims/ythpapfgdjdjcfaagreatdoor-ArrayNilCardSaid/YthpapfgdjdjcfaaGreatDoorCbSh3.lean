/- PRINTED BY PROGRAM: functions as the abstract machine runs them. -/
import Derived.Test.YthpapfgdjdjcfaaGreatDoorCbSh2
set_option linter.unusedVariables false
set_option linter.unusedSimpArgs false
namespace Go.Cb.Sh
open Go.Cb

/-- corbel/pick.Empty$1 -/
def tab_pick_Empty_1 (N : Nat) (Φ : Calls') : Calls' := fun f => Φ f
def F_pick_Empty_1 (N : Nat) (Φ : Calls') : List V → M V := fun args =>
 unc args fun a0 args =>
 unn args <|
 alM (boxR a0) fun v1 =>
 optM (faR 0 v1) fun v2 =>
 rdM (ld false 1 v2) fun v3 =>
 optM (binR .eql .o none v3 (.i .i64 0)) fun v4 =>
 bindM (gdM (boolV (some v4)) true (pM (faR 2 v1))) fun v5 =>
 bindM (gdM (boolV (some v4)) true (rM (ld false 1 v5))) fun v6 =>
 bindM (gdM (boolV (some v4)) true (pM (unV .not v6))) fun v7 =>
 optM (pickR v4 v7 (.b false)) fun v8 =>
 pureM v8
def an_pick_Empty_1 : An := (.two .n (.two .n .n))

/-- corbel/pick.Empty -/
def tab_pick_Empty (N : Nat) (Φ : Calls') : Calls' := fun f => cond (Nat.beq f id_pick_numbered) (some (F_pick_numbered N Φ)) (Φ f)
def F_pick_Empty (N : Nat) (Φ : Calls') : List V → M V := fun args =>
 unc args fun a0 args =>
 unn args <|
 bindM (F_pick_numbered N Φ [a0, (.f id_pick_Empty_1 [] [])]) fun v1 =>
 optM (lnL v1) fun v2 =>
 optM (binR .eql .o none v2 (.i .i64 0)) fun v3 =>
 iteM (some v3) (
 pureM (.t [(.i .i64 (-1)), (.i .i64 0)])
 ) (
 optM (iaL 1 v1 (.i .i64 0)) fun v4 =>
 rdM (ld false 1 v4) fun v5 =>
 optM (lnL v1) fun v6 =>
 pureM (.t [v5, v6])
 )
def an_pick_Empty : An := (.two .n (.two .n (.two (.two .n (.two (.two .n .n) .n)) (.two .n .n))))

/-- (*corbel/lmap.Map).Counts -/
def tab_lmap_Map_Counts (N : Nat) (Φ : Calls') : Calls' := fun f => Φ f
def F_lmap_Map_Counts (N : Nat) (Φ : Calls') : List V → M V := fun args =>
 unc args fun a0 args =>
 unc args fun a1 args =>
 unn args <|
 optM (binR .eql .p none a0 .pn) fun v1 =>
 bindM (gdM (boolV (some v1)) false (pM (some a1))) fun v2 =>
 bindM (gdM (boolV (some v1)) false (pM (binR .lss .o none v2 (.i .i64 1)))) fun v3 =>
 optM (pickR v1 (.b true) v3) fun v4 =>
 bindM (gdM (boolV (some v4)) false (pM (some a1))) fun v5 =>
 bindM (gdM (boolV (some v4)) false (pM (binR .gtr .o none v5 (.i .i64 64)))) fun v6 =>
 optM (pickR v4 (.b true) v6) fun v7 =>
 iteM (some v7) (
 pureM .ns
 ) (
 alM (mkR 1 8 [(.i .i64 0)] a1 a1) fun v8 =>
 optM (nilR a0) fun v9 =>
 optM (faR 0 v9) fun v10 =>
 rdM (ld false 1 v10) fun v11 =>
 bindM (rgR v11) fun v12 =>
 lrM (
 loopM N (fun vs =>
 unc vs fun v13 vs =>
 unc vs fun v14 vs =>
 unc vs fun v15 vs =>
 unn vs <|
 bindM (nxR v15) fun v16 =>
 optM (exR 0 v16) fun v17 =>
 iteM (some v17) (
 failM -- entry
 ) (
 pureM (.ex 0 [v14])
 )
 ) [a1, v8, v12])
 (fun vs =>
 failM)
 (fun id vs =>
 cond (Nat.beq id 0) (
 unc vs fun v18 vs =>
 unn vs <|
 pureM v18
 ) <|
 failM)
 (fun vs =>
 unc vs fun v19 vs =>
 unn vs <|
 pureM v19
 )
 )
def an_lmap_Map_Counts : An := (.two .n (.two (.two .n (.two (.two .n .n) .n)) (.two .n (.two (.two .n (.one (.loop [1, 5, 24] [(0, [5])] [4] (.two .n (.two (.two .n .n) (.one (.two .n (.two .n (.two .n .n))))))))) (.two .n .n)))))

/-- (*corbel/volume.Volume).zones -/
def tab_volume_Volume_zones (N : Nat) (Φ : Calls') : Calls' := fun f => cond (Nat.beq f id_array_Array_Zone) (some (F_array_Array_Zone N Φ)) (cond (Nat.beq f id_geom_Zones) (some (F_geom_Zones N Φ)) (cond (Nat.beq f id_lmap_Map_Counts) (some (F_lmap_Map_Counts N Φ)) (Φ f)))
def F_volume_Volume_zones (N : Nat) (Φ : Calls') : List V → M V := fun args =>
 unc args fun a0 args =>
 unn args <|
 optM (nilR a0) fun v1 =>
 optM (faR 6 v1) fun v2 =>
 rdM (ld false 1 v2) fun v3 =>
 optM (nilR a0) fun v4 =>
 optM (faR 1 v4) fun v5 =>
 rdM (ld true 5 v5) fun v6 =>
 bindM (F_geom_Zones N Φ [v6]) fun v7 =>
 chkM (ckR (ld false 1 v2) v3) <|
 bindM (F_lmap_Map_Counts N Φ [v3, v7]) fun v8 =>
 optM (lnL v8) fun v9 =>
 lrM (
 loopM N (fun vs =>
 unc vs fun v10 vs =>
 unc vs fun v11 vs =>
 unc vs fun v12 vs =>
 unc vs fun v13 vs =>
 unc vs fun v14 vs =>
 unn vs <|
 optM (binR .lss .o none v14 v13) fun v15 =>
 iteM (some v15) (
 optM (iaL 1 v12 v14) fun v16 =>
 rdM (ld false 1 v16) fun v17 =>
 optM (nilR v10) fun v18 =>
 optM (faR 0 v18) fun v19 =>
 rdM (ld false 1 v19) fun v20 =>
 bindM (F_array_Array_Zone N Φ [v20, v14]) fun v21 =>
 optM (exR 0 v21) fun v22 =>
 optM (exR 1 v21) fun v23 =>
 alM (alR 30 [(.i .i64 0), (.i .i64 0)]) fun v24 =>
 bindM (stR 2 v24 v22) fun v25 =>
 optM (faR 1 v24) fun v26 =>
 rdM (ld false 1 v26) fun v27 =>
 optM (nilR v10) fun v28 =>
 optM (faR 8 v28) fun v29 =>
 rdM (ld false 1 v29) fun v30 =>
 optM (binR .eql .o none v14 v30) fun v31 =>
 optM (bdR [(0, 1), (1, 1), (2, 1)] [(.i .i64 0), (.i .i64 0), (.b false)] [(0, v27), (1, v17), (2, v31)]) fun v32 =>
 alM (bsR 1 3 (zeros [(.i .i64 0), (.i .i64 0), (.b false)] 3) [(0, v32)]) fun v33 =>
 bindM (apR 326 3 24 (srL 3 v33) v11) fun v34 =>
 optM (binR .add .o none v14 (.i .i64 1)) fun v35 =>
 pureM (.nx [v10, v34, v12, v13, v35])
 ) (
 pureM (.ex 0 [v11])
 )
 ) [a0, .ns, v8, v9, (.i .i64 0)])
 (fun vs =>
 failM)
 (fun id vs =>
 cond (Nat.beq id 0) (
 unc vs fun v36 vs =>
 unn vs <|
 pureM v36
 ) <|
 failM)
 (fun vs =>
 unc vs fun v37 vs =>
 unn vs <|
 pureM v37
 )
def an_volume_Volume_zones : An := (.two .n (.two .n (.two (.two .n (.one (.loop [0, 3, 17, 18, 19] [(0, [3])] [2] (.two .n (.two (.two .n .n) (.two (.one (.two .n (.two .n .n))) .n)))))) (.two .n .n))))

/-- (*corbel/volume.Volume).end -/
def tab_volume_Volume_end (N : Nat) (Φ : Calls') : Calls' := fun f => cond (Nat.beq f id_array_Array_Do) (some (F_array_Array_Do N Φ)) (cond (Nat.beq f id_array_Array_Zone) (some (F_array_Array_Zone N Φ)) (Φ f))
def F_volume_Volume_end (N : Nat) (Φ : Calls') : List V → M V := fun args =>
 unc args fun a0 args =>
 unc args fun a1 args =>
 unn args <|
 optM (nilR a0) fun v1 =>
 optM (faR 0 v1) fun v2 =>
 rdM (ld false 1 v2) fun v3 =>
 bindM (F_array_Array_Zone N Φ [v3, a1]) fun v4 =>
 optM (exR 0 v4) fun v5 =>
 optM (exR 1 v4) fun v6 =>
 alM (alR 30 [(.i .i64 0), (.i .i64 0)]) fun v7 =>
 bindM (stR 2 v7 v5) fun v8 =>
 optM (faR 1 v7) fun v9 =>
 rdM (ld false 1 v9) fun v10 =>
 optM (binR .eql .o none v10 (.i .i64 0)) fun v11 =>
 bindM (gdM (boolV (some v11)) false (pM (faR 0 v7))) fun v12 =>
 bindM (gdM (boolV (some v11)) false (rM (ld false 1 v12))) fun v13 =>
 bindM (gdM (boolV (some v11)) false (pM (binR .eql .o none v13 (.i .i64 4)))) fun v14 =>
 optM (pickR v11 (.b true) v14) fun v15 =>
 iteM (some v15) (
 pureM (.i .i64 0)
 ) (
 optM (nilR a0) fun v16 =>
 optM (faR 0 v16) fun v17 =>
 rdM (ld false 1 v17) fun v18 =>
 optM (bdR [(0, 1), (1, 1), (2, 1), (3, 1)] [(.i .i64 0), (.i .i64 0), (.i .i64 0), (.i .i64 0)] [(0, (.i .i64 4)), (1, a1)]) fun v19 =>
 bindM (F_array_Array_Do N Φ [v18, v19, (.s [])]) fun v20 =>
 optM (exR 0 v20) fun v21 =>
 optM (exR 1 v20) fun v22 =>
 optM (exR 2 v20) fun v23 =>
 pureM v23
 )
def an_volume_Volume_end : An := (.two .n (.two (.two .n (.two .n (.two (.two .n .n) .n))) (.two .n (.two .n .n))))

/-- (*corbel/volume.Volume).learn -/
def tab_volume_Volume_learn (N : Nat) (Φ : Calls') : Calls' := fun f => cond (Nat.beq f id_array_Array_Do) (some (F_array_Array_Do N Φ)) (cond (Nat.beq f id_array_Array_Flush) (some (F_array_Array_Flush N Φ)) (cond (Nat.beq f id_geom_Zones) (some (F_geom_Zones N Φ)) (cond (Nat.beq f id_volume_Volume_scan) (some (F_volume_Volume_scan N Φ)) (cond (Nat.beq f id_pick_Empty) (some (F_pick_Empty N Φ)) (cond (Nat.beq f id_volume_Volume_zones) (some (F_volume_Volume_zones N Φ)) (cond (Nat.beq f id_volume_Volume_end) (some (F_volume_Volume_end N Φ)) (Φ f)))))))
def F_volume_Volume_learn (N : Nat) (Φ : Calls') : List V → M V := fun args =>
 unc args fun a0 args =>
 unn args <|
 bindM (F_volume_Volume_scan N Φ [a0]) fun v1 =>
 optM (exR 0 v1) fun v2 =>
 optM (exR 1 v1) fun v3 =>
 optM (binR .neq .o none v3 (.i .i64 0)) fun v4 =>
 iteM (some v4) (
 pureM v3
 ) (
 lrM (
 bindM (F_volume_Volume_zones N Φ [a0]) fun v5 =>
 bindM (F_pick_Empty N Φ [v5]) fun v6 =>
 optM (exR 0 v6) fun v7 =>
 optM (exR 1 v6) fun v8 =>
 optM (binR .eql .o none v8 (.i .i64 0)) fun v9 =>
 iteM (some v9) (
 optM (nilR a0) fun v10 =>
 optM (faR 0 v10) fun v11 =>
 rdM (ld false 1 v11) fun v12 =>
 optM (bdR [(0, 1), (1, 1), (2, 1), (3, 1)] [(.i .i64 0), (.i .i64 0), (.i .i64 0), (.i .i64 0)] [(0, (.i .i64 3)), (1, v2)]) fun v13 =>
 bindM (F_array_Array_Do N Φ [v12, v13, (.s [])]) fun v14 =>
 optM (exR 0 v14) fun v15 =>
 optM (exR 1 v14) fun v16 =>
 optM (exR 2 v14) fun v17 =>
 optM (binR .neq .o none v17 (.i .i64 0)) fun v18 =>
 iteM (some v18) (
 pureM (.rt [v17])
 ) (
 bindM (F_volume_Volume_scan N Φ [a0]) fun v19 =>
 optM (exR 0 v19) fun v20 =>
 optM (exR 1 v19) fun v21 =>
 optM (binR .neq .o none v21 (.i .i64 0)) fun v22 =>
 iteM (some v22) (
 pureM (.rt [v21])
 ) (
 pureM (.nx [a0])
 )
 )
 ) (
 pureM (.nx [a0])
 )
 )
 (fun vs =>
 unc vs fun v23 vs =>
 unn vs <|
 optM (nilR v23) fun v24 =>
 optM (faR 1 v24) fun v25 =>
 rdM (ld true 5 v25) fun v26 =>
 bindM (F_geom_Zones N Φ [v26]) fun v27 =>
 lrM (
 loopM N (fun vs =>
 unc vs fun v28 vs =>
 unc vs fun v29 vs =>
 unc vs fun v30 vs =>
 unn vs <|
 optM (binR .lss .o none v30 v29) fun v31 =>
 iteM (some v31) (
 bindM (F_volume_Volume_end N Φ [v28, v30]) fun v32 =>
 optM (binR .neq .o none v32 (.i .i64 0)) fun v33 =>
 iteM (some v33) (
 pureM (.rt [v32])
 ) (
 optM (binR .add .o none v30 (.i .i64 1)) fun v34 =>
 pureM (.nx [v28, v29, v34])
 )
 ) (
 pureM (.ex 0 [v28])
 )
 ) [v23, v27, (.i .i64 0)])
 (fun vs =>
 failM)
 (fun id vs =>
 cond (Nat.beq id 0) (
 unc vs fun v35 vs =>
 unn vs <|
 optM (nilR v35) fun v36 =>
 optM (faR 0 v36) fun v37 =>
 rdM (ld false 1 v37) fun v38 =>
 bindM (F_array_Array_Flush N Φ [v38]) fun v39 =>
 pureM v39
 ) <|
 failM)
 (fun vs =>
 unc vs fun v40 vs =>
 unn vs <|
 pureM v40
 )
 )
 (fun id vs =>
 failM)
 (fun vs =>
 unc vs fun v41 vs =>
 unn vs <|
 pureM v41
 )
 )
def an_volume_Volume_learn : An := (.two .n (.two .n (.two (.two .n (.two (.two .n .n) .n)) (.two (.cut [0] [] [2] (.two .n (.two .n (.two (.two (.two .n (.two .n (.two (.two .n .n) .n))) (.two .n (.two .n (.two (.two .n .n) .n)))) .n)))) (.two (.two .n (.one (.loop [0, 56, 57] [(0, [0])] [2] (.two .n (.two (.two .n .n) (.two (.one (.two .n (.two .n (.two .n (.two (.two .n .n) .n))))) .n)))))) (.two .n .n))))))

/-- corbel/volume.Open -/
def tab_volume_Open (N : Nat) (Φ : Calls') : Calls' := fun f => cond (Nat.beq f id_array_Open) (some (F_array_Open N Φ)) (cond (Nat.beq f id_volume_Volume_learn) (some (F_volume_Volume_learn N Φ)) (Φ f))
def F_volume_Open (N : Nat) (Φ : Calls') : List V → M V := fun args =>
 unc args fun a0 args =>
 unc args fun a1 args =>
 unn args <|
 alM (boxR a1) fun v1 =>
 rdM (ld true 5 v1) fun v2 =>
 bindM (F_array_Open N Φ [a0, v2]) fun v3 =>
 optM (exR 0 v3) fun v4 =>
 optM (exR 1 v3) fun v5 =>
 optM (binR .neq .o none v5 (.i .i64 0)) fun v6 =>
 iteM (some v6) (
 pureM (.t [.pn, v5])
 ) (
 rdM (ld true 5 v1) fun v7 =>
 optM (bdR [(0, 1), (1, 5), (6, 1), (7, 1), (8, 1)] [.pn, (.i .i64 0), (.i .i64 0), (.i .i64 0), (.i .i64 0), (.i .i64 0), .pn, .mn, (.i .i64 0)] [(0, v4), (1, v7)]) fun v8 =>
 alM (boxR v8) fun v9 =>
 bindM (F_volume_Volume_learn N Φ [v9]) fun v10 =>
 optM (binR .neq .o none v10 (.i .i64 0)) fun v11 =>
 iteM (some v11) (
 pureM (.t [.pn, v10])
 ) (
 pureM (.t [v9, (.i .i64 0)])
 )
 )
def an_volume_Open : An := (.two .n (.two .n (.two (.two .n (.two (.two .n .n) .n)) (.two .n (.two (.two .n (.two .n (.two (.two .n .n) .n))) (.two .n .n))))))

/-- corbel/corbellaw22.made -/
def tab_corbellaw22_made (N : Nat) (Φ : Calls') : Calls' := fun f => cond (Nat.beq f id_rig_New) (some (F_rig_New N Φ)) (cond (Nat.beq f id_volume_Format) (some (F_volume_Format N Φ)) (cond (Nat.beq f id_volume_Open) (some (F_volume_Open N Φ)) (Φ f)))
def F_corbellaw22_made (N : Nat) (Φ : Calls') : List V → M V := fun args =>
 unc args fun a0 args =>
 unn args <|
 alM (boxR a0) fun v1 =>
 rdM (ld true 5 v1) fun v2 =>
 optM (faR 0 v1) fun v3 =>
 rdM (ld false 1 v3) fun v4 =>
 optM (binR .add .o none v4 (.i .i64 1)) fun v5 =>
 bindM (F_rig_New N Φ [v2, v5]) fun v6 =>
 optM (exR 0 v6) fun v7 =>
 optM (exR 1 v6) fun v8 =>
 optM (binR .neq .o none v8 (.i .i64 0)) fun v9 =>
 iteM (some v9) (
 pureM (.t [.pn, .pn, (.b false)])
 ) (
 rdM (ld true 5 v1) fun v10 =>
 bindM (F_volume_Format N Φ [v7, v10]) fun v11 =>
 optM (binR .neq .o none v11 (.i .i64 0)) fun v12 =>
 iteM (some v12) (
 pureM (.t [.pn, .pn, (.b false)])
 ) (
 rdM (ld true 5 v1) fun v13 =>
 bindM (F_volume_Open N Φ [v7, v13]) fun v14 =>
 optM (exR 0 v14) fun v15 =>
 optM (exR 1 v14) fun v16 =>
 optM (binR .eql .o none v16 (.i .i64 0)) fun v17 =>
 bindM (gdM (boolV (some v17)) true (pM (some v15))) fun v18 =>
 bindM (gdM (boolV (some v17)) true (pM (binR .neq .p none v18 .pn))) fun v19 =>
 optM (pickR v17 v19 (.b false)) fun v20 =>
 pureM (.t [v7, v15, v20])
 )
 )
def an_corbellaw22_made : An := (.two .n (.two .n (.two (.two .n (.two (.two .n .n) .n)) (.two (.two .n (.two (.two .n .n) .n)) (.two .n (.two .n .n))))))

/-- corbel/fit.Entries -/
def tab_fit_Entries (N : Nat) (Φ : Calls') : Calls' := fun f => Φ f
def F_fit_Entries (N : Nat) (Φ : Calls') : List V → M V := fun args =>
 unc args fun a0 args =>
 unn args <|
 optM (binR .lss .o none a0 (.i .i64 2)) fun v1 =>
 bindM (gdM (boolV (some v1)) false (pM (some a0))) fun v2 =>
 bindM (gdM (boolV (some v1)) false (pM (binR .gtr .o none v2 (.i .i64 1048576)))) fun v3 =>
 optM (pickR v1 (.b true) v3) fun v4 =>
 iteM (some v4) (
 pureM (.i .i64 0)
 ) (
 optM (binR .quo .o none a0 (.i .i64 7)) fun v5 =>
 optM (binR .rem .o none a0 (.i .i64 7)) fun v6 =>
 optM (binR .mul .o none v5 (.i .i64 6)) fun v7 =>
 optM (binR .sub .o none v6 (.i .i64 1)) fun v8 =>
 optM (foldInts maxI [v8, (.i .i64 0)]) fun v9 =>
 optM (binR .add .o none v7 v9) fun v10 =>
 pureM v10
 )
def an_fit_Entries : An := (.two .n (.two (.two .n (.two (.two .n .n) .n)) (.two .n (.two .n (.two .n .n)))))

/-- corbel/fit.Size -/
def tab_fit_Size (N : Nat) (Φ : Calls') : Calls' := fun f => cond (Nat.beq f id_array_Good) (some (F_array_Good N Φ)) (cond (Nat.beq f id_geom_Zones) (some (F_geom_Zones N Φ)) (cond (Nat.beq f id_fit_Entries) (some (F_fit_Entries N Φ)) (cond (Nat.beq f id_geom_Capacity) (some (F_geom_Capacity N Φ)) (Φ f))))
def F_fit_Size (N : Nat) (Φ : Calls') : List V → M V := fun args =>
 unc args fun a0 args =>
 unn args <|
 alM (boxR a0) fun v1 =>
 rdM (ld true 5 v1) fun v2 =>
 bindM (F_array_Good N Φ [v2]) fun v3 =>
 optM (unV .not v3) fun v4 =>
 iteM (some v4) (
 pureM (.i .i64 0)
 ) (
 rdM (ld true 5 v1) fun v5 =>
 rdM (ld true 5 v1) fun v6 =>
 bindM (F_geom_Zones N Φ [v5]) fun v7 =>
 chkM (ckR (ld true 5 v1) v6) <|
 optM (binR .sub .o none v7 (.i .i64 1)) fun v8 =>
 bindM (F_geom_Capacity N Φ [v6]) fun v9 =>
 optM (binR .sub .o none v9 (.i .i64 8)) fun v10 =>
 bindM (F_fit_Entries N Φ [v10]) fun v11 =>
 optM (binR .mul .o none v8 v11) fun v12 =>
 pureM v12
 )
def an_fit_Size : An := (.two .n (.two (.two .n (.two (.two .n .n) .n)) (.two .n .n)))

/-- (*corbel/volume.Volume).Size -/
def tab_volume_Volume_Size (N : Nat) (Φ : Calls') : Calls' := fun f => cond (Nat.beq f id_fit_Size) (some (F_fit_Size N Φ)) (Φ f)
def F_volume_Volume_Size (N : Nat) (Φ : Calls') : List V → M V := fun args =>
 unc args fun a0 args =>
 unn args <|
 optM (binR .eql .p none a0 .pn) fun v1 =>
 iteM (some v1) (
 pureM (.i .i64 0)
 ) (
 optM (nilR a0) fun v2 =>
 optM (faR 1 v2) fun v3 =>
 rdM (ld true 5 v3) fun v4 =>
 bindM (F_fit_Size N Φ [v4]) fun v5 =>
 pureM v5
 )
def an_volume_Volume_Size : An := (.two .n (.two (.two .n (.two (.two .n .n) .n)) (.two .n .n)))

/-- corbel/fit.Range -/
def tab_fit_Range (N : Nat) (Φ : Calls') : Calls' := fun f => cond (Nat.beq f id_fit_Size) (some (F_fit_Size N Φ)) (Φ f)
def F_fit_Range (N : Nat) (Φ : Calls') : List V → M V := fun args =>
 unc args fun a0 args =>
 unc args fun a1 args =>
 unc args fun a2 args =>
 unn args <|
 alM (boxR a0) fun v1 =>
 rdM (ld true 5 v1) fun v2 =>
 bindM (F_fit_Size N Φ [v2]) fun v3 =>
 optM (binR .geq .o none a1 (.i .i64 0)) fun v4 =>
 bindM (gdM (boolV (some v4)) true (pM (some a2))) fun v5 =>
 bindM (gdM (boolV (some v4)) true (pM (binR .geq .o none v5 (.i .i64 1)))) fun v6 =>
 optM (pickR v4 v6 (.b false)) fun v7 =>
 bindM (gdM (boolV (some v7)) true (pM (some a1))) fun v8 =>
 bindM (gdM (boolV (some v7)) true (pM (some v3))) fun v9 =>
 bindM (gdM (boolV (some v7)) true (pM (binR .leq .o none v8 v9))) fun v10 =>
 optM (pickR v7 v10 (.b false)) fun v11 =>
 bindM (gdM (boolV (some v11)) true (pM (some a2))) fun v12 =>
 bindM (gdM (boolV (some v11)) true (pM (some v3))) fun v13 =>
 bindM (gdM (boolV (some v11)) true (pM (some a1))) fun v14 =>
 bindM (gdM (boolV (some v11)) true (pM (binR .sub .o none v13 v14))) fun v15 =>
 bindM (gdM (boolV (some v11)) true (pM (binR .leq .o none v12 v15))) fun v16 =>
 optM (pickR v11 v16 (.b false)) fun v17 =>
 pureM v17
def an_fit_Range : An := (.two .n (.two .n (.two .n .n)))

/-- (*corbel/volume.Volume).asked -/
def tab_volume_Volume_asked (N : Nat) (Φ : Calls') : Calls' := fun f => cond (Nat.beq f id_fit_Range) (some (F_fit_Range N Φ)) (Φ f)
def F_volume_Volume_asked (N : Nat) (Φ : Calls') : List V → M V := fun args =>
 unc args fun a0 args =>
 unc args fun a1 args =>
 unc args fun a2 args =>
 unn args <|
 optM (binR .eql .p none a0 .pn) fun v1 =>
 iteM (some v1) (
 pureM (.i .i64 1)
 ) (
 optM (nilR a0) fun v2 =>
 optM (faR 1 v2) fun v3 =>
 rdM (ld true 5 v3) fun v4 =>
 bindM (F_fit_Range N Φ [v4, a1, a2]) fun v5 =>
 optM (unV .not v5) fun v6 =>
 iteM (some v6) (
 pureM (.i .i64 2)
 ) (
 pureM (.i .i64 0)
 )
 )
def an_volume_Volume_asked : An := (.two .n (.two (.one (.two .n (.two (.two .n .n) (.two .n (.two (.two .n .n) .n))))) (.two .n .n)))

/-- math/bits.Mul32 -/
def tab_math_bits_Mul32 (N : Nat) (Φ : Calls') : Calls' := fun f => Φ f
def F_math_bits_Mul32 (N : Nat) (Φ : Calls') : List V → M V := fun args =>
 unc args fun a0 args =>
 unc args fun a1 args =>
 unn args <|
 optM (cvI .u64 a0) fun v1 =>
 optM (cvI .u64 a1) fun v2 =>
 optM (binR .mul .o none v1 v2) fun v3 =>
 optM (binR .shr .o none v3 (.i .u64 32)) fun v4 =>
 optM (cvI .u32 v4) fun v5 =>
 optM (cvI .u32 v3) fun v6 =>
 pureM (.t [v5, v6])
def an_math_bits_Mul32 : An := (.two .n (.two .n (.two .n .n)))

/-- math/bits.Mul64 -/
def tab_math_bits_Mul64 (N : Nat) (Φ : Calls') : Calls' := fun f => Φ f
def F_math_bits_Mul64 (N : Nat) (Φ : Calls') : List V → M V := fun args =>
 unc args fun a0 args =>
 unc args fun a1 args =>
 unn args <|
 optM (binR .and .o none a0 (.i .u64 4294967295)) fun v1 =>
 optM (binR .shr .o none a0 (.i .u64 32)) fun v2 =>
 optM (binR .and .o none a1 (.i .u64 4294967295)) fun v3 =>
 optM (binR .shr .o none a1 (.i .u64 32)) fun v4 =>
 optM (binR .mul .o none v1 v3) fun v5 =>
 optM (binR .mul .o none v2 v3) fun v6 =>
 optM (binR .shr .o none v5 (.i .u64 32)) fun v7 =>
 optM (binR .add .o none v6 v7) fun v8 =>
 optM (binR .and .o none v8 (.i .u64 4294967295)) fun v9 =>
 optM (binR .shr .o none v8 (.i .u64 32)) fun v10 =>
 optM (binR .mul .o none v1 v4) fun v11 =>
 optM (binR .add .o none v9 v11) fun v12 =>
 optM (binR .mul .o none v2 v4) fun v13 =>
 optM (binR .add .o none v13 v10) fun v14 =>
 optM (binR .shr .o none v12 (.i .u64 32)) fun v15 =>
 optM (binR .add .o none v14 v15) fun v16 =>
 optM (binR .mul .o none a0 a1) fun v17 =>
 pureM (.t [v16, v17])
def an_math_bits_Mul64 : An := (.two .n (.two .n (.two .n (.two .n (.two .n (.two .n (.two .n (.two .n (.two .n (.two .n (.two .n (.two .n .n))))))))))))

/-- math/bits.Mul -/
def tab_math_bits_Mul (N : Nat) (Φ : Calls') : Calls' := fun f => cond (Nat.beq f id_math_bits_Mul32) (some (F_math_bits_Mul32 N Φ)) (cond (Nat.beq f id_math_bits_Mul64) (some (F_math_bits_Mul64 N Φ)) (Φ f))
def F_math_bits_Mul (N : Nat) (Φ : Calls') : List V → M V := fun args =>
 unc args fun a0 args =>
 unc args fun a1 args =>
 unn args <|
 iteM (some (.b false)) (
 optM (cvI .u32 a0) fun v1 =>
 optM (cvI .u32 a1) fun v2 =>
 bindM (F_math_bits_Mul32 N Φ [v1, v2]) fun v3 =>
 optM (exR 0 v3) fun v4 =>
 optM (exR 1 v3) fun v5 =>
 optM (cvI .u64 v4) fun v6 =>
 optM (cvI .u64 v5) fun v7 =>
 pureM (.t [v6, v7])
 ) (
 bindM (F_math_bits_Mul64 N Φ [a0, a1]) fun v8 =>
 optM (exR 0 v8) fun v9 =>
 optM (exR 1 v8) fun v10 =>
 pureM (.t [v9, v10])
 )
def an_math_bits_Mul : An := (.two .n (.two (.two (.two .n (.two .n .n)) .n) (.two .n (.two .n .n))))

/-- slices.Repeat[[]int,int] -/
def tab_slices_Repeat_int_int (N : Nat) (Φ : Calls') : Calls' := fun f => cond (Nat.beq f id_math_bits_Mul) (some (F_math_bits_Mul N Φ)) (Φ f)
def F_slices_Repeat_int_int (N : Nat) (Φ : Calls') : List V → M V := fun args =>
 unc args fun a0 args =>
 unc args fun a1 args =>
 unn args <|
 lrM (
 optM (binR .lss .o none a1 (.i .i64 0)) fun v1 =>
 iteM (some v1) (
 failM -- makeIface
 ) (
 pureM (.nx [a0, a1])
 )
 )
 (fun vs =>
 unc vs fun v2 vs =>
 unc vs fun v3 vs =>
 unn vs <|
 optM (lnL v2) fun v4 =>
 optM (cvI .u64 v4) fun v5 =>
 optM (cvI .u64 v3) fun v6 =>
 bindM (F_math_bits_Mul N Φ [v5, v6]) fun v7 =>
 optM (exR 0 v7) fun v8 =>
 optM (exR 1 v7) fun v9 =>
 lrM (
 optM (binR .gtr .o none v8 (.i .u64 0)) fun v10 =>
 bindM (gdM (boolV (some v10)) false (pM (some v9))) fun v11 =>
 bindM (gdM (boolV (some v10)) false (pM (binR .gtr .o none v11 (.i .u64 9223372036854775807)))) fun v12 =>
 optM (pickR v10 (.b true) v12) fun v13 =>
 iteM (some v13) (
 failM -- makeIface
 ) (
 pureM (.nx [v2, v9])
 )
 )
 (fun vs =>
 unc vs fun v14 vs =>
 unc vs fun v15 vs =>
 unn vs <|
 optM (cvI .i64 v15) fun v16 =>
 alM (mkR 1 8 [(.i .i64 0)] v16 v16) fun v17 =>
 bindM (cpR 1 fsL v17 v14) fun v18 =>
 lrM (
 loopM N (fun vs =>
 unc vs fun v19 vs =>
 unc vs fun v20 vs =>
 unn vs <|
 optM (lnL v19) fun v21 =>
 optM (binR .lss .o none v20 v21) fun v22 =>
 iteM (some v22) (
 optM (slL 1 v19 (some v20) none none) fun v23 =>
 optM (slL 1 v19 none (some v20) none) fun v24 =>
 bindM (cpR 1 fsL v23 v24) fun v25 =>
 optM (binR .add .o none v20 v25) fun v26 =>
 pureM (.nx [v19, v26])
 ) (
 pureM (.ex 0 [v19])
 )
 ) [v17, v18])
 (fun vs =>
 failM)
 (fun id vs =>
 cond (Nat.beq id 0) (
 unc vs fun v27 vs =>
 unn vs <|
 pureM v27
 ) <|
 failM)
 (fun vs =>
 unc vs fun v28 vs =>
 unn vs <|
 pureM v28
 )
 )
 (fun id vs =>
 failM)
 (fun vs =>
 unc vs fun v29 vs =>
 unn vs <|
 pureM v29
 )
 )
 (fun id vs =>
 failM)
 (fun vs =>
 unc vs fun v30 vs =>
 unn vs <|
 pureM v30
 )
def an_slices_Repeat_int_int : An := (.two .n (.two (.cut [0, 1] [] [4] (.two .n (.two .n .n))) (.two .n (.two (.cut [0, 6] [] [4] (.two .n (.two .n .n))) (.two .n (.two .n (.two (.one (.loop [7, 8] [(0, [7])] [4] (.two (.two .n (.two .n .n)) (.one .n)))) (.two .n .n))))))))

/-- corbel/pick.Split -/
def tab_pick_Split (N : Nat) (Φ : Calls') : Calls' := fun f => cond (Nat.beq f id_slices_Repeat_int_int) (some (F_slices_Repeat_int_int N Φ)) (Φ f)
def F_pick_Split (N : Nat) (Φ : Calls') : List V → M V := fun args =>
 unc args fun a0 args =>
 unn args <|
 optM (binR .lss .o none a0 (.i .i64 1)) fun v1 =>
 bindM (gdM (boolV (some v1)) false (pM (some a0))) fun v2 =>
 bindM (gdM (boolV (some v1)) false (pM (binR .gtr .o none v2 (.i .i64 1048576)))) fun v3 =>
 optM (pickR v1 (.b true) v3) fun v4 =>
 iteM (some v4) (
 pureM .ns
 ) (
 alM (bsR 1 1 (zeros [(.i .i64 0)] 1) [(0, (.i .i64 6))]) fun v5 =>
 optM (binR .quo .o none a0 (.i .i64 6)) fun v6 =>
 bindM (F_slices_Repeat_int_int N Φ [v5, v6]) fun v7 =>
 lrM (
 optM (binR .rem .o none a0 (.i .i64 6)) fun v8 =>
 optM (binR .gtr .o none v8 (.i .i64 0)) fun v9 =>
 iteM (some v9) (
 alM (bsR 1 1 (zeros [(.i .i64 0)] 1) [(0, v8)]) fun v10 =>
 bindM (apR 3 1 8 (srL 1 v10) v7) fun v11 =>
 pureM (.nx [v11])
 ) (
 pureM (.nx [v7])
 )
 )
 (fun vs =>
 unc vs fun v12 vs =>
 unn vs <|
 pureM v12
 )
 (fun id vs =>
 failM)
 (fun vs =>
 unc vs fun v13 vs =>
 unn vs <|
 pureM v13
 )
 )
def an_pick_Split : An := (.two .n (.two (.two .n (.two (.two .n .n) .n)) (.two .n (.two (.cut [3] [] [2] (.two .n (.two .n (.two .n .n)))) (.two .n .n)))))

/-- (*corbel/volume.Volume).left -/
def tab_volume_Volume_left (N : Nat) (Φ : Calls') : Calls' := fun f => cond (Nat.beq f id_array_Array_Zone) (some (F_array_Array_Zone N Φ)) (cond (Nat.beq f id_geom_Capacity) (some (F_geom_Capacity N Φ)) (Φ f))
def F_volume_Volume_left (N : Nat) (Φ : Calls') : List V → M V := fun args =>
 unc args fun a0 args =>
 unn args <|
 optM (nilR a0) fun v1 =>
 optM (faR 8 v1) fun v2 =>
 rdM (ld false 1 v2) fun v3 =>
 optM (binR .lss .o none v3 (.i .i64 0)) fun v4 =>
 iteM (some v4) (
 pureM (.i .i64 0)
 ) (
 optM (nilR a0) fun v5 =>
 optM (faR 0 v5) fun v6 =>
 rdM (ld false 1 v6) fun v7 =>
 optM (nilR a0) fun v8 =>
 optM (faR 8 v8) fun v9 =>
 rdM (ld false 1 v9) fun v10 =>
 alM (alR 30 [(.i .i64 0), (.i .i64 0)]) fun v11 =>
 bindM (F_array_Array_Zone N Φ [v7, v10]) fun v12 =>
 chkM (ckA (alR 30 [(.i .i64 0), (.i .i64 0)]) v11) <|
 optM (exR 0 v12) fun v13 =>
 optM (exR 1 v12) fun v14 =>
 bindM (stR 2 v11 v13) fun v15 =>
 optM (nilR a0) fun v16 =>
 optM (faR 1 v16) fun v17 =>
 rdM (ld true 5 v17) fun v18 =>
 optM (faR 1 v11) fun v19 =>
 rdM (ld false 1 v19) fun v20 =>
 bindM (F_geom_Capacity N Φ [v18]) fun v21 =>
 chkM (ckR (ld false 1 v19) v20) <|
 optM (binR .sub .o none v21 v20) fun v22 =>
 pureM v22
 )
def an_volume_Volume_left : An := (.two .n (.two (.two .n (.two (.two .n .n) .n)) (.two .n (.two .n .n))))

/-- (*corbel/volume.Volume).close -/
def tab_volume_Volume_close (N : Nat) (Φ : Calls') : Calls' := fun f => cond (Nat.beq f id_array_Array_Flush) (some (F_array_Array_Flush N Φ)) (cond (Nat.beq f id_volume_Volume_end) (some (F_volume_Volume_end N Φ)) (Φ f))
def F_volume_Volume_close (N : Nat) (Φ : Calls') : List V → M V := fun args =>
 unc args fun a0 args =>
 unn args <|
 optM (nilR a0) fun v1 =>
 optM (faR 8 v1) fun v2 =>
 rdM (ld false 1 v2) fun v3 =>
 optM (binR .lss .o none v3 (.i .i64 0)) fun v4 =>
 iteM (some v4) (
 pureM (.i .i64 0)
 ) (
 optM (nilR a0) fun v5 =>
 optM (faR 0 v5) fun v6 =>
 rdM (ld false 1 v6) fun v7 =>
 bindM (F_array_Array_Flush N Φ [v7]) fun v8 =>
 optM (binR .neq .o none v8 (.i .i64 0)) fun v9 =>
 iteM (some v9) (
 pureM v8
 ) (
 optM (nilR a0) fun v10 =>
 optM (faR 8 v10) fun v11 =>
 rdM (ld false 1 v11) fun v12 =>
 optM (nilR a0) fun v13 =>
 optM (faR 8 v13) fun v14 =>
 bindM (stR 1 v14 (.i .i64 (-1))) fun v15 =>
 bindM (F_volume_Volume_end N Φ [a0, v12]) fun v16 =>
 pureM v16
 )
 )
def an_volume_Volume_close : An := (.two .n (.two (.two .n (.two (.two .n .n) .n)) (.two (.two .n (.two .n (.two (.two .n .n) .n))) (.two .n (.two .n (.two .n .n))))))

/-- (*corbel/volume.Volume).at -/
def tab_volume_Volume_at (N : Nat) (Φ : Calls') : Calls' := fun f => cond (Nat.beq f id_array_Array_Do) (some (F_array_Array_Do N Φ)) (Φ f)
def F_volume_Volume_at (N : Nat) (Φ : Calls') : List V → M V := fun args =>
 unc args fun a0 args =>
 unc args fun a1 args =>
 unn args <|
 alM (boxR a1) fun v1 =>
 optM (nilR a0) fun v2 =>
 optM (faR 0 v2) fun v3 =>
 rdM (ld false 1 v3) fun v4 =>
 optM (faR 0 v1) fun v5 =>
 rdM (ld false 1 v5) fun v6 =>
 optM (nilR a0) fun v7 =>
 optM (faR 7 v7) fun v8 =>
 rdM (ld false 1 v8) fun v9 =>
 rdM (ld true 3 v1) fun v10 =>
 rdM (lkR (.flat [.i, .i, .i]) (.i .i64 0) false v9 v10) fun v11 =>
 optM (bdR [(0, 1), (1, 1), (2, 1), (3, 1)] [(.i .i64 0), (.i .i64 0), (.i .i64 0), (.i .i64 0)] [(0, (.i .i64 7)), (1, v6), (2, v11), (3, (.i .i64 1))]) fun v12 =>
 bindM (F_array_Array_Do N Φ [v4, v12, (.s [])]) fun v13 =>
 optM (exR 0 v13) fun v14 =>
 optM (exR 1 v13) fun v15 =>
 optM (exR 2 v13) fun v16 =>
 pureM (.t [v14, v16])
def an_volume_Volume_at : An := (.two .n (.two .n (.two .n .n)))

/-- (*corbel/lmap.Map).Seq -/
def tab_lmap_Map_Seq (N : Nat) (Φ : Calls') : Calls' := fun f => Φ f
def F_lmap_Map_Seq (N : Nat) (Φ : Calls') : List V → M V := fun args =>
 unc args fun a0 args =>
 unn args <|
 optM (binR .eql .p none a0 .pn) fun v1 =>
 iteM (some v1) (
 pureM (.i .i64 0)
 ) (
 optM (nilR a0) fun v2 =>
 optM (faR 1 v2) fun v3 =>
 rdM (ld false 1 v3) fun v4 =>
 pureM v4
 )
def an_lmap_Map_Seq : An := (.two .n (.two (.two .n (.two (.two .n .n) .n)) (.two .n .n)))

/-- (corbel/group.Group).head -/
def tab_group_Group_head (N : Nat) (Φ : Calls') : Calls' := fun f => cond (Nat.beq f id_nums_Put) (some (F_nums_Put N Φ)) (Φ f)
def F_group_Group_head (N : Nat) (Φ : Calls') : List V → M V := fun args =>
 unc args fun a0 args =>
 unn args <|
 alM (boxR a0) fun v1 =>
 optM (faR 0 v1) fun v2 =>
 rdM (ld false 1 v2) fun v3 =>
 optM (faR 1 v1) fun v4 =>
 rdM (ld false 1 v4) fun v5 =>
 optM (lnL v5) fun v6 =>
 bindM (F_nums_Put N Φ [v3, (.i .i64 6)]) fun v7 =>
 chkM (ckR (ld false 1 v4) v5) <|
 optM (binR .add .o none (.s [67, 71]) v7) fun v8 =>
 bindM (F_nums_Put N Φ [v6, (.i .i64 1)]) fun v9 =>
 optM (binR .add .o none v8 v9) fun v10 =>
 optM (faR 1 v1) fun v11 =>
 rdM (ld false 1 v11) fun v12 =>
 optM (lnL v12) fun v13 =>
 lrM (
 loopM N (fun vs =>
 unc vs fun v14 vs =>
 unc vs fun v15 vs =>
 unc vs fun v16 vs =>
 unc vs fun v17 vs =>
 unn vs <|
 optM (binR .lss .o none v17 v16) fun v18 =>
 iteM (some v18) (
 optM (iaL 2 v15 v17) fun v19 =>
 rdM (ld true 2 v19) fun v20 =>
 alM (alR 105 [(.i .i64 0), (.b false)]) fun v21 =>
 bindM (stR 2 v21 v20) fun v22 =>
 optM (faR 0 v21) fun v23 =>
 rdM (ld false 1 v23) fun v24 =>
 lrM (
 optM (faR 1 v21) fun v25 =>
 rdM (ld false 1 v25) fun v26 =>
 iteM (some v26) (
 optM (binR .or .o none v24 (.i .i64 2147483648)) fun v27 =>
 pureM (.nx [v14, v27, v15, v16, v17])
 ) (
 pureM (.nx [v14, v24, v15, v16, v17])
 )
 )
 (fun vs =>
 unc vs fun v28 vs =>
 unc vs fun v29 vs =>
 unc vs fun v30 vs =>
 unc vs fun v31 vs =>
 unc vs fun v32 vs =>
 unn vs <|
 bindM (F_nums_Put N Φ [v29, (.i .i64 4)]) fun v33 =>
 optM (binR .add .o none v28 v33) fun v34 =>
 optM (binR .add .o none v32 (.i .i64 1)) fun v35 =>
 pureM (.nx [v34, v30, v31, v35])
 )
 (fun id vs =>
 failM)
 (fun vs =>
 unc vs fun v36 vs =>
 unn vs <|
 pureM (.rt [v36])
 )
 ) (
 pureM (.ex 0 [v14])
 )
 ) [v10, v12, v13, (.i .i64 0)])
 (fun vs =>
 failM)
 (fun id vs =>
 cond (Nat.beq id 0) (
 unc vs fun v37 vs =>
 unn vs <|
 pureM v37
 ) <|
 failM)
 (fun vs =>
 unc vs fun v38 vs =>
 unn vs <|
 pureM v38
 )
def an_group_Group_head : An := (.two .n (.two .n (.two (.two .n (.one (.loop [3, 17, 18, 19] [(0, [3])] [2] (.two .n (.two (.two .n .n) (.two (.one (.two .n (.two .n (.two (.cut [3, 6, 17, 18, 19] [] [2] (.two .n (.two .n .n))) .n)))) .n)))))) (.two .n .n))))

/-- corbel/group.Encode -/
def tab_group_Encode (N : Nat) (Φ : Calls') : Calls' := fun f => cond (Nat.beq f id_xor_Zero) (some (F_xor_Zero N Φ)) (cond (Nat.beq f id_group_Group_right) (some (F_group_Group_right N Φ)) (cond (Nat.beq f id_strings_Join) (some (F_strings_Join N Φ)) (cond (Nat.beq f id_group_Group_head) (some (F_group_Group_head N Φ)) (cond (Nat.beq f id_nums_Put) (some (F_nums_Put N Φ)) (cond (Nat.beq f id_crc_Sum) (some (F_crc_Sum N Φ)) (Φ f))))))
def F_group_Encode (N : Nat) (Φ : Calls') : List V → M V := fun args =>
 unc args fun a0 args =>
 unn args <|
 alM (boxR a0) fun v1 =>
 rdM (ld true 3 v1) fun v2 =>
 bindM (F_group_Group_right N Φ [v2]) fun v3 =>
 optM (unV .not v3) fun v4 =>
 iteM (some v4) (
 pureM (.t [(.s []), (.i .i64 1)])
 ) (
 optM (faR 2 v1) fun v5 =>
 rdM (ld false 1 v5) fun v6 =>
 bindM (F_strings_Join N Φ [v6, (.s [])]) fun v7 =>
 rdM (ld true 3 v1) fun v8 =>
 bindM (F_group_Group_head N Φ [v8]) fun v9 =>
 alM (bsR 2 1 (zeros [(.s [])] 2) [(0, v9), (1, v7)]) fun v10 =>
 bindM (F_crc_Sum N Φ [v10]) fun v11 =>
 optM (cvI .i64 v11) fun v12 =>
 bindM (F_nums_Put N Φ [v12, (.i .i64 4)]) fun v13 =>
 optM (binR .add .o none v9 v13) fun v14 =>
 optM (lnS v14) fun v15 =>
 optM (binR .sub .o none (.i .i64 64) v15) fun v16 =>
 bindM (F_xor_Zero N Φ [v16]) fun v17 =>
 optM (binR .add .o none v14 v17) fun v18 =>
 optM (binR .add .o none v18 v7) fun v19 =>
 pureM (.t [v19, (.i .i64 0)])
 )
def an_group_Encode : An := (.two .n (.two (.two .n (.two (.two .n .n) .n)) (.two .n (.two .n (.two .n (.two .n .n))))))

/-- (*corbel/volume.Volume).lay -/
def tab_volume_Volume_lay (N : Nat) (Φ : Calls') : Calls' := fun f => cond (Nat.beq f id_array_Array_Do) (some (F_array_Array_Do N Φ)) (cond (Nat.beq f id_lmap_Map_Seq) (some (F_lmap_Map_Seq N Φ)) (cond (Nat.beq f id_group_Encode) (some (F_group_Encode N Φ)) (cond (Nat.beq f id_volume_Volume_add) (some (F_volume_Volume_add N Φ)) (Φ f))))
def F_volume_Volume_lay (N : Nat) (Φ : Calls') : List V → M V := fun args =>
 unc args fun a0 args =>
 unc args fun a1 args =>
 unc args fun a2 args =>
 unn args <|
 optM (nilR a0) fun v1 =>
 optM (faR 6 v1) fun v2 =>
 rdM (ld false 1 v2) fun v3 =>
 bindM (F_lmap_Map_Seq N Φ [v3]) fun v4 =>
 optM (binR .add .o none v4 (.i .i64 1)) fun v5 =>
 optM (bdR [(0, 1), (1, 1), (2, 1)] [(.i .i64 0), .ns, .ns] [(0, v5), (1, a1), (2, a2)]) fun v6 =>
 alM (alR 278 [(.i .i64 0), .ns, .ns]) fun v7 =>
 bindM (stR 3 v7 v6) fun v8 =>
 rdM (ld true 3 v7) fun v9 =>
 bindM (F_group_Encode N Φ [v9]) fun v10 =>
 optM (exR 0 v10) fun v11 =>
 optM (exR 1 v10) fun v12 =>
 optM (binR .neq .o none v12 (.i .i64 0)) fun v13 =>
 iteM (some v13) (
 pureM v12
 ) (
 optM (nilR a0) fun v14 =>
 optM (faR 0 v14) fun v15 =>
 rdM (ld false 1 v15) fun v16 =>
 optM (nilR a0) fun v17 =>
 optM (faR 8 v17) fun v18 =>
 rdM (ld false 1 v18) fun v19 =>
 optM (lnS v11) fun v20 =>
 optM (binR .quo .o none v20 (.i .i64 64)) fun v21 =>
 optM (bdR [(0, 1), (1, 1), (2, 1), (3, 1)] [(.i .i64 0), (.i .i64 0), (.i .i64 0), (.i .i64 0)] [(0, (.i .i64 2)), (1, v19), (3, v21)]) fun v22 =>
 bindM (F_array_Array_Do N Φ [v16, v22, v11]) fun v23 =>
 optM (exR 0 v23) fun v24 =>
 optM (exR 1 v23) fun v25 =>
 optM (exR 2 v23) fun v26 =>
 optM (binR .neq .o none v26 (.i .i64 0)) fun v27 =>
 iteM (some v27) (
 pureM v26
 ) (
 optM (nilR a0) fun v28 =>
 optM (faR 8 v28) fun v29 =>
 rdM (ld false 1 v29) fun v30 =>
 rdM (ld true 3 v7) fun v31 =>
 bindM (F_volume_Volume_add N Φ [a0, v30, v25, v31]) fun v32 =>
 pureM (.i .i64 0)
 )
 )
def an_volume_Volume_lay : An := (.two .n (.two .n (.two .n (.two (.two .n (.two (.two .n .n) .n)) (.two .n (.two (.two .n (.two (.two .n .n) .n)) (.two .n (.two .n .n))))))))

/-- corbel/pick.Victim$1 -/
def tab_pick_Victim_1 (N : Nat) (Φ : Calls') : Calls' := fun f => Φ f
def F_pick_Victim_1 (N : Nat) (Φ : Calls') : List V → M V := fun args =>
 unc args fun a0 args =>
 unn args <|
 alM (boxR a0) fun v1 =>
 optM (faR 0 v1) fun v2 =>
 rdM (ld false 1 v2) fun v3 =>
 optM (binR .gtr .o none v3 (.i .i64 0)) fun v4 =>
 bindM (gdM (boolV (some v4)) true (pM (faR 2 v1))) fun v5 =>
 bindM (gdM (boolV (some v4)) true (rM (ld false 1 v5))) fun v6 =>
 bindM (gdM (boolV (some v4)) true (pM (unV .not v6))) fun v7 =>
 optM (pickR v4 v7 (.b false)) fun v8 =>
 pureM v8
def an_pick_Victim_1 : An := (.two .n (.two .n .n))

/-- slices.MinFunc[[]int,int] -/
def tab_slices_MinFunc_int_int (N : Nat) (Φ : Calls') : Calls' := fun f => Φ f
def F_slices_MinFunc_int_int (N : Nat) (Φ : Calls') : List V → M V := fun args =>
 unc args fun a0 args =>
 unc args fun a1 args =>
 unn args <|
 lrM (
 optM (lnL a0) fun v1 =>
 optM (binR .lss .o none v1 (.i .i64 1)) fun v2 =>
 iteM (some v2) (
 failM -- makeIface
 ) (
 pureM (.nx [a0, a1])
 )
 )
 (fun vs =>
 unc vs fun v3 vs =>
 unc vs fun v4 vs =>
 unn vs <|
 optM (iaL 1 v3 (.i .i64 0)) fun v5 =>
 rdM (ld false 1 v5) fun v6 =>
 lrM (
 loopM N (fun vs =>
 unc vs fun v7 vs =>
 unc vs fun v8 vs =>
 unc vs fun v9 vs =>
 unc vs fun v10 vs =>
 unn vs <|
 optM (lnL v7) fun v11 =>
 optM (binR .lss .o none v10 v11) fun v12 =>
 iteM (some v12) (
 lrM (
 optM (iaL 1 v7 v10) fun v13 =>
 rdM (ld false 1 v13) fun v14 =>
 bindM (callF (tab_slices_MinFunc_int_int N Φ) v8 [v14, v9]) fun v15 =>
 optM (binR .lss .o none v15 (.i .i64 0)) fun v16 =>
 iteM (some v16) (
 optM (iaL 1 v7 v10) fun v17 =>
 rdM (ld false 1 v17) fun v18 =>
 pureM (.nx [v7, v8, v18, v10])
 ) (
 pureM (.nx [v7, v8, v9, v10])
 )
 )
 (fun vs =>
 unc vs fun v19 vs =>
 unc vs fun v20 vs =>
 unc vs fun v21 vs =>
 unc vs fun v22 vs =>
 unn vs <|
 optM (binR .add .o none v22 (.i .i64 1)) fun v23 =>
 pureM (.nx [v19, v20, v21, v23])
 )
 (fun id vs =>
 failM)
 (fun vs =>
 unc vs fun v24 vs =>
 unn vs <|
 pureM (.rt [v24])
 )
 ) (
 pureM (.ex 0 [v9])
 )
 ) [v3, v4, v6, (.i .i64 1)])
 (fun vs =>
 failM)
 (fun id vs =>
 cond (Nat.beq id 0) (
 unc vs fun v25 vs =>
 unn vs <|
 pureM v25
 ) <|
 failM)
 (fun vs =>
 unc vs fun v26 vs =>
 unn vs <|
 pureM v26
 )
 )
 (fun id vs =>
 failM)
 (fun vs =>
 unc vs fun v27 vs =>
 unn vs <|
 pureM v27
 )
def an_slices_MinFunc_int_int : An := (.two .n (.two (.cut [0, 1] [] [4] (.two .n (.two .n .n))) (.two .n (.two (.two .n (.one (.loop [0, 1, 5, 6] [(0, [5])] [4] (.two (.two .n (.two .n .n)) (.two (.cut [0, 1, 5, 6] [] [4] (.one (.two .n (.two .n .n)))) .n))))) (.two .n .n)))))

/-- cmp.Or[int] -/
def tab_cmp_Or_int (N : Nat) (Φ : Calls') : Calls' := fun f => Φ f
def F_cmp_Or_int (N : Nat) (Φ : Calls') : List V → M V := fun args =>
 unc args fun a0 args =>
 unn args <|
 optM (lnL a0) fun v1 =>
 lrM (
 loopM N (fun vs =>
 unc vs fun v2 vs =>
 unc vs fun v3 vs =>
 unc vs fun v4 vs =>
 unc vs fun v5 vs =>
 unn vs <|
 optM (binR .lss .o none v5 v4) fun v6 =>
 iteM (some v6) (
 optM (iaL 1 v3 v5) fun v7 =>
 rdM (ld false 1 v7) fun v8 =>
 optM (binR .neq .o none v8 v2) fun v9 =>
 iteM (some v9) (
 pureM (.rt [v8])
 ) (
 optM (binR .add .o none v5 (.i .i64 1)) fun v10 =>
 pureM (.nx [v2, v3, v4, v10])
 )
 ) (
 pureM (.ex 0 [v2])
 )
 ) [(.i .i64 0), a0, v1, (.i .i64 0)])
 (fun vs =>
 failM)
 (fun id vs =>
 cond (Nat.beq id 0) (
 unc vs fun v11 vs =>
 unn vs <|
 pureM v11
 ) <|
 failM)
 (fun vs =>
 unc vs fun v12 vs =>
 unn vs <|
 pureM v12
 )
def an_cmp_Or_int : An := (.two .n (.two .n (.two (.two .n (.one (.loop [3, 6, 7, 8] [(0, [3])] [2] (.two .n (.two (.two .n .n) (.two (.one (.two .n (.two .n (.two (.two .n .n) .n)))) .n)))))) (.two .n .n))))

/-- cmp.Compare[int] -/
def tab_cmp_Compare_int (N : Nat) (Φ : Calls') : Calls' := fun f => cond (Nat.beq f id_cmp_isNaN_int) (some (F_cmp_isNaN_int N Φ)) (Φ f)
def F_cmp_Compare_int (N : Nat) (Φ : Calls') : List V → M V := fun args =>
 unc args fun a0 args =>
 unc args fun a1 args =>
 unn args <|
 bindM (F_cmp_isNaN_int N Φ [a0]) fun v1 =>
 bindM (F_cmp_isNaN_int N Φ [a1]) fun v2 =>
 iteM (some v1) (
 iteM (some v2) (
 pureM (.i .i64 0)
 ) (
 pureM (.i .i64 (-1))
 )
 ) (
 iteM (some v2) (
 pureM (.i .i64 1)
 ) (
 optM (binR .lss .o none a0 a1) fun v3 =>
 iteM (some v3) (
 pureM (.i .i64 (-1))
 ) (
 optM (binR .gtr .o none a0 a1) fun v4 =>
 iteM (some v4) (
 pureM (.i .i64 1)
 ) (
 pureM (.i .i64 0)
 )
 )
 )
 )
def an_cmp_Compare_int : An := (.two .n (.two .n (.two .n (.two (.two .n (.two (.two (.two .n (.two (.two .n .n) .n)) (.two .n .n)) .n)) (.two (.two .n (.two (.two .n .n) .n)) (.two (.two .n (.two (.two .n .n) .n)) (.two (.two .n (.two (.two .n .n) .n)) (.two .n .n))))))))

/-- corbel/pick.Victim$2 -/
def tab_pick_Victim_2 (N : Nat) (Φ : Calls') : Calls' := fun f => cond (Nat.beq f id_cmp_Or_int) (some (F_cmp_Or_int N Φ)) (cond (Nat.beq f id_cmp_Compare_int) (some (F_cmp_Compare_int N Φ)) (Φ f))
def F_pick_Victim_2 (N : Nat) (Φ : Calls') : List V → M V := fun args =>
 unc args fun a0 args =>
 unc args fun a1 args =>
 unc args fun a2 args =>
 unn args <|
 rdM (ld false 1 a2) fun v1 =>
 optM (iaL 3 v1 a0) fun v2 =>
 optM (faR 1 v2) fun v3 =>
 rdM (ld false 1 v3) fun v4 =>
 rdM (ld false 1 a2) fun v5 =>
 optM (iaL 3 v5 a1) fun v6 =>
 optM (faR 1 v6) fun v7 =>
 rdM (ld false 1 v7) fun v8 =>
 rdM (ld false 1 a2) fun v9 =>
 optM (iaL 3 v9 a1) fun v10 =>
 optM (faR 0 v10) fun v11 =>
 rdM (ld false 1 v11) fun v12 =>
 rdM (ld false 1 a2) fun v13 =>
 optM (iaL 3 v13 a0) fun v14 =>
 optM (faR 0 v14) fun v15 =>
 rdM (ld false 1 v15) fun v16 =>
 bindM (F_cmp_Compare_int N Φ [v4, v8]) fun v17 =>
 chkM (ckR (ld false 1 v15) v16) <|
 chkM (ckR (ld false 1 a2) v13) <|
 chkM (ckR (ld false 1 v11) v12) <|
 chkM (ckR (ld false 1 a2) v9) <|
 bindM (F_cmp_Compare_int N Φ [v12, v16]) fun v18 =>
 alM (bsR 2 1 (zeros [(.i .i64 0)] 2) [(0, v17), (1, v18)]) fun v19 =>
 bindM (F_cmp_Or_int N Φ [v19]) fun v20 =>
 pureM v20
def an_pick_Victim_2 : An := (.two .n (.two .n .n))

/-- corbel/pick.Victim -/
def tab_pick_Victim (N : Nat) (Φ : Calls') : Calls' := fun f => cond (Nat.beq f id_pick_numbered) (some (F_pick_numbered N Φ)) (cond (Nat.beq f id_slices_MinFunc_int_int) (some (F_slices_MinFunc_int_int N Φ)) (Φ f))
def F_pick_Victim (N : Nat) (Φ : Calls') : List V → M V := fun args =>
 unc args fun a0 args =>
 unn args <|
 alM (boxR a0) fun v1 =>
 rdM (ld false 1 v1) fun v2 =>
 bindM (F_pick_numbered N Φ [v2, (.f id_pick_Victim_1 [] [])]) fun v3 =>
 optM (lnL v3) fun v4 =>
 optM (binR .eql .o none v4 (.i .i64 0)) fun v5 =>
 iteM (some v5) (
 pureM (.i .i64 (-1))
 ) (
 bindM (F_slices_MinFunc_int_int N Φ [v3, (.f id_pick_Victim_2 [] [v1])]) fun v6 =>
 pureM v6
 )
def an_pick_Victim : An := (.two .n (.two .n (.two (.two .n (.two (.two .n .n) .n)) (.two .n .n))))

/-- slices.insertionSortCmpFunc[corbel/lmap.Where] -/
def tab_slices_insertionSortCmpFunc_lmap_Where (N : Nat) (Φ : Calls') : Calls' := fun f => Φ f
def F_slices_insertionSortCmpFunc_lmap_Where (N : Nat) (Φ : Calls') : List V → M V := fun args =>
 unc args fun a0 args =>
 unc args fun a1 args =>
 unc args fun a2 args =>
 unc args fun a3 args =>
 unn args <|
 optM (binR .add .o none a1 (.i .i64 1)) fun v1 =>
 lrM (
 loopM N (fun vs =>
 unc vs fun v2 vs =>
 unc vs fun v3 vs =>
 unc vs fun v4 vs =>
 unc vs fun v5 vs =>
 unc vs fun v6 vs =>
 unn vs <|
 optM (binR .lss .o none v6 v4) fun v7 =>
 iteM (some v7) (
 lrM (
 loopM N (fun vs =>
 unc vs fun v8 vs =>
 unc vs fun v9 vs =>
 unc vs fun v10 vs =>
 unc vs fun v11 vs =>
 unc vs fun v12 vs =>
 unc vs fun v13 vs =>
 unn vs <|
 optM (binR .gtr .o none v13 v9) fun v14 =>
 bindM (gdM (boolV (some v14)) true (pM (some v11))) fun v15 =>
 bindM (gdM (boolV (some v14)) true (pM (some v8))) fun v16 =>
 bindM (gdM (boolV (some v14)) true (pM (some v13))) fun v17 =>
 bindM (gdM (boolV (some v14)) true (pM (iaL 3 v16 v17))) fun v18 =>
 bindM (gdM (boolV (some v14)) true (rM (ld true 3 v18))) fun v19 =>
 bindM (gdM (boolV (some v14)) true (pM (some v8))) fun v20 =>
 bindM (gdM (boolV (some v14)) true (pM (some v13))) fun v21 =>
 bindM (gdM (boolV (some v14)) true (pM (binR .sub .o none v21 (.i .i64 1)))) fun v22 =>
 bindM (gdM (boolV (some v14)) true (pM (iaL 3 v20 v22))) fun v23 =>
 bindM (gdM (boolV (some v14)) true (rM (ld true 3 v23))) fun v24 =>
 bindM (gdM (boolV (some v14)) true (callF (tab_slices_insertionSortCmpFunc_lmap_Where N Φ) v15 [v19, v24])) fun v25 =>
 bindM (gdM (boolV (some v14)) true (pM (binR .lss .o none v25 (.i .i64 0)))) fun v26 =>
 optM (pickR v14 v26 (.b false)) fun v27 =>
 iteM (some v27) (
 optM (binR .sub .o none v13 (.i .i64 1)) fun v28 =>
 optM (binR .sub .o none v13 (.i .i64 1)) fun v29 =>
 optM (iaL 3 v8 v29) fun v30 =>
 rdM (ld true 3 v30) fun v31 =>
 optM (iaL 3 v8 v13) fun v32 =>
 rdM (ld true 3 v32) fun v33 =>
 optM (iaL 3 v8 v13) fun v34 =>
 bindM (stR 3 v34 v31) fun v35 =>
 optM (iaL 3 v8 v28) fun v36 =>
 bindM (stR 3 v36 v33) fun v37 =>
 optM (binR .sub .o none v13 (.i .i64 1)) fun v38 =>
 pureM (.nx [v8, v9, v10, v11, v12, v38])
 ) (
 pureM (.ex 2 [v8, v9, v10, v11, v12])
 )
 ) [v2, v3, v4, v5, v6, v6])
 (fun vs =>
 failM)
 (fun id vs =>
 cond (Nat.beq id 2) (
 unc vs fun v39 vs =>
 unc vs fun v40 vs =>
 unc vs fun v41 vs =>
 unc vs fun v42 vs =>
 unc vs fun v43 vs =>
 unn vs <|
 optM (binR .add .o none v43 (.i .i64 1)) fun v44 =>
 pureM (.nx [v39, v40, v41, v42, v44])
 ) <|
 failM)
 (fun vs =>
 unn vs <|
 pureM (.rt [])
 )
 ) (
 pureM (.ex 0 [])
 )
 ) [a0, a1, a2, a3, v1])
 (fun vs =>
 failM)
 (fun id vs =>
 cond (Nat.beq id 0) (
 unn vs <|
 pureM (.t [])
 ) <|
 failM)
 (fun vs =>
 unn vs <|
 pureM (.t [])
 )
def an_slices_insertionSortCmpFunc_lmap_Where : An := (.two .n (.one (.loop [0, 1, 2, 3, 8] [(0, [])] [] (.two (.two .n (.two .n .n)) (.two (.one (.two .n (.one (.loop [0, 1, 2, 3, 8, 9] [(2, [0, 1, 2, 3, 8])] [] (.two (.two .n (.two .n .n)) (.two (.one .n) .n)))))) .n)))))

/-- slices.siftDownCmpFunc[corbel/lmap.Where] -/
def tab_slices_siftDownCmpFunc_lmap_Where (N : Nat) (Φ : Calls') : Calls' := fun f => Φ f
def F_slices_siftDownCmpFunc_lmap_Where (N : Nat) (Φ : Calls') : List V → M V := fun args =>
 unc args fun a0 args =>
 unc args fun a1 args =>
 unc args fun a2 args =>
 unc args fun a3 args =>
 unc args fun a4 args =>
 unn args <|
 lrM (
 loopM N (fun vs =>
 unc vs fun v1 vs =>
 unc vs fun v2 vs =>
 unc vs fun v3 vs =>
 unc vs fun v4 vs =>
 unc vs fun v5 vs =>
 unn vs <|
 optM (binR .mul .o none (.i .i64 2) v5) fun v6 =>
 optM (binR .add .o none v6 (.i .i64 1)) fun v7 =>
 optM (binR .geq .o none v7 v2) fun v8 =>
 iteM (some v8) (
 pureM (.ex 0 [])
 ) (
 lrM (
 optM (binR .add .o none v7 (.i .i64 1)) fun v9 =>
 optM (binR .lss .o none v9 v2) fun v10 =>
 bindM (gdM (boolV (some v10)) true (pM (some v4))) fun v11 =>
 bindM (gdM (boolV (some v10)) true (pM (some v1))) fun v12 =>
 bindM (gdM (boolV (some v10)) true (pM (some v3))) fun v13 =>
 bindM (gdM (boolV (some v10)) true (pM (some v7))) fun v14 =>
 bindM (gdM (boolV (some v10)) true (pM (binR .add .o none v13 v14))) fun v15 =>
 bindM (gdM (boolV (some v10)) true (pM (iaL 3 v12 v15))) fun v16 =>
 bindM (gdM (boolV (some v10)) true (rM (ld true 3 v16))) fun v17 =>
 bindM (gdM (boolV (some v10)) true (pM (some v1))) fun v18 =>
 bindM (gdM (boolV (some v10)) true (pM (some v3))) fun v19 =>
 bindM (gdM (boolV (some v10)) true (pM (some v7))) fun v20 =>
 bindM (gdM (boolV (some v10)) true (pM (binR .add .o none v19 v20))) fun v21 =>
 bindM (gdM (boolV (some v10)) true (pM (binR .add .o none v21 (.i .i64 1)))) fun v22 =>
 bindM (gdM (boolV (some v10)) true (pM (iaL 3 v18 v22))) fun v23 =>
 bindM (gdM (boolV (some v10)) true (rM (ld true 3 v23))) fun v24 =>
 bindM (gdM (boolV (some v10)) true (callF (tab_slices_siftDownCmpFunc_lmap_Where N Φ) v11 [v17, v24])) fun v25 =>
 bindM (gdM (boolV (some v10)) true (pM (binR .lss .o none v25 (.i .i64 0)))) fun v26 =>
 optM (pickR v10 v26 (.b false)) fun v27 =>
 iteM (some v27) (
 optM (binR .add .o none v7 (.i .i64 1)) fun v28 =>
 pureM (.nx [v1, v2, v3, v4, v5, v28])
 ) (
 pureM (.nx [v1, v2, v3, v4, v5, v7])
 )
 )
 (fun vs =>
 unc vs fun v29 vs =>
 unc vs fun v30 vs =>
 unc vs fun v31 vs =>
 unc vs fun v32 vs =>
 unc vs fun v33 vs =>
 unc vs fun v34 vs =>
 unn vs <|
 optM (binR .add .o none v31 v33) fun v35 =>
 optM (iaL 3 v29 v35) fun v36 =>
 rdM (ld true 3 v36) fun v37 =>
 optM (binR .add .o none v31 v34) fun v38 =>
 optM (iaL 3 v29 v38) fun v39 =>
 rdM (ld true 3 v39) fun v40 =>
 bindM (callF (tab_slices_siftDownCmpFunc_lmap_Where N Φ) v32 [v37, v40]) fun v41 =>
 optM (binR .lss .o none v41 (.i .i64 0)) fun v42 =>
 optM (unV .not v42) fun v43 =>
 iteM (some v43) (
 pureM (.rt [])
 ) (
 optM (binR .add .o none v31 v33) fun v44 =>
 optM (binR .add .o none v31 v34) fun v45 =>
 optM (binR .add .o none v31 v34) fun v46 =>
 optM (iaL 3 v29 v46) fun v47 =>
 rdM (ld true 3 v47) fun v48 =>
 optM (binR .add .o none v31 v33) fun v49 =>
 optM (iaL 3 v29 v49) fun v50 =>
 rdM (ld true 3 v50) fun v51 =>
 optM (iaL 3 v29 v44) fun v52 =>
 bindM (stR 3 v52 v48) fun v53 =>
 optM (iaL 3 v29 v45) fun v54 =>
 bindM (stR 3 v54 v51) fun v55 =>
 pureM (.nx [v29, v30, v31, v32, v34])
 )
 )
 (fun id vs =>
 failM)
 (fun vs =>
 unn vs <|
 pureM (.rt [])
 )
 )
 ) [a0, a2, a3, a4, a1])
 (fun vs =>
 failM)
 (fun id vs =>
 cond (Nat.beq id 0) (
 unn vs <|
 pureM (.t [])
 ) <|
 failM)
 (fun vs =>
 unn vs <|
 pureM (.t [])
 )
def an_slices_siftDownCmpFunc_lmap_Where : An := (.two .n (.one (.loop [0, 2, 3, 4, 10] [(0, [])] [] (.one (.two .n (.two (.two .n (.two .n .n)) (.two (.cut [0, 2, 3, 4, 10, 11] [] [] (.two .n (.two .n .n))) (.two (.two .n (.two .n .n)) (.two .n .n)))))))))

/-- slices.heapSortCmpFunc[corbel/lmap.Where] -/
def tab_slices_heapSortCmpFunc_lmap_Where (N : Nat) (Φ : Calls') : Calls' := fun f => cond (Nat.beq f id_slices_siftDownCmpFunc_lmap_Where) (some (F_slices_siftDownCmpFunc_lmap_Where N Φ)) (Φ f)
def F_slices_heapSortCmpFunc_lmap_Where (N : Nat) (Φ : Calls') : List V → M V := fun args =>
 unc args fun a0 args =>
 unc args fun a1 args =>
 unc args fun a2 args =>
 unc args fun a3 args =>
 unn args <|
 optM (binR .sub .o none a2 a1) fun v1 =>
 optM (binR .sub .o none v1 (.i .i64 1)) fun v2 =>
 optM (binR .quo .o none v2 (.i .i64 2)) fun v3 =>
 lrM (
 loopM N (fun vs =>
 unc vs fun v4 vs =>
 unc vs fun v5 vs =>
 unc vs fun v6 vs =>
 unc vs fun v7 vs =>
 unc vs fun v8 vs =>
 unc vs fun v9 vs =>
 unn vs <|
 optM (binR .geq .o none v9 (.i .i64 0)) fun v10 =>
 iteM (some v10) (
 bindM (F_slices_siftDownCmpFunc_lmap_Where N Φ [v4, v9, v8, v6, v5]) fun v11 =>
 optM (binR .sub .o none v9 (.i .i64 1)) fun v12 =>
 pureM (.nx [v4, v5, v6, v7, v8, v12])
 ) (
 pureM (.ex 0 [v4, v5, v6, v7, v8])
 )
 ) [a0, a3, a1, (.i .i64 0), v1, v3])
 (fun vs =>
 failM)
 (fun id vs =>
 cond (Nat.beq id 0) (
 unc vs fun v13 vs =>
 unc vs fun v14 vs =>
 unc vs fun v15 vs =>
 unc vs fun v16 vs =>
 unc vs fun v17 vs =>
 unn vs <|
 optM (binR .sub .o none v17 (.i .i64 1)) fun v18 =>
 lrM (
 loopM N (fun vs =>
 unc vs fun v19 vs =>
 unc vs fun v20 vs =>
 unc vs fun v21 vs =>
 unc vs fun v22 vs =>
 unc vs fun v23 vs =>
 unn vs <|
 optM (binR .geq .o none v23 (.i .i64 0)) fun v24 =>
 iteM (some v24) (
 optM (binR .add .o none v21 v23) fun v25 =>
 optM (binR .add .o none v21 v23) fun v26 =>
 optM (iaL 3 v19 v26) fun v27 =>
 rdM (ld true 3 v27) fun v28 =>
 optM (iaL 3 v19 v21) fun v29 =>
 rdM (ld true 3 v29) fun v30 =>
 optM (iaL 3 v19 v21) fun v31 =>
 bindM (stR 3 v31 v28) fun v32 =>
 optM (iaL 3 v19 v25) fun v33 =>
 bindM (stR 3 v33 v30) fun v34 =>
 bindM (F_slices_siftDownCmpFunc_lmap_Where N Φ [v19, v22, v23, v21, v20]) fun v35 =>
 optM (binR .sub .o none v23 (.i .i64 1)) fun v36 =>
 pureM (.nx [v19, v20, v21, v22, v36])
 ) (
 pureM (.ex 2 [])
 )
 ) [v13, v14, v15, v16, v18])
 (fun vs =>
 failM)
 (fun id vs =>
 cond (Nat.beq id 2) (
 unn vs <|
 pureM (.t [])
 ) <|
 failM)
 (fun vs =>
 unn vs <|
 pureM (.t [])
 )
 ) <|
 failM)
 (fun vs =>
 unn vs <|
 pureM (.t [])
 )
def an_slices_heapSortCmpFunc_lmap_Where : An := (.two .n (.two .n (.two .n (.two (.two .n (.one (.loop [0, 3, 8, 9, 10, 11] [(0, [0, 3, 8, 9, 10])] [] (.two (.two .n (.two .n .n)) (.two (.one .n) .n))))) (.two .n (.one (.loop [0, 3, 8, 9, 12] [(2, [])] [] (.two (.two .n (.two .n .n)) (.two (.one (.two .n .n)) .n)))))))))

/-- slices.breakPatternsCmpFunc[corbel/lmap.Where] -/
def tab_slices_breakPatternsCmpFunc_lmap_Where (N : Nat) (Φ : Calls') : Calls' := fun f => cond (Nat.beq f id_slices_nextPowerOfTwo) (some (F_slices_nextPowerOfTwo N Φ)) (cond (Nat.beq f id_slices_xorshift_Next) (some (F_slices_xorshift_Next N Φ)) (Φ f))
def F_slices_breakPatternsCmpFunc_lmap_Where (N : Nat) (Φ : Calls') : List V → M V := fun args =>
 unc args fun a0 args =>
 unc args fun a1 args =>
 unc args fun a2 args =>
 unc args fun a3 args =>
 unn args <|
 optM (binR .sub .o none a2 a1) fun v1 =>
 optM (binR .geq .o none v1 (.i .i64 8)) fun v2 =>
 iteM (some v2) (
 optM (cvI .u64 v1) fun v3 =>
 alM (alR 406 [(.i .u64 0)]) fun v4 =>
 bindM (stR 1 v4 v3) fun v5 =>
 bindM (F_slices_nextPowerOfTwo N Φ [v1]) fun v6 =>
 optM (binR .quo .o none v1 (.i .i64 4)) fun v7 =>
 optM (binR .mul .o none v7 (.i .i64 2)) fun v8 =>
 optM (binR .add .o none a1 v8) fun v9 =>
 optM (binR .sub .o none v9 (.i .i64 1)) fun v10 =>
 lrM (
 loopM N (fun vs =>
 unc vs fun v11 vs =>
 unc vs fun v12 vs =>
 unc vs fun v13 vs =>
 unc vs fun v14 vs =>
 unc vs fun v15 vs =>
 unc vs fun v16 vs =>
 unn vs <|
 optM (binR .quo .o none v13 (.i .i64 4)) fun v17 =>
 optM (binR .mul .o none v17 (.i .i64 2)) fun v18 =>
 optM (binR .add .o none v12 v18) fun v19 =>
 optM (binR .add .o none v19 (.i .i64 1)) fun v20 =>
 optM (binR .leq .o none v16 v20) fun v21 =>
 iteM (some v21) (
 bindM (F_slices_xorshift_Next N Φ [v14]) fun v22 =>
 optM (binR .sub .o none v15 (.i .u64 1)) fun v23 =>
 optM (binR .and .o none v22 v23) fun v24 =>
 optM (cvI .i64 v24) fun v25 =>
 lrM (
 optM (binR .geq .o none v25 v13) fun v26 =>
 iteM (some v26) (
 optM (binR .sub .o none v25 v13) fun v27 =>
 pureM (.nx [v11, v12, v13, v14, v15, v16, v27])
 ) (
 pureM (.nx [v11, v12, v13, v14, v15, v16, v25])
 )
 )
 (fun vs =>
 unc vs fun v28 vs =>
 unc vs fun v29 vs =>
 unc vs fun v30 vs =>
 unc vs fun v31 vs =>
 unc vs fun v32 vs =>
 unc vs fun v33 vs =>
 unc vs fun v34 vs =>
 unn vs <|
 optM (binR .add .o none v29 v34) fun v35 =>
 optM (binR .add .o none v29 v34) fun v36 =>
 optM (iaL 3 v28 v36) fun v37 =>
 rdM (ld true 3 v37) fun v38 =>
 optM (iaL 3 v28 v33) fun v39 =>
 rdM (ld true 3 v39) fun v40 =>
 optM (iaL 3 v28 v33) fun v41 =>
 bindM (stR 3 v41 v38) fun v42 =>
 optM (iaL 3 v28 v35) fun v43 =>
 bindM (stR 3 v43 v40) fun v44 =>
 optM (binR .add .o none v33 (.i .i64 1)) fun v45 =>
 pureM (.nx [v28, v29, v30, v31, v32, v45])
 )
 (fun id vs =>
 failM)
 (fun vs =>
 unn vs <|
 pureM (.rt [])
 )
 ) (
 pureM (.ex 0 [])
 )
 ) [a0, a1, v1, v4, v6, v10])
 (fun vs =>
 failM)
 (fun id vs =>
 cond (Nat.beq id 0) (
 unn vs <|
 pureM (.t [])
 ) <|
 failM)
 (fun vs =>
 unn vs <|
 pureM (.t [])
 )
 ) (
 pureM (.t [])
 )
def an_slices_breakPatternsCmpFunc_lmap_Where : An := (.two .n (.two .n (.two (.two .n (.two .n (.two .n (.one (.loop [0, 1, 8, 9, 10, 11] [(0, [])] [] (.two (.two .n (.two .n .n)) (.two (.one (.two .n (.two (.cut [0, 1, 8, 9, 10, 11, 12] [] [] (.two .n (.two .n .n))) .n))) .n))))))) .n)))

/-- slices.order2CmpFunc[corbel/lmap.Where] -/
def tab_slices_order2CmpFunc_lmap_Where (N : Nat) (Φ : Calls') : Calls' := fun f => Φ f
def F_slices_order2CmpFunc_lmap_Where (N : Nat) (Φ : Calls') : List V → M V := fun args =>
 unc args fun a0 args =>
 unc args fun a1 args =>
 unc args fun a2 args =>
 unc args fun a3 args =>
 unc args fun a4 args =>
 unn args <|
 optM (iaL 3 a0 a2) fun v1 =>
 rdM (ld true 3 v1) fun v2 =>
 optM (iaL 3 a0 a1) fun v3 =>
 rdM (ld true 3 v3) fun v4 =>
 bindM (callF (tab_slices_order2CmpFunc_lmap_Where N Φ) a4 [v2, v4]) fun v5 =>
 optM (binR .lss .o none v5 (.i .i64 0)) fun v6 =>
 iteM (some v6) (
 optM (nilR a3) fun v7 =>
 rdM (ld false 1 v7) fun v8 =>
 optM (binR .add .o none v8 (.i .i64 1)) fun v9 =>
 optM (nilR a3) fun v10 =>
 bindM (stR 1 v10 v9) fun v11 =>
 pureM (.t [a2, a1])
 ) (
 pureM (.t [a1, a2])
 )
def an_slices_order2CmpFunc_lmap_Where : An := (.two .n (.two (.two .n (.two (.two .n (.two .n .n)) .n)) (.two .n .n)))

/-- slices.medianCmpFunc[corbel/lmap.Where] -/
def tab_slices_medianCmpFunc_lmap_Where (N : Nat) (Φ : Calls') : Calls' := fun f => cond (Nat.beq f id_slices_order2CmpFunc_lmap_Where) (some (F_slices_order2CmpFunc_lmap_Where N Φ)) (Φ f)
def F_slices_medianCmpFunc_lmap_Where (N : Nat) (Φ : Calls') : List V → M V := fun args =>
 unc args fun a0 args =>
 unc args fun a1 args =>
 unc args fun a2 args =>
 unc args fun a3 args =>
 unc args fun a4 args =>
 unc args fun a5 args =>
 unn args <|
 bindM (F_slices_order2CmpFunc_lmap_Where N Φ [a0, a1, a2, a4, a5]) fun v1 =>
 optM (exR 0 v1) fun v2 =>
 optM (exR 1 v1) fun v3 =>
 bindM (F_slices_order2CmpFunc_lmap_Where N Φ [a0, v3, a3, a4, a5]) fun v4 =>
 optM (exR 0 v4) fun v5 =>
 optM (exR 1 v4) fun v6 =>
 bindM (F_slices_order2CmpFunc_lmap_Where N Φ [a0, v2, v5, a4, a5]) fun v7 =>
 optM (exR 0 v7) fun v8 =>
 optM (exR 1 v7) fun v9 =>
 pureM v9
def an_slices_medianCmpFunc_lmap_Where : An := (.two .n (.two .n (.two .n (.two .n (.two .n .n)))))

/-- slices.medianAdjacentCmpFunc[corbel/lmap.Where] -/
def tab_slices_medianAdjacentCmpFunc_lmap_Where (N : Nat) (Φ : Calls') : Calls' := fun f => cond (Nat.beq f id_slices_medianCmpFunc_lmap_Where) (some (F_slices_medianCmpFunc_lmap_Where N Φ)) (Φ f)
def F_slices_medianAdjacentCmpFunc_lmap_Where (N : Nat) (Φ : Calls') : List V → M V := fun args =>
 unc args fun a0 args =>
 unc args fun a1 args =>
 unc args fun a2 args =>
 unc args fun a3 args =>
 unn args <|
 optM (binR .sub .o none a1 (.i .i64 1)) fun v1 =>
 optM (binR .add .o none a1 (.i .i64 1)) fun v2 =>
 bindM (F_slices_medianCmpFunc_lmap_Where N Φ [a0, v1, a1, v2, a2, a3]) fun v3 =>
 pureM v3
def an_slices_medianAdjacentCmpFunc_lmap_Where : An := (.two .n (.two .n .n))

/-- slices.choosePivotCmpFunc[corbel/lmap.Where] -/
def tab_slices_choosePivotCmpFunc_lmap_Where (N : Nat) (Φ : Calls') : Calls' := fun f => cond (Nat.beq f id_slices_medianAdjacentCmpFunc_lmap_Where) (some (F_slices_medianAdjacentCmpFunc_lmap_Where N Φ)) (cond (Nat.beq f id_slices_medianCmpFunc_lmap_Where) (some (F_slices_medianCmpFunc_lmap_Where N Φ)) (Φ f))
def F_slices_choosePivotCmpFunc_lmap_Where (N : Nat) (Φ : Calls') : List V → M V := fun args =>
 unc args fun a0 args =>
 unc args fun a1 args =>
 unc args fun a2 args =>
 unc args fun a3 args =>
 unn args <|
 optM (binR .sub .o none a2 a1) fun v1 =>
 alM (alR 3 [(.i .i64 0)]) fun v2 =>
 optM (binR .quo .o none v1 (.i .i64 4)) fun v3 =>
 optM (binR .mul .o none v3 (.i .i64 1)) fun v4 =>
 optM (binR .add .o none a1 v4) fun v5 =>
 optM (binR .quo .o none v1 (.i .i64 4)) fun v6 =>
 optM (binR .mul .o none v6 (.i .i64 2)) fun v7 =>
 optM (binR .add .o none a1 v7) fun v8 =>
 optM (binR .quo .o none v1 (.i .i64 4)) fun v9 =>
 optM (binR .mul .o none v9 (.i .i64 3)) fun v10 =>
 optM (binR .add .o none a1 v10) fun v11 =>
 lrM (
 optM (binR .geq .o none v1 (.i .i64 8)) fun v12 =>
 iteM (some v12) (
 lrM (
 optM (binR .geq .o none v1 (.i .i64 50)) fun v13 =>
 iteM (some v13) (
 bindM (F_slices_medianAdjacentCmpFunc_lmap_Where N Φ [a0, v5, v2, a3]) fun v14 =>
 bindM (F_slices_medianAdjacentCmpFunc_lmap_Where N Φ [a0, v8, v2, a3]) fun v15 =>
 bindM (F_slices_medianAdjacentCmpFunc_lmap_Where N Φ [a0, v11, v2, a3]) fun v16 =>
 pureM (.nx [a0, a3, v2, v14, v15, v16])
 ) (
 pureM (.nx [a0, a3, v2, v5, v8, v11])
 )
 )
 (fun vs =>
 unc vs fun v17 vs =>
 unc vs fun v18 vs =>
 unc vs fun v19 vs =>
 unc vs fun v20 vs =>
 unc vs fun v21 vs =>
 unc vs fun v22 vs =>
 unn vs <|
 bindM (F_slices_medianCmpFunc_lmap_Where N Φ [v17, v20, v21, v22, v19, v18]) fun v23 =>
 pureM (.nx [v19, v23])
 )
 (fun id vs =>
 failM)
 (fun vs =>
 unc vs fun v24 vs =>
 unc vs fun v25 vs =>
 unn vs <|
 pureM (.rt [v24, v25])
 )
 ) (
 pureM (.nx [v2, v8])
 )
 )
 (fun vs =>
 unc vs fun v26 vs =>
 unc vs fun v27 vs =>
 unn vs <|
 rdM (ld false 1 v26) fun v28 =>
 optM (binR .eql .o none v28 (.i .i64 0)) fun v29 =>
 iteM (some v29) (
 pureM (.t [v27, (.i .i64 1)])
 ) (
 optM (binR .eql .o none v28 (.i .i64 12)) fun v30 =>
 iteM (some v30) (
 pureM (.t [v27, (.i .i64 2)])
 ) (
 pureM (.t [v27, (.i .i64 0)])
 )
 )
 )
 (fun id vs =>
 failM)
 (fun vs =>
 unc vs fun v31 vs =>
 unc vs fun v32 vs =>
 unn vs <|
 pureM (.t [v31, v32])
 )
def an_slices_choosePivotCmpFunc_lmap_Where : An := (.two .n (.two .n (.two .n (.two .n (.two .n (.two .n (.two (.cut [11, 13] [] [8, 9] (.two .n (.two (.two (.cut [0, 3, 11, 12, 13, 14] [] [8, 9] (.two .n (.two (.two .n (.two .n .n)) .n))) .n) .n))) (.two .n (.one (.two .n (.two (.two .n .n) (.two .n (.two (.two .n .n) (.two .n .n))))))))))))))

/-- slices.reverseRangeCmpFunc[corbel/lmap.Where] -/
def tab_slices_reverseRangeCmpFunc_lmap_Where (N : Nat) (Φ : Calls') : Calls' := fun f => Φ f
def F_slices_reverseRangeCmpFunc_lmap_Where (N : Nat) (Φ : Calls') : List V → M V := fun args =>
 unc args fun a0 args =>
 unc args fun a1 args =>
 unc args fun a2 args =>
 unc args fun a3 args =>
 unn args <|
 optM (binR .sub .o none a2 (.i .i64 1)) fun v1 =>
 lrM (
 loopM N (fun vs =>
 unc vs fun v2 vs =>
 unc vs fun v3 vs =>
 unc vs fun v4 vs =>
 unn vs <|
 optM (binR .lss .o none v3 v4) fun v5 =>
 iteM (some v5) (
 optM (iaL 3 v2 v4) fun v6 =>
 rdM (ld true 3 v6) fun v7 =>
 optM (iaL 3 v2 v3) fun v8 =>
 rdM (ld true 3 v8) fun v9 =>
 optM (iaL 3 v2 v3) fun v10 =>
 bindM (stR 3 v10 v7) fun v11 =>
 optM (iaL 3 v2 v4) fun v12 =>
 bindM (stR 3 v12 v9) fun v13 =>
 optM (binR .add .o none v3 (.i .i64 1)) fun v14 =>
 optM (binR .sub .o none v4 (.i .i64 1)) fun v15 =>
 pureM (.nx [v2, v14, v15])
 ) (
 pureM (.ex 0 [])
 )
 ) [a0, a1, v1])
 (fun vs =>
 failM)
 (fun id vs =>
 cond (Nat.beq id 0) (
 unn vs <|
 pureM (.t [])
 ) <|
 failM)
 (fun vs =>
 unn vs <|
 pureM (.t [])
 )
def an_slices_reverseRangeCmpFunc_lmap_Where : An := (.two .n (.two .n (.one (.loop [0, 8, 9] [(0, [])] [] (.two (.two .n (.two .n .n)) (.one (.two .n (.two .n .n))))))))

/-- slices.partialInsertionSortCmpFunc[corbel/lmap.Where] -/
def tab_slices_partialInsertionSortCmpFunc_lmap_Where (N : Nat) (Φ : Calls') : Calls' := fun f => Φ f
def F_slices_partialInsertionSortCmpFunc_lmap_Where (N : Nat) (Φ : Calls') : List V → M V := fun args =>
 unc args fun a0 args =>
 unc args fun a1 args =>
 unc args fun a2 args =>
 unc args fun a3 args =>
 unn args <|
 optM (binR .add .o none a1 (.i .i64 1)) fun v1 =>
 lrM (
 loopM N (fun vs =>
 unc vs fun v2 vs =>
 unc vs fun v3 vs =>
 unc vs fun v4 vs =>
 unc vs fun v5 vs =>
 unc vs fun v6 vs =>
 unc vs fun v7 vs =>
 unn vs <|
 optM (binR .lss .o none v7 (.i .i64 5)) fun v8 =>
 iteM (some v8) (
 lrM (
 lrM (
 loopM N (fun vs =>
 unc vs fun v9 vs =>
 unc vs fun v10 vs =>
 unc vs fun v11 vs =>
 unc vs fun v12 vs =>
 unc vs fun v13 vs =>
 unc vs fun v14 vs =>
 unn vs <|
 optM (binR .lss .o none v13 v11) fun v15 =>
 bindM (gdM (boolV (some v15)) true (pM (some v12))) fun v16 =>
 bindM (gdM (boolV (some v15)) true (pM (some v9))) fun v17 =>
 bindM (gdM (boolV (some v15)) true (pM (some v13))) fun v18 =>
 bindM (gdM (boolV (some v15)) true (pM (iaL 3 v17 v18))) fun v19 =>
 bindM (gdM (boolV (some v15)) true (rM (ld true 3 v19))) fun v20 =>
 bindM (gdM (boolV (some v15)) true (pM (some v9))) fun v21 =>
 bindM (gdM (boolV (some v15)) true (pM (some v13))) fun v22 =>
 bindM (gdM (boolV (some v15)) true (pM (binR .sub .o none v22 (.i .i64 1)))) fun v23 =>
 bindM (gdM (boolV (some v15)) true (pM (iaL 3 v21 v23))) fun v24 =>
 bindM (gdM (boolV (some v15)) true (rM (ld true 3 v24))) fun v25 =>
 bindM (gdM (boolV (some v15)) true (callF (tab_slices_partialInsertionSortCmpFunc_lmap_Where N Φ) v16 [v20, v25])) fun v26 =>
 bindM (gdM (boolV (some v15)) true (pM (binR .lss .o none v26 (.i .i64 0)))) fun v27 =>
 bindM (gdM (boolV (some v15)) true (pM (unV .not v27))) fun v28 =>
 optM (pickR v15 v28 (.b false)) fun v29 =>
 iteM (some v29) (
 optM (binR .add .o none v13 (.i .i64 1)) fun v30 =>
 pureM (.nx [v9, v10, v11, v12, v30, v14])
 ) (
 pureM (.ex 2 [v9, v10, v11, v12, v13, v14])
 )
 ) [v2, v3, v4, v5, v6, v7])
 (fun vs =>
 failM)
 (fun id vs =>
 cond (Nat.beq id 2) (
 unc vs fun v31 vs =>
 unc vs fun v32 vs =>
 unc vs fun v33 vs =>
 unc vs fun v34 vs =>
 unc vs fun v35 vs =>
 unc vs fun v36 vs =>
 unn vs <|
 optM (binR .eql .o none v35 v33) fun v37 =>
 iteM (some v37) (
 pureM (.rt [(.b true)])
 ) (
 optM (binR .sub .o none v33 v32) fun v38 =>
 optM (binR .lss .o none v38 (.i .i64 50)) fun v39 =>
 iteM (some v39) (
 pureM (.rt [(.b false)])
 ) (
 optM (binR .sub .o none v35 (.i .i64 1)) fun v40 =>
 optM (binR .sub .o none v35 (.i .i64 1)) fun v41 =>
 optM (iaL 3 v31 v41) fun v42 =>
 rdM (ld true 3 v42) fun v43 =>
 optM (iaL 3 v31 v35) fun v44 =>
 rdM (ld true 3 v44) fun v45 =>
 optM (iaL 3 v31 v35) fun v46 =>
 bindM (stR 3 v46 v43) fun v47 =>
 optM (iaL 3 v31 v40) fun v48 =>
 bindM (stR 3 v48 v45) fun v49 =>
 lrM (
 optM (binR .sub .o none v35 v32) fun v50 =>
 optM (binR .geq .o none v50 (.i .i64 2)) fun v51 =>
 iteM (some v51) (
 optM (binR .sub .o none v35 (.i .i64 1)) fun v52 =>
 lrM (
 loopM N (fun vs =>
 unc vs fun v53 vs =>
 unc vs fun v54 vs =>
 unc vs fun v55 vs =>
 unc vs fun v56 vs =>
 unc vs fun v57 vs =>
 unc vs fun v58 vs =>
 unc vs fun v59 vs =>
 unn vs <|
 optM (binR .geq .o none v59 (.i .i64 1)) fun v60 =>
 iteM (some v60) (
 optM (iaL 3 v53 v59) fun v61 =>
 rdM (ld true 3 v61) fun v62 =>
 optM (binR .sub .o none v59 (.i .i64 1)) fun v63 =>
 optM (iaL 3 v53 v63) fun v64 =>
 rdM (ld true 3 v64) fun v65 =>
 bindM (callF (tab_slices_partialInsertionSortCmpFunc_lmap_Where N Φ) v56 [v62, v65]) fun v66 =>
 optM (binR .lss .o none v66 (.i .i64 0)) fun v67 =>
 optM (unV .not v67) fun v68 =>
 iteM (some v68) (
 pureM (.ex 4 [v53, v54, v55, v56, v57, v58])
 ) (
 optM (binR .sub .o none v59 (.i .i64 1)) fun v69 =>
 optM (binR .sub .o none v59 (.i .i64 1)) fun v70 =>
 optM (iaL 3 v53 v70) fun v71 =>
 rdM (ld true 3 v71) fun v72 =>
 optM (iaL 3 v53 v59) fun v73 =>
 rdM (ld true 3 v73) fun v74 =>
 optM (iaL 3 v53 v59) fun v75 =>
 bindM (stR 3 v75 v72) fun v76 =>
 optM (iaL 3 v53 v69) fun v77 =>
 bindM (stR 3 v77 v74) fun v78 =>
 optM (binR .sub .o none v59 (.i .i64 1)) fun v79 =>
 pureM (.nx [v53, v54, v55, v56, v57, v58, v79])
 )
 ) (
 pureM (.ex 4 [v53, v54, v55, v56, v57, v58])
 )
 ) [v31, v32, v33, v34, v35, v36, v52])
 (fun vs =>
 failM)
 (fun id vs =>
 cond (Nat.beq id 4) (
 unc vs fun v80 vs =>
 unc vs fun v81 vs =>
 unc vs fun v82 vs =>
 unc vs fun v83 vs =>
 unc vs fun v84 vs =>
 unc vs fun v85 vs =>
 unn vs <|
 pureM (.nx [v80, v81, v82, v83, v84, v85])
 ) <|
 failM)
 (fun vs =>
 unc vs fun v86 vs =>
 unn vs <|
 pureM (.rt [v86])
 )
 ) (
 pureM (.nx [v31, v32, v33, v34, v35, v36])
 )
 )
 (fun vs =>
 unc vs fun v87 vs =>
 unc vs fun v88 vs =>
 unc vs fun v89 vs =>
 unc vs fun v90 vs =>
 unc vs fun v91 vs =>
 unc vs fun v92 vs =>
 unn vs <|
 optM (binR .sub .o none v89 v91) fun v93 =>
 optM (binR .geq .o none v93 (.i .i64 2)) fun v94 =>
 iteM (some v94) (
 optM (binR .add .o none v91 (.i .i64 1)) fun v95 =>
 lrM (
 loopM N (fun vs =>
 unc vs fun v96 vs =>
 unc vs fun v97 vs =>
 unc vs fun v98 vs =>
 unc vs fun v99 vs =>
 unc vs fun v100 vs =>
 unc vs fun v101 vs =>
 unc vs fun v102 vs =>
 unn vs <|
 optM (binR .lss .o none v102 v98) fun v103 =>
 iteM (some v103) (
 optM (iaL 3 v96 v102) fun v104 =>
 rdM (ld true 3 v104) fun v105 =>
 optM (binR .sub .o none v102 (.i .i64 1)) fun v106 =>
 optM (iaL 3 v96 v106) fun v107 =>
 rdM (ld true 3 v107) fun v108 =>
 bindM (callF (tab_slices_partialInsertionSortCmpFunc_lmap_Where N Φ) v99 [v105, v108]) fun v109 =>
 optM (binR .lss .o none v109 (.i .i64 0)) fun v110 =>
 optM (unV .not v110) fun v111 =>
 iteM (some v111) (
 pureM (.ex 6 [v96, v97, v98, v99, v100, v101])
 ) (
 optM (binR .sub .o none v102 (.i .i64 1)) fun v112 =>
 optM (binR .sub .o none v102 (.i .i64 1)) fun v113 =>
 optM (iaL 3 v96 v113) fun v114 =>
 rdM (ld true 3 v114) fun v115 =>
 optM (iaL 3 v96 v102) fun v116 =>
 rdM (ld true 3 v116) fun v117 =>
 optM (iaL 3 v96 v102) fun v118 =>
 bindM (stR 3 v118 v115) fun v119 =>
 optM (iaL 3 v96 v112) fun v120 =>
 bindM (stR 3 v120 v117) fun v121 =>
 optM (binR .add .o none v102 (.i .i64 1)) fun v122 =>
 pureM (.nx [v96, v97, v98, v99, v100, v101, v122])
 )
 ) (
 pureM (.ex 6 [v96, v97, v98, v99, v100, v101])
 )
 ) [v87, v88, v89, v90, v91, v92, v95])
 (fun vs =>
 failM)
 (fun id vs =>
 cond (Nat.beq id 6) (
 unc vs fun v123 vs =>
 unc vs fun v124 vs =>
 unc vs fun v125 vs =>
 unc vs fun v126 vs =>
 unc vs fun v127 vs =>
 unc vs fun v128 vs =>
 unn vs <|
 pureM (.nx [v123, v124, v125, v126, v127, v128])
 ) <|
 failM)
 (fun vs =>
 unc vs fun v129 vs =>
 unn vs <|
 pureM (.rt [v129])
 )
 ) (
 pureM (.nx [v87, v88, v89, v90, v91, v92])
 )
 )
 (fun id vs =>
 failM)
 (fun vs =>
 unc vs fun v130 vs =>
 unn vs <|
 pureM (.rt [v130])
 )
 )
 )
 ) <|
 failM)
 (fun vs =>
 unc vs fun v131 vs =>
 unn vs <|
 pureM (.rt [v131])
 )
 )
 (fun vs =>
 unc vs fun v132 vs =>
 unc vs fun v133 vs =>
 unc vs fun v134 vs =>
 unc vs fun v135 vs =>
 unc vs fun v136 vs =>
 unc vs fun v137 vs =>
 unn vs <|
 optM (binR .add .o none v137 (.i .i64 1)) fun v138 =>
 pureM (.nx [v132, v133, v134, v135, v136, v138])
 )
 (fun id vs =>
 failM)
 (fun vs =>
 unc vs fun v139 vs =>
 unn vs <|
 pureM (.rt [v139])
 )
 ) (
 pureM (.ex 0 [])
 )
 ) [a0, a1, a2, a3, v1, (.i .i64 0)])
 (fun vs =>
 failM)
 (fun id vs =>
 cond (Nat.beq id 0) (
 unn vs <|
 pureM (.b false)
 ) <|
 failM)
 (fun vs =>
 unc vs fun v140 vs =>
 unn vs <|
 pureM v140
 )
def an_slices_partialInsertionSortCmpFunc_lmap_Where : An := (.two .n (.two .n (.two (.two .n (.one (.loop [0, 1, 2, 3, 9, 10] [(0, [])] [8] (.two (.two .n (.two .n .n)) (.two (.cut [0, 1, 2, 3, 9, 10] [] [8] (.one (.two (.one (.loop [0, 1, 2, 3, 9, 10] [(2, [0, 1, 2, 3, 9, 10])] [8] (.two (.two .n (.two .n .n)) (.one .n)))) (.two (.two .n (.two (.two .n .n) .n)) (.two (.two .n (.two (.two .n .n) .n)) (.two .n (.two (.cut [0, 1, 2, 3, 9, 10] [] [8] (.two .n (.two (.two .n (.one (.loop [0, 1, 2, 3, 9, 10, 11] [(4, [0, 1, 2, 3, 9, 10])] [8] (.two (.two .n (.two .n .n)) (.two (.one (.two (.two .n (.two .n .n)) .n)) .n))))) .n))) (.two .n (.two (.two .n (.one (.loop [0, 1, 2, 3, 9, 10, 12] [(6, [0, 1, 2, 3, 9, 10])] [8] (.two (.two .n (.two .n .n)) (.two (.one (.two (.two .n (.two .n .n)) .n)) .n))))) .n))))))))) .n))))) (.two .n .n))))

/-- slices.partitionEqualCmpFunc[corbel/lmap.Where] -/
def tab_slices_partitionEqualCmpFunc_lmap_Where (N : Nat) (Φ : Calls') : Calls' := fun f => Φ f
def F_slices_partitionEqualCmpFunc_lmap_Where (N : Nat) (Φ : Calls') : List V → M V := fun args =>
 unc args fun a0 args =>
 unc args fun a1 args =>
 unc args fun a2 args =>
 unc args fun a3 args =>
 unc args fun a4 args =>
 unn args <|
 optM (iaL 3 a0 a3) fun v1 =>
 rdM (ld true 3 v1) fun v2 =>
 optM (iaL 3 a0 a1) fun v3 =>
 rdM (ld true 3 v3) fun v4 =>
 optM (iaL 3 a0 a1) fun v5 =>
 bindM (stR 3 v5 v2) fun v6 =>
 optM (iaL 3 a0 a3) fun v7 =>
 bindM (stR 3 v7 v4) fun v8 =>
 optM (binR .add .o none a1 (.i .i64 1)) fun v9 =>
 optM (binR .sub .o none a2 (.i .i64 1)) fun v10 =>
 lrM (
 loopM N (fun vs =>
 unc vs fun v11 vs =>
 unc vs fun v12 vs =>
 unc vs fun v13 vs =>
 unc vs fun v14 vs =>
 unc vs fun v15 vs =>
 unn vs <|
 lrM (
 loopM N (fun vs =>
 unc vs fun v16 vs =>
 unc vs fun v17 vs =>
 unc vs fun v18 vs =>
 unc vs fun v19 vs =>
 unc vs fun v20 vs =>
 unn vs <|
 optM (binR .leq .o none v19 v20) fun v21 =>
 bindM (gdM (boolV (some v21)) true (pM (some v18))) fun v22 =>
 bindM (gdM (boolV (some v21)) true (pM (some v16))) fun v23 =>
 bindM (gdM (boolV (some v21)) true (pM (some v17))) fun v24 =>
 bindM (gdM (boolV (some v21)) true (pM (iaL 3 v23 v24))) fun v25 =>
 bindM (gdM (boolV (some v21)) true (rM (ld true 3 v25))) fun v26 =>
 bindM (gdM (boolV (some v21)) true (pM (some v16))) fun v27 =>
 bindM (gdM (boolV (some v21)) true (pM (some v19))) fun v28 =>
 bindM (gdM (boolV (some v21)) true (pM (iaL 3 v27 v28))) fun v29 =>
 bindM (gdM (boolV (some v21)) true (rM (ld true 3 v29))) fun v30 =>
 bindM (gdM (boolV (some v21)) true (callF (tab_slices_partitionEqualCmpFunc_lmap_Where N Φ) v22 [v26, v30])) fun v31 =>
 bindM (gdM (boolV (some v21)) true (pM (binR .lss .o none v31 (.i .i64 0)))) fun v32 =>
 bindM (gdM (boolV (some v21)) true (pM (unV .not v32))) fun v33 =>
 optM (pickR v21 v33 (.b false)) fun v34 =>
 iteM (some v34) (
 optM (binR .add .o none v19 (.i .i64 1)) fun v35 =>
 pureM (.nx [v16, v17, v18, v35, v20])
 ) (
 pureM (.ex 2 [v16, v17, v18, v19, v20])
 )
 ) [v11, v12, v13, v14, v15])
 (fun vs =>
 failM)
 (fun id vs =>
 cond (Nat.beq id 2) (
 unc vs fun v36 vs =>
 unc vs fun v37 vs =>
 unc vs fun v38 vs =>
 unc vs fun v39 vs =>
 unc vs fun v40 vs =>
 unn vs <|
 lrM (
 loopM N (fun vs =>
 unc vs fun v41 vs =>
 unc vs fun v42 vs =>
 unc vs fun v43 vs =>
 unc vs fun v44 vs =>
 unc vs fun v45 vs =>
 unn vs <|
 optM (binR .leq .o none v44 v45) fun v46 =>
 bindM (gdM (boolV (some v46)) true (pM (some v43))) fun v47 =>
 bindM (gdM (boolV (some v46)) true (pM (some v41))) fun v48 =>
 bindM (gdM (boolV (some v46)) true (pM (some v42))) fun v49 =>
 bindM (gdM (boolV (some v46)) true (pM (iaL 3 v48 v49))) fun v50 =>
 bindM (gdM (boolV (some v46)) true (rM (ld true 3 v50))) fun v51 =>
 bindM (gdM (boolV (some v46)) true (pM (some v41))) fun v52 =>
 bindM (gdM (boolV (some v46)) true (pM (some v45))) fun v53 =>
 bindM (gdM (boolV (some v46)) true (pM (iaL 3 v52 v53))) fun v54 =>
 bindM (gdM (boolV (some v46)) true (rM (ld true 3 v54))) fun v55 =>
 bindM (gdM (boolV (some v46)) true (callF (tab_slices_partitionEqualCmpFunc_lmap_Where N Φ) v47 [v51, v55])) fun v56 =>
 bindM (gdM (boolV (some v46)) true (pM (binR .lss .o none v56 (.i .i64 0)))) fun v57 =>
 optM (pickR v46 v57 (.b false)) fun v58 =>
 iteM (some v58) (
 optM (binR .sub .o none v45 (.i .i64 1)) fun v59 =>
 pureM (.nx [v41, v42, v43, v44, v59])
 ) (
 pureM (.ex 4 [v41, v42, v43, v44, v45])
 )
 ) [v36, v37, v38, v39, v40])
 (fun vs =>
 failM)
 (fun id vs =>
 cond (Nat.beq id 4) (
 unc vs fun v60 vs =>
 unc vs fun v61 vs =>
 unc vs fun v62 vs =>
 unc vs fun v63 vs =>
 unc vs fun v64 vs =>
 unn vs <|
 optM (binR .gtr .o none v63 v64) fun v65 =>
 iteM (some v65) (
 pureM (.ex 0 [v63])
 ) (
 optM (iaL 3 v60 v64) fun v66 =>
 rdM (ld true 3 v66) fun v67 =>
 optM (iaL 3 v60 v63) fun v68 =>
 rdM (ld true 3 v68) fun v69 =>
 optM (iaL 3 v60 v63) fun v70 =>
 bindM (stR 3 v70 v67) fun v71 =>
 optM (iaL 3 v60 v64) fun v72 =>
 bindM (stR 3 v72 v69) fun v73 =>
 optM (binR .add .o none v63 (.i .i64 1)) fun v74 =>
 optM (binR .sub .o none v64 (.i .i64 1)) fun v75 =>
 pureM (.nx [v60, v61, v62, v74, v75])
 )
 ) <|
 failM)
 (fun vs =>
 unc vs fun v76 vs =>
 unn vs <|
 pureM (.rt [v76])
 )
 ) <|
 failM)
 (fun vs =>
 unc vs fun v77 vs =>
 unn vs <|
 pureM (.rt [v77])
 )
 ) [a0, a1, a4, v9, v10])
 (fun vs =>
 failM)
 (fun id vs =>
 cond (Nat.beq id 0) (
 unc vs fun v78 vs =>
 unn vs <|
 pureM v78
 ) <|
 failM)
 (fun vs =>
 unc vs fun v79 vs =>
 unn vs <|
 pureM v79
 )
def an_slices_partitionEqualCmpFunc_lmap_Where : An := (.two .n (.two .n (.two .n (.two (.one (.loop [0, 1, 4, 11, 12] [(0, [11])] [10] (.one (.two (.one (.loop [0, 1, 4, 11, 12] [(2, [0, 1, 4, 11, 12])] [10] (.two (.two .n (.two .n .n)) (.one .n)))) (.two (.one (.loop [0, 1, 4, 11, 12] [(4, [0, 1, 4, 11, 12])] [10] (.two (.two .n (.two .n .n)) (.one .n)))) (.two (.two .n (.two .n .n)) (.two .n (.two .n .n)))))))) (.two .n .n)))))

/-- slices.partitionCmpFunc[corbel/lmap.Where] -/
def tab_slices_partitionCmpFunc_lmap_Where (N : Nat) (Φ : Calls') : Calls' := fun f => Φ f
def F_slices_partitionCmpFunc_lmap_Where (N : Nat) (Φ : Calls') : List V → M V := fun args =>
 unc args fun a0 args =>
 unc args fun a1 args =>
 unc args fun a2 args =>
 unc args fun a3 args =>
 unc args fun a4 args =>
 unn args <|
 optM (iaL 3 a0 a3) fun v1 =>
 rdM (ld true 3 v1) fun v2 =>
 optM (iaL 3 a0 a1) fun v3 =>
 rdM (ld true 3 v3) fun v4 =>
 optM (iaL 3 a0 a1) fun v5 =>
 bindM (stR 3 v5 v2) fun v6 =>
 optM (iaL 3 a0 a3) fun v7 =>
 bindM (stR 3 v7 v4) fun v8 =>
 optM (binR .add .o none a1 (.i .i64 1)) fun v9 =>
 optM (binR .sub .o none a2 (.i .i64 1)) fun v10 =>
 lrM (
 loopM N (fun vs =>
 unc vs fun v11 vs =>
 unc vs fun v12 vs =>
 unc vs fun v13 vs =>
 unc vs fun v14 vs =>
 unc vs fun v15 vs =>
 unn vs <|
 optM (binR .leq .o none v14 v15) fun v16 =>
 bindM (gdM (boolV (some v16)) true (pM (some v13))) fun v17 =>
 bindM (gdM (boolV (some v16)) true (pM (some v11))) fun v18 =>
 bindM (gdM (boolV (some v16)) true (pM (some v14))) fun v19 =>
 bindM (gdM (boolV (some v16)) true (pM (iaL 3 v18 v19))) fun v20 =>
 bindM (gdM (boolV (some v16)) true (rM (ld true 3 v20))) fun v21 =>
 bindM (gdM (boolV (some v16)) true (pM (some v11))) fun v22 =>
 bindM (gdM (boolV (some v16)) true (pM (some v12))) fun v23 =>
 bindM (gdM (boolV (some v16)) true (pM (iaL 3 v22 v23))) fun v24 =>
 bindM (gdM (boolV (some v16)) true (rM (ld true 3 v24))) fun v25 =>
 bindM (gdM (boolV (some v16)) true (callF (tab_slices_partitionCmpFunc_lmap_Where N Φ) v17 [v21, v25])) fun v26 =>
 bindM (gdM (boolV (some v16)) true (pM (binR .lss .o none v26 (.i .i64 0)))) fun v27 =>
 optM (pickR v16 v27 (.b false)) fun v28 =>
 iteM (some v28) (
 optM (binR .add .o none v14 (.i .i64 1)) fun v29 =>
 pureM (.nx [v11, v12, v13, v29, v15])
 ) (
 pureM (.ex 0 [v11, v12, v13, v14, v15])
 )
 ) [a0, a1, a4, v9, v10])
 (fun vs =>
 failM)
 (fun id vs =>
 cond (Nat.beq id 0) (
 unc vs fun v30 vs =>
 unc vs fun v31 vs =>
 unc vs fun v32 vs =>
 unc vs fun v33 vs =>
 unc vs fun v34 vs =>
 unn vs <|
 lrM (
 loopM N (fun vs =>
 unc vs fun v35 vs =>
 unc vs fun v36 vs =>
 unc vs fun v37 vs =>
 unc vs fun v38 vs =>
 unc vs fun v39 vs =>
 unn vs <|
 optM (binR .leq .o none v38 v39) fun v40 =>
 bindM (gdM (boolV (some v40)) true (pM (some v37))) fun v41 =>
 bindM (gdM (boolV (some v40)) true (pM (some v35))) fun v42 =>
 bindM (gdM (boolV (some v40)) true (pM (some v39))) fun v43 =>
 bindM (gdM (boolV (some v40)) true (pM (iaL 3 v42 v43))) fun v44 =>
 bindM (gdM (boolV (some v40)) true (rM (ld true 3 v44))) fun v45 =>
 bindM (gdM (boolV (some v40)) true (pM (some v35))) fun v46 =>
 bindM (gdM (boolV (some v40)) true (pM (some v36))) fun v47 =>
 bindM (gdM (boolV (some v40)) true (pM (iaL 3 v46 v47))) fun v48 =>
 bindM (gdM (boolV (some v40)) true (rM (ld true 3 v48))) fun v49 =>
 bindM (gdM (boolV (some v40)) true (callF (tab_slices_partitionCmpFunc_lmap_Where N Φ) v41 [v45, v49])) fun v50 =>
 bindM (gdM (boolV (some v40)) true (pM (binR .lss .o none v50 (.i .i64 0)))) fun v51 =>
 bindM (gdM (boolV (some v40)) true (pM (unV .not v51))) fun v52 =>
 optM (pickR v40 v52 (.b false)) fun v53 =>
 iteM (some v53) (
 optM (binR .sub .o none v39 (.i .i64 1)) fun v54 =>
 pureM (.nx [v35, v36, v37, v38, v54])
 ) (
 pureM (.ex 2 [v35, v36, v37, v38, v39])
 )
 ) [v30, v31, v32, v33, v34])
 (fun vs =>
 failM)
 (fun id vs =>
 cond (Nat.beq id 2) (
 unc vs fun v55 vs =>
 unc vs fun v56 vs =>
 unc vs fun v57 vs =>
 unc vs fun v58 vs =>
 unc vs fun v59 vs =>
 unn vs <|
 optM (binR .gtr .o none v58 v59) fun v60 =>
 iteM (some v60) (
 optM (iaL 3 v55 v56) fun v61 =>
 rdM (ld true 3 v61) fun v62 =>
 optM (iaL 3 v55 v59) fun v63 =>
 rdM (ld true 3 v63) fun v64 =>
 optM (iaL 3 v55 v59) fun v65 =>
 bindM (stR 3 v65 v62) fun v66 =>
 optM (iaL 3 v55 v56) fun v67 =>
 bindM (stR 3 v67 v64) fun v68 =>
 pureM (.t [v59, (.b true)])
 ) (
 optM (iaL 3 v55 v59) fun v69 =>
 rdM (ld true 3 v69) fun v70 =>
 optM (iaL 3 v55 v58) fun v71 =>
 rdM (ld true 3 v71) fun v72 =>
 optM (iaL 3 v55 v58) fun v73 =>
 bindM (stR 3 v73 v70) fun v74 =>
 optM (iaL 3 v55 v59) fun v75 =>
 bindM (stR 3 v75 v72) fun v76 =>
 optM (binR .add .o none v58 (.i .i64 1)) fun v77 =>
 optM (binR .sub .o none v59 (.i .i64 1)) fun v78 =>
 lrM (
 loopM N (fun vs =>
 unc vs fun v79 vs =>
 unc vs fun v80 vs =>
 unc vs fun v81 vs =>
 unc vs fun v82 vs =>
 unc vs fun v83 vs =>
 unn vs <|
 lrM (
 loopM N (fun vs =>
 unc vs fun v84 vs =>
 unc vs fun v85 vs =>
 unc vs fun v86 vs =>
 unc vs fun v87 vs =>
 unc vs fun v88 vs =>
 unn vs <|
 optM (binR .leq .o none v87 v88) fun v89 =>
 bindM (gdM (boolV (some v89)) true (pM (some v86))) fun v90 =>
 bindM (gdM (boolV (some v89)) true (pM (some v84))) fun v91 =>
 bindM (gdM (boolV (some v89)) true (pM (some v87))) fun v92 =>
 bindM (gdM (boolV (some v89)) true (pM (iaL 3 v91 v92))) fun v93 =>
 bindM (gdM (boolV (some v89)) true (rM (ld true 3 v93))) fun v94 =>
 bindM (gdM (boolV (some v89)) true (pM (some v84))) fun v95 =>
 bindM (gdM (boolV (some v89)) true (pM (some v85))) fun v96 =>
 bindM (gdM (boolV (some v89)) true (pM (iaL 3 v95 v96))) fun v97 =>
 bindM (gdM (boolV (some v89)) true (rM (ld true 3 v97))) fun v98 =>
 bindM (gdM (boolV (some v89)) true (callF (tab_slices_partitionCmpFunc_lmap_Where N Φ) v90 [v94, v98])) fun v99 =>
 bindM (gdM (boolV (some v89)) true (pM (binR .lss .o none v99 (.i .i64 0)))) fun v100 =>
 optM (pickR v89 v100 (.b false)) fun v101 =>
 iteM (some v101) (
 optM (binR .add .o none v87 (.i .i64 1)) fun v102 =>
 pureM (.nx [v84, v85, v86, v102, v88])
 ) (
 pureM (.ex 6 [v84, v85, v86, v87, v88])
 )
 ) [v79, v80, v81, v82, v83])
 (fun vs =>
 failM)
 (fun id vs =>
 cond (Nat.beq id 6) (
 unc vs fun v103 vs =>
 unc vs fun v104 vs =>
 unc vs fun v105 vs =>
 unc vs fun v106 vs =>
 unc vs fun v107 vs =>
 unn vs <|
 lrM (
 loopM N (fun vs =>
 unc vs fun v108 vs =>
 unc vs fun v109 vs =>
 unc vs fun v110 vs =>
 unc vs fun v111 vs =>
 unc vs fun v112 vs =>
 unn vs <|
 optM (binR .leq .o none v111 v112) fun v113 =>
 bindM (gdM (boolV (some v113)) true (pM (some v110))) fun v114 =>
 bindM (gdM (boolV (some v113)) true (pM (some v108))) fun v115 =>
 bindM (gdM (boolV (some v113)) true (pM (some v112))) fun v116 =>
 bindM (gdM (boolV (some v113)) true (pM (iaL 3 v115 v116))) fun v117 =>
 bindM (gdM (boolV (some v113)) true (rM (ld true 3 v117))) fun v118 =>
 bindM (gdM (boolV (some v113)) true (pM (some v108))) fun v119 =>
 bindM (gdM (boolV (some v113)) true (pM (some v109))) fun v120 =>
 bindM (gdM (boolV (some v113)) true (pM (iaL 3 v119 v120))) fun v121 =>
 bindM (gdM (boolV (some v113)) true (rM (ld true 3 v121))) fun v122 =>
 bindM (gdM (boolV (some v113)) true (callF (tab_slices_partitionCmpFunc_lmap_Where N Φ) v114 [v118, v122])) fun v123 =>
 bindM (gdM (boolV (some v113)) true (pM (binR .lss .o none v123 (.i .i64 0)))) fun v124 =>
 bindM (gdM (boolV (some v113)) true (pM (unV .not v124))) fun v125 =>
 optM (pickR v113 v125 (.b false)) fun v126 =>
 iteM (some v126) (
 optM (binR .sub .o none v112 (.i .i64 1)) fun v127 =>
 pureM (.nx [v108, v109, v110, v111, v127])
 ) (
 pureM (.ex 8 [v108, v109, v110, v111, v112])
 )
 ) [v103, v104, v105, v106, v107])
 (fun vs =>
 failM)
 (fun id vs =>
 cond (Nat.beq id 8) (
 unc vs fun v128 vs =>
 unc vs fun v129 vs =>
 unc vs fun v130 vs =>
 unc vs fun v131 vs =>
 unc vs fun v132 vs =>
 unn vs <|
 optM (binR .gtr .o none v131 v132) fun v133 =>
 iteM (some v133) (
 pureM (.ex 4 [v128, v129, v132])
 ) (
 optM (iaL 3 v128 v132) fun v134 =>
 rdM (ld true 3 v134) fun v135 =>
 optM (iaL 3 v128 v131) fun v136 =>
 rdM (ld true 3 v136) fun v137 =>
 optM (iaL 3 v128 v131) fun v138 =>
 bindM (stR 3 v138 v135) fun v139 =>
 optM (iaL 3 v128 v132) fun v140 =>
 bindM (stR 3 v140 v137) fun v141 =>
 optM (binR .add .o none v131 (.i .i64 1)) fun v142 =>
 optM (binR .sub .o none v132 (.i .i64 1)) fun v143 =>
 pureM (.nx [v128, v129, v130, v142, v143])
 )
 ) <|
 failM)
 (fun vs =>
 unc vs fun v144 vs =>
 unc vs fun v145 vs =>
 unn vs <|
 pureM (.rt [v144, v145])
 )
 ) <|
 failM)
 (fun vs =>
 unc vs fun v146 vs =>
 unc vs fun v147 vs =>
 unn vs <|
 pureM (.rt [v146, v147])
 )
 ) [v55, v56, v57, v77, v78])
 (fun vs =>
 failM)
 (fun id vs =>
 cond (Nat.beq id 4) (
 unc vs fun v148 vs =>
 unc vs fun v149 vs =>
 unc vs fun v150 vs =>
 unn vs <|
 optM (iaL 3 v148 v149) fun v151 =>
 rdM (ld true 3 v151) fun v152 =>
 optM (iaL 3 v148 v150) fun v153 =>
 rdM (ld true 3 v153) fun v154 =>
 optM (iaL 3 v148 v150) fun v155 =>
 bindM (stR 3 v155 v152) fun v156 =>
 optM (iaL 3 v148 v149) fun v157 =>
 bindM (stR 3 v157 v154) fun v158 =>
 pureM (.t [v150, (.b false)])
 ) <|
 failM)
 (fun vs =>
 unc vs fun v159 vs =>
 unc vs fun v160 vs =>
 unn vs <|
 pureM (.t [v159, v160])
 )
 )
 ) <|
 failM)
 (fun vs =>
 unc vs fun v161 vs =>
 unc vs fun v162 vs =>
 unn vs <|
 pureM (.t [v161, v162])
 )
 ) <|
 failM)
 (fun vs =>
 unc vs fun v163 vs =>
 unc vs fun v164 vs =>
 unn vs <|
 pureM (.t [v163, v164])
 )
def an_slices_partitionCmpFunc_lmap_Where : An := (.two .n (.two .n (.two .n (.two (.one (.loop [0, 1, 4, 12, 13] [(0, [0, 1, 4, 12, 13])] [10, 11] (.two (.two .n (.two .n .n)) (.one .n)))) (.two (.one (.loop [0, 1, 4, 12, 13] [(2, [0, 1, 4, 12, 13])] [10, 11] (.two (.two .n (.two .n .n)) (.one .n)))) (.two (.two .n (.two (.two .n (.two .n .n)) .n)) (.two .n (.two .n (.two .n (.two (.one (.loop [0, 1, 4, 12, 13] [(4, [0, 1, 13])] [10, 11] (.one (.two (.one (.loop [0, 1, 4, 12, 13] [(6, [0, 1, 4, 12, 13])] [10, 11] (.two (.two .n (.two .n .n)) (.one .n)))) (.two (.one (.loop [0, 1, 4, 12, 13] [(8, [0, 1, 4, 12, 13])] [10, 11] (.two (.two .n (.two .n .n)) (.one .n)))) (.two (.two .n (.two .n .n)) (.two .n (.two .n .n)))))))) (.two .n (.two .n .n))))))))))))

/-- slices.pdqsortCmpFunc[corbel/lmap.Where] -/
def tab_slices_pdqsortCmpFunc_lmap_Where (N : Nat) (Φ : Calls') : Calls' := fun f => cond (Nat.beq f id_slices_insertionSortCmpFunc_lmap_Where) (some (F_slices_insertionSortCmpFunc_lmap_Where N Φ)) (cond (Nat.beq f id_slices_heapSortCmpFunc_lmap_Where) (some (F_slices_heapSortCmpFunc_lmap_Where N Φ)) (cond (Nat.beq f id_slices_breakPatternsCmpFunc_lmap_Where) (some (F_slices_breakPatternsCmpFunc_lmap_Where N Φ)) (cond (Nat.beq f id_slices_choosePivotCmpFunc_lmap_Where) (some (F_slices_choosePivotCmpFunc_lmap_Where N Φ)) (cond (Nat.beq f id_slices_reverseRangeCmpFunc_lmap_Where) (some (F_slices_reverseRangeCmpFunc_lmap_Where N Φ)) (cond (Nat.beq f id_slices_partialInsertionSortCmpFunc_lmap_Where) (some (F_slices_partialInsertionSortCmpFunc_lmap_Where N Φ)) (cond (Nat.beq f id_slices_partitionEqualCmpFunc_lmap_Where) (some (F_slices_partitionEqualCmpFunc_lmap_Where N Φ)) (cond (Nat.beq f id_slices_partitionCmpFunc_lmap_Where) (some (F_slices_partitionCmpFunc_lmap_Where N Φ)) (Φ f))))))))
def F_slices_pdqsortCmpFunc_lmap_Where (N : Nat) (Φ : Calls') : List V → M V := fun args =>
 unc args fun a0 args =>
 unc args fun a1 args =>
 unc args fun a2 args =>
 unc args fun a3 args =>
 unc args fun a4 args =>
 unn args <|
 lrM (
 loopM N (fun vs =>
 unc vs fun v1 vs =>
 unc vs fun v2 vs =>
 unc vs fun v3 vs =>
 unc vs fun v4 vs =>
 unc vs fun v5 vs =>
 unc vs fun v6 vs =>
 unc vs fun v7 vs =>
 unn vs <|
 optM (binR .sub .o none v3 v2) fun v8 =>
 optM (binR .leq .o none v8 (.i .i64 12)) fun v9 =>
 iteM (some v9) (
 bindM (F_slices_insertionSortCmpFunc_lmap_Where N Φ [v1, v2, v3, v5]) fun v10 =>
 pureM (.rt [])
 ) (
 optM (binR .eql .o none v4 (.i .i64 0)) fun v11 =>
 iteM (some v11) (
 bindM (F_slices_heapSortCmpFunc_lmap_Where N Φ [v1, v2, v3, v5]) fun v12 =>
 pureM (.rt [])
 ) (
 lrM (
 optM (unV .not v6) fun v13 =>
 iteM (some v13) (
 bindM (F_slices_breakPatternsCmpFunc_lmap_Where N Φ [v1, v2, v3, v5]) fun v14 =>
 optM (binR .sub .o none v4 (.i .i64 1)) fun v15 =>
 pureM (.nx [v1, v2, v3, v15, v5, v6, v7, v8])
 ) (
 pureM (.nx [v1, v2, v3, v4, v5, v6, v7, v8])
 )
 )
 (fun vs =>
 unc vs fun v16 vs =>
 unc vs fun v17 vs =>
 unc vs fun v18 vs =>
 unc vs fun v19 vs =>
 unc vs fun v20 vs =>
 unc vs fun v21 vs =>
 unc vs fun v22 vs =>
 unc vs fun v23 vs =>
 unn vs <|
 bindM (F_slices_choosePivotCmpFunc_lmap_Where N Φ [v16, v17, v18, v20]) fun v24 =>
 optM (exR 0 v24) fun v25 =>
 optM (exR 1 v24) fun v26 =>
 lrM (
 optM (binR .eql .o none v26 (.i .i64 2)) fun v27 =>
 iteM (some v27) (
 bindM (F_slices_reverseRangeCmpFunc_lmap_Where N Φ [v16, v17, v18, v20]) fun v28 =>
 optM (binR .sub .o none v18 (.i .i64 1)) fun v29 =>
 optM (binR .sub .o none v25 v17) fun v30 =>
 optM (binR .sub .o none v29 v30) fun v31 =>
 pureM (.nx [v16, v17, v18, v19, v20, v21, v22, v23, v31, (.i .i64 1)])
 ) (
 pureM (.nx [v16, v17, v18, v19, v20, v21, v22, v23, v25, v26])
 )
 )
 (fun vs =>
 unc vs fun v32 vs =>
 unc vs fun v33 vs =>
 unc vs fun v34 vs =>
 unc vs fun v35 vs =>
 unc vs fun v36 vs =>
 unc vs fun v37 vs =>
 unc vs fun v38 vs =>
 unc vs fun v39 vs =>
 unc vs fun v40 vs =>
 unc vs fun v41 vs =>
 unn vs <|
 lrM (
 bindM (gdM (boolV (some v37)) true (pM (some v38))) fun v42 =>
 optM (pickR v37 v42 (.b false)) fun v43 =>
 bindM (gdM (boolV (some v43)) true (pM (some v41))) fun v44 =>
 bindM (gdM (boolV (some v43)) true (pM (binR .eql .o none v44 (.i .i64 1)))) fun v45 =>
 optM (pickR v43 v45 (.b false)) fun v46 =>
 iteM (some v46) (
 bindM (F_slices_partialInsertionSortCmpFunc_lmap_Where N Φ [v32, v33, v34, v36]) fun v47 =>
 iteM (some v47) (
 pureM (.rt [])
 ) (
 pureM (.nx [v32, v33, v34, v35, v36, v37, v38, v39, v40])
 )
 ) (
 pureM (.nx [v32, v33, v34, v35, v36, v37, v38, v39, v40])
 )
 )
 (fun vs =>
 unc vs fun v48 vs =>
 unc vs fun v49 vs =>
 unc vs fun v50 vs =>
 unc vs fun v51 vs =>
 unc vs fun v52 vs =>
 unc vs fun v53 vs =>
 unc vs fun v54 vs =>
 unc vs fun v55 vs =>
 unc vs fun v56 vs =>
 unn vs <|
 optM (binR .gtr .o none v49 (.i .i64 0)) fun v57 =>
 bindM (gdM (boolV (some v57)) true (pM (some v52))) fun v58 =>
 bindM (gdM (boolV (some v57)) true (pM (some v48))) fun v59 =>
 bindM (gdM (boolV (some v57)) true (pM (some v49))) fun v60 =>
 bindM (gdM (boolV (some v57)) true (pM (binR .sub .o none v60 (.i .i64 1)))) fun v61 =>
 bindM (gdM (boolV (some v57)) true (pM (iaL 3 v59 v61))) fun v62 =>
 bindM (gdM (boolV (some v57)) true (rM (ld true 3 v62))) fun v63 =>
 bindM (gdM (boolV (some v57)) true (pM (some v48))) fun v64 =>
 bindM (gdM (boolV (some v57)) true (pM (some v56))) fun v65 =>
 bindM (gdM (boolV (some v57)) true (pM (iaL 3 v64 v65))) fun v66 =>
 bindM (gdM (boolV (some v57)) true (rM (ld true 3 v66))) fun v67 =>
 bindM (gdM (boolV (some v57)) true (callF (tab_slices_pdqsortCmpFunc_lmap_Where N Φ) v58 [v63, v67])) fun v68 =>
 bindM (gdM (boolV (some v57)) true (pM (binR .lss .o none v68 (.i .i64 0)))) fun v69 =>
 bindM (gdM (boolV (some v57)) true (pM (unV .not v69))) fun v70 =>
 optM (pickR v57 v70 (.b false)) fun v71 =>
 iteM (some v71) (
 bindM (F_slices_partitionEqualCmpFunc_lmap_Where N Φ [v48, v49, v50, v56, v52]) fun v72 =>
 pureM (.nx [v48, v72, v50, v51, v52, v53, v54])
 ) (
 bindM (F_slices_partitionCmpFunc_lmap_Where N Φ [v48, v49, v50, v56, v52]) fun v73 =>
 optM (exR 0 v73) fun v74 =>
 optM (exR 1 v73) fun v75 =>
 optM (binR .sub .o none v74 v49) fun v76 =>
 optM (binR .sub .o none v50 v74) fun v77 =>
 optM (binR .quo .o none v55 (.i .i64 8)) fun v78 =>
 optM (binR .lss .o none v76 v77) fun v79 =>
 iteM (some v79) (
 optM (binR .geq .o none v76 v78) fun v80 =>
 bindM (callF (tab_slices_pdqsortCmpFunc_lmap_Where N Φ) (.f 307 [] []) [v48, v49, v74, v51, v52]) fun v81 =>
 optM (binR .add .o none v74 (.i .i64 1)) fun v82 =>
 pureM (.nx [v48, v82, v50, v51, v52, v80, v75])
 ) (
 optM (binR .geq .o none v77 v78) fun v83 =>
 optM (binR .add .o none v74 (.i .i64 1)) fun v84 =>
 bindM (callF (tab_slices_pdqsortCmpFunc_lmap_Where N Φ) (.f 307 [] []) [v48, v84, v50, v51, v52]) fun v85 =>
 pureM (.nx [v48, v49, v74, v51, v52, v83, v75])
 )
 )
 )
 (fun id vs =>
 failM)
 (fun vs =>
 unn vs <|
 pureM (.rt [])
 )
 )
 (fun id vs =>
 failM)
 (fun vs =>
 unn vs <|
 pureM (.rt [])
 )
 )
 (fun id vs =>
 failM)
 (fun vs =>
 unn vs <|
 pureM (.rt [])
 )
 )
 )
 ) [a0, a1, a2, a3, a4, (.b true), (.b true)])
 (fun vs =>
 failM)
 (fun id vs =>
 failM)
 (fun vs =>
 unn vs <|
 pureM (.t [])
 )
def an_slices_pdqsortCmpFunc_lmap_Where : An := (.two .n (.two .n (.one (.loop [0, 1, 2, 3, 4, 10, 11] [] [] (.one (.two .n (.two (.two .n (.two (.two .n .n) .n)) (.two (.two .n (.two (.two .n .n) .n)) (.two (.cut [0, 1, 2, 3, 4, 10, 11, 12] [] [] (.two .n (.two (.two .n .n) .n))) (.two .n (.two (.cut [0, 1, 2, 3, 4, 10, 11, 12, 13, 14] [] [] (.two .n (.two (.two .n (.two .n .n)) .n))) (.two (.cut [0, 1, 2, 3, 4, 10, 11, 12, 13] [] [] (.two .n (.two (.two .n (.two .n .n)) .n))) (.two (.two .n (.two (.two .n (.two .n .n)) .n)) (.two .n (.two .n (.two .n (.two .n (.two .n (.two (.two .n (.two .n .n)) (.two .n (.two .n .n)))))))))))))))))))))

/-- slices.SortFunc[[]corbel/lmap.Where,corbel/lmap.Where] -/
def tab_slices_SortFunc_lmap_Where_lmap_Where (N : Nat) (Φ : Calls') : Calls' := fun f => cond (Nat.beq f id_slices_pdqsortCmpFunc_lmap_Where) (some (F_slices_pdqsortCmpFunc_lmap_Where N Φ)) (cond (Nat.beq f id_math_bits_Len) (some (F_math_bits_Len N Φ)) (Φ f))
def F_slices_SortFunc_lmap_Where_lmap_Where (N : Nat) (Φ : Calls') : List V → M V := fun args =>
 unc args fun a0 args =>
 unc args fun a1 args =>
 unn args <|
 optM (lnL a0) fun v1 =>
 optM (cvI .u64 v1) fun v2 =>
 bindM (F_math_bits_Len N Φ [v2]) fun v3 =>
 bindM (F_slices_pdqsortCmpFunc_lmap_Where N Φ [a0, (.i .i64 0), v1, v3, a1]) fun v4 =>
 pureM (.t [])
def an_slices_SortFunc_lmap_Where_lmap_Where : An := (.two .n .n)

/-- (*corbel/lmap.Map).Live$1 -/
def tab_lmap_Map_Live_1 (N : Nat) (Φ : Calls') : Calls' := fun f => cond (Nat.beq f id_cmp_Or_int) (some (F_cmp_Or_int N Φ)) (cond (Nat.beq f id_cmp_Compare_int) (some (F_cmp_Compare_int N Φ)) (Φ f))
def F_lmap_Map_Live_1 (N : Nat) (Φ : Calls') : List V → M V := fun args =>
 unc args fun a0 args =>
 unc args fun a1 args =>
 unn args <|
 alM (boxR a0) fun v1 =>
 alM (boxR a1) fun v2 =>
 optM (faR 1 v1) fun v3 =>
 rdM (ld false 1 v3) fun v4 =>
 optM (faR 1 v2) fun v5 =>
 rdM (ld false 1 v5) fun v6 =>
 optM (faR 2 v1) fun v7 =>
 rdM (ld false 1 v7) fun v8 =>
 optM (faR 2 v2) fun v9 =>
 rdM (ld false 1 v9) fun v10 =>
 bindM (F_cmp_Compare_int N Φ [v4, v6]) fun v11 =>
 chkM (ckR (ld false 1 v9) v10) <|
 chkM (ckR (ld false 1 v7) v8) <|
 bindM (F_cmp_Compare_int N Φ [v8, v10]) fun v12 =>
 alM (bsR 2 1 (zeros [(.i .i64 0)] 2) [(0, v11), (1, v12)]) fun v13 =>
 bindM (F_cmp_Or_int N Φ [v13]) fun v14 =>
 pureM v14
def an_lmap_Map_Live_1 : An := (.two .n (.two .n .n))

/-- (*corbel/lmap.Map).Live -/
def tab_lmap_Map_Live (N : Nat) (Φ : Calls') : Calls' := fun f => cond (Nat.beq f id_slices_SortFunc_lmap_Where_lmap_Where) (some (F_slices_SortFunc_lmap_Where_lmap_Where N Φ)) (Φ f)
def F_lmap_Map_Live (N : Nat) (Φ : Calls') : List V → M V := fun args =>
 unc args fun a0 args =>
 unc args fun a1 args =>
 unn args <|
 optM (binR .eql .p none a0 .pn) fun v1 =>
 iteM (some v1) (
 pureM .ns
 ) (
 alM (mmR) fun v2 =>
 optM (nilR a0) fun v3 =>
 optM (faR 0 v3) fun v4 =>
 rdM (ld false 1 v4) fun v5 =>
 bindM (rgR v5) fun v6 =>
 lrM (
 loopM N (fun vs =>
 unc vs fun v7 vs =>
 unc vs fun v8 vs =>
 unc vs fun v9 vs =>
 unc vs fun v10 vs =>
 unn vs <|
 bindM (nxR v10) fun v11 =>
 optM (exR 0 v11) fun v12 =>
 iteM (some v12) (
 failM -- entry
 ) (
 pureM (.ex 0 [v8, v9])
 )
 ) [a1, v2, .ns, v6])
 (fun vs =>
 failM)
 (fun id vs =>
 cond (Nat.beq id 0) (
 unc vs fun v13 vs =>
 unc vs fun v14 vs =>
 unn vs <|
 bindM (F_slices_SortFunc_lmap_Where_lmap_Where N Φ [v14, (.f id_lmap_Map_Live_1 [] [])]) fun v15 =>
 optM (lnL v14) fun v16 =>
 lrM (
 loopM N (fun vs =>
 unc vs fun v17 vs =>
 unc vs fun v18 vs =>
 unc vs fun v19 vs =>
 unc vs fun v20 vs =>
 unc vs fun v21 vs =>
 unn vs <|
 optM (binR .lss .o none v21 v20) fun v22 =>
 iteM (some v22) (
 optM (iaL 3 v19 v21) fun v23 =>
 rdM (ld true 3 v23) fun v24 =>
 alM (alR 111 [(.i .i64 0), (.i .i64 0), (.i .i64 0)]) fun v25 =>
 bindM (stR 3 v25 v24) fun v26 =>
 rdM (ld true 3 v25) fun v27 =>
 rdM (lkR (.flat [.i, .i, .i]) (.g [(.i .i64 0), (.b false), (.i .i64 0), (.i .i64 0), (.i .i64 0)]) false v17 v27) fun v28 =>
 alM (bsR 1 5 (zeros [(.i .i64 0), (.b false), (.i .i64 0), (.i .i64 0), (.i .i64 0)] 5) [(0, v28)]) fun v29 =>
 bindM (apR 332 5 40 (srL 5 v29) v18) fun v30 =>
 optM (binR .add .o none v21 (.i .i64 1)) fun v31 =>
 pureM (.nx [v17, v30, v19, v20, v31])
 ) (
 pureM (.ex 2 [v18])
 )
 ) [v13, .ns, v14, v16, (.i .i64 0)])
 (fun vs =>
 failM)
 (fun id vs =>
 cond (Nat.beq id 2) (
 unc vs fun v32 vs =>
 unn vs <|
 pureM v32
 ) <|
 failM)
 (fun vs =>
 unc vs fun v33 vs =>
 unn vs <|
 pureM v33
 )
 ) <|
 failM)
 (fun vs =>
 unc vs fun v34 vs =>
 unn vs <|
 pureM v34
 )
 )
def an_lmap_Map_Live : An := (.two .n (.two (.two .n (.two (.two .n .n) .n)) (.two .n (.two .n (.two (.two .n (.one (.loop [1, 5, 6, 19] [(0, [5, 6])] [4] (.two .n (.two (.two .n .n) (.one (.two .n (.two .n (.two (.two .n .n) .n))))))))) (.two .n (.two .n (.two (.two .n (.one (.loop [5, 9, 46, 47, 48] [(2, [9])] [4] (.two .n (.two (.two .n .n) (.two (.one (.two .n .n)) .n)))))) (.two .n .n)))))))))

/-- (*corbel/volume.Volume).forget -/
def tab_volume_Volume_forget (N : Nat) (Φ : Calls') : Calls' := fun f => Φ f
def F_volume_Volume_forget (N : Nat) (Φ : Calls') : List V → M V := fun args =>
 unc args fun a0 args =>
 unc args fun a1 args =>
 unn args <|
 optM (nilR a0) fun v1 =>
 optM (faR 7 v1) fun v2 =>
 rdM (ld false 1 v2) fun v3 =>
 bindM (rgR v3) fun v4 =>
 lrM (
 loopM N (fun vs =>
 unc vs fun v5 vs =>
 unc vs fun v6 vs =>
 unc vs fun v7 vs =>
 unn vs <|
 bindM (nxR v7) fun v8 =>
 optM (exR 0 v8) fun v9 =>
 iteM (some v9) (
 failM -- entry
 ) (
 pureM (.ex 0 [])
 )
 ) [a0, a1, v4])
 (fun vs =>
 failM)
 (fun id vs =>
 cond (Nat.beq id 0) (
 unn vs <|
 pureM (.t [])
 ) <|
 failM)
 (fun vs =>
 unn vs <|
 pureM (.t [])
 )
def an_volume_Volume_forget : An := (.two .n (.one (.loop [0, 1, 9] [(0, [])] [] (.two .n (.two (.two .n .n) (.one (.two .n (.two .n (.two .n .n)))))))))

/-- (*corbel/volume.Volume).clean -/
def tab_volume_Volume_clean (N : Nat) (Φ : Calls') : Calls' := fun f => cond (Nat.beq f id_array_Array_Do) (some (F_array_Array_Do N Φ)) (cond (Nat.beq f id_array_Array_Flush) (some (F_array_Array_Flush N Φ)) (cond (Nat.beq f id_volume_Volume_at) (some (F_volume_Volume_at N Φ)) (cond (Nat.beq f id_pick_Split) (some (F_pick_Split N Φ)) (cond (Nat.beq f id_volume_Volume_lay) (some (F_volume_Volume_lay N Φ)) (cond (Nat.beq f id_pick_Empty) (some (F_pick_Empty N Φ)) (cond (Nat.beq f id_volume_Volume_zones) (some (F_volume_Volume_zones N Φ)) (cond (Nat.beq f id_pick_Victim) (some (F_pick_Victim N Φ)) (cond (Nat.beq f id_lmap_Map_Live) (some (F_lmap_Map_Live N Φ)) (cond (Nat.beq f id_volume_Volume_forget) (some (F_volume_Volume_forget N Φ)) (Φ f))))))))))
def F_volume_Volume_clean (N : Nat) (Φ : Calls') : List V → M V := fun args =>
 unc args fun a0 args =>
 unn args <|
 bindM (F_volume_Volume_zones N Φ [a0]) fun v1 =>
 bindM (F_pick_Victim N Φ [v1]) fun v2 =>
 bindM (F_pick_Empty N Φ [v1]) fun v3 =>
 optM (exR 0 v3) fun v4 =>
 optM (exR 1 v3) fun v5 =>
 optM (binR .lss .o none v2 (.i .i64 0)) fun v6 =>
 bindM (gdM (boolV (some v6)) false (pM (some v5))) fun v7 =>
 bindM (gdM (boolV (some v6)) false (pM (binR .eql .o none v7 (.i .i64 0)))) fun v8 =>
 optM (pickR v6 (.b true) v8) fun v9 =>
 iteM (some v9) (
 pureM (.t [(.b false), (.i .i64 0)])
 ) (
 optM (nilR a0) fun v10 =>
 optM (faR 8 v10) fun v11 =>
 bindM (stR 1 v11 v4) fun v12 =>
 optM (nilR a0) fun v13 =>
 optM (faR 6 v13) fun v14 =>
 rdM (ld false 1 v14) fun v15 =>
 bindM (F_lmap_Map_Live N Φ [v15, v2]) fun v16 =>
 optM (lnL v16) fun v17 =>
 lrM (
 loopM N (fun vs =>
 unc vs fun v18 vs =>
 unc vs fun v19 vs =>
 unc vs fun v20 vs =>
 unc vs fun v21 vs =>
 unc vs fun v22 vs =>
 unc vs fun v23 vs =>
 unc vs fun v24 vs =>
 unn vs <|
 optM (binR .lss .o none v24 v23) fun v25 =>
 iteM (some v25) (
 optM (iaL 5 v22 v24) fun v26 =>
 rdM (ld true 5 v26) fun v27 =>
 alM (alR 332 [(.i .i64 0), (.b false), (.i .i64 0), (.i .i64 0), (.i .i64 0)]) fun v28 =>
 bindM (stR 5 v28 v27) fun v29 =>
 lrM (
 optM (faR 1 v28) fun v30 =>
 rdM (ld false 1 v30) fun v31 =>
 optM (unV .not v31) fun v32 =>
 iteM (some v32) (
 optM (faR 2 v28) fun v33 =>
 rdM (ld true 3 v33) fun v34 =>
 bindM (F_volume_Volume_at N Φ [v18, v34]) fun v35 =>
 optM (exR 0 v35) fun v36 =>
 optM (exR 1 v35) fun v37 =>
 optM (binR .neq .o none v37 (.i .i64 0)) fun v38 =>
 iteM (some v38) (
 pureM (.rt [(.b false), v37])
 ) (
 pureM (.nx [v18, v19, v20, v21, v28, v36, v22, v23, v24])
 )
 ) (
 pureM (.nx [v18, v19, v20, v21, v28, (.s []), v22, v23, v24])
 )
 )
 (fun vs =>
 unc vs fun v39 vs =>
 unc vs fun v40 vs =>
 unc vs fun v41 vs =>
 unc vs fun v42 vs =>
 unc vs fun v43 vs =>
 unc vs fun v44 vs =>
 unc vs fun v45 vs =>
 unc vs fun v46 vs =>
 unc vs fun v47 vs =>
 unn vs <|
 optM (faR 0 v43) fun v48 =>
 rdM (ld false 1 v48) fun v49 =>
 optM (faR 1 v43) fun v50 =>
 rdM (ld false 1 v50) fun v51 =>
 optM (bdR [(0, 1), (1, 1)] [(.i .i64 0), (.b false)] [(0, v49), (1, v51)]) fun v52 =>
 alM (bsR 1 2 (zeros [(.i .i64 0), (.b false)] 2) [(0, v52)]) fun v53 =>
 bindM (apR 105 2 16 (srL 2 v53) v41) fun v54 =>
 alM (bsR 1 1 (zeros [(.s [])] 1) [(0, v44)]) fun v55 =>
 bindM (apR 9 1 16 (srL 1 v55) v42) fun v56 =>
 optM (binR .add .o none v47 (.i .i64 1)) fun v57 =>
 pureM (.nx [v39, v40, v54, v56, v45, v46, v57])
 )
 (fun id vs =>
 failM)
 (fun vs =>
 unc vs fun v58 vs =>
 unc vs fun v59 vs =>
 unn vs <|
 pureM (.rt [v58, v59])
 )
 ) (
 pureM (.ex 0 [v18, v19, v20, v21])
 )
 ) [a0, v2, .ns, .ns, v16, v17, (.i .i64 0)])
 (fun vs =>
 failM)
 (fun id vs =>
 cond (Nat.beq id 0) (
 unc vs fun v60 vs =>
 unc vs fun v61 vs =>
 unc vs fun v62 vs =>
 unc vs fun v63 vs =>
 unn vs <|
 optM (lnL v62) fun v64 =>
 bindM (F_pick_Split N Φ [v64]) fun v65 =>
 optM (lnL v65) fun v66 =>
 lrM (
 loopM N (fun vs =>
 unc vs fun v67 vs =>
 unc vs fun v68 vs =>
 unc vs fun v69 vs =>
 unc vs fun v70 vs =>
 unc vs fun v71 vs =>
 unc vs fun v72 vs =>
 unc vs fun v73 vs =>
 unn vs <|
 optM (binR .lss .o none v73 v72) fun v74 =>
 iteM (some v74) (
 optM (iaL 1 v71 v73) fun v75 =>
 rdM (ld false 1 v75) fun v76 =>
 optM (slL 2 v69 none (some v76) none) fun v77 =>
 optM (slL 1 v70 none (some v76) none) fun v78 =>
 bindM (F_volume_Volume_lay N Φ [v67, v77, v78]) fun v79 =>
 optM (binR .neq .o none v79 (.i .i64 0)) fun v80 =>
 iteM (some v80) (
 pureM (.rt [(.b false), v79])
 ) (
 optM (slL 2 v69 (some v76) none none) fun v81 =>
 optM (slL 1 v70 (some v76) none none) fun v82 =>
 optM (binR .add .o none v73 (.i .i64 1)) fun v83 =>
 pureM (.nx [v67, v68, v81, v82, v71, v72, v83])
 )
 ) (
 pureM (.ex 2 [v67, v68])
 )
 ) [v60, v61, v62, v63, v65, v66, (.i .i64 0)])
 (fun vs =>
 failM)
 (fun id vs =>
 cond (Nat.beq id 2) (
 unc vs fun v84 vs =>
 unc vs fun v85 vs =>
 unn vs <|
 optM (nilR v84) fun v86 =>
 optM (faR 0 v86) fun v87 =>
 rdM (ld false 1 v87) fun v88 =>
 bindM (F_array_Array_Flush N Φ [v88]) fun v89 =>
 optM (binR .neq .o none v89 (.i .i64 0)) fun v90 =>
 iteM (some v90) (
 pureM (.t [(.b false), v89])
 ) (
 optM (nilR v84) fun v91 =>
 optM (faR 0 v91) fun v92 =>
 rdM (ld false 1 v92) fun v93 =>
 optM (bdR [(0, 1), (1, 1), (2, 1), (3, 1)] [(.i .i64 0), (.i .i64 0), (.i .i64 0), (.i .i64 0)] [(0, (.i .i64 3)), (1, v85)]) fun v94 =>
 bindM (F_array_Array_Do N Φ [v93, v94, (.s [])]) fun v95 =>
 optM (exR 0 v95) fun v96 =>
 optM (exR 1 v95) fun v97 =>
 optM (exR 2 v95) fun v98 =>
 bindM (F_volume_Volume_forget N Φ [v84, v85]) fun v99 =>
 optM (binR .eql .o none v98 (.i .i64 0)) fun v100 =>
 pureM (.t [v100, v98])
 )
 ) <|
 failM)
 (fun vs =>
 unc vs fun v101 vs =>
 unc vs fun v102 vs =>
 unn vs <|
 pureM (.t [v101, v102])
 )
 ) <|
 failM)
 (fun vs =>
 unc vs fun v103 vs =>
 unc vs fun v104 vs =>
 unn vs <|
 pureM (.t [v103, v104])
 )
 )
def an_volume_Volume_clean : An := (.two .n (.two .n (.two .n (.two .n (.two (.two .n (.two (.two .n .n) .n)) (.two .n (.two .n (.two .n (.two (.two .n (.one (.loop [0, 5, 8, 9, 45, 46, 47] [(0, [0, 5, 8, 9])] [2, 3] (.two .n (.two (.two .n .n) (.two (.one (.two .n (.two .n (.two (.cut [0, 5, 8, 9, 11, 12, 45, 46, 47] [] [2, 3] (.two .n (.two (.two .n (.two .n (.two .n (.two (.two .n .n) .n)))) .n))) .n)))) .n)))))) (.two (.two .n (.one (.loop [0, 5, 8, 9, 79, 80, 81] [(2, [0, 5])] [2, 3] (.two .n (.two (.two .n .n) (.two (.one (.two .n (.two (.two .n (.two .n (.two (.two .n .n) .n))) .n))) .n)))))) (.two (.two .n (.two .n (.two (.two .n .n) .n))) (.two .n (.two .n (.two .n .n))))))))))))))

/-- (*corbel/volume.Volume).next -/
def tab_volume_Volume_next (N : Nat) (Φ : Calls') : Calls' := fun f => cond (Nat.beq f id_pick_Empty) (some (F_pick_Empty N Φ)) (cond (Nat.beq f id_volume_Volume_zones) (some (F_volume_Volume_zones N Φ)) (cond (Nat.beq f id_volume_Volume_close) (some (F_volume_Volume_close N Φ)) (cond (Nat.beq f id_volume_Volume_clean) (some (F_volume_Volume_clean N Φ)) (Φ f))))
def F_volume_Volume_next (N : Nat) (Φ : Calls') : List V → M V := fun args =>
 unc args fun a0 args =>
 unn args <|
 bindM (F_volume_Volume_close N Φ [a0]) fun v1 =>
 optM (binR .neq .o none v1 (.i .i64 0)) fun v2 =>
 iteM (some v2) (
 pureM v1
 ) (
 bindM (F_volume_Volume_zones N Φ [a0]) fun v3 =>
 bindM (F_pick_Empty N Φ [v3]) fun v4 =>
 optM (exR 0 v4) fun v5 =>
 optM (exR 1 v4) fun v6 =>
 optM (binR .gtr .o none v6 (.i .i64 1)) fun v7 =>
 iteM (some v7) (
 optM (nilR a0) fun v8 =>
 optM (faR 8 v8) fun v9 =>
 bindM (stR 1 v9 v5) fun v10 =>
 pureM (.i .i64 0)
 ) (
 bindM (F_volume_Volume_clean N Φ [a0]) fun v11 =>
 optM (exR 0 v11) fun v12 =>
 optM (exR 1 v11) fun v13 =>
 pureM v13
 )
 )
def an_volume_Volume_next : An := (.two .n (.two (.two .n (.two .n (.two (.two .n .n) .n))) (.two .n (.two (.two .n (.two (.two .n (.two .n .n)) .n)) (.two .n (.two .n .n))))))

/-- (*corbel/volume.Volume).put -/
def tab_volume_Volume_put (N : Nat) (Φ : Calls') : Calls' := fun f => cond (Nat.beq f id_pick_Split) (some (F_pick_Split N Φ)) (cond (Nat.beq f id_group_Blocks) (some (F_group_Blocks N Φ)) (cond (Nat.beq f id_volume_Volume_left) (some (F_volume_Volume_left N Φ)) (cond (Nat.beq f id_volume_Volume_next) (some (F_volume_Volume_next N Φ)) (cond (Nat.beq f id_volume_Volume_lay) (some (F_volume_Volume_lay N Φ)) (Φ f)))))
def F_volume_Volume_put (N : Nat) (Φ : Calls') : List V → M V := fun args =>
 unc args fun a0 args =>
 unc args fun a1 args =>
 unc args fun a2 args =>
 unn args <|
 optM (lnL a1) fun v1 =>
 bindM (F_pick_Split N Φ [v1]) fun v2 =>
 optM (lnL v2) fun v3 =>
 lrM (
 loopM N (fun vs =>
 unc vs fun v4 vs =>
 unc vs fun v5 vs =>
 unc vs fun v6 vs =>
 unc vs fun v7 vs =>
 unc vs fun v8 vs =>
 unc vs fun v9 vs =>
 unn vs <|
 optM (binR .lss .o none v9 v8) fun v10 =>
 iteM (some v10) (
 optM (iaL 1 v7 v9) fun v11 =>
 rdM (ld false 1 v11) fun v12 =>
 lrM (
 optM (slL 2 v5 none (some v12) none) fun v13 =>
 bindM (F_group_Blocks N Φ [v13]) fun v14 =>
 bindM (F_volume_Volume_left N Φ [v4]) fun v15 =>
 optM (binR .gtr .o none v14 v15) fun v16 =>
 iteM (some v16) (
 bindM (F_volume_Volume_next N Φ [v4]) fun v17 =>
 optM (binR .neq .o none v17 (.i .i64 0)) fun v18 =>
 iteM (some v18) (
 pureM (.rt [v17])
 ) (
 pureM (.nx [v4, v5, v6, v12, v7, v8, v9])
 )
 ) (
 pureM (.nx [v4, v5, v6, v12, v7, v8, v9])
 )
 )
 (fun vs =>
 unc vs fun v19 vs =>
 unc vs fun v20 vs =>
 unc vs fun v21 vs =>
 unc vs fun v22 vs =>
 unc vs fun v23 vs =>
 unc vs fun v24 vs =>
 unc vs fun v25 vs =>
 unn vs <|
 optM (slL 2 v20 none (some v22) none) fun v26 =>
 optM (slL 1 v21 none (some v22) none) fun v27 =>
 bindM (F_volume_Volume_lay N Φ [v19, v26, v27]) fun v28 =>
 optM (binR .neq .o none v28 (.i .i64 0)) fun v29 =>
 iteM (some v29) (
 pureM (.rt [v28])
 ) (
 optM (slL 2 v20 (some v22) none none) fun v30 =>
 optM (slL 1 v21 (some v22) none none) fun v31 =>
 optM (binR .add .o none v25 (.i .i64 1)) fun v32 =>
 pureM (.nx [v19, v30, v31, v23, v24, v32])
 )
 )
 (fun id vs =>
 failM)
 (fun vs =>
 unc vs fun v33 vs =>
 unn vs <|
 pureM (.rt [v33])
 )
 ) (
 pureM (.ex 0 [])
 )
 ) [a0, a1, a2, v2, v3, (.i .i64 0)])
 (fun vs =>
 failM)
 (fun id vs =>
 cond (Nat.beq id 0) (
 unn vs <|
 pureM (.i .i64 0)
 ) <|
 failM)
 (fun vs =>
 unc vs fun v34 vs =>
 unn vs <|
 pureM v34
 )
def an_volume_Volume_put : An := (.two .n (.two (.two .n (.one (.loop [0, 1, 2, 13, 14, 15] [(0, [])] [6] (.two .n (.two (.two .n .n) (.two (.one (.two .n (.two (.cut [0, 1, 2, 8, 13, 14, 15] [] [6] (.two .n (.two (.two .n (.two .n (.two (.two .n .n) .n))) .n))) (.two (.two .n (.two .n (.two (.two .n .n) .n))) .n)))) .n)))))) (.two .n .n)))

/-- (*corbel/volume.Volume).Write -/
def tab_volume_Volume_Write (N : Nat) (Φ : Calls') : Calls' := fun f => cond (Nat.beq f id_volume_Volume_asked) (some (F_volume_Volume_asked N Φ)) (cond (Nat.beq f id_volume_Volume_put) (some (F_volume_Volume_put N Φ)) (Φ f))
def F_volume_Volume_Write (N : Nat) (Φ : Calls') : List V → M V := fun args =>
 unc args fun a0 args =>
 unc args fun a1 args =>
 unc args fun a2 args =>
 unn args <|
 optM (binR .eql .p none a0 .pn) fun v1 =>
 bindM (gdM (boolV (some v1)) false (pM (some a2))) fun v2 =>
 bindM (gdM (boolV (some v1)) false (pM (lnS v2))) fun v3 =>
 bindM (gdM (boolV (some v1)) false (pM (binR .rem .o none v3 (.i .i64 64)))) fun v4 =>
 bindM (gdM (boolV (some v1)) false (pM (binR .neq .o none v4 (.i .i64 0)))) fun v5 =>
 optM (pickR v1 (.b true) v5) fun v6 =>
 iteM (some v6) (
 pureM (.i .i64 1)
 ) (
 optM (lnS a2) fun v7 =>
 optM (binR .quo .o none v7 (.i .i64 64)) fun v8 =>
 bindM (F_volume_Volume_asked N Φ [a0, a1, v8]) fun v9 =>
 optM (binR .neq .o none v9 (.i .i64 0)) fun v10 =>
 iteM (some v10) (
 pureM v9
 ) (
 lrM (
 loopM N (fun vs =>
 unc vs fun v11 vs =>
 unc vs fun v12 vs =>
 unc vs fun v13 vs =>
 unc vs fun v14 vs =>
 unc vs fun v15 vs =>
 unc vs fun v16 vs =>
 unc vs fun v17 vs =>
 unn vs <|
 optM (binR .lss .o none v17 v16) fun v18 =>
 iteM (some v18) (
 optM (binR .add .o none v12 v17) fun v19 =>
 optM (bdR [(0, 1), (1, 1)] [(.i .i64 0), (.b false)] [(0, v19)]) fun v20 =>
 alM (bsR 1 2 (zeros [(.i .i64 0), (.b false)] 2) [(0, v20)]) fun v21 =>
 optM (binR .mul .o none v17 (.i .i64 64)) fun v22 =>
 optM (binR .add .o none v17 (.i .i64 1)) fun v23 =>
 optM (binR .mul .o none v23 (.i .i64 64)) fun v24 =>
 optM (slS v13 (some v22) (some v24) none) fun v25 =>
 alM (bsR 1 1 (zeros [(.s [])] 1) [(0, v25)]) fun v26 =>
 bindM (apR 105 2 16 (srL 2 v21) v14) fun v27 =>
 chkM (ckA (bsR 1 1 (zeros [(.s [])] 1) [(0, v25)]) v26) <|
 bindM (apR 9 1 16 (srL 1 v26) v15) fun v28 =>
 optM (binR .add .o none v17 (.i .i64 1)) fun v29 =>
 pureM (.nx [v11, v12, v13, v27, v28, v16, v29])
 ) (
 pureM (.ex 0 [v11, v14, v15])
 )
 ) [a0, a1, a2, .ns, .ns, v8, (.i .i64 0)])
 (fun vs =>
 failM)
 (fun id vs =>
 cond (Nat.beq id 0) (
 unc vs fun v30 vs =>
 unc vs fun v31 vs =>
 unc vs fun v32 vs =>
 unn vs <|
 bindM (F_volume_Volume_put N Φ [v30, v31, v32]) fun v33 =>
 pureM v33
 ) <|
 failM)
 (fun vs =>
 unc vs fun v34 vs =>
 unn vs <|
 pureM v34
 )
 )
 )
def an_volume_Volume_Write : An := (.two .n (.two (.two .n (.two (.two .n .n) .n)) (.two .n (.two (.two .n (.two .n (.two (.two .n .n) .n))) (.two .n (.two .n (.two (.two .n (.one (.loop [0, 1, 2, 9, 10, 30, 31] [(0, [0, 9, 10])] [6] (.two .n (.two (.two .n .n) (.two (.one (.two .n .n)) .n)))))) (.two .n .n))))))))

/-- (*corbel/volume.Volume).awake -/
def tab_volume_Volume_awake (N : Nat) (Φ : Calls') : Calls' := fun f => cond (Nat.beq f id_array_Array_Do) (some (F_array_Array_Do N Φ)) (Φ f)
def F_volume_Volume_awake (N : Nat) (Φ : Calls') : List V → M V := fun args =>
 unc args fun a0 args =>
 unn args <|
 optM (nilR a0) fun v1 =>
 optM (faR 0 v1) fun v2 =>
 rdM (ld false 1 v2) fun v3 =>
 optM (bdR [(0, 1), (1, 1), (2, 1), (3, 1)] [(.i .i64 0), (.i .i64 0), (.i .i64 0), (.i .i64 0)] [(0, (.i .i64 7)), (1, (.i .i64 (-1)))]) fun v4 =>
 bindM (F_array_Array_Do N Φ [v3, v4, (.s [])]) fun v5 =>
 optM (exR 0 v5) fun v6 =>
 optM (exR 1 v5) fun v7 =>
 optM (exR 2 v5) fun v8 =>
 optM (binR .eql .o none v8 (.i .i64 6)) fun v9 =>
 bindM (gdM (boolV (some v9)) false (pM (some v8))) fun v10 =>
 bindM (gdM (boolV (some v9)) false (pM (binR .eql .o none v10 (.i .i64 8)))) fun v11 =>
 optM (pickR v9 (.b true) v11) fun v12 =>
 iteM (some v12) (
 pureM v8
 ) (
 pureM (.i .i64 0)
 )
def an_volume_Volume_awake : An := (.two .n (.two .n (.two (.two .n (.two (.two .n .n) .n)) (.two .n .n))))

/-- (*corbel/lmap.Map).Get -/
def tab_lmap_Map_Get (N : Nat) (Φ : Calls') : Calls' := fun f => Φ f
def F_lmap_Map_Get (N : Nat) (Φ : Calls') : List V → M V := fun args =>
 unc args fun a0 args =>
 unc args fun a1 args =>
 unn args <|
 alM (alR 111 [(.i .i64 0), (.i .i64 0), (.i .i64 0)]) fun v1 =>
 optM (binR .eql .p none a0 .pn) fun v2 =>
 iteM (some v2) (
 optM (bdR [(0, 1), (1, 1), (2, 1)] [(.i .i64 0), (.i .i64 0), (.i .i64 0)] []) fun v3 =>
 bindM (stR 3 v1 v3) fun v4 =>
 rdM (ld true 3 v1) fun v5 =>
 pureM (.t [v5, (.b false), (.b false)])
 ) (
 optM (nilR a0) fun v6 =>
 optM (faR 0 v6) fun v7 =>
 rdM (ld false 1 v7) fun v8 =>
 rdM (lkR (.one .i) (.g [(.i .i64 0), (.i .i64 0), (.i .i64 0), (.i .i64 0), (.b false)]) true v8 a1) fun v9 =>
 optM (exR 0 v9) fun v10 =>
 optM (exR 1 v9) fun v11 =>
 alM (alR 196 [(.i .i64 0), (.i .i64 0), (.i .i64 0), (.i .i64 0), (.b false)]) fun v12 =>
 bindM (stR 5 v12 v10) fun v13 =>
 optM (faR 0 v12) fun v14 =>
 rdM (ld true 3 v14) fun v15 =>
 optM (faR 4 v12) fun v16 =>
 rdM (ld false 1 v16) fun v17 =>
 bindM (stR 3 v1 v15) fun v18 =>
 chkM (ckR (ld false 1 v16) v17) <|
 rdM (ld true 3 v1) fun v19 =>
 pureM (.t [v19, v17, v11])
 )
def an_lmap_Map_Get : An := (.two .n (.two (.two .n (.two (.two .n .n) .n)) (.two .n (.two .n .n))))

/-- (*corbel/volume.Volume).Read -/
def tab_volume_Volume_Read (N : Nat) (Φ : Calls') : Calls' := fun f => cond (Nat.beq f id_volume_Volume_asked) (some (F_volume_Volume_asked N Φ)) (cond (Nat.beq f id_volume_Volume_awake) (some (F_volume_Volume_awake N Φ)) (cond (Nat.beq f id_lmap_Map_Get) (some (F_lmap_Map_Get N Φ)) (cond (Nat.beq f id_strings_Builder_WriteString) (some (F_strings_Builder_WriteString N Φ)) (cond (Nat.beq f id_xor_Zero) (some (F_xor_Zero N Φ)) (cond (Nat.beq f id_volume_Volume_at) (some (F_volume_Volume_at N Φ)) (cond (Nat.beq f id_strings_Builder_String) (some (F_strings_Builder_String N Φ)) (Φ f)))))))
def F_volume_Volume_Read (N : Nat) (Φ : Calls') : List V → M V := fun args =>
 unc args fun a0 args =>
 unc args fun a1 args =>
 unc args fun a2 args =>
 unn args <|
 bindM (F_volume_Volume_asked N Φ [a0, a1, a2]) fun v1 =>
 optM (binR .neq .o none v1 (.i .i64 0)) fun v2 =>
 iteM (some v2) (
 pureM (.t [(.s []), v1])
 ) (
 bindM (F_volume_Volume_awake N Φ [a0]) fun v3 =>
 optM (binR .neq .o none v3 (.i .i64 0)) fun v4 =>
 iteM (some v4) (
 pureM (.t [(.s []), v3])
 ) (
 alM (alR 109 [.pn, .ns]) fun v5 =>
 lrM (
 loopM N (fun vs =>
 unc vs fun v6 vs =>
 unc vs fun v7 vs =>
 unc vs fun v8 vs =>
 unc vs fun v9 vs =>
 unc vs fun v10 vs =>
 unn vs <|
 optM (binR .add .o none v7 v8) fun v11 =>
 optM (binR .lss .o none v10 v11) fun v12 =>
 iteM (some v12) (
 lrM (
 optM (nilR v6) fun v13 =>
 optM (faR 6 v13) fun v14 =>
 rdM (ld false 1 v14) fun v15 =>
 bindM (F_lmap_Map_Get N Φ [v15, v10]) fun v16 =>
 optM (exR 0 v16) fun v17 =>
 optM (exR 1 v16) fun v18 =>
 optM (exR 2 v16) fun v19 =>
 alM (alR 111 [(.i .i64 0), (.i .i64 0), (.i .i64 0)]) fun v20 =>
 bindM (stR 3 v20 v17) fun v21 =>
 optM (unV .not v19) fun v22 =>
 bindM (gdM (boolV (some v22)) false (pM (some v18))) fun v23 =>
 optM (pickR v22 (.b true) v23) fun v24 =>
 iteM (some v24) (
 bindM (F_xor_Zero N Φ [(.i .i64 64)]) fun v25 =>
 bindM (F_strings_Builder_WriteString N Φ [v9, v25]) fun v26 =>
 pureM (.nx [v6, v7, v8, v9, v10])
 ) (
 rdM (ld true 3 v20) fun v27 =>
 bindM (F_volume_Volume_at N Φ [v6, v27]) fun v28 =>
 optM (exR 0 v28) fun v29 =>
 optM (exR 1 v28) fun v30 =>
 optM (binR .neq .o none v30 (.i .i64 0)) fun v31 =>
 iteM (some v31) (
 pureM (.rt [(.s []), v30])
 ) (
 bindM (F_strings_Builder_WriteString N Φ [v9, v29]) fun v32 =>
 pureM (.nx [v6, v7, v8, v9, v10])
 )
 )
 )
 (fun vs =>
 unc vs fun v33 vs =>
 unc vs fun v34 vs =>
 unc vs fun v35 vs =>
 unc vs fun v36 vs =>
 unc vs fun v37 vs =>
 unn vs <|
 optM (binR .add .o none v37 (.i .i64 1)) fun v38 =>
 pureM (.nx [v33, v34, v35, v36, v38])
 )
 (fun id vs =>
 failM)
 (fun vs =>
 unc vs fun v39 vs =>
 unc vs fun v40 vs =>
 unn vs <|
 pureM (.rt [v39, v40])
 )
 ) (
 pureM (.ex 0 [v9])
 )
 ) [a0, a1, a2, v5, a1])
 (fun vs =>
 failM)
 (fun id vs =>
 cond (Nat.beq id 0) (
 unc vs fun v41 vs =>
 unn vs <|
 bindM (F_strings_Builder_String N Φ [v41]) fun v42 =>
 pureM (.t [v42, (.i .i64 0)])
 ) <|
 failM)
 (fun vs =>
 unc vs fun v43 vs =>
 unc vs fun v44 vs =>
 unn vs <|
 pureM (.t [v43, v44])
 )
 )
 )
def an_volume_Volume_Read : An := (.two .n (.two (.two .n (.two .n (.two (.two .n .n) .n))) (.two (.two .n (.two .n (.two (.two .n .n) .n))) (.two .n (.two (.two .n (.one (.loop [0, 1, 2, 10, 11] [(0, [10])] [6, 7] (.two (.two .n (.two .n .n)) (.two (.cut [0, 1, 2, 10, 11] [] [6, 7] (.one (.two .n (.two (.two .n (.two (.two .n .n) .n)) (.two .n (.two (.two .n (.two (.two .n .n) .n)) .n)))))) .n))))) (.two .n .n))))))

/-- corbel/corbellaw22.speaks -/
def tab_corbellaw22_speaks (N : Nat) (Φ : Calls') : Calls' := fun f => cond (Nat.beq f id_corbellaw22_geometry) (some (F_corbellaw22_geometry N Φ)) (cond (Nat.beq f id_corbellaw22_made) (some (F_corbellaw22_made N Φ)) (cond (Nat.beq f id_volume_Volume_Size) (some (F_volume_Volume_Size N Φ)) (cond (Nat.beq f id_volume_Volume_Write) (some (F_volume_Volume_Write N Φ)) (cond (Nat.beq f id_volume_Volume_Read) (some (F_volume_Volume_Read N Φ)) (Φ f)))))
def F_corbellaw22_speaks (N : Nat) (Φ : Calls') : List V → M V := fun args =>
 unn args <|
 optM (bdA 1 [(.i .i64 0), (.i .i64 0), (.i .i64 0)] []) fun v1 =>
 bindM (F_corbellaw22_geometry N Φ [v1]) fun v2 =>
 bindM (F_corbellaw22_made N Φ [v2]) fun v3 =>
 optM (exR 0 v3) fun v4 =>
 optM (exR 1 v3) fun v5 =>
 optM (exR 2 v3) fun v6 =>
 optM (unV .not v6) fun v7 =>
 iteM (some v7) (
 pureM (.b false)
 ) (
 alM (mkR 1 1 [(.i .u8 0)] (.i .i64 63) (.i .i64 63)) fun v8 =>
 rdM (bytesV v8) fun v9 =>
 optM (binR .add .o none v9 (.s [120])) fun v10 =>
 bindM (F_volume_Volume_Write N Φ [v5, (.i .i64 3), v10]) fun v11 =>
 bindM (F_volume_Volume_Read N Φ [v5, (.i .i64 2), (.i .i64 2)]) fun v12 =>
 optM (exR 0 v12) fun v13 =>
 optM (exR 1 v12) fun v14 =>
 optM (binR .eql .o none v11 (.i .i64 0)) fun v15 =>
 bindM (gdM (boolV (some v15)) true (pM (some v14))) fun v16 =>
 bindM (gdM (boolV (some v15)) true (pM (binR .eql .o none v16 (.i .i64 0)))) fun v17 =>
 optM (pickR v15 v17 (.b false)) fun v18 =>
 bindM (gdM (boolV (some v18)) true (pM (some v13))) fun v19 =>
 bindM (gdM (boolV (some v18)) true (aM (mkR 1 1 [(.i .u8 0)] (.i .i64 64) (.i .i64 64)))) fun v20 =>
 bindM (gdM (boolV (some v18)) true (rM (bytesV v20))) fun v21 =>
 bindM (gdM (boolV (some v18)) true (pM (some v10))) fun v22 =>
 bindM (gdM (boolV (some v18)) true (pM (binR .add .o none v21 v22))) fun v23 =>
 bindM (gdM (boolV (some v18)) true (pM (binR .eql .o none v19 v23))) fun v24 =>
 optM (pickR v18 v24 (.b false)) fun v25 =>
 bindM (gdM (boolV (some v25)) true (pM (some v5))) fun v26 =>
 bindM (gdM (boolV (some v25)) true (F_volume_Volume_Size N Φ [v26])) fun v27 =>
 bindM (gdM (boolV (some v25)) true (pM (binR .gtr .o none v27 (.i .i64 50)))) fun v28 =>
 optM (pickR v25 v28 (.b false)) fun v29 =>
 pureM v29
 )
def an_corbellaw22_speaks : An := (.two .n (.two .n (.two (.two .n (.two (.two .n .n) .n)) (.two .n (.two .n (.two .n (.two .n .n)))))))

/-- corbel/corbellaw22.block -/
def tab_corbellaw22_block (N : Nat) (Φ : Calls') : Calls' := fun f => Φ f
def F_corbellaw22_block (N : Nat) (Φ : Calls') : List V → M V := fun args =>
 unc args fun a0 args =>
 unn args <|
 alM (mkR 1 1 [(.i .u8 0)] (.i .i64 64) (.i .i64 64)) fun v1 =>
 lrM (
 loopM N (fun vs =>
 unc vs fun v2 vs =>
 unc vs fun v3 vs =>
 unc vs fun v4 vs =>
 unn vs <|
 optM (binR .lss .o none v4 (.i .i64 64)) fun v5 =>
 iteM (some v5) (
 optM (iaL 1 v3 v4) fun v6 =>
 bindM (stR 1 v6 v2) fun v7 =>
 optM (binR .add .o none v4 (.i .i64 1)) fun v8 =>
 pureM (.nx [v2, v3, v8])
 ) (
 pureM (.ex 0 [v3])
 )
 ) [a0, v1, (.i .i64 0)])
 (fun vs =>
 failM)
 (fun id vs =>
 cond (Nat.beq id 0) (
 unc vs fun v9 vs =>
 unn vs <|
 rdM (bytesV v9) fun v10 =>
 pureM v10
 ) <|
 failM)
 (fun vs =>
 unc vs fun v11 vs =>
 unn vs <|
 pureM v11
 )
def an_corbellaw22_block : An := (.two .n (.two .n (.two (.two .n (.one (.loop [0, 3, 4] [(0, [3])] [2] (.two (.two .n (.two .n .n)) (.two (.one .n) .n))))) (.two .n .n))))

/-- corbel/corbellaw22.all -/
def tab_corbellaw22_all (N : Nat) (Φ : Calls') : Calls' := fun f => cond (Nat.beq f id_volume_Volume_Size) (some (F_volume_Volume_Size N Φ)) (cond (Nat.beq f id_volume_Volume_Read) (some (F_volume_Volume_Read N Φ)) (Φ f))
def F_corbellaw22_all (N : Nat) (Φ : Calls') : List V → M V := fun args =>
 unc args fun a0 args =>
 unn args <|
 bindM (F_volume_Volume_Size N Φ [a0]) fun v1 =>
 bindM (F_volume_Volume_Read N Φ [a0, (.i .i64 0), v1]) fun v2 =>
 optM (exR 0 v2) fun v3 =>
 optM (exR 1 v2) fun v4 =>
 optM (binR .neq .o none v4 (.i .i64 0)) fun v5 =>
 iteM (some v5) (
 pureM .ns
 ) (
 lrM (
 loopM N (fun vs =>
 unc vs fun v6 vs =>
 unc vs fun v7 vs =>
 unc vs fun v8 vs =>
 unn vs <|
 optM (binR .mul .o none (.i .i64 64) v8) fun v9 =>
 optM (lnS v6) fun v10 =>
 optM (binR .lss .o none v9 v10) fun v11 =>
 iteM (some v11) (
 optM (binR .mul .o none (.i .i64 64) v8) fun v12 =>
 optM (binR .mul .o none (.i .i64 64) v8) fun v13 =>
 optM (binR .add .o none v13 (.i .i64 64)) fun v14 =>
 optM (slS v6 (some v12) (some v14) none) fun v15 =>
 alM (bsR 1 1 (zeros [(.s [])] 1) [(0, v15)]) fun v16 =>
 bindM (apR 9 1 16 (srL 1 v16) v7) fun v17 =>
 optM (binR .add .o none v8 (.i .i64 1)) fun v18 =>
 pureM (.nx [v6, v17, v18])
 ) (
 pureM (.ex 0 [v7])
 )
 ) [v3, .ns, (.i .i64 0)])
 (fun vs =>
 failM)
 (fun id vs =>
 cond (Nat.beq id 0) (
 unc vs fun v19 vs =>
 unn vs <|
 pureM v19
 ) <|
 failM)
 (fun vs =>
 unc vs fun v20 vs =>
 unn vs <|
 pureM v20
 )
 )
def an_corbellaw22_all : An := (.two .n (.two .n (.two (.two .n (.two (.two .n .n) .n)) (.two .n (.two (.two .n (.one (.loop [3, 5, 6] [(0, [5])] [2] (.two (.two .n (.two .n .n)) (.two (.one .n) .n))))) (.two .n .n))))))

/-- (*corbel/volume.Volume).Trim -/
def tab_volume_Volume_Trim (N : Nat) (Φ : Calls') : Calls' := fun f => cond (Nat.beq f id_volume_Volume_asked) (some (F_volume_Volume_asked N Φ)) (cond (Nat.beq f id_volume_Volume_put) (some (F_volume_Volume_put N Φ)) (Φ f))
def F_volume_Volume_Trim (N : Nat) (Φ : Calls') : List V → M V := fun args =>
 unc args fun a0 args =>
 unc args fun a1 args =>
 unc args fun a2 args =>
 unn args <|
 bindM (F_volume_Volume_asked N Φ [a0, a1, a2]) fun v1 =>
 optM (binR .neq .o none v1 (.i .i64 0)) fun v2 =>
 iteM (some v2) (
 pureM v1
 ) (
 lrM (
 loopM N (fun vs =>
 unc vs fun v3 vs =>
 unc vs fun v4 vs =>
 unc vs fun v5 vs =>
 unc vs fun v6 vs =>
 unc vs fun v7 vs =>
 unc vs fun v8 vs =>
 unn vs <|
 optM (binR .lss .o none v8 v7) fun v9 =>
 iteM (some v9) (
 optM (binR .add .o none v4 v8) fun v10 =>
 optM (bdR [(0, 1), (1, 1)] [(.i .i64 0), (.b false)] [(0, v10), (1, (.b true))]) fun v11 =>
 alM (bsR 1 2 (zeros [(.i .i64 0), (.b false)] 2) [(0, v11)]) fun v12 =>
 bindM (apR 105 2 16 (srL 2 v12) v6) fun v13 =>
 optM (binR .add .o none v8 (.i .i64 1)) fun v14 =>
 pureM (.nx [v3, v4, v5, v13, v7, v14])
 ) (
 pureM (.ex 0 [v3, v5, v6])
 )
 ) [a0, a1, a2, .ns, a2, (.i .i64 0)])
 (fun vs =>
 failM)
 (fun id vs =>
 cond (Nat.beq id 0) (
 unc vs fun v15 vs =>
 unc vs fun v16 vs =>
 unc vs fun v17 vs =>
 unn vs <|
 alM (mkR 1 16 [(.s [])] v16 v16) fun v18 =>
 bindM (F_volume_Volume_put N Φ [v15, v17, v18]) fun v19 =>
 pureM v19
 ) <|
 failM)
 (fun vs =>
 unc vs fun v20 vs =>
 unn vs <|
 pureM v20
 )
 )
def an_volume_Volume_Trim : An := (.two .n (.two (.two .n (.two .n (.two (.two .n .n) .n))) (.two .n (.two (.two .n (.one (.loop [0, 1, 2, 8, 17, 18] [(0, [0, 2, 8])] [6] (.two .n (.two (.two .n .n) (.two (.one (.two .n .n)) .n)))))) (.two .n .n)))))

/-- corbel/corbellaw22.VolumeOut -/
def tab_corbellaw22_VolumeOut (N : Nat) (Φ : Calls') : Calls' := fun f => cond (Nat.beq f id_corbellaw22_speaks) (some (F_corbellaw22_speaks N Φ)) (cond (Nat.beq f id_corbellaw22_geometry) (some (F_corbellaw22_geometry N Φ)) (cond (Nat.beq f id_corbellaw22_made) (some (F_corbellaw22_made N Φ)) (cond (Nat.beq f id_volume_Volume_Size) (some (F_volume_Volume_Size N Φ)) (cond (Nat.beq f id_volume_Volume_Write) (some (F_volume_Volume_Write N Φ)) (cond (Nat.beq f id_corbellaw22_block) (some (F_corbellaw22_block N Φ)) (cond (Nat.beq f id_corbellaw22_all) (some (F_corbellaw22_all N Φ)) (cond (Nat.beq f id_volume_Volume_Read) (some (F_volume_Volume_Read N Φ)) (cond (Nat.beq f id_volume_Volume_Trim) (some (F_volume_Volume_Trim N Φ)) (Φ f)))))))))
def F_corbellaw22_VolumeOut (N : Nat) (Φ : Calls') : List V → M V := fun args =>
 unc args fun a0 args =>
 unc args fun a1 args =>
 unc args fun a2 args =>
 unn args <|
 alM (boxR a0) fun v1 =>
 bindM (F_corbellaw22_speaks N Φ []) fun v2 =>
 optM (unV .not v2) fun v3 =>
 iteM (some v3) (
 pureM (.b false)
 ) (
 rdM (ld true 3 v1) fun v4 =>
 bindM (F_corbellaw22_geometry N Φ [v4]) fun v5 =>
 alM (alR 38 [(.i .i64 0), (.i .i64 0), (.i .i64 0), (.i .i64 0), (.i .i64 0)]) fun v6 =>
 bindM (stR 5 v6 v5) fun v7 =>
 rdM (ld true 5 v6) fun v8 =>
 bindM (F_corbellaw22_made N Φ [v8]) fun v9 =>
 optM (exR 0 v9) fun v10 =>
 optM (exR 1 v9) fun v11 =>
 optM (exR 2 v9) fun v12 =>
 optM (unV .not v12) fun v13 =>
 iteM (some v13) (
 pureM (.b false)
 ) (
 bindM (F_volume_Volume_Size N Φ [v11]) fun v14 =>
 optM (binR .sub .o none v14 (.i .i64 1)) fun v15 =>
 bindM (F_corbellaw22_block N Φ [(.i .u8 9)]) fun v16 =>
 bindM (F_volume_Volume_Write N Φ [v11, v15, v16]) fun v17 =>
 bindM (F_corbellaw22_all N Φ [v11]) fun v18 =>
 optM (binR .geq .o none a1 (.i .i64 0)) fun v19 =>
 bindM (gdM (boolV (some v19)) true (pM (some a2))) fun v20 =>
 bindM (gdM (boolV (some v19)) true (pM (binR .geq .o none v20 (.i .i64 1)))) fun v21 =>
 optM (pickR v19 v21 (.b false)) fun v22 =>
 bindM (gdM (boolV (some v22)) true (pM (some a1))) fun v23 =>
 bindM (gdM (boolV (some v22)) true (pM (some v14))) fun v24 =>
 bindM (gdM (boolV (some v22)) true (pM (binR .leq .o none v23 v24))) fun v25 =>
 optM (pickR v22 v25 (.b false)) fun v26 =>
 bindM (gdM (boolV (some v26)) true (pM (some a2))) fun v27 =>
 bindM (gdM (boolV (some v26)) true (pM (some v14))) fun v28 =>
 bindM (gdM (boolV (some v26)) true (pM (some a1))) fun v29 =>
 bindM (gdM (boolV (some v26)) true (pM (binR .sub .o none v28 v29))) fun v30 =>
 bindM (gdM (boolV (some v26)) true (pM (binR .leq .o none v27 v30))) fun v31 =>
 optM (pickR v26 v31 (.b false)) fun v32 =>
 lrM (
 optM (unV .not v32) fun v33 =>
 iteM (some v33) (
 bindM (F_volume_Volume_Read N Φ [v11, a1, a2]) fun v34 =>
 optM (exR 0 v34) fun v35 =>
 optM (exR 1 v34) fun v36 =>
 optM (binR .neq .o none v35 (.s [])) fun v37 =>
 bindM (gdM (boolV (some v37)) false (pM (some v36))) fun v38 =>
 bindM (gdM (boolV (some v37)) false (pM (binR .neq .o none v38 (.i .i64 2)))) fun v39 =>
 optM (pickR v37 (.b true) v39) fun v40 =>
 bindM (gdM (boolV (some v40)) false (pM (some v11))) fun v41 =>
 bindM (gdM (boolV (some v40)) false (pM (some a1))) fun v42 =>
 bindM (gdM (boolV (some v40)) false (pM (some a2))) fun v43 =>
 bindM (gdM (boolV (some v40)) false (F_volume_Volume_Trim N Φ [v41, v42, v43])) fun v44 =>
 bindM (gdM (boolV (some v40)) false (pM (binR .neq .o none v44 (.i .i64 2)))) fun v45 =>
 optM (pickR v40 (.b true) v45) fun v46 =>
 iteM (some v46) (
 pureM (.rt [(.b false)])
 ) (
 pureM (.nx [a1, v11, v14, v18])
 )
 ) (
 pureM (.nx [a1, v11, v14, v18])
 )
 )
 (fun vs =>
 unc vs fun v47 vs =>
 unc vs fun v48 vs =>
 unc vs fun v49 vs =>
 unc vs fun v50 vs =>
 unn vs <|
 bindM (F_volume_Volume_Write N Φ [v48, v47, (.s [120])]) fun v51 =>
 optM (binR .neq .o none v51 (.i .i64 1)) fun v52 =>
 bindM (gdM (boolV (some v52)) false (pM (some v48))) fun v53 =>
 bindM (gdM (boolV (some v52)) false (pM (some v49))) fun v54 =>
 bindM (gdM (boolV (some v52)) false (pM (binR .sub .o none v54 (.i .i64 1)))) fun v55 =>
 bindM (gdM (boolV (some v52)) false (F_corbellaw22_block N Φ [(.i .u8 1)])) fun v56 =>
 bindM (gdM (boolV (some v52)) false (F_corbellaw22_block N Φ [(.i .u8 2)])) fun v57 =>
 bindM (gdM (boolV (some v52)) false (pM (binR .add .o none v56 v57))) fun v58 =>
 bindM (gdM (boolV (some v52)) false (F_volume_Volume_Write N Φ [v53, v55, v58])) fun v59 =>
 bindM (gdM (boolV (some v52)) false (pM (binR .neq .o none v59 (.i .i64 2)))) fun v60 =>
 optM (pickR v52 (.b true) v60) fun v61 =>
 bindM (gdM (boolV (some v61)) false (pM (some v48))) fun v62 =>
 bindM (gdM (boolV (some v61)) false (F_volume_Volume_Write N Φ [v62, (.i .i64 0), (.s [])])) fun v63 =>
 bindM (gdM (boolV (some v61)) false (pM (binR .neq .o none v63 (.i .i64 2)))) fun v64 =>
 optM (pickR v61 (.b true) v64) fun v65 =>
 bindM (gdM (boolV (some v65)) false (pM (some v48))) fun v66 =>
 bindM (gdM (boolV (some v65)) false (F_corbellaw22_block N Φ [(.i .u8 1)])) fun v67 =>
 bindM (gdM (boolV (some v65)) false (F_volume_Volume_Write N Φ [v66, (.i .i64 (-1)), v67])) fun v68 =>
 bindM (gdM (boolV (some v65)) false (pM (binR .neq .o none v68 (.i .i64 2)))) fun v69 =>
 optM (pickR v65 (.b true) v69) fun v70 =>
 iteM (some v70) (
 pureM (.b false)
 ) (
 bindM (F_corbellaw22_all N Φ [v48]) fun v71 =>
 lrM (
 loopM N (fun vs =>
 unc vs fun v72 vs =>
 unc vs fun v73 vs =>
 unc vs fun v74 vs =>
 unc vs fun v75 vs =>
 unn vs <|
 optM (binR .lss .o none v75 v72) fun v76 =>
 iteM (some v76) (
 optM (lnL v74) fun v77 =>
 optM (binR .neq .o none v77 v72) fun v78 =>
 bindM (gdM (boolV (some v78)) false (pM (some v74))) fun v79 =>
 bindM (gdM (boolV (some v78)) false (pM (some v75))) fun v80 =>
 bindM (gdM (boolV (some v78)) false (pM (iaL 1 v79 v80))) fun v81 =>
 bindM (gdM (boolV (some v78)) false (rM (ld false 1 v81))) fun v82 =>
 bindM (gdM (boolV (some v78)) false (pM (some v73))) fun v83 =>
 bindM (gdM (boolV (some v78)) false (pM (some v75))) fun v84 =>
 bindM (gdM (boolV (some v78)) false (pM (iaL 1 v83 v84))) fun v85 =>
 bindM (gdM (boolV (some v78)) false (rM (ld false 1 v85))) fun v86 =>
 bindM (gdM (boolV (some v78)) false (pM (binR .neq .o none v82 v86))) fun v87 =>
 optM (pickR v78 (.b true) v87) fun v88 =>
 iteM (some v88) (
 pureM (.rt [(.b false)])
 ) (
 optM (binR .add .o none v75 (.i .i64 1)) fun v89 =>
 pureM (.nx [v72, v73, v74, v89])
 )
 ) (
 pureM (.ex 0 [])
 )
 ) [v49, v50, v71, (.i .i64 0)])
 (fun vs =>
 failM)
 (fun id vs =>
 cond (Nat.beq id 0) (
 unn vs <|
 pureM (.b true)
 ) <|
 failM)
 (fun vs =>
 unc vs fun v90 vs =>
 unn vs <|
 pureM v90
 )
 )
 )
 (fun id vs =>
 failM)
 (fun vs =>
 unc vs fun v91 vs =>
 unn vs <|
 pureM v91
 )
 )
 )
def an_corbellaw22_VolumeOut : An := (.two .n (.two (.two .n (.two (.two .n .n) .n)) (.two .n (.two .n (.two (.two .n (.two (.two .n .n) .n)) (.two .n (.two .n (.two .n (.two .n (.two (.cut [1, 9, 11, 12] [] [6] (.two .n (.two (.two .n (.two .n (.two (.two .n .n) .n))) .n))) (.two (.two .n (.two (.two .n .n) .n)) (.two .n (.two (.two .n (.one (.loop [11, 12, 16, 17] [(0, [])] [6] (.two (.two .n (.two .n .n)) (.two (.one (.two .n (.two (.two .n .n) .n))) .n))))) (.two .n .n))))))))))))))

end Go.Cb.Sh
