/- What the functions that were lifted by hand come to, at this program. -/
import Derived.Test.YthpapfgdjdjcfaaGreatDoorCbShJ
import Derived.Test.YthpapfgdjdjcfaaGreatDoorCbShBE
import Derived.Test.YthpapfgdjdjcfaaGreatDoorCbShA
import Derived.Test.YthpapfgdjdjcfaaGreatDoorCbShW
import Derived.Test.YthpapfgdjdjcfaaGreatDoorCbShI
set_option linter.unusedVariables false
set_option linter.unusedSimpArgs false
namespace Go.Cb.Sh
open Go.Cb Go.RowKit Go.Proofs

/-- At the start the table of sums is laid. -/
structure Start (W0 : World) : Prop where
  size : 0 < W0.heap.size
  nibs : ∀ i, i < 16 → W0.cell? ⟨0, i, none⟩ = some (.int .u32 (nibAt i))

theorem mixed : Tryz.prog.follows .mixedOrders = true := by kernel_rfl

variable {W0 : World}

theorem crcStep_good (hW : Start W0) : Good Tryz.prog W0 291 crcStepM := by
  refine ⟨entered_spec (by kernel_rfl), sound_pure fun args h v h' hr => ?_⟩
  unfold crcStepM at hr
  split at hr <;> first | (cases hr; done) | skip
  rename_i c
  cases hc : Nat.blt c 4294967296 with
  | false => rw [hc] at hr; cases hr
  | true =>
  rw [hc] at hr
  cases hr
  refine ⟨rfl, fun μ w cargs s ha => ?_⟩
  obtain ⟨x, rfl, hx⟩ := one_arg ha
  simp only [VR] at hx
  subst hx
  refine (crcStep_walk c w (by rwa [Nat.blt_eq] at hc) (fun i hi => (s.bel.cell (p := ⟨0, i, none⟩) hW.size).trans (hW.nibs i hi))).mono ?_
  rintro e w' ⟨rfl, rfl⟩
  exact ⟨_, rfl, by simp [VR], Below.refl _ _⟩

theorem crcSum_good (hW : Start W0) : Good Tryz.prog W0 252 crcSumM := by
  have g := good_of_eq (P := Tryz.prog) (W0 := W0) (tab := ShB.tab_crc_Sum 100000 (fun _ => none)) (N := 100000) (f := 252) (ar := 1) (an := ShB.an_crc_Sum) mixed (by kernel_rfl) (ShB.E_crc_Sum 100000 _) (AllGood.cond (crcStep_good hW) AllGood.none)
  exact ⟨g.1, sound_of_run g.2 fun args h r hr => ShB.crcSum_run 100000 _ (by omega) hr⟩

theorem numsGet_good : Good Tryz.prog W0 301 getM := by
  have g := good_of_eq (P := Tryz.prog) (W0 := W0) (tab := ShB.tab_nums_Get 100000 (fun _ => none)) (N := 100000) (f := 301) (ar := 1) (an := ShB.an_nums_Get) mixed (by kernel_rfl) (ShB.E_nums_Get 100000 _) AllGood.none
  exact ⟨g.1, sound_of_run g.2 fun args h r hr => ShB.get_run 100000 _ (by omega) hr⟩

theorem numsPut_good : Good Tryz.prog W0 251 putM := by
  have g := good_of_eq (P := Tryz.prog) (W0 := W0) (tab := ShB.tab_nums_Put 100000 (fun _ => none)) (N := 100000) (f := 251) (ar := 2) (an := ShB.an_nums_Put) mixed (by kernel_rfl) (ShB.E_nums_Put 100000 _) AllGood.none
  exact ⟨g.1, sound_of_garbage g.2 fun args h v h' hr => ShB.put_run 100000 _ (by omega) hr⟩

theorem repeat_good : Good Tryz.prog W0 113 repeatM := ⟨entered_spec (by kernel_rfl), repeat_sound Tryz.lays105 Tryz.X105⟩
theorem trim_good : Good Tryz.prog W0 309 trimM := ⟨entered_spec (by kernel_rfl), trim_sound Tryz.lays160⟩
theorem copyCheck_good : Good Tryz.prog W0 112 (copyCheckM 109) := ⟨entered_spec (by kernel_rfl), copyCheck_sound Tryz.lays240 Tryz.X105.toX72⟩
theorem bstring_good : Good Tryz.prog W0 52 (bstringM 109 5) := ⟨entered_spec (by kernel_rfl), bstring_sound Tryz.lays169 Tryz.X169⟩

theorem X156 : Builder.Extra Tryz.prog Tryz.lays156_ren := {
  sizeBuilder := by kernel_rfl
  liesBuilder := by kernel_rfl
  t5 := Tryz.underlying5
  a5 := Tryz.isAgg5
  z5 := Tryz.sizeOf5
  v5 := Tryz.zeroValue5
  infoByte := by kernel_rfl
  cellsByte := by kernel_rfl
  sizeByte := by kernel_rfl
  neB5 := by decide }

theorem joinL_eq (sep : List UInt8) : ∀ ls, joinL sep ls = Lib.join ls sep
  | [] => rfl
  | [l] => by simp [joinL, Lib.join, List.intercalate]
  | l :: m :: ls => by
    have := joinL_eq sep (m :: ls)
    simp only [joinL, this, Lib.join, List.intercalate, List.intersperse, List.flatten_cons]

theorem join_good : Good Tryz.prog W0 249 joinM := by
  refine ⟨entered_spec (by kernel_rfl), sound_pure fun args h v h' hr => ?_⟩
  unfold joinM at hr
  split at hr <;> first | (cases hr; done) | skip
  · rename_i sep
    cases hr
    refine ⟨rfl, fun μ w cargs s ha => ?_⟩
    obtain ⟨x, y, rfl, hx, hy⟩ := two_args ha
    simp only [VR] at hx hy
    subst hx; subst hy
    refine (Any.strings_Join_none Tryz.lays156 X156 none 0 _ w).mono ?_
    rintro e w' ⟨rfl, rfl⟩
    exact ⟨_, rfl, by simp [VR], Below.refl _ _⟩
  · rename_i id off len cap ex sep
    split at hr <;> first | (cases hr; done) | skip
    rename_i vs hrd
    split at hr <;> first | (cases hr; done) | skip
    rename_i ls hls
    cases hc : (Nat.ble len 65536 && Nat.ble (joinL sep ls).length 140737488355328) with
    | false => rw [hc] at hr; cases hr
    | true =>
    rw [hc] at hr
    cases hr
    simp only [Bool.and_eq_true, Nat.ble_eq] at hc
    refine ⟨rfl, fun μ w cargs s ha => ?_⟩
    obtain ⟨x, y, rfl, hx, hy⟩ := two_args ha
    simp only [VR] at hx hy
    subst hy
    obtain ⟨L, ca, cc, hL, rfl, hok⟩ := hx
    obtain ⟨g1, g2⟩ := ShB.strsOf_get hls
    obtain ⟨ho, hvl, l, hl, hcells⟩ := rdCells_spec s hL hrd
    have hlen : ls.length = len := by rw [← g1]; simpa using hvl
    obtain ⟨o1, o2, o3, o4, o5⟩ := hok
    have hcell : ∀ (j : Nat) x, (ls.map fun l => (⟨⟨l⟩⟩ : ByteArray))[j]? = some x → w.cell? ⟨L.blk, ca + j, none⟩ = some (.string x) := by
      intro j x hx
      rw [List.getElem?_map] at hx
      cases hj : ls[j]? with
      | none => rw [hj] at hx; cases hx
      | some y =>
        rw [hj] at hx
        cases hx
        have hjl : j < ls.length := (List.getElem?_eq_some_iff.1 hj).1
        have hv := g2 j hjl
        obtain ⟨c, hc, hvr⟩ := hl.get hv
        have := hcells j c hc
        obtain ⟨rfl, _⟩ := o5 (by omega)
        simp only [VR] at hvr
        subst hvr
        rw [this]
        have : ls[j] = y := by rw [List.getElem?_eq_getElem hjl] at hj; exact Option.some.inj hj
        rw [this]
    have hmap : (ls.map fun l => (⟨⟨l⟩⟩ : ByteArray)).map (·.data.toList) = ls := by rw [List.map_map]; exact List.map_id _
    have := Any.strings_Join Tryz.lays156 X156 L.blk ca cc (ls.map fun l => (⟨⟨l⟩⟩ : ByteArray)) ⟨⟨sep⟩⟩ w hcell (s.blk _ _ hL) (by simp; omega) (by simp; omega) (by rw [hmap]; have := joinL_eq sep ls; rw [← this]; exact hc.2)
    rw [hmap] at this
    rw [List.length_map, hlen] at this
    refine this.mono ?_
    rintro e w' ⟨rfl, hb⟩
    exact ⟨_, rfl, by simp [VR, joinL_eq], hb⟩

theorem intsOf_get : ∀ {vs : List V} {zs : List Int}, intsOf vs = some zs → vs.length = zs.length ∧ ∀ (k : Nat) (hk : k < zs.length), vs[k]? = some (V.i .i64 zs[k])
  | [], zs, h => by cases h; exact ⟨rfl, fun k hk => absurd hk (Nat.not_lt_zero _)⟩
  | v :: vs, zs, h => by
    unfold intsOf at h
    split at h <;> first | (cases h; done) | skip
    · rename_i e; cases e
    · rename_i z vs' e
      cases e
      split at h <;> first | (cases h; done) | skip
      rename_i zs' hz
      cases h
      obtain ⟨h1, h2⟩ := intsOf_get hz
      refine ⟨by simp [h1], fun k hk => ?_⟩
      cases k with
      | zero => rfl
      | succ k => simpa using h2 k (by simpa using hk)

theorem appendSeq_good : Good Tryz.prog W0 310 (appendSeqM 304) := by
  refine ⟨entered_spec (by kernel_rfl), ?_⟩
  intro args h v h' hr μ w cargs s ha
  unfold appendSeqM at hr
  split at hr <;> first | (cases hr; done) | skip
  rename_i fn id off
  cases hf : Nat.beq fn 304 with
  | false => rw [hf] at hr; cases hr
  | true =>
  rw [hf] at hr
  obtain rfl := Nat.eq_of_beq_eq_true hf
  simp only [cond_true] at hr
  split at hr <;> first | (cases hr; done) | skip
  rename_i i o n cap ex hrc
  split at hr <;> first | (cases hr; done) | skip
  rename_i vs hrd
  split at hr <;> first | (cases hr; done) | skip
  rename_i zs hzs
  cases hc : (Nat.blt 0 n && Nat.ble n 1048576) with
  | false => rw [hc] at hr; cases hr
  | true =>
  rw [hc] at hr
  cases hr
  simp only [Bool.and_eq_true, Nat.ble_eq, Nat.blt_eq] at hc
  obtain ⟨x, y, rfl, hx, hy⟩ := two_args ha
  simp only [VR, VRs] at hx hy
  obtain ⟨l1, l2, rfl, rfl, c, cs, rfl, ⟨L, hL, rfl⟩, rfl⟩ := hy
  subst hx
  obtain ⟨_, cv, hcv, hvr⟩ := rdCell_spec s hL hrc
  simp only [VR] at hvr
  obtain ⟨L2, ca, cc, hL2, rfl, hok⟩ := hvr
  obtain ⟨o1, o2, o3, o4, o5⟩ := hok
  obtain ⟨rfl, hlim⟩ := o5 (by omega)
  obtain ⟨ho, hvl, l, hl, hcells⟩ := rdCells_spec s hL2 hrd
  obtain ⟨g1, g2⟩ := intsOf_get hzs
  have hzl : zs.length = n := by rw [← g1]; exact hvl
  have hxs : ∀ k (hk : k < zs.length), w.cell? ⟨L2.blk, L2.base + o + k, none⟩ = some (.int .i64 (zs[k]'hk)) := by
    intro k hk
    obtain ⟨c, hc, hv⟩ := hl.get (g2 k hk)
    have := hcells k c hc
    simp only [VR] at hv
    subst hv
    exact this
  have walk := Tryz.appendSeq_values L.blk (L.base + off) L2.blk (L2.base + o) cc zs w (s.blk _ _ hL) (s.blk _ _ hL2) (by omega) (by rw [hzl]; exact hcv) hxs
  refine walk.mono ?_
  rintro e w' ⟨v, rfl, ⟨hxl, hown⟩, hnil, hb⟩
  have hne : v ≠ .slice none 0 0 := fun e => by
    have := hnil.1 e
    rw [this] at hzl; simp at hzl; omega
  rcases hown with ⟨e, _⟩ | ⟨g, cap', cur, rfl, hge, hgb, hnc, hcm, hcs, htake⟩
  · exact absurd e hne
  · have hi : μ h.next = none := by
      cases hm : μ h.next with
      | none => rfl
      | some L => exact absurd (s.lt _ _ hm) (Nat.lt_irrefl _)
    have sb := s.below hb
    have hgs : g < w'.heap.size := by
      rcases Nat.lt_or_ge g w'.heap.size with h | h
      · exact h
      · rw [Array.getElem?_eq_none h] at hgb; cases hgb
    have hgo : ∀ i L, μ i = some L → L.blk ≠ g := fun i L hi e => by have := s.blk i L hi; omega
    have hvn : vs.length = n := by rw [g1, hzl]
    refine ⟨_, μ.put h.next ⟨g, 0, cap'⟩, rfl, ?_, fun i hi => put_old hi, ?_, by simp⟩
    · simp only [VR]
      exact ⟨_, 0, cap', Mu.put_same _ _ _, by rw [hzl], by omega, by omega, Nat.le_refl _, fun h => (by cases h), fun _ => ⟨rfl, by simp⟩⟩
    · refine ⟨fun j M hj => ?_, fun j M hj => ?_, fun j M ob hj hob => ?_, fun j k M M' o1 o2 hj hk h1 h2 hbk hjk v1 v2 => ?_, sb.bel⟩
      · by_cases e : j = h.next
        · subst e; simp
        · rw [Mu.put_ne _ _ e] at hj; have := s.lt j M hj; simp; omega
      · by_cases e : j = h.next
        · subst e; rw [Mu.put_same] at hj; cases hj; exact hgs
        · rw [Mu.put_ne _ _ e] at hj; exact sb.blk j M hj
      · by_cases e : j = h.next
        · subst e
          rw [Mu.put_same] at hj; cases hj
          rw [H.get_new_same] at hob; cases hob
          refine ⟨cur, _, (0, 0), hgb, by simp; omega, by simp only; omega, fun k v hv => ?_, fun _ => ⟨Nat.le_trans s.size hge, rfl⟩, by rintro e x ⟨⟩⟩
          have hk : k < zs.length := by rw [← g1]; exact (List.getElem?_eq_some_iff.1 hv).1
          have hv2 := g2 k hk
          rw [hv] at hv2
          cases hv2
          refine ⟨rfl, .int .i64 zs[k], ?_, by simp [VR]⟩
          have ht : (cur.toList.take (zs.length * 1))[k]? = some (.int .i64 zs[k]) := by
            rw [htake, List.getElem?_map, List.getElem?_eq_getElem hk]; rfl
          rw [List.getElem?_take, if_pos (by omega)] at ht
          simpa using ht
        · rw [Mu.put_ne _ _ e] at hj
          rw [H.get_new_ne _ _ e] at hob
          exact (sb.ob j M ob hj hob).mono (Mu.le_put hi)
      · by_cases ej : j = h.next
        · subst ej
          rw [Mu.put_same] at hj; cases hj
          rw [Mu.put_ne _ _ (Ne.symm hjk)] at hk
          exact absurd hbk.symm (hgo k M' hk)
        · rw [Mu.put_ne _ _ ej] at hj
          rw [H.get_new_ne _ _ ej] at h1
          by_cases ek : k = h.next
          · subst ek
            rw [Mu.put_same] at hk; cases hk
            exact absurd hbk (hgo j M hj)
          · rw [Mu.put_ne _ _ ek] at hk
            rw [H.get_new_ne _ _ ek] at h2
            exact s.inj j k M M' o1 o2 hj hk h1 h2 hbk hjk v1 v2
end Go.Cb.Sh
