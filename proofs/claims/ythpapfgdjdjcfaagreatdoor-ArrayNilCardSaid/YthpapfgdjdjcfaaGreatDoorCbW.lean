/- strings.Builder's copyCheck and String on the abstract machine. -/
import Derived.Test.YthpapfgdjdjcfaaGreatDoorCbV
import Derived.Shelf.Strings.Builder1
set_option linter.unusedVariables false
set_option linter.unusedSimpArgs false
namespace Go.Cb
open Go.RowKit Go.Shelf Go.Proofs

def bytesL : List V → Option (List UInt8)
  | [] => some []
  | .i .u8 (.ofNat n) :: vs => cond (Nat.blt n 256) (match bytesL vs with
    | some l => some (UInt8.ofNat n :: l)
    | none => none) none
  | _ :: _ => none

def copyCheckM (T : Nat) (args : List V) : M V := fun h => match args with
  | [.p id off] => match h.get id with
    | some (.c false (some (t, true)) [a, _]) => cond (Nat.beq t T && Nat.beq off 0) (match a with
      | .pn => match wrCells h id 0 [.p id 0] with
        | some h' => some (.t [], h')
        | none => none
      | .p id' off' => cond (Nat.beq id' id && Nat.beq off' 0) (some (.t [], h)) none
      | _ => none) none
    | _ => none
  | _ => none

def bstringM (T e : Nat) (args : List V) : M V := fun h => match args with
  | [.p id off] => match h.get id with
    | some (.c false (some (t, true)) [_, s]) => cond (Nat.beq t T && Nat.beq off 0) (match s with
      | .ns => some (.s [], h)
      | .sl i o n _ _ _ => match h.get i with
        | some (.c false (some (t', _)) cs) => cond (Nat.beq t' e && Nat.beq o 0 && Nat.blt 0 n && Nat.ble n cs.length && Nat.ble n 4611686018427387904) (match bytesL (cs.take n) with
          | some l => some (.s l, h.set i (.c true (some (t', false)) cs))
          | none => none) none
        | _ => none
      | _ => none) none
    | _ => none
  | _ => none

variable {P : Program} {ρ : Ren} {W0 : World}

set_option maxHeartbeats 2000000 in
set_option maxRecDepth 100000 in
theorem string_walk (L : Lays.n169 P ρ) (X : Builder.Extra P ρ) (b g cap cells : Nat) (l : List UInt8) (w : World) (h0 : l ≠ []) (c1 : w.cell? ⟨b, 1, none⟩ = some (.slice (some ⟨g, 0, none⟩) l.length cap)) (hcap : cap ≠ 0)
    (hsh : w.shape? g = some (ρ.t 5, cells)) (hn : l.length ≤ cells) (h63 : l.length ≤ 9223372036854775807) (hcell : ∀ j x, l[j]? = some x → w.cell? ((⟨g, 0, none⟩ : Addr).add j) = some (.int .u8 x.toNat)) :
    Calls P (ρ.f 169) #[.pointer (some ⟨b, 0, none⟩)] w fun e w' => e = .returned (.string ⟨l.toArray⟩) ∧ w' = w.drew.freeze ⟨g, 0, none⟩ l.length := by
  have c1' : w.drew.cell? ⟨b, 1, none⟩ = some (.slice (some ⟨g, 0, none⟩) l.length cap) := c1
  clear c1
  have c1 := c1'
  have hSD : (Builtin.unsafeSliceData_ #[(ρ.t 37)] (ρ.t 127) #[.slice (some ⟨g, 0, none⟩) l.length cap]).run P w.drew = .ok (.pointer (some ⟨g, 0, none⟩)) w.drew :=
    Lib.run_unsafeSliceData_row _ _ _ _ _ _ hcap
  have hUS : (Builtin.unsafeString_ #[(ρ.t 127), (ρ.t 3)] (ρ.t 9) #[.pointer (some ⟨g, 0, none⟩), .int .i64 l.length]).run P w.drew = .ok (.string ⟨l.toArray⟩) (w.drew.freeze ⟨g, 0, none⟩ l.length) :=
    Lib.run_unsafeString_row w.drew (ρ.t 127) (ρ.t 3) (ρ.t 9) (ρ.t 5) L.t127 X.cellsByte g cells hsh l h0 hn h63 hcell
  clear hcap hsh hn h63 hcell h0
  have mixed := L.mixed
  have t72 := L.t72; have a72 := L.a72; have z72 := L.z72; have v72 := L.v72; have u72 := run_underlying L.t72
  have t70 := L.t70; have a70 := L.a70; have z70 := L.z70; have v70 := L.v70; have u70 := run_underlying L.t70
  have t37 := L.t37; have a37 := L.a37; have z37 := L.z37; have v37 := L.v37; have u37 := run_underlying L.t37
  have t127 := L.t127; have a127 := L.a127; have z127 := L.z127; have v127 := L.v127; have u127 := run_underlying L.t127
  have t3 := L.t3; have a3 := L.a3; have z3 := L.z3; have v3 := L.v3; have u3 := run_underlying L.t3
  have t9 := L.t9; have a9 := L.a9; have z9 := L.z9; have v9 := L.v9; have u9 := run_underlying L.t9
  have t5 := X.t5; have a5 := X.a5; have z5 := X.z5; have v5 := X.v5; have u5 := run_underlying X.t5
  go_enter L.f169, Body.n169_ntmps ρ
  go_wp2
  go_region_o
  all_goals (go_wp2; go_ret; exact ⟨rfl, rfl⟩)

theorem frozen_none {w : World} {g : Nat} {arr : Array Value} {t : TypeId} {o : Nat} (h : w.heap[g]? = some (.cells arr t (0, 0))) : w.frozen? ⟨g, o, none⟩ = false := by
  simp [World.frozen?, h]

theorem copyCheck_sound (L : Lays.n240 P ρ) (X : Builder.X72 P ρ) : Sound P W0 (ρ.f 240) (copyCheckM (ρ.t 72)) := by
  intro args h v h' hr μ w cargs s ha
  unfold copyCheckM at hr
  split at hr <;> first | (cases hr; done) | skip
  rename_i id off
  split at hr <;> first | (cases hr; done) | skip
  rename_i t a b2 hg
  cases hc : (Nat.beq t (ρ.t 72) && Nat.beq off 0) with
  | false => rw [hc] at hr; cases hr
  | true =>
  rw [hc] at hr
  simp only [cond_true] at hr
  simp only [Bool.and_eq_true] at hc
  obtain rfl := Nat.eq_of_beq_eq_true hc.1
  obtain rfl := Nat.eq_of_beq_eq_true hc.2
  obtain ⟨c, cs, hl, hp, hcs⟩ : ∃ c cs, cargs.toList = c :: cs ∧ VR μ (.p id 0) c ∧ VRs μ [] cs := by
    simpa only [VRs] using ha
  simp only [VRs] at hcs
  subst hcs
  simp only [VR] at hp
  obtain ⟨Lo, hL, rfl⟩ := hp
  obtain ⟨arr, t, fr, h1, h2, h3, h4, h5, h6⟩ := s.ob id Lo _ hL hg
  obtain ⟨rfl, hb0, hsz⟩ := h6 _ _ rfl
  obtain ⟨hlow, rfl⟩ := h5 rfl
  have hsz := hsz rfl
  simp only [List.length_cons, List.length_nil] at hsz
  have hargs : cargs = #[.pointer (some ⟨Lo.blk, 0, none⟩)] := by
    apply Array.ext'; rw [hl, hb0]
  subst hargs
  obtain ⟨-, c0, hc0, hv0⟩ := h4 0 a rfl
  rw [hb0] at hc0
  have hcell : w.cell? ⟨Lo.blk, 0, none⟩ = some c0 := by simpa [World.cell?, h1] using hc0
  cases a <;> simp only at hr <;> first | (cases hr; done) | skip
  case pn =>
    simp only [VR] at hv0
    subst hv0
    split at hr <;> first | (cases hr; done) | skip
    rename_i h2' hw
    cases hr
    have hsh : w.shape? Lo.blk = some (ρ.t 72, 2) := by simp [World.shape?, h1, hsz]
    refine (Any.Builder_copyCheck_fresh L X Lo.blk w hcell hsh (frozen_none h1)).mono ?_
    rintro e w' ⟨rfl, rfl⟩
    have hvr : VRs μ [.p id 0] [.pointer (some ⟨Lo.blk, 0, none⟩)] := VRs.cons (by simp only [VR]; exact ⟨Lo, hL, by rw [hb0]⟩) VRs.nil
    obtain ⟨hnx, w2, hst, hs⟩ := wrCells_sound (P := P) s hL hw hvr
    have hw2 : w2 = w.setCell ⟨Lo.blk, 0, none⟩ (.pointer (some ⟨Lo.blk, 0, none⟩)) := by
      have hz : w.frozen? ⟨Lo.blk, 0, none⟩ = false := frozen_none h1
      rw [hb0] at hst
      simp only [storeCells, Sem.run_bind, Nat.add_zero] at hst
      have ea : (⟨Lo.blk, 0, none⟩ : Addr).add 0 = ⟨Lo.blk, 0, none⟩ := by simp [Addr.add]
      rw [ea, run_store (P := P) (hv := rfl), hcell] at hst
      simp [hz] at hst
      exact hst.symm
    rw [← hw2]
    exact ⟨_, μ, rfl, by simp [VR, VRs], fun _ _ => rfl, hs, by rw [hnx]; exact Nat.le_refl _⟩
  case p id' off' =>
    cases hc : (Nat.beq id' id && Nat.beq off' 0) with
    | false => rw [hc] at hr; cases hr
    | true =>
    rw [hc] at hr
    simp only [cond_true] at hr
    cases hr
    simp only [Bool.and_eq_true] at hc
    obtain rfl := Nat.eq_of_beq_eq_true hc.1
    obtain rfl := Nat.eq_of_beq_eq_true hc.2
    simp only [VR] at hv0
    obtain ⟨L2, hL2, rfl⟩ := hv0
    rw [hL] at hL2; cases hL2
    rw [hb0] at hcell
    refine (Any.Builder_copyCheck_used L X Lo.blk w hcell).mono ?_
    rintro e w' ⟨rfl, rfl⟩
    exact ⟨_, μ, rfl, by simp [VR, VRs], fun _ _ => rfl, s, Nat.le_refl _⟩

theorem bytesL_spec : ∀ {vs : List V} {l : List UInt8}, bytesL vs = some l → vs.length = l.length ∧ ∀ (j : Nat) (x : UInt8), l[j]? = some x → vs[j]? = some (V.i .u8 x.toNat)
  | [], l, h => by cases h; exact ⟨rfl, fun j x hx => (by cases hx)⟩
  | v :: vs, l, h => by
    unfold bytesL at h
    split at h <;> first | (cases h; done) | skip
    · rename_i e; cases e
    · rename_i n vs' e
      cases e
      cases hb : Nat.blt n 256 with
      | false => rw [hb] at h; cases h
      | true =>
        rw [hb] at h
        simp only [cond_true] at h
        split at h <;> first | (cases h; done) | skip
        rename_i l' hl'
        cases h
        obtain ⟨h1, h2⟩ := bytesL_spec hl'
        refine ⟨by simp [h1], fun j x hx => ?_⟩
        cases j with
        | zero =>
          simp only [List.getElem?_cons_zero, Option.some.injEq] at hx ⊢
          subst hx
          have hlt : n < 256 := by rwa [Nat.blt_eq] at hb
          simp [UInt8.toNat_ofNat, Nat.mod_eq_of_lt hlt]
        | succ j => simpa using h2 j x (by simpa using hx)

theorem freeze_heap_ne (w : World) (a : Addr) (n k : Nat) (h : k ≠ a.block) : (w.freeze a n).heap[k]? = w.heap[k]? := by
  unfold World.freeze
  split
  · rfl
  · simp only [Array.getElem?_modify]
    rw [if_neg (by omega)]
theorem freeze_heap_eq (w : World) (a : Addr) (n : Nat) {arr : Array Value} {t : TypeId} {fr : Nat × Nat} (h : w.heap[a.block]? = some (.cells arr t fr)) : ∃ fr', (w.freeze a n).heap[a.block]? = some (.cells arr t fr') := by
  unfold World.freeze
  split
  · exact ⟨fr, h⟩
  · simp only [Array.getElem?_modify, if_true, h, Option.map_some]
    exact ⟨_, rfl⟩
theorem freeze_heap_size (w : World) (a : Addr) (n : Nat) : (w.freeze a n).heap.size = w.heap.size := by
  unfold World.freeze
  split <;> simp

/-- Cells that are read from now on, and no longer written. -/
theorem Sim.frozen {μ : Mu} {h : H} {w : World} (s : Sim W0 μ h w) {id : Nat} {L : Loc} {tg tg' : Option (Nat × Bool)} {cs : List V} (hL : μ id = some L) (hg : h.get id = some (.c false tg cs)) (htg : ∀ e x, tg' = some (e, x) → x = false ∧ ∃ y, tg = some (e, y)) (a n : Nat) :
    Sim W0 μ (h.set id (.c true tg' cs)) (w.freeze ⟨L.blk, a, none⟩ n) := by
  obtain ⟨arr, t, fr, h1, h2, h3, h4, h5, h6⟩ := s.ob id L _ hL hg
  obtain ⟨hlow, rfl⟩ := h5 rfl
  refine ⟨s.lt, fun i M hi => by rw [freeze_heap_size]; exact s.blk i M hi, fun i M o hi ho => ?_, fun i j M M' o o' hi hj ho ho' hb hne v1 v2 => ?_, Lib.below_freeze s.bel (p := ⟨L.blk, a, none⟩) hlow n⟩
  · by_cases hid : i = id
    · subst hid
      rw [hL] at hi; cases hi
      cases H.get_set_inv ho
      obtain ⟨fr', hf⟩ := freeze_heap_eq w ⟨L.blk, a, none⟩ n h1
      refine ⟨arr, t, fr', hf, h2, h3, h4, fun h => (by cases h), fun e x he => ?_⟩
      obtain ⟨hx, y, hy⟩ := htg e x he
      obtain ⟨g1, g2, _⟩ := h6 _ _ hy
      exact ⟨g1, g2, fun h => by rw [hx] at h; cases h⟩
    · rw [H.get_set_ne _ _ hid] at ho
      by_cases hbk : M.blk = L.blk
      · cases ov : o.live with
        | false => cases o <;> first | trivial | cases ov
        | true =>
          have := (s.inj i id M L o _ hi hL ho hg hbk hid ov rfl).2
          cases this
      · exact (s.ob i M o hi ho).of_block (freeze_heap_ne _ _ _ _ hbk)
  · have nope : ∀ k M o, μ k = some M → h.get k = some o → k ≠ id → o.live = true → M.blk = L.blk → False := by
      intro k M o hk hko hkn ov hbk
      have := (s.inj k id M L o _ hk hL hko hg hbk hkn ov rfl).2
      cases this
    by_cases hi1 : i = id
    · subst hi1
      rw [hL] at hi; cases hi
      have hj1 : j ≠ i := fun e => hne e.symm
      rw [H.get_set_ne _ _ hj1] at ho'
      exact (nope j M' o' hj ho' hj1 v2 hb.symm).elim
    · by_cases hj1 : j = id
      · subst hj1
        rw [hL] at hj; cases hj
        rw [H.get_set_ne _ _ hi1] at ho
        exact (nope i M o hi ho hi1 v1 hb).elim
      · rw [H.get_set_ne _ _ hi1] at ho
        rw [H.get_set_ne _ _ hj1] at ho'
        exact s.inj i j M M' o o' hi hj ho ho' hb hne v1 v2

theorem bstring_sound (L : Lays.n169 P ρ) (X : Builder.Extra P ρ) : Sound P W0 (ρ.f 169) (bstringM (ρ.t 72) (ρ.t 5)) := by
  intro args h v h' hr μ w cargs s ha
  unfold bstringM at hr
  split at hr <;> first | (cases hr; done) | skip
  rename_i id off
  split at hr <;> first | (cases hr; done) | skip
  rename_i t a s2 hg
  cases hc : (Nat.beq t (ρ.t 72) && Nat.beq off 0) with
  | false => rw [hc] at hr; cases hr
  | true =>
  rw [hc] at hr
  simp only [cond_true] at hr
  simp only [Bool.and_eq_true] at hc
  obtain rfl := Nat.eq_of_beq_eq_true hc.1
  obtain rfl := Nat.eq_of_beq_eq_true hc.2
  obtain ⟨c, cs, hl, hp, hcs⟩ : ∃ c cs, cargs.toList = c :: cs ∧ VR μ (.p id 0) c ∧ VRs μ [] cs := by
    simpa only [VRs] using ha
  simp only [VRs] at hcs
  subst hcs
  simp only [VR] at hp
  obtain ⟨Lo, hL, rfl⟩ := hp
  obtain ⟨arr, t, fr, h1, h2, h3, h4, h5, h6⟩ := s.ob id Lo _ hL hg
  obtain ⟨rfl, hb0, hsz⟩ := h6 _ _ rfl
  have hsz := hsz rfl
  simp only [List.length_cons, List.length_nil] at hsz
  have hargs : cargs = #[.pointer (some ⟨Lo.blk, 0, none⟩)] := by
    apply Array.ext'; rw [hl, hb0]
  subst hargs
  obtain ⟨-, c1, hc1, hv1⟩ := h4 1 s2 rfl
  obtain ⟨hlow, rfl⟩ := h5 rfl
  rw [hb0] at hc1
  have hcell : w.cell? ⟨Lo.blk, 1, none⟩ = some c1 := by simpa [World.cell?, h1] using hc1
  cases s2 <;> simp only at hr <;> first | (cases hr; done) | skip
  case ns =>
    cases hr
    simp only [VR] at hv1
    subst hv1
    have hsize : arr = #[arr[0]'(by omega), .slice none 0 0] := by
      apply Array.ext
      · simp [hsz]
      · intro i hi1 hi2
        match i, hi1 with
        | 0, _ => rfl
        | 1, hi1 => simpa [Array.getElem?_eq_getElem hi1] using hc1
        | n + 2, hi1 => omega
    rw [hsize] at h1
    refine (Any.Builder_String_nil L X w.heap.size Lo.blk _ w h1).mono ?_
    rintro e w' ⟨rfl, hb⟩
    exact ⟨_, μ, rfl, by simp [VR], fun _ _ => rfl, s.below hb, Nat.le_refl _⟩
  case sl i o n cap ex sz =>
    split at hr <;> first | (cases hr; done) | skip
    rename_i t2 y cs hgi
    cases hc : (Nat.beq t2 (ρ.t 5) && Nat.beq o 0 && Nat.blt 0 n && Nat.ble n cs.length && Nat.ble n 4611686018427387904) with
    | false => rw [hc] at hr; cases hr
    | true =>
    rw [hc] at hr
    simp only [cond_true] at hr
    split at hr <;> first | (cases hr; done) | skip
    rename_i l hbl
    cases hr
    simp only [Bool.and_eq_true, Nat.blt_eq, Nat.ble_eq] at hc
    obtain ⟨⟨⟨⟨ht, ho⟩, hn0⟩, hncs⟩, hn63⟩ := hc
    obtain rfl := Nat.eq_of_beq_eq_true ht
    obtain rfl := Nat.eq_of_beq_eq_true ho
    simp only [VR] at hv1
    obtain ⟨L2, ca, cc, hL2, rfl, hok⟩ := hv1
    obtain ⟨arr2, t3, fr2, k1, k2, k3, k4, k5, k6⟩ := s.ob i L2 _ hL2 hgi
    obtain ⟨rfl, hb2, _⟩ := k6 _ _ rfl
    obtain ⟨hlow2, rfl⟩ := k5 rfl
    obtain ⟨o1, o2, o3, o4, o5⟩ := hok
    obtain ⟨rfl, hlim⟩ := o5 (by omega)
    obtain ⟨b1, b2⟩ := bytesL_spec hbl
    have hll : l.length = n := by rw [← b1]; simp; omega
    rw [hb2] at hcell
    simp only [Nat.add_zero] at hcell
    rw [← hll] at hcell
    have hsh : w.shape? L2.blk = some (ρ.t 5, arr2.size) := by simp [World.shape?, k1]
    have hcells : ∀ j x, l[j]? = some x → w.cell? ((⟨L2.blk, 0, none⟩ : Addr).add j) = some (.int .u8 x.toNat) := by
      intro j x hx
      have hv := b2 j x hx
      have hjn : j < n := by rw [← hll]; exact (List.getElem?_eq_some_iff.1 hx).1
      rw [List.getElem?_take, if_pos hjn] at hv
      obtain ⟨_, c, hc, hvr⟩ := k4 j _ hv
      simp only [VR] at hvr
      subst hvr
      rw [hb2] at hc
      simp only [Nat.zero_add] at hc
      have ea : (⟨L2.blk, 0, none⟩ : Addr).add j = ⟨L2.blk, j, none⟩ := by unfold Addr.add; split <;> simp_all
      rw [ea]
      simpa [World.cell?, k1] using hc
    refine (string_walk L X Lo.blk L2.blk cc arr2.size l w (by rintro rfl; simp at hll; omega) hcell (by omega) hsh (by omega) (by omega) hcells).mono ?_
    rintro e w' ⟨rfl, rfl⟩
    exact ⟨_, μ, rfl, by simp [VR], fun _ _ => rfl, (s.drew _).frozen hL2 hgi (by rintro e x ⟨⟩; exact ⟨rfl, _, rfl⟩) 0 l.length, Nat.le_refl _⟩
end Go.Cb
