/- All operations that write: the model does the same. -/
import Derived.Test.YthpapfgdjdjcfaaGreatDoorCbK
set_option linter.unusedVariables false
set_option linter.unusedSimpArgs false
namespace Go.Cb
open Go.RowKit
section
variable {P : Program} {μ : Mu} {W0 : World} {h : H} {w : World}

/-- What an operation leaves. -/
def Left (W0 : World) (μ : Mu) (h h' : H) (v : V) (r : Result Value) : Prop :=
  ∃ u w' μ', r = .ok u w' ∧ VR μ' v u ∧ (∀ i, i < h.next → μ' i = μ i) ∧ Sim W0 μ' h' w' ∧ h.next ≤ h'.next

theorem firstCells_sl (s : Sim W0 μ h w) {id off len cap cc ca sz : Nat} {ex : Bool} {L : Loc} {xs : List V} (hL : μ id = some L) (hok : slOk L off len cap ex sz ca cc) (hr : rdCells h id off (len * sz) = some xs) :
    xs.all V.one = true ∧ xs.length = len * sz ∧ ∃ l, VRs μ xs l ∧ ∀ w2 : World, w2.heap = w.heap → (Builtin.firstCells sz len (.slice (some ⟨L.blk, ca, none⟩) len cc)).run P w2 = .ok ⟨l⟩ w2 := by
  obtain ⟨ho, hlen, l, hl, hc⟩ := loadCells_at (P := P) s hL hr
  refine ⟨ho, hlen, l, hl, fun w2 hw2 => ?_⟩
  by_cases h0 : len = 0
  · subst h0
    have : l = [] := by have := hl.length; rw [hlen] at this; exact List.eq_nil_of_length_eq_zero (by simpa using this)
    subst this
    simp [Builtin.firstCells, loadCells_zero]
  · have hca := (hok.2.2.2.2 (by have := hok.1; omega)).1
    subst hca
    simpa [Builtin.firstCells] using hc w2 hw2

theorem appendV_sound (s : Sim W0 μ h w) {ts tx ty : TypeId} {a x : V} {ca cx : Value} {v : V} {h' : H} (hr : appendV P ts tx a x h = some (v, h')) (ha : VR μ a ca) (hx : VR μ x cx) :
    Left W0 μ h h' v ((Builtin.append_ #[ts, tx] ty #[ca, cx]).run P w) := by
  unfold appendV at hr
  split at hr <;> first | (cases hr; done) | skip
  rename_i e ht
  split at hr <;> first | (cases hr; done) | skip
  rename_i inf hi
  split at hr <;> first | (cases hr; done) | skip
  rename_i ys n hsrc
  split at hr
  · -- nil
    simp only [VR] at ha; subst ha
    cases hc : (Nat.beq n 0 && ys.isEmpty) with
    | true =>
      rw [hc] at hr
      cases hr
      simp only [Bool.and_eq_true, List.isEmpty_iff] at hc
      obtain rfl := Nat.eq_of_beq_eq_true hc.1
      obtain rfl := hc.2
      obtain ⟨ho, hn, hd, l, hl, hf⟩ := source_spec (P := P) s hsrc hx (by simp)
      have := append_room (P := P) (ty := ty) (w' := w) (base := none) (len := 0) (cc := 0) ht hi hd hn (hf w rfl) (Nat.le_refl _) rfl
      exact ⟨_, w, μ, this, by simp [VR], fun _ _ => rfl, s, Nat.le_refl _⟩
    | false =>
      rw [hc] at hr
      simp only [cond_false] at hr
      cases hc2 : (decide (n * inf.bytes ≤ roomy ∧ n ≤ roomy ∧ 0 < n) && Nat.beq ys.length (n * inf.size) && zeroFits P e) with
      | false => rw [hc2] at hr; cases hr
      | true =>
        rw [hc2] at hr
        cases hr
        simp only [Bool.and_eq_true, decide_eq_true_eq] at hc2
        obtain ⟨⟨⟨h1, h2, h3⟩, h4⟩, h5⟩ := hc2
        have h4 := Nat.eq_of_beq_eq_true h4
        obtain ⟨hby, zc, hz, hzs⟩ := zeroFits_spec h5 hi
        obtain ⟨ho, hn, hd, l, hl, hf⟩ := source_spec (P := P) s hsrc hx h4
        obtain ⟨nc, hnc, hrun⟩ := append_grows (P := P) (ty := ty) (base := none) (len := 0) (cc := 0) (old := []) ht hi hd hn hf (fun w2 _ => by simp [Builtin.firstCells]) hz (by omega) (by simpa using h1) (by simpa using h2) hby
        simp only [Nat.zero_add] at hnc hrun
        have hs := s.allocRow (t := e) (tg := some (e, false)) (rest := Builtin.zeroCells zc.cells (nc - n)) (n := nc * inf.size) (by rintro _ _ ⟨⟩; exact ⟨rfl, rfl⟩) hl ho (by rw [h4, zeroCells_size, hzs, ← Nat.add_mul]; congr 1; omega)
        refine ⟨_, _, _, hrun, ?_, fun i hi => put_old hi, by simpa using hs, by simp⟩
        simp only [VR]
        exact ⟨_, 0, nc, Mu.put_same _ _ _, rfl, hnc, hnc, Nat.le_refl _, fun h => by (cases h), fun _ => ⟨rfl, by simp⟩⟩
  · rename_i id off len cap ex sz
    cases hc : (Nat.beq sz inf.size && Nat.beq ys.length (n * inf.size)) with
    | false => rw [hc] at hr; cases hr
    | true =>
      rw [hc] at hr
      simp only [cond_true] at hr
      simp only [Bool.and_eq_true] at hc
      obtain rfl := Nat.eq_of_beq_eq_true hc.1
      have h4 := Nat.eq_of_beq_eq_true hc.2
      obtain ⟨ho, hn, hd, l, hl, hf⟩ := source_spec (P := P) s hsrc hx h4
      simp only [VR] at ha
      obtain ⟨L, ca', cc, hL, rfl, hok⟩ := ha
      have hll := hl.length
      by_cases hroom : len + n ≤ cap
      · simp only [hroom, decide_true, cond_true] at hr
        split at hr <;> first | (cases hr; done) | skip
        rename_i h2 hw
        cases hr
        have hrc : len + n ≤ cc := Nat.le_trans hroom hok.2.1
        by_cases hcc : cc = 0
        · have hn0 : n = 0 := by omega
          have hl0 : len = 0 := by omega
          subst hn0; subst hl0
          have hys : ys = [] := List.eq_nil_of_length_eq_zero (by simpa using h4)
          subst hys
          have hl' : l = [] := List.eq_nil_of_length_eq_zero (by simpa using hll)
          subst hl'
          obtain ⟨hnx, w', hst, hs⟩ := wrCells_sound (P := P) s hL hw VRs.nil
          have hww : w' = w := by simp [storeCells] at hst; exact hst.symm
          subst hww
          have := append_room (P := P) (ty := ty) (w' := w') (base := some ⟨L.blk, ca', none⟩) (len := 0) (cc := cc) ht hi hd hn (hf w' rfl) (by omega) (by simp [storeCells])
          refine ⟨_, w', μ, this, ?_, fun _ _ => rfl, hs, by rw [hnx]; exact Nat.le_refl _⟩
          simp only [VR]
          exact ⟨L, ca', cc, hL, rfl, by omega, hok.2.1, by omega, hok.2.2.2.1, hok.2.2.2.2⟩
        · obtain ⟨hca, hlim⟩ := hok.2.2.2.2 (by omega)
          subst hca
          obtain ⟨hnx, w', hst, hs⟩ := wrCells_sound (P := P) s hL hw hl
          have := append_room (P := P) (ty := ty) (w' := w') (base := some ⟨L.blk, L.base + off, none⟩) (len := len) (cc := cc) ht hi hd hn (hf w rfl) hrc (by simp only [add_pos]; rw [Nat.add_assoc]; exact hst)
          refine ⟨_, w', μ, this, ?_, fun _ _ => rfl, hs, by rw [hnx]; exact Nat.le_refl _⟩
          simp only [VR]
          exact ⟨L, L.base + off, cc, hL, rfl, hrc, hok.2.1, hroom, hok.2.2.2.1, hok.2.2.2.2⟩
      · rw [decide_eq_false hroom] at hr
        simp only [cond_false] at hr
        split at hr <;> first | (cases hr; done) | skip
        rename_i xs ro tg cs hrd hg
        obtain ⟨hox, hxl, lx, hlx, hfx⟩ := firstCells_sl (P := P) s hL hok hrd
        cases hc2 : (decide ((len + n) * inf.bytes ≤ roomy ∧ len + n ≤ roomy) && zeroFits P e) with
        | false => rw [hc2] at hr; cases hr
        | true =>
          rw [hc2] at hr
          simp only [cond_true] at hr
          simp only [Bool.and_eq_true, decide_eq_true_eq] at hc2
          obtain ⟨⟨h1, h2⟩, h5⟩ := hc2
          obtain ⟨hby, zc, hz, hzs⟩ := zeroFits_spec h5 hi
          have hallx : (xs ++ ys).all V.one = true := by simp [hox, ho]
          -- a new row
          have grown : cc < len + n → Left W0 μ h (h.new (.c false (some (e, false)) (xs ++ ys))) (.sl h.next 0 (len + n) (len + n) false inf.size) ((Builtin.append_ #[ts, tx] ty #[.slice (some ⟨L.blk, ca', none⟩) len cc, cx]).run P w) ∧
              ∀ id' tg', id' ≠ h.next → (∀ e1 x, tg' = some (e1, x) → e = e1 ∧ x = false) → Left W0 μ h ((h.set id' .x).new (.c false tg' (xs ++ ys))) (.sl h.next 0 (len + n) (len + n) false inf.size) ((Builtin.append_ #[ts, tx] ty #[.slice (some ⟨L.blk, ca', none⟩) len cc, cx]).run P w) := by
            intro hgr
            obtain ⟨nc, hnc, hrun⟩ := append_grows (P := P) (ty := ty) (base := some ⟨L.blk, ca', none⟩) (len := len) (cc := cc) (old := lx) ht hi hd hn hf hfx hz hgr h1 h2 hby
            have hvr : ∀ μ2 : Mu, μ2 h.next = some ⟨w.heap.size, 0, nc * inf.size⟩ → VR μ2 (.sl h.next 0 (len + n) (len + n) false inf.size) (.slice (some ⟨w.heap.size, 0, none⟩) (len + n) nc) := by
              intro μ2 h2
              simp only [VR]
              exact ⟨_, 0, nc, h2, rfl, hnc, hnc, Nat.le_refl _, fun h => by (cases h), fun _ => ⟨rfl, by simp⟩⟩
            have hsize : (xs ++ ys).length + (Builtin.zeroCells zc.cells (nc - (len + n))).size = nc * inf.size := by
              rw [List.length_append, hxl, h4, zeroCells_size, hzs, ← Nat.add_mul, ← Nat.add_mul]; congr 1; omega
            have happ : (⟨lx⟩ ++ ⟨l⟩ : Array Value) = ⟨lx ++ l⟩ := by apply Array.ext'; simp
            rw [happ] at hrun
            refine ⟨?_, fun id' tg' hne htg => ?_⟩
            · have hs := s.allocRow (t := e) (tg := some (e, false)) (rest := Builtin.zeroCells zc.cells (nc - (len + n))) (n := nc * inf.size) (by rintro _ _ ⟨⟩; exact ⟨rfl, rfl⟩) (hlx.append hl) hallx hsize
              exact ⟨_, _, _, hrun, hvr _ (Mu.put_same _ _ _), fun i hi => put_old hi, hs, by simp⟩
            · have hs := (s.kill id').allocRow (t := e) (tg := tg') (rest := Builtin.zeroCells zc.cells (nc - (len + n))) (n := nc * inf.size) htg (hlx.append hl) hallx hsize
              exact ⟨_, _, _, hrun, hvr _ (Mu.put_same _ _ _), fun i hi => put_old hi, hs, by simp⟩
          cases ex with
          | true =>
            simp only [cond_true] at hr
            cases hr
            have hcc := hok.2.2.2.1 rfl
            exact (grown (by omega)).1
          | false =>
            simp only [cond_false] at hr
            cases ro with
            | true => cases hr
            | false =>
              simp only [cond_false] at hr
              cases hr
              by_cases hgr : cc < len + n
              · exact (grown hgr).2 id _ (Nat.ne_of_lt (s.lt _ _ hL)) (fun e1 x he => by obtain ⟨g1, _, y, g2, _⟩ := apTg_spec he; exact ⟨g2, g1⟩)
              · -- in place
                have hrc : len + n ≤ cc := by omega
                obtain ⟨hca, hlim⟩ := hok.2.2.2.2 (by omega)
                subst hca
                have hmul : len * inf.size + n * inf.size ≤ cc * inf.size := by rw [← Nat.add_mul]; exact Nat.mul_le_mul_right _ hrc
                obtain ⟨w', hst, hs⟩ := s.reuse (P := P) (e0 := e) (off := off) (n := len * inf.size) (lim := cc * inf.size) hL hg hrd hl ho (by omega) (by omega)
                have := append_room (P := P) (ty := ty) (w' := w') (base := some ⟨L.blk, L.base + off, none⟩) (len := len) (cc := cc) ht hi hd hn (hf w rfl) hrc (by simp only [add_pos]; exact hst)
                refine ⟨_, w', _, this, ?_, fun i hi => put_old hi, hs, by simp⟩
                simp only [VR]
                exact ⟨_, L.base + off, cc, Mu.put_same _ _ _, rfl, hrc, hrc, Nat.le_refl _, fun h => by (cases h), fun _ => ⟨rfl, by simp⟩⟩
  · cases hr

theorem stV_sound (s : Sim W0 μ h w) {t : TypeId} {a x : V} {ca cx : Value} {v : V} {h' : H} (hr : stV P t a x h = some (v, h')) (ha : VR μ a ca) (hx : VR μ x cx) :
    v = .t [] ∧ h'.next = h.next ∧ ∃ w', (Instr.storeAt t ca cx).run P w = .ok () w' ∧ Sim W0 μ h' w' := by
  unfold stV at hr
  split at hr <;> first | (cases hr; done) | skip
  rename_i i id off hi
  cases hc : Nat.beq x.cells.length i.size with
  | false => rw [hc] at hr; cases hr
  | true =>
    rw [hc] at hr
    have hc := Nat.eq_of_beq_eq_true hc
    simp only [cond_true] at hr
    split at hr <;> first | (cases hr; done) | skip
    rename_i h2 hw
    cases hr
    have hone : x.cells.all V.one = true := by
      unfold wrCells at hw
      split at hw <;> first | (cases hw; done) | skip
      rename_i cs hg
      cases hq : (decide (off + x.cells.length ≤ cs.length) && x.cells.all V.one) with
      | false => rw [hq] at hw; cases hw
      | true => simp only [Bool.and_eq_true] at hq; exact hq.2
    have ht : ∀ vs, x ≠ .t vs := by rintro vs rfl; simp [V.cells, V.one] at hone
    obtain ⟨hl, _⟩ := VR.cells hx ht
    simp only [VR] at ha
    obtain ⟨L, hL, rfl⟩ := ha
    obtain ⟨hnx, w', hst, hs⟩ := wrCells_sound (P := P) s hL hw hl
    refine ⟨rfl, hnx, w', ?_, hs⟩
    have hsz : cx.cells.size = i.size := by rw [← hc, ← hl.length]; simp
    simp [Instr.storeAt, Instr.sureAddr, storeVar, runs_sizeOf hi, hsz, hst]

theorem lenOfV_spec {x : V} {c : Value} {n : Nat} (h : lenOfV x = some n) (hx : VR μ x c) : (Builtin.lenOf c).run P w = .ok n w := by
  unfold lenOfV at h
  split at h <;> first | (cases h; done) | skip
  · cases h; simp only [VR] at hx; subst hx; simp [Builtin.lenOf]
  · cases h; simp only [VR] at hx; obtain ⟨L, ca, cc, hL, rfl, hok⟩ := hx; simp [Builtin.lenOf]
  · cases h; simp only [VR] at hx; subst hx; simp [Builtin.lenOf]; rfl

theorem firstV_spec (s : Sim W0 μ h w) {t : TypeId} {sz m : Nat} {x : V} {c : Value} {ys : List V} (hr : firstV P t sz m x h = some ys) (hx : VR μ x c) :
    ∃ l, VRs μ ys l ∧ (Builtin.firstCells sz m c).run P w = .ok ⟨l⟩ w := by
  unfold firstV at hr
  split at hr <;> first | (cases hr; done) | skip
  · rename_i e hu
    cases hm : Nat.beq m 0 with
    | false => rw [hm] at hr; cases hr
    | true =>
      rw [hm] at hr; cases hr
      simp only [VR] at hx; subst hx
      exact ⟨[], VRs.nil, by simp [Builtin.firstCells]⟩
  · rename_i e id off len cap ex sz' hu
    cases hc : (Nat.beq sz sz' && decide (m ≤ len)) with
    | false => rw [hc] at hr; cases hr
    | true =>
      rw [hc] at hr
      simp only [cond_true] at hr
      simp only [Bool.and_eq_true, decide_eq_true_eq] at hc
      obtain rfl := Nat.eq_of_beq_eq_true hc.1
      simp only [VR] at hx
      obtain ⟨L, ca, cc, hL, rfl, hok⟩ := hx
      obtain ⟨ho, hlen, l, hl, hld⟩ := loadCells_at (P := P) s hL hr
      refine ⟨l, hl, ?_⟩
      by_cases h0 : m = 0
      · subst h0
        have : l = [] := by have := hl.length; rw [hlen] at this; exact List.eq_nil_of_length_eq_zero (by simpa using this)
        subst this
        simp [Builtin.firstCells, loadCells_zero]
      · have hca := (hok.2.2.2.2 (by have := hok.1; omega)).1
        subst hca
        simpa [Builtin.firstCells] using hld w rfl
  · rename_i l hu
    cases hsz : Nat.beq sz 1 with
    | false => rw [hsz] at hr; cases hr
    | true =>
      rw [hsz] at hr
      cases hr
      simp only [VR] at hx; subst hx
      refine ⟨(l.take m).map (fun b => .int .u8 b.toNat), ?_, ?_⟩
      · refine VRs.of_get (by simp) fun k v hv => ?_
        simp only [List.getElem?_map] at hv ⊢
        cases hk : (l.take m)[k]? with
        | none => rw [hk] at hv; cases hv
        | some b => rw [hk] at hv; simp at hv ⊢; rw [← hv]; simp [VR]
      · simp only [Builtin.firstCells, Sem.run_pure]
        congr 1
        apply Array.ext'
        simp [List.extract_eq_take_drop]

theorem copyV_sound (s : Sim W0 μ h w) {ts tx ty : TypeId} {a x : V} {ca cx : Value} {v : V} {h' : H} (hr : copyV P ts tx a x h = some (v, h')) (ha : VR μ a ca) (hx : VR μ x cx) :
    h'.next = h.next ∧ ∃ u w', (Builtin.copy_ #[ts, tx] ty #[ca, cx]).run P w = .ok u w' ∧ VR μ v u ∧ Sim W0 μ h' w' := by
  unfold copyV at hr
  split at hr <;> first | (cases hr; done) | skip
  rename_i e ht
  split at hr <;> first | (cases hr; done) | skip
  rename_i inf hi
  split at hr <;> first | (cases hr; done) | skip
  rename_i n hn
  have hlen := lenOfV_spec (P := P) (w := w) hn hx
  have hz : ∀ {k : Nat}, min n k = Nat.min n k := rfl
  have hfirst0 : (Builtin.firstCells inf.size 0 cx).run P w = .ok #[] w := by
    cases x <;> simp only [lenOfV] at hn <;> first | (cases hn; done) | skip
    · simp only [VR] at hx; subst hx; simp [Builtin.firstCells]
    · simp only [VR] at hx; subst hx; simp [Builtin.firstCells]
    · simp only [VR] at hx; obtain ⟨L, ca, cc, hL, rfl, hok⟩ := hx; simp [Builtin.firstCells, loadCells_zero]
  split at hr <;> first | (cases hr; done) | skip
  · cases hr
    simp only [VR] at ha; subst ha
    exact ⟨rfl, .int .i64 0, w, by simp [Builtin.copy_, run_underlying ht, runs_sizeOf hi, hlen, goInt, hfirst0], by simp [VR], s⟩
  · rename_i id off len cap ex sz
    simp only [VR] at ha
    obtain ⟨L, ca', cc, hL, rfl, hok⟩ := ha
    cases hc : (Nat.beq sz inf.size && !(Nat.beq len 0)) with
    | false =>
      rw [hc] at hr
      simp only [cond_false] at hr
      cases h0 : Nat.beq len 0 with
      | false => rw [h0] at hr; cases hr
      | true =>
        rw [h0] at hr
        cases hr
        obtain rfl := Nat.eq_of_beq_eq_true h0
        exact ⟨rfl, .int .i64 0, w, by simp [Builtin.copy_, run_underlying ht, runs_sizeOf hi, hlen, goInt, hfirst0, storeCells], by simp [VR], s⟩
    | true =>
      rw [hc] at hr
      simp only [cond_true] at hr
      simp only [Bool.and_eq_true, Bool.not_eq_true'] at hc
      obtain rfl := Nat.eq_of_beq_eq_true hc.1
      have hl0 : len ≠ 0 := fun e => by rw [e] at hc; cases hc.2
      split at hr <;> first | (cases hr; done) | skip
      rename_i ys hy
      split at hr <;> first | (cases hr; done) | skip
      rename_i h2 hw
      cases hr
      obtain ⟨l, hl, hf⟩ := firstV_spec s hy hx
      obtain ⟨hnx, w', hst, hs⟩ := wrCells_sound (P := P) s hL hw hl
      obtain ⟨hca, hlim⟩ := hok.2.2.2.2 (by have := hok.1; omega)
      subst hca
      refine ⟨hnx, .int .i64 (min n len : Nat), w', ?_, by simp [VR], hs⟩
      unfold Builtin.copy_
      simp only [List.getElem?_toArray, List.getElem?_cons_zero, List.getElem?_cons_succ, Sem.run_bind, run_underlying ht, Result.andThen_ok, hlen, runs_sizeOf hi]
      simp only [← hz, hf, Result.andThen_ok, hst, Sem.run_pure, goInt]

theorem clearV_sound (s : Sim W0 μ h w) {t ty : TypeId} {x : V} {cx : Value} {v : V} {h' : H} (hr : clearV P t x h = some (v, h')) (hx : VR μ x cx) :
    v = .t [] ∧ h'.next = h.next ∧ ∃ w', (Builtin.clear_ #[t] ty #[cx]).run P w = .ok (.tuple #[]) w' ∧ Sim W0 μ h' w' := by
  unfold clearV at hr
  split at hr <;> first | (cases hr; done) | skip
  · rename_i kt et hu
    cases hr
    simp only [VR] at hx; subst hx
    exact ⟨rfl, rfl, w, by simp [Builtin.clear_, run_underlying hu], s⟩
  · rename_i kt et id hu
    split at hr <;> first | (cases hr; done) | skip
    rename_i es clk hg
    cases hr
    simp only [VR] at hx
    obtain ⟨L, hL, rfl⟩ := hx
    obtain ⟨ents, hw, hmr, _⟩ := s.ob _ L _ hL hg
    refine ⟨rfl, rfl, _, ?_, s.writeMap (es' := []) (clk' := clk) (ents' := #[]) hL hg (by simp [MR])⟩
    simp [Builtin.clear_, run_underlying hu, run_getObj hw, run_setObj hw]
  · rename_i e id off len cap ex sz hu
    simp only [VR] at hx
    obtain ⟨L, ca, cc, hL, rfl, hok⟩ := hx
    cases h0 : Nat.beq len 0 with
    | true =>
      rw [h0] at hr
      cases hr
      obtain rfl := Nat.eq_of_beq_eq_true h0
      exact ⟨rfl, rfl, w, by simp [Builtin.clear_, run_underlying hu], s⟩
    | false =>
      rw [h0] at hr
      simp only [cond_false] at hr
      have hlen : len ≠ 0 := fun e => by rw [e] at h0; cases h0
      split at hr <;> first | (cases hr; done) | skip
      rename_i z inf hz hi
      cases hc : (Nat.beq sz inf.size && Nat.beq z.length sz && !(Nat.beq sz 0)) with
      | false => rw [hc] at hr; cases hr
      | true =>
        rw [hc] at hr
        simp only [cond_true] at hr
        simp only [Bool.and_eq_true, Bool.not_eq_true'] at hc
        obtain ⟨⟨h1, h2⟩, h3⟩ := hc
        have h1 := Nat.eq_of_beq_eq_true h1
        have h2 := Nat.eq_of_beq_eq_true h2
        have h3 : sz ≠ 0 := fun e => by rw [e] at h3; cases h3
        split at hr <;> first | (cases hr; done) | skip
        rename_i h2' hw
        cases hr
        obtain ⟨zc, hzrun, hzv, hone⟩ := zeroCells_run (P := P) (μ := μ) hz
        have hzl := hzv.length
        obtain ⟨r1, r2⟩ := zeros_rel hzv hone (by rintro rfl; simp at h2; omega) (len * sz)
        obtain ⟨hnx, w', hst, hs⟩ := wrCells_sound (P := P) s hL hw r1
        obtain ⟨hca, hlim⟩ := hok.2.2.2.2 (by have := hok.1; omega)
        subst hca
        refine ⟨rfl, hnx, w', ?_, hs⟩
        have hzsz : zc.cells.size = sz := by rw [← h2, ← hzl]; simp
        have e1 : (Builtin.zeroCells zc.cells len).toList = (List.range (len * sz)).map fun i => zc.cells.toList.getD (i % zc.cells.toList.length) undef := by
          unfold Builtin.zeroCells
          rw [hzsz]
          have := map_range_get zc.cells (len * sz) (by omega)
          rw [hzsz] at this
          rw [this]
        unfold Builtin.clear_
        simp only [List.getElem?_toArray, List.getElem?_cons_zero, Sem.run_bind, run_underlying hu, Result.andThen_ok]
        cases len with
        | zero => exact absurd rfl hlen
        | succ len => simp only [hzrun w, Result.andThen_ok, e1, hst, Sem.run_pure]
  · rename_i e hu
    cases hr
    simp only [VR] at hx; subst hx
    exact ⟨rfl, rfl, w, by simp [Builtin.clear_, run_underlying hu], s⟩

theorem rangeV_sound (s : Sim W0 μ h w) {t : TypeId} {x : V} {cx : Value} {v : V} {h' : H} (hr : rangeV P t x h = some (v, h')) (hx : VR μ x cx) :
    ∃ u w' μ', (Instr.range t cx).run P w = .ok u w' ∧ VR μ' v u ∧ (∀ i, i < h.next → μ' i = μ i) ∧ Sim W0 μ' h' w' ∧ h.next ≤ h'.next := by
  unfold rangeV at hr
  split at hr <;> first | (cases hr; done) | skip
  rename_i kt et id hu
  split at hr <;> first | (cases hr; done) | skip
  rename_i es clk hg
  cases hr
  simp only [VR] at hx
  obtain ⟨L, hL, rfl⟩ := hx
  obtain ⟨ents, hw, hmr, hlow⟩ := s.ob _ L _ hL hg
  have hi : μ h.next = none := by
    cases hm : μ h.next with
    | none => rfl
    | some L => exact absurd (s.lt _ _ hm) (Nat.lt_irrefl _)
  refine ⟨.pointer (some ⟨w.heap.size, 0, none⟩), w.alloc (.mapIter (some L.blk) clk #[] clk), μ.put h.next ⟨w.heap.size, 0, 0⟩, ?_, ?_, fun i hi => put_old hi, (s.new (.w id)).alloc hi (by simp) (H.get_new_same _ _) ?_, by simp⟩
  · simp [Instr.range, run_underlying hu, run_getObj hw]
  · simp only [VR]; exact ⟨_, Mu.put_same _ _ _, rfl⟩
  · refine ⟨L, clk, #[], clk, ?_, alloc_heap w _, rfl⟩
    rw [Mu.put_ne _ _ (Nat.ne_of_lt (s.lt _ _ hL))]
    exact hL

theorem nextV_sound (s : Sim W0 μ h w) {ty : TypeId} {x : V} {st : Bool} {cx : Value} {v : V} {h' : H} (hr : nextV x st h = some (v, h')) (hx : VR μ x cx) :
    h' = h ∧ ∃ u w', (Instr.next cx st ty).run P w = .ok u w' ∧ VR μ v u ∧ Sim W0 μ h w' := by
  unfold nextV at hr
  split at hr <;> first | (cases hr; done) | skip
  rename_i i
  split at hr <;> first | (cases hr; done) | skip
  rename_i id hgi
  split at hr <;> first | (cases hr; done) | skip
  rename_i clk hg
  cases hr
  simp only [VR] at hx
  obtain ⟨L, hL, rfl⟩ := hx
  obtain ⟨M, since, seen, last, hM, hw, hb⟩ := s.ob _ L _ hL hgi
  obtain ⟨ents, hwm, hmr, hlow⟩ := s.ob _ M _ hM hg
  simp only [MR] at hmr
  have he : ents = #[] := by apply Array.ext'; simpa using hmr
  subst he
  rw [hb]
  have g1 : (getObj L.blk).run P w = .ok (.mapIter (some M.blk) since seen last) w := by simp [getObj, Sem.run, hw]
  have g2 : (getObj M.blk).run P w = .ok (.map #[] clk) w := by simp [getObj, Sem.run, hwm]
  have hch : (choose (Question.mapNext 1)).run P w = .ok 0 w := by simp [choose, Sem.run, Question.forced]
  refine ⟨rfl, .tuple #[.bool false], w, ?_, by simp [VR, VRs], s⟩
  simp [Instr.next, g1, g2, hch]

theorem run_skip {α : Type} {s : Sem α} {u : α} {w' : World} (h : s.run P w = .ok u w') : (do let _ ← s; pure Next.skip : Sem Next).run P w = .ok .skip w' := by
  simp only [Sem.run_bind, h, Result.andThen_ok, Sem.run_pure]

/-- The operations that write. -/
theorem effOp_sound (s : Sim W0 μ h w) {o : Oper} {tm : Operand → Option V} {ρ : Operand → Value} {v : V} {h' : H} (hρ : ∀ x v, tm x = some v → VR μ v (ρ x)) (hr : effOp P tm o.op h = some (v, h')) :
    ∃ u w' μ', ((execOp ρ o).run P w = .ok (.value u) w' ∨ ((execOp ρ o).run P w = .ok .skip w' ∧ u = undef)) ∧ VR μ' v u ∧ (∀ i, i < h.next → μ' i = μ i) ∧ Sim W0 μ' h' w' ∧ h.next ≤ h'.next := by
  obtain ⟨dst, op, type, pos, after, guard⟩ := o
  simp only at hr
  have hun : VR μ (.t []) undef := by simp [VR, VRs, undef]
  cases op <;> simp only [effOp] at hr <;> first | (cases hr; done) | skip
  case store t a x =>
    split at hr <;> first | (cases hr; done) | skip
    rename_i a' x' ha hx
    obtain ⟨rfl, hnx, w', hrun, hs⟩ := stV_sound s hr (hρ _ _ ha) (hρ _ _ hx)
    exact ⟨undef, w', μ, .inr ⟨run_skip hrun, rfl⟩, hun, fun _ _ => rfl, hs, by rw [hnx]; exact Nat.le_refl _⟩
  case mapUpdate t m k x =>
    split at hr <;> first | (cases hr; done) | skip
    rename_i m' k' x' hm hk hx
    obtain ⟨rfl, hnx, w', hrun, hs⟩ := mapUpV_sound s hr (hρ _ _ hm) (hρ _ _ hk) (hρ _ _ hx)
    exact ⟨undef, w', μ, .inr ⟨run_skip hrun, rfl⟩, hun, fun _ _ => rfl, hs, by rw [hnx]; exact Nat.le_refl _⟩
  case mapEntry t m k =>
    split at hr <;> first | (cases hr; done) | skip
    rename_i m' k' hm hk
    obtain ⟨hnx, u, w', hrun, hv, hs⟩ := mapEntryV_sound s hr (hρ _ _ hm) (hρ _ _ hk)
    exact ⟨u, w', μ, .inl (run_value hrun), hv, fun _ _ => rfl, hs, by rw [hnx]; exact Nat.le_refl _⟩
  case entryStore t m st x =>
    split at hr <;> first | (cases hr; done) | skip
    rename_i m' k' x' hm hk hx
    obtain ⟨rfl, hnx, w', hrun, hs⟩ := entryStoreV_sound (P := P) (t := t) s hr (hρ _ _ hm) (hρ _ _ hk) (hρ _ _ hx)
    exact ⟨undef, w', μ, .inr ⟨run_skip hrun, rfl⟩, hun, fun _ _ => rfl, hs, by rw [hnx]; exact Nat.le_refl _⟩
  case range t x =>
    split at hr <;> first | (cases hr; done) | skip
    rename_i x' hx
    obtain ⟨u, w', μ', hrun, hv, hold, hs, hle⟩ := rangeV_sound s hr (hρ _ _ hx)
    exact ⟨u, w', μ', .inl (run_value hrun), hv, hold, hs, hle⟩
  case next it st =>
    split at hr <;> first | (cases hr; done) | skip
    rename_i x' hx
    obtain ⟨eh, u, w', hrun, hv, hs⟩ := nextV_sound (ty := type) s hr (hρ _ _ hx)
    exact ⟨u, w', μ, .inl (run_value hrun), hv, fun _ _ => rfl, eh ▸ hs, by rw [eh]; exact Nat.le_refl _⟩
  case call c =>
    obtain ⟨callee, args, argTypes⟩ := c
    cases callee <;> first | (cases hr; done) | skip
    rename_i b
    cases b <;> simp only at hr <;> first | (cases hr; done) | skip
    case append =>
      split at hr <;> first | (cases hr; done) | skip
      rename_i xa xb t u hargs hts
      split at hr <;> first | (cases hr; done) | skip
      rename_i a b ha hb
      have e0 : argTypes = #[t, u] := by apply Array.ext'; rw [hts]
      have e1 : args.map ρ = #[ρ xa, ρ xb] := by apply Array.ext'; simp [hargs]
      obtain ⟨c, w', μ', hrun, hv, hold, hs, hle⟩ := appendV_sound (P := P) (ty := type) s hr (hρ _ _ ha) (hρ _ _ hb)
      refine ⟨c, w', μ', .inl ?_, hv, hold, hs, hle⟩
      have := run_value (P := P) hrun
      simp only [execOp, resolve, e0, e1, Sem.run_bind, Sem.run_pure, Result.andThen_ok, invoke, builtin]
      simpa using this
    case copy =>
      split at hr <;> first | (cases hr; done) | skip
      rename_i xa xb t u hargs hts
      split at hr <;> first | (cases hr; done) | skip
      rename_i a b ha hb
      have e0 : argTypes = #[t, u] := by apply Array.ext'; rw [hts]
      have e1 : args.map ρ = #[ρ xa, ρ xb] := by apply Array.ext'; simp [hargs]
      obtain ⟨hnx, c, w', hrun, hv, hs⟩ := copyV_sound (P := P) (ty := type) s hr (hρ _ _ ha) (hρ _ _ hb)
      refine ⟨c, w', μ, .inl ?_, hv, fun _ _ => rfl, hs, by rw [hnx]; exact Nat.le_refl _⟩
      have := run_value (P := P) hrun
      simp only [execOp, resolve, e0, e1, Sem.run_bind, Sem.run_pure, Result.andThen_ok, invoke, builtin]
      simpa using this
    case clear =>
      split at hr <;> first | (cases hr; done) | skip
      rename_i xa t hargs hts
      split at hr <;> first | (cases hr; done) | skip
      rename_i a ha
      have e0 : argTypes = #[t] := by apply Array.ext'; rw [hts]
      have e1 : args.map ρ = #[ρ xa] := by apply Array.ext'; simp [hargs]
      obtain ⟨rfl, hnx, w', hrun, hs⟩ := clearV_sound (P := P) (ty := type) s hr (hρ _ _ ha)
      refine ⟨undef, w', μ, .inl ?_, hun, fun _ _ => rfl, hs, by rw [hnx]; exact Nat.le_refl _⟩
      have := run_value (P := P) hrun
      simp only [execOp, resolve, e0, e1, Sem.run_bind, Sem.run_pure, Result.andThen_ok, invoke, builtin]
      simpa [undef] using this
end
end Go.Cb
