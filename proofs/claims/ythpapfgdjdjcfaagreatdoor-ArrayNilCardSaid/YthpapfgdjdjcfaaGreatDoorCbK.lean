/- Appending, copying, clearing, and all operations that write: the model does the same. -/
import Derived.Test.YthpapfgdjdjcfaaGreatDoorCbJ
set_option linter.unusedVariables false
set_option linter.unusedSimpArgs false
namespace Go.Cb
open Go.RowKit
section
variable {P : Program} {μ : Mu} {W0 : World} {h : H} {w : World}

theorem loadCells_at (s : Sim W0 μ h w) {id off n : Nat} {L : Loc} {vs : List V} (hL : μ id = some L) (hr : rdCells h id off n = some vs) :
    vs.all V.one = true ∧ vs.length = n ∧ ∃ l, VRs μ vs l ∧ ∀ w2 : World, w2.heap = w.heap → (loadCells ⟨L.blk, L.base + off, none⟩ n).run P w2 = .ok ⟨l⟩ w2 := by
  obtain ⟨ho, hlen, l, hl, hc⟩ := rdCells_spec s hL hr
  refine ⟨ho, hlen, l, hl, fun w2 hw2 => ?_⟩
  have := run_loadCells_list (P := P) w2 ⟨L.blk, L.base + off, none⟩ l (fun j c hj => by rw [add_pos]; have := hc j c hj; simpa [World.cell?, hw2] using this)
  rw [hl.length, hlen] at this
  exact this

theorem loadCells_zero (a : Addr) (w2 : World) : (loadCells a 0).run P w2 = .ok #[] w2 := by simp [loadCells, loadCellsFrom]

/-- What is appended or copied. -/
theorem source_spec (s : Sim W0 μ h w) {t : TypeId} {sz n : Nat} {x : V} {c : Value} {ys : List V} (hr : source P t sz x h = some (ys, n)) (hx : VR μ x c) (hys : ys.length = n * sz) :
    ys.all V.one = true ∧ (Builtin.lenOf c).run P w = .ok n w ∧ ((∃ e, P.underlying t = some (.slice e)) ∨ P.underlying t = some .string) ∧
      ∃ l, VRs μ ys l ∧ ∀ w2 : World, w2.heap = w.heap → (Builtin.firstCells sz n c).run P w2 = .ok ⟨l⟩ w2 := by
  unfold source at hr
  split at hr <;> first | (cases hr; done) | skip
  · rename_i e hu
    cases hr
    simp only [VR] at hx; subst hx
    exact ⟨rfl, by simp [Builtin.lenOf], .inl ⟨_, hu⟩, [], VRs.nil, fun w2 _ => by simp [Builtin.firstCells]⟩
  · rename_i e id off len cap ex sz' hu
    cases hsz : Nat.beq sz sz' with
    | false => rw [hsz] at hr; cases hr
    | true =>
      rw [hsz] at hr
      obtain rfl := Nat.eq_of_beq_eq_true hsz
      simp only [cond_true] at hr
      split at hr <;> first | (cases hr; done) | skip
      rename_i l' hrd
      cases hr
      simp only [VR] at hx
      obtain ⟨L, ca, cc, hL, rfl, hok⟩ := hx
      obtain ⟨ho, hlen, l, hl, hc⟩ := loadCells_at (P := P) s hL hrd
      refine ⟨ho, by simp [Builtin.lenOf], .inl ⟨_, hu⟩, l, hl, fun w2 hw2 => ?_⟩
      by_cases h0 : n = 0
      · subst h0
        have : l = [] := by have := hl.length; rw [hlen] at this; exact List.eq_nil_of_length_eq_zero (by simpa using this)
        subst this
        simp [Builtin.firstCells, loadCells_zero]
      · have hca := (hok.2.2.2.2 (by have := hok.1; omega)).1
        subst hca
        simpa [Builtin.firstCells] using hc w2 hw2
  · rename_i l hu
    cases hsz : Nat.beq sz 1 with
    | false => rw [hsz] at hr; cases hr
    | true =>
      rw [hsz] at hr
      obtain rfl := Nat.eq_of_beq_eq_true hsz
      cases hr
      simp only [VR] at hx; subst hx
      refine ⟨by simp [V.one], by simp [Builtin.lenOf]; rfl, .inr hu, l.map (fun b => .int .u8 b.toNat), ?_, fun w2 _ => ?_⟩
      · refine VRs.of_get (by simp) fun k v hv => ?_
        simp only [List.getElem?_map] at hv ⊢
        cases hk : l[k]? with
        | none => rw [hk] at hv; cases hv
        | some b => rw [hk] at hv; simp at hv ⊢; rw [← hv]; simp [VR]
      · simp only [Builtin.firstCells, Sem.run_pure]
        congr 1
        have e : (⟨⟨l⟩⟩ : ByteArray).extract 0 l.length = ⟨⟨l⟩⟩ := by
          apply ByteArray.ext; apply Array.ext'; simp
        rw [e]
        apply Array.ext'
        simp

theorem nextslicecap_le (need cap : Nat) (h : cap < need) : Builtin.nextslicecap need cap ≤ 2 * need + 1000 := by
  unfold Builtin.nextslicecap
  split
  · omega
  · split
    · omega
    · have step : ∀ (r c : Nat), c ≤ need + (need + 768) / 4 → Builtin.growBy need r c ≤ need + (need + 768) / 4 := by
        intro r
        induction r with
        | zero => intro c hc; simpa [Builtin.growBy] using hc
        | succ r ih =>
          intro c hc
          unfold Builtin.growBy
          split
          · exact hc
          · exact ih _ (by omega)
      have := step 4 cap (by omega)
      omega

theorem zeroFits_spec {e : TypeId} {inf : TypeInfo} (h : zeroFits P e = true) (hi : P.info? e = some inf) : inf.bytes ≤ 65536 ∧ ∃ c : Value, (∀ w, (zeroValue e).run P w = .ok c w) ∧ c.cells.size = inf.size := by
  unfold zeroFits at h
  split at h <;> first | (cases h; done) | skip
  rename_i z i hz hi'
  rw [hi] at hi'; cases hi'
  simp only [Bool.and_eq_true, decide_eq_true_eq] at h
  have hzs := Nat.eq_of_beq_eq_true h.1
  obtain ⟨c, hc, hv, _⟩ := zeroCells_run (μ := fun _ => none) hz
  have := hv.length
  exact ⟨h.2, c, hc, by rw [← hzs, ← this]; simp⟩

/-- 'append' with room enough. -/
theorem append_room {ts tx ty e : TypeId} {inf : TypeInfo} {base : Option Addr} {len cc n : Nat} {x : Value} {l : List Value} {w' : World} (ht : P.underlying ts = some (.slice e)) (hi : P.info? e = some inf)
    (hd : (∃ e, P.underlying tx = some (.slice e)) ∨ P.underlying tx = some .string) (hn : (Builtin.lenOf x).run P w = .ok n w) (hf : (Builtin.firstCells inf.size n x).run P w = .ok ⟨l⟩ w) (hroom : len + n ≤ cc)
    (hst : match base with | some a => (storeCells (a.add (len * inf.size)) l).run P w = .ok () w' | none => w' = w) :
    (Builtin.append_ #[ts, tx] ty #[.slice base len cc, x]).run P w = .ok (.slice base (len + n) cc) w' := by
  unfold Builtin.append_
  rcases hd with ⟨e', hd⟩ | hd
  · cases base with
    | none => subst hst; simp [run_underlying ht, run_underlying hd, runs_sizeOf hi, hn, hf, hroom]
    | some a => simp [run_underlying ht, run_underlying hd, runs_sizeOf hi, hn, hf, hroom, hst]
  · cases base with
    | none => subst hst; simp [run_underlying ht, run_underlying hd, runs_sizeOf hi, hn, hf, hroom]
    | some a => simp [run_underlying ht, run_underlying hd, runs_sizeOf hi, hn, hf, hroom, hst]

/-- 'append' that makes a new row. -/
theorem append_grows {ts tx ty e : TypeId} {inf : TypeInfo} {base : Option Addr} {len cc n : Nat} {x : Value} {l old : List Value} {zc : Value} (ht : P.underlying ts = some (.slice e)) (hi : P.info? e = some inf)
    (hd : (∃ e, P.underlying tx = some (.slice e)) ∨ P.underlying tx = some .string) (hn : (Builtin.lenOf x).run P w = .ok n w) (hf : ∀ w2 : World, w2.heap = w.heap → (Builtin.firstCells inf.size n x).run P w2 = .ok ⟨l⟩ w2)
    (ho : ∀ w2 : World, w2.heap = w.heap → (Builtin.firstCells inf.size len (.slice base len cc)).run P w2 = .ok ⟨old⟩ w2) (hz : ∀ w, (zeroValue e).run P w = .ok zc w)
    (hroom : cc < len + n) (hb : (len + n) * inf.bytes ≤ roomy) (hs : len + n ≤ roomy) (hby : inf.bytes ≤ 65536) :
    ∃ nc, len + n ≤ nc ∧ (Builtin.append_ #[ts, tx] ty #[.slice base len cc, x]).run P w =
      .ok (.slice (some ⟨w.heap.size, 0, none⟩) (len + n) nc) (w.drew.alloc (.cells (⟨old⟩ ++ ⟨l⟩ ++ Builtin.zeroCells zc.cells (nc - (len + n))) e)) := by
  have hng := nextslicecap_le (len + n) cc hroom
  unfold roomy at hb hs
  have h1 : ¬ (len + n ≤ cc) := by omega
  have h3 : ¬ (281474976710656 < Builtin.nextslicecap (len + n) cc * inf.bytes) := by
    have e1 : Builtin.nextslicecap (len + n) cc * inf.bytes ≤ (2 * (len + n) + 1000) * inf.bytes := Nat.mul_le_mul_right _ hng
    have e2 : (2 * (len + n) + 1000) * inf.bytes = 2 * ((len + n) * inf.bytes) + 1000 * inf.bytes := by rw [Nat.add_mul, Nat.mul_assoc]
    omega
  have h2 : ¬ (9223372036854775807 < (len : Int) + (n : Int)) := by omega
  have hf' := hf w.drew rfl
  have ho' := ho w.drew rfl
  have hforced : ∀ a b c, (Question.appendCap a b c).forced = false := fun _ _ _ => rfl

  refine ⟨(Question.appendCap (len + n) cc e).cut (w.tape w.drawn (.appendCap (len + n) cc e)), ?_, ?_⟩
  · simp only [Question.cut]; omega
  · unfold Builtin.append_
    rcases hd with ⟨e', hd⟩ | hd
    · simp [run_underlying ht, run_underlying hd, runs_sizeOf hi, hn, h1, h2, h3, runs_typeInfo hi, hforced, hf', ho', hz, newRow]
      congr 2
      apply Array.ext'
      simp
    · simp [run_underlying ht, run_underlying hd, runs_sizeOf hi, hn, h1, h2, h3, runs_typeInfo hi, hforced, hf', ho', hz, newRow]
      congr 2
      apply Array.ext'
      simp

theorem zeroCells_size (z : Array Value) (n : Nat) : (Builtin.zeroCells z n).size = n * z.size := by simp [Builtin.zeroCells]

/-- A new row behind a draw. -/
theorem Sim.allocRow (s : Sim W0 μ h w) {cs : List V} {l : List Value} {t : TypeId} {rest : Array Value} {n : Nat} {tg : Option (Nat × Bool)} (htg : ∀ e x, tg = some (e, x) → t = e ∧ x = false) (hl : VRs μ cs l) (ho : cs.all V.one = true) (hr : cs.length + rest.size = n) :
    Sim W0 (μ.put h.next ⟨w.heap.size, 0, n⟩) (h.new (.c false tg cs)) (w.drew.alloc (.cells (⟨l⟩ ++ rest) t)) := by
  have hi : μ h.next = none := by
    cases hm : μ h.next with
    | none => rfl
    | some L => exact absurd (s.lt _ _ hm) (Nat.lt_irrefl _)
  have s1 : Sim W0 μ (h.new (.c false tg cs)) w.drew := (s.new _).drew _
  have hll := hl.length
  refine s1.alloc (w := w.drew) hi (by simp) (H.get_new_same _ _) ?_
  refine ⟨⟨l⟩ ++ rest, t, (0, 0), alloc_heap _ _, by simp; omega, by simp only; omega, fun k v hv => ?_, fun _ => ⟨s.size, rfl⟩, fun e x he => ⟨(htg e x he).1, rfl, fun hx => by rw [(htg e x he).2] at hx; cases hx⟩⟩
  rw [List.all_eq_true] at ho
  refine ⟨ho v (List.mem_of_getElem? hv), ?_⟩
  obtain ⟨c, hc, hr⟩ := hl.get hv
  refine ⟨c, ?_, VR.mono (Mu.le_put hi) _ _ hr⟩
  have hk : k < l.length := (List.getElem?_eq_some_iff.1 hc).1
  rw [Array.getElem?_append_left (by simpa using hk)]
  simpa using hc

/-- A block is gone, in the abstract heap alone. -/
theorem Sim.kill (s : Sim W0 μ h w) (id : Nat) : Sim W0 μ (h.set id .x) w := by
  refine ⟨s.lt, s.blk, fun i L o hi ho => ?_, fun i j L L' o o' hi hj ho ho' hb hne v1 v2 => ?_, s.bel⟩
  · by_cases e : i = id
    · subst e; cases H.get_set_inv ho; trivial
    · rw [H.get_set_ne _ _ e] at ho; exact s.ob i L o hi ho
  · by_cases e : i = id
    · subst e; cases H.get_set_inv ho; cases v1
    · by_cases e' : j = id
      · subst e'; cases H.get_set_inv ho'; cases v2
      · rw [H.get_set_ne _ _ e] at ho; rw [H.get_set_ne _ _ e'] at ho'
        exact s.inj i j L L' o o' hi hj ho ho' hb hne v1 v2

theorem put_old {i n : Nat} {L : Loc} (h : i < n) : (μ.put n L) i = μ i := Mu.put_ne _ _ (by omega)

theorem apTg_spec {e0 off e : Nat} {tg : Option (Nat × Bool)} {x : Bool} (h : apTg e0 off tg = some (e, x)) : x = false ∧ off = 0 ∧ ∃ y, e0 = e ∧ tg = some (e, y) := by
  unfold apTg at h
  split at h
  · rename_i t y
    cases hb : (Nat.beq t e0 && Nat.beq off 0) with
    | false => rw [hb] at h; cases h
    | true =>
      rw [hb] at h
      cases h
      simp only [Bool.and_eq_true] at hb
      obtain rfl := Nat.eq_of_beq_eq_true hb.1
      exact ⟨rfl, Nat.eq_of_beq_eq_true hb.2, y, rfl, rfl⟩
  · cases h

/-- Appending in place where the capacity isn't known: the block lives on under a new number. -/
theorem Sim.reuse (s : Sim W0 μ h w) {id off : Nat} {L : Loc} {cs xs ys : List V} {l : List Value} {n lim e0 : Nat} {tg : Option (Nat × Bool)} (hL : μ id = some L) (hg : h.get id = some (.c false tg cs)) (hx : rdCells h id off n = some xs) (hy : VRs μ ys l) (ho : ys.all V.one = true)
    (hlim : off + lim ≤ L.lim) (hroom : n + ys.length ≤ lim) :
    ∃ w', (storeCells ⟨L.blk, L.base + off + n, none⟩ l).run P w = .ok () w' ∧ Sim W0 (μ.put h.next ⟨L.blk, L.base + off, lim⟩) ((h.set id .x).new (.c false (apTg e0 off tg) (xs ++ ys))) w' := by
  have hi : μ h.next = none := by
    cases hm : μ h.next with
    | none => rfl
    | some L => exact absurd (s.lt _ _ hm) (Nat.lt_irrefl _)
  have hidlt := s.lt _ _ hL
  obtain ⟨hox, hxl, lx, hlx, hcx⟩ := rdCells_spec s hL hx
  obtain ⟨arr, t, fr, h1, h2, h3, h4, h5, h6⟩ := s.ob id L _ hL hg
  obtain ⟨hlow, rfl⟩ := h5 rfl
  have hll := hy.length
  have hst := run_storeCells_at P L.blk (L.base + off + n) t l 0 arr w h1 (by omega) (hy.oneCells ho)
  simp only [Nat.add_zero] at hst
  refine ⟨_, hst, ?_⟩
  have hnew := setRow_heap w L.blk arr (arr.toList.take (L.base + off + n) ++ l ++ arr.toList.drop (L.base + off + n + l.length)).toArray t (0, 0) h1
  have hne : ∀ j M o, μ j = some M → ((h.set id .x).new (.c false (apTg e0 off tg) (xs ++ ys))).get j = some o → j ≠ h.next → (j = id ∧ o = .x) ∨ (j ≠ id ∧ h.get j = some o) := by
    intro j M o hj hjo hjn
    rw [H.get_new_ne _ _ (by simpa using hjn)] at hjo
    by_cases e : j = id
    · subst e; cases H.get_set_inv hjo; exact .inl ⟨rfl, rfl⟩
    · rw [H.get_set_ne _ _ e] at hjo; exact .inr ⟨e, hjo⟩
  refine ⟨fun j M hj => ?_, fun j M hj => ?_, fun j M o hj hjo => ?_, fun j k M M' o o' hj hk hjo hko hb hjk v1 v2 => ?_, s.bel.trans (below_setRow hlow w _)⟩
  · by_cases e : j = h.next
    · subst e; simp
    · rw [Mu.put_ne _ _ e] at hj; have := s.lt j M hj; simp; omega
  · by_cases e : j = h.next
    · subst e; rw [Mu.put_same] at hj; cases hj; have := s.blk _ _ hL; simpa [World.setRow] using this
    · rw [Mu.put_ne _ _ e] at hj; have := s.blk j M hj; simpa [World.setRow] using this
  · by_cases e : j = h.next
    · subst e
      rw [Mu.put_same] at hj; cases hj
      have : ((h.set id .x).new (.c false (apTg e0 off tg) (xs ++ ys))).get h.next = some (.c false (apTg e0 off tg) (xs ++ ys)) := H.get_new_same (h.set id .x) _
      rw [this] at hjo; cases hjo
      refine ⟨_, t, (0, 0), hnew, by simp; omega, by simp; omega, fun k v hv => ?_, fun _ => ⟨hlow, rfl⟩, fun e x he => ?_⟩
      rotate_left
      · obtain ⟨g1, g2, g3⟩ := apTg_spec he
        obtain ⟨y, g4, g5⟩ := g3
        obtain ⟨k1, k2, _⟩ := h6 _ _ g5
        exact ⟨k1, by simp [k2, g2], fun hx => by rw [g1] at hx; cases hx⟩
      have hone : v.one = true := by
        have : (xs ++ ys).all V.one = true := by simp [hox, ho]
        rw [List.all_eq_true] at this
        exact this v (List.mem_of_getElem? hv)
      refine ⟨hone, ?_⟩
      rw [List.getElem?_append] at hv
      split at hv
      · rename_i hk
        obtain ⟨c, hc, hr⟩ := hlx.get hv
        refine ⟨c, ?_, VR.mono (Mu.le_put hi) _ _ hr⟩
        have hcell := hcx k c hc
        simp [World.cell?, h1] at hcell
        simp only [List.getElem?_toArray]
        rw [List.append_assoc, List.getElem?_append_left (by simp; omega), List.getElem?_take, if_pos (by omega)]
        simpa using hcell
      · rename_i hk
        obtain ⟨c, hc, hr⟩ := hy.get hv
        refine ⟨c, ?_, VR.mono (Mu.le_put hi) _ _ hr⟩
        have hk2 : k - xs.length < l.length := (List.getElem?_eq_some_iff.1 hc).1
        simp only [List.getElem?_toArray]
        rw [List.append_assoc, List.getElem?_append_right (by simp; omega), List.getElem?_append_left (by simp; omega)]
        rw [← hc]; congr 1; simp; omega
    · rw [Mu.put_ne _ _ e] at hj
      rcases hne j M o hj hjo e with ⟨_, rfl⟩ | ⟨hji, hjo'⟩
      · trivial
      · by_cases hbk : M.blk = L.blk
        · cases ov : o.live with
          | false => cases o <;> first | trivial | cases ov
          | true =>
            have := (s.inj j id M L o _ hj hL hjo' hg hbk hji ov rfl).2
            cases this
        · exact ((s.ob j M o hj hjo').mono (Mu.le_put hi)).of_block (setRow_other' _ _ _ _ hbk)
  · have key : ∀ j M o, μ j = some M → ((h.set id .x).new (.c false (apTg e0 off tg) (xs ++ ys))).get j = some o → j ≠ h.next → o.live = true → M.blk = L.blk → False := by
      intro j M o hj hjo hjn ov hbk
      rcases hne j M o hj hjo hjn with ⟨_, rfl⟩ | ⟨hji, hjo'⟩
      · cases ov
      · have := (s.inj j id M L o _ hj hL hjo' hg hbk hji ov rfl).2
        cases this
    by_cases ej : j = h.next
    · subst ej
      rw [Mu.put_same] at hj; cases hj
      rw [Mu.put_ne _ _ (Ne.symm hjk)] at hk
      exact (key k M' o' hk hko (Ne.symm hjk) v2 hb.symm).elim
    · by_cases ek : k = h.next
      · subst ek
        rw [Mu.put_same] at hk; cases hk
        rw [Mu.put_ne _ _ ej] at hj
        exact (key j M o hj hjo ej v1 hb).elim
      · rw [Mu.put_ne _ _ ej] at hj
        rw [Mu.put_ne _ _ ek] at hk
        rcases hne j M o hj hjo ej with ⟨_, rfl⟩ | ⟨_, hjo'⟩
        · cases v1
        · rcases hne k M' o' hk hko ek with ⟨_, rfl⟩ | ⟨_, hko'⟩
          · cases v2
          · exact s.inj j k M M' o o' hj hk hjo' hko' hb hjk v1 v2
end
end Go.Cb
