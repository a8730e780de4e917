/- Reading and writing of cells: on the abstract heap, and that the model does the same. -/
import Derived.Test.YthpapfgdjdjcfaaGreatDoorCbD
import Derived.Laws.CopyRow
import Derived.Laws.Cells
import Derived.Laws.AppendOwn
set_option linter.unusedVariables false
set_option linter.unusedSimpArgs false
namespace Go.Cb
open Go.RowKit

def rdCells (h : H) (id off n : Nat) : Option (List V) :=
  match h.get id with
  | some (.c _ _ cs) => cond (decide (off + n ≤ cs.length)) (some ((cs.drop off).take n)) none
  | _ => none

def rdCell (h : H) (id off : Nat) : Option V :=
  match h.get id with
  | some (.c _ _ cs) => cs[off]?
  | _ => none

/-- The cells of a block, some of them written. -/
def wrCells (h : H) (id off : Nat) (vs : List V) : Option H :=
  match h.get id with
  | some (.c false tg cs) => cond (decide (off + vs.length ≤ cs.length) && vs.all V.one) (some (h.set id (.c false tg (cs.take off ++ vs ++ cs.drop (off + vs.length))))) none
  | _ => none

def ld (agg : Bool) (n : Nat) (a : V) (h : H) : Option V :=
  match a with
  | .p id off => cond agg (match rdCells h id off n with | some l => some (.g l) | none => none) (rdCell h id off)
  | _ => none

section
variable {P : Program} {μ : Mu} {W0 : World} {h : H} {w : World}

theorem oneCell_of {c : Value} (h1 : ∀ cs, c ≠ .agg cs) (h2 : ∀ cs, c ≠ .tuple cs) : c.oneCell' = true := by
  cases c <;> first | rfl | exact absurd rfl (h1 _) | exact absurd rfl (h2 _)

theorem VRs.oneCells : ∀ {vs : List V} {l : List Value}, VRs μ vs l → vs.all V.one = true → ∀ c ∈ l, c.oneCell' = true
  | [], l, h, _, c, hc => by simp only [VRs] at h; subst h; cases hc
  | v :: vs, l, h, ho, c, hc => by
    simp only [VRs] at h
    obtain ⟨d, ds, rfl, h2, h3⟩ := h
    simp only [List.all_cons, Bool.and_eq_true] at ho
    cases hc with
    | head => obtain ⟨a, b⟩ := VR.one h2 ho.1; exact oneCell_of a b
    | tail _ hc => exact VRs.oneCells h3 ho.2 c hc

theorem rdCell_spec (s : Sim W0 μ h w) {id off : Nat} {L : Loc} (hL : μ id = some L) {v : V} (hr : rdCell h id off = some v) :
    v.one = true ∧ ∃ c, w.cell? ⟨L.blk, L.base + off, none⟩ = some c ∧ VR μ v c := by
  unfold rdCell at hr
  split at hr <;> first | (cases hr; done) | skip
  rename_i ro tg cs hg
  obtain ⟨arr, t, fr, h1, h2, h3, h4, h5⟩ := s.ob id L _ hL hg
  obtain ⟨ho, c, hc, hv⟩ := h4 off v hr
  exact ⟨ho, c, by simp [World.cell?, h1, hc], hv⟩

theorem rdCells_spec (s : Sim W0 μ h w) {id off n : Nat} {L : Loc} (hL : μ id = some L) {vs : List V} (hr : rdCells h id off n = some vs) :
    vs.all V.one = true ∧ vs.length = n ∧ ∃ l, VRs μ vs l ∧ ∀ (j : Nat) (c : Value), l[j]? = some c → w.cell? ⟨L.blk, L.base + off + j, none⟩ = some c := by
  unfold rdCells at hr
  split at hr <;> first | (cases hr; done) | skip
  rename_i ro tg cs hg
  by_cases hle : off + n ≤ cs.length
  · simp only [hle, decide_true, cond_true] at hr
    cases hr
    obtain ⟨arr, t, fr, h1, h2, h3, h4, h5⟩ := s.ob id L _ hL hg
    have hget : ∀ (k : Nat) (v : V), ((cs.drop off).take n)[k]? = some v → v.one = true ∧ ∃ c, arr[L.base + (off + k)]? = some c ∧ VR μ v c := by
      intro k v hv
      rw [List.getElem?_take] at hv
      split at hv
      · rw [List.getElem?_drop] at hv; exact h4 _ v hv
      · cases hv
    refine ⟨?_, by simp; omega, (arr.toList.drop (L.base + off)).take n, VRs.of_get (by simp; omega) fun k v hv => ?_, fun j c hc => ?_⟩
    · rw [List.all_eq_true]
      intro v hv
      obtain ⟨k, hk, he⟩ := List.getElem_of_mem hv
      exact (hget k v (by rw [List.getElem?_eq_getElem hk, he])).1
    · obtain ⟨_, c, hc, hr⟩ := hget k v hv
      refine ⟨c, ?_, hr⟩
      have hk : k < n := by
        rw [List.getElem?_take] at hv
        split at hv
        · assumption
        · cases hv
      rw [List.getElem?_take, if_pos hk, List.getElem?_drop]
      simpa [Nat.add_assoc] using hc
    · rw [List.getElem?_take] at hc
      split at hc
      · rw [List.getElem?_drop] at hc
        simp [World.cell?, h1]
        simpa [Nat.add_assoc] using hc
      · cases hc
  · simp [hle] at hr

/-- Reading a variable. -/
theorem ld_sound {t : TypeId} {agg : Bool} {n : Nat} {a v : V} {c : Value} (hs : shapeOf P t = some (agg, n)) (s : Sim W0 μ h w) (hr : ld agg n a h = some v) (ha : VR μ a c) :
    ∃ u, VR μ v u ∧ (Instr.loadAt t c).run P w = .ok u w := by
  unfold ld at hr
  split at hr <;> first | (cases hr; done) | skip
  rename_i id off
  simp only [VR] at ha
  obtain ⟨L, hL, rfl⟩ := ha
  obtain ⟨hA, hS⟩ := shapeOf_run (P := P) hs w
  cases agg with
  | false =>
    simp only [cond_false] at hr
    obtain ⟨_, c, hc, hv⟩ := rdCell_spec s hL hr
    exact ⟨c, hv, by simp [Instr.loadAt, Instr.sureAddr, loadVar, hA, hc]⟩
  | true =>
    simp only [cond_true] at hr
    cases hrd : rdCells h id off n with
    | none => rw [hrd] at hr; cases hr
    | some vs =>
      rw [hrd] at hr; cases hr
      obtain ⟨ho, hlen, l, hl, hcells⟩ := rdCells_spec s hL hrd
      have := run_loadCells_list (P := P) w ⟨L.blk, L.base + off, none⟩ l (fun j c hc => by rw [add_pos]; exact hcells j c hc)
      rw [hl.length, hlen] at this
      exact ⟨.agg ⟨l⟩, by simp only [VR]; exact ⟨l, rfl, hl, ho⟩, by simp [Instr.loadAt, Instr.sureAddr, loadVar, hA, hS, this]⟩

theorem setRow_other' (w : World) (g k : Nat) (cs : Array Value) (hne : k ≠ g) : (w.setRow g cs).heap[k]? = w.heap[k]? := by
  simp only [World.setRow, Array.getElem?_modify]
  rw [if_neg (by omega)]

theorem below_setRow {B g : Nat} (hg : B ≤ g) (w : World) (cs : Array Value) : Below B w (w.setRow g cs) :=
  ⟨rfl, rfl, rfl, by simp [World.setRow], fun k hk => setRow_other' w g k cs (by omega)⟩

/-- Writing cells. -/
theorem wrCells_sound (s : Sim W0 μ h w) {id off : Nat} {L : Loc} (hL : μ id = some L) {vs : List V} {l : List Value} {h' : H} (hw : wrCells h id off vs = some h') (hl : VRs μ vs l) :
    h'.next = h.next ∧ ∃ w', (storeCells ⟨L.blk, L.base + off, none⟩ l).run P w = .ok () w' ∧ Sim W0 μ h' w' := by
  unfold wrCells at hw
  split at hw <;> first | (cases hw; done) | skip
  rename_i tg cs hg
  cases hc : (decide (off + vs.length ≤ cs.length) && vs.all V.one) with
  | false => rw [hc] at hw; cases hw
  | true =>
    rw [hc] at hw
    simp only [cond_true] at hw
    cases hw
    simp only [Bool.and_eq_true, decide_eq_true_eq] at hc
    obtain ⟨hle, hone⟩ := hc
    obtain ⟨arr, t, fr, h1, h2, h3, h4, h5, h6⟩ := s.ob id L _ hL hg
    obtain ⟨hlow, rfl⟩ := h5 rfl
    have hll := hl.length
    have hst := run_storeCells_at P L.blk (L.base + off) t l 0 arr w h1 (by omega) (hl.oneCells hone)
    simp only [Nat.add_zero] at hst
    refine ⟨rfl, _, hst, ?_⟩
    have hnew := setRow_heap w L.blk arr (arr.toList.take (L.base + off) ++ l ++ arr.toList.drop (L.base + off + l.length)).toArray t (0, 0) h1
    refine ⟨s.lt, fun i M hi => ?_, fun i M o hi ho => ?_, fun i j M M' o o' hi hj ho ho' hb hne v1 v2 => ?_, s.bel.trans (below_setRow hlow w _)⟩
    · have := s.blk i M hi
      simpa [World.setRow] using this
    · by_cases hid : i = id
      · subst hid
        rw [hL] at hi; cases hi
        cases H.get_set_inv ho
        refine ⟨_, t, (0, 0), hnew, by simp; omega, by simp; omega, fun k v hv => ?_, fun _ => ⟨hlow, rfl⟩, fun e x he => ⟨(h6 e x he).1, (h6 e x he).2.1, fun hx => by have := (h6 e x he).2.2 hx; simp; omega⟩⟩
        rw [List.append_assoc, List.getElem?_append] at hv
        split at hv
        · rename_i hk
          simp only [List.length_take] at hk
          rw [List.getElem?_take, if_pos (by omega)] at hv
          obtain ⟨a, c, b, d⟩ := h4 k v hv
          refine ⟨a, c, ?_, d⟩
          simp only [List.getElem?_toArray]
          rw [List.append_assoc, List.getElem?_append_left (by simp; omega), List.getElem?_take, if_pos (by omega)]
          simpa using b
        · rename_i hk
          simp only [List.length_take] at hk hv
          have ht : min off cs.length = off := by omega
          rw [ht] at hv hk
          rw [List.getElem?_append] at hv
          split at hv
          · rename_i hk2
            obtain ⟨c, hc, hr⟩ := hl.get hv
            refine ⟨?_, c, ?_, hr⟩
            · rw [List.all_eq_true] at hone
              exact hone v (List.mem_of_getElem? hv)
            · simp only [List.getElem?_toArray]
              rw [List.append_assoc, List.getElem?_append_right (by simp; omega), List.getElem?_append_left (by simp; omega)]
              rw [← hc]; congr 1; simp; omega
          · rename_i hk2
            rw [List.getElem?_drop] at hv
            obtain ⟨a, c, b, d⟩ := h4 _ v hv
            refine ⟨a, c, ?_, d⟩
            simp only [List.getElem?_toArray]
            rw [List.append_assoc, List.getElem?_append_right (by simp; omega), List.getElem?_append_right (by simp; omega), List.getElem?_drop]
            simp only [List.length_take, Array.length_toList, Array.getElem?_toList]
            rw [← b]; congr 1; omega
      · rw [H.get_set_ne _ _ hid] at ho
        by_cases hbk : M.blk = L.blk
        · cases ov : o.live with
          | false => cases o <;> first | trivial | cases ov
          | true =>
            have := (s.inj i id M L o _ hi hL ho hg hbk hid ov rfl).2
            cases this
        · exact (s.ob i M o hi ho).of_block (setRow_other' _ _ _ _ hbk)
    · have key : ∀ k o, (h.set id (.c false tg (cs.take off ++ vs ++ cs.drop (off + vs.length)))).get k = some o → ∃ o2, h.get k = some o2 ∧ o2.ro = o.ro ∧ o2.live = o.live := by
        intro k o hk
        by_cases hid : k = id
        · subst hid; cases H.get_set_inv hk; exact ⟨_, hg, rfl, rfl⟩
        · rw [H.get_set_ne _ _ hid] at hk; exact ⟨o, hk, rfl, rfl⟩
      obtain ⟨o2, g1, e1, l1⟩ := key i o ho
      obtain ⟨o3, g2, e2, l2⟩ := key j o' ho'
      have := s.inj i j M M' o2 o3 hi hj g1 g2 hb hne (by rw [l1]; exact v1) (by rw [l2]; exact v2)
      rw [e1, e2] at this
      exact this
end
end Go.Cb
