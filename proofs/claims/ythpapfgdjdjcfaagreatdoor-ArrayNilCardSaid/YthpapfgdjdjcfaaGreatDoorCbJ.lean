/- The operations that write: the model does the same. -/
import Derived.Test.YthpapfgdjdjcfaaGreatDoorCbI
set_option linter.unusedVariables false
set_option linter.unusedSimpArgs false
namespace Go.Cb
open Go.RowKit
section
variable {P : Program} {μ : Mu} {W0 : World} {h : H} {w : World}

theorem Sim.write (s : Sim W0 μ h w) {id : Nat} {L : Loc} {o o' : Ob} {w' : World} (hL : μ id = some L) (hg : h.get id = some o) (hro : o.ro = false) (hro' : o'.ro = false) (hv : o.live = true)
    (hother : ∀ k, k ≠ L.blk → w'.heap[k]? = w.heap[k]?) (hsz : w'.heap.size = w.heap.size) (hb : Below W0.heap.size W0 w') (hor : OR μ W0.heap.size L w' o') : Sim W0 μ (h.set id o') w' := by
  refine ⟨s.lt, fun i M hi => by rw [hsz]; exact s.blk i M hi, fun i M o2 hi ho => ?_, fun i j M M' o2 o3 hi hj ho ho' hbk hne v1 v2 => ?_, hb⟩
  · by_cases hid : i = id
    · subst hid
      rw [hL] at hi; cases hi
      cases H.get_set_inv ho
      exact hor
    · rw [H.get_set_ne _ _ hid] at ho
      by_cases hbk : M.blk = L.blk
      · cases ov : o2.live with
        | false => cases o2 <;> first | trivial | cases ov
        | true =>
          have := (s.inj i id M L o2 _ hi hL ho hg hbk hid ov hv).2
          rw [hro] at this; cases this
      · exact (s.ob i M o2 hi ho).of_block (hother _ hbk)
  · have key : ∀ k o2, (h.set id o').get k = some o2 → ∃ o4, h.get k = some o4 ∧ o4.ro = o2.ro ∧ (o2.live = true → o4.live = true) := by
      intro k o2 hk
      by_cases hid : k = id
      · subst hid; cases H.get_set_inv hk; exact ⟨_, hg, by rw [hro, hro'], fun _ => hv⟩
      · rw [H.get_set_ne _ _ hid] at hk; exact ⟨o2, hk, rfl, fun h => h⟩
    obtain ⟨o4, g1, e1, l1⟩ := key i o2 ho
    obtain ⟨o5, g2, e2, l2⟩ := key j o3 ho'
    have := s.inj i j M M' o4 o5 hi hj g1 g2 hbk hne (l1 v1) (l2 v2)
    rw [e1, e2] at this
    exact this

theorem run_setObj {r : Nat} {es : Array MapEntry} {clk : Nat} (hg : w.heap[r]? = some (.map es clk)) (o : Obj) : (setObj r o).run P w = .ok () { w with heap := w.heap.setIfInBounds r o } := by
  simp [setObj, Sem.run, hg]

theorem run_getObj {r : Nat} {es : Array MapEntry} {clk : Nat} (hg : w.heap[r]? = some (.map es clk)) : (getObj r).run P w = .ok (.map es clk) w := by
  simp [getObj, Sem.run, hg]

/-- A map is written. -/
theorem Sim.writeMap (s : Sim W0 μ h w) {id : Nat} {L : Loc} {es es' : List (V × V × Nat)} {clk clk' : Nat} {ents' : Array MapEntry} (hL : μ id = some L) (hg : h.get id = some (.m es clk))
    (hm : MR μ es' ents'.toList) : Sim W0 μ (h.set id (.m es' clk')) { w with heap := w.heap.setIfInBounds L.blk (.map ents' clk') } := by
  obtain ⟨ents2, h1, h2, h3⟩ := s.ob id L _ hL hg
  have hlt : L.blk < w.heap.size := s.blk id L hL
  refine s.write hL hg rfl rfl rfl (fun k hk => ?_) (by simp) ?_ ?_
  · simp only; rw [Array.getElem?_setIfInBounds_ne (Ne.symm hk)]
  · refine s.bel.trans ⟨rfl, rfl, rfl, by simp, fun k hk => ?_⟩
    have hne : L.blk ≠ k := by omega
    simp only; rw [Array.getElem?_setIfInBounds_ne hne]
  · exact ⟨ents', by simp [hlt], hm, h3⟩

theorem MR.append {es es2 : List (V × V × Nat)} {l l2 : List MapEntry} (h : MR μ es l) (h2 : MR μ es2 l2) : MR μ (es ++ es2) (l ++ l2) := by
  induction es generalizing l with
  | nil => simp only [MR] at h; subst h; simpa using h2
  | cons a es ih =>
    obtain ⟨k, v, n⟩ := a
    simp only [MR] at h
    obtain ⟨e, rest, rfl, a1, a2, a3, a4⟩ := h
    simp only [List.cons_append, MR]
    exact ⟨e, rest ++ l2, rfl, a1, a2, a3, ih a4⟩

theorem MR.set {es : List (V × V × Nat)} {l : List MapEntry} (h : MR μ es l) {j : Nat} {k v : V} {n : Nat} {e : MapEntry} (hk : VR μ k e.key) (hv : VR μ v e.val) (hn : e.born = n) : MR μ (es.set j (k, v, n)) (l.set j e) := by
  induction es generalizing l j with
  | nil => simp only [MR] at h; subst h; simp [MR]
  | cons a es ih =>
    obtain ⟨k', v', n'⟩ := a
    simp only [MR] at h
    obtain ⟨e', rest, rfl, a1, a2, a3, a4⟩ := h
    cases j with
    | zero => simp only [List.set_cons_zero, MR]; exact ⟨e, rest, rfl, hk, hv, hn, a4⟩
    | succ j => simp only [List.set_cons_succ, MR]; exact ⟨e', rest.set j e, rfl, a1, a2, a3, ih a4⟩

theorem sameBits_int (n : Nat) (k : IntKind) (x : Int) : Instr.sameBits n (.int k x) (.int k x) = true := by cases n <;> simp [Instr.sameBits]
theorem sameBits_bool (n : Nat) (x : Bool) : Instr.sameBits n (.bool x) (.bool x) = true := by cases n <;> simp [Instr.sameBits]
theorem sameBits_string (n : Nat) (x : ByteArray) : Instr.sameBits n (.string x) (.string x) = true := by
  have : (x == x) = true := by obtain ⟨⟨l⟩⟩ := x; rw [bytes_beq]; simp
  cases n <;> simp [Instr.sameBits, this]

theorem eqOne_same {k : FK} {x y : V} {c d : Value} (h : eqOne k x y = some true) (hx : VR μ x c) (hy : VR μ y d) (n : Nat) : Instr.sameBits n d c = true := by
  unfold eqOne at h
  split at h <;> first | (cases h; done) | skip
  · simp only [VR] at hx hy; subst hx; subst hy
    simp at h; subst h; exact sameBits_bool _ _
  · rename_i k' x k y
    simp only [VR] at hx hy; subst hx; subst hy
    by_cases e : k' = k
    · subst e; simp at h; subst h; exact sameBits_int _ _ _
    · simp [e] at h
  · simp only [VR] at hx hy; subst hx; subst hy
    simp at h; subst h; exact sameBits_string _ _

theorem eqAll_same : ∀ {ks : List FK} {xs ys : List V} {l m : List Value} (n : Nat), eqAll ks xs ys = some true → VRs μ xs l → VRs μ ys m →
    m.length = l.length ∧ ((m.zip l).all fun (x, y) => Instr.sameBits n x y) = true
  | [], xs, ys, l, m, n, h, hx, hy => by
    have h1 : xs = [] ∧ ys = [] := by cases xs <;> cases ys <;> simp [eqAll] at h ⊢
    obtain ⟨rfl, rfl⟩ := h1
    simp only [VRs] at hx hy
    subst hx; subst hy
    exact ⟨rfl, rfl⟩
  | k :: ks, xs, ys, l, m, n, h, hx, hy => by
    cases xs with
    | nil => simp [eqAll] at h
    | cons x xs =>
      cases ys with
      | nil => simp [eqAll] at h
      | cons y ys =>
        simp only [eqAll] at h
        split at h <;> first | (cases h; done) | skip
        rename_i he
        simp only [VRs] at hx hy
        obtain ⟨c, cs, rfl, hc, hcs⟩ := hx
        obtain ⟨d, ds, rfl, hd, hds⟩ := hy
        obtain ⟨a, b⟩ := eqAll_same n h hcs hds
        exact ⟨by simp [a], by simp only [List.zip_cons_cons, List.all_cons, Bool.and_eq_true]; exact ⟨eqOne_same he hc hd n, b⟩⟩

theorem keyEq_same {K : KK} {x y : V} {c d : Value} (h : keyEq K x y = some true) (hx : VR μ x c) (hy : VR μ y d) (n : Nat) : Instr.sameBits (n + 1) d c = true := by
  unfold keyEq at h
  split at h
  · exact eqOne_same h hx hy (n + 1)
  · obtain ⟨l, rfl, hl⟩ := VR.g_inv hx
    obtain ⟨m, rfl, hm⟩ := VR.g_inv hy
    obtain ⟨a, b⟩ := eqAll_same n h hl hm
    simp only [Instr.sameBits, Bool.and_eq_true]
    exact ⟨by simp [a], by simpa using b⟩
  · cases h

theorem findV_hit {K : KK} {k : V} : ∀ {es : List (V × V × Nat)} {i j : Nat}, findV K k es i = some (some j) → i ≤ j ∧ ∃ e, es[j - i]? = some e ∧ keyEq K k e.1 = some true
  | [], i, j, h => by cases h
  | e :: es, i, j, h => by
    simp only [findV] at h
    split at h <;> first | (cases h; done) | skip
    · rename_i he
      cases h
      exact ⟨Nat.le_refl _, e, by simp, he⟩
    · obtain ⟨a, e', b, c⟩ := findV_hit h
      refine ⟨by omega, e', ?_, c⟩
      have : j - i = (j - (i + 1)) + 1 := by omega
      rw [this]; simpa using b

/-- What is known where a map may be written. -/
theorem mapV_spec (s : Sim W0 μ h w) {t : TypeId} {m k : V} {cm ck : Value} {K : KK} {id clk : Nat} {es : List (V × V × Nat)} {r : Option Nat} (hr : mapV P t m k h = some (K, id, es, clk, r)) (hm : VR μ m cm) (hk : VR μ k ck) :
    ∃ kt et L ents, P.underlying t = some (.map kt et) ∧ μ id = some L ∧ cm = .map (some L.blk) ∧ h.get id = some (.m es clk) ∧ w.heap[L.blk]? = some (.map ents clk) ∧ MR μ es ents.toList ∧
      (∀ e, (Instr.checkKey e 10000 kt ck).run P w = .ok () w) ∧ (Instr.findKey kt ck ents.toList).run P w = .ok (r.map fun j => (j, ((ents.toList[j]?).map (·.val)).getD undef)) w ∧
      (∀ j, r = some j → ∃ e, ents.toList[j]? = some e ∧ (Instr.keyThatStays e.key ck).run P w = .ok ck w) := by
  unfold mapV at hr
  split at hr <;> first | (cases hr; done) | skip
  rename_i kt et hu
  split at hr <;> first | (cases hr; done) | skip
  rename_i K' hK
  unfold mpR at hr
  split at hr <;> first | (cases hr; done) | skip
  rename_i id'
  split at hr <;> first | (cases hr; done) | skip
  rename_i es' clk' hg
  cases hc : (keyOk K' k && keyLen K' k) with
  | false => rw [hc] at hr; cases hr
  | true =>
    rw [hc] at hr
    simp only [cond_true] at hr
    split at hr <;> first | (cases hr; done) | skip
    rename_i r' hf
    cases hr
    simp only [Bool.and_eq_true] at hc
    obtain ⟨hko, hkl⟩ := hc
    simp only [VR] at hm
    obtain ⟨L, hL, rfl⟩ := hm
    obtain ⟨ents, h1, h2, h3⟩ := s.ob _ L _ hL hg
    obtain ⟨a, b⟩ := findKey_run (P := P) hK hk w h2 hf
    refine ⟨kt, et, L, ents, hu, hL, rfl, hg, h1, h2, fun e => checkKey_run (P := P) hK hko (fun ks xs h1 h2 => by subst h1; subst h2; simpa [keyLen] using hkl) hk 9998 w, a, fun j hj => ?_⟩
    subst hj
    obtain ⟨_, e, he, hke⟩ := findV_hit hf
    obtain ⟨ke, ve, ne⟩ := e
    obtain ⟨me, h4, h5, _, _⟩ := h2.get.2 j _ _ _ (by simpa using he)
    refine ⟨me, h4, ?_⟩
    have := keyEq_same hke hk h5 9999
    simp [Instr.keyThatStays, this]

/-- What an operation that writes leaves. -/
def Leaves (W0 : World) (μ : Mu) (h h' : H) (v : V) (s : Sem Value) (P : Program) (w : World) : Prop :=
  ∃ u w' μ', s.run P w = .ok u w' ∧ VR μ' v u ∧ (∀ i, i < h.next → μ' i = μ i) ∧ Sim W0 μ' h' w' ∧ h.next ≤ h'.next

theorem modify_set {es : Array MapEntry} {j : Nat} {e : MapEntry} (f : MapEntry → MapEntry) (h : es.toList[j]? = some e) : (es.modify j f).toList = es.toList.set j (f e) := by
  rw [Array.toList_modify]
  apply List.ext_getElem?
  intro i
  rw [List.getElem?_modify, List.getElem?_set]
  by_cases hi : j = i
  · subst hi
    have hlt : j < es.size := by have := (List.getElem?_eq_some_iff.1 h).1; simpa using this
    obtain ⟨_, he⟩ := List.getElem?_eq_some_iff.1 h
    rw [Array.getElem_toList] at he
    simp [hlt, he]
  · simp [hi]

theorem mapUpV_sound (s : Sim W0 μ h w) {t : TypeId} {m k x : V} {cm ck cx : Value} {v : V} {h' : H} (hr : mapUpV P t m k x h = some (v, h')) (hm : VR μ m cm) (hk : VR μ k ck) (hx : VR μ x cx) :
    v = .t [] ∧ h'.next = h.next ∧ ∃ w', (Instr.mapUpdate t cm ck cx).run P w = .ok () w' ∧ Sim W0 μ h' w' := by
  unfold mapUpV at hr
  split at hr <;> first | (cases hr; done) | skip
  · rename_i K id es clk j hmv
    split at hr <;> first | (cases hr; done) | skip
    rename_i e he
    cases hr
    obtain ⟨kt, et, L, ents, hu, hL, rfl, hg, hw, hmr, hchk, hfind, hkey⟩ := mapV_spec s hmv hm hk
    obtain ⟨me, hme, hstay⟩ := hkey j rfl
    have hme' : ents[j]? = some me := toList_get hme
    refine ⟨rfl, rfl, _, ?_, s.writeMap (es' := es.set j (k, x, e.2.2)) (clk' := clk) (ents' := ents.modify j fun a => { a with key := ck, val := cx }) hL hg ?_⟩
    · unfold Instr.mapUpdate
      simp only [Sem.run_bind, run_underlying hu, Result.andThen_ok, run_getObj hw, hchk, hfind, Option.map_some]
      simp [hme', hstay, run_setObj hw]
    · rw [modify_set _ hme]
      obtain ⟨ke, ve, ne⟩ := e
      obtain ⟨me2, h4, h5, h6, h7⟩ := hmr.get.2 j _ _ _ he
      rw [hme] at h4; cases h4
      exact hmr.set hk hx h7
  · rename_i K id es clk hmv
    cases hr
    obtain ⟨kt, et, L, ents, hu, hL, rfl, hg, hw, hmr, hchk, hfind, hkey⟩ := mapV_spec s hmv hm hk
    refine ⟨rfl, rfl, _, ?_, s.writeMap (es' := es ++ [(k, x, clk)]) (clk' := clk + 1) (ents' := ents.push { key := ck, val := cx, born := clk }) hL hg ?_⟩
    · unfold Instr.mapUpdate
      simp only [Sem.run_bind, run_underlying hu, Result.andThen_ok, run_getObj hw, hchk, hfind, Option.map_none]
      simp [run_setObj hw]
    · rw [Array.toList_push]
      exact hmr.append (by simp only [MR]; exact ⟨_, [], rfl, hk, hx, rfl, rfl⟩)

theorem mapEntryV_sound (s : Sim W0 μ h w) {t : TypeId} {m k : V} {cm ck : Value} {v : V} {h' : H} (hr : mapEntryV P t m k h = some (v, h')) (hm : VR μ m cm) (hk : VR μ k ck) :
    h'.next = h.next ∧ ∃ u w', (Instr.mapEntry t cm ck).run P w = .ok u w' ∧ VR μ v u ∧ Sim W0 μ h' w' := by
  unfold mapEntryV at hr
  split at hr <;> first | (cases hr; done) | skip
  · rename_i K id es clk j hmv
    split at hr <;> first | (cases hr; done) | skip
    rename_i e he
    cases hr
    obtain ⟨kt, et, L, ents, hu, hL, rfl, hg, hw, hmr, hchk, hfind, hkey⟩ := mapV_spec s hmv hm hk
    obtain ⟨me, hme, hstay⟩ := hkey j rfl
    have hme' : ents[j]? = some me := toList_get hme
    obtain ⟨ke, ve, ne⟩ := e
    obtain ⟨me2, h4, h5, h6, h7⟩ := hmr.get.2 j _ _ _ he
    rw [hme] at h4; cases h4
    refine ⟨rfl, .tuple #[me.val, .int .i64 me.born], _, ?_, ?_, s.writeMap (es' := es.set j (k, ve, ne)) (clk' := clk) (ents' := ents.modify j fun a => { a with key := ck }) hL hg ?_⟩
    · unfold Instr.mapEntry
      simp only [Sem.run_bind, run_underlying hu, Result.andThen_ok, run_getObj hw, hchk, hfind, Option.map_some]
      simp [hme', hstay, run_setObj hw, goInt]
    · simp only [VR, VRs]
      exact ⟨_, rfl, _, _, rfl, h6, _, _, rfl, by rw [h7], rfl⟩
    · rw [modify_set _ hme]
      exact hmr.set hk h6 h7
  · rename_i K id es clk hmv
    split at hr <;> first | (cases hr; done) | skip
    rename_i z hz
    cases hr
    obtain ⟨kt, et, L, ents, hu, hL, rfl, hg, hw, hmr, hchk, hfind, hkey⟩ := mapV_spec s hmv hm hk
    have he : elemOf P t = et := by simp [elemOf, hu]
    rw [he] at hz
    obtain ⟨zc, hzr, hzrun⟩ := zeroV_run (P := P) (μ := μ) hz
    refine ⟨rfl, .tuple #[zc, .int .i64 clk], _, ?_, ?_, s.writeMap (es' := es ++ [(k, z, clk)]) (clk' := clk + 1) (ents' := ents.push { key := ck, val := zc, born := clk }) hL hg ?_⟩
    · unfold Instr.mapEntry
      simp only [Sem.run_bind, run_underlying hu, Result.andThen_ok, run_getObj hw, hchk, hfind, Option.map_none]
      simp [run_setObj hw, hzrun w, goInt]
    · simp only [VR, VRs]
      exact ⟨_, rfl, _, _, rfl, hzr, _, _, rfl, rfl, rfl⟩
    · rw [Array.toList_push]
      exact hmr.append (by simp only [MR]; exact ⟨_, [], rfl, hk, hzr, rfl, rfl⟩)

theorem findIdx_rel {es : List (V × V × Nat)} {l : List MapEntry} (h : MR μ es l) (n : Int) : l.findIdx? (fun e => (e.born : Int) == n) = es.findIdx? (fun e => decide ((e.2.2 : Int) = n)) := by
  induction es generalizing l with
  | nil => simp only [MR] at h; subst h; rfl
  | cons a es ih =>
    obtain ⟨k, v, b⟩ := a
    simp only [MR] at h
    obtain ⟨e, rest, rfl, _, _, hb, h4⟩ := h
    rw [List.findIdx?_cons, List.findIdx?_cons, ih h4, hb]
    congr 1

theorem entryStoreV_sound (s : Sim W0 μ h w) {t : TypeId} {m st x : V} {cm cs cx : Value} {v : V} {h' : H} (hr : entryStoreV m st x h = some (v, h')) (hm : VR μ m cm) (hs : VR μ st cs) (hx : VR μ x cx) :
    v = .t [] ∧ h'.next = h.next ∧ ∃ w', (Instr.entryStore t cm cs cx).run P w = .ok () w' ∧ Sim W0 μ h' w' := by
  unfold entryStoreV at hr
  split at hr <;> first | (cases hr; done) | skip
  rename_i id k n
  split at hr <;> first | (cases hr; done) | skip
  rename_i es clk hg
  split at hr <;> first | (cases hr; done) | skip
  rename_i j hj
  split at hr <;> first | (cases hr; done) | skip
  rename_i e he
  cases hr
  simp only [VR] at hm hs
  obtain ⟨L, hL, rfl⟩ := hm
  subst hs
  obtain ⟨ents, hw, hmr, _⟩ := s.ob _ L _ hL hg
  obtain ⟨ke, ve, ne⟩ := e
  obtain ⟨me, h4, h5, h6, h7⟩ := hmr.get.2 j _ _ _ he
  have hidx : ents.findIdx? (fun e => (e.born : Int) == n) = some j := by
    have := findIdx_rel hmr n
    rw [hj] at this
    rw [← this]
    obtain ⟨l⟩ := ents
    exact List.findIdx?_toArray _ _
  refine ⟨rfl, rfl, _, ?_, s.writeMap (es' := es.set j (ke, x, ne)) (clk' := clk) (ents' := ents.modify j fun a => { a with val := cx }) hL hg ?_⟩
  · unfold Instr.entryStore
    simp only [Sem.run_bind, Result.andThen_ok, run_getObj hw, asInt, asIntOf, Sem.run_pure, hidx]
    simp [run_setObj hw]
  · rw [modify_set _ h4]
    exact hmr.set h5 hx h7
end
end Go.Cb
