/- Regions that draw their order: what the order of the list comes to, every order comes to. -/
import Derived.Test.YthpapfgdjdjcfaaGreatDoorCbO
set_option linter.unusedVariables false
set_option linter.unusedSimpArgs false
namespace Go.Cb
open Go.RowKit

theorem binds_any (e : Edge) : Region.binds .any e = bindsE e := by obtain ⟨on, g⟩ := e; cases g <;> rfl

theorem allB_spec {α : Type} {p : α → Bool} : ∀ {l : List α}, allB p l = true → ∀ x ∈ l, p x = true
  | [], _, x, hx => by cases hx
  | y :: ys, h, x, hx => by
    unfold allB at h
    cases hy : p y with
    | false => rw [hy] at h; cases h
    | true =>
      rw [hy] at h
      rcases List.mem_cons.1 hx with rfl | hx
      · exact hy
      · exact allB_spec h x hx

theorem memB_spec {i : Nat} : ∀ {l : List Nat}, memB i l = true ↔ i ∈ l
  | [] => by simp [memB]
  | x :: xs => by
    unfold memB
    cases hb : Nat.beq i x with
    | true => simp [Nat.eq_of_beq_eq_true hb]
    | false =>
      have : i ≠ x := Nat.ne_of_beq_eq_false hb
      simp [this, memB_spec (l := xs)]

theorem pairB_spec {p : Nat → Nat → Bool} : ∀ {l : List Nat}, pairB p l = true → l.Pairwise fun i j => p i j = true
  | [], _ => .nil
  | x :: xs, h => by
    unfold pairB at h
    cases hx : allB (p x) xs with
    | false => rw [hx] at h; cases h
    | true => rw [hx] at h; exact .cons (allB_spec hx) (pairB_spec h)

/-- What the check shows. -/
structure Draw (P : Program) (ops : List Oper) (bf ord : List Nat) : Prop where
  len : ord.length = ops.length
  all : ∀ i, i < ops.length → i ∈ ord
  mem : ∀ i, i ∈ ord → i < ops.length
  pair : ord.Pairwise fun i j => (i ≠ j ∧ (bf.getD i 0).testBit j = false) ∧ ∀ o o', ops[i]? = some o → ops[j]? = some o' → (isEff P o.op = true → (bf.getD j 0).testBit i = true) ∧
    (∀ d, o.dst = some d → (d ∈ looks ops o' → (bf.getD j 0).testBit i = true) ∧ o'.dst ≠ some d) ∧ ∀ d, o'.dst = some d → d ∈ looks ops o → (bf.getD j 0).testBit i = true
  self : ∀ (i : Nat) o, ops[i]? = some o → ∀ d, o.dst = some d → d ∉ looks ops o
  preds : ∀ pre i rest, ord = pre ++ i :: rest → ∀ o, ops[i]? = some o → ∀ e ∈ o.after.toList, bindsE e = true → e.on ∈ pre
  bf : ∀ (j : Nat) o, ops[j]? = some o → ∀ i, (bf.getD j 0).testBit i = true → ∃ e ∈ o.after.toList, bindsE e = true ∧ (i = e.on ∨ (bf.getD e.on 0).testBit i = true)

theorem stepB_spec {bf : List Nat} {i : Nat} : ∀ {l : List Edge} {s : Nat}, (l.foldl (fun s e => cond (bindsE e) (s ||| 2 ^ e.on ||| bf.getD e.on 0) s) s).testBit i = true →
    s.testBit i = true ∨ ∃ e ∈ l, bindsE e = true ∧ (i = e.on ∨ (bf.getD e.on 0).testBit i = true)
  | [], s, h => .inl h
  | e :: es, s, h => by
    rw [List.foldl_cons] at h
    rcases stepB_spec h with h | ⟨e', h1, h2⟩
    · cases hb : bindsE e with
      | false => rw [hb] at h; exact .inl h
      | true =>
        rw [hb] at h
        simp only [cond_true, Nat.testBit_or, Bool.or_eq_true, Nat.testBit_two_pow, decide_eq_true_eq] at h
        rcases h with (h | h) | h
        · exact .inl h
        · exact .inr ⟨e, by simp, hb, .inl h.symm⟩
        · exact .inr ⟨e, by simp, hb, .inr h⟩
    · exact .inr ⟨e', by simp [h1], h2⟩

theorem predsB_spec {ops : List Oper} : ∀ {l pre : List Nat}, predsB ops pre l = true → ∀ p i rest, l = p ++ i :: rest → ∀ o, ops[i]? = some o → ∀ e ∈ o.after.toList, bindsE e = true → e.on ∈ p ∨ e.on ∈ pre
  | [], _, _, p, i, rest, h, _, _, _, _, _ => by simp at h
  | x :: xs, pre, hb, p, i, rest, h, o, ho, e, he, hbe => by
    unfold predsB at hb
    cases hx : predB ops pre x with
    | false => rw [hx] at hb; cases hb
    | true =>
      rw [hx] at hb
      cases p with
      | nil =>
        simp only [List.nil_append, List.cons.injEq] at h
        obtain ⟨rfl, rfl⟩ := h
        simp only [predB, ho] at hx
        have := List.all_eq_true.1 hx e he
        rw [hbe] at this
        exact .inr (memB_spec.1 (by simpa using this))
      | cons y p =>
        simp only [List.cons_append, List.cons.injEq] at h
        obtain ⟨rfl, rfl⟩ := h
        rcases predsB_spec hb p i rest rfl o ho e he hbe with h | h
        · exact .inl (by simp [h])
        · rcases List.mem_cons.1 h with h | h
          · exact .inl (by simp [h])
          · exact .inr h

theorem drawOK_spec {P : Program} {ops : List Oper} {bf ord : List Nat} (h : drawOK P ops bf ord = true) : Draw P ops bf ord := by
  unfold drawOK at h
  simp only [Bool.and_eq_true] at h
  obtain ⟨⟨⟨⟨⟨⟨h1, h2⟩, h3⟩, h4⟩, h5⟩, h6⟩, h7⟩ := h
  refine ⟨Nat.eq_of_beq_eq_true h7, fun i hi => ?_, fun i hi => ?_, ?_, fun i o ho d hd hm => ?_, fun pre i rest e o ho ed he hb => ?_, fun j o ho i hi => ?_⟩
  · exact memB_spec.1 (allB_spec h1 i (by simpa using hi))
  · have := allB_spec h2 i hi
    rwa [Nat.blt_eq] at this
  · refine (pairB_spec h3).imp fun {i j} hp => ?_
    unfold pairOK at hp
    cases hi : ops[i]? with
    | none => rw [hi] at hp; cases hp
    | some o =>
      cases hj : ops[j]? with
      | none => rw [hi, hj] at hp; cases hp
      | some o' =>
        simp only [hi, hj, Bool.and_eq_true] at hp
        obtain ⟨⟨⟨⟨p0, p4⟩, p1⟩, p2⟩, p3⟩ := hp
        refine ⟨⟨fun e => ?_, by simpa using p4⟩, fun q q' hq hq' => ?_⟩
        · subst e; simp at p0
        · cases hq; cases hq'
          refine ⟨fun he => by rw [he] at p1; exact p1, fun d hd => ?_, fun d hd hm => ?_⟩
          · rw [hd] at p2
            simp only [Bool.and_eq_true] at p2
            refine ⟨fun hm => by rw [memB_spec.2 hm] at p2; exact p2.1, fun e => ?_⟩
            rw [e] at p2
            simp at p2
          · rw [hd] at p3
            simp only [memB_spec.2 hm, cond_true] at p3
            exact p3
  · have := allB_spec h4 o (List.mem_of_getElem? ho)
    unfold selfOK at this
    rw [hd] at this
    simp only [memB_spec.2 hm] at this
    cases this
  · rcases predsB_spec h5 pre i rest e o ho ed he hb with h | h
    · exact h
    · cases h
  · have hz : (j, o) ∈ (List.range ops.length).zip ops := by
      have hj : j < ops.length := by
        rcases Nat.lt_or_ge j ops.length with h | h
        · exact h
        · rw [List.getElem?_eq_none h] at ho; cases ho
      refine List.mem_of_getElem? (i := j) ?_
      rw [List.getElem?_zip_eq_some]
      exact ⟨by simp [hj], ho⟩
    have := Nat.eq_of_beq_eq_true (allB_spec h6 _ hz)
    rw [this] at hi
    rcases stepB_spec hi with h | h
    · simp at h
    · exact h

/-! ### What an operation without effect gives, whenever it runs -/

def Core (P : Program) (id : Option Nat) (ρ : Operand → Option V) (h : H) (op : Op) (v : V) : Prop :=
  match kindOf P op with
  | .mv | .pure => pureOp P ρ op = some v
  | .read => readOp P ρ op h = some v
  | .alloc => ∃ ob mk n, allocOp P ρ op = some (ob, mk) ∧ v = mk n ∧ id = some n ∧ h.get n = some ob
  | _ => False

def PF (P : Program) (ops : List Oper) (id : Option Nat) (tm : Tr V) (h : H) (o : Oper) (v : V) : Prop :=
  match o.guard with
  | none => Core P id (aval tm) h o.op v
  | some (j, want) => ∃ x, guardV ops tm j = some x ∧ (okB x want = true → Core P id (aval tm) h o.op v) ∧ (okB x want = false → v = .t [])

section
variable {P : Program} {ops : List Oper} {id : Option Nat} {tm : Tr V} {h h' : H} {o : Oper} {v : V}

theorem Core.congr {ρ ρ' : Operand → Option V} {op : Op} (hh : ∀ x ∈ op.operands, ρ x = ρ' x) (hc : Core P id ρ h op v) : Core P id ρ' h op v := by
  unfold Core at *
  rwa [← pureOp_congr hh, ← readOp_congr hh, ← allocOp_congr hh]

theorem Core.sub {ρ : Operand → Option V} {op : Op} (hs : h.sub h') (hc : Core P id ρ h op v) : Core P id ρ h' op v := by
  unfold Core at *
  cases hk : kindOf P op <;> simp only [hk] at hc ⊢ <;> first | exact hc | skip
  · exact readOp_sub hs hc
  · obtain ⟨ob, mk, n, h1, h2, h3, h4⟩ := hc
    exact ⟨ob, mk, n, h1, h2, h3, hs _ _ h4⟩

theorem Core.quiet {ρ : Operand → Option V} {op : Op} (ht : isTouch P op = false) (hc : Core P id ρ h op v) : Core P id ρ h' op v := by
  unfold Core isTouch at *
  cases hk : kindOf P op <;> simp only [hk] at hc ht ⊢ <;> first | exact hc | (cases ht; done)

theorem PF.sub (hs : h.sub h') (hp : PF P ops id tm h o v) : PF P ops id tm h' o v := by
  unfold PF at *
  cases hg : o.guard with
  | none => simp only [hg] at hp ⊢; exact hp.sub hs
  | some g =>
    obtain ⟨j, want⟩ := g
    simp only [hg] at hp ⊢
    obtain ⟨x, h1, h2, h3⟩ := hp
    exact ⟨x, h1, fun e => (h2 e).sub hs, h3⟩

theorem PF.quiet (ht : isTouch P o.op = false) (hp : PF P ops id tm h o v) : PF P ops id tm h' o v := by
  unfold PF at *
  cases hg : o.guard with
  | none => simp only [hg] at hp ⊢; exact hp.quiet ht
  | some g =>
    obtain ⟨j, want⟩ := g
    simp only [hg] at hp ⊢
    obtain ⟨x, h1, h2, h3⟩ := hp
    exact ⟨x, h1, fun e => (h2 e).quiet ht, h3⟩

theorem mem_looks_op {t : Tmp} (hm : Operand.tmp t ∈ o.op.operands) : t ∈ looks ops o :=
  List.mem_append_left _ (List.mem_filterMap.2 ⟨.tmp t, by simpa using hm, rfl⟩)

theorem mem_looks_guard {j : Nat} {want : Bool} {q : Oper} {d : Tmp} (hg : o.guard = some (j, want)) (hq : ops[j]? = some q) (hd : q.dst = some d) : d ∈ looks ops o := by
  refine List.mem_append_right _ ?_
  simp only [hg, hq, hd]
  simp

theorem putT_get_ne {nt : Nat} {dst : Option Tmp} {u : V} {t : Tmp} (hne : dst ≠ some t) : (putT nt tm dst u).get t = tm.get t := by
  cases dst with
  | none => rfl
  | some d =>
    simp only [putT]
    cases Nat.blt d nt with
    | false => rfl
    | true => exact Tr.get_set_ne _ _ (fun e => hne (by rw [e]))

theorem aval_putT {nt : Nat} {dst : Option Tmp} {u : V} (hd : ∀ d, dst = some d → d ∉ looks ops o) : ∀ x ∈ o.op.operands, aval tm x = aval (putT nt tm dst u) x := by
  intro x hx
  cases x with
  | tmp t => exact (putT_get_ne fun e => hd t e (mem_looks_op hx)).symm
  | _ => rfl

theorem guardV_putT {nt : Nat} {dst : Option Tmp} {u : V} {j : Nat} {want : Bool} (hg : o.guard = some (j, want)) (hd : ∀ d, dst = some d → d ∉ looks ops o) : guardV ops (putT nt tm dst u) j = guardV ops tm j := by
  unfold guardV
  cases hq : ops[j]? with
  | none => rfl
  | some q =>
    cases hdq : q.dst with
    | none => simp only [hdq]
    | some d => simp only [hdq]; exact congrArg boolV (putT_get_ne fun e => hd d e (mem_looks_guard hg hq hdq))

theorem PF.putT {nt : Nat} {dst : Option Tmp} {u : V} (hd : ∀ d, dst = some d → d ∉ looks ops o) (hp : PF P ops id tm h o v) : PF P ops id (putT nt tm dst u) h o v := by
  unfold PF at *
  cases hg : o.guard with
  | none => simp only [hg] at hp ⊢; exact hp.congr (aval_putT hd)
  | some g =>
    obtain ⟨j, want⟩ := g
    simp only [hg] at hp ⊢
    obtain ⟨x, h1, h2, h3⟩ := hp
    exact ⟨x, by rw [guardV_putT hg hd]; exact h1, fun e => (h2 e).congr (aval_putT hd), h3⟩

/-- The slots that an operation names are known. -/
def Knows (ops : List Oper) (μ : Mu) (tm : Tr V) (a : Act) (o : Oper) : Prop := ∀ t ∈ looks ops o, ∀ v, tm.get t = some v → VR μ v (a.tmps.getD t undef)

theorem Knows.aval {μ : Mu} {a : Act} (hl : Knows ops μ tm a o) : ∃ ρ : Operand → Option V, (∀ x ∈ o.op.operands, aval tm x = ρ x) ∧ ∀ x v, ρ x = some v → VR μ v (a.eval x) := by
  classical
  refine ⟨fun x => if x ∈ o.op.operands then Go.Cb.aval tm x else none, fun x hx => (if_pos hx).symm, fun x v hx => ?_⟩
  simp only at hx
  by_cases hm : x ∈ o.op.operands
  · rw [if_pos hm] at hx
    cases x with
    | tmp t => exact hl t (mem_looks_op hm) v hx
    | const c => exact FR.aval (tm := .e) (fun t v h => by cases h) (x := .const c) hx
    | global g => cases hx
    | func f => exact FR.aval (tm := .e) (fun t v h => by cases h) (x := .func f) hx
  · rw [if_neg hm] at hx; cases hx

theorem Knows.guard {μ : Mu} {a : Act} (hl : Knows ops μ tm a o) {j : Nat} {want : Bool} {x : Option Bool} (hg : o.guard = some (j, want)) (hv : guardV ops tm j = some x) : yielded ops.toArray a.tmps j = x := by
  unfold guardV at hv
  cases ho : ops[j]? with
  | none => simp only [ho] at hv; cases hv
  | some q =>
  cases hd : q.dst with
  | none => simp only [ho, hd] at hv; cases hv
  | some d =>
  simp only [ho, hd] at hv
  rw [yielded_eq ho hd]
  exact boolV_spec hv fun u hu => by have := hl d (mem_looks_guard hg ho hd) u hu; rwa [Array.getD_eq_getD_getElem?] at this

variable {W0 : World} {μ : Mu} {w : World} {a : Act} {Φ : Calls'}

theorem Core.exec {next : Act → World → Prop} {Q : Exit → Act → World → Prop} (s : Sim W0 μ h w) (hl : Knows ops μ tm a o) (hid : ∀ n, id = some n → n < h.next ∧ μ n = none) (hp : Core P id (aval tm) h o.op v)
    (hk : ∀ u w' μ', VR μ' v u → μ.le μ' → (∀ n, id ≠ some n → μ' n = μ n) → Sim W0 μ' h w' → next (a.put o.dst u) w') : o.wp P a w next Q := by
  obtain ⟨ρ, h1, hρ⟩ := hl.aval
  have hc := hp.congr h1
  unfold Core at hc
  have refl : μ.le μ := fun _ _ h => h
  have quiet : pureOp P ρ o.op = some v → o.wp P a w next Q := by
    intro hp
    obtain ⟨u, hu, hrun⟩ := pureOp_sound hρ hp
    unfold Oper.wp
    rw [hrun w]
    exact hk u w μ hu refl (fun _ _ => rfl) s
  cases hkd : kindOf P o.op <;> simp only [hkd] at hc
  · exact quiet hc
  · exact quiet hc
  · obtain ⟨u, hu, hrun⟩ := readOp_sound s hρ hc
    unfold Oper.wp
    rw [hrun]
    exact hk u w μ hu refl (fun _ _ => rfl) s
  · obtain ⟨ob, mk, n, h2, rfl, rfl, h4⟩ := hc
    obtain ⟨obj, c, m, hrun, hor⟩ := allocOp_sound (W0 := W0) (w := w) hρ h2 s.size
    obtain ⟨hlt, hi⟩ := hid n rfl
    obtain ⟨h5, h6⟩ := hor n hi
    unfold Oper.wp
    rw [hrun]
    exact hk c _ _ h6 (Mu.le_put hi) (fun k hk => Mu.put_ne _ _ fun e => hk (by rw [e])) (s.alloc hi hlt h4 h5)

theorem PF.exec {next : Act → World → Prop} {Q : Exit → Act → World → Prop} (s : Sim W0 μ h w) (hl : Knows ops μ tm a o) (hid : ∀ n, id = some n → n < h.next ∧ μ n = none) (hp : PF P ops id tm h o v)
    (hk : ∀ u w' μ', VR μ' v u → μ.le μ' → (∀ n, id ≠ some n → μ' n = μ n) → Sim W0 μ' h w' → next (a.put o.dst u) w') : wpOne P ops.toArray Q o next a w := by
  unfold wpOne
  unfold PF at hp
  cases hg : o.guard with
  | none =>
    simp only [hg] at hp
    have hw : Region.wanted o (yielded ops.toArray a.tmps) = true := by simp [Region.wanted, hg]
    rw [if_pos hw]
    exact .inl (hp.exec s hl hid hk)
  | some g =>
    obtain ⟨j, want⟩ := g
    simp only [hg] at hp
    obtain ⟨x, hx, h1, h2⟩ := hp
    have hy := hl.guard hg hx
    cases hxw : okB x want with
    | true =>
      have hw : Region.wanted o (yielded ops.toArray a.tmps) = true := by
        rw [wanted_eq hg, hy, hxw] <;> simp
      rw [if_pos hw]
      exact .inl ((h1 hxw).exec s hl hid hk)
    | false =>
      have hw : ¬ Region.wanted o (yielded ops.toArray a.tmps) = true := by
        rw [wanted_eq hg, hy, hxw] <;> simp
      rw [if_neg hw]
      refine hk undef w μ ?_ (fun _ _ h => h) (fun _ _ => rfl) s
      rw [h2 hxw]
      simp [VR, VRs, undef]

theorem evOne_looks (hΦ : AllGood P W0 Φ) {α : Type} {k : V → M α} {r : α × H} (s : Sim W0 μ h w) (hl : Knows ops μ tm a o) (hr : evOne P Φ ops o tm k h = some r) {next : Act → World → Prop} {Q : Exit → Act → World → Prop}
    (hk : ∀ v h' u w' μ', k v h' = some r → VR μ' v u → (∀ i, i < h.next → μ' i = μ i) → Sim W0 μ' h' w' → h.next ≤ h'.next → next (a.put o.dst u) w') : wpOne P ops.toArray Q o next a w := by
  obtain ⟨ρ, h1, hρ⟩ := hl.aval
  unfold wpOne
  cases hg : o.guard with
  | none =>
    simp only [evOne, hg] at hr
    rw [evOp_eq, opM_congr h1] at hr
    obtain ⟨v, h', hm, hkv⟩ := bindM_inv hr
    have hw : Region.wanted o (yielded ops.toArray a.tmps) = true := by simp [Region.wanted, hg]
    rw [if_pos hw]
    exact .inl (opM_sound hΦ s hρ hm fun u w' μ' h1 h2 h3 h4 => hk v h' u w' μ' hkv h1 h2 h3 h4)
  | some g =>
    obtain ⟨j, want⟩ := g
    simp only [evOne, hg] at hr
    rw [opM_congr h1] at hr
    obtain ⟨v, h', hm, hkv⟩ := bindM_inv hr
    cases hgv : guardV ops tm j with
    | none => simp only [hgv, gdM] at hm; cases hm
    | some x =>
    simp only [hgv, gdM] at hm
    have hy := hl.guard hg hgv
    cases hx : okB x want with
    | true =>
      rw [hx] at hm
      simp only [cond_true] at hm
      have hw : Region.wanted o (yielded ops.toArray a.tmps) = true := by
        rw [wanted_eq hg, hy, hx] <;> simp
      rw [if_pos hw]
      exact .inl (opM_sound hΦ s hρ hm fun u w' μ' h1 h2 h3 h4 => hk v h' u w' μ' hkv h1 h2 h3 h4)
    | false =>
      rw [hx] at hm
      simp only [cond_false] at hm
      cases hm
      have hw : ¬ Region.wanted o (yielded ops.toArray a.tmps) = true := by
        rw [wanted_eq hg, hy, hx] <;> simp
      rw [if_neg hw]
      exact hk _ _ undef w μ hkv (by simp [VR, VRs, undef]) (fun _ _ => rfl) s (Nat.le_refl _)

theorem allocOp_mk {ρ : Operand → Option V} {op : Op} {ob : Ob} {mk : Nat → V} (he : allocOp P ρ op = some (ob, mk)) (i : Nat) : (∃ x, mk i = .p i x) ∨ (∃ a b c d e, mk i = .sl i a b c d e) ∨ mk i = .m i := by
  cases op <;> simp only [allocOp] at he <;> first | (cases he; done) | skip
  case alloc => split at he <;> first | (cases he; exact .inl ⟨_, rfl⟩) | cases he
  case box =>
    split at he <;> first | (cases he; done) | skip
    rename_i v _
    cases hc : v.cells.all V.one <;> rw [hc] at he <;> cases he
    exact .inl ⟨_, rfl⟩
  case buildSlice =>
    split at he <;> first | (cases he; done) | skip
    split at he <;> first | (cases he; done) | skip
    rw [Bool.cond_eq_ite] at he
    split at he
    · split at he <;> cases he
      exact .inr (.inl ⟨_, _, _, _, _, rfl⟩)
    · rw [Bool.cond_eq_ite] at he
      split at he <;> cases he
      exact .inr (.inl ⟨_, _, _, _, _, rfl⟩)
  case makeSlice =>
    split at he <;> first | (cases he; done) | skip
    split at he <;> first | (cases he; done) | skip
    rw [Bool.cond_eq_ite] at he
    split at he <;> cases he
    exact .inr (.inl ⟨_, _, _, _, _, rfl⟩)
  case makeMap t r =>
    cases r <;> simp only at he <;> first | (cases he; done) | skip
    split at he <;> cases he
    exact .inr (.inr rfl)

theorem opM_quiet {ρ : Operand → Option V} {op : Op} (he : isEff P op = false) (hm : opM P Φ ρ op h = some (v, h')) :
    ∃ id, Core P id ρ h' op v ∧ ((h' = h ∧ id = none) ∨ ∃ ob, h' = h.new ob ∧ id = some h.next) := by
  unfold opM at hm
  unfold isEff at he
  unfold Core
  cases hk : kindOf P op <;> simp only [hk] at hm he ⊢ <;> first | (cases he; done) | skip
  · cases hp : pureOp P ρ op with
    | none => rw [hp] at hm; cases hm
    | some u => rw [hp] at hm; cases hm; exact ⟨none, rfl, .inl ⟨rfl, rfl⟩⟩
  · cases hp : pureOp P ρ op with
    | none => rw [hp] at hm; cases hm
    | some u => rw [hp] at hm; cases hm; exact ⟨none, rfl, .inl ⟨rfl, rfl⟩⟩
  · cases hp : readOp P ρ op h with
    | none => rw [hp] at hm; cases hm
    | some u => rw [hp] at hm; cases hm; exact ⟨none, hp, .inl ⟨rfl, rfl⟩⟩
  · cases hp : allocOp P ρ op with
    | none => rw [hp] at hm; cases hm
    | some q =>
      obtain ⟨ob, mk⟩ := q
      rw [hp] at hm; cases hm
      exact ⟨some h.next, ⟨ob, mk, h.next, rfl, rfl, rfl, H.get_new_same _ _⟩, .inr ⟨ob, rfl, rfl⟩⟩

theorem go_spec {ρ : Operand → Option V} {h2 : H} (hρ : ρ = aval tm) (hc : Core P id ρ h' o.op v) (hk : checkOf.go P tm o v h2 = true) : Core P id ρ h2 o.op v := by
  subst hρ
  unfold Core checkOf.go at *
  cases hkd : kindOf P o.op <;> simp only [hkd] at hc hk ⊢ <;> first | exact hc | skip
  · cases hr : readOp P (aval tm) o.op h2 with
    | none => rw [hr] at hk; cases hk
    | some u => rw [hr] at hk; rw [V.eq_of_beq hk]
  · obtain ⟨ob, mk, n, h1, rfl, h3, h4⟩ := hc
    refine ⟨ob, mk, n, h1, rfl, h3, ?_⟩
    rw [h1] at hk
    simp only at hk
    rcases allocOp_mk h1 n with ⟨x, e⟩ | ⟨a, b, c, d, e', e⟩ | e <;> rw [e] at hk <;> exact Ob.eq_of_beq hk

theorem evOne_quiet {α : Type} {k : V → M α} {r : α × H} (he : isEff P o.op = false) (hr : evOne P Φ ops o tm k h = some r) :
    ∃ v h' id, k v h' = some r ∧ PF P ops id tm h' o v ∧ ((h' = h ∧ id = none) ∨ ∃ ob, h' = h.new ob ∧ id = some h.next) ∧ ∀ h2, checkOf P ops tm o v h2 = true → PF P ops id tm h2 o v := by
  cases hg : o.guard with
  | none =>
    simp only [evOne, hg] at hr
    rw [evOp_eq] at hr
    obtain ⟨v, h', hm, hkv⟩ := bindM_inv hr
    obtain ⟨id, h1, h2⟩ := opM_quiet he hm
    refine ⟨v, h', id, hkv, by simp only [PF, hg]; exact h1, h2, fun h3 hc => ?_⟩
    simp only [checkOf, hg] at hc
    simp only [PF, hg]
    exact go_spec rfl h1 hc
  | some g =>
    obtain ⟨j, want⟩ := g
    simp only [evOne, hg] at hr
    obtain ⟨v, h', hm, hkv⟩ := bindM_inv hr
    cases hgv : guardV ops tm j with
    | none => simp only [hgv, gdM] at hm; cases hm
    | some x =>
    simp only [hgv, gdM] at hm
    cases hx : okB x want with
    | true =>
      rw [hx] at hm
      obtain ⟨id, h1, h2⟩ := opM_quiet he hm
      refine ⟨v, h', id, hkv, ?_, h2, fun h3 hc => ?_⟩
      · simp only [PF, hg]; exact ⟨x, hgv, fun _ => h1, fun e => (by rw [hx] at e; cases e)⟩
      · simp only [checkOf, hg, hgv, hx] at hc
        simp only [PF, hg]; exact ⟨x, hgv, fun _ => go_spec rfl h1 hc, fun e => (by rw [hx] at e; cases e)⟩
    | false =>
      rw [hx] at hm
      cases hm
      refine ⟨_, h, none, hkv, ?_, .inl ⟨rfl, rfl⟩, fun h3 hc => ?_⟩
      · simp only [PF, hg]; exact ⟨x, hgv, fun e => (by rw [hx] at e; cases e), fun _ => by first | rfl | trivial⟩
      · simp only [PF, hg]; exact ⟨x, hgv, fun e => (by rw [hx] at e; cases e), fun _ => by first | rfl | trivial⟩

theorem checks_spec {α : Type} {before : Nat} {r : α × H} : ∀ {l : List (Nat × (H → Bool))} {k : M α}, checks before l k h = some r → k h = some r ∧ ∀ q ∈ l, Nat.testBit before q.1 = false → q.2 h = true
  | [], k, hr => ⟨hr, fun q hq => by cases hq⟩
  | (i, c) :: rest, k, hr => by
    unfold checks at hr
    cases hb : Nat.testBit before i with
    | true =>
      rw [hb] at hr
      obtain ⟨h1, h2⟩ := checks_spec hr
      refine ⟨h1, fun q hq hn => ?_⟩
      rcases List.mem_cons.1 hq with rfl | hq
      · rw [hb] at hn; cases hn
      · exact h2 q hq hn
    | false =>
      rw [hb] at hr
      simp only [cond_false, chkM] at hr
      cases hc : c h with
      | false => rw [hc] at hr; cases hr
      | true =>
        rw [hc] at hr
        obtain ⟨h1, h2⟩ := checks_spec hr
        refine ⟨h1, fun q hq hn => ?_⟩
        rcases List.mem_cons.1 hq with rfl | hq
        · exact hc
        · exact h2 q hq hn
end
end Go.Cb
