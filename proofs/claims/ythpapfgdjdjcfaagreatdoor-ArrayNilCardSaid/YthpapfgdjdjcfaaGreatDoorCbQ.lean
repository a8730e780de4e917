/- Regions that draw their order: the induction. -/
import Derived.Test.YthpapfgdjdjcfaaGreatDoorCbP
set_option linter.unusedVariables false
set_option linter.unusedSimpArgs false
namespace Go.Cb
open Go.RowKit

theorem blt_true {x y : Nat} (h : x < y) : Nat.blt x y = true := by rw [Nat.blt_eq]; exact h
theorem blt_lt {x y : Nat} (h : Nat.blt x y = true) : x < y := by rwa [Nat.blt_eq] at h

theorem pairwise_or {α : Type} {R : α → α → Prop} : ∀ {l : List α}, l.Pairwise R → ∀ {x y : α}, x ∈ l → y ∈ l → x ≠ y → R x y ∨ R y x
  | [], _, x, y, hx, _, _ => by cases hx
  | z :: zs, h, x, y, hx, hy, hne => by
    cases h with
    | cons h1 h2 =>
      rcases List.mem_cons.1 hx with hx | hx
      · rcases List.mem_cons.1 hy with hy | hy
        · exact absurd (hx.trans hy.symm) hne
        · exact .inl (hx ▸ h1 y hy)
      · rcases List.mem_cons.1 hy with hy | hy
        · exact .inr (hy ▸ h1 x hx)
        · exact pairwise_or h2 hx hy hne

/-- What holds midway: 'dn' ran in the list's order, 'L' in the world. -/
structure Inv (P : Program) (W0 : World) (Φ : Calls') {α : Type} (nt : Nat) (ops : List Oper) (bf ord : List Nat) (k : Tr V → M α) (r : α × H) (n0 : Nat) (μ0 : Mu)
    (L : Nat → Bool) (dn td : List Nat) (pend : List (Nat × (H → Bool))) (ids : Nat → Option Nat) (env : Nat → Tr V) (val : Nat → V) (tm : Tr V) (h : H) (μ : Mu) (a : Act) (w : World) : Prop where
  split : ord = dn ++ td
  run : evDraw P Φ nt ops bf td pend tm k h = some r
  ext : ∀ i, i < n0 → μ i = μ0 i
  le : n0 ≤ h.next
  sub : ∀ i, L i = true → i ∈ dn
  eff : ∀ i o, i ∈ dn → ops[i]? = some o → isEff P o.op = true → L i = true
  cl : ∀ j, L j = true → ∀ i, (bf.getD j 0).testBit i = true → L i = true
  pf : ∀ i o, i ∈ dn → L i = false → ops[i]? = some o → PF P ops (ids i) (env i) h o (val i) ∧
    (isTouch P o.op = true → ∃ c, (i, c) ∈ pend ∧ ∀ h', c h' = true → PF P ops (ids i) (env i) h' o (val i))
  idn : ∀ i, i ∈ dn → L i = false → ∀ n, ids i = some n → n0 ≤ n ∧ n < h.next ∧ μ n = none
  inj : ∀ i j, i ∈ dn → j ∈ dn → L i = false → L j = false → ∀ n, ids i = some n → ids j = some n → i = j
  kn1 : ∀ i j oi oj t v, i ∈ dn → j ∈ dn → L i = false → L j = false → ops[i]? = some oi → ops[j]? = some oj → oi.dst = some t → t < nt → t ∈ looks ops oj → (bf.getD j 0).testBit i = true → (env j).get t = some v → v = val i
  kn2 : ∀ j oj t v, j ∈ dn → L j = false → ops[j]? = some oj → t ∈ looks ops oj → (env j).get t = some v → (t < nt ∧ ∃ i oi, i ∈ dn ∧ L i = false ∧ ops[i]? = some oi ∧ oi.dst = some t ∧ (bf.getD j 0).testBit i = true) ∨ VR μ v (a.tmps.getD t undef)
  sl1 : ∀ i oi t v, i ∈ dn → L i = false → ops[i]? = some oi → oi.dst = some t → t < nt → tm.get t = some v → v = val i
  sl2 : ∀ t v, tm.get t = some v → (t < nt ∧ ∃ i o, i ∈ dn ∧ L i = false ∧ ops[i]? = some o ∧ o.dst = some t) ∨ VR μ v (a.tmps.getD t undef)
  sim : Sim W0 μ h w
  size : a.tmps.size = nt
  defers : a.defers = []

section
variable {P : Program} {W0 : World} {Φ : Calls'} {α : Type} {nt : Nat} {ops : List Oper} {bf ord : List Nat} {k : Tr V → M α} {r : α × H} {n0 : Nat} {μ0 : Mu}
variable {L : Nat → Bool} {dn td : List Nat} {pend : List (Nat × (H → Bool))} {ids : Nat → Option Nat} {env : Nat → Tr V} {val : Nat → V} {tm : Tr V} {h : H} {μ : Mu} {a : Act} {w : World}

def Rdy (ops : List Oper) (L : Nat → Bool) (i : Nat) (o : Oper) : Prop := ops[i]? = some o ∧ L i = false ∧ ∀ e ∈ o.after.toList, bindsE e = true → L e.on = true

theorem Rdy.before (D : Draw P ops bf ord) (V : Inv P W0 Φ nt ops bf ord k r n0 μ0 L dn td pend ids env val tm h μ a w) {i : Nat} {o : Oper} (hr : Rdy ops L i o) : ∀ n, (bf.getD i 0).testBit n = true → L n = true := by
  intro n hn
  obtain ⟨e, he, hb, h1 | h1⟩ := D.bf i o hr.1 n hn
  · rw [h1]; exact hr.2.2 e he hb
  · exact V.cl _ (hr.2.2 e he hb) n h1

theorem Inv.nodup (D : Draw P ops bf ord) (V : Inv P W0 Φ nt ops bf ord k r n0 μ0 L dn td pend ids env val tm h μ a w) {i : Nat} (h1 : i ∈ dn) (h2 : i ∈ td) : False := by
  have := D.pair
  rw [V.split] at this
  exact ((List.pairwise_append.1 this).2.2 i h1 i h2).1.1 rfl

theorem Inv.late (D : Draw P ops bf ord) (V : Inv P W0 Φ nt ops bf ord k r n0 μ0 L dn td pend ids env val tm h μ a w) {i j : Nat} (h1 : i ∈ dn) (h2 : j ∈ td) : (i ≠ j ∧ (bf.getD i 0).testBit j = false) ∧ ∀ o o', ops[i]? = some o → ops[j]? = some o' → (isEff P o.op = true → (bf.getD j 0).testBit i = true) ∧
    (∀ d, o.dst = some d → (d ∈ looks ops o' → (bf.getD j 0).testBit i = true) ∧ o'.dst ≠ some d) ∧ ∀ d, o'.dst = some d → d ∈ looks ops o → (bf.getD j 0).testBit i = true := by
  have := D.pair
  rw [V.split] at this
  exact (List.pairwise_append.1 this).2.2 i h1 j h2

/-- One writes what the other names: so one comes before the other. -/
theorem Inv.ties (D : Draw P ops bf ord) (V : Inv P W0 Φ nt ops bf ord k r n0 μ0 L dn td pend ids env val tm h μ a w) {i j : Nat} {oi oj : Oper} {t : Tmp} (hi : i ∈ dn) (hj : j ∈ dn) (ho : ops[i]? = some oi) (ho' : ops[j]? = some oj)
    (hd : oi.dst = some t) (ht : t ∈ looks ops oj) : i ≠ j ∧ ((bf.getD j 0).testBit i = true ∨ (bf.getD i 0).testBit j = true) := by
  have hne : i ≠ j := by
    intro e; subst e
    have := ho.symm.trans ho'
    cases this
    exact D.self _ _ ho t hd ht
  refine ⟨hne, ?_⟩
  have hpw := D.pair
  rw [V.split] at hpw
  rcases pairwise_or (List.pairwise_append.1 hpw).1 hi hj hne with h1 | h1
  · exact .inl (((h1.2 _ _ ho ho').2.1 t hd).1 ht)
  · exact .inr ((h1.2 _ _ ho' ho).2.2 t hd ht)

theorem Inv.knows (D : Draw P ops bf ord) (V : Inv P W0 Φ nt ops bf ord k r n0 μ0 L dn td pend ids env val tm h μ a w) {i : Nat} {o : Oper} (hr : Rdy ops L i o) (hi : i ∈ dn) : Knows ops μ (env i) a o := by
  intro t ht v hv
  rcases V.kn2 i o t v hi hr.2.1 hr.1 ht hv with ⟨_, j, o', hj, hL, ho', hd, hb⟩ | h1
  · rw [hr.before D V j hb] at hL; cases hL
  · exact h1

theorem Inv.knows' (D : Draw P ops bf ord) (V : Inv P W0 Φ nt ops bf ord k r n0 μ0 L dn td pend ids env val tm h μ a w) {i : Nat} {o : Oper} (hr : Rdy ops L i o) (hi : i ∈ td) : Knows ops μ tm a o := by
  intro t ht v hv
  rcases V.sl2 t v hv with ⟨_, j, o', hj, hL, ho', hd⟩ | h1
  · rw [hr.before D V j ((((V.late D hj hi).2 _ _ ho' hr.1).2.1 t hd).1 ht)] at hL; cases hL
  · exact h1

/-- The list goes on by an operation without effect. -/
theorem Inv.advance (D : Draw P ops bf ord) {i : Nat} {td' : List Nat} {o : Oper} (V : Inv P W0 Φ nt ops bf ord k r n0 μ0 L dn (i :: td') pend ids env val tm h μ a w) (ho : ops[i]? = some o) (he : isEff P o.op = false) :
    ∃ pend' ids' env' val' tm' h', Inv P W0 Φ nt ops bf ord k r n0 μ0 L (dn ++ [i]) td' pend' ids' env' val' tm' h' μ a w := by
  have hrun := V.run
  simp only [evDraw, ho, he, cond_false] at hrun
  obtain ⟨v, h', id, hk, hpf, hid, hchk⟩ := evOne_quiet he hrun
  have hi : i ∈ i :: td' := by simp
  have hin : i ∉ dn := fun hm => V.nodup D hm hi
  have hLi : L i = false := by
    cases hL : L i with
    | false => rfl
    | true => exact absurd (V.sub i hL) hin
  have hsub : h.sub h' := by
    rcases hid with ⟨rfl, _⟩ | ⟨ob, rfl, _⟩
    · exact fun _ _ e => e
    · exact H.sub_new _ _
  have hle : h.next ≤ h'.next := by
    rcases hid with ⟨rfl, _⟩ | ⟨ob, rfl, _⟩
    · exact Nat.le_refl _
    · simp
  have hself := D.self i o ho
  have hne : ∀ j, j ∈ dn → j ≠ i := fun j hj e => hin (e ▸ hj)
  have hids : ∀ j, j ∈ dn → (if j = i then id else ids j) = ids j := fun j hj => if_neg (hne j hj)
  have henv : ∀ j, j ∈ dn → (if j = i then tm else env j) = env j := fun j hj => if_neg (hne j hj)
  have hval : ∀ j, j ∈ dn → (if j = i then v else val j) = val j := fun j hj => if_neg (hne j hj)
  have hidi : (if i = i then id else ids i) = id := if_pos rfl
  have henvi : (if i = i then tm else env i) = tm := if_pos rfl
  have hvali : (if i = i then v else val i) = v := if_pos rfl
  have hmem : ∀ j, j ∈ dn ++ [i] → j ∈ dn ∨ j = i := fun j hj => by simpa using hj
  have hidn : ∀ n, id = some n → h.next = n ∧ n < h'.next := by
    intro n hn
    rcases hid with ⟨_, e⟩ | ⟨ob, rfl, e⟩
    · rw [e] at hn; cases hn
    · rw [e] at hn; cases hn; exact ⟨rfl, by simp⟩
  have hget : ∀ t, ¬ (o.dst = some t ∧ t < nt) → (putT nt tm o.dst v).get t = tm.get t := by
    intro t e
    by_cases e1 : o.dst = some t
    · have hn : Nat.blt t nt = false := by
        cases hb : Nat.blt t nt with
        | false => rfl
        | true => exact absurd ⟨e1, blt_lt hb⟩ e
      rw [e1]; simp only [putT, hn, cond_false]
    · exact putT_get_ne e1
  have hgot : ∀ t, o.dst = some t → t < nt → (putT nt tm o.dst v).get t = some v := by
    intro t e1 e2
    rw [e1]
    simp only [putT, blt_true e2, cond_true]
    exact Tr.get_set_same _ _ _
  refine ⟨_, fun j => if j = i then id else ids j, fun j => if j = i then tm else env j, fun j => if j = i then v else val j, _, h', ?_, hk, V.ext, Nat.le_trans V.le hle, fun j hj => by simp [V.sub j hj], ?_, V.cl, ?_, ?_, ?_, ?_, ?_, ?_, ?_, ?_, V.size, V.defers⟩
  all_goals try simp only
  · rw [V.split]; simp
  · intro j o' hj ho' he'
    rcases hmem j hj with hj | rfl
    · exact V.eff j o' hj ho' he'
    · rw [ho] at ho'; cases ho'; rw [he] at he'; cases he'
  · intro j o' hj hL ho'
    rcases hmem j hj with hj | rfl
    · obtain ⟨h2, h3⟩ := V.pf j o' hj hL ho'
      rw [hids j hj, henv j hj, hval j hj]
      refine ⟨h2.sub hsub, fun ht => ?_⟩
      obtain ⟨c, hc, h4⟩ := h3 ht
      refine ⟨c, ?_, h4⟩
      cases isTouch P o.op with
      | false => exact hc
      | true => exact List.mem_cons_of_mem _ hc
    · rw [ho] at ho'; cases ho'
      rw [hidi, henvi, hvali]
      refine ⟨hpf, fun ht => ⟨checkOf P ops tm o v, ?_, hchk⟩⟩
      rw [ht]; simp
  · intro j hj hL n hn
    rcases hmem j hj with hj | rfl
    · rw [hids j hj] at hn
      obtain ⟨h1, h2, h3⟩ := V.idn j hj hL n hn
      exact ⟨h1, Nat.lt_of_lt_of_le h2 hle, h3⟩
    · rw [hidi] at hn
      obtain ⟨rfl, h2⟩ := hidn n hn
      refine ⟨V.le, h2, ?_⟩
      cases hm : μ h.next with
      | none => rfl
      | some q => exact absurd (V.sim.lt _ _ hm) (Nat.lt_irrefl _)
  · intro j j' hj hj' hL hL' n hn hn'
    rcases hmem j hj with hj2 | hj2 <;> rcases hmem j' hj' with hj3 | hj3
    · rw [hids j hj2] at hn; rw [hids j' hj3] at hn'
      exact V.inj j j' hj2 hj3 hL hL' n hn hn'
    · rw [hids j hj2] at hn; rw [hj3, hidi] at hn'
      have := (V.idn j hj2 hL n hn).2.1
      have := (hidn n hn').1
      omega
    · rw [hids j' hj3] at hn'; rw [hj2, hidi] at hn
      have := (V.idn j' hj3 hL' n hn').2.1
      have := (hidn n hn).1
      omega
    · rw [hj2, hj3]
  · intro j j' oj oj' t u hj hj' hL hL' h1 h2 h3 h4 h5 h6 h7
    rcases hmem j hj with hj2 | hj2 <;> rcases hmem j' hj' with hj3 | hj3
    · rw [henv j' hj3] at h7; rw [hval j hj2]
      exact V.kn1 j j' oj oj' t u hj2 hj3 hL hL' h1 h2 h3 h4 h5 h6 h7
    · rw [hj3, henvi] at h7; rw [hval j hj2]
      exact V.sl1 j oj t u hj2 hL h1 h3 h4 h7
    · have := (V.late D hj3 hi).1.2
      rw [hj2] at h6
      rw [this] at h6; cases h6
    · rw [hj2] at h1; rw [hj3] at h2
      have := h1.symm.trans h2
      cases this
      exact absurd h5 (D.self i _ h1 t h3)
  · intro j oj t u hj hL h1 h2 h3
    rcases hmem j hj with hj2 | hj2
    · rw [henv j hj2] at h3
      rcases V.kn2 j oj t u hj2 hL h1 h2 h3 with ⟨h4, j', oj', h5, h6⟩ | h4
      · exact .inl ⟨h4, j', oj', by simp [h5], h6⟩
      · exact .inr h4
    · rw [hj2, henvi] at h3
      rw [hj2] at h1 ⊢
      rcases V.sl2 t u h3 with ⟨h4, j', oj', h5, h6, h7, h8⟩ | h4
      · exact .inl ⟨h4, j', oj', by simp [h5], h6, h7, h8, (((V.late D h5 hi).2 _ _ h7 h1).2.1 t h8).1 h2⟩
      · exact .inr h4
  · intro j oj t u hj hL h1 h2 h3 h4
    rcases hmem j hj with hj2 | hj2
    · rw [hval j hj2]
      have := (((V.late D hj2 hi).2 _ _ h1 ho).2.1 t h2).2
      rw [hget t fun e => this e.1] at h4
      exact V.sl1 j oj t u hj2 hL h1 h2 h3 h4
    · rw [hj2] at h1 ⊢
      rw [ho] at h1; cases h1
      rw [hvali]
      rw [hgot t h2 h3] at h4
      exact (Option.some.inj h4).symm
  · intro t u hu
    by_cases e : o.dst = some t ∧ t < nt
    · exact .inl ⟨e.2, i, o, by simp, hLi, ho, e.1⟩
    · rw [hget t e] at hu
      rcases V.sl2 t u hu with ⟨h1, j, o', h2, h3⟩ | h1
      · exact .inl ⟨h1, j, o', by simp [h2], h3⟩
      · exact .inr h1
  · rcases hid with ⟨rfl, _⟩ | ⟨ob, rfl, _⟩
    · exact V.sim
    · exact V.sim.new ob

theorem getD_put_same {d : Nat} {u : Value} (hd : d < a.tmps.size) : (a.put (some d) u).tmps.getD d undef = u := by
  simp [Act.put, Array.getD_eq_getD_getElem?, hd]

theorem getD_put_ne {dst : Option Tmp} {t : Nat} {u : Value} (hd : dst ≠ some t ∨ ¬ t < a.tmps.size) : (a.put dst u).tmps.getD t undef = a.tmps.getD t undef := by
  cases dst with
  | none => rfl
  | some d =>
    by_cases e : d = t
    · subst e
      rcases hd with hd | hd
      · exact absurd rfl hd
      · simp [Act.put, Array.getD_eq_getD_getElem?, hd]
    · simp [Act.put, Array.getD_eq_getD_getElem?, Array.getElem?_setIfInBounds_ne e]

/-- The world runs an operation that the list ran before. -/
theorem Inv.exec (D : Draw P ops bf ord) (V : Inv P W0 Φ nt ops bf ord k r n0 μ0 L dn td pend ids env val tm h μ a w) {i : Nat} {o : Oper} (hr : Rdy ops L i o) (hi : i ∈ dn) {next : Act → World → Prop} {Q : Exit → Act → World → Prop}
    (hk : ∀ μ' a' w', Inv P W0 Φ nt ops bf ord k r n0 μ0 (fun j => if j = i then true else L j) dn td pend ids env val tm h μ' a' w' → next a' w') : wpOne P ops.toArray Q o next a w := by
  obtain ⟨h2, h3⟩ := V.pf i o hi hr.2.1 hr.1
  refine h2.exec V.sim (V.knows D hr hi) (fun n hn => (V.idn i hi hr.2.1 n hn).2) fun u w' μ' hu hle hold hs => hk μ' _ w' ?_
  have hLn : ∀ j, (if j = i then true else L j) = false → j ≠ i ∧ L j = false := fun j hj => by
    by_cases e : j = i
    · rw [if_pos e] at hj; cases hj
    · rw [if_neg e] at hj; exact ⟨e, hj⟩
  have hLn' : ∀ j, j ≠ i → L j = false → (if j = i then true else L j) = false := fun j h1 h2 => by rw [if_neg h1]; exact h2
  have hne : ∀ j, j ∈ dn → j ≠ i → L j = false → ∀ n, ids j = some n → μ' n = μ n := fun j hj hji hL n hn => hold n fun hn' => hji (V.inj j i hj hi hL hr.2.1 n hn hn')
  have hput : ∀ t, o.dst = some t → t < nt → (a.put o.dst u).tmps.getD t undef = u := fun t h1 h2 => by rw [h1]; exact getD_put_same (by rw [V.size]; exact h2)
  have hput' : ∀ t, ¬ (o.dst = some t ∧ t < nt) → (a.put o.dst u).tmps.getD t undef = a.tmps.getD t undef := fun t e => getD_put_ne (by
    by_cases e1 : o.dst = some t
    · exact .inr fun h => e ⟨e1, by rw [← V.size]; exact h⟩
    · exact .inl e1)
  refine ⟨V.split, V.run, fun n hn => ?_, V.le, fun j hj => ?_, fun j o' hj ho' he => ?_, fun j hj n hn => ?_, fun j o' hj hL ho' => V.pf j o' hj (hLn j hL).2 ho', fun j hj hL n hn => ?_,
    fun j j' hj hj' hL hL' => V.inj j j' hj hj' (hLn j hL).2 (hLn j' hL').2, fun j j' oj oj' t x hj hj' hL hL' => V.kn1 j j' oj oj' t x hj hj' (hLn j hL).2 (hLn j' hL').2, fun j oj t x hj hL h4 h5 h6 => ?_,
    fun j oj t x hj hL => V.sl1 j oj t x hj (hLn j hL).2, fun t x hx => ?_, hs, by rw [put_size]; exact V.size, by rw [put_defers']; exact V.defers⟩
  · rw [hold n fun e => by have := (V.idn i hi hr.2.1 n e).1; omega]; exact V.ext n hn
  · by_cases e : j = i
    · rw [e]; exact hi
    · rw [if_neg e] at hj; exact V.sub j hj
  · by_cases e : j = i
    · exact if_pos e
    · rw [if_neg e]; exact V.eff j o' hj ho' he
  · have : L n = true := by
      by_cases e : j = i
      · rw [e] at hn; exact hr.before D V n hn
      · rw [if_neg e] at hj; exact V.cl j hj n hn
    by_cases e : n = i
    · exact if_pos e
    · rw [if_neg e]; exact this
  · obtain ⟨h4, h5, h6⟩ := V.idn j hj (hLn j hL).2 n hn
    exact ⟨h4, h5, by rw [hne j hj (hLn j hL).1 (hLn j hL).2 n hn]; exact h6⟩
  · obtain ⟨hji, hLj⟩ := hLn j hL
    by_cases e : o.dst = some t ∧ t < nt
    · refine .inr ?_
      have hb : (bf.getD j 0).testBit i = true := by
        rcases (V.ties D hi hj hr.1 h4 e.1 h5).2 with h7 | h7
        · exact h7
        · rw [hr.before D V j h7] at hLj; cases hLj
      rw [V.kn1 i j o oj t x hi hj hr.2.1 hLj hr.1 h4 e.1 e.2 h5 hb h6, hput t e.1 e.2]
      exact hu
    · rcases V.kn2 j oj t x hj hLj h4 h5 h6 with ⟨h7, j', oj', h8, h9, h10, h11, h12⟩ | h7
      · refine .inl ⟨h7, j', oj', h8, hLn' j' (fun e1 => ?_) h9, h10, h11, h12⟩
        subst e1
        have := h10.symm.trans hr.1
        cases this
        exact e ⟨h11, h7⟩
      · refine .inr ?_
        rw [hput' t e]; exact VR.mono hle _ _ h7
  · by_cases e : o.dst = some t ∧ t < nt
    · refine .inr ?_
      rw [V.sl1 i o t x hi hr.2.1 hr.1 e.1 e.2 hx, hput t e.1 e.2]
      exact hu
    · rcases V.sl2 t x hx with ⟨h4, j, o', h5, h6, h7, h8⟩ | h4
      · refine .inl ⟨h4, j, o', h5, hLn' j (fun e1 => ?_) h6, h7, h8⟩
        subst e1
        have := h7.symm.trans hr.1
        cases this
        exact e ⟨h8, h4⟩
      · refine .inr ?_
        rw [hput' t e]; exact VR.mono hle _ _ h4

/-- The world and the list run the next effect. -/
theorem Inv.effect (hΦ : AllGood P W0 Φ) (D : Draw P ops bf ord) {i : Nat} {td' : List Nat} {o : Oper} (V : Inv P W0 Φ nt ops bf ord k r n0 μ0 L dn (i :: td') pend ids env val tm h μ a w) (hr : Rdy ops L i o) (he : isEff P o.op = true)
    {next : Act → World → Prop} {Q : Exit → Act → World → Prop}
    (hk : ∀ tm' h' μ' a' w', Inv P W0 Φ nt ops bf ord k r n0 μ0 (fun j => if j = i then true else L j) (dn ++ [i]) td' pend ids env val tm' h' μ' a' w' → next a' w') : wpOne P ops.toArray Q o next a w := by
  have hrun := V.run
  simp only [evDraw, hr.1, he, cond_true] at hrun
  have hi : i ∈ i :: td' := by simp
  have hin : i ∉ dn := fun hm => V.nodup D hm hi
  refine evOne_looks hΦ V.sim (V.knows' D hr hi) hrun fun v h' u w' μ' hkv hu hx hs hle => ?_
  obtain ⟨hrun', hck⟩ := checks_spec hkv
  refine hk (putT nt tm o.dst v) h' μ' _ w' ?_
  have hmem : ∀ j, j ∈ dn ++ [i] → j ∈ dn ∨ j = i := fun j hj => by simpa using hj
  have hdn : ∀ j, j ∈ dn ++ [i] → (if j = i then true else L j) = false → j ∈ dn ∧ L j = false := fun j hj hL => by
    by_cases e : j = i
    · rw [if_pos e] at hL; cases hL
    · rw [if_neg e] at hL
      rcases hmem j hj with h3 | h3
      · exact ⟨h3, hL⟩
      · exact absurd h3 e
  have hLn' : ∀ j, j ∈ dn → L j = false → (if j = i then true else L j) = false := fun j h1 h2 => by rw [if_neg (fun e : j = i => hin (e ▸ h1))]; exact h2
  have hmono : μ.le μ' := V.sim.le_of hx
  have hput : ∀ t, o.dst = some t → t < nt → (a.put o.dst u).tmps.getD t undef = u := fun t h1 h2 => by rw [h1]; exact getD_put_same (by rw [V.size]; exact h2)
  have hput' : ∀ t, ¬ (o.dst = some t ∧ t < nt) → (a.put o.dst u).tmps.getD t undef = a.tmps.getD t undef := fun t e => getD_put_ne (by
    by_cases e1 : o.dst = some t
    · exact .inr fun h => e ⟨e1, by rw [← V.size]; exact h⟩
    · exact .inl e1)
  have hget : ∀ t, ¬ (o.dst = some t ∧ t < nt) → (putT nt tm o.dst v).get t = tm.get t := by
    intro t e
    by_cases e1 : o.dst = some t
    · have hn : Nat.blt t nt = false := by
        cases hb : Nat.blt t nt with
        | false => rfl
        | true => exact absurd ⟨e1, blt_lt hb⟩ e
      rw [e1]; simp only [putT, hn, cond_false]
    · exact putT_get_ne e1
  refine ⟨by rw [V.split]; simp, hrun', fun n hn => (hx n (Nat.lt_of_lt_of_le hn V.le)).trans (V.ext n hn), Nat.le_trans V.le hle, fun j hj => ?_, fun j o' hj ho' he' => ?_, fun j hj n hn => ?_, fun j o' hj hL ho' => ?_, fun j hj hL n hn => ?_,
    fun j j' hj hj' hL hL' => V.inj j j' (hdn j hj hL).1 (hdn j' hj' hL').1 (hdn j hj hL).2 (hdn j' hj' hL').2, fun j j' oj oj' t x hj hj' hL hL' => V.kn1 j j' oj oj' t x (hdn j hj hL).1 (hdn j' hj' hL').1 (hdn j hj hL).2 (hdn j' hj' hL').2,
    fun j oj t x hj hL h4 h5 h6 => ?_, fun j oj t x hj hL h4 h5 h6 h7 => ?_, fun t x hx' => ?_, hs, by rw [put_size]; exact V.size, by rw [put_defers']; exact V.defers⟩
  · by_cases e : j = i
    · simp [e]
    · rw [if_neg e] at hj; simp [V.sub j hj]
  · by_cases e : j = i
    · exact if_pos e
    · rw [if_neg e]
      rcases hmem j hj with h3 | h3
      · exact V.eff j o' h3 ho' he'
      · exact absurd h3 e
  · have : L n = true := by
      by_cases e : j = i
      · rw [e] at hn; exact hr.before D V n hn
      · rw [if_neg e] at hj; exact V.cl j hj n hn
    by_cases e : n = i
    · exact if_pos e
    · rw [if_neg e]; exact this
  · obtain ⟨hj1, hL1⟩ := hdn j hj hL
    obtain ⟨h2, h3⟩ := V.pf j o' hj1 hL1 ho'
    have hnb : (bf.getD i 0).testBit j = false := by
      cases hb : (bf.getD i 0).testBit j with
      | false => rfl
      | true => rw [hr.before D V j hb] at hL1; cases hL1
    refine ⟨?_, h3⟩
    cases ht : isTouch P o'.op with
    | false => exact h2.quiet ht
    | true =>
      obtain ⟨c, hc, h4⟩ := h3 ht
      exact h4 h' (hck _ hc hnb)
  · obtain ⟨hj1, hL1⟩ := hdn j hj hL
    obtain ⟨h4, h5, h6⟩ := V.idn j hj1 hL1 n hn
    exact ⟨h4, Nat.lt_of_lt_of_le h5 hle, by rw [hx n h5]; exact h6⟩
  · obtain ⟨hj1, hL1⟩ := hdn j hj hL
    have e : ¬ (o.dst = some t ∧ t < nt) := fun e => by
      have := ((V.late D hj1 hi).2 _ _ h4 hr.1).2.2 t e.1 h5
      rw [hr.before D V j this] at hL1; cases hL1
    rcases V.kn2 j oj t x hj1 hL1 h4 h5 h6 with ⟨h7, j', oj', h8, h9, h10⟩ | h7
    · exact .inl ⟨h7, j', oj', by simp [h8], hLn' j' h8 h9, h10⟩
    · refine .inr ?_
      rw [hput' t e]; exact VR.mono hmono _ _ h7
  · obtain ⟨hj1, hL1⟩ := hdn j hj hL
    have := (((V.late D hj1 hi).2 _ _ h4 hr.1).2.1 t h5).2
    rw [hget t fun e => this e.1] at h7
    exact V.sl1 j oj t x hj1 hL1 h4 h5 h6 h7
  · by_cases e : o.dst = some t ∧ t < nt
    · refine .inr ?_
      rw [e.1] at hx'
      simp only [putT, blt_true e.2, cond_true, Tr.get_set_same] at hx'
      cases hx'
      rw [hput t e.1 e.2]
      exact hu
    · rw [hget t e] at hx'
      rcases V.sl2 t x hx' with ⟨h4, j, o', h5, h6, h7, h8⟩ | h4
      · exact .inl ⟨h4, j, o', by simp [h5], hLn' j h5 h6, h7, h8⟩
      · refine .inr ?_
        rw [hput' t e]; exact VR.mono hmono _ _ h4

/-- The list goes on until its next effect. -/
theorem Inv.settle (D : Draw P ops bf ord) : ∀ (td : List Nat) (dn : List Nat) (pend : List (Nat × (H → Bool))) (ids : Nat → Option Nat) (env : Nat → Tr V) (val : Nat → V) (tm : Tr V) (h : H), Inv P W0 Φ nt ops bf ord k r n0 μ0 L dn td pend ids env val tm h μ a w →
    ∃ dn' td' pend' ids' env' val' tm' h', Inv P W0 Φ nt ops bf ord k r n0 μ0 L dn' td' pend' ids' env' val' tm' h' μ a w ∧ ∀ i rest, td' = i :: rest → ∃ o, ops[i]? = some o ∧ isEff P o.op = true
  | [], dn, pend, ids, env, val, tm, h, V => ⟨dn, [], pend, ids, env, val, tm, h, V, fun i rest e => by cases e⟩
  | i :: td', dn, pend, ids, env, val, tm, h, V => by
    have hi : i < ops.length := D.mem i (by rw [V.split]; simp)
    have ho : ops[i]? = some ops[i] := List.getElem?_eq_getElem hi
    cases he : isEff P ops[i].op with
    | true => exact ⟨dn, i :: td', pend, ids, env, val, tm, h, V, fun j rest e => by cases e; exact ⟨_, ho, he⟩⟩
    | false =>
      obtain ⟨pend', ids', env', val', tm', h', V'⟩ := V.advance D ho he
      exact settle D td' _ _ _ _ _ _ _ V'

theorem ready_iff {i : Nat} {listed : Array Bool} : i ∈ Region.ready .any ops.toArray listed ↔ listed.getD i true = false ∧ ∃ o, ops[i]? = some o ∧ ∀ e ∈ o.after.toList, bindsE e = true → listed.getD e.on false = true := by
  rw [mem_ready]
  simp only [List.getElem?_toArray, binds_any]
  constructor
  · rintro ⟨h1, o, h2, h3⟩; exact ⟨h1, o, h2, fun e he => h3 e (by simpa using he)⟩
  · rintro ⟨h1, o, h2, h3⟩; exact ⟨h1, o, h2, fun e he => h3 e (by simpa using he)⟩

theorem filter_lt {p q : Nat → Bool} {i : Nat} : ∀ {l : List Nat}, i ∈ l → p i = true → (∀ j, q j = true → p j = true) → q i = false → (l.filter q).length < (l.filter p).length
  | [], hi, _, _, _ => by cases hi
  | x :: xs, hi, hp, hqp, hq => by
    have hle : ∀ l : List Nat, (l.filter q).length ≤ (l.filter p).length := by
      intro l
      induction l with
      | nil => simp
      | cons y ys ih =>
        simp only [List.filter_cons]
        cases h1 : q y with
        | true => simp [hqp y h1]; exact ih
        | false => cases h2 : p y <;> simp <;> omega
    simp only [List.filter_cons]
    rcases List.mem_cons.1 hi with rfl | hi
    · simp [hp, hq]; have := hle xs; omega
    · have := filter_lt hi hp hqp hq
      cases h1 : q x with
      | true => simp [hqp x h1]; exact this
      | false => cases h2 : p x <;> simp <;> omega

theorem getD_set {listed : Array Bool} {i : Nat} (hi : i < listed.size) : (fun j => (listed.setIfInBounds i true).getD j false) = fun j => if j = i then true else listed.getD j false := by
  funext j
  by_cases e : j = i
  · subst e; simp [Array.getD_eq_getD_getElem?, hi]
  · rw [if_neg e, getD_set_ne false (fun h => e h.symm)]

theorem wpOp_eq {Q : Exit → Act → World → Prop} {K : Act → World → Prop} {i : Nat} {o : Oper} (ho : ops[i]? = some o) (h : wpOne P ops.toArray Q o K a w) : wpOp P ops.toArray Q i K a w := by
  unfold wpOp
  simp only [List.getElem?_toArray, ho]
  exact h

/-- Every order. -/
theorem draw_any (hΦ : AllGood P W0 Φ) (D : Draw P ops bf ord) {Q : Exit → Act → World → Prop}
    (hk : ∀ tm' h' μ' a' w', k tm' h' = some r → (∀ i, i < n0 → μ' i = μ0 i) → n0 ≤ h'.next → St W0 nt μ' h' w' tm' a' → Q .normal a' w') :
    ∀ (fuel : Nat) (listed : Array Bool) (dn td : List Nat) (pend : List (Nat × (H → Bool))) (ids : Nat → Option Nat) (env : Nat → Tr V) (val : Nat → V) (tm : Tr V) (h : H) (μ : Mu) (a : Act) (w : World), listed.size = ops.length →
      Inv P W0 Φ nt ops bf ord k r n0 μ0 (fun j => listed.getD j false) dn td pend ids env val tm h μ a w → (ord.filter fun i => !listed.getD i false).length ≤ fuel → wpAny P .any ops.toArray Q fuel listed a w := by
  have fin : ∀ (listed : Array Bool) (dn td : List Nat) (pend : List (Nat × (H → Bool))) (ids : Nat → Option Nat) (env : Nat → Tr V) (val : Nat → V) (tm : Tr V) (h : H) (μ : Mu) (a : Act) (w : World),
      Inv P W0 Φ nt ops bf ord k r n0 μ0 (fun j => listed.getD j false) dn td pend ids env val tm h μ a w → (∀ i ∈ ord, listed.getD i false = true) → Q .normal a w := by
    intro listed dn td pend ids env val tm h μ a w V hall
    have htd : td = [] := by
      cases td with
      | nil => rfl
      | cons i rest => exact absurd (V.nodup D (V.sub i (hall i (by rw [V.split]; simp))) (by simp)) id
    subst htd
    refine hk tm h μ a w V.run V.ext V.le ⟨V.sim, fun t v hv => ?_, V.size, V.defers⟩
    rcases V.sl2 t v hv with ⟨_, i, o, hi, hL, _⟩ | h1
    · have := hall i (by rw [V.split]; simpa using hi)
      exact absurd (this.symm.trans hL) (by simp)
    · exact h1
  have lst : ∀ (listed : Array Bool), listed.size = ops.length → Region.ready .any ops.toArray listed = [] → ∀ i ∈ ord, listed.getD i false = true := by
    intro listed hs hr
    have key : ∀ (rest pre : List Nat), ord = pre ++ rest → (∀ j ∈ pre, listed.getD j false = true) → ∀ j ∈ rest, listed.getD j false = true := by
      intro rest
      induction rest with
      | nil => intro pre _ _ j hj; cases hj
      | cons i rest ih =>
        intro pre he hp
        have hi : listed.getD i false = true := by
          cases hL : listed.getD i false with
          | true => rfl
          | false =>
            exfalso
            have hlt : i < ops.length := D.mem i (by rw [he]; simp)
            have : i ∈ Region.ready .any ops.toArray listed := ready_iff.2 ⟨by
              rw [Array.getD_eq_getD_getElem?] at hL ⊢
              rw [Array.getElem?_eq_getElem (by omega)] at hL ⊢
              exact hL, ops[i], List.getElem?_eq_getElem hlt, fun e hm hb => hp _ (D.preds pre i rest he _ (List.getElem?_eq_getElem hlt) e hm hb)⟩
            rw [hr] at this
            cases this
        intro j hj
        rcases List.mem_cons.1 hj with rfl | hj
        · exact hi
        · exact ih (pre ++ [i]) (by simp [he]) (fun q hq => by
            rcases List.mem_append.1 hq with hq | hq
            · exact hp q hq
            · simp at hq; rw [hq]; exact hi) j hj
    exact key ord [] rfl (fun j hj => by cases hj)
  intro fuel
  induction fuel with
  | zero =>
    intro listed dn td pend ids env val tm h μ a w hs V hf
    have hall : ∀ i ∈ ord, listed.getD i false = true := by
      intro i hi
      cases hL : listed.getD i false with
      | true => rfl
      | false =>
        have : i ∈ ord.filter fun i => !listed.getD i false := List.mem_filter.2 ⟨hi, by rw [hL]; rfl⟩
        rw [List.length_eq_zero_iff.1 (Nat.le_zero.1 hf)] at this
        cases this
    refine ⟨?_, fin _ _ _ _ _ _ _ _ _ _ _ _ V hall⟩
    rw [List.eq_nil_iff_forall_not_mem]
    intro i hi
    obtain ⟨h1, o, h2, _⟩ := ready_iff.1 hi
    have hlt : i < ops.length := (List.getElem?_eq_some_iff.1 h2).1
    have := hall i (D.all i hlt)
    rw [Array.getD_eq_getD_getElem?] at this h1
    rw [Array.getElem?_eq_getElem (by omega)] at this h1
    simp at this h1
    rw [this] at h1; cases h1
  | succ fuel ih =>
    intro listed dn td pend ids env val tm h μ a w hs V hf
    refine ⟨fun hr => fin _ _ _ _ _ _ _ _ _ _ _ _ V (lst listed hs hr), fun i hi => ?_⟩
    obtain ⟨h1, o, h2, h3⟩ := ready_iff.1 hi
    have hlt : i < ops.length := (List.getElem?_eq_some_iff.1 h2).1
    have hL : listed.getD i false = false := by
      rw [Array.getD_eq_getD_getElem?] at h1 ⊢
      rw [Array.getElem?_eq_getElem (by omega)] at h1 ⊢
      exact h1
    have hR : Rdy ops (fun j => listed.getD j false) i o := ⟨h2, hL, h3⟩
    have hord := D.all i hlt
    have hf' : (ord.filter fun j => !(listed.setIfInBounds i true).getD j false).length ≤ fuel := by
      have hg := getD_set (listed := listed) (i := i) (by omega)
      have : (ord.filter fun j => !(listed.setIfInBounds i true).getD j false).length < (ord.filter fun j => !listed.getD j false).length := by
        refine filter_lt hord (by rw [hL]; rfl) (fun j hj => ?_) ?_
        · have : (listed.setIfInBounds i true).getD j false = if j = i then true else listed.getD j false := congrFun hg j
          rw [this] at hj
          by_cases e : j = i
          · rw [if_pos e] at hj; cases hj
          · rw [if_neg e] at hj; exact hj
        · have : (listed.setIfInBounds i true).getD i false = if i = i then true else listed.getD i false := congrFun hg i
          rw [this]; simp
      omega
    have hs' : (listed.setIfInBounds i true).size = ops.length := by simp [hs]
    obtain ⟨dn, td, pend, ids, env, val, tm, h, V, hhead⟩ := V.settle D
    have hsp : i ∈ dn ∨ i ∈ td := by
      have := hord
      rw [V.split] at this
      exact List.mem_append.1 this
    refine wpOp_eq h2 ?_
    rcases hsp with hm | hm
    · refine V.exec D hR hm fun μ' a' w' V' => ?_
      rw [← getD_set (by omega)] at V'
      exact ih _ _ _ _ _ _ _ _ _ _ _ _ hs' V' hf'
    · cases td with
      | nil => cases hm
      | cons e rest =>
        obtain ⟨oe, he, heff⟩ := hhead e rest rfl
        rcases List.mem_cons.1 hm with rfl | hm
        · rw [he] at h2; cases h2
          refine V.effect hΦ D hR heff fun tm' h' μ' a' w' V' => ?_
          rw [← getD_set (by omega)] at V'
          exact ih _ _ _ _ _ _ _ _ _ _ _ _ hs' V' hf'
        · exfalso
          have hp := D.pair
          rw [V.split] at hp
          have := (List.pairwise_append.1 hp).2.1
          have hb := ((List.pairwise_cons.1 this).1 i hm).2 _ _ he h2
          have := hR.before D V e (hb.1 heff)
          exact V.nodup D (V.sub e this) (by simp)

/-- A region that draws. -/
theorem drawRegion_sound (hΦ : AllGood P W0 Φ) (hm : P.follows .mixedOrders = true) {id : Nat} {Q : Exit → Act → World → Prop} (hd : drawOK P ops bf ord = true) (st : St W0 nt μ h w tm a) (hr : evDraw P Φ nt ops bf ord [] tm k h = some r)
    (hk : ∀ tm' h' μ' a' w', k tm' h' = some r → (∀ i, i < h.next → μ' i = μ i) → h.next ≤ h'.next → St W0 nt μ' h' w' tm' a' → Q .normal a' w') :
    (Code.region id ops.toArray true).wp P Q a w := by
  have D := drawOK_spec hd
  refine wp_region_any hm ?_
  have hL : (fun j => (Array.replicate ops.toArray.size false).getD j false) = fun _ => false := by
    funext j
    rw [Array.getD_eq_getD_getElem?]
    cases hj : (Array.replicate ops.toArray.size false)[j]? with
    | none => rfl
    | some b => simp [Array.getElem?_replicate] at hj; simp [← hj.2]
  refine draw_any (n0 := h.next) (μ0 := μ) hΦ D hk ops.toArray.size _ [] ord [] (fun _ => none) (fun _ => .e) (fun _ => .pn) tm h μ a _ (by simp) ?_ ?_
  · rw [hL]
    exact ⟨rfl, hr, fun _ _ => rfl, Nat.le_refl _, fun i hi => (by cases hi), fun i o hi => (by cases hi), fun j hj => (by cases hj), fun i o hi => (by cases hi), fun i hi => (by cases hi), fun i j hi => (by cases hi), fun i j oi oj t v hi => (by cases hi), fun j oj t v hj => (by cases hj), fun i oi t v hi => (by cases hi), fun t v hv => .inr (st.fr t v hv),
      st.sim.drew _, st.size, st.defers⟩
  · refine Nat.le_trans (List.length_filter_le _ _) ?_
    rw [D.len]; simp
end
end Go.Cb
