/- An abstract machine for the program: values, a heap of rows and maps, and when it stands for a world of the model. -/
import Derived.Below
import Derived.Orders
set_option linter.unusedVariables false
set_option linter.unusedSimpArgs false
namespace Go.Cb
open Go.RowKit

/-- A value, with abstract addresses. -/
inductive V where
  | b (x : Bool)
  | i (k : IntKind) (n : Int)
  | s (l : List UInt8)
  | pn
  | p (id off : Nat)
  | ns
  | sl (id off len cap : Nat) (ex : Bool) (sz : Nat)
  | mn
  | m (id : Nat)
  | nf
  | f (fn : Nat) (fs cs : List V)
  | g (cs : List V)
  | t (vs : List V)
  | ni
  | ie (ty : Nat) (v : V)
  deriving Inhabited

/-- Not a struct, not a tuple. -/
def V.one : V → Bool
  | .g _ | .t _ => false
  | _ => true

/-- The cells of a value. -/
def V.cells : V → List V
  | .g cs => cs
  | v => [v]

/-- A map from numbers, as a tree. -/
inductive Tr (α : Type) where
  | e
  | n (v : Option α) (l r : Tr α)

namespace Tr
variable {α : Type}
def get : Tr α → Nat → Option α
  | .e, _ => none
  | .n v l r, k => cond (Nat.beq k 0) v (cond (Nat.beq (k % 2) 1) (l.get (k / 2)) (r.get (k / 2 - 1)))

def setF : Nat → Tr α → Nat → α → Tr α
  | 0, t, _, _ => t
  | f + 1, .e, k, a => cond (Nat.beq k 0) (.n (some a) .e .e) (cond (Nat.beq (k % 2) 1) (.n none (setF f .e (k / 2) a) .e) (.n none .e (setF f .e (k / 2 - 1) a)))
  | f + 1, .n v l r, k, a => cond (Nat.beq k 0) (.n (some a) l r) (cond (Nat.beq (k % 2) 1) (.n v (setF f l (k / 2) a) r) (.n v l (setF f r (k / 2 - 1) a)))

def set (t : Tr α) (k : Nat) (a : α) : Tr α := setF (k + 1) t k a

theorem get_setF_same : ∀ (f : Nat) (t : Tr α) (k : Nat) (a : α), k < f → (setF f t k a).get k = some a := by
  intro f
  induction f with
  | zero => intro t k a h; omega
  | succ f ih =>
    intro t k a h
    have e0 : Nat.beq k 0 = decide (k = 0) := by rw [Bool.eq_iff_iff]; simp
    have e1 : Nat.beq (k % 2) 1 = decide (k % 2 = 1) := by rw [Bool.eq_iff_iff]; simp
    cases t <;> simp only [setF, e0, e1] <;> by_cases h0 : k = 0 <;> by_cases h1 : k % 2 = 1 <;> simp only [h0, h1, decide_true, decide_false, cond_true, cond_false, get, e0, e1] <;> first | rfl | (apply ih; omega) | (simp; done) | skip

theorem get_setF_ne : ∀ (f : Nat) (t : Tr α) (k j : Nat) (a : α), j ≠ k → (setF f t k a).get j = t.get j := by
  intro f
  induction f with
  | zero => intro t k j a h; rfl
  | succ f ih =>
    intro t k j a h
    have e0 : ∀ k, Nat.beq k 0 = decide (k = 0) := fun k => by rw [Bool.eq_iff_iff]; simp
    have e1 : ∀ k, Nat.beq (k % 2) 1 = decide (k % 2 = 1) := fun k => by rw [Bool.eq_iff_iff]; simp
    cases t <;> simp only [setF, e0, e1] <;> by_cases h0 : k = 0 <;> by_cases h1 : k % 2 = 1 <;> simp only [h0, h1, decide_true, decide_false, cond_true, cond_false, get, e0, e1] <;>
      by_cases j0 : j = 0 <;> by_cases j1 : j % 2 = 1 <;> simp only [j0, j1, decide_true, decide_false, cond_true, cond_false] <;>
      first | rfl | (exfalso; omega) | (rw [ih _ _ _ _ (by omega)]; done) | (rw [ih _ _ _ _ (by omega)]; rfl) | skip

theorem get_set_same (t : Tr α) (k : Nat) (a : α) : (t.set k a).get k = some a := get_setF_same _ _ _ _ (Nat.lt_succ_self k)
theorem get_set_ne (t : Tr α) {k j : Nat} (a : α) (h : j ≠ k) : (t.set k a).get j = t.get j := get_setF_ne _ _ _ _ _ h
end Tr

/-- A block: a row of cells (read-only or not), a map, or none any more. -/
inductive Ob where
  | c (ro : Bool) (tg : Option (Nat × Bool)) (cs : List V)
  | m (es : List (V × V × Nat)) (clk : Nat)
  | w (m : Nat)
  | x
  deriving Inhabited

/-- The abstract heap. -/
structure H where
  next : Nat
  tab : Tr Ob

def H.get (h : H) (i : Nat) : Option Ob := cond (Nat.blt i h.next) (h.tab.get i) none
def H.set (h : H) (i : Nat) (o : Ob) : H := { h with tab := h.tab.set i o }
def H.new (h : H) (o : Ob) : H := { next := h.next + 1, tab := h.tab.set h.next o }

theorem H.get_set_inv {h : H} {i : Nat} {o o' : Ob} (e : (h.set i o).get i = some o') : o' = o := by
  unfold H.get H.set at e
  simp only [Tr.get_set_same] at e
  cases hb : Nat.blt i h.next <;> simp only [hb, cond_true, cond_false] at e <;> cases e
  rfl
theorem H.get_set_same {h : H} {i : Nat} {o o' : Ob} (e : h.get i = some o') : (h.set i o).get i = some o := by
  unfold H.get at e
  unfold H.get H.set
  simp only [Tr.get_set_same]
  cases hb : Nat.blt i h.next <;> simp only [hb, cond_true, cond_false] at e ⊢ <;> cases e
theorem H.get_set_ne (h : H) {i j : Nat} (o : Ob) (e : j ≠ i) : (h.set i o).get j = h.get j := by
  unfold H.get H.set
  simp only [Tr.get_set_ne _ _ e]
@[simp] theorem H.next_set (h : H) (i : Nat) (o : Ob) : (h.set i o).next = h.next := rfl
@[simp] theorem H.get_new_same (h : H) (o : Ob) : (h.new o).get h.next = some o := by
  unfold H.get H.new
  have : Nat.blt h.next (h.next + 1) = true := by rw [Nat.blt_eq]; omega
  simp only [Tr.get_set_same, this, cond_true]
theorem H.get_lt {h : H} {i : Nat} {o : Ob} (e : h.get i = some o) : i < h.next := by
  unfold H.get at e
  cases hb : Nat.blt i h.next <;> simp only [hb, cond_true, cond_false] at e
  · cases e
  · rwa [Nat.blt_eq] at hb
theorem H.get_new_ne (h : H) {j : Nat} (o : Ob) (e : j ≠ h.next) : (h.new o).get j = h.get j := by
  unfold H.get H.new
  simp only [Tr.get_set_ne _ _ e]
  have : Nat.blt j (h.next + 1) = Nat.blt j h.next := by rw [Bool.eq_iff_iff, Nat.blt_eq, Nat.blt_eq]; omega
  rw [this]
theorem H.get_new_old {h : H} {o : Ob} {j : Nat} {o' : Ob} (e : h.get j = some o') : (h.new o).get j = some o' := by
  rw [H.get_new_ne _ _ (Nat.ne_of_lt (H.get_lt e))]; exact e
@[simp] theorem H.next_new (h : H) (o : Ob) : (h.new o).next = h.next + 1 := rfl

/-- Where an abstract block lies: the block, its first cell there, how many cells there are from it on. -/
structure Loc where
  blk : Nat
  base : Nat
  lim : Nat

abbrev Mu := Nat → Option Loc

/-- A value stands for a value of the model. -/
def slOk (L : Loc) (off len cap : Nat) (ex : Bool) (sz : Nat) (ca cc : Nat) : Prop :=
  len ≤ cc ∧ cap ≤ cc ∧ len ≤ cap ∧ (ex = true → cc = cap) ∧ (0 < cc → ca = L.base + off ∧ off + cc * sz ≤ L.lim)

mutual
def VR (μ : Mu) : V → Value → Prop
  | .b x, c => c = .bool x
  | .i k n, c => c = .int k n
  | .s l, c => c = .string ⟨⟨l⟩⟩
  | .pn, c => c = .pointer none
  | .p id off, c => ∃ L, μ id = some L ∧ c = .pointer (some ⟨L.blk, L.base + off, none⟩)
  | .ns, c => c = .slice none 0 0
  | .sl id off len cap ex sz, c => ∃ L ca cc, μ id = some L ∧ c = .slice (some ⟨L.blk, ca, none⟩) len cc ∧ slOk L off len cap ex sz ca cc
  | .mn, c => c = .map none
  | .m id, c => ∃ L, μ id = some L ∧ c = .map (some L.blk)
  | .nf, c => c = .nilFunc
  | .ni, c => c = .nilIface
  | .ie t v, c => ∃ u, c = .iface t u ∧ VR μ v u
  | .f fn fs cs, c => ∃ l1 l2, c = .func (.func fn) ⟨l1⟩ ⟨l2⟩ ∧ VRs μ fs l1 ∧ VRs μ cs l2
  | .g cs, c => ∃ l, c = .agg ⟨l⟩ ∧ VRs μ cs l ∧ cs.all V.one = true
  | .t vs, c => ∃ l, c = .tuple ⟨l⟩ ∧ VRs μ vs l
def VRs (μ : Mu) : List V → List Value → Prop
  | [], l => l = []
  | v :: vs, l => ∃ c cs, l = c :: cs ∧ VR μ v c ∧ VRs μ vs cs
end

/-- More is known of where blocks lie. -/
def Mu.le (μ μ' : Mu) : Prop := ∀ i L, μ i = some L → μ' i = some L

mutual
theorem VR.mono {μ μ' : Mu} (h : μ.le μ') : ∀ (v : V) (c : Value), VR μ v c → VR μ' v c
  | .b _, _, hv | .i _ _, _, hv | .s _, _, hv | .pn, _, hv | .ns, _, hv | .mn, _, hv | .nf, _, hv | .ni, _, hv => by simpa only [VR] using hv
  | .ie t v, _, hv => by
    simp only [VR] at *
    obtain ⟨u, h1, h2⟩ := hv
    exact ⟨u, h1, VR.mono h v u h2⟩
  | .p id off, _, hv => by
    simp only [VR] at *
    obtain ⟨L, h1, h2⟩ := hv
    exact ⟨L, h _ _ h1, h2⟩
  | .sl .., _, hv => by
    simp only [VR] at *
    obtain ⟨L, ca, cc, h1, h2⟩ := hv
    exact ⟨L, ca, cc, h _ _ h1, h2⟩
  | .m _, _, hv => by
    simp only [VR] at *
    obtain ⟨L, h1, h2⟩ := hv
    exact ⟨L, h _ _ h1, h2⟩
  | .f _ fs cs, _, hv => by
    simp only [VR] at *
    obtain ⟨l1, l2, h1, h2, h3⟩ := hv
    exact ⟨l1, l2, h1, VRs.mono h fs l1 h2, VRs.mono h cs l2 h3⟩
  | .g cs, _, hv => by
    simp only [VR] at *
    obtain ⟨l, h1, h2, h3⟩ := hv
    exact ⟨l, h1, VRs.mono h cs l h2, h3⟩
  | .t vs, _, hv => by
    simp only [VR] at *
    obtain ⟨l, h1, h2⟩ := hv
    exact ⟨l, h1, VRs.mono h vs l h2⟩
theorem VRs.mono {μ μ' : Mu} (h : μ.le μ') : ∀ (vs : List V) (l : List Value), VRs μ vs l → VRs μ' vs l
  | [], _, hv => by simpa only [VRs] using hv
  | v :: vs, _, hv => by
    simp only [VRs] at *
    obtain ⟨c, cs, h1, h2, h3⟩ := hv
    exact ⟨c, cs, h1, VR.mono h v c h2, VRs.mono h vs cs h3⟩
end

theorem VRs.length {μ : Mu} : ∀ {vs : List V} {l : List Value}, VRs μ vs l → l.length = vs.length
  | [], _, h => by simp only [VRs] at h; subst h; rfl
  | v :: vs, _, h => by
    simp only [VRs] at h
    obtain ⟨c, cs, rfl, _, h3⟩ := h
    simp [VRs.length h3]

theorem VRs.get {μ : Mu} : ∀ {vs : List V} {l : List Value}, VRs μ vs l → ∀ {k : Nat} {v : V}, vs[k]? = some v → ∃ c, l[k]? = some c ∧ VR μ v c
  | [], _, _, k, v, hk => by simp at hk
  | w :: vs, _, h, k, v, hk => by
    simp only [VRs] at h
    obtain ⟨c, cs, rfl, h2, h3⟩ := h
    cases k with
    | zero => simp at hk; subst hk; exact ⟨c, rfl, h2⟩
    | succ k => simp at hk; simpa using VRs.get h3 hk

theorem VRs.of_get {μ : Mu} : ∀ {vs : List V} {l : List Value}, l.length = vs.length → (∀ (k : Nat) (v : V), vs[k]? = some v → ∃ c, l[k]? = some c ∧ VR μ v c) → VRs μ vs l
  | [], l, h, _ => by simp only [VRs]; simpa using h
  | v :: vs, [], h, _ => by simp at h
  | v :: vs, c :: cs, h, hk => by
    simp only [VRs]
    obtain ⟨c', hc, hv⟩ := hk 0 v rfl
    simp at hc
    subst hc
    exact ⟨c, cs, rfl, hv, VRs.of_get (by simpa using h) fun k w hw => by simpa using hk (k + 1) w (by simpa using hw)⟩

theorem VRs.append {μ : Mu} : ∀ {vs ws : List V} {l m : List Value}, VRs μ vs l → VRs μ ws m → VRs μ (vs ++ ws) (l ++ m)
  | [], _, _, _, h, k => by simp only [VRs] at h; subst h; simpa using k
  | v :: vs, ws, _, m, h, k => by
    simp only [VRs] at h
    obtain ⟨c, cs, rfl, h2, h3⟩ := h
    simp only [List.cons_append, VRs]
    exact ⟨c, cs ++ m, rfl, h2, VRs.append h3 k⟩

theorem VRs.nil {μ : Mu} : VRs μ [] [] := by simp only [VRs]
theorem VRs.cons {μ : Mu} {v : V} {c : Value} {vs : List V} {cs : List Value} (h : VR μ v c) (k : VRs μ vs cs) : VRs μ (v :: vs) (c :: cs) := by
  simp only [VRs]; exact ⟨c, cs, rfl, h, k⟩

/-- A one-cell value stands for a one-cell value. -/
theorem VR.one {μ : Mu} {v : V} {c : Value} (h : VR μ v c) (ho : v.one = true) : (∀ cs, c ≠ .agg cs) ∧ (∀ cs, c ≠ .tuple cs) := by
  cases v with
  | g cs => cases ho
  | t vs => cases ho
  | p id off => simp only [VR] at h; obtain ⟨L, _, rfl⟩ := h; exact ⟨by simp, by simp⟩
  | sl => simp only [VR] at h; obtain ⟨L, ca, cc, _, rfl, _⟩ := h; exact ⟨by simp, by simp⟩
  | m id => simp only [VR] at h; obtain ⟨L, _, rfl⟩ := h; exact ⟨by simp, by simp⟩
  | f => simp only [VR] at h; obtain ⟨l1, l2, rfl, _⟩ := h; exact ⟨by simp, by simp⟩
  | ie t v => simp only [VR] at h; obtain ⟨u, rfl, _⟩ := h; exact ⟨by simp, by simp⟩
  | _ => simp only [VR] at h; subst h; exact ⟨by simp, by simp⟩

theorem VR.cells {μ : Mu} {v : V} {c : Value} (h : VR μ v c) (ht : ∀ vs, v ≠ .t vs) : VRs μ v.cells c.cells.toList ∧ v.cells.all V.one = true := by
  cases v with
  | g cs =>
    simp only [VR] at h
    obtain ⟨l, rfl, h2, h3⟩ := h
    exact ⟨by simpa [V.cells, Value.cells] using h2, h3⟩
  | t vs => exact absurd rfl (ht vs)
  | _ =>
    have ho := VR.one h rfl
    have hc : c.cells = #[c] := by
      cases c <;> first | rfl | exact absurd rfl (ho.1 _)
    refine ⟨?_, rfl⟩
    rw [hc]
    exact VRs.cons h VRs.nil

/-- The entries of a map. -/
def MR (μ : Mu) : List (V × V × Nat) → List MapEntry → Prop
  | [], l => l = []
  | (k, v, n) :: es, l => ∃ e rest, l = e :: rest ∧ VR μ k e.key ∧ VR μ v e.val ∧ e.born = n ∧ MR μ es rest

theorem MR.mono {μ μ' : Mu} (h : μ.le μ') : ∀ (es : List (V × V × Nat)) (l : List MapEntry), MR μ es l → MR μ' es l
  | [], _, hv => by simpa only [MR] using hv
  | (k, v, n) :: es, _, hv => by
    simp only [MR] at *
    obtain ⟨e, rest, h1, h2, h3, h4, h5⟩ := hv
    exact ⟨e, rest, h1, VR.mono h _ _ h2, VR.mono h _ _ h3, h4, MR.mono h es rest h5⟩

/-- A block of the abstract heap stands for what lies at its place; what may be written lies from block N on. -/
def OR (μ : Mu) (N : Nat) (L : Loc) (w : World) : Ob → Prop
  | .c ro tg cs => ∃ arr t fr, w.heap[L.blk]? = some (.cells arr t fr) ∧ L.base + L.lim ≤ arr.size ∧ cs.length ≤ L.lim ∧
      (∀ (k : Nat) (v : V), cs[k]? = some v → v.one = true ∧ ∃ c, arr[L.base + k]? = some c ∧ VR μ v c) ∧ (ro = false → N ≤ L.blk ∧ fr = (0, 0)) ∧ (∀ e x, tg = some (e, x) → t = e ∧ L.base = 0 ∧ (x = true → arr.size = cs.length))
  | .m es clk => ∃ ents, w.heap[L.blk]? = some (.map ents clk) ∧ MR μ es ents.toList ∧ N ≤ L.blk
  | .w m => ∃ M since seen last, μ m = some M ∧ w.heap[L.blk]? = some (.mapIter (some M.blk) since seen last) ∧ L.base = 0
  | .x => True

def Ob.ro : Ob → Bool
  | .c ro _ _ => ro
  | .m _ _ => false
  | .w _ => false
  | .x => true

def Ob.live : Ob → Bool
  | .x => false
  | _ => true

/-- The abstract heap stands for a world: one that came of W0, of which nothing has turned. -/
structure Sim (W0 : World) (μ : Mu) (h : H) (w : World) : Prop where
  lt : ∀ i L, μ i = some L → i < h.next
  blk : ∀ i L, μ i = some L → L.blk < w.heap.size
  ob : ∀ i L o, μ i = some L → h.get i = some o → OR μ W0.heap.size L w o
  inj : ∀ i j L L' o o', μ i = some L → μ j = some L' → h.get i = some o → h.get j = some o' → L.blk = L'.blk → i ≠ j → o.live = true → o'.live = true → o.ro = true ∧ o'.ro = true
  bel : Below W0.heap.size W0 w

theorem OR.mono {μ μ' : Mu} {N : Nat} {L : Loc} {w : World} {o : Ob} (h : μ.le μ') (k : OR μ N L w o) : OR μ' N L w o := by
  cases o with
  | c ro tg cs =>
    obtain ⟨arr, t, fr, h1, h2, h3, h4, h5⟩ := k
    refine ⟨arr, t, fr, h1, h2, h3, fun i v hv => ?_, h5⟩
    obtain ⟨ho, c, hc, hr⟩ := h4 i v hv
    exact ⟨ho, c, hc, VR.mono h _ _ hr⟩
  | m es clk =>
    obtain ⟨ents, h1, h2, h3⟩ := k
    exact ⟨ents, h1, MR.mono h _ _ h2, h3⟩
  | w m =>
    obtain ⟨M, since, seen, last, h1, h2⟩ := k
    exact ⟨M, since, seen, last, h _ _ h1, h2⟩
  | x => trivial

/-- What a block stands for hangs on its place alone. -/
theorem OR.of_block {μ : Mu} {N : Nat} {L : Loc} {w w' : World} {o : Ob} (k : OR μ N L w o) (h : w'.heap[L.blk]? = w.heap[L.blk]?) : OR μ N L w' o := by
  cases o with
  | c ro tg cs => simpa only [OR, h] using k
  | m es clk => simpa only [OR, h] using k
  | w m => simpa only [OR, h] using k
  | x => trivial

/-- A world of which no block has turned (a draw). -/
theorem Sim.same_heap {W0 : World} {μ : Mu} {h : H} {w w' : World} (s : Sim W0 μ h w) (hh : w'.heap = w.heap) (hb : Below W0.heap.size W0 w') : Sim W0 μ h w' :=
  ⟨s.lt, fun i L hi => by rw [hh]; exact s.blk i L hi, fun i L o hi ho => (s.ob i L o hi ho).of_block (by rw [hh]), s.inj, hb⟩

theorem Sim.drew {W0 : World} {μ : Mu} {h : H} {w : World} (s : Sim W0 μ h w) (n : Nat) : Sim W0 μ h { w with drawn := n } :=
  s.same_heap rfl ⟨s.bel.os, s.bel.tape, s.bel.output, s.bel.size, s.bel.block⟩

theorem Sim.size {W0 : World} {μ : Mu} {h : H} {w : World} (s : Sim W0 μ h w) : W0.heap.size ≤ w.heap.size := s.bel.size

/-- Blocks that stand for nothing in the world may come to be in the abstract heap. -/
theorem Sim.more {W0 : World} {μ : Mu} {h h' : H} {w : World} (s : Sim W0 μ h w) (hn : h.next ≤ h'.next) (hg : ∀ i, i < h.next → h'.get i = h.get i) : Sim W0 μ h' w :=
  ⟨fun i L hi => Nat.lt_of_lt_of_le (s.lt i L hi) hn, s.blk, fun i L o hi ho => s.ob i L o hi (by rw [← hg i (s.lt i L hi)]; exact ho),
    fun i j L L' o o' hi hj ho ho' hb hne => s.inj i j L L' o o' hi hj (by rw [← hg i (s.lt i L hi)]; exact ho) (by rw [← hg j (s.lt j L' hj)]; exact ho') hb hne, s.bel⟩

theorem Sim.new {W0 : World} {μ : Mu} {h : H} {w : World} (s : Sim W0 μ h w) (o : Ob) : Sim W0 μ (h.new o) w :=
  s.more (Nat.le_succ _) fun i hi => H.get_new_ne _ _ (by omega)

/-- A new block in the world, for an abstract one that stood for nothing as yet. -/
def Mu.put (μ : Mu) (i : Nat) (L : Loc) : Mu := fun j => if j = i then some L else μ j

theorem Mu.put_same (μ : Mu) (i : Nat) (L : Loc) : μ.put i L i = some L := by simp [Mu.put]
theorem Mu.put_ne (μ : Mu) {i j : Nat} (L : Loc) (h : j ≠ i) : μ.put i L j = μ j := by simp [Mu.put, h]
theorem Mu.le_put {μ : Mu} {i : Nat} {L : Loc} (h : μ i = none) : μ.le (μ.put i L) := fun j M hj => by
  by_cases e : j = i
  · subst e; rw [h] at hj; cases hj
  · rw [Mu.put_ne _ _ e]; exact hj

theorem Sim.alloc {W0 : World} {μ : Mu} {h : H} {w : World} (s : Sim W0 μ h w) {i : Nat} {o : Ob} {n : Nat} {ob : Obj} (hi : μ i = none) (hlt : i < h.next) (hg : h.get i = some o)
    (ho : OR (μ.put i ⟨w.heap.size, 0, n⟩) W0.heap.size ⟨w.heap.size, 0, n⟩ (w.alloc ob) o) : Sim W0 (μ.put i ⟨w.heap.size, 0, n⟩) h (w.alloc ob) := by
  have hold : ∀ k, k < w.heap.size → (w.alloc ob).heap[k]? = w.heap[k]? := fun k hk => Below.heap_alloc w ob k hk
  refine ⟨fun j L hj => ?_, fun j L hj => ?_, fun j L o' hj ho' => ?_, fun j k L L' o1 o2 hj hk h1 h2 hb hne v1 v2 => ?_, s.bel.alloc s.size ob⟩
  · by_cases e : j = i
    · subst e; exact hlt
    · rw [Mu.put_ne _ _ e] at hj; exact s.lt j L hj
  · by_cases e : j = i
    · subst e; rw [Mu.put_same] at hj; cases hj; simp
    · rw [Mu.put_ne _ _ e] at hj; have := s.blk j L hj; simp; omega
  · by_cases e : j = i
    · subst e; rw [Mu.put_same] at hj; cases hj
      rw [hg] at ho'; cases ho'; exact ho
    · rw [Mu.put_ne _ _ e] at hj
      exact ((s.ob j L o' hj ho').mono (Mu.le_put hi)).of_block (hold _ (s.blk j L hj))
  · by_cases ej : j = i
    · subst ej
      rw [Mu.put_same] at hj; cases hj
      rw [Mu.put_ne _ _ (Ne.symm hne)] at hk
      have := s.blk k L' hk
      simp at hb; omega
    · rw [Mu.put_ne _ _ ej] at hj
      by_cases ek : k = i
      · subst ek
        rw [Mu.put_same] at hk; cases hk
        have := s.blk j L hj
        simp at hb; omega
      · rw [Mu.put_ne _ _ ek] at hk
        exact s.inj j k L L' o1 o2 hj hk h1 h2 hb hne v1 v2
end Go.Cb
