/- Functions that lay blocks of their own which nobody sees. -/
import Derived.Test.YthpapfgdjdjcfaaGreatDoorCbY
set_option linter.unusedVariables false
set_option linter.unusedSimpArgs false
namespace Go.Cb
open Go.RowKit

mutual
theorem VR.back {μ μ' : Mu} (h : ∀ i L, μ i = some L → μ' i = some L) : ∀ (v : V) (c0 c : Value), VR μ v c0 → VR μ' v c → VR μ v c
  | .b _, _, _, _, k | .i _ _, _, _, _, k | .s _, _, _, _, k | .pn, _, _, _, k | .ns, _, _, _, k | .mn, _, _, _, k | .nf, _, _, _, k | .ni, _, _, _, k => by simpa only [VR] using k
  | .ie t v, _, _, hv, k => by
    simp only [VR] at *
    obtain ⟨u0, _, h2⟩ := hv
    obtain ⟨u, h3, h4⟩ := k
    exact ⟨u, h3, VR.back h v u0 u h2 h4⟩
  | .p id off, _, _, hv, k => by
    simp only [VR] at *
    obtain ⟨L, h1, _⟩ := hv
    obtain ⟨L', h3, h4⟩ := k
    have := (h _ _ h1).symm.trans h3
    cases this
    exact ⟨L, h1, h4⟩
  | .sl .., _, _, hv, k => by
    simp only [VR] at *
    obtain ⟨L, ca, cc, h1, _⟩ := hv
    obtain ⟨L', ca', cc', h3, h4⟩ := k
    have := (h _ _ h1).symm.trans h3
    cases this
    exact ⟨L, ca', cc', h1, h4⟩
  | .m _, _, _, hv, k => by
    simp only [VR] at *
    obtain ⟨L, h1, _⟩ := hv
    obtain ⟨L', h3, h4⟩ := k
    have := (h _ _ h1).symm.trans h3
    cases this
    exact ⟨L, h1, h4⟩
  | .f _ fs cs, _, _, hv, k => by
    simp only [VR] at *
    obtain ⟨l1, l2, _, h2, h3⟩ := hv
    obtain ⟨m1, m2, k1, k2, k3⟩ := k
    exact ⟨m1, m2, k1, VRs.back h fs l1 m1 h2 k2, VRs.back h cs l2 m2 h3 k3⟩
  | .g cs, _, _, hv, k => by
    simp only [VR] at *
    obtain ⟨l, _, h2, _⟩ := hv
    obtain ⟨m, k1, k2, k3⟩ := k
    exact ⟨m, k1, VRs.back h cs l m h2 k2, k3⟩
  | .t vs, _, _, hv, k => by
    simp only [VR] at *
    obtain ⟨l, _, h2⟩ := hv
    obtain ⟨m, k1, k2⟩ := k
    exact ⟨m, k1, VRs.back h vs l m h2 k2⟩
theorem VRs.back {μ μ' : Mu} (h : ∀ i L, μ i = some L → μ' i = some L) : ∀ (vs : List V) (l0 l : List Value), VRs μ vs l0 → VRs μ' vs l → VRs μ vs l
  | [], _, _, _, k => by simpa only [VRs] using k
  | v :: vs, _, _, hv, k => by
    simp only [VRs] at *
    obtain ⟨c, cs, _, h2, h3⟩ := hv
    obtain ⟨c', cs', k1, k2, k3⟩ := k
    exact ⟨c', cs', k1, VR.back h v c c' h2 k2, VRs.back h vs cs cs' h3 k3⟩
end

theorem MR.back {μ μ' : Mu} (h : ∀ i L, μ i = some L → μ' i = some L) : ∀ (es : List (V × V × Nat)) (l0 l : List MapEntry), MR μ es l0 → MR μ' es l → MR μ es l
  | [], _, _, _, k => by simpa only [MR] using k
  | (a, b, n) :: es, _, _, hv, k => by
    simp only [MR] at *
    obtain ⟨e, r, _, h2, h3, _, h5⟩ := hv
    obtain ⟨e', r', k1, k2, k3, k4, k5⟩ := k
    exact ⟨e', r', k1, VR.back h a _ _ h2 k2, VR.back h b _ _ h3 k3, k4, MR.back h es r r' h5 k5⟩

section
variable {P : Program} {W0 : World}

theorem OR.back {μ μ' : Mu} {N : Nat} {L : Loc} {w w' : World} {o : Ob} (h : ∀ i L, μ i = some L → μ' i = some L) (k0 : OR μ N L w o) (k : OR μ' N L w' o) : OR μ N L w' o := by
  cases o with
  | c ro tg cs =>
    obtain ⟨_, _, _, _, _, _, g4, _⟩ := k0
    obtain ⟨arr, t, fr, h1, h2, h3, h4, h5⟩ := k
    refine ⟨arr, t, fr, h1, h2, h3, fun i v hv => ?_, h5⟩
    obtain ⟨ho, c, hc, hr⟩ := h4 i v hv
    obtain ⟨_, c0, _, hr0⟩ := g4 i v hv
    exact ⟨ho, c, hc, VR.back h _ _ _ hr0 hr⟩
  | m es clk =>
    obtain ⟨e0, _, g2, _⟩ := k0
    obtain ⟨ents, h1, h2, h3⟩ := k
    exact ⟨ents, h1, MR.back h _ _ _ g2 h2, h3⟩
  | w m =>
    obtain ⟨M, _, _, _, h1, _⟩ := k0
    obtain ⟨M', since, seen, last, k1, k2⟩ := k
    have := (h _ _ h1).symm.trans k1
    cases this
    exact ⟨M, since, seen, last, h1, k2⟩
  | x => trivial

/-- New blocks are forgotten. -/
theorem Sim.forget {μ μ' : Mu} {h h2 : H} {w w' : World} (s0 : Sim W0 μ h w) (s : Sim W0 μ' h2 w') (hx : ∀ i, i < h.next → μ' i = μ i) (hg : ∀ i, i < h.next → h2.get i = h.get i) : Sim W0 μ h w' := by
  have hle : ∀ i L, μ i = some L → μ' i = some L := fun i L hi => by rw [hx i (s0.lt i L hi)]; exact hi
  refine ⟨s0.lt, fun i L hi => s.blk i L (hle i L hi), fun i L o hi ho => ?_, fun i j L L' o o' hi hj ho ho' hb hne v1 v2 => ?_, s.bel⟩
  · exact OR.back hle (s0.ob i L o hi ho) (s.ob i L o (hle i L hi) (by rw [hg i (s0.lt i L hi)]; exact ho))
  · exact s.inj i j L L' o o' (hle i L hi) (hle j L' hj) (by rw [hg i (s0.lt i L hi)]; exact ho) (by rw [hg j (s0.lt j L' hj)]; exact ho') hb hne v1 v2

theorem sound_of_run {f : FuncId} {F φ : List V → M V} (hF : Sound P W0 f F) (hφ : ∀ args h r, φ args h = some r → F args h = some r) : Sound P W0 f φ :=
  fun args h v h' hr => hF args h v h' (hφ args h _ hr)

/-- A value in which no block is named. -/
def V.bare : V → Bool
  | .b _ | .i _ _ | .s _ => true
  | .t vs => vs.all fun v => match v with | .b _ | .i _ _ | .s _ => true | _ => false
  | _ => false

theorem V.bare_VR {μ μ' : Mu} {v : V} {c : Value} (hb : v.bare = true) (k : VR μ' v c) : VR μ v c := by
  cases v <;> first | (cases hb; done) | (simpa only [VR] using k) | skip
  rename_i vs
  simp only [VR] at k ⊢
  obtain ⟨l, h1, h2⟩ := k
  refine ⟨l, h1, ?_⟩
  simp only [V.bare] at hb
  clear h1
  induction vs generalizing l with
  | nil => simpa only [VRs] using h2
  | cons v vs ih =>
    simp only [VRs] at h2 ⊢
    obtain ⟨c, cs, g1, g2, g3⟩ := h2
    simp only [List.all_cons, Bool.and_eq_true] at hb
    refine ⟨c, cs, g1, ?_, ih hb.2 _ g3⟩
    cases v <;> first | (simpa only [VR] using g2) | (exact absurd hb.1 (by simp))

theorem sound_of_garbage {f : FuncId} {F φ : List V → M V} (hF : Sound P W0 f F) (hφ : ∀ args h v h', φ args h = some (v, h') → h' = h ∧ v.bare = true ∧ ∃ h2, F args h = some (v, h2) ∧ ∀ i, i < h.next → h2.get i = h.get i) : Sound P W0 f φ := by
  intro args h v h' hr μ w cargs s ha
  obtain ⟨rfl, hb, h2, h3, h4⟩ := hφ args h v h' hr
  refine (hF args h' v h2 h3 μ w cargs s ha).mono fun e w' he => ?_
  obtain ⟨c, μ', rfl, hv, hx, hs, hle⟩ := he
  exact ⟨c, μ, rfl, V.bare_VR hb hv, fun _ _ => rfl, s.forget hs hx h4, Nat.le_refl _⟩
end
end Go.Cb
