/- strings.Repeat and strings.Trim on the abstract machine. -/
import Derived.Test.YthpapfgdjdjcfaaGreatDoorCbW
import Derived.Shelf.Strings.Repeat
import Derived.Shelf.Strings.Trim
set_option linter.unusedVariables false
set_option linter.unusedSimpArgs false
namespace Go.Cb
open Go.RowKit Go.Shelf Go.Proofs

def repL (l : List UInt8) : Nat → List UInt8
  | 0 => []
  | n + 1 => l ++ repL l n

def repeatM (args : List V) : M V := fun h => match args with
  | [.s l, .i .i64 (.ofNat n)] => cond (Nat.ble n 9223372036854775807 && Nat.ble (l.length * n) 140737488355328) (some (.s (repL l n), h)) none
  | _ => none

def strsOf : List V → Option (List (List UInt8))
  | [] => some []
  | .s l :: vs => match strsOf vs with | some ls => some (l :: ls) | none => none
  | _ :: _ => none

def joinL (sep : List UInt8) : List (List UInt8) → List UInt8
  | [] => []
  | [l] => l
  | l :: ls => l ++ (sep ++ joinL sep ls)

def joinM (args : List V) : M V := fun h => match args with
  | [.ns, .s _] => some (.s [], h)
  | [.sl i o n _ _ 1, .s sep] => match rdCells h i o n with
    | some vs => match strsOf vs with
      | some ls => cond (Nat.ble n 65536 && Nat.ble (joinL sep ls).length 140737488355328) (some (.s (joinL sep ls), h)) none
      | none => none
    | none => none
  | _ => none

def intsOf : List V → Option (List Int)
  | [] => some []
  | .i .i64 z :: vs => match intsOf vs with | some zs => some (z :: zs) | none => none
  | _ :: _ => none

def appendSeqM (vf : Nat) (args : List V) : M V := fun h => match args with
  | [.ns, .f fn [] [.p id off]] => cond (Nat.beq fn vf) (match rdCell h id off with
    | some (.sl i o n _ _ 1) => match rdCells h i o n with
      | some vs => match intsOf vs with
        | some _ => cond (Nat.blt 0 n && Nat.ble n 1048576) (some (.sl h.next 0 n n false 1, h.new (.c false none vs))) none
        | none => none
      | none => none
    | _ => none) none
  | _ => none

/-- The bytes behind those that are c. -/
def dropB (c : UInt8) : List UInt8 → List UInt8
  | [] => []
  | x :: xs => cond (x == c) (dropB c xs) (x :: xs)

def allIs (c : UInt8) : List UInt8 → Bool
  | [] => true
  | x :: xs => cond (x == c) (allIs c xs) false

def trimM (args : List V) : M V := fun h => match args with
  | [.s l, .s [c]] => cond (Nat.blt c.toNat 128 && Nat.ble l.length 9223372036854775807) (some (.s (cond (allIs c l) [] (dropB c (dropB c l.reverse).reverse)), h)) none
  | _ => none

variable {P : Program} {ρ : Ren} {W0 : World}

theorem repL_eq (l : List UInt8) : ∀ n, repL l n = Lib.repeatL l n
  | 0 => rfl
  | n + 1 => by simp only [repL, Lib.repeatL, repL_eq l n]

theorem two_args {μ : Mu} {a b : V} {cargs : Array Value} (h : VRs μ [a, b] cargs.toList) : ∃ x y, cargs = #[x, y] ∧ VR μ a x ∧ VR μ b y := by
  simp only [VRs] at h
  obtain ⟨x, _, h1, hx, y, _, h2, hy, h3⟩ := h
  subst h3; subst h2
  exact ⟨x, y, by apply Array.ext'; rw [h1], hx, hy⟩

theorem one_arg {μ : Mu} {a : V} {cargs : Array Value} (h : VRs μ [a] cargs.toList) : ∃ x, cargs = #[x] ∧ VR μ a x := by
  simp only [VRs] at h
  obtain ⟨x, _, h1, hx, h3⟩ := h
  subst h3
  exact ⟨x, by apply Array.ext'; rw [h1], hx⟩

theorem repeat_sound (L : Lays.n105 P ρ) (X : Builder.Extra P ρ) : Sound P W0 (ρ.f 105) repeatM := by
  refine sound_pure fun args h v h' hr => ?_
  unfold repeatM at hr
  split at hr <;> first | (cases hr; done) | skip
  rename_i l n
  cases hc : (Nat.ble n 9223372036854775807 && Nat.ble (l.length * n) 140737488355328) with
  | false => rw [hc] at hr; cases hr
  | true =>
  rw [hc] at hr
  simp only [cond_true] at hr
  cases hr
  simp only [Bool.and_eq_true, Nat.ble_eq] at hc
  refine ⟨rfl, fun μ w cargs s ha => ?_⟩
  obtain ⟨x, y, rfl, hx, hy⟩ := two_args ha
  simp only [VR] at hx hy
  subst hx; subst hy
  refine (Any.strings_Repeat L X ⟨⟨l⟩⟩ n w hc.1 hc.2).mono ?_
  rintro e w' ⟨rfl, hb⟩
  exact ⟨_, rfl, by simp [VR, repL_eq], hb⟩

theorem dropB_eq (c : UInt8) : ∀ l, dropB c l = l.dropWhile (· == c)
  | [] => rfl
  | x :: xs => by
    simp only [dropB, List.dropWhile]
    cases h : (x == c) <;> simp [dropB_eq c xs]

theorem allIs_spec (c : UInt8) : ∀ l, allIs c l = true → ∀ x ∈ l, (x == c) = true
  | [], _, x, hx => by cases hx
  | y :: ys, h, x, hx => by
    simp only [allIs] at h
    cases hy : (y == c) with
    | false => rw [hy] at h; cases h
    | true =>
      rw [hy] at h
      cases hx with
      | head => exact hy
      | tail _ hx => exact allIs_spec c ys h x hx

theorem trim_eq (c : UInt8) (l : List UInt8) : cond (allIs c l) [] (dropB c (dropB c l.reverse).reverse) = Lib.trimB l c := by
  cases h : allIs c l with
  | false => simp only [cond_false, dropB_eq, Lib.trimB, Lib.trimLeftB, Lib.trimRightB]
  | true =>
    have hall := allIs_spec c l h
    have h0 : l.reverse.dropWhile (· == c) = [] := by
      have : ∀ (l : List UInt8), (∀ x ∈ l, (x == c) = true) → l.dropWhile (· == c) = [] := by
        intro l
        induction l with
        | nil => intro _; rfl
        | cons x xs ih => intro h; rw [List.dropWhile_cons, if_pos (h x (List.mem_cons_self ..))]; exact ih fun y hy => h y (List.mem_cons_of_mem _ hy)
      exact this _ fun x hx => hall x (List.mem_reverse.1 hx)
    simp only [cond_true, Lib.trimB, Lib.trimLeftB, Lib.trimRightB, h0]
    rfl

theorem trim_sound (L : Lays.n160 P ρ) : Sound P W0 (ρ.f 160) trimM := by
  refine sound_pure fun args h v h' hr => ?_
  unfold trimM at hr
  split at hr <;> first | (cases hr; done) | skip
  rename_i l c
  cases hc : (Nat.blt c.toNat 128 && Nat.ble l.length 9223372036854775807) with
  | false => rw [hc] at hr; cases hr
  | true =>
  rw [hc] at hr
  simp only [cond_true] at hr
  cases hr
  simp only [Bool.and_eq_true, Nat.ble_eq, Nat.blt_eq] at hc
  refine ⟨rfl, fun μ w cargs s ha => ?_⟩
  obtain ⟨x, y, rfl, hx, hy⟩ := two_args ha
  simp only [VR] at hx hy
  subst hx; subst hy
  refine (Any.strings_Trim_one L ⟨⟨l⟩⟩ c hc.1 w hc.2).mono ?_
  rintro e w' ⟨rfl, hb⟩
  refine ⟨_, rfl, by simp [VR, trim_eq], ?_⟩
  rcases hb with rfl | rfl
  · exact Below.refl _ _
  · exact (Below.refl _ _).drew
end Go.Cb
