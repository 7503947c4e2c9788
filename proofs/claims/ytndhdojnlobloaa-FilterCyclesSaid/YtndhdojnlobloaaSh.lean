/- Plain functions that mirror the program's text: the loop, and what ties a mirror to the executor's conditions. -/
import Derived.Test.YtndhdojnlobloaaSxV
set_option linter.unusedSectionVars false
set_option linter.unusedSimpArgs false
set_option linter.unusedVariables false
namespace Go.Sx

/-- A loop: the body tells the next state, or what is left behind the loop. -/
def iter {X Y : Type} (body : X → Option (X ⊕ Y)) : Nat → X → Option Y
  | 0, _ => none
  | n + 1, x => match body x with
    | none => none
    | some (.inl x') => iter body n x'
    | some (.inr y) => some y

def big : Nat := 18446744073709551616

def stepK {X Y R : Type} (body : X → Option (X ⊕ Y)) (n : Nat) (K : Y → Option R) : X ⊕ Y → Option R
  | .inl x => (iter body n x).bind K
  | .inr y => K y

def ok {α : Type} (o : Option α) : Prop := o.isSome = true
instance {α : Type} (o : Option α) : Decidable (ok o) := inferInstanceAs (Decidable (o.isSome = true))
def val {α : Type} [Inhabited α] (o : Option α) : α := o.getD default

theorem ok_some {α : Type} [Inhabited α] {o : Option α} (h : ok o) : o.bind some = some (val o) := by
  cases o with
  | none => cases h
  | some x => rfl

theorem ok_of {α : Type} {o : Option α} {x : α} (h : o = some x) : ok o := by subst h; rfl
theorem val_of {α : Type} [Inhabited α] {o : Option α} {x : α} (h : o = some x) : val o = x := by subst h; rfl

variable {X Y R S A : Type} {g : S → Option R} {r : R} {p q : Prop}

theorem br_d {c : Prop} [Decidable c] {x y : Option S} (h : (if c then x else y).bind g = some r) (hx : x.bind g = some r → p) (hy : y.bind g = some r → q) : Br (decide c) p q := by
  by_cases hc : c
  · rw [if_pos hc] at h; rw [decide_eq_true hc]; exact hx h
  · rw [if_neg hc] at h; rw [decide_eq_false hc]; exact hy h
theorem br_b {b : Bool} {x y : Option S} (h : (if b = true then x else y).bind g = some r) (hx : x.bind g = some r → p) (hy : y.bind g = some r → q) : Br b p q := by
  cases b
  · exact hy h
  · exact hx h
theorem ob_s {c : Prop} [Decidable c] {x : Option S} (h : (if c then x else none).bind g = some r) (hx : x.bind g = some r → p) : Ob c ∧ p := by
  by_cases hc : c
  · rw [if_pos hc] at h; exact ⟨⟨hc⟩, hx h⟩
  · rw [if_neg hc] at h; cases h
theorem ob_t (h : p) : Ob True ∧ p := ⟨⟨trivial⟩, h⟩
theorem ob_c {p q : Prop} (hp : p) (h : q) : Ob p ∧ q := ⟨⟨hp⟩, h⟩
theorem call_s [Inhabited A] {e : Option A} {f : A → Option S} (h : (e.bind f).bind g = some r) (hx : (f (val e)).bind g = some r → p) : Ob (ok e) ∧ p := by
  cases e with
  | none => cases h
  | some a => exact ⟨⟨rfl⟩, hx h⟩
theorem loop_s {body : X → Option (X ⊕ Y)} {n : Nat} {x : X} {rest : Y → Option S} (h : ((iter body n x).bind rest).bind g = some r) : (iter body n x).bind (fun y => (rest y).bind g) = some r := by
  rw [← h]
  cases iter body n x <;> rfl
theorem iter_pos {body : X → Option (X ⊕ Y)} {n : Nat} {x : X} {K : Y → Option R} (h : (iter body n x).bind K = some r) : ∃ m, n = m + 1 ∧ (body x).bind (stepK body m K) = some r := by
  cases n with
  | zero => cases h
  | succ m =>
    refine ⟨m, rfl, ?_⟩
    rw [← h]
    unfold iter
    cases body x with
    | none => rfl
    | some z => cases z <;> rfl
theorem next_s {body : X → Option (X ⊕ Y)} {n : Nat} {x : X} {K : Y → Option R} (h : (some (Sum.inl x)).bind (stepK body n K) = some r) : (iter body n x).bind K = some r := h
theorem exit_s {body : X → Option (X ⊕ Y)} {n : Nat} {y : Y} {K : Y → Option R} (h : (some (Sum.inr y)).bind (stepK body n K) = some r) : K y = some r := h
theorem ret_s {a : R} {P : Prop} (h : (some a).bind some = some r) (hp : a = r → P) : P := hp (Option.some.inj h)
theorem lt_pos {n m : Nat} (h : n = m + 1) : m < n := by omega
theorem lt_gs {n m : Nat} (h : n + 1 = m) : n < m := by omega

/-! ### what a loop comes to -/

/-- A loop with an invariant and a measure. -/
theorem iter_spec {body : X → Option (X ⊕ Y)} (inv : X → Prop) (mu : X → Nat) (post : Y → Prop)
    (h : ∀ x, inv x → (∃ x', body x = some (.inl x') ∧ inv x' ∧ mu x' < mu x) ∨ ∃ y, body x = some (.inr y) ∧ post y) :
    ∀ (n : Nat) (x : X), inv x → mu x < n → ∃ y, iter body n x = some y ∧ post y
  | 0, _, _, hm => absurd hm (Nat.not_lt_zero _)
  | n + 1, x, hi, hm => by
    unfold iter
    rcases h x hi with ⟨x', he, hi', hm'⟩ | ⟨y, he, hp⟩
    · rw [he]; exact iter_spec inv mu post h n x' hi' (by omega)
    · rw [he]; exact ⟨y, rfl, hp⟩

end Go.Sx
