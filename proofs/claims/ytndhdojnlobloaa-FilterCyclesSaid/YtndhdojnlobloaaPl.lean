/- Plain facts on loops. -/
import Derived.Test.YtndhdojnlobloaaSh
import Derived.IntWalk
set_option linter.unusedSectionVars false
set_option linter.unusedSimpArgs false
set_option linter.unusedVariables false
namespace Go.Sx

theorem wr64 {x : Int} (h : -9223372036854775808 ≤ x ∧ x ≤ 9223372036854775807) : IntKind.i64.wrap x = x := IntWalk.i64_in _ (by omega)

/-- A loop whose states are told. -/
theorem iter_run {X Y : Type} {body : X → Option (X ⊕ Y)} (f : Nat → X) {y : Y} : ∀ (k : Nat) (s : Nat) (N : Nat), (∀ i, s ≤ i → i < s + k → body (f i) = some (.inl (f (i + 1)))) → body (f (s + k)) = some (.inr y) → k < N → iter body N (f s) = some y
  | 0, s, 0, _, _, h => absurd h (by omega)
  | 0, s, N + 1, _, hy, _ => by
    unfold iter
    rw [Nat.add_zero] at hy
    rw [hy]
  | k + 1, s, 0, _, _, h => absurd h (by omega)
  | k + 1, s, N + 1, h, hy, hN => by
    unfold iter
    rw [h s (Nat.le_refl _) (by omega)]
    exact iter_run f k (s + 1) N (fun i h1 h2 => h i (by omega) (by omega)) (by rw [show s + 1 + k = s + (k + 1) by omega]; exact hy) (by omega)

theorem iter_upto {X Y : Type} {body : X → Option (X ⊕ Y)} (f : Nat → X) {y : Y} {k : Nat} (h : ∀ i, i < k → body (f i) = some (.inl (f (i + 1)))) (hy : body (f k) = some (.inr y)) (hk : k < 18446744073709551616) : iter body big (f 0) = some y :=
  iter_run f k 0 big (fun i _ h2 => h i (by omega)) (by rw [Nat.zero_add]; exact hy) hk

/-- A loop over the indices of a list that looks for the first one with a property. -/
theorem iter_first {α Y : Type} (l : List α) (d : α) (P : α → Bool) {body : Int → Option (Int ⊕ Y)} (hit : Nat → Y) (miss : Y) (hlen : l.length < 9223372036854775807)
    (h1 : ∀ i, i < l.length → P (l.getD i d) = true → body (i : Int) = some (.inr (hit i)))
    (h2 : ∀ i, i < l.length → P (l.getD i d) = false → body (i : Int) = some (.inl ((i : Int) + 1))) (h3 : body (l.length : Int) = some (.inr miss)) :
    iter body big 0 = some (match l.findIdx? P with | some i => hit i | none => miss) := by
  cases hf : l.findIdx? P with
  | none =>
    rw [List.findIdx?_eq_none_iff] at hf
    refine iter_upto (fun i => (i : Int)) (k := l.length) (fun i hi => ?_) h3 (by omega)
    have := h2 i hi (by simpa [List.getD, hi] using hf l[i] (List.getElem_mem _))
    rw [this]
    rfl
  | some k =>
    rw [List.findIdx?_eq_some_iff_getElem] at hf
    obtain ⟨hk, hp, hbef⟩ := hf
    refine iter_upto (fun i => (i : Int)) (k := k) (fun i hi => ?_) (h1 k hk (by simpa [List.getD, hk] using hp)) (by omega)
    have hil : i < l.length := by omega
    have := h2 i hil (by simpa [List.getD, hil] using hbef i hi)
    rw [this]
    rfl

/-- A number of 64 bits; one whose sign can be turned. -/
def inI (n : Int) : Prop := -9223372036854775808 ≤ n ∧ n ≤ 9223372036854775807
def inJ (n : Int) : Prop := -9223372036854775807 ≤ n ∧ n ≤ 9223372036854775807

theorem bind_some' {α β : Type} (x : α) (f : α → Option β) : (some x).bind f = f x := rfl

end Go.Sx
