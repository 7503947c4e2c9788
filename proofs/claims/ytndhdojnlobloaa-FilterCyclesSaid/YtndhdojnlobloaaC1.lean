/- Contracts of the small functions of numbers. -/
import Derived.Test.YtndhdojnlobloaaC0
import Derived.Test.YtndhdojnlobloaaSxW
set_option linter.unusedSectionVars false
set_option linter.unusedSimpArgs false
set_option linter.unusedVariables false
namespace Go.Sx06
open Go Go.Proofs Go.RowKit Go.Sx

theorem Ob_iff {p : Prop} : Ob p ↔ p := ⟨fun h => h.h, fun h => ⟨h⟩⟩
theorem Br_iff {b : Bool} {p q : Prop} : Br b p q ↔ (b = true → p) ∧ (b = false → q) := by
  cases b <;> simp [Br]

theorem mixed : Try.prog.follows .mixedOrders = true := by kernel_rfl

abbrev runF (fn : Func) (sp : Specs) (loops : Nat → St → Option LI) (fuel : Nat) (as_ : List A) (rs : List RV) : Prop :=
  sx Try.prog sp fn.ntmps as_.length fuel (fun _ => loops) (drawX Try.prog sp fn.ntmps) (bodyOf fn) 0 [] ⟨argsTm 0 (argVs 0 as_), argHp 0 as_, as_.length⟩ (retX Try.prog fn.results.toList fun v hp _ => fitsV rs v hp)

abbrev runE (fn : Func) (sp : Specs) (loops : Nat → St → Option LI) (fuel : Nat) (c0 : C) (ob : O) (as_ : List A) (ob' : O) (rs : List RV) : Prop :=
  sx Try.prog sp fn.ntmps 1 fuel (fun _ => loops) (drawX Try.prog sp fn.ntmps) (bodyOf fn) 0 [] ⟨argsTm 0 (.w (.c c0) :: argVs 1 as_), [(0, ob)], 1⟩ (retX Try.prog fn.results.toList fun v hp _ => fitsE ob' rs v hp)

def sp0 : Specs := fun _ => none
theorem sp0_ok : SpecsOK Try.prog sp0 := fun _ _ _ h => by cases h
def addS (f : Nat) (g : List A → Option (Prop × List RV)) (sp : Specs) : Specs := fun k => match Nat.beq k f with
  | true => some (true, pureS g)
  | false => sp k
theorem addS_ok {f : Nat} {g : List A → Option (Prop × List RV)} {sp : Specs} (h : SpecOK Try.prog f true (pureS g)) (hs : SpecsOK Try.prog sp) : SpecsOK Try.prog (addS f g sp) := by
  intro k M S hk
  unfold addS at hk
  split at hk
  · rename_i e
    have := Nat.eq_of_beq_eq_true e
    subst this
    cases hk
    exact h
  · exact hs k M S hk

def addE (f : Nat) (g : C → O → List A → Option (Prop × O × List RV)) (sp : Specs) : Specs := fun k => match Nat.beq k f with
  | true => some (false, effS g)
  | false => sp k
theorem addE_ok {f : Nat} {g : C → O → List A → Option (Prop × O × List RV)} {sp : Specs} (h : SpecOK Try.prog f false (effS g)) (hs : SpecsOK Try.prog sp) : SpecsOK Try.prog (addE f g sp) := by
  intro k M S hk
  unfold addE at hk
  split at hk
  · rename_i e
    have := Nat.eq_of_beq_eq_true e
    subst this
    cases hk
    exact h
  · exact hs k M S hk

/-! within: n is from lo to hi -/
def gWithin : List A → Option (Prop × List RV)
  | [.d (.i .i64 n), .d (.i .i64 lo), .d (.i .i64 hi)] => some (True, [.d (.b (decide (lo ≤ n) && decide (n ≤ hi)))])
  | _ => none

set_option maxRecDepth 100000 in
theorem within_ok : SpecOK Try.prog 104 true (pureS gWithin) := by
  refine pure_ok (fn := Try.f104) (body := bodyOf Try.f104) mixed sp0_ok Try.func104 (by kernel_rfl) (by kernel_rfl) fun as_ ob rs h ho => ?_
  unfold gWithin at h
  split at h
  · rename_i n lo hi
    cases h
    refine ⟨Nat.le_of_ble_eq_true rfl, 0, fun _ _ _ => none, ?_⟩
    refine Eq.mp (by kernel_rfl : (Br (decide (lo ≤ n)) (Ob True ∧ Ob (decide (n ≤ hi) = (decide (lo ≤ n) && decide (n ≤ hi))) ∧ True) (Ob True ∧ Ob (false = (decide (lo ≤ n) && decide (n ≤ hi))) ∧ True)) = _) ?_
    simp only [Br_iff, Ob_iff]
    exact ⟨fun h => by simp [h], fun h => by simp [h]⟩
  · cases h
end Go.Sx06
