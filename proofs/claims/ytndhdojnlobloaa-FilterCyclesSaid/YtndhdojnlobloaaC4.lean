/- Contracts of the functions of sections and polynomials. -/
import Derived.Test.YtndhdojnlobloaaC3
set_option linter.unusedSectionVars false
set_option linter.unusedSimpArgs false
set_option linter.unusedVariables false
namespace Go.Sx06
open Go Go.Proofs Go.RowKit Go.Sx

/-- A section's numbers are within the limits. -/
def secB (b0 b1 b2 a0 a1 : Int) : Bool := [b0, b1, b2, a0, a1].all partB
def roomS (a0 a1 : Int) : Int := 16384 - max a0 (-a0) - max a1 (-a1)
def inS (b0 b1 b2 : Int) : Int := max b0 (-b0) + max b1 (-b1) + max b2 (-b2)
def boundS (b0 b1 b2 a0 a1 most : Int) : Int := if roomS a0 a1 ≤ 0 then 0 else min 32767 ((inS b0 b1 b2 * most + 8192) / roomS a0 a1)

theorem wr {n : Int} (h1 : -9223372036854775808 ≤ n) (h2 : n ≤ 9223372036854775807) : IntKind.i64.wrap n = n := IntWalk.i64_in n ⟨h1, h2⟩
theorem partB_iff {n : Int} : partB n = true ↔ -32768 ≤ n ∧ n ≤ 32768 := by simp [partB]
theorem secB_iff {b0 b1 b2 a0 a1 : Int} : secB b0 b1 b2 a0 a1 = true ↔ (-32768 ≤ b0 ∧ b0 ≤ 32768) ∧ (-32768 ≤ b1 ∧ b1 ≤ 32768) ∧ (-32768 ≤ b2 ∧ b2 ≤ 32768) ∧ (-32768 ≤ a0 ∧ a0 ≤ 32768) ∧ (-32768 ≤ a1 ∧ a1 ≤ 32768) := by
  simp [secB, partB_iff]

/-! stable: is a section stable? -/
def gStable : List A → Option (Prop × List RV)
  | [.s [.i .i64 b0, .i .i64 b1, .i .i64 b2, .i .i64 a0, .i .i64 a1]] => some (secB b0 b1 b2 a0 a1 = true, [.d (.b (decide (max a1 (-a1) < 16384) && decide (max a0 (-a0) < 16384 + a1)))])
  | _ => none

set_option maxRecDepth 100000 in
theorem stable_vc (b0 b1 b2 a0 a1 : Int) (ho : secB b0 b1 b2 a0 a1 = true) : runF Try.f106 (addS 105 gSize sp0) (fun _ _ => none) 0 [.s [.i .i64 b0, .i .i64 b1, .i .i64 b2, .i .i64 a0, .i .i64 a1]] [.d (.b (decide (max a1 (-a1) < 16384) && decide (max a0 (-a0) < 16384 + a1)))] := by
  refine Eq.mp (by kernel_rfl : (
       Ob ((0 : Int) ≤ (1 : Int) ∧ (1 : Int) < (↑(2 : Nat) : Int)) ∧
       Ob ((-9223372036854775807 : Int) ≤ a1 ∧ a1 ≤ (9223372036854775807 : Int)) ∧
       Br (decide (max a1 (-a1) < (16384 : Int)))
       (Ob ((0 : Int) ≤ (0 : Int) ∧ (0 : Int) < (↑(2 : Nat) : Int)) ∧
       Ob ((-9223372036854775807 : Int) ≤ a0 ∧ a0 ≤ (9223372036854775807 : Int)) ∧
       Ob ((0 : Int) ≤ (1 : Int) ∧ (1 : Int) < (↑(2 : Nat) : Int)) ∧
       Ob True ∧
       Ob
       (decide (max a0 (-a0) < IntKind.i64.wrap ((16384 : Int) + a1)) =
       (decide (max a1 (-a1) < (16384 : Int)) && decide (max a0 (-a0) < (16384 : Int) + a1))) ∧
       True)
       (Ob True ∧
       Ob (false = (decide (max a1 (-a1) < (16384 : Int)) && decide (max a0 (-a0) < (16384 : Int) + a1))) ∧ True)) = _) ?_
  have h := secB_iff.1 ho
  simp only [Ob_iff, Br_iff, decide_eq_true_eq, decide_eq_false_iff_not, true_and, and_true]
  rw [wr (by omega) (by omega)]
  refine ⟨by decide, by omega, fun h1 => ⟨by decide, by omega, by decide, ?_⟩, fun h1 => ?_⟩
  · simp [h1]
  · simp [h1]

set_option maxRecDepth 100000 in
theorem stable_ok : SpecOK Try.prog 106 true (pureS gStable) := by
  refine pure_ok (sp := (addS 105 gSize sp0)) (fn := Try.f106) (body := bodyOf Try.f106) mixed (addS_ok size_ok sp0_ok) Try.func106 (by kernel_rfl) (by kernel_rfl) fun as_ ob rs h ho => ?_
  unfold gStable at h
  split at h
  · rename_i b0 b1 b2 a0 a1
    cases h
    exact ⟨Nat.le_of_ble_eq_true rfl, _, _, stable_vc b0 b1 b2 a0 a1 ho⟩
  · cases h

/-! bound: the bound of a section -/
def gBound : List A → Option (Prop × List RV)
  | [.s [.i .i64 b0, .i .i64 b1, .i .i64 b2, .i .i64 a0, .i .i64 a1], .d (.i .i64 most)] => some (secB b0 b1 b2 a0 a1 = true ∧ 0 ≤ most ∧ most ≤ 32767, [.d (.i .i64 (boundS b0 b1 b2 a0 a1 most)), .d (.b (decide (0 < roomS a0 a1)))])
  | _ => none

set_option maxRecDepth 100000 in
theorem bound_vc (b0 b1 b2 a0 a1 most : Int) (ho : secB b0 b1 b2 a0 a1 = true ∧ 0 ≤ most ∧ most ≤ 32767) : runF Try.f89 (addS 105 gSize (addS 125 gFloor sp0)) (fun _ _ => none) 0 [.s [.i .i64 b0, .i .i64 b1, .i .i64 b2, .i .i64 a0, .i .i64 a1], .d (.i .i64 most)] [.d (.i .i64 (boundS b0 b1 b2 a0 a1 most)), .d (.b (decide (0 < roomS a0 a1)))] := by
  refine Eq.mp (by kernel_rfl : (
       Ob ((0 : Int) ≤ (0 : Int) ∧ (0 : Int) < (↑(2 : Nat) : Int)) ∧
       Ob ((-9223372036854775807 : Int) ≤ a0 ∧ a0 ≤ (9223372036854775807 : Int)) ∧
       Ob ((0 : Int) ≤ (1 : Int) ∧ (1 : Int) < (↑(2 : Nat) : Int)) ∧
       Ob ((-9223372036854775807 : Int) ≤ a1 ∧ a1 ≤ (9223372036854775807 : Int)) ∧
       Br (decide (IntKind.i64.wrap (IntKind.i64.wrap ((16384 : Int) - max a0 (-a0)) - max a1 (-a1)) ≤ (0 : Int)))
       (Ob True ∧
       Ob True ∧
       Ob ((0 : Int) = boundS b0 b1 b2 a0 a1 most) ∧ Ob (false = decide ((0 : Int) < roomS a0 a1)) ∧ True)
       (Ob ((0 : Int) ≤ (0 : Int) ∧ (0 : Int) < (↑(3 : Nat) : Int)) ∧
       Ob ((-9223372036854775807 : Int) ≤ b0 ∧ b0 ≤ (9223372036854775807 : Int)) ∧
       Ob ((0 : Int) ≤ (1 : Int) ∧ (1 : Int) < (↑(3 : Nat) : Int)) ∧
       Ob ((-9223372036854775807 : Int) ≤ b1 ∧ b1 ≤ (9223372036854775807 : Int)) ∧
       Ob ((0 : Int) ≤ (2 : Int) ∧ (2 : Int) < (↑(3 : Nat) : Int)) ∧
       Ob ((-9223372036854775807 : Int) ≤ b2 ∧ b2 ≤ (9223372036854775807 : Int)) ∧
       Ob
       ((-9223372036854775807 : Int) ≤
       IntKind.i64.wrap
       (IntKind.i64.wrap
       (IntKind.i64.wrap
       (IntKind.i64.wrap (max b0 (-b0) + max b1 (-b1)) + max b2 (-b2)) *
       most) +
       (8192 : Int)) ∧
       IntKind.i64.wrap
       (IntKind.i64.wrap
       (IntKind.i64.wrap
       (IntKind.i64.wrap (max b0 (-b0) + max b1 (-b1)) + max b2 (-b2)) *
       most) +
       (8192 : Int)) ≤
       (9223372036854775807 : Int) ∧
       (0 : Int) <
       IntKind.i64.wrap (IntKind.i64.wrap ((16384 : Int) - max a0 (-a0)) - max a1 (-a1)) ∧
       IntKind.i64.wrap (IntKind.i64.wrap ((16384 : Int) - max a0 (-a0)) - max a1 (-a1)) ≤
       (9223372036854775807 : Int)) ∧
       Ob True ∧
       Ob True ∧
       Ob
       ((if
       IntKind.i64.wrap
       (IntKind.i64.wrap
       (IntKind.i64.wrap
       (IntKind.i64.wrap (max b0 (-b0) + max b1 (-b1)) + max b2 (-b2)) *
       most) +
       (8192 : Int)) /
       IntKind.i64.wrap
       (IntKind.i64.wrap ((16384 : Int) - max a0 (-a0)) - max a1 (-a1)) <
       (32767 : Int) then
       IntKind.i64.wrap
       (IntKind.i64.wrap
       (IntKind.i64.wrap
       (IntKind.i64.wrap (max b0 (-b0) + max b1 (-b1)) + max b2 (-b2)) *
       most) +
       (8192 : Int)) /
       IntKind.i64.wrap
       (IntKind.i64.wrap ((16384 : Int) - max a0 (-a0)) - max a1 (-a1))
       else (32767 : Int)) =
       boundS b0 b1 b2 a0 a1 most) ∧
       Ob (true = decide ((0 : Int) < roomS a0 a1)) ∧ True)) = _) ?_
  obtain ⟨hs, hm0, hm1⟩ := ho
  have h := secB_iff.1 hs
  have e1 : IntKind.i64.wrap (IntKind.i64.wrap (16384 - max a0 (-a0)) - max a1 (-a1)) = roomS a0 a1 := by unfold roomS; rw [wr (n := 16384 - max a0 (-a0)) (by omega) (by omega), wr (by omega) (by omega)]
  have e2 : IntKind.i64.wrap (IntKind.i64.wrap (max b0 (-b0) + max b1 (-b1)) + max b2 (-b2)) = inS b0 b1 b2 := by unfold inS; rw [wr (n := max b0 (-b0) + max b1 (-b1)) (by omega) (by omega), wr (by omega) (by omega)]
  have i1 : 0 ≤ inS b0 b1 b2 ∧ inS b0 b1 b2 ≤ 98304 := by unfold inS; omega
  have i2 : roomS a0 a1 ≤ 16384 := by unfold roomS; omega
  have i3 : 0 ≤ inS b0 b1 b2 * most ∧ inS b0 b1 b2 * most ≤ 98304 * 32767 := ⟨Int.mul_nonneg i1.1 hm0, Int.mul_le_mul i1.2 hm1 hm0 (by omega)⟩
  have e3 : IntKind.i64.wrap (IntKind.i64.wrap (inS b0 b1 b2 * most) + 8192) = inS b0 b1 b2 * most + 8192 := by rw [wr (n := inS b0 b1 b2 * most) (by omega) (by omega), wr (by omega) (by omega)]
  simp only [e1, e2, e3, Ob_iff, Br_iff, decide_eq_true_eq, decide_eq_false_iff_not, true_and, and_true]
  refine ⟨by decide, by omega, by decide, by omega, fun h1 => ⟨?_, ?_⟩, fun h1 => ⟨by decide, by omega, by decide, by omega, by decide, by omega, by omega, ?_, ?_⟩⟩
  · unfold boundS; rw [if_pos h1]
  · symm; simpa using h1
  · unfold boundS
    rw [if_neg h1]
    split <;> omega
  · symm; simpa using h1

set_option maxRecDepth 100000 in
theorem bound_ok : SpecOK Try.prog 89 true (pureS gBound) := by
  refine pure_ok (sp := (addS 105 gSize (addS 125 gFloor sp0))) (fn := Try.f89) (body := bodyOf Try.f89) mixed (addS_ok size_ok (addS_ok floor_ok sp0_ok)) Try.func89 (by kernel_rfl) (by kernel_rfl) fun as_ ob rs h ho => ?_
  unfold gBound at h
  split at h
  · rename_i b0 b1 b2 a0 a1 most
    cases h
    exact ⟨Nat.le_of_ble_eq_true rfl, _, _, bound_vc b0 b1 b2 a0 a1 most ho⟩
  · cases h

/-! leads: is the first number above the last one in size? -/
def gLeads : List A → Option (Prop × List RV)
  | [.r (.ints .i64 l)] => some (0 < l.length ∧ l.length ≤ 1000000 ∧ ∀ x ∈ l, -4611686018427387904 ≤ x ∧ x ≤ 4611686018427387904, [.d (.b (decide (max (l.getD (l.length - 1) 0) (-(l.getD (l.length - 1) 0)) < max (l.getD 0 0) (-(l.getD 0 0)))))])
  | _ => none

set_option maxRecDepth 100000 in
theorem leads_vc (l : List Int) (ho : 0 < l.length ∧ l.length ≤ 1000000 ∧ ∀ x ∈ l, -4611686018427387904 ≤ x ∧ x ≤ 4611686018427387904) : runF Try.f83 (addS 105 gSize sp0) (fun _ _ => none) 0 [.r (.ints .i64 l)] [.d (.b (decide (max (l.getD (l.length - 1) 0) (-(l.getD (l.length - 1) 0)) < max (l.getD 0 0) (-(l.getD 0 0)))))] := by
  refine Eq.mp (by kernel_rfl : (
       Ob ((0 : Int) ≤ (0 : Int) ∧ (0 : Int) < (↑l.length : Int)) ∧
       Ob ((0 : Nat) < l.length) ∧
       Ob
       ((-9223372036854775807 : Int) ≤ l.getD (0 : Nat) (0 : Int) ∧
       l.getD (0 : Nat) (0 : Int) ≤ (9223372036854775807 : Int)) ∧
       Ob
       ((0 : Int) ≤ IntKind.i64.wrap ((↑l.length : Int) - (1 : Int)) ∧
       IntKind.i64.wrap ((↑l.length : Int) - (1 : Int)) < (↑l.length : Int)) ∧
       Ob ((IntKind.i64.wrap ((↑l.length : Int) - (1 : Int))).toNat < l.length) ∧
       Ob
       ((-9223372036854775807 : Int) ≤
       l.getD (IntKind.i64.wrap ((↑l.length : Int) - (1 : Int))).toNat (0 : Int) ∧
       l.getD (IntKind.i64.wrap ((↑l.length : Int) - (1 : Int))).toNat (0 : Int) ≤
       (9223372036854775807 : Int)) ∧
       Ob True ∧
       Ob
       (decide
       (max (l.getD (0 : Nat) (0 : Int)) (-l.getD (0 : Nat) (0 : Int)) >
       max (l.getD (IntKind.i64.wrap ((↑l.length : Int) - (1 : Int))).toNat (0 : Int))
       (-l.getD (IntKind.i64.wrap ((↑l.length : Int) - (1 : Int))).toNat (0 : Int))) =
       decide
       (max (l.getD (l.length - (1 : Nat)) (0 : Int)) (-l.getD (l.length - (1 : Nat)) (0 : Int)) <
       max (l.getD (0 : Nat) (0 : Int)) (-l.getD (0 : Nat) (0 : Int)))) ∧
       True) = _) ?_
  obtain ⟨h0, h1, h2⟩ := ho
  have e1 : IntKind.i64.wrap ((l.length : Int) - 1) = ((l.length - 1 : Nat) : Int) := by rw [wr (by omega) (by omega)]; omega
  have e2 : ((l.length - 1 : Nat) : Int).toNat = l.length - 1 := rfl
  have b0 := h2 (l.getD 0 0) (by simp [List.getD, h0])
  have b1 := h2 (l.getD (l.length - 1) 0) (by simp [List.getD, show l.length - 1 < l.length by omega])
  simp only [e1, e2, Ob_iff, and_true, gt_iff_lt]
  exact ⟨by omega, h0, by omega, by omega, by omega, by omega⟩

set_option maxRecDepth 100000 in
theorem leads_ok : SpecOK Try.prog 83 true (pureS gLeads) := by
  refine pure_ok (sp := (addS 105 gSize sp0)) (fn := Try.f83) (body := bodyOf Try.f83) mixed (addS_ok size_ok sp0_ok) Try.func83 (by kernel_rfl) (by kernel_rfl) fun as_ ob rs h ho => ?_
  unfold gLeads at h
  split at h
  · rename_i l
    cases h
    exact ⟨Nat.le_of_ble_eq_true rfl, _, _, leads_vc l ho⟩
  · cases h

end Go.Sx06
