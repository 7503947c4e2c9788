/- Contracts of the functions of polynomials. -/
import Derived.Test.YtndhdojnlobloaaC4
set_option linter.unusedSectionVars false
set_option linter.unusedSimpArgs false
set_option linter.unusedVariables false
namespace Go.Sx06
open Go Go.Proofs Go.RowKit Go.Sx

set_option linter.unusedVariables false
def smallB (n : Int) : Bool := decide (-100 ≤ n) && decide (n ≤ 100)
/-- The error of a polynomial. -/
def polyE (l : List Int) : Int := if ¬ (2 ≤ l.length ∧ l.length ≤ 5) then 10 else if l.any (fun x => !smallB x) = true then 2 else if l.getD 0 0 ≤ 0 then 11 else 0
/-- A number of the step down. -/
def downD (l : List Int) (k : Nat) : Int := l.getD 0 0 * l.getD k 0 - l.getD (l.length - 1) 0 * l.getD (l.length - 1 - k) 0
def downP (l : List Int) (k : Nat) : List Int := (List.range (l.length - 1)).map fun j => if j < k then downD l j else 0
def downS (l : List Int) : List Int := (List.range (l.length - 1)).map (downD l)
/-- The number of the first one that is too great, or -1. -/
def idxS (l : List Int) : Int := match l.findIdx? (fun x => !smallB x) with
  | some i => (i : Int)
  | none => -1
theorem idxS_at {l : List Int} {x : Nat} (h : ∀ y ∈ l.take x, smallB y = true) (hx : x < l.length) (h4 : smallB (l.getD x 0) = false) : idxS l = (x : Int) := by
  unfold idxS
  have : l.findIdx? (fun x => !smallB x) = some x := by
    rw [List.findIdx?_eq_some_iff_getElem]
    refine ⟨hx, by simpa [List.getD, hx] using h4, fun j hj => ?_⟩
    have hjl : j < l.length := by omega
    have := h l[j] (List.mem_take_iff_getElem.2 ⟨j, by omega, rfl⟩)
    simp [this]
  rw [this]
theorem idxS_none {l : List Int} (h : ∀ y ∈ l, smallB y = true) : idxS l = -1 := by
  unfold idxS
  rw [List.findIdx?_eq_none_iff.2 (fun y hy => by simp [h y hy])]
theorem idxS_any (l : List Int) : decide (idxS l ≥ 0) = l.any (fun x => !smallB x) := by
  unfold idxS
  cases h : l.findIdx? (fun x => !smallB x) with
  | none =>
    rw [List.findIdx?_eq_none_iff] at h
    have : l.any (fun x => !smallB x) = false := by
      rw [List.any_eq_false]
      intro y hy
      simpa using h y hy
    rw [this]
    rfl
  | some i =>
    rw [List.findIdx?_eq_some_iff_getElem] at h
    obtain ⟨hi, h1, _⟩ := h
    have : l.any (fun x => !smallB x) = true := List.any_eq_true.2 ⟨l[i], List.getElem_mem _, h1⟩
    rw [this]
    simp
theorem getD_mem {l : List Int} {i : Nat} (h : i < l.length) : l.getD i 0 ∈ l := by simp [List.getD, h]
theorem mul_small {x y : Int} (hx : -2147483647 ≤ x ∧ x ≤ 2147483647) (hy : -2147483647 ≤ y ∧ y ≤ 2147483647) : -4611686018427387903 ≤ x * y ∧ x * y ≤ 4611686018427387903 := by
  have h1 : (x * y).natAbs ≤ 2147483647 * 2147483647 := by
    rw [Int.natAbs_mul]
    exact Nat.mul_le_mul (by omega) (by omega)
  omega

/-! polyTest: is a number too great? -/
def gPolyTest : List A → Option (Prop × List RV)
  | [.d (.i .i64 n)] => some (True, [.d (.b (!smallB n))])
  | _ => none

set_option maxRecDepth 100000 in
theorem polyTest_vc (n : Int) : runF Try.f124 (addS 91 gSmall sp0) (fun _ _ => none) 0 [.d (.i .i64 n)] [.d (.b (!smallB n))] := by
  refine Eq.mp (by kernel_rfl : (
       Ob ((-9223372036854775807 : Int) ≤ (100 : Int) ∧ (100 : Int) ≤ (9223372036854775807 : Int)) ∧
       Ob True ∧ Ob ((!(decide ((-100 : Int) ≤ n) && decide (n ≤ (100 : Int)))) = !smallB n) ∧ True) = _) ?_
  exact ⟨⟨by decide⟩, ⟨trivial⟩, ⟨rfl⟩, trivial⟩

set_option maxRecDepth 100000 in
theorem polyTest_ok : SpecOK Try.prog 124 true (pureS gPolyTest) := by
  refine pure_ok (sp := (addS 91 gSmall sp0)) (fn := Try.f124) (body := bodyOf Try.f124) mixed (addS_ok small_ok sp0_ok) Try.func124 (by kernel_rfl) (by kernel_rfl) fun as_ ob rs h ho => ?_
  unfold gPolyTest at h
  split at h
  · rename_i n
    cases h
    exact ⟨Nat.le_of_ble_eq_true rfl, _, _, polyTest_vc n⟩
  · cases h

/-! indexFunc: the first number that is too great -/
def gIndexFunc : List A → Option (Prop × List RV)
  | [.r (.ints .i64 l), .f 124] => some (l.length ≤ 1000000, [.d (.i .i64 (idxS l))])
  | _ => none

set_option maxRecDepth 100000 in
theorem indexFunc_vc (l : List Int) (ho : l.length ≤ 1000000) : runF Try.f134 (addS 124 gPolyTest sp0) (fun id _ => match id with | 0 => some ⟨Nat, fun i => ⟨[(8, vi .i64 i), (7, vi .i64 l.length), (6, .w (.c (.o 0))), (4, vi .i64 0), (0, .w (.c (.o 0))), (1, .w (.c (.fn 124 [])))], [(0, .ext (.ints .i64 l))], 2⟩, fun i => i ≤ l.length ∧ ∀ x ∈ l.take i, smallB x = true, fun i => l.length - i⟩ | _ => none) 0 [.r (.ints .i64 l), .f 124] [.d (.i .i64 (idxS l))] := by
  refine Eq.mp (by kernel_rfl : (
       (∃ x,
       Ob (x ≤ l.length ∧ ∀ (x_1 : Int), x_1 ∈ List.take x l → smallB x_1 = true) ∧
       Ob ((0 : Int) = (↑x : Int)) ∧
       Ob ((↑l.length : Int) = (↑l.length : Int)) ∧ Ob ((0 : Int) = (0 : Int)) ∧ Ob (l = l) ∧ True) ∧
       ∀ (x : Nat),
       (x ≤ l.length ∧ ∀ (x_1 : Int), x_1 ∈ List.take x l → smallB x_1 = true) →
       Br (decide ((↑x : Int) < (↑l.length : Int)))
       (Ob ((0 : Int) ≤ (↑x : Int) ∧ (↑x : Int) < (↑l.length : Int)) ∧
       Ob ((↑x : Int).toNat < l.length) ∧
       Ob True ∧
       Br (!smallB (l.getD (↑x : Int).toNat (0 : Int))) (Ob True ∧ Ob ((↑x : Int) = idxS l) ∧ True)
       (∃ x',
       Ob (x' ≤ l.length ∧ ∀ (x : Int), x ∈ List.take x' l → smallB x = true) ∧
       Ob (l.length - x' < l.length - x) ∧
       Ob (IntKind.i64.wrap ((↑x : Int) + (1 : Int)) = (↑x' : Int)) ∧
       Ob ((↑l.length : Int) = (↑l.length : Int)) ∧ Ob ((0 : Int) = (0 : Int)) ∧ Ob (l = l) ∧ True))
       (Ob True ∧ Ob ((-1 : Int) = idxS l) ∧ True)) = _) ?_
  simp only [Ob_iff, Br_iff, decide_eq_true_eq, decide_eq_false_iff_not, true_and, and_true]
  refine ⟨⟨0, ⟨by omega, fun x hx => by simp at hx⟩, rfl⟩, fun x ⟨h1, h2⟩ => ⟨fun h3 => ⟨by omega, by omega, fun h4 => ?_, fun h4 => ⟨x + 1, ⟨by omega, ?_⟩, by omega, ?_⟩⟩, fun h3 => ?_⟩⟩
  · exact (idxS_at h2 (by omega) (by simpa using h4)).symm
  · intro y hy
    rw [List.take_succ_eq_append_getElem (by omega)] at hy
    rcases List.mem_append.1 hy with hy | hy
    · exact h2 y hy
    · simp only [List.mem_singleton] at hy
      subst hy
      simpa [List.getD, show x < l.length by omega] using h4
  · rw [wr (by omega) (by omega)]
    omega
  · have e : x = l.length := by omega
    rw [e, List.take_length] at h2
    exact (idxS_none h2).symm

set_option maxRecDepth 100000 in
theorem indexFunc_ok : SpecOK Try.prog 134 true (pureS gIndexFunc) := by
  refine pure_ok (sp := (addS 124 gPolyTest sp0)) (fn := Try.f134) (body := bodyOf Try.f134) mixed (addS_ok polyTest_ok sp0_ok) Try.func134 (by kernel_rfl) (by kernel_rfl) fun as_ ob rs h ho => ?_
  unfold gIndexFunc at h
  split at h
  · rename_i l
    cases h
    exact ⟨Nat.le_of_ble_eq_true rfl, _, _, indexFunc_vc l ho⟩
  · cases h

/-! containsFunc: is a number too great? -/
def gContainsFunc : List A → Option (Prop × List RV)
  | [.r (.ints .i64 l), .f 124] => some (l.length ≤ 1000000, [.d (.b (l.any (fun x => !smallB x)))])
  | _ => none

set_option maxRecDepth 100000 in
theorem containsFunc_vc (l : List Int) (ho : l.length ≤ 1000000) : runF Try.f123 (addS 134 gIndexFunc sp0) (fun _ _ => none) 0 [.r (.ints .i64 l), .f 124] [.d (.b (l.any (fun x => !smallB x)))] := by
  refine Eq.mp (by kernel_rfl : (
       Ob (l.length ≤ (1000000 : Nat)) ∧ Ob True ∧ Ob (decide (idxS l ≥ (0 : Int)) = l.any fun x => !smallB x) ∧ True) = _) ?_
  exact ⟨⟨ho⟩, ⟨trivial⟩, ⟨idxS_any l⟩, trivial⟩

set_option maxRecDepth 100000 in
theorem containsFunc_ok : SpecOK Try.prog 123 true (pureS gContainsFunc) := by
  refine pure_ok (sp := (addS 134 gIndexFunc sp0)) (fn := Try.f123) (body := bodyOf Try.f123) mixed (addS_ok indexFunc_ok sp0_ok) Try.func123 (by kernel_rfl) (by kernel_rfl) fun as_ ob rs h ho => ?_
  unfold gContainsFunc at h
  split at h
  · rename_i l
    cases h
    exact ⟨Nat.le_of_ble_eq_true rfl, _, _, containsFunc_vc l ho⟩
  · cases h

/-! polyErr: the error of a polynomial -/
def gPolyErr : List A → Option (Prop × List RV)
  | [.r (.ints .i64 l)] => some (l.length ≤ 1000000000000, [.d (.i .i64 (polyE l))])
  | _ => none

set_option maxRecDepth 100000 in
theorem polyErr_vc (l : List Int) (ho : l.length ≤ 1000000000000) : runF Try.f82 (addS 104 gWithin (addS 123 gContainsFunc sp0)) (fun _ _ => none) 0 [.r (.ints .i64 l)] [.d (.i .i64 (polyE l))] := by
  refine Eq.mp (by kernel_rfl : (
       Ob True ∧
       Br
       (!(decide ((1 : Int) ≤ IntKind.i64.wrap ((↑l.length : Int) - (1 : Int))) &&
       decide (IntKind.i64.wrap ((↑l.length : Int) - (1 : Int)) ≤ (4 : Int))))
       (Ob True ∧ Ob ((10 : Int) = polyE l) ∧ True)
       (Ob (l.length ≤ (1000000 : Nat)) ∧
       Br (l.any fun x => !smallB x) (Ob True ∧ Ob ((2 : Int) = polyE l) ∧ True)
       (Ob ((0 : Int) ≤ (0 : Int) ∧ (0 : Int) < (↑l.length : Int)) ∧
       Ob ((0 : Nat) < l.length) ∧
       Br (decide (l.getD (0 : Nat) (0 : Int) ≤ (0 : Int))) (Ob True ∧ Ob ((11 : Int) = polyE l) ∧ True)
       (Ob True ∧ Ob ((0 : Int) = polyE l) ∧ True)))) = _) ?_
  simp only [Ob_iff, Br_iff, decide_eq_true_eq, decide_eq_false_iff_not, true_and, and_true]
  rw [wr (by omega) (by omega)]
  have hlen : (!(decide (1 ≤ (l.length : Int) - 1) && decide ((l.length : Int) - 1 ≤ 4))) = true ↔ ¬ (2 ≤ l.length ∧ l.length ≤ 5) := by
    simp
    omega
  try rw [Int.toNat_zero]
  refine ⟨fun h => ?_, fun h => ?_⟩
  · unfold polyE
    rw [if_pos (hlen.1 h)]
  · have h1 : 2 ≤ l.length ∧ l.length ≤ 5 := by
      apply Classical.byContradiction
      intro hc
      rw [hlen.2 hc] at h
      cases h
    refine ⟨by omega, fun h2 => ?_, fun h2 => ⟨by omega, by omega, fun h3 => ?_, fun h3 => ?_⟩⟩ <;> unfold polyE <;> rw [if_neg (fun hc => hc h1)]
    · rw [if_pos h2]
    · rw [if_neg (by simp [h2]), if_pos h3]
    · rw [if_neg (by simp [h2]), if_neg h3]

set_option maxRecDepth 100000 in
theorem polyErr_ok : SpecOK Try.prog 82 true (pureS gPolyErr) := by
  refine pure_ok (sp := (addS 104 gWithin (addS 123 gContainsFunc sp0))) (fn := Try.f82) (body := bodyOf Try.f82) mixed (addS_ok within_ok (addS_ok containsFunc_ok sp0_ok)) Try.func82 (by kernel_rfl) (by kernel_rfl) fun as_ ob rs h ho => ?_
  unfold gPolyErr at h
  split at h
  · rename_i l
    cases h
    exact ⟨Nat.le_of_ble_eq_true rfl, _, _, polyErr_vc l ho⟩
  · cases h

/-! down: the step down -/
def gDown : List A → Option (Prop × List RV)
  | [.r (.ints .i64 l)] => some (1 ≤ l.length ∧ l.length ≤ 1000000 ∧ ∀ x ∈ l, -2147483647 ≤ x ∧ x ≤ 2147483647, [.row 3 (.ints .i64 (downS l))])
  | _ => none

set_option maxRecDepth 100000 in
theorem down_vc (l : List Int) (ho : 1 ≤ l.length ∧ l.length ≤ 1000000 ∧ ∀ x ∈ l, -2147483647 ≤ x ∧ x ≤ 2147483647) : runF Try.f84 sp0 (fun id _ => match id with | 0 => some ⟨Nat, fun i => ⟨[(13, vi .i64 i), (12, vi .i64 (l.length - 1 : Nat)), (11, .w (.c (.o 1))), (4, .w (.c (.o 1))), (3, vi .i64 (l.length - 1 : Nat)), (0, .w (.c (.o 0)))], [(1, .row 3 (.ints .i64 (downP l i))), (0, .ext (.ints .i64 l))], 2⟩, fun i => i ≤ l.length - 1, fun i => l.length - i⟩ | _ => none) 0 [.r (.ints .i64 l)] [.row 3 (.ints .i64 (downS l))] := by
  refine Eq.mp (by kernel_rfl : (
       Ob
       ((0 : Int) ≤ IntKind.i64.wrap ((↑l.length : Int) - (1 : Int)) ∧
       IntKind.i64.wrap ((↑l.length : Int) - (1 : Int)) = IntKind.i64.wrap ((↑l.length : Int) - (1 : Int)) ∧
       (↑(8 : Nat) : Int) * IntKind.i64.wrap ((↑l.length : Int) - (1 : Int)) ≤ (281474976710656 : Int) ∧
       IntKind.i64.wrap ((↑l.length : Int) - (1 : Int)) ≤ (9223372036854775807 : Int)) ∧
       (∃ x,
       Ob (x ≤ l.length - (1 : Nat)) ∧
       Ob ((0 : Int) = (↑x : Int)) ∧
       Ob
       ((↑(List.replicate (IntKind.i64.wrap ((↑l.length : Int) - (1 : Int))).toNat (0 : Int)).length : Int) =
       (↑(l.length - (1 : Nat)) : Int)) ∧
       Ob (IntKind.i64.wrap ((↑l.length : Int) - (1 : Int)) = (↑(l.length - (1 : Nat)) : Int)) ∧
       Ob (List.replicate (IntKind.i64.wrap ((↑l.length : Int) - (1 : Int))).toNat (0 : Int) = downP l x) ∧
       Ob (l = l) ∧ True) ∧
       ∀ (x : Nat),
       x ≤ l.length - (1 : Nat) →
       Br (decide ((↑x : Int) < (↑(l.length - (1 : Nat)) : Int)))
       (Ob ((0 : Int) ≤ (0 : Int) ∧ (0 : Int) < (↑l.length : Int)) ∧
       Ob ((0 : Nat) < l.length) ∧
       Ob ((0 : Int) ≤ (↑x : Int) ∧ (↑x : Int) < (↑l.length : Int)) ∧
       Ob ((↑x : Int).toNat < l.length) ∧
       Ob
       ((0 : Int) ≤ (↑(l.length - (1 : Nat)) : Int) ∧
       (↑(l.length - (1 : Nat)) : Int) < (↑l.length : Int)) ∧
       Ob ((↑(l.length - (1 : Nat)) : Int).toNat < l.length) ∧
       Ob
       ((0 : Int) ≤ IntKind.i64.wrap ((↑(l.length - (1 : Nat)) : Int) - (↑x : Int)) ∧
       IntKind.i64.wrap ((↑(l.length - (1 : Nat)) : Int) - (↑x : Int)) < (↑l.length : Int)) ∧
       Ob ((IntKind.i64.wrap ((↑(l.length - (1 : Nat)) : Int) - (↑x : Int))).toNat < l.length) ∧
       Ob ((0 : Int) ≤ (↑x : Int) ∧ (↑x : Int) < (↑(downP l x).length : Int)) ∧
       Ob ((↑x : Int).toNat < (downP l x).length) ∧
       ∃ x',
       Ob (x' ≤ l.length - (1 : Nat)) ∧
       Ob (l.length - x' < l.length - x) ∧
       Ob (IntKind.i64.wrap ((↑x : Int) + (1 : Int)) = (↑x' : Int)) ∧
       Ob ((↑(l.length - (1 : Nat)) : Int) = (↑(l.length - (1 : Nat)) : Int)) ∧
       Ob ((↑(l.length - (1 : Nat)) : Int) = (↑(l.length - (1 : Nat)) : Int)) ∧
       Ob
       ((downP l x).set (↑x : Int).toNat
       (IntKind.i64.wrap
       (IntKind.i64.wrap
       (l.getD (0 : Nat) (0 : Int) *
       l.getD (↑x : Int).toNat (0 : Int)) -
       IntKind.i64.wrap
       (l.getD (↑(l.length - (1 : Nat)) : Int).toNat (0 : Int) *
       l.getD
       (IntKind.i64.wrap
       ((↑(l.length - (1 : Nat)) : Int) - (↑x : Int))).toNat
       (0 : Int)))) =
       downP l x') ∧
       Ob (l = l) ∧ True)
       (Ob True ∧ Ob (downP l x = downS l) ∧ True)) = _) ?_
  obtain ⟨h0, hL, hx⟩ := ho
  have e1 : IntKind.i64.wrap ((l.length : Int) - 1) = ((l.length - 1 : Nat) : Int) := by rw [wr (by omega) (by omega)]; omega
  have e2 : ∀ x : Nat, x ≤ l.length - 1 → IntKind.i64.wrap (((l.length - 1 : Nat) : Int) - (x : Int)) = ((l.length - 1 - x : Nat) : Int) := fun x h => by rw [wr (by omega) (by omega)]; omega
  have dlen : ∀ x, (downP l x).length = l.length - 1 := fun x => by simp [downP]
  simp only [e1, Int.toNat_natCast, List.length_replicate, Ob_iff, Br_iff, decide_eq_true_eq, decide_eq_false_iff_not, true_and, and_true, dlen]
  refine ⟨by omega, ⟨0, by omega, rfl, ?_⟩, fun x h1 => ⟨fun h2 => ?_, fun h2 => ?_⟩⟩
  · apply List.ext_getElem
    · simp [downP]
    · intro i h1 h2
      simp [downP]
  · rw [e2 x h1]
    refine ⟨by omega, by omega, by omega, by omega, by omega, by omega, by omega, by omega, by omega, by omega, x + 1, by omega, by omega, ?_, ?_⟩
    · rw [wr (by omega) (by omega)]
      omega
    · have b0 := hx _ (getD_mem (show 0 < l.length by omega))
      have b1 := hx _ (getD_mem (show x < l.length by omega))
      have b2 := hx _ (getD_mem (show l.length - 1 < l.length by omega))
      have b3 := hx _ (getD_mem (show l.length - 1 - x < l.length by omega))
      have m1 := mul_small b0 b1
      have m2 := mul_small b2 b3
      rw [Int.toNat_natCast, wr (n := l.getD 0 0 * l.getD x 0) (by omega) (by omega), wr (n := l.getD (l.length - 1) 0 * l.getD (l.length - 1 - x) 0) (by omega) (by omega), wr (by omega) (by omega)]
      apply List.ext_getElem
      · simp [downP]
      · intro i h3 h4
        simp only [downP, List.length_set, List.length_map, List.length_range] at h3
        rw [List.getElem_set]
        by_cases e : x = i
        · subst e
          simp [downP, downD]
        · have : i < x + 1 ↔ i < x := by omega
          simp [downP, e, this]
  · have e : x = l.length - 1 := by omega
    subst e
    apply List.ext_getElem
    · simp [downP, downS]
    · intro i h3 h4
      simp only [downP, List.length_map, List.length_range] at h3
      simp [downP, downS, h3]

set_option maxRecDepth 100000 in
theorem down_ok : SpecOK Try.prog 84 true (pureS gDown) := by
  refine pure_ok (sp := sp0) (fn := Try.f84) (body := bodyOf Try.f84) mixed sp0_ok Try.func84 (by kernel_rfl) (by kernel_rfl) fun as_ ob rs h ho => ?_
  unfold gDown at h
  split at h
  · rename_i l
    cases h
    exact ⟨Nat.le_of_ble_eq_true rfl, _, _, down_vc l ho⟩
  · cases h

end Go.Sx06
