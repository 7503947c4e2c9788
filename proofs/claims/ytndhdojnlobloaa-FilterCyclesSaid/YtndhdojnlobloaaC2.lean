/- Contracts of the functions of numbers. -/
import Derived.Test.YtndhdojnlobloaaC1
import Derived.Test.YtndhdojnlobloaaP0
set_option linter.unusedSectionVars false
set_option linter.unusedSimpArgs false
set_option linter.unusedVariables false
namespace Go.Sx06
open Go Go.Proofs Go.RowKit Go.Sx

theorem find_at {l : List Int} {x : Nat} (h : ∀ y ∈ l.take x, y = 0) (hx : x < l.length) (h4 : l.getD x 0 ≠ 0) : (l.find? (fun x => x != 0)).getD 0 = l.getD x 0 := by
  have e : l = l.take x ++ l.drop x := (List.take_append_drop x l).symm
  have e2 : l.drop x = l.getD x 0 :: l.drop (x + 1) := by
    rw [List.drop_eq_getElem_cons hx]
    simp [List.getD, hx]
  have h5 : (l.getD x 0 != 0) = true := by simpa using h4
  generalize l.getD x 0 = v at *
  rw [e, e2, List.find?_append, List.find?_eq_none.2 (fun y hy => by simp [h y hy]), List.find?_cons, h5]
  rfl

/-! small: the size of n is at most another number -/
def gSmall : List A → Option (Prop × List RV)
  | [.d (.i .i64 n), .d (.i .i64 most)] => some (-9223372036854775807 ≤ most ∧ most ≤ 9223372036854775807, [.d (.b (decide (-most ≤ n) && decide (n ≤ most)))])
  | _ => none

set_option maxRecDepth 100000 in
theorem small_vc (n most : Int) (ho : -9223372036854775807 ≤ most ∧ most ≤ 9223372036854775807) : runF Try.f91 (addS 104 gWithin sp0) (fun _ _ => none) 0 [.d (.i .i64 n), .d (.i .i64 most)] [.d (.b (decide (-most ≤ n) && decide (n ≤ most)))] := by
  refine Eq.mp (by kernel_rfl : (
       Ob True ∧
       Ob True ∧
       Ob
       ((decide (IntKind.i64.wrap ((0 : Int) - most) ≤ n) && decide (n ≤ most)) =
       (decide (-most ≤ n) && decide (n ≤ most))) ∧
       True) = _) ?_
  simp only [Ob_iff]
  refine ⟨trivial, trivial, ?_, trivial⟩
  rw [IntWalk.i64_in _ (by omega), Int.zero_sub]

set_option maxRecDepth 100000 in
theorem small_ok : SpecOK Try.prog 91 true (pureS gSmall) := by
  refine pure_ok (sp := (addS 104 gWithin sp0)) (fn := Try.f91) (body := bodyOf Try.f91) mixed (addS_ok within_ok sp0_ok) Try.func91 (by kernel_rfl) (by kernel_rfl) fun as_ ob rs h ho => ?_
  unfold gSmall at h
  split at h
  · rename_i n most
    cases h
    exact ⟨Nat.le_of_ble_eq_true rfl, _, _, small_vc n most ho⟩
  · cases h

/-! size: a number without its sign -/
def gSize : List A → Option (Prop × List RV)
  | [.d (.i .i64 n)] => some (-9223372036854775807 ≤ n ∧ n ≤ 9223372036854775807, [.d (.i .i64 (max n (-n)))])
  | _ => none

set_option maxRecDepth 100000 in
theorem size_vc (n : Int) (ho : -9223372036854775807 ≤ n ∧ n ≤ 9223372036854775807) : runF Try.f105 sp0 (fun _ _ => none) 0 [.d (.i .i64 n)] [.d (.i .i64 (max n (-n)))] := by
  refine Eq.mp (by kernel_rfl : (
       Ob True ∧
       Ob ((if IntKind.i64.wrap ((0 : Int) - n) > n then IntKind.i64.wrap ((0 : Int) - n) else n) = max n (-n)) ∧ True) = _) ?_
  simp only [Ob_iff]
  refine ⟨trivial, ?_, trivial⟩
  rw [IntWalk.i64_in _ (by omega)]
  split <;> omega

set_option maxRecDepth 100000 in
theorem size_ok : SpecOK Try.prog 105 true (pureS gSize) := by
  refine pure_ok (sp := sp0) (fn := Try.f105) (body := bodyOf Try.f105) mixed sp0_ok Try.func105 (by kernel_rfl) (by kernel_rfl) fun as_ ob rs h ho => ?_
  unfold gSize at h
  split at h
  · rename_i n
    cases h
    exact ⟨Nat.le_of_ble_eq_true rfl, _, _, size_vc n ho⟩
  · cases h

/-! floor: divides, rounded down -/
def gFloor : List A → Option (Prop × List RV)
  | [.d (.i .i64 n), .d (.i .i64 b)] => some (-9223372036854775807 ≤ n ∧ n ≤ 9223372036854775807 ∧ 0 < b ∧ b ≤ 9223372036854775807, [.d (.i .i64 (n / b))])
  | _ => none

set_option maxRecDepth 100000 in
theorem floor_vc (n b : Int) (ho : -9223372036854775807 ≤ n ∧ n ≤ 9223372036854775807 ∧ 0 < b ∧ b ≤ 9223372036854775807) : runF Try.f125 sp0 (fun _ _ => none) 0 [.d (.i .i64 n), .d (.i .i64 b)] [.d (.i .i64 (n / b))] := by
  refine Eq.mp (by kernel_rfl : (
       Ob (b ≠ (0 : Int)) ∧
       Ob (b ≠ (0 : Int)) ∧
       Br (decide (n.tmod b < (0 : Int)))
       (Ob True ∧ Ob (IntKind.i64.wrap (IntKind.i64.wrap (n.tdiv b) - (1 : Int)) = n / b) ∧ True)
       (Ob True ∧ Ob (IntKind.i64.wrap (n.tdiv b) = n / b) ∧ True)) = _) ?_
  simp only [Ob_iff, Br_iff, decide_eq_true_eq, decide_eq_false_iff_not]
  have hb : 0 < b := ho.2.2.1
  have h1 := tdiv_bounds (n := n) hb
  have h2 := ediv_bounds (n := n) hb
  refine ⟨by omega, by omega, fun h => ⟨trivial, ?_, trivial⟩, fun h => ⟨trivial, ?_, trivial⟩⟩
  · rw [IntWalk.i64_in (n.tdiv b) (by omega), floor_neg hb h, IntWalk.i64_in _ (by omega)]
  · rw [IntWalk.i64_in (n.tdiv b) (by omega), floor_pos hb h]

set_option maxRecDepth 100000 in
theorem floor_ok : SpecOK Try.prog 125 true (pureS gFloor) := by
  refine pure_ok (sp := sp0) (fn := Try.f125) (body := bodyOf Try.f125) mixed sp0_ok Try.func125 (by kernel_rfl) (by kernel_rfl) fun as_ ob rs h ho => ?_
  unfold gFloor at h
  split at h
  · rename_i n b
    cases h
    exact ⟨Nat.le_of_ble_eq_true rfl, _, _, floor_vc n b ho⟩
  · cases h

/-! rounded: divides, rounded -/
def gRounded : List A → Option (Prop × List RV)
  | [.d (.i .i64 n), .d (.i .i64 b)] => some (-4611686018427387904 < 2 * n + b ∧ 2 * n + b < 4611686018427387904 ∧ 0 < b ∧ b < 4611686018427387904, [.d (.i .i64 ((2 * n + b) / (2 * b)))])
  | _ => none

set_option maxRecDepth 100000 in
theorem rounded_vc (n b : Int) (ho : -4611686018427387904 < 2 * n + b ∧ 2 * n + b < 4611686018427387904 ∧ 0 < b ∧ b < 4611686018427387904) : runF Try.f95 (addS 125 gFloor sp0) (fun _ _ => none) 0 [.d (.i .i64 n), .d (.i .i64 b)] [.d (.i .i64 ((2 * n + b) / (2 * b)))] := by
  refine Eq.mp (by kernel_rfl : (
       Ob
       ((-9223372036854775807 : Int) ≤ IntKind.i64.wrap (IntKind.i64.wrap ((2 : Int) * n) + b) ∧
       IntKind.i64.wrap (IntKind.i64.wrap ((2 : Int) * n) + b) ≤ (9223372036854775807 : Int) ∧
       (0 : Int) < IntKind.i64.wrap ((2 : Int) * b) ∧
       IntKind.i64.wrap ((2 : Int) * b) ≤ (9223372036854775807 : Int)) ∧
       Ob True ∧
       Ob
       (IntKind.i64.wrap (IntKind.i64.wrap ((2 : Int) * n) + b) / IntKind.i64.wrap ((2 : Int) * b) =
       ((2 : Int) * n + b) / ((2 : Int) * b)) ∧
       True) = _) ?_
  simp only [Ob_iff]
  have h1 : IntKind.i64.wrap (IntKind.i64.wrap (2 * n) + b) = 2 * n + b := by simp only [IntKind.wrap_i64]; omega
  have h2 : IntKind.i64.wrap (2 * b) = 2 * b := by simp only [IntKind.wrap_i64]; omega
  rw [h1, h2]
  exact ⟨by omega, trivial, rfl, trivial⟩

set_option maxRecDepth 100000 in
theorem rounded_ok : SpecOK Try.prog 95 true (pureS gRounded) := by
  refine pure_ok (sp := (addS 125 gFloor sp0)) (fn := Try.f95) (body := bodyOf Try.f95) mixed (addS_ok floor_ok sp0_ok) Try.func95 (by kernel_rfl) (by kernel_rfl) fun as_ ob rs h ho => ?_
  unfold gRounded at h
  split at h
  · rename_i n b
    cases h
    exact ⟨Nat.le_of_ble_eq_true rfl, _, _, rounded_vc n b ho⟩
  · cases h

/-! unless: an error if something is not so -/
def gUnless : List A → Option (Prop × List RV)
  | [.d (.b b), .d (.i .i64 x)] => some (True, [.d (.i .i64 (if b = true then 0 else x))])
  | _ => none

set_option maxRecDepth 100000 in
theorem unless_vc (b : Bool) (x : Int) : runF Try.f87 sp0 (fun _ _ => none) 0 [.d (.b b), .d (.i .i64 x)] [.d (.i .i64 (if b = true then 0 else x))] := by
  refine Eq.mp (by kernel_rfl : (
       Br b (Ob True ∧ Ob ((0 : Int) = if b = true then (0 : Int) else x) ∧ True)
       (Ob True ∧ Ob (x = if b = true then (0 : Int) else x) ∧ True)) = _) ?_
  cases b <;> exact ⟨⟨trivial⟩, ⟨rfl⟩, trivial⟩

set_option maxRecDepth 100000 in
theorem unless_ok : SpecOK Try.prog 87 true (pureS gUnless) := by
  refine pure_ok (sp := sp0) (fn := Try.f87) (body := bodyOf Try.f87) mixed sp0_ok Try.func87 (by kernel_rfl) (by kernel_rfl) fun as_ ob rs h ho => ?_
  unfold gUnless at h
  split at h
  · rename_i b x
    cases h
    exact ⟨Nat.le_of_ble_eq_true rfl, _, _, unless_vc b x⟩
  · cases h

/-! isPart: may n be a coefficient? -/
def gIsPart : List A → Option (Prop × List RV)
  | [.d (.i .i64 n)] => some (True, [.d (.b (decide (-32768 ≤ n) && decide (n ≤ 32768)))])
  | _ => none

set_option maxRecDepth 100000 in
theorem isPart_vc (n : Int) : runF Try.f96 (addS 91 gSmall sp0) (fun _ _ => none) 0 [.d (.i .i64 n)] [.d (.b (decide (-32768 ≤ n) && decide (n ≤ 32768)))] := by
  refine Eq.mp (by kernel_rfl : (
       Ob ((-9223372036854775807 : Int) ≤ (32768 : Int) ∧ (32768 : Int) ≤ (9223372036854775807 : Int)) ∧
       Ob True ∧
       Ob
       ((decide ((-32768 : Int) ≤ n) && decide (n ≤ (32768 : Int))) =
       (decide ((-32768 : Int) ≤ n) && decide (n ≤ (32768 : Int)))) ∧
       True) = _) ?_
  exact ⟨⟨by decide⟩, ⟨trivial⟩, ⟨rfl⟩, trivial⟩

set_option maxRecDepth 100000 in
theorem isPart_ok : SpecOK Try.prog 96 true (pureS gIsPart) := by
  refine pure_ok (sp := (addS 91 gSmall sp0)) (fn := Try.f96) (body := bodyOf Try.f96) mixed (addS_ok small_ok sp0_ok) Try.func96 (by kernel_rfl) (by kernel_rfl) fun as_ ob rs h ho => ?_
  unfold gIsPart at h
  split at h
  · rename_i n
    cases h
    exact ⟨Nat.le_of_ble_eq_true rfl, _, _, isPart_vc n⟩
  · cases h

/-! isSample: is n the size of a sample? -/
def gIsSample : List A → Option (Prop × List RV)
  | [.d (.i .i64 n)] => some (True, [.d (.b (decide (0 ≤ n) && decide (n ≤ 32767)))])
  | _ => none

set_option maxRecDepth 100000 in
theorem isSample_vc (n : Int) : runF Try.f88 (addS 104 gWithin sp0) (fun _ _ => none) 0 [.d (.i .i64 n)] [.d (.b (decide (0 ≤ n) && decide (n ≤ 32767)))] := by
  refine Eq.mp (by kernel_rfl : (
       Ob True ∧
       Ob True ∧
       Ob
       ((decide ((0 : Int) ≤ n) && decide (n ≤ (32767 : Int))) =
       (decide ((0 : Int) ≤ n) && decide (n ≤ (32767 : Int)))) ∧
       True) = _) ?_
  exact ⟨⟨trivial⟩, ⟨trivial⟩, ⟨rfl⟩, trivial⟩

set_option maxRecDepth 100000 in
theorem isSample_ok : SpecOK Try.prog 88 true (pureS gIsSample) := by
  refine pure_ok (sp := (addS 104 gWithin sp0)) (fn := Try.f88) (body := bodyOf Try.f88) mixed (addS_ok within_ok sp0_ok) Try.func88 (by kernel_rfl) (by kernel_rfl) fun as_ ob rs h ho => ?_
  unfold gIsSample at h
  split at h
  · rename_i n
    cases h
    exact ⟨Nat.le_of_ble_eq_true rfl, _, _, isSample_vc n⟩
  · cases h

/-! first: the first error -/
def gFirst : List A → Option (Prop × List RV)
  | [.r (.ints .i64 l)] => some (l.length ≤ 1000000, [.d (.i .i64 ((l.find? (fun x => x != 0)).getD 0))])
  | _ => none

set_option maxRecDepth 100000 in
theorem first_vc (l : List Int) (ho : l.length ≤ 1000000) : runF Try.f85 sp0 (fun id _ => match id with | 0 => some ⟨Nat, fun i => ⟨[(7, vi .i64 i), (6, vi .i64 l.length), (5, .w (.c (.o 0))), (2, vi .i64 0), (0, .w (.c (.o 0)))], [(0, .ext (.ints .i64 l))], 1⟩, fun i => i ≤ l.length ∧ ∀ x ∈ l.take i, x = 0, fun i => l.length - i⟩ | _ => none) 0 [.r (.ints .i64 l)] [.d (.i .i64 ((l.find? (fun x => x != 0)).getD 0))] := by
  refine Eq.mp (by kernel_rfl : (
       (∃ x,
       Ob (x ≤ l.length ∧ ∀ (x_1 : Int), x_1 ∈ List.take x l → x_1 = (0 : Int)) ∧
       Ob ((0 : Int) = (↑x : Int)) ∧
       Ob ((↑l.length : Int) = (↑l.length : Int)) ∧ Ob ((0 : Int) = (0 : Int)) ∧ Ob (l = l) ∧ True) ∧
       ∀ (x : Nat),
       (x ≤ l.length ∧ ∀ (x_1 : Int), x_1 ∈ List.take x l → x_1 = (0 : Int)) →
       Br (decide ((↑x : Int) < (↑l.length : Int)))
       (Ob ((0 : Int) ≤ (↑x : Int) ∧ (↑x : Int) < (↑l.length : Int)) ∧
       Ob ((↑x : Int).toNat < l.length) ∧
       Br (l.getD (↑x : Int).toNat (0 : Int) != (0 : Int))
       (Ob True ∧
       Ob (l.getD (↑x : Int).toNat (0 : Int) = (List.find? (fun x => x != (0 : Int)) l).getD (0 : Int)) ∧
       True)
       (∃ x',
       Ob (x' ≤ l.length ∧ ∀ (x : Int), x ∈ List.take x' l → x = (0 : Int)) ∧
       Ob (l.length - x' < l.length - x) ∧
       Ob (IntKind.i64.wrap ((↑x : Int) + (1 : Int)) = (↑x' : Int)) ∧
       Ob ((↑l.length : Int) = (↑l.length : Int)) ∧ Ob ((0 : Int) = (0 : Int)) ∧ Ob (l = l) ∧ True))
       (Ob True ∧ Ob ((0 : Int) = (List.find? (fun x => x != (0 : Int)) l).getD (0 : Int)) ∧ True)) = _) ?_
  simp only [Ob_iff, Br_iff, decide_eq_true_eq, decide_eq_false_iff_not, true_and, and_true]
  refine ⟨⟨0, ⟨by omega, fun x hx => by simp at hx⟩, rfl⟩, fun x ⟨h1, h2⟩ => ⟨fun h3 => ⟨by omega, by omega, fun h4 => ?_, fun h4 => ⟨x + 1, ⟨by omega, ?_⟩, by omega, ?_⟩⟩, fun h3 => ?_⟩⟩
  · exact (find_at h2 (by omega) (by simpa using h4)).symm
  · intro y hy
    rw [List.take_succ_eq_append_getElem (by omega)] at hy
    rcases List.mem_append.1 hy with hy | hy
    · exact h2 y hy
    · simp only [List.mem_singleton] at hy
      subst hy
      simpa [List.getD, show x < l.length by omega] using h4
  · rw [IntWalk.i64_in _ (by omega)]
    omega
  · have e : x = l.length := by omega
    rw [e, List.take_length] at h2
    rw [List.find?_eq_none.2 (fun y hy => by simp [h2 y hy])]
    rfl

set_option maxRecDepth 100000 in
theorem first_ok : SpecOK Try.prog 85 true (pureS gFirst) := by
  refine pure_ok (sp := sp0) (fn := Try.f85) (body := bodyOf Try.f85) mixed sp0_ok Try.func85 (by kernel_rfl) (by kernel_rfl) fun as_ ob rs h ho => ?_
  unfold gFirst at h
  split at h
  · rename_i l
    cases h
    exact ⟨Nat.le_of_ble_eq_true rfl, _, _, first_vc l ho⟩
  · cases h

end Go.Sx06
