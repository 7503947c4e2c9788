/- Contracts of the statements' own small functions. -/
import Derived.Test.YtndhdojnlobloaaC11
set_option linter.unusedSectionVars false
set_option linter.unusedSimpArgs false
set_option linter.unusedVariables false
namespace Go.Sx06
open Go Go.Proofs Go.RowKit Go.Sx

/-! bWithin: n is from lo to hi -/
def gBWithin : List A → Option (Prop × List RV)
  | [.d (.i .i64 n), .d (.i .i64 lo), .d (.i .i64 hi)] => some (True, [.d (.b (decide (lo ≤ n) && decide (n ≤ hi)))])
  | _ => none

set_option maxRecDepth 100000 in
theorem bWithin_vc (n lo hi : Int) : runF Try.f50 sp0 (fun _ _ => none) 0 [.d (.i .i64 n), .d (.i .i64 lo), .d (.i .i64 hi)] [.d (.b (decide (lo ≤ n) && decide (n ≤ hi)))] := by
  refine Eq.mp (by kernel_rfl : (
       Br (decide (lo ≤ n)) (Ob True ∧ Ob (decide (n ≤ hi) = (decide (lo ≤ n) && decide (n ≤ hi))) ∧ True)
       (Ob True ∧ Ob (false = (decide (lo ≤ n) && decide (n ≤ hi))) ∧ True)) = _) ?_
  simp only [Br_iff, Ob_iff]
  exact ⟨fun h => by simp [h], fun h => by simp [h]⟩

set_option maxRecDepth 100000 in
theorem bWithin_ok : SpecOK Try.prog 50 true (pureS gBWithin) := by
  refine pure_ok (sp := sp0) (fn := Try.f50) (body := bodyOf Try.f50) mixed sp0_ok Try.func50 (by kernel_rfl) (by kernel_rfl) fun as_ ob rs h ho => ?_
  unfold gBWithin at h
  split at h
  · rename_i n lo hi
    cases h
    exact ⟨Nat.le_of_ble_eq_true rfl, _, _, bWithin_vc n lo hi⟩
  · cases h

/-! bSize: a number without its sign -/
def gBSize : List A → Option (Prop × List RV)
  | [.d (.i .i64 n)] => some (-9223372036854775807 ≤ n ∧ n ≤ 9223372036854775807, [.d (.i .i64 (max n (-n)))])
  | _ => none

set_option maxRecDepth 100000 in
theorem bSize_vc (n : Int) (ho : -9223372036854775807 ≤ n ∧ n ≤ 9223372036854775807) : runF Try.f23 sp0 (fun _ _ => none) 0 [.d (.i .i64 n)] [.d (.i .i64 (max n (-n)))] := by
  refine Eq.mp (by kernel_rfl : (
       Ob True ∧
       Ob ((if IntKind.i64.wrap ((0 : Int) - n) > n then IntKind.i64.wrap ((0 : Int) - n) else n) = max n (-n)) ∧ True) = _) ?_
  simp only [Ob_iff]
  refine ⟨trivial, ?_, trivial⟩
  rw [IntWalk.i64_in _ (by omega)]
  split <;> omega

set_option maxRecDepth 100000 in
theorem bSize_ok : SpecOK Try.prog 23 true (pureS gBSize) := by
  refine pure_ok (sp := sp0) (fn := Try.f23) (body := bodyOf Try.f23) mixed sp0_ok Try.func23 (by kernel_rfl) (by kernel_rfl) fun as_ ob rs h ho => ?_
  unfold gBSize at h
  split at h
  · rename_i n
    cases h
    exact ⟨Nat.le_of_ble_eq_true rfl, _, _, bSize_vc n ho⟩
  · cases h

/-! copyInts: a copy -/
def gCopyInts : List A → Option (Prop × List RV)
  | [.r (.ints .i64 l)] => some (l.length ≤ 1000000000, [.row 3 (.ints .i64 l)])
  | _ => none

set_option maxRecDepth 100000 in
theorem copyInts_vc (l : List Int) (ho : l.length ≤ 1000000000) : runF Try.f22 sp0 (fun _ _ => none) 0 [.r (.ints .i64 l)] [.row 3 (.ints .i64 l)] := by
  refine Eq.mp (by kernel_rfl : (
       Ob
       ((([] : List Int).length + l.length) * (8 : Nat) ≤ (140737488355328 : Nat) ∧
       ([] : List Int).length + l.length ≤ (9223372036854775807 : Nat)) ∧
       Ob True ∧ Ob ([] ++ l = l) ∧ True) = _) ?_
  simp only [Ob_iff, List.length_nil, List.nil_append, and_true]
  omega

set_option maxRecDepth 100000 in
theorem copyInts_ok : SpecOK Try.prog 22 true (pureS gCopyInts) := by
  refine pure_ok (sp := sp0) (fn := Try.f22) (body := bodyOf Try.f22) mixed sp0_ok Try.func22 (by kernel_rfl) (by kernel_rfl) fun as_ ob rs h ho => ?_
  unfold gCopyInts at h
  split at h
  · rename_i l
    cases h
    exact ⟨Nat.le_of_ble_eq_true rfl, _, _, copyInts_vc l ho⟩
  · cases h

/-! refPolyErr: the error of a polynomial, as specified -/
def gRefPolyErr : List A → Option (Prop × List RV)
  | [.r (.ints .i64 l)] => some (l.length ≤ 1000000000, [.d (.i .i64 (polyE l))])
  | _ => none

set_option maxRecDepth 100000 in
theorem refPolyErr_vc (l : List Int) (ho : l.length ≤ 1000000000) : runF Try.f19 (addS 50 gBWithin sp0) (fun _ _ => some ⟨Nat, fun i => ⟨[(3, vi .i64 i), (2, vi .i64 0), (0, .w (.c (.o 0)))], [(0, .ext (.ints .i64 l))], 1⟩, fun i => i ≤ l.length ∧ (2 ≤ l.length ∧ l.length ≤ 5) ∧ ∀ x ∈ l.take i, smallB x = true, fun i => l.length - i⟩) 0 [.r (.ints .i64 l)] [.d (.i .i64 (polyE l))] := by
  refine Eq.mp (by kernel_rfl : (
       Ob True ∧
       Br (!(decide ((2 : Int) ≤ (↑l.length : Int)) && decide ((↑l.length : Int) ≤ (5 : Int))))
       (Ob True ∧ Ob ((10 : Int) = polyE l) ∧ True)
       ((∃ (x : Nat),
       Ob
       (x ≤ l.length ∧
       ((2 : Nat) ≤ l.length ∧ l.length ≤ (5 : Nat)) ∧
       ∀ (x_1 : Int), x_1 ∈ List.take x l → smallB x_1 = true) ∧
       Ob ((0 : Int) = (↑x : Int)) ∧ Ob ((0 : Int) = (0 : Int)) ∧ Ob (l = l) ∧ True) ∧
       ∀ (x : Nat),
       (x ≤ l.length ∧
       ((2 : Nat) ≤ l.length ∧ l.length ≤ (5 : Nat)) ∧ ∀ (x_1 : Int), x_1 ∈ List.take x l → smallB x_1 = true) →
       Br (decide ((↑x : Int) < (↑l.length : Int)))
       (Ob ((0 : Int) ≤ (↑x : Int) ∧ (↑x : Int) < (↑l.length : Int)) ∧
       Ob ((↑x : Int).toNat < l.length) ∧
       Ob True ∧
       Br
       (!(decide ((-100 : Int) ≤ l.getD (↑x : Int).toNat (0 : Int)) &&
       decide (l.getD (↑x : Int).toNat (0 : Int) ≤ (100 : Int))))
       (Ob True ∧ Ob ((2 : Int) = polyE l) ∧ True)
       (∃ (x' : Nat),
       Ob
       (x' ≤ l.length ∧
       ((2 : Nat) ≤ l.length ∧ l.length ≤ (5 : Nat)) ∧
       ∀ (x : Int), x ∈ List.take x' l → smallB x = true) ∧
       Ob (l.length - x' < l.length - x) ∧
       Ob (IntKind.i64.wrap ((↑x : Int) + (1 : Int)) = (↑x' : Int)) ∧
       Ob ((0 : Int) = (0 : Int)) ∧ Ob (l = l) ∧ True))
       (Ob ((0 : Int) ≤ (0 : Int) ∧ (0 : Int) < (↑l.length : Int)) ∧
       Ob ((0 : Nat) < l.length) ∧
       Br (decide (l.getD (0 : Nat) (0 : Int) ≤ (0 : Int))) (Ob True ∧ Ob ((11 : Int) = polyE l) ∧ True)
       (Ob True ∧ Ob ((0 : Int) = polyE l) ∧ True)))) = _) ?_
  simp only [Ob_iff, Br_iff, decide_eq_true_eq, decide_eq_false_iff_not, true_and, and_true, Int.toNat_natCast]
  have hlen : (!(decide (2 ≤ (l.length : Int)) && decide ((l.length : Int) ≤ 5))) = true ↔ ¬ (2 ≤ l.length ∧ l.length ≤ 5) := by
    simp
    omega
  refine ⟨fun h => by unfold polyE; rw [if_pos (hlen.1 h)], fun h => ?_⟩
  have hl : 2 ≤ l.length ∧ l.length ≤ 5 := by
    apply Classical.byContradiction
    intro hc
    rw [hlen.2 hc] at h
    cases h
  have hE : polyE l = if l.any (fun x => !smallB x) = true then 2 else if l.getD 0 0 ≤ 0 then 11 else 0 := by
    unfold polyE
    rw [if_neg (fun hc => hc hl)]
  refine ⟨⟨0, ⟨by omega, hl, fun x hx => by simp at hx⟩, rfl⟩, fun x ⟨h1, _, h2⟩ => ⟨fun h3 => ?_, fun h3 => ?_⟩⟩
  · have hx : x < l.length := by omega
    refine ⟨by omega, hx, fun h4 => ?_, fun h4 => ⟨x + 1, ⟨by omega, hl, take_step h2 hx ?_⟩, by omega, ?_⟩⟩
    · rw [hE, if_pos]
      exact List.any_eq_true.2 ⟨l.getD x 0, getD_mem hx, h4⟩
    · rw [← getD_eq (d := (0 : Int)) hx]
      unfold smallB
      simpa using h4
    · rw [wr (by omega) (by omega)]
      omega
  · have e : x = l.length := by omega
    rw [e, List.take_length] at h2
    have hany : ¬ (l.any (fun x => !smallB x) = true) := by
      intro h4
      obtain ⟨y, hy, h5⟩ := List.any_eq_true.1 h4
      rw [h2 y hy] at h5
      cases h5
    refine ⟨by omega, by omega, fun h4 => ?_, fun h4 => ?_⟩
    · rw [hE, if_neg hany, if_pos h4]
    · rw [hE, if_neg hany, if_neg h4]

set_option maxRecDepth 100000 in
theorem refPolyErr_ok : SpecOK Try.prog 19 true (pureS gRefPolyErr) := by
  refine pure_ok (sp := (addS 50 gBWithin sp0)) (fn := Try.f19) (body := bodyOf Try.f19) mixed (addS_ok bWithin_ok sp0_ok) Try.func19 (by kernel_rfl) (by kernel_rfl) fun as_ ob rs h ho => ?_
  unfold gRefPolyErr at h
  split at h
  · rename_i l
    cases h
    exact ⟨Nat.le_of_ble_eq_true rfl, _, _, refPolyErr_vc l ho⟩
  · cases h

/-! ints: are two lists equal? -/
def gInts : List A → Option (Prop × List RV)
  | [.r (.ints .i64 a), .r (.ints .i64 b)] => some (a.length ≤ 1000000000, [.d (.b (decide (a = b)))])
  | _ => none

set_option maxRecDepth 100000 in
theorem ints_vc (a b : List Int) (ho : a.length ≤ 1000000000) : runF Try.f34 sp0 (fun _ _ => some ⟨Nat, fun i => ⟨[(5, vi .i64 i), (4, vb false), (0, .w (.c (.o 0))), (1, .w (.c (.o 1)))], [(0, .ext (.ints .i64 a)), (1, .ext (.ints .i64 b))], 2⟩, fun i => i ≤ a.length ∧ a.length = b.length ∧ a.take i = b.take i, fun i => a.length - i⟩) 0 [.r (.ints .i64 a), .r (.ints .i64 b)] [.d (.b (decide (a = b)))] := by
  refine Eq.mp (by kernel_rfl : (
       Br ((↑a.length : Int) != (↑b.length : Int)) (Ob True ∧ Ob (false = decide (a = b)) ∧ True)
       ((∃ (x : Nat),
       Ob (x ≤ a.length ∧ a.length = b.length ∧ List.take x a = List.take x b) ∧
       Ob ((0 : Int) = (↑x : Int)) ∧ Ob (false = false) ∧ Ob (a = a) ∧ Ob (b = b) ∧ True) ∧
       ∀ (x : Nat),
       x ≤ a.length ∧ a.length = b.length ∧ List.take x a = List.take x b →
       Br (decide ((↑x : Int) < (↑a.length : Int)))
       (Ob ((0 : Int) ≤ (↑x : Int) ∧ (↑x : Int) < (↑a.length : Int)) ∧
       Ob ((↑x : Int).toNat < a.length) ∧
       Ob ((0 : Int) ≤ (↑x : Int) ∧ (↑x : Int) < (↑b.length : Int)) ∧
       Ob ((↑x : Int).toNat < b.length) ∧
       Br (a.getD (↑x : Int).toNat (0 : Int) != b.getD (↑x : Int).toNat (0 : Int))
       (Ob True ∧ Ob (false = decide (a = b)) ∧ True)
       (∃ (x' : Nat),
       Ob (x' ≤ a.length ∧ a.length = b.length ∧ List.take x' a = List.take x' b) ∧
       Ob (a.length - x' < a.length - x) ∧
       Ob (IntKind.i64.wrap ((↑x : Int) + (1 : Int)) = (↑x' : Int)) ∧
       Ob (false = false) ∧ Ob (a = a) ∧ Ob (b = b) ∧ True))
       (Ob True ∧ Ob (true = decide (a = b)) ∧ True))) = _) ?_
  simp only [Ob_iff, Br_iff, decide_eq_true_eq, decide_eq_false_iff_not, true_and, and_true, Int.toNat_natCast]
  refine ⟨fun h => ?_, fun h => ?_⟩
  · symm
    apply decide_eq_false
    intro e
    subst e
    simp at h
  · have hl : a.length = b.length := by
      simp at h
      omega
    refine ⟨⟨0, ⟨by omega, hl, rfl⟩, rfl⟩, fun x ⟨h1, _, h2⟩ => ⟨fun h3 => ?_, fun h3 => ?_⟩⟩
    · have hx : x < a.length := by omega
      refine ⟨by omega, hx, by omega, by omega, fun h4 => ?_, fun h4 => ⟨x + 1, ⟨by omega, hl, ?_⟩, by omega, ?_⟩⟩
      · symm
        apply decide_eq_false
        intro e
        subst e
        simp at h4
      · rw [take_one hx 0, take_one (show x < b.length by omega) 0, h2]
        have : a.getD x 0 = b.getD x 0 := by simpa using h4
        rw [this]
      · rw [wr (by omega) (by omega)]
        omega
    · have e : x = a.length := by omega
      rw [e, List.take_length, hl, List.take_length] at h2
      symm
      exact decide_eq_true h2

set_option maxRecDepth 100000 in
theorem ints_ok : SpecOK Try.prog 34 true (pureS gInts) := by
  refine pure_ok (sp := sp0) (fn := Try.f34) (body := bodyOf Try.f34) mixed sp0_ok Try.func34 (by kernel_rfl) (by kernel_rfl) fun as_ ob rs h ho => ?_
  unfold gInts at h
  split at h
  · rename_i a b
    cases h
    exact ⟨Nat.le_of_ble_eq_true rfl, _, _, ints_vc a b ho⟩
  · cases h

end Go.Sx06
