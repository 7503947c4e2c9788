/- The contract of Schur. -/
import Derived.Test.YtndhdojnlobloaaC5
set_option linter.unusedSectionVars false
set_option linter.unusedSimpArgs false
set_option linter.unusedVariables false
namespace Go.Sx06
open Go Go.Proofs Go.RowKit Go.Sx

def absI (n : Int) : Int := max n (-n)
def leadB (l : List Int) : Bool := decide (absI (l.getD (l.length - 1) 0) < absI (l.getD 0 0))
/-- Schur's answer: stable?, and the steps. -/
def schurS : Nat → List Int → Nat → Bool × Nat
  | 0, _, s => (false, s)
  | f + 1, l, s => if leadB l = false then (false, s) else if l.length = 2 then (true, s) else schurS f (downS l) (s + 1)
def limS : Nat → Int
  | 0 => 100
  | 1 => 20000
  | 2 => 800000000
  | _ => 1280000000000000000
theorem absI_le {n m : Int} : absI n ≤ m ↔ -m ≤ n ∧ n ≤ m := by unfold absI; omega
theorem downS_len (l : List Int) : (downS l).length = l.length - 1 := by simp [downS]
theorem downS_mem {l : List Int} {y : Int} (h : y ∈ downS l) : ∃ j, j < l.length - 1 ∧ y = downD l j := by
  simp only [downS, List.mem_map, List.mem_range] at h
  obtain ⟨j, hj, e⟩ := h
  exact ⟨j, hj, e.symm⟩
theorem mul_lim {x y m : Int} (hm : 0 ≤ m) (hx : -m ≤ x ∧ x ≤ m) (hy : -m ≤ y ∧ y ≤ m) : -(m * m) ≤ x * y ∧ x * y ≤ m * m := by
  have h1 : (x * y).natAbs ≤ m.natAbs * m.natAbs := by
    rw [Int.natAbs_mul]
    exact Nat.mul_le_mul (by omega) (by omega)
  have h2 : m * m = ((m.natAbs * m.natAbs : Nat) : Int) := by
    rw [Int.natCast_mul]
    have : (m.natAbs : Int) = m := by omega
    rw [this]
  rw [h2]
  omega
theorem downD_lim {l : List Int} {m : Int} (hm : 0 ≤ m) (h0 : 1 ≤ l.length) (h : ∀ y ∈ l, -m ≤ y ∧ y ≤ m) {j : Nat} (hj : j < l.length - 1) : -(2 * (m * m)) ≤ downD l j ∧ downD l j ≤ 2 * (m * m) := by
  have b0 := h _ (getD_mem (show 0 < l.length by omega))
  have b1 := h _ (getD_mem (show j < l.length by omega))
  have b2 := h _ (getD_mem (show l.length - 1 < l.length by omega))
  have b3 := h _ (getD_mem (show l.length - 1 - j < l.length by omega))
  have m1 := mul_lim hm b0 b1
  have m2 := mul_lim hm b2 b3
  unfold downD
  omega
theorem lim_step {l : List Int} {s : Nat} (hs : s ≤ 2) (h0 : 1 ≤ l.length) (h : ∀ y ∈ l, -limS s ≤ y ∧ y ≤ limS s) : ∀ y ∈ downS l, -limS (s + 1) ≤ y ∧ y ≤ limS (s + 1) := by
  intro y hy
  obtain ⟨j, hj, rfl⟩ := downS_mem hy
  match s, hs with
  | 0, _ => have := downD_lim (m := 100) (by decide) h0 h hj; exact ⟨by show -20000 ≤ _; omega, by show _ ≤ (20000 : Int); omega⟩
  | 1, _ => have := downD_lim (m := 20000) (by decide) h0 h hj; exact ⟨by show -800000000 ≤ _; omega, by show _ ≤ (800000000 : Int); omega⟩
  | 2, _ => have := downD_lim (m := 800000000) (by decide) h0 h hj; exact ⟨by show -1280000000000000000 ≤ _; omega, by show _ ≤ (1280000000000000000 : Int); omega⟩
theorem limS_le (s : Nat) : limS s ≤ 1280000000000000000 := by
  match s with
  | 0 => decide
  | 1 => decide
  | 2 => decide
  | n + 3 => exact Int.le_refl _
theorem limS_le2 {s : Nat} (h : s ≤ 2) : limS s ≤ 800000000 := by
  match s, h with
  | 0, _ => decide
  | 1, _ => decide
  | 2, _ => decide
theorem polyE_ok {l : List Int} (h : polyE l = 0) : 2 ≤ l.length ∧ l.length ≤ 5 ∧ (∀ y ∈ l, -100 ≤ y ∧ y ≤ 100) ∧ 0 < l.getD 0 0 := by
  unfold polyE at h
  split at h
  · cases h
  · rename_i h1
    split at h
    · cases h
    · rename_i h2
      split at h
      · cases h
      · rename_i h3
        have h1 : 2 ≤ l.length ∧ l.length ≤ 5 := Classical.byContradiction h1
        refine ⟨h1.1, h1.2, fun y hy => ?_, by omega⟩
        have h4 : smallB y = true := by
          cases hc : smallB y with
          | true => rfl
          | false => exact absurd (List.any_eq_true.2 ⟨y, hy, by simp [hc]⟩) h2
        simpa [smallB] using h4
def schurOk (l : List Int) : Bool := if polyE l = 0 then (schurS l.length l 0).1 else false
def schurN (l : List Int) : Int := if polyE l = 0 then ((schurS l.length l 0).2 : Int) else 0

/-! schur: stable?, the steps down, the error -/
def gSchur : List A → Option (Prop × List RV)
  | [.r (.ints .i64 l)] => some (l.length ≤ 1000000000, [.d (.b (schurOk l)), .d (.i .i64 (schurN l)), .d (.i .i64 (polyE l))])
  | _ => none

set_option maxRecDepth 100000 in
theorem schur_vc (l : List Int) (ho : l.length ≤ 1000000000) : runF Try.f21 (addS 82 gPolyErr (addS 83 gLeads (addS 84 gDown sp0))) (fun _ _ => some ⟨List Int × Nat, fun x => ⟨[(5, .w (.c (.o 1))), (7, vi .i64 x.2)], [(1, .view 0 (.ints .i64 x.1) false)], 2⟩, fun x => 2 ≤ x.1.length ∧ x.1.length + x.2 = l.length ∧ l.length ≤ 5 ∧ polyE l = 0 ∧ schurS x.1.length x.1 x.2 = schurS l.length l 0 ∧ ∀ y ∈ x.1, -limS x.2 ≤ y ∧ y ≤ limS x.2, fun x => x.1.length⟩) 0 [.r (.ints .i64 l)] [.d (.b (schurOk l)), .d (.i .i64 (schurN l)), .d (.i .i64 (polyE l))] := by
  refine Eq.mp (by kernel_rfl : (
       Ob (l.length ≤ (1000000000000 : Nat)) ∧
       Br (polyE l != (0 : Int))
       (Ob True ∧ Ob True ∧ Ob True ∧ Ob (false = schurOk l) ∧ Ob ((0 : Int) = schurN l) ∧ Ob (polyE l = polyE l) ∧ True)
       ((∃ (x : List Int × Nat),
       Ob
       ((2 : Nat) ≤ x.1.length ∧
       x.1.length + x.2 = l.length ∧
       l.length ≤ (5 : Nat) ∧
       polyE l = (0 : Int) ∧
       schurS x.1.length x.1 x.2 = schurS l.length l (0 : Nat) ∧
       ∀ (y : Int), y ∈ x.1 → -limS x.2 ≤ y ∧ y ≤ limS x.2) ∧
       Ob ((0 : Int) = (↑x.2 : Int)) ∧ Ob (l = x.1) ∧ True) ∧
       ∀ (x : List Int × Nat),
       ((2 : Nat) ≤ x.1.length ∧
       x.1.length + x.2 = l.length ∧
       l.length ≤ (5 : Nat) ∧
       polyE l = (0 : Int) ∧
       schurS x.1.length x.1 x.2 = schurS l.length l (0 : Nat) ∧
       ∀ (y : Int), y ∈ x.1 → -limS x.2 ≤ y ∧ y ≤ limS x.2) →
       Ob
       ((0 : Nat) < x.1.length ∧
       x.1.length ≤ (1000000 : Nat) ∧
       ∀ (x_1 : Int), x_1 ∈ x.1 → (-4611686018427387904 : Int) ≤ x_1 ∧ x_1 ≤ (4611686018427387904 : Int)) ∧
       Br
       (!decide
       (max (x.1.getD (x.1.length - (1 : Nat)) (0 : Int)) (-x.1.getD (x.1.length - (1 : Nat)) (0 : Int)) <
       max (x.1.getD (0 : Nat) (0 : Int)) (-x.1.getD (0 : Nat) (0 : Int))))
       (Ob True ∧
       Ob True ∧
       Ob True ∧ Ob (false = schurOk l) ∧ Ob ((↑x.2 : Int) = schurN l) ∧ Ob ((0 : Int) = polyE l) ∧ True)
       (Br ((↑x.1.length : Int) == (2 : Int))
       (Ob True ∧
       Ob True ∧
       Ob True ∧ Ob (true = schurOk l) ∧ Ob ((↑x.2 : Int) = schurN l) ∧ Ob ((0 : Int) = polyE l) ∧ True)
       (Ob
       ((1 : Nat) ≤ x.1.length ∧
       x.1.length ≤ (1000000 : Nat) ∧
       ∀ (x_1 : Int), x_1 ∈ x.1 → (-2147483647 : Int) ≤ x_1 ∧ x_1 ≤ (2147483647 : Int)) ∧
       ∃ (x' : List Int × Nat),
       Ob
       ((2 : Nat) ≤ x'.1.length ∧
       x'.1.length + x'.2 = l.length ∧
       l.length ≤ (5 : Nat) ∧
       polyE l = (0 : Int) ∧
       schurS x'.1.length x'.1 x'.2 = schurS l.length l (0 : Nat) ∧
       ∀ (y : Int), y ∈ x'.1 → -limS x'.2 ≤ y ∧ y ≤ limS x'.2) ∧
       Ob (x'.1.length < x.1.length) ∧
       Ob (IntKind.i64.wrap ((↑x.2 : Int) + (1 : Int)) = (↑x'.2 : Int)) ∧
       Ob (downS x.1 = x'.1) ∧ True)))) = _) ?_
  simp only [Ob_iff, Br_iff, decide_eq_true_eq, decide_eq_false_iff_not, true_and, and_true, bne_iff_ne, ne_eq, bne_eq_false_iff_eq, beq_iff_eq, beq_eq_false_iff_ne, Bool.not_eq_true', Bool.not_eq_false']
  refine ⟨by omega, fun h => ?_, fun h => ⟨?_, ?_⟩⟩
  · unfold schurOk schurN
    rw [if_neg h, if_neg h]
    exact ⟨rfl, rfl⟩
  · have hp := polyE_ok h
    exact ⟨(l, 0), ⟨hp.1, rfl, hp.2.1, h, rfl, hp.2.2.1⟩, rfl, rfl⟩
  · rintro ⟨q, s⟩ ⟨h1, h2, h3, h4, h5, h6⟩
    dsimp only at h1 h2 h3 h4 h5 h6 ⊢
    have hl := limS_le s
    have hlead : leadB q = decide (max (q.getD (q.length - 1) 0) (-q.getD (q.length - 1) 0) < max (q.getD 0 0) (-q.getD 0 0)) := rfl
    have hq : ∃ f, q.length = f + 1 := ⟨q.length - 1, by omega⟩
    obtain ⟨f, hf⟩ := hq
    refine ⟨⟨by omega, by omega, fun y hy => ?_⟩, fun h7 => ?_, fun h7 => ⟨fun h8 => ?_, fun h8 => ?_⟩⟩
    · have := h6 y hy; omega
    · have e : schurS q.length q s = (false, s) := by
        rw [hf]
        unfold schurS
        rw [if_pos (by rw [hlead]; exact decide_eq_false h7)]
      unfold schurOk schurN
      rw [if_pos h4, if_pos h4, ← h5, e, h4]
      exact ⟨rfl, rfl, rfl⟩
    · have e : schurS q.length q s = (true, s) := by
        rw [hf]
        unfold schurS
        rw [if_neg (by rw [hlead, decide_eq_true h7]; decide), if_pos (by omega)]
      unfold schurOk schurN
      rw [if_pos h4, if_pos h4, ← h5, e, h4]
      exact ⟨rfl, rfl, rfl⟩
    · have hs : s ≤ 2 := by omega
      have hl2 := limS_le2 hs
      refine ⟨⟨by omega, by omega, fun y hy => ?_⟩, (downS q, s + 1), ⟨?_, ?_, h3, h4, ?_, lim_step hs (by omega) h6⟩, ?_, ?_, rfl⟩
      · have := h6 y hy; omega
      · rw [downS_len]; omega
      · rw [downS_len]; dsimp only; omega
      · rw [← h5, hf]
        have e : schurS (f + 1) q s = schurS f (downS q) (s + 1) := by
          conv => lhs; unfold schurS
          rw [if_neg (by rw [hlead, decide_eq_true h7]; decide), if_neg (by omega)]
        rw [e, downS_len, hf]
        rfl
      · rw [downS_len]; omega
      · rw [wr (by omega) (by omega)]
        rfl

set_option maxRecDepth 100000 in
theorem schur_ok : SpecOK Try.prog 21 true (pureS gSchur) := by
  refine pure_ok (sp := (addS 82 gPolyErr (addS 83 gLeads (addS 84 gDown sp0)))) (fn := Try.f21) (body := bodyOf Try.f21) mixed (addS_ok polyErr_ok (addS_ok leads_ok (addS_ok down_ok sp0_ok))) Try.func21 (by kernel_rfl) (by kernel_rfl) fun as_ ob rs h ho => ?_
  unfold gSchur at h
  split at h
  · rename_i l
    cases h
    exact ⟨Nat.le_of_ble_eq_true rfl, _, _, schur_vc l ho⟩
  · cases h

end Go.Sx06
