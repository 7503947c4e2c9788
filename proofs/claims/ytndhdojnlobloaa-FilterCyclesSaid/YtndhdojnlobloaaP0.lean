/- Plain facts on numbers. -/
import Derived.IntWalk
set_option linter.unusedSectionVars false
set_option linter.unusedSimpArgs false
set_option linter.unusedVariables false
namespace Go.Sx06

theorem tdiv_bounds {n b : Int} (hb : 0 < b) : (0 ≤ n → 0 ≤ n.tdiv b ∧ n.tdiv b ≤ n) ∧ (n ≤ 0 → n ≤ n.tdiv b ∧ n.tdiv b ≤ 0) := by
  constructor
  · intro hn
    rw [Int.tdiv_eq_ediv_of_nonneg hn]
    exact ⟨Int.ediv_nonneg hn (by omega), Int.ediv_le_self b hn⟩
  · intro hn
    have h1 : n = -(-n) := by omega
    rw [h1, Int.neg_tdiv, Int.tdiv_eq_ediv_of_nonneg (by omega : 0 ≤ -n)]
    have h2 := Int.ediv_nonneg (by omega : 0 ≤ -n) (by omega : 0 ≤ b)
    have h3 := Int.ediv_le_self b (by omega : 0 ≤ -n)
    omega

theorem tmod_bounds {n b : Int} (hb : 0 < b) : -b < n.tmod b ∧ n.tmod b < b := by
  refine ⟨?_, Int.tmod_lt_of_pos n hb⟩
  have h := Int.tmod_lt_of_pos (-n) hb
  rw [Int.neg_tmod] at h
  omega

theorem floor_neg {n b : Int} (hb : 0 < b) (h : n.tmod b < 0) : n.tdiv b - 1 = n / b := by
  have h1 := Int.tmod_add_mul_tdiv n b
  have h2 := tmod_bounds (n := n) hb
  have h3 : n / b = (n.tdiv b - 1) := by
    apply (Int.ediv_eq_iff_of_pos hb).2
    rw [Int.mul_comm] at h1
    constructor <;> rw [Int.sub_mul] <;> omega
  exact h3.symm

theorem floor_pos {n b : Int} (hb : 0 < b) (h : ¬ n.tmod b < 0) : n.tdiv b = n / b := by
  have h1 := Int.tmod_add_mul_tdiv n b
  have h2 := tmod_bounds (n := n) hb
  have h3 : n / b = n.tdiv b := by
    apply (Int.ediv_eq_iff_of_pos hb).2
    rw [Int.mul_comm] at h1
    constructor <;> omega
  exact h3.symm

theorem ediv_bounds {n b : Int} (hb : 0 < b) : (0 ≤ n → 0 ≤ n / b ∧ n / b ≤ n) ∧ (n ≤ 0 → n ≤ n / b ∧ n / b ≤ 0) := by
  constructor
  · intro hn
    exact ⟨Int.ediv_nonneg hn (by omega), Int.ediv_le_self b hn⟩
  · intro hn
    have h1 : n * b ≤ n := by
      have h2 := Int.mul_le_mul_of_nonneg_right (show (1 : Int) ≤ b by omega) (show 0 ≤ -n by omega)
      rw [Int.one_mul, Int.mul_neg, Int.mul_comm] at h2
      omega
    refine ⟨Int.le_ediv_of_mul_le hb h1, ?_⟩
    have := Int.ediv_le_ediv hb hn
    simpa using this

end Go.Sx06
