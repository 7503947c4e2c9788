/- Plain law: the nearest stable section. -/
import Derived.Test.YtndhdojnlobloaaLC
namespace Go.Sh
open Go Go.Proofs Go.RowKit Go.Sx Go.Sx06
set_option linter.unusedVariables false

def szI (x : Int) : Int := max x (-x)
def goodB (b0 b1 b2 a0 a1 i j : Int) : Bool := decide (chkS b0 b1 b2 (a0 + i) (a1 + j) = 0) && stB (a0 + i) (a1 + j)
/-- One pair of steps away. -/
def stepT (b0 b1 b2 a0 a1 : Int) (s : Int × Int × Int) (i j : Int) : Int × Int × Int :=
  if ((decide (s.1 < 0) || decide (szI i + szI j < s.1)) && goodB b0 b1 b2 a0 a1 i j) = true then (szI i + szI j, a0 + i, a1 + j) else s
/-- Behind m pairs with i. -/
def inT (b0 b1 b2 a0 a1 : Int) (R : Nat) (s : Int × Int × Int) (i : Int) : Nat → Int × Int × Int
  | 0 => s
  | m + 1 => stepT b0 b1 b2 a0 a1 (inT b0 b1 b2 a0 a1 R s i m) i (-(R : Int) + m)
def outT (b0 b1 b2 a0 a1 : Int) (R : Nat) : Nat → Int × Int × Int
  | 0 => (-1, a0, a1)
  | n + 1 => inT b0 b1 b2 a0 a1 R (outT b0 b1 b2 a0 a1 R n) (-(R : Int) + n) (2 * R + 1)

section
variable {b0 b1 b2 a0 a1 : Int} {R : Nat}

theorem stepF (hc : chkS b0 b1 b2 a0 a1 = 0) (hR : R ≤ 20) (x0 : Int × Int × Int × Int) (s : Int × Int × Int) (j : Int) (hi : -20 ≤ x0.2.1 ∧ x0.2.1 ≤ 20) (hj : -20 ≤ j ∧ j ≤ (R : Int)) :
    F_Stabilised_b1 b0 b1 b2 a0 a1 R x0 (s.1, j, s.2.1, s.2.2) = some (.inl ((stepT b0 b1 b2 a0 a1 s x0.2.1 j).1, j + 1, (stepT b0 b1 b2 a0 a1 s x0.2.1 j).2.1, (stepT b0 b1 b2 a0 a1 s x0.2.1 j).2.2)) := by
  obtain ⟨_, _, _, p3, p4⟩ := part_of_chk hc
  unfold F_Stabilised_b1
  generalize hi0 : x0.2.1 = i at *
  dsimp only
  rw [if_pos hj.2, if_pos (by omega), if_pos (by omega), wr64 (x := a0 + i) (by omega), wr64 (x := a1 + j) (by omega), wr64 (x := max i (-i) + max j (-j)) (by omega), wr64 (x := j + 1) (by omega)]
  have est : (decide (max (a1 + j) (-(a1 + j)) < 16384) && decide (max (a0 + i) (-(a0 + i)) < 16384 + (a1 + j))) = stB (a0 + i) (a1 + j) := rfl
  have ef : max i (-i) + max j (-j) = szI i + szI j := rfl
  rw [est, ef]
  unfold stepT goodB
  by_cases h1 : s.1 < 0
  · rw [if_pos h1]
    by_cases h2 : chkS b0 b1 b2 (a0 + i) (a1 + j) = 0
    · rw [if_pos (by simpa using h2), if_pos (secB_chk h2)]
      by_cases h3 : stB (a0 + i) (a1 + j) = true
      · simp [h1, h2, h3]
      · simp [h1, h2, h3]
    · rw [if_neg (by simpa using h2)]
      simp [h1, h2]
  · rw [if_neg h1]
    by_cases h4 : szI i + szI j < s.1
    · rw [if_pos h4]
      by_cases h2 : chkS b0 b1 b2 (a0 + i) (a1 + j) = 0
      · rw [if_pos (by simpa using h2), if_pos (secB_chk h2)]
        by_cases h3 : stB (a0 + i) (a1 + j) = true
        · simp [h1, h2, h3, h4]
        · simp [h1, h2, h3, h4]
      · rw [if_neg (by simpa using h2)]
        simp [h1, h2, h4]
    · rw [if_neg h4]
      simp [h1, h4]

/-- The reference's state. -/
def upT (b0 b1 b2 : Int) (s : Int × Int × Int) : Int × Int × Int × Int × Int × Int := if s.1 < 0 then (s.1, 0, 0, 0, 0, 0) else (s.1, b0, b1, b2, s.2.1, s.2.2)

theorem stepR (hc : chkS b0 b1 b2 a0 a1 = 0) (hR : R ≤ 20) (x0 : Int × Int × Int × Int × Int × Int × Int) (s : Int × Int × Int) (j : Int) (hi : -20 ≤ x0.2.1 ∧ x0.2.1 ≤ 20) (hj : -20 ≤ j ∧ j ≤ (R : Int)) :
    R06_Stabilised_b1 b0 b1 b2 a0 a1 R x0 ((upT b0 b1 b2 s).1, j, (upT b0 b1 b2 s).2) = some (.inl ((upT b0 b1 b2 (stepT b0 b1 b2 a0 a1 s x0.2.1 j)).1, j + 1, (upT b0 b1 b2 (stepT b0 b1 b2 a0 a1 s x0.2.1 j)).2)) := by
  obtain ⟨_, _, _, p3, p4⟩ := part_of_chk hc
  have e1 : (upT b0 b1 b2 s).1 = s.1 := by unfold upT; split <;> rfl
  unfold R06_Stabilised_b1
  generalize hi0 : x0.2.1 = i at *
  dsimp only
  have hsz : 0 ≤ szI i ∧ 0 ≤ szI j := by unfold szI; omega
  rw [if_pos hj.2, if_pos (by omega), if_pos (by omega), wr64 (x := a0 + i) (by omega), wr64 (x := a1 + j) (by omega), wr64 (x := max i (-i) + max j (-j)) (by omega), wr64 (x := j + 1) (by omega), checkSection_eq, bind_some', e1]
  have ef : max i (-i) + max j (-j) = szI i + szI j := rfl
  rw [ef]
  unfold stepT goodB
  by_cases h2 : chkS b0 b1 b2 (a0 + i) (a1 + j) = 0
  · rw [if_pos (by simpa using h2), isStableR_eq h2, bind_some']
    by_cases h3 : stB (a0 + i) (a1 + j) = true
    · rw [if_pos h3]
      by_cases h1 : s.1 < 0
      · rw [if_pos h1]
        have hn : ¬ (szI i + szI j < 0) := by omega
        simp [h1, h2, h3, upT, hn]
      · rw [if_neg h1]
        by_cases h4 : szI i + szI j < s.1
        · rw [if_pos h4]
          have hn : ¬ (szI i + szI j < 0) := by omega
          simp [h1, h2, h3, h4, upT, hn]
        · rw [if_neg h4]
          simp [h1, h2, h3, h4, upT]
    · rw [if_neg h3]
      have hg : ((decide (s.1 < 0) || decide (szI i + szI j < s.1)) && (decide (chkS b0 b1 b2 (a0 + i) (a1 + j) = 0) && stB (a0 + i) (a1 + j))) = false := by simp [h3]
      rw [hg, if_neg (by simp), e1]
  · rw [if_neg (by simpa using h2)]
    have hg : ((decide (s.1 < 0) || decide (szI i + szI j < s.1)) && (decide (chkS b0 b1 b2 (a0 + i) (a1 + j) = 0) && stB (a0 + i) (a1 + j))) = false := by simp [h2]
    rw [hg, if_neg (by simp), e1]

theorem innerF (hc : chkS b0 b1 b2 a0 a1 = 0) (hR : R ≤ 20) (x0 : Int × Int × Int × Int) (s : Int × Int × Int) (hi : -20 ≤ x0.2.1 ∧ x0.2.1 ≤ 20) :
    iter (F_Stabilised_b1 b0 b1 b2 a0 a1 R x0) big (s.1, -(R : Int), s.2.1, s.2.2) = some (inT b0 b1 b2 a0 a1 R s x0.2.1 (2 * R + 1)) := by
  have := iter_upto (body := F_Stabilised_b1 b0 b1 b2 a0 a1 R x0) (fun m => ((inT b0 b1 b2 a0 a1 R s x0.2.1 m).1, -(R : Int) + m, (inT b0 b1 b2 a0 a1 R s x0.2.1 m).2.1, (inT b0 b1 b2 a0 a1 R s x0.2.1 m).2.2)) (k := 2 * R + 1) (y := inT b0 b1 b2 a0 a1 R s x0.2.1 (2 * R + 1)) (fun m hm => by
    rw [stepF hc hR x0 _ _ hi (by omega)]
    have e : -(R : Int) + m + 1 = -(R : Int) + ((m + 1 : Nat) : Int) := by omega
    rw [e]
    rfl) (by
    unfold F_Stabilised_b1
    dsimp only
    rw [if_neg (by omega)]) (by omega)
  simpa [inT] using this

theorem innerR (hc : chkS b0 b1 b2 a0 a1 = 0) (hR : R ≤ 20) (x0 : Int × Int × Int × Int × Int × Int × Int) (s : Int × Int × Int) (hi : -20 ≤ x0.2.1 ∧ x0.2.1 ≤ 20) :
    iter (R06_Stabilised_b1 b0 b1 b2 a0 a1 R x0) big ((upT b0 b1 b2 s).1, -(R : Int), (upT b0 b1 b2 s).2) = some (upT b0 b1 b2 (inT b0 b1 b2 a0 a1 R s x0.2.1 (2 * R + 1))) := by
  have := iter_upto (body := R06_Stabilised_b1 b0 b1 b2 a0 a1 R x0) (fun m => ((upT b0 b1 b2 (inT b0 b1 b2 a0 a1 R s x0.2.1 m)).1, -(R : Int) + m, (upT b0 b1 b2 (inT b0 b1 b2 a0 a1 R s x0.2.1 m)).2)) (k := 2 * R + 1) (y := upT b0 b1 b2 (inT b0 b1 b2 a0 a1 R s x0.2.1 (2 * R + 1))) (fun m hm => by
    rw [stepR hc hR x0 _ _ hi (by omega)]
    have e : -(R : Int) + m + 1 = -(R : Int) + ((m + 1 : Nat) : Int) := by omega
    rw [e]
    rfl) (by
    unfold R06_Stabilised_b1
    dsimp only
    rw [if_neg (by omega)]) (by omega)
  simpa [inT] using this

theorem outerF (hc : chkS b0 b1 b2 a0 a1 = 0) (hR : R ≤ 20) :
    iter (F_Stabilised_b0 b0 b1 b2 a0 a1 R) big (-1, -(R : Int), a0, a1) = some (outT b0 b1 b2 a0 a1 R (2 * R + 1)) := by
  have := iter_upto (body := F_Stabilised_b0 b0 b1 b2 a0 a1 R) (fun n => ((outT b0 b1 b2 a0 a1 R n).1, -(R : Int) + n, (outT b0 b1 b2 a0 a1 R n).2.1, (outT b0 b1 b2 a0 a1 R n).2.2)) (k := 2 * R + 1) (y := outT b0 b1 b2 a0 a1 R (2 * R + 1)) (fun n hn => by
    unfold F_Stabilised_b0
    dsimp only
    rw [if_pos (by omega), Int.zero_sub, wr64 (x := -(R : Int)) (by omega), innerF hc hR _ (outT b0 b1 b2 a0 a1 R n) (by dsimp only; omega), bind_some']
    unfold F_Stabilised_r1
    dsimp only
    rw [wr64 (x := -(R : Int) + n + 1) (by omega)]
    have e : -(R : Int) + n + 1 = -(R : Int) + ((n + 1 : Nat) : Int) := by omega
    rw [e]
    rfl) (by
    unfold F_Stabilised_b0
    dsimp only
    rw [if_neg (by omega)]) (by omega)
  simpa [outT] using this

theorem outerR (hc : chkS b0 b1 b2 a0 a1 = 0) (hR : R ≤ 20) :
    iter (R06_Stabilised_b0 b0 b1 b2 a0 a1 R) big (-1, -(R : Int), 0, 0, 0, 0, 0) = some (upT b0 b1 b2 (outT b0 b1 b2 a0 a1 R (2 * R + 1))) := by
  have := iter_upto (body := R06_Stabilised_b0 b0 b1 b2 a0 a1 R) (fun n => ((upT b0 b1 b2 (outT b0 b1 b2 a0 a1 R n)).1, -(R : Int) + n, (upT b0 b1 b2 (outT b0 b1 b2 a0 a1 R n)).2)) (k := 2 * R + 1) (y := upT b0 b1 b2 (outT b0 b1 b2 a0 a1 R (2 * R + 1))) (fun n hn => by
    unfold R06_Stabilised_b0
    dsimp only
    rw [if_pos (by omega), Int.zero_sub, wr64 (x := -(R : Int)) (by omega)]
    have := innerR (R := R) hc hR ((upT b0 b1 b2 (outT b0 b1 b2 a0 a1 R n)).1, -(R : Int) + n, (upT b0 b1 b2 (outT b0 b1 b2 a0 a1 R n)).2) (outT b0 b1 b2 a0 a1 R n) (by dsimp only; omega)
    dsimp only at this
    rw [this, bind_some']
    unfold R06_Stabilised_r1
    dsimp only
    rw [wr64 (x := -(R : Int) + n + 1) (by omega)]
    have e : -(R : Int) + n + 1 = -(R : Int) + ((n + 1 : Nat) : Int) := by omega
    rw [e]
    rfl) (by
    unfold R06_Stabilised_b0
    dsimp only
    rw [if_neg (by omega)]) (by omega)
  simpa [outT, upT] using this

/-! what comes out -/

/-- What is kept of a state: it is none, or a good section so far away. -/
def InvT (b0 b1 b2 a0 a1 : Int) (s : Int × Int × Int) : Prop :=
  s.1 = -1 ∨ ∃ i j, s = (szI i + szI j, a0 + i, a1 + j) ∧ goodB b0 b1 b2 a0 a1 i j = true

theorem step_inv {s : Int × Int × Int} (h : InvT b0 b1 b2 a0 a1 s) (i j : Int) : InvT b0 b1 b2 a0 a1 (stepT b0 b1 b2 a0 a1 s i j) := by
  unfold stepT
  split
  · rename_i hg
    simp only [Bool.and_eq_true] at hg
    exact .inr ⟨i, j, rfl, hg.2⟩
  · exact h
theorem in_inv {s : Int × Int × Int} (h : InvT b0 b1 b2 a0 a1 s) (i : Int) : ∀ m, InvT b0 b1 b2 a0 a1 (inT b0 b1 b2 a0 a1 R s i m)
  | 0 => h
  | m + 1 => step_inv (in_inv h i m) _ _
theorem out_inv : ∀ n, InvT b0 b1 b2 a0 a1 (outT b0 b1 b2 a0 a1 R n)
  | 0 => .inl rfl
  | n + 1 => in_inv (out_inv n) _ _

theorem szI_nonneg (x : Int) : 0 ≤ szI x := by unfold szI; omega

/-- Once 0, always 0. -/
theorem step_zero {s : Int × Int × Int} (h : s.1 = 0) (i j : Int) : (stepT b0 b1 b2 a0 a1 s i j).1 = 0 := by
  unfold stepT
  have := szI_nonneg i
  have := szI_nonneg j
  rw [if_neg (by simp [h]; omega)]
  exact h
theorem in_zero {s : Int × Int × Int} (h : s.1 = 0) (i : Int) : ∀ m, (inT b0 b1 b2 a0 a1 R s i m).1 = 0
  | 0 => h
  | m + 1 => step_zero (in_zero h i m) _ _
theorem in_zero_from {s : Int × Int × Int} (i : Int) {k : Nat} (h : (inT b0 b1 b2 a0 a1 R s i k).1 = 0) : ∀ m, k ≤ m → (inT b0 b1 b2 a0 a1 R s i m).1 = 0 := by
  intro m hm
  induction m with
  | zero => obtain rfl : k = 0 := by omega
            exact h
  | succ m ih =>
    by_cases e : k = m + 1
    · subst e; exact h
    · exact step_zero (ih (by omega)) _ _
theorem out_zero_from {k : Nat} (h : (outT b0 b1 b2 a0 a1 R k).1 = 0) : ∀ n, k ≤ n → (outT b0 b1 b2 a0 a1 R n).1 = 0 := by
  intro n hn
  induction n with
  | zero => obtain rfl : k = 0 := by omega
            exact h
  | succ n ih =>
    by_cases e : k = n + 1
    · subst e; exact h
    · exact in_zero (ih (by omega)) _ _

/-- A stable section is its own. -/
theorem out_self (hc : chkS b0 b1 b2 a0 a1 = 0) (hs : stB a0 a1 = true) : (outT b0 b1 b2 a0 a1 R (2 * R + 1)).1 = 0 := by
  refine out_zero_from (k := R + 1) ?_ _ (by omega)
  show (inT b0 b1 b2 a0 a1 R (outT b0 b1 b2 a0 a1 R R) (-(R : Int) + R) (2 * R + 1)).1 = 0
  have e0 : -(R : Int) + R = 0 := by omega
  rw [e0]
  refine in_zero_from 0 (k := R + 1) ?_ _ (by omega)
  show (stepT b0 b1 b2 a0 a1 (inT b0 b1 b2 a0 a1 R (outT b0 b1 b2 a0 a1 R R) 0 R) 0 (-(R : Int) + R)).1 = 0
  rw [e0]
  have hinv : InvT b0 b1 b2 a0 a1 (inT b0 b1 b2 a0 a1 R (outT b0 b1 b2 a0 a1 R R) 0 R) := in_inv (out_inv R) 0 R
  generalize inT b0 b1 b2 a0 a1 R (outT b0 b1 b2 a0 a1 R R) 0 R = s at hinv
  have hg : goodB b0 b1 b2 a0 a1 0 0 = true := by unfold goodB; simp [hc, hs]
  unfold stepT
  have z : szI 0 + szI 0 = 0 := by decide
  rw [z, hg]
  by_cases h1 : s.1 < 0
  · rw [if_pos (by simp [h1])]
  · by_cases h2 : 0 < s.1
    · rw [if_pos (by simp [h2])]
    · rw [if_neg (by simp [h1, h2])]
      omega
end

/-- **The law.** -/
theorem filterStabilised_true (b0 b1 b2 a0 a1 reach : Int) : L06_FilterStabilised b0 b1 b2 a0 a1 reach = some true := by
  unfold L06_FilterStabilised F_Stabilised
  rw [if_pos (by simp), checkSection_eq]
  by_cases hc : chkS b0 b1 b2 a0 a1 = 0
  · by_cases hr : 0 ≤ reach ∧ reach ≤ 20
    · obtain ⟨R, rfl⟩ : ∃ R : Nat, reach = R := ⟨reach.toNat, by omega⟩
      have hR : R ≤ 20 := by omega
      have hw : (decide (0 ≤ (R : Int)) && decide ((R : Int) ≤ 20)) = true := by simp; omega
      rw [if_neg (by rw [hw, hc]; decide), Int.zero_sub, wr64 (x := -(R : Int)) (by omega), outerF hc hR, bind_some']
      have hRef : R06_Stabilised b0 b1 b2 a0 a1 R = (R06_Stabilised_r0 (upT b0 b1 b2 (outT b0 b1 b2 a0 a1 R (2 * R + 1)))) := by
        unfold R06_Stabilised
        rw [if_neg (by simp; omega), Int.zero_sub, wr64 (x := -(R : Int)) (by omega), outerR hc hR, bind_some']
      rw [hRef]
      have hinv : InvT b0 b1 b2 a0 a1 (outT b0 b1 b2 a0 a1 R (2 * R + 1)) := out_inv _
      have hself := out_self (R := R) hc (b0 := b0) (b1 := b1) (b2 := b2) (a0 := a0) (a1 := a1)
      generalize outT b0 b1 b2 a0 a1 R (2 * R + 1) = s at hinv hself
      unfold F_Stabilised_r0 R06_Stabilised_r0
      rcases hinv with h1 | ⟨i, j, rfl, hg⟩
      · have hneg : s.1 < 0 := by omega
        rw [if_pos hneg, bind_some', bind_some', if_pos (by simpa using hc)]
        have : (upT b0 b1 b2 s).1 < 0 := by unfold upT; rw [if_pos hneg]; exact hneg
        rw [if_pos this, bind_some']
        simp
      · have hnn : ¬ (szI i + szI j < 0) := by have := szI_nonneg i; have := szI_nonneg j; omega
        have eu : upT b0 b1 b2 (szI i + szI j, a0 + i, a1 + j) = (szI i + szI j, b0, b1, b2, a0 + i, a1 + j) := by unfold upT; rw [if_neg hnn]
        rw [if_neg hnn, bind_some', bind_some', if_pos (by simpa using hc), eu, if_neg hnn, bind_some', if_neg (by simp), if_neg (by simp), if_neg (by simp), if_neg (by simp), isStableF_eq, bind_some']
        unfold goodB at hg
        simp only [Bool.and_eq_true, decide_eq_true_eq] at hg
        rw [if_pos hg.1, if_pos (by simp), if_pos hg.2, isStableR_eq hc, bind_some']
        congr 1
        rw [beq_iff_eq]
        dsimp only
        cases hst : stB a0 a1 with
        | true =>
          have := hself hst
          dsimp only at this
          rw [this]
          rfl
        | false =>
          by_cases hz : szI i + szI j = 0
          · exfalso
            have hi : i = 0 := by have := szI_nonneg j; unfold szI at *; omega
            have hj : j = 0 := by have := szI_nonneg i; unfold szI at *; omega
            subst hi hj
            rw [Int.add_zero, Int.add_zero, hst] at hg
            cases hg.2
          · simpa using hz
    · have hw : (decide (0 ≤ reach) && decide (reach ≤ 20)) = false := by
        rw [Bool.eq_false_iff]; intro h; simp at h; exact hr h
      rw [if_pos (by simp [hc, hw]), bind_some', bind_some', if_pos (by simpa using hc)]
      unfold R06_Stabilised
      rw [if_pos (by rw [hw]; rfl), bind_some']
      simp [hc, hw]
  · have e : (chkS b0 b1 b2 a0 a1 != 0) = true := by simpa using hc
    simp only [List.find?_cons, e, Option.getD_some, if_true]
    rw [bind_some', bind_some', if_neg (by simpa using hc)]
    simp [hc]
end Go.Sh
