/- Plain law: stability, reflections and the first unstable section. -/
import Derived.Test.YtndhdojnlobloaaLB
import Derived.Test.YtndhdojnlobloaaLG
namespace Go.Sh
open Go Go.Proofs Go.RowKit Go.Sx Go.Sx06

/-- Is a section stable? -/
def stB (a0 a1 : Int) : Bool := decide (max a1 (-a1) < 16384) && decide (max a0 (-a0) < 16384 + a1)
def stR (r : List Int) : Bool := stB (r.getD 3 0) (r.getD 4 0)

theorem secB_chk {b0 b1 b2 a0 a1 : Int} (h : chkS b0 b1 b2 a0 a1 = 0) : secB b0 b1 b2 a0 a1 = true := by
  unfold chkS at h
  split at h
  · assumption
  · omega

theorem unstable1_eq {r : List Int} (h : chkRow r = 0) : F_FirstUnstable_1 (r.getD 0 0) (r.getD 1 0) (r.getD 2 0) (r.getD 3 0) (r.getD 4 0) = some (!stR r) := by
  unfold F_FirstUnstable_1
  rw [if_pos (secB_chk h)]
  rfl

theorem isStableR_eq {b0 b1 b2 a0 a1 : Int} (h : chkS b0 b1 b2 a0 a1 = 0) : R06_IsStable b0 b1 b2 a0 a1 = some (stB a0 a1) := by
  obtain ⟨_, _, _, p3, p4⟩ := part_of_chk h
  unfold R06_IsStable stB
  rw [if_pos (by omega), wr64 (x := 16384 + a1) (by omega)]
  by_cases h1 : max a1 (-a1) < 16384
  · rw [if_pos h1, if_pos (by omega)]
    simp [h1]
  · rw [if_neg h1]
    simp [h1]

theorem isStableF_eq (b0 b1 b2 a0 a1 : Int) : F_IsStable b0 b1 b2 a0 a1 = some (if chkS b0 b1 b2 a0 a1 = 0 then (stB a0 a1, 0) else (false, chkS b0 b1 b2 a0 a1)) := by
  unfold F_IsStable
  by_cases h : chkS b0 b1 b2 a0 a1 = 0
  · rw [if_neg (by simpa using h), if_pos (secB_chk h), if_pos h]
    rfl
  · rw [if_pos (by simpa using h), if_neg h]

/-- The number of the first unstable section. -/
def fuS (c : List (List Int)) : Int × Int := match c.findIdx? (fun r => !stR r) with
  | some i => ((i : Int), 0)
  | none => (0, 12)

theorem indexFunc_eq {c : List (List Int)} (h : chkE c = 0) : slices_IndexFunc_FilterSection c = some (match c.findIdx? (fun r => !stR r) with | some i => (i : Int) | none => -1) := by
  obtain ⟨hl, hrow⟩ := bounds_chk h
  have hrun := iter_first c [] (fun r => !stR r) (body := slices_IndexFunc_FilterSection_b0 c) (fun i => .inl (i : Int)) (.inr ()) (by omega)
    (fun i hi hp => by
      unfold slices_IndexFunc_FilterSection_b0
      rw [if_pos (by omega), if_pos (by omega), if_pos (by omega), Int.toNat_natCast, unstable1_eq (hrow _ (by simp [List.getD, hi])), bind_some', if_pos hp])
    (fun i hi hp => by
      unfold slices_IndexFunc_FilterSection_b0
      rw [if_pos (by omega), if_pos (by omega), if_pos (by omega), Int.toNat_natCast, unstable1_eq (hrow _ (by simp [List.getD, hi])), bind_some', if_neg (by rw [hp]; simp), wr64 (by omega)])
    (by unfold slices_IndexFunc_FilterSection_b0; rw [if_neg (by omega)])
  unfold slices_IndexFunc_FilterSection
  rw [hrun]
  cases c.findIdx? (fun r => !stR r) <;> rfl

theorem firstUnstableF_eq {c : List (List Int)} (hl : c.length ≤ 1000000000) : F_FirstUnstable c = some (if chkE c = 0 then fuS c else (0, chkE c)) := by
  unfold F_FirstUnstable
  rw [if_pos hl]
  by_cases h : chkE c = 0
  · rw [if_neg (by simpa using h), if_pos h, indexFunc_eq h, bind_some']
    unfold fuS
    cases c.findIdx? (fun r => !stR r) with
    | none => rfl
    | some i =>
      simp only
      rw [if_neg (by omega)]
  · rw [if_pos (by simpa using h), if_neg h]

theorem firstUnstableR_eq {c : List (List Int)} (h : chkE c = 0) : R06_FirstUnstable c = some (fuS c) := by
  obtain ⟨hl, hrow⟩ := bounds_chk h
  have hrun := iter_first c [] (fun r => !stR r) (body := R06_FirstUnstable_b0 c) (fun i => .inl (i : Int)) (.inr ()) (by omega)
    (fun i hi hp => by
      unfold R06_FirstUnstable_b0
      rw [if_pos (by omega), if_pos (by omega), if_pos (by omega), Int.toNat_natCast, isStableR_eq (hrow _ (by simp [List.getD, hi])), bind_some', if_pos (show (!stB _ _) = true from hp)])
    (fun i hi hp => by
      unfold R06_FirstUnstable_b0
      rw [if_pos (by omega), if_pos (by omega), if_pos (by omega), Int.toNat_natCast, isStableR_eq (hrow _ (by simp [List.getD, hi])), bind_some', if_neg (by simpa [stR] using hp), wr64 (by omega)])
    (by unfold R06_FirstUnstable_b0; rw [if_neg (by omega)])
  unfold R06_FirstUnstable fuS
  rw [hrun]
  cases c.findIdx? (fun r => !stR r) <;> rfl

/-- The reflections. -/
def refS (a0 a1 : Int) : Int × Int × Int × Int × Int :=
  if 16384 + a1 = 0 then (0, 0, 0, 0, 11) else ((lowS a1 16384).1, (lowS a1 16384).2, (lowS a0 (16384 + a1)).1, (lowS a0 (16384 + a1)).2, 0)

theorem reflectionsR_eq {b0 b1 b2 a0 a1 : Int} (h : chkS b0 b1 b2 a0 a1 = 0) : R06_Reflections b0 b1 b2 a0 a1 = some (refS a0 a1) := by
  obtain ⟨_, _, _, p3, p4⟩ := part_of_chk h
  unfold R06_Reflections refS
  rw [wr64 (x := 16384 + a1) (by omega)]
  by_cases h0 : 16384 + a1 = 0
  · rw [if_pos (by simpa using h0), if_pos h0]
  · rw [if_neg (by simpa using h0), if_neg h0, fractionR_eq (by unfold inJ; omega) (by unfold inJ; omega) (by omega), bind_some', fractionR_eq (by unfold inJ; omega) (by unfold inJ; omega) h0, bind_some']

theorem reflectionsF_eq (b0 b1 b2 a0 a1 : Int) : F_Reflections b0 b1 b2 a0 a1 = some (if chkS b0 b1 b2 a0 a1 = 0 then refS a0 a1 else (0, 0, 0, 0, chkS b0 b1 b2 a0 a1)) := by
  unfold F_Reflections
  rw [if_pos (by simp)]
  by_cases h : chkS b0 b1 b2 a0 a1 = 0
  · obtain ⟨_, _, _, p3, p4⟩ := part_of_chk h
    rw [if_pos h, h, wr64 (x := 16384 + a1) (by omega)]
    unfold refS
    by_cases h0 : 16384 + a1 = 0
    · rw [if_pos h0]
      simp [h0]
    · have e : (16384 + a1 != 0) = true := by simpa using h0
      simp only [e, if_true]
      rw [if_neg (by decide), if_neg h0, lowestF_eq (by unfold inJ; omega) (by unfold inJ; omega) (by omega), bind_some', lowestF_eq (by unfold inJ; omega) (by unfold inJ; omega) h0, bind_some']
  · have e : (chkS b0 b1 b2 a0 a1 != 0) = true := by simpa using h
    simp only [List.find?_cons, e, Option.getD_some, if_true]
    rw [if_neg h]

theorem low_lt {n d : Int} (hd : 0 < d) : max (lowS n d).1 (-(lowS n d).1) < (lowS n d).2 ↔ max n (-n) < d := by
  unfold lowS
  rw [if_neg (by omega)]
  have hp : 0 < Int.gcd n d := Int.gcd_pos_of_ne_zero_right _ (by omega)
  obtain ⟨n', hn⟩ := Int.gcd_dvd_left n d
  obtain ⟨d', hd'⟩ := Int.gcd_dvd_right n d
  generalize hg : (Int.gcd n d : Int) = g at *
  have hgp : 0 < g := by omega
  subst hn hd'
  rw [Int.mul_tdiv_cancel_left _ (by omega), Int.mul_tdiv_cancel_left _ (by omega)]
  have h1 : ∀ x y : Int, g * x < g * y ↔ x < y := fun x y => Int.mul_lt_mul_left hgp
  have e : max (g * n') (-(g * n')) = g * max n' (-n') := by
    rw [← Int.mul_neg]
    rcases Int.le_total n' (-n') with h | h
    · rw [Int.max_eq_right h, Int.max_eq_right (Int.mul_le_mul_of_nonneg_left h (by omega))]
    · rw [Int.max_eq_left h, Int.max_eq_left (Int.mul_le_mul_of_nonneg_left h (by omega))]
  rw [e, h1]

theorem low_bound {n d : Int} (hn : -32768 ≤ n ∧ n ≤ 32768) (h0 : d ≠ 0) : -32768 ≤ (lowS n d).1 ∧ (lowS n d).1 ≤ 32768 := by
  have hp : 0 < Int.gcd n d := Int.gcd_pos_of_ne_zero_right _ h0
  have t := tdiv_bounds (n := n) (b := (Int.gcd n d : Int)) (by omega)
  unfold lowS
  by_cases hneg : d < 0
  · rw [if_pos hneg, Int.tdiv_neg]
    omega
  · rw [if_neg hneg]
    omega

/-- **The law.** -/
theorem filterChecks_true {c : List (List Int)} (b0 b1 b2 a0 a1 : Int) (hl : c.length ≤ 1000000000000000) : L06_FilterChecks c b0 b1 b2 a0 a1 = some true := by
  -- the section
  have key : ∀ (x : Int × Int) (y : Int × Int), x = y → x = y := fun _ _ h => h
  have sec : (Option.bind (F_IsStable b0 b1 b2 a0 a1) fun r6 =>
         Option.bind (F_Reflections b0 b1 b2 a0 a1) fun r7 =>
         Option.bind (R06_CheckSection b0 b1 b2 a0 a1) fun r8 =>
         if (Sx06.chkS b0 b1 b2 a0 a1 != r8) = true then
          some false
         else
          if (r8 != (0 : Int)) = true then
           if (r6.2 == r8) = true then
            if (r7.2.2.2.2 == r8) = true then
             if (!r6.1) = true then
              some (r7.1 == (0 : Int) && r7.2.1 == (0 : Int) && (r7.2.2.1 == (0 : Int) && r7.2.2.2.1 == (0 : Int)))
             else
              some false
            else
             some false
           else
            some false
          else
           Option.bind (R06_Reflections b0 b1 b2 a0 a1) fun r9 =>
           if (r6.2 != (0 : Int)) = true then
            some false
           else
            Option.bind (R06_IsStable b0 b1 b2 a0 a1) fun r10 =>
            if (!r6.1 == r10) = true then
             some false
            else
             if (r7.2.2.2.2 != r9.2.2.2.2) = true then
              some false
             else
              if (!(r7.1 == r9.1 && r7.2.1 == r9.2.1 && (r7.2.2.1 == r9.2.2.1 && r7.2.2.2.1 == r9.2.2.2.1))) = true then
               some false
              else
               if (r9.2.2.2.2 != (0 : Int)) = true then
                some true
               else
                if (-9223372036854775807 : Int) ≤ r7.1 ∧ r7.1 ≤ (9223372036854775807 : Int) then
                 if max r7.1 (-r7.1) < r7.2.1 then
                  if (-9223372036854775807 : Int) ≤ r7.2.2.1 ∧ r7.2.2.1 ≤ (9223372036854775807 : Int) then
                   some (r6.1 == decide (max r7.2.2.1 (-r7.2.2.1) < r7.2.2.2.1))
                  else none
                 else
                  some (r6.1 == false)
                else none) = some true := by
    rw [isStableF_eq, bind_some', reflectionsF_eq, bind_some', checkSection_eq, bind_some']
    by_cases h : chkS b0 b1 b2 a0 a1 = 0
    · obtain ⟨_, _, _, p3, p4⟩ := part_of_chk h
      rw [if_neg (by simp), if_neg (by simpa using h), reflectionsR_eq h, bind_some', if_pos h, if_pos h, if_neg (by simp), isStableR_eq h, bind_some', if_neg (by simp), if_neg (by simp), if_neg (by simp)]
      by_cases h0 : 16384 + a1 = 0
      · have e : refS a0 a1 = (0, 0, 0, 0, 11) := by unfold refS; rw [if_pos h0]
        rw [e]
        rfl
      · have e : refS a0 a1 = ((lowS a1 16384).1, (lowS a1 16384).2, (lowS a0 (16384 + a1)).1, (lowS a0 (16384 + a1)).2, 0) := by unfold refS; rw [if_neg h0]
        have l1 := low_bound (n := a1) (d := 16384) p4 (by omega)
        have l2 := low_bound (n := a0) (d := 16384 + a1) p3 h0
        rw [e]
        simp only [bne_self_eq_false, Bool.false_eq_true, if_false]
        rw [if_pos (by omega)]
        have k1 := low_lt (n := a1) (d := 16384) (by omega)
        by_cases h1 : max a1 (-a1) < 16384
        · rw [if_pos (k1.2 h1), if_pos (by omega)]
          have k2 := low_lt (n := a0) (d := 16384 + a1) (by omega)
          have e2 : decide (max (lowS a0 (16384 + a1)).1 (-(lowS a0 (16384 + a1)).1) < (lowS a0 (16384 + a1)).2) = decide (max a0 (-a0) < 16384 + a1) := by rw [decide_eq_decide]; exact k2
          rw [e2]
          unfold stB
          simp [h1]
        · rw [if_neg (fun hc => h1 (k1.1 hc))]
          unfold stB
          simp [h1]
    · rw [if_neg (by simp), if_pos (by simpa using h), if_neg h, if_neg h, if_pos (by simp), if_pos (by simp), if_pos (by simp)]
      rfl
  unfold L06_FilterChecks
  rw [few_eq, bind_some']
  by_cases h8 : (c.length : Int) ≤ 8
  · rw [if_neg (by simpa using h8), copy_eq (by omega), bind_some', if_pos (by omega), bind_some', firstUnstableF_eq (by omega), bind_some', checkCascade_eq (by omega), bind_some', if_neg (by simp), if_neg (by simp)]
    by_cases h : chkE c = 0
    · rw [if_pos (by simpa using h), firstUnstableR_eq h, bind_some', if_pos h, if_neg (by simp), if_neg (by simp)]
      exact sec
    · rw [if_neg (by simpa using h), if_neg h, if_neg (by simp), if_neg (by simp)]
      exact sec
  · rw [if_pos (by simpa using h8)]
end Go.Sh
