/- Plain law: sections of fractions. -/
import Derived.Test.YtndhdojnlobloaaLB
import Derived.Test.YtndhdojnlobloaaLG
namespace Go.Sh
open Go Go.Proofs Go.RowKit Go.Sx Go.Sx06

theorem gcd_le_right {a b : Int} (hb : inJ b) (h0 : b ≠ 0) : Int.gcd a b ≤ 9223372036854775807 := by
  unfold inJ at hb
  have : Int.gcd a b ≤ b.natAbs := Nat.le_of_dvd (by omega) (Int.gcd_dvd_natAbs_right a b)
  omega
theorem divisorF_eq' {a b : Int} (hb : inJ b) (h0 : b ≠ 0) : F_divisor a b = some (Int.gcd a b : Int) := by
  obtain ⟨g, h1, h2⟩ := gcd_big (a := a) hb
  have h3 := gcd_le_right (a := a) hb h0
  unfold F_divisor
  rw [show iter F_divisor_b0 big (a, b) = some g from h1, bind_some']
  unfold F_divisor_r0
  rw [if_pos (by omega)]
  congr 1
  omega
theorem gcdR_eq' {a b : Int} (hb : inJ b) (h0 : b ≠ 0) : B_Gcd a b = some (Int.gcd a b : Int) := by
  obtain ⟨g, h1, h2⟩ := gcd_big (a := a) hb
  have h3 := gcd_le_right (a := a) hb h0
  unfold B_Gcd
  rw [show iter B_Gcd_b0 big (a, b) = some g from h1, bind_some']
  unfold B_Gcd_r0
  rw [if_pos (by omega)]
  congr 1
  omega

/-- The error of a fraction. -/
def fracE (n d : Int) : Int := if ¬ (0 < d ∧ Int.gcd n d = 1) then 3 else if ¬ (-1000000000 ≤ n ∧ n ≤ 1000000000 ∧ d ≤ 1000000000) then 2 else 0
theorem fracE_ok {n d : Int} (h : fracE n d = 0) : 0 < d ∧ Int.gcd n d = 1 ∧ -1000000000 ≤ n ∧ n ≤ 1000000000 ∧ d ≤ 1000000000 := by
  unfold fracE at h
  split at h
  · cases h
  · rename_i h1
    have h1 := Classical.byContradiction h1
    split at h
    · cases h
    · rename_i h2
      have h2 := Classical.byContradiction h2
      exact ⟨h1.1, h1.2, h2⟩

theorem fracF_eq {n d : Int} (hd : inI d) : F_fracErr n d = some (fracE n d) := by
  unfold F_fracErr fracE
  unfold inI at hd
  by_cases h0 : d > 0
  · rw [if_pos h0, divisorF_eq' (by unfold inJ; omega) (by omega), bind_some']
    have e1 : (((Int.gcd n d : Int)) == 1) = decide (Int.gcd n d = 1) := by
      rw [Bool.eq_iff_iff]; simp; omega
    rw [e1]
    by_cases h1 : Int.gcd n d = 1
    · by_cases h2 : -1000000000 ≤ n ∧ n ≤ 1000000000
      · rw [if_pos (by simpa using h2), if_pos (by simp)]
        by_cases h3 : d ≤ 1000000000 <;> simp [h0, h1, h2, h3]
      · rw [if_neg (by simpa using h2), if_pos (by simp)]
        have h4 : ¬ (-1000000000 ≤ n ∧ n ≤ 1000000000 ∧ d ≤ 1000000000) := fun hc => h2 ⟨hc.1, hc.2.1⟩
        rw [if_neg (show ¬¬ (0 < d ∧ Int.gcd n d = 1) from fun hc => hc ⟨h0, h1⟩), if_pos h4]
        simp [h1]
    · rw [if_pos (show ¬ (0 < d ∧ Int.gcd n d = 1) from fun hc => h1 hc.2)]
      split <;> rw [if_pos (by simp)] <;> simp [h1]
  · rw [if_neg h0, if_pos (show ¬ (0 < d ∧ Int.gcd n d = 1) from fun hc => h0 hc.1)]
    split
    · rw [if_pos (by simp)]; simp
    · simp

theorem fracR_eq {n d : Int} (hd : inI d) : R06_FracErr n d = some (fracE n d) := by
  unfold R06_FracErr B_IsLowest fracE
  unfold inI at hd
  by_cases h0 : d > 0
  · rw [if_pos h0, gcdR_eq' (by unfold inJ; omega) (by omega), bind_some', bind_some']
    have e1 : (((Int.gcd n d : Int)) == 1) = decide (Int.gcd n d = 1) := by
      rw [Bool.eq_iff_iff]; simp; omega
    rw [e1]
    by_cases h1 : Int.gcd n d = 1
    · rw [if_neg (by simpa using h1), if_neg (fun hc => hc ⟨h0, h1⟩)]
      unfold B_IsSmall
      by_cases h2 : -1000000000 ≤ n ∧ n ≤ 1000000000
      · rw [if_pos (by simpa using h2), bind_some']
        by_cases h3 : d ≤ 1000000000
        · rw [if_neg (by simp; omega), if_neg (fun hc => hc ⟨h2.1, h2.2, h3⟩)]
        · rw [if_pos (by simp; omega), if_pos (fun hc => h3 hc.2.2)]
      · rw [if_neg (by simpa using h2), bind_some', if_pos (by simp), if_pos (fun hc => h2 ⟨hc.1, hc.2.1⟩)]
    · rw [if_pos (by simpa using h1), if_pos (fun hc => h1 hc.2)]
  · rw [if_neg h0, bind_some', if_pos (by simp), if_pos (show ¬ (0 < d ∧ Int.gcd n d = 1) from fun hc => h0 hc.1)]

/-- A coefficient. -/
def cof (n d : Int) : Int := (2 * (n * 16384) + d) / (2 * d)

theorem lev_f {R : Type} {n d : Int} (hd : inI d) {E : Int → Option R} {e8 X : Option R} :
    (Option.bind (F_fracErr n d) fun r0 => if (r0 != (0 : Int)) = true then E r0 else
      if (-4611686018427387904 : Int) < (2 : Int) * IntKind.wrap IntKind.i64 (n * (16384 : Int)) + d ∧ (2 : Int) * IntKind.wrap IntKind.i64 (n * (16384 : Int)) + d < (4611686018427387904 : Int) ∧ (0 : Int) < d ∧ d < (4611686018427387904 : Int) then
        if (!(decide ((-32768 : Int) ≤ ((2 : Int) * IntKind.wrap IntKind.i64 (n * (16384 : Int)) + d) / ((2 : Int) * d)) && decide (((2 : Int) * IntKind.wrap IntKind.i64 (n * (16384 : Int)) + d) / ((2 : Int) * d) ≤ (32768 : Int)))) = true then e8 else X
      else none) = if fracE n d ≠ 0 then E (fracE n d) else if partB (cof n d) = true then X else e8 := by
  rw [fracF_eq hd, bind_some']
  by_cases h : fracE n d = 0
  · obtain ⟨h1, h2, h3, h4, h5⟩ := fracE_ok h
    rw [if_neg (by simpa using h), if_neg (show ¬ (fracE n d ≠ 0) from fun hc => hc h), wr64 (x := n * 16384) (by omega), if_pos (by omega)]
    show (if (!partB (cof n d)) = true then e8 else X) = _
    cases partB (cof n d) <;> rfl
  · rw [if_pos (by simpa using h), if_pos h]

theorem lev_r {R : Type} {n d : Int} (hd : inI d) {E : Int → Option R} {e8 : Option R} {X : Int → Option R} :
    (Option.bind (R06_FracErr n d) fun r0 => if (r0 != (0 : Int)) = true then E r0 else
      Option.bind (B_Floor (IntKind.wrap IntKind.i64 (IntKind.wrap IntKind.i64 (IntKind.wrap IntKind.i64 ((2 : Int) * n) * (16384 : Int)) + d)) (IntKind.wrap IntKind.i64 ((2 : Int) * d))) fun r1 =>
        if (!(decide ((-32768 : Int) ≤ r1) && decide (r1 ≤ (32768 : Int)))) = true then e8 else X r1) = if fracE n d ≠ 0 then E (fracE n d) else if partB (cof n d) = true then X (cof n d) else e8 := by
  rw [fracR_eq hd, bind_some']
  by_cases h : fracE n d = 0
  · obtain ⟨h1, h2, h3, h4, h5⟩ := fracE_ok h
    have e : 2 * n * 16384 = 2 * (n * 16384) := by omega
    rw [if_neg (by simpa using h), if_neg (show ¬ (fracE n d ≠ 0) from fun hc => hc h), wr64 (x := 2 * n) (by omega), wr64 (x := 2 * n * 16384) (by omega), wr64 (x := 2 * n * 16384 + d) (by omega), wr64 (x := 2 * d) (by omega), floor_eq (by omega) (by omega), bind_some', e]
    show (if (!partB (cof n d)) = true then e8 else X (cof n d)) = _
    cases partB (cof n d) <;> rfl
  · rw [if_pos (by simpa using h), if_pos h]

/-- The section of fractions, or the error. -/
def quS (n0 d0 n1 d1 n2 d2 n3 d3 n4 d4 : Int) : Option (Int × Int × Int × Int × Int × Int) :=
  if fracE n0 d0 ≠ 0 then some (0, 0, 0, 0, 0, fracE n0 d0) else if partB (cof n0 d0) = true then
  if fracE n1 d1 ≠ 0 then some (0, 0, 0, 0, 0, fracE n1 d1) else if partB (cof n1 d1) = true then
  if fracE n2 d2 ≠ 0 then some (0, 0, 0, 0, 0, fracE n2 d2) else if partB (cof n2 d2) = true then
  if fracE n3 d3 ≠ 0 then some (0, 0, 0, 0, 0, fracE n3 d3) else if partB (cof n3 d3) = true then
  if fracE n4 d4 ≠ 0 then some (0, 0, 0, 0, 0, fracE n4 d4) else if partB (cof n4 d4) = true then
    some (cof n0 d0, cof n1 d1, cof n2 d2, cof n3 d3, cof n4 d4, 0)
  else some (0, 0, 0, 0, 0, 8) else some (0, 0, 0, 0, 0, 8) else some (0, 0, 0, 0, 0, 8) else some (0, 0, 0, 0, 0, 8) else some (0, 0, 0, 0, 0, 8)

theorem wcof {n d : Int} (h : fracE n d = 0) : ((2 : Int) * IntKind.wrap IntKind.i64 (n * (16384 : Int)) + d) / ((2 : Int) * d) = cof n d := by
  obtain ⟨h1, h2, h3, h4, h5⟩ := fracE_ok h
  rw [wr64 (x := n * 16384) (by omega)]
  rfl

theorem quantF_eq {n0 d0 n1 d1 n2 d2 n3 d3 n4 d4 : Int} (h0 : inI d0) (h1 : inI d1) (h2 : inI d2) (h3 : inI d3) (h4 : inI d4) : F_Quantised n0 d0 n1 d1 n2 d2 n3 d3 n4 d4 = quS n0 d0 n1 d1 n2 d2 n3 d3 n4 d4 := by
  unfold F_Quantised
  rw [lev_f h0, lev_f h1, lev_f h2, lev_f h3, lev_f h4]
  unfold quS
  by_cases e0 : fracE n0 d0 = 0
  · by_cases e1 : fracE n1 d1 = 0
    · by_cases e2 : fracE n2 d2 = 0
      · by_cases e3 : fracE n3 d3 = 0
        · by_cases e4 : fracE n4 d4 = 0
          · rw [wcof e0, wcof e1, wcof e2, wcof e3, wcof e4]
          · simp only [e4, ne_eq, not_false_eq_true, if_true]
        · simp only [e3, ne_eq, not_false_eq_true, if_true]
      · simp only [e2, ne_eq, not_false_eq_true, if_true]
    · simp only [e1, ne_eq, not_false_eq_true, if_true]
  · simp only [e0, ne_eq, not_false_eq_true, if_true]

theorem quantR_eq {n0 d0 n1 d1 n2 d2 n3 d3 n4 d4 : Int} (h0 : inI d0) (h1 : inI d1) (h2 : inI d2) (h3 : inI d3) (h4 : inI d4) : R06_Quantised n0 d0 n1 d1 n2 d2 n3 d3 n4 d4 = quS n0 d0 n1 d1 n2 d2 n3 d3 n4 d4 := by
  unfold R06_Quantised
  rw [lev_r h0 (X := fun r1 => _), lev_r h1 (X := fun r3 => _), lev_r h2 (X := fun r5 => _), lev_r h3 (X := fun r7 => _), lev_r h4 (X := fun r9 => _)]
  rfl

/-- A coefficient is at most half a part away. -/
theorem lev_h {R : Type} {n d : Int} (h : fracE n d = 0) (hp : partB (cof n d) = true) {F X : Option R} :
    (if (-9223372036854775807 : Int) ≤ IntKind.wrap IntKind.i64 (IntKind.wrap IntKind.i64 (n * (16384 : Int)) - IntKind.wrap IntKind.i64 (cof n d * d)) ∧ IntKind.wrap IntKind.i64 (IntKind.wrap IntKind.i64 (n * (16384 : Int)) - IntKind.wrap IntKind.i64 (cof n d * d)) ≤ (9223372036854775807 : Int) then
      if IntKind.wrap IntKind.i64 ((2 : Int) * max (IntKind.wrap IntKind.i64 (IntKind.wrap IntKind.i64 (n * (16384 : Int)) - IntKind.wrap IntKind.i64 (cof n d * d))) (-IntKind.wrap IntKind.i64 (IntKind.wrap IntKind.i64 (n * (16384 : Int)) - IntKind.wrap IntKind.i64 (cof n d * d)))) > d then F else X
     else none) = X := by
  obtain ⟨h1, h2, h3, h4, h5⟩ := fracE_ok h
  have hc : -32768 ≤ cof n d ∧ cof n d ≤ 32768 := by simpa [partB] using hp
  have e1 : 2 * d * cof n d ≤ 2 * (n * 16384) + d := Int.mul_ediv_self_le (by omega)
  have e2 : 2 * (n * 16384) + d < 2 * d * cof n d + 2 * d := Int.lt_mul_ediv_self_add (by omega)
  have e3 : 2 * d * cof n d = 2 * (cof n d * d) := by rw [Int.mul_assoc, Int.mul_comm d]
  rw [wr64 (x := n * 16384) (by omega), wr64 (x := cof n d * d) (by omega), wr64 (x := n * 16384 - cof n d * d) (by omega), if_pos (by omega), wr64 (by omega), if_neg (by omega)]

theorem quS_cases (n0 d0 n1 d1 n2 d2 n3 d3 n4 d4 : Int) : (∃ e, e ≠ 0 ∧ quS n0 d0 n1 d1 n2 d2 n3 d3 n4 d4 = some (0, 0, 0, 0, 0, e)) ∨
    (quS n0 d0 n1 d1 n2 d2 n3 d3 n4 d4 = some (cof n0 d0, cof n1 d1, cof n2 d2, cof n3 d3, cof n4 d4, 0) ∧ (fracE n0 d0 = 0 ∧ partB (cof n0 d0) = true) ∧ (fracE n1 d1 = 0 ∧ partB (cof n1 d1) = true) ∧ (fracE n2 d2 = 0 ∧ partB (cof n2 d2) = true) ∧ (fracE n3 d3 = 0 ∧ partB (cof n3 d3) = true) ∧ (fracE n4 d4 = 0 ∧ partB (cof n4 d4) = true)) := by
  unfold quS
  by_cases e0 : fracE n0 d0 = 0
  · rw [if_neg (fun hc => hc e0)]
    by_cases p0 : partB (cof n0 d0) = true
    · rw [if_pos p0]
      by_cases e1 : fracE n1 d1 = 0
      · rw [if_neg (fun hc => hc e1)]
        by_cases p1 : partB (cof n1 d1) = true
        · rw [if_pos p1]
          by_cases e2 : fracE n2 d2 = 0
          · rw [if_neg (fun hc => hc e2)]
            by_cases p2 : partB (cof n2 d2) = true
            · rw [if_pos p2]
              by_cases e3 : fracE n3 d3 = 0
              · rw [if_neg (fun hc => hc e3)]
                by_cases p3 : partB (cof n3 d3) = true
                · rw [if_pos p3]
                  by_cases e4 : fracE n4 d4 = 0
                  · rw [if_neg (fun hc => hc e4)]
                    by_cases p4 : partB (cof n4 d4) = true
                    · rw [if_pos p4]
                      exact .inr ⟨rfl, ⟨e0, p0⟩, ⟨e1, p1⟩, ⟨e2, p2⟩, ⟨e3, p3⟩, ⟨e4, p4⟩⟩
                    · rw [if_neg p4]; exact .inl ⟨8, by decide, rfl⟩
                  · rw [if_pos e4]; exact .inl ⟨_, e4, rfl⟩
                · rw [if_neg p3]; exact .inl ⟨8, by decide, rfl⟩
              · rw [if_pos e3]; exact .inl ⟨_, e3, rfl⟩
            · rw [if_neg p2]; exact .inl ⟨8, by decide, rfl⟩
          · rw [if_pos e2]; exact .inl ⟨_, e2, rfl⟩
        · rw [if_neg p1]; exact .inl ⟨8, by decide, rfl⟩
      · rw [if_pos e1]; exact .inl ⟨_, e1, rfl⟩
    · rw [if_neg p0]; exact .inl ⟨8, by decide, rfl⟩
  · rw [if_pos e0]; exact .inl ⟨_, e0, rfl⟩

/-- **The law.** -/
theorem filterQuantised_true (n0 d0 n1 d1 n2 d2 n3 d3 n4 d4 : Int) (h0 : inI d0) (h1 : inI d1) (h2 : inI d2) (h3 : inI d3) (h4 : inI d4) : L06_FilterQuantised n0 d0 n1 d1 n2 d2 n3 d3 n4 d4 = some true := by
  unfold L06_FilterQuantised
  rw [quantF_eq h0 h1 h2 h3 h4, quantR_eq h0 h1 h2 h3 h4]
  rcases quS_cases n0 d0 n1 d1 n2 d2 n3 d3 n4 d4 with ⟨e, he, h⟩ | ⟨h, ⟨e0, p0⟩, ⟨e1, p1⟩, ⟨e2, p2⟩, ⟨e3, p3⟩, ⟨e4, p4⟩⟩
  · rw [h, bind_some', bind_some', if_neg (by simp), if_neg (by simp), if_neg (by simpa using he)]
  · rw [h, bind_some', bind_some', if_neg (by simp), if_neg (by simp), if_pos (by simp)]
    simp only [beq_self_eq_true, if_true]
    rw [lev_h e0 p0, lev_h e1 p1, lev_h e2 p2, lev_h e3 p3, lev_h e4 p4]
end Go.Sh
