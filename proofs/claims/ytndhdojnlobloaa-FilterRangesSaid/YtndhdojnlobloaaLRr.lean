/- Plain law: enclosures of gains. -/
import Derived.Test.YtndhdojnlobloaaLR3
namespace Go.Sh
open Go Go.Proofs Go.RowKit Go.Sx Go.Sx06

/-- The gain squared of a section. -/
def gsS (b0 b1 b2 a0 a1 p q r : Int) : Int × Int × Int :=
  if chkS b0 b1 b2 a0 a1 ≠ 0 then (0, 0, chkS b0 b1 b2 a0 a1) else if turnE p q r ≠ 0 then (0, 0, turnE p q r) else
  if sqS 16384 a0 a1 p q r = 0 then (0, 0, 11) else
  if 1000000000 < (lowS (sqS b0 b1 b2 p q r) (sqS 16384 a0 a1 p q r)).1 ∨ 1000000000 < (lowS (sqS b0 b1 b2 p q r) (sqS 16384 a0 a1 p q r)).2 then (0, 0, 8) else
  ((lowS (sqS b0 b1 b2 p q r) (sqS 16384 a0 a1 p q r)).1, (lowS (sqS b0 b1 b2 p q r) (sqS 16384 a0 a1 p q r)).2, 0)

theorem find2 {a b : Int} : Option.getD (List.find? (fun x => x != (0 : Int)) [a, b]) (0 : Int) = if a ≠ 0 then a else b := by
  by_cases ha : a = 0
  · subst ha
    by_cases hb : b = 0
    · subst hb
      rfl
    · have h1 : (b != 0) = true := by simpa using hb
      simp [List.find?, h1]
  · have h1 : (a != 0) = true := by simpa using ha
    simp [List.find?, h1, ha]

theorem gainSquareF_eq (b0 b1 b2 a0 a1 p q r : Int) : F_GainSquare b0 b1 b2 a0 a1 p q r = some (gsS b0 b1 b2 a0 a1 p q r) := by
  unfold F_GainSquare
  rw [if_pos (by simp), find2]
  by_cases hc : chkS b0 b1 b2 a0 a1 = 0
  · rw [if_neg (show ¬ chkS b0 b1 b2 a0 a1 ≠ 0 from fun h => h hc)]
    by_cases ht : turnE p q r = 0
    · rw [if_neg (by simpa using ht)]
      obtain ⟨t1, t2, t3, t4⟩ := turn_in ht
      obtain ⟨g0, g1, g2, g3, g4⟩ := part_of_chk hc
      rw [if_pos ⟨secB_chk hc, by omega, by omega, by omega, by omega⟩]
      unfold gsS
      rw [if_neg (show ¬ chkS b0 b1 b2 a0 a1 ≠ 0 from fun h => h hc), if_neg (show ¬ turnE p q r ≠ 0 from fun h => h ht)]
      obtain ⟨u1, u2⟩ := sq_in g0 g1 g2 ht
      obtain ⟨w1, w2⟩ := sq_in (a := 16384) (by decide) g3 g4 ht
      generalize sqS b0 b1 b2 p q r = n at *
      generalize sqS 16384 a0 a1 p q r = d at *
      by_cases h0 : d = 0
      · rw [if_pos (by simpa using h0), if_pos h0]
      · rw [if_neg (by simpa using h0), if_neg h0, lowestF_eq (by unfold inJ; omega) (by unfold inJ; omega) h0, bind_some']
        by_cases c1 : (lowS n d).1 > 1000000000
        · rw [if_pos c1, if_pos (.inl c1)]
        · rw [if_neg c1]
          by_cases c2 : (lowS n d).2 > 1000000000
          · rw [if_pos c2, if_pos (.inr c2)]
          · rw [if_neg c2, if_neg (by omega)]
    · rw [if_pos (by simpa using ht)]
      unfold gsS
      rw [if_neg (show ¬ chkS b0 b1 b2 a0 a1 ≠ 0 from fun h => h hc), if_pos ht]
  · rw [if_pos hc, if_pos (by simpa using hc)]
    unfold gsS
    rw [if_pos hc]

/-- What is told, when it is told. -/
theorem gs_told {b0 b1 b2 a0 a1 p q r : Int} (h : (gsS b0 b1 b2 a0 a1 p q r).2.2 = 0) :
    chkS b0 b1 b2 a0 a1 = 0 ∧ turnE p q r = 0 ∧ 0 < sqS 16384 a0 a1 p q r ∧ 0 ≤ sqS b0 b1 b2 p q r ∧
    (gsS b0 b1 b2 a0 a1 p q r).1 = (lowS (sqS b0 b1 b2 p q r) (sqS 16384 a0 a1 p q r)).1 ∧ (gsS b0 b1 b2 a0 a1 p q r).2.1 = (lowS (sqS b0 b1 b2 p q r) (sqS 16384 a0 a1 p q r)).2 ∧
    (0 ≤ (gsS b0 b1 b2 a0 a1 p q r).1 ∧ (gsS b0 b1 b2 a0 a1 p q r).1 ≤ 1000000000) ∧ (0 < (gsS b0 b1 b2 a0 a1 p q r).2.1 ∧ (gsS b0 b1 b2 a0 a1 p q r).2.1 ≤ 1000000000) := by
  unfold gsS at *
  by_cases hc : chkS b0 b1 b2 a0 a1 = 0
  · rw [if_neg (show ¬ chkS b0 b1 b2 a0 a1 ≠ 0 from fun h => h hc)] at *
    by_cases ht : turnE p q r = 0
    · rw [if_neg (fun h => h ht)] at *
      obtain ⟨g0, g1, g2, g3, g4⟩ := part_of_chk hc
      obtain ⟨u1, u2⟩ := sq_in g0 g1 g2 ht
      obtain ⟨w1, w2⟩ := sq_in (a := 16384) (by decide) g3 g4 ht
      generalize sqS b0 b1 b2 p q r = n at *
      generalize sqS 16384 a0 a1 p q r = d at *
      by_cases h0 : d = 0
      · rw [if_pos h0] at h
        cases h
      · rw [if_neg h0] at *
        obtain ⟨g, _, _, _, k1, k2⟩ := low_of u1 (show 0 < d by omega)
        by_cases c1 : 1000000000 < (lowS n d).1 ∨ 1000000000 < (lowS n d).2
        · rw [if_pos c1] at h
          cases h
        · rw [if_neg c1]
          dsimp only
          exact ⟨hc, ht, by omega, u1, rfl, rfl, by omega, by omega⟩
    · rw [if_pos ht] at h
      exact absurd h ht
  · rw [if_pos hc] at h
    exact absurd h hc

theorem ptQ_mul {n d : Int} (hd : 0 < d) : ptQ n d * d ≤ n * 1048576 := Int.ediv_mul_le _ (by omega)
theorem ptH_mul {n d : Int} (hd : 0 < d) : n * 1048576 ≤ ptH n d * d := by
  have h1 := Int.mul_ediv_add_emod (n * 1048576) d
  have h2 := Int.emod_lt_of_pos (n * 1048576) hd
  unfold ptH
  rw [Int.mul_comm] at h1
  split
  · unfold ptQ
    omega
  · rw [Int.add_mul]
    unfold ptQ
    omega
theorem cmp_le {a b n d : Int} (h : a * d ≤ n * b) : cmpS a b n d ≤ 0 := by
  unfold cmpS
  split
  · decide
  · rw [if_neg (by omega)]
    decide
theorem cmp_ge {a b n d : Int} (h : n * b ≤ a * d) : 0 ≤ cmpS a b n d := by
  unfold cmpS
  rw [if_neg (by omega)]
  split <;> decide

theorem gr_step_one {s : List Int} {p q r : Int} : (grStep p q r s (1048576, 1048576)) =
    if denS p q r s = 0 then .inr (.inl 11) else
    if ptH (numS p q r s) (denS p q r s) > 1073741824 then .inr (.inl 8) else
    .inl (ptQ (numS p q r s) (denS p q r s), ptH (numS p q r s) (denS p q r s)) := by
  unfold grStep upS
  have e1 : (1048576 * ptH (numS p q r s) (denS p q r s) + 1048575) / 1048576 = ptH (numS p q r s) (denS p q r s) := by omega
  have e2 : 1048576 * ptQ (numS p q r s) (denS p q r s) / 1048576 = ptQ (numS p q r s) (denS p q r s) := by omega
  dsimp only
  rw [e1, e2]
  by_cases c0 : denS p q r s = 0
  · rw [if_pos c0, if_pos c0]
  · rw [if_neg c0, if_neg c0]
    by_cases c1 : ptH (numS p q r s) (denS p q r s) > 1073741824
    · rw [if_pos c1, if_pos c1]
    · rw [if_neg c1, if_neg c1]

theorem gr_one {s : List Int} {p q r : Int} (h : (grS [s] p q r).2.2 = 0) : grS [s] p q r = (ptQ (numS p q r s) (denS p q r s), ptH (numS p q r s) (denS p q r s), 0) ∧ ptH (numS p q r s) (denS p q r s) ≤ 1073741824 := by
  unfold grS foldE at *
  rw [gr_step_one] at *
  by_cases c0 : denS p q r s = 0
  · rw [if_pos c0] at h
    cases h
  · rw [if_neg c0] at *
    by_cases c1 : ptH (numS p q r s) (denS p q r s) > 1073741824
    · rw [if_pos c1] at h
      cases h
    · rw [if_neg c1]
      exact ⟨rfl, by omega⟩

theorem range_encl {s : List Int} {p q r : Int} (h : (grS [s] p q r).2.2 = 0) {g : Int × Int × Int}
    (eg : gsS (s.getD 0 0) (s.getD 1 0) (s.getD 2 0) (s.getD 3 0) (s.getD 4 0) p q r = g) (hg : g.2.2 = 0) :
    ∃ x y : Int, B_Compare (grS [s] p q r).1 1048576 g.1 g.2.1 = some x ∧ x ≤ 0 ∧ B_Compare (grS [s] p q r).2.1 1048576 g.1 g.2.1 = some y ∧ 0 ≤ y := by
  subst eg
  obtain ⟨k1, k2, k3, k4, k5, k6, k7, k8⟩ := gs_told hg
  generalize gsS (s.getD 0 0) (s.getD 1 0) (s.getD 2 0) (s.getD 3 0) (s.getD 4 0) p q r = g at *
  obtain ⟨e, hh⟩ := gr_one h
  rw [e]
  have k3' : 0 < denS p q r s := k3
  have k4' : 0 ≤ numS p q r s := k4
  have l0 := ptQ_nonneg k4' k3'
  have l1 := ptH_ge (numS p q r s) (denS p q r s)
  have m1 : cmpS (ptQ (numS p q r s) (denS p q r s)) 1048576 g.1 g.2.1 ≤ 0 := by
    rw [k5, k6, cmp_low _ _ k4 k3]
    exact cmp_le (ptQ_mul k3')
  have m2 : 0 ≤ cmpS (ptH (numS p q r s) (denS p q r s)) 1048576 g.1 g.2.1 := by
    rw [k5, k6, cmp_low _ _ k4 k3]
    exact cmp_ge (ptH_mul k3')
  generalize ptQ (numS p q r s) (denS p q r s) = lo at *
  generalize ptH (numS p q r s) (denS p q r s) = hi at *
  dsimp only
  exact ⟨_, _, compare_eq (by omega) (by omega) (by decide) (by decide) k7.1 (by omega) k8.1 (by omega), m1, compare_eq (by omega) (by omega) (by decide) (by decide) k7.1 (by omega) k8.1 (by omega), m2⟩

theorem filterRanges_true {c : List (List Int)} {p q r : Int} (hl : c.length ≤ 1000000000000000) (hp : inI p) (hq : inI q) : L06_FilterRanges c p q r = some true := by
  unfold L06_FilterRanges
  rw [few_eq, bind_some']
  by_cases h8 : (c.length : Int) ≤ 8
  · rw [if_neg (by simpa using h8), copy_eq (by omega), bind_some', rangeF_eq (by omega), bind_some', checkCascade_eq (by omega), bind_some']
    by_cases hc : chkE c = 0
    · rw [if_pos (by simpa using hc), turnR_eq p q r hp hq, bind_some', if_neg (show ¬ chkE c ≠ 0 from fun h => h hc)]
      by_cases ht : turnE p q r = 0
      · rw [if_pos (by simpa using ht), rangeR_eq hc ht, bind_some', if_neg (show ¬ turnE p q r ≠ 0 from fun h => h ht)]
        rw [if_neg (by simp), if_neg (by simp)]
        by_cases he : (grS c p q r).2.2 = 0
        · rw [if_neg (by simpa using he)]
          by_cases h1 : c.length = 1
          · obtain ⟨s, rfl⟩ := List.length_eq_one_iff.1 h1
            rw [if_neg (by simp), if_pos (by simp), if_pos (by simp)]
            rw [show ([s] : List (List Int)).getD 0 [] = s from rfl, gainSquareF_eq, bind_some']
            by_cases hg : (gsS (s.getD 0 0) (s.getD 1 0) (s.getD 2 0) (s.getD 3 0) (s.getD 4 0) p q r).2.2 = 0
            · rw [if_neg (by simpa using hg)]
              obtain ⟨x, y, e1, hx, e2, hy⟩ := range_encl he rfl hg
              rw [e1, bind_some', if_pos hx, e2, bind_some', decide_eq_true hy]
            · rw [if_pos (by simpa using hg)]
          · rw [if_pos (by simp; omega)]
        · rw [if_pos (by simpa using he)]
      · rw [if_neg (by simpa using ht), if_pos (show turnE p q r ≠ 0 from ht), if_neg (by simp), if_neg (by simp), if_pos (by simpa using ht)]
    · rw [if_neg (by simpa using hc), if_neg (by simpa using hc), if_pos (show chkE c ≠ 0 from hc), if_neg (by simp), if_neg (by simp), if_pos (by simpa using hc)]
  · rw [if_pos (by simpa using h8)]
end Go.Sh
