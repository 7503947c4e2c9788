/- Plain facts: the quotient of two words by one. -/
import Derived.Test.YtndhdojnlobloaaLD
namespace Go.Sh
open Go Go.Proofs Go.RowKit Go.Sx Go.Sx06

def knB (y1 y0 u1 : Int) (x : Int × Int) : Option ((Int × Int) ⊕ Int) :=
  if x.1 ≥ 4294967296 then
    if (x.2 + y1) % 18446744073709551616 ≥ 4294967296 then some (.inr ((x.1 - 1) % 18446744073709551616))
    else some (.inl ((x.1 - 1) % 18446744073709551616, (x.2 + y1) % 18446744073709551616))
  else
    if (x.1 * y0) % 18446744073709551616 > ((4294967296 * x.2) % 18446744073709551616 + u1) % 18446744073709551616 then
      if (x.2 + y1) % 18446744073709551616 ≥ 4294967296 then some (.inr ((x.1 - 1) % 18446744073709551616))
      else some (.inl ((x.1 - 1) % 18446744073709551616, (x.2 + y1) % 18446744073709551616))
    else some (.inr x.1)

theorem knuth {y1 y0 u1 u Y Q : Int} (hy1 : 2147483648 ≤ y1) (hy1' : y1 < 4294967296) (hy0 : 0 ≤ y0) (hy0' : y0 < 4294967296) (hu1 : 0 ≤ u1) (hu1' : u1 < 4294967296)
    (hY : Y = y1 * 4294967296 + y0) (hu : u < Y) (hQ : Q * Y ≤ u * 4294967296 + u1) (hQ' : u * 4294967296 + u1 < (Q + 1) * Y) (hQ0 : 0 ≤ Q) :
    ∀ (k : Nat) (q r : Int) (N : Nat), q * y1 + r = u → 0 ≤ r → r < 4294967296 → Q ≤ q → q ≤ 4294967297 → 4294967295 - r < k * 2147483648 → k ≤ N → iter (knB y1 y0 u1) N (q, r) = some Q := by
  intro k
  induction k with
  | zero =>
    intro q r N _ _ h _ _ h' _
    omega
  | succ k ih =>
    intro q r N inv hr hr' hq hq' hk hN
    obtain ⟨N, rfl⟩ : ∃ M, N = M + 1 := ⟨N - 1, by omega⟩
    have hYp : 0 < Y := by omega
    have hQ32 : Q < 4294967296 := by
      refine Int.lt_of_mul_lt_mul_right (a := Y) ?_ (by omega)
      omega
    have mulY : q * Y = (u - r) * 4294967296 + q * y0 := by
      rw [hY, Int.mul_add, ← Int.mul_assoc]
      omega
    have mulY' : (q - 1) * Y = (u - (r + y1)) * 4294967296 + (q - 1) * y0 := by
      rw [hY, Int.mul_add, ← Int.mul_assoc, Int.sub_mul q 1 y1]
      omega
    -- one down
    have down : Q < q → (if (r + y1) % 18446744073709551616 ≥ 4294967296 then some (Sum.inr ((q - 1) % 18446744073709551616)) else some (.inl ((q - 1) % 18446744073709551616, (r + y1) % 18446744073709551616))) = knB y1 y0 u1 (q, r) → iter (knB y1 y0 u1) (N + 1) (q, r) = some Q := by
      intro hlt e
      unfold iter
      rw [← e]
      have e1 : (q - 1) % 18446744073709551616 = q - 1 := by omega
      have e2 : (r + y1) % 18446744073709551616 = r + y1 := by omega
      rw [e1, e2]
      by_cases c : r + y1 ≥ 4294967296
      · rw [if_pos c]
        dsimp only
        congr 1
        have h1 : (q - 1) * y0 ≤ 4294967296 * y0 := Int.mul_le_mul_of_nonneg_right (by omega) hy0
        have h2 : (q - 1) * Y < (Q + 1) * Y := by
          rw [mulY']
          omega
        have := Int.lt_of_mul_lt_mul_right h2 (by omega)
        omega
      · rw [if_neg c]
        dsimp only
        refine ih (q - 1) (r + y1) N ?_ (by omega) (by omega) (by omega) (by omega) (by omega) (by omega)
        rw [Int.sub_mul]
        omega
    by_cases c1 : q ≥ 4294967296
    · refine down (by omega) ?_
      unfold knB
      rw [if_pos c1]
    · have hb0 : 0 ≤ q * y0 := Int.mul_nonneg (by omega) hy0
      have hb1 : q * y0 ≤ 4294967296 * y0 := Int.mul_le_mul_of_nonneg_right (by omega) hy0
      have e1 : q * y0 % 18446744073709551616 = q * y0 := by omega
      have e2 : (4294967296 * r % 18446744073709551616 + u1) % 18446744073709551616 = 4294967296 * r + u1 := by omega
      by_cases c2 : q * y0 > 4294967296 * r + u1
      · refine down ?_ ?_
        · have h2 : Q * Y < q * Y := by
            rw [mulY]
            omega
          exact Int.lt_of_mul_lt_mul_right h2 (by omega)
        · unfold knB
          rw [if_neg c1]
          dsimp only
          rw [e1, e2, if_pos c2]
      · unfold iter
        unfold knB
        rw [if_neg c1]
        dsimp only
        rw [e1, e2, if_neg c2]
        dsimp only
        congr 1
        have h2 : q * Y < (Q + 1) * Y := by
          rw [mulY]
          omega
        have := Int.lt_of_mul_lt_mul_right h2 (by omega)
        omega

/-- The digit of a quotient. -/
theorem knuth_start {y1 y0 u1 u Y : Int} (hy1 : 2147483648 ≤ y1) (hy1' : y1 < 4294967296) (hy0 : 0 ≤ y0) (hy0' : y0 < 4294967296) (hu1 : 0 ≤ u1) (hu1' : u1 < 4294967296)
    (hY : Y = y1 * 4294967296 + y0) (hu0 : 0 ≤ u) (hu : u < Y) :
    iter (knB y1 y0 u1) big (u / y1, u - u / y1 * y1) = some ((u * 4294967296 + u1) / Y) := by
  have hYp : 0 < Y := by omega
  generalize hQ : (u * 4294967296 + u1) / Y = Q
  have a1 : Q * Y ≤ u * 4294967296 + u1 := by rw [← hQ]; exact Int.ediv_mul_le _ (by omega)
  have a2 : u * 4294967296 + u1 < (Q + 1) * Y := by rw [← hQ]; exact Int.lt_ediv_add_one_mul_self _ hYp
  have a3 : 0 ≤ Q := by rw [← hQ]; exact Int.ediv_nonneg (by omega) (by omega)
  have b1 : u / y1 * y1 ≤ u := Int.ediv_mul_le _ (by omega)
  have b2 : u < (u / y1 + 1) * y1 := Int.lt_ediv_add_one_mul_self _ (by omega)
  generalize u / y1 = q at *
  rw [Int.add_mul] at b2
  refine knuth hy1 hy1' hy0 hy0' hu1 hu1' hY hu a1 a2 a3 2 q (u - q * y1) big (by omega) (by omega) (by omega) ?_ ?_ (by omega) (by decide)
  · -- Q ≤ q: Q * y1 * 2^32 <= u * 2^32 + u1
    have h1 : Q * Y = Q * y1 * 4294967296 + Q * y0 := by rw [hY, Int.mul_add, ← Int.mul_assoc]
    have h2 : 0 ≤ Q * y0 := Int.mul_nonneg a3 hy0
    have h3 : Q * y1 < (q + 1) * y1 := by
      rw [Int.add_mul]
      omega
    have := Int.lt_of_mul_lt_mul_right h3 (by omega)
    omega
  · have h3 : q * y1 < 4294967298 * y1 := by omega
    have := Int.lt_of_mul_lt_mul_right h3 (by omega)
    omega
end Go.Sh
