/- Plain law: greatest common divisors and lowest terms, of the program and of the references. -/
import Derived.Test.YtndhdojnlobloaaMirB
import Derived.Test.YtndhdojnlobloaaPl
namespace Go.Sh
open Go Go.Proofs Go.RowKit Go.Sx Go.Sx06

theorem gcd_step (a b : Int) : Int.gcd b (a.tmod b) = Int.gcd a b := by
  unfold Int.gcd
  rw [Int.natAbs_tmod, Nat.gcd_comm b.natAbs, ← Nat.gcd_rec, Nat.gcd_comm]

theorem tmod_abs (a b : Int) (hb : b ≠ 0) : (a.tmod b).natAbs < b.natAbs := by
  rw [Int.natAbs_tmod]
  exact Nat.mod_lt _ (by omega)

/-- The loop of the greatest common divisor. -/
def gcdB (x0 : Int × Int) : Option ((Int × Int) ⊕ Int) :=
  if (x0.2 != (0 : Int)) = true then
   if x0.2 ≠ (0 : Int) then
    some (.inl (x0.2, Int.tmod x0.1 x0.2))
   else none
  else
   some (.inr x0.1)

theorem gcd_iter : ∀ (n : Nat) (a b : Int) (N : Nat), b.natAbs ≤ n → n < N → ∃ g : Int, iter gcdB N (a, b) = some g ∧ g.natAbs = Int.gcd a b
  | _, _, _, 0, _, h => absurd h (by omega)
  | n, a, b, N + 1, hb, hN => by
    unfold iter gcdB
    by_cases h0 : b = 0
    · subst h0
      exact ⟨a, rfl, by simp [Int.gcd]⟩
    · have h1 := tmod_abs a b h0
      obtain ⟨m, rfl⟩ : ∃ m, n = m + 1 := ⟨n - 1, by omega⟩
      obtain ⟨g, hg, he⟩ := gcd_iter m b (a.tmod b) N (by omega) (by omega)
      refine ⟨g, ?_, by rw [he, gcd_step]⟩
      simp only
      rw [if_pos (by simpa using h0), if_pos h0]
      exact hg

theorem gcd_big {a b : Int} (hb : inJ b) : ∃ g : Int, iter gcdB big (a, b) = some g ∧ g.natAbs = Int.gcd a b :=
  gcd_iter b.natAbs a b big (Nat.le_refl _) (by unfold big; unfold inJ at hb; omega)

theorem gcd_le {a b : Int} (ha : inJ a) (hb : inJ b) : Int.gcd a b ≤ 9223372036854775807 := by
  unfold inJ at ha hb
  by_cases h : a = 0
  · subst h; simp [Int.gcd]; omega
  · have : Int.gcd a b ≤ a.natAbs := Nat.le_of_dvd (by omega) (Int.gcd_dvd_natAbs_left a b)
    omega

theorem divisorF_eq {a b : Int} (ha : inJ a) (hb : inJ b) : F_divisor a b = some (Int.gcd a b : Int) := by
  obtain ⟨g, h1, h2⟩ := gcd_big (a := a) hb
  have h3 := gcd_le ha hb
  unfold F_divisor
  rw [show iter F_divisor_b0 big (a, b) = some g from h1, bind_some']
  unfold F_divisor_r0
  rw [if_pos (by omega)]
  congr 1
  omega
theorem gcdR_eq {a b : Int} (ha : inJ a) (hb : inJ b) : B_Gcd a b = some (Int.gcd a b : Int) := by
  obtain ⟨g, h1, h2⟩ := gcd_big (a := a) hb
  have h3 := gcd_le ha hb
  unfold B_Gcd
  rw [show iter B_Gcd_b0 big (a, b) = some g from h1, bind_some']
  unfold B_Gcd_r0
  rw [if_pos (by omega)]
  congr 1
  omega

/-- A fraction in lowest terms. -/
def lowS (num den : Int) : Int × Int := if den < 0 then (num.tdiv (-(Int.gcd num den : Int)), den.tdiv (-(Int.gcd num den : Int))) else (num.tdiv (Int.gcd num den), den.tdiv (Int.gcd num den))

theorem tdiv_in {a : Int} {g : Int} (ha : inJ a) (hg : 0 < g) : inJ (a.tdiv g) := by
  unfold inJ at *
  have h1 := tdiv_bounds (n := a) hg
  omega

theorem low_any {num den : Int} (hn : inJ num) (hd : inJ den) (h0 : den ≠ 0) :
    (if den < (0 : Int) then
      if IntKind.wrap IntKind.i64 ((0 : Int) - (Int.gcd num den : Int)) ≠ (0 : Int) then
       if IntKind.wrap IntKind.i64 ((0 : Int) - (Int.gcd num den : Int)) ≠ (0 : Int) then
        some ((IntKind.wrap IntKind.i64 (Int.tdiv num (IntKind.wrap IntKind.i64 ((0 : Int) - (Int.gcd num den : Int)))), IntKind.wrap IntKind.i64 (Int.tdiv den (IntKind.wrap IntKind.i64 ((0 : Int) - (Int.gcd num den : Int))))))
       else none
      else none
     else
      if (Int.gcd num den : Int) ≠ (0 : Int) then
       if (Int.gcd num den : Int) ≠ (0 : Int) then
        some ((IntKind.wrap IntKind.i64 (Int.tdiv num (Int.gcd num den : Int)), IntKind.wrap IntKind.i64 (Int.tdiv den (Int.gcd num den : Int))))
       else none
      else none) = some (lowS num den) := by
  have hg := gcd_le hn hd
  have hp : 0 < Int.gcd num den := Int.gcd_pos_of_ne_zero_right _ h0
  have t1 := tdiv_in (g := (Int.gcd num den : Int)) hn (by omega)
  have t2 := tdiv_in (g := (Int.gcd num den : Int)) hd (by omega)
  unfold inJ at t1 t2
  unfold lowS
  by_cases hneg : den < 0
  · rw [if_pos hneg, if_pos hneg, wr64 (x := 0 - (Int.gcd num den : Int)) (by omega), if_pos (by omega), if_pos (by omega), Int.zero_sub, Int.tdiv_neg, Int.tdiv_neg, wr64 (by omega), wr64 (by omega)]
  · rw [if_neg hneg, if_neg hneg, if_pos (by omega), if_pos (by omega), wr64 (by omega), wr64 (by omega)]

theorem lowestF_eq {num den : Int} (hn : inJ num) (hd : inJ den) (h0 : den ≠ 0) : F_lowest num den = some (lowS num den) := by
  unfold F_lowest
  rw [divisorF_eq hn hd, bind_some']
  exact low_any hn hd h0
theorem lowestR_eq {num den : Int} (hn : inJ num) (hd : inJ den) (h0 : den ≠ 0) : B_Lowest num den = some (lowS num den) := by
  unfold B_Lowest
  rw [gcdR_eq hn hd, bind_some']
  exact low_any hn hd h0

/-- The reference turns the signs first. -/
theorem fractionR_eq {num den : Int} (hn : inJ num) (hd : inJ den) (h0 : den ≠ 0) : R06_fraction num den = some (lowS num den) := by
  unfold R06_fraction
  by_cases hneg : den < 0
  · unfold inJ at hn hd
    rw [if_pos hneg, wr64 (x := 0 - num) (by omega), wr64 (x := 0 - den) (by omega), lowestR_eq (by unfold inJ; omega) (by unfold inJ; omega) (by omega), bind_some']
    unfold lowS
    rw [if_neg (by omega), if_pos hneg]
    have e : Int.gcd (0 - num) (0 - den) = Int.gcd num den := by rw [Int.zero_sub, Int.zero_sub, Int.gcd_neg, Int.neg_gcd]
    rw [e, Int.zero_sub, Int.zero_sub, Int.neg_tdiv, Int.neg_tdiv, Int.tdiv_neg, Int.tdiv_neg]
  · rw [if_neg hneg, lowestR_eq hn hd h0, bind_some']
end Go.Sh
