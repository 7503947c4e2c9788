/- Plain facts: Div64. -/
import Derived.Test.YtndhdojnlobloaaLD2
namespace Go.Sh
open Go Go.Proofs Go.RowKit Go.Sx Go.Sx06

def swp {Y : Type} : Option ((Int × Int) ⊕ Y) → Option ((Int × Int) ⊕ Y)
  | some (.inl z) => some (.inl (z.2, z.1))
  | some (.inr y) => some (.inr y)
  | none => none
theorem iter_swap {Y : Type} {b b' : Int × Int → Option ((Int × Int) ⊕ Y)} (h : ∀ x, b' (x.2, x.1) = swp (b x)) :
    ∀ (N : Nat) (x : Int × Int), iter b' N (x.2, x.1) = iter b N x
  | 0, _ => rfl
  | N + 1, x => by
    unfold iter
    rw [h x]
    cases e : b x with
    | none => rfl
    | some z =>
      cases z with
      | inl z => exact iter_swap h N z
      | inr y => rfl

theorem mw (x : Int) : x % 4294967296 % 18446744073709551616 = x % 4294967296 := by omega

section
variable {hi lo y s Y L U : Int}
  (hY : IntKind.wrap .u64 (y * (2 : Int) ^ min (Int.toNat (IntKind.wrap .u64 s)) (IntKind.bits .u64)) = Y)
  (hL : IntKind.wrap .u64 (lo * (2 : Int) ^ min (Int.toNat (IntKind.wrap .u64 s)) (IntKind.bits .u64)) = L)
  (hU : (↑(BitVec.toNat (BitVec.ofInt (IntKind.bits IntKind.u64) (IntKind.wrap IntKind.u64 (hi * (2 : Int) ^ min (Int.toNat (IntKind.wrap IntKind.u64 s)) (IntKind.bits IntKind.u64))) ||| BitVec.ofInt (IntKind.bits IntKind.u64) (Int.fdiv lo ((2 : Int) ^ min (Int.toNat (IntKind.wrap IntKind.u64 ((64 : Int) - IntKind.wrap IntKind.u64 s))) (IntKind.bits IntKind.u64))))) : Int) = U)
include hY hL
theorem div64_b0 : math_bits_Div64_b0 lo y s = knB (Y / 4294967296) (Y % 4294967296) (L / 4294967296) := by
  funext x
  unfold math_bits_Div64_b0 knB
  simp only [hY, hL, shr32, mask32]
  simp only [u64m, mw]
theorem div64_b1 (x : Int × Int) : math_bits_Div64_b1 lo y s (x.2, x.1) = swp (knB (Y / 4294967296) (Y % 4294967296) (L % 4294967296) x) := by
  unfold math_bits_Div64_b1 knB
  simp only [hY, hL, shr32, mask32]
  simp only [u64m, mw]
  by_cases c1 : x.1 ≥ 4294967296
  · by_cases c3 : (x.2 + Y / 4294967296) % 18446744073709551616 ≥ 4294967296
    · simp only [if_pos c1, if_pos c3, swp]
    · simp only [if_pos c1, if_neg c3, swp]
  · by_cases c2 : x.1 * (Y % 4294967296) % 18446744073709551616 > (4294967296 * x.2 % 18446744073709551616 + L % 4294967296) % 18446744073709551616
    · by_cases c3 : (x.2 + Y / 4294967296) % 18446744073709551616 ≥ 4294967296
      · simp only [if_neg c1, if_pos c2, if_pos c3, swp]
      · simp only [if_neg c1, if_pos c2, if_neg c3, swp]
    · simp only [if_neg c1, if_neg c2, swp]
include hU
theorem div64_r1 {q1 q0 : Int} : math_bits_Div64_r1 hi lo y q1 s q0 = some ((q1 * 4294967296 + q0) % 18446744073709551616, (((U * 4294967296 + L / 4294967296 - q1 * Y) * 4294967296 + L % 4294967296 - q0 * Y) % 18446744073709551616) / (2 ^ min (Int.toNat (IntKind.wrap IntKind.u64 s)) 64)) := by
  unfold math_bits_Div64_r1
  rw [if_pos (by rw [u64m]; omega)]
  simp only [hY, hL, hU, shr32, mask32]
  rw [Int.fdiv_eq_ediv_of_nonneg _ (Int.le_of_lt (Int.pow_pos (by decide)))]
  congr 2
  · simp only [u64m]
    omega
  · congr 1
    generalize IntKind.wrap .u64 s = s'
    simp only [u64m, mw]
    generalize q1 * Y = a
    generalize q0 * Y = b
    omega
theorem div64_r0 {q1 : Int} : math_bits_Div64_r0 hi lo y s q1 = 
    if Y / 4294967296 ≠ 0 then Option.bind (iter (math_bits_Div64_b1 lo y s) big (let u := (U * 4294967296 + L / 4294967296 - q1 * Y) % 18446744073709551616; ((u - Int.tdiv u (Y / 4294967296) % 18446744073709551616 * (Y / 4294967296)) % 18446744073709551616, Int.tdiv u (Y / 4294967296) % 18446744073709551616))) (math_bits_Div64_r1 hi lo y q1 s) else none := by
  unfold math_bits_Div64_r0
  simp only [hY, hL, hU, shr32, mask32]
  have e : IntKind.wrap IntKind.u64 (IntKind.wrap IntKind.u64 (IntKind.wrap IntKind.u64 (IntKind.wrap IntKind.u64 U * 4294967296) + L / 4294967296) - IntKind.wrap IntKind.u64 (q1 * Y)) = (U * 4294967296 + L / 4294967296 - q1 * Y) % 18446744073709551616 := by
    simp only [u64m]
    generalize q1 * Y = a
    omega
  rw [e]
  generalize (U * 4294967296 + L / 4294967296 - q1 * Y) % 18446744073709551616 = u
  have e2 : IntKind.wrap IntKind.u64 (u - IntKind.wrap IntKind.u64 (IntKind.wrap IntKind.u64 (Int.tdiv u (Y / 4294967296)) * (Y / 4294967296))) = (u - Int.tdiv u (Y / 4294967296) % 18446744073709551616 * (Y / 4294967296)) % 18446744073709551616 := by
    simp only [u64m]
    generalize Int.tdiv u (Y / 4294967296) % 18446744073709551616 * (Y / 4294967296) = a
    omega
  rw [e2]
  simp only [u64m]
end
end Go.Sh
