/- Plain facts: words of 64 bits. -/
import Derived.Test.YtndhdojnlobloaaMirB
import Derived.Test.YtndhdojnlobloaaPl
namespace Go.Sh
open Go Go.Proofs Go.RowKit Go.Sx Go.Sx06

theorem u64m (n : Int) : IntKind.u64.wrap n = n % 18446744073709551616 := by
  unfold IntKind.wrap
  rfl
theorem u8m (n : Int) : IntKind.u8.wrap n = n % 256 := by
  unfold IntKind.wrap
  rfl
theorem b64 : IntKind.bits IntKind.u64 = 64 := rfl
theorem shr32 (x : Int) : Int.fdiv x ((2 : Int) ^ min (32 : Nat) (IntKind.bits IntKind.u64)) = x / 4294967296 := by
  rw [Int.fdiv_eq_ediv_of_nonneg _ (by decide)]
  rfl
theorem shr16 (x : Int) : Int.fdiv x ((2 : Int) ^ min (16 : Nat) (IntKind.bits IntKind.u64)) = x / 65536 := by
  rw [Int.fdiv_eq_ediv_of_nonneg _ (by decide)]
  rfl
theorem shr8 (x : Int) : Int.fdiv x ((2 : Int) ^ min (8 : Nat) (IntKind.bits IntKind.u64)) = x / 256 := by
  rw [Int.fdiv_eq_ediv_of_nonneg _ (by decide)]
  rfl
theorem mask32 (x : Int) : (↑(BitVec.toNat (BitVec.ofInt (IntKind.bits IntKind.u64) x &&& BitVec.ofInt (IntKind.bits IntKind.u64) (4294967295 : Int))) : Int) = x % 4294967296 := by
  rw [BitVec.toNat_and]
  have e : (BitVec.ofInt (IntKind.bits IntKind.u64) (4294967295 : Int)).toNat = 2 ^ 32 - 1 := by decide
  rw [e, Nat.and_two_pow_sub_one_eq_mod, BitVec.toNat_ofInt, b64]
  omega
theorem mul64_eq {x y : Int} (hx : 0 ≤ x) (hx' : x < 18446744073709551616) (hy : y = 1048576) :
    math_bits_Mul64 x y = some (x * y / 18446744073709551616, x * y % 18446744073709551616) := by
  subst hy
  unfold math_bits_Mul64
  simp only [shr32, mask32, u64m, Int.reduceMod, Int.reduceDiv, Int.mul_zero]
  congr 2
  omega

def tl (z : Nat) : Nat := (Array.getD (ByteArray.data tab8) z 0).toNat
theorem tab8_ok : ∀ z : Fin 256, tl z.val ≤ 8 ∧ z.val < 2 ^ tl z.val ∧ (z.val ≠ 0 → 1 ≤ tl z.val ∧ 2 ^ (tl z.val - 1) ≤ z.val) := by decide +kernel
theorem tab8_size : (↑(ByteArray.size tab8) : Int) = 256 := by decide +kernel

theorem len_end {n k : Nat} {z K : Int} (hk : k ≤ 56) (hz : z = ((n / 2 ^ k : Nat) : Int)) (h0 : n / 2 ^ k ≠ 0) (h1 : n / 2 ^ k < 256) (hK : K = k) :
    ∃ L : Nat, (if (0 : Int) ≤ z % 256 ∧ z % 256 < 256 then some (IntKind.wrap .i64 (K + IntKind.wrap .i64 (↑(UInt8.toNat (Array.getD (ByteArray.data tab8) (Int.toNat (z % 256)) 0)) : Int))) else none) = some (L : Int) ∧ 1 ≤ L ∧ L ≤ 64 ∧ 2 ^ (L - 1) ≤ n ∧ n < 2 ^ L := by
  obtain ⟨a1, a2, a3⟩ := tab8_ok ⟨n / 2 ^ k, h1⟩
  obtain ⟨a4, a5⟩ := a3 h0
  dsimp only at a1 a2 a4 a5
  generalize hq : n / 2 ^ k = q at *
  have ez : z % 256 = (q : Int) := by omega
  refine ⟨k + tl q, ?_, by omega, by omega, ?_, ?_⟩
  · rw [ez, if_pos (by omega)]
    have e1 : (Int.toNat (q : Int)) = q := rfl
    rw [e1]
    have e2 : (Array.getD (ByteArray.data tab8) q 0).toNat = tl q := rfl
    rw [e2]
    clear a2 a5 a3
    generalize tl q = l at *
    rw [wr64 (x := (l : Int)) (by omega), wr64 (by omega), hK]
    rfl
  · rw [show k + tl q - 1 = k + (tl q - 1) by omega, Nat.pow_add]
    have := Nat.div_mul_le_self n (2 ^ k)
    rw [hq] at this
    have h := Nat.mul_le_mul_left (2 ^ k) a5
    rw [Nat.mul_comm q] at this
    omega
  · rw [Nat.pow_add]
    have h2 : n < (q + 1) * 2 ^ k := by
      rw [← hq]
      have := Nat.mod_lt n (Nat.two_pow_pos k)
      have h3 := Nat.div_add_mod n (2 ^ k)
      rw [Nat.add_mul, Nat.one_mul, Nat.mul_comm (n / 2 ^ k)]
      omega
    have h := Nat.mul_le_mul_right (2 ^ k) (show q + 1 ≤ 2 ^ tl q from a2)
    rw [Nat.mul_comm (2 ^ tl q)] at h
    omega

theorem len64_eq {n : Nat} (h0 : 0 < n) (h1 : n < 2 ^ 64) : ∃ L : Nat, math_bits_Len64 (n : Int) = some (L : Int) ∧ 1 ≤ L ∧ L ≤ 64 ∧ 2 ^ (L - 1) ≤ n ∧ n < 2 ^ L := by
  unfold math_bits_Len64
  simp only [shr32, shr16, shr8, u8m, tab8_size]
  by_cases c1 : (n : Int) ≥ 4294967296
  · rw [if_pos c1]
    by_cases c2 : (n : Int) / 4294967296 ≥ 65536
    · rw [if_pos c2]
      by_cases c3 : (n : Int) / 4294967296 / 65536 ≥ 256
      · rw [if_pos c3]
        exact len_end (k := 56) (by omega) (by omega) (by omega) (by omega) (by decide)
      · rw [if_neg c3]
        exact len_end (k := 48) (by omega) (by omega) (by omega) (by omega) (by decide)
    · rw [if_neg c2]
      by_cases c3 : (n : Int) / 4294967296 ≥ 256
      · rw [if_pos c3]
        exact len_end (k := 40) (by omega) (by omega) (by omega) (by omega) (by decide)
      · rw [if_neg c3]
        exact len_end (k := 32) (by omega) (by omega) (by omega) (by omega) (by decide)
  · rw [if_neg c1]
    by_cases c2 : (n : Int) ≥ 65536
    · rw [if_pos c2]
      by_cases c3 : (n : Int) / 65536 ≥ 256
      · rw [if_pos c3]
        exact len_end (k := 24) (by omega) (by omega) (by omega) (by omega) (by decide)
      · rw [if_neg c3]
        exact len_end (k := 16) (by omega) (by omega) (by omega) (by omega) (by decide)
    · rw [if_neg c2]
      by_cases c3 : (n : Int) ≥ 256
      · rw [if_pos c3]
        exact len_end (k := 8) (by omega) (by omega) (by omega) (by omega) (by decide)
      · rw [if_neg c3]
        exact len_end (k := 0) (by omega) (by omega) (by omega) (by omega) (by decide)
theorem lz64_eq {n : Nat} (h0 : 0 < n) (h1 : n < 2 ^ 64) : ∃ s : Nat, math_bits_LeadingZeros64 (n : Int) = some (s : Int) ∧ s ≤ 63 ∧ 2 ^ 63 ≤ n * 2 ^ s ∧ n * 2 ^ s < 2 ^ 64 := by
  obtain ⟨L, e, l1, l2, l3, l4⟩ := len64_eq h0 h1
  unfold math_bits_LeadingZeros64
  rw [e, bind_some', wr64 (by omega)]
  refine ⟨64 - L, by congr 1; omega, by omega, ?_, ?_⟩
  · have := Nat.mul_le_mul_right (2 ^ (64 - L)) l3
    rw [← Nat.pow_add, show L - 1 + (64 - L) = 63 by omega] at this
    exact this
  · have := Nat.mul_lt_mul_of_pos_right l4 (Nat.two_pow_pos (64 - L))
    rw [← Nat.pow_add, show L + (64 - L) = 64 by omega] at this
    exact this
end Go.Sh
